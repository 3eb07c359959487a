/- append. -/
import Derived.LoopN
import Derived.Tactics
import Derived.Test.YtdpibcniodhinaaXBa
namespace Go.Proofs.Ytdpibcniodhinaa.Gh
open Go Go.RowKit
set_option linter.unusedVariables false
set_option linter.unusedSimpArgs false

section
variable {P : Program} {K : Kr} {t : List GV} {a : Act} {g : GV}

theorem run_grow (w : World) (T ty e : TypeId) (i : TypeInfo) (z : Value) (ht : P.underlying T = some (.slice e)) (hi : P.info? e = some i) (hz : i.zero = some z) (hsz : i.size = 1)
    (A X : Option Addr) (m c k c2 : Nat) (olds news : Array Value) (ho : (Builtin.firstCells 1 m (.slice A m c)).run P w.drew = .ok olds w.drew) (hn : (Builtin.firstCells 1 k (.slice X k c2)).run P w.drew = .ok news w.drew)
    (hg : c < m + k) (hb : (m + k) * i.bytes ≤ 140737488355328) (hb0 : 0 < i.bytes) :
    (Builtin.append_ #[T, T] ty #[.slice A m c, .slice X k c2]).run P w = .ok (.slice (some ⟨w.heap.size, 0, none⟩) (m + k) (grownCap w (m + k) c e)) (w.drew.alloc (.cells (olds ++ news ++ Builtin.zeroCells z.cells (grownCap w (m + k) c e - (m + k))) e)) := by
  have hle : m + k ≤ (m + k) * i.bytes := Nat.le_mul_of_pos_right _ hb0
  have hn' : ¬ (m + k ≤ c) := by omega
  have h63' : ¬ (9223372036854775807 < ((m : Int) + (k : Int))) := by omega
  have hfit := growslice_fits hg hb
  have h48' : ¬ (281474976710656 < Builtin.nextslicecap (m + k) c * i.bytes) := by omega
  simp [Builtin.append_, run_underlying ht, sizeOf, typeInfo, zeroValue, hi, hz, hsz, Builtin.lenOf, hn', h63', h48', Question.forced, ho, hn, newRow, grownCap]

theorem run_room (w : World) (T ty e : TypeId) (i : TypeInfo) (ht : P.underlying T = some (.slice e)) (hi : P.info? e = some i) (hsz : i.size = 1)
    (A X : Option Addr) (m c k c2 : Nat) (news : Array Value) (hn : (Builtin.firstCells 1 k (.slice X k c2)).run P w = .ok news w) (hg : m + k ≤ c) {w' : World}
    (hst : match A with | some ad => (storeCells (ad.add m) news.toList).run P w = .ok () w' | none => w' = w) :
    (Builtin.append_ #[T, T] ty #[.slice A m c, .slice X k c2]).run P w = .ok (.slice A (m + k) c) w' := by
  cases A with
  | none => subst hst; simp [Builtin.append_, run_underlying ht, sizeOf, typeInfo, hi, hsz, Builtin.lenOf, hg, hn]
  | some ad => simp [Builtin.append_, run_underlying ht, sizeOf, typeInfo, hi, hsz, Builtin.lenOf, hg, hn, hst]

theorem cat_gat (xs ys : List GV) (j : Nat) : gat (xs ++ ys) j = if j < xs.length then gat xs j else gat ys (j - xs.length) := by
  simp only [gat, List.getD_eq_getElem?_getD, List.getElem?_append]
  split <;> rfl
theorem cat_vat (xs ys : Array Value) (j : Nat) : vat (xs ++ ys) j = if j < xs.size then vat xs j else vat ys (j - xs.size) := by
  simp only [vat, Array.getD_eq_getD_getElem?, Array.getElem?_append]
  split <;> rfl

/-- a new own block named n, behind an order that was drawn or not -/
theorem fresh_block (hs : Sat K) {n lo' : Nat} (hn : K.H n = none) (hl : K.lo ≤ n) (hlo : K.lo ≤ lo') (d : Nat) (cs : List GV) (row : Array Value) (T : TypeId) (hlen : cs.length ≤ row.size) (hr : ∀ j, j < cs.length → VR K (gat cs j) (vat row j)) :
    ∃ K', K'.w = ({ K.w with drawn := d } : World).alloc (.cells row T (0, 0)) ∧ KStep K K' ∧ Sat K' ∧ K'.H = upd K.H n (some cs) ∧ K'.lo = lo' ∧ K'.σ n = K.w.heap.size ∧ K'.sz n = row.size := by
  have h1 := drew_step K d
  have h2 := drew_sat hs d
  have h3 := new_step h2 n hn hl lo' hlo cs row T
  have h4 := new_sat h2 n hn hl lo' hlo cs row T hlen (fun j hj => (hr j hj).mono h1)
  exact ⟨_, rfl, h1.trans h3, h4, rfl, rfl, updN_same _ _ _, updN_same _ _ _⟩

theorem run_append' (o : Oper) {T e : TypeId} {s x : Operand} {s' x' : GX} {bytes : Nat} (ho : o.op = .call { callee := .builtin .append, args := #[s, x], argTypes := #[T, T] }) (hs : Sat K) (ht : TR K t a.tmps) (he : elemB P T = some e) (hb : bytesB P e = some bytes) (hsz : sizeB P e = some 1) {z : Value} (hz : zeroB P e = some z) (hzc : z.cells.size = 1) (hb0 : 0 < bytes)
    (hs' : okX s s' = true) (hx : okX x x' = true) {H : Heap} (hH : ∀ b cs, H b = some cs → K.H b = some cs) {ys : List GV} (hy : gelems H (gev t x') = some ys) (hall : ys.all isCell = true)
    {b m : Nat} (g1 : gev t s' = .own b 0 m) {cs : List GV} (e1 : K.H b = some cs) (hm : cs.length = m) (hbd : (m + ys.length) * bytes ≤ 140737488355328) (hbl : b < K.lo) {n : Nat} (hn : K.H n = none) (hnl : K.lo ≤ n) :
    ∃ v K', (execOp a.eval o).run P K.w = .ok (.value v) K'.w ∧ KStep K K' ∧ Sat K' ∧ K'.H = upd (upd K.H b none) n (some (cs ++ ys)) ∧ K'.lo = n + 1 ∧ VR K' (.own n 0 (m + ys.length)) v := by
  obtain ⟨i, i1, i2⟩ := bytesB_spec hb
  obtain ⟨iz, i3, i4⟩ := zeroB_spec hz
  obtain ⟨is, i5, i6⟩ := sizeB_spec hsz
  rw [i1] at i3 i5; cases i3; cases i5
  have hu := elemB_spec he
  have hbn : b ≠ n := by omega
  have hl := hs.len b cs e1
  obtain ⟨X, k, c2, hv, hk, hkc, hcell⟩ := gelems_VR hs hH (okX_VR ht hx) hy
  subst hk
  have v1 := okX_VR ht hs'
  rw [g1] at v1
  obtain ⟨A, c, hsv, hmc, _⟩ := v1.own_inv
  have hexec : ∀ w, (execOp a.eval o).run P w = ((Builtin.append_ #[T, T] o.type #[.slice A m c, .slice X ys.length c2]).run P w).andThen fun v w' => .ok (.value v) w' := by
    intro w; simp [execOp, ho, resolve, invoke, builtin, hsv, hv]
  by_cases hroom : m + ys.length ≤ c
  · obtain ⟨arr, f1, f2, f3⟩ := run_first (P := P) (c := c2) (w := K.w) rfl hcell ys.length (Nat.le_refl _)
    rcases Nat.eq_zero_or_pos c with hc0 | hc0
    · -- nothing there, nothing to append
      subst hc0
      have hm0 : m = 0 := by omega
      have hy0 : ys = [] := List.eq_nil_of_length_eq_zero (by omega)
      subst hy0; subst hm0
      have hcs : cs = [] := List.eq_nil_of_length_eq_zero hm
      subst hcs
      have harr : arr.toList = [] := List.eq_nil_of_length_eq_zero (by rw [Array.length_toList]; simpa using f2)
      refine ⟨.slice A 0 0, _, ?_, rename_step hs e1 hbl hn hnl, rename_sat hs e1 hbl hn hnl, rfl, rfl, .own0 _ _ _ (.inr (Nat.lt_succ_self n))⟩
      rw [hexec, run_room (P := P) K.w T o.type e i hu i1 i6 A X 0 0 ([] : List GV).length c2 arr f1 (Nat.le_refl _) (w' := K.w) (by cases A <;> simp [harr, storeCells])]
      rfl
    · -- room: the spare cells are written
      have hA : A = some ⟨K.σ b, 0, none⟩ ∧ c ≤ K.sz b := by
        rw [hsv] at v1
        cases v1 with
        | own _ _ _ _ q1 q2 q3 => exact ⟨rfl, by omega⟩
        | own0 _ _ _ _ => omega
        | owns _ _ _ B _ q1 q2 q3 => rw [e1] at q1; cases q1
      obtain ⟨rfl, hcz⟩ := hA
      have hone : ∀ u ∈ arr.toList, u.oneCell' = true := by
        intro u hu'
        obtain ⟨j, hj, rfl⟩ := List.getElem_of_mem hu'
        have hj2 : j < arr.size := by simpa using hj
        have hj' : j < ys.length := by omega
        have hc1 : isCell (gat ys j) = true := List.all_eq_true.1 hall (gat ys j) (by simp [gat, List.getD_eq_getElem?_getD, hj'])
        have := isCell_one (f3 j hj') hc1
        simpa [vat, Array.getD, hj2] using this
      have hal : arr.toList.length = ys.length := by rw [Array.length_toList, f2]
      have hr := run_stores (P := P) hs e1 m arr.toList (by omega) hone
      obtain ⟨w1, w2⟩ := write_cells hs e1 (by omega) m arr.toList (cs ++ ys) (by omega) (by simp; omega) (fun j hj => by
        simp only [List.length_append] at hj
        rw [cat_gat]
        by_cases hc : m ≤ j ∧ j < m + arr.toList.length
        · rw [if_pos hc, if_neg (by omega)]
          have := f3 (j - m) (by omega)
          rw [hm]
          simpa [vat, Array.getD_eq_getD_getElem?, List.getD_eq_getElem?_getD] using this
        · rw [if_neg hc, if_pos (by omega)]; exact ⟨by omega, rfl⟩)
      have e2 : (upd K.H b (some (cs ++ ys))) b = some (cs ++ ys) := upd_same _ _ _
      have hn2 : (upd K.H b (some (cs ++ ys))) n = none := by rw [upd_ne _ _ (Ne.symm hbn)]; exact hn
      have w3 := rename_step w2 e2 hbl hn2 hnl
      have w4 := rename_sat w2 e2 hbl hn2 hnl
      have hHeq : upd (upd (upd K.H b (some (cs ++ ys))) b none) n (some (cs ++ ys)) = upd (upd K.H b none) n (some (cs ++ ys)) := by
        funext y
        by_cases hy : y = n
        · subst hy; rw [upd_same, upd_same]
        · rw [upd_ne _ _ hy, upd_ne _ _ hy]
          by_cases hyb : y = b
          · subst hyb; rw [upd_same, upd_same]
          · rw [upd_ne _ _ hyb, upd_ne _ _ hyb, upd_ne _ _ hyb]
      refine ⟨.slice (some ⟨K.σ b, 0, none⟩) (m + ys.length) c, _, ?_, w1.trans w3, w4, hHeq, rfl, ?_⟩
      · rw [hexec, run_room (P := P) K.w T o.type e i hu i1 i6 _ X m c ys.length c2 arr f1 hroom (w' := K.w.setCells (K.σ b) m arr.toList) (by show (storeCells ((⟨K.σ b, 0, none⟩ : Addr).add m) arr.toList).run P K.w = _; rw [add_plain, Nat.zero_add]; exact hr)]
        rfl
      · have hne : (upd (upd (upd K.H b (some (cs ++ ys))) b none) n (some (cs ++ ys))) n ≠ none := by rw [upd_same]; simp
        have := VR.own (K := { K with H := upd (upd (upd K.H b (some (cs ++ ys))) b none) n (some (cs ++ ys)), w := K.w.setCells (K.σ b) m arr.toList, σ := updN K.σ n (K.σ b), sz := updN K.sz n (K.sz b), lo := n + 1 }) n 0 (m + ys.length) c hne (by show 0 + c ≤ updN K.sz n (K.sz b) n; rw [updN_same]; omega) hroom
        simp only [updN_same] at this
        exact this
  · -- no room: a new block
    have hcell' := hcell
    obtain ⟨arr, f1, f2, f3⟩ := run_first (P := P) (c := c2) (w := K.w.drew) (A := X) (K := K) rfl (fun h => by
      obtain ⟨B, q, h1, us, h2, h3⟩ := hcell h
      exact ⟨B, q, h1, us, fun j hj => by rw [World.cell?_drew]; exact h2 j hj, h3⟩) ys.length (Nat.le_refl _)
    have hself : gelems (fun x => if x = b then some cs else none) (.own b 0 m) = some cs := by
      simp [gelems, hm]; rw [← hm]; simp
    obtain ⟨A', m', c', q1, q2, q3, q4⟩ := gelems_VR hs (fun x c h => by
      by_cases hx : x = b
      · subst hx; simp at h; subst h; exact e1
      · simp [hx] at h) v1 hself
    rw [hsv] at q1; cases q1
    obtain ⟨arr0, p1, p2, p3⟩ := run_first (P := P) (c := c) (w := K.w.drew) (A := A) (K := K) q2 (fun h => by
      obtain ⟨B, q, h1, us, h2, h3⟩ := q4 h
      exact ⟨B, q, h1, us, fun j hj => by rw [World.cell?_drew]; exact h2 j hj, h3⟩) m (Nat.le_refl _)
    have hrun := run_grow (P := P) K.w T o.type e i z hu i1 i4 i6 A X m c ys.length c2 arr0 arr p1 f1 (by omega) (by rw [i2]; exact hbd) (by omega)
    have hge := grownCap_ge K.w (m + ys.length) c e
    obtain ⟨K', k1, k2, k3, k4, k5, k6, k7⟩ := fresh_block hs hn hnl (lo' := n + 1) (by omega) (K.w.drawn + 1) (cs ++ ys) (arr0 ++ arr ++ Builtin.zeroCells z.cells (grownCap K.w (m + ys.length) c e - (m + ys.length))) e (by simp only [List.length_append, Array.size_append]; omega) (fun j hj => by
      simp only [List.length_append] at hj
      rw [cat_gat, cat_vat, cat_vat]
      by_cases hjm : j < cs.length
      · rw [if_pos hjm, if_pos (by simp only [Array.size_append]; omega), if_pos (by omega)]; exact p3 j (by omega)
      · rw [if_neg hjm, if_pos (by simp only [Array.size_append]; omega), if_neg (by omega)]
        have := f3 (j - cs.length) (by omega)
        rw [p2, ← hm]; exact this)
    have hkill := kill_step K' (fun x => x == b) (fun x hx _ => by simp at hx; omega)
    have hkill2 := kill_sat k3 (fun x => x == b) (fun x hx _ => by simp at hx; omega)
    have hHeq : (fun x => if (x == b) = true then none else K'.H x) = upd (upd K.H b none) n (some (cs ++ ys)) := by
      funext y
      rw [k4]
      by_cases hyb : y = b
      · subst hyb; rw [if_pos (by simp), upd_ne _ _ hbn, upd_same]
      · rw [if_neg (by simpa using hyb)]
        by_cases hy : y = n
        · subst hy; rw [upd_same, upd_same]
        · rw [upd_ne _ _ hy, upd_ne _ _ hy, upd_ne _ _ hyb]
    refine ⟨.slice (some ⟨K.w.heap.size, 0, none⟩) (m + ys.length) (grownCap K.w (m + ys.length) c e), _, ?_, k2.trans hkill, hkill2, hHeq, k5, ?_⟩
    · rw [hexec, hrun]
      show _ = Result.ok _ K'.w
      rw [k1]; rfl
    · have hne : (fun x => if (x == b) = true then none else K'.H x) n ≠ none := by
        rw [hHeq, upd_same]; simp
      have hz1 : grownCap K.w (m + ys.length) c e ≤ K'.sz n := by
        rw [k7]; simp only [Array.size_append, size_zeroCells, hzc, p2, f2]; omega
      · have := VR.own (K := { K' with H := fun x => if (x == b) = true then none else K'.H x }) n 0 (m + ys.length) (grownCap K.w (m + ys.length) c e) hne (by show 0 + _ ≤ K'.sz n; omega) hge
        rw [show ({ K' with H := fun x => if (x == b) = true then none else K'.H x } : Kr).σ n = K.w.heap.size from k6] at this
        exact this

theorem empty_name (hs : Sat K) {n lo' : Nat} (hn : K.H n = none) (hl : K.lo ≤ n) (hlo : K.lo ≤ lo') :
    KStep K { K with H := upd K.H n (some []), sz := updN K.sz n 0, lo := lo' } ∧ Sat { K with H := upd K.H n (some []), sz := updN K.sz n 0, lo := lo' } := by
  have hst : KStep K { K with H := upd K.H n (some []), sz := updN K.sz n 0, lo := lo' } := {
    os := rfl
    tape := rfl
    output := rfl
    size := Nat.le_refl _
    S := fun _ h => h
    keep := fun _ _ => rfl
    lo := hlo
    live := fun x h1 h2 => ⟨rfl, updN_ne _ _ (fun e' => h1 (e' ▸ hn))⟩
    dies := fun x h1 h2 => by
      have hx : x ≠ n := fun e' => h1 (e' ▸ hn)
      simp only [upd_ne _ _ hx] at h2; exact absurd h2 h1
    dead := fun x h1 h2 => by
      have hx : x ≠ n := by omega
      simp only [upd_ne _ _ hx]; exact h2 }
  have key : ∀ x c, upd K.H n (some []) x = some c → (x = n ∧ c = []) ∨ (x ≠ n ∧ K.H x = some c) := by
    intro x c ex
    by_cases hx : x = n
    · subst hx; rw [upd_same] at ex; exact .inl ⟨rfl, by simpa using ex.symm⟩
    · rw [upd_ne _ _ hx] at ex; exact .inr ⟨hx, ex⟩
  refine ⟨hst, ?_, ?_, ?_, hs.sS⟩
  · intro x c ex
    rcases key x c ex with ⟨rfl, rfl⟩ | ⟨hx, ex⟩
    · simp
    · simp only [updN_ne _ _ hx]; exact hs.len x c ex
  · intro x c ex hz
    rcases key x c ex with ⟨rfl, rfl⟩ | ⟨hx, ex⟩
    · simp only [updN_same] at hz; omega
    · simp only [updN_ne _ _ hx] at hz ⊢
      obtain ⟨row, T, q1, q2, q3, q4⟩ := hs.blk x c ex hz
      exact ⟨row, T, q1, q2, fun j hj => (q3 j hj).mono hst, q4⟩
  · intro x y h1 h2 hz1 hz2 he
    obtain ⟨c1, h1⟩ := Option.ne_none_iff_exists'.1 h1
    obtain ⟨c2, h2⟩ := Option.ne_none_iff_exists'.1 h2
    rcases key x c1 h1 with ⟨rfl, rfl⟩ | ⟨hx, ex⟩
    · simp only [updN_same] at hz1; omega
    · rcases key y c2 h2 with ⟨rfl, rfl⟩ | ⟨hy, ey⟩
      · simp only [updN_same] at hz2; omega
      · simp only [updN_ne _ _ hx, updN_ne _ _ hy] at hz1 hz2
        exact hs.inj x y (by rw [ex]; simp) (by rw [ey]; simp) hz1 hz2 he

/-- a slice whose capacity is its length -/
def exact? : GV → Option (List GV)
  | .nil => some []
  | .emp => some []
  | .lit cs => some cs
  | _ => none
theorem exact_VR {v : Value} (hv : VR K g v) {cs : List GV} (e : exact? g = some cs) : ∃ A, v = .slice A cs.length cs.length := by
  cases g <;> simp only [exact?, Option.some.injEq] at e
  case nil => subst e; exact ⟨_, hv.nil_inv⟩
  case emp => subst e; obtain ⟨ad, h⟩ := hv.emp_inv; exact ⟨_, h⟩
  case lit cs' => subst e; obtain ⟨ad, h⟩ := hv.lit_inv; exact ⟨_, h⟩
  all_goals cases e
theorem exact_elems {H : Heap} {cs : List GV} (e : exact? g = some cs) : gelems H g = some cs := by
  cases g <;> simp_all [exact?, gelems]

/-- append to a slice whose capacity is its length: the run, where something is appended -/
theorem run_append_exact (o : Oper) {T e : TypeId} {s x : Operand} {s' x' : GX} {bytes : Nat} (ho : o.op = .call { callee := .builtin .append, args := #[s, x], argTypes := #[T, T] }) (hs : Sat K) (ht : TR K t a.tmps) (he : elemB P T = some e) (hb : bytesB P e = some bytes) (hsz : sizeB P e = some 1) {z : Value} (hz : zeroB P e = some z) (hzc : z.cells.size = 1) (hb0 : 0 < bytes)
    (hs' : okX s s' = true) (hx : okX x x' = true) {H : Heap} (hH : ∀ b cs, H b = some cs → K.H b = some cs) {ys : List GV} (hy : gelems H (gev t x') = some ys) {cs : List GV} (hc : exact? (gev t s') = some cs) (hbd : (cs.length + ys.length) * bytes ≤ 140737488355328) :
    (ys = [] → (execOp a.eval o).run P K.w = .ok (.value (a.eval s)) K.w) ∧
    (ys ≠ [] → ∃ (row : Array Value) (c : Nat), cs.length + ys.length ≤ c ∧ row.size = c ∧ (∀ j, j < (cs ++ ys).length → VR K (gat (cs ++ ys) j) (vat row j)) ∧
      (execOp a.eval o).run P K.w = .ok (.value (.slice (some ⟨K.w.heap.size, 0, none⟩) (cs.length + ys.length) c)) (({ K.w with drawn := K.w.drawn + 1 } : World).alloc (.cells row e (0, 0)))) := by
  obtain ⟨i, i1, i2⟩ := bytesB_spec hb
  obtain ⟨iz, i3, i4⟩ := zeroB_spec hz
  obtain ⟨is, i5, i6⟩ := sizeB_spec hsz
  rw [i1] at i3 i5; cases i3; cases i5
  have hu := elemB_spec he
  obtain ⟨X, k, c2, hv, hk, hkc, hcell⟩ := gelems_VR hs hH (okX_VR ht hx) hy
  subst hk
  have v1 := okX_VR ht hs'
  obtain ⟨A, hsv⟩ := exact_VR v1 hc
  have hexec : ∀ w, (execOp a.eval o).run P w = ((Builtin.append_ #[T, T] o.type #[.slice A cs.length cs.length, .slice X ys.length c2]).run P w).andThen fun v w' => .ok (.value v) w' := by
    intro w; simp [execOp, ho, resolve, invoke, builtin, hsv, hv]
  constructor
  · intro hy0
    subst hy0
    obtain ⟨arr, f1, f2, f3⟩ := run_first (P := P) (c := c2) (w := K.w) (K := K) rfl hcell ([] : List GV).length (Nat.le_refl _)
    have harr : arr.toList = [] := List.eq_nil_of_length_eq_zero (by rw [Array.length_toList]; simpa using f2)
    rw [hexec, run_room (P := P) K.w T o.type e i hu i1 i6 A X cs.length cs.length ([] : List GV).length c2 arr f1 (Nat.le_refl _) (w' := K.w) (by cases A <;> simp [harr, storeCells])]
    rw [hsv]; rfl
  · intro hy0
    have hpos : 0 < ys.length := List.length_pos_iff.2 hy0
    obtain ⟨arr, f1, f2, f3⟩ := run_first (P := P) (c := c2) (w := K.w.drew) (A := X) (K := K) rfl (fun h => by
      obtain ⟨B, q, h1, us, h2, h3⟩ := hcell h
      exact ⟨B, q, h1, us, fun j hj => by rw [World.cell?_drew]; exact h2 j hj, h3⟩) ys.length (Nat.le_refl _)
    obtain ⟨A', m', c', q1, q2, q3, q4⟩ := gelems_VR hs (H := K.H) (fun _ _ h => h) v1 (exact_elems hc)
    rw [hsv] at q1; cases q1
    obtain ⟨arr0, p1, p2, p3⟩ := run_first (P := P) (c := cs.length) (w := K.w.drew) (A := A) (K := K) q2 (fun h => by
      obtain ⟨B, q, h1, us, h2, h3⟩ := q4 h
      exact ⟨B, q, h1, us, fun j hj => by rw [World.cell?_drew]; exact h2 j hj, h3⟩) cs.length (Nat.le_refl _)
    have hrun := run_grow (P := P) K.w T o.type e i z hu i1 i4 i6 A X cs.length cs.length ys.length c2 arr0 arr p1 f1 (by omega) (by rw [i2]; exact hbd) (by omega)
    have hge := grownCap_ge K.w (cs.length + ys.length) cs.length e
    refine ⟨_, grownCap K.w (cs.length + ys.length) cs.length e, hge, ?_, fun j hj => ?_, by rw [hexec, hrun]; rfl⟩
    · simp only [Array.size_append, size_zeroCells, hzc, p2, f2]; omega
    · simp only [List.length_append] at hj
      rw [cat_gat, cat_vat, cat_vat]
      by_cases hjm : j < cs.length
      · rw [if_pos hjm, if_pos (by simp only [Array.size_append]; omega), if_pos (by omega)]; exact p3 j (by omega)
      · rw [if_neg hjm, if_pos (by simp only [Array.size_append]; omega), if_neg (by omega)]
        have := f3 (j - cs.length) (by omega)
        rw [p2]; exact this
end
end Go.Proofs.Ytdpibcniodhinaa.Gh
/- Every operation that leaves memory alone, by its form. -/
namespace Go.Proofs.Ytdpibcniodhinaa.Gh
open Go Go.RowKit
set_option linter.unusedVariables false
set_option linter.unusedSimpArgs false

theorem arr1 {α : Type} {xs : Array α} {x : α} (h : xs.toList = [x]) : xs = #[x] := Array.toList_inj.1 h
theorem arr2 {α : Type} {xs : Array α} {x y : α} (h : xs.toList = [x, y]) : xs = #[x, y] := Array.toList_inj.1 h
theorem arr0 {α : Type} {xs : Array α} (h : xs.toList = []) : xs = #[] := Array.toList_inj.1 h

section
variable {P : Program} {K : Kr} {t : List GV} {a : Act} {g : GV}

theorem pure_builtin {o : Oper} {go : GOp} {b : Builtin} {args : Array Operand} {ts : Array TypeId} (hop : o.op = .call { callee := .builtin b, args := args, argTypes := ts }) (hok : okBuiltin P b args.toList ts.toList go = true) (ht : TR K t a.tmps) (hg : gpure t go = some g) : Pur P o a K g := by
  generalize ha : args.toList = al at hok
  generalize htt : ts.toList = tl at hok
  cases b <;> simp only [okBuiltin] at hok
  case len =>
    split at hok
    · rename_i x T x'
      rw [arr1 ha, arr1 htt] at hop
      simp only [Bool.and_eq_true] at hok
      obtain ⟨e, he⟩ := Option.isSome_iff_exists.1 hok.1
      exact pur_len o hop ht he hok.2 hg
    · cases hok
  case max =>
    split at hok
    · rw [arr2 ha] at hop
      simp only [Bool.and_eq_true] at hok
      exact pur_max o hop ht hok.1 hok.2 hg
    · cases hok
  case min =>
    split at hok
    · rw [arr2 ha] at hop
      simp only [Bool.and_eq_true] at hok
      exact pur_min o hop ht hok.1 hok.2 hg
    · cases hok
  case append =>
    split at hok
    · cases hg
    · cases hg
    · cases hok
  case copy =>
    split at hok
    · cases hg
    · cases hok
  all_goals cases hok

theorem pure_sound {o : Oper} {go : GOp} (hok : okOp P o.op go = true) (ht : TR K t a.tmps) (hg : gpure t go = some g) : Pur P o a K g := by
  cases hop : o.op <;> rw [hop] at hok <;> simp only [okOp] at hok
  case move x =>
    split at hok
    · exact pur_mov o (.inl hop) ht hok hg
    · cases hok
  case assign x =>
    split at hok
    · exact pur_mov o (.inr hop) ht hok hg
    · cases hok
  case pick c x y =>
    split at hok
    · simp only [Bool.and_eq_true] at hok
      exact pur_pick o hop ht hok.1.1 hok.1.2 hok.2 hg
    · cases hok
  case binOp op T x y T' =>
    unfold okBin at hok
    split at hok
    · simp only [Bool.and_eq_true, beq_iff_eq, Bool.not_eq_true', beq_eq_false_iff_ne] at hok
      obtain ⟨⟨⟨⟨rfl, h1⟩, h2⟩, h3⟩, h4⟩ := hok
      exact pur_bin o hop ht h1 h2 h3 h4 hg
    · rename_i neg x'
      simp only [Bool.and_eq_true] at hok
      obtain ⟨⟨⟨h1, h2⟩, h3⟩, h4⟩ := hok
      obtain ⟨e, he⟩ := Option.isSome_iff_exists.1 h3
      split at h4
      · refine pur_isnil o (neg := neg) (T := T) (T' := T') (x := x) ?_ ht he h2 hg
        rw [hop]
        cases neg <;> simp at h1 ⊢ <;> exact h1
      · cases h4
    · cases hok
  case unOp op T x =>
    split at hok
    · simp only [Bool.and_eq_true, beq_iff_eq] at hok
      obtain ⟨rfl, h⟩ := hok
      exact pur_un o hop ht h hg
    · cases hok
  case field T x f =>
    unfold okField at hok
    split at hok
    · split at hok
      · rename_i fd hf
        simp only [Bool.and_eq_true, beq_iff_eq] at hok
        exact pur_field o hop ht hf hok.1.1 hok.1.2 hok.2 hg
      · cases hok
    · cases hok
  case fieldAddr T x f =>
    unfold okFieldAddr at hok
    split at hok
    · split at hok
      · rename_i fd hf
        simp only [Bool.and_eq_true, beq_iff_eq] at hok
        obtain ⟨⟨h1, h2⟩, h3⟩ := hok
        split at h2
        · rename_i s hs
          exact pur_fieldAddr o hop ht hf h1 hs (by simpa using h2) h3 hg
        · cases h2
      · cases hok
    · cases hok
  case indexAddr T x i =>
    unfold okIndexAddr at hok
    split at hok
    · split at hok
      · rename_i e he
        simp only [Bool.and_eq_true, beq_iff_eq] at hok
        exact pur_indexAddr o hop ht he hok.1.1 hok.1.2 hok.2 hg
      · cases hok
    · split at hok
      · rename_i m e he
        simp only [Bool.and_eq_true, beq_iff_eq] at hok
        obtain ⟨⟨⟨rfl, h1⟩, h2⟩, h3⟩ := hok
        exact pur_arrAddr o hop ht he h1 h2 h3 hg
      · cases hok
    · cases hok
  case nilCheck x =>
    split at hok
    · exact pur_nilCheck o hop ht hok hg
    · cases hok
  case extract x i =>
    split at hok
    · simp only [Bool.and_eq_true, beq_iff_eq] at hok
      obtain ⟨rfl, h⟩ := hok
      exact pur_extract o hop ht h hg
    · cases hok
  case call c =>
    obtain ⟨callee, args, ts⟩ := c
    simp only [okCall] at hok
    split at hok
    · exact pure_builtin hop hok ht hg
    · split at hok
      · cases hg
      · cases hok
    · split at hok
      · cases hg
      · cases hok
    · cases hok
  case convert src dst x =>
    unfold okConv at hok
    split at hok
    · split at hok
      · rename_i k0 k' h0 h1
        simp only [Bool.and_eq_true, beq_iff_eq] at hok
        obtain ⟨rfl, h⟩ := hok
        exact pur_conv o hop ht h0 h1 h hg
      · cases hok
    · cases hok
  case makeFunc fn first caps =>
    generalize hfi : first.toList = fl at hok
    unfold okMkfn at hok
    split at hok
    · rw [arr0 hfi] at hop
      simp only [Bool.and_eq_true, beq_iff_eq] at hok
      obtain ⟨rfl, h⟩ := hok
      exact pur_mkfn o hop ht h hg
    · cases hok
  case slice T x lo hi mx =>
    unfold okSlice at hok
    split at hok
    · split at hok
      · rename_i e he
        simp only [Bool.and_eq_true, beq_iff_eq] at hok
        obtain ⟨⟨⟨⟨⟨h1, h2⟩, h3⟩, h4⟩, h5⟩, h6⟩ := hok
        exact pur_slice o hop ht he h1 h2 h3 h4 h5 h6 hg
      · cases hok
    · cases hok
  case build T parts =>
    unfold okBuild at hok
    split at hok
    · split at hok
      · rename_i fs z hu hz
        simp only [Bool.and_eq_true] at hok
        exact pur_build o hop ht hu hz hok.1.1 hok.1.2 hok.2 hg
      · cases hok
    · cases hok
  case load T x =>
    split at hok
    · cases hg
    · cases hok
  case store T x v =>
    split at hok
    · cases hg
    · cases hok
  case box T v =>
    split at hok
    · cases hg
    · cases hok
  case alloc T =>
    split at hok
    · cases hg
    · cases hok
  case buildSlice T n parts =>
    unfold okBslice at hok
    split at hok
    · cases hok
    · split at hok
      · cases hg
      · cases hg
      · cases hg
      · cases hok
  case makeSlice T l c =>
    unfold okMslice at hok
    split at hok
    · cases hok
    · split at hok
      · split at hok
        · cases hg
        · cases hg
        · cases hok
      · cases hok
  all_goals cases hok
end
end Go.Proofs.Ytdpibcniodhinaa.Gh
/- What each operation leaves, in one form. -/
namespace Go.Proofs.Ytdpibcniodhinaa.Gh
open Go Go.RowKit
set_option linter.unusedVariables false
set_option linter.unusedSimpArgs false

section
variable {P : Program} {K : Kr} {t : List GV} {a : Act} {g : GV}

/-- the operation yields what g stands for; the own blocks are then as H' says -/
def Out (P : Program) (o : Oper) (a : Act) (K : Kr) (g : GV) (H' : Heap) (lo' : Nat) : Prop :=
  ∃ v K', (execOp a.eval o).run P K.w = .ok (.value v) K'.w ∧ KStep K K' ∧ Sat K' ∧ K'.H = H' ∧ K'.lo = lo' ∧ VR K' g v

theorem out_pure {o : Oper} (hs : Sat K) (h : Pur P o a K g) : Out P o a K g K.H K.lo := by
  obtain ⟨v, h1, h2⟩ := h
  exact ⟨v, K, h1 _, KStep.refl K, hs, rfl, rfl, h2⟩
theorem out_read {o : Oper} (hs : Sat K) {v : Value} (h1 : (execOp a.eval o).run P K.w = .ok (.value v) K.w) (h2 : VR K g v) : Out P o a K g K.H K.lo :=
  ⟨v, K, h1, KStep.refl K, hs, rfl, rfl, h2⟩
/-- an operation that makes an own block -/
theorem out_make {o : Oper} (hs : Sat K) {n lo' : Nat} (hn : K.H n = none) (hl : K.lo ≤ n) (hlo : K.lo ≤ lo') {cs : List GV} {row : Array Value} {T : TypeId} {d : Nat} {v : Value} (hlen : cs.length ≤ row.size) (hr : ∀ j, j < cs.length → VR K (gat cs j) (vat row j))
    (hrun : (execOp a.eval o).run P K.w = .ok (.value v) (({ K.w with drawn := d } : World).alloc (.cells row T (0, 0)))) (hv : ∀ K' : Kr, K'.H n = some cs → K'.σ n = K.w.heap.size → K'.sz n = row.size → VR K' g v) :
    Out P o a K g (upd K.H n (some cs)) lo' := by
  obtain ⟨K', k1, k2, k3, k4, k5, k6, k7⟩ := fresh_block hs hn hl hlo d cs row T hlen hr
  exact ⟨v, K', by rw [hrun, k1], k2, k3, k4, k5, hv K' (by rw [k4, upd_same]) k6 k7⟩
/-- an operation that makes a block that is only read -/
theorem out_makep {o : Oper} (hs : Sat K) {row : Array Value} {T : TypeId} {d : Nat} {v : Value} (hrun : (execOp a.eval o).run P K.w = .ok (.value v) (({ K.w with drawn := d } : World).alloc (.cells row T (0, 0))))
    (hv : ∀ K' : Kr, KStep K K' → K'.S K.w.heap.size → (∀ j, j < row.size → K'.w.cell? ⟨K.w.heap.size, 0 + j, none⟩ = some (vat row j)) → VR K' g v) : Out P o a K g K.H K.lo := by
  have h1 := drew_step K d
  have h2 := drew_sat hs d
  have h3 := newp_step h2 (.cells row T (0, 0))
  have h4 := newp_sat h2 (.cells row T (0, 0))
  exact ⟨v, _, hrun, h1.trans h3, h4, rfl, rfl, hv _ (h1.trans h3) (.inr rfl) fun j hj => newp_cells (K := { K with w := { K.w with drawn := d } }) row T hj⟩

theorem drawn_self (w : World) : ({ w with drawn := w.drawn } : World) = w := rfl

theorem out_box {o : Oper} {T : TypeId} {x : Operand} {x' : GX} (ho : o.op = .box T x) (hs : Sat K) (ht : TR K t a.tmps) (hx : okX x x' = true) {vs : List GV} (hc : gcells (gev t x') = some vs) {n lo' : Nat} (hn : K.H n = none) (hl : K.lo ≤ n) (hlo : K.lo ≤ lo') : Out P o a K (.ptr n 0) (upd K.H n (some vs)) lo' := by
  obtain ⟨row, T', h1, h2, h3⟩ := run_box (P := P) o ho ht hx hc
  exact out_make hs hn hl hlo (d := K.w.drawn) h1 h2 h3 fun K' e1 e2 _ => by rw [← e2]; exact .ptr n 0 (by rw [e1]; simp)
theorem out_alloc {o : Oper} {T : TypeId} {cs : List GV} (ho : o.op = .alloc T) (hs : Sat K) {z : Value} (hz : zeroB P T = some z) (hc : sameCs z.cells cs = true) {n lo' : Nat} (hn : K.H n = none) (hl : K.lo ≤ n) (hlo : K.lo ≤ lo') : Out P o a K (.ptr n 0) (upd K.H n (some cs)) lo' := by
  obtain ⟨row, T', h1, h2, h3⟩ := run_alloc (P := P) (K := K) (a := a) o ho hz hc
  exact out_make hs hn hl hlo (d := K.w.drawn) h1 h2 h3 fun K' e1 e2 _ => by rw [← e2]; exact .ptr n 0 (by rw [e1]; simp)
theorem out_bslice {o : Oper} {T e : TypeId} {m : Nat} {parts : Array (Nat × Operand)} {cells : List GV} {parts' : List (Nat × Nat × GX)} (ho : o.op = .buildSlice T m parts) (hs : Sat K) (ht : TR K t a.tmps) (he : elemB P T = some e) (hok : okBslice P T m parts.toList (.bslice m cells parts') = true) {cs : List GV} (hf : gfill t cells parts' = some cs) {n lo' : Nat} (hn : K.H n = none) (hl : K.lo ≤ n) (hlo : K.lo ≤ lo') :
    Out P o a K (.own n 0 m) (upd K.H n (some cs)) lo' := by
  simp only [okBslice, he] at hok
  split at hok
  · rename_i s z h1 h2
    simp only [Bool.and_eq_true, Bool.not_eq_true', beq_eq_false_iff_ne, decide_eq_false_iff_not] at hok
    obtain ⟨⟨⟨⟨_, c1⟩, c2⟩, c3⟩, c4⟩ := hok
    obtain ⟨row, r1, r2, r3, r4⟩ := run_bslice (P := P) (K := K) o ho ht he h1 h2 c1 c2 c3 c4 hf
    have hs1 : 1 ≤ s := Nat.pos_of_ne_zero fun e' => by subst e'; exact c2 (Nat.mul_zero m)
    have hle : m ≤ m * s := Nat.le_mul_of_pos_right _ hs1
    exact out_make hs hn hl hlo (d := K.w.drawn) (by omega) r3 (r4 _) fun K' e1 e2 e3 => by rw [← e2]; exact .own n 0 m m (by rw [e1]; simp) (by omega) (Nat.le_refl _)
  · cases hok
theorem out_blit {o : Oper} {T e : TypeId} {m : Nat} {parts : Array (Nat × Operand)} {cells : List GV} {parts' : List (Nat × Nat × GX)} (ho : o.op = .buildSlice T m parts) (hs : Sat K) (ht : TR K t a.tmps) (he : elemB P T = some e) (hok : okBslice P T m parts.toList (.blit cells parts') = true) {cs : List GV} (hf : gfill t cells parts' = some cs) :
    Out P o a K (.lit cs) K.H K.lo := by
  simp only [okBslice, he] at hok
  split at hok
  · rename_i s z h1 h2
    simp only [Bool.and_eq_true, Bool.not_eq_true', beq_eq_false_iff_ne, decide_eq_false_iff_not, beq_iff_eq] at hok
    obtain ⟨⟨⟨⟨hs1, c1⟩, c2⟩, c3⟩, c4⟩ := hok
    subst hs1
    obtain ⟨row, r1, r2, r3, r4⟩ := run_bslice (P := P) (K := K) o ho ht he h1 h2 (by omega) (by omega) (by rw [Nat.mul_one]; exact c3) c4 hf
    have hm : m = cs.length := by omega
    subst hm
    exact out_makep hs (d := K.w.drawn) (r4 _) fun K' k1 k2 k3 => .lit _ 0 cs (fun j => vat row j) k2 (fun j hj => k3 j (by omega)) fun j hj => (r3 j hj).mono k1
  · cases hok
theorem out_empty {o : Oper} {T e : TypeId} {m : Nat} {parts : Array (Nat × Operand)} (ho : o.op = .buildSlice T m parts) (hs : Sat K) (he : elemB P T = some e) (hok : okBslice P T m parts.toList .empty = true) : Out P o a K .emp K.H K.lo := by
  simp only [okBslice, he, Bool.and_eq_true, beq_iff_eq, List.isEmpty_iff] at hok
  obtain ⟨⟨rfl, h1⟩, h2⟩ := hok
  obtain ⟨s, hsz⟩ := Option.isSome_iff_exists.1 h2
  have hu := elemB_spec he
  have hp := arr0 h1
  subst hp
  refine out_makep hs (row := #[]) (T := e) (d := K.w.drawn) (v := .slice (some ⟨K.w.heap.size, 0, none⟩) 0 0) ?_ fun K' _ _ _ => .emp _
  simp only [execOp, ho, Instr.buildSlice]
  simp [run_underlying' _ hu, run_sizeOf' _ hsz, Instr.fill, newRow]
  have e0 : Array.range 0 = #[] := Array.range_zero'
  rw [e0, Array.map_empty]
theorem out_mslice {o : Oper} {T e : TypeId} {l c : Operand} {l' c' : GX} {bytes : Nat} {z : GV} (ho : o.op = .makeSlice T l c) (hs : Sat K) (ht : TR K t a.tmps) (he : elemB P T = some e) (hok : okMslice P T l c (.mslice z bytes l' c') = true) {i : Int} (e1 : gev t l' = .int .i64 i) (e2 : gev t c' = .int .i64 i) (h0 : 0 ≤ i) (hbd : i * bytes ≤ 281474976710656) (hb0 : 0 < bytes) {n lo' : Nat} (hn : K.H n = none) (hl : K.lo ≤ n) (hlo : K.lo ≤ lo') :
    Out P o a K (.own n 0 i.toNat) (upd K.H n (some (List.replicate i.toNat z))) lo' := by
  simp only [okMslice, he] at hok
  split at hok
  · rename_i b zv h1 h2
    simp only [Bool.and_eq_true, beq_iff_eq] at hok
    obtain ⟨⟨⟨⟨rfl, c1⟩, c2⟩, c3⟩, c4⟩ := hok
    obtain ⟨row, r1, r2, r3⟩ := run_mslice (P := P) (K := K) o ho ht he h1 h2 c1 c2 c3 c4 e1 e2 h0 hbd hb0
    exact out_make hs hn hl hlo (d := K.w.drawn) (by simp; omega) (fun j hj => by
      have hj' : j < i.toNat := by simpa using hj
      rw [rep_gat _ _ _ hj']; exact r2 j hj') (r3 _) fun K' e1 e2 e3 => by rw [← e2]; exact .own n 0 _ _ (by rw [e1]; simp) (by omega) (Nat.le_refl _)
  · cases hok
theorem out_mslicep {o : Oper} {T e : TypeId} {l c : Operand} {l' c' : GX} {bytes : Nat} {z : GV} (ho : o.op = .makeSlice T l c) (hs : Sat K) (ht : TR K t a.tmps) (he : elemB P T = some e) (hok : okMslice P T l c (.mslicep z bytes l' c') = true) {i : Int} (e1 : gev t l' = .int .i64 i) (e2 : gev t c' = .int .i64 i) (h0 : 0 ≤ i) (hbd : i * bytes ≤ 281474976710656) (hb0 : 0 < bytes) :
    Out P o a K (.sl i.toNat (List.replicate i.toNat z)) K.H K.lo := by
  simp only [okMslice, he] at hok
  split at hok
  · rename_i b zv h1 h2
    simp only [Bool.and_eq_true, beq_iff_eq] at hok
    obtain ⟨⟨⟨⟨rfl, c1⟩, c2⟩, c3⟩, c4⟩ := hok
    obtain ⟨row, r1, r2, r3⟩ := run_mslice (P := P) (K := K) o ho ht he h1 h2 c1 c2 c3 c4 e1 e2 h0 hbd hb0
    exact out_makep hs (d := K.w.drawn) (r3 _) fun K' k1 k2 k3 => .sl _ _ _ 0 _ (fun j => vat row j) (Nat.le_refl _) k2 (fun j hj => k3 j (by simp at hj; omega)) fun j hj => by
      have hj' : j < i.toNat := by simpa using hj
      rw [rep_gat _ _ _ hj']; exact (r2 j hj').mono k1
  · cases hok

/-- what okBuiltin says of an append -/
theorem ok_append {ts : Array TypeId} {args : Array Operand} {bytes : Nat} {s' x' : GX} (h : okBuiltin P .append args.toList ts.toList (.append bytes s' x') = true ∨ okBuiltin P .append args.toList ts.toList (.appendp bytes s' x') = true) :
    ∃ s x T e z, args = #[s, x] ∧ ts = #[T, T] ∧ elemB P T = some e ∧ bytesB P e = some bytes ∧ 0 < bytes ∧ sizeB P e = some 1 ∧ zeroB P e = some z ∧ z.cells.size = 1 ∧ okX s s' = true ∧ okX x x' = true := by
  have key : ∀ (s x : Operand) (T T' e : TypeId), args.toList = [s, x] → ts.toList = [T, T'] → elemB P T = some e → (T == T' && bytesB P e == some bytes && !(bytes == 0) && sizeB P e == some 1 && (zeroB P e).any (·.cells.size == 1) && okX s s' && okX x x') = true →
      ∃ s x T e z, args = #[s, x] ∧ ts = #[T, T] ∧ elemB P T = some e ∧ bytesB P e = some bytes ∧ 0 < bytes ∧ sizeB P e = some 1 ∧ zeroB P e = some z ∧ z.cells.size = 1 ∧ okX s s' = true ∧ okX x x' = true := by
    intro s x T T' e h1 h2 h3 h4
    simp only [Bool.and_eq_true, beq_iff_eq, Bool.not_eq_true', beq_eq_false_iff_ne, Option.any_eq_true] at h4
    obtain ⟨⟨⟨⟨⟨⟨rfl, c2⟩, c3⟩, c4⟩, ⟨z, c5, c6⟩⟩, c7⟩, c8⟩ := h4
    exact ⟨s, x, T, e, z, arr2 h1, arr2 h2, h3, c2, Nat.pos_of_ne_zero c3, c4, c5, c6, c7, c8⟩
  generalize ha : args.toList = al at h key
  generalize htt : ts.toList = tl at h key
  rcases h with h | h
  · simp only [okBuiltin] at h
    split at h
    · rename_i s x T T' b s2 x2 heq
      injection heq with q1 q2 q3
      subst q1 q2 q3
      split at h
      · exact key s x T T' _ rfl rfl (by assumption) h
      · cases h
    · rename_i heq; cases heq
    · cases h
  · simp only [okBuiltin] at h
    split at h
    · rename_i heq; cases heq
    · rename_i s x T T' b s2 x2 heq
      injection heq with q1 q2 q3
      subst q1 q2 q3
      split at h
      · exact key s x T T' _ rfl rfl (by assumption) h
      · cases h
    · cases h

theorem out_append_exact {o : Oper} {T e : TypeId} {s x : Operand} {s' x' : GX} {bytes : Nat} (ho : o.op = .call { callee := .builtin .append, args := #[s, x], argTypes := #[T, T] }) (hs : Sat K) (ht : TR K t a.tmps) (he : elemB P T = some e) (hb : bytesB P e = some bytes) (hsz : sizeB P e = some 1) {z : Value} (hz : zeroB P e = some z) (hzc : z.cells.size = 1) (hb0 : 0 < bytes)
    (hs' : okX s s' = true) (hx : okX x x' = true) {H : Heap} (hH : ∀ b cs, H b = some cs → K.H b = some cs) {ys : List GV} (hy : gelems H (gev t x') = some ys) {cs : List GV} (hc : exact? (gev t s') = some cs) (hcy : cs = [] ∨ ys ≠ []) (hbd : (cs.length + ys.length) * bytes ≤ 140737488355328) {n lo' : Nat} (hn : K.H n = none) (hl : K.lo ≤ n) (hlo : K.lo ≤ lo') :
    Out P o a K (.own n 0 (cs.length + ys.length)) (upd K.H n (some (cs ++ ys))) lo' := by
  obtain ⟨r1, r2⟩ := run_append_exact (P := P) o ho hs ht he hb hsz hz hzc hb0 hs' hx hH hy hc hbd
  by_cases hy0 : ys = []
  · have hc0 : cs = [] := hcy.resolve_right fun h => h hy0
    subst hy0; subst hc0
    obtain ⟨A, hA⟩ := exact_VR (okX_VR ht hs') hc
    obtain ⟨e1, e2⟩ := empty_name hs hn hl hlo
    exact ⟨_, { K with H := upd K.H n (some []), sz := updN K.sz n 0, lo := lo' }, r1 rfl, e1, e2, rfl, rfl, by rw [hA]; exact .own0 _ _ _ (.inl (by show upd K.H n (some []) n ≠ none; rw [upd_same]; simp))⟩
  · obtain ⟨row, c, q1, q2, q3, q4⟩ := r2 hy0
    exact out_make hs hn hl hlo (by simp only [List.length_append]; omega) q3 q4 fun K' e1 e2 e3 => by rw [← e2]; exact .own n 0 _ c (by rw [e1]; simp) (by omega) q1
theorem out_appendp {o : Oper} {T e : TypeId} {s x : Operand} {s' x' : GX} {bytes : Nat} (ho : o.op = .call { callee := .builtin .append, args := #[s, x], argTypes := #[T, T] }) (hs : Sat K) (ht : TR K t a.tmps) (he : elemB P T = some e) (hb : bytesB P e = some bytes) (hsz : sizeB P e = some 1) {z : Value} (hz : zeroB P e = some z) (hzc : z.cells.size = 1) (hb0 : 0 < bytes)
    (hs' : okX s s' = true) (hx : okX x x' = true) {H : Heap} (hH : ∀ b cs, H b = some cs → K.H b = some cs) {ys : List GV} (hy : gelems H (gev t x') = some ys) {cs : List GV} (hc : exact? (gev t s') = some cs) (hbd : (cs.length + ys.length) * bytes ≤ 140737488355328) :
    Out P o a K (.sl (cs.length + ys.length) (cs ++ ys)) K.H K.lo := by
  obtain ⟨r1, r2⟩ := run_append_exact (P := P) o ho hs ht he hb hsz hz hzc hb0 hs' hx hH hy hc hbd
  by_cases hy0 : ys = []
  · subst hy0
    refine out_read hs (r1 rfl) ?_
    simp only [List.length_nil, Nat.add_zero, List.append_nil]
    have hv := okX_VR ht hs'
    generalize gev t s' = gs at hc hv
    generalize a.eval s = vv at hv
    cases gs <;> simp only [exact?, Option.some.injEq] at hc
    case nil => subst hc; rw [hv.nil_inv]; exact .sl0 _ _ _ (Nat.le_refl _)
    case emp => subst hc; obtain ⟨ad, h⟩ := hv.emp_inv; rw [h]; exact .sl0 _ _ _ (Nat.le_refl _)
    case lit cs' =>
      subst hc
      cases hv with
      | lit B p _ us h1 h2 h3 => exact .sl _ _ B p _ us (Nat.le_refl _) h1 h2 h3
    all_goals cases hc
  · obtain ⟨row, c, q1, q2, q3, q4⟩ := r2 hy0
    exact out_makep hs q4 fun K' k1 k2 k3 => .sl _ c _ 0 _ (fun j => vat row j) q1 k2 (fun j hj => k3 j (by simp only [List.length_append] at hj; omega)) fun j hj => (q3 j hj).mono k1
end
end Go.Proofs.Ytdpibcniodhinaa.Gh
/- Operations one behind the other do what the ghost operations say. -/
namespace Go.Proofs.Ytdpibcniodhinaa.Gh
open Go Go.RowKit
set_option linter.unusedVariables false
set_option linter.unusedSimpArgs false

theorem Fr.upd {H : Heap} {n : Nat} (h : Fr H n) (b : Nat) (c : Option (List GV)) {n' : Nat} (hb : b < n') (hn : n ≤ n') : Fr (upd H b c) n' := fun x hx => by
  rw [upd_ne _ _ (by omega)]; exact h x (by omega)

section
variable {P : Program} {K : Kr} {t : List GV} {a : Act} {next : Act → World → Prop} {Q : Exit → Act → World → Prop}

theorem Out.wp {o : Oper} {g : GV} {H' : Heap} {lo' : Nat} (h : Out P o a K g H' lo') (hnext : ∀ v K', KStep K K' → Sat K' → K'.H = H' → K'.lo = lo' → VR K' g v → next (a.put o.dst v) K'.w) : o.wp P a K.w next Q := by
  obtain ⟨v, K', h1, h2, h3, h4, h5, h6⟩ := h
  simp only [Oper.wp, h1, Oper.upon]
  exact hnext v K' h2 h3 h4 h5 h6

/-- a call of a Go function, by its contract -/
theorem call_wp {o : Oper} {f : FuncId} {vs : Array Value} {g : GV} {gs : List GV} {H' : Heap} {n' : Nat} (hrun : (execOp a.eval o).run P K.w = .ok (.enter f vs) K.w) (hs : Sat K) (hF : Fr K.H K.lo) (hv : VRs K gs vs) (hsp : Spec P f gs K.H K.lo g H' n')
    (hnext : ∀ v K', KStep K K' → Sat K' → Fr K'.H K'.lo → K'.H = H' → K'.lo = n' → VR K' g v → next (a.put o.dst v) K'.w) : o.wp P a K.w next Q := by
  simp only [Oper.wp, hrun, Oper.upon]
  refine (hsp K vs rfl rfl hF hs hv).mono ?_
  rintro e w' ⟨v, K', rfl, rfl, k1, k2, k3, k4, k5, k6⟩
  exact hnext v K' k1 k5 (by rw [k2, k3]; exact k4) k2 k3 k6
theorem run_call {o : Oper} {f : FuncId} {args : Array Operand} {ts : Array TypeId} (ho : o.op = .call { callee := .value (.func f), args := args, argTypes := ts }) (hf : okFn P f = true) (w : World) :
    (execOp a.eval o).run P w = .ok (.enter f (args.map a.eval)) w := by
  unfold okFn at hf
  split at hf
  · rename_i fn hfn
    simp only [Bool.and_eq_true, Bool.not_eq_true', beq_eq_false_iff_ne] at hf
    have h1 : fn.body.isNone = false := by cases h : fn.body <;> simp_all
    have hev : a.eval (.func f) = .func (.func f) #[] #[] := rfl
    simp [execOp, ho, resolve, Deferred.ofValue, hev, invoke, callFunc, hfn, hf.2]
    intro hb; rw [hb] at h1; cases h1
  · cases hf
theorem run_callv {o : Oper} {f : FuncId} {x : Operand} {us : Array Value} {args : Array Operand} {ts : Array TypeId} (ho : o.op = .call { callee := .value x, args := args, argTypes := ts }) (hx : a.eval x = .func (.func f) #[] us) (hf : okFn P f = true) (w : World) :
    (execOp a.eval o).run P w = .ok (.enter f (args.map a.eval ++ us)) w := by
  unfold okFn at hf
  split at hf
  · rename_i fn hfn
    simp only [Bool.and_eq_true, Bool.not_eq_true', beq_eq_false_iff_ne] at hf
    have h1 : fn.body.isNone = false := by cases h : fn.body <;> simp_all
    simp [execOp, ho, resolve, Deferred.ofValue, hx, invoke, callFunc, hfn, hf.2]
    intro hb; rw [hb] at h1; cases h1
  · cases hf
theorem VRs.app {gs hs : List GV} {us vs : Array Value} (h1 : VRs K gs us) (h2 : VRs K hs vs) : VRs K (gs ++ hs) (us ++ vs) := by
  refine ⟨by simp [h1.1, h2.1], fun j hj => ?_⟩
  simp only [List.length_append] at hj
  rw [cat_gat, cat_vat]
  by_cases hjl : j < gs.length
  · rw [if_pos hjl, if_pos (by rw [h1.1]; exact hjl)]; exact h1.2 j hjl
  · rw [if_neg hjl, if_neg (by rw [h1.1]; exact hjl), h1.1]; exact h2.2 _ (by omega)

theorem map_arr {α β : Type} (f : α → β) (xs : Array α) : (xs.toList.map f).toArray = xs.map f := by apply Array.ext'; simp
theorem gread_ptr {H : Heap} {b o : Nat} {cs : List GV} (h : H b = some cs) : gread H (.ptr b o) = some (cs, o) := by simp [gread, h]

set_option maxHeartbeats 1000000 in
theorem gop_sound {o : Oper} {go : GOp} (hok : okOp P o.op go = true) (hs : Sat K) (hF : Fr K.H K.lo) (ht : TR K t a.tmps) {k : GV → Heap → Nat → Prop} (hk : gop P t K.H K.lo k go)
    (hnext : ∀ g v K', k g K'.H K'.lo → KStep K K' → Fr K'.H K'.lo → Sat K' → VR K' g v → next (a.put o.dst v) K'.w) : o.wp P a K.w next Q := by
  have pur : ∀ (h : (match gpure t go with | some g => k g K.H K.lo | none => False)), o.wp P a K.w next Q := by
    intro h
    split at h
    · rename_i g hg
      exact (out_pure hs (pure_sound hok ht hg)).wp fun v K' h1 h2 h3 h4 h5 => hnext g v K' (by rw [h3, h4]; exact h) h1 (by rw [h3, h4]; exact hF) h2 h5
    · exact h.elim
  have done : ∀ {g : GV} {H' : Heap} {lo' : Nat}, Out P o a K g H' lo' → k g H' lo' → Fr H' lo' → o.wp P a K.w next Q := by
    intro g H' lo' h1 h2 h3
    exact h1.wp fun v K' q1 q2 q3 q4 q5 => hnext g v K' (by rw [q3, q4]; exact h2) q1 (by rw [q3, q4]; exact h3) q2 q5
  have hn : K.H K.lo = none := hF _ (Nat.le_refl _)
  have blt : ∀ b cs, K.H b = some cs → b < K.lo := fun b cs e => by
    rcases Nat.lt_or_ge b K.lo with h | h
    · exact h
    · rw [hF b h] at e; cases e
  cases hop : o.op with
  | load T x =>
    rw [hop] at hok; simp only [okOp] at hok
    split at hok
    · rename_i n x'
      simp only [Bool.and_eq_true, beq_iff_eq, Bool.not_eq_true', beq_eq_false_iff_ne] at hok
      obtain ⟨hok, hm0⟩ := hok
      cases n with
      | none =>
        simp only [gop] at hk
        split at hk
        · rename_i b p g1
          split at hk
          · rename_i cs hb
            obtain ⟨v, r1, r2⟩ := run_load1 (P := P) o hop hs ht hok.1 hok.2 (H := K.H) (fun _ _ h => h) (by rw [g1]; exact gread_ptr hb) hk.1
            exact done (out_read hs r1 r2) hk.2 hF
          · exact hk.elim
        · rename_i cs p g1
          obtain ⟨v, r1, r2⟩ := run_load1 (P := P) o hop hs ht hok.1 hok.2 (H := K.H) (fun _ _ h => h) (by rw [g1]; rfl) hk.1
          exact done (out_read hs r1 r2) hk.2 hF
        · exact hk.elim
      | some m =>
        have hm : 0 < m := Nat.pos_of_ne_zero fun e => hm0 (by rw [e])
        simp only [gop] at hk
        split at hk
        · rename_i b p g1
          split at hk
          · rename_i cs hb
            obtain ⟨v, r1, r2⟩ := run_loadm (P := P) o hop hs ht hok.1 hok.2 (H := K.H) (fun _ _ h => h) (by rw [g1]; exact gread_ptr hb) hk.1 hm
            exact done (out_read hs r1 r2) hk.2 hF
          · exact hk.elim
        · rename_i cs p g1
          obtain ⟨v, r1, r2⟩ := run_loadm (P := P) o hop hs ht hok.1 hok.2 (H := K.H) (fun _ _ h => h) (by rw [g1]; rfl) hk.1 hm
          exact done (out_read hs r1 r2) hk.2 hF
        · exact hk.elim
    · cases hok
  | store T x v =>
    rw [hop] at hok; simp only [okOp] at hok
    split at hok
    · rename_i n x' v'
      simp only [Bool.and_eq_true, beq_iff_eq] at hok
      simp only [gop] at hk
      split at hk
      · rename_i b p vs g1 hc
        split at hk
        · rename_i cs hb
          obtain ⟨c1, c2, c3, c4⟩ := hk
          obtain ⟨K', r1, r2, r3, r4, r5⟩ := run_store' (P := P) o hop hs ht hok.1.1 hok.1.2 hok.2 g1 hb hc c1 c2 c3
          simp only [Oper.wp, r1, Oper.upon]
          exact hnext .undef Go.undef K' (by rw [r4, r5]; exact c4) r2 (by rw [r4, r5]; exact hF.upd b _ (blt b cs hb) (Nat.le_refl _)) r3 (.undef _)
        · exact hk.elim
      · exact hk.elim
    · cases hok
  | box T x =>
    rw [hop] at hok; simp only [okOp] at hok
    split at hok
    · simp only [gop] at hk
      split at hk
      · rename_i vs hc
        exact done (out_box hop hs ht hok hc hn (Nat.le_refl _) (Nat.le_succ _)) hk (hF.upd _ _ (Nat.lt_succ_self _) (Nat.le_succ _))
      · exact hk.elim
    · cases hok
  | alloc T =>
    rw [hop] at hok; simp only [okOp] at hok
    split at hok
    · split at hok
      · rename_i z hz
        simp only [gop] at hk
        exact done (out_alloc hop hs hz hok hn (Nat.le_refl _) (Nat.le_succ _)) hk (hF.upd _ _ (Nat.lt_succ_self _) (Nat.le_succ _))
      · cases hok
    · cases hok
  | buildSlice T n parts =>
    rw [hop] at hok; simp only [okOp] at hok
    cases he : elemB P T with
    | none => simp only [okBslice, he] at hok; cases hok
    | some e =>
      cases go with
      | bslice m cells parts' =>
        have hnm : n = m := by
          simp only [okBslice, he] at hok
          split at hok
          · simp only [Bool.and_eq_true, beq_iff_eq] at hok; exact hok.1.1.1.1
          · cases hok
        subst hnm
        simp only [gop] at hk
        split at hk
        · rename_i cs hf
          exact done (out_bslice hop hs ht he hok hf hn (Nat.le_refl _) (Nat.le_succ _)) hk.2 (hF.upd _ _ (Nat.lt_succ_self _) (Nat.le_succ _))
        · exact hk.elim
      | blit cells parts' =>
        simp only [gop] at hk
        split at hk
        · rename_i cs hf
          exact done (out_blit hop hs ht he hok hf) hk hF
        · exact hk.elim
      | empty => simp only [gop] at hk; exact done (out_empty hop hs he hok) hk hF
      | _ => simp only [okBslice, he] at hok; cases hok
  | makeSlice T l c =>
    rw [hop] at hok; simp only [okOp] at hok
    cases he : elemB P T with
    | none => simp only [okMslice, he] at hok; cases hok
    | some e =>
      cases go with
      | mslice z bytes l' c' =>
        simp only [gop] at hk
        split at hk
        · rename_i i j g1 g2
          obtain ⟨c1, rfl, c3, c4, c5⟩ := hk
          exact done (out_mslice hop hs ht he hok g1 g2 c1 c3 c4 hn (Nat.le_refl _) (Nat.le_succ _)) c5 (hF.upd _ _ (Nat.lt_succ_self _) (Nat.le_succ _))
        · exact hk.elim
      | mslicep z bytes l' c' =>
        simp only [gop] at hk
        split at hk
        · rename_i i j g1 g2
          obtain ⟨c1, rfl, c3, c4, c5⟩ := hk
          exact done (out_mslicep hop hs ht he hok g1 g2 c1 c3 c4) c5 hF
        · exact hk.elim
      | _ =>
        simp only [okMslice, he] at hok
        split at hok <;> cases hok
  | call c =>
    obtain ⟨callee, args, ts⟩ := c
    have hok0 := hok
    rw [hop] at hok; simp only [okOp, okCall] at hok
    split at hok
    · rename_i b
      -- a builtin
      cases b
      case append =>
        cases go with
        | append bytes s' x' =>
          obtain ⟨s, x, T, e, z, rfl, rfl, he, hb, hb0, hsz, hz, hzc, hs', hx⟩ := ok_append (.inl hok)
          simp only [gop] at hk
          split at hk
          · exact hk.elim
          · rename_i ys hy
            split at hk
            · rename_i g1
              exact done (out_append_exact hop hs ht he hb hsz hz hzc hb0 hs' hx (fun _ _ h => h) hy (cs := []) (by rw [g1]; rfl) (.inl rfl) (by simpa using hk.1) hn (Nat.le_refl _) (Nat.le_succ _)) (by simpa using hk.2) (hF.upd _ _ (Nat.lt_succ_self _) (Nat.le_succ _))
            · rename_i g1
              exact done (out_append_exact hop hs ht he hb hsz hz hzc hb0 hs' hx (fun _ _ h => h) hy (cs := []) (by rw [g1]; rfl) (.inl rfl) (by simpa using hk.1) hn (Nat.le_refl _) (Nat.le_succ _)) (by simpa using hk.2) (hF.upd _ _ (Nat.lt_succ_self _) (Nat.le_succ _))
            · rename_i cs g1
              exact done (out_append_exact hop hs ht he hb hsz hz hzc hb0 hs' hx (fun _ _ h => h) hy (cs := cs) (by rw [g1]; rfl) (.inr hk.1) hk.2.1 hn (Nat.le_refl _) (Nat.le_succ _)) hk.2.2 (hF.upd _ _ (Nat.lt_succ_self _) (Nat.le_succ _))
            · rename_i b m g1
              split at hk
              · rename_i cs hb1
                obtain ⟨c1, c2, c3, c4⟩ := hk
                have hbl := blt b cs hb1
                obtain ⟨v, K', r1, r2, r3, r4, r5, r6⟩ := run_append' (P := P) o hop hs ht he hb hsz hz hzc hb0 hs' hx (fun _ _ h => h) hy c2 g1 hb1 c1 c3 hbl hn (Nat.le_refl _)
                exact done ⟨v, K', r1, r2, r3, r4, r5, r6⟩ c4 ((hF.upd b none hbl (Nat.le_refl _)).upd _ _ (Nat.lt_succ_self _) (Nat.le_succ _))
              · exact hk.elim
            · exact hk.elim
        | appendp bytes s' x' =>
          obtain ⟨s, x, T, e, z, rfl, rfl, he, hb, hb0, hsz, hz, hzc, hs', hx⟩ := ok_append (.inr hok)
          simp only [gop] at hk
          split at hk
          · rename_i cs ys hc hy
            split at hk
            · rename_i g1
              have := out_appendp hop hs ht he hb hsz hz hzc hb0 hs' hx (H := K.H) (fun _ _ h => h) hy (cs := []) (by rw [g1]; rfl) (by simpa using hk.1)
              exact done this (by simpa using hk.2) hF
            · rename_i g1
              have := out_appendp hop hs ht he hb hsz hz hzc hb0 hs' hx (H := K.H) (fun _ _ h => h) hy (cs := []) (by rw [g1]; rfl) (by simpa using hk.1)
              exact done this (by simpa using hk.2) hF
            · rename_i cs' g1
              have hcs : cs' = cs := by rw [g1] at hc; simpa [gelems] using hc
              subst hcs
              exact done (out_appendp hop hs ht he hb hsz hz hzc hb0 hs' hx (H := K.H) (fun _ _ h => h) hy (cs := cs') (by rw [g1]; rfl) hk.1) hk.2 hF
            · exact hk.elim
          · exact hk.elim
        | _ => simp only [okBuiltin] at hok; split at hok <;> simp_all
      case copy =>
        cases go with
        | copy d' s' =>
          generalize ha : args.toList = al at hok
          generalize htt : ts.toList = tl at hok
          simp only [okBuiltin] at hok
          split at hok
          · rename_i d s T T' d2 s2 heq
            injection heq with q1 q2
            subst q1 q2
            rw [arr2 ha, arr2 htt] at hop
            split at hok
            · rename_i e he
              simp only [Bool.and_eq_true, beq_iff_eq] at hok
              simp only [gop] at hk
              split at hk
              · rename_i b p m ys g1 hy
                split at hk
                · rename_i cs hb
                  obtain ⟨c1, c2, c3⟩ := hk
                  obtain ⟨K', r1, r2, r3, r4, r5⟩ := run_copy' (P := P) o hop hs ht he hok.1.1 hok.1.2 hok.2 g1 hb c1 hy c2
                  exact done ⟨_, K', r1, r2, r3, r4, r5, .int _ _⟩ c3 (hF.upd b _ (blt b cs hb) (Nat.le_refl _))
                · exact hk.elim
              · exact hk.elim
            · cases hok
          · cases hok
        | _ => simp only [okBuiltin] at hok; split at hok <;> simp_all
      case len =>
        cases go <;> first | exact pur hk | (simp only [okBuiltin] at hok; split at hok <;> simp_all)
      case max =>
        cases go <;> first | exact pur hk | (simp only [okBuiltin] at hok; split at hok <;> simp_all)
      case min =>
        cases go <;> first | exact pur hk | (simp only [okBuiltin] at hok; split at hok <;> simp_all)
      all_goals (simp only [okBuiltin] at hok; cases hok)
    · rename_i f
      split at hok
      · rename_i f' args'
        simp only [Bool.and_eq_true, beq_iff_eq] at hok
        obtain ⟨⟨rfl, h1⟩, h2⟩ := hok
        simp only [gop] at hk
        obtain ⟨g, H', n', hsp, hk⟩ := hk
        refine call_wp (run_call hop h2 _) hs hF (by rw [← map_arr]; exact okXs_VR ht h1) hsp fun v K' q1 q2 q3 q4 q5 q6 => hnext g v K' (by rw [q4, q5]; exact hk) q1 q3 q2 q6
      · cases hok
    · rename_i x
      split at hok
      · rename_i x' args'
        simp only [Bool.and_eq_true] at hok
        simp only [gop] at hk
        split at hk
        · rename_i f caps g1
          obtain ⟨g, H', n', hf, hsp, hk⟩ := hk
          have hx := okX_VR ht hok.1
          rw [g1] at hx
          obtain ⟨us, hv, hsz, hr⟩ := hx.fn_inv
          refine call_wp (run_callv hop hv hf _) hs hF ?_ hsp fun v K' q1 q2 q3 q4 q5 q6 => hnext g v K' (by rw [q4, q5]; exact hk) q1 q3 q2 q6
          have := okXs_VR ht hok.2
          exact VRs.app (by rw [← map_arr]; exact this) ⟨hsz, hr⟩
        · exact hk.elim
      · cases hok
    · cases hok
  | _ =>
    have hok1 := hok
    rw [hop] at hok1
    cases go <;> first
      | exact pur hk
      | (simp only [okOp, okBin, okField, okFieldAddr, okIndexAddr, okConv, okSlice, okBuild] at hok1; cases hok1)
      | (simp only [okOp, okMkfn] at hok1; split at hok1 <;> simp_all)
end
end Go.Proofs.Ytdpibcniodhinaa.Gh
/- The operations of a region whose order is open: each by itself, whenever its turn comes. -/
namespace Go.Proofs.Ytdpibcniodhinaa.Gh
open Go Go.RowKit
set_option linter.unusedVariables false
set_option linter.unusedSimpArgs false

theorem VR.sc {K : Kr} {g : GV} {v : Value} (h : VR K g v) : Sc K.H K.lo g := by
  induction h with
  | int k n => exact .int k n
  | bool b => exact .bool b
  | nil => exact .nil
  | emp a => exact .emp
  | lit B o cs us _ _ _ ih => exact .lit cs ih
  | sl0 n c A _ => exact .sl n [] fun j hj => by simp at hj
  | sl n c B o cs us _ _ _ _ ih => exact .sl n cs ih
  | own b o n c h1 _ _ => exact .own b o n (.inl h1)
  | own0 b o A h1 => exact .own b o 0 h1
  | owns b o n B c _ h2 _ => exact .own b o n (.inr h2)
  | ptr b o h1 => exact .ptr b o (.inl h1)
  | ptrs b o B _ h2 => exact .ptr b o (.inr h2)
  | pp B p o cs us _ _ _ ih => exact .pp cs o ih
  | nilp => exact .nilp
  | agg cs us _ _ ih => exact .agg cs ih
  | tup cs us _ _ ih => exact .tup cs ih
  | fn f cs us _ _ ih => exact .fn f cs ih
  | undef v => exact .undef
theorem Sc.mono {H H' : Heap} {n n' : Nat} {g : GV} (h : Sc H n g) (hm : ∀ b, H b ≠ none ∨ b < n → H' b ≠ none ∨ b < n') : Sc H' n' g := by
  induction h with
  | int k n => exact .int k n
  | bool b => exact .bool b
  | nil => exact .nil
  | emp => exact .emp
  | lit cs _ ih => exact .lit cs ih
  | sl m cs _ ih => exact .sl m cs ih
  | own b o m h => exact .own b o m (hm b h)
  | ptr b o h => exact .ptr b o (hm b h)
  | pp cs o _ ih => exact .pp cs o ih
  | nilp => exact .nilp
  | agg cs _ ih => exact .agg cs ih
  | tup cs _ ih => exact .tup cs ih
  | fn f cs _ ih => exact .fn f cs ih
  | undef => exact .undef
theorem Nr.sc {g : GV} (h : Nr g) (H : Heap) (n : Nat) : Sc H n g := Sc.mono h fun b hb => by
  rcases hb with hb | hb
  · exact absurd rfl hb
  · omega
/-- a lower bound on stale names serves for what is scoped -/
theorem VR.lower {K : Kr} {n : Nat} {g : GV} {v : Value} (h : VR K g v) (hs : Sc K.H n g) : VR { K with lo := n } g v := by
  induction h with
  | int k n => exact .int k n
  | bool b => exact .bool b
  | nil => exact .nil
  | emp a => exact .emp a
  | lit B o cs us h1 h2 _ ih => cases hs with | lit _ hs => exact .lit B o cs us h1 h2 fun j hj => ih j hj (hs j hj)
  | sl0 n c A h1 => exact .sl0 n c A h1
  | sl n c B o cs us h1 h2 h3 _ ih => cases hs with | sl _ _ hs => exact .sl n c B o cs us h1 h2 h3 fun j hj => ih j hj (hs j hj)
  | own b o n c h1 h2 h3 => exact .own b o n c h1 h2 h3
  | own0 b o A h1 => cases hs with | own _ _ _ hs => exact .own0 b o A hs
  | owns b o n B c h1 h2 h3 => cases hs with | own _ _ _ hs => exact .owns b o n B c h1 (hs.resolve_left fun h => h h1) h3
  | ptr b o h1 => exact .ptr b o h1
  | ptrs b o B h1 h2 => cases hs with | ptr _ _ hs => exact .ptrs b o B h1 (hs.resolve_left fun h => h h1)
  | pp B p o cs us h1 h2 _ ih => cases hs with | pp _ _ hs => exact .pp B p o cs us h1 h2 fun j hj => ih j hj (hs j hj)
  | nilp => exact .nilp
  | agg cs us h1 _ ih => cases hs with | agg _ hs => exact .agg cs us h1 fun j hj => ih j hj (hs j hj)
  | tup cs us h1 _ ih => cases hs with | tup _ hs => exact .tup cs us h1 fun j hj => ih j hj (hs j hj)
  | fn f cs us h1 _ ih => cases hs with | fn _ _ hs => exact .fn f cs us h1 fun j hj => ih j hj (hs j hj)
  | undef v => exact .undef v

section
variable {P : Program} {K : Kr} {t : List GV} {a : Act} {next : Act → World → Prop} {Q : Exit → Act → World → Prop}

theorem restr {H0 : Heap} {n0 : Nat} (h : ∀ b, b < n0 → K.H b = H0 b) : ∀ b cs, (fun b => if b < n0 then H0 b else none) b = some cs → K.H b = some cs := by
  intro b cs e
  by_cases hb : b < n0
  · simp only [hb, if_true] at e; rw [h b hb]; exact e
  · simp only [hb, if_false] at e; cases e

set_option maxHeartbeats 1000000 in
theorem gmop_sound {o : Oper} {go : GOp} {H0 : Heap} {n0 n : Nat} (hok : okOp P o.op go = true) (hs : Sat K) (hlo : K.lo = n0) (hH : ∀ b, b < n0 → K.H b = H0 b) {M : Nat} (hM : n0 ≤ M) (hF : Fr K.H M) (ht : TR K t a.tmps) {k : GV → Option (List GV) → Prop} (hn : ∀ g cs, k g (some cs) → K.H n = none) (hn0 : n0 ≤ n) (hk : gmop P H0 n0 t n k go)
    (hnext : ∀ g new v K', k g new → K'.H = updo K.H n new → K'.lo = n0 → KStep K K' → Sat K' → VR K' g v → next (a.put o.dst v) K'.w) : o.wp P a K.w next Q := by
  subst hlo
  have pur : ∀ (h : (match gpure t go with | some g => k g none | none => False)), o.wp P a K.w next Q := by
    intro h
    split at h
    · rename_i g hg
      exact (out_pure hs (pure_sound hok ht hg)).wp fun v K' h1 h2 h3 h4 h5 => hnext g none v K' h h3 h4 h1 h2 h5
    · exact h.elim
  have old : ∀ {g : GV}, Out P o a K g K.H K.lo → k g none → o.wp P a K.w next Q := by
    intro g h1 h2
    exact h1.wp fun v K' q1 q2 q3 q4 q5 => hnext g none v K' h2 q3 q4 q1 q2 q5
  have new : ∀ {g : GV} {cs : List GV}, Out P o a K g (upd K.H n (some cs)) K.lo → k g (some cs) → o.wp P a K.w next Q := by
    intro g cs h1 h2
    exact h1.wp fun v K' q1 q2 q3 q4 q5 => hnext g (some cs) v K' h2 q3 q4 q1 q2 q5
  have hsub : ∀ b cs, b < K.lo → H0 b = some cs → K.H b = some cs := fun b cs h e => by rw [hH b h]; exact e
  cases hop : o.op with
  | load T x =>
    rw [hop] at hok; simp only [okOp] at hok
    split at hok
    · rename_i m x'
      simp only [Bool.and_eq_true, beq_iff_eq, Bool.not_eq_true', beq_eq_false_iff_ne] at hok
      obtain ⟨hok, hm0⟩ := hok
      cases m with
      | none =>
        simp only [gmop] at hk
        split at hk
        · rename_i b p g1
          split at hk
          · rename_i cs hb
            obtain ⟨c1, c2, c3⟩ := hk
            obtain ⟨v, r1, r2⟩ := run_load1 (P := P) o hop hs ht hok.1 hok.2 (H := K.H) (fun _ _ h => h) (by rw [g1]; exact gread_ptr (hsub b cs c1 hb)) c2
            exact old (out_read hs r1 r2) c3
          · exact hk.elim
        · rename_i cs p g1
          obtain ⟨v, r1, r2⟩ := run_load1 (P := P) o hop hs ht hok.1 hok.2 (H := K.H) (fun _ _ h => h) (by rw [g1]; rfl) hk.1
          exact old (out_read hs r1 r2) hk.2
        · exact hk.elim
      | some m =>
        have hm : 0 < m := Nat.pos_of_ne_zero fun e => hm0 (by rw [e])
        simp only [gmop] at hk
        split at hk
        · rename_i b p g1
          split at hk
          · rename_i cs hb
            obtain ⟨c1, c2, c3⟩ := hk
            obtain ⟨v, r1, r2⟩ := run_loadm (P := P) o hop hs ht hok.1 hok.2 (H := K.H) (fun _ _ h => h) (by rw [g1]; exact gread_ptr (hsub b cs c1 hb)) c2 hm
            exact old (out_read hs r1 r2) c3
          · exact hk.elim
        · rename_i cs p g1
          obtain ⟨v, r1, r2⟩ := run_loadm (P := P) o hop hs ht hok.1 hok.2 (H := K.H) (fun _ _ h => h) (by rw [g1]; rfl) hk.1 hm
          exact old (out_read hs r1 r2) hk.2
        · exact hk.elim
    · cases hok
  | store T x v =>
    rw [hop] at hok; simp only [okOp] at hok
    split at hok
    · simp only [gmop] at hk
    · cases hok
  | box T x =>
    rw [hop] at hok; simp only [okOp] at hok
    split at hok
    · simp only [gmop] at hk
      split at hk
      · rename_i vs hc
        exact new (out_box hop hs ht hok hc (hn _ _ hk) hn0 (Nat.le_refl _)) hk
      · exact hk.elim
    · cases hok
  | alloc T =>
    rw [hop] at hok; simp only [okOp] at hok
    split at hok
    · split at hok
      · rename_i z hz
        simp only [gmop] at hk
        exact new (out_alloc hop hs hz hok (hn _ _ hk) hn0 (Nat.le_refl _)) hk
      · cases hok
    · cases hok
  | buildSlice T m parts =>
    rw [hop] at hok; simp only [okOp] at hok
    cases he : elemB P T with
    | none => simp only [okBslice, he] at hok; cases hok
    | some e =>
      cases go with
      | bslice m' cells parts' =>
        have hnm : m = m' := by
          simp only [okBslice, he] at hok
          split at hok
          · simp only [Bool.and_eq_true, beq_iff_eq] at hok; exact hok.1.1.1.1
          · cases hok
        subst hnm
        simp only [gmop] at hk
        split at hk
        · rename_i cs hf
          exact new (out_bslice hop hs ht he hok hf (hn _ _ hk.2) hn0 (Nat.le_refl _)) hk.2
        · exact hk.elim
      | blit cells parts' =>
        simp only [gmop] at hk
        split at hk
        · rename_i cs hf
          exact old (out_blit hop hs ht he hok hf) hk
        · exact hk.elim
      | empty => simp only [gmop] at hk; exact old (out_empty hop hs he hok) hk
      | _ => simp only [okBslice, he] at hok; cases hok
  | makeSlice T l c =>
    rw [hop] at hok; simp only [okOp] at hok
    cases he : elemB P T with
    | none => simp only [okMslice, he] at hok; cases hok
    | some e =>
      cases go with
      | mslice z bytes l' c' =>
        simp only [gmop] at hk
        split at hk
        · rename_i i j g1 g2
          obtain ⟨c1, rfl, c3, c4, c5⟩ := hk
          exact new (out_mslice hop hs ht he hok g1 g2 c1 c3 c4 (hn _ _ c5) hn0 (Nat.le_refl _)) c5
        · exact hk.elim
      | mslicep z bytes l' c' =>
        simp only [gmop] at hk
        split at hk
        · rename_i i j g1 g2
          obtain ⟨c1, rfl, c3, c4, c5⟩ := hk
          exact old (out_mslicep hop hs ht he hok g1 g2 c1 c3 c4) c5
        · exact hk.elim
      | _ =>
        simp only [okMslice, he] at hok
        split at hok <;> cases hok
  | call c =>
    obtain ⟨callee, args, ts⟩ := c
    rw [hop] at hok; simp only [okOp, okCall] at hok
    split at hok
    · rename_i b
      cases b
      case append =>
        cases go with
        | append bytes s' x' =>
          obtain ⟨s, x, T, e, z, rfl, rfl, he, hb, hb0, hsz, hz, hzc, hs', hx⟩ := ok_append (.inl hok)
          simp only [gmop] at hk
          split at hk
          · exact hk.elim
          · rename_i ys hy
            split at hk
            · rename_i g1
              exact new (out_append_exact hop hs ht he hb hsz hz hzc hb0 hs' hx (restr hH) hy (cs := []) (by rw [g1]; rfl) (.inl rfl) (by simpa using hk.1) (hn _ _ hk.2) hn0 (Nat.le_refl _)) (by simpa using hk.2)
            · rename_i g1
              exact new (out_append_exact hop hs ht he hb hsz hz hzc hb0 hs' hx (restr hH) hy (cs := []) (by rw [g1]; rfl) (.inl rfl) (by simpa using hk.1) (hn _ _ hk.2) hn0 (Nat.le_refl _)) (by simpa using hk.2)
            · exact hk.elim
        | appendp bytes s' x' =>
          obtain ⟨s, x, T, e, z, rfl, rfl, he, hb, hb0, hsz, hz, hzc, hs', hx⟩ := ok_append (.inr hok)
          simp only [gmop] at hk
          split at hk
          · rename_i cs ys hc hy
            split at hk
            · rename_i g1
              have := out_appendp hop hs ht he hb hsz hz hzc hb0 hs' hx (restr hH) hy (cs := []) (by rw [g1]; rfl) (by simpa using hk.1)
              exact old this (by simpa using hk.2)
            · rename_i g1
              have := out_appendp hop hs ht he hb hsz hz hzc hb0 hs' hx (restr hH) hy (cs := []) (by rw [g1]; rfl) (by simpa using hk.1)
              exact old this (by simpa using hk.2)
            · rename_i cs' g1
              have hcs : cs' = cs := by rw [g1] at hc; simpa [gelems] using hc
              subst hcs
              exact old (out_appendp hop hs ht he hb hsz hz hzc hb0 hs' hx (restr hH) hy (cs := cs') (by rw [g1]; rfl) hk.1) hk.2
            · exact hk.elim
          · exact hk.elim
        | _ => simp only [okBuiltin] at hok; split at hok <;> simp_all
      case copy =>
        cases go with
        | copy d' s' => simp only [gmop] at hk
        | _ => simp only [okBuiltin] at hok; split at hok <;> simp_all
      case len =>
        cases go <;> first | exact pur hk | (simp only [okBuiltin] at hok; split at hok <;> simp_all)
      case max =>
        cases go <;> first | exact pur hk | (simp only [okBuiltin] at hok; split at hok <;> simp_all)
      case min =>
        cases go <;> first | exact pur hk | (simp only [okBuiltin] at hok; split at hok <;> simp_all)
      all_goals (simp only [okBuiltin] at hok; cases hok)
    · rename_i f
      split at hok
      · rename_i f' args'
        simp only [Bool.and_eq_true, beq_iff_eq] at hok
        obtain ⟨⟨rfl, h1⟩, h2⟩ := hok
        simp only [gmop] at hk
        obtain ⟨g, hnr, hsp, hk⟩ := hk
        have hsp := hsp K.H M hH hM
        have hl1 := lo_step K hM
        have hl2 := lo_sat hs hM
        have hv : VRs { K with lo := M } (args'.map (gev t)) (args.map a.eval) := by
          have := okXs_VR ht h1
          rw [← map_arr]
          exact ⟨this.1, fun j hj => (this.2 j hj).mono hl1⟩
        simp only [Oper.wp, run_call hop h2, Oper.upon]
        refine (hsp { K with lo := M } (args.map a.eval) rfl rfl hF hl2 hv).mono ?_
        rintro e w' ⟨v, K', rfl, rfl, k1, k2, k3, k4, k5, k6⟩
        -- back to the old bound
        have hstep : KStep K { K' with lo := K.lo } := {
          os := k1.os
          tape := k1.tape
          output := k1.output
          size := k1.size
          S := k1.S
          keep := k1.keep
          lo := Nat.le_refl _
          live := k1.live
          dies := fun b q1 q2 => by
            have q2 : K'.H b = none := q2
            rw [k2] at q2; exact absurd q2 q1
          dead := fun b q1 q2 => by show K'.H b = none; rw [k2]; exact q2 }
        have hsat : Sat { K' with lo := K.lo } := ⟨k5.len, fun b cs e hz => by
          obtain ⟨row, T, q1, q2, q3, q4⟩ := k5.blk b cs e hz
          refine ⟨row, T, q1, q2, fun j hj => (q3 j hj).lower ?_, q4⟩
          rw [k2]
          have e' : K.H b = some cs := by rw [← k2]; exact e
          have hlen := hs.len b cs e'
          obtain ⟨row0, T0, p1, p2, p3, p4⟩ := hs.blk b cs e' (by omega)
          exact (p3 j hj).sc, k5.inj, k5.sS⟩
        exact hnext g none v { K' with lo := K.lo } hk k2 rfl hstep hsat (k6.lower (hnr.sc _ _))
      · cases hok
    · split at hok
      · simp only [gmop] at hk
      · cases hok
    · cases hok
  | _ =>
    have hok1 := hok
    rw [hop] at hok1
    cases go <;> first
      | exact pur hk
      | (simp only [okOp, okBin, okField, okFieldAddr, okIndexAddr, okConv, okSlice, okBuild] at hok1; cases hok1)
      | (simp only [okOp, okMkfn] at hok1; split at hok1 <;> simp_all)
end
end Go.Proofs.Ytdpibcniodhinaa.Gh
/- What a drawn region's operations yield in the order of the text; which slots an operation looks at. -/
namespace Go.Proofs.Ytdpibcniodhinaa.Gh
open Go Go.RowKit
set_option linter.unusedVariables false
set_option linter.unusedSimpArgs false

theorem gmop_split {P : Program} {H0 : Heap} {n0 n : Nat} {t : List GV} {k : GV → Option (List GV) → Prop} {go : GOp} (h : gmop P H0 n0 t n k go) : ∃ g w, gmop P H0 n0 t n (fun g' w' => g' = g ∧ w' = w) go ∧ k g w := by
  have pur : (match gpure t go with | some g => k g none | none => False) → ∃ g w, (match gpure t go with | some g' => g' = g ∧ none = w | none => False) ∧ k g w := by
    intro h
    split at h
    · rename_i g hg; exact ⟨g, none, ⟨rfl, rfl⟩, h⟩
    · exact h.elim
  cases go with
  | load m x =>
    cases m with
    | none =>
      simp only [gmop] at h ⊢
      split at h
      · split at h
        · exact ⟨_, _, ⟨h.1, h.2.1, rfl, rfl⟩, h.2.2⟩
        · exact h.elim
      · exact ⟨_, _, ⟨h.1, rfl, rfl⟩, h.2⟩
      · exact h.elim
    | some m =>
      simp only [gmop] at h ⊢
      split at h
      · split at h
        · exact ⟨_, _, ⟨h.1, h.2.1, rfl, rfl⟩, h.2.2⟩
        · exact h.elim
      · exact ⟨_, _, ⟨h.1, rfl, rfl⟩, h.2⟩
      · exact h.elim
  | box v =>
    simp only [gmop] at h ⊢
    split at h
    · exact ⟨_, _, ⟨rfl, rfl⟩, h⟩
    · exact h.elim
  | alloc cs => exact ⟨_, _, ⟨rfl, rfl⟩, h⟩
  | empty => exact ⟨_, _, ⟨rfl, rfl⟩, h⟩
  | bslice m cells parts =>
    simp only [gmop] at h ⊢
    split at h
    · exact ⟨_, _, ⟨h.1, rfl, rfl⟩, h.2⟩
    · exact h.elim
  | blit cells parts =>
    simp only [gmop] at h ⊢
    split at h
    · exact ⟨_, _, ⟨rfl, rfl⟩, h⟩
    · exact h.elim
  | mslicep z bytes l c =>
    simp only [gmop] at h ⊢
    split at h
    · exact ⟨_, _, ⟨h.1, h.2.1, h.2.2.1, h.2.2.2.1, rfl, rfl⟩, h.2.2.2.2⟩
    · exact h.elim
  | mslice z bytes l c =>
    simp only [gmop] at h ⊢
    split at h
    · exact ⟨_, _, ⟨h.1, h.2.1, h.2.2.1, h.2.2.2.1, rfl, rfl⟩, h.2.2.2.2⟩
    · exact h.elim
  | call f args =>
    simp only [gmop] at h ⊢
    obtain ⟨g, h1, h2, h3⟩ := h
    exact ⟨g, none, ⟨g, h1, h2, rfl, rfl⟩, h3⟩
  | append bytes s x =>
    simp only [gmop] at h ⊢
    split at h
    · exact h.elim
    · split at h
      · exact ⟨_, _, ⟨h.1, rfl, rfl⟩, h.2⟩
      · exact ⟨_, _, ⟨h.1, rfl, rfl⟩, h.2⟩
      · exact h.elim
  | appendp bytes s x =>
    simp only [gmop] at h ⊢
    split at h
    · split at h
      · exact ⟨_, _, ⟨h.1, rfl, rfl⟩, h.2⟩
      · exact ⟨_, _, ⟨h.1, rfl, rfl⟩, h.2⟩
      · exact ⟨_, _, ⟨h.1, rfl, rfl⟩, h.2⟩
      · exact h.elim
    · exact h.elim
  | store m x v => exact h.elim
  | copy d s => exact h.elim
  | callv x args => exact h.elim
  | _ => exact pur h

def gxT : GX → List Nat
  | .t i => [i]
  | .c _ => []
def gxO : Option GX → List Nat
  | none => []
  | some x => gxT x
def gopT : GOp → List Nat
  | .mov x => gxT x
  | .pick c a b => gxT c ++ gxT a ++ gxT b
  | .bin _ x y => gxT x ++ gxT y
  | .isnil _ x => gxT x
  | .un _ x => gxT x
  | .field _ _ x => gxT x
  | .fieldAddr _ x => gxT x
  | .indexAddr _ x i => gxT x ++ gxT i
  | .arrAddr _ _ x i => gxT x ++ gxT i
  | .nilCheck x => gxT x
  | .extract _ x => gxT x
  | .len x => gxT x
  | .mm _ x y => gxT x ++ gxT y
  | .build _ parts => parts.flatMap fun p => gxT p.2.2
  | .slice x lo hi mx => gxT x ++ gxO lo ++ gxO hi ++ gxO mx
  | .conv _ x => gxT x
  | .mkfn _ caps => caps.flatMap gxT
  | .load _ x => gxT x
  | .store _ x v => gxT x ++ gxT v
  | .box v => gxT v
  | .alloc _ => []
  | .empty => []
  | .bslice _ _ parts => parts.flatMap fun p => gxT p.2.2
  | .blit _ parts => parts.flatMap fun p => gxT p.2.2
  | .mslicep _ _ l c => gxT l ++ gxT c
  | .appendp _ s x => gxT s ++ gxT x
  | .mslice _ _ l c => gxT l ++ gxT c
  | .append _ s x => gxT s ++ gxT x
  | .copy d s => gxT d ++ gxT s
  | .call _ args => args.flatMap gxT
  | .callv x args => gxT x ++ args.flatMap gxT

section
variable {t t' : List GV}
theorem gev_congr {x : GX} (h : ∀ i, i ∈ gxT x → gat t i = gat t' i) : gev t x = gev t' x := by
  cases x with
  | t i => exact h i (by simp [gxT])
  | c g => rfl
theorem gfill_congr {parts : List (Nat × Nat × GX)} (h : ∀ i, i ∈ (parts.flatMap fun p => gxT p.2.2) → gat t i = gat t' i) : ∀ cs, gfill t cs parts = gfill t' cs parts := by
  induction parts with
  | nil => intro cs; rfl
  | cons p ps ih =>
    intro cs
    obtain ⟨off, size, x⟩ := p
    simp only [gfill]
    rw [gev_congr (t := t) (t' := t') (x := x) fun i hi => h i (by simp [hi])]
    have ih := ih fun i hi => h i (by simp only [List.flatMap_cons, List.mem_append]; exact .inr hi)
    split
    · rfl
    · split
      · exact ih _
      · rfl
theorem gmap_congr {xs : List GX} (h : ∀ i, i ∈ xs.flatMap gxT → gat t i = gat t' i) : xs.map (gev t) = xs.map (gev t') := by
  apply List.map_congr_left
  intro x hx
  exact gev_congr fun i hi => h i (by simp only [List.mem_flatMap]; exact ⟨x, hx, hi⟩)
theorem gbound_congr {x : Option GX} (h : ∀ i, i ∈ gxO x → gat t i = gat t' i) (d : Nat) : gbound d t x = gbound d t' x := by
  cases x with
  | none => rfl
  | some x => simp only [gbound]; rw [gev_congr (t := t) (t' := t') h]

theorem gpure_congr {go : GOp} (h : ∀ i, i ∈ gopT go → gat t i = gat t' i) : gpure t go = gpure t' go := by
  have one : ∀ x, (∀ i, i ∈ gxT x → i ∈ gopT go) → gev t x = gev t' x := fun x hx => gev_congr fun i hi => h i (hx i hi)
  cases go with
  | mov x => simp only [gpure]; rw [one x fun i hi => by simpa [gopT] using hi]
  | pick c a b => simp only [gpure]; rw [one c fun i hi => by simp [gopT, hi], one a fun i hi => by simp [gopT, hi], one b fun i hi => by simp [gopT, hi]]
  | bin op x y => simp only [gpure]; rw [one x fun i hi => by simp [gopT, hi], one y fun i hi => by simp [gopT, hi]]
  | isnil neg x => simp only [gpure]; rw [one x fun i hi => by simpa [gopT] using hi]
  | un op x => simp only [gpure]; rw [one x fun i hi => by simpa [gopT] using hi]
  | field off n x => simp only [gpure]; rw [one x fun i hi => by simpa [gopT] using hi]
  | fieldAddr off x => simp only [gpure]; rw [one x fun i hi => by simpa [gopT] using hi]
  | indexAddr size x i => simp only [gpure]; rw [one x fun i hi => by simp [gopT, hi], one i fun i hi => by simp [gopT, hi]]
  | arrAddr len size x i => simp only [gpure]; rw [one x fun i hi => by simp [gopT, hi], one i fun i hi => by simp [gopT, hi]]
  | nilCheck x => simp only [gpure]; rw [one x fun i hi => by simpa [gopT] using hi]
  | extract i x => simp only [gpure]; rw [one x fun i hi => by simpa [gopT] using hi]
  | len x => simp only [gpure]; rw [one x fun i hi => by simpa [gopT] using hi]
  | mm mx x y => simp only [gpure]; rw [one x fun i hi => by simp [gopT, hi], one y fun i hi => by simp [gopT, hi]]
  | build zero parts => simp only [gpure]; rw [gfill_congr (t := t) (t' := t') h]
  | slice x lo hi mx =>
    simp only [gpure]
    rw [one x fun i hi => by simp [gopT, hi], gbound_congr (t := t) (t' := t') (x := lo) fun i hi => h i (by simp [gopT, hi])]
    have e1 : ∀ d, gbound d t hi = gbound d t' hi := gbound_congr fun i hi => h i (by simp [gopT, hi])
    have e2 : ∀ d, gbound d t mx = gbound d t' mx := gbound_congr fun i hi => h i (by simp [gopT, hi])
    simp only [e1, e2]
  | conv k x => simp only [gpure]; rw [one x fun i hi => by simpa [gopT] using hi]
  | mkfn f caps => simp only [gpure]; rw [gmap_congr (t := t) (t' := t') h]
  | _ => rfl

theorem gmop_congr {P : Program} {H0 : Heap} {n0 n : Nat} {k : GV → Option (List GV) → Prop} {go : GOp} (h : ∀ i, i ∈ gopT go → gat t i = gat t' i) (hk : gmop P H0 n0 t n k go) : gmop P H0 n0 t' n k go := by
  have one : ∀ x, (∀ i, i ∈ gxT x → i ∈ gopT go) → gev t x = gev t' x := fun x hx => gev_congr fun i hi => h i (hx i hi)
  have pur := gpure_congr h
  cases go with
  | load m x => cases m <;> simp only [gmop] at hk ⊢ <;> (rw [one x fun i hi => by simpa [gopT] using hi] at hk; exact hk)
  | box v => simp only [gmop] at hk ⊢; rw [one v fun i hi => by simpa [gopT] using hi] at hk; exact hk
  | alloc cs => exact hk
  | empty => exact hk
  | bslice m cells parts => simp only [gmop] at hk ⊢; rw [gfill_congr (t := t) (t' := t') h] at hk; exact hk
  | blit cells parts => simp only [gmop] at hk ⊢; rw [gfill_congr (t := t) (t' := t') h] at hk; exact hk
  | mslicep z bytes l c => simp only [gmop] at hk ⊢; rw [one l fun i hi => by simp [gopT, hi], one c fun i hi => by simp [gopT, hi]] at hk; exact hk
  | mslice z bytes l c => simp only [gmop] at hk ⊢; rw [one l fun i hi => by simp [gopT, hi], one c fun i hi => by simp [gopT, hi]] at hk; exact hk
  | call f args => simp only [gmop] at hk ⊢; rw [gmap_congr (t := t) (t' := t') h] at hk; exact hk
  | append bytes s x => simp only [gmop] at hk ⊢; rw [one s fun i hi => by simp [gopT, hi], one x fun i hi => by simp [gopT, hi]] at hk; exact hk
  | appendp bytes s x => simp only [gmop] at hk ⊢; rw [one s fun i hi => by simp [gopT, hi], one x fun i hi => by simp [gopT, hi]] at hk; exact hk
  | store m x v => exact hk.elim
  | copy d s => exact hk.elim
  | callv x args => exact hk.elim
  | _ => simp only [gmop] at hk ⊢; rw [← pur]; exact hk
theorem gop_congr {P : Program} {H : Heap} {n : Nat} {k : GV → Heap → Nat → Prop} {go : GOp} (h : ∀ i, i ∈ gopT go → gat t i = gat t' i) (hk : gop P t H n k go) : gop P t' H n k go := by
  have one : ∀ x, (∀ i, i ∈ gxT x → i ∈ gopT go) → gev t x = gev t' x := fun x hx => gev_congr fun i hi => h i (hx i hi)
  have pur := gpure_congr h
  cases go with
  | load m x => cases m <;> simp only [gop] at hk ⊢ <;> (rw [one x fun i hi => by simpa [gopT] using hi] at hk; exact hk)
  | store m x v => simp only [gop] at hk ⊢; rw [one x fun i hi => by simp [gopT, hi], one v fun i hi => by simp [gopT, hi]] at hk; exact hk
  | box v => simp only [gop] at hk ⊢; rw [one v fun i hi => by simpa [gopT] using hi] at hk; exact hk
  | alloc cs => exact hk
  | empty => exact hk
  | bslice m cells parts => simp only [gop] at hk ⊢; rw [gfill_congr (t := t) (t' := t') h] at hk; exact hk
  | blit cells parts => simp only [gop] at hk ⊢; rw [gfill_congr (t := t) (t' := t') h] at hk; exact hk
  | mslicep z bytes l c => simp only [gop] at hk ⊢; rw [one l fun i hi => by simp [gopT, hi], one c fun i hi => by simp [gopT, hi]] at hk; exact hk
  | mslice z bytes l c => simp only [gop] at hk ⊢; rw [one l fun i hi => by simp [gopT, hi], one c fun i hi => by simp [gopT, hi]] at hk; exact hk
  | call f args => simp only [gop] at hk ⊢; rw [gmap_congr (t := t) (t' := t') h] at hk; exact hk
  | callv x args => simp only [gop] at hk ⊢; rw [one x fun i hi => by simp [gopT, hi], gmap_congr (t := t) (t' := t') fun i hi => h i (by simp only [gopT, List.mem_append]; exact .inr hi)] at hk; exact hk
  | append bytes s x => simp only [gop] at hk ⊢; rw [one s fun i hi => by simp [gopT, hi], one x fun i hi => by simp [gopT, hi]] at hk; exact hk
  | appendp bytes s x => simp only [gop] at hk ⊢; rw [one s fun i hi => by simp [gopT, hi], one x fun i hi => by simp [gopT, hi]] at hk; exact hk
  | copy d s => simp only [gop] at hk ⊢; rw [one d fun i hi => by simp [gopT, hi], one s fun i hi => by simp [gopT, hi]] at hk; exact hk
  | _ => simp only [gop] at hk ⊢; rw [← pur]; exact hk
end

/-- what the i-th operation of a drawn region yields in the text's order -/
def RecOK (P : Program) (H0 : Heap) (n0 : Nat) (o : GOper) (t : List GV) (n : Nat) (g : GV) (w : Option (List GV)) : Prop :=
  match o.guard with
  | none => gmop P H0 n0 t n (fun g' w' => g' = g ∧ w' = w) o.op
  | some (j, want) => ∃ b, gat t j = .bool b ∧ (b = want → gmop P H0 n0 t n (fun g' w' => g' = g ∧ w' = w) o.op) ∧ (b ≠ want → g = .undef ∧ w = none)

theorem gmops_chain {P : Program} {H0 : Heap} {n0 : Nat} {k : List GV → Heap → Nat → Prop} : ∀ (pre : List GOper) (t : List GV) (H : Heap) (n : Nat), gmops P H0 n0 pre k t H n →
    ∃ (T : Nat → List GV) (G : Nat → GV) (W : Nat → Option (List GV)) (NM : Nat → Nat) (Hs : Nat → Heap), T 0 = t ∧ NM 0 = n ∧ Hs 0 = H ∧
      (∀ i (hi : i < pre.length), RecOK P H0 n0 pre[i] (T i) (NM i) (G i) (W i) ∧ T (i + 1) = put (T i) pre[i].dst (G i) ∧ NM (i + 1) = nxt (NM i) (W i) ∧ Hs (i + 1) = updo (Hs i) (NM i) (W i)) ∧
      k (T pre.length) (Hs pre.length) (NM pre.length) := by
  intro pre
  induction pre with
  | nil => intro t H n h; exact ⟨fun _ => t, fun _ => .undef, fun _ => none, fun _ => n, fun _ => H, rfl, rfl, rfl, fun i hi => by simp at hi, h⟩
  | cons o rest ih =>
    intro t H n h
    have key : ∀ g w, RecOK P H0 n0 o t n g w → gmops P H0 n0 rest k (put t o.dst g) (updo H n w) (nxt n w) → ∃ (T : Nat → List GV) (G : Nat → GV) (W : Nat → Option (List GV)) (NM : Nat → Nat) (Hs : Nat → Heap), T 0 = t ∧ NM 0 = n ∧ Hs 0 = H ∧
        (∀ i (hi : i < (o :: rest).length), RecOK P H0 n0 (o :: rest)[i] (T i) (NM i) (G i) (W i) ∧ T (i + 1) = put (T i) (o :: rest)[i].dst (G i) ∧ NM (i + 1) = nxt (NM i) (W i) ∧ Hs (i + 1) = updo (Hs i) (NM i) (W i)) ∧
        k (T (o :: rest).length) (Hs (o :: rest).length) (NM (o :: rest).length) := by
      intro g w hr hrest
      obtain ⟨T, G, W, NM, Hs, h1, h2, h3, h4, h5⟩ := ih _ _ _ hrest
      refine ⟨fun i => match i with | 0 => t | i + 1 => T i, fun i => match i with | 0 => g | i + 1 => G i, fun i => match i with | 0 => w | i + 1 => W i, fun i => match i with | 0 => n | i + 1 => NM i, fun i => match i with | 0 => H | i + 1 => Hs i, rfl, rfl, rfl, ?_, h5⟩
      intro i hi
      cases i with
      | zero => exact ⟨hr, h1, h2, h3⟩
      | succ i => exact h4 i (by simpa using hi)
    simp only [gmops] at h
    split at h
    · rename_i hg
      obtain ⟨g, w, h1, h2⟩ := gmop_split h
      exact key g w (by simp only [RecOK, hg]; exact h1) h2
    · rename_i j want hg
      split at h
      · rename_i b hb
        split at h
        · rename_i hbw
          obtain ⟨g, w, h1, h2⟩ := gmop_split h
          exact key g w (by simp only [RecOK, hg]; exact ⟨b, hb, fun _ => h1, fun h => absurd hbw h⟩) h2
        · rename_i hbw
          exact key .undef none (by simp only [RecOK, hg]; exact ⟨b, hb, fun h => absurd h hbw, fun _ => ⟨trivial, trivial⟩⟩) h
      · exact h.elim
end Go.Proofs.Ytdpibcniodhinaa.Gh
/- A region whose order is open: in whatever order its operations come, the slots and the own blocks end as they do in the text's order. -/
namespace Go.Proofs.Ytdpibcniodhinaa.Gh
open Go Go.RowKit
set_option linter.unusedVariables false
set_option linter.unusedSimpArgs false

def okOper (P : Program) (ops : Array Oper) (o : Oper) (g : GOper) : Bool := o.dst == g.dst && okOp P o.op g.op && (match o.guard, g.guard with
  | none, none => true
  | some (j, w), some (tj, w') => w == w' && ((ops[j]?).bind (·.dst)) == some tj
  | _, _ => false)
def okOpers (P : Program) (ops : Array Oper) : List Nat → List GOper → Bool
  | [], [] => true
  | i :: is, g :: gs => (match ops[i]? with
    | some o => okOper P ops o g
    | none => false) && okOpers P ops is gs
  | _, _ => false

theorem wanted_of {ops : Array Oper} {o : Oper} {g : GOper} {P : Program} (h : okOper P ops o g = true) (tm : Array Value) :
    match g.guard with
    | none => Region.wanted o (yielded ops tm) = true
    | some (tj, w) => ∀ b, vat tm tj = .bool b → Region.wanted o (yielded ops tm) = (b == w) := by
  simp only [okOper, Bool.and_eq_true] at h
  obtain ⟨⟨_, _⟩, h⟩ := h
  cases hg : g.guard with
  | none =>
    rw [hg] at h
    cases ho : o.guard with
    | none => simp [Region.wanted, ho]
    | some p => rw [ho] at h; cases h
  | some q =>
    obtain ⟨tj, w⟩ := q
    rw [hg] at h
    cases ho : o.guard with
    | none => rw [ho] at h; cases h
    | some p =>
      obtain ⟨j, w'⟩ := p
      rw [ho] at h
      simp only [Bool.and_eq_true, beq_iff_eq] at h
      obtain ⟨rfl, hd⟩ := h
      intro b hb
      have htj : tm[tj]? = some (.bool b) := by
        by_cases hlt : tj < tm.size
        · simp only [vat, Array.getD, hlt, dif_pos] at hb
          rw [Array.getElem?_eq_getElem hlt]; simpa using hb
        · simp only [vat, Array.getD, hlt, dif_neg, not_false_eq_true] at hb; cases hb
      simp [Region.wanted, ho, yielded, hd, htj]

theorem unwanted_of {ops : Array Oper} {o : Oper} {g : GOper} {P : Program} (h : okOper P ops o g = true) {tm : Array Value} {tj : Nat} {w : Bool} (hg : g.guard = some (tj, w)) {us : Array Value} (hb : vat tm tj = .tuple us) : Region.wanted o (yielded ops tm) = false := by
  simp only [okOper, Bool.and_eq_true] at h
  obtain ⟨⟨_, _⟩, h⟩ := h
  rw [hg] at h
  cases ho : o.guard with
  | none => rw [ho] at h; cases h
  | some p =>
    obtain ⟨j, w'⟩ := p
    rw [ho] at h
    simp only [Bool.and_eq_true, beq_iff_eq] at h
    obtain ⟨rfl, hd⟩ := h
    have hy : yielded ops tm j = none := by
      unfold yielded
      rw [hd]
      by_cases hlt : tj < tm.size
      · simp only [vat, Array.getD, hlt, dif_pos] at hb
        have : tm[tj]? = some (.tuple us) := by rw [Array.getElem?_eq_getElem hlt]; simpa using hb
        simp [this]
      · simp [hlt]
    simp [Region.wanted, ho, hy]
theorem vr_skip (K : Kr) : VR K (.tup []) undef := .tup [] #[] rfl fun j hj => by simp at hj
theorem skip_vr {K : Kr} {v : Value} (h : VR K (.tup []) v) : ∃ us, v = .tuple us := by
  generalize hg : GV.tup [] = g at h
  cases h <;> first | (cases hg; exact ⟨_, rfl⟩) | cases hg
theorem okOper_dst {ops : Array Oper} {o : Oper} {g : GOper} {P : Program} (h : okOper P ops o g = true) : o.dst = g.dst := by
  simp only [okOper, Bool.and_eq_true, beq_iff_eq] at h; exact h.1.1
theorem okOper_op {ops : Array Oper} {o : Oper} {g : GOper} {P : Program} (h : okOper P ops o g = true) : okOp P o.op g.op = true := by
  simp only [okOper, Bool.and_eq_true, beq_iff_eq] at h; exact h.1.2
theorem put_defers' (a : Act) (d : Option Tmp) (v : Value) : (a.put d v).defers = a.defers := by cases d <;> rfl
theorem put_size (a : Act) (d : Option Tmp) (v : Value) : (a.put d v).tmps.size = a.tmps.size := by cases d <;> simp [Act.put]

section
variable {P : Program} {Q : Exit → Act → World → Prop}

/-- one operation, wherever it stands -/
theorem oper_step {ops : Array Oper} {i : Nat} {o : Oper} (hi : ops[i]? = some o) {g : GOper} (hok : okOper P ops o g = true) {rest : List GOper} {k : List GV → Heap → Nat → Prop} {K : Kr} {t : List GV} {a : Act} (hs : Sat K) (hF : Fr K.H K.lo) (ht : TR K t a.tmps) (hk : gops P (g :: rest) k t K.H K.lo) {next : Act → World → Prop}
    (hnext : ∀ t' K' a', gops P rest k t' K'.H K'.lo → KStep K K' → Fr K'.H K'.lo → Sat K' → TR K' t' a'.tmps → a'.defers = a.defers → next a' K'.w) : wpOp P ops Q i next a K.w := by
  have hd := okOper_dst hok
  have hop := okOper_op hok
  have hw := wanted_of hok a.tmps
  unfold wpOp
  rw [hi]
  simp only
  have run : gop P t K.H K.lo (fun g' H' n' => gops P rest k (put t g.dst g') H' n') g.op → o.wp P a K.w next Q ∨ (o.asks P a K.w ∧ LetsOut Q) := fun h =>
    .inl (gop_sound hop hs hF ht h fun g' v K' q1 q2 q3 q4 q5 => by
      rw [hd]
      exact hnext _ K' _ q1 q2 q3 q4 ((ht.mono q2).put q5 _) (put_defers' _ _ _))
  simp only [gops] at hk
  split at hk
  · rename_i hg
    rw [hg] at hw; simp only at hw
    rw [if_pos hw]
    exact run hk
  · rename_i j want hg
    rw [hg] at hw; simp only at hw
    split at hk
    · rename_i b hb
      have hv := ht.2 j
      rw [hb] at hv
      have hw := hw b hv.bool_inv
      split at hk
      · rename_i hbw
        rw [if_pos (by rw [hw, hbw]; simp)]
        exact run hk
      · rename_i hbw
        rw [if_neg (by rw [hw]; simpa using hbw), hd]
        exact hnext _ K _ hk (KStep.refl K) hF hs (ht.put (vr_skip K) _) (put_defers' _ _ _)
    · rename_i hb
      have hv := ht.2 j
      rw [hb] at hv
      obtain ⟨us, hus⟩ := skip_vr hv
      rw [if_neg (by rw [unwanted_of hok hg hus]; simp), hd]
      exact hnext _ K _ hk (KStep.refl K) hF hs (ht.put (vr_skip K) _) (put_defers' _ _ _)
    · exact hk.elim

theorem gops_sound {ops : Array Oper} {k : List GV → Heap → Nat → Prop} : ∀ (gl : List GOper) (l : List Nat) (K : Kr) (t : List GV) (a : Act), okOpers P ops l gl = true → Sat K → Fr K.H K.lo → TR K t a.tmps → gops P gl k t K.H K.lo →
    (∀ t' K' a', k t' K'.H K'.lo → KStep K K' → Fr K'.H K'.lo → Sat K' → TR K' t' a'.tmps → a'.defers = a.defers → Q .normal a' K'.w) → wpOps P ops Q l a K.w := by
  intro gl
  induction gl with
  | nil =>
    intro l K t a hok hs hF ht hk hQ
    cases l with
    | nil => exact hQ t K a hk (KStep.refl K) hF hs ht rfl
    | cons _ _ => cases hok
  | cons g gs ih =>
    intro l K t a hok hs hF ht hk hQ
    cases l with
    | nil => cases hok
    | cons i is =>
      simp only [okOpers, Bool.and_eq_true] at hok
      obtain ⟨h1, h2⟩ := hok
      split at h1
      · rename_i o ho
        rw [wpOps_cons]
        exact oper_step ho h1 hs hF ht hk fun t' K' a' q1 q2 q3 q4 q5 q6 =>
          ih is K' t' a' h2 q4 q3 q5 q1 fun t2 K2 a2 r1 r2 r3 r4 r5 r6 => hQ t2 K2 a2 r1 (q2.trans r2) r3 r4 r5 (r6.trans q6)
      · cases h1

/-- the slots that an operation looks at -/
def lookT (g : GOper) : List Nat := gopT g.op ++ (match g.guard with | none => [] | some (j, _) => [j])
def mbit (ms : List Nat) (i j : Nat) : Bool := (ms.getD i 0).testBit j
/-- is each j of an operation's mask one that comes before it? -/
def okMask (ops : Array Oper) (ms : List Nat) (i : Nat) : Bool := match ops[i]? with
  | none => false
  | some o => (o.after.toList.all fun e => !(Region.binds .any e) || decide (e.on < i)) && (List.range ops.size).all fun j => !(mbit ms i j) || (decide (j < i) && o.after.toList.any fun e => Region.binds .any e && (e.on == j || (decide (e.on < i) && mbit ms e.on j)))
def comp (ms : List Nat) (i k : Nat) : Bool := mbit ms i k || mbit ms k i
/-- may this operation come ahead of the region's first one, a plain move? -/
def okFree (pre : List GOper) (g : Option GOper) : Bool := match pre, g with
  | ⟨some d, .mov (.t s), none⟩ :: rest, some g => s != d && !((lookT g).contains d) && g.dst != some d && g.dst != some s && rest.all fun o => o.dst != some d && o.dst != some s
  | _, _ => false
def okDraw (P : Program) (ops : Array Oper) (ms : List Nat) (pre tail : List GOper) : Bool :=
  okOpers P ops (List.range pre.length) pre && okOpers P ops (List.range' pre.length tail.length) tail && ops.size == pre.length + tail.length &&
  (List.range ops.size).all (okMask ops ms) && ms.all (fun m => decide (m < 2 ^ ops.size)) &&
  (List.range pre.length).all (fun i => (List.range pre.length).all fun k => i == k || (match (pre[i]?), (pre[k]?) with
    | some gi, some gk => (match gk.dst with
      | none => true
      | some d => (!((lookT gi).contains d) && !(gi.dst == some d)) || comp ms i k)
    | _, _ => false)) &&
  (List.range' pre.length tail.length).all (fun j => (List.range j).all fun i => mbit ms j i || (i == 0 && okFree pre tail[j - pre.length]?))
end
end Go.Proofs.Ytdpibcniodhinaa.Gh
/- A region whose order is open: the induction over all orders. -/
namespace Go.Proofs.Ytdpibcniodhinaa.Gh
open Go Go.RowKit
set_option linter.unusedVariables false
set_option linter.unusedSimpArgs false

theorem okOpers_at {P : Program} {ops : Array Oper} : ∀ (gl : List GOper) (l : List Nat), okOpers P ops l gl = true → l.length = gl.length ∧ ∀ i (h1 : i < l.length) (h2 : i < gl.length), ∃ o, ops[l[i]]? = some o ∧ okOper P ops o gl[i] = true := by
  intro gl
  induction gl with
  | nil => intro l h; cases l with
    | nil => exact ⟨rfl, fun i h1 _ => by simp at h1⟩
    | cons _ _ => cases h
  | cons g gs ih =>
    intro l h
    cases l with
    | nil => cases h
    | cons x xs =>
      simp only [okOpers, Bool.and_eq_true] at h
      obtain ⟨h1, h2⟩ := h
      obtain ⟨e1, e2⟩ := ih xs h2
      refine ⟨by simp [e1], fun i q1 q2 => ?_⟩
      cases i with
      | zero =>
        split at h1
        · rename_i o ho; exact ⟨o, ho, h1⟩
        · cases h1
      | succ i => exact e2 i (by simpa using q1) (by simpa using q2)

def pdst (pre : List GOper) (k : Nat) : Option Nat := (pre[k]?).bind (·.dst)
theorem pdst_at {pre : List GOper} {i : Nat} (h : i < pre.length) : pdst pre i = pre[i].dst := by simp [pdst, h]
theorem put_gat (t : List GV) (d : Option Nat) (g : GV) (j : Nat) (hj : j < t.length) : gat (put t d g) j = if d = some j then g else gat t j := by
  cases d with
  | none => simp [put]
  | some d =>
    simp only [put, Option.some.injEq]
    by_cases e : d = j
    · subst e; rw [gat_set _ _ _ _ hj, if_pos rfl]
    · rw [if_neg e]
      simp only [gat, List.getD_eq_getElem?_getD, List.getElem?_set]
      simp [e]
theorem put_vat (a : Act) (d : Option Nat) (v : Value) (j : Nat) (hj : j < a.tmps.size) : vat (a.put d v).tmps j = if d = some j then v else vat a.tmps j := by
  cases d with
  | none => simp [Act.put]
  | some d =>
    simp only [Act.put, Option.some.injEq]
    by_cases e : d = j
    · subst e; simp [vat, Array.getD, hj]
    · rw [if_neg e]; simp [vat, Array.getD, hj, e]
theorem put_len (t : List GV) (d : Option Nat) (g : GV) : (put t d g).length = t.length := by cases d <;> simp [put]

/-- the slots in the text's order: the last that wrote -/
theorem chain_slots {pre : List GOper} {t0 : List GV} {T : Nat → List GV} {G : Nat → GV} (h0 : T 0 = t0) (hstep : ∀ i (hi : i < pre.length), T (i + 1) = put (T i) pre[i].dst (G i)) :
    ∀ i, i ≤ pre.length → (T i).length = t0.length ∧ ∀ j, j < t0.length → (∃ k, k < i ∧ pdst pre k = some j ∧ (∀ k', k < k' → k' < i → pdst pre k' ≠ some j) ∧ gat (T i) j = G k) ∨ ((∀ k, k < i → pdst pre k ≠ some j) ∧ gat (T i) j = gat t0 j) := by
  intro i
  induction i with
  | zero => intro _; exact ⟨by rw [h0], fun j hj => .inr ⟨fun k hk => by omega, by rw [h0]⟩⟩
  | succ i ih =>
    intro hi
    obtain ⟨l, h⟩ := ih (by omega)
    have hd := pdst_at (pre := pre) (i := i) (by omega)
    refine ⟨by rw [hstep i (by omega), put_len, l], fun j hj => ?_⟩
    rw [hstep i (by omega), put_gat _ _ _ _ (by rw [l]; exact hj)]
    by_cases e : pre[i].dst = some j
    · rw [if_pos e]
      exact .inl ⟨i, by omega, by rw [hd]; exact e, fun k' a b => by omega, rfl⟩
    · rw [if_neg e]
      rcases h j hj with ⟨k, h1, h2, h3, h4⟩ | ⟨h1, h2⟩
      · exact .inl ⟨k, by omega, h2, fun k' a b => by
          by_cases ek : k' = i
          · subst ek; rw [hd]; exact e
          · exact h3 k' a (by omega), h4⟩
      · exact .inr ⟨fun k hk => by
          by_cases ek : k = i
          · subst ek; rw [hd]; exact e
          · exact h1 k (by omega), h2⟩
theorem chain_names {p : Nat} {W : Nat → Option (List GV)} {NM : Nat → Nat} (hstep : ∀ i, i < p → NM (i + 1) = nxt (NM i) (W i)) : ∀ i j, i ≤ j → j ≤ p → NM i ≤ NM j ∧ (i < j → W i ≠ none → NM i < NM j) := by
  intro i j hij
  induction j with
  | zero => intro _; have : i = 0 := by omega
            subst this; exact ⟨Nat.le_refl _, fun h => by omega⟩
  | succ j ih =>
    intro hj
    by_cases e : i = j + 1
    · subst e; exact ⟨Nat.le_refl _, fun h => by omega⟩
    · obtain ⟨h1, h2⟩ := ih (by omega) (by omega)
      rw [hstep j (by omega)]
      have hn : NM j ≤ nxt (NM j) (W j) := by cases W j <;> simp [nxt]
      refine ⟨by omega, fun _ hw => ?_⟩
      by_cases ej : i = j
      · subst ej
        cases h : W i with
        | none => exact absurd h hw
        | some cs => simp [nxt]
      · have := h2 (by omega) hw; omega
theorem chain_heaps {p : Nat} {H0 : Heap} {n0 : Nat} {W : Nat → Option (List GV)} {NM : Nat → Nat} {Hs : Nat → Heap} (hF : Fr H0 n0) (h0 : Hs 0 = H0) (hn : NM 0 = n0) (hstep : ∀ i, i < p → NM (i + 1) = nxt (NM i) (W i) ∧ Hs (i + 1) = updo (Hs i) (NM i) (W i)) :
    ∀ i, i ≤ p → (∀ b, b < n0 → Hs i b = H0 b) ∧ (∀ k cs, k < i → W k = some cs → Hs i (NM k) = some cs) ∧ ∀ b, n0 ≤ b → (∀ k, k < i → W k ≠ none → NM k ≠ b) → Hs i b = none := by
  intro i
  have hnames := chain_names (p := p) fun i hi => (hstep i hi).1
  induction i with
  | zero => intro _; rw [h0]; exact ⟨fun _ _ => rfl, fun k cs hk => by omega, fun b hb _ => hF b hb⟩
  | succ i ih =>
    intro hi
    obtain ⟨h1, h2, h3⟩ := ih (by omega)
    rw [(hstep i (by omega)).2]
    have hge : n0 ≤ NM i := by rw [← hn]; exact (hnames 0 i (by omega) (by omega)).1
    cases hw : W i with
    | none =>
      refine ⟨h1, fun k cs hk hk2 => ?_, fun b hb hall => h3 b hb fun k hk => hall k (by omega)⟩
      by_cases e : k = i
      · subst e; rw [hw] at hk2; cases hk2
      · exact h2 k cs (by omega) hk2
    | some cs0 =>
      refine ⟨fun b hb => ?_, fun k cs hk hk2 => ?_, fun b hb hall => ?_⟩
      · show upd (Hs i) (NM i) _ b = _
        rw [upd_ne _ _ (by omega)]; exact h1 b hb
      · show upd (Hs i) (NM i) _ (NM k) = _
        by_cases e : k = i
        · subst e; rw [upd_same, ← hw]; exact hk2
        · have := (hnames k i (by omega) (by omega)).2 (by omega) (by rw [hk2]; simp)
          rw [upd_ne _ _ (by omega)]; exact h2 k cs (by omega) hk2
      · show upd (Hs i) (NM i) _ b = _
        have := hall i (by omega) (by rw [hw]; simp)
        rw [upd_ne _ _ (Ne.symm this)]
        exact h3 b hb fun k hk => hall k (by omega)

/-- while a drawn region goes on: what holds when the operations with L have been done -/
structure Inv (pre : List GOper) (ops : Array Oper) (t0 : List GV) (G : Nat → GV) (W : Nat → Option (List GV)) (NM : Nat → Nat) (K0 : Kr) (a0 : Act) (L : Nat → Bool) (a : Act) (K : Kr) : Prop where
  sat : Sat K
  lo : K.lo = K0.lo
  step : KStep K0 K
  old : ∀ b, b < K0.lo → K.H b = K0.H b
  news : ∀ i cs, i < pre.length → L i = true → W i = some cs → K.H (NM i) = some cs
  non : ∀ b, K0.lo ≤ b → (∀ i, i < pre.length → L i = true → W i ≠ none → NM i ≠ b) → K.H b = none
  size : a.tmps.size = t0.length
  slots : ∀ j, j < t0.length → (∃ i, i < pre.length ∧ L i = true ∧ pdst pre i = some j ∧ (∀ k, k < pre.length → i < k → L k = true → pdst pre k ≠ some j) ∧ VR K (G i) (vat a.tmps j)) ∨ ((∀ i, i < pre.length → L i = true → pdst pre i ≠ some j) ∧ VR K (gat t0 j) (vat a.tmps j))
  defers : a.defers = a0.defers
  closed : ∀ i o, ops[i]? = some o → L i = true → ∀ e ∈ o.after, Region.binds .any e = true → L e.on = true

section
variable {P : Program} {ops : Array Oper} {ms : List Nat}
theorem mask_closed (hm : ∀ i, i < ops.size → okMask ops ms i = true) (hb : ∀ i j, mbit ms i j = true → j < ops.size) {L : Nat → Bool} (hL : ∀ i, L i = true → i < ops.size) (hc : ∀ i o, ops[i]? = some o → L i = true → ∀ e ∈ o.after, Region.binds .any e = true → L e.on = true) :
    ∀ n i, i ≤ n → i < ops.size → (∀ o, ops[i]? = some o → ∀ e ∈ o.after, Region.binds .any e = true → L e.on = true) → ∀ j, mbit ms i j = true → j < i ∧ L j = true := by
  intro n
  induction n with
  | zero =>
    intro i hi hsz hp j hj
    have := hm i hsz
    unfold okMask at this
    split at this
    · cases this
    · rename_i o ho
      simp only [Bool.and_eq_true, List.all_eq_true, List.mem_range] at this
      have := this.2 j (hb i j hj)
      rw [hj] at this
      simp only [Bool.not_true, Bool.false_or, Bool.and_eq_true, decide_eq_true_eq] at this
      omega
  | succ n ih =>
    intro i hi hsz hp j hj
    have := hm i hsz
    unfold okMask at this
    split at this
    · cases this
    · rename_i o ho
      simp only [Bool.and_eq_true, List.all_eq_true, List.mem_range] at this
      have := this.2 j (hb i j hj)
      rw [hj] at this
      simp only [Bool.not_true, Bool.false_or, Bool.and_eq_true, decide_eq_true_eq, List.any_eq_true, Bool.or_eq_true, beq_iff_eq] at this
      obtain ⟨hji, e, he, hbind, hor⟩ := this
      refine ⟨hji, ?_⟩
      have hLe := hp o ho e (by simpa using he) hbind
      rcases hor with hor | ⟨h1, h2⟩
      · rw [← hor]; exact hLe
      · exact (ih e.on (by omega) (hL _ hLe) (fun o' ho' => hc e.on o' ho' hLe) j h2).2
end
end Go.Proofs.Ytdpibcniodhinaa.Gh
/- A region whose order is open ends as the ghost code says, in whatever order. -/
namespace Go.Proofs.Ytdpibcniodhinaa.Gh
open Go Go.RowKit
set_option linter.unusedVariables false
set_option linter.unusedSimpArgs false

/-- how many are still to come -/
def left (L : Nat → Bool) : Nat → Nat
  | 0 => 0
  | n + 1 => left L n + if L n then 0 else 1
theorem left_zero {L : Nat → Bool} : ∀ {n : Nat}, left L n = 0 → ∀ i, i < n → L i = true := by
  intro n
  induction n with
  | zero => intro _ i hi; omega
  | succ n ih =>
    intro h i hi
    simp only [left] at h
    by_cases e : i = n
    · subst e
      cases hl : L i with
      | true => rfl
      | false => rw [hl] at h; simp at h
    · exact ih (by omega) i (by omega)
theorem left_set {L L' : Nat → Bool} {i : Nat} (h0 : L i = false) (h1 : L' i = true) (h : ∀ j, j ≠ i → L' j = L j) : ∀ n, left L n = left L' n + if i < n then 1 else 0 := by
  intro n
  induction n with
  | zero => simp [left]
  | succ n ih =>
    simp only [left]
    by_cases e : n = i
    · subst e
      rw [ih, h0, h1, if_neg (Nat.lt_irrefl _), if_pos (Nat.lt_succ_self _)]; simp
    · rw [ih, h n e]
      generalize (if L n = true then 0 else 1) = z
      by_cases hlt : i < n
      · simp only [if_pos hlt, if_pos (show i < n + 1 by omega)]; omega
      · simp only [if_neg hlt, if_neg (show ¬ i < n + 1 by omega)]; omega

section
variable {P : Program} {ops : Array Oper} {ms : List Nat} {pre tail : List GOper} {k : List GV → Heap → Nat → Prop} {Q : Exit → Act → World → Prop}

/-- this operation may come ahead of the region's first one, a plain move -/
def Free (pre : List GOper) (g : GOper) : Prop := ∃ d s rest, pre = ⟨some d, .mov (.t s), none⟩ :: rest ∧ s ≠ d ∧ d ∉ lookT g ∧ g.dst ≠ some d ∧ g.dst ≠ some s ∧ ∀ o ∈ rest, o.dst ≠ some d ∧ o.dst ≠ some s
theorem Free.of {pre : List GOper} {g : Option GOper} (h : okFree pre g = true) : ∃ g', g = some g' ∧ Free pre g' := by
  unfold okFree at h
  split at h
  · rename_i d s rest g'
    simp only [Bool.and_eq_true, bne_iff_ne, Bool.not_eq_true', List.all_eq_true] at h
    obtain ⟨⟨⟨⟨h1, h2⟩, h3⟩, h4⟩, h5⟩ := h
    exact ⟨g', rfl, d, s, rest, rfl, h1, (fun hd => by rw [List.contains_iff_mem.2 hd] at h2; cases h2), h3, h4, h5⟩
  · cases h

structure Drawn (P : Program) (ops : Array Oper) (ms : List Nat) (pre tail : List GOper) : Prop where
  hpre : ∀ i (h : i < pre.length), ∃ o, ops[i]? = some o ∧ okOper P ops o pre[i] = true
  htail : ∀ i (h : i < tail.length), ∃ o, ops[pre.length + i]? = some o ∧ okOper P ops o tail[i] = true
  size : ops.size = pre.length + tail.length
  mask : ∀ i, i < ops.size → okMask ops ms i = true
  low : ∀ i j, mbit ms i j = true → j < ops.size
  pair : ∀ i k (hi : i < pre.length) (hk : k < pre.length), i ≠ k → ∀ d, pre[k].dst = some d → (d ∈ lookT pre[i] ∨ pre[i].dst = some d) → comp ms i k = true
  late : ∀ j, pre.length ≤ j → j < ops.size → ∀ i, i < j → mbit ms j i = true ∨ (i = 0 ∧ ∃ g, tail[j - pre.length]? = some g ∧ Free pre g)

theorem Drawn.of (h : okDraw P ops ms pre tail = true) : Drawn P ops ms pre tail := by
  simp only [okDraw, Bool.and_eq_true, beq_iff_eq] at h
  obtain ⟨⟨⟨⟨⟨⟨h1, h2⟩, h3⟩, h4⟩, h5⟩, h6⟩, h7⟩ := h
  obtain ⟨_, p2⟩ := okOpers_at _ _ h1
  obtain ⟨_, t2⟩ := okOpers_at _ _ h2
  refine ⟨fun i hi => ?_, fun i hi => ?_, h3, fun i hi => ?_, fun i j hij => ?_, fun i k hi hk hne d hd hor => ?_, fun j hj1 hj2 i hij => ?_⟩
  · obtain ⟨o, ho, hok⟩ := p2 i (by simpa using hi) hi
    exact ⟨o, by simpa using ho, hok⟩
  · obtain ⟨o, ho, hok⟩ := t2 i (by simpa using hi) hi
    exact ⟨o, by simpa using ho, hok⟩
  · exact List.all_eq_true.1 h4 i (by simpa using hi)
  · rcases Nat.lt_or_ge j ops.size with hlt | hge
    · exact hlt
    · exfalso
      unfold mbit at hij
      have hmi : ms.getD i 0 < 2 ^ ops.size := by
        rw [List.getD_eq_getElem?_getD]
        cases hq : ms[i]? with
        | none => simp; exact Nat.two_pow_pos _
        | some m =>
          have := List.all_eq_true.1 h5 m (List.mem_of_getElem? hq)
          simpa using this
      have hle : 2 ^ ops.size ≤ 2 ^ j := Nat.pow_le_pow_right (by omega) hge
      rw [Nat.testBit_lt_two_pow (by omega)] at hij
      cases hij
  · have := List.all_eq_true.1 (List.all_eq_true.1 h6 i (by simpa using hi)) k (by simpa using hk)
    simp only [Bool.or_eq_true, beq_iff_eq] at this
    rcases this with this | this
    · exact absurd this hne
    · rw [List.getElem?_eq_getElem hi, List.getElem?_eq_getElem hk] at this
      simp only [hd, Bool.or_eq_true, Bool.and_eq_true, Bool.not_eq_true', beq_eq_false_iff_ne] at this
      rcases this with ⟨h1, h2⟩ | h
      · rcases hor with hor | hor
        · rw [List.contains_iff_mem.2 hor] at h1; cases h1
        · exact absurd hor h2
      · exact h
  · have := List.all_eq_true.1 h7 j (by simp [List.mem_range']; exact ⟨j - pre.length, by omega, by omega⟩)
    have := List.all_eq_true.1 this i (by simpa using hij)
    simp only [Bool.or_eq_true, Bool.and_eq_true, beq_iff_eq] at this
    rcases this with this | ⟨h0, hf⟩
    · exact .inl this
    · exact .inr ⟨h0, Free.of hf⟩

theorem TR.undef {K : Kr} {t : List GV} {tm : Array Value} (h : TR K t tm) (d : Nat) : TR K (t.set d .undef) tm := by
  refine ⟨by rw [List.length_set]; exact h.1, fun j => ?_⟩
  by_cases e : d = j
  · subst e
    rcases Nat.lt_or_ge d t.length with hd | hd
    · have : gat (t.set d .undef) d = .undef := by simp [gat, List.getD_eq_getElem?_getD, hd]
      rw [this]; exact .undef _
    · rw [List.set_eq_of_length_le hd]; exact h.2 d
  · have : gat (t.set d .undef) j = gat t j := by simp [gat, List.getD_eq_getElem?_getD, List.getElem?_set_ne e]
    rw [this]; exact h.2 j
theorem set_back {t : List GV} {d : Nat} {v : GV} (h : d < t.length → gat t d = v) : (t.set d .undef).set d v = t := by
  rw [List.set_set]
  rcases Nat.lt_or_ge d t.length with hd | hd
  · rw [← h hd]
    apply List.ext_getElem
    · simp
    · intro j h1 h2
      by_cases e : d = j
      · subst e; simp [gat, List.getD_eq_getElem?_getD, hd]
      · rw [List.getElem_set_ne e]
  · exact List.set_eq_of_length_le hd
theorem gat_set_ne (t : List GV) {d j : Nat} (v : GV) (e : d ≠ j) : gat (t.set d v) j = gat t j := by simp [gat, List.getD_eq_getElem?_getD, List.getElem?_set_ne e]
theorem gops_mask {g : GOper} {rest : List GOper} {t : List GV} {H : Heap} {n d s : Nat} (hd : d ∉ lookT g) (h1 : g.dst ≠ some d) (h2 : g.dst ≠ some s) (hsd : s ≠ d) (hv : d < t.length → gat t d = gat t s) (hk : gops P (g :: rest) k t H n) :
    gops P [g] (fun t1 H1 n1 => gat t1 s = gat t s ∧ t1.length = t.length ∧ gops P rest k (t1.set d (gat t s)) H1 n1) (t.set d .undef) H n := by
  have A : ∀ g', (put (t.set d .undef) g.dst g').set d (gat t s) = put t g.dst g' := by
    intro g'
    cases hgd : g.dst with
    | none => exact set_back hv
    | some j =>
      have hj : d ≠ j := fun e => h1 (by rw [hgd, e])
      show (((t.set d .undef).set j g').set d (gat t s)) = t.set j g'
      rw [List.set_comm _ _ (Ne.symm hj), set_back hv]
  have B : ∀ g', gat (put (t.set d .undef) g.dst g') s = gat t s := by
    intro g'
    cases hgd : g.dst with
    | none => exact gat_set_ne _ _ (Ne.symm hsd)
    | some j =>
      have hj : j ≠ s := fun e => h2 (by rw [hgd, e])
      show gat ((t.set d .undef).set j g') s = _
      rw [gat_set_ne _ _ hj, gat_set_ne _ _ (Ne.symm hsd)]
  have C : ∀ g', (put (t.set d .undef) g.dst g').length = t.length := fun g' => by rw [put_len, List.length_set]
  have E : (fun g' H' n' => gops P [] (fun t1 H1 n1 => gat t1 s = gat t s ∧ t1.length = t.length ∧ gops P rest k (t1.set d (gat t s)) H1 n1) (put (t.set d .undef) g.dst g') H' n') = fun g' H' n' => gops P rest k (put t g.dst g') H' n' := by
    funext g' H' n'
    show (gat (put (t.set d .undef) g.dst g') s = gat t s ∧ (put (t.set d .undef) g.dst g').length = t.length ∧ gops P rest k ((put (t.set d .undef) g.dst g').set d (gat t s)) H' n') = _
    rw [A, B, C]
    simp
  have look : ∀ i, i ∈ lookT g → gat t i = gat (t.set d .undef) i := fun i hi => (gat_set_ne _ _ fun e => hd (by rw [e]; exact hi)).symm
  simp only [gops] at hk ⊢
  simp only [gops] at E
  split at hk
  · rename_i hg
    rw [E]
    exact gop_congr (fun i hi => look i (by simp [lookT, hi])) hk
  · rename_i j want hg
    have hj := look j (by simp [lookT, hg])
    rw [← hj]
    split at hk
    · rename_i b hb
      split at hk
      · rename_i hbw
        rw [if_pos hbw, E]
        exact gop_congr (fun i hi => look i (by simp [lookT, hi])) hk
      · rename_i hbw
        rw [if_neg hbw, A, B, C]
        exact ⟨rfl, rfl, hk⟩
    · rw [A, B, C]
      exact ⟨rfl, rfl, hk⟩
    · exact hk.elim

variable (D : Drawn P ops ms pre tail)
include D

/-- the operations behind the open ones come in the text's order -/
theorem draw_tail {K0 : Kr} {a0 : Act} (hQ : ∀ t' K' a', k t' K'.H K'.lo → KStep K0 K' → Fr K'.H K'.lo → Sat K' → a'.defers = a0.defers → TR K' t' a'.tmps → Q .normal a' K'.w) :
    ∀ (fuel m : Nat) (listed : Array Bool) (K : Kr) (t : List GV) (a : Act), m ≤ tail.length → tail.length - m ≤ fuel → listed.size = ops.size → (∀ i, i < ops.size → listed.getD i false = decide (i < pre.length + m)) →
      gops P (tail.drop m) k t K.H K.lo → KStep K0 K → Sat K → Fr K.H K.lo → TR K t a.tmps → a.defers = a0.defers → wpAny P .any ops Q fuel listed a K.w := by
  have hsz := D.size
  have done : ∀ (m : Nat) (listed : Array Bool) (K : Kr) (t : List GV) (a : Act), m = tail.length → gops P (tail.drop m) k t K.H K.lo → KStep K0 K → Sat K → Fr K.H K.lo → TR K t a.tmps → a.defers = a0.defers → Q .normal a K.w := by
    intro m listed K t a hm hk q1 q2 q3 q4 q5
    rw [hm, List.drop_length] at hk
    exact hQ t K a hk q1 q3 q2 q5 q4
  have getT : ∀ (listed : Array Bool) (i : Nat), listed.size = ops.size → i < ops.size → listed.getD i true = listed.getD i false := by
    intro listed i h1 h2
    have : i < listed.size := by omega
    simp [Array.getD, this]
  intro fuel
  induction fuel with
  | zero =>
    intro m listed K t a hm hf hls hl hk q1 q2 q3 q4 q5
    have hmm : m = tail.length := by omega
    refine ⟨?_, done m listed K t a hmm hk q1 q2 q3 q4 q5⟩
    rw [List.eq_nil_iff_forall_not_mem]
    intro j hj
    rw [mem_ready] at hj
    obtain ⟨h0, o, ho, _⟩ := hj
    have hjs : j < ops.size := (Array.getElem?_eq_some_iff.1 ho).1
    rw [getT listed j hls hjs, hl j hjs] at h0
    simp at h0; omega
  | succ fuel ih =>
    intro m listed K t a hm hf hls hl hk q1 q2 q3 q4 q5
    by_cases hmm : m = tail.length
    · have hnone : Region.ready .any ops listed = [] := by
        rw [List.eq_nil_iff_forall_not_mem]
        intro j hj
        rw [mem_ready] at hj
        obtain ⟨h0, o, ho, _⟩ := hj
        have hjs : j < ops.size := (Array.getElem?_eq_some_iff.1 ho).1
        rw [getT listed j hls hjs, hl j hjs] at h0
        simp at h0; omega
      exact ⟨fun _ => done m listed K t a hmm hk q1 q2 q3 q4 q5, fun i hi => by rw [hnone] at hi; cases hi⟩
    · have hmlt : m < tail.length := by omega
      obtain ⟨o, ho, hok⟩ := D.htail m hmlt
      have hclosed : ∀ i o', ops[i]? = some o' → listed.getD i false = true → ∀ e ∈ o'.after, Region.binds .any e = true → listed.getD e.on false = true := by
        intro i o' ho' hli e he hb
        have his : i < ops.size := (Array.getElem?_eq_some_iff.1 ho').1
        have := D.mask i his
        unfold okMask at this
        rw [ho'] at this
        simp only [Bool.and_eq_true, List.all_eq_true] at this
        have := this.1 e (by simpa using he)
        rw [hb] at this
        simp at this
        rw [hl i his] at hli
        rw [hl e.on (by omega)]
        simp at hli ⊢; omega
      have only : ∀ i, i ∈ Region.ready .any ops listed → i = pre.length + m := by
        intro i hi
        rw [mem_ready] at hi
        obtain ⟨h0, o', ho', hall⟩ := hi
        have his : i < ops.size := (Array.getElem?_eq_some_iff.1 ho').1
        rw [getT listed i hls his, hl i his] at h0
        simp at h0
        rcases Nat.lt_or_ge (pre.length + m) i with hlt | hge
        · exfalso
          have hb : mbit ms i (pre.length + m) = true := by
            rcases D.late i (by omega) his (pre.length + m) hlt with hb | ⟨h0', g', _, d, s, rest, hp, _⟩
            · exact hb
            · rw [hp] at h0'; simp at h0'
          have hL : ∀ i, listed.getD i false = true → i < ops.size := by
            intro i hi
            rcases Nat.lt_or_ge i listed.size with h | h
            · omega
            · simp [Array.getD, Nat.not_lt.2 h] at hi
          have := (mask_closed D.mask D.low (L := fun i => listed.getD i false) hL hclosed i i (Nat.le_refl _) his (fun o2 ho2 e he hbd => by rw [ho'] at ho2; cases ho2; exact hall e he hbd) _ hb).2
          have this : listed.getD (pre.length + m) false = true := this
          rw [hl _ (by omega)] at this
          simp at this
        · omega
      have isready : pre.length + m ∈ Region.ready .any ops listed := by
        rw [mem_ready]
        refine ⟨by rw [getT listed _ hls (by omega), hl _ (by omega)]; simp, o, ho, fun e he hb => ?_⟩
        have := D.mask (pre.length + m) (by omega)
        unfold okMask at this
        rw [ho] at this
        simp only [Bool.and_eq_true, List.all_eq_true] at this
        have := this.1 e (by simpa using he)
        rw [hb] at this
        simp at this
        rw [hl e.on (by omega)]
        simpa using this
      refine ⟨fun hnil => (by rw [hnil] at isready; cases isready), fun i hi => ?_⟩
      have hi := only i hi
      subst hi
      have hdrop : tail.drop m = tail[m] :: tail.drop (m + 1) := List.drop_eq_getElem_cons hmlt
      rw [hdrop] at hk
      refine oper_step ho hok q2 q3 q4 hk fun t' K' a' r1 r2 r3 r4 r5 r6 => ?_
      refine ih (m + 1) _ K' t' a' (by omega) (by omega) (by simpa using hls) ?_ r1 (q1.trans r2) r4 r3 r5 (r6.trans q5)
      intro j hj
      by_cases e : pre.length + m = j
      · subst e
        have : pre.length + m < listed.size := by omega
        simp [Array.getD, this]
      · rw [getD_set_ne false e, hl j hj]
        simp; omega

/-- all but a plain move at the region's head are done: what comes behind needs not wait for it -/
theorem draw_tail1 {K0 : Kr} {a0 : Act} (hQ : ∀ t' K' a', k t' K'.H K'.lo → KStep K0 K' → Fr K'.H K'.lo → Sat K' → a'.defers = a0.defers → TR K' t' a'.tmps → Q .normal a' K'.w) {d s : Nat} {prest : List GOper} (hz : pre = ⟨some d, .mov (.t s), none⟩ :: prest) (hsd : s ≠ d) :
    ∀ (fuel m : Nat) (listed : Array Bool) (K : Kr) (t : List GV) (a : Act), m ≤ tail.length → tail.length - m + 1 ≤ fuel → listed.size = ops.size → (∀ i, i < ops.size → listed.getD i false = decide (i ≠ 0 ∧ i < pre.length + m)) → (d < t.length → gat t d = gat t s) →
      (∀ i o', ops[i]? = some o' → listed.getD i false = true → ∀ e ∈ o'.after, Region.binds .any e = true → listed.getD e.on false = true) → gops P (tail.drop m) k t K.H K.lo → KStep K0 K → Sat K → Fr K.H K.lo → TR K (t.set d .undef) a.tmps → a.defers = a0.defers → wpAny P .any ops Q fuel listed a K.w := by
  have hsz := D.size
  have hpl : 0 < pre.length := by rw [hz]; simp
  have getT : ∀ (listed : Array Bool) (i : Nat), listed.size = ops.size → i < ops.size → listed.getD i true = listed.getD i false := by
    intro listed i h1 h2
    have : i < listed.size := by omega
    simp [Array.getD, this]
  intro fuel
  induction fuel with
  | zero => intro m listed K t a hm hf; omega
  | succ fuel ih =>
    intro m listed K t a hm hf hls hl hv hclosed hk q1 q2 q3 q4 q5
    obtain ⟨o0, ho0, hok0⟩ := D.hpre 0 hpl
    have isready : 0 ∈ Region.ready .any ops listed := by
      rw [mem_ready]
      refine ⟨by rw [getT listed _ hls (by omega), hl _ (by omega)]; simp, o0, ho0, fun e he hb => ?_⟩
      have := D.mask 0 (by omega)
      unfold okMask at this
      rw [ho0] at this
      simp only [Bool.and_eq_true, List.all_eq_true] at this
      have := this.1 e (by simpa using he)
      rw [hb] at this
      simp at this
    refine ⟨fun hnil => (by rw [hnil] at isready; cases isready), fun i hi => ?_⟩
    by_cases hi0 : i = 0
    · subst hi0
      have hp0 : pre[0] = ⟨some d, .mov (.t s), none⟩ := by simp only [hz]; rfl
      rw [hp0] at hok0
      have hk0 : gops P (⟨some d, .mov (.t s), none⟩ :: tail.drop m) k (t.set d .undef) K.H K.lo := by
        show gops P (tail.drop m) k ((t.set d .undef).set d (gat (t.set d .undef) s)) K.H K.lo
        rw [gat_set_ne _ _ (Ne.symm hsd), set_back hv]
        exact hk
      refine oper_step ho0 hok0 q2 q3 q4 hk0 fun t' K' a' r1 r2 r3 r4 r5 r6 => ?_
      refine draw_tail D hQ fuel m _ K' t' a' hm (by omega) (by simpa using hls) ?_ r1 (q1.trans r2) r4 r3 r5 (r6.trans q5)
      intro j hj
      by_cases e : 0 = j
      · subst e
        have : 0 < listed.size := by omega
        have h1 : (listed.setIfInBounds 0 true).getD 0 false = true := by simp [Array.getD, this]
        rw [h1]; exact (decide_eq_true (by omega)).symm
      · rw [getD_set_ne false e, hl j hj]
        exact decide_eq_decide.2 ⟨fun h => h.2, fun h => ⟨Ne.symm e, h⟩⟩
    · rw [mem_ready] at hi
      obtain ⟨h0, o', ho', hall⟩ := hi
      have his : i < ops.size := (Array.getElem?_eq_some_iff.1 ho').1
      rw [getT listed i hls his, hl i his] at h0
      simp at h0
      have h0 := h0 hi0
      have hL : ∀ i, listed.getD i false = true → i < ops.size := by
        intro i hi
        rcases Nat.lt_or_ge i listed.size with h | h
        · omega
        · simp [Array.getD, Nat.not_lt.2 h] at hi
      have hcl := mask_closed D.mask D.low (L := fun i => listed.getD i false) hL hclosed i i (Nat.le_refl _) his (fun o2 ho2 e he hbd => by rw [ho'] at ho2; cases ho2; exact hall e he hbd)
      have him : i = pre.length + m := by
        rcases Nat.lt_or_ge (pre.length + m) i with hlt | hge
        · exfalso
          rcases D.late i (by omega) his (pre.length + m) hlt with hb | ⟨h0', _⟩
          · have hq : listed.getD (pre.length + m) false = true := (hcl _ hb).2
            rw [hl _ (by omega)] at hq; simp at hq
          · omega
        · omega
      have hmlt : m < tail.length := by omega
      have hfree : Free pre tail[m] := by
        rcases D.late i (by omega) his 0 (by omega) with hb | ⟨_, g', hg', hf⟩
        · exfalso
          have hq : listed.getD 0 false = true := (hcl _ hb).2
          rw [hl 0 (by omega)] at hq; simp at hq
        · rw [him, Nat.add_sub_cancel_left, List.getElem?_eq_getElem hmlt] at hg'
          cases hg'; exact hf
      obtain ⟨d', s', rest', hp', f1, f2, f3, f4, f5⟩ := hfree
      rw [hz] at hp'
      injection hp' with hp1 hp2
      injection hp1 with hp3 hp4
      injection hp3 with hp3
      injection hp4 with hp4
      injection hp4 with hp4
      subst hp3 hp4
      obtain ⟨o, ho, hok⟩ := D.htail m hmlt
      subst him
      have hdrop : tail.drop m = tail[m] :: tail.drop (m + 1) := List.drop_eq_getElem_cons hmlt
      rw [hdrop] at hk
      refine oper_step ho hok q2 q3 q4 (gops_mask f2 f3 f4 hsd hv hk) fun t' K' a' r1 r2 r3 r4 r5 r6 => ?_
      obtain ⟨r1, r7, r8⟩ := r1
      refine ih (m + 1) _ K' (t'.set d (gat t s)) a' (by omega) (by omega) (by simpa using hls) ?_ ?_ ?_ r8 (q1.trans r2) r4 r3 ?_ (r6.trans q5)
      · intro j hj
        by_cases e : pre.length + m = j
        · subst e
          have : pre.length + m < listed.size := by omega
          have h1 : (listed.setIfInBounds (pre.length + m) true).getD (pre.length + m) false = true := by simp [Array.getD, this]
          rw [h1]; exact (decide_eq_true ⟨by omega, by omega⟩).symm
        · rw [getD_set_ne false e, hl j hj]
          exact decide_eq_decide.2 ⟨fun h => ⟨h.1, by omega⟩, fun h => ⟨h.1, by omega⟩⟩
      · intro hd
        rw [List.length_set] at hd
        have : gat (t'.set d (gat t s)) d = gat t s := by simp [gat, List.getD_eq_getElem?_getD, hd]
        rw [this, gat_set_ne _ _ (Ne.symm hsd), r1]
      · intro q oq hoq hlq e he hb
        by_cases hqi : q = pre.length + m
        · subst hqi
          rw [ho'] at hoq; cases hoq
          exact getD_set_true (hall e he hb)
        · have hlq : listed.getD q false = true := by rwa [getD_set_ne false (Ne.symm hqi)] at hlq
          exact getD_set_true (hclosed q oq hoq hlq e he hb)
      · rw [List.set_set]; exact r5.undef d

/-- the open operations, in whatever order -/
theorem draw_pre {K0 : Kr} {a0 : Act} {t0 : List GV} {T : Nat → List GV} {G : Nat → GV} {W : Nat → Option (List GV)} {NM : Nat → Nat} {Hs : Nat → Heap} (hs0 : Sat K0) (hF0 : Fr K0.H K0.lo) (ht0 : TR K0 t0 a0.tmps)
    (hT0 : T 0 = t0) (hN0 : NM 0 = K0.lo) (hH0 : Hs 0 = K0.H)
    (hstep : ∀ i (hi : i < pre.length), RecOK P K0.H K0.lo pre[i] (T i) (NM i) (G i) (W i) ∧ T (i + 1) = put (T i) pre[i].dst (G i) ∧ NM (i + 1) = nxt (NM i) (W i) ∧ Hs (i + 1) = updo (Hs i) (NM i) (W i))
    (hk : gops P tail k (T pre.length) (Hs pre.length) (NM pre.length))
    (hQ : ∀ t' K' a', k t' K'.H K'.lo → KStep K0 K' → Fr K'.H K'.lo → Sat K' → a'.defers = a0.defers → TR K' t' a'.tmps → Q .normal a' K'.w) :
    ∀ (fuel : Nat) (listed : Array Bool) (a : Act) (K : Kr), left (fun i => listed.getD i false) ops.size ≤ fuel → listed.size = ops.size → (∀ i, pre.length ≤ i → i < ops.size → listed.getD i false = false) →
      Inv pre ops t0 G W NM K0 a0 (fun i => listed.getD i false) a K → wpAny P .any ops Q fuel listed a K.w := by
  have hsz := D.size
  have hnames := chain_names (p := pre.length) (W := W) (NM := NM) fun i hi => (hstep i hi).2.2.1
  have hslots := chain_slots hT0 fun i hi => (hstep i hi).2.1
  have hheaps := chain_heaps hF0 hH0 hN0 fun i hi => (hstep i hi).2.2
  have hge : ∀ i, i ≤ pre.length → K0.lo ≤ NM i := fun i hi => by rw [← hN0]; exact (hnames 0 i (by omega) hi).1
  have getT : ∀ (listed : Array Bool) (i : Nat), listed.size = ops.size → i < ops.size → listed.getD i true = listed.getD i false := by
    intro listed i h1 h2
    have : i < listed.size := by omega
    simp [Array.getD, this]
  have hLsz : ∀ (listed : Array Bool), listed.size = ops.size → ∀ i, listed.getD i false = true → i < ops.size := by
    intro listed h i hi
    rcases Nat.lt_or_ge i listed.size with h1 | h1
    · omega
    · simp [Array.getD, Nat.not_lt.2 h1] at hi
  -- all open ones done
  have fin : ∀ (fuel : Nat) (listed : Array Bool) (a : Act) (K : Kr), tail.length ≤ fuel → listed.size = ops.size → (∀ i, pre.length ≤ i → i < ops.size → listed.getD i false = false) → (∀ i, i < pre.length → listed.getD i false = true) →
      Inv pre ops t0 G W NM K0 a0 (fun i => listed.getD i false) a K → wpAny P .any ops Q fuel listed a K.w := by
    intro fuel listed a K hf hls h2 h3 I
    have hHeq : K.H = Hs pre.length := by
      obtain ⟨c1, c2, c3⟩ := hheaps pre.length (Nat.le_refl _)
      funext b
      rcases Nat.lt_or_ge b K0.lo with hb | hb
      · rw [I.old b hb, c1 b hb]
      · by_cases hex : ∃ i, i < pre.length ∧ W i ≠ none ∧ NM i = b
        · obtain ⟨i, hi, hw, rfl⟩ := hex
          obtain ⟨cs, hcs⟩ := Option.ne_none_iff_exists'.1 hw
          rw [I.news i cs hi (h3 i hi) hcs, c2 i cs hi hcs]
        · rw [I.non b hb fun i hi _ hw e => hex ⟨i, hi, hw, e⟩, c3 b hb fun i hi hw e => hex ⟨i, hi, hw, e⟩]
    have hTR : TR K (T pre.length) a.tmps := by
      obtain ⟨l, h⟩ := hslots pre.length (Nat.le_refl _)
      refine ⟨by rw [l, I.size], fun j => ?_⟩
      rcases Nat.lt_or_ge j t0.length with hj | hj
      · rcases h j hj with ⟨i, c1, c2, c3, c4⟩ | ⟨c1, c2⟩
        · rcases I.slots j hj with ⟨i', d1, d2, d3, d4, d5⟩ | ⟨d1, d2⟩
          · have : i = i' := by
              rcases Nat.lt_trichotomy i i' with h | h | h
              · exact absurd d3 (c3 i' h d1)
              · exact h
              · exact absurd c2 (d4 i c1 h (h3 i c1))
            subst this; rw [c4]; exact d5
          · exact absurd c2 (d1 i c1 (h3 i c1))
        · rcases I.slots j hj with ⟨i', d1, d2, d3, d4, d5⟩ | ⟨d1, d2⟩
          · exact absurd d3 (c1 i' d1)
          · rw [c2]; exact d2
      · have : gat (T pre.length) j = .undef := by simp [gat, List.getD_eq_getElem?_getD, l, Nat.not_lt.2 hj]
        rw [this]; exact .undef _
    have hlo : K.lo ≤ NM pre.length := by rw [I.lo]; exact hge _ (Nat.le_refl _)
    have hFr : Fr K.H (NM pre.length) := by
      intro b hb
      rw [hHeq]
      refine (hheaps pre.length (Nat.le_refl _)).2.2 b (by have := hge pre.length (Nat.le_refl _); omega) fun i hi hw e => ?_
      have := (hnames i pre.length (by omega) (Nat.le_refl _)).2 hi hw
      omega
    have := draw_tail D hQ fuel 0 listed { K with lo := NM pre.length } (T pre.length) a (Nat.zero_le _) (by omega) hls (fun i hi => by
      by_cases hip : i < pre.length
      · rw [h3 i hip]; simp [hip]
      · rw [h2 i (by omega) hi]; simp [hip]) (by rw [List.drop_zero]; show gops P tail k _ K.H (NM pre.length); rw [hHeq]; exact hk) (I.step.trans (lo_step K hlo)) (lo_sat I.sat hlo) hFr (hTR.mono (lo_step K hlo)) I.defers
    exact this
  -- all but a plain move at the head done
  have fin1 : ∀ (fuel : Nat) (listed : Array Bool) (a : Act) (K : Kr), left (fun i => listed.getD i false) ops.size ≤ fuel → listed.size = ops.size → (∀ i, pre.length ≤ i → i < ops.size → listed.getD i false = false) → (¬ ∀ i, i < pre.length → listed.getD i false = true) →
      (∃ d s prest, pre = ⟨some d, .mov (.t s), none⟩ :: prest ∧ s ≠ d ∧ ∀ o ∈ prest, o.dst ≠ some d ∧ o.dst ≠ some s) → (∀ i, 0 < i → i < pre.length → listed.getD i false = true) →
      Inv pre ops t0 G W NM K0 a0 (fun i => listed.getD i false) a K → wpAny P .any ops Q fuel listed a K.w := by
    intro fuel listed a K hf hls h2 hnd hz h3 I
    obtain ⟨d, s, prest, hz, hsd, hprest⟩ := hz
    have hpl : 0 < pre.length := by rw [hz]; simp
    have hl0 : listed.getD 0 false = false := by
      cases h : listed.getD 0 false with
      | false => rfl
      | true =>
        exfalso; apply hnd; intro i hi
        rcases Nat.eq_zero_or_pos i with e | e
        · subst e; exact h
        · exact h3 i e hi
    have hp0 : pre[0] = ⟨some d, .mov (.t s), none⟩ := by simp only [hz]; rfl
    have hothers : ∀ i, 0 < i → i < pre.length → pdst pre i ≠ some d ∧ pdst pre i ≠ some s := by
      intro i hi0 hi
      rw [pdst_at hi]
      apply hprest
      obtain ⟨u, rfl⟩ : ∃ u, i = u + 1 := ⟨i - 1, by omega⟩
      have e1 : pre[u + 1]? = some pre[u + 1] := List.getElem?_eq_getElem hi
      have e2 : pre[u + 1]? = prest[u]? := by rw [hz]; simp
      rw [e2] at e1
      exact List.mem_of_getElem? e1
    obtain ⟨hrec0, _, _, _⟩ := hstep 0 hpl
    have hG0 : gat (T 0) s = G 0 ∧ none = W 0 := by
      unfold RecOK at hrec0
      rw [hp0] at hrec0
      exact hrec0
    have hd0 : pdst pre 0 = some d := by rw [pdst_at hpl, hp0]
    have hTs : gat (T pre.length) s = gat t0 s := by
      obtain ⟨l, h⟩ := hslots pre.length (Nat.le_refl _)
      rcases Nat.lt_or_ge s t0.length with hs | hs
      · rcases h s hs with ⟨i, c1, c2, c3, c4⟩ | ⟨c1, c2⟩
        · exfalso
          rcases Nat.eq_zero_or_pos i with e | e
          · subst e; rw [hd0] at c2; injection c2 with c2; exact hsd c2.symm
          · exact (hothers i e c1).2 c2
        · exact c2
      · simp [gat, List.getD_eq_getElem?_getD, l, Nat.not_lt.2 hs]
    have hTd : d < (T pre.length).length → gat (T pre.length) d = gat (T pre.length) s := by
      intro hd
      obtain ⟨l, h⟩ := hslots pre.length (Nat.le_refl _)
      rw [hTs, ← hT0, hG0.1]
      rcases h d (by omega) with ⟨i, c1, c2, c3, c4⟩ | ⟨c1, c2⟩
      · rcases Nat.eq_zero_or_pos i with e | e
        · subst e; exact c4
        · exact absurd c2 (hothers i e c1).1
      · exact absurd hd0 (c1 0 hpl)
    have hHeq : K.H = Hs pre.length := by
      obtain ⟨c1, c2, c3⟩ := hheaps pre.length (Nat.le_refl _)
      funext b
      rcases Nat.lt_or_ge b K0.lo with hb | hb
      · rw [I.old b hb, c1 b hb]
      · by_cases hex : ∃ i, i < pre.length ∧ W i ≠ none ∧ NM i = b
        · obtain ⟨i, hi, hw, rfl⟩ := hex
          have hi0 : 0 < i := by
            rcases Nat.eq_zero_or_pos i with e | e
            · subst e; exact absurd hG0.2.symm hw
            · exact e
          obtain ⟨cs, hcs⟩ := Option.ne_none_iff_exists'.1 hw
          rw [I.news i cs hi (h3 i hi0 hi) hcs, c2 i cs hi hcs]
        · rw [I.non b hb fun i hi _ hw e => hex ⟨i, hi, hw, e⟩, c3 b hb fun i hi hw e => hex ⟨i, hi, hw, e⟩]
    have hTR : TR K ((T pre.length).set d .undef) a.tmps := by
      obtain ⟨l, h⟩ := hslots pre.length (Nat.le_refl _)
      refine ⟨by rw [List.length_set, l, I.size], fun j => ?_⟩
      by_cases hjd : d = j
      · subst hjd
        have : gat ((T pre.length).set d .undef) d = .undef := by
          rcases Nat.lt_or_ge d (T pre.length).length with hd | hd
          · simp [gat, List.getD_eq_getElem?_getD, hd]
          · simp [gat, List.getD_eq_getElem?_getD, Nat.not_lt.2 hd]
        rw [this]; exact .undef _
      · rw [gat_set_ne _ _ hjd]
        rcases Nat.lt_or_ge j t0.length with hj | hj
        · have hj0 : pdst pre 0 ≠ some j := fun e => by rw [hd0] at e; injection e with e; exact hjd e
          rcases h j hj with ⟨i, c1, c2, c3, c4⟩ | ⟨c1, c2⟩
          · have hi0 : 0 < i := by
              rcases Nat.eq_zero_or_pos i with e | e
              · subst e; exact absurd c2 hj0
              · exact e
            rcases I.slots j hj with ⟨i', d1, d2, d3, d4, d5⟩ | ⟨d1, d2⟩
            · have : i = i' := by
                rcases Nat.lt_trichotomy i i' with h | h | h
                · exact absurd d3 (c3 i' h d1)
                · exact h
                · exact absurd c2 (d4 i c1 h (h3 i hi0 c1))
              subst this; rw [c4]; exact d5
            · exact absurd c2 (d1 i c1 (h3 i hi0 c1))
          · rcases I.slots j hj with ⟨i', d1, d2, d3, d4, d5⟩ | ⟨d1, d2⟩
            · exact absurd d3 (c1 i' d1)
            · rw [c2]; exact d2
        · have : gat (T pre.length) j = .undef := by simp [gat, List.getD_eq_getElem?_getD, l, Nat.not_lt.2 hj]
          rw [this]; exact .undef _
    have hlo : K.lo ≤ NM pre.length := by rw [I.lo]; exact hge _ (Nat.le_refl _)
    have hFr : Fr K.H (NM pre.length) := by
      intro b hb
      rw [hHeq]
      refine (hheaps pre.length (Nat.le_refl _)).2.2 b (by have := hge pre.length (Nat.le_refl _); omega) fun i hi hw e => ?_
      have := (hnames i pre.length (by omega) (Nat.le_refl _)).2 hi hw
      omega
    have hfuel : tail.length + 1 ≤ fuel := by
      have key0 : ∀ q, 0 < q → q ≤ pre.length → left (fun i => listed.getD i false) q = 1 := by
        intro q
        induction q with
        | zero => intro h; omega
        | succ q ihq =>
          intro _ hq
          simp only [left]
          rcases Nat.eq_zero_or_pos q with e | e
          · subst e; simp [left, hl0]
          · rw [ihq e (by omega)]; simp [h3 q e (by omega)]
      have key : ∀ n, n ≤ tail.length → left (fun i => listed.getD i false) (pre.length + n) = n + 1 := by
        intro n
        induction n with
        | zero => intro _; exact key0 _ hpl (Nat.le_refl _)
        | succ n ihn =>
          intro hn
          rw [← Nat.add_assoc]
          simp only [left]
          rw [ihn (by omega)]; simp [h2 (pre.length + n) (by omega) (by omega)]
      have := key tail.length (Nat.le_refl _)
      rw [← hsz] at this
      omega
    exact draw_tail1 D hQ hz hsd fuel 0 listed { K with lo := NM pre.length } (T pre.length) a (Nat.zero_le _) (by omega) hls (fun i hi => by
      by_cases hip : i < pre.length
      · by_cases hi0 : i = 0
        · subst hi0; rw [hl0]; simp
        · rw [h3 i (by omega) hip]; simp [hip, hi0]
      · rw [h2 i (by omega) hi]; simp [hip]) hTd I.closed (by rw [List.drop_zero]; show gops P tail k _ K.H (NM pre.length); rw [hHeq]; exact hk) (I.step.trans (lo_step K hlo)) (lo_sat I.sat hlo) hFr (hTR.mono (lo_step K hlo)) I.defers
  intro fuel
  induction fuel with
  | zero =>
    intro listed a K hf hls h2 I
    have hall := left_zero (Nat.le_zero.1 hf)
    have ht : tail.length = 0 := by
      rcases Nat.eq_zero_or_pos tail.length with h | h
      · exact h
      · have h1 := hall pre.length (by omega)
        have h1 : listed.getD pre.length false = true := h1
        rw [h2 pre.length (Nat.le_refl _) (by omega)] at h1; cases h1
    exact fin 0 listed a K (by omega) hls h2 (fun i hi => hall i (by omega)) I
  | succ fuel ih =>
    intro listed a K hf hls h2 I
    by_cases hdone : ∀ i, i < pre.length → listed.getD i false = true
    · refine fin (fuel + 1) listed a K ?_ hls h2 hdone I
      -- what is left is the tail
      have key : ∀ n, n ≤ tail.length → left (fun i => listed.getD i false) (pre.length + n) = n := by
        intro n
        induction n with
        | zero =>
          intro _
          have : ∀ q, q ≤ pre.length → left (fun i => listed.getD i false) q = 0 := by
            intro q
            induction q with
            | zero => intro _; rfl
            | succ q ihq => intro hq; simp only [left]; rw [ihq (by omega)]; simp [hdone q (by omega)]
          exact this _ (Nat.le_refl _)
        | succ n ihn =>
          intro hn
          rw [← Nat.add_assoc]
          simp only [left]
          rw [ihn (by omega)]; simp [h2 (pre.length + n) (by omega) (by omega)]
      have := key tail.length (Nat.le_refl _)
      rw [← hsz] at this
      omega
    · have hclosed : ∀ i o', ops[i]? = some o' → listed.getD i false = true → ∀ e ∈ o'.after, Region.binds .any e = true → listed.getD e.on false = true := I.closed
      by_cases hz : (∃ d s prest, pre = ⟨some d, .mov (.t s), none⟩ :: prest ∧ s ≠ d ∧ ∀ o ∈ prest, o.dst ≠ some d ∧ o.dst ≠ some s) ∧ ∀ i, 0 < i → i < pre.length → listed.getD i false = true
      · exact fin1 (fuel + 1) listed a K hf hls h2 hdone hz.1 hz.2 I
      -- some operation is ready
      have hne : Region.ready .any ops listed ≠ [] := by
        have hmin : ∃ i, i < ops.size ∧ listed.getD i false = false ∧ ∀ j, j < i → listed.getD j false = true := by
          have hex : ∃ i, i < pre.length ∧ listed.getD i false = false := by
            by_cases h : ∃ i, i < pre.length ∧ listed.getD i false = false
            · exact h
            · exfalso; apply hdone; intro i hi
              cases hl : listed.getD i false with
              | true => rfl
              | false => exact absurd ⟨i, hi, hl⟩ h
          have : ∀ n i, i ≤ n → i < ops.size → listed.getD i false = false → ∃ i, i < ops.size ∧ listed.getD i false = false ∧ ∀ j, j < i → listed.getD j false = true := by
            intro n
            induction n with
            | zero => intro i h1 h2 h3; exact ⟨i, h2, h3, fun j hj => by omega⟩
            | succ n ihn =>
              intro i h1 h2 h3
              by_cases h : ∃ j, j < i ∧ listed.getD j false = false
              · obtain ⟨j, hj, hl⟩ := h; exact ihn j (by omega) (by omega) hl
              · refine ⟨i, h2, h3, fun j hj => ?_⟩
                cases hl : listed.getD j false with
                | true => rfl
                | false => exact absurd ⟨j, hj, hl⟩ h
          obtain ⟨i, hi, hl⟩ := hex
          exact this i i (Nat.le_refl _) (by omega) hl
        obtain ⟨i, hi, hl, hall⟩ := hmin
        have hmem : i ∈ Region.ready .any ops listed := by
          rw [mem_ready]
          refine ⟨by rw [getT listed i hls hi]; exact hl, ops[i], by simp [hi], fun e he hb => ?_⟩
          have := D.mask i hi
          unfold okMask at this
          rw [Array.getElem?_eq_getElem hi] at this
          simp only [Bool.and_eq_true, List.all_eq_true] at this
          have := this.1 e (by simpa using he)
          rw [hb] at this
          simp at this
          exact hall _ this
        intro hnil; rw [hnil] at hmem; cases hmem
      refine ⟨fun h => absurd h hne, fun i hi => ?_⟩
      rw [mem_ready] at hi
      obtain ⟨h0, o, ho, hpred⟩ := hi
      have his : i < ops.size := (Array.getElem?_eq_some_iff.1 ho).1
      rw [getT listed i hls his] at h0
      have hclo := mask_closed D.mask D.low (L := fun i => listed.getD i false) (hLsz listed hls) hclosed i i (Nat.le_refl _) his (fun o2 ho2 e he hb => by rw [ho] at ho2; cases ho2; exact hpred e he hb)
      -- it is one of the open ones
      have hip : i < pre.length := by
        rcases Nat.lt_or_ge i pre.length with h | h
        · exact h
        · exfalso
          have hpos : ∀ j, 0 < j → j < pre.length → listed.getD j false = true := by
            intro j hj0 hj
            rcases D.late i h his j (by omega) with hb | ⟨e, _⟩
            · exact (hclo j hb).2
            · omega
          rcases Nat.eq_zero_or_pos pre.length with hp0 | hp0
          · exact hdone fun j hj => by omega
          · rcases D.late i h his 0 (by omega) with hb | ⟨_, g', _, d, s, rest, f0, f1, f2, f3, f4, f5⟩
            · apply hdone; intro j hj
              rcases Nat.eq_zero_or_pos j with e | e
              · subst e; exact (hclo 0 hb).2
              · exact hpos j e hj
            · exact hz ⟨⟨d, s, rest, f0, f1, f5⟩, hpos⟩
      obtain ⟨o', ho', hok⟩ := D.hpre i hip
      rw [ho] at ho'; cases ho'
      obtain ⟨hrec, _, _, _⟩ := hstep i hip
      have hd := okOper_dst hok
      have hop := okOper_op hok
      have hw := wanted_of hok a.tmps
      -- a writer of a slot that is looked at, or written, here
      have hcmp : ∀ q, q < pre.length → q ≠ i → ∀ d, pdst pre q = some d → (d ∈ lookT pre[i] ∨ pre[i].dst = some d) → (listed.getD q false = true → q < i) ∧ (q < i → listed.getD q false = true) := by
        intro q hq hqi d hdq hor
        rw [pdst_at hq] at hdq
        have := D.pair i q hip hq (Ne.symm hqi) d hdq hor
        simp only [comp, Bool.or_eq_true] at this
        rcases this with h | h
        · obtain ⟨c1, c2⟩ := hclo q h
          exact ⟨fun _ => c1, fun _ => c2⟩
        · -- i comes before q
          constructor
          · intro hl
            exfalso
            have hqs : q < ops.size := by omega
            have := (mask_closed D.mask D.low (L := fun i => listed.getD i false) (hLsz listed hls) hclosed q q (Nat.le_refl _) hqs (fun o2 ho2 e he hb => hclosed q o2 ho2 hl e he hb) i h).2
            have this : listed.getD i false = true := this
            rw [h0] at this; cases this
          · intro hlt
            exfalso
            -- i < q by the mask
            have := D.mask q (by omega)
            unfold okMask at this
            split at this
            · cases this
            · simp only [Bool.and_eq_true, List.all_eq_true, List.mem_range] at this
              have := this.2 i his
              rw [h] at this
              simp only [Bool.not_true, Bool.false_or, Bool.and_eq_true, decide_eq_true_eq] at this
              omega
      -- the slots it looks at are as in the text's order
      have hlook : ∀ j, j ∈ lookT pre[i] → VR K (gat (T i) j) (vat a.tmps j) := by
        intro j hj
        obtain ⟨l, h⟩ := hslots i (by omega)
        rcases Nat.lt_or_ge j t0.length with hjl | hjl
        · rcases h j hjl with ⟨q, c1, c2, c3, c4⟩ | ⟨c1, c2⟩
          · rcases I.slots j hjl with ⟨q', d1, d2, d3, d4, d5⟩ | ⟨d1, d2⟩
            · have hq'i : q' ≠ i := fun e => by rw [e] at d2; have d2 : listed.getD i false = true := d2; rw [h0] at d2; cases d2
              have hlt := (hcmp q' d1 hq'i j d3 (.inl hj)).1 d2
              have : q = q' := by
                rcases Nat.lt_trichotomy q q' with h | h | h
                · exact absurd d3 (c3 q' h hlt)
                · exact h
                · exact absurd c2 (d4 q (by omega) h ((hcmp q (by omega) (by omega) j c2 (.inl hj)).2 c1))
              subst this; rw [c4]; exact d5
            · exact absurd c2 (d1 q (by omega) ((hcmp q (by omega) (by omega) j c2 (.inl hj)).2 c1))
          · rcases I.slots j hjl with ⟨q', d1, d2, d3, d4, d5⟩ | ⟨d1, d2⟩
            · have hq'i : q' ≠ i := fun e => by rw [e] at d2; have d2 : listed.getD i false = true := d2; rw [h0] at d2; cases d2
              exact absurd d3 (c1 q' ((hcmp q' d1 hq'i j d3 (.inl hj)).1 d2))
            · rw [c2]; exact d2
        · have : gat (T i) j = .undef := by simp [gat, List.getD_eq_getElem?_getD, l, Nat.not_lt.2 hjl]
          rw [this]; exact .undef _
      -- what follows it
      have after : ∀ (v : Value) (K' : Kr), K'.H = updo K.H (NM i) (W i) → K'.lo = K0.lo → KStep K K' → Sat K' → VR K' (G i) v → wpAny P .any ops Q fuel (listed.setIfInBounds i true) (a.put o.dst v) K'.w := by
        intro v K' e1 e2 e3 e4 e5
        have hLi : ∀ j, j ≠ i → (listed.setIfInBounds i true).getD j false = listed.getD j false := fun j hj => getD_set_ne false (Ne.symm hj)
        have hLs : (listed.setIfInBounds i true).getD i false = true := by
          have : i < listed.size := by omega
          simp [Array.getD, this]
        have hNMne : ∀ q, q < pre.length → listed.getD q false = true → W q ≠ none → W i ≠ none → NM q ≠ NM i := by
          intro q hq hl hwq hwi e
          have hqi : q ≠ i := fun e => by rw [e] at hl; rw [h0] at hl; cases hl
          rcases Nat.lt_or_ge q i with h | h
          · have := (hnames q i (by omega) (by omega)).2 h hwq; omega
          · have := (hnames i q (by omega) (by omega)).2 (by omega) hwi; omega
        refine ih _ _ K' ?_ (by simpa using hls) (fun j hj1 hj2 => by rw [hLi j (by omega)]; exact h2 j hj1 hj2) ?_
        · have := left_set (L := fun i => listed.getD i false) (L' := fun j => (listed.setIfInBounds i true).getD j false) (i := i) h0 hLs hLi ops.size
          rw [if_pos his] at this
          omega
        · refine ⟨e4, e2, I.step.trans e3, fun b hb => ?_, fun q cs hq hl hwq => ?_, fun b hb hall => ?_, ?_, fun j hj => ?_, ?_, fun q oq hoq hl e he hb => ?_⟩
          · rw [e1]
            cases hwi : W i with
            | none => exact I.old b hb
            | some cs => show upd K.H (NM i) _ b = _; rw [upd_ne _ _ (by have := hge i (by omega); omega)]; exact I.old b hb
          · rw [e1]
            by_cases hqi : q = i
            · subst hqi; rw [hwq]; exact upd_same _ _ _
            · have hl : listed.getD q false = true := by have hl : (listed.setIfInBounds i true).getD q false = true := hl; rwa [hLi q hqi] at hl
              cases hwi : W i with
              | none => exact I.news q cs hq hl hwq
              | some cs' => show upd K.H (NM i) _ _ = _; rw [upd_ne _ _ (hNMne q hq hl (by rw [hwq]; simp) (by rw [hwi]; simp))]; exact I.news q cs hq hl hwq
          · rw [e1]
            have hold : K.H b = none := I.non b hb fun q hq hl hwq => hall q hq (by
              show (listed.setIfInBounds i true).getD q false = true
              by_cases hqi : q = i
              · subst hqi; exact hLs
              · rw [hLi q hqi]; exact hl) hwq
            cases hwi : W i with
            | none => exact hold
            | some cs' =>
              have := hall i hip hLs (by rw [hwi]; simp)
              show upd K.H (NM i) _ b = _
              rw [upd_ne _ _ (Ne.symm this)]; exact hold
          · rw [put_size]; exact I.size
          · rw [hd, put_vat _ _ _ _ (by rw [I.size]; exact hj)]
            by_cases hdj : pre[i].dst = some j
            · rw [if_pos hdj]
              refine .inl ⟨i, hip, hLs, by rw [pdst_at hip]; exact hdj, fun q hq hiq hl hqd => ?_, e5⟩
              have hqi : q ≠ i := by omega
              have hl : listed.getD q false = true := by have hl : (listed.setIfInBounds i true).getD q false = true := hl; rwa [hLi q hqi] at hl
              have := (hcmp q hq hqi j hqd (.inr hdj)).1 hl
              omega
            · rw [if_neg hdj]
              rcases I.slots j hj with ⟨q, c1, c2, c3, c4, c5⟩ | ⟨c1, c2⟩
              · have hqi : q ≠ i := fun e => by rw [e] at c2; have c2 : listed.getD i false = true := c2; rw [h0] at c2; cases c2
                refine .inl ⟨q, c1, by show (listed.setIfInBounds i true).getD q false = true; rw [hLi q hqi]; exact c2, c3, fun r hr hqr hl => ?_, c5.mono e3⟩
                by_cases hri : r = i
                · subst hri; rw [pdst_at hip]; exact hdj
                · exact c4 r hr hqr (by have hl : (listed.setIfInBounds i true).getD r false = true := hl; rwa [hLi r hri] at hl)
              · refine .inr ⟨fun r hr hl => ?_, c2.mono e3⟩
                by_cases hri : r = i
                · subst hri; rw [pdst_at hip]; exact hdj
                · exact c1 r hr (by have hl : (listed.setIfInBounds i true).getD r false = true := hl; rwa [hLi r hri] at hl)
          · rw [put_defers']; exact I.defers
          · show (listed.setIfInBounds i true).getD e.on false = true
            by_cases hqi : q = i
            · subst hqi
              rw [ho] at hoq; cases hoq
              exact getD_set_true (hpred e he hb)
            · have hl : listed.getD q false = true := by have hl : (listed.setIfInBounds i true).getD q false = true := hl; rwa [hLi q hqi] at hl
              exact getD_set_true (hclosed q oq hoq hl e he hb)
      -- the slots it looks at, and no others
      let tm : List GV := (List.range t0.length).map fun j => if j ∈ lookT pre[i] then gat (T i) j else .undef
      have htm : ∀ j, j ∈ lookT pre[i] → gat (T i) j = gat tm j := by
        intro j hj
        rcases Nat.lt_or_ge j t0.length with hjl | hjl
        · simp [tm, gat, List.getD_eq_getElem?_getD, hjl, hj]
        · have hl := (hslots i (by omega)).1
          simp [tm, gat, List.getD_eq_getElem?_getD, hl, Nat.not_lt.2 hjl]
      have hTRm : TR K tm a.tmps := by
        refine ⟨by simp [tm, I.size], fun j => ?_⟩
        by_cases hj : j ∈ lookT pre[i]
        · rw [← htm j hj]; exact hlook j hj
        · have : gat tm j = .undef := by
            rcases Nat.lt_or_ge j t0.length with hjl | hjl
            · simp [tm, gat, List.getD_eq_getElem?_getD, hjl, hj]
            · simp [tm, gat, List.getD_eq_getElem?_getD, Nat.not_lt.2 hjl]
          rw [this]; exact .undef _
      have run : gmop P K0.H K0.lo (T i) (NM i) (fun g' w' => g' = G i ∧ w' = W i) pre[i].op → o.wp P a K.w (wpAny P .any ops Q fuel (listed.setIfInBounds i true)) Q := by
        intro hg
        have hg := gmop_congr (t' := tm) (fun j hj => htm j (by simp [lookT, hj])) hg
        have hFrM : Fr K.H (NM pre.length) := by
          intro b hb
          refine I.non b (by have := hge pre.length (Nat.le_refl _); omega) fun q hq hl hwq e => ?_
          have := (hnames q pre.length (by omega) (Nat.le_refl _)).2 hq hwq
          omega
        refine gmop_sound hop I.sat I.lo I.old (hge pre.length (Nat.le_refl _)) hFrM hTRm (fun g cs hgc => ?_) (hge i (by omega)) hg fun g new v K' q1 q2 q3 q4 q5 q6 => ?_
        · refine I.non _ (hge i (by omega)) fun q hq hl hwq e => ?_
          have hqi : q ≠ i := fun e => by rw [e] at hl; have hl : listed.getD i false = true := hl; rw [h0] at hl; cases hl
          rcases Nat.lt_or_ge q i with h | h
          · have := (hnames q i (by omega) (by omega)).2 h hwq; omega
          · have := (hnames i q (by omega) (by omega)).2 (by omega) (by rw [← hgc.2]; simp); omega
        · obtain ⟨rfl, rfl⟩ := q1
          exact after v K' q2 q3 q4 q5 q6
      unfold wpOp
      rw [ho]
      simp only
      unfold RecOK at hrec
      split at hrec
      · rename_i hg
        rw [hg] at hw; simp only at hw
        rw [if_pos hw]
        exact .inl (run hrec)
      · rename_i j want hg
        rw [hg] at hw; simp only at hw
        obtain ⟨b, hb, h1, h3⟩ := hrec
        have hv := hlook j (by simp [lookT, hg])
        rw [hb] at hv
        have hw := hw b hv.bool_inv
        by_cases hbw : b = want
        · rw [if_pos (by rw [hw, hbw]; simp)]
          exact .inl (run (h1 hbw))
        · rw [if_neg (by rw [hw]; simpa using hbw)]
          obtain ⟨r1, r2⟩ := h3 hbw
          have := after Go.undef K (by rw [r2]; rfl) I.lo (KStep.refl K) I.sat (by rw [r1]; exact .undef _)
          exact this
end
end Go.Proofs.Ytdpibcniodhinaa.Gh
/- The ghost code's weakest precondition is the code's, and what a function's ghost body says is the function's contract. -/
namespace Go.Proofs.Ytdpibcniodhinaa.Gh
open Go Go.RowKit
set_option linter.unusedVariables false
set_option linter.unusedSimpArgs false

theorem getD_rep (n i : Nat) : (Array.replicate n false).getD i false = false := by
  by_cases h : i < n
  · simp [Array.getD, h]
  · simp [Array.getD, h]
theorem left_le (L : Nat → Bool) : ∀ n, left L n ≤ n := by
  intro n
  induction n with
  | zero => exact Nat.le_refl _
  | succ n ih => simp only [left]; split <;> omega

theorem drew_inv {pre : List GOper} {ops : Array Oper} {t0 : List GV} {G : Nat → GV} {W : Nat → Option (List GV)} {NM : Nat → Nat} {K0 : Kr} {a0 : Act} {K : Kr} (hs : Sat K) (e1 : K.lo = K0.lo) (e2 : K.H = K0.H) (e3 : KStep K0 K) (hF : Fr K0.H K0.lo) (ht : TR K t0 a0.tmps) :
    Inv pre ops t0 G W NM K0 a0 (fun i => (Array.replicate ops.size false).getD i false) a0 K where
  sat := hs
  lo := e1
  step := e3
  old b _ := by rw [e2]
  news i cs _ hl _ := by simp only [getD_rep] at hl; cases hl
  non b hb _ := by rw [e2]; exact hF b hb
  size := ht.1.symm
  slots j hj := .inr ⟨fun i _ hl => (by simp only [getD_rep] at hl; cases hl), ht.2 j⟩
  defers := rfl
  closed i o _ hl := by simp only [getD_rep] at hl; cases hl

section
variable {P : Program} {Q : Exit → Act → World → Prop}
theorem draw_sound (hm : P.follows .mixedOrders = true) {id : Nat} {ops : Array Oper} {ms : List Nat} {pre tail : List GOper} (hok : okDraw P ops ms pre tail = true) {K : Kr} {t : List GV} {a : Act} (hs : Sat K) (hF : Fr K.H K.lo) (ht : TR K t a.tmps) {k : List GV → Heap → Nat → Prop}
    (hk : gmops P K.H K.lo pre (fun t' H' n' => gops P tail k t' H' n') t K.H K.lo)
    (hQ : ∀ t' K' a', k t' K'.H K'.lo → KStep K K' → Fr K'.H K'.lo → Sat K' → TR K' t' a'.tmps → a'.defers = a.defers → Q .normal a' K'.w) : (Code.region id ops true).wp P Q a K.w := by
  have D := Drawn.of hok
  obtain ⟨T, G, W, NM, Hs, h1, h2, h3, h4, h5⟩ := gmops_chain pre t K.H K.lo hk
  refine wp_region_any hm ?_
  exact draw_pre D (K0 := K) (a0 := a) (t0 := t) hs hF ht h1 h2 h3 h4 h5 (fun t' K' a' q1 q2 q3 q4 q5 q6 => hQ t' K' a' q1 q2 q3 q4 q6 q5) ops.size (Array.replicate ops.size false) a { K with w := { K.w with drawn := K.w.drawn + 1 } }
    (left_le _ _) (by simp) (fun i _ _ => getD_rep _ _)
    (drew_inv (drew_sat hs _) rfl rfl (drew_step K _) hF (ht.mono (drew_step K _)))

def okCode (P : Program) : Code → GCode → Bool
  | .skip, .skip => true
  | .region _ ops false, .region gl => okOpers P ops (List.range ops.size) gl
  | .region _ ops true, .draw ms pre tail => okDraw P ops ms pre tail
  | .seq x y, .seq a b => okCode P x a && okCode P y b
  | .cond c x y, .cond g a b => okX c g && okCode P x a && okCode P y b
  | .block id x, .block id' a => id == id' && okCode P x a
  | .loop x, .loop a => okCode P x a
  | .exit id, .exit id' => id == id'
  | .ret, .ret => true
  | _, _ => false
def up : GExit → Exit
  | .normal => .normal
  | .exit id => .exit id
  | .ret => .ret

theorem gw_sound (hm : P.follows .mixedOrders = true) : ∀ (g : GCode) (c : Code) (Q : Exit → Act → World → Prop) (G : GPost) (K : Kr) (t : List GV) (a : Act), okCode P c g = true → Sat K → Fr K.H K.lo → TR K t a.tmps → gw P g G t K.H K.lo →
    (∀ e t' K' a', G e t' K'.H K'.lo → KStep K K' → Fr K'.H K'.lo → Sat K' → TR K' t' a'.tmps → a'.defers = a.defers → Q (up e) a' K'.w) → c.wp P Q a K.w := by
  intro g
  induction g with
  | skip =>
    intro c Q G K t a hok hs hF ht hg hQ
    cases c <;> simp only [okCode, Bool.false_eq_true] at hok
    exact wp_skip (hQ .normal t K a hg (KStep.refl K) hF hs ht rfl)
  | region gl =>
    intro c Q G K t a hok hs hF ht hg hQ
    cases c <;> try simp only [okCode, Bool.false_eq_true] at hok
    rename_i id ops b
    cases b with
    | true => simp only [okCode, Bool.false_eq_true] at hok
    | false =>
      simp only [okCode] at hok
      exact wp_region (gops_sound gl _ K t a hok hs hF ht hg fun t' K' a' q1 q2 q3 q4 q5 q6 => hQ .normal t' K' a' q1 q2 q3 q4 q5 q6)
  | draw ms pre tail =>
    intro c Q G K t a hok hs hF ht hg hQ
    cases c <;> try simp only [okCode, Bool.false_eq_true] at hok
    rename_i id ops b
    cases b with
    | false => simp only [okCode, Bool.false_eq_true] at hok
    | true =>
      simp only [okCode] at hok
      exact draw_sound hm hok hs hF ht hg fun t' K' a' q1 q2 q3 q4 q5 q6 => hQ .normal t' K' a' q1 q2 q3 q4 q5 q6
  | seq x y ihx ihy =>
    intro c Q G K t a hok hs hF ht hg hQ
    cases c <;> simp only [okCode, Bool.false_eq_true, Bool.and_eq_true] at hok
    refine wp_seq (ihx _ _ _ K t a hok.1 hs hF ht hg fun e t' K' a' q1 q2 q3 q4 q5 q6 => ?_)
    cases e with
    | normal => exact ihy _ _ _ K' t' a' hok.2 q4 q3 q5 q1 fun e2 t2 K2 a2 r1 r2 r3 r4 r5 r6 => hQ e2 t2 K2 a2 r1 (q2.trans r2) r3 r4 r5 (r6.trans q6)
    | exit id => exact hQ (.exit id) t' K' a' q1 q2 q3 q4 q5 q6
    | ret => exact hQ .ret t' K' a' q1 q2 q3 q4 q5 q6
  | cond x y z ihy ihz =>
    intro c Q G K t a hok hs hF ht hg hQ
    cases c <;> simp only [okCode, Bool.false_eq_true, Bool.and_eq_true] at hok
    simp only [gw] at hg
    split at hg
    · rename_i v hv
      have hb := okX_VR ht hok.1.1
      rw [hv] at hb
      refine wp_cond hb.bool_inv ?_
      cases v with
      | true => exact ihy _ _ _ K t a hok.1.2 hs hF ht hg hQ
      | false => exact ihz _ _ _ K t a hok.2 hs hF ht hg hQ
    · exact hg.elim
  | block id x ih =>
    intro c Q G K t a hok hs hF ht hg hQ
    cases c <;> simp only [okCode, Bool.false_eq_true, Bool.and_eq_true, beq_iff_eq] at hok
    obtain ⟨rfl, hok⟩ := hok
    refine wp_block (ih _ _ _ K t a hok hs hF ht hg fun e t' K' a' q1 q2 q3 q4 q5 q6 => ?_)
    cases e with
    | normal => exact hQ .normal t' K' a' q1 q2 q3 q4 q5 q6
    | exit id' =>
      simp only [up, Exit.inBlock]
      split
      · rename_i h
        simp only [if_pos h] at q1
        exact hQ .normal t' K' a' q1 q2 q3 q4 q5 q6
      · rename_i h
        simp only [if_neg h] at q1
        exact hQ (.exit id') t' K' a' q1 q2 q3 q4 q5 q6
    | ret => exact hQ .ret t' K' a' q1 q2 q3 q4 q5 q6
  | loop x ih =>
    intro c Q G K t a hok hs hF ht hg hQ
    cases c <;> simp only [okCode, Bool.false_eq_true] at hok
    rename_i x'
    obtain ⟨k, hg⟩ := hg
    refine wp_loop_rounds k ?_
    induction k generalizing K t a with
    | zero => exact hg.elim
    | succ k ihk =>
      rw [rounds_succ]
      refine ih _ _ _ K t a hok hs hF ht hg fun e t' K' a' q1 q2 q3 q4 q5 q6 => ?_
      cases e with
      | normal => exact ihk K' t' a' q4 q3 q5 (fun e2 t2 K2 a2 r1 r2 r3 r4 r5 r6 => hQ e2 t2 K2 a2 r1 (q2.trans r2) r3 r4 r5 (r6.trans q6)) q1
      | exit id => exact hQ (.exit id) t' K' a' q1 q2 q3 q4 q5 q6
      | ret => exact hQ .ret t' K' a' q1 q2 q3 q4 q5 q6
  | exit id =>
    intro c Q G K t a hok hs hF ht hg hQ
    cases c <;> simp only [okCode, Bool.false_eq_true, beq_iff_eq] at hok
    subst hok
    exact wp_exit (hQ (.exit _) t K a hg (KStep.refl K) hF hs ht rfl)
  | ret =>
    intro c Q G K t a hok hs hF ht hg hQ
    cases c <;> simp only [okCode, Bool.false_eq_true] at hok
    exact wp_ret (hQ .ret t K a hg (KStep.refl K) hF hs ht rfl)

/-- where a result lies -/
inductive GRes where
  | t (i : Nat)
  | cell (i : Nat) (m : Option Nat)
def okRes (P : Program) : List ResultVar → List GRes → Bool
  | [], [] => true
  | .tmp t :: rs, .t i :: gs => t == i && okRes P rs gs
  | .cell a T :: rs, .cell i m :: gs => a == i && shapeOf P T == some m && !(m == some 0) && okRes P rs gs
  | _, _ => false
def gread1 (H : Heap) (m : Option Nat) (g : GV) : Option GV := match g with
  | .ptr b o => (match H b with
    | some cs => (match m with
      | none => if o < cs.length then some (gat cs o) else none
      | some m => if o + m ≤ cs.length then some (.agg ((cs.drop o).take m)) else none)
    | none => none)
  | _ => none
def gres (t : List GV) (H : Heap) : GRes → Option GV
  | .t i => some (gat t i)
  | .cell i m => gread1 H m (gat t i)
def gress (t : List GV) (H : Heap) : List GRes → Option (List GV)
  | [] => some []
  | r :: rs => match gres t H r, gress t H rs with
    | some g, some gs => some (g :: gs)
    | _, _ => none
def gretv (t : List GV) (H : Heap) (rs : List GRes) : Option GV := match gress t H rs with
  | some [g] => some g
  | some gs => some (.tup gs)
  | none => none

def getRes (tmps : Array Value) : ResultVar → Sem Value := fun r => match r with
  | .tmp t => pure (tmps.getD t undef)
  | .cell a t => do loadVar t (← asAddr (tmps.getD a undef))

theorem run_res {K : Kr} {t : List GV} {a : Act} (hs : Sat K) (ht : TR K t a.tmps) : ∀ (rs : List ResultVar) (gr : List GRes) (gs : List GV), okRes P rs gr = true → gress t K.H gr = some gs →
    ∃ vs : List Value, (rs.mapM (getRes a.tmps)).run P K.w = .ok vs K.w ∧ vs.length = gs.length ∧ ∀ j, j < gs.length → VR K (gat gs j) (vs.getD j Go.undef) := by
  intro rs
  induction rs with
  | nil =>
    intro gr gs hok hg
    cases gr with
    | nil => simp only [gress, Option.some.injEq] at hg; subst hg; exact ⟨[], by simp, rfl, fun j hj => by simp at hj⟩
    | cons _ _ => simp [okRes] at hok
  | cons r rs ih =>
    intro gr gs hok hg
    cases gr with
    | nil => cases r <;> simp [okRes] at hok
    | cons g0 gr =>
      have one : ∀ g, gres t K.H g0 = some g → okRes P rs gr = true ∧ ∃ v, (getRes a.tmps r).run P K.w = .ok v K.w ∧ VR K g v := by
        intro g hg1
        cases r with
        | tmp i =>
          cases g0 with
          | cell _ _ => simp [okRes] at hok
          | t i' =>
            simp only [okRes, Bool.and_eq_true, beq_iff_eq] at hok
            obtain ⟨rfl, hok⟩ := hok
            simp only [gres, Option.some.injEq] at hg1; subst hg1
            exact ⟨hok, _, by simp [getRes], ht.2 i⟩
        | cell ad T =>
          cases g0 with
          | t _ => simp [okRes] at hok
          | cell i' m =>
            simp only [okRes, Bool.and_eq_true, beq_iff_eq, Bool.not_eq_true', beq_eq_false_iff_ne] at hok
            obtain ⟨⟨⟨rfl, hT⟩, hm⟩, hok⟩ := hok
            refine ⟨hok, ?_⟩
            simp only [gres, gread1] at hg1
            split at hg1
            · rename_i b o he
              split at hg1
              · rename_i cs hb
                have hv := ht.2 ad
                rw [he] at hv
                have hr : gread K.H (.ptr b o) = some (cs, o) := gread_ptr hb
                cases m with
                | none =>
                  simp only at hg1
                  split at hg1
                  · rename_i hlt
                    simp only [Option.some.injEq] at hg1; subst hg1
                    obtain ⟨B, q, hv, us, h1, h2⟩ := gread_VR hs (fun _ _ h => h) hv hr 1 (by omega) (by omega)
                    have h1 := h1 0 (by omega)
                    have h2 := h2 0 (by omega)
                    simp only [Nat.add_zero] at h1 h2
                    have hv' : a.tmps.getD ad undef = _ := hv
                    exact ⟨us 0, by simp only [getRes, hv']; simp [asAddr, loadVar, shapeOf_one hT, h1], h2⟩
                  · cases hg1
                | some m =>
                  simp only at hg1
                  split at hg1
                  · rename_i hle
                    simp only [Option.some.injEq] at hg1; subst hg1
                    have hm0 : 0 < m := Nat.pos_of_ne_zero fun e => hm (by rw [e])
                    obtain ⟨B, q, hv, us, h1, h2⟩ := gread_VR hs (fun _ _ h => h) hv hr m hle hm0
                    have hl := run_loads (P := P) K.w B q m us h1
                    have hv' : a.tmps.getD ad undef = _ := hv
                    refine ⟨.agg ((List.range m).map us).toArray, by simp only [getRes, hv']; simp [asAddr, loadVar, (shapeOf_agg hT _).1, (shapeOf_agg hT _).2, hl], .agg _ _ (by simp; omega) fun j hj => ?_⟩
                    have hj' : j < m := by simp at hj; omega
                    have e1 : gat ((cs.drop o).take m) j = gat cs (o + j) := by simp [gat, List.getD_eq_getElem?_getD, hj', List.getElem?_drop]
                    have e2 : vat ((List.range m).map us).toArray j = us j := by simp [vat, Array.getD, hj']
                    rw [e1, e2]; exact h2 j hj'
                  · cases hg1
              · cases hg1
            · cases hg1
      simp only [gress] at hg
      split at hg
      · rename_i g gs' h1 h2
        simp only [Option.some.injEq] at hg; subst hg
        obtain ⟨hok', v, hr, hv⟩ := one g h1
        obtain ⟨vs, r1, r2, r3⟩ := ih gr gs' hok' h2
        refine ⟨v :: vs, by simp [List.mapM_cons, hr, r1], by simp [r2], fun j hj => ?_⟩
        cases j with
        | zero => exact hv
        | succ j => exact r3 j (by simpa using hj)
      · cases hg

theorem results_sound {fn : Func} {K : Kr} {t : List GV} {a : Act} (hs : Sat K) (ht : TR K t a.tmps) {gr : List GRes} (hok : okRes P fn.results.toList gr = true) {g : GV} (hg : gretv t K.H gr = some g) :
    ∃ v, (results fn a.tmps).run P K.w = .ok v K.w ∧ VR K g v := by
  unfold gretv at hg
  have fin : ∀ gs, gress t K.H gr = some gs → ∃ vs : List Value, (fn.results.mapM (getRes a.tmps)).run P K.w = .ok vs.toArray K.w ∧ vs.length = gs.length ∧ ∀ j, j < gs.length → VR K (gat gs j) (vs.getD j Go.undef) := by
    intro gs h
    obtain ⟨vs, r1, r2, r3⟩ := run_res (P := P) hs ht _ _ _ hok h
    refine ⟨vs, ?_, r2, r3⟩
    rw [Array.mapM_eq_mapM_toList]
    simp [r1]
  have hres : results fn a.tmps = (fn.results.mapM (getRes a.tmps) >>= fun vs => pure (if h : vs.size = 1 then vs[0] else .tuple vs)) := rfl
  split at hg
  · rename_i g' h
    simp only [Option.some.injEq] at hg; subst hg
    obtain ⟨vs, r1, r2, r3⟩ := fin _ h
    match vs, r2 with
    | [v], _ =>
      refine ⟨v, ?_, r3 0 (by simp)⟩
      rw [hres]; simp [r1]
  · rename_i gs hne h
    simp only [Option.some.injEq] at hg; subst hg
    obtain ⟨vs, r1, r2, r3⟩ := fin _ h
    have hl : vs.length ≠ 1 := by
      intro e
      rw [e] at r2
      match gs, r2 with
      | [g'], _ => exact hne g' rfl
    refine ⟨.tuple vs.toArray, ?_, .tup _ _ (by simp [r2]) fun j hj => ?_⟩
    · rw [hres]; simp [r1, hl]
    · have := r3 j hj
      simpa [vat, Array.getD, List.getD_eq_getElem?_getD, show j < vs.length by omega] using this
  · cases hg

/-- a function's ghost body -/
structure GFun where
  np : Nat
  nt : Nat
  body : GCode
  res : List GRes
def okFun (P : Program) (f : FuncId) (g : GFun) : Bool := match P.funcs[f]? with
  | some fn => (match fn.body with
    | some c => okCode P c g.body && okRes P fn.results.toList g.res && fn.ntmps == g.nt && decide (g.np ≤ g.nt)
    | none => false)
  | none => false

/-- what a function's ghost body leaves -/
def GFun.post (F : GFun) (g : GV) (H' : Heap) (n' : Nat) : GPost := fun e t H n => match e with
  | .exit _ => False
  | _ => gretv t H F.res = some g ∧ H = H' ∧ n = n'

theorem VRs.tr {K : Kr} {gs : List GV} {vs : Array Value} (h : VRs K gs vs) (k : Nat) : TR K (gs ++ List.replicate k .undef) (vs ++ Array.replicate k undef) := by
  refine ⟨by simp [h.1], fun i => ?_⟩
  rcases Nat.lt_or_ge i gs.length with hi | hi
  · have := h.2 i hi
    have hi' : i < vs.size := by rw [h.1]; exact hi
    have e1 : gat (gs ++ List.replicate k .undef) i = gat gs i := by simp [gat, List.getD_eq_getElem?_getD, List.getElem?_append, hi]
    have e2 : vat (vs ++ Array.replicate k undef) i = vat vs i := by simp [vat, Array.getD_eq_getD_getElem?, Array.getElem?_append, hi']
    rw [e1, e2]; exact this
  · have e1 : gat (gs ++ List.replicate k .undef) i = .undef := by
      simp only [gat, List.getD_eq_getElem?_getD, List.getElem?_append, Nat.not_lt.2 hi, if_false, List.getElem?_replicate]
      split <;> rfl
    rw [e1]; exact .undef _

theorem spec_of (hm : P.follows .mixedOrders = true) {f : FuncId} {F : GFun} (hok : okFun P f F = true) {args : List GV} (ha : args.length = F.np) {H : Heap} {n : Nat} {g : GV} {H' : Heap} {n' : Nat}
    (hg : gw P F.body (F.post g H' n') (args ++ List.replicate (F.nt - F.np) .undef) H n) : Spec P f args H n g H' n' := by
  intro K vs e1 e2 hF hs hv
  subst e1 e2
  unfold okFun at hok
  split at hok
  · rename_i fn hfn
    split at hok
    · rename_i c hc
      simp only [Bool.and_eq_true, beq_iff_eq, decide_eq_true_eq] at hok
      obtain ⟨⟨⟨h1, h2⟩, h3⟩, h4⟩ := hok
      refine calls_of_wp hfn hc ?_
      rw [h3, show vs.size = F.np from by rw [hv.1, ha]]
      refine gw_sound hm F.body c _ _ K _ _ h1 hs hF (hv.tr _) hg fun e t' K' a' q1 q2 q3 q4 q5 q6 => ?_
      have fin : gretv t' K'.H F.res = some g ∧ K'.H = H' ∧ K'.lo = n' → a'.defers = [] ∧ ∃ v, (results fn a'.tmps).run P K'.w = .ok v K'.w ∧ ∃ v1 K1, Ending.returned v = .returned v1 ∧ K1.w = K'.w ∧ KStep K K1 ∧ K1.H = H' ∧ K1.lo = n' ∧ Fr H' n' ∧ Sat K1 ∧ VR K1 g v1 := by
        rintro ⟨p1, p2, p3⟩
        obtain ⟨v, r1, r2⟩ := results_sound q4 q5 h2 p1
        exact ⟨q6, v, r1, v, K', rfl, rfl, q2, p2, p3, by rw [← p2, ← p3]; exact q3, q4, r2⟩
      cases e with
      | normal => exact fin q1
      | ret => exact fin q1
      | exit id => exact q1.elim
    · cases hok
  · cases hok
end
end Go.Proofs.Ytdpibcniodhinaa.Gh
