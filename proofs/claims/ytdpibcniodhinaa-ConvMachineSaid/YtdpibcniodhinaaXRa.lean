/- From inputs to ghost values, and from ghost contracts to calls. -/
import Derived.Test.YtdpibcniodhinaaRows
import Derived.WalkKit
import Derived.ProofKit
import Derived.OpenShut
import Derived.Carry
import Derived.Test.YtdpibcniodhinaaXEa
namespace Go.Proofs.Ytdpibcniodhinaa.Gh
open Go Go.RowKit Go.ChangeShapes
set_option linter.unusedVariables false
set_option linter.unusedSimpArgs false

/-- each cell of this type that can be read stands for a ghost value -/
def RdC {α : Type} (P : Program) (t : TypeId) (G : α → GV) : Prop := ∀ {Hh : Type} {enc : TypeId × Value → Hh} {fuel : Nat} {c : Value} {x : DataW Hh × List MemPlace} (K : Kr), DataW.trod enc P K.w 0 (fun _ => true) true fuel t [c] = some x → (∀ B, B < K.w.heap.size → K.S B) → ∃ a, VR K (G a) c
theorem RdC.int {P : Program} {t : TypeId} (ht : P.underlying t = some (.int .i64)) : RdC P t fun z : Int => .int .i64 z := by
  intro Hh enc fuel c x K h _
  cases fuel with
  | zero => simp [DataW.trod] at h
  | succ n =>
    unfold DataW.trod at h
    rw [ht] at h
    cases c <;> simp at h
    rename_i k z
    obtain ⟨⟨rfl, _⟩, _⟩ := h
    exact ⟨z, .int _ _⟩
theorem cell_plain {w : World} {a : Addr} {v : Value} (h : w.cell? a = some v) : a.spot = none ∧ a.block < w.heap.size := by
  unfold World.cell? at h
  split at h
  · rename_i c t f hb
    split at h
    · cases h
    · rename_i hs
      refine ⟨by cases hsp : a.spot with
        | none => rfl
        | some _ => rw [hsp] at hs; simp at hs, (Array.getElem?_eq_some_iff.1 hb).1⟩
  · cases h
theorem RdC.slice {P : Program} {t e : TypeId} {α : Type} [Inhabited α] {G : α → GV} (ht : P.underlying t = some (.slice e)) (hc : P.cellsOf e = 1) (he : RdC P e G) : RdC P t fun p : Nat × (Nat → α) => .sl p.1 (tab p.1 fun i => G (p.2 i)) := by
  intro Hh enc fuel c x K h hS
  rcases DataW.trod_slice ht h with ⟨h0, _⟩ | ⟨a, len, cap, elems, rest, n, _, h0, _, hb, hl, hm, hlen, hel, _, _⟩
  · injection h0 with h0
    subst h0
    exact ⟨(0, fun _ => default), .sl0 0 0 none (Nat.le_refl _)⟩
  · injection h0 with h0
    subst h0
    have each : ∀ i, ∃ y : Value × α, i < len → K.w.cell? (a.add i) = some y.1 ∧ VR K (G y.2) y.1 := by
      intro i
      by_cases hi : i < len
      · have h1 := hel i hi
        have hy : elems[i]? = some elems[i] := List.getElem?_eq_getElem (by omega)
        rw [hy, hc, Nat.mul_one] at h1
        obtain ⟨cs, h2, h3⟩ := Option.bind_eq_some_iff.1 h1
        obtain ⟨_, h4, h5⟩ := World.cells?_some h2
        match cs, h4 with
        | [u], _ =>
          have h6 := h5 0 (by omega)
          obtain ⟨g, hg⟩ := he K h3 hS
          exact ⟨(u, g), fun _ => ⟨by simpa [Addr.add] using h6, hg⟩⟩
      · exact ⟨(Go.undef, default), fun h => absurd h hi⟩
    obtain ⟨y, hy⟩ := Classical.axiomOfChoice each
    refine ⟨(len, fun i => (y i).2), ?_⟩
    rcases Nat.eq_zero_or_pos len with h0 | h0
    · subst h0
      exact .sl0 0 cap (some a) (by omega)
    · have hc0 := (hy 0 h0).1
      have ha : a.add 0 = a := rfl
      rw [ha] at hc0
      obtain ⟨hsp, hbl⟩ := cell_plain hc0
      obtain ⟨B, o, sp⟩ := a
      have hsp : sp = none := hsp
      subst hsp
      have hadd : ∀ j, Addr.add ⟨B, o, none⟩ j = ⟨B, o + j, none⟩ := by
        intro j
        unfold Addr.add
        split
        · rename_i e; subst e; rfl
        · rfl
      refine .sl len cap B o _ (fun j => (y j).1) hl (hS B hbl) (fun j hj => ?_) fun j hj => ?_
      · rw [tab_len] at hj
        rw [← hadd]; exact (hy j hj).1
      · rw [tab_len] at hj
        rw [gat_tab hj]; exact (hy j hj).2

theorem agg_of_okWide {P : Program} {W : World} {r : Reach} {b : Nat} {t : TypeId} {v : Value} {fs : Array Field} (ht : P.underlying t = some (.struct fs)) (h : Value.okWide P W r b t v) : ∃ cs, v = .agg cs ∧ cs.size = P.cellsOf t := by
  unfold Value.okWide at h
  rw [ht] at h
  obtain ⟨cs, h1, h2, _⟩ := h
  exact ⟨cs, h1, h2⟩
abbrev gI : Int → GV := fun z => .int .i64 z
abbrev gI1 : Nat × (Nat → Int) → GV := fun p => .sl p.1 (tab p.1 fun i => gI (p.2 i))
abbrev gI2 : Nat × (Nat → Nat × (Nat → Int)) → GV := fun p => .sl p.1 (tab p.1 fun i => gI1 (p.2 i))
abbrev gI3 : Nat × (Nat → Nat × (Nat → Nat × (Nat → Int))) → GV := fun p => .sl p.1 (tab p.1 fun i => gI2 (p.2 i))
/-- the ghost of the world in which a call begins -/
def k0 (W : World) : Kr := ⟨id, fun _ => 0, fun _ => none, 0, W, fun B => B < W.heap.size⟩
theorem sat0 (W : World) : Sat (k0 W) := ⟨fun b cs e => (by cases e), fun b cs e => (by cases e), fun b b' e => absurd rfl e, fun B h => h⟩
theorem run_law {P : Program} {f : FuncId} {args : List GV} {vs : Array Value} {W : World} (hs : ∀ H n, Spec P f args H n (.bool true) H n) (hv : VRs (k0 W) args vs) :
    Calls P f vs W fun e w' => e = .returned (.bool true) ∧ Below W.heap.size W w' := by
  refine Calls.mono (hs (fun _ => none) 0 (k0 W) vs rfl rfl (fun _ _ => rfl) (sat0 W) hv) ?_
  rintro e w' ⟨v, K', h1, h2, h3, _, _, _, _, h8⟩
  have hb := h8.bool_inv
  subst h1 h2 hb
  exact ⟨rfl, ⟨h3.os, h3.tape, h3.output, h3.size, fun B hB => h3.keep B hB⟩⟩
/-- arguments read as they read before -/
theorem trodAll_stays {H : Type} {enc : TypeId × Value → H} {P : Program} (hl : laidOutB P = true) {W W' : World} (hB : Below W.heap.size W W') {sp : Nat → Bool} : ∀ {ts : List TypeId} {vs : List Value} {ds : List (DataW H)} {ps : List MemPlace},
    (∀ t ∈ ts, P.readableRec t = true ∧ t < P.types.size) → DataW.TrodAll enc P W 0 (fun _ => true) true ts vs ds ps → (∀ p ∈ ps, p.block < W.heap.size ∧ sp p.block = true) → DataW.TrodAll enc P W' 0 sp true ts vs ds ps := by
  intro ts
  induction ts with
  | nil => intro vs ds ps _ h _; cases vs <;> cases ds <;> exact h
  | cons t ts ih =>
    intro vs ds ps hr h hp
    match vs, ds, h with
    | v :: vs, d :: ds, ⟨p, q, h1, h2, h3⟩ =>
      subst h3
      have ht := hr t (by simp)
      refine ⟨p, q, ?_, ih (fun t' h' => hr t' (by simp [h'])) h2 (fun x hx => hp x (by simp [hx])), rfl⟩
      exact WideElems.Trod_stays hl ht.1 ht.2 h1 (fun x hx => hB.same (hp x (by simp [hx])).1) fun x hx => (hp x (by simp [hx])).2
end Go.Proofs.Ytdpibcniodhinaa.Gh
/-
  Proved: the law ConvChecks returns true for every input, and the input reads behind the call as it read before. No conditions.
-/
namespace Go.Proofs.Ytdpibcniodhinaa.Gh
open Go Go.RowKit Go.ChangeShapes Go.WideShapes Go.ChangeAt
set_option linter.unusedVariables false
set_option linter.unusedSimpArgs false

theorem own_knob : ownKnob Try.prog.godebug = none := by kernel_rfl
theorem laid_out : laidOutB Try.prog = true := by kernel_rfl
theorem cells3 : Try.prog.cellsOf 3 = 1 := by kernel_rfl
theorem cells22 : Try.prog.cellsOf 22 = 1 := by kernel_rfl
theorem cells42 : Try.prog.cellsOf 42 = 1 := by kernel_rfl
theorem cells25 : Try.prog.cellsOf 25 = 1 := by kernel_rfl
theorem cells24 : Try.prog.cellsOf 24 = 3 := by kernel_rfl
theorem cells27 : Try.prog.cellsOf 27 = 4 := by kernel_rfl
theorem rd3 : RdC Try.prog 3 gI := RdC.int Try.underlying3
theorem rd22 : RdC Try.prog 22 gI1 := RdC.slice Try.underlying22 cells3 rd3
theorem rd42 : RdC Try.prog 42 gI2 := RdC.slice Try.underlying42 cells22 rd22
theorem rd25 : RdC Try.prog 25 gI3 := RdC.slice Try.underlying25 cells42 rd42

set_option maxRecDepth 100000 in
/-- an encoder that is given stands for ghost values -/
theorem rd_Conv {H : Type} {enc : TypeId × Value → H} {W : World} {r : Reach} {b : Nat} {v : Value} {d : DataW H} {p : List MemPlace} (hval : Value.okWide Try.prog W r b 27 v) (hd : DataW.Trod enc Try.prog W 0 (fun _ => true) true 27 v d p) : ∃ e : Enc, VR (k0 W) e.gv v := by
  obtain ⟨cs, rfl, hsz⟩ := agg_of_okWide Try.underlying27 hval
  rw [cells27] at hsz
  obtain ⟨fuel, h⟩ := hd
  have h : DataW.trod enc Try.prog W 0 (fun _ => true) true fuel 27 cs.toList = some (d, p) := h
  obtain ⟨cs⟩ := cs
  match cs, hsz with
  | [c0, c1, c2, c3], _ =>
    obtain ⟨y0, y1, n, _, _, h1, h2⟩ := trod_struct2 Try.underlying27 h
    rw [cells24] at h1
    rw [cells25] at h2
    have h1 : DataW.trod enc Try.prog W 0 (fun _ => true) true n 24 [c0, c1, c2] = some y0 := h1
    have h2 : DataW.trod enc Try.prog W 0 (fun _ => true) true n 25 [c3] = some y1 := h2
    obtain ⟨xs, n', _, _, _, hlen, hf⟩ := DataW.trod_struct Try.underlying24 h1
    have f0 : DataW.trod enc Try.prog W 0 (fun _ => true) true n' 3 (([c0, c1, c2].drop 0).take (Try.prog.cellsOf 3)) = xs[0]? := hf 0 _ rfl
    have f1 : DataW.trod enc Try.prog W 0 (fun _ => true) true n' 3 (([c0, c1, c2].drop 1).take (Try.prog.cellsOf 3)) = xs[1]? := hf 1 _ rfl
    have f2 : DataW.trod enc Try.prog W 0 (fun _ => true) true n' 22 (([c0, c1, c2].drop 2).take (Try.prog.cellsOf 22)) = xs[2]? := hf 2 _ rfl
    rw [cells3] at f0 f1
    rw [cells22] at f2
    have hx : ∀ i, i < 3 → xs[i]? = some (xs.getD i (.nil, [])) := by
      intro i hi
      have : i < xs.length := by rw [hlen]; exact hi
      simp [List.getD_eq_getElem?_getD, this]
    rw [hx 0 (by omega)] at f0
    rw [hx 1 (by omega)] at f1
    rw [hx 2 (by omega)] at f2
    have f0 : DataW.trod enc Try.prog W 0 (fun _ => true) true n' 3 [c0] = some _ := f0
    have f1 : DataW.trod enc Try.prog W 0 (fun _ => true) true n' 3 [c1] = some _ := f1
    have f2 : DataW.trod enc Try.prog W 0 (fun _ => true) true n' 22 [c2] = some _ := f2
    obtain ⟨a0, r0⟩ := rd3 (k0 W) f0 fun B hB => hB
    obtain ⟨a1, r1⟩ := rd3 (k0 W) f1 fun B hB => hB
    obtain ⟨a2, r2⟩ := rd22 (k0 W) f2 fun B hB => hB
    obtain ⟨a3, r3⟩ := rd25 (k0 W) h2 fun B hB => hB
    refine ⟨⟨a0, a1, a2.1, a2.2, a3.1, fun i => (a3.2 i).1, fun i j => ((a3.2 i).2 j).1, fun i j => ((a3.2 i).2 j).2⟩, ?_⟩
    refine .agg _ _ rfl fun j hj => ?_
    rcases j with _ | _ | _ | _ | j
    · exact r0
    · exact r1
    · exact r2
    · exact r3
    · simp at hj; omega

set_option maxRecDepth 100000 in
theorem convChecks_lifted (os : Os) (started : os.Started) (H : Type) (enc : TypeId × Value → H) :
    ReturnsInHanded {} Try.checked os 3 .any (Rows.convChecksSpec.pre6 enc Try.prog Try.f3 Rows.convChecksRow.domain false) (Rows.convChecksSpec.post enc Try.prog Try.f3 false true false false) := by
  refine returnsInHanded_of_change (C := Try.checked) own_knob started (by kernel_rfl) Try.func3
    (ChangeSpec.witness6 (enc := enc) (C := Try.checked) false ⟨#[], #[.agg #[.int .i64 0, .int .i64 0, .slice none 0 0, .slice none 0 0]], []⟩ 8 (by kernel_rfl) (by kernel_rfl) (by kernel_rfl) (by kernel_rfl)) ?_
  intro W base args ds gs before hval0 hW hcnd _
  have hval : ∀ (j : Nat) t v, Try.f3.params[j]? = some t → args[j]? = some v → Value.okWide Try.prog W .any base t v := hval0
  have hW' := hW
  have hlt := hW.lt
  obtain ⟨p, q, hA0, hV, rfl, hfz, hnd⟩ := hW
  have hA : DataW.TrodAll enc Try.prog W 0 (fun _ => true) true Try.f3.params.toList args.toList ds p := hA0
  have hts : ∀ t ∈ Try.f3.params.toList, Try.prog.readableRec t = true ∧ t < Try.prog.types.size := by
    rw [Try.params3]
    intro t ht
    have : t = 27 := by simpa using ht
    subst this
    exact ⟨by kernel_rfl, of_decide_eq_true (by kernel_rfl)⟩
  have hA2 := hA
  rw [Try.params3] at hA hval
  obtain ⟨v0, d0, hargs, rfl, h0⟩ := trodAll_one hA
  obtain rfl : args = #[v0] := hargs
  obtain ⟨rfl, rfl⟩ := trodVars_none hV
  obtain ⟨e, he⟩ := rd_Conv (hval 0 27 v0 rfl rfl) h0
  clear hA0 hval0
  simp only [List.append_nil] at hW' hlt
  refine (run_law (f := 3) (args := [e.gv]) (fun H n => sp_ConvChecks e) ?_).mono fun x W' ⟨hx, hB⟩ => ?_
  · refine ⟨rfl, fun j hj => ?_⟩
    rcases j with _ | j
    · exact he
    · simp at hj
  subst hx
  exact ⟨_, rfl, _, _, _, [], p, [], hW', trodAll_mk1 (shut_bool Try.underlying4 _), trodAll_stays laid_out hB hts hA2 fun x hx => ⟨hlt x hx, decide_eq_true (hlt x hx)⟩, rfl, hB.frame _, fun h => by cases h⟩
end Go.Proofs.Ytdpibcniodhinaa.Gh
namespace Go.Proofs.Ytdpibcniodhinaa
open Go Go.RowKit Go.ChangeShapes Go.WideShapes Go.ChangeAt
theorem convChecks_holds : Rows.ConvChecksSaid :=
  OpenClaim.holds_of_wide 3 Try.f3 rfl rfl rfl rfl rfl rfl rfl ⟨rfl, rfl, rfl, rfl, rfl⟩ rfl rfl rfl rfl rfl (by kernel_rfl) Try.func3 (by kernel_rfl)
    (of_decide_eq_true (by kernel_rfl)) (by unfold Func.isWrapper; first | (rw [if_pos (by decide +kernel)]; kernel_rfl) | (rw [if_neg (by decide +kernel)]; exact ⟨rfl, rfl⟩))
    (fun os started H enc _ => Gh.convChecks_lifted os started H enc)
#print axioms convChecks_holds
end Go.Proofs.Ytdpibcniodhinaa
/-
  Proved: the law ConvNext returns true for every input, and the inputs read behind the call as they read before. No conditions.
-/
namespace Go.Proofs.Ytdpibcniodhinaa.Gh
open Go Go.RowKit Go.ChangeShapes Go.WideShapes Go.ChangeAt
set_option linter.unusedVariables false
set_option linter.unusedSimpArgs false

theorem rd_cell {α : Type} {t : TypeId} {G : α → GV} (hr : RdC Try.prog t G) {H : Type} {enc : TypeId × Value → H} {W : World} {v : Value} {d : DataW H} {p : List MemPlace} (hv : v.cells = #[v]) (hd : DataW.Trod enc Try.prog W 0 (fun _ => true) true t v d p) : ∃ a, VR (k0 W) (G a) v := by
  obtain ⟨fuel, h⟩ := hd
  rw [hv] at h
  exact hr (k0 W) h fun B hB => hB
set_option maxRecDepth 100000 in
theorem rd_Int {H : Type} {enc : TypeId × Value → H} {W : World} {r : Reach} {b : Nat} {v : Value} {d : DataW H} {p : List MemPlace} (hval : Value.okWide Try.prog W r b 3 v) (hd : DataW.Trod enc Try.prog W 0 (fun _ => true) true 3 v d p) : ∃ a, VR (k0 W) (gI a) v := by
  obtain ⟨n, rfl⟩ := okWide_int Try.underlying3 hval
  exact rd_cell rd3 rfl hd
set_option maxRecDepth 100000 in
theorem rd_Ints {H : Type} {enc : TypeId × Value → H} {W : World} {r : Reach} {b : Nat} {v : Value} {d : DataW H} {p : List MemPlace} (hval : Value.okWide Try.prog W r b 22 v) (hd : DataW.Trod enc Try.prog W 0 (fun _ => true) true 22 v d p) : ∃ a, VR (k0 W) (gI1 a) v := by
  obtain ⟨a, l, c, rfl⟩ := okWide_slice Try.underlying22 hval
  exact rd_cell rd22 rfl hd
set_option maxRecDepth 100000 in
theorem rd_Rows {H : Type} {enc : TypeId × Value → H} {W : World} {r : Reach} {b : Nat} {v : Value} {d : DataW H} {p : List MemPlace} (hval : Value.okWide Try.prog W r b 42 v) (hd : DataW.Trod enc Try.prog W 0 (fun _ => true) true 42 v d p) : ∃ a, VR (k0 W) (gI2 a) v := by
  obtain ⟨a, l, c, rfl⟩ := okWide_slice Try.underlying42 hval
  exact rd_cell rd42 rfl hd

set_option maxRecDepth 100000 in
theorem convNext_lifted (os : Os) (started : os.Started) (H : Type) (enc : TypeId × Value → H) :
    ReturnsInHanded {} Try.checked os 4 .any (Rows.convNextSpec.pre6 enc Try.prog Try.f4 Rows.convNextRow.domain false) (Rows.convNextSpec.post enc Try.prog Try.f4 false true false false) := by
  refine returnsInHanded_of_change (C := Try.checked) own_knob started (by kernel_rfl) Try.func4
    (ChangeSpec.witness6 (enc := enc) (C := Try.checked) false ⟨#[], #[.agg #[.int .i64 0, .int .i64 0, .slice none 0 0, .slice none 0 0], .int .i64 0, .slice none 0 0], []⟩ 8 (by kernel_rfl) (by kernel_rfl) (by kernel_rfl) (by kernel_rfl)) ?_
  intro W base args ds gs before hval0 hW hcnd _
  have hval : ∀ (j : Nat) t v, Try.f4.params[j]? = some t → args[j]? = some v → Value.okWide Try.prog W .any base t v := hval0
  have hW' := hW
  have hlt := hW.lt
  obtain ⟨p, q, hA0, hV, rfl, hfz, hnd⟩ := hW
  have hA : DataW.TrodAll enc Try.prog W 0 (fun _ => true) true Try.f4.params.toList args.toList ds p := hA0
  have hts : ∀ t ∈ Try.f4.params.toList, Try.prog.readableRec t = true ∧ t < Try.prog.types.size := by
    rw [Try.params4]
    intro t ht
    have : t = 27 ∨ t = 3 ∨ t = 22 := by simpa using ht
    rcases this with rfl | rfl | rfl
    · exact ⟨by kernel_rfl, of_decide_eq_true (by kernel_rfl)⟩
    · exact ⟨by kernel_rfl, of_decide_eq_true (by kernel_rfl)⟩
    · exact ⟨by kernel_rfl, of_decide_eq_true (by kernel_rfl)⟩
  have hA2 := hA
  rw [Try.params4] at hA hval
  obtain ⟨v0, v1, v2, d0, d1, d2, p0, p1, p2, hargs, rfl, hp, h0, h1, h2⟩ := trodAll_three hA
  obtain rfl : args = #[v0, v1, v2] := hargs
  obtain ⟨rfl, rfl⟩ := trodVars_none hV
  obtain ⟨e, he⟩ := rd_Conv (hval 0 27 v0 rfl rfl) h0
  obtain ⟨st, hst⟩ := rd_Int (hval 1 3 v1 rfl rfl) h1
  obtain ⟨a, ha⟩ := rd_Ints (hval 2 22 v2 rfl rfl) h2
  clear hA0 hval0
  simp only [List.append_nil] at hW' hlt
  refine (run_law (f := 4) (args := [e.gv, gI st, gI1 a]) (fun H n => sp_ConvNext e st a.1 a.2) ?_).mono fun x W' ⟨hx, hB⟩ => ?_
  · refine ⟨rfl, fun j hj => ?_⟩
    rcases j with _ | _ | _ | j
    · exact he
    · exact hst
    · exact ha
    · simp at hj; omega
  subst hx
  exact ⟨_, rfl, _, _, _, [], p, [], hW', trodAll_mk1 (shut_bool Try.underlying4 _), trodAll_stays laid_out hB hts hA2 fun x hx => ⟨hlt x hx, decide_eq_true (hlt x hx)⟩, rfl, hB.frame _, fun h => by cases h⟩
end Go.Proofs.Ytdpibcniodhinaa.Gh
namespace Go.Proofs.Ytdpibcniodhinaa
open Go Go.RowKit Go.ChangeShapes Go.WideShapes Go.ChangeAt
theorem convNext_holds : Rows.ConvNextSaid :=
  OpenClaim.holds_of_wide 4 Try.f4 rfl rfl rfl rfl rfl rfl rfl ⟨rfl, rfl, rfl, rfl, rfl⟩ rfl rfl rfl rfl rfl (by kernel_rfl) Try.func4 (by kernel_rfl)
    (of_decide_eq_true (by kernel_rfl)) (by unfold Func.isWrapper; first | (rw [if_pos (by decide +kernel)]; kernel_rfl) | (rw [if_neg (by decide +kernel)]; exact ⟨rfl, rfl⟩))
    (fun os started H enc _ => Gh.convNext_lifted os started H enc)
#print axioms convNext_holds
end Go.Proofs.Ytdpibcniodhinaa
/-
  Proved: the law ConvMachine returns true for every input, and the inputs read behind the call as they read before. No conditions.
-/
namespace Go.Proofs.Ytdpibcniodhinaa.Gh
open Go Go.RowKit Go.ChangeShapes Go.WideShapes Go.ChangeAt
set_option linter.unusedVariables false
set_option linter.unusedSimpArgs false
set_option maxRecDepth 100000 in
theorem convMachine_lifted (os : Os) (started : os.Started) (H : Type) (enc : TypeId × Value → H) :
    ReturnsInHanded {} Try.checked os 7 .any (Rows.convMachineSpec.pre6 enc Try.prog Try.f7 Rows.convMachineRow.domain false) (Rows.convMachineSpec.post enc Try.prog Try.f7 false true false false) := by
  refine returnsInHanded_of_change (C := Try.checked) own_knob started (by kernel_rfl) Try.func7
    (ChangeSpec.witness6 (enc := enc) (C := Try.checked) false ⟨#[], #[.agg #[.int .i64 0, .int .i64 0, .slice none 0 0, .slice none 0 0], .slice none 0 0], []⟩ 8 (by kernel_rfl) (by kernel_rfl) (by kernel_rfl) (by kernel_rfl)) ?_
  intro W base args ds gs before hval0 hW hcnd _
  have hval : ∀ (j : Nat) t v, Try.f7.params[j]? = some t → args[j]? = some v → Value.okWide Try.prog W .any base t v := hval0
  have hW' := hW
  have hlt := hW.lt
  obtain ⟨p, q, hA0, hV, rfl, hfz, hnd⟩ := hW
  have hA : DataW.TrodAll enc Try.prog W 0 (fun _ => true) true Try.f7.params.toList args.toList ds p := hA0
  have hts : ∀ t ∈ Try.f7.params.toList, Try.prog.readableRec t = true ∧ t < Try.prog.types.size := by
    rw [Try.params7]
    intro t ht
    have : t = 27 ∨ t = 42 := by simpa using ht
    rcases this with rfl | rfl
    · exact ⟨by kernel_rfl, of_decide_eq_true (by kernel_rfl)⟩
    · exact ⟨by kernel_rfl, of_decide_eq_true (by kernel_rfl)⟩
  have hA2 := hA
  rw [Try.params7] at hA hval
  obtain ⟨v0, v1, d0, d1, p0, p1, hargs, rfl, hp, h0, h1⟩ := trodAll_two hA
  obtain rfl : args = #[v0, v1] := hargs
  obtain ⟨rfl, rfl⟩ := trodVars_none hV
  obtain ⟨a0, r0⟩ := rd_Conv (hval 0 27 v0 rfl rfl) h0
  obtain ⟨a1, r1⟩ := rd_Rows (hval 1 42 v1 rfl rfl) h1
  clear hA0 hval0
  simp only [List.append_nil] at hW' hlt
  refine (run_law (f := 7) (args := [a0.gv, gI2 a1]) (fun H n => sp_ConvMachine a0 a1.1 (fun t => (a1.2 t).1) (fun t => (a1.2 t).2)) ?_).mono fun x W' ⟨hx, hB⟩ => ?_
  · refine ⟨rfl, fun j hj => ?_⟩
    rcases j with _ | _ | j
    · exact r0
    · exact r1
    · simp at hj; omega
  subst hx
  exact ⟨_, rfl, _, _, _, [], p, [], hW', trodAll_mk1 (shut_bool Try.underlying4 _), trodAll_stays laid_out hB hts hA2 fun x hx => ⟨hlt x hx, decide_eq_true (hlt x hx)⟩, rfl, hB.frame _, fun h => by cases h⟩
end Go.Proofs.Ytdpibcniodhinaa.Gh
namespace Go.Proofs.Ytdpibcniodhinaa
open Go Go.RowKit Go.ChangeShapes Go.WideShapes Go.ChangeAt
theorem convMachine_holds : Rows.ConvMachineSaid :=
  OpenClaim.holds_of_wide 7 Try.f7 rfl rfl rfl rfl rfl rfl rfl ⟨rfl, rfl, rfl, rfl, rfl⟩ rfl rfl rfl rfl rfl (by kernel_rfl) Try.func7 (by kernel_rfl)
    (of_decide_eq_true (by kernel_rfl)) (by unfold Func.isWrapper; first | (rw [if_pos (by decide +kernel)]; kernel_rfl) | (rw [if_neg (by decide +kernel)]; exact ⟨rfl, rfl⟩))
    (fun os started H enc _ => Gh.convMachine_lifted os started H enc)
#print axioms convMachine_holds
end Go.Proofs.Ytdpibcniodhinaa
