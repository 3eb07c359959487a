/- The digits of the states, and the outputs of a message: the plain laws. -/
import Derived.Test.YtdpibcniodhinaaProg
import Derived.Test.YtdpibcniodhinaaWd
namespace Go.Proofs.Ytdpibcniodhinaa.Gh
open Go Go.RowKit
open Alg (CR Ps Dg Zm Mn El Cg sm pw Irr Prm)
set_option linter.unusedVariables false
set_option linter.unusedSimpArgs false

theorem dg_add_lo {q a x : Int} {pos p : Nat} (hq : 2 ≤ q) (h : pos < p) : dg q (a + x * q ^ p) pos = dg q a pos := by
  have hp : q ^ p = q ^ pos * (q * q ^ (p - pos - 1)) := by
    have e1 : q * q ^ (p - pos - 1) = q ^ (p - pos) := by
      have : p - pos = (p - pos - 1) + 1 := by omega
      rw [this, Int.pow_succ, Int.mul_comm, Nat.add_sub_cancel]
    rw [e1, ← Int.pow_add]; congr 1; omega
  have h0 : q ^ pos ≠ 0 := by have : 0 < q ^ pos := Int.pow_pos (by omega); omega
  have e2 : a + x * q ^ p = a + q ^ pos * (q * (x * q ^ (p - pos - 1))) := by
    rw [hp, Int.mul_left_comm x, Int.mul_left_comm x q]
  rw [dg, dg, e2, Int.add_mul_ediv_left _ _ h0, Int.add_mul_emod_self_left]
theorem dg_add_hi {q a x : Int} {p : Nat} (hq : 2 ≤ q) (ha0 : 0 ≤ a) (ha : a < q ^ p) (hx0 : 0 ≤ x) (hx : x < q) : dg q (a + x * q ^ p) p = x := by
  have h0 : q ^ p ≠ 0 := by have : 0 < q ^ p := Int.pow_pos (by omega); omega
  rw [dg, Int.add_mul_ediv_right _ _ h0, Int.ediv_eq_zero_of_lt ha0 ha, Int.zero_add]
  exact Int.emod_eq_of_lt hx0 hx
theorem Enc.nx_dg (e : Enc) {q st : Int} {inp : Nat → Int} (hq : 2 ≤ q) (hin : ∀ i, i < e.r → 0 ≤ inp i ∧ inp i < q) : ∀ i', i' ≤ e.r → ∀ d', (d' = 0 ∨ i' < e.r) → ∀ i d, (i < i' ∧ d < e.deg i) ∨ (i = i' ∧ d < d') → Gh.dg q (e.nx q st inp i' d') (e.ds i + d) = e.X q st inp i d := by
  intro i'
  have step : ∀ i', i' < e.r → ∀ d', (∀ i d, (i < i' ∧ d < e.deg i) ∨ (i = i' ∧ d < d') → Gh.dg q (e.nx q st inp i' d') (e.ds i + d) = e.X q st inp i d) → ∀ i d, (i < i' ∧ d < e.deg i) ∨ (i = i' ∧ d < d' + 1) → Gh.dg q (e.nx q st inp i' (d' + 1)) (e.ds i + d) = e.X q st inp i d := by
    intro i' hi' d' ih i d h
    rw [nx_step]
    have hb := e.nx_lt (st := st) hq hin i' (by omega) d' (.inr hi')
    have hX := e.X_in (st := st) hq hin hi' d'
    by_cases hlast : i = i' ∧ d = d'
    · obtain ⟨rfl, rfl⟩ := hlast
      exact dg_add_hi hq hb.1 hb.2 hX.1 hX.2
    · have hpos : e.ds i + d < e.ds i' + d' := by
        rcases h with ⟨h1, h2⟩ | ⟨h1, h2⟩
        · have h3 : e.ds (i + 1) ≤ e.ds i' := sumn_mono (by omega)
          have h4 : e.ds (i + 1) = e.ds i + e.deg i := rfl
          omega
        · subst h1; omega
      rw [dg_add_lo hq hpos]
      exact ih i d (by omega)
  induction i' with
  | zero =>
    intro hi d'
    induction d' with
    | zero => intro _ i d h; omega
    | succ d' ih => intro hd; exact step 0 (by omega) d' (ih (by omega))
  | succ i' ihi =>
    intro hi d'
    induction d' with
    | zero =>
      intro _ i d h
      rw [nx_row]
      refine ihi (by omega) (e.deg i') (by omega) i d ?_
      rcases h with ⟨h1, h2⟩ | ⟨h1, h2⟩
      · by_cases e1 : i = i'
        · subst e1; exact .inr ⟨rfl, h2⟩
        · exact .inl ⟨by omega, h2⟩
      · omega
    | succ d' ih => intro hd; exact step (i' + 1) (by omega) d' (ih (by omega))
/-- the states of a message -/
def Enc.S (e : Enc) (q : Int) (f : Nat → Nat → Int) : Nat → Int
  | 0 => 0
  | t + 1 => e.nx q (e.S q f t) (f t) e.r 0
theorem dg_of_zero (q : Int) (j : Nat) : dg q 0 j = 0 := by rw [dg, Int.zero_ediv]; exact Int.zero_emod _
theorem Enc.X_S (e : Enc) {q : Int} {f : Nat → Nat → Int} (hq : 2 ≤ q) : ∀ t, (∀ u, u < t → ∀ i, i < e.r → 0 ≤ f u i ∧ f u i < q) → ∀ i d, i < e.r → d ≤ e.deg i → e.X q (e.S q f t) (f t) i d = if d ≤ t then f (t - d) i else 0 := by
  intro t
  induction t with
  | zero =>
    intro _ i d hi hd
    unfold X
    by_cases h0 : d = 0
    · subst h0; rw [if_pos rfl, if_pos (Nat.le_refl _)]
    · rw [if_neg h0, if_neg (by omega)]; exact dg_of_zero _ _
  | succ t ih =>
    intro h i d hi hd
    by_cases h0 : d = 0
    · subst h0; rw [X, if_pos rfl, if_pos (by omega)]; rfl
    · obtain ⟨d, rfl⟩ : ∃ u, d = u + 1 := ⟨d - 1, by omega⟩
      have h1 := ih (fun u hu => h u (by omega)) i d hi (by omega)
      have h2 := e.nx_dg (st := e.S q f t) hq (h t (by omega)) e.r (Nat.le_refl _) 0 (.inl rfl) i d (.inl ⟨hi, by omega⟩)
      rw [X, if_neg h0, Nat.add_sub_cancel]
      show Gh.dg q (e.nx q (e.S q f t) (f t) e.r 0) (e.ds i + d) = _
      rw [h2, h1, show t + 1 - (d + 1) = t - d by omega]
      by_cases h3 : d ≤ t
      · rw [if_pos h3, if_pos (by omega)]
      · rw [if_neg h3, if_neg (by omega)]
theorem hid_big (f : Nat → Int) : ∀ n d, d < n → f d ≠ 0 → d ≤ hid f n := by
  intro n
  induction n with
  | zero => intro d h; omega
  | succ n ih =>
    intro d h hz
    rw [hid]
    by_cases e : d = n
    · subst e; rw [if_neg hz]; omega
    · have := ih d (by omega) hz
      split <;> omega
theorem Enc.dg_hid (e : Enc) (i : Nat) : ∀ w j, j < w → hid (e.c i j) (e.n i j) ≤ e.dg i w := by
  intro w
  induction w with
  | zero => intro j h; omega
  | succ w ih =>
    intro j h
    rw [Enc.dg]
    by_cases e1 : j = w
    · subst e1; omega
    · have := ih j (by omega); omega
theorem Enc.co_big (e : Enc) {i j d : Nat} (hj : j < e.w i) (hd : e.deg i < d) : e.co i j d = 0 := by
  unfold co
  by_cases h : d < e.n i j
  · rw [if_pos h]
    by_cases hz : e.c i j d = 0
    · exact hz
    · have h1 := hid_big (e.c i j) (e.n i j) d h hz
      have h2 := e.dg_hid i (e.w i) j hj
      have h3 : e.deg i = e.dg i (e.w i) := rfl
      omega
  · exact if_neg h
section
variable {k : Nat} {M : Mn k}
/-- a term of the reference's output -/
noncomputable def Enc.rt (e : Enc) (M : Mn k) (f : Nat → Nat → Int) (t j i d : Nat) : Alg.El M := ein M (e.c i j d) * ein M (f (t - d) i)
/-- the reference's output, so far -/
noncomputable def Enc.ro (e : Enc) (M : Mn k) (f : Nat → Nat → Int) (t j i d : Nat) : Alg.El M := sm i (fun i' => sm (min (t + 1) (e.n i' j)) (e.rt M f t j i')) + sm d (e.rt M f t j i)
theorem Enc.ro_zero (e : Enc) (f : Nat → Nat → Int) (t j : Nat) : e.ro M f t j 0 0 = 0 := Alg.add_zero _
theorem Enc.ro_step (e : Enc) (f : Nat → Nat → Int) (t j i d : Nat) : e.ro M f t j i (d + 1) = e.ro M f t j i d + e.rt M f t j i d := by
  rw [ro, ro, Alg.sm_succ, Alg.add_assoc]
theorem Enc.ro_row (e : Enc) (f : Nat → Nat → Int) (t j i : Nat) : e.ro M f t j (i + 1) 0 = e.ro M f t j i (min (t + 1) (e.n i j)) := by
  rw [ro, ro, Alg.sm_succ, Alg.sm_zero, Alg.add_zero]
theorem Enc.ro_so (e : Enc) (h : Fc M) (f : Nat → Nat → Int) (t j : Nat) (hw : ∀ i, i < e.r → j < e.w i) (hin : ∀ u, u < t → ∀ i, i < e.r → 0 ≤ f u i ∧ f u i < (qn M : Nat)) : e.ro M f t j e.r 0 = e.so M (e.S (qn M : Nat) f t) (f t) e.r 0 j := by
  have hq2 := qn_two M
  rw [ro, so, Alg.sm_zero, Alg.sm_zero]
  congr 1
  refine Alg.sm_congr fun i hi => ?_
  have hX := e.X_S (q := (qn M : Nat)) (by omega) t hin i
  -- both are sums over all places
  let L := t + 1 + e.n i j + (e.deg i + 1)
  have h1 : sm (min (t + 1) (e.n i j)) (e.rt M f t j i) = sm L fun d => if d ≤ t then ein M (e.co i j d) * ein M (f (t - d) i) else 0 := by
    have e1 : sm (min (t + 1) (e.n i j)) (e.rt M f t j i) = sm (min (t + 1) (e.n i j)) fun d => if d ≤ t then ein M (e.co i j d) * ein M (f (t - d) i) else 0 :=
      Alg.sm_congr fun d hd => by rw [rt, if_pos (by omega), co, if_pos (by omega)]
    rw [e1]
    refine (Alg.sm_ext (by omega) fun d d1 d2 => ?_).symm
    by_cases h3 : d ≤ t
    · rw [if_pos h3, co, if_neg (by omega), ein_zero h, Alg.zero_mul]
    · exact if_neg h3
  have h2 : sm (e.deg i + 1) (e.tm M (e.S (qn M : Nat) f t) (f t) j i) = sm L fun d => if d ≤ t then ein M (e.co i j d) * ein M (f (t - d) i) else 0 := by
    have e1 : sm (e.deg i + 1) (e.tm M (e.S (qn M : Nat) f t) (f t) j i) = sm (e.deg i + 1) fun d => if d ≤ t then ein M (e.co i j d) * ein M (f (t - d) i) else 0 :=
      Alg.sm_congr fun d hd => by
        rw [tm, hX d hi (by omega)]
        by_cases h3 : d ≤ t
        · rw [if_pos h3, if_pos h3, Alg.mul_comm]
        · rw [if_neg h3, if_neg h3, ein_zero h, Alg.zero_mul]
    rw [e1]
    refine (Alg.sm_ext (by omega) fun d d1 d2 => ?_).symm
    by_cases h3 : d ≤ t
    · rw [if_pos h3, e.co_big (hw i hi) (by omega), ein_zero h, Alg.zero_mul]
    · exact if_neg h3
  rw [h1, h2]
end
end Go.Proofs.Ytdpibcniodhinaa.Gh
/- Messages: errors, outputs by the program and by the reference. -/
namespace Go.Proofs.Ytdpibcniodhinaa.Gh
open Go Go.RowKit
open Alg (CR Ps Dg Zm Mn El Cg sm pw Irr Prm)
set_option linter.unusedVariables false
set_option linter.unusedSimpArgs false

/-- a message -/
def msr (l : Nat → Nat) (f : Nat → Nat → Int) : Nat → GV := fun t => isl (l t) (f t)
theorem msr_at (l : Nat → Nat) (f : Nat → Nat → Int) (t : Nat) : msr l f t = isl (l t) (f t) := rfl
abbrev msg (T : Nat) (l : Nat → Nat) (f : Nat → Nat → Int) : GV := .sl T (tab T (msr l f))
/-- the first error of a message -/
noncomputable def stE (r : Nat) (l : Nat → Nat) (f : Nat → Nat → Int) (q : Int) : Nat → Int
  | 0 => 0
  | t + 1 => if stE r l f q t = 0 then inE r (l t) (f t) q else stE r l f q t
theorem stE_up {r : Nat} {l : Nat → Nat} {f : Nat → Nat → Int} {q : Int} {t T : Nat} (h : t ≤ T) (h0 : stE r l f q t ≠ 0) : stE r l f q T = stE r l f q t := by
  induction T with
  | zero => have : t = 0 := by omega
            subst this; rfl
  | succ T ih =>
    by_cases e : t = T + 1
    · subst e; rfl
    · have := ih (by omega)
      rw [stE, if_neg (by rw [this]; exact h0)]; exact this
theorem stE_ok {r : Nat} {l : Nat → Nat} {f : Nat → Nat → Int} {q : Int} {T : Nat} (h : stE r l f q T = 0) : ∀ t, t < T → l t = r ∧ ∀ i, i < r → 0 ≤ f t i ∧ f t i < q := by
  induction T with
  | zero => intro t ht; omega
  | succ T ih =>
    rw [stE] at h
    by_cases h0 : stE r l f q T = 0
    · rw [if_pos h0] at h
      intro t ht
      by_cases e : t = T
      · subst e
        obtain ⟨h1, h2⟩ := inE_ok h
        exact ⟨h1, fun i hi => h2 i (by omega)⟩
      · exact ih h0 t (by omega)
    · rw [if_neg h0] at h; exact absurd h h0
theorem sp_ref20_Steps {H : Heap} {n : Nat} (e : Enc) (hB : e.Bnd) (T : Nat) (l : Nat → Nat) (f : Nat → Nat → Int) (hT : T ≤ 1000000) : Spec prog fid_ref20_Steps [e.gv, msg T l f] H n (.int .i64 (stE e.r l f (qo e.p e.m) T)) H n := by
  refine spec_ends hmix ok_ref20_Steps rfl fun hF => ?_
  show gw prog B_ref20_Steps _ (tl 22 _) H n
  simp -implicitDefEqProofs only [B_ref20_Steps, go_sem, Nat.reduceLT, Nat.reduceBEq, Nat.reduceAdd, Nat.reduceEqDiff, Nat.reduceLeDiff, Nat.reduceSub, Nat.reduceMul]
  refine loop_rule (fun (t : Nat) E H' n' => n' = n + 1 ∧ H' n = some e.cs ∧ (∀ b, b < n → H' b = H b) ∧ E 1 = msg T l f ∧ E 2 = .ptr n 0 ∧ E 5 = .int .i64 (t : Nat) ∧ t ≤ T ∧ stE e.r l f (qo e.p e.m) t = 0) (fun t => T - t) 0 ⟨rfl, by simp -implicitDefEqProofs only [go_sem, Nat.reduceLT, Nat.reduceBEq, Nat.reduceAdd, Nat.reduceEqDiff, Nat.reduceLeDiff, Nat.reduceSub, Nat.reduceMul], fun b hb => upd_ne _ _ (by omega), rfl, rfl, rfl, by omega, rfl⟩ ?_
  rintro t E H' n' ⟨rfl, h0, ho, e1, e2, e5, ht, hz⟩
  simp -implicitDefEqProofs only [go_sem, Nat.reduceLT, Nat.reduceBEq, Nat.reduceAdd, Nat.reduceEqDiff, Nat.reduceLeDiff, Nat.reduceSub, Nat.reduceMul, e1, e5]
  refine c_split (fun hc => ?_) (fun hc => ?_)
  · have htN : t < T := by omega
    have hwt := wrap64 (x := (t : Int) + 1) (by omega)
    have hs : stE e.r l f (qo e.p e.m) (t + 1) = inE e.r (l t) (f t) (qo e.p e.m) := by rw [stE, if_pos hz]
    simp -implicitDefEqProofs only [go_sem, Nat.reduceLT, Nat.reduceBEq, Nat.reduceAdd, Nat.reduceEqDiff, Nat.reduceLeDiff, Nat.reduceSub, Nat.reduceMul, e1, e2, e5, h0, hc, htN, gat_tab, msr_at]
    refine call_of (sp_ref20_List e hB (l t) (f t)) ?_
    by_cases hE : inE e.r (l t) (f t) (qo e.p e.m) = 0
    · simp -implicitDefEqProofs only [go_sem, Nat.reduceLT, Nat.reduceBEq, Nat.reduceAdd, Nat.reduceEqDiff, Nat.reduceLeDiff, Nat.reduceSub, Nat.reduceMul, hE, e5, hwt]
      exact l_n ⟨t + 1, by omega, rfl, h0, ho, by simp -implicitDefEqProofs only [go_sem, Nat.reduceLT, Nat.reduceBEq, Nat.reduceAdd, Nat.reduceEqDiff, Nat.reduceLeDiff, Nat.reduceSub, Nat.reduceMul, e1], by simp -implicitDefEqProofs only [go_sem, Nat.reduceLT, Nat.reduceBEq, Nat.reduceAdd, Nat.reduceEqDiff, Nat.reduceLeDiff, Nat.reduceSub, Nat.reduceMul, e2], by simp -implicitDefEqProofs only [go_sem, Nat.reduceLT, Nat.reduceBEq, Nat.reduceAdd, Nat.reduceEqDiff, Nat.reduceLeDiff, Nat.reduceSub, Nat.reduceMul]; rfl, by omega, hs.trans hE⟩
    · simp -implicitDefEqProofs only [go_sem, Nat.reduceLT, Nat.reduceBEq, Nat.reduceAdd, Nat.reduceEqDiff, Nat.reduceLeDiff, Nat.reduceSub, Nat.reduceMul, hE]
      refine fin_ret rfl (by decide) ?_ ho
      simp -implicitDefEqProofs only [go_sem, Nat.reduceLT, Nat.reduceBEq, Nat.reduceAdd, Nat.reduceEqDiff, Nat.reduceLeDiff, Nat.reduceSub, Nat.reduceMul]
      exact fz_int (by rw [stE_up (t := t + 1) (by omega) (by rw [hs]; exact hE), hs])
  · have : t = T := by omega
    subst this
    simp -implicitDefEqProofs only [go_sem, Nat.reduceLT, Nat.reduceBEq, Nat.reduceAdd, Nat.reduceEqDiff, Nat.reduceLeDiff, Nat.reduceSub, Nat.reduceMul]
    refine fin_ret rfl (by decide) ?_ ho
    simp -implicitDefEqProofs only [go_sem, Nat.reduceLT, Nat.reduceBEq, Nat.reduceAdd, Nat.reduceEqDiff, Nat.reduceLeDiff, Nat.reduceSub, Nat.reduceMul]
    exact fz_int hz.symm

section
variable {k : Nat} {M : Mn k}
/-- the outputs of a message, row by row -/
noncomputable def Enc.orow (e : Enc) (M : Mn k) (f : Nat → Nat → Int) : Nat → GV := fun t => isl (e.w 0) fun j => (cn (e.so M (e.S (qn M : Nat) f t) (f t) e.r 0 j) : Nat)
noncomputable def Enc.oval (e : Enc) (M : Mn k) (f : Nat → Nat → Int) (T : Nat) : GV := if T = 0 then .nil else .sl T (tab T (e.orow M f))
end
end Go.Proofs.Ytdpibcniodhinaa.Gh
/- The reference's outputs of a message. -/
namespace Go.Proofs.Ytdpibcniodhinaa.Gh
open Go Go.RowKit
open Alg (CR Ps Dg Zm Mn El Cg sm pw Irr Prm)
set_option linter.unusedVariables false
set_option linter.unusedSimpArgs false

section
variable {k : Nat} {M : Mn k}
set_option maxHeartbeats 4000000 in
theorem sp_ref20_Encode {H : Heap} {n : Nat} (e : Enc) (hB : e.Bnd) (h : Fi M) (hd : e.Des M) (hce : e.ce = 0) (T : Nat) (l : Nat → Nat) (f : Nat → Nat → Int) (hT : T ≤ 100000) (hz : stE e.r l f (qn M : Nat) T = 0) :
    Spec prog fid_ref20_Encode [e.gv, msg T l f] H n (e.oval M f T) H n := by
  refine spec_ends hmix ok_ref20_Encode rfl fun hF => ?_
  show gw prog B_ref20_Encode _ (tl 92 _) H n
  have hr := hB.r
  have hok := Enc.ok hce
  have hr0 : 0 < e.r := by have := hok.2.1.1; omega
  have hw0 := hB.w 0 hr0
  have hst := stE_ok hz
  have hfd : fgv e.p e.m (isl e.l e.mo) = fd M := Des.fd hd
  have sMul : ∀ (H3 : Heap) (n3 : Nat) (x y : Int), Spec prog fid_ref04_Mul [fgv e.p e.m (isl e.l e.mo), .int .i64 x, .int .i64 y] H3 n3 (.int .i64 (cd (ein M x * ein M y))) H3 n3 := fun H3 n3 x y => by rw [hfd]; exact sp_ref04_Mul h.fc x y
  have sAdd : ∀ (H3 : Heap) (n3 : Nat) (x y : Int), Spec prog fid_ref04_Add [fgv e.p e.m (isl e.l e.mo), .int .i64 x, .int .i64 y] H3 n3 (.int .i64 (cd (ein M x + ein M y))) H3 n3 := fun H3 n3 x y => by rw [hfd]; exact sp_ref04_Add h.fc x y
  have hz1 : (0 : Int) < (e.r : Int) := by omega
  have hz3 : (0 : Int).toNat = 0 := rfl
  have hz4 : (0 : Int) ≤ 0 := Int.le_refl 0
  simp -implicitDefEqProofs only [B_ref20_Encode, go_sem, Nat.reduceLT, Nat.reduceBEq, Nat.reduceAdd, Nat.reduceEqDiff, Nat.reduceLeDiff, Nat.reduceSub, Nat.reduceMul]
  refine loop_rule (fun (t : Nat) E H' n' => ∃ g bs, n + 1 ≤ n' ∧ H' n = some e.cs ∧ (∀ b, b < n → H' b = H b) ∧ Sl H' (n + 1) n' g t (fun u => .own (bs u) 0 (e.w 0)) ∧ (t = 0 → g = .nil) ∧ (∀ u, u < t → n + 1 ≤ bs u ∧ bs u < n' ∧ ¬ Own g (bs u) ∧ H' (bs u) = some (tab (e.w 0) (it fun j => (cn (e.so M (e.S (qn M : Nat) f u) (f u) e.r 0 j) : Nat)))) ∧ E 1 = msg T l f ∧ E 2 = .ptr n 0 ∧ E 5 = g ∧ E 6 = .int .i64 (t : Nat) ∧ t ≤ T) (fun t => T - t) 0 ⟨.nil, fun _ => 0, by omega, by simp -implicitDefEqProofs only [go_sem, Nat.reduceLT, Nat.reduceBEq, Nat.reduceAdd, Nat.reduceEqDiff, Nat.reduceLeDiff, Nat.reduceSub, Nat.reduceMul], fun b hb => upd_ne _ _ (by omega), .nil, fun _ => rfl, fun u hu => by omega, rfl, rfl, rfl, rfl, by omega⟩ ?_
  rintro t E H' n' ⟨g, bs, hn, h0, ho, sl, hg0, hrows, e1, e2, e5, e6, ht⟩
  simp -implicitDefEqProofs only [go_sem, Nat.reduceLT, Nat.reduceBEq, Nat.reduceAdd, Nat.reduceEqDiff, Nat.reduceLeDiff, Nat.reduceSub, Nat.reduceMul, e1, e6]
  refine c_split (fun hc => ?_) (fun hc => ?_)
  · have htN : t < T := by omega
    have hwt := wrap64 (x := (t : Int) + 1) (by omega)
    have f0 : (n = n') = False := eq_false (by omega)
    simp -implicitDefEqProofs only [go_sem, Nat.reduceLT, Nat.reduceBEq, Nat.reduceAdd, Nat.reduceEqDiff, Nat.reduceLeDiff, Nat.reduceSub, Nat.reduceMul, e2, h0, hz1, hr0, hz3, hz4, gat_tab, e.rw_at]
    repeat with_reducible refine And.intro (by omega) ?_
    refine loop_rule (fun (j : Nat) E H1 n1 => n1 = n' + 1 ∧ H1 n' = some (tab (e.w 0) (it (mix (fun j => (cn (e.ro M f t j e.r 0) : Nat)) (fun _ => 0) j))) ∧ (∀ c, c ≠ n' → H1 c = H' c) ∧ E 1 = msg T l f ∧ E 2 = .ptr n 0 ∧ E 5 = g ∧ E 6 = .int .i64 (t : Nat) ∧ E 7 = .own n' 0 (e.w 0) ∧ E 8 = .int .i64 (j : Nat) ∧ j ≤ e.w 0) (fun j => e.w 0 - j) 0 ?_ ?_
    · refine ⟨rfl, ?_, fun c hc => upd_ne _ _ hc, by simp -implicitDefEqProofs only [go_sem, Nat.reduceLT, Nat.reduceBEq, Nat.reduceAdd, Nat.reduceEqDiff, Nat.reduceLeDiff, Nat.reduceSub, Nat.reduceMul, e1], by simp -implicitDefEqProofs only [go_sem, Nat.reduceLT, Nat.reduceBEq, Nat.reduceAdd, Nat.reduceEqDiff, Nat.reduceLeDiff, Nat.reduceSub, Nat.reduceMul, e2], by simp -implicitDefEqProofs only [go_sem, Nat.reduceLT, Nat.reduceBEq, Nat.reduceAdd, Nat.reduceEqDiff, Nat.reduceLeDiff, Nat.reduceSub, Nat.reduceMul, e5], by simp -implicitDefEqProofs only [go_sem, Nat.reduceLT, Nat.reduceBEq, Nat.reduceAdd, Nat.reduceEqDiff, Nat.reduceLeDiff, Nat.reduceSub, Nat.reduceMul, e6], by simp -implicitDefEqProofs only [go_sem, Nat.reduceLT, Nat.reduceBEq, Nat.reduceAdd, Nat.reduceEqDiff, Nat.reduceLeDiff, Nat.reduceSub, Nat.reduceMul], rfl, by omega⟩
      simp -implicitDefEqProofs only [go_sem, Nat.reduceLT, Nat.reduceBEq, Nat.reduceAdd, Nat.reduceEqDiff, Nat.reduceLeDiff, Nat.reduceSub, Nat.reduceMul, tab_rep, mix_zero]; rfl
    clear e1 e2 e5 e6 E
    rintro j E H1 n1 ⟨rfl, hrow, hk, e1, e2, e5, e6, e7, e8, hj⟩
    simp -implicitDefEqProofs only [go_sem, Nat.reduceLT, Nat.reduceBEq, Nat.reduceAdd, Nat.reduceEqDiff, Nat.reduceLeDiff, Nat.reduceSub, Nat.reduceMul, e7, e8]
    refine c_split (fun hcj => ?_) (fun hcj => ?_)
    · have hjN : j < e.w 0 := by omega
      have hjI : ((j : Nat) : Int) < ((e.w 0 : Nat) : Int) := hcj
      have hwj := wrap64 (x := (j : Int) + 1) (by omega)
      simp -implicitDefEqProofs only [go_sem, Nat.reduceLT, Nat.reduceBEq, Nat.reduceAdd, Nat.reduceEqDiff, Nat.reduceLeDiff, Nat.reduceSub, Nat.reduceMul]
      refine loop_rule (fun (i : Nat) E H2 n2 => n2 = n' + 1 ∧ H2 n' = some (tab (e.w 0) (it (upf (mix (fun j => (cn (e.ro M f t j e.r 0) : Nat)) (fun _ => 0) j) j (cn (e.ro M f t j i 0) : Nat)))) ∧ (∀ c, c ≠ n' → H2 c = H' c) ∧ E 1 = msg T l f ∧ E 2 = .ptr n 0 ∧ E 5 = g ∧ E 6 = .int .i64 (t : Nat) ∧ E 7 = .own n' 0 (e.w 0) ∧ E 8 = .int .i64 (j : Nat) ∧ E 9 = .int .i64 (i : Nat) ∧ i ≤ e.r) (fun i => e.r - i) 0 ?_ ?_
      · refine ⟨rfl, ?_, hk, by simp -implicitDefEqProofs only [go_sem, Nat.reduceLT, Nat.reduceBEq, Nat.reduceAdd, Nat.reduceEqDiff, Nat.reduceLeDiff, Nat.reduceSub, Nat.reduceMul, e1], by simp -implicitDefEqProofs only [go_sem, Nat.reduceLT, Nat.reduceBEq, Nat.reduceAdd, Nat.reduceEqDiff, Nat.reduceLeDiff, Nat.reduceSub, Nat.reduceMul, e2], by simp -implicitDefEqProofs only [go_sem, Nat.reduceLT, Nat.reduceBEq, Nat.reduceAdd, Nat.reduceEqDiff, Nat.reduceLeDiff, Nat.reduceSub, Nat.reduceMul, e5], by simp -implicitDefEqProofs only [go_sem, Nat.reduceLT, Nat.reduceBEq, Nat.reduceAdd, Nat.reduceEqDiff, Nat.reduceLeDiff, Nat.reduceSub, Nat.reduceMul, e6], by simp -implicitDefEqProofs only [go_sem, Nat.reduceLT, Nat.reduceBEq, Nat.reduceAdd, Nat.reduceEqDiff, Nat.reduceLeDiff, Nat.reduceSub, Nat.reduceMul, e7], by simp -implicitDefEqProofs only [go_sem, Nat.reduceLT, Nat.reduceBEq, Nat.reduceAdd, Nat.reduceEqDiff, Nat.reduceLeDiff, Nat.reduceSub, Nat.reduceMul, e8], rfl, by omega⟩
        rw [hrow]
        refine congrArg some (tab_congr fun u hu => congrArg (GV.int .i64) ?_)
        by_cases eu : u = j
        · subst eu
          rw [upf_same, mix_at, e.ro_zero, cn_zero]; rfl
        · rw [upf_ne _ _ eu]
      clear hrow hk e1 e2 e5 e6 e7 e8 E H1
      rintro i E H2 n2 ⟨rfl, hrow, hk, e1, e2, e5, e6, e7, e8, e9, hi⟩
      have h0' : H2 n = some e.cs := by rw [hk n (by omega)]; exact h0
      simp -implicitDefEqProofs only [go_sem, Nat.reduceLT, Nat.reduceBEq, Nat.reduceAdd, Nat.reduceEqDiff, Nat.reduceLeDiff, Nat.reduceSub, Nat.reduceMul, e2, e9, h0']
      refine c_split (fun hci => ?_) (fun hci => ?_)
      · have hiN : i < e.r := by omega
        have hiI : ((i : Nat) : Int) < ((e.r : Nat) : Int) := hci
        have hwi := wrap64 (x := (i : Int) + 1) (by omega)
        have hwN : e.w i = e.w 0 := hok.2.1.2.2.2 i hiN
        have hnij := hB.n i j hiN (by omega)
        simp -implicitDefEqProofs only [go_sem, Nat.reduceLT, Nat.reduceBEq, Nat.reduceAdd, Nat.reduceEqDiff, Nat.reduceLeDiff, Nat.reduceSub, Nat.reduceMul]
        refine loop_rule (fun (d : Nat) E H3 n3 => n3 = n' + 1 ∧ H3 n' = some (tab (e.w 0) (it (upf (mix (fun j => (cn (e.ro M f t j e.r 0) : Nat)) (fun _ => 0) j) j (cn (e.ro M f t j i d) : Nat)))) ∧ (∀ c, c ≠ n' → H3 c = H' c) ∧ E 1 = msg T l f ∧ E 2 = .ptr n 0 ∧ E 5 = g ∧ E 6 = .int .i64 (t : Nat) ∧ E 7 = .own n' 0 (e.w 0) ∧ E 8 = .int .i64 (j : Nat) ∧ E 9 = .int .i64 (i : Nat) ∧ E 10 = .int .i64 (d : Nat) ∧ d ≤ min (t + 1) (e.n i j)) (fun d => min (t + 1) (e.n i j) - d) 0 ⟨rfl, hrow, hk, by simp -implicitDefEqProofs only [go_sem, Nat.reduceLT, Nat.reduceBEq, Nat.reduceAdd, Nat.reduceEqDiff, Nat.reduceLeDiff, Nat.reduceSub, Nat.reduceMul, e1], by simp -implicitDefEqProofs only [go_sem, Nat.reduceLT, Nat.reduceBEq, Nat.reduceAdd, Nat.reduceEqDiff, Nat.reduceLeDiff, Nat.reduceSub, Nat.reduceMul, e2], by simp -implicitDefEqProofs only [go_sem, Nat.reduceLT, Nat.reduceBEq, Nat.reduceAdd, Nat.reduceEqDiff, Nat.reduceLeDiff, Nat.reduceSub, Nat.reduceMul, e5], by simp -implicitDefEqProofs only [go_sem, Nat.reduceLT, Nat.reduceBEq, Nat.reduceAdd, Nat.reduceEqDiff, Nat.reduceLeDiff, Nat.reduceSub, Nat.reduceMul, e6], by simp -implicitDefEqProofs only [go_sem, Nat.reduceLT, Nat.reduceBEq, Nat.reduceAdd, Nat.reduceEqDiff, Nat.reduceLeDiff, Nat.reduceSub, Nat.reduceMul, e7], by simp -implicitDefEqProofs only [go_sem, Nat.reduceLT, Nat.reduceBEq, Nat.reduceAdd, Nat.reduceEqDiff, Nat.reduceLeDiff, Nat.reduceSub, Nat.reduceMul, e8], by simp -implicitDefEqProofs only [go_sem, Nat.reduceLT, Nat.reduceBEq, Nat.reduceAdd, Nat.reduceEqDiff, Nat.reduceLeDiff, Nat.reduceSub, Nat.reduceMul, e9], rfl, by omega⟩ ?_
        clear hrow hk h0' e1 e2 e5 e6 e7 e8 e9 E H2
        rintro d E H3 n3 ⟨rfl, hrow, hk, e1, e2, e5, e6, e7, e8, e9, e10, hdd⟩
        have h0' : H3 n = some e.cs := by rw [hk n (by omega)]; exact h0
        by_cases hcd : d < min (t + 1) (e.n i j)
        · have hdt : ((d : Nat) : Int) ≤ ((t : Nat) : Int) := by omega
          have hdn : ((d : Nat) : Int) < ((e.n i j : Nat) : Int) := by omega
          have hdN : d < e.n i j := by omega
          have htd : t - d < T := by omega
          have htdI : ((t - d : Nat) : Int) < ((T : Nat) : Int) := by omega
          have htd0 := Int.natCast_nonneg (t - d)
          have hws : IntKind.i64.wrap (((t : Nat) : Int) - ((d : Nat) : Int)) = ((t - d : Nat) : Int) := (wrap64 (by omega)).trans (by omega)
          have hlr := (hst (t - d) htd).1
          have hil : i < l (t - d) := by omega
          have hilI : ((i : Nat) : Int) < ((l (t - d) : Nat) : Int) := by omega
          have hwd := wrap64 (x := (d : Int) + 1) (by omega)
          have f1 : n < n' + 1 := by omega
          have f2 : n' < n' + 1 := by omega
          have hat : upf (mix (fun j => ((cn (e.ro M f t j e.r 0) : Nat) : Int)) (fun _ => 0) j) j ((cn (e.ro M f t j i d) : Nat) : Int) j = ((cn (e.ro M f t j i d) : Nat) : Int) := upf_same _ _ _
          simp -implicitDefEqProofs only [go_sem, Nat.reduceLT, Nat.reduceBEq, Nat.reduceAdd, Nat.reduceEqDiff, Nat.reduceLeDiff, Nat.reduceSub, Nat.reduceMul, e1, e2, e6, e7, e8, e9, e10, h0', hrow, hiI, hiN, hjI, hjN, hdt, hdn, hdN, gat_tab, e.rw_at, e.pl_at, hwN, msr_at, hws, htd, htdI, htd0, hil, hilI, f1, f2, hat]
          refine mcall_of (.int _ _) (fun H4 n4 _ _ => sMul H4 n4 _ _) ?_
          simp -implicitDefEqProofs only [go_sem, Nat.reduceLT, Nat.reduceBEq, Nat.reduceAdd, Nat.reduceEqDiff, Nat.reduceLeDiff, Nat.reduceSub, Nat.reduceMul]
          refine mcall_of (.int _ _) (fun H4 n4 _ _ => sAdd H4 n4 _ _) ?_
          have hval : cd (ein M ((cn (e.ro M f t j i d) : Nat) : Int) + ein M (cd (ein M (e.c i j d) * ein M (f (t - d) i)))) = ((cn (e.ro M f t j i (d + 1)) : Nat) : Int) := by
            rw [cd_cn (ein M (e.c i j d) * ein M (f (t - d) i)), ein_cn h.fc, ein_cn h.fc, cd_cn, e.ro_step]; rfl
          simp -implicitDefEqProofs only [go_sem, Nat.reduceLT, Nat.reduceBEq, Nat.reduceAdd, Nat.reduceEqDiff, Nat.reduceLeDiff, Nat.reduceSub, Nat.reduceMul, e10, hrow, hjI, hjN, hwd, hval, upf_upf]
          repeat with_reducible refine And.intro (by omega) ?_
          exact l_n ⟨d + 1, by omega, rfl, by simp -implicitDefEqProofs only [go_sem, Nat.reduceLT, Nat.reduceBEq, Nat.reduceAdd, Nat.reduceEqDiff, Nat.reduceLeDiff, Nat.reduceSub, Nat.reduceMul], fun c hc => by rw [upd_ne _ _ hc]; exact hk c hc, by simp -implicitDefEqProofs only [go_sem, Nat.reduceLT, Nat.reduceBEq, Nat.reduceAdd, Nat.reduceEqDiff, Nat.reduceLeDiff, Nat.reduceSub, Nat.reduceMul, e1], by simp -implicitDefEqProofs only [go_sem, Nat.reduceLT, Nat.reduceBEq, Nat.reduceAdd, Nat.reduceEqDiff, Nat.reduceLeDiff, Nat.reduceSub, Nat.reduceMul, e2], by simp -implicitDefEqProofs only [go_sem, Nat.reduceLT, Nat.reduceBEq, Nat.reduceAdd, Nat.reduceEqDiff, Nat.reduceLeDiff, Nat.reduceSub, Nat.reduceMul, e5], by simp -implicitDefEqProofs only [go_sem, Nat.reduceLT, Nat.reduceBEq, Nat.reduceAdd, Nat.reduceEqDiff, Nat.reduceLeDiff, Nat.reduceSub, Nat.reduceMul, e6], by simp -implicitDefEqProofs only [go_sem, Nat.reduceLT, Nat.reduceBEq, Nat.reduceAdd, Nat.reduceEqDiff, Nat.reduceLeDiff, Nat.reduceSub, Nat.reduceMul, e7], by simp -implicitDefEqProofs only [go_sem, Nat.reduceLT, Nat.reduceBEq, Nat.reduceAdd, Nat.reduceEqDiff, Nat.reduceLeDiff, Nat.reduceSub, Nat.reduceMul, e8], by simp -implicitDefEqProofs only [go_sem, Nat.reduceLT, Nat.reduceBEq, Nat.reduceAdd, Nat.reduceEqDiff, Nat.reduceLeDiff, Nat.reduceSub, Nat.reduceMul, e9], by simp -implicitDefEqProofs only [go_sem, Nat.reduceLT, Nat.reduceBEq, Nat.reduceAdd, Nat.reduceEqDiff, Nat.reduceLeDiff, Nat.reduceSub, Nat.reduceMul]; rfl, by omega⟩
        · have hdm : d = min (t + 1) (e.n i j) := by omega
          have hrow' : H3 n' = some (tab (e.w 0) (it (upf (mix (fun j => (cn (e.ro M f t j e.r 0) : Nat)) (fun _ => 0) j) j (cn (e.ro M f t j (i + 1) 0) : Nat)))) := by
            rw [e.ro_row, ← hdm]; exact hrow
          by_cases hdt : ((d : Nat) : Int) ≤ ((t : Nat) : Int)
          · have hdn : ¬ ((d : Nat) : Int) < ((e.n i j : Nat) : Int) := by omega
            simp -implicitDefEqProofs only [go_sem, Nat.reduceLT, Nat.reduceBEq, Nat.reduceAdd, Nat.reduceEqDiff, Nat.reduceLeDiff, Nat.reduceSub, Nat.reduceMul, e2, e6, e8, e9, e10, h0', hiI, hiN, hjI, hjN, hdt, hdn, gat_tab, e.rw_at, e.pl_at, hwN, hwi]
            exact l_n ⟨i + 1, by omega, rfl, hrow', hk, by simp -implicitDefEqProofs only [go_sem, Nat.reduceLT, Nat.reduceBEq, Nat.reduceAdd, Nat.reduceEqDiff, Nat.reduceLeDiff, Nat.reduceSub, Nat.reduceMul, e1], by simp -implicitDefEqProofs only [go_sem, Nat.reduceLT, Nat.reduceBEq, Nat.reduceAdd, Nat.reduceEqDiff, Nat.reduceLeDiff, Nat.reduceSub, Nat.reduceMul, e2], by simp -implicitDefEqProofs only [go_sem, Nat.reduceLT, Nat.reduceBEq, Nat.reduceAdd, Nat.reduceEqDiff, Nat.reduceLeDiff, Nat.reduceSub, Nat.reduceMul, e5], by simp -implicitDefEqProofs only [go_sem, Nat.reduceLT, Nat.reduceBEq, Nat.reduceAdd, Nat.reduceEqDiff, Nat.reduceLeDiff, Nat.reduceSub, Nat.reduceMul, e6], by simp -implicitDefEqProofs only [go_sem, Nat.reduceLT, Nat.reduceBEq, Nat.reduceAdd, Nat.reduceEqDiff, Nat.reduceLeDiff, Nat.reduceSub, Nat.reduceMul, e7], by simp -implicitDefEqProofs only [go_sem, Nat.reduceLT, Nat.reduceBEq, Nat.reduceAdd, Nat.reduceEqDiff, Nat.reduceLeDiff, Nat.reduceSub, Nat.reduceMul, e8], by simp -implicitDefEqProofs only [go_sem, Nat.reduceLT, Nat.reduceBEq, Nat.reduceAdd, Nat.reduceEqDiff, Nat.reduceLeDiff, Nat.reduceSub, Nat.reduceMul]; rfl, by omega⟩
          · simp -implicitDefEqProofs only [go_sem, Nat.reduceLT, Nat.reduceBEq, Nat.reduceAdd, Nat.reduceEqDiff, Nat.reduceLeDiff, Nat.reduceSub, Nat.reduceMul, e6, e9, e10, hdt, hwi]
            exact l_n ⟨i + 1, by omega, rfl, hrow', hk, by simp -implicitDefEqProofs only [go_sem, Nat.reduceLT, Nat.reduceBEq, Nat.reduceAdd, Nat.reduceEqDiff, Nat.reduceLeDiff, Nat.reduceSub, Nat.reduceMul, e1], by simp -implicitDefEqProofs only [go_sem, Nat.reduceLT, Nat.reduceBEq, Nat.reduceAdd, Nat.reduceEqDiff, Nat.reduceLeDiff, Nat.reduceSub, Nat.reduceMul, e2], by simp -implicitDefEqProofs only [go_sem, Nat.reduceLT, Nat.reduceBEq, Nat.reduceAdd, Nat.reduceEqDiff, Nat.reduceLeDiff, Nat.reduceSub, Nat.reduceMul, e5], by simp -implicitDefEqProofs only [go_sem, Nat.reduceLT, Nat.reduceBEq, Nat.reduceAdd, Nat.reduceEqDiff, Nat.reduceLeDiff, Nat.reduceSub, Nat.reduceMul, e6], by simp -implicitDefEqProofs only [go_sem, Nat.reduceLT, Nat.reduceBEq, Nat.reduceAdd, Nat.reduceEqDiff, Nat.reduceLeDiff, Nat.reduceSub, Nat.reduceMul, e7], by simp -implicitDefEqProofs only [go_sem, Nat.reduceLT, Nat.reduceBEq, Nat.reduceAdd, Nat.reduceEqDiff, Nat.reduceLeDiff, Nat.reduceSub, Nat.reduceMul, e8], by simp -implicitDefEqProofs only [go_sem, Nat.reduceLT, Nat.reduceBEq, Nat.reduceAdd, Nat.reduceEqDiff, Nat.reduceLeDiff, Nat.reduceSub, Nat.reduceMul]; rfl, by omega⟩
      · have hir : i = e.r := by omega
        subst hir
        rw [mix_step (fun j => ((cn (e.ro M f t j e.r 0) : Nat) : Int)) (fun _ => 0) j] at hrow
        simp -implicitDefEqProofs only [go_sem, Nat.reduceLT, Nat.reduceBEq, Nat.reduceAdd, Nat.reduceEqDiff, Nat.reduceLeDiff, Nat.reduceSub, Nat.reduceMul, e8, hwj]
        exact l_n ⟨j + 1, by omega, rfl, hrow, hk, by simp -implicitDefEqProofs only [go_sem, Nat.reduceLT, Nat.reduceBEq, Nat.reduceAdd, Nat.reduceEqDiff, Nat.reduceLeDiff, Nat.reduceSub, Nat.reduceMul, e1], by simp -implicitDefEqProofs only [go_sem, Nat.reduceLT, Nat.reduceBEq, Nat.reduceAdd, Nat.reduceEqDiff, Nat.reduceLeDiff, Nat.reduceSub, Nat.reduceMul, e2], by simp -implicitDefEqProofs only [go_sem, Nat.reduceLT, Nat.reduceBEq, Nat.reduceAdd, Nat.reduceEqDiff, Nat.reduceLeDiff, Nat.reduceSub, Nat.reduceMul, e5], by simp -implicitDefEqProofs only [go_sem, Nat.reduceLT, Nat.reduceBEq, Nat.reduceAdd, Nat.reduceEqDiff, Nat.reduceLeDiff, Nat.reduceSub, Nat.reduceMul, e6], by simp -implicitDefEqProofs only [go_sem, Nat.reduceLT, Nat.reduceBEq, Nat.reduceAdd, Nat.reduceEqDiff, Nat.reduceLeDiff, Nat.reduceSub, Nat.reduceMul, e7], by simp -implicitDefEqProofs only [go_sem, Nat.reduceLT, Nat.reduceBEq, Nat.reduceAdd, Nat.reduceEqDiff, Nat.reduceLeDiff, Nat.reduceSub, Nat.reduceMul]; rfl, by omega⟩
    · have hjw : j = e.w 0 := by omega
      subst hjw
      have hrow : H1 n' = some (tab (e.w 0) (it fun j => (cn (e.so M (e.S (qn M : Nat) f t) (f t) e.r 0 j) : Nat))) := by
        rw [hrow]
        refine congrArg some (tab_congr fun u hu => congrArg (GV.int .i64) ?_)
        rw [mix_lt _ _ hu]
        show ((cn (e.ro M f t u e.r 0) : Nat) : Int) = _
        rw [e.ro_so h.fc f t u (fun i hi => by rw [hok.2.1.2.2.2 i hi]; exact hu) fun v hv i hi => (hst v (by omega)).2 i hi]
      have sl0 : Sl H1 (n + 1) (n' + 1) g t (fun u => .own (upf bs t n' u) 0 (e.w 0)) := (sl.keep (fun c hc => hk c (by have := sl.lt hc; omega)) (by omega)).congr fun u hu => by rw [upf_ne _ _ (by omega)]
      simp -implicitDefEqProofs only [go_sem, Nat.reduceLT, Nat.reduceBEq, Nat.reduceAdd, Nat.reduceEqDiff, Nat.reduceLeDiff, Nat.reduceSub, Nat.reduceMul, e5, e7]
      have sl' : Sl (upd H1 (n' + 1) (some [GV.own n' 0 (e.w 0)])) (n + 1) (n' + 2) g t (fun u => .own (upf bs t n' u) 0 (e.w 0)) := sl0.keep (fun c hc => upd_ne _ _ (by have := sl.lt hc; omega)) (by omega)
      refine app_one sl' (by rw [upf_same]) rfl (by omega) fun H2 k1 k2 => ?_
      have keep : ∀ c, c < n' + 1 → ¬ Own g c → H2 c = H1 c := fun c hc hg => by rw [k2 c (by omega) hg, upd_ne _ _ (by omega)]
      simp -implicitDefEqProofs only [go_sem, Nat.reduceLT, Nat.reduceBEq, Nat.reduceAdd, Nat.reduceEqDiff, Nat.reduceLeDiff, Nat.reduceSub, Nat.reduceMul, e6, hwt]
      refine l_n ⟨t + 1, by omega, .own (n' + 2) 0 (t + 1), upf bs t n', by omega, ?_, fun b hb => ?_, .inr ⟨n' + 2, by omega, by omega, rfl, k1⟩, fun h => by omega, fun u hu => ?_, by simp -implicitDefEqProofs only [go_sem, Nat.reduceLT, Nat.reduceBEq, Nat.reduceAdd, Nat.reduceEqDiff, Nat.reduceLeDiff, Nat.reduceSub, Nat.reduceMul, e1], by simp -implicitDefEqProofs only [go_sem, Nat.reduceLT, Nat.reduceBEq, Nat.reduceAdd, Nat.reduceEqDiff, Nat.reduceLeDiff, Nat.reduceSub, Nat.reduceMul, e2], by simp -implicitDefEqProofs only [go_sem, Nat.reduceLT, Nat.reduceBEq, Nat.reduceAdd, Nat.reduceEqDiff, Nat.reduceLeDiff, Nat.reduceSub, Nat.reduceMul], by simp -implicitDefEqProofs only [go_sem, Nat.reduceLT, Nat.reduceBEq, Nat.reduceAdd, Nat.reduceEqDiff, Nat.reduceLeDiff, Nat.reduceSub, Nat.reduceMul]; rfl, by omega⟩
      · rw [keep n (by omega) fun hg => by have := sl.lt hg; omega, hk n (by omega)]; exact h0
      · rw [keep b (by omega) fun hg => by have := sl.lt hg; omega, hk b (by omega)]; exact ho b hb
      · by_cases eu : u = t
        · subst eu
          rw [upf_same]
          refine ⟨by omega, by omega, fun hg => by rw [own_own] at hg; omega, ?_⟩
          rw [keep n' (by omega) fun hg => by have := sl.lt hg; omega]; exact hrow
        · rw [upf_ne _ _ eu]
          obtain ⟨r1, r2, r3, r4⟩ := hrows u (by omega)
          refine ⟨r1, by omega, fun hg => by rw [own_own] at hg; omega, ?_⟩
          rw [keep _ (by omega) r3, hk _ (by omega)]; exact r4
  · have : t = T := by omega
    subst this
    simp -implicitDefEqProofs only [go_sem, Nat.reduceLT, Nat.reduceBEq, Nat.reduceAdd, Nat.reduceEqDiff, Nat.reduceLeDiff, Nat.reduceSub, Nat.reduceMul, e5]
    refine fin_ret rfl (by decide) ?_ ho
    simp -implicitDefEqProofs only [go_sem, Nat.reduceLT, Nat.reduceBEq, Nat.reduceAdd, Nat.reduceEqDiff, Nat.reduceLeDiff, Nat.reduceSub, Nat.reduceMul]
    by_cases h0 : t = 0
    · rw [hg0 h0, Enc.oval, if_pos h0]; exact .nil
    · obtain ⟨b, b1, b2, rfl, b3⟩ := sl.own (by omega)
      rw [Enc.oval, if_neg h0]
      refine .ownf b 0 t _ _ b3 (by omega) (fun i a c => by omega) (by rw [tab_len]; omega) tab_len fun u hu => ?_
      rw [Nat.zero_add, gat_tab hu, gat_tab hu]
      obtain ⟨r1, r2, r3, r4⟩ := hrows u hu
      exact fz_own_isl r4 (by omega)
end

end Go.Proofs.Ytdpibcniodhinaa.Gh
/- The machine step by step against messages. -/
namespace Go.Proofs.Ytdpibcniodhinaa.Gh
open Go Go.RowKit
open Alg (CR Ps Dg Zm Mn El Cg sm pw Irr Prm)
set_option linter.unusedVariables false
set_option linter.unusedSimpArgs false

theorem Enc.mem_ge (e : Enc) : ∀ w i, i < w → e.deg i ≤ e.mem w := by
  intro w
  induction w with
  | zero => intro i h; omega
  | succ w ih =>
    intro i h
    rw [Enc.mem]
    by_cases e1 : i = w
    · subst e1; omega
    · have := ih i (by omega); omega
theorem Enc.mem_le (e : Enc) (h : e.Bnd) : ∀ w, w ≤ e.r → e.mem w ≤ 40 := by
  intro w
  induction w with
  | zero => intro _; exact Nat.zero_le _
  | succ w ih => intro hw; rw [Enc.mem]; have := ih (by omega); have := e.deg_le h (i := w) (by omega); omega
theorem Enc.pos_dec (e : Enc) : ∀ w pos, pos < e.ds w → ∃ i d, i < w ∧ d < e.deg i ∧ pos = e.ds i + d := by
  intro w
  induction w with
  | zero => intro pos h; exact absurd h (Nat.not_lt_zero _)
  | succ w ih =>
    intro pos h
    have h1 : e.ds (w + 1) = e.ds w + e.deg w := rfl
    by_cases h2 : pos < e.ds w
    · obtain ⟨i, d, a, b, c⟩ := ih pos h2
      exact ⟨i, d, by omega, b, c⟩
    · exact ⟨w, pos - e.ds w, by omega, by omega, by omega⟩
theorem sp_ref20_Memory {H : Heap} {n : Nat} (e : Enc) (hB : e.Bnd) : Spec prog fid_ref20_Memory [e.gv] H n (.int .i64 (e.mem e.r : Nat)) H n := by
  refine spec_ends hmix ok_ref20_Memory rfl fun hF => ?_
  show gw prog B_ref20_Memory _ (tl 18 _) H n
  have hr := hB.r
  simp -implicitDefEqProofs only [B_ref20_Memory, go_sem, Nat.reduceLT, Nat.reduceBEq, Nat.reduceAdd, Nat.reduceEqDiff, Nat.reduceLeDiff, Nat.reduceSub, Nat.reduceMul]
  refine loop_rule (fun (i : Nat) E H' n' => n' = n + 1 ∧ H' n = some e.cs ∧ (∀ b, b < n → H' b = H b) ∧ E 1 = .ptr n 0 ∧ E 3 = .int .i64 (e.mem i : Nat) ∧ E 4 = .int .i64 (i : Nat) ∧ i ≤ e.r) (fun i => e.r - i) 0 ⟨rfl, by simp -implicitDefEqProofs only [go_sem, Nat.reduceLT, Nat.reduceBEq, Nat.reduceAdd, Nat.reduceEqDiff, Nat.reduceLeDiff, Nat.reduceSub, Nat.reduceMul], fun b hb => upd_ne _ _ (by omega), rfl, rfl, rfl, by omega⟩ ?_
  rintro i E H' n' ⟨rfl, h0, ho, e1, e3, e4, hi⟩
  simp -implicitDefEqProofs only [go_sem, Nat.reduceLT, Nat.reduceBEq, Nat.reduceAdd, Nat.reduceEqDiff, Nat.reduceLeDiff, Nat.reduceSub, Nat.reduceMul, e1, e4, h0]
  refine c_split (fun hc => ?_) (fun hc => ?_)
  · have hiN : i < e.r := by omega
    have hwi := wrap64 (x := (i : Int) + 1) (by omega)
    have hmm : (max ((e.mem i : Nat) : Int) ((e.deg i : Nat) : Int)) = ((e.mem (i + 1) : Nat) : Int) := by rw [Enc.mem]; omega
    simp -implicitDefEqProofs only [go_sem, Nat.reduceLT, Nat.reduceBEq, Nat.reduceAdd, Nat.reduceEqDiff, Nat.reduceLeDiff, Nat.reduceSub, Nat.reduceMul, e1, e3, e4, h0]
    refine call_of (sp_ref20_Degree e hB i hiN) ?_
    simp -implicitDefEqProofs only [go_sem, Nat.reduceLT, Nat.reduceBEq, Nat.reduceAdd, Nat.reduceEqDiff, Nat.reduceLeDiff, Nat.reduceSub, Nat.reduceMul, e4, hmm, hwi]
    exact l_n ⟨i + 1, by omega, rfl, h0, ho, by simp -implicitDefEqProofs only [go_sem, Nat.reduceLT, Nat.reduceBEq, Nat.reduceAdd, Nat.reduceEqDiff, Nat.reduceLeDiff, Nat.reduceSub, Nat.reduceMul, e1], by simp -implicitDefEqProofs only [go_sem, Nat.reduceLT, Nat.reduceBEq, Nat.reduceAdd, Nat.reduceEqDiff, Nat.reduceLeDiff, Nat.reduceSub, Nat.reduceMul], by simp -implicitDefEqProofs only [go_sem, Nat.reduceLT, Nat.reduceBEq, Nat.reduceAdd, Nat.reduceEqDiff, Nat.reduceLeDiff, Nat.reduceSub, Nat.reduceMul]; rfl, by omega⟩
  · have : i = e.r := by omega
    subst this
    simp -implicitDefEqProofs only [go_sem, Nat.reduceLT, Nat.reduceBEq, Nat.reduceAdd, Nat.reduceEqDiff, Nat.reduceLeDiff, Nat.reduceSub, Nat.reduceMul, e3]
    refine fin_ret rfl (by decide) ?_ ho
    simp -implicitDefEqProofs only [go_sem, Nat.reduceLT, Nat.reduceBEq, Nat.reduceAdd, Nat.reduceEqDiff, Nat.reduceLeDiff, Nat.reduceSub, Nat.reduceMul]; exact fz_int rfl

def tlen (T r : Nat) (l : Nat → Nat) : Nat → Nat := fun t => if t < T then l t else r
def tval (T : Nat) (f : Nat → Nat → Int) : Nat → Nat → Int := fun t i => if t < T then f t i else 0
set_option maxHeartbeats 4000000 in
theorem sp_ref20_Terminate {H : Heap} {n : Nat} (e : Enc) (hB : e.Bnd) (T : Nat) (l : Nat → Nat) (f : Nat → Nat → Int) (hT : T ≤ 1000) : Spec prog fid_ref20_Terminate [e.gv, msg T l f] H n (msg (T + e.mem e.r) (tlen T e.r l) (tval T f)) H n := by
  refine spec_ends hmix ok_ref20_Terminate rfl fun hF => ?_
  show gw prog B_ref20_Terminate _ (tl 24 _) H n
  have hr := hB.r
  have hm := e.mem_le hB e.r (Nat.le_refl _)
  simp -implicitDefEqProofs only [B_ref20_Terminate, go_sem, Nat.reduceLT, Nat.reduceBEq, Nat.reduceAdd, Nat.reduceEqDiff, Nat.reduceLeDiff, Nat.reduceSub, Nat.reduceMul]
  repeat with_reducible refine And.intro (by omega) ?_
  refine loop_rule (fun (i : Nat) E H' n' => ∃ (b : Nat) (bs : Nat → Nat), n + 1 ≤ n' ∧ H' n = some e.cs ∧ (∀ b, b < n → H' b = H b) ∧ n + 1 ≤ b ∧ b < n' ∧ H' b = some (tab (T + i) fun u => if u < T then isl (l u) (f u) else .own (bs u) 0 e.r) ∧ (∀ u, T ≤ u → u < T + i → n + 1 ≤ bs u ∧ bs u < n' ∧ bs u ≠ b ∧ H' (bs u) = some (tab e.r (it fun _ => 0))) ∧ E 2 = .ptr n 0 ∧ E 5 = .own b 0 (T + i) ∧ E 6 = .int .i64 (i : Nat) ∧ i ≤ e.mem e.r) (fun i => e.mem e.r - i) 0 ?_ ?_
  · refine ⟨n + 1, fun _ => 0, by omega, by simp -implicitDefEqProofs only [go_sem, Nat.reduceLT, Nat.reduceBEq, Nat.reduceAdd, Nat.reduceEqDiff, Nat.reduceLeDiff, Nat.reduceSub, Nat.reduceMul], fun b hb => by rw [upd_ne _ _ (by omega), upd_ne _ _ (by omega)], by omega, by omega, ?_, fun u h1 h2 => by omega, rfl, by simp -implicitDefEqProofs only [go_sem, Nat.reduceLT, Nat.reduceBEq, Nat.reduceAdd, Nat.reduceEqDiff, Nat.reduceLeDiff, Nat.reduceSub, Nat.reduceMul], by simp -implicitDefEqProofs only [go_sem, Nat.reduceLT, Nat.reduceBEq, Nat.reduceAdd, Nat.reduceEqDiff, Nat.reduceLeDiff, Nat.reduceSub, Nat.reduceMul]; rfl, by omega⟩
    rw [upd_same]
    refine congrArg some (tab_congr fun u hu => ?_)
    rw [if_pos (by omega)]; rfl
  rintro i E H' n' ⟨b, bs, hn, h0, ho, b1, b2, hb, hrows, e2, e5, e6, hi⟩
  simp -implicitDefEqProofs only [go_sem, Nat.reduceLT, Nat.reduceBEq, Nat.reduceAdd, Nat.reduceEqDiff, Nat.reduceLeDiff, Nat.reduceSub, Nat.reduceMul, e2, e6, h0]
  refine call_of (sp_ref20_Memory e hB) ?_
  simp -implicitDefEqProofs only [go_sem, Nat.reduceLT, Nat.reduceBEq, Nat.reduceAdd, Nat.reduceEqDiff, Nat.reduceLeDiff, Nat.reduceSub, Nat.reduceMul]
  refine c_split (fun hc => ?_) (fun hc => ?_)
  · have hwi := wrap64 (x := (i : Int) + 1) (by omega)
    have f1 : (n = n') = False := eq_false (by omega)
    simp -implicitDefEqProofs only [go_sem, Nat.reduceLT, Nat.reduceBEq, Nat.reduceAdd, Nat.reduceEqDiff, Nat.reduceLeDiff, Nat.reduceSub, Nat.reduceMul, e2, e5, h0]
    repeat with_reducible refine And.intro (by omega) ?_
    have sl : Sl (upd (upd H' n' (some (List.replicate e.r (GV.int .i64 0)))) (n' + 1) (some [GV.own n' 0 e.r])) (n + 1) (n' + 2) (.own b 0 (T + i)) (T + i) (fun u => if u < T then isl (l u) (f u) else .own (upf bs (T + i) n' u) 0 e.r) := by
      refine .inr ⟨b, b1, by omega, rfl, ?_⟩
      rw [upd_ne _ _ (by omega), upd_ne _ _ (by omega), hb]
      refine congrArg some (tab_congr fun u hu => ?_)
      by_cases h1 : u < T
      · rw [if_pos h1, if_pos h1]
      · rw [if_neg h1, if_neg h1, upf_ne _ _ (by omega)]
    refine app_one sl (by rw [if_neg (by omega), upf_same]) rfl (by omega) fun H2 k1 k2 => ?_
    have keep : ∀ c, c < n' → c ≠ b → H2 c = H' c := fun c hc hcb => by rw [k2 c (by omega) (fun hg => hcb (own_own.1 hg)), upd_ne _ _ (by omega), upd_ne _ _ (by omega)]
    simp -implicitDefEqProofs only [go_sem, Nat.reduceLT, Nat.reduceBEq, Nat.reduceAdd, Nat.reduceEqDiff, Nat.reduceLeDiff, Nat.reduceSub, Nat.reduceMul, e6, hwi]
    refine l_n ⟨i + 1, by omega, n' + 2, upf bs (T + i) n', by omega, ?_, fun c hc => ?_, by omega, by omega, k1, fun u h1 h2 => ?_, by simp -implicitDefEqProofs only [go_sem, Nat.reduceLT, Nat.reduceBEq, Nat.reduceAdd, Nat.reduceEqDiff, Nat.reduceLeDiff, Nat.reduceSub, Nat.reduceMul, e2], by simp -implicitDefEqProofs only [go_sem, Nat.reduceLT, Nat.reduceBEq, Nat.reduceAdd, Nat.reduceEqDiff, Nat.reduceLeDiff, Nat.reduceSub, Nat.reduceMul]; rfl, by simp -implicitDefEqProofs only [go_sem, Nat.reduceLT, Nat.reduceBEq, Nat.reduceAdd, Nat.reduceEqDiff, Nat.reduceLeDiff, Nat.reduceSub, Nat.reduceMul]; rfl, by omega⟩
    · rw [keep n (by omega) (by omega)]; exact h0
    · rw [keep c (by omega) (by omega)]; exact ho c hc
    · by_cases eu : u = T + i
      · subst eu
        rw [upf_same]
        refine ⟨by omega, by omega, by omega, ?_⟩
        rw [k2 n' (by omega) (fun hg => by have := own_own.1 hg; omega), upd_ne _ _ (by omega), upd_same, tab_rep]; rfl
      · rw [upf_ne _ _ eu]
        obtain ⟨r1, r2, r3, r4⟩ := hrows u h1 (by omega)
        exact ⟨r1, by omega, by omega, by rw [keep _ r2 r3]; exact r4⟩
  · have : i = e.mem e.r := by omega
    subst this
    simp -implicitDefEqProofs only [go_sem, Nat.reduceLT, Nat.reduceBEq, Nat.reduceAdd, Nat.reduceEqDiff, Nat.reduceLeDiff, Nat.reduceSub, Nat.reduceMul, e5]
    refine fin_ret rfl (by decide) ?_ ho
    simp -implicitDefEqProofs only [go_sem, Nat.reduceLT, Nat.reduceBEq, Nat.reduceAdd, Nat.reduceEqDiff, Nat.reduceLeDiff, Nat.reduceSub, Nat.reduceMul]
    refine .ownf b 0 (T + e.mem e.r) _ _ hb (by omega) (fun i a c => by omega) (by rw [tab_len]; omega) tab_len fun u hu => ?_
    rw [Nat.zero_add, gat_tab hu, gat_tab hu, msr_at]
    by_cases h1 : u < T
    · rw [if_pos h1, tlen, if_pos h1]
      have : isl (l u) (tval T f u) = isl (l u) (f u) := isl_congr fun j _ => if_pos h1
      rw [this]
      exact (pl_isl _ _).tr
    · rw [if_neg h1, tlen, if_neg h1]
      have : isl e.r (tval T f u) = isl e.r (fun _ => 0) := isl_congr fun j _ => if_neg h1
      rw [this]
      obtain ⟨r1, r2, r3, r4⟩ := hrows u (by omega) hu
      exact fz_own_isl r4 (by omega)

end Go.Proofs.Ytdpibcniodhinaa.Gh
/- The statement ConvMachine, over ghost values. -/
namespace Go.Proofs.Ytdpibcniodhinaa.Gh
open Go Go.RowKit
open Alg (CR Ps Dg Zm Mn El Cg sm pw Irr Prm)
set_option linter.unusedVariables false
set_option linter.unusedSimpArgs false

/-- the encoder of the chapter's first example -/
def e4 : Enc := ⟨2, 1, 0, fun _ => 0, 1, fun _ => 2, fun _ _ => 3, fun _ j d => if j = 0 then (if d = 1 then 0 else 1) else 1⟩
end Go.Proofs.Ytdpibcniodhinaa.Gh
/- A slice of the call's own that is handed on for good: it is only read from then on. -/
namespace Go.Proofs.Ytdpibcniodhinaa.Gh
open Go Go.RowKit
set_option linter.unusedVariables false
set_option linter.unusedSimpArgs false

/-- the block b is only read from now on -/
def lay (K : Kr) (b : Nat) : Kr := ⟨K.σ, K.sz, upd K.H b none, K.lo, K.w, fun B => K.S B ∨ (0 < K.sz b ∧ B = K.σ b)⟩
section
variable {K : Kr} {b : Nat} {cs : List GV}
theorem lay_step (hb : b < K.lo) (hH : K.H b = some cs) : KStep K (lay K b) where
  os := rfl
  tape := rfl
  output := rfl
  size := Nat.le_refl _
  S B h := .inl h
  keep B h := rfl
  lo := Nat.le_refl _
  live x h1 h2 := ⟨rfl, rfl⟩
  dies x h1 h2 := by
    by_cases e : x = b
    · subst e; exact hb
    · have h2 : upd K.H b none x = none := h2
      rw [upd_ne _ _ e] at h2; exact absurd h2 h1
  dead x h1 h2 := by
    show upd K.H b none x = none
    by_cases e : x = b
    · subst e; exact upd_same _ _ _
    · rw [upd_ne _ _ e]; exact h2
theorem lay_sat (hs : Sat K) (hb : b < K.lo) (hH : K.H b = some cs) : Sat (lay K b) := by
  have hst := lay_step hb hH
  refine ⟨?_, ?_, ?_, ?_⟩
  · intro x cs' e
    have e : upd K.H b none x = some cs' := e
    by_cases hx : x = b
    · subst hx; rw [upd_same] at e; cases e
    · rw [upd_ne _ _ hx] at e; exact hs.len x cs' e
  · intro x cs' e hz
    have e : upd K.H b none x = some cs' := e
    by_cases hx : x = b
    · subst hx; rw [upd_same] at e; cases e
    · rw [upd_ne _ _ hx] at e
      obtain ⟨row, T, h1, h2, h3, h4⟩ := hs.blk x cs' e hz
      refine ⟨row, T, h1, h2, fun j hj => (h3 j hj).mono hst, fun h => ?_⟩
      rcases h with h | ⟨hz', h⟩
      · exact h4 h
      · exact hx (hs.inj x b (by rw [e]; simp) (by rw [hH]; simp) hz hz' h)
  · intro x y h1 h2 hz1 hz2 e
    have h1 : upd K.H b none x ≠ none := h1
    have h2 : upd K.H b none y ≠ none := h2
    have hx : x ≠ b := fun e => by subst e; rw [upd_same] at h1; exact h1 rfl
    have hy : y ≠ b := fun e => by subst e; rw [upd_same] at h2; exact h2 rfl
    rw [upd_ne _ _ hx] at h1
    rw [upd_ne _ _ hy] at h2
    exact hs.inj x y h1 h2 hz1 hz2 e
  · intro B h
    rcases h with h | ⟨hz, rfl⟩
    · exact hs.sS B h
    · obtain ⟨row, T, h1, _⟩ := hs.blk b cs hH hz
      exact (Array.getElem?_eq_some_iff.1 h1).1
theorem lay_VR (hs : Sat K) (hb : b < K.lo) (hH : K.H b = some cs) {m : Nat} (hl : cs.length = m) {v : Value} (h : VR K (.own b 0 m) v) : VR (lay K b) (.sl m cs) v := by
  have hst := lay_step hb hH
  have zero : ∀ (A : Option Addr) (c : Nat), m = 0 → VR (lay K b) (.sl m cs) (.slice A m c) := fun A c h0 => by
    have hc : cs = [] := List.length_eq_zero_iff.1 (by omega)
    subst hc
    exact .sl0 m c A (by omega)
  cases h with
  | own _ _ _ c h1 h2 h3 =>
    rcases Nat.eq_zero_or_pos m with h0 | h0
    · exact zero _ _ h0
    · have hz : 0 < K.sz b := by omega
      obtain ⟨row, T, r1, r2, r3, r4⟩ := hs.blk b cs hH hz
      refine .sl m c (K.σ b) 0 cs (fun j => vat row j) h3 (.inr ⟨hz, rfl⟩) (fun j hj => ?_) fun j hj => (r3 j hj).mono hst
      have hlen := hs.len b cs hH
      show K.w.cell? ⟨K.σ b, 0 + j, none⟩ = _
      unfold World.cell?
      rw [r1]
      have hj' : j < row.size := by omega
      simp [vat, Array.getD, hj']
  | own0 _ _ A h1 => exact zero _ _ rfl
  | owns _ _ _ B c h1 h2 h3 => rw [hH] at h1; cases h1
end
/-- a slice of the call's own is handed on, and never used again -/
theorem spec_frz {P : Program} {f : FuncId} {xs ys : List GV} {H H' : Heap} {n n' b m : Nat} {cs : List GV} {g : GV} (hb : b < n) (hH : H b = some cs) (hl : cs.length = m)
    (h : Spec P f (xs ++ .sl m cs :: ys) (upd H b none) n g H' n') : Spec P f (xs ++ .own b 0 m :: ys) H n g H' n' := by
  intro K vs e1 e2 hF hs hv
  subst e1 e2
  have hst := lay_step hb hH
  refine Calls.mono (h (lay K b) vs rfl rfl (fun x hx => ?_) (lay_sat hs hb hH) ⟨by rw [hv.1]; simp, fun j hj => ?_⟩) ?_
  · show upd K.H b none x = none
    rw [upd_ne _ _ (by omega)]; exact hF x hx
  · have hj' : j < (xs ++ GV.own b 0 m :: ys).length := by simpa using hj
    have h1 := hv.2 j hj'
    rcases Nat.lt_trichotomy j xs.length with e | e | e
    · have g1 : gat (xs ++ GV.own b 0 m :: ys) j = gat xs j := by simp [gat, List.getD_eq_getElem?_getD, List.getElem?_append, e]
      have g2 : gat (xs ++ GV.sl m cs :: ys) j = gat xs j := by simp [gat, List.getD_eq_getElem?_getD, List.getElem?_append, e]
      rw [g1] at h1; rw [g2]; exact h1.mono hst
    · subst e
      have g1 : gat (xs ++ GV.own b 0 m :: ys) xs.length = .own b 0 m := by simp [gat, List.getD_eq_getElem?_getD]
      have g2 : gat (xs ++ GV.sl m cs :: ys) xs.length = .sl m cs := by simp [gat, List.getD_eq_getElem?_getD]
      rw [g1] at h1; rw [g2]; exact lay_VR hs hb hH hl h1
    · obtain ⟨d, rfl⟩ : ∃ d, j = xs.length + (d + 1) := ⟨j - xs.length - 1, by omega⟩
      have g1 : gat (xs ++ GV.own b 0 m :: ys) (xs.length + (d + 1)) = gat ys d := by simp [gat, List.getD_eq_getElem?_getD, List.getElem?_append_right]
      have g2 : gat (xs ++ GV.sl m cs :: ys) (xs.length + (d + 1)) = gat ys d := by simp [gat, List.getD_eq_getElem?_getD, List.getElem?_append_right]
      rw [g1] at h1; rw [g2]; exact h1.mono hst
  · rintro e w' ⟨v, K', h1, h2, h3, h4, h5, h6, h7, h8⟩
    exact ⟨v, K', h1, h2, hst.trans h3, h4, h5, h6, h7, h8⟩
end Go.Proofs.Ytdpibcniodhinaa.Gh
/- More equations of the evaluator. -/
namespace Go.Proofs.Ytdpibcniodhinaa.Gh
open Go Go.RowKit
set_option linter.unusedVariables false
set_option linter.unusedSimpArgs false
section
variable {P : Program} {N n m n0 : Nat} {E : Env} {H H0 : Heap} {q : Km} {g v : GV} {x y : GX} {t : List GV}
def hmappp (q : Km) (bytes : Nat) : GV → Option (List GV) → Option (List GV) → Prop
  | .nil, some _, some ys => ys.length * bytes ≤ 140737488355328 ∧ q (.sl ys.length ys) none
  | .emp, some _, some ys => ys.length * bytes ≤ 140737488355328 ∧ q (.sl ys.length ys) none
  | .lit _, some cs, some ys => (cs.length + ys.length) * bytes ≤ 140737488355328 ∧ q (.sl (cs.length + ys.length) (cs ++ ys)) none
  | _, _, _ => False
theorem m_appendp (bytes : Nat) : gmop P H0 n0 t n q (.appendp bytes x y) = hmappp q bytes (gev t x) (gelems (below H0 n0) (gev t x)) (gelems (below H0 n0) (gev t y)) := by
  simp only [gmop]
  show (match gelems (below H0 n0) (gev t x), gelems (below H0 n0) (gev t y) with | some cs, some ys => _ | _, _ => False) = _
  generalize gelems (below H0 n0) (gev t x) = u; generalize gev t x = v; generalize gelems (below H0 n0) (gev t y) = w
  unfold hmappp
  cases u <;> cases w <;> cases v <;> rfl
theorem m_appp_nil (bytes : Nat) (ys zs : List GV) : hmappp q bytes .nil (some zs) (some ys) = (ys.length * bytes ≤ 140737488355328 ∧ q (.sl ys.length ys) none) := rfl
theorem m_appp_emp (bytes : Nat) (ys zs : List GV) : hmappp q bytes .emp (some zs) (some ys) = (ys.length * bytes ≤ 140737488355328 ∧ q (.sl ys.length ys) none) := rfl
theorem m_appp_lit (bytes : Nat) (cs zs ys : List GV) : hmappp q bytes (.lit cs) (some zs) (some ys) = ((zs.length + ys.length) * bytes ≤ 140737488355328 ∧ q (.sl (zs.length + ys.length) (zs ++ ys)) none) := rfl
def hmsp (q : Kn) (H : Heap) (n : Nat) (zv : GV) (bytes : Nat) : GV → GV → Prop
  | .int .i64 a, .int .i64 b => 0 ≤ a ∧ a = b ∧ a * bytes ≤ 281474976710656 ∧ 0 < bytes ∧ q (.sl a.toNat (List.replicate a.toNat zv)) H n
  | _, _ => False
theorem e_mslicep {q : Kn} (zv : GV) (bytes : Nat) : gop P t H n q (.mslicep zv bytes x y) = hmsp q H n zv bytes (gev t x) (gev t y) := by
  simp only [gop]; generalize gev t x = v; generalize gev t y = w; unfold hmsp
  cases v <;> cases w <;> first | rfl | (rename_i k1 a k2 b; cases k1 <;> cases k2 <;> rfl)
theorem e_msp_int {q : Kn} (zv : GV) (bytes : Nat) (a b : Int) : hmsp q H n zv bytes (.int .i64 a) (.int .i64 b) = (0 ≤ a ∧ a = b ∧ a * bytes ≤ 281474976710656 ∧ 0 < bytes ∧ q (.sl a.toNat (List.replicate a.toNat zv)) H n) := rfl
theorem e_aa_ptr (len size b o : Nat) (kd : IntKind) (i : Int) : haaddr len size (.ptr b o) (.int kd i) = if 0 ≤ i ∧ i < len then some (.ptr b (o + i.toNat * size)) else none := rfl
theorem e_aa_pp (len size o : Nat) (cs : List GV) (kd : IntKind) (i : Int) : haaddr len size (.pp cs o) (.int kd i) = if 0 ≤ i ∧ i < len then some (.pp cs (o + i.toNat * size)) else none := rfl
def hconv (kd : IntKind) : GV → Option GV
  | .int _ n => some (.int kd (kd.wrap n))
  | _ => none
theorem e_conv' {q : Kn} (kd : IntKind) : gop P t H n q (.conv kd x) = hopt q H n (hconv kd (gev t x)) := by
  rw [e_conv]; generalize gev t x = v; cases v <;> rfl
theorem e_conv_int (kd kd' : IntKind) (i : Int) : hconv kd (.int kd' i) = some (.int kd (kd.wrap i)) := rfl
end
def hisu (q : Kn) (H : Heap) (n : Nat) (neg : Bool) : GV → Prop
  | .sl _ cs => (cs = [] → q (.bool !neg) H n) ∧ q (.bool neg) H n
  | _ => False
theorem e_isnilu {P : Program} {t : List GV} {H : Heap} {n : Nat} {q : Kn} {x : GX} (neg : Bool) : gop P t H n q (.isnilu neg x) = hisu q H n neg (gev t x) := by
  simp only [gop]; generalize gev t x = v; cases v <;> rfl
theorem e_isu_sl {q : Kn} {H : Heap} {n : Nat} (neg : Bool) (m : Nat) (cs : List GV) : hisu q H n neg (.sl m cs) = ((cs = [] → q (.bool !neg) H n) ∧ q (.bool neg) H n) := rfl
/-- what stands for a value may be said in another way -/
theorem spec_arg {P : Program} {f : FuncId} {xs ys : List GV} {H H' : Heap} {n n' : Nat} {g : GV} (hlen : ys.length = xs.length) (hxy : ∀ K v j, j < xs.length → VR K (gat xs j) v → VR K (gat ys j) v) (h : Spec P f ys H n g H' n') : Spec P f xs H n g H' n' := by
  intro K vs e1 e2 hF hs hv
  exact h K vs e1 e2 hF hs ⟨by rw [hv.1, hlen], fun j hj => hxy K _ j (by omega) (hv.2 j (by omega))⟩
attribute [go_sem] m_appendp m_appp_nil m_appp_emp m_appp_lit e_mslicep e_msp_int e_aaddr e_aa_ptr e_aa_pp e_conv' e_conv_int e_isnilu e_isu_sl
end Go.Proofs.Ytdpibcniodhinaa.Gh
/- Rows of the reference: a row plus a multiple of another, weights, sameness. -/
namespace Go.Proofs.Ytdpibcniodhinaa.Gh
open Go Go.RowKit
open Alg (CR Ps Dg Zm Mn El Cg sm pw Irr Prm)
set_option linter.unusedVariables false
set_option linter.unusedSimpArgs false

section
variable {k : Nat} {M : Mn k}
/-- f plus a times g -/
noncomputable def adf (M : Mn k) (a : Int) (f g : Nat → Int) : Nat → Int := fun i => if g i = 0 then f i else (cn (ein M (f i) + ein M a * ein M (g i)) : Nat)
end
/-- how many entries are not 0 -/
def wt (l : Nat) (f : Nat → Int) : Nat := sumn (fun i => if f i = 0 then 0 else 1) l
def wtm (l : Nat → Nat) (f : Nat → Nat → Int) : Nat → Nat := sumn fun t => wt (l t) (f t)
theorem sumn_le1 {f : Nat → Nat} {c : Nat} : ∀ m, (∀ i, i < m → f i ≤ c) → sumn f m ≤ m * c := by
  intro m
  induction m with
  | zero => intro _; exact Nat.zero_le _
  | succ m ih => intro h; rw [sumn, Nat.succ_mul]; have := ih fun i hi => h i (by omega); have := h m (by omega); omega
theorem wt_le (l : Nat) (f : Nat → Int) : wt l f ≤ l := by
  have := sumn_le1 (c := 1) l (f := fun i => if f i = 0 then 0 else 1) fun i _ => by split <;> omega
  rw [wt]; omega
/-- rows that can be read, or nil -/
def Rr (x : GV) (T : Nat) (l : Nat → Nat) (f : Nat → Nat → Int) : Prop := x = msg T l f ∨ (x = .nil ∧ T = 0)
theorem Rr.len {x : GV} {T : Nat} {l : Nat → Nat} {f : Nat → Nat → Int} (h : Rr x T l f) : hlen x = some (.int .i64 (T : Nat)) := by
  rcases h with rfl | ⟨rfl, rfl⟩ <;> rfl
theorem Rr.sl {x : GV} {T : Nat} {l : Nat → Nat} {f : Nat → Nat → Int} (h : Rr x T l f) (h0 : 0 < T) : x = msg T l f := by
  rcases h with h | ⟨_, h⟩
  · exact h
  · omega
theorem sp_Weight {H : Heap} {n : Nat} {x : GV} (T L : Nat) (l : Nat → Nat) (f : Nat → Nat → Int) (hx : Rr x T l f) (hT : T ≤ 1000000) (hL : L ≤ 1000000) (hl : ∀ t, t < T → l t ≤ L) :
    Spec prog fid_ref20_Weight [x] H n (.int .i64 (wtm l f T : Nat)) H n := by
  refine spec_ends hmix ok_ref20_Weight rfl fun hF => ?_
  show gw prog B_ref20_Weight _ (tl 32 _) H n
  have hxl := hx.len
  have bd : ∀ t, t ≤ T → wtm l f t ≤ 1000000000000 := fun t ht => by
    have h1 := sumn_le1 (c := L) t (f := fun t => wt (l t) (f t)) fun i hi => by have := wt_le (l i) (f i); have := hl i (by omega); omega
    have h2 : t * L ≤ 1000000 * 1000000 := Nat.mul_le_mul (by omega) hL
    rw [wtm]; omega
  simp -implicitDefEqProofs only [B_ref20_Weight, go_sem, Nat.reduceLT, Nat.reduceBEq, Nat.reduceAdd, Nat.reduceEqDiff, Nat.reduceLeDiff, Nat.reduceSub, Nat.reduceMul]
  refine loop_rule (fun (t : Nat) E H' n' => H' = H ∧ n' = n ∧ E 0 = x ∧ E 3 = .int .i64 (wtm l f t : Nat) ∧ E 4 = .int .i64 (t : Nat) ∧ t ≤ T) (fun t => T - t) 0 ⟨rfl, rfl, rfl, rfl, rfl, by omega⟩ ?_
  rintro t E H' n' ⟨rfl, rfl, e0, e3, e4, ht⟩
  simp -implicitDefEqProofs only [go_sem, Nat.reduceLT, Nat.reduceBEq, Nat.reduceAdd, Nat.reduceEqDiff, Nat.reduceLeDiff, Nat.reduceSub, Nat.reduceMul, e0, e4, hxl]
  refine c_split (fun hc => ?_) (fun hc => ?_)
  · have htN : t < T := by omega
    have hwt := wrap64 (x := (t : Int) + 1) (by omega)
    have hxs := hx.sl (by omega)
    have hlt := hl t htN
    subst hxs
    simp -implicitDefEqProofs only [go_sem, Nat.reduceLT, Nat.reduceBEq, Nat.reduceAdd, Nat.reduceEqDiff, Nat.reduceLeDiff, Nat.reduceSub, Nat.reduceMul]
    refine loop_rule (fun (i : Nat) E H1 n1 => H1 = H' ∧ n1 = n' ∧ E 0 = msg T l f ∧ E 3 = .int .i64 (wtm l f t + wt i (f t) : Nat) ∧ E 4 = .int .i64 (t : Nat) ∧ E 5 = .int .i64 (i : Nat) ∧ i ≤ l t) (fun i => l t - i) 0 ⟨rfl, rfl, by simp -implicitDefEqProofs only [go_sem, Nat.reduceLT, Nat.reduceBEq, Nat.reduceAdd, Nat.reduceEqDiff, Nat.reduceLeDiff, Nat.reduceSub, Nat.reduceMul, e0], by simp -implicitDefEqProofs only [go_sem, Nat.reduceLT, Nat.reduceBEq, Nat.reduceAdd, Nat.reduceEqDiff, Nat.reduceLeDiff, Nat.reduceSub, Nat.reduceMul, e3]; rfl, by simp -implicitDefEqProofs only [go_sem, Nat.reduceLT, Nat.reduceBEq, Nat.reduceAdd, Nat.reduceEqDiff, Nat.reduceLeDiff, Nat.reduceSub, Nat.reduceMul, e4], by simp -implicitDefEqProofs only [go_sem, Nat.reduceLT, Nat.reduceBEq, Nat.reduceAdd, Nat.reduceEqDiff, Nat.reduceLeDiff, Nat.reduceSub, Nat.reduceMul]; rfl, by omega⟩ ?_
    clear e4 e3 e0 E
    rintro i E H1 n1 ⟨rfl, rfl, e0, e3, e4, e5, hi⟩
    have hms : msr l f t = isl (l t) (f t) := rfl
    simp -implicitDefEqProofs only [go_sem, Nat.reduceLT, Nat.reduceBEq, Nat.reduceAdd, Nat.reduceEqDiff, Nat.reduceLeDiff, Nat.reduceSub, Nat.reduceMul, e0, e4, e5, hc, htN, gat_tab, hms]
    refine c_split (fun hc' => ?_) (fun hc' => ?_)
    · have hiN : i < l t := by omega
      have hwi := wrap64 (x := (i : Int) + 1) (by omega)
      have hs : wt (i + 1) (f t) = wt i (f t) + if f t i = 0 then 0 else 1 := rfl
      by_cases hz : f t i = 0
      · rw [if_pos hz] at hs
        simp -implicitDefEqProofs only [go_sem, Nat.reduceLT, Nat.reduceBEq, Nat.reduceAdd, Nat.reduceEqDiff, Nat.reduceLeDiff, Nat.reduceSub, Nat.reduceMul, e0, e4, e5, hc, hc', htN, hiN, gat_tab, hms, hz, hwi]
        exact l_n ⟨i + 1, by omega, rfl, rfl, by simp -implicitDefEqProofs only [go_sem, Nat.reduceLT, Nat.reduceBEq, Nat.reduceAdd, Nat.reduceEqDiff, Nat.reduceLeDiff, Nat.reduceSub, Nat.reduceMul, e0], by simp -implicitDefEqProofs only [go_sem, Nat.reduceLT, Nat.reduceBEq, Nat.reduceAdd, Nat.reduceEqDiff, Nat.reduceLeDiff, Nat.reduceSub, Nat.reduceMul, e3]; rw [hs]; rfl, by simp -implicitDefEqProofs only [go_sem, Nat.reduceLT, Nat.reduceBEq, Nat.reduceAdd, Nat.reduceEqDiff, Nat.reduceLeDiff, Nat.reduceSub, Nat.reduceMul, e4], by simp -implicitDefEqProofs only [go_sem, Nat.reduceLT, Nat.reduceBEq, Nat.reduceAdd, Nat.reduceEqDiff, Nat.reduceLeDiff, Nat.reduceSub, Nat.reduceMul]; rfl, by omega⟩
      · rw [if_neg hz] at hs
        have h1 := bd t (by omega)
        have h2 := wt_le i (f t)
        have hw : IntKind.i64.wrap (((wtm l f t + wt i (f t) : Nat) : Int) + 1) = ((wtm l f t + wt (i + 1) (f t) : Nat) : Int) := (wrap64 (by omega)).trans (by omega)
        simp -implicitDefEqProofs only [go_sem, Nat.reduceLT, Nat.reduceBEq, Nat.reduceAdd, Nat.reduceEqDiff, Nat.reduceLeDiff, Nat.reduceSub, Nat.reduceMul, e0, e3, e4, e5, hc, hc', htN, hiN, gat_tab, hms, hz, hwi, hw]
        exact l_n ⟨i + 1, by omega, rfl, rfl, by simp -implicitDefEqProofs only [go_sem, Nat.reduceLT, Nat.reduceBEq, Nat.reduceAdd, Nat.reduceEqDiff, Nat.reduceLeDiff, Nat.reduceSub, Nat.reduceMul, e0], by simp -implicitDefEqProofs only [go_sem, Nat.reduceLT, Nat.reduceBEq, Nat.reduceAdd, Nat.reduceEqDiff, Nat.reduceLeDiff, Nat.reduceSub, Nat.reduceMul], by simp -implicitDefEqProofs only [go_sem, Nat.reduceLT, Nat.reduceBEq, Nat.reduceAdd, Nat.reduceEqDiff, Nat.reduceLeDiff, Nat.reduceSub, Nat.reduceMul, e4], by simp -implicitDefEqProofs only [go_sem, Nat.reduceLT, Nat.reduceBEq, Nat.reduceAdd, Nat.reduceEqDiff, Nat.reduceLeDiff, Nat.reduceSub, Nat.reduceMul]; rfl, by omega⟩
    · have : i = l t := by omega
      subst this
      simp -implicitDefEqProofs only [go_sem, Nat.reduceLT, Nat.reduceBEq, Nat.reduceAdd, Nat.reduceEqDiff, Nat.reduceLeDiff, Nat.reduceSub, Nat.reduceMul, e4, hwt]
      exact l_n ⟨t + 1, by omega, rfl, rfl, by simp -implicitDefEqProofs only [go_sem, Nat.reduceLT, Nat.reduceBEq, Nat.reduceAdd, Nat.reduceEqDiff, Nat.reduceLeDiff, Nat.reduceSub, Nat.reduceMul, e0], by simp -implicitDefEqProofs only [go_sem, Nat.reduceLT, Nat.reduceBEq, Nat.reduceAdd, Nat.reduceEqDiff, Nat.reduceLeDiff, Nat.reduceSub, Nat.reduceMul, e3]; rfl, by simp -implicitDefEqProofs only [go_sem, Nat.reduceLT, Nat.reduceBEq, Nat.reduceAdd, Nat.reduceEqDiff, Nat.reduceLeDiff, Nat.reduceSub, Nat.reduceMul]; rfl, by omega⟩
  · have : t = T := by omega
    subst this
    simp -implicitDefEqProofs only [go_sem, Nat.reduceLT, Nat.reduceBEq, Nat.reduceAdd, Nat.reduceEqDiff, Nat.reduceLeDiff, Nat.reduceSub, Nat.reduceMul, e3]
    exact fin_ret rfl (by decide) (by simp -implicitDefEqProofs only [go_sem, Nat.reduceLT, Nat.reduceBEq, Nat.reduceAdd, Nat.reduceEqDiff, Nat.reduceLeDiff, Nat.reduceSub, Nat.reduceMul]; exact fz_int rfl) fun _ _ => rfl
end Go.Proofs.Ytdpibcniodhinaa.Gh
/- The statement ConvLinear, over ghost values. -/
namespace Go.Proofs.Ytdpibcniodhinaa.Gh
open Go Go.RowKit
open Alg (CR Ps Dg Zm Mn El Cg sm pw Irr Prm)
set_option linter.unusedVariables false
set_option linter.unusedSimpArgs false

theorem stE_of {r : Nat} {l : Nat → Nat} {f : Nat → Nat → Int} {q : Int} : ∀ {T : Nat}, (∀ t, t < T → l t = r ∧ ∀ i, i < r → 0 ≤ f t i ∧ f t i < q) → stE r l f q T = 0 := by
  intro T
  induction T with
  | zero => intro _; rfl
  | succ T ih =>
    intro h
    rw [stE, if_pos (ih fun t ht => h t (by omega)), inE, if_pos (h T (by omega)).1, if_pos fun i hi => (h T (by omega)).2 i (by rw [← (h T (by omega)).1]; exact hi)]
section
variable {k : Nat} {M : Mn k}
/-- the outputs, as elements -/
noncomputable def Enc.Y (e : Enc) (M : Mn k) (f : Nat → Nat → Int) (t j : Nat) : Alg.El M := e.so M (e.S (qn M : Nat) f t) (f t) e.r 0 j
noncomputable def Enc.yv (e : Enc) (M : Mn k) (f : Nat → Nat → Int) (t j : Nat) : Int := (cn (e.Y M f t j) : Nat)
theorem Enc.oval_rr (e : Enc) (f : Nat → Nat → Int) (T : Nat) : Rr (e.oval M f T) T (fun _ => e.w 0) (e.yv M f) := by
  unfold oval
  by_cases h : T = 0
  · rw [if_pos h]; exact .inr ⟨rfl, h⟩
  · rw [if_neg h]; exact .inl rfl
/-- a message behind a step of zeros -/
def sh0 (f : Nat → Nat → Int) : Nat → Nat → Int := fun t i => if t = 0 then 0 else f (t - 1) i
end

end Go.Proofs.Ytdpibcniodhinaa.Gh
/- The ghost code of some functions. -/
namespace Go.Proofs.Ytdpibcniodhinaa.Gh
open Go Go.RowKit
end Go.Proofs.Ytdpibcniodhinaa.Gh
/- Digits, weights, inputs of a step as numbers; steps of a machine add up. -/
namespace Go.Proofs.Ytdpibcniodhinaa.Gh
open Go Go.RowKit
open Alg (CR Ps Dg Zm Mn El Cg sm pw Irr Prm)
set_option linter.unusedVariables false
set_option linter.unusedSimpArgs false

theorem dg_step' {q x : Int} (hq : 2 ≤ q) (i : Nat) : x / q ^ i / q = x / q ^ (i + 1) := by
  rw [Int.pow_succ, Int.ediv_ediv_of_nonneg (Int.pow_nonneg (by omega))]
theorem sp_conv_digits {H : Heap} {n : Nat} (x q : Int) (N : Nat) (hx : 0 ≤ x) (hx1 : x ≤ 1000000000) (hq : 2 ≤ q) (hq1 : q ≤ 1000000000) (hN : N ≤ 1000000) :
    Spec prog fid_conv_digits [.int .i64 x, .int .i64 q, .int .i64 (N : Nat)] H n (isl N (dg q x)) H n := by
  refine spec_ends hmix ok_conv_digits rfl fun hF => ?_
  show gw prog B_conv_digits _ (tl 27 _) H n
  simp -implicitDefEqProofs only [B_conv_digits, go_sem, Nat.reduceLT, Nat.reduceBEq, Nat.reduceAdd, Nat.reduceEqDiff, Nat.reduceLeDiff, Nat.reduceSub, Nat.reduceMul]
  repeat with_reducible refine And.intro (by omega) ?_
  have hne : (q = 0) = False := eq_false (by omega)
  have hX : ∀ i : Nat, 0 ≤ x / q ^ i ∧ x / q ^ i ≤ 1000000000 := fun i => by
    have h0 : 0 < q ^ i := Int.pow_pos (by omega)
    exact ⟨Int.ediv_nonneg hx (by omega), Int.le_trans (Int.ediv_le_self _ hx) hx1⟩
  refine loop_rule (fun (i : Nat) E H' n' => n' = n + 1 ∧ H' n = some (tab N (it (mix (dg q x) (fun _ => 0) i))) ∧ (∀ b, b < n → H' b = H b) ∧ E 0 = .int .i64 (x / q ^ i) ∧ E 1 = .int .i64 q ∧ E 7 = .own n 0 N ∧ E 12 = .int .i64 (N : Nat) ∧ E 13 = .int .i64 (i : Nat) ∧ i ≤ N) (fun i => N - i) 0 ?_ ?_
  · exact ⟨rfl, by simp -implicitDefEqProofs only [go_sem, Nat.reduceLT, Nat.reduceBEq, Nat.reduceAdd, Nat.reduceEqDiff, Nat.reduceLeDiff, Nat.reduceSub, Nat.reduceMul, tab_rep, mix_zero]; rfl, fun b hb => upd_ne _ _ (by omega), by simp -implicitDefEqProofs only [go_sem, Nat.reduceLT, Nat.reduceBEq, Nat.reduceAdd, Nat.reduceEqDiff, Nat.reduceLeDiff, Nat.reduceSub, Nat.reduceMul, Int.pow_zero, Int.ediv_one], rfl, rfl, rfl, rfl, by omega⟩
  rintro i E H' n' ⟨rfl, h0, ho, e0, e1, e7, e12, e13, hi⟩
  simp -implicitDefEqProofs only [go_sem, Nat.reduceLT, Nat.reduceBEq, Nat.reduceAdd, Nat.reduceEqDiff, Nat.reduceLeDiff, Nat.reduceSub, Nat.reduceMul, e12, e13]
  refine c_split (fun hc => ?_) (fun hc => ?_)
  · have hiN : i < N := by omega
    have hwi := wrap64 (x := (i : Int) + 1) (by omega)
    have h1 := hX i
    have h2 := hX (i + 1)
    have hst := mix_step (dg q x) (fun _ => 0) i
    have htm : Int.tmod (x / q ^ i) q = dg q x i := by rw [tmod_nn h1.1]; rfl
    have htd : IntKind.i64.wrap (Int.tdiv (x / q ^ i) q) = x / q ^ (i + 1) := by rw [tdiv_nn h1.1, dg_step' hq]; exact wrap64 (by omega)
    simp -implicitDefEqProofs only [go_sem, Nat.reduceLT, Nat.reduceBEq, Nat.reduceAdd, Nat.reduceEqDiff, Nat.reduceLeDiff, Nat.reduceSub, Nat.reduceMul, e0, e1, e7, e13, h0, hc, hiN, hne, htm, htd, hst, hwi]
    repeat with_reducible refine And.intro (by omega) ?_
    exact l_n ⟨i + 1, by omega, rfl, by simp -implicitDefEqProofs only [go_sem, Nat.reduceLT, Nat.reduceBEq, Nat.reduceAdd, Nat.reduceEqDiff, Nat.reduceLeDiff, Nat.reduceSub, Nat.reduceMul], fun b hb => by rw [upd_ne _ _ (by omega)]; exact ho b hb, by simp -implicitDefEqProofs only [go_sem, Nat.reduceLT, Nat.reduceBEq, Nat.reduceAdd, Nat.reduceEqDiff, Nat.reduceLeDiff, Nat.reduceSub, Nat.reduceMul], by simp -implicitDefEqProofs only [go_sem, Nat.reduceLT, Nat.reduceBEq, Nat.reduceAdd, Nat.reduceEqDiff, Nat.reduceLeDiff, Nat.reduceSub, Nat.reduceMul, e1], by simp -implicitDefEqProofs only [go_sem, Nat.reduceLT, Nat.reduceBEq, Nat.reduceAdd, Nat.reduceEqDiff, Nat.reduceLeDiff, Nat.reduceSub, Nat.reduceMul, e7], by simp -implicitDefEqProofs only [go_sem, Nat.reduceLT, Nat.reduceBEq, Nat.reduceAdd, Nat.reduceEqDiff, Nat.reduceLeDiff, Nat.reduceSub, Nat.reduceMul, e12], by simp -implicitDefEqProofs only [go_sem, Nat.reduceLT, Nat.reduceBEq, Nat.reduceAdd, Nat.reduceEqDiff, Nat.reduceLeDiff, Nat.reduceSub, Nat.reduceMul]; rfl, by omega⟩
  · have : i = N := by omega
    subst this
    simp -implicitDefEqProofs only [go_sem, Nat.reduceLT, Nat.reduceBEq, Nat.reduceAdd, Nat.reduceEqDiff, Nat.reduceLeDiff, Nat.reduceSub, Nat.reduceMul, e7]
    refine fin_ret rfl (by decide) ?_ ho
    simp -implicitDefEqProofs only [go_sem, Nat.reduceLT, Nat.reduceBEq, Nat.reduceAdd, Nat.reduceEqDiff, Nat.reduceLeDiff, Nat.reduceSub, Nat.reduceMul]
    have hrow : H' n = some (tab i (it (dg q x))) := by
      rw [h0]; exact congrArg some (tab_congr fun j hj => congrArg (GV.int .i64) (mix_lt _ _ hj))
    exact fz_own_isl hrow (by omega)
theorem wt_succ (i : Nat) (f : Nat → Int) : wt (i + 1) f = wt i f + if f i = 0 then 0 else 1 := rfl
section
variable {k : Nat} {M : Mn k}
theorem Enc.r_tot (e : Enc) : e.tot e.r = e.ds e.r + e.r := by
  have : ∀ i, e.tot i = e.ds i + i := by
    intro i
    induction i with
    | zero => rfl
    | succ i ih => show e.tot i + (e.deg i + 1) = e.ds i + e.deg i + (i + 1); omega
  exact this e.r
theorem Enc.pow_tot {e : Enc} (h : Fi M) (d : e.Des M) (hce : e.ce = 0) : qn M ^ e.ds e.r * qn M ^ e.r ≤ 65536 := by
  have h1 := (Enc.ok hce).2.2.2.2
  rw [d.qo h, ← Int.natCast_pow, e.r_tot, Nat.pow_add] at h1
  omega
theorem Enc.pow_r {e : Enc} (h : Fi M) (d : e.Des M) (hce : e.ce = 0) : ∀ i, i ≤ e.r → qn M ^ i ≤ 65536 := by
  intro i hi
  have h1 := Enc.pow_tot h d hce
  have h3 := qn_two M
  have h4 : qn M ^ i ≤ qn M ^ e.r := Nat.pow_le_pow_right (by omega) hi
  have h5 : 1 * qn M ^ e.r ≤ qn M ^ e.ds e.r * qn M ^ e.r := Nat.mul_le_mul_right _ (Nat.pow_pos (by omega))
  omega
theorem sp_ref20_Inputs {H : Heap} {n : Nat} (e : Enc) (hB : e.Bnd) (h : Fi M) (hd : e.Des M) (hce : e.ce = 0) : Spec prog fid_ref20_Inputs [e.gv] H n (.int .i64 (qn M ^ e.r : Nat)) H n := by
  refine spec_ends hmix ok_ref20_Inputs rfl fun hF => ?_
  show gw prog B_ref20_Inputs _ (tl 18 _) H n
  have hr := hB.r
  have hqo := hd.qo h
  have hq2 := qn_two M
  simp -implicitDefEqProofs only [B_ref20_Inputs, go_sem, Nat.reduceLT, Nat.reduceBEq, Nat.reduceAdd, Nat.reduceEqDiff, Nat.reduceLeDiff, Nat.reduceSub, Nat.reduceMul]
  refine loop_rule (fun (i : Nat) E H' n' => n' = n + 1 ∧ H' n = some e.cs ∧ (∀ b, b < n → H' b = H b) ∧ E 1 = .ptr n 0 ∧ E 3 = .int .i64 (qn M ^ i : Nat) ∧ E 4 = .int .i64 (i : Nat) ∧ i ≤ e.r) (fun i => e.r - i) 0 ⟨rfl, by simp -implicitDefEqProofs only [go_sem, Nat.reduceLT, Nat.reduceBEq, Nat.reduceAdd, Nat.reduceEqDiff, Nat.reduceLeDiff, Nat.reduceSub, Nat.reduceMul], fun b hb => upd_ne _ _ (by omega), rfl, rfl, rfl, by omega⟩ ?_
  rintro i E H' n' ⟨rfl, h0, ho, e1, e3, e4, hi⟩
  simp -implicitDefEqProofs only [go_sem, Nat.reduceLT, Nat.reduceBEq, Nat.reduceAdd, Nat.reduceEqDiff, Nat.reduceLeDiff, Nat.reduceSub, Nat.reduceMul, e1, e4, h0]
  refine c_split (fun hc => ?_) (fun hc => ?_)
  · have hwi := wrap64 (x := (i : Int) + 1) (by omega)
    have hp := Enc.pow_r h hd hce (i + 1) (by omega)
    have hps : qn M ^ (i + 1) = qn M ^ i * qn M := Nat.pow_succ ..
    have hw : IntKind.i64.wrap (((qn M ^ i : Nat) : Int) * ((qn M : Nat) : Int)) = ((qn M ^ (i + 1) : Nat) : Int) := by
      rw [hps]; push_cast; rw [hps] at hp
      have : ((qn M ^ i * qn M : Nat) : Int) = ((qn M : Nat) : Int) ^ i * ((qn M : Nat) : Int) := by push_cast; rfl
      rw [← this]; exact wrap64 (by omega)
    simp -implicitDefEqProofs only [go_sem, Nat.reduceLT, Nat.reduceBEq, Nat.reduceAdd, Nat.reduceEqDiff, Nat.reduceLeDiff, Nat.reduceSub, Nat.reduceMul, e1, e3, h0]
    refine call_of (sp_ref04_Order e.p e.m _ rfl) ?_
    rw [hqo]
    simp -implicitDefEqProofs only [go_sem, Nat.reduceLT, Nat.reduceBEq, Nat.reduceAdd, Nat.reduceEqDiff, Nat.reduceLeDiff, Nat.reduceSub, Nat.reduceMul, e4, hw, hwi]
    exact l_n ⟨i + 1, by omega, rfl, h0, ho, by simp -implicitDefEqProofs only [go_sem, Nat.reduceLT, Nat.reduceBEq, Nat.reduceAdd, Nat.reduceEqDiff, Nat.reduceLeDiff, Nat.reduceSub, Nat.reduceMul, e1], by simp -implicitDefEqProofs only [go_sem, Nat.reduceLT, Nat.reduceBEq, Nat.reduceAdd, Nat.reduceEqDiff, Nat.reduceLeDiff, Nat.reduceSub, Nat.reduceMul], by simp -implicitDefEqProofs only [go_sem, Nat.reduceLT, Nat.reduceBEq, Nat.reduceAdd, Nat.reduceEqDiff, Nat.reduceLeDiff, Nat.reduceSub, Nat.reduceMul]; rfl, by omega⟩
  · have : i = e.r := by omega
    subst this
    simp -implicitDefEqProofs only [go_sem, Nat.reduceLT, Nat.reduceBEq, Nat.reduceAdd, Nat.reduceEqDiff, Nat.reduceLeDiff, Nat.reduceSub, Nat.reduceMul, e3]
    exact fin_ret rfl (by decide) (by simp -implicitDefEqProofs only [go_sem, Nat.reduceLT, Nat.reduceBEq, Nat.reduceAdd, Nat.reduceEqDiff, Nat.reduceLeDiff, Nat.reduceSub, Nat.reduceMul]; exact fz_int rfl) ho
/-- the inputs with the number x -/
def inp (M : Mn k) (x : Nat) : Nat → Int := dg (qn M : Nat) (x : Nat)
theorem inp_in (x : Nat) (i : Nat) : 0 ≤ inp M x i ∧ inp M x i < (qn M : Nat) := by
  have := qn_two M
  exact ⟨dg_lo (by omega) _, dg_hi (by omega) _⟩
theorem sp_ref20_Input {H : Heap} {n : Nat} (e : Enc) (hB : e.Bnd) (h : Fi M) (hd : e.Des M) (hr0 : 0 < e.r) (x : Nat) (hx : x ≤ 1000000000) : Spec prog fid_ref20_Input [e.gv, .int .i64 (x : Nat)] H n (isl e.r (inp M x)) H n := by
  refine spec_ends hmix ok_ref20_Input rfl fun hF => ?_
  show gw prog B_ref20_Input _ (tl 28 _) H n
  have hr := hB.r
  have hqo := hd.qo h
  have hq2 := qn_two M
  have hq := h.fc.qn
  have hne : (((qn M : Nat) : Int) = 0) = False := eq_false (by omega)
  have hX : ∀ i : Nat, 0 ≤ ((x : Nat) : Int) / ((qn M : Nat) : Int) ^ i ∧ ((x : Nat) : Int) / ((qn M : Nat) : Int) ^ i ≤ 1000000000 := fun i => by
    have h0 : 0 < ((qn M : Nat) : Int) ^ i := Int.pow_pos (by omega)
    exact ⟨Int.ediv_nonneg (by omega) (by omega), Int.le_trans (Int.ediv_le_self _ (by omega)) (by omega)⟩
  simp -implicitDefEqProofs only [B_ref20_Input, go_sem, Nat.reduceLT, Nat.reduceBEq, Nat.reduceAdd, Nat.reduceEqDiff, Nat.reduceLeDiff, Nat.reduceSub, Nat.reduceMul]
  refine loop_rule (fun (i : Nat) E H' n' => ∃ gs, n + 1 ≤ n' ∧ H' n = some e.cs ∧ (∀ b, b < n → H' b = H b) ∧ Sl H' (n + 1) n' gs i (it (inp M x)) ∧ E 1 = .int .i64 (((x : Nat) : Int) / ((qn M : Nat) : Int) ^ i) ∧ E 2 = .ptr n 0 ∧ E 5 = gs ∧ E 6 = .int .i64 (i : Nat) ∧ i ≤ e.r) (fun i => e.r - i) 0 ⟨.nil, by omega, by simp -implicitDefEqProofs only [go_sem, Nat.reduceLT, Nat.reduceBEq, Nat.reduceAdd, Nat.reduceEqDiff, Nat.reduceLeDiff, Nat.reduceSub, Nat.reduceMul], fun b hb => upd_ne _ _ (by omega), .nil, by simp -implicitDefEqProofs only [go_sem, Nat.reduceLT, Nat.reduceBEq, Nat.reduceAdd, Nat.reduceEqDiff, Nat.reduceLeDiff, Nat.reduceSub, Nat.reduceMul, Int.pow_zero, Int.ediv_one], rfl, rfl, rfl, by omega⟩ ?_
  rintro i E H' n' ⟨gs, hn, c0, ho, sl, e1, e2, e5, e6, hi⟩
  simp -implicitDefEqProofs only [go_sem, Nat.reduceLT, Nat.reduceBEq, Nat.reduceAdd, Nat.reduceEqDiff, Nat.reduceLeDiff, Nat.reduceSub, Nat.reduceMul, e2, e6, c0]
  refine c_split (fun hc => ?_) (fun hc => ?_)
  · have hwi := wrap64 (x := (i : Int) + 1) (by omega)
    have h1 := hX i
    have h2 := hX (i + 1)
    have htm : Int.tmod (((x : Nat) : Int) / ((qn M : Nat) : Int) ^ i) ((qn M : Nat) : Int) = inp M x i := by rw [tmod_nn h1.1]; rfl
    have htd : IntKind.i64.wrap (Int.tdiv (((x : Nat) : Int) / ((qn M : Nat) : Int) ^ i) ((qn M : Nat) : Int)) = ((x : Nat) : Int) / ((qn M : Nat) : Int) ^ (i + 1) := by rw [tdiv_nn h1.1, dg_step' (by omega)]; exact wrap64 (by omega)
    have f0 : (n = n') = False := eq_false (by omega)
    have hk := sl.cell
    simp -implicitDefEqProofs only [go_sem, Nat.reduceLT, Nat.reduceBEq, Nat.reduceAdd, Nat.reduceEqDiff, Nat.reduceLeDiff, Nat.reduceSub, Nat.reduceMul, e1, e2, e5, c0]
    refine call_of (sp_ref04_Order e.p e.m _ rfl) ?_
    rw [hqo]
    simp -implicitDefEqProofs only [go_sem, Nat.reduceLT, Nat.reduceBEq, Nat.reduceAdd, Nat.reduceEqDiff, Nat.reduceLeDiff, Nat.reduceSub, Nat.reduceMul, hne, htm]
    have sl' : Sl (upd H' n' (some [GV.int .i64 (inp M x i)])) (n + 1) (n' + 1) gs i (it (inp M x)) := sl.keep (fun c hc => upd_ne _ _ (by have := sl.lt hc; omega)) (by omega)
    refine app_one sl' rfl rfl (by omega) fun H2 a1 a2 => ?_
    have c2 : H2 n = some e.cs := by rw [a2 _ (by omega) fun h => by have := sl.lt h; omega, upd_ne _ _ (by omega), c0]
    have ho2 : ∀ b, b < n → H2 b = H b := fun b hb => by rw [a2 _ (by omega) fun h => by have := sl.lt h; omega, upd_ne _ _ (by omega), ho b hb]
    simp -implicitDefEqProofs only [go_sem, Nat.reduceLT, Nat.reduceBEq, Nat.reduceAdd, Nat.reduceEqDiff, Nat.reduceLeDiff, Nat.reduceSub, Nat.reduceMul, e1, e2, c2]
    refine call_of (sp_ref04_Order e.p e.m _ rfl) ?_
    rw [hqo]
    simp -implicitDefEqProofs only [go_sem, Nat.reduceLT, Nat.reduceBEq, Nat.reduceAdd, Nat.reduceEqDiff, Nat.reduceLeDiff, Nat.reduceSub, Nat.reduceMul, e6, hne, htd, hwi]
    exact l_n ⟨i + 1, by omega, .own (n' + 1) 0 (i + 1), by omega, c2, ho2, .inr ⟨n' + 1, by omega, by omega, rfl, a1⟩, by simp -implicitDefEqProofs only [go_sem, Nat.reduceLT, Nat.reduceBEq, Nat.reduceAdd, Nat.reduceEqDiff, Nat.reduceLeDiff, Nat.reduceSub, Nat.reduceMul], by simp -implicitDefEqProofs only [go_sem, Nat.reduceLT, Nat.reduceBEq, Nat.reduceAdd, Nat.reduceEqDiff, Nat.reduceLeDiff, Nat.reduceSub, Nat.reduceMul, e2], by simp -implicitDefEqProofs only [go_sem, Nat.reduceLT, Nat.reduceBEq, Nat.reduceAdd, Nat.reduceEqDiff, Nat.reduceLeDiff, Nat.reduceSub, Nat.reduceMul], by simp -implicitDefEqProofs only [go_sem, Nat.reduceLT, Nat.reduceBEq, Nat.reduceAdd, Nat.reduceEqDiff, Nat.reduceLeDiff, Nat.reduceSub, Nat.reduceMul]; rfl, by omega⟩
  · have : i = e.r := by omega
    subst this
    simp -implicitDefEqProofs only [go_sem, Nat.reduceLT, Nat.reduceBEq, Nat.reduceAdd, Nat.reduceEqDiff, Nat.reduceLeDiff, Nat.reduceSub, Nat.reduceMul, e5]
    obtain ⟨b1, r1, r2, rfl, r4⟩ := sl.own (by omega)
    refine fin_ret rfl (by decide) ?_ ho
    simp -implicitDefEqProofs only [go_sem, Nat.reduceLT, Nat.reduceBEq, Nat.reduceAdd, Nat.reduceEqDiff, Nat.reduceLeDiff, Nat.reduceSub, Nat.reduceMul]
    exact fz_own_isl r4 (by omega)
theorem sp_ref20_Small {H : Heap} {n : Nat} (e : Enc) (hB : e.Bnd) (h : Fi M) (hd : e.Des M) (hce : e.ce = 0) (N : Int) : Spec prog fid_ref20_Small [e.gv, .int .i64 N] H n (.bool (decide (((qn M ^ e.ds e.r * qn M ^ e.r : Nat) : Int) ≤ N ∧ e.w 0 ≤ 6))) H n := by
  generalize hR : decide (((qn M ^ e.ds e.r * qn M ^ e.r : Nat) : Int) ≤ N ∧ e.w 0 ≤ 6) = R
  refine spec_ends hmix ok_ref20_Small rfl fun hF => ?_
  show gw prog B_ref20_Small _ (tl 20 _) H n
  have hu : ∀ x b, b < n → upd H n x b = H b := fun x b hb => upd_ne _ _ (by omega)
  have hp := Enc.pow_tot h hd hce
  have hr0 : 0 < e.r := by have := (Enc.ok hce).2.1.1; omega
  have hr1 : (0 : Int) < (e.r : Int) := by omega
  have hz4 : (0 : Int).toNat = 0 := rfl
  have hz5 : (0 : Int) ≤ 0 := Int.le_refl 0
  have hrw : e.rw 0 = .sl (e.w 0) (tab (e.w 0) (e.pl 0)) := rfl
  have hw : IntKind.i64.wrap (((qn M ^ e.ds e.r : Nat) : Int) * ((qn M ^ e.r : Nat) : Int)) = ((qn M ^ e.ds e.r * qn M ^ e.r : Nat) : Int) := by
    rw [Int.natCast_mul]; rw [← Int.natCast_mul]; exact wrap64 (by omega)
  have f0 : n < n + 1 := by omega
  simp -implicitDefEqProofs only [B_ref20_Small, go_sem, Nat.reduceLT, Nat.reduceBEq, Nat.reduceAdd, Nat.reduceEqDiff, Nat.reduceLeDiff, Nat.reduceSub, Nat.reduceMul, f0]
  refine mcall_of (.int _ _) (fun H1 n1 _ _ => sp_ref20_States e hB h hd hce) ?_
  simp -implicitDefEqProofs only [go_sem, Nat.reduceLT, Nat.reduceBEq, Nat.reduceAdd, Nat.reduceEqDiff, Nat.reduceLeDiff, Nat.reduceSub, Nat.reduceMul, f0]
  refine mcall_of (.int _ _) (fun H1 n1 _ _ => sp_ref20_Inputs e hB h hd hce) ?_
  by_cases h1 : ((qn M ^ e.ds e.r * qn M ^ e.r : Nat) : Int) ≤ N
  · by_cases h2 : (e.w 0 : Int) ≤ 6
    · simp -implicitDefEqProofs only [go_sem, Nat.reduceLT, Nat.reduceBEq, Nat.reduceAdd, Nat.reduceEqDiff, Nat.reduceLeDiff, Nat.reduceSub, Nat.reduceMul, hw, h1, hr0, hr1, hz4, hz5, Nat.zero_mul, gat_tab, hrw, h2]
      exact fin_ret rfl (by decide) (by simp -implicitDefEqProofs only [go_sem, Nat.reduceLT, Nat.reduceBEq, Nat.reduceAdd, Nat.reduceEqDiff, Nat.reduceLeDiff, Nat.reduceSub, Nat.reduceMul]; exact fz_bool ((hR.symm.trans (decide_eq_true ⟨h1, by omega⟩)).symm)) (hu _)
    · simp -implicitDefEqProofs only [go_sem, Nat.reduceLT, Nat.reduceBEq, Nat.reduceAdd, Nat.reduceEqDiff, Nat.reduceLeDiff, Nat.reduceSub, Nat.reduceMul, hw, h1, hr0, hr1, hz4, hz5, Nat.zero_mul, gat_tab, hrw, h2]
      exact fin_ret rfl (by decide) (by simp -implicitDefEqProofs only [go_sem, Nat.reduceLT, Nat.reduceBEq, Nat.reduceAdd, Nat.reduceEqDiff, Nat.reduceLeDiff, Nat.reduceSub, Nat.reduceMul]; exact fz_bool ((hR.symm.trans (decide_eq_false fun h => h2 (by have := h.2; omega))).symm)) (hu _)
  · simp -implicitDefEqProofs only [go_sem, Nat.reduceLT, Nat.reduceBEq, Nat.reduceAdd, Nat.reduceEqDiff, Nat.reduceLeDiff, Nat.reduceSub, Nat.reduceMul, hw, h1]
    exact fin_ret rfl (by decide) (by simp -implicitDefEqProofs only [go_sem, Nat.reduceLT, Nat.reduceBEq, Nat.reduceAdd, Nat.reduceEqDiff, Nat.reduceLeDiff, Nat.reduceSub, Nat.reduceMul]; exact fz_bool ((hR.symm.trans (decide_eq_false fun h => h1 h.1)).symm)) (hu _)
/-- a step is that of the state with inputs of zeros, plus that of the inputs in state 0 -/
theorem Enc.X_split (e : Enc) (q st : Int) (f : Nat → Int) (i d : Nat) : e.X q st f i d = e.X q st (fun _ => 0) i d + e.X q 0 f i d ∧ (e.X q st (fun _ => 0) i d = 0 ∨ e.X q 0 f i d = 0) := by
  unfold X
  by_cases h : d = 0
  · rw [if_pos h, if_pos h, if_pos h]; exact ⟨(Int.zero_add _).symm, .inl rfl⟩
  · rw [if_neg h, if_neg h, if_neg h, dg_of_zero]; exact ⟨by omega, .inr rfl⟩
theorem si_add {n : Nat} {f g h : Nat → Int} (hh : ∀ i, i < n → h i = f i + g i) : si n h = si n f + si n g := by
  induction n with
  | zero => rfl
  | succ n ih => rw [si, si, si, ih fun i hi => hh i (by omega), hh n (by omega)]; omega
theorem Enc.nx_add (e : Enc) (q st : Int) (f : Nat → Int) : e.nx q st f e.r 0 = e.nx q st (fun _ => 0) e.r 0 + e.nx q 0 f e.r 0 := by
  unfold nx
  rw [si_add (f := fun i' => si (e.deg i') fun d' => e.X q st (fun _ => 0) i' d' * q ^ (e.ds i' + d')) (g := fun i' => si (e.deg i') fun d' => e.X q 0 f i' d' * q ^ (e.ds i' + d')) fun i _ => si_add fun d _ => by rw [(e.X_split q st f i d).1, Int.add_mul]]
  simp only [si]; omega
theorem Enc.so_lin (e : Enc) (h : Fc M) (st : Int) (f : Nat → Int) (j : Nat) : e.so M st f e.r 0 j = e.so M st (fun _ => 0) e.r 0 j + e.so M 0 f e.r 0 j := by
  unfold so
  rw [Alg.sm_zero, Alg.sm_zero, Alg.sm_zero, Alg.add_zero, Alg.add_zero, Alg.add_zero, ← Alg.sm_add]
  refine Alg.sm_congr fun i _ => ?_
  rw [← Alg.sm_add]
  refine Alg.sm_congr fun d _ => ?_
  unfold tm
  rw [← Alg.add_mul]
  congr 1
  obtain ⟨h1, h2⟩ := e.X_split (qn M : Nat) st f i d
  rcases h2 with h2 | h2
  · rw [h1, h2, ein_zero h, Alg.zero_add, Int.zero_add]
  · rw [h1, h2, ein_zero h, Alg.add_zero, Int.add_zero]
end
end Go.Proofs.Ytdpibcniodhinaa.Gh
/- The steps of a machine, all of them. -/
namespace Go.Proofs.Ytdpibcniodhinaa.Gh
open Go Go.RowKit
open Alg (CR Ps Dg Zm Mn El Cg sm pw Irr Prm)
set_option linter.unusedVariables false
set_option linter.unusedSimpArgs false

def mixg (g f : Nat → GV) (i : Nat) : Nat → GV := fun j => if j < i then g j else f j
theorem mixg_step (g f : Nat → GV) (i : Nat) : upf (mixg g f i) i (g i) = mixg g f (i + 1) := by
  funext j
  by_cases e : j = i
  · subst e; rw [upf_same, mixg, if_pos (by omega)]
  · rw [upf_ne _ _ e, mixg, mixg]
    by_cases h : j < i
    · rw [if_pos h, if_pos (by omega)]
    · rw [if_neg h, if_neg (by omega)]
theorem mixg_zero (g f : Nat → GV) : mixg g f 0 = f := by funext j; exact if_neg (by omega)
theorem mixg_lt (g f : Nat → GV) {i j : Nat} (h : j < i) : mixg g f i j = g j := if_pos h
section
variable {k : Nat} {M : Mn k}
/-- the next state, and the weight of the output, of the step with the number a -/
noncomputable def Enc.nxa (e : Enc) (M : Mn k) (a : Nat) : Int := e.nx (qn M : Nat) ((a / qn M ^ e.r : Nat) : Int) (inp M (a % qn M ^ e.r)) e.r 0
noncomputable def Enc.orw (e : Enc) (M : Mn k) (s x : Nat) : Nat → Int := fun j => (cn (e.so M ((s : Nat) : Int) (inp M x) e.r 0 j) : Nat)
noncomputable def Enc.owa (e : Enc) (M : Mn k) (a : Nat) : Nat := wt (e.w 0) (e.orw M (a / qn M ^ e.r) (a % qn M ^ e.r))
noncomputable abbrev Enc.edg (e : Enc) (M : Mn k) : GV := .agg [.int .i64 (qn M ^ e.r : Nat), isl (qn M ^ e.ds e.r * qn M ^ e.r) (e.nxa M), isl (qn M ^ e.ds e.r * qn M ^ e.r) fun a => (e.owa M a : Nat)]
theorem div_at {s i I : Nat} (h : i < I) : (s * I + i) / I = s := by
  rw [Nat.mul_comm, Nat.mul_add_div (by omega), Nat.div_eq_of_lt h, Nat.add_zero]
theorem mod_at {s i I : Nat} (h : i < I) : (s * I + i) % I = i := by
  rw [Nat.mul_comm, Nat.mul_add_mod, Nat.mod_eq_of_lt h]
theorem Enc.nx_in {e : Enc} (h : Fi M) {st : Int} {f : Nat → Int} (hin : ∀ i, i < e.r → 0 ≤ f i ∧ f i < (qn M : Nat)) : 0 ≤ e.nx (qn M : Nat) st f e.r 0 ∧ e.nx (qn M : Nat) st f e.r 0 < ((qn M ^ e.ds e.r : Nat) : Int) := by
  have hq2 := qn_two M
  have h1 := e.nx_lt (q := (qn M : Nat)) (st := st) (inp := f) (by omega) hin e.r (Nat.le_refl _) 0 (.inl rfl)
  rw [Nat.add_zero] at h1
  rw [Int.natCast_pow]; exact h1
set_option maxHeartbeats 8000000 in
theorem sp_edges {H : Heap} {n : Nat} (e : Enc) (hB : e.Bnd) (h : Fi M) (hd : e.Des M) (hce : e.ce = 0) : Spec prog fid_conv_machine_edges [e.mch h.gf (qn M)] H n (e.edg M) H n := by
  refine spec_ends hmix ok_conv_machine_edges rfl fun hF => ?_
  show gw prog B_conv_machine_edges _ (tl 132 _) H n
  have hr := hB.r
  have hq2 := qn_two M
  have hq := h.fc.qn
  have hr0 : 0 < e.r := by have := (Enc.ok hce).2.1.1; omega
  have hw0 := hB.w 0 hr0
  have hp := Enc.pow_tot h hd hce
  have hpr := Enc.pow_r h hd hce
  have hS1 : 1 ≤ qn M ^ e.ds e.r := Nat.pow_pos (by omega)
  have hI1 : 1 ≤ qn M ^ e.r := Nat.pow_pos (by omega)
  have hS2 : qn M ^ e.ds e.r ≤ 65536 := Enc.pow_le h hd hce _ (Nat.le_refl _)
  generalize hgf : h.gf = gf
  have hm : e.mch gf (qn M) = .pp (e.mcl gf (qn M)) 0 := rfl
  have hin0 : ∀ i, i < e.r → 0 ≤ (fun _ : Nat => (0 : Int)) i ∧ (fun _ : Nat => (0 : Int)) i < (qn M : Nat) := fun i _ => ⟨Int.le_refl _, by show (0 : Int) < _; omega⟩
  have u1 : ∀ x y b, b < n → upd (upd H n x) (n + 1) y b = H b := fun x y b hb => by rw [upd_ne _ _ (by omega), upd_ne _ _ (by omega)]
  have f1 : (n = n + 1) = False := eq_false (by omega)
  simp -implicitDefEqProofs only [B_conv_machine_edges, hm, Enc.mcl, go_sem, Nat.reduceLT, Nat.reduceBEq, Nat.reduceAdd, Nat.reduceEqDiff, Nat.reduceLeDiff, Nat.reduceSub, Nat.reduceMul, upd_no, f1]
  generalize hcl : [gf, .sl e.r (tab e.r fun t => .sl (e.w t) (tab (e.w t) (e.rowf t))), .int .i64 (e.r : Nat), .int .i64 (e.w 0 : Nat), isl e.r (fun t => (e.deg t : Nat)), .int .i64 (e.mem e.r : Nat), .int .i64 (qn M : Nat), .int .i64 (qn M ^ e.ds e.r : Nat), isl e.r fun t => (qn M ^ e.ds t : Nat)] = CL
  have hmc : e.mch gf (qn M) = .pp CL 0 := by rw [← hcl]; rfl
  have cl : CL.length = 9 := by rw [← hcl]; rfl
  have g0 : gat CL 0 = gf := by rw [← hcl]; rfl
  have g2 : gat CL 2 = .int .i64 (e.r : Nat) := by rw [← hcl]; rfl
  have g6 : gat CL 6 = .int .i64 (qn M : Nat) := by rw [← hcl]; rfl
  have g7 : gat CL 7 = .int .i64 (qn M ^ e.ds e.r : Nat) := by rw [← hcl]; rfl
  refine loop_rule (fun (i : Nat) E H' n' => n' = n + 2 ∧ H' n = some [.int .i64 0, .nil, .nil] ∧ H' (n + 1) = some [.int .i64 (qn M ^ i : Nat), .nil, .nil] ∧ (∀ b, b < n → H' b = H b) ∧ E 0 = .pp CL 0 ∧ E 2 = .ptr n 0 ∧ E 3 = .ptr (n + 1) 0 ∧ E 19 = .int .i64 (e.r : Nat) ∧ E 20 = .int .i64 (i : Nat) ∧ i ≤ e.r) (fun i => e.r - i) 0 ?_ ?_
  · exact ⟨rfl, by simp -implicitDefEqProofs only [go_sem, Nat.reduceLT, Nat.reduceBEq, Nat.reduceAdd, Nat.reduceEqDiff, Nat.reduceLeDiff, Nat.reduceSub, Nat.reduceMul, upd_no, f1], by simp -implicitDefEqProofs only [go_sem, Nat.reduceLT, Nat.reduceBEq, Nat.reduceAdd, Nat.reduceEqDiff, Nat.reduceLeDiff, Nat.reduceSub, Nat.reduceMul, Nat.pow_zero]; rfl, u1 _ _, rfl, rfl, rfl, rfl, rfl, by omega⟩
  rintro i E H' n' ⟨rfl, c0, c1, ho, e0, e2, e3, e19, e20, hi⟩
  simp -implicitDefEqProofs only [go_sem, Nat.reduceLT, Nat.reduceBEq, Nat.reduceAdd, Nat.reduceEqDiff, Nat.reduceLeDiff, Nat.reduceSub, Nat.reduceMul, e19, e20]
  refine c_split (fun hc => ?_) (fun hc => ?_)
  · have hwi := wrap64 (x := (i : Int) + 1) (by omega)
    have hpi := hpr (i + 1) (by omega)
    have hps : qn M ^ (i + 1) = qn M ^ i * qn M := Nat.pow_succ ..
    have hw : IntKind.i64.wrap (((qn M ^ i : Nat) : Int) * ((qn M : Nat) : Int)) = ((qn M ^ (i + 1) : Nat) : Int) := by
      rw [hps]; rw [hps] at hpi
      have : ((qn M ^ i : Nat) : Int) * ((qn M : Nat) : Int) = ((qn M ^ i * qn M : Nat) : Int) := (Int.natCast_mul ..).symm
      rw [this]; exact wrap64 (by omega)
    have f2 : n + 1 < n + 2 := by omega
    simp -implicitDefEqProofs only [go_sem, Nat.reduceLT, Nat.reduceBEq, Nat.reduceAdd, Nat.reduceEqDiff, Nat.reduceLeDiff, Nat.reduceSub, Nat.reduceMul, e0, e3, c1, f2, cl, g6, hw, e20, hwi]
    exact l_n ⟨i + 1, by omega, rfl, by rw [upd_ne _ _ (by omega)]; exact c0, by simp -implicitDefEqProofs only [go_sem, Nat.reduceLT, Nat.reduceBEq, Nat.reduceAdd, Nat.reduceEqDiff, Nat.reduceLeDiff, Nat.reduceSub, Nat.reduceMul], fun b hb => by rw [upd_ne _ _ (by omega)]; exact ho b hb, by simp -implicitDefEqProofs only [go_sem, Nat.reduceLT, Nat.reduceBEq, Nat.reduceAdd, Nat.reduceEqDiff, Nat.reduceLeDiff, Nat.reduceSub, Nat.reduceMul, e0], by simp -implicitDefEqProofs only [go_sem, Nat.reduceLT, Nat.reduceBEq, Nat.reduceAdd, Nat.reduceEqDiff, Nat.reduceLeDiff, Nat.reduceSub, Nat.reduceMul, e2], by simp -implicitDefEqProofs only [go_sem, Nat.reduceLT, Nat.reduceBEq, Nat.reduceAdd, Nat.reduceEqDiff, Nat.reduceLeDiff, Nat.reduceSub, Nat.reduceMul, e3], by simp -implicitDefEqProofs only [go_sem, Nat.reduceLT, Nat.reduceBEq, Nat.reduceAdd, Nat.reduceEqDiff, Nat.reduceLeDiff, Nat.reduceSub, Nat.reduceMul, e19], by simp -implicitDefEqProofs only [go_sem, Nat.reduceLT, Nat.reduceBEq, Nat.reduceAdd, Nat.reduceEqDiff, Nat.reduceLeDiff, Nat.reduceSub, Nat.reduceMul]; rfl, by omega⟩
  have : i = e.r := by omega
  subst this
  generalize hII : qn M ^ e.r = I at *
  generalize hSS : qn M ^ e.ds e.r = S at *
  have hedg : e.edg M = .agg [.int .i64 (I : Nat), isl (S * I) (e.nxa M), isl (S * I) fun a => (e.owa M a : Nat)] := by rw [← hII, ← hSS]
  rw [hedg]
  have f2 : n + 1 < n + 2 := by omega
  have hI2 : I ≤ 65536 := hII ▸ hpr e.r (Nat.le_refl _)
  simp -implicitDefEqProofs only [go_sem, Nat.reduceLT, Nat.reduceBEq, Nat.reduceAdd, Nat.reduceEqDiff, Nat.reduceLeDiff, Nat.reduceSub, Nat.reduceMul, e3, c1, f2]
  repeat with_reducible refine And.intro (by omega) ?_
  let ah : Nat → Int := fun x => e.nx (qn M : Nat) 0 (inp M x) e.r 0
  let ou : Nat → GV := fun x => isl (e.w 0) (e.orw M 0 x)
  have sDig : ∀ (H : Heap) (n x : Nat), x < I → Spec prog fid_conv_digits [.int .i64 (x : Nat), .int .i64 (qn M : Nat), .int .i64 (e.r : Nat)] H n (isl e.r (inp M x)) H n := fun H n x hx => sp_conv_digits (x : Nat) (qn M : Nat) e.r (by omega) (by omega) (by omega) (by omega) (by omega)
  have sSt0 : ∀ (H : Heap) (n x : Nat), Spec prog fid_conv_machine_step [.pp CL 0, .int .i64 0, isl e.r (inp M x)] H n (.tup [.int .i64 (ah x), isl (e.w 0) (e.orw M 0 x)]) H n := fun H n x => by
    have := sp_step (H := H) (n := n) e hB h hd hce 0 (inp M x) (by omega) (by omega) fun i _ => inp_in x i
    rw [hgf, hmc] at this; exact this
  have sStz : ∀ (H : Heap) (n s : Nat) (a : GV), s < S → Rd H n a e.r (fun _ => 0) → Spec prog fid_conv_machine_step [.pp CL 0, .int .i64 (s : Nat), a] H n (.tup [.int .i64 (e.nx (qn M : Nat) (s : Nat) (fun _ => 0) e.r 0), isl (e.w 0) fun j => (cn (e.so M (s : Nat) (fun _ => 0) e.r 0 j) : Nat)]) H n := fun H n s a hs ha => by
    have := sp_step' (H := H) (n := n) e hB h hd hce (s : Nat) (fun _ => 0) (by omega) (by omega) hin0 ha
    rw [hgf, hmc] at this; exact this
  refine loop_rule (fun (i : Nat) E H' n' => n' = n + 4 ∧ H' n = some [.int .i64 0, .nil, .nil] ∧ H' (n + 1) = some [.int .i64 (I : Nat), .nil, .nil] ∧ H' (n + 2) = some (tab I (it (mix ah (fun _ => 0) i))) ∧ H' (n + 3) = some (tab I (mixg ou (fun _ => .nil) i)) ∧ (∀ b, b < n → H' b = H b) ∧ E 0 = .pp CL 0 ∧ E 2 = .ptr n 0 ∧ E 3 = .ptr (n + 1) 0 ∧ E 4 = .own (n + 2) 0 I ∧ E 5 = .own (n + 3) 0 I ∧ E 38 = .int .i64 (I : Nat) ∧ E 39 = .int .i64 (i : Nat) ∧ i ≤ I) (fun i => I - i) 0 ?_ ?_
  · refine ⟨rfl, by simp -implicitDefEqProofs only [go_sem, Nat.reduceLT, Nat.reduceBEq, Nat.reduceAdd, Nat.reduceEqDiff, Nat.reduceLeDiff, Nat.reduceSub, Nat.reduceMul, upd_no, c0], by simp -implicitDefEqProofs only [go_sem, Nat.reduceLT, Nat.reduceBEq, Nat.reduceAdd, Nat.reduceEqDiff, Nat.reduceLeDiff, Nat.reduceSub, Nat.reduceMul, upd_no, c1], ?_, ?_, fun b hb => ?_, by simp -implicitDefEqProofs only [go_sem, Nat.reduceLT, Nat.reduceBEq, Nat.reduceAdd, Nat.reduceEqDiff, Nat.reduceLeDiff, Nat.reduceSub, Nat.reduceMul, e0], by simp -implicitDefEqProofs only [go_sem, Nat.reduceLT, Nat.reduceBEq, Nat.reduceAdd, Nat.reduceEqDiff, Nat.reduceLeDiff, Nat.reduceSub, Nat.reduceMul, e2], by simp -implicitDefEqProofs only [go_sem, Nat.reduceLT, Nat.reduceBEq, Nat.reduceAdd, Nat.reduceEqDiff, Nat.reduceLeDiff, Nat.reduceSub, Nat.reduceMul, e3], rfl, rfl, rfl, rfl, by omega⟩
    · simp -implicitDefEqProofs only [go_sem, Nat.reduceLT, Nat.reduceBEq, Nat.reduceAdd, Nat.reduceEqDiff, Nat.reduceLeDiff, Nat.reduceSub, Nat.reduceMul, mix_zero]; exact congrArg some (tab_rep _)
    · simp -implicitDefEqProofs only [go_sem, Nat.reduceLT, Nat.reduceBEq, Nat.reduceAdd, Nat.reduceEqDiff, Nat.reduceLeDiff, Nat.reduceSub, Nat.reduceMul, mixg_zero]; exact congrArg some (tab_rep _)
    · rw [upd_ne _ _ (by omega), upd_ne _ _ (by omega), ho b hb]
  clear hi hc e20 e19 e3 e2 e0 ho c1 c0 E H'
  rintro i E H' n' ⟨rfl, c0, c1, c2, c3, ho, e0, e2, e3, e4, e5, e38, e39, hi⟩
  simp -implicitDefEqProofs only [go_sem, Nat.reduceLT, Nat.reduceBEq, Nat.reduceAdd, Nat.reduceEqDiff, Nat.reduceLeDiff, Nat.reduceSub, Nat.reduceMul, e38, e39]
  refine c_split (fun hc => ?_) (fun hc => ?_)
  · have hiN : i < I := by omega
    have hwi := wrap64 (x := (i : Int) + 1) (by omega)
    have hst := mix_step ah (fun _ => 0) i
    have hsg : upf (mixg ou (fun _ => .nil) i) i (isl (e.w 0) (e.orw M 0 i)) = mixg ou (fun _ => .nil) (i + 1) := mixg_step ou (fun _ => .nil) i
    have f3 : (n + 3 = n + 2) = False := eq_false (by omega)
    simp -implicitDefEqProofs only [go_sem, Nat.reduceLT, Nat.reduceBEq, Nat.reduceAdd, Nat.reduceEqDiff, Nat.reduceLeDiff, Nat.reduceSub, Nat.reduceMul, e0, e4, e5, e39, cl, g2, g6]
    refine mcall_of (pl_isl _ _).nr (fun H1 n1 _ _ => sDig H1 n1 i hiN) ?_
    simp -implicitDefEqProofs only [go_sem, Nat.reduceLT, Nat.reduceBEq, Nat.reduceAdd, Nat.reduceEqDiff, Nat.reduceLeDiff, Nat.reduceSub, Nat.reduceMul]
    refine mcall_of (Pl.nr (.tup _ fun j hj => by
      rcases j with _ | _ | j
      · exact .int _ _
      · exact pl_isl _ _
      · simp at hj; omega)) (fun H1 n1 _ _ => sSt0 H1 n1 i) ?_
    simp -implicitDefEqProofs only [go_sem, Nat.reduceLT, Nat.reduceBEq, Nat.reduceAdd, Nat.reduceEqDiff, Nat.reduceLeDiff, Nat.reduceSub, Nat.reduceMul, hc, hiN, c2, c3, hst, hsg, upd_no, f3, e39, hwi]
    repeat with_reducible refine And.intro (by omega) ?_
    refine l_n ⟨i + 1, by omega, rfl, ?_, ?_, ?_, ?_, fun b hb => ?_, by simp -implicitDefEqProofs only [go_sem, Nat.reduceLT, Nat.reduceBEq, Nat.reduceAdd, Nat.reduceEqDiff, Nat.reduceLeDiff, Nat.reduceSub, Nat.reduceMul, e0], by simp -implicitDefEqProofs only [go_sem, Nat.reduceLT, Nat.reduceBEq, Nat.reduceAdd, Nat.reduceEqDiff, Nat.reduceLeDiff, Nat.reduceSub, Nat.reduceMul, e2], by simp -implicitDefEqProofs only [go_sem, Nat.reduceLT, Nat.reduceBEq, Nat.reduceAdd, Nat.reduceEqDiff, Nat.reduceLeDiff, Nat.reduceSub, Nat.reduceMul, e3], by simp -implicitDefEqProofs only [go_sem, Nat.reduceLT, Nat.reduceBEq, Nat.reduceAdd, Nat.reduceEqDiff, Nat.reduceLeDiff, Nat.reduceSub, Nat.reduceMul, e4], by simp -implicitDefEqProofs only [go_sem, Nat.reduceLT, Nat.reduceBEq, Nat.reduceAdd, Nat.reduceEqDiff, Nat.reduceLeDiff, Nat.reduceSub, Nat.reduceMul, e5], by simp -implicitDefEqProofs only [go_sem, Nat.reduceLT, Nat.reduceBEq, Nat.reduceAdd, Nat.reduceEqDiff, Nat.reduceLeDiff, Nat.reduceSub, Nat.reduceMul, e38], by simp -implicitDefEqProofs only [go_sem, Nat.reduceLT, Nat.reduceBEq, Nat.reduceAdd, Nat.reduceEqDiff, Nat.reduceLeDiff, Nat.reduceSub, Nat.reduceMul]; rfl, by omega⟩
    · rw [upd_ne _ _ (by omega), upd_ne _ _ (by omega), c0]
    · rw [upd_ne _ _ (by omega), upd_ne _ _ (by omega), c1]
    · rw [upd_ne _ _ (by omega), upd_same]
    · rw [upd_same]
    · rw [upd_ne _ _ (by omega), upd_ne _ _ (by omega), ho b hb]
  have : i = I := by omega
  subst this
  have c2' : H' (n + 2) = some (tab i (it ah)) := by
    rw [c2]; exact congrArg some (tab_congr fun j hj => congrArg (GV.int .i64) (mix_lt _ _ hj))
  have c3' : H' (n + 3) = some (tab i ou) := by
    rw [c3]; exact congrArg some (tab_congr fun j hj => mixg_lt _ _ hj)
  simp -implicitDefEqProofs only [go_sem, Nat.reduceLT, Nat.reduceBEq, Nat.reduceAdd, Nat.reduceEqDiff, Nat.reduceLeDiff, Nat.reduceSub, Nat.reduceMul, e0, cl, g2, g7]
  repeat with_reducible refine And.intro (by omega) ?_
  refine loop_rule (fun (s : Nat) E H' n' => ∃ g1 g2, n + 5 ≤ n' ∧ H' n = some [.int .i64 0, .nil, .nil] ∧ H' (n + 1) = some [.int .i64 (i : Nat), g1, g2] ∧ H' (n + 2) = some (tab i (it ah)) ∧ H' (n + 3) = some (tab i ou) ∧ H' (n + 4) = some (tab e.r (it fun _ => 0)) ∧ (∀ b, b < n → H' b = H b) ∧ Sl H' (n + 5) n' g1 (s * i) (it (e.nxa M)) ∧ Sl H' (n + 5) n' g2 (s * i) (it fun a => (e.owa M a : Nat)) ∧ (∀ c, Own g1 c → ¬ Own g2 c) ∧ E 0 = .pp CL 0 ∧ E 2 = .ptr n 0 ∧ E 3 = .ptr (n + 1) 0 ∧ E 4 = .own (n + 2) 0 i ∧ E 5 = .own (n + 3) 0 i ∧ E 7 = .own (n + 4) 0 e.r ∧ E 72 = .int .i64 (S : Nat) ∧ E 73 = .int .i64 (s : Nat) ∧ s ≤ S) (fun s => S - s) 0 ?_ ?_
  · refine ⟨.nil, .nil, by omega, by simp -implicitDefEqProofs only [go_sem, Nat.reduceLT, Nat.reduceBEq, Nat.reduceAdd, Nat.reduceEqDiff, Nat.reduceLeDiff, Nat.reduceSub, Nat.reduceMul, upd_no, c0], by simp -implicitDefEqProofs only [go_sem, Nat.reduceLT, Nat.reduceBEq, Nat.reduceAdd, Nat.reduceEqDiff, Nat.reduceLeDiff, Nat.reduceSub, Nat.reduceMul, upd_no, c1], ?_, ?_, ?_, fun b hb => ?_, by rw [Nat.zero_mul]; exact .nil, by rw [Nat.zero_mul]; exact .nil, fun c h => absurd h own_nil, by simp -implicitDefEqProofs only [go_sem, Nat.reduceLT, Nat.reduceBEq, Nat.reduceAdd, Nat.reduceEqDiff, Nat.reduceLeDiff, Nat.reduceSub, Nat.reduceMul, e0], by simp -implicitDefEqProofs only [go_sem, Nat.reduceLT, Nat.reduceBEq, Nat.reduceAdd, Nat.reduceEqDiff, Nat.reduceLeDiff, Nat.reduceSub, Nat.reduceMul, e2], by simp -implicitDefEqProofs only [go_sem, Nat.reduceLT, Nat.reduceBEq, Nat.reduceAdd, Nat.reduceEqDiff, Nat.reduceLeDiff, Nat.reduceSub, Nat.reduceMul, e3], by simp -implicitDefEqProofs only [go_sem, Nat.reduceLT, Nat.reduceBEq, Nat.reduceAdd, Nat.reduceEqDiff, Nat.reduceLeDiff, Nat.reduceSub, Nat.reduceMul, e4], by simp -implicitDefEqProofs only [go_sem, Nat.reduceLT, Nat.reduceBEq, Nat.reduceAdd, Nat.reduceEqDiff, Nat.reduceLeDiff, Nat.reduceSub, Nat.reduceMul, e5], rfl, rfl, rfl, by omega⟩
    · rw [upd_ne _ _ (by omega), c2']
    · rw [upd_ne _ _ (by omega), c3']
    · simp -implicitDefEqProofs only [go_sem, Nat.reduceLT, Nat.reduceBEq, Nat.reduceAdd, Nat.reduceEqDiff, Nat.reduceLeDiff, Nat.reduceSub, Nat.reduceMul]; exact congrArg some (tab_rep _)
    · rw [upd_ne _ _ (by omega), ho b hb]
  clear c3' c2' hi hc e39 e38 e5 e4 e3 e2 e0 ho c3 c2 c1 c0 E H'
  generalize i = I at *
  rintro s E H' n' ⟨g1, g2, hn, c0, c1, c2, c3, c4, ho, s1, s2, hdj, e0, e2, e3, e4, e5, e7, e72, e73, hs⟩
  simp -implicitDefEqProofs only [go_sem, Nat.reduceLT, Nat.reduceBEq, Nat.reduceAdd, Nat.reduceEqDiff, Nat.reduceLeDiff, Nat.reduceSub, Nat.reduceMul, e72, e73]
  refine c_split (fun hc => ?_) (fun hc => ?_)
  · have hsS : s < S := by omega
    have hws := wrap64 (x := (s : Int) + 1) (by omega)
    simp -implicitDefEqProofs only [go_sem, Nat.reduceLT, Nat.reduceBEq, Nat.reduceAdd, Nat.reduceEqDiff, Nat.reduceLeDiff, Nat.reduceSub, Nat.reduceMul, e0, e7, e73]
    refine call_of (sStz H' n' s _ hsS (.own (b := n + 4) (by omega) c4)) ?_
    simp -implicitDefEqProofs only [go_sem, Nat.reduceLT, Nat.reduceBEq, Nat.reduceAdd, Nat.reduceEqDiff, Nat.reduceLeDiff, Nat.reduceSub, Nat.reduceMul, e3, c1]
    let x0 : Nat → Int := fun j => (cn (e.so M (s : Nat) (fun _ => 0) e.r 0 j) : Nat)
    refine loop_rule (fun (i : Nat) E H' n' => ∃ g1 g2, n + 5 ≤ n' ∧ H' n = some [.int .i64 0, .nil, .nil] ∧ H' (n + 1) = some [.int .i64 (I : Nat), g1, g2] ∧ H' (n + 2) = some (tab I (it ah)) ∧ H' (n + 3) = some (tab I ou) ∧ H' (n + 4) = some (tab e.r (it fun _ => 0)) ∧ (∀ b, b < n → H' b = H b) ∧ Sl H' (n + 5) n' g1 (s * I + i) (it (e.nxa M)) ∧ Sl H' (n + 5) n' g2 (s * I + i) (it fun a => (e.owa M a : Nat)) ∧ (∀ c, Own g1 c → ¬ Own g2 c) ∧ E 0 = .pp CL 0 ∧ E 2 = .ptr n 0 ∧ E 3 = .ptr (n + 1) 0 ∧ E 4 = .own (n + 2) 0 I ∧ E 5 = .own (n + 3) 0 I ∧ E 7 = .own (n + 4) 0 e.r ∧ E 9 = .int .i64 (e.nx (qn M : Nat) (s : Nat) (fun _ => 0) e.r 0) ∧ E 10 = isl (e.w 0) x0 ∧ E 72 = .int .i64 (S : Nat) ∧ E 73 = .int .i64 (s : Nat) ∧ E 84 = .int .i64 (I : Nat) ∧ E 85 = .int .i64 (i : Nat) ∧ i ≤ I) (fun i => I - i) 0 ⟨g1, g2, hn, c0, c1, c2, c3, c4, ho, s1, s2, hdj, by simp -implicitDefEqProofs only [go_sem, Nat.reduceLT, Nat.reduceBEq, Nat.reduceAdd, Nat.reduceEqDiff, Nat.reduceLeDiff, Nat.reduceSub, Nat.reduceMul, e0], by simp -implicitDefEqProofs only [go_sem, Nat.reduceLT, Nat.reduceBEq, Nat.reduceAdd, Nat.reduceEqDiff, Nat.reduceLeDiff, Nat.reduceSub, Nat.reduceMul, e2], by simp -implicitDefEqProofs only [go_sem, Nat.reduceLT, Nat.reduceBEq, Nat.reduceAdd, Nat.reduceEqDiff, Nat.reduceLeDiff, Nat.reduceSub, Nat.reduceMul, e3], by simp -implicitDefEqProofs only [go_sem, Nat.reduceLT, Nat.reduceBEq, Nat.reduceAdd, Nat.reduceEqDiff, Nat.reduceLeDiff, Nat.reduceSub, Nat.reduceMul, e4], by simp -implicitDefEqProofs only [go_sem, Nat.reduceLT, Nat.reduceBEq, Nat.reduceAdd, Nat.reduceEqDiff, Nat.reduceLeDiff, Nat.reduceSub, Nat.reduceMul, e5], by simp -implicitDefEqProofs only [go_sem, Nat.reduceLT, Nat.reduceBEq, Nat.reduceAdd, Nat.reduceEqDiff, Nat.reduceLeDiff, Nat.reduceSub, Nat.reduceMul, e7], rfl, rfl, by simp -implicitDefEqProofs only [go_sem, Nat.reduceLT, Nat.reduceBEq, Nat.reduceAdd, Nat.reduceEqDiff, Nat.reduceLeDiff, Nat.reduceSub, Nat.reduceMul, e72], by simp -implicitDefEqProofs only [go_sem, Nat.reduceLT, Nat.reduceBEq, Nat.reduceAdd, Nat.reduceEqDiff, Nat.reduceLeDiff, Nat.reduceSub, Nat.reduceMul, e73], rfl, rfl, by omega⟩ ?_
    clear hc e73 e72 e7 e5 e4 e3 e2 e0 hdj s2 s1 ho c4 c3 c2 c1 c0 hn g1 g2 n' H' E
    rintro i E H' n' ⟨g1, g2, hn, c0, c1, c2, c3, c4, ho, s1, s2, hdj, e0, e2, e3, e4, e5, e7, e9, e10, e72, e73, e84, e85, hi⟩
    simp -implicitDefEqProofs only [go_sem, Nat.reduceLT, Nat.reduceBEq, Nat.reduceAdd, Nat.reduceEqDiff, Nat.reduceLeDiff, Nat.reduceSub, Nat.reduceMul, e84, e85]
    refine c_split (fun hc => ?_) (fun hc => ?_)
    · have hiN : i < I := by omega
      have hwi := wrap64 (x := (i : Int) + 1) (by omega)
      simp -implicitDefEqProofs only [go_sem, Nat.reduceLT, Nat.reduceBEq, Nat.reduceAdd, Nat.reduceEqDiff, Nat.reduceLeDiff, Nat.reduceSub, Nat.reduceMul, e10]
      have hY : ∀ j, e.orw M s i j = (cn (ein M (x0 j) + ein M (e.orw M 0 i j)) : Nat) := fun j => by
        show ((cn (e.so M (s : Nat) (inp M i) e.r 0 j) : Nat) : Int) = (cn (ein M ((cn (e.so M (s : Nat) (fun _ => 0) e.r 0 j) : Nat) : Int) + ein M ((cn (e.so M ((0 : Nat) : Int) (inp M i) e.r 0 j) : Nat) : Int)) : Nat)
        rw [ein_cn h.fc, ein_cn h.fc, e.so_lin h.fc (s : Nat) (inp M i) j]; rfl
      refine loop_rule (fun (j : Nat) E H1 n1 => H1 = H' ∧ n1 = n' ∧ E 0 = .pp CL 0 ∧ E 2 = .ptr n 0 ∧ E 3 = .ptr (n + 1) 0 ∧ E 4 = .own (n + 2) 0 I ∧ E 5 = .own (n + 3) 0 I ∧ E 7 = .own (n + 4) 0 e.r ∧ E 9 = .int .i64 (e.nx (qn M : Nat) (s : Nat) (fun _ => 0) e.r 0) ∧ E 10 = isl (e.w 0) x0 ∧ E 11 = .int .i64 (i : Nat) ∧ E 12 = .int .i64 (wt j (e.orw M s i) : Nat) ∧ E 72 = .int .i64 (S : Nat) ∧ E 73 = .int .i64 (s : Nat) ∧ E 84 = .int .i64 (I : Nat) ∧ E 85 = .int .i64 (i : Nat) ∧ E 88 = isl (e.w 0) x0 ∧ E 89 = .int .i64 (e.w 0 : Nat) ∧ E 90 = .int .i64 (j : Nat) ∧ j ≤ e.w 0) (fun j => e.w 0 - j) 0 ⟨rfl, rfl, by simp -implicitDefEqProofs only [go_sem, Nat.reduceLT, Nat.reduceBEq, Nat.reduceAdd, Nat.reduceEqDiff, Nat.reduceLeDiff, Nat.reduceSub, Nat.reduceMul, e0], by simp -implicitDefEqProofs only [go_sem, Nat.reduceLT, Nat.reduceBEq, Nat.reduceAdd, Nat.reduceEqDiff, Nat.reduceLeDiff, Nat.reduceSub, Nat.reduceMul, e2], by simp -implicitDefEqProofs only [go_sem, Nat.reduceLT, Nat.reduceBEq, Nat.reduceAdd, Nat.reduceEqDiff, Nat.reduceLeDiff, Nat.reduceSub, Nat.reduceMul, e3], by simp -implicitDefEqProofs only [go_sem, Nat.reduceLT, Nat.reduceBEq, Nat.reduceAdd, Nat.reduceEqDiff, Nat.reduceLeDiff, Nat.reduceSub, Nat.reduceMul, e4], by simp -implicitDefEqProofs only [go_sem, Nat.reduceLT, Nat.reduceBEq, Nat.reduceAdd, Nat.reduceEqDiff, Nat.reduceLeDiff, Nat.reduceSub, Nat.reduceMul, e5], by simp -implicitDefEqProofs only [go_sem, Nat.reduceLT, Nat.reduceBEq, Nat.reduceAdd, Nat.reduceEqDiff, Nat.reduceLeDiff, Nat.reduceSub, Nat.reduceMul, e7], by simp -implicitDefEqProofs only [go_sem, Nat.reduceLT, Nat.reduceBEq, Nat.reduceAdd, Nat.reduceEqDiff, Nat.reduceLeDiff, Nat.reduceSub, Nat.reduceMul, e9], by simp -implicitDefEqProofs only [go_sem, Nat.reduceLT, Nat.reduceBEq, Nat.reduceAdd, Nat.reduceEqDiff, Nat.reduceLeDiff, Nat.reduceSub, Nat.reduceMul, e10], by simp -implicitDefEqProofs only [go_sem, Nat.reduceLT, Nat.reduceBEq, Nat.reduceAdd, Nat.reduceEqDiff, Nat.reduceLeDiff, Nat.reduceSub, Nat.reduceMul, e85], rfl, by simp -implicitDefEqProofs only [go_sem, Nat.reduceLT, Nat.reduceBEq, Nat.reduceAdd, Nat.reduceEqDiff, Nat.reduceLeDiff, Nat.reduceSub, Nat.reduceMul, e72], by simp -implicitDefEqProofs only [go_sem, Nat.reduceLT, Nat.reduceBEq, Nat.reduceAdd, Nat.reduceEqDiff, Nat.reduceLeDiff, Nat.reduceSub, Nat.reduceMul, e73], by simp -implicitDefEqProofs only [go_sem, Nat.reduceLT, Nat.reduceBEq, Nat.reduceAdd, Nat.reduceEqDiff, Nat.reduceLeDiff, Nat.reduceSub, Nat.reduceMul, e84], by simp -implicitDefEqProofs only [go_sem, Nat.reduceLT, Nat.reduceBEq, Nat.reduceAdd, Nat.reduceEqDiff, Nat.reduceLeDiff, Nat.reduceSub, Nat.reduceMul, e85], rfl, rfl, rfl, by omega⟩ ?_
      clear e85 e84 e73 e72 e10 e9 e7 e5 e4 e3 e2 e0 E
      rintro j E H1 n1 ⟨rfl, rfl, e0, e2, e3, e4, e5, e7, e9, e10, e11, e12, e72, e73, e84, e85, e88, e89, e90, hj⟩
      simp -implicitDefEqProofs only [go_sem, Nat.reduceLT, Nat.reduceBEq, Nat.reduceAdd, Nat.reduceEqDiff, Nat.reduceLeDiff, Nat.reduceSub, Nat.reduceMul, e89, e90]
      refine c_split (fun hc' => ?_) (fun hc' => ?_)
      · have hjN : j < e.w 0 := by omega
        have hwj := wrap64 (x := (j : Int) + 1) (by omega)
        have f3 : n + 3 < n1 := by omega
        have hou : ou i = isl (e.w 0) (e.orw M 0 i) := rfl
        have hle := wt_le j (e.orw M s i)
        have hwt := wt_succ j (e.orw M s i)
        simp -implicitDefEqProofs only [go_sem, Nat.reduceLT, Nat.reduceBEq, Nat.reduceAdd, Nat.reduceEqDiff, Nat.reduceLeDiff, Nat.reduceSub, Nat.reduceMul, e0, e5, e11, e88, e90, cl, g0, hc, hc', hiN, hjN, c3, f3, gat_tab, hou]
        rw [← hgf]
        refine call_of (sp_GF_Add h.fc h.g _ _) ?_
        rw [← hY j]
        by_cases hz : e.orw M s i j = 0
        · rw [if_pos hz] at hwt
          simp -implicitDefEqProofs only [go_sem, Nat.reduceLT, Nat.reduceBEq, Nat.reduceAdd, Nat.reduceEqDiff, Nat.reduceLeDiff, Nat.reduceSub, Nat.reduceMul, hz, e90, hwj]
          exact l_n ⟨j + 1, by omega, rfl, rfl, by simp -implicitDefEqProofs only [go_sem, Nat.reduceLT, Nat.reduceBEq, Nat.reduceAdd, Nat.reduceEqDiff, Nat.reduceLeDiff, Nat.reduceSub, Nat.reduceMul, e0], by simp -implicitDefEqProofs only [go_sem, Nat.reduceLT, Nat.reduceBEq, Nat.reduceAdd, Nat.reduceEqDiff, Nat.reduceLeDiff, Nat.reduceSub, Nat.reduceMul, e2], by simp -implicitDefEqProofs only [go_sem, Nat.reduceLT, Nat.reduceBEq, Nat.reduceAdd, Nat.reduceEqDiff, Nat.reduceLeDiff, Nat.reduceSub, Nat.reduceMul, e3], by simp -implicitDefEqProofs only [go_sem, Nat.reduceLT, Nat.reduceBEq, Nat.reduceAdd, Nat.reduceEqDiff, Nat.reduceLeDiff, Nat.reduceSub, Nat.reduceMul, e4], by simp -implicitDefEqProofs only [go_sem, Nat.reduceLT, Nat.reduceBEq, Nat.reduceAdd, Nat.reduceEqDiff, Nat.reduceLeDiff, Nat.reduceSub, Nat.reduceMul, e5], by simp -implicitDefEqProofs only [go_sem, Nat.reduceLT, Nat.reduceBEq, Nat.reduceAdd, Nat.reduceEqDiff, Nat.reduceLeDiff, Nat.reduceSub, Nat.reduceMul, e7], by simp -implicitDefEqProofs only [go_sem, Nat.reduceLT, Nat.reduceBEq, Nat.reduceAdd, Nat.reduceEqDiff, Nat.reduceLeDiff, Nat.reduceSub, Nat.reduceMul, e9], by simp -implicitDefEqProofs only [go_sem, Nat.reduceLT, Nat.reduceBEq, Nat.reduceAdd, Nat.reduceEqDiff, Nat.reduceLeDiff, Nat.reduceSub, Nat.reduceMul, e10], by simp -implicitDefEqProofs only [go_sem, Nat.reduceLT, Nat.reduceBEq, Nat.reduceAdd, Nat.reduceEqDiff, Nat.reduceLeDiff, Nat.reduceSub, Nat.reduceMul, e11], by simp -implicitDefEqProofs only [go_sem, Nat.reduceLT, Nat.reduceBEq, Nat.reduceAdd, Nat.reduceEqDiff, Nat.reduceLeDiff, Nat.reduceSub, Nat.reduceMul, e12, hwt], by simp -implicitDefEqProofs only [go_sem, Nat.reduceLT, Nat.reduceBEq, Nat.reduceAdd, Nat.reduceEqDiff, Nat.reduceLeDiff, Nat.reduceSub, Nat.reduceMul, e72], by simp -implicitDefEqProofs only [go_sem, Nat.reduceLT, Nat.reduceBEq, Nat.reduceAdd, Nat.reduceEqDiff, Nat.reduceLeDiff, Nat.reduceSub, Nat.reduceMul, e73], by simp -implicitDefEqProofs only [go_sem, Nat.reduceLT, Nat.reduceBEq, Nat.reduceAdd, Nat.reduceEqDiff, Nat.reduceLeDiff, Nat.reduceSub, Nat.reduceMul, e84], by simp -implicitDefEqProofs only [go_sem, Nat.reduceLT, Nat.reduceBEq, Nat.reduceAdd, Nat.reduceEqDiff, Nat.reduceLeDiff, Nat.reduceSub, Nat.reduceMul, e85], by simp -implicitDefEqProofs only [go_sem, Nat.reduceLT, Nat.reduceBEq, Nat.reduceAdd, Nat.reduceEqDiff, Nat.reduceLeDiff, Nat.reduceSub, Nat.reduceMul, e88], by simp -implicitDefEqProofs only [go_sem, Nat.reduceLT, Nat.reduceBEq, Nat.reduceAdd, Nat.reduceEqDiff, Nat.reduceLeDiff, Nat.reduceSub, Nat.reduceMul, e89], by simp -implicitDefEqProofs only [go_sem, Nat.reduceLT, Nat.reduceBEq, Nat.reduceAdd, Nat.reduceEqDiff, Nat.reduceLeDiff, Nat.reduceSub, Nat.reduceMul]; rfl, by omega⟩
        · rw [if_neg hz] at hwt
          have hw : IntKind.i64.wrap (((wt j (e.orw M s i) : Nat) : Int) + 1) = ((wt (j + 1) (e.orw M s i) : Nat) : Int) := (wrap64 (by omega)).trans (by omega)
          simp -implicitDefEqProofs only [go_sem, Nat.reduceLT, Nat.reduceBEq, Nat.reduceAdd, Nat.reduceEqDiff, Nat.reduceLeDiff, Nat.reduceSub, Nat.reduceMul, hz, e12, e90, hwj, hw]
          exact l_n ⟨j + 1, by omega, rfl, rfl, by simp -implicitDefEqProofs only [go_sem, Nat.reduceLT, Nat.reduceBEq, Nat.reduceAdd, Nat.reduceEqDiff, Nat.reduceLeDiff, Nat.reduceSub, Nat.reduceMul, e0], by simp -implicitDefEqProofs only [go_sem, Nat.reduceLT, Nat.reduceBEq, Nat.reduceAdd, Nat.reduceEqDiff, Nat.reduceLeDiff, Nat.reduceSub, Nat.reduceMul, e2], by simp -implicitDefEqProofs only [go_sem, Nat.reduceLT, Nat.reduceBEq, Nat.reduceAdd, Nat.reduceEqDiff, Nat.reduceLeDiff, Nat.reduceSub, Nat.reduceMul, e3], by simp -implicitDefEqProofs only [go_sem, Nat.reduceLT, Nat.reduceBEq, Nat.reduceAdd, Nat.reduceEqDiff, Nat.reduceLeDiff, Nat.reduceSub, Nat.reduceMul, e4], by simp -implicitDefEqProofs only [go_sem, Nat.reduceLT, Nat.reduceBEq, Nat.reduceAdd, Nat.reduceEqDiff, Nat.reduceLeDiff, Nat.reduceSub, Nat.reduceMul, e5], by simp -implicitDefEqProofs only [go_sem, Nat.reduceLT, Nat.reduceBEq, Nat.reduceAdd, Nat.reduceEqDiff, Nat.reduceLeDiff, Nat.reduceSub, Nat.reduceMul, e7], by simp -implicitDefEqProofs only [go_sem, Nat.reduceLT, Nat.reduceBEq, Nat.reduceAdd, Nat.reduceEqDiff, Nat.reduceLeDiff, Nat.reduceSub, Nat.reduceMul, e9], by simp -implicitDefEqProofs only [go_sem, Nat.reduceLT, Nat.reduceBEq, Nat.reduceAdd, Nat.reduceEqDiff, Nat.reduceLeDiff, Nat.reduceSub, Nat.reduceMul, e10], by simp -implicitDefEqProofs only [go_sem, Nat.reduceLT, Nat.reduceBEq, Nat.reduceAdd, Nat.reduceEqDiff, Nat.reduceLeDiff, Nat.reduceSub, Nat.reduceMul, e11], by simp -implicitDefEqProofs only [go_sem, Nat.reduceLT, Nat.reduceBEq, Nat.reduceAdd, Nat.reduceEqDiff, Nat.reduceLeDiff, Nat.reduceSub, Nat.reduceMul], by simp -implicitDefEqProofs only [go_sem, Nat.reduceLT, Nat.reduceBEq, Nat.reduceAdd, Nat.reduceEqDiff, Nat.reduceLeDiff, Nat.reduceSub, Nat.reduceMul, e72], by simp -implicitDefEqProofs only [go_sem, Nat.reduceLT, Nat.reduceBEq, Nat.reduceAdd, Nat.reduceEqDiff, Nat.reduceLeDiff, Nat.reduceSub, Nat.reduceMul, e73], by simp -implicitDefEqProofs only [go_sem, Nat.reduceLT, Nat.reduceBEq, Nat.reduceAdd, Nat.reduceEqDiff, Nat.reduceLeDiff, Nat.reduceSub, Nat.reduceMul, e84], by simp -implicitDefEqProofs only [go_sem, Nat.reduceLT, Nat.reduceBEq, Nat.reduceAdd, Nat.reduceEqDiff, Nat.reduceLeDiff, Nat.reduceSub, Nat.reduceMul, e85], by simp -implicitDefEqProofs only [go_sem, Nat.reduceLT, Nat.reduceBEq, Nat.reduceAdd, Nat.reduceEqDiff, Nat.reduceLeDiff, Nat.reduceSub, Nat.reduceMul, e88], by simp -implicitDefEqProofs only [go_sem, Nat.reduceLT, Nat.reduceBEq, Nat.reduceAdd, Nat.reduceEqDiff, Nat.reduceLeDiff, Nat.reduceSub, Nat.reduceMul, e89], by simp -implicitDefEqProofs only [go_sem, Nat.reduceLT, Nat.reduceBEq, Nat.reduceAdd, Nat.reduceEqDiff, Nat.reduceLeDiff, Nat.reduceSub, Nat.reduceMul]; rfl, by omega⟩
      have : j = e.w 0 := by omega
      subst this
      have hci : s * I + i < S * I := by
        have : (s + 1) * I ≤ S * I := Nat.mul_le_mul_right I (by omega)
        rw [Nat.succ_mul] at this; omega
      have hnxa : e.nxa M (s * I + i) = e.nx (qn M : Nat) (s : Nat) (fun _ => 0) e.r 0 + ah i := by
        rw [Enc.nxa, hII, div_at hiN, mod_at hiN]; exact e.nx_add _ _ _
      have howa : e.owa M (s * I + i) = wt (e.w 0) (e.orw M s i) := by rw [Enc.owa, hII, div_at hiN, mod_at hiN]
      have hnin := Enc.nx_in (e := e) (st := (s : Nat)) h (f := inp M i) fun t _ => inp_in i t
      have hwn : IntKind.i64.wrap (e.nx (qn M : Nat) (s : Nat) (fun _ => 0) e.r 0 + ah i) = e.nxa M (s * I + i) := by
        rw [hnxa]
        have : e.nx (qn M : Nat) (s : Nat) (inp M i) e.r 0 = e.nx (qn M : Nat) (s : Nat) (fun _ => 0) e.r 0 + ah i := e.nx_add _ _ _
        rw [hSS] at hnin
        exact wrap64 (by omega)
      have k1 := s1.cell
      have k2 := s2.cell
      have f1' : n + 1 < n1 := by omega
      have f2' : n + 2 < n1 := by omega
      simp -implicitDefEqProofs only [go_sem, Nat.reduceLT, Nat.reduceBEq, Nat.reduceAdd, Nat.reduceEqDiff, Nat.reduceLeDiff, Nat.reduceSub, Nat.reduceMul, e3, e4, e9, e11, c1, c2, f1', f2', hc, hiN, gat_tab, hwn]
      refine app_one s1 rfl rfl (by omega) fun H2 a1 a2 => ?_
      have d1 : H2 (n + 1) = some [.int .i64 (I : Nat), g1, g2] := by rw [a2 _ (by omega) (fun h => by have := s1.lt h; omega), c1]
      have s2' : Sl H2 (n + 5) (n1 + 1) g2 (s * I + i) (it fun a => (e.owa M a : Nat)) := s2.keep (fun c hc => a2 c (by have := s2.lt hc; omega) (fun h => hdj c h hc)) (by omega)
      have f3 : (n + 1 = n1 + 1) = False := eq_false (by omega)
      simp -implicitDefEqProofs only [go_sem, Nat.reduceLT, Nat.reduceBEq, Nat.reduceAdd, Nat.reduceEqDiff, Nat.reduceLeDiff, Nat.reduceSub, Nat.reduceMul, e3, e12, d1, upd_no, f3, k1, k2]
      refine app_one (m := s * I + i) (lo := n + 5) (f := it fun a => (e.owa M a : Nat)) ?_ ?_ rfl (by omega) fun H3 b1 b2 => ?_
      · exact s2'.keep (fun c hc => by rw [upd_ne _ _ (by have := s2.lt hc; omega), upd_ne _ _ (by have := s2.lt hc; omega)]) (by omega)
      · show GV.int .i64 ((wt (e.w 0) (e.orw M s i) : Nat) : Int) = GV.int .i64 ((e.owa M (s * I + i) : Nat) : Int)
        rw [howa]
      have f5 : ¬ Own g2 (n + 1) := fun h => by have := s2.lt h; omega
      have d3 : H3 (n + 1) = some [.int .i64 (I : Nat), .own n1 0 (s * I + i + 1), g2] := by
        rw [b2 _ (by omega) f5, upd_ne _ _ (by omega), upd_same]
      simp -implicitDefEqProofs only [go_sem, Nat.reduceLT, Nat.reduceBEq, Nat.reduceAdd, Nat.reduceEqDiff, Nat.reduceLeDiff, Nat.reduceSub, Nat.reduceMul, e3, d3, e85, hwi]
      have keep : ∀ b, b < n + 5 → b ≠ n + 1 → H3 b = H1 b := fun b hb hne => by
        rw [b2 _ (by omega) (fun h => by have := s2.lt h; omega), upd_ne _ _ (by omega), upd_ne _ _ hne, a2 _ (by omega) (fun h => by have := s1.lt h; omega)]
      refine l_n ⟨i + 1, by omega, .own n1 0 (s * I + i + 1), .own (n1 + 1 + 1) 0 (s * I + i + 1), by omega, ?_, by simp -implicitDefEqProofs only [go_sem, Nat.reduceLT, Nat.reduceBEq, Nat.reduceAdd, Nat.reduceEqDiff, Nat.reduceLeDiff, Nat.reduceSub, Nat.reduceMul], ?_, ?_, ?_, fun b hb => ?_, .inr ⟨n1, by omega, by omega, rfl, ?_⟩, .inr ⟨n1 + 1 + 1, by omega, by omega, rfl, ?_⟩, fun c h1 h2 => ?_, by simp -implicitDefEqProofs only [go_sem, Nat.reduceLT, Nat.reduceBEq, Nat.reduceAdd, Nat.reduceEqDiff, Nat.reduceLeDiff, Nat.reduceSub, Nat.reduceMul, e0], by simp -implicitDefEqProofs only [go_sem, Nat.reduceLT, Nat.reduceBEq, Nat.reduceAdd, Nat.reduceEqDiff, Nat.reduceLeDiff, Nat.reduceSub, Nat.reduceMul, e2], by simp -implicitDefEqProofs only [go_sem, Nat.reduceLT, Nat.reduceBEq, Nat.reduceAdd, Nat.reduceEqDiff, Nat.reduceLeDiff, Nat.reduceSub, Nat.reduceMul, e3], by simp -implicitDefEqProofs only [go_sem, Nat.reduceLT, Nat.reduceBEq, Nat.reduceAdd, Nat.reduceEqDiff, Nat.reduceLeDiff, Nat.reduceSub, Nat.reduceMul, e4], by simp -implicitDefEqProofs only [go_sem, Nat.reduceLT, Nat.reduceBEq, Nat.reduceAdd, Nat.reduceEqDiff, Nat.reduceLeDiff, Nat.reduceSub, Nat.reduceMul, e5], by simp -implicitDefEqProofs only [go_sem, Nat.reduceLT, Nat.reduceBEq, Nat.reduceAdd, Nat.reduceEqDiff, Nat.reduceLeDiff, Nat.reduceSub, Nat.reduceMul, e7], by simp -implicitDefEqProofs only [go_sem, Nat.reduceLT, Nat.reduceBEq, Nat.reduceAdd, Nat.reduceEqDiff, Nat.reduceLeDiff, Nat.reduceSub, Nat.reduceMul, e9], by simp -implicitDefEqProofs only [go_sem, Nat.reduceLT, Nat.reduceBEq, Nat.reduceAdd, Nat.reduceEqDiff, Nat.reduceLeDiff, Nat.reduceSub, Nat.reduceMul, e10], by simp -implicitDefEqProofs only [go_sem, Nat.reduceLT, Nat.reduceBEq, Nat.reduceAdd, Nat.reduceEqDiff, Nat.reduceLeDiff, Nat.reduceSub, Nat.reduceMul, e72], by simp -implicitDefEqProofs only [go_sem, Nat.reduceLT, Nat.reduceBEq, Nat.reduceAdd, Nat.reduceEqDiff, Nat.reduceLeDiff, Nat.reduceSub, Nat.reduceMul, e73], by simp -implicitDefEqProofs only [go_sem, Nat.reduceLT, Nat.reduceBEq, Nat.reduceAdd, Nat.reduceEqDiff, Nat.reduceLeDiff, Nat.reduceSub, Nat.reduceMul, e84], by simp -implicitDefEqProofs only [go_sem, Nat.reduceLT, Nat.reduceBEq, Nat.reduceAdd, Nat.reduceEqDiff, Nat.reduceLeDiff, Nat.reduceSub, Nat.reduceMul]; rfl, by omega⟩
      · rw [upd_ne _ _ (by omega), keep _ (by omega) (by omega), c0]
      · rw [upd_ne _ _ (by omega), keep _ (by omega) (by omega), c2]
      · rw [upd_ne _ _ (by omega), keep _ (by omega) (by omega), c3]
      · rw [upd_ne _ _ (by omega), keep _ (by omega) (by omega), c4]
      · rw [upd_ne _ _ (by omega), keep _ (by omega) (by omega), ho b hb]
      · rw [upd_ne _ _ (by omega), b2 _ (by omega) (fun h => by have := s2.lt h; omega), upd_ne _ _ (by omega), upd_ne _ _ (by omega), a1]; rfl
      · rw [upd_ne _ _ (by omega), b1]; rfl
      · rw [own_own] at h1 h2; omega
    · have : i = I := by omega
      subst this
      simp -implicitDefEqProofs only [go_sem, Nat.reduceLT, Nat.reduceBEq, Nat.reduceAdd, Nat.reduceEqDiff, Nat.reduceLeDiff, Nat.reduceSub, Nat.reduceMul, e73, hws]
      exact l_n ⟨s + 1, by omega, g1, g2, hn, c0, c1, c2, c3, c4, ho, by rw [Nat.succ_mul]; exact s1, by rw [Nat.succ_mul]; exact s2, hdj, by simp -implicitDefEqProofs only [go_sem, Nat.reduceLT, Nat.reduceBEq, Nat.reduceAdd, Nat.reduceEqDiff, Nat.reduceLeDiff, Nat.reduceSub, Nat.reduceMul, e0], by simp -implicitDefEqProofs only [go_sem, Nat.reduceLT, Nat.reduceBEq, Nat.reduceAdd, Nat.reduceEqDiff, Nat.reduceLeDiff, Nat.reduceSub, Nat.reduceMul, e2], by simp -implicitDefEqProofs only [go_sem, Nat.reduceLT, Nat.reduceBEq, Nat.reduceAdd, Nat.reduceEqDiff, Nat.reduceLeDiff, Nat.reduceSub, Nat.reduceMul, e3], by simp -implicitDefEqProofs only [go_sem, Nat.reduceLT, Nat.reduceBEq, Nat.reduceAdd, Nat.reduceEqDiff, Nat.reduceLeDiff, Nat.reduceSub, Nat.reduceMul, e4], by simp -implicitDefEqProofs only [go_sem, Nat.reduceLT, Nat.reduceBEq, Nat.reduceAdd, Nat.reduceEqDiff, Nat.reduceLeDiff, Nat.reduceSub, Nat.reduceMul, e5], by simp -implicitDefEqProofs only [go_sem, Nat.reduceLT, Nat.reduceBEq, Nat.reduceAdd, Nat.reduceEqDiff, Nat.reduceLeDiff, Nat.reduceSub, Nat.reduceMul, e7], by simp -implicitDefEqProofs only [go_sem, Nat.reduceLT, Nat.reduceBEq, Nat.reduceAdd, Nat.reduceEqDiff, Nat.reduceLeDiff, Nat.reduceSub, Nat.reduceMul, e72], by simp -implicitDefEqProofs only [go_sem, Nat.reduceLT, Nat.reduceBEq, Nat.reduceAdd, Nat.reduceEqDiff, Nat.reduceLeDiff, Nat.reduceSub, Nat.reduceMul]; rfl, by omega⟩
  · have : s = S := by omega
    subst this
    have k1 := s1.cell
    have k2 := s2.cell
    have hpos : 0 < s * I := Nat.mul_pos (by omega) (by omega)
    obtain ⟨b1, r1, r2, rfl, r4⟩ := s1.own hpos
    obtain ⟨b2, q1, q2, rfl, q4⟩ := s2.own hpos
    simp -implicitDefEqProofs only [go_sem, Nat.reduceLT, Nat.reduceBEq, Nat.reduceAdd, Nat.reduceEqDiff, Nat.reduceLeDiff, Nat.reduceSub, Nat.reduceMul, e2, e3, c0, c1]
    refine fin_cell (b := n) (o := 0) rfl (by decide) (by simp -implicitDefEqProofs only [go_sem, Nat.reduceLT, Nat.reduceBEq, Nat.reduceAdd, Nat.reduceEqDiff, Nat.reduceLeDiff, Nat.reduceSub, Nat.reduceMul, e2]) (by simp -implicitDefEqProofs only [go_sem, Nat.reduceLT, Nat.reduceBEq, Nat.reduceAdd, Nat.reduceEqDiff, Nat.reduceLeDiff, Nat.reduceSub, Nat.reduceMul]; rfl) (Nat.le_refl _) ?_ fun b hb => ?_
    · refine .agg _ _ rfl fun j hj => ?_
      rcases j with _ | _ | _ | j
      · exact fz_int rfl
      · exact fz_own_isl (by rw [upd_ne _ _ (by omega)]; exact r4) (by omega)
      · exact fz_own_isl (by rw [upd_ne _ _ (by omega)]; exact q4) (by omega)
      · simp at hj; omega
    · rw [upd_ne _ _ (by omega)]; exact ho b hb
end
end Go.Proofs.Ytdpibcniodhinaa.Gh
/- Proofs of the free distance: what the program and the reference accept. -/
namespace Go.Proofs.Ytdpibcniodhinaa.Gh
open Go Go.RowKit
open Alg (CR Ps Dg Zm Mn El Cg sm pw Irr Prm)
set_option linter.unusedVariables false
set_option linter.unusedSimpArgs false

/-- a proof as it is given -/
structure Fp where
  D : Int
  T : Nat
  l : Nat → Nat
  f : Nat → Nat → Int
  np : Nat
  p : Nat → Int
abbrev Fp.cs (p : Fp) : List GV := [.int .i64 p.D, msg p.T p.l p.f, isl p.np p.p]
abbrev Fp.gv (p : Fp) : GV := .agg p.cs
section
variable {F : GFun} {H : Heap} {n : Nat} {g : GV}
theorem ends_told {e : GExit} {t : List GV} {H1 : Heap} {n1 : Nat} (hF : Fr H n) (h : F.ends H n g e t H1 n1) : F.told H n g H n e t H1 n1 := by
  have key : (∃ g1, gretv t H1 F.res = some g1 ∧ Fz H1 n g1 g ∧ ∀ b, b < n → H1 b = H b) ∧ n1 = n1 → ∃ g1 κ, gretv t H1 F.res = some g1 ∧ Tr H1 n n κ g1 g ∧ n ≤ n ∧ Fr H n ∧ (∀ i j, n ≤ i → i < n → n ≤ j → j < n → κ i = κ j → i = j) ∧
      (∀ b, b < n → (H1 b = H b ∧ H b = H b) ∨ ((H1 b = none ∧ H b = none) ∨ ∃ cs cs', H1 b = some cs ∧ H b = some cs' ∧ Trs H1 n n κ cs cs')) ∧
      (∀ i, n ≤ i → i < n → ∃ cs cs', H1 (κ i) = some cs ∧ n ≤ κ i ∧ H i = some cs' ∧ Trs H1 n n κ cs cs') := by
    rintro ⟨⟨g1, h1, h2, h3⟩, _⟩
    exact ⟨g1, id, h1, h2, Nat.le_refl _, hF, fun i j a b => by omega, fun b hb => .inl ⟨h3 b hb, rfl⟩, fun i a b => by omega⟩
  cases e with
  | normal => exact key h
  | ret => exact key h
  | exit id => exact h
end
section
variable {k : Nat} {M : Mn k}
/-- the weight of the terminated output -/
noncomputable def Enc.tw (e : Enc) (M : Mn k) (T : Nat) (f : Nat → Nat → Int) : Nat := wtm (fun _ => e.w 0) (e.yv M (tval T f)) (T + e.mem e.r)
/-- the message is one, has a nonzero input, and its terminated output has this weight -/
def Enc.Rch (e : Enc) (M : Mn k) (p : Fp) : Prop := (∀ t, t < p.T → p.l t = e.r ∧ ∀ i, i < e.r → 0 ≤ p.f t i ∧ p.f t i < (qn M : Nat)) ∧ wtm p.l p.f p.T ≠ 0 ∧ ((e.tw M p.T p.f : Nat) : Int) = p.D
def Enc.Pot0 (e : Enc) (M : Mn k) (p : Fp) : Prop := p.np = qn M ^ e.ds e.r ∧ p.p 0 = 0
def Fp.Rng (p : Fp) : Prop := ∀ s, s < p.np → 0 ≤ p.p s ∧ p.p s ≤ 2147483648
/-- the step a breaks the proof -/
def Enc.Bad (e : Enc) (M : Mn k) (p : Fp) (a : Nat) : Prop := (0 < a / qn M ^ e.r ∧ ((e.owa M a : Nat) : Int) + p.p (e.nxa M a).toNat < p.p (a / qn M ^ e.r)) ∨ (a / qn M ^ e.r = 0 ∧ 0 < a ∧ ((e.owa M a : Nat) : Int) + p.p (e.nxa M a).toNat < p.D)
def Enc.Acc (e : Enc) (M : Mn k) (p : Fp) : Prop := e.Rch M p ∧ e.Pot0 M p ∧ p.Rng ∧ ∀ a, a < qn M ^ e.ds e.r * qn M ^ e.r → ¬ e.Bad M p a
end
end Go.Proofs.Ytdpibcniodhinaa.Gh
/- What the program accepts as a proof of the free distance. -/
namespace Go.Proofs.Ytdpibcniodhinaa.Gh
open Go Go.RowKit
open Alg (CR Ps Dg Zm Mn El Cg sm pw Irr Prm)
set_option linter.unusedVariables false
set_option linter.unusedSimpArgs false

theorem Sl.lo {H : Heap} {lo lo' n m : Nat} {g : GV} {f : Nat → GV} (h : Sl H lo n g m f) (hl : lo' ≤ lo) : Sl H lo' n g m f := by
  rcases h with h | ⟨b, h1, h2, h3, h4⟩
  · exact .inl h
  · exact .inr ⟨b, by omega, h2, h3, h4⟩
theorem wtm_succ (l : Nat → Nat) (f : Nat → Nat → Int) (t : Nat) : wtm l f (t + 1) = wtm l f t + wt (l t) (f t) := rfl
section
variable {k : Nat} {M : Mn k}
noncomputable instance (e : Enc) (p : Fp) : Decidable (e.Rch M p) := Classical.propDecidable _
noncomputable instance (e : Enc) (p : Fp) : Decidable (e.Acc M p) := Classical.propDecidable _
noncomputable instance (e : Enc) (p : Fp) (a : Nat) : Decidable (e.Bad M p a) := Classical.propDecidable _
end
end Go.Proofs.Ytdpibcniodhinaa.Gh
/- CheckFree. -/
namespace Go.Proofs.Ytdpibcniodhinaa.Gh
open Go Go.RowKit
open Alg (CR Ps Dg Zm Mn El Cg sm pw Irr Prm)
set_option linter.unusedVariables false
set_option linter.unusedSimpArgs false

section
variable {k : Nat} {M : Mn k}
theorem Enc.nxa_in {e : Enc} (h : Fi M) (a : Nat) : 0 ≤ e.nxa M a ∧ e.nxa M a < ((qn M ^ e.ds e.r : Nat) : Int) := Enc.nx_in h fun i _ => inp_in _ i
theorem Enc.owa_le {e : Enc} (hB : e.Bnd) (hr0 : 0 < e.r) (a : Nat) : e.owa M a ≤ 70 := by
  have := wt_le (e.w 0) (e.orw M (a / qn M ^ e.r) (a % qn M ^ e.r))
  have := hB.w 0 hr0
  unfold Enc.owa; omega
end
end Go.Proofs.Ytdpibcniodhinaa.Gh
/- What the reference accepts; the statement ConvProofs. -/
namespace Go.Proofs.Ytdpibcniodhinaa.Gh
open Go Go.RowKit
open Alg (CR Ps Dg Zm Mn El Cg sm pw Irr Prm)
set_option linter.unusedVariables false
set_option linter.unusedSimpArgs false

theorem vr_lit {K : Kr} {cs : List GV} {v : Value} (h : VR K (.lit cs) v) : VR K (.sl cs.length cs) v := by
  cases h with
  | lit B o _ us hS hc hv => exact .sl _ _ B o cs us (Nat.le_refl _) hS hc hv
section
variable {k : Nat} {M : Mn k}
theorem Enc.oval_nr (e : Enc) (f : Nat → Nat → Int) (T : Nat) : Nr (e.oval M f T) := by
  unfold oval
  split
  · exact .nil
  · exact (Pl.sl _ _ (pl_tab fun _ _ => pl_isl _ _)).nr
theorem sp_Weight1 {H : Heap} {n : Nat} (w : Nat) (f : Nat → Int) (hw : w ≤ 1000000) : Spec prog fid_ref20_Weight [.lit [isl w f]] H n (.int .i64 (wt w f : Nat)) H n := by
  have h1 := sp_Weight (H := H) (n := n) 1 1000000 (fun _ => w) (fun _ => f) (.inl rfl) (by omega) (by omega) fun _ _ => hw
  have h2 : wtm (fun _ => w) (fun _ => f) 1 = wt w f := by rw [wtm_succ]; show 0 + wt w f = _; omega
  rw [h2] at h1
  refine spec_arg (ys := [msg 1 (fun _ => w) fun _ => f]) rfl (fun K v j hj hv => ?_) h1
  rcases j with _ | j
  · exact vr_lit hv
  · simp at hj
set_option maxHeartbeats 8000000 in
theorem sp_Accept {H : Heap} {n : Nat} (e : Enc) (hB : e.Bnd) (h : Fi M) (hd : e.Des M) (hce : e.ce = 0) (p : Fp) (hT : p.T ≤ 600) : Spec prog fid_ref20_Accept [e.gv, p.gv] H n (.bool (decide (e.Acc M p))) H n := by
  generalize hR : decide (e.Acc M p) = R
  refine spec_ends hmix ok_ref20_Accept rfl fun hF => ?_
  show gw prog B_ref20_Accept _ (tl 124 _) H n
  have hr := hB.r
  have hq2 := qn_two M
  have hqo := hd.qo h
  have hok := Enc.ok hce
  have hr0 : 0 < e.r := by have := hok.2.1.1; omega
  have hw0 := hB.w 0 hr0
  have hmem := e.mem_le hB e.r (Nat.le_refl _)
  have hp := Enc.pow_tot h hd hce
  have hS1 : 1 ≤ qn M ^ e.ds e.r := Nat.pow_pos (by omega)
  have hI1 : 1 ≤ qn M ^ e.r := Nat.pow_pos (by omega)
  have u1 : ∀ x y b, b < n → upd (upd H n x) (n + 1) y b = H b := fun x y b hb => by rw [upd_ne _ _ (by omega), upd_ne _ _ (by omega)]
  have f1 : (n = n + 1) = False := eq_false (by omega)
  have f2 : n + 1 < n + 2 := by omega
  have f3 : n < n + 2 := by omega
  have rej : ∀ (E : Env) (H' : Heap) (n' : Nat), E 4 = .bool false → (∀ b, b < n → H' b = H b) → ¬ e.Acc M p → F_ref20_Accept.ends H n (.bool R) .ret (tl 124 E) H' n' := by
    intro E H' n' h4 ho hA
    refine fin_ret rfl (by decide) ?_ ho
    rw [h4]; exact fz_bool (hR.symm.trans (decide_eq_false hA)).symm
  simp -implicitDefEqProofs only [B_ref20_Accept, go_sem, Nat.reduceLT, Nat.reduceBEq, Nat.reduceAdd, Nat.reduceEqDiff, Nat.reduceLeDiff, Nat.reduceSub, Nat.reduceMul, upd_no, f1, f2, f3]
  refine mcall_of (.int _ _) (fun H1 n1 _ _ => sp_ref20_Steps e hB p.T p.l p.f (by omega)) ?_
  rw [hqo]
  by_cases hz : stE e.r p.l p.f (qn M : Nat) p.T = 0
  case neg =>
    simp -implicitDefEqProofs only [go_sem, Nat.reduceLT, Nat.reduceBEq, Nat.reduceAdd, Nat.reduceEqDiff, Nat.reduceLeDiff, Nat.reduceSub, Nat.reduceMul, hz]
    exact rej _ _ _ (by simp -implicitDefEqProofs only [go_sem, Nat.reduceLT, Nat.reduceBEq, Nat.reduceAdd, Nat.reduceEqDiff, Nat.reduceLeDiff, Nat.reduceSub, Nat.reduceMul]) (u1 _ _) fun hA => hz (stE_of hA.1.1)
  have hG := stE_ok hz
  simp -implicitDefEqProofs only [go_sem, Nat.reduceLT, Nat.reduceBEq, Nat.reduceAdd, Nat.reduceEqDiff, Nat.reduceLeDiff, Nat.reduceSub, Nat.reduceMul, hz, upd_no, f1, f2, f3]
  refine mcall_of (.int _ _) (fun H1 n1 _ _ => sp_Weight p.T 70 p.l p.f (.inl rfl) (by omega) (by omega) fun t ht => by rw [(hG t ht).1]; exact hr) ?_
  by_cases hw : wtm p.l p.f p.T = 0
  · have hw' : ((wtm p.l p.f p.T : Nat) : Int) = 0 := by omega
    simp -implicitDefEqProofs only [go_sem, Nat.reduceLT, Nat.reduceBEq, Nat.reduceAdd, Nat.reduceEqDiff, Nat.reduceLeDiff, Nat.reduceSub, Nat.reduceMul, hw']
    exact rej _ _ _ (by simp -implicitDefEqProofs only [go_sem, Nat.reduceLT, Nat.reduceBEq, Nat.reduceAdd, Nat.reduceEqDiff, Nat.reduceLeDiff, Nat.reduceSub, Nat.reduceMul]) (u1 _ _) fun hA => hA.1.2.1 hw
  have hw' : ¬ ((wtm p.l p.f p.T : Nat) : Int) = 0 := by omega
  simp -implicitDefEqProofs only [go_sem, Nat.reduceLT, Nat.reduceBEq, Nat.reduceAdd, Nat.reduceEqDiff, Nat.reduceLeDiff, Nat.reduceSub, Nat.reduceMul, hw', upd_no, f1, f2, f3]
  refine mcall_of (Pl.sl _ _ (pl_tab fun _ _ => pl_isl _ _)).nr (fun H1 n1 _ _ => sp_ref20_Terminate e hB p.T p.l p.f (by omega)) ?_
  have hz2 : stE e.r (tlen p.T e.r p.l) (tval p.T p.f) (qn M : Nat) (p.T + e.mem e.r) = 0 := stE_of fun t ht => by
    by_cases e1 : t < p.T
    · refine ⟨(if_pos e1).trans (hG t e1).1, fun i hi => ?_⟩
      rw [show tval p.T p.f t i = p.f t i from if_pos e1]; exact (hG t e1).2 i hi
    · refine ⟨if_neg e1, fun i hi => ?_⟩
      rw [show tval p.T p.f t i = 0 from if_neg e1]; omega
  simp -implicitDefEqProofs only [go_sem, Nat.reduceLT, Nat.reduceBEq, Nat.reduceAdd, Nat.reduceEqDiff, Nat.reduceLeDiff, Nat.reduceSub, Nat.reduceMul]
  refine mcall_of (e.oval_nr (M := M) _ _) (fun H1 n1 _ _ => sp_ref20_Encode e hB h hd hce (p.T + e.mem e.r) (tlen p.T e.r p.l) (tval p.T p.f) (by omega) hz2) ?_
  simp -implicitDefEqProofs only [go_sem, Nat.reduceLT, Nat.reduceBEq, Nat.reduceAdd, Nat.reduceEqDiff, Nat.reduceLeDiff, Nat.reduceSub, Nat.reduceMul]
  refine mcall_of (.int _ _) (fun H1 n1 _ _ => sp_Weight (p.T + e.mem e.r) 70 (fun _ => e.w 0) (e.yv M (tval p.T p.f)) (e.oval_rr _ _) (by omega) (by omega) fun _ _ => hw0) ?_
  by_cases hD : ((wtm (fun _ => e.w 0) (e.yv M (tval p.T p.f)) (p.T + e.mem e.r) : Nat) : Int) = p.D
  case neg =>
    simp -implicitDefEqProofs only [go_sem, Nat.reduceLT, Nat.reduceBEq, Nat.reduceAdd, Nat.reduceEqDiff, Nat.reduceLeDiff, Nat.reduceSub, Nat.reduceMul, upd_no, f1, f2, f3, hD]
    exact rej _ _ _ (by simp -implicitDefEqProofs only [go_sem, Nat.reduceLT, Nat.reduceBEq, Nat.reduceAdd, Nat.reduceEqDiff, Nat.reduceLeDiff, Nat.reduceSub, Nat.reduceMul]) (u1 _ _) fun hA => hD hA.1.2.2
  have hRc : e.Rch M p := ⟨hG, hw, hD⟩
  simp -implicitDefEqProofs only [go_sem, Nat.reduceLT, Nat.reduceBEq, Nat.reduceAdd, Nat.reduceEqDiff, Nat.reduceLeDiff, Nat.reduceSub, Nat.reduceMul, upd_no, f1, f2, f3, hD]
  refine mcall_of (.int _ _) (fun H1 n1 _ _ => sp_ref20_States e hB h hd hce) ?_
  generalize hII : qn M ^ e.r = I at *
  generalize hSS : qn M ^ e.ds e.r = S at *
  have hSI : S ≤ 65536 := by
    have : S * 1 ≤ S * I := Nat.mul_le_mul_left S hI1
    omega
  by_cases hnp : ((p.np : Nat) : Int) = ((S : Nat) : Int)
  case neg =>
    simp -implicitDefEqProofs only [go_sem, Nat.reduceLT, Nat.reduceBEq, Nat.reduceAdd, Nat.reduceEqDiff, Nat.reduceLeDiff, Nat.reduceSub, Nat.reduceMul, hnp]
    exact rej _ _ _ (by simp -implicitDefEqProofs only [go_sem, Nat.reduceLT, Nat.reduceBEq, Nat.reduceAdd, Nat.reduceEqDiff, Nat.reduceLeDiff, Nat.reduceSub, Nat.reduceMul]) (u1 _ _) fun hA => hnp (by rw [hA.2.1.1, hSS])
  have hnp' : p.np = S := by omega
  have z4 : (0 : Int).toNat = 0 := rfl
  have z5 : (0 : Int) ≤ 0 := Int.le_refl 0
  have z6 : (0 : Int) < (p.np : Int) := by omega
  have z7 : 0 < p.np := by omega
  by_cases hp0 : p.p 0 = 0
  case neg =>
    simp -implicitDefEqProofs only [go_sem, Nat.reduceLT, Nat.reduceBEq, Nat.reduceAdd, Nat.reduceEqDiff, Nat.reduceLeDiff, Nat.reduceSub, Nat.reduceMul, upd_no, f1, f2, f3, ← hnp, z4, z5, z6, z7, Nat.zero_mul, gat_tab, hp0]
    exact rej _ _ _ (by simp -implicitDefEqProofs only [go_sem, Nat.reduceLT, Nat.reduceBEq, Nat.reduceAdd, Nat.reduceEqDiff, Nat.reduceLeDiff, Nat.reduceSub, Nat.reduceMul]) (u1 _ _) fun hA => hp0 hA.2.1.2
  simp -implicitDefEqProofs only [go_sem, Nat.reduceLT, Nat.reduceBEq, Nat.reduceAdd, Nat.reduceEqDiff, Nat.reduceLeDiff, Nat.reduceSub, Nat.reduceMul, upd_no, f1, f2, f3, ← hnp, z4, z5, z6, z7, Nat.zero_mul, gat_tab, hp0]
  refine loop_rule (fun (s : Nat) E H' n' => n' = n + 2 ∧ H' n = some e.cs ∧ H' (n + 1) = some p.cs ∧ (∀ b, b < n → H' b = H b) ∧ E 2 = .ptr n 0 ∧ E 3 = .ptr (n + 1) 0 ∧ E 5 = .int .i64 (s : Nat) ∧ s ≤ p.np ∧ ∀ t, t < s → 0 ≤ p.p t ∧ p.p t ≤ 2147483648) (fun s => p.np - s) 0 ⟨rfl, by simp -implicitDefEqProofs only [go_sem, Nat.reduceLT, Nat.reduceBEq, Nat.reduceAdd, Nat.reduceEqDiff, Nat.reduceLeDiff, Nat.reduceSub, Nat.reduceMul, upd_no, f1], by simp -implicitDefEqProofs only [go_sem, Nat.reduceLT, Nat.reduceBEq, Nat.reduceAdd, Nat.reduceEqDiff, Nat.reduceLeDiff, Nat.reduceSub, Nat.reduceMul], u1 _ _, rfl, rfl, rfl, by omega, fun t ht => by omega⟩ ?_
  rintro s E H' n' ⟨rfl, c0, c1, ho, e2, e3, e5, hs, hrg⟩
  simp -implicitDefEqProofs only [go_sem, Nat.reduceLT, Nat.reduceBEq, Nat.reduceAdd, Nat.reduceEqDiff, Nat.reduceLeDiff, Nat.reduceSub, Nat.reduceMul, e3, e5, c1]
  refine c_split (fun hc => ?_) (fun hc => ?_)
  · have hsN : s < p.np := by omega
    have hws := wrap64 (x := (s : Int) + 1) (by omega)
    by_cases h1 : p.p s < 0
    · simp -implicitDefEqProofs only [go_sem, Nat.reduceLT, Nat.reduceBEq, Nat.reduceAdd, Nat.reduceEqDiff, Nat.reduceLeDiff, Nat.reduceSub, Nat.reduceMul, e3, e5, c1, hc, hsN, gat_tab, h1]
      exact rej _ _ _ (by simp -implicitDefEqProofs only [go_sem, Nat.reduceLT, Nat.reduceBEq, Nat.reduceAdd, Nat.reduceEqDiff, Nat.reduceLeDiff, Nat.reduceSub, Nat.reduceMul]) ho fun hA => by have := (hA.2.2.1 s hsN).1; omega
    by_cases h2 : 2147483648 < p.p s
    · simp -implicitDefEqProofs only [go_sem, Nat.reduceLT, Nat.reduceBEq, Nat.reduceAdd, Nat.reduceEqDiff, Nat.reduceLeDiff, Nat.reduceSub, Nat.reduceMul, e3, e5, c1, hc, hsN, gat_tab, h1, h2]
      exact rej _ _ _ (by simp -implicitDefEqProofs only [go_sem, Nat.reduceLT, Nat.reduceBEq, Nat.reduceAdd, Nat.reduceEqDiff, Nat.reduceLeDiff, Nat.reduceSub, Nat.reduceMul]) ho fun hA => by have := (hA.2.2.1 s hsN).2; omega
    simp -implicitDefEqProofs only [go_sem, Nat.reduceLT, Nat.reduceBEq, Nat.reduceAdd, Nat.reduceEqDiff, Nat.reduceLeDiff, Nat.reduceSub, Nat.reduceMul, e3, e5, c1, hc, hsN, gat_tab, h1, h2, hws]
    refine l_n ⟨s + 1, by omega, rfl, c0, c1, ho, by simp -implicitDefEqProofs only [go_sem, Nat.reduceLT, Nat.reduceBEq, Nat.reduceAdd, Nat.reduceEqDiff, Nat.reduceLeDiff, Nat.reduceSub, Nat.reduceMul, e2], by simp -implicitDefEqProofs only [go_sem, Nat.reduceLT, Nat.reduceBEq, Nat.reduceAdd, Nat.reduceEqDiff, Nat.reduceLeDiff, Nat.reduceSub, Nat.reduceMul, e3], by simp -implicitDefEqProofs only [go_sem, Nat.reduceLT, Nat.reduceBEq, Nat.reduceAdd, Nat.reduceEqDiff, Nat.reduceLeDiff, Nat.reduceSub, Nat.reduceMul]; rfl, by omega, fun t ht => ?_⟩
    by_cases et : t = s
    · subst et; omega
    · exact hrg t (by omega)
  have : s = p.np := by omega
  subst this
  simp -implicitDefEqProofs only [go_sem, Nat.reduceLT, Nat.reduceBEq, Nat.reduceAdd, Nat.reduceEqDiff, Nat.reduceLeDiff, Nat.reduceSub, Nat.reduceMul]
  refine loop_rule (fun (s : Nat) E H' n' => n' = n + 2 ∧ H' n = some e.cs ∧ H' (n + 1) = some p.cs ∧ (∀ b, b < n → H' b = H b) ∧ E 2 = .ptr n 0 ∧ E 3 = .ptr (n + 1) 0 ∧ E 6 = .int .i64 (s : Nat) ∧ s ≤ p.np ∧ ∀ a, a < s * I → ¬ e.Bad M p a) (fun s => p.np - s) 0 ⟨rfl, c0, c1, ho, by simp -implicitDefEqProofs only [go_sem, Nat.reduceLT, Nat.reduceBEq, Nat.reduceAdd, Nat.reduceEqDiff, Nat.reduceLeDiff, Nat.reduceSub, Nat.reduceMul, e2], by simp -implicitDefEqProofs only [go_sem, Nat.reduceLT, Nat.reduceBEq, Nat.reduceAdd, Nat.reduceEqDiff, Nat.reduceLeDiff, Nat.reduceSub, Nat.reduceMul, e3], by simp -implicitDefEqProofs only [go_sem, Nat.reduceLT, Nat.reduceBEq, Nat.reduceAdd, Nat.reduceEqDiff, Nat.reduceLeDiff, Nat.reduceSub, Nat.reduceMul]; rfl, by omega, fun t ht => by omega⟩ ?_
  clear hs hc e5 e3 e2 ho c1 c0 E H'
  rintro s E H' n' ⟨rfl, c0, c1, ho, e2, e3, e6, hs, hbad⟩
  simp -implicitDefEqProofs only [go_sem, Nat.reduceLT, Nat.reduceBEq, Nat.reduceAdd, Nat.reduceEqDiff, Nat.reduceLeDiff, Nat.reduceSub, Nat.reduceMul, e3, e6, c1]
  refine c_split (fun hc => ?_) (fun hc => ?_)
  · have hsN : s < p.np := by omega
    have hws := wrap64 (x := (s : Int) + 1) (by omega)
    simp -implicitDefEqProofs only [go_sem, Nat.reduceLT, Nat.reduceBEq, Nat.reduceAdd, Nat.reduceEqDiff, Nat.reduceLeDiff, Nat.reduceSub, Nat.reduceMul]
    refine loop_rule (fun (x : Nat) E H' n' => n' = n + 2 ∧ H' n = some e.cs ∧ H' (n + 1) = some p.cs ∧ (∀ b, b < n → H' b = H b) ∧ E 2 = .ptr n 0 ∧ E 3 = .ptr (n + 1) 0 ∧ E 6 = .int .i64 (s : Nat) ∧ E 7 = .int .i64 (x : Nat) ∧ x ≤ I ∧ ∀ a, a < s * I + x → ¬ e.Bad M p a) (fun x => I - x) 0 ⟨rfl, c0, c1, ho, by simp -implicitDefEqProofs only [go_sem, Nat.reduceLT, Nat.reduceBEq, Nat.reduceAdd, Nat.reduceEqDiff, Nat.reduceLeDiff, Nat.reduceSub, Nat.reduceMul, e2], by simp -implicitDefEqProofs only [go_sem, Nat.reduceLT, Nat.reduceBEq, Nat.reduceAdd, Nat.reduceEqDiff, Nat.reduceLeDiff, Nat.reduceSub, Nat.reduceMul, e3], by simp -implicitDefEqProofs only [go_sem, Nat.reduceLT, Nat.reduceBEq, Nat.reduceAdd, Nat.reduceEqDiff, Nat.reduceLeDiff, Nat.reduceSub, Nat.reduceMul, e6], by simp -implicitDefEqProofs only [go_sem, Nat.reduceLT, Nat.reduceBEq, Nat.reduceAdd, Nat.reduceEqDiff, Nat.reduceLeDiff, Nat.reduceSub, Nat.reduceMul]; rfl, by omega, hbad⟩ ?_
    clear hbad e6 e3 e2 ho c1 c0 E H'
    rintro x E H' n' ⟨rfl, c0, c1, ho, e2, e3, e6, e7, hx, hbad⟩
    simp -implicitDefEqProofs only [go_sem, Nat.reduceLT, Nat.reduceBEq, Nat.reduceAdd, Nat.reduceEqDiff, Nat.reduceLeDiff, Nat.reduceSub, Nat.reduceMul, e2, e7, c0]
    refine call_of (sp_ref20_Inputs e hB h hd hce) ?_
    rw [hII]
    simp -implicitDefEqProofs only [go_sem, Nat.reduceLT, Nat.reduceBEq, Nat.reduceAdd, Nat.reduceEqDiff, Nat.reduceLeDiff, Nat.reduceSub, Nat.reduceMul]
    refine c_split (fun hc' => ?_) (fun hc' => ?_)
    · have hxN : x < I := by omega
      have hIS : I ≤ 65536 := by
        have : 1 * I ≤ S * I := Nat.mul_le_mul_right I hS1
        omega
      have hwx := wrap64 (x := (x : Int) + 1) (by omega)
      have hni := Enc.nx_in (e := e) (st := ((s : Nat) : Int)) h (f := inp M x) fun i _ => inp_in x i
      rw [hSS] at hni
      have hnxa : e.nxa M (s * I + x) = e.nx (qn M : Nat) ((s : Nat) : Int) (inp M x) e.r 0 := by rw [Enc.nxa, hII, div_at hxN, mod_at hxN]
      have howa : e.owa M (s * I + x) = wt (e.w 0) (e.orw M s x) := by rw [Enc.owa, hII, div_at hxN, mod_at hxN]
      have sNx : ∀ (H : Heap) (n : Nat), Spec prog fid_ref20_Next [e.gv, .int .i64 (s : Nat), isl e.r (inp M x)] H n (.tup [.int .i64 (e.nx (qn M : Nat) ((s : Nat) : Int) (inp M x) e.r 0), isl (e.w 0) (e.orw M s x)]) H n := fun H n => sp_ref20_Next e hB h hd hce ((s : Nat) : Int) (inp M x) (by omega) (by omega) fun i _ => inp_in x i
      generalize e.nx (qn M : Nat) ((s : Nat) : Int) (inp M x) e.r 0 = nv at *
      obtain ⟨nx, hnx⟩ : ∃ nx : Nat, nv = (nx : Int) := ⟨nv.toNat, by omega⟩
      subst hnx
      have hnxl : nx < p.np := by omega
      have hnxI : ((nx : Nat) : Int) < (p.np : Int) := by omega
      have hnx0 := Int.natCast_nonneg nx
      have hrn := hrg nx hnxl
      have hwt := wt_le (e.w 0) (e.orw M s x)
      have hwl := wrap64 (x := ((wt (e.w 0) (e.orw M s x) : Nat) : Int) + p.p nx) (by omega)
      have hB1 : e.Bad M p (s * I + x) ↔ (0 < s ∧ ((wt (e.w 0) (e.orw M s x) : Nat) : Int) + p.p nx < p.p s) ∨ (s = 0 ∧ 0 < x ∧ ((wt (e.w 0) (e.orw M s x) : Nat) : Int) + p.p nx < p.D) := by
        unfold Enc.Bad; rw [hII, hnxa, howa, div_at hxN]
        refine or_congr Iff.rfl ⟨fun hh => ⟨hh.1, by have h1 := hh.1; subst h1; have := hh.2.1; omega, hh.2.2⟩, fun hh => ⟨hh.1, by have h1 := hh.1; subst h1; have := hh.2.1; omega, hh.2.2⟩⟩
      have next : ¬ e.Bad M p (s * I + x) → ∀ t, t < s * I + (x + 1) → ¬ e.Bad M p t := fun hb t ht => by
        by_cases et : t = s * I + x
        · subst et; exact hb
        · exact hbad t (by omega)
      have hlt : s * I + x < S * I := by
        have : (s + 1) * I ≤ S * I := Nat.mul_le_mul_right I (by omega)
        rw [Nat.succ_mul] at this; omega
      have accn : e.Bad M p (s * I + x) → ¬ e.Acc M p := fun hb hA => hA.2.2.2 (s * I + x) (by rw [hSS, hII]; exact hlt) hb
      simp -implicitDefEqProofs only [go_sem, Nat.reduceLT, Nat.reduceBEq, Nat.reduceAdd, Nat.reduceEqDiff, Nat.reduceLeDiff, Nat.reduceSub, Nat.reduceMul, e2, e6, e7, c0, f3]
      refine mcall_of (pl_isl _ _).nr (fun H1 n1 _ _ => sp_ref20_Input e hB h hd hr0 x (by omega)) ?_
      simp -implicitDefEqProofs only [go_sem, Nat.reduceLT, Nat.reduceBEq, Nat.reduceAdd, Nat.reduceEqDiff, Nat.reduceLeDiff, Nat.reduceSub, Nat.reduceMul]
      refine mcall_of (Pl.nr (.tup _ fun j hj => by
        rcases j with _ | _ | j
        · exact .int _ _
        · exact pl_isl _ _
        · simp at hj; omega)) (fun H1 n1 _ _ => sNx H1 n1) ?_
      simp -implicitDefEqProofs only [go_sem, Nat.reduceLT, Nat.reduceBEq, Nat.reduceAdd, Nat.reduceEqDiff, Nat.reduceLeDiff, Nat.reduceSub, Nat.reduceMul]
      refine mcall_of (.int _ _) (fun H1 n1 _ _ => sp_Weight1 (e.w 0) (e.orw M s x) (by omega)) ?_
      by_cases h1 : (0 : Int) < ((s : Nat) : Int)
      · by_cases h2 : ((wt (e.w 0) (e.orw M s x) : Nat) : Int) + p.p nx < p.p s
        · simp -implicitDefEqProofs only [go_sem, Nat.reduceLT, Nat.reduceBEq, Nat.reduceAdd, Nat.reduceEqDiff, Nat.reduceLeDiff, Nat.reduceSub, Nat.reduceMul, e3, e6, e7, c1, f2, hnx0, hnxI, hnxl, gat_tab, hwl, hc, hsN, h1, h2]
          exact rej _ _ _ (by simp -implicitDefEqProofs only [go_sem, Nat.reduceLT, Nat.reduceBEq, Nat.reduceAdd, Nat.reduceEqDiff, Nat.reduceLeDiff, Nat.reduceSub, Nat.reduceMul]) ho (accn (hB1.2 (.inl ⟨by omega, h2⟩)))
        · have hz : ¬ ((s : Nat) : Int) = 0 := by omega
          simp -implicitDefEqProofs only [go_sem, Nat.reduceLT, Nat.reduceBEq, Nat.reduceAdd, Nat.reduceEqDiff, Nat.reduceLeDiff, Nat.reduceSub, Nat.reduceMul, e3, e6, e7, c1, f2, hnx0, hnxI, hnxl, gat_tab, hwl, hc, hsN, h1, h2, hz, hwx]
          exact l_n ⟨x + 1, by omega, rfl, c0, c1, ho, by simp -implicitDefEqProofs only [go_sem, Nat.reduceLT, Nat.reduceBEq, Nat.reduceAdd, Nat.reduceEqDiff, Nat.reduceLeDiff, Nat.reduceSub, Nat.reduceMul, e2], by simp -implicitDefEqProofs only [go_sem, Nat.reduceLT, Nat.reduceBEq, Nat.reduceAdd, Nat.reduceEqDiff, Nat.reduceLeDiff, Nat.reduceSub, Nat.reduceMul, e3], by simp -implicitDefEqProofs only [go_sem, Nat.reduceLT, Nat.reduceBEq, Nat.reduceAdd, Nat.reduceEqDiff, Nat.reduceLeDiff, Nat.reduceSub, Nat.reduceMul, e6], by simp -implicitDefEqProofs only [go_sem, Nat.reduceLT, Nat.reduceBEq, Nat.reduceAdd, Nat.reduceEqDiff, Nat.reduceLeDiff, Nat.reduceSub, Nat.reduceMul]; rfl, by omega, next fun hb => by rcases hB1.1 hb with hb | hb <;> omega⟩
      · have hz : ((s : Nat) : Int) = 0 := by omega
        by_cases h2 : (0 : Int) < ((x : Nat) : Int)
        · by_cases h3 : ((wt (e.w 0) (e.orw M s x) : Nat) : Int) + p.p nx < p.D
          · simp -implicitDefEqProofs only [go_sem, Nat.reduceLT, Nat.reduceBEq, Nat.reduceAdd, Nat.reduceEqDiff, Nat.reduceLeDiff, Nat.reduceSub, Nat.reduceMul, e3, e6, e7, c1, f2, hnx0, hnxI, hnxl, gat_tab, hwl, hc, hsN, h1, h2, h3, hz, Int.lt_irrefl]
            exact rej _ _ _ (by simp -implicitDefEqProofs only [go_sem, Nat.reduceLT, Nat.reduceBEq, Nat.reduceAdd, Nat.reduceEqDiff, Nat.reduceLeDiff, Nat.reduceSub, Nat.reduceMul]) ho (accn (hB1.2 (.inr ⟨by omega, by omega, h3⟩)))
          · simp -implicitDefEqProofs only [go_sem, Nat.reduceLT, Nat.reduceBEq, Nat.reduceAdd, Nat.reduceEqDiff, Nat.reduceLeDiff, Nat.reduceSub, Nat.reduceMul, e3, e6, e7, c1, f2, hnx0, hnxI, hnxl, gat_tab, hwl, hc, hsN, h1, h2, h3, hz, Int.lt_irrefl, hwx]
            exact l_n ⟨x + 1, by omega, rfl, c0, c1, ho, by simp -implicitDefEqProofs only [go_sem, Nat.reduceLT, Nat.reduceBEq, Nat.reduceAdd, Nat.reduceEqDiff, Nat.reduceLeDiff, Nat.reduceSub, Nat.reduceMul, e2], by simp -implicitDefEqProofs only [go_sem, Nat.reduceLT, Nat.reduceBEq, Nat.reduceAdd, Nat.reduceEqDiff, Nat.reduceLeDiff, Nat.reduceSub, Nat.reduceMul, e3], by simp -implicitDefEqProofs only [go_sem, Nat.reduceLT, Nat.reduceBEq, Nat.reduceAdd, Nat.reduceEqDiff, Nat.reduceLeDiff, Nat.reduceSub, Nat.reduceMul, e6, hz], by simp -implicitDefEqProofs only [go_sem, Nat.reduceLT, Nat.reduceBEq, Nat.reduceAdd, Nat.reduceEqDiff, Nat.reduceLeDiff, Nat.reduceSub, Nat.reduceMul]; rfl, by omega, next fun hb => by rcases hB1.1 hb with hb | hb <;> omega⟩
        · simp -implicitDefEqProofs only [go_sem, Nat.reduceLT, Nat.reduceBEq, Nat.reduceAdd, Nat.reduceEqDiff, Nat.reduceLeDiff, Nat.reduceSub, Nat.reduceMul, e3, e6, e7, c1, f2, hnx0, hnxI, hnxl, gat_tab, hwl, hc, hsN, h1, h2, hz, Int.lt_irrefl, hwx]
          exact l_n ⟨x + 1, by omega, rfl, c0, c1, ho, by simp -implicitDefEqProofs only [go_sem, Nat.reduceLT, Nat.reduceBEq, Nat.reduceAdd, Nat.reduceEqDiff, Nat.reduceLeDiff, Nat.reduceSub, Nat.reduceMul, e2], by simp -implicitDefEqProofs only [go_sem, Nat.reduceLT, Nat.reduceBEq, Nat.reduceAdd, Nat.reduceEqDiff, Nat.reduceLeDiff, Nat.reduceSub, Nat.reduceMul, e3], by simp -implicitDefEqProofs only [go_sem, Nat.reduceLT, Nat.reduceBEq, Nat.reduceAdd, Nat.reduceEqDiff, Nat.reduceLeDiff, Nat.reduceSub, Nat.reduceMul, e6, hz], by simp -implicitDefEqProofs only [go_sem, Nat.reduceLT, Nat.reduceBEq, Nat.reduceAdd, Nat.reduceEqDiff, Nat.reduceLeDiff, Nat.reduceSub, Nat.reduceMul]; rfl, by omega, next fun hb => by rcases hB1.1 hb with hb | hb <;> omega⟩
    · have : x = I := by omega
      subst this
      simp -implicitDefEqProofs only [go_sem, Nat.reduceLT, Nat.reduceBEq, Nat.reduceAdd, Nat.reduceEqDiff, Nat.reduceLeDiff, Nat.reduceSub, Nat.reduceMul, e6, hws]
      exact l_n ⟨s + 1, by omega, rfl, c0, c1, ho, by simp -implicitDefEqProofs only [go_sem, Nat.reduceLT, Nat.reduceBEq, Nat.reduceAdd, Nat.reduceEqDiff, Nat.reduceLeDiff, Nat.reduceSub, Nat.reduceMul, e2], by simp -implicitDefEqProofs only [go_sem, Nat.reduceLT, Nat.reduceBEq, Nat.reduceAdd, Nat.reduceEqDiff, Nat.reduceLeDiff, Nat.reduceSub, Nat.reduceMul, e3], by simp -implicitDefEqProofs only [go_sem, Nat.reduceLT, Nat.reduceBEq, Nat.reduceAdd, Nat.reduceEqDiff, Nat.reduceLeDiff, Nat.reduceSub, Nat.reduceMul]; rfl, by omega, by rw [Nat.succ_mul]; exact hbad⟩
  · have : s = p.np := by omega
    subst this
    simp -implicitDefEqProofs only [go_sem, Nat.reduceLT, Nat.reduceBEq, Nat.reduceAdd, Nat.reduceEqDiff, Nat.reduceLeDiff, Nat.reduceSub, Nat.reduceMul]
    refine fin_ret rfl (by decide) ?_ ho
    simp -implicitDefEqProofs only [go_sem, Nat.reduceLT, Nat.reduceBEq, Nat.reduceAdd, Nat.reduceEqDiff, Nat.reduceLeDiff, Nat.reduceSub, Nat.reduceMul]
    refine fz_bool (Eq.trans (decide_eq_true ?_).symm hR)
    exact ⟨hRc, ⟨by rw [hSS]; exact hnp', hp0⟩, hrg, fun t ht => hbad t (by rw [hSS, hII, ← hnp'] at ht; exact ht)⟩
end
end Go.Proofs.Ytdpibcniodhinaa.Gh
/- The statement ConvProofs: the program's walk over a path accepts what the reference accepts. -/
namespace Go.Proofs.Ytdpibcniodhinaa.Gh
open Go Go.RowKit
open Alg (CR Ps Dg Zm Mn El Cg sm pw Irr Prm)
set_option linter.unusedVariables false
set_option linter.unusedSimpArgs false

end Go.Proofs.Ytdpibcniodhinaa.Gh
/- A proof bounds the weight of every message: the plain law of ConvBounds; the first example's numbers. -/
namespace Go.Proofs.Ytdpibcniodhinaa.Gh
open Go Go.RowKit
open Alg (CR Ps Dg Zm Mn El Cg sm pw Irr Prm)
set_option linter.unusedVariables false
set_option linter.unusedSimpArgs false

section
variable {k : Nat} {M : Mn k}
theorem wt_cong {l : Nat} {f g : Nat → Int} (h : ∀ i, i < l → f i = g i) : wt l f = wt l g := by
  induction l with
  | zero => rfl
  | succ l ih => rw [wt_succ, wt_succ, ih fun i hi => h i (by omega), h l (by omega)]
/-- the number of an input -/
def inum (M : Mn k) (r : Nat) (f : Nat → Int) : Nat := (vs (qn M : Nat) r f).toNat
theorem inp_zero (i : Nat) : inp M 0 i = 0 := dg_of_zero _ _
end
end Go.Proofs.Ytdpibcniodhinaa.Gh
/- The first example's numbers; the statement ConvBounds. -/
namespace Go.Proofs.Ytdpibcniodhinaa.Gh
open Go Go.RowKit
open Alg (CR Ps Dg Zm Mn El Cg sm pw Irr Prm)
set_option linter.unusedVariables false
set_option linter.unusedSimpArgs false

/-- the example's proof, at a distance -/
def p4 (D : Int) : Fp := ⟨D, 1, fun _ => 1, fun _ _ => 1, 4, fun s => if s = 0 then 0 else if s = 1 then 3 else 2⟩
section
variable {k : Nat} {M : Mn k}
def o4 (st x : Int) (j : Nat) : Int := if j = 0 then (x + dg 2 st 1) % 2 else (x + dg 2 st 0 + dg 2 st 1) % 2
end
end Go.Proofs.Ytdpibcniodhinaa.Gh
/- Least distances to the state 0 in a graph with weights: the plain laws of the free distance. -/
namespace Go.Proofs.Ytdpibcniodhinaa.Gh
set_option linter.unusedVariables false
set_option linter.unusedSimpArgs false

/-- a graph: states, inputs, next states and weights of the steps s * I + i -/
structure Gf where
  S : Nat
  I : Nat
  nx : Nat → Nat
  w : Nat → Nat
  hS : 0 < S
  hI : 2 ≤ I
  hn : ∀ a, a < S * I → nx a < S
def Gf.stp (G : Gf) (b : Nat → Nat) (s : Nat) : Nat := if s = 0 then 0 else G.nx (s * G.I + b s)
def Gf.walk (G : Gf) (b : Nat → Nat) : Nat → Nat → Nat
  | 0, s => s
  | k + 1, s => G.walk b k (G.stp b s)
theorem Gf.at_lt (G : Gf) {s i : Nat} (hs : s < G.S) (hi : i < G.I) : s * G.I + i < G.S * G.I := by
  have : (s + 1) * G.I ≤ G.S * G.I := Nat.mul_le_mul_right _ (by omega)
  rw [Nat.succ_mul] at this; omega
theorem Gf.stp_lt (G : Gf) {b : Nat → Nat} (hb : ∀ s, s < G.S → b s < G.I) {s : Nat} (hs : s < G.S) : G.stp b s < G.S := by
  unfold stp
  by_cases h : s = 0
  · rw [if_pos h]; exact G.hS
  · rw [if_neg h]; exact G.hn _ (G.at_lt hs (hb s hs))
theorem Gf.stp_zero (G : Gf) (b : Nat → Nat) : G.stp b 0 = 0 := if_pos rfl
theorem Gf.walk_zero (G : Gf) (b : Nat → Nat) : ∀ k, G.walk b k 0 = 0 := by
  intro k
  induction k with
  | zero => rfl
  | succ k ih => rw [walk, stp_zero, ih]
theorem Gf.walk_more (G : Gf) (b : Nat → Nat) : ∀ k s, G.walk b k s = 0 → G.walk b (k + 1) s = 0 := by
  intro k
  induction k with
  | zero => intro s h; rw [walk] at h; subst h; exact G.walk_zero b _
  | succ k ih => intro s h; rw [walk] at h; rw [walk]; exact ih _ h
theorem Gf.walk_le (G : Gf) (b : Nat → Nat) {k m s : Nat} (h : k ≤ m) (hk : G.walk b k s = 0) : G.walk b m s = 0 := by
  obtain ⟨d, rfl⟩ : ∃ d, m = k + d := ⟨m - k, by omega⟩
  clear h
  induction d with
  | zero => exact hk
  | succ d ih => exact G.walk_more b _ s ih
theorem sumn_pt {f g : Nat → Nat} : ∀ n, (∀ i, i < n → f i ≤ g i) → sumn f n ≤ sumn g n := by
  intro n
  induction n with
  | zero => intro _; exact Nat.le_refl _
  | succ n ih => intro h; have := ih fun i hi => h i (by omega); have := h n (by omega); rw [sumn, sumn]; omega
theorem sumn_same {f g : Nat → Nat} : ∀ n, (∀ i, i < n → f i ≤ g i) → sumn f n = sumn g n → ∀ i, i < n → f i = g i := by
  intro n
  induction n with
  | zero => intro _ _ i hi; omega
  | succ n ih =>
    intro h he i hi
    have h1 := sumn_pt n fun i hi => h i (by omega)
    have h2 := h n (by omega)
    rw [sumn, sumn] at he
    by_cases e : i = n
    · subst e; omega
    · exact ih (fun i hi => h i (by omega)) (by omega) i (by omega)
/-- a walk that ends does so within as many steps as there are states -/
theorem Gf.short (G : Gf) {b : Nat → Nat} (hb : ∀ s, s < G.S → b s < G.I) : ∀ k s, s < G.S → G.walk b k s = 0 → G.walk b G.S s = 0 := by
  let c : Nat → Nat → Nat := fun j s => if G.walk b j s = 0 then 1 else 0
  have hc1 : ∀ j s, c j s ≤ 1 := fun j s => by show (if _ then 1 else 0) ≤ 1; split <;> omega
  have hc2 : ∀ j s, c j s ≤ c (j + 1) s := fun j s => by
    show (if _ then 1 else 0) ≤ (if _ then 1 else 0)
    by_cases h : G.walk b j s = 0
    · rw [if_pos h, if_pos (G.walk_more b j s h)]; exact Nat.le_refl _
    · rw [if_neg h]; exact Nat.zero_le _
  have hle : ∀ j, sumn (c j) G.S ≤ G.S := fun j => by
    have := sumn_le1 (c := 1) (f := c j) G.S fun i _ => hc1 j i
    omega
  have hex : ∃ j, j ≤ G.S ∧ sumn (c j) G.S = sumn (c (j + 1)) G.S := by
    apply Classical.byContradiction
    intro hne
    have grow : ∀ j, j ≤ G.S + 1 → j ≤ sumn (c j) G.S := by
      intro j
      induction j with
      | zero => intro _; exact Nat.zero_le _
      | succ j ih =>
        intro hj
        have h1 := ih (by omega)
        have h2 := sumn_pt G.S fun i _ => hc2 j i
        have h3 : sumn (c j) G.S ≠ sumn (c (j + 1)) G.S := fun h => hne ⟨j, by omega, h⟩
        omega
    have h1 := grow (G.S + 1) (Nat.le_refl _)
    have h2 := hle (G.S + 1)
    omega
  obtain ⟨j, hj, he⟩ := hex
  have same : ∀ s, s < G.S → G.walk b (j + 1) s = 0 → G.walk b j s = 0 := fun s hs h => by
    have h1 := sumn_same G.S (fun i _ => hc2 j i) he s hs
    apply Classical.byContradiction
    intro hn
    have h2 : c j s = 0 := if_neg hn
    have h3 : c (j + 1) s = 1 := if_pos h
    omega
  have down : ∀ d s, s < G.S → G.walk b (j + d) s = 0 → G.walk b j s = 0 := by
    intro d
    induction d with
    | zero => intro s _ h; exact h
    | succ d ih =>
      intro s hs h
      have h1 : G.walk b (j + d) (G.stp b s) = 0 := h
      have h2 := ih _ (G.stp_lt hb hs) h1
      exact same s hs h2
  intro k s hs hk
  exact G.walk_le b hj (down k s hs (G.walk_le b (by omega) hk))
/-- potentials with their best steps, while they sink -/
structure Gf.Bf (G : Gf) (pot : Nat → Int) (b : Nat → Nat) : Prop where
  p0 : pot 0 = 0
  rg : ∀ s, s < G.S → 0 ≤ pot s ∧ pot s ≤ 2147483648
  bi : ∀ s, s < G.S → b s < G.I
  st : ∀ s, 0 < s → s < G.S → pot s < 2147483648 → (G.w (s * G.I + b s) : Int) + pot (G.nx (s * G.I + b s)) ≤ pot s ∧ ∃ k, G.walk b k s = 0
theorem Gf.walk_up (G : Gf) {pot : Nat → Int} {b : Nat → Nat} (hB : G.Bf pot b) {s i : Nat} : ∀ k u, u < G.S → pot u < pot s → pot s ≤ 2147483648 → G.walk b k u = 0 → G.walk (upf b s i) k u = 0 := by
  intro k
  induction k with
  | zero => intro u _ _ _ h; exact h
  | succ k ih =>
    intro u hu hlt hs h
    by_cases h0 : u = 0
    · subst h0; exact G.walk_zero _ _
    have hus : u ≠ s := fun e => by subst e; omega
    have e1 : G.stp (upf b s i) u = G.stp b u := by unfold stp; rw [upf_ne _ _ hus]
    rw [walk] at h ⊢
    rw [e1]
    have h2 := (hB.st u (by omega) hu (by omega)).1
    have h3 : G.stp b u = G.nx (u * G.I + b u) := if_neg h0
    exact ih _ (G.stp_lt hB.bi hu) (by rw [h3]; omega) hs h
theorem Gf.Bf.relax {G : Gf} {pot : Nat → Int} {b : Nat → Nat} (hB : G.Bf pot b) {s i : Nat} (h0 : 0 < s) (hs : s < G.S) (hi : i < G.I) {v : Int} (hv : v = (G.w (s * G.I + i) : Int) + pot (G.nx (s * G.I + i))) (hlt : v < pot s) : G.Bf (upf pot s v) (upf b s i) := by
  have ht := G.hn _ (G.at_lt hs hi)
  have hrt := hB.rg _ ht
  have hrs := hB.rg s hs
  have hts : G.nx (s * G.I + i) ≠ s := fun e => by rw [e] at hv; omega
  -- the next state still ends
  have hend : ∃ k, G.walk (upf b s i) k (G.nx (s * G.I + i)) = 0 := by
    by_cases e0 : G.nx (s * G.I + i) = 0
    · exact ⟨0, e0⟩
    obtain ⟨k, hk⟩ := (hB.st _ (by omega) ht (by omega)).2
    exact ⟨k, G.walk_up hB k _ ht (by omega) hrs.2 hk⟩
  have hends : ∃ k, G.walk (upf b s i) k s = 0 := by
    obtain ⟨k, hk⟩ := hend
    refine ⟨k + 1, ?_⟩
    rw [Gf.walk]
    have : G.stp (upf b s i) s = G.nx (s * G.I + i) := by unfold Gf.stp; rw [if_neg (by omega), upf_same]
    rw [this]; exact hk
  have hany : ∀ k u, G.walk b k u = 0 → ∃ k', G.walk (upf b s i) k' u = 0 := by
    intro k
    induction k with
    | zero => intro u h; exact ⟨0, h⟩
    | succ k ih =>
      intro u h
      by_cases e : u = s
      · subst e; exact hends
      · have e1 : G.stp (upf b s i) u = G.stp b u := by unfold Gf.stp; rw [upf_ne _ _ e]
        obtain ⟨k', hk'⟩ := ih _ h
        exact ⟨k' + 1, by rw [Gf.walk, e1]; exact hk'⟩
  have hple : ∀ u, upf pot s v u ≤ pot u := fun u => by
    by_cases e : u = s
    · subst e; rw [upf_same]; omega
    · rw [upf_ne _ _ e]; exact Int.le_refl _
  refine ⟨by rw [upf_ne _ _ (by omega)]; exact hB.p0, fun u hu => ?_, fun u hu => ?_, fun u hu0 hu hlu => ?_⟩
  · by_cases e : u = s
    · subst e; rw [upf_same]; omega
    · rw [upf_ne _ _ e]; exact hB.rg u hu
  · by_cases e : u = s
    · subst e; rw [upf_same]; exact hi
    · rw [upf_ne _ _ e]; exact hB.bi u hu
  · by_cases e : u = s
    · subst e
      refine ⟨?_, hends⟩
      rw [upf_same, upf_same, upf_ne _ _ hts]; omega
    · rw [upf_ne _ _ e] at hlu
      obtain ⟨h1, k, h2⟩ := hB.st u hu0 hu hlu
      refine ⟨?_, hany k u h2⟩
      rw [upf_ne _ _ e, upf_ne _ _ e]
      have := hple (G.nx (u * G.I + b u))
      omega
/-- no step lowers a potential -/
def Gf.Fx (G : Gf) (pot : Nat → Int) : Prop := ∀ s, 0 < s → s < G.S → ∀ i, i < G.I → pot s ≤ (G.w (s * G.I + i) : Int) + pot (G.nx (s * G.I + i))
theorem Gf.low (G : Gf) {pot : Nat → Int} (h0 : pot 0 = 0) (hF : G.Fx pot) {W : Nat} (hW : ∀ a, a < G.S * G.I → G.w a ≤ W) : ∀ k s, s < G.S → G.walk (fun _ => 0) k s = 0 → pot s ≤ ((W * k : Nat) : Int) := by
  intro k
  induction k with
  | zero => intro s _ h; rw [walk] at h; subst h; rw [h0]; omega
  | succ k ih =>
    intro s hs h
    by_cases e : s = 0
    · subst e; rw [h0]; omega
    have hI := G.hI
    rw [walk] at h
    have h1 := ih _ (G.stp_lt (fun _ _ => by omega) hs) h
    have h2 := hF s (by omega) hs 0 (by omega)
    have h3 : G.stp (fun _ => 0) s = G.nx (s * G.I + 0) := if_neg e
    have h4 := hW _ (G.at_lt hs (i := 0) (by omega))
    rw [h3] at h1
    rw [Nat.mul_succ]
    omega
/-- the states along the best steps from 0 -/
def Gf.sq (G : Gf) (b : Nat → Nat) : Nat → Nat
  | 0 => 0
  | j + 1 => G.nx (G.sq b j * G.I + b (G.sq b j))
theorem Gf.sq_lt (G : Gf) {b : Nat → Nat} (hb : ∀ s, s < G.S → b s < G.I) : ∀ j, G.sq b j < G.S := by
  intro j
  induction j with
  | zero => exact G.hS
  | succ j ih => exact G.hn _ (G.at_lt ih (hb _ ih))
theorem Gf.back (G : Gf) {b : Nat → Nat} : ∀ k j, 0 < j → (∀ i, 0 < i → i < j → G.sq b i ≠ 0) → G.walk b k (G.sq b j) = 0 → ∃ T, j ≤ T ∧ T ≤ j + k ∧ G.sq b T = 0 ∧ ∀ i, 0 < i → i < T → G.sq b i ≠ 0 := by
  intro k
  induction k with
  | zero => intro j hj hi h; exact ⟨j, by omega, by omega, h, hi⟩
  | succ k ih =>
    intro j hj hi h
    by_cases e : G.sq b j = 0
    · exact ⟨j, by omega, by omega, e, hi⟩
    · rw [walk] at h
      have h1 : G.stp b (G.sq b j) = G.sq b (j + 1) := if_neg e
      rw [h1] at h
      obtain ⟨T, t1, t2, t3, t4⟩ := ih (j + 1) (by omega) (fun i i1 i2 => by
        by_cases e2 : i = j
        · subst e2; exact e
        · exact hi i i1 (by omega)) h
      exact ⟨T, by omega, by omega, t3, t4⟩
/-- a proof of the free distance: potentials at rest, the best steps, the way back to 0 -/
structure Gf.Fin (G : Gf) (pot : Nat → Int) (b : Nat → Nat) (D : Int) (T : Nat) : Prop where
  p0 : pot 0 = 0
  rg : ∀ s, s < G.S → 0 ≤ pot s ∧ pot s ≤ 1000000
  bi : ∀ s, s < G.S → b s < G.I
  fx : G.Fx pot
  st : ∀ s, 0 < s → s < G.S → (G.w (s * G.I + b s) : Int) + pot (G.nx (s * G.I + b s)) = pot s
  wk : ∀ s, s < G.S → G.walk b G.S s = 0
  b0 : 0 < b 0
  d0 : (G.w (b 0) : Int) + pot (G.nx (b 0)) = D
  dm : ∀ i, 0 < i → i < G.I → D ≤ (G.w i : Int) + pot (G.nx i)
  t0 : 0 < T
  t1 : T ≤ G.S + 1
  t2 : G.sq b T = 0
  t3 : ∀ i, 0 < i → i < T → G.sq b i ≠ 0
theorem Gf.Fin.sum {G : Gf} {pot : Nat → Int} {b : Nat → Nat} {D : Int} {T : Nat} (h : G.Fin pot b D T) : ((sumn (fun j => G.w (G.sq b j * G.I + b (G.sq b j))) T : Nat) : Int) = D := by
  have key : ∀ j, 0 < j → j ≤ T → ((sumn (fun j => G.w (G.sq b j * G.I + b (G.sq b j))) j : Nat) : Int) + pot (G.sq b j) = D := by
    intro j
    induction j with
    | zero => intro h; omega
    | succ j ih =>
      intro _ hj
      rw [sumn]
      by_cases e : j = 0
      · subst e
        have h1 : G.sq b 0 * G.I + b (G.sq b 0) = b 0 := by show 0 * G.I + b 0 = b 0; rw [Nat.zero_mul, Nat.zero_add]
        have h2 : G.sq b 1 = G.nx (b 0) := by show G.nx (G.sq b 0 * G.I + b (G.sq b 0)) = _; rw [h1]
        have h3 := h.d0
        rw [h1, h2]
        show ((0 + G.w (b 0) : Nat) : Int) + _ = D
        omega
      · have h1 := ih (by omega) (by omega)
        have h2 := h.st (G.sq b j) (by have := h.t3 j (by omega) (by omega); omega) (G.sq_lt h.bi j)
        have h3 : G.sq b (j + 1) = G.nx (G.sq b j * G.I + b (G.sq b j)) := rfl
        rw [h3]
        omega
  have h1 := key T h.t0 (Nat.le_refl _)
  rw [h.t2, h.p0, Int.add_zero] at h1
  exact h1
/-- potentials at rest that end are least -/
theorem Gf.Fin.least {G : Gf} {pot : Nat → Int} {b : Nat → Nat} {D : Int} {T : Nat} (h : G.Fin pot b D T) {L : Nat → Int} (h0 : L 0 = 0) (hF : G.Fx L) (hL : ∀ s, s < G.S → pot s ≤ L s) : ∀ s, s < G.S → L s = pot s := by
  have key : ∀ k s, s < G.S → G.walk b k s = 0 → L s ≤ pot s := by
    intro k
    induction k with
    | zero => intro s _ h1; rw [Gf.walk] at h1; subst h1; rw [h0, h.p0]; exact Int.le_refl _
    | succ k ih =>
      intro s hs h1
      by_cases e : s = 0
      · subst e; rw [h0, h.p0]; exact Int.le_refl _
      rw [Gf.walk] at h1
      have h2 := ih _ (G.stp_lt h.bi hs) h1
      have h3 : G.stp b s = G.nx (s * G.I + b s) := if_neg e
      rw [h3] at h2
      have h4 := hF s (by omega) hs (b s) (h.bi s hs)
      have h5 := h.st s (by omega) hs
      omega
  intro s hs
  have h1 := key _ s hs (h.wk s hs)
  have h2 := hL s hs
  omega
end Go.Proofs.Ytdpibcniodhinaa.Gh
/- The graph of an encoder; machine.path. -/
namespace Go.Proofs.Ytdpibcniodhinaa.Gh
open Go Go.RowKit
open Alg (CR Ps Dg Zm Mn El Cg sm pw Irr Prm)
set_option linter.unusedVariables false
set_option linter.unusedSimpArgs false
section
variable {k : Nat} {M : Mn k}
/-- the graph of an encoder -/
noncomputable def Enc.G (e : Enc) (h : Fi M) (hr0 : 0 < e.r) : Gf where
  S := qn M ^ e.ds e.r
  I := qn M ^ e.r
  nx := fun a => (e.nxa M a).toNat
  w := e.owa M
  hS := Nat.pow_pos (by have := qn_two M; omega)
  hI := by
    have h2 := qn_two M
    have h1 : qn M ^ 1 ≤ qn M ^ e.r := Nat.pow_le_pow_right (by omega) (by omega)
    rw [Nat.pow_one] at h1; omega
  hn := fun a _ => by have := Enc.nxa_in (e := e) h a; omega
theorem Enc.G_nx (e : Enc) (h : Fi M) (hr0 : 0 < e.r) (a : Nat) : e.nxa M a = (((e.G h hr0).nx a : Nat) : Int) := (Int.toNat_of_nonneg (Enc.nxa_in (e := e) h a).1).symm
set_option maxHeartbeats 4000000 in
theorem sp_path {H : Heap} {n : Nat} (e : Enc) (hB : e.Bnd) (h : Fi M) (hd : e.Des M) (hce : e.ce = 0) (hr0 : 0 < e.r) (b : Nat → Nat) (T : Nat) (hb : ∀ s, s < qn M ^ e.ds e.r → b s < qn M ^ e.r) (hT0 : 0 < T) (hT1 : T ≤ 100000) (hT2 : (e.G h hr0).sq b T = 0) (hT3 : ∀ j, 0 < j → j < T → (e.G h hr0).sq b j ≠ 0) :
    Spec prog fid_conv_machine_path [e.mch h.gf (qn M), e.edg M, isl (qn M ^ e.ds e.r) fun s => (b s : Nat)] H n (msg T (fun _ => e.r) fun j => inp M (b ((e.G h hr0).sq b j))) H n := by
  refine spec_ends hmix ok_conv_machine_path rfl fun hF => ?_
  show gw prog B_conv_machine_path _ (tl 45 _) H n
  have hr := hB.r
  have hq2 := qn_two M
  have hq := h.fc.qn
  have hp := Enc.pow_tot h hd hce
  have hpr := Enc.pow_r h hd hce
  have hI1 : 1 ≤ qn M ^ e.r := Nat.pow_pos (by omega)
  have hI2 := hpr e.r (Nat.le_refl _)
  have sqS : ∀ j, (e.G h hr0).sq b j < qn M ^ e.ds e.r := fun j => (e.G h hr0).sq_lt hb j
  have sqn : ∀ j, e.nxa M ((e.G h hr0).sq b j * qn M ^ e.r + b ((e.G h hr0).sq b j)) = (((e.G h hr0).sq b (j + 1) : Nat) : Int) := fun j => e.G_nx h hr0 _
  have sq0 : (e.G h hr0).sq b 0 = 0 := rfl
  have hmch : e.mch h.gf (qn M) = .pp (e.mcl h.gf (qn M)) 0 := rfl
  rw [hmch]
  generalize hcl : e.mcl h.gf (qn M) = CL at *
  have cl : CL.length = 9 := by rw [← hcl]; rfl
  have g2 : gat CL 2 = .int .i64 (e.r : Nat) := by rw [← hcl]; rfl
  have g6 : gat CL 6 = .int .i64 (qn M : Nat) := by rw [← hcl]; rfl
  have sDig : ∀ (H : Heap) (n x : Nat), x < qn M ^ e.r → Spec prog fid_conv_digits [.int .i64 (x : Nat), .int .i64 (qn M : Nat), .int .i64 (e.r : Nat)] H n (isl e.r (inp M x)) H n := fun H n x hx => sp_conv_digits (x : Nat) (qn M : Nat) e.r (by omega) (by omega) (by omega) (by omega) (by omega)
  generalize (e.G h hr0).sq b = sq at *
  have hedg : e.edg M = .agg [.int .i64 (qn M ^ e.r : Nat), isl (qn M ^ e.ds e.r * qn M ^ e.r) (e.nxa M), isl (qn M ^ e.ds e.r * qn M ^ e.r) fun a => (e.owa M a : Nat)] := rfl
  rw [hedg]
  generalize hSI : qn M ^ e.ds e.r * qn M ^ e.r = N at *
  have hat : ∀ s, s < qn M ^ e.ds e.r → s * qn M ^ e.r + b s < N := fun s hs => by
    have h1 : (s + 1) * qn M ^ e.r ≤ qn M ^ e.ds e.r * qn M ^ e.r := Nat.mul_le_mul_right _ (by omega)
    have h2 := hb s hs
    rw [Nat.succ_mul] at h1; omega
  generalize qn M ^ e.ds e.r = S at *
  generalize qn M ^ e.r = I at *
  have hu : ∀ x b, b < n → upd H n x b = H b := fun x b hb => upd_ne _ _ (by omega)
  simp -implicitDefEqProofs only [B_conv_machine_path, go_sem, Nat.reduceLT, Nat.reduceBEq, Nat.reduceAdd, Nat.reduceEqDiff, Nat.reduceLeDiff, Nat.reduceSub, Nat.reduceMul]
  generalize hED : [GV.int .i64 (I : Nat), isl N (e.nxa M), isl N fun a => ((e.owa M a : Nat) : Int)] = ED
  have ed : ED.length = 3 := by rw [← hED]; rfl
  have d0 : gat ED 0 = .int .i64 (I : Nat) := by rw [← hED]; rfl
  have d1 : gat ED 1 = isl N (e.nxa M) := by rw [← hED]; rfl
  refine loop_rule (fun (j : Nat) E H' n' => ∃ gs, n + 1 ≤ n' ∧ H' n = some ED ∧ (∀ b, b < n → H' b = H b) ∧ Sl H' (n + 1) n' gs j (msr (fun _ => e.r) fun j => inp M (b (sq j))) ∧ E 0 = .pp CL 0 ∧ E 2 = isl S (fun s => (b s : Nat)) ∧ E 4 = .ptr n 0 ∧ E 7 = gs ∧ E 8 = .int .i64 (sq j : Nat) ∧ E 9 = .bool (decide (j = 0)) ∧ j ≤ T) (fun j => T - j) 0 ⟨.nil, by omega, by simp -implicitDefEqProofs only [go_sem, Nat.reduceLT, Nat.reduceBEq, Nat.reduceAdd, Nat.reduceEqDiff, Nat.reduceLeDiff, Nat.reduceSub, Nat.reduceMul, hED], hu _, .nil, rfl, rfl, rfl, rfl, by rw [sq0]; rfl, rfl, by omega⟩ ?_
  rintro j E H' n' ⟨gs, hn, c0, ho, sl, e0, e2, e4, e7, e8, e9, hj⟩
  by_cases hjT : j < T
  · have hsl := sqS j
    have hsI : ((sq j : Nat) : Int) < ((S : Nat) : Int) := by omega
    have hs0 := Int.natCast_nonneg (sq j)
    have hbl := hb _ hsl
    have ha := hat _ hsl
    have hm : IntKind.i64.wrap (((sq j : Nat) : Int) * ((I : Nat) : Int)) = ((sq j * I : Nat) : Int) := by
      rw [← Int.natCast_mul]; exact wrap64 (by omega)
    have hadd : IntKind.i64.wrap (((sq j * I : Nat) : Int) + ((b (sq j) : Nat) : Int)) = ((sq j * I + b (sq j) : Nat) : Int) := wrap64 (by omega)
    have ha0 := Int.natCast_nonneg (sq j * I + b (sq j))
    have haI : ((sq j * I + b (sq j) : Nat) : Int) < ((N : Nat) : Int) := by omega
    have hsqn := sqn j
    generalize sq j * I + b (sq j) = a at *
    have f0 : n < n' := by omega
    have hcond : E 9 = .bool true ∨ (E 9 = .bool false ∧ ¬ ((sq j : Nat) : Int) = 0) := by
      by_cases h0 : j = 0
      · exact .inl (by rw [e9, decide_eq_true h0])
      · exact .inr ⟨by rw [e9, decide_eq_false h0], by have := hT3 j (by omega) hjT; omega⟩
    clear e9
    have d9 : (false : Bool) = decide (j + 1 = 0) := (decide_eq_false (by omega)).symm
    rcases hcond with e9 | ⟨e9, hne⟩
    · simp -implicitDefEqProofs only [go_sem, Nat.reduceLT, Nat.reduceBEq, Nat.reduceAdd, Nat.reduceEqDiff, Nat.reduceLeDiff, Nat.reduceSub, Nat.reduceMul, e0, e2, e7, e8, e9, hs0, hsI, hsl, gat_tab, cl, g2, g6]
      refine mcall_of (pl_isl _ _).nr (fun H1 n1 _ _ => sDig H1 n1 (b (sq j)) hbl) ?_
      simp -implicitDefEqProofs only [go_sem, Nat.reduceLT, Nat.reduceBEq, Nat.reduceAdd, Nat.reduceEqDiff, Nat.reduceLeDiff, Nat.reduceSub, Nat.reduceMul]
      refine app_one (lo := n + 1) (m := j) (f := msr (fun _ => e.r) fun j => inp M (b (sq j))) sl rfl rfl (by omega) fun H2 a1 a2 => ?_
      have c2 : H2 n = some ED := by rw [a2 _ (by omega) fun hg => by have := sl.lt hg; omega, c0]
      have ho2 : ∀ b, b < n → H2 b = H b := fun b hb => by rw [a2 _ (by omega) fun hg => by have := sl.lt hg; omega, ho b hb]
      have f1 : n < n' + 1 := by omega
      simp -implicitDefEqProofs only [go_sem, Nat.reduceLT, Nat.reduceBEq, Nat.reduceAdd, Nat.reduceEqDiff, Nat.reduceLeDiff, Nat.reduceSub, Nat.reduceMul, e2, e4, e8, c2, f1, ed, d0, d1, hs0, hsI, hsl, gat_tab, hm, hadd, ha0, haI, ha, hsqn]
      exact l_n ⟨j + 1, by omega, .own n' 0 (j + 1), by omega, c2, ho2, .inr ⟨n', by omega, by omega, rfl, a1⟩, by simp -implicitDefEqProofs only [go_sem, Nat.reduceLT, Nat.reduceBEq, Nat.reduceAdd, Nat.reduceEqDiff, Nat.reduceLeDiff, Nat.reduceSub, Nat.reduceMul, e0], by simp -implicitDefEqProofs only [go_sem, Nat.reduceLT, Nat.reduceBEq, Nat.reduceAdd, Nat.reduceEqDiff, Nat.reduceLeDiff, Nat.reduceSub, Nat.reduceMul, e2], by simp -implicitDefEqProofs only [go_sem, Nat.reduceLT, Nat.reduceBEq, Nat.reduceAdd, Nat.reduceEqDiff, Nat.reduceLeDiff, Nat.reduceSub, Nat.reduceMul, e4], by simp -implicitDefEqProofs only [go_sem, Nat.reduceLT, Nat.reduceBEq, Nat.reduceAdd, Nat.reduceEqDiff, Nat.reduceLeDiff, Nat.reduceSub, Nat.reduceMul], by simp -implicitDefEqProofs only [go_sem, Nat.reduceLT, Nat.reduceBEq, Nat.reduceAdd, Nat.reduceEqDiff, Nat.reduceLeDiff, Nat.reduceSub, Nat.reduceMul], by simp -implicitDefEqProofs only [go_sem, Nat.reduceLT, Nat.reduceBEq, Nat.reduceAdd, Nat.reduceEqDiff, Nat.reduceLeDiff, Nat.reduceSub, Nat.reduceMul], by omega⟩
    · simp -implicitDefEqProofs only [go_sem, Nat.reduceLT, Nat.reduceBEq, Nat.reduceAdd, Nat.reduceEqDiff, Nat.reduceLeDiff, Nat.reduceSub, Nat.reduceMul, e0, e2, e7, e8, e9, hne, hs0, hsI, hsl, gat_tab, cl, g2, g6]
      refine mcall_of (pl_isl _ _).nr (fun H1 n1 _ _ => sDig H1 n1 (b (sq j)) hbl) ?_
      simp -implicitDefEqProofs only [go_sem, Nat.reduceLT, Nat.reduceBEq, Nat.reduceAdd, Nat.reduceEqDiff, Nat.reduceLeDiff, Nat.reduceSub, Nat.reduceMul]
      refine app_one (lo := n + 1) (m := j) (f := msr (fun _ => e.r) fun j => inp M (b (sq j))) sl rfl rfl (by omega) fun H2 a1 a2 => ?_
      have c2 : H2 n = some ED := by rw [a2 _ (by omega) fun hg => by have := sl.lt hg; omega, c0]
      have ho2 : ∀ b, b < n → H2 b = H b := fun b hb => by rw [a2 _ (by omega) fun hg => by have := sl.lt hg; omega, ho b hb]
      have f1 : n < n' + 1 := by omega
      simp -implicitDefEqProofs only [go_sem, Nat.reduceLT, Nat.reduceBEq, Nat.reduceAdd, Nat.reduceEqDiff, Nat.reduceLeDiff, Nat.reduceSub, Nat.reduceMul, e2, e4, e8, c2, f1, ed, d0, d1, hs0, hsI, hsl, gat_tab, hm, hadd, ha0, haI, ha, hsqn]
      exact l_n ⟨j + 1, by omega, .own n' 0 (j + 1), by omega, c2, ho2, .inr ⟨n', by omega, by omega, rfl, a1⟩, by simp -implicitDefEqProofs only [go_sem, Nat.reduceLT, Nat.reduceBEq, Nat.reduceAdd, Nat.reduceEqDiff, Nat.reduceLeDiff, Nat.reduceSub, Nat.reduceMul, e0], by simp -implicitDefEqProofs only [go_sem, Nat.reduceLT, Nat.reduceBEq, Nat.reduceAdd, Nat.reduceEqDiff, Nat.reduceLeDiff, Nat.reduceSub, Nat.reduceMul, e2], by simp -implicitDefEqProofs only [go_sem, Nat.reduceLT, Nat.reduceBEq, Nat.reduceAdd, Nat.reduceEqDiff, Nat.reduceLeDiff, Nat.reduceSub, Nat.reduceMul, e4], by simp -implicitDefEqProofs only [go_sem, Nat.reduceLT, Nat.reduceBEq, Nat.reduceAdd, Nat.reduceEqDiff, Nat.reduceLeDiff, Nat.reduceSub, Nat.reduceMul], by simp -implicitDefEqProofs only [go_sem, Nat.reduceLT, Nat.reduceBEq, Nat.reduceAdd, Nat.reduceEqDiff, Nat.reduceLeDiff, Nat.reduceSub, Nat.reduceMul], by simp -implicitDefEqProofs only [go_sem, Nat.reduceLT, Nat.reduceBEq, Nat.reduceAdd, Nat.reduceEqDiff, Nat.reduceLeDiff, Nat.reduceSub, Nat.reduceMul], by omega⟩
  · have : j = T := by omega
    subst this
    have h9 : decide (j = 0) = false := decide_eq_false (by omega)
    have h8 : ((sq j : Nat) : Int) = 0 := by omega
    rw [h9] at e9
    simp -implicitDefEqProofs only [go_sem, Nat.reduceLT, Nat.reduceBEq, Nat.reduceAdd, Nat.reduceEqDiff, Nat.reduceLeDiff, Nat.reduceSub, Nat.reduceMul, e7, e8, e9, h8]
    obtain ⟨bk, b1, b2, rfl, b3⟩ := sl.own hT0
    refine fin_ret rfl (by decide) ?_ ho
    simp -implicitDefEqProofs only [go_sem, Nat.reduceLT, Nat.reduceBEq, Nat.reduceAdd, Nat.reduceEqDiff, Nat.reduceLeDiff, Nat.reduceSub, Nat.reduceMul]
    refine .ownf bk 0 j _ _ b3 (by omega) (fun i a c => by omega) (by rw [tab_len]; omega) tab_len fun u hu => ?_
    rw [Nat.zero_add, gat_tab hu]
    exact (pl_isl _ _).tr
end
end Go.Proofs.Ytdpibcniodhinaa.Gh
/- conv.Free: potentials that sink until they rest. -/
namespace Go.Proofs.Ytdpibcniodhinaa.Gh
open Go Go.RowKit
open Alg (CR Ps Dg Zm Mn El Cg sm pw Irr Prm)
set_option linter.unusedVariables false
set_option linter.unusedSimpArgs false
theorem Gf.walk_succ (G : Gf) (b : Nat → Nat) : ∀ k s, G.walk b (k + 1) s = G.stp b (G.walk b k s) := by
  intro k
  induction k with
  | zero => intro s; rfl
  | succ k ih => intro s; rw [walk, ih]; rfl
def ini (c : Int) (j : Nat) : Nat → Int := fun s => if 0 < s ∧ s < j then c else 0
theorem ini_step (c : Int) {j : Nat} (hj : 0 < j) : upf (ini c j) j c = ini c (j + 1) := by
  funext s
  unfold ini upf
  by_cases h : s = j
  · subst h; rw [if_pos rfl, if_pos ⟨hj, by omega⟩]
  · rw [if_neg h]
    show (if 0 < s ∧ s < j then c else 0) = _
    by_cases h1 : 0 < s ∧ s < j
    · rw [if_pos h1, if_pos ⟨h1.1, by omega⟩]
    · rw [if_neg h1, if_neg fun h2 => h1 ⟨h2.1, by omega⟩]
theorem ini_one (c : Int) : ini c 1 = fun _ => 0 := by
  funext s; exact if_neg fun h => by omega
theorem upf_cast (b : Nat → Nat) (s i : Nat) : upf (fun s => ((b s : Nat) : Int)) s (i : Nat) = fun t => ((upf b s i t : Nat) : Int) := by
  funext t
  unfold upf
  by_cases h : t = s
  · rw [if_pos h, if_pos h]
  · rw [if_neg h, if_neg h]
theorem sumn_upf {f : Nat → Nat} {s v : Nat} : ∀ {n : Nat}, s < n → v < f s → sumn (upf f s v) n < sumn f n := by
  intro n
  induction n with
  | zero => intro h; omega
  | succ n ih =>
    intro hs hv
    rw [sumn, sumn]
    by_cases e : s = n
    · subst e
      rw [upf_same]
      have : sumn (upf f s v) s = sumn f s := by
        have key : ∀ m, m ≤ s → sumn (upf f s v) m = sumn f m := by
          intro m
          induction m with
          | zero => intro _; rfl
          | succ m ih => intro hm; rw [sumn, sumn, ih (by omega), upf_ne _ _ (by omega)]
        exact key s (Nat.le_refl _)
      omega
    · have := ih (by omega) hv
      rw [upf_ne _ _ (by omega)]; omega
section
variable {k : Nat} {M : Mn k}
/-- zeros bring every state to 0 -/
theorem Enc.zeros (e : Enc) (h : Fi M) (hr0 : 0 < e.r) {s : Nat} (hs : s < qn M ^ e.ds e.r) : (e.G h hr0).walk (fun _ => 0) (e.mem e.r) s = 0 := by
  have hq2 := qn_two M
  have hq : (2 : Int) ≤ (qn M : Nat) := by omega
  have hI := (e.G h hr0).hI
  have hlt : ∀ k, (e.G h hr0).walk (fun _ => 0) k s < qn M ^ e.ds e.r := by
    intro k
    induction k with
    | zero => exact hs
    | succ k ih => rw [Gf.walk_succ]; exact (e.G h hr0).stp_lt (fun _ _ => by omega) ih
  have hdg : ∀ k i d, i < e.r → d < e.deg i → d < k → Gh.dg (qn M : Nat) ((e.G h hr0).walk (fun _ => 0) k s : Nat) (e.ds i + d) = 0 := by
    intro k
    induction k with
    | zero => intro i d _ _ h; omega
    | succ k ih =>
      intro i d hi hd hk
      rw [Gf.walk_succ]
      generalize hx : (e.G h hr0).walk (fun _ => 0) k s = x at *
      by_cases h0 : x = 0
      · subst h0; rw [Gf.stp_zero]; exact dg_of_zero _ _
      · have h1 : (e.G h hr0).stp (fun _ => 0) x = (e.G h hr0).nx (x * qn M ^ e.r + 0) := if_neg h0
        have h2 := e.G_nx h hr0 (x * qn M ^ e.r + 0)
        have hp : 0 < qn M ^ e.r := Nat.pow_pos (by omega)
        have h3 : e.nxa M (x * qn M ^ e.r + 0) = e.nx (qn M : Nat) (x : Nat) (inp M 0) e.r 0 := by rw [Enc.nxa, div_at hp, mod_at hp]
        rw [h1, ← h2, h3, e.nx_dg hq (fun i _ => inp_in 0 i) e.r (Nat.le_refl _) 0 (.inl rfl) i d (.inl ⟨hi, hd⟩)]
        unfold Enc.X
        by_cases hd0 : d = 0
        · rw [if_pos hd0]; exact inp_zero _
        · rw [if_neg hd0]
          exact ih i (d - 1) hi (by omega) (by omega)
  have hb := hlt (e.mem e.r)
  have hall : ∀ pos, pos < e.ds e.r → Gh.dg (qn M : Nat) ((e.G h hr0).walk (fun _ => 0) (e.mem e.r) s : Nat) pos = 0 := fun pos hpos => by
    obtain ⟨i, d, h1, h2, rfl⟩ := e.pos_dec e.r pos hpos
    have hm := e.mem_ge e.r i h1
    exact hdg _ i d h1 h2 (by omega)
  generalize (e.G h hr0).walk (fun _ => 0) (e.mem e.r) s = x at *
  have h1 : ((x : Nat) : Int) < (qn M : Nat) ^ e.ds e.r := by
    have := Int.natCast_pow (qn M) (e.ds e.r)
    omega
  have h2 := vs_dg hq (e.ds e.r) (Int.natCast_nonneg x) h1
  rw [vs_congr _ _ (g := fun _ => 0) hall, vs_zero] at h2
  omega
/-- potentials at rest, with their way back, are a proof -/
theorem Gf.fin (G : Gf) {pot : Nat → Int} {b : Nat → Nat} {D : Int} (hB : G.Bf pot b) (hF : G.Fx pot) {W m : Nat} (hW : ∀ a, a < G.S * G.I → G.w a ≤ W) (hWm : W * m ≤ 1000000) (hz : ∀ s, s < G.S → G.walk (fun _ => 0) m s = 0) (hb0 : 0 < b 0) (hd0 : (G.w (b 0) : Int) + pot (G.nx (b 0)) = D) (hdm : ∀ i, 0 < i → i < G.I → D ≤ (G.w i : Int) + pot (G.nx i)) : ∃ T, G.Fin pot b D T := by
  have hlow : ∀ s, s < G.S → pot s ≤ 1000000 := fun s hs => by
    have := G.low hB.p0 hF hW m s hs (hz s hs)
    omega
  have hwk : ∀ s, s < G.S → G.walk b G.S s = 0 := fun s hs => by
    by_cases e : s = 0
    · subst e; exact G.walk_zero _ _
    · obtain ⟨k, hk⟩ := (hB.st s (by omega) hs (by have := hlow s hs; omega)).2
      exact G.short hB.bi k s hs hk
  have h1 : G.sq b 1 < G.S := G.sq_lt hB.bi 1
  obtain ⟨T, t1, t2, t3, t4⟩ := G.back G.S 1 (by omega) (fun i a c => by omega) (hwk _ h1)
  refine ⟨T, hB.p0, fun s hs => ⟨(hB.rg s hs).1, hlow s hs⟩, hB.bi, hF, fun s h0 hs => ?_, hwk, hb0, hd0, hdm, by omega, by omega, t3, t4⟩
  have h2 := (hB.st s h0 hs (by have := hlow s hs; omega)).1
  have h3 := hF s h0 hs (b s) (hB.bi s hs)
  omega
end
end Go.Proofs.Ytdpibcniodhinaa.Gh
/- conv.Free over ghost values. -/
namespace Go.Proofs.Ytdpibcniodhinaa.Gh
open Go Go.RowKit
open Alg (CR Ps Dg Zm Mn El Cg sm pw Irr Prm)
set_option linter.unusedVariables false
set_option linter.unusedSimpArgs false
theorem fin_ct {F : GFun} {H H1 : Heap} {n n1 N i j m b o : Nat} {E : Env} {cs : List GV} {g g' : GV} (hr : F.res = [.cell i (some m), .t j]) (hi : i < N) (hj : j < N) (he : E i = .ptr b o) (hc : H1 b = some cs) (hl : o + m ≤ cs.length) (hz : Fz H1 n (.agg ((cs.drop o).take m)) g) (hz' : Fz H1 n (E j) g') (ho : ∀ b, b < n → H1 b = H b) : F.ends H n (.tup [g, g']) .ret (tl N E) H1 n1 :=
  ⟨⟨.tup [.agg ((cs.drop o).take m), E j], by rw [hr]; simp only [gretv, gress, gres, gat_tl hi, gat_tl hj, he, gread1, hc, if_pos hl], .tup _ _ rfl fun k hk => by
    match k, hk with
    | 0, _ => exact hz
    | 1, _ => exact hz', ho⟩, rfl⟩
theorem Gf.Bf.at0 {G : Gf} {pot : Nat → Int} {b : Nat → Nat} (hB : G.Bf pot b) {i : Nat} (hi : i < G.I) : G.Bf pot (upf b 0 i) := by
  have hst : ∀ u, G.stp (upf b 0 i) u = G.stp b u := fun u => by
    unfold Gf.stp
    by_cases h : u = 0
    · rw [if_pos h, if_pos h]
    · rw [if_neg h, if_neg h, upf_ne _ _ h]
  have hw : ∀ k u, G.walk (upf b 0 i) k u = G.walk b k u := by
    intro k
    induction k with
    | zero => intro u; rfl
    | succ k ih => intro u; rw [Gf.walk, Gf.walk, hst, ih]
  refine ⟨hB.p0, hB.rg, fun s hs => ?_, fun s h0 hs hlt => ?_⟩
  · by_cases h : s = 0
    · subst h; rw [upf_same]; exact hi
    · rw [upf_ne _ _ h]; exact hB.bi s hs
  · obtain ⟨h1, k, h2⟩ := hB.st s h0 hs hlt
    rw [upf_ne _ _ (by omega)]
    exact ⟨h1, k, by rw [hw]; exact h2⟩
theorem sp_conv_Free_fail {H : Heap} {n : Nat} (e : Enc) (hf : ¬ e.Fok) : Spec prog fid_conv_Free [e.gv] H n (.tup [.agg [.int .i64 0, .nil, .nil], .int .i64 1]) H n := by
  refine spec_ends hmix ok_conv_Free rfl fun hF => ?_
  show gw prog B_conv_Free _ (tl 140 _) H n
  have h10 : ((1 : Int) = 0) = False := by simp
  have f1 : (n = n + 1) = False := eq_false (by omega)
  have f2 : n + 1 < n + 2 := by omega
  simp -implicitDefEqProofs only [B_conv_Free, go_sem, Nat.reduceLT, Nat.reduceBEq, Nat.reduceAdd, Nat.reduceEqDiff, Nat.reduceLeDiff, Nat.reduceSub, Nat.reduceMul, upd_no, f1]
  refine call_of (sp_conv_build_fail e hf) ?_
  simp -implicitDefEqProofs only [go_sem, Nat.reduceLT, Nat.reduceBEq, Nat.reduceAdd, Nat.reduceEqDiff, Nat.reduceLeDiff, Nat.reduceSub, Nat.reduceMul, h10, f2]
  refine fin_ct (b := n + 1) (o := 0) rfl (by decide) (by decide) (by simp -implicitDefEqProofs only [go_sem, Nat.reduceLT, Nat.reduceBEq, Nat.reduceAdd, Nat.reduceEqDiff, Nat.reduceLeDiff, Nat.reduceSub, Nat.reduceMul]) (by simp -implicitDefEqProofs only [go_sem, Nat.reduceLT, Nat.reduceBEq, Nat.reduceAdd, Nat.reduceEqDiff, Nat.reduceLeDiff, Nat.reduceSub, Nat.reduceMul, upd_no]; rfl) (Nat.le_refl _) ?_ (by simp -implicitDefEqProofs only [go_sem, Nat.reduceLT, Nat.reduceBEq, Nat.reduceAdd, Nat.reduceEqDiff, Nat.reduceLeDiff, Nat.reduceSub, Nat.reduceMul]; exact fz_int rfl) fun b hb => ?_
  · refine .agg _ _ rfl fun j hj => ?_
    rcases j with _ | _ | _ | j
    · exact .int _ _
    · exact .nil
    · exact .nil
    · simp at hj; omega
  · simp only [upd, if_neg (show b ≠ n by omega), if_neg (show b ≠ n + 1 by omega)]
section
variable {k : Nat} {M : Mn k}
/-- the state of conv.Free while its potentials sink -/
structure FreeSt (H : Heap) (n S : Nat) (CL ED : List GV) (D : Int) (pot : Nat → Int) (b : Nat → Nat) (E : Env) (H' : Heap) (n' : Nat) : Prop where
  hn : n' = n + 6
  c1 : H' (n + 1) = some [.int .i64 0, .nil, .nil]
  c2 : H' (n + 2) = some ED
  c3 : H' (n + 3) = some (tab S (it pot))
  c4 : H' (n + 4) = some [.int .i64 D, .nil, .own (n + 3) 0 S]
  c5 : H' (n + 5) = some (tab S (it fun s => (b s : Nat)))
  ho : ∀ b, b < n → H' b = H b
  e2 : E 2 = .ptr (n + 1) 0
  e4 : E 4 = .pp CL 0
  e6 : E 6 = .ptr (n + 2) 0
  e7 : E 7 = .ptr (n + 4) 0
  e8 : E 8 = .own (n + 5) 0 S
set_option maxHeartbeats 8000000 in
theorem sp_conv_Free {H : Heap} {n : Nat} (e : Enc) (hB : e.Bnd) (h : Fi M) (hd : e.Des M) (hce : e.ce = 0) (hr0 : 0 < e.r) : SpecS prog fid_conv_Free [e.gv] H n fun g H' n' => H' = H ∧ n' = n ∧ ∃ pot b D T, (e.G h hr0).Fin pot b D T ∧ g = .tup [.agg [.int .i64 D, msg T (fun _ => e.r) (fun j => inp M (b ((e.G h hr0).sq b j))), isl (qn M ^ e.ds e.r) pot], .int .i64 0] := by
  refine spec_toldS hmix ok_conv_Free rfl fun hF => ?_
  show gw prog B_conv_Free _ (tl 140 _) H n
  have hr := hB.r
  have hq2 := qn_two M
  have hp := Enc.pow_tot h hd hce
  have hpr := Enc.pow_r h hd hce
  have hI1 : 1 ≤ qn M ^ e.r := Nat.pow_pos (by omega)
  have hI2 := hpr e.r (Nat.le_refl _)
  have hS1 : 1 ≤ qn M ^ e.ds e.r := Nat.pow_pos (by omega)
  have hS2 : qn M ^ e.ds e.r ≤ 65536 := Enc.pow_le h hd hce _ (Nat.le_refl _)
  have sEd : ∀ (H : Heap) (n : Nat), Spec prog fid_conv_machine_edges [e.mch h.gf (qn M)] H n (e.edg M) H n := fun H n => sp_edges e hB h hd hce
  have sPt : ∀ (H : Heap) (n : Nat) (b : Nat → Nat) (T : Nat), (∀ s, s < (e.G h hr0).S → b s < (e.G h hr0).I) → 0 < T → T ≤ 100000 → (e.G h hr0).sq b T = 0 → (∀ j, 0 < j → j < T → (e.G h hr0).sq b j ≠ 0) → Spec prog fid_conv_machine_path [e.mch h.gf (qn M), e.edg M, isl (e.G h hr0).S fun s => (b s : Nat)] H n (msg T (fun _ => e.r) fun j => inp M (b ((e.G h hr0).sq b j))) H n := fun H n b T a1 a2 a3 a4 a5 => sp_path e hB h hd hce hr0 b T a1 a2 a3 a4 a5
  have hz : ∀ s, s < (e.G h hr0).S → (e.G h hr0).walk (fun _ => 0) (e.mem e.r) s = 0 := fun s hs => e.zeros h hr0 hs
  have hW : ∀ a, (e.G h hr0).w a ≤ 70 := fun a => Enc.owa_le (e := e) (M := M) hB hr0 a
  have hmem := e.mem_le hB e.r (Nat.le_refl _)
  have hnx := e.G_nx h hr0
  have hmch : e.mch h.gf (qn M) = .pp (e.mcl h.gf (qn M)) 0 := rfl
  have hedg : e.edg M = .agg [.int .i64 ((e.G h hr0).I : Nat), isl ((e.G h hr0).S * (e.G h hr0).I) (e.nxa M), isl ((e.G h hr0).S * (e.G h hr0).I) fun a => ((e.G h hr0).w a : Nat)] := rfl
  have hSS : qn M ^ e.ds e.r = (e.G h hr0).S := rfl
  have hII : qn M ^ e.r = (e.G h hr0).I := rfl
  simp -implicitDefEqProofs only [B_conv_Free, go_sem, Nat.reduceLT, Nat.reduceBEq, Nat.reduceAdd, Nat.reduceEqDiff, Nat.reduceLeDiff, Nat.reduceSub, Nat.reduceMul, upd_no]
  refine call_of (sp_conv_build e hB h hd) ?_
  rw [if_pos hce]
  rw [hmch] at sEd sPt ⊢
  have g7 : gat (e.mcl h.gf (qn M)) 7 = .int .i64 ((e.G h hr0).S : Nat) := rfl
  have cl : (e.mcl h.gf (qn M)).length = 9 := rfl
  rw [hSS, hII] at hp
  rw [hSS] at hS1 hS2
  rw [hII] at hI1 hI2
  rw [hSS]
  generalize e.mcl h.gf (qn M) = CL at *
  generalize hG : e.G h hr0 = G at *
  clear hSS hII hmch
  have f1 : (n = n + 1) = False := eq_false (by omega)
  simp -implicitDefEqProofs only [go_sem, Nat.reduceLT, Nat.reduceBEq, Nat.reduceAdd, Nat.reduceEqDiff, Nat.reduceLeDiff, Nat.reduceSub, Nat.reduceMul, hce, upd_no, f1]
  refine call_of (sEd _ _) ?_
  rw [hedg] at sPt ⊢
  generalize hED : [GV.int .i64 ((G.I : Nat) : Int), isl (G.S * G.I) (e.nxa M), isl (G.S * G.I) fun a => ((G.w a : Nat) : Int)] = ED at *
  have ed : ED.length = 3 := by rw [← hED]; rfl
  have d0 : gat ED 0 = .int .i64 (G.I : Nat) := by rw [← hED]; rfl
  have d1 : gat ED 1 = isl (G.S * G.I) (e.nxa M) := by rw [← hED]; rfl
  have d2 : gat ED 2 = isl (G.S * G.I) fun a => ((G.w a : Nat) : Int) := by rw [← hED]; rfl
  have edc : ED.all isCell = true := by rw [← hED]; rfl
  simp -implicitDefEqProofs only [go_sem, Nat.reduceLT, Nat.reduceBEq, Nat.reduceAdd, Nat.reduceEqDiff, Nat.reduceLeDiff, Nat.reduceSub, Nat.reduceMul, cl, g7, ed, edc]
  repeat with_reducible refine And.intro (by omega) ?_
  have z0 : (fun _ : Nat => (0 : Int)) = fun s => (((fun _ : Nat => 0) s : Nat) : Int) := rfl
  refine loop_rule (fun (j : Nat) E H' n' => FreeSt H n G.S CL ED 0 (ini 2147483648 j) (fun _ => 0) E H' n' ∧ E 9 = .int .i64 (j : Nat) ∧ 0 < j ∧ j ≤ G.S) (fun j => G.S - j) 1 ?_ ?_
  · refine ⟨⟨rfl, by simp -implicitDefEqProofs only [go_sem, Nat.reduceLT, Nat.reduceBEq, Nat.reduceAdd, Nat.reduceEqDiff, Nat.reduceLeDiff, Nat.reduceSub, Nat.reduceMul, upd_no], by simp -implicitDefEqProofs only [go_sem, Nat.reduceLT, Nat.reduceBEq, Nat.reduceAdd, Nat.reduceEqDiff, Nat.reduceLeDiff, Nat.reduceSub, Nat.reduceMul, upd_no]; rw [← hED]; rfl, ?_, by simp -implicitDefEqProofs only [go_sem, Nat.reduceLT, Nat.reduceBEq, Nat.reduceAdd, Nat.reduceEqDiff, Nat.reduceLeDiff, Nat.reduceSub, Nat.reduceMul, upd_no], ?_, fun b hb => ?_, rfl, rfl, rfl, rfl, rfl⟩, rfl, by omega, hS1⟩
    · simp -implicitDefEqProofs only [go_sem, Nat.reduceLT, Nat.reduceBEq, Nat.reduceAdd, Nat.reduceEqDiff, Nat.reduceLeDiff, Nat.reduceSub, Nat.reduceMul, upd_no, ini_one]; exact congrArg some (tab_rep _)
    · simp -implicitDefEqProofs only [go_sem, Nat.reduceLT, Nat.reduceBEq, Nat.reduceAdd, Nat.reduceEqDiff, Nat.reduceLeDiff, Nat.reduceSub, Nat.reduceMul, upd_no]; exact congrArg some (tab_rep _)
    simp only [upd, if_neg (show b ≠ n by omega), if_neg (show b ≠ n + 1 by omega), if_neg (show b ≠ n + 2 by omega), if_neg (show b ≠ n + 3 by omega), if_neg (show b ≠ n + 4 by omega), if_neg (show b ≠ n + 5 by omega)]
  rintro j E H' n' ⟨F, e9, hj0, hj⟩
  obtain ⟨rfl, c1, c2, c3, c4, c5, ho, e2, e4, e6, e7, e8⟩ := F
  have g3 : n + 3 < n + 6 := by omega
  have g4 : n + 4 < n + 6 := by omega
  have g5 : n + 5 < n + 6 := by omega
  have g2 : n + 2 < n + 6 := by omega
  have g1 : n + 1 < n + 6 := by omega
  simp -implicitDefEqProofs only [go_sem, Nat.reduceLT, Nat.reduceBEq, Nat.reduceAdd, Nat.reduceEqDiff, Nat.reduceLeDiff, Nat.reduceSub, Nat.reduceMul, e4, e9, cl, g7]
  refine c_split (fun hc => ?_) (fun hc => ?_)
  · have hjS : j < G.S := by omega
    have hj1 := Int.natCast_nonneg j
    have hwj := wrap64 (x := (j : Int) + 1) (by omega)
    have hst := ini_step 2147483648 hj0
    simp -implicitDefEqProofs only [go_sem, Nat.reduceLT, Nat.reduceBEq, Nat.reduceAdd, Nat.reduceEqDiff, Nat.reduceLeDiff, Nat.reduceSub, Nat.reduceMul, e7, e9, c3, c4, g3, g4, hc, hjS, hj1, hst, hwj]
    repeat with_reducible refine And.intro (by omega) ?_
    exact l_n ⟨j + 1, by omega, ⟨rfl, by rw [upd_ne _ _ (by omega)]; exact c1, by rw [upd_ne _ _ (by omega)]; exact c2, upd_same _ _ _, by rw [upd_ne _ _ (by omega)]; exact c4, by rw [upd_ne _ _ (by omega)]; exact c5, fun b hb => by rw [upd_ne _ _ (by omega)]; exact ho b hb, by simp -implicitDefEqProofs only [go_sem, Nat.reduceLT, Nat.reduceBEq, Nat.reduceAdd, Nat.reduceEqDiff, Nat.reduceLeDiff, Nat.reduceSub, Nat.reduceMul, e2], by simp -implicitDefEqProofs only [go_sem, Nat.reduceLT, Nat.reduceBEq, Nat.reduceAdd, Nat.reduceEqDiff, Nat.reduceLeDiff, Nat.reduceSub, Nat.reduceMul, e4], by simp -implicitDefEqProofs only [go_sem, Nat.reduceLT, Nat.reduceBEq, Nat.reduceAdd, Nat.reduceEqDiff, Nat.reduceLeDiff, Nat.reduceSub, Nat.reduceMul, e6], by simp -implicitDefEqProofs only [go_sem, Nat.reduceLT, Nat.reduceBEq, Nat.reduceAdd, Nat.reduceEqDiff, Nat.reduceLeDiff, Nat.reduceSub, Nat.reduceMul, e7], by simp -implicitDefEqProofs only [go_sem, Nat.reduceLT, Nat.reduceBEq, Nat.reduceAdd, Nat.reduceEqDiff, Nat.reduceLeDiff, Nat.reduceSub, Nat.reduceMul, e8]⟩, by simp -implicitDefEqProofs only [go_sem, Nat.reduceLT, Nat.reduceBEq, Nat.reduceAdd, Nat.reduceEqDiff, Nat.reduceLeDiff, Nat.reduceSub, Nat.reduceMul]; rfl, by omega, by omega⟩
  have : j = G.S := by omega
  subst this
  have bf0 : G.Bf (ini 2147483648 G.S) (fun _ => 0) := by
    refine ⟨if_neg fun h => by omega, fun s hs => ?_, fun s hs => by have := G.hI; show 0 < G.I; omega, fun s h0 hs hlt => ?_⟩
    · unfold ini
      split <;> omega
    · unfold ini at hlt
      rw [if_pos ⟨h0, hs⟩] at hlt; omega
  simp -implicitDefEqProofs only [go_sem, Nat.reduceLT, Nat.reduceBEq, Nat.reduceAdd, Nat.reduceEqDiff, Nat.reduceLeDiff, Nat.reduceSub, Nat.reduceMul]
  refine loop_rule (fun (x : (Nat → Int) × (Nat → Nat) × Bool) E H' n' => FreeSt H n G.S CL ED 0 x.1 x.2.1 E H' n' ∧ E 10 = .bool x.2.2 ∧ G.Bf x.1 x.2.1 ∧ (x.2.2 = false → G.Fx x.1)) (fun x => 2 * sumn (fun s => (x.1 s).toNat) G.S + if x.2.2 = true then 1 else 0) (ini 2147483648 G.S, fun _ => 0, true) ⟨⟨rfl, c1, c2, c3, c4, c5, ho, by simp -implicitDefEqProofs only [go_sem, Nat.reduceLT, Nat.reduceBEq, Nat.reduceAdd, Nat.reduceEqDiff, Nat.reduceLeDiff, Nat.reduceSub, Nat.reduceMul, e2], by simp -implicitDefEqProofs only [go_sem, Nat.reduceLT, Nat.reduceBEq, Nat.reduceAdd, Nat.reduceEqDiff, Nat.reduceLeDiff, Nat.reduceSub, Nat.reduceMul, e4], by simp -implicitDefEqProofs only [go_sem, Nat.reduceLT, Nat.reduceBEq, Nat.reduceAdd, Nat.reduceEqDiff, Nat.reduceLeDiff, Nat.reduceSub, Nat.reduceMul, e6], by simp -implicitDefEqProofs only [go_sem, Nat.reduceLT, Nat.reduceBEq, Nat.reduceAdd, Nat.reduceEqDiff, Nat.reduceLeDiff, Nat.reduceSub, Nat.reduceMul, e7], by simp -implicitDefEqProofs only [go_sem, Nat.reduceLT, Nat.reduceBEq, Nat.reduceAdd, Nat.reduceEqDiff, Nat.reduceLeDiff, Nat.reduceSub, Nat.reduceMul, e8]⟩, rfl, bf0, fun h => by cases h⟩ ?_
  clear bf0 hc hj hj0 e9 e8 e7 e6 e4 e2 ho c5 c4 c3 c2 c1 E H'
  rintro ⟨pot0, b0, ch0⟩ E H' n' ⟨F, e10, bf, hfx⟩
  dsimp only at F e10 bf hfx
  obtain ⟨rfl, c1, c2, c3, c4, c5, ho, e2, e4, e6, e7, e8⟩ := F
  simp -implicitDefEqProofs only [go_sem, Nat.reduceLT, Nat.reduceBEq, Nat.reduceAdd, Nat.reduceEqDiff, Nat.reduceLeDiff, Nat.reduceSub, Nat.reduceMul, e10]
  cases ch0
  case true =>
    simp -implicitDefEqProofs only [go_sem, Nat.reduceLT, Nat.reduceBEq, Nat.reduceAdd, Nat.reduceEqDiff, Nat.reduceLeDiff, Nat.reduceSub, Nat.reduceMul]
    refine loop_rule (fun (x : Nat × (Nat → Int) × (Nat → Nat) × Bool) E H' n' => FreeSt H n G.S CL ED 0 x.2.1 x.2.2.1 E H' n' ∧ E 10 = .bool x.2.2.2 ∧ E 11 = .int .i64 (x.1 : Nat) ∧ G.Bf x.2.1 x.2.2.1 ∧ sumn (fun s => (x.2.1 s).toNat) G.S ≤ sumn (fun s => (pot0 s).toNat) G.S ∧ (x.2.2.2 = true → sumn (fun s => (x.2.1 s).toNat) G.S < sumn (fun s => (pot0 s).toNat) G.S) ∧ (x.2.2.2 = false → ∀ s, 0 < s → s < x.1 → ∀ i, i < G.I → x.2.1 s ≤ (G.w (s * G.I + i) : Int) + x.2.1 (G.nx (s * G.I + i))) ∧ 0 < x.1 ∧ x.1 ≤ G.S) (fun x => G.S - x.1) (1, pot0, b0, false) ⟨⟨rfl, c1, c2, c3, c4, c5, ho, by simp -implicitDefEqProofs only [go_sem, Nat.reduceLT, Nat.reduceBEq, Nat.reduceAdd, Nat.reduceEqDiff, Nat.reduceLeDiff, Nat.reduceSub, Nat.reduceMul, e2], by simp -implicitDefEqProofs only [go_sem, Nat.reduceLT, Nat.reduceBEq, Nat.reduceAdd, Nat.reduceEqDiff, Nat.reduceLeDiff, Nat.reduceSub, Nat.reduceMul, e4], by simp -implicitDefEqProofs only [go_sem, Nat.reduceLT, Nat.reduceBEq, Nat.reduceAdd, Nat.reduceEqDiff, Nat.reduceLeDiff, Nat.reduceSub, Nat.reduceMul, e6], by simp -implicitDefEqProofs only [go_sem, Nat.reduceLT, Nat.reduceBEq, Nat.reduceAdd, Nat.reduceEqDiff, Nat.reduceLeDiff, Nat.reduceSub, Nat.reduceMul, e7], by simp -implicitDefEqProofs only [go_sem, Nat.reduceLT, Nat.reduceBEq, Nat.reduceAdd, Nat.reduceEqDiff, Nat.reduceLeDiff, Nat.reduceSub, Nat.reduceMul, e8]⟩, by simp -implicitDefEqProofs only [go_sem, Nat.reduceLT, Nat.reduceBEq, Nat.reduceAdd, Nat.reduceEqDiff, Nat.reduceLeDiff, Nat.reduceSub, Nat.reduceMul], rfl, bf, Nat.le_refl _, (fun h => by cases h), (fun _ s h1 h2 => absurd (show s < 1 from h2) (by omega)), (by show 0 < 1; omega), hS1⟩ ?_
    clear hfx bf e10 e8 e7 e6 e4 e2 ho c5 c4 c3 c2 c1 E H'
    rintro ⟨s, pot, b, ch⟩ E H' n' ⟨F, e10, e11, bf, hle, hlt, hfx, hs0, hs⟩
    dsimp only at F e10 e11 bf hle hlt hfx hs0 hs
    obtain ⟨rfl, c1, c2, c3, c4, c5, ho, e2, e4, e6, e7, e8⟩ := F
    simp -implicitDefEqProofs only [go_sem, Nat.reduceLT, Nat.reduceBEq, Nat.reduceAdd, Nat.reduceEqDiff, Nat.reduceLeDiff, Nat.reduceSub, Nat.reduceMul, e4, e11, cl, g7]
    refine c_split (fun hc => ?_) (fun hc => ?_)
    · have hsS : s < G.S := by omega
      simp -implicitDefEqProofs only [go_sem, Nat.reduceLT, Nat.reduceBEq, Nat.reduceAdd, Nat.reduceEqDiff, Nat.reduceLeDiff, Nat.reduceSub, Nat.reduceMul, e6, c2, g2, ed, d0]
      refine loop_rule (fun (x : Nat × (Nat → Int) × (Nat → Nat) × Bool) E H' n' => FreeSt H n G.S CL ED 0 x.2.1 x.2.2.1 E H' n' ∧ E 10 = .bool x.2.2.2 ∧ E 11 = .int .i64 (s : Nat) ∧ E 61 = .int .i64 (G.I : Nat) ∧ E 62 = .int .i64 (x.1 : Nat) ∧ G.Bf x.2.1 x.2.2.1 ∧ sumn (fun s => (x.2.1 s).toNat) G.S ≤ sumn (fun s => (pot0 s).toNat) G.S ∧ (x.2.2.2 = true → sumn (fun s => (x.2.1 s).toNat) G.S < sumn (fun s => (pot0 s).toNat) G.S) ∧ (x.2.2.2 = false → ∀ u, 0 < u → u < s → ∀ i, i < G.I → x.2.1 u ≤ (G.w (u * G.I + i) : Int) + x.2.1 (G.nx (u * G.I + i))) ∧ (x.2.2.2 = false → ∀ i, i < x.1 → x.2.1 s ≤ (G.w (s * G.I + i) : Int) + x.2.1 (G.nx (s * G.I + i))) ∧ x.1 ≤ G.I) (fun x => G.I - x.1) (0, pot, b, ch) ⟨⟨rfl, c1, c2, c3, c4, c5, ho, by simp -implicitDefEqProofs only [go_sem, Nat.reduceLT, Nat.reduceBEq, Nat.reduceAdd, Nat.reduceEqDiff, Nat.reduceLeDiff, Nat.reduceSub, Nat.reduceMul, e2], by simp -implicitDefEqProofs only [go_sem, Nat.reduceLT, Nat.reduceBEq, Nat.reduceAdd, Nat.reduceEqDiff, Nat.reduceLeDiff, Nat.reduceSub, Nat.reduceMul, e4], by simp -implicitDefEqProofs only [go_sem, Nat.reduceLT, Nat.reduceBEq, Nat.reduceAdd, Nat.reduceEqDiff, Nat.reduceLeDiff, Nat.reduceSub, Nat.reduceMul, e6], by simp -implicitDefEqProofs only [go_sem, Nat.reduceLT, Nat.reduceBEq, Nat.reduceAdd, Nat.reduceEqDiff, Nat.reduceLeDiff, Nat.reduceSub, Nat.reduceMul, e7], by simp -implicitDefEqProofs only [go_sem, Nat.reduceLT, Nat.reduceBEq, Nat.reduceAdd, Nat.reduceEqDiff, Nat.reduceLeDiff, Nat.reduceSub, Nat.reduceMul, e8]⟩, by simp -implicitDefEqProofs only [go_sem, Nat.reduceLT, Nat.reduceBEq, Nat.reduceAdd, Nat.reduceEqDiff, Nat.reduceLeDiff, Nat.reduceSub, Nat.reduceMul, e10], by simp -implicitDefEqProofs only [go_sem, Nat.reduceLT, Nat.reduceBEq, Nat.reduceAdd, Nat.reduceEqDiff, Nat.reduceLeDiff, Nat.reduceSub, Nat.reduceMul, e11], by simp -implicitDefEqProofs only [go_sem, Nat.reduceLT, Nat.reduceBEq, Nat.reduceAdd, Nat.reduceEqDiff, Nat.reduceLeDiff, Nat.reduceSub, Nat.reduceMul], rfl, bf, hle, hlt, hfx, (fun _ i hi => absurd (show i < 0 from hi) (by omega)), Nat.zero_le _⟩ ?_
      clear hfx hlt hle bf e10 e11 e8 e7 e6 e4 e2 ho c5 c4 c3 c2 c1 E H'
      rintro ⟨i, pot, b, ch⟩ E H' n' ⟨F, e10, e11, e61, e62, bf, hle, hlt, hfx, hfi, hi⟩
      dsimp only at F e10 e11 e61 e62 bf hle hlt hfx hfi hi
      obtain ⟨rfl, c1, c2, c3, c4, c5, ho, e2, e4, e6, e7, e8⟩ := F
      simp -implicitDefEqProofs only [go_sem, Nat.reduceLT, Nat.reduceBEq, Nat.reduceAdd, Nat.reduceEqDiff, Nat.reduceLeDiff, Nat.reduceSub, Nat.reduceMul, e61, e62]
      refine c_split (fun hc' => ?_) (fun hc' => ?_)
      · have hiI : i < G.I := by omega
        have hwi := wrap64 (x := (i : Int) + 1) (by omega)
        have ha := G.at_lt hsS hiI
        have hm : IntKind.i64.wrap (((s : Nat) : Int) * ((G.I : Nat) : Int)) = ((s * G.I : Nat) : Int) := by
          rw [← Int.natCast_mul]; exact wrap64 (by omega)
        have hadd : IntKind.i64.wrap (((s * G.I : Nat) : Int) + ((i : Nat) : Int)) = ((s * G.I + i : Nat) : Int) := wrap64 (by omega)
        have hna := hnx (s * G.I + i)
        have hwa := hW (s * G.I + i)
        have hnl := G.hn _ ha
        have hrl := bf.rg _ hnl
        have hrx := @Gf.Bf.relax G pot b bf s i hs0 hsS hiI
        have haI : ((s * G.I + i : Nat) : Int) < ((G.S * G.I : Nat) : Int) := by omega
        have ha0 := Int.natCast_nonneg (s * G.I + i)
        have hfi' : ∀ p : Nat → Int, (∀ u, p u = pot u) → True := fun _ _ => trivial
        have hwe : ((G.w (s * G.I + i) : Nat) : Int) = ((G.w (s * G.I + i) : Nat) : Int) := rfl
        have hgoal : ∀ j, j < i + 1 → j = i ∨ j < i := fun j hj => by omega
        generalize hat : s * G.I + i = at' at *
        generalize hnt : G.nx at' = t at *
        generalize hwv : G.w at' = wv at *
        have hs0' := Int.natCast_nonneg s
        have ht0 := Int.natCast_nonneg t
        have htI : ((t : Nat) : Int) < ((G.S : Nat) : Int) := by omega
        have hv := wrap64 (x := ((wv : Nat) : Int) + pot t) (by omega)
        simp -implicitDefEqProofs only [go_sem, Nat.reduceLT, Nat.reduceBEq, Nat.reduceAdd, Nat.reduceEqDiff, Nat.reduceLeDiff, Nat.reduceSub, Nat.reduceMul, e6, e7, e11, e62, c2, c3, c4, g2, g3, g4, ed, d0, d1, d2, hm, hadd, ha0, haI, ha, gat_tab, hna, hwv, ht0, htI, hnl, hv, hs0', hc, hsS]
        refine c_split (fun hlt' => ?_) (fun hlt' => ?_)
        · have bf' := hrx rfl hlt'
          have hcast := upf_cast b s i
          have hps := bf.rg s hsS
          have hsum : sumn (fun u => (upf pot s (((wv : Nat) : Int) + pot t) u).toNat) G.S < sumn (fun u => (pot u).toNat) G.S := by
            have h1 : (fun u => (upf pot s (((wv : Nat) : Int) + pot t) u).toNat) = upf (fun u => (pot u).toNat) s (((wv : Nat) : Int) + pot t).toNat := by
              funext u
              unfold upf
              by_cases eu : u = s
              · rw [if_pos eu, if_pos eu]
              · rw [if_neg eu, if_neg eu]
            rw [h1]
            exact sumn_upf hsS (by omega)
          simp -implicitDefEqProofs only [go_sem, Nat.reduceLT, Nat.reduceBEq, Nat.reduceAdd, Nat.reduceEqDiff, Nat.reduceLeDiff, Nat.reduceSub, Nat.reduceMul, e7, e8, e11, e62, hwi, c3, c4, c5, g3, g4, g5, hs0', hc, hsS, hcast]
          repeat with_reducible refine And.intro (by omega) ?_
          refine l_n ⟨(i + 1, upf pot s (((wv : Nat) : Int) + pot t), upf b s i, true), by show G.I - (i + 1) < G.I - i; omega, ⟨rfl, ?_, ?_, ?_, ?_, ?_, fun b hb => ?_, by simp -implicitDefEqProofs only [go_sem, Nat.reduceLT, Nat.reduceBEq, Nat.reduceAdd, Nat.reduceEqDiff, Nat.reduceLeDiff, Nat.reduceSub, Nat.reduceMul, e2], by simp -implicitDefEqProofs only [go_sem, Nat.reduceLT, Nat.reduceBEq, Nat.reduceAdd, Nat.reduceEqDiff, Nat.reduceLeDiff, Nat.reduceSub, Nat.reduceMul, e4], by simp -implicitDefEqProofs only [go_sem, Nat.reduceLT, Nat.reduceBEq, Nat.reduceAdd, Nat.reduceEqDiff, Nat.reduceLeDiff, Nat.reduceSub, Nat.reduceMul, e6], by simp -implicitDefEqProofs only [go_sem, Nat.reduceLT, Nat.reduceBEq, Nat.reduceAdd, Nat.reduceEqDiff, Nat.reduceLeDiff, Nat.reduceSub, Nat.reduceMul, e7], by simp -implicitDefEqProofs only [go_sem, Nat.reduceLT, Nat.reduceBEq, Nat.reduceAdd, Nat.reduceEqDiff, Nat.reduceLeDiff, Nat.reduceSub, Nat.reduceMul, e8]⟩, by simp -implicitDefEqProofs only [go_sem, Nat.reduceLT, Nat.reduceBEq, Nat.reduceAdd, Nat.reduceEqDiff, Nat.reduceLeDiff, Nat.reduceSub, Nat.reduceMul], by simp -implicitDefEqProofs only [go_sem, Nat.reduceLT, Nat.reduceBEq, Nat.reduceAdd, Nat.reduceEqDiff, Nat.reduceLeDiff, Nat.reduceSub, Nat.reduceMul, e11], by simp -implicitDefEqProofs only [go_sem, Nat.reduceLT, Nat.reduceBEq, Nat.reduceAdd, Nat.reduceEqDiff, Nat.reduceLeDiff, Nat.reduceSub, Nat.reduceMul, e61], by simp -implicitDefEqProofs only [go_sem, Nat.reduceLT, Nat.reduceBEq, Nat.reduceAdd, Nat.reduceEqDiff, Nat.reduceLeDiff, Nat.reduceSub, Nat.reduceMul]; rfl, bf', by show sumn (fun u => (upf pot s (((wv : Nat) : Int) + pot t) u).toNat) G.S ≤ _; omega, fun _ => by show sumn (fun u => (upf pot s (((wv : Nat) : Int) + pot t) u).toNat) G.S < _; omega, (fun h0 => by cases h0), (fun h0 => by cases h0), hiI⟩
          · rw [upd_ne _ _ (by omega), upd_ne _ _ (by omega)]; exact c1
          · rw [upd_ne _ _ (by omega), upd_ne _ _ (by omega)]; exact c2
          · rw [upd_ne _ _ (by omega), upd_same]
          · rw [upd_ne _ _ (by omega), upd_ne _ _ (by omega)]; exact c4
          · rw [upd_same]
          · rw [upd_ne _ _ (by omega), upd_ne _ _ (by omega)]; exact ho b hb
        · simp -implicitDefEqProofs only [go_sem, Nat.reduceLT, Nat.reduceBEq, Nat.reduceAdd, Nat.reduceEqDiff, Nat.reduceLeDiff, Nat.reduceSub, Nat.reduceMul, e62, hwi]
          refine l_n ⟨(i + 1, pot, b, ch), by show G.I - (i + 1) < G.I - i; omega, ⟨rfl, c1, c2, c3, c4, c5, ho, by simp -implicitDefEqProofs only [go_sem, Nat.reduceLT, Nat.reduceBEq, Nat.reduceAdd, Nat.reduceEqDiff, Nat.reduceLeDiff, Nat.reduceSub, Nat.reduceMul, e2], by simp -implicitDefEqProofs only [go_sem, Nat.reduceLT, Nat.reduceBEq, Nat.reduceAdd, Nat.reduceEqDiff, Nat.reduceLeDiff, Nat.reduceSub, Nat.reduceMul, e4], by simp -implicitDefEqProofs only [go_sem, Nat.reduceLT, Nat.reduceBEq, Nat.reduceAdd, Nat.reduceEqDiff, Nat.reduceLeDiff, Nat.reduceSub, Nat.reduceMul, e6], by simp -implicitDefEqProofs only [go_sem, Nat.reduceLT, Nat.reduceBEq, Nat.reduceAdd, Nat.reduceEqDiff, Nat.reduceLeDiff, Nat.reduceSub, Nat.reduceMul, e7], by simp -implicitDefEqProofs only [go_sem, Nat.reduceLT, Nat.reduceBEq, Nat.reduceAdd, Nat.reduceEqDiff, Nat.reduceLeDiff, Nat.reduceSub, Nat.reduceMul, e8]⟩, by simp -implicitDefEqProofs only [go_sem, Nat.reduceLT, Nat.reduceBEq, Nat.reduceAdd, Nat.reduceEqDiff, Nat.reduceLeDiff, Nat.reduceSub, Nat.reduceMul, e10], by simp -implicitDefEqProofs only [go_sem, Nat.reduceLT, Nat.reduceBEq, Nat.reduceAdd, Nat.reduceEqDiff, Nat.reduceLeDiff, Nat.reduceSub, Nat.reduceMul, e11], by simp -implicitDefEqProofs only [go_sem, Nat.reduceLT, Nat.reduceBEq, Nat.reduceAdd, Nat.reduceEqDiff, Nat.reduceLeDiff, Nat.reduceSub, Nat.reduceMul, e61], by simp -implicitDefEqProofs only [go_sem, Nat.reduceLT, Nat.reduceBEq, Nat.reduceAdd, Nat.reduceEqDiff, Nat.reduceLeDiff, Nat.reduceSub, Nat.reduceMul]; rfl, bf, hle, hlt, hfx, fun h0 j hj => ?_, hiI⟩
          show pot s ≤ ((G.w (s * G.I + j) : Nat) : Int) + pot (G.nx (s * G.I + j))
          rcases hgoal j hj with e1 | e1
          · rw [e1, hat, hnt, hwv]; omega
          · exact hfi h0 j e1
      · have : i = G.I := by omega
        subst this
        have hws := wrap64 (x := (s : Int) + 1) (by omega)
        simp -implicitDefEqProofs only [go_sem, Nat.reduceLT, Nat.reduceBEq, Nat.reduceAdd, Nat.reduceEqDiff, Nat.reduceLeDiff, Nat.reduceSub, Nat.reduceMul, e11, hws]
        refine l_n ⟨(s + 1, pot, b, ch), by show G.S - (s + 1) < G.S - s; omega, ⟨rfl, c1, c2, c3, c4, c5, ho, by simp -implicitDefEqProofs only [go_sem, Nat.reduceLT, Nat.reduceBEq, Nat.reduceAdd, Nat.reduceEqDiff, Nat.reduceLeDiff, Nat.reduceSub, Nat.reduceMul, e2], by simp -implicitDefEqProofs only [go_sem, Nat.reduceLT, Nat.reduceBEq, Nat.reduceAdd, Nat.reduceEqDiff, Nat.reduceLeDiff, Nat.reduceSub, Nat.reduceMul, e4], by simp -implicitDefEqProofs only [go_sem, Nat.reduceLT, Nat.reduceBEq, Nat.reduceAdd, Nat.reduceEqDiff, Nat.reduceLeDiff, Nat.reduceSub, Nat.reduceMul, e6], by simp -implicitDefEqProofs only [go_sem, Nat.reduceLT, Nat.reduceBEq, Nat.reduceAdd, Nat.reduceEqDiff, Nat.reduceLeDiff, Nat.reduceSub, Nat.reduceMul, e7], by simp -implicitDefEqProofs only [go_sem, Nat.reduceLT, Nat.reduceBEq, Nat.reduceAdd, Nat.reduceEqDiff, Nat.reduceLeDiff, Nat.reduceSub, Nat.reduceMul, e8]⟩, by simp -implicitDefEqProofs only [go_sem, Nat.reduceLT, Nat.reduceBEq, Nat.reduceAdd, Nat.reduceEqDiff, Nat.reduceLeDiff, Nat.reduceSub, Nat.reduceMul, e10], by simp -implicitDefEqProofs only [go_sem, Nat.reduceLT, Nat.reduceBEq, Nat.reduceAdd, Nat.reduceEqDiff, Nat.reduceLeDiff, Nat.reduceSub, Nat.reduceMul]; rfl, bf, hle, hlt, fun h0 u u0 u1 j hj => ?_, by show 0 < s + 1; omega, hsS⟩
        by_cases eu : u = s
        · subst eu; exact hfi h0 j hj
        · exact hfx h0 u u0 (by have : u < s + 1 := u1; omega) j hj
    · have : s = G.S := by omega
      subst this
      simp -implicitDefEqProofs only [go_sem, Nat.reduceLT, Nat.reduceBEq, Nat.reduceAdd, Nat.reduceEqDiff, Nat.reduceLeDiff, Nat.reduceSub, Nat.reduceMul]
      refine l_n ⟨(pot, b, ch), ?_, ⟨rfl, c1, c2, c3, c4, c5, ho, by simp -implicitDefEqProofs only [go_sem, Nat.reduceLT, Nat.reduceBEq, Nat.reduceAdd, Nat.reduceEqDiff, Nat.reduceLeDiff, Nat.reduceSub, Nat.reduceMul, e2], by simp -implicitDefEqProofs only [go_sem, Nat.reduceLT, Nat.reduceBEq, Nat.reduceAdd, Nat.reduceEqDiff, Nat.reduceLeDiff, Nat.reduceSub, Nat.reduceMul, e4], by simp -implicitDefEqProofs only [go_sem, Nat.reduceLT, Nat.reduceBEq, Nat.reduceAdd, Nat.reduceEqDiff, Nat.reduceLeDiff, Nat.reduceSub, Nat.reduceMul, e6], by simp -implicitDefEqProofs only [go_sem, Nat.reduceLT, Nat.reduceBEq, Nat.reduceAdd, Nat.reduceEqDiff, Nat.reduceLeDiff, Nat.reduceSub, Nat.reduceMul, e7], by simp -implicitDefEqProofs only [go_sem, Nat.reduceLT, Nat.reduceBEq, Nat.reduceAdd, Nat.reduceEqDiff, Nat.reduceLeDiff, Nat.reduceSub, Nat.reduceMul, e8]⟩, by simp -implicitDefEqProofs only [go_sem, Nat.reduceLT, Nat.reduceBEq, Nat.reduceAdd, Nat.reduceEqDiff, Nat.reduceLeDiff, Nat.reduceSub, Nat.reduceMul, e10], bf, fun h0 u u0 u1 j hj => hfx h0 u u0 u1 j hj⟩
      show 2 * sumn (fun s => (pot s).toNat) G.S + (if ch = true then 1 else 0) < 2 * sumn (fun s => (pot0 s).toNat) G.S + 1
      cases ch with
      | true => have := hlt rfl; rw [if_pos rfl]; omega
      | false => rw [if_neg (by decide)]; omega
  case false =>
    have hFx := hfx rfl
    have hI := G.hI
    have hN : ∀ i, i < G.I → i < G.S * G.I := fun i hi => by have := G.at_lt G.hS hi; omega
    have hn0 : (0 : Nat) < G.S := G.hS
    simp -implicitDefEqProofs only [go_sem, Nat.reduceLT, Nat.reduceBEq, Nat.reduceAdd, Nat.reduceEqDiff, Nat.reduceLeDiff, Nat.reduceSub, Nat.reduceMul, e7, c4, g4]
    repeat with_reducible refine And.intro (by omega) ?_
    refine loop_rule (fun (x : Nat × Int × (Nat → Nat)) E H' n' => FreeSt H n G.S CL ED x.2.1 pot0 x.2.2 E H' n' ∧ E 15 = .int .i64 (x.1 : Nat) ∧ G.Bf pot0 x.2.2 ∧ (x.1 = 1 → x.2.1 = 4294967296) ∧ (1 < x.1 → 0 < x.2.2 0 ∧ (G.w (x.2.2 0) : Int) + pot0 (G.nx (x.2.2 0)) = x.2.1) ∧ (∀ j, 0 < j → j < x.1 → x.2.1 ≤ (G.w j : Int) + pot0 (G.nx j)) ∧ 0 < x.1 ∧ x.1 ≤ G.I) (fun x => G.I - x.1) (1, 4294967296, b0) ?_ ?_
    · refine ⟨⟨rfl, by rw [upd_ne _ _ (by omega)]; exact c1, by rw [upd_ne _ _ (by omega)]; exact c2, by rw [upd_ne _ _ (by omega)]; exact c3, by simp -implicitDefEqProofs only [go_sem, Nat.reduceLT, Nat.reduceBEq, Nat.reduceAdd, Nat.reduceEqDiff, Nat.reduceLeDiff, Nat.reduceSub, Nat.reduceMul], by rw [upd_ne _ _ (by omega)]; exact c5, fun b hb => by rw [upd_ne _ _ (by omega)]; exact ho b hb, by simp -implicitDefEqProofs only [go_sem, Nat.reduceLT, Nat.reduceBEq, Nat.reduceAdd, Nat.reduceEqDiff, Nat.reduceLeDiff, Nat.reduceSub, Nat.reduceMul, e2], by simp -implicitDefEqProofs only [go_sem, Nat.reduceLT, Nat.reduceBEq, Nat.reduceAdd, Nat.reduceEqDiff, Nat.reduceLeDiff, Nat.reduceSub, Nat.reduceMul, e4], by simp -implicitDefEqProofs only [go_sem, Nat.reduceLT, Nat.reduceBEq, Nat.reduceAdd, Nat.reduceEqDiff, Nat.reduceLeDiff, Nat.reduceSub, Nat.reduceMul, e6], by simp -implicitDefEqProofs only [go_sem, Nat.reduceLT, Nat.reduceBEq, Nat.reduceAdd, Nat.reduceEqDiff, Nat.reduceLeDiff, Nat.reduceSub, Nat.reduceMul, e7], by simp -implicitDefEqProofs only [go_sem, Nat.reduceLT, Nat.reduceBEq, Nat.reduceAdd, Nat.reduceEqDiff, Nat.reduceLeDiff, Nat.reduceSub, Nat.reduceMul, e8]⟩, rfl, bf, fun _ => rfl, fun h0 => absurd h0 (by show ¬ (1 : Nat) < 1; omega), fun j h1 h2 => absurd (show j < 1 from h2) (by omega), by show 0 < 1; omega, by show 1 ≤ G.I; omega⟩
    clear hfx bf e10 e8 e7 e6 e4 e2 ho c5 c4 c3 c2 c1 E H'
    rintro ⟨i, D, b⟩ E H' n' ⟨F, e15, bf, hd1, hd2, hdm, hi0, hi⟩
    dsimp only at F e15 bf hd1 hd2 hdm hi0 hi
    obtain ⟨rfl, c1, c2, c3, c4, c5, ho, e2, e4, e6, e7, e8⟩ := F
    simp -implicitDefEqProofs only [go_sem, Nat.reduceLT, Nat.reduceBEq, Nat.reduceAdd, Nat.reduceEqDiff, Nat.reduceLeDiff, Nat.reduceSub, Nat.reduceMul, e6, e15, c2, g2, ed, d0]
    refine c_split (fun hc => ?_) (fun hc => ?_)
    · have hiI : i < G.I := by omega
      have hwi := wrap64 (x := (i : Int) + 1) (by omega)
      have ha := hN i hiI
      have haI : ((i : Nat) : Int) < ((G.S * G.I : Nat) : Int) := by omega
      have ha0 := Int.natCast_nonneg i
      have hna := hnx i
      have hnl := G.hn _ ha
      have hwa := hW i
      have hrl := bf.rg _ hnl
      generalize hnt : G.nx i = t at *
      generalize hwv : G.w i = wv at *
      have ht0 := Int.natCast_nonneg t
      have htI : ((t : Nat) : Int) < ((G.S : Nat) : Int) := by omega
      have hv := wrap64 (x := ((wv : Nat) : Int) + pot0 t) (by omega)
      simp -implicitDefEqProofs only [go_sem, Nat.reduceLT, Nat.reduceBEq, Nat.reduceAdd, Nat.reduceEqDiff, Nat.reduceLeDiff, Nat.reduceSub, Nat.reduceMul, e6, e7, e15, c2, c3, c4, g2, g3, g4, ed, d0, d1, d2, ha0, haI, ha, gat_tab, hna, hwv, ht0, htI, hnl, hv]
      refine c_split (fun hlt' => ?_) (fun hlt' => ?_)
      · have hcast := upf_cast b 0 i
        have z4 : (0 : Int).toNat = 0 := rfl
        have z5 : (0 : Int) ≤ 0 := Int.le_refl 0
        have z6 : (0 : Int) < ((G.S : Nat) : Int) := by omega
        have bf' := bf.at0 hiI
        simp -implicitDefEqProofs only [go_sem, Nat.reduceLT, Nat.reduceBEq, Nat.reduceAdd, Nat.reduceEqDiff, Nat.reduceLeDiff, Nat.reduceSub, Nat.reduceMul, e7, e8, e15, c3, c4, c5, g3, g4, g5, hn0, hcast, hwi, z4, z5, z6]
        repeat with_reducible refine And.intro (by omega) ?_
        refine l_n ⟨(i + 1, ((wv : Nat) : Int) + pot0 t, upf b 0 i), by show G.I - (i + 1) < G.I - i; omega, ⟨rfl, ?_, ?_, ?_, ?_, ?_, fun b hb => ?_, by simp -implicitDefEqProofs only [go_sem, Nat.reduceLT, Nat.reduceBEq, Nat.reduceAdd, Nat.reduceEqDiff, Nat.reduceLeDiff, Nat.reduceSub, Nat.reduceMul, e2], by simp -implicitDefEqProofs only [go_sem, Nat.reduceLT, Nat.reduceBEq, Nat.reduceAdd, Nat.reduceEqDiff, Nat.reduceLeDiff, Nat.reduceSub, Nat.reduceMul, e4], by simp -implicitDefEqProofs only [go_sem, Nat.reduceLT, Nat.reduceBEq, Nat.reduceAdd, Nat.reduceEqDiff, Nat.reduceLeDiff, Nat.reduceSub, Nat.reduceMul, e6], by simp -implicitDefEqProofs only [go_sem, Nat.reduceLT, Nat.reduceBEq, Nat.reduceAdd, Nat.reduceEqDiff, Nat.reduceLeDiff, Nat.reduceSub, Nat.reduceMul, e7], by simp -implicitDefEqProofs only [go_sem, Nat.reduceLT, Nat.reduceBEq, Nat.reduceAdd, Nat.reduceEqDiff, Nat.reduceLeDiff, Nat.reduceSub, Nat.reduceMul, e8]⟩, by simp -implicitDefEqProofs only [go_sem, Nat.reduceLT, Nat.reduceBEq, Nat.reduceAdd, Nat.reduceEqDiff, Nat.reduceLeDiff, Nat.reduceSub, Nat.reduceMul]; rfl, bf', fun h0 => absurd (show i + 1 = 1 from h0) (by omega), fun _ => ?_, fun j j0 j1 => ?_, by show 0 < i + 1; omega, hiI⟩
        · rw [upd_ne _ _ (by omega), upd_ne _ _ (by omega)]; exact c1
        · rw [upd_ne _ _ (by omega), upd_ne _ _ (by omega)]; exact c2
        · rw [upd_ne _ _ (by omega), upd_ne _ _ (by omega)]; exact c3
        · rw [upd_ne _ _ (by omega), upd_same]
        · rw [upd_same]
        · rw [upd_ne _ _ (by omega), upd_ne _ _ (by omega)]; exact ho b hb
        · show 0 < upf b 0 i 0 ∧ ((G.w (upf b 0 i 0) : Nat) : Int) + pot0 (G.nx (upf b 0 i 0)) = ((wv : Nat) : Int) + pot0 t
          rw [upf_same, hwv, hnt]; exact ⟨hi0, rfl⟩
        · show ((wv : Nat) : Int) + pot0 t ≤ _
          by_cases ej : j = i
          · rw [ej, hwv, hnt]; exact Int.le_refl _
          · have := hdm j j0 (by have : j < i + 1 := j1; omega)
            omega
      · simp -implicitDefEqProofs only [go_sem, Nat.reduceLT, Nat.reduceBEq, Nat.reduceAdd, Nat.reduceEqDiff, Nat.reduceLeDiff, Nat.reduceSub, Nat.reduceMul, e15, hwi]
        refine l_n ⟨(i + 1, D, b), by show G.I - (i + 1) < G.I - i; omega, ⟨rfl, c1, c2, c3, c4, c5, ho, by simp -implicitDefEqProofs only [go_sem, Nat.reduceLT, Nat.reduceBEq, Nat.reduceAdd, Nat.reduceEqDiff, Nat.reduceLeDiff, Nat.reduceSub, Nat.reduceMul, e2], by simp -implicitDefEqProofs only [go_sem, Nat.reduceLT, Nat.reduceBEq, Nat.reduceAdd, Nat.reduceEqDiff, Nat.reduceLeDiff, Nat.reduceSub, Nat.reduceMul, e4], by simp -implicitDefEqProofs only [go_sem, Nat.reduceLT, Nat.reduceBEq, Nat.reduceAdd, Nat.reduceEqDiff, Nat.reduceLeDiff, Nat.reduceSub, Nat.reduceMul, e6], by simp -implicitDefEqProofs only [go_sem, Nat.reduceLT, Nat.reduceBEq, Nat.reduceAdd, Nat.reduceEqDiff, Nat.reduceLeDiff, Nat.reduceSub, Nat.reduceMul, e7], by simp -implicitDefEqProofs only [go_sem, Nat.reduceLT, Nat.reduceBEq, Nat.reduceAdd, Nat.reduceEqDiff, Nat.reduceLeDiff, Nat.reduceSub, Nat.reduceMul, e8]⟩, by simp -implicitDefEqProofs only [go_sem, Nat.reduceLT, Nat.reduceBEq, Nat.reduceAdd, Nat.reduceEqDiff, Nat.reduceLeDiff, Nat.reduceSub, Nat.reduceMul]; rfl, bf, fun h0 => absurd (show i + 1 = 1 from h0) (by omega), fun _ => ?_, fun j j0 j1 => ?_, by show 0 < i + 1; omega, hiI⟩
        · by_cases ei : i = 1
          · have := hd1 ei; omega
          · exact hd2 (by omega)
        · show D ≤ _
          by_cases ej : j = i
          · rw [ej, hwv, hnt]; omega
          · exact hdm j j0 (by have : j < i + 1 := j1; omega)
    · have : i = G.I := by omega
      subst this
      have hd2 := hd2 (by omega)
      have hz' : ∀ s, s < G.S → G.walk (fun _ => 0) (e.mem e.r) s = 0 := hz
      obtain ⟨T, fin⟩ := G.fin bf hFx (W := 70) (m := e.mem e.r) (fun a _ => hW a) (by have : 70 * e.mem e.r ≤ 70 * 40 := Nat.mul_le_mul_left _ hmem; omega) hz' hd2.1 hd2.2 hdm
      have h3 : List.take 3 ED = ED := by rw [← hED]; rfl
      have hT := fin.t1
      have sP := sPt (upd H' (n + 5) none) (n + 6) b T bf.bi fin.t0 (by omega) fin.t2 fin.t3
      generalize hms : msg T (fun _ => e.r) (fun j => inp M (b (G.sq b j))) = MS at *
      have mc : isCell MS = true := by rw [← hms]; rfl
      have mg : gcells MS = some [MS] := by rw [← hms]; rfl
      simp -implicitDefEqProofs only [go_sem, Nat.reduceLT, Nat.reduceBEq, Nat.reduceAdd, Nat.reduceEqDiff, Nat.reduceLeDiff, Nat.reduceSub, Nat.reduceMul, e4, e6, e8, c2, g2, ed, h3]
      refine call_of (spec_frz (xs := [.pp CL 0, .agg ED]) (ys := []) g5 c5 tab_len sP) ?_
      have f45 : n + 4 ≠ n + 5 := by omega
      have f15 : n + 1 ≠ n + 5 := by omega
      have f14 : n + 1 ≠ n + 4 := by omega
      have d4 : upd H' (n + 5) none (n + 4) = some [.int .i64 D, .nil, .own (n + 3) 0 G.S] := by rw [upd_ne _ _ f45]; exact c4
      have d1' : upd H' (n + 5) none (n + 1) = some [.int .i64 0, .nil, .nil] := by rw [upd_ne _ _ f15]; exact c1
      have d3 : upd H' (n + 5) none (n + 3) = some (tab G.S (it pot0)) := by rw [upd_ne _ _ (by omega)]; exact c3
      have do' : ∀ b, b < n → upd H' (n + 5) none b = H b := fun b hb => by rw [upd_ne _ _ (by omega)]; exact ho b hb
      generalize upd H' (n + 5) none = H5 at *
      simp -implicitDefEqProofs only [go_sem, Nat.reduceLT, Nat.reduceBEq, Nat.reduceAdd, Nat.reduceEqDiff, Nat.reduceLeDiff, Nat.reduceSub, Nat.reduceMul, e2, e7, d4, d1', g4, g1, mc, mg, upd_no, f14]
      repeat with_reducible refine And.intro (by omega) ?_
      refine ⟨_, H, n, ⟨rfl, rfl, pot0, b, D, T, fin, rfl⟩, ends_told hF ?_⟩
      rw [hms]
      refine fin_ct (b := n + 1) (o := 0) rfl (by decide) (by decide) (by simp -implicitDefEqProofs only [go_sem, Nat.reduceLT, Nat.reduceBEq, Nat.reduceAdd, Nat.reduceEqDiff, Nat.reduceLeDiff, Nat.reduceSub, Nat.reduceMul, e2]) (by simp -implicitDefEqProofs only [go_sem, Nat.reduceLT, Nat.reduceBEq, Nat.reduceAdd, Nat.reduceEqDiff, Nat.reduceLeDiff, Nat.reduceSub, Nat.reduceMul, upd_no]; rfl) (by show 3 ≤ 3; omega) ?_ (by simp -implicitDefEqProofs only [go_sem, Nat.reduceLT, Nat.reduceBEq, Nat.reduceAdd, Nat.reduceEqDiff, Nat.reduceLeDiff, Nat.reduceSub, Nat.reduceMul]; exact fz_int rfl) fun b hb => ?_
      · refine .agg _ _ rfl fun j hj => ?_
        rcases j with _ | _ | _ | j
        · exact .int _ _
        · show Tr _ n n id MS MS
          rw [← hms]
          exact (Pl.sl _ _ (pl_tab fun _ _ => pl_isl _ _)).tr
        · refine fz_own_isl ?_ (by omega)
          rw [upd_ne _ _ (by omega), upd_ne _ _ (by omega)]; exact d3
        · have : j + 3 < 3 := hj
          omega
      · rw [upd_ne _ _ (by omega), upd_ne _ _ (by omega)]; exact do' b hb
end
end Go.Proofs.Ytdpibcniodhinaa.Gh
/- The reference's least distances and free distance. -/
namespace Go.Proofs.Ytdpibcniodhinaa.Gh
open Go Go.RowKit
open Alg (CR Ps Dg Zm Mn El Cg sm pw Irr Prm)
set_option linter.unusedVariables false
set_option linter.unusedSimpArgs false
section
variable {k : Nat} {M : Mn k}
structure LeastSt (H : Heap) (n S : Nat) (ecs : List GV) (L : Nat → Int) (E : Env) (H' : Heap) (n' : Nat) : Prop where
  hn : n' = n + 2
  c0 : H' n = some ecs
  c1 : H' (n + 1) = some (tab S (it L))
  ho : ∀ b, b < n → H' b = H b
  e1 : E 1 = .ptr n 0
  e3 : E 3 = .own (n + 1) 0 S
set_option maxHeartbeats 8000000 in
theorem sp_Least {H : Heap} {n : Nat} (e : Enc) (hB : e.Bnd) (h : Fi M) (hd : e.Des M) (hce : e.ce = 0) (hr0 : 0 < e.r) {pot : Nat → Int} {b : Nat → Nat} {D : Int} {T : Nat} (fin : (e.G h hr0).Fin pot b D T) : Spec prog fid_ref20_Least [e.gv] H n (isl (qn M ^ e.ds e.r) pot) H n := by
  refine spec_ends hmix ok_ref20_Least rfl fun hF => ?_
  show gw prog B_ref20_Least _ (tl 69 _) H n
  have hr := hB.r
  have hq2 := qn_two M
  have hw0 := hB.w 0 hr0
  have hp := Enc.pow_tot h hd hce
  have hpr := Enc.pow_r h hd hce
  have hI1 : 1 ≤ qn M ^ e.r := Nat.pow_pos (by omega)
  have hI2 := hpr e.r (Nat.le_refl _)
  have hS1 : 1 ≤ qn M ^ e.ds e.r := Nat.pow_pos (by omega)
  have hS2 : qn M ^ e.ds e.r ≤ 65536 := Enc.pow_le h hd hce _ (Nat.le_refl _)
  have hW : ∀ a, (e.G h hr0).w a ≤ 70 := fun a => Enc.owa_le (e := e) (M := M) hB hr0 a
  have hSS : qn M ^ e.ds e.r = (e.G h hr0).S := rfl
  have hII : qn M ^ e.r = (e.G h hr0).I := rfl
  have sIs : ∀ (H : Heap) (n : Nat), Spec prog fid_ref20_Inputs [e.gv] H n (.int .i64 ((e.G h hr0).I : Nat)) H n := fun H n => sp_ref20_Inputs e hB h hd hce
  have sSs : ∀ (H : Heap) (n : Nat), Spec prog fid_ref20_States [e.gv] H n (.int .i64 ((e.G h hr0).S : Nat)) H n := fun H n => sp_ref20_States e hB h hd hce
  have sIn : ∀ (H : Heap) (n x : Nat), x < (e.G h hr0).I → Spec prog fid_ref20_Input [e.gv, .int .i64 (x : Nat)] H n (isl e.r (inp M x)) H n := fun H n x hx => sp_ref20_Input e hB h hd hr0 x (by rw [hII] at hI2; omega)
  have sNx : ∀ (H : Heap) (n s x : Nat), s < (e.G h hr0).S → x < (e.G h hr0).I → Spec prog fid_ref20_Next [e.gv, .int .i64 (s : Nat), isl e.r (inp M x)] H n (.tup [.int .i64 ((e.G h hr0).nx (s * (e.G h hr0).I + x) : Nat), isl (e.w 0) (e.orw M s x)]) H n := fun H n s x hs hx => by
    have h1 := sp_ref20_Next (H := H) (n := n) e hB h hd hce ((s : Nat) : Int) (inp M x) (by omega) (by rw [← hSS] at hs; omega) fun i _ => inp_in x i
    have h2 := e.G_nx h hr0 (s * (e.G h hr0).I + x)
    have h3 : e.nxa M (s * (e.G h hr0).I + x) = e.nx (qn M : Nat) (s : Nat) (inp M x) e.r 0 := by rw [Enc.nxa, hII, div_at hx, mod_at hx]
    rw [← h3, h2] at h1
    exact h1
  have sWt : ∀ (H : Heap) (n s x : Nat), x < (e.G h hr0).I → Spec prog fid_ref20_Weight [.lit [isl (e.w 0) (e.orw M s x)]] H n (.int .i64 ((e.G h hr0).w (s * (e.G h hr0).I + x) : Nat)) H n := fun H n s x hx => by
    have h1 := sp_Weight1 (H := H) (n := n) (e.w 0) (e.orw M s x) (by omega)
    have h2 : (e.G h hr0).w (s * (e.G h hr0).I + x) = wt (e.w 0) (e.orw M s x) := by
      show e.owa M _ = _
      rw [Enc.owa, hII, div_at hx, mod_at hx]
    rwa [← h2] at h1
  have hecs : e.cs = e.cs := rfl
  rw [hSS, hII] at hp
  rw [hSS] at hS1 hS2
  rw [hII] at hI1 hI2
  rw [hSS]
  generalize e.G h hr0 = G at *
  generalize e.orw M = OR at *
  clear hSS hII
  have hu : ∀ x b, b < n → upd H n x b = H b := fun x b hb => upd_ne _ _ (by omega)
  simp -implicitDefEqProofs only [B_ref20_Least, go_sem, Nat.reduceLT, Nat.reduceBEq, Nat.reduceAdd, Nat.reduceEqDiff, Nat.reduceLeDiff, Nat.reduceSub, Nat.reduceMul]
  refine call_of (sSs _ _) ?_
  simp -implicitDefEqProofs only [go_sem, Nat.reduceLT, Nat.reduceBEq, Nat.reduceAdd, Nat.reduceEqDiff, Nat.reduceLeDiff, Nat.reduceSub, Nat.reduceMul]
  repeat with_reducible refine And.intro (by omega) ?_
  refine loop_rule (fun (j : Nat) E H' n' => LeastSt H n G.S e.cs (ini 1073741824 j) E H' n' ∧ E 4 = .int .i64 (j : Nat) ∧ 0 < j ∧ j ≤ G.S) (fun j => G.S - j) 1 ?_ ?_
  · refine ⟨⟨rfl, by simp -implicitDefEqProofs only [go_sem, Nat.reduceLT, Nat.reduceBEq, Nat.reduceAdd, Nat.reduceEqDiff, Nat.reduceLeDiff, Nat.reduceSub, Nat.reduceMul, upd_no], ?_, fun b hb => ?_, rfl, by simp -implicitDefEqProofs only [go_sem, Nat.reduceLT, Nat.reduceBEq, Nat.reduceAdd, Nat.reduceEqDiff, Nat.reduceLeDiff, Nat.reduceSub, Nat.reduceMul]⟩, rfl, by omega, hS1⟩
    · simp -implicitDefEqProofs only [go_sem, Nat.reduceLT, Nat.reduceBEq, Nat.reduceAdd, Nat.reduceEqDiff, Nat.reduceLeDiff, Nat.reduceSub, Nat.reduceMul, upd_no, ini_one]; exact congrArg some (tab_rep _)
    · rw [upd_ne _ _ (by omega), upd_ne _ _ (by omega)]
  rintro j E H' n' ⟨F, e4, hj0, hj⟩
  obtain ⟨rfl, c0, c1, ho, e1, e3⟩ := F
  have g0 : n < n + 2 := by omega
  have g1 : n + 1 < n + 2 := by omega
  simp -implicitDefEqProofs only [go_sem, Nat.reduceLT, Nat.reduceBEq, Nat.reduceAdd, Nat.reduceEqDiff, Nat.reduceLeDiff, Nat.reduceSub, Nat.reduceMul, e3, e4]
  refine c_split (fun hc => ?_) (fun hc => ?_)
  · have hjS : j < G.S := by omega
    have hj1 := Int.natCast_nonneg j
    have hwj := wrap64 (x := (j : Int) + 1) (by omega)
    have hst := ini_step 1073741824 hj0
    simp -implicitDefEqProofs only [go_sem, Nat.reduceLT, Nat.reduceBEq, Nat.reduceAdd, Nat.reduceEqDiff, Nat.reduceLeDiff, Nat.reduceSub, Nat.reduceMul, e3, e4, c1, g1, hc, hjS, hj1, hst, hwj]
    repeat with_reducible refine And.intro (by omega) ?_
    exact l_n ⟨j + 1, by omega, ⟨rfl, by rw [upd_ne _ _ (by omega)]; exact c0, upd_same _ _ _, fun b hb => by rw [upd_ne _ _ (by omega)]; exact ho b hb, by simp -implicitDefEqProofs only [go_sem, Nat.reduceLT, Nat.reduceBEq, Nat.reduceAdd, Nat.reduceEqDiff, Nat.reduceLeDiff, Nat.reduceSub, Nat.reduceMul, e1], by simp -implicitDefEqProofs only [go_sem, Nat.reduceLT, Nat.reduceBEq, Nat.reduceAdd, Nat.reduceEqDiff, Nat.reduceLeDiff, Nat.reduceSub, Nat.reduceMul, e3]⟩, by simp -implicitDefEqProofs only [go_sem, Nat.reduceLT, Nat.reduceBEq, Nat.reduceAdd, Nat.reduceEqDiff, Nat.reduceLeDiff, Nat.reduceSub, Nat.reduceMul]; rfl, by omega, by omega⟩
  have : j = G.S := by omega
  subst this
  have l0 : ini 1073741824 G.S 0 = 0 := if_neg fun h => by omega
  have lr : ∀ s, s < G.S → pot s ≤ ini 1073741824 G.S s ∧ ini 1073741824 G.S s ≤ 1073741824 := fun s hs => by
    have h1 := fin.rg s hs
    have h2 := fin.p0
    unfold ini
    by_cases h0 : s = 0
    · subst h0; rw [if_neg (by omega)]; omega
    · rw [if_pos ⟨by omega, hs⟩]; omega
  simp -implicitDefEqProofs only [go_sem, Nat.reduceLT, Nat.reduceBEq, Nat.reduceAdd, Nat.reduceEqDiff, Nat.reduceLeDiff, Nat.reduceSub, Nat.reduceMul]
  refine loop_rule (fun (x : (Nat → Int) × Bool) E H' n' => LeastSt H n G.S e.cs x.1 E H' n' ∧ E 5 = .bool x.2 ∧ x.1 0 = 0 ∧ (∀ s, s < G.S → pot s ≤ x.1 s ∧ x.1 s ≤ 1073741824) ∧ (x.2 = false → G.Fx x.1)) (fun x => 2 * sumn (fun s => (x.1 s).toNat) G.S + if x.2 = true then 1 else 0) (ini 1073741824 G.S, true) ⟨⟨rfl, c0, c1, ho, by simp -implicitDefEqProofs only [go_sem, Nat.reduceLT, Nat.reduceBEq, Nat.reduceAdd, Nat.reduceEqDiff, Nat.reduceLeDiff, Nat.reduceSub, Nat.reduceMul, e1], by simp -implicitDefEqProofs only [go_sem, Nat.reduceLT, Nat.reduceBEq, Nat.reduceAdd, Nat.reduceEqDiff, Nat.reduceLeDiff, Nat.reduceSub, Nat.reduceMul, e3]⟩, rfl, l0, lr, fun h => by cases h⟩ ?_
  clear lr l0 hc hj hj0 e4 e3 e1 ho c1 c0 E H'
  rintro ⟨L0, ch0⟩ E H' n' ⟨F, e5, l0, lr, hfx⟩
  dsimp only at F e5 l0 lr hfx
  obtain ⟨rfl, c0, c1, ho, e1, e3⟩ := F
  simp -implicitDefEqProofs only [go_sem, Nat.reduceLT, Nat.reduceBEq, Nat.reduceAdd, Nat.reduceEqDiff, Nat.reduceLeDiff, Nat.reduceSub, Nat.reduceMul, e5]
  cases ch0
  case true =>
    simp -implicitDefEqProofs only [go_sem, Nat.reduceLT, Nat.reduceBEq, Nat.reduceAdd, Nat.reduceEqDiff, Nat.reduceLeDiff, Nat.reduceSub, Nat.reduceMul]
    refine loop_rule (fun (x : Nat × (Nat → Int) × Bool) E H' n' => LeastSt H n G.S e.cs x.2.1 E H' n' ∧ E 5 = .bool x.2.2 ∧ E 6 = .int .i64 (x.1 : Nat) ∧ x.2.1 0 = 0 ∧ (∀ s, s < G.S → pot s ≤ x.2.1 s ∧ x.2.1 s ≤ 1073741824) ∧ sumn (fun s => (x.2.1 s).toNat) G.S ≤ sumn (fun s => (L0 s).toNat) G.S ∧ (x.2.2 = true → sumn (fun s => (x.2.1 s).toNat) G.S < sumn (fun s => (L0 s).toNat) G.S) ∧ (x.2.2 = false → ∀ s, 0 < s → s < x.1 → ∀ i, i < G.I → x.2.1 s ≤ (G.w (s * G.I + i) : Int) + x.2.1 (G.nx (s * G.I + i))) ∧ 0 < x.1 ∧ x.1 ≤ G.S) (fun x => G.S - x.1) (1, L0, false) ⟨⟨rfl, c0, c1, ho, by simp -implicitDefEqProofs only [go_sem, Nat.reduceLT, Nat.reduceBEq, Nat.reduceAdd, Nat.reduceEqDiff, Nat.reduceLeDiff, Nat.reduceSub, Nat.reduceMul, e1], by simp -implicitDefEqProofs only [go_sem, Nat.reduceLT, Nat.reduceBEq, Nat.reduceAdd, Nat.reduceEqDiff, Nat.reduceLeDiff, Nat.reduceSub, Nat.reduceMul, e3]⟩, by simp -implicitDefEqProofs only [go_sem, Nat.reduceLT, Nat.reduceBEq, Nat.reduceAdd, Nat.reduceEqDiff, Nat.reduceLeDiff, Nat.reduceSub, Nat.reduceMul], rfl, l0, lr, Nat.le_refl _, (fun h => by cases h), (fun _ s h1 h2 => absurd (show s < 1 from h2) (by omega)), (by show 0 < 1; omega), hS1⟩ ?_
    clear hfx lr l0 e5 e3 e1 ho c1 c0 E H'
    rintro ⟨s, L, ch⟩ E H' n' ⟨F, e5, e6, l0, lr, hle, hlt, hfx, hs0, hs⟩
    dsimp only at F e5 e6 l0 lr hle hlt hfx hs0 hs
    obtain ⟨rfl, c0, c1, ho, e1, e3⟩ := F
    simp -implicitDefEqProofs only [go_sem, Nat.reduceLT, Nat.reduceBEq, Nat.reduceAdd, Nat.reduceEqDiff, Nat.reduceLeDiff, Nat.reduceSub, Nat.reduceMul, e3, e6]
    refine c_split (fun hc => ?_) (fun hc => ?_)
    · have hsS : s < G.S := by omega
      simp -implicitDefEqProofs only [go_sem, Nat.reduceLT, Nat.reduceBEq, Nat.reduceAdd, Nat.reduceEqDiff, Nat.reduceLeDiff, Nat.reduceSub, Nat.reduceMul]
      refine loop_rule (fun (x : Nat × (Nat → Int) × Bool) E H' n' => LeastSt H n G.S e.cs x.2.1 E H' n' ∧ E 5 = .bool x.2.2 ∧ E 6 = .int .i64 (s : Nat) ∧ E 7 = .int .i64 (x.1 : Nat) ∧ x.2.1 0 = 0 ∧ (∀ s, s < G.S → pot s ≤ x.2.1 s ∧ x.2.1 s ≤ 1073741824) ∧ sumn (fun s => (x.2.1 s).toNat) G.S ≤ sumn (fun s => (L0 s).toNat) G.S ∧ (x.2.2 = true → sumn (fun s => (x.2.1 s).toNat) G.S < sumn (fun s => (L0 s).toNat) G.S) ∧ (x.2.2 = false → ∀ u, 0 < u → u < s → ∀ i, i < G.I → x.2.1 u ≤ (G.w (u * G.I + i) : Int) + x.2.1 (G.nx (u * G.I + i))) ∧ (x.2.2 = false → ∀ i, i < x.1 → x.2.1 s ≤ (G.w (s * G.I + i) : Int) + x.2.1 (G.nx (s * G.I + i))) ∧ x.1 ≤ G.I) (fun x => G.I - x.1) (0, L, ch) ⟨⟨rfl, c0, c1, ho, by simp -implicitDefEqProofs only [go_sem, Nat.reduceLT, Nat.reduceBEq, Nat.reduceAdd, Nat.reduceEqDiff, Nat.reduceLeDiff, Nat.reduceSub, Nat.reduceMul, e1], by simp -implicitDefEqProofs only [go_sem, Nat.reduceLT, Nat.reduceBEq, Nat.reduceAdd, Nat.reduceEqDiff, Nat.reduceLeDiff, Nat.reduceSub, Nat.reduceMul, e3]⟩, by simp -implicitDefEqProofs only [go_sem, Nat.reduceLT, Nat.reduceBEq, Nat.reduceAdd, Nat.reduceEqDiff, Nat.reduceLeDiff, Nat.reduceSub, Nat.reduceMul, e5], by simp -implicitDefEqProofs only [go_sem, Nat.reduceLT, Nat.reduceBEq, Nat.reduceAdd, Nat.reduceEqDiff, Nat.reduceLeDiff, Nat.reduceSub, Nat.reduceMul, e6], rfl, l0, lr, hle, hlt, hfx, (fun _ i hi => absurd (show i < 0 from hi) (by omega)), Nat.zero_le _⟩ ?_
      clear hfx hlt hle lr l0 e6 e5 e3 e1 ho c1 c0 E H'
      rintro ⟨i, L, ch⟩ E H' n' ⟨F, e5, e6, e7, l0, lr, hle, hlt, hfx, hfi, hi⟩
      dsimp only at F e5 e6 e7 l0 lr hle hlt hfx hfi hi
      obtain ⟨rfl, c0, c1, ho, e1, e3⟩ := F
      simp -implicitDefEqProofs only [go_sem, Nat.reduceLT, Nat.reduceBEq, Nat.reduceAdd, Nat.reduceEqDiff, Nat.reduceLeDiff, Nat.reduceSub, Nat.reduceMul, e1, e7, c0, g0]
      refine call_of (sIs _ _) ?_
      simp -implicitDefEqProofs only [go_sem, Nat.reduceLT, Nat.reduceBEq, Nat.reduceAdd, Nat.reduceEqDiff, Nat.reduceLeDiff, Nat.reduceSub, Nat.reduceMul]
      refine c_split (fun hc' => ?_) (fun hc' => ?_)
      · have hiI : i < G.I := by omega
        have hwi := wrap64 (x := (i : Int) + 1) (by omega)
        have ha := G.at_lt hsS hiI
        have hwa := hW (s * G.I + i)
        have hnl := G.hn _ ha
        have sNx' := fun H n => sNx H n s i hsS hiI
        have sWt' := fun H n => sWt H n s i hiI
        have hfs := fin.fx s hs0 hsS i hiI
        have hgoal : ∀ j, j < i + 1 → j = i ∨ j < i := fun j hj => by omega
        generalize hat : s * G.I + i = at' at *
        generalize hnt : G.nx at' = t at *
        generalize hwv : G.w at' = wv at *
        have hrl := lr t hnl
        have hpl := fin.rg t hnl
        have hs0' := Int.natCast_nonneg s
        have ht0 := Int.natCast_nonneg t
        have htI : ((t : Nat) : Int) < ((G.S : Nat) : Int) := by omega
        have hv := wrap64 (x := ((wv : Nat) : Int) + L t) (by omega)
        simp -implicitDefEqProofs only [go_sem, Nat.reduceLT, Nat.reduceBEq, Nat.reduceAdd, Nat.reduceEqDiff, Nat.reduceLeDiff, Nat.reduceSub, Nat.reduceMul, e1, e6, e7, c0, g0]
        refine mcall_of (pl_isl _ _).nr (fun H1 n1 _ _ => sIn H1 n1 i hiI) ?_
        simp -implicitDefEqProofs only [go_sem, Nat.reduceLT, Nat.reduceBEq, Nat.reduceAdd, Nat.reduceEqDiff, Nat.reduceLeDiff, Nat.reduceSub, Nat.reduceMul, e1, e6, e7, c0, g0]
        refine mcall_of (Pl.nr (.tup _ fun j hj => by
          rcases j with _ | _ | j
          · exact .int _ _
          · exact pl_isl _ _
          · simp at hj; omega)) (fun H1 n1 _ _ => sNx' H1 n1) ?_
        simp -implicitDefEqProofs only [go_sem, Nat.reduceLT, Nat.reduceBEq, Nat.reduceAdd, Nat.reduceEqDiff, Nat.reduceLeDiff, Nat.reduceSub, Nat.reduceMul]
        refine mcall_of (.int _ _) (fun H1 n1 _ _ => sWt' H1 n1) ?_
        simp -implicitDefEqProofs only [go_sem, Nat.reduceLT, Nat.reduceBEq, Nat.reduceAdd, Nat.reduceEqDiff, Nat.reduceLeDiff, Nat.reduceSub, Nat.reduceMul, e3, e6, c1, g1, hs0', hc, hsS, ht0, htI, hnl, gat_tab, hv]
        refine c_split (fun hlt' => ?_) (fun hlt' => ?_)
        · simp -implicitDefEqProofs only [go_sem, Nat.reduceLT, Nat.reduceBEq, Nat.reduceAdd, Nat.reduceEqDiff, Nat.reduceLeDiff, Nat.reduceSub, Nat.reduceMul, e3, e6]
          refine mcall_of (.int _ _) (fun H1 n1 _ _ => sWt' H1 n1) ?_
          simp -implicitDefEqProofs only [go_sem, Nat.reduceLT, Nat.reduceBEq, Nat.reduceAdd, Nat.reduceEqDiff, Nat.reduceLeDiff, Nat.reduceSub, Nat.reduceMul, e3, e6, e7, c1, g1, hs0', hc, hsS, ht0, htI, hnl, gat_tab, hv, hwi]
          repeat with_reducible refine And.intro (by omega) ?_
          have hps := lr s hsS
          have hp1 := fin.rg s hsS
          have hsum : sumn (fun u => (upf L s (((wv : Nat) : Int) + L t) u).toNat) G.S < sumn (fun u => (L u).toNat) G.S := by
            have h1 : (fun u => (upf L s (((wv : Nat) : Int) + L t) u).toNat) = upf (fun u => (L u).toNat) s (((wv : Nat) : Int) + L t).toNat := by
              funext u
              unfold upf
              by_cases eu : u = s
              · rw [if_pos eu, if_pos eu]
              · rw [if_neg eu, if_neg eu]
            rw [h1]
            exact sumn_upf hsS (by omega)
          refine l_n ⟨(i + 1, upf L s (((wv : Nat) : Int) + L t), true), by show G.I - (i + 1) < G.I - i; omega, ⟨rfl, by rw [upd_ne _ _ (by omega)]; exact c0, upd_same _ _ _, fun b hb => by rw [upd_ne _ _ (by omega)]; exact ho b hb, by simp -implicitDefEqProofs only [go_sem, Nat.reduceLT, Nat.reduceBEq, Nat.reduceAdd, Nat.reduceEqDiff, Nat.reduceLeDiff, Nat.reduceSub, Nat.reduceMul, e1], by simp -implicitDefEqProofs only [go_sem, Nat.reduceLT, Nat.reduceBEq, Nat.reduceAdd, Nat.reduceEqDiff, Nat.reduceLeDiff, Nat.reduceSub, Nat.reduceMul, e3]⟩, by simp -implicitDefEqProofs only [go_sem, Nat.reduceLT, Nat.reduceBEq, Nat.reduceAdd, Nat.reduceEqDiff, Nat.reduceLeDiff, Nat.reduceSub, Nat.reduceMul], by simp -implicitDefEqProofs only [go_sem, Nat.reduceLT, Nat.reduceBEq, Nat.reduceAdd, Nat.reduceEqDiff, Nat.reduceLeDiff, Nat.reduceSub, Nat.reduceMul, e6], by simp -implicitDefEqProofs only [go_sem, Nat.reduceLT, Nat.reduceBEq, Nat.reduceAdd, Nat.reduceEqDiff, Nat.reduceLeDiff, Nat.reduceSub, Nat.reduceMul]; rfl, by show upf L s _ 0 = 0; rw [upf_ne _ _ (by omega)]; exact l0, fun u hu => ?_, by show sumn (fun u => (upf L s (((wv : Nat) : Int) + L t) u).toNat) G.S ≤ _; omega, fun _ => by show sumn (fun u => (upf L s (((wv : Nat) : Int) + L t) u).toNat) G.S < _; omega, (fun h0 => by cases h0), (fun h0 => by cases h0), hiI⟩
          show pot u ≤ upf L s (((wv : Nat) : Int) + L t) u ∧ upf L s (((wv : Nat) : Int) + L t) u ≤ 1073741824
          by_cases eu : u = s
          · rw [eu, upf_same]; omega
          · rw [upf_ne _ _ eu]; exact lr u hu
        · simp -implicitDefEqProofs only [go_sem, Nat.reduceLT, Nat.reduceBEq, Nat.reduceAdd, Nat.reduceEqDiff, Nat.reduceLeDiff, Nat.reduceSub, Nat.reduceMul, e7, hwi]
          refine l_n ⟨(i + 1, L, ch), by show G.I - (i + 1) < G.I - i; omega, ⟨rfl, c0, c1, ho, by simp -implicitDefEqProofs only [go_sem, Nat.reduceLT, Nat.reduceBEq, Nat.reduceAdd, Nat.reduceEqDiff, Nat.reduceLeDiff, Nat.reduceSub, Nat.reduceMul, e1], by simp -implicitDefEqProofs only [go_sem, Nat.reduceLT, Nat.reduceBEq, Nat.reduceAdd, Nat.reduceEqDiff, Nat.reduceLeDiff, Nat.reduceSub, Nat.reduceMul, e3]⟩, by simp -implicitDefEqProofs only [go_sem, Nat.reduceLT, Nat.reduceBEq, Nat.reduceAdd, Nat.reduceEqDiff, Nat.reduceLeDiff, Nat.reduceSub, Nat.reduceMul, e5], by simp -implicitDefEqProofs only [go_sem, Nat.reduceLT, Nat.reduceBEq, Nat.reduceAdd, Nat.reduceEqDiff, Nat.reduceLeDiff, Nat.reduceSub, Nat.reduceMul, e6], by simp -implicitDefEqProofs only [go_sem, Nat.reduceLT, Nat.reduceBEq, Nat.reduceAdd, Nat.reduceEqDiff, Nat.reduceLeDiff, Nat.reduceSub, Nat.reduceMul]; rfl, l0, lr, hle, hlt, hfx, fun h0 j hj => ?_, hiI⟩
          show L s ≤ ((G.w (s * G.I + j) : Nat) : Int) + L (G.nx (s * G.I + j))
          rcases hgoal j hj with e1 | e1
          · rw [e1, hat, hnt, hwv]; omega
          · exact hfi h0 j e1
      · have : i = G.I := by omega
        subst this
        have hws := wrap64 (x := (s : Int) + 1) (by omega)
        simp -implicitDefEqProofs only [go_sem, Nat.reduceLT, Nat.reduceBEq, Nat.reduceAdd, Nat.reduceEqDiff, Nat.reduceLeDiff, Nat.reduceSub, Nat.reduceMul, e6, hws]
        refine l_n ⟨(s + 1, L, ch), by show G.S - (s + 1) < G.S - s; omega, ⟨rfl, c0, c1, ho, by simp -implicitDefEqProofs only [go_sem, Nat.reduceLT, Nat.reduceBEq, Nat.reduceAdd, Nat.reduceEqDiff, Nat.reduceLeDiff, Nat.reduceSub, Nat.reduceMul, e1], by simp -implicitDefEqProofs only [go_sem, Nat.reduceLT, Nat.reduceBEq, Nat.reduceAdd, Nat.reduceEqDiff, Nat.reduceLeDiff, Nat.reduceSub, Nat.reduceMul, e3]⟩, by simp -implicitDefEqProofs only [go_sem, Nat.reduceLT, Nat.reduceBEq, Nat.reduceAdd, Nat.reduceEqDiff, Nat.reduceLeDiff, Nat.reduceSub, Nat.reduceMul, e5], by simp -implicitDefEqProofs only [go_sem, Nat.reduceLT, Nat.reduceBEq, Nat.reduceAdd, Nat.reduceEqDiff, Nat.reduceLeDiff, Nat.reduceSub, Nat.reduceMul]; rfl, l0, lr, hle, hlt, fun h0 u u0 u1 j hj => ?_, by show 0 < s + 1; omega, hsS⟩
        by_cases eu : u = s
        · subst eu; exact hfi h0 j hj
        · exact hfx h0 u u0 (by have : u < s + 1 := u1; omega) j hj
    · have : s = G.S := by omega
      subst this
      simp -implicitDefEqProofs only [go_sem, Nat.reduceLT, Nat.reduceBEq, Nat.reduceAdd, Nat.reduceEqDiff, Nat.reduceLeDiff, Nat.reduceSub, Nat.reduceMul]
      refine l_n ⟨(L, ch), ?_, ⟨rfl, c0, c1, ho, by simp -implicitDefEqProofs only [go_sem, Nat.reduceLT, Nat.reduceBEq, Nat.reduceAdd, Nat.reduceEqDiff, Nat.reduceLeDiff, Nat.reduceSub, Nat.reduceMul, e1], by simp -implicitDefEqProofs only [go_sem, Nat.reduceLT, Nat.reduceBEq, Nat.reduceAdd, Nat.reduceEqDiff, Nat.reduceLeDiff, Nat.reduceSub, Nat.reduceMul, e3]⟩, by simp -implicitDefEqProofs only [go_sem, Nat.reduceLT, Nat.reduceBEq, Nat.reduceAdd, Nat.reduceEqDiff, Nat.reduceLeDiff, Nat.reduceSub, Nat.reduceMul, e5], l0, lr, fun h0 u u0 u1 j hj => hfx h0 u u0 u1 j hj⟩
      show 2 * sumn (fun s => (L s).toNat) G.S + (if ch = true then 1 else 0) < 2 * sumn (fun s => (L0 s).toNat) G.S + 1
      cases ch with
      | true => have := hlt rfl; rw [if_pos rfl]; omega
      | false => rw [if_neg (by decide)]; omega
  case false =>
    have hL := fin.least l0 (hfx rfl) (fun s hs => (lr s hs).1)
    simp -implicitDefEqProofs only [go_sem, Nat.reduceLT, Nat.reduceBEq, Nat.reduceAdd, Nat.reduceEqDiff, Nat.reduceLeDiff, Nat.reduceSub, Nat.reduceMul, e3]
    refine fin_ret rfl (by decide) ?_ ho
    simp -implicitDefEqProofs only [go_sem, Nat.reduceLT, Nat.reduceBEq, Nat.reduceAdd, Nat.reduceEqDiff, Nat.reduceLeDiff, Nat.reduceSub, Nat.reduceMul]
    have := fz_own_isl (n := n) c1 (by omega)
    rwa [isl_congr (g := pot) fun i hi => hL i hi] at this
end
end Go.Proofs.Ytdpibcniodhinaa.Gh
/- The reference's free distance; the statement ConvFrees. -/
namespace Go.Proofs.Ytdpibcniodhinaa.Gh
open Go Go.RowKit
open Alg (CR Ps Dg Zm Mn El Cg sm pw Irr Prm)
set_option linter.unusedVariables false
set_option linter.unusedSimpArgs false
section
variable {k : Nat} {M : Mn k}
set_option maxHeartbeats 8000000 in
theorem sp_ref20_Free {H : Heap} {n : Nat} (e : Enc) (hB : e.Bnd) (h : Fi M) (hd : e.Des M) (hce : e.ce = 0) (hr0 : 0 < e.r) {pot : Nat → Int} {b : Nat → Nat} {D : Int} {T : Nat} (fin : (e.G h hr0).Fin pot b D T) : Spec prog fid_ref20_Free [e.gv] H n (.int .i64 D) H n := by
  refine spec_ends hmix ok_ref20_Free rfl fun hF => ?_
  show gw prog B_ref20_Free _ (tl 35 _) H n
  have hr := hB.r
  have hq2 := qn_two M
  have hw0 := hB.w 0 hr0
  have hpr := Enc.pow_r h hd hce
  have hI2 := hpr e.r (Nat.le_refl _)
  have hS1 : 1 ≤ qn M ^ e.ds e.r := Nat.pow_pos (by omega)
  have hW : ∀ a, (e.G h hr0).w a ≤ 70 := fun a => Enc.owa_le (e := e) (M := M) hB hr0 a
  have hSS : qn M ^ e.ds e.r = (e.G h hr0).S := rfl
  have hII : qn M ^ e.r = (e.G h hr0).I := rfl
  have sIs : ∀ (H : Heap) (n : Nat), Spec prog fid_ref20_Inputs [e.gv] H n (.int .i64 ((e.G h hr0).I : Nat)) H n := fun H n => sp_ref20_Inputs e hB h hd hce
  have sLs : ∀ (H : Heap) (n : Nat), Spec prog fid_ref20_Least [e.gv] H n (isl (e.G h hr0).S pot) H n := fun H n => sp_Least e hB h hd hce hr0 fin
  have sIn : ∀ (H : Heap) (n x : Nat), x < (e.G h hr0).I → Spec prog fid_ref20_Input [e.gv, .int .i64 (x : Nat)] H n (isl e.r (inp M x)) H n := fun H n x hx => sp_ref20_Input e hB h hd hr0 x (by rw [hII] at hI2; omega)
  have sNx : ∀ (H : Heap) (n x : Nat), x < (e.G h hr0).I → Spec prog fid_ref20_Next [e.gv, .int .i64 0, isl e.r (inp M x)] H n (.tup [.int .i64 ((e.G h hr0).nx x : Nat), isl (e.w 0) (e.orw M 0 x)]) H n := fun H n x hx => by
    have h1 := sp_ref20_Next (H := H) (n := n) e hB h hd hce 0 (inp M x) (by omega) (by omega) fun i _ => inp_in x i
    have h2 := e.G_nx h hr0 x
    have hdv : x / (e.G h hr0).I = 0 := Nat.div_eq_of_lt hx
    have hmd : x % (e.G h hr0).I = x := Nat.mod_eq_of_lt hx
    have h3 : e.nxa M x = e.nx (qn M : Nat) 0 (inp M x) e.r 0 := by rw [Enc.nxa, hII, hdv, hmd]; rfl
    rw [← h3, h2] at h1
    exact h1
  have sWt : ∀ (H : Heap) (n x : Nat), x < (e.G h hr0).I → Spec prog fid_ref20_Weight [.lit [isl (e.w 0) (e.orw M 0 x)]] H n (.int .i64 ((e.G h hr0).w x : Nat)) H n := fun H n x hx => by
    have h1 := sp_Weight1 (H := H) (n := n) (e.w 0) (e.orw M 0 x) (by omega)
    have hdv : x / (e.G h hr0).I = 0 := Nat.div_eq_of_lt hx
    have hmd : x % (e.G h hr0).I = x := Nat.mod_eq_of_lt hx
    have h2 : (e.G h hr0).w x = wt (e.w 0) (e.orw M 0 x) := by
      show e.owa M _ = _
      rw [Enc.owa, hII, hdv, hmd]
    rwa [← h2] at h1
  rw [hSS] at hS1
  rw [hII] at hI2
  generalize e.G h hr0 = G at *
  generalize e.orw M 0 = OR at *
  clear hSS hII
  have hI := G.hI
  have hu : ∀ x b, b < n → upd H n x b = H b := fun x b hb => upd_ne _ _ (by omega)
  have g0 : n < n + 1 := by omega
  have hDb := fin.d0
  have hDn := fin.rg _ (G.hn (b 0) (by have := G.at_lt G.hS (fin.bi 0 G.hS); omega))
  have hDw := hW (b 0)
  simp -implicitDefEqProofs only [B_ref20_Free, go_sem, Nat.reduceLT, Nat.reduceBEq, Nat.reduceAdd, Nat.reduceEqDiff, Nat.reduceLeDiff, Nat.reduceSub, Nat.reduceMul]
  refine call_of (sLs _ _) ?_
  simp -implicitDefEqProofs only [go_sem, Nat.reduceLT, Nat.reduceBEq, Nat.reduceAdd, Nat.reduceEqDiff, Nat.reduceLeDiff, Nat.reduceSub, Nat.reduceMul]
  refine loop_rule (fun (x : Nat × Int) E H' n' => n' = n + 1 ∧ H' n = some e.cs ∧ (∀ b, b < n → H' b = H b) ∧ E 1 = .ptr n 0 ∧ E 3 = isl G.S pot ∧ E 4 = .int .i64 x.2 ∧ E 5 = .int .i64 (x.1 : Nat) ∧ D ≤ x.2 ∧ x.2 ≤ 1073741824 ∧ (∀ j, 0 < j → j < x.1 → x.2 ≤ (G.w j : Int) + pot (G.nx j)) ∧ 0 < x.1 ∧ x.1 ≤ G.I) (fun x => G.I - x.1) (1, 1073741824) ⟨rfl, upd_same _ _ _, hu _, rfl, rfl, rfl, rfl, by show D ≤ 1073741824; omega, Int.le_refl _, fun j h1 h2 => absurd (show j < 1 from h2) (by omega), by show 0 < 1; omega, by show 1 ≤ G.I; omega⟩ ?_
  rintro ⟨x, o⟩ E H' n' ⟨rfl, c0, ho, e1, e3, e4, e5, hDo, hob, hom, hx0, hx⟩
  dsimp only at e4 e5 hDo hob hom hx0 hx
  simp -implicitDefEqProofs only [go_sem, Nat.reduceLT, Nat.reduceBEq, Nat.reduceAdd, Nat.reduceEqDiff, Nat.reduceLeDiff, Nat.reduceSub, Nat.reduceMul, e1, e5, c0, g0]
  refine call_of (sIs _ _) ?_
  simp -implicitDefEqProofs only [go_sem, Nat.reduceLT, Nat.reduceBEq, Nat.reduceAdd, Nat.reduceEqDiff, Nat.reduceLeDiff, Nat.reduceSub, Nat.reduceMul]
  refine c_split (fun hc => ?_) (fun hc => ?_)
  · have hxI : x < G.I := by omega
    have hwx := wrap64 (x := (x : Int) + 1) (by omega)
    have sIn' := fun H n => sIn H n x hxI
    have sNx' := fun H n => sNx H n x hxI
    have sWt' := fun H n => sWt H n x hxI
    have hnl := G.hn x (by have := G.at_lt G.hS hxI; omega)
    have hwa := hW x
    have hdm := fin.dm x hx0 hxI
    generalize hnt : G.nx x = t at *
    generalize hwv : G.w x = wv at *
    have hpl := fin.rg t hnl
    have ht0 := Int.natCast_nonneg t
    have htI : ((t : Nat) : Int) < ((G.S : Nat) : Int) := by omega
    have hv := wrap64 (x := ((wv : Nat) : Int) + pot t) (by omega)
    simp -implicitDefEqProofs only [go_sem, Nat.reduceLT, Nat.reduceBEq, Nat.reduceAdd, Nat.reduceEqDiff, Nat.reduceLeDiff, Nat.reduceSub, Nat.reduceMul, e1, e5, c0, g0]
    refine mcall_of (pl_isl _ _).nr (fun H1 n1 _ _ => sIn' H1 n1) ?_
    simp -implicitDefEqProofs only [go_sem, Nat.reduceLT, Nat.reduceBEq, Nat.reduceAdd, Nat.reduceEqDiff, Nat.reduceLeDiff, Nat.reduceSub, Nat.reduceMul]
    refine mcall_of (Pl.nr (.tup _ fun j hj => by
      rcases j with _ | _ | j
      · exact .int _ _
      · exact pl_isl _ _
      · simp at hj; omega)) (fun H1 n1 _ _ => sNx' H1 n1) ?_
    simp -implicitDefEqProofs only [go_sem, Nat.reduceLT, Nat.reduceBEq, Nat.reduceAdd, Nat.reduceEqDiff, Nat.reduceLeDiff, Nat.reduceSub, Nat.reduceMul, e4]
    refine mcall_of (.int _ _) (fun H1 n1 _ _ => sWt' H1 n1) ?_
    simp -implicitDefEqProofs only [go_sem, Nat.reduceLT, Nat.reduceBEq, Nat.reduceAdd, Nat.reduceEqDiff, Nat.reduceLeDiff, Nat.reduceSub, Nat.reduceMul, e3, e4, e5, ht0, htI, hnl, gat_tab, hv, hwx]
    refine l_n ⟨(x + 1, min o (((wv : Nat) : Int) + pot t)), by show G.I - (x + 1) < G.I - x; omega, rfl, c0, ho, by simp -implicitDefEqProofs only [go_sem, Nat.reduceLT, Nat.reduceBEq, Nat.reduceAdd, Nat.reduceEqDiff, Nat.reduceLeDiff, Nat.reduceSub, Nat.reduceMul, e1], by simp -implicitDefEqProofs only [go_sem, Nat.reduceLT, Nat.reduceBEq, Nat.reduceAdd, Nat.reduceEqDiff, Nat.reduceLeDiff, Nat.reduceSub, Nat.reduceMul, e3], by simp -implicitDefEqProofs only [go_sem, Nat.reduceLT, Nat.reduceBEq, Nat.reduceAdd, Nat.reduceEqDiff, Nat.reduceLeDiff, Nat.reduceSub, Nat.reduceMul], by simp -implicitDefEqProofs only [go_sem, Nat.reduceLT, Nat.reduceBEq, Nat.reduceAdd, Nat.reduceEqDiff, Nat.reduceLeDiff, Nat.reduceSub, Nat.reduceMul]; rfl, by show D ≤ min o (((wv : Nat) : Int) + pot t); omega, by show min o (((wv : Nat) : Int) + pot t) ≤ _; omega, fun j j0 j1 => ?_, by show 0 < x + 1; omega, hxI⟩
    show min o (((wv : Nat) : Int) + pot t) ≤ _
    by_cases ej : j = x
    · rw [ej, hwv, hnt]; omega
    · have := hom j j0 (by have : j < x + 1 := j1; omega)
      omega
  · have : x = G.I := by omega
    subst this
    have h1 := hom (b 0) fin.b0 (fin.bi 0 G.hS)
    have h2 : o = D := by omega
    simp -implicitDefEqProofs only [go_sem, Nat.reduceLT, Nat.reduceBEq, Nat.reduceAdd, Nat.reduceEqDiff, Nat.reduceLeDiff, Nat.reduceSub, Nat.reduceMul, e4]
    refine fin_ret rfl (by decide) ?_ ho
    simp -implicitDefEqProofs only [go_sem, Nat.reduceLT, Nat.reduceBEq, Nat.reduceAdd, Nat.reduceEqDiff, Nat.reduceLeDiff, Nat.reduceSub, Nat.reduceMul]
    exact fz_int h2
theorem wt_pos {f : Nat → Int} : ∀ {l i : Nat}, i < l → f i ≠ 0 → 0 < wt l f := by
  intro l
  induction l with
  | zero => intro i h; omega
  | succ l ih =>
    intro i hi h
    rw [wt_succ]
    by_cases e : i = l
    · subst e; rw [if_neg h]; omega
    · have := ih (i := i) (by omega) h; omega
theorem wtm_ge0 (l : Nat → Nat) (f : Nat → Nat → Int) : ∀ T, 0 < T → wt (l 0) (f 0) ≤ wtm l f T := by
  intro T
  induction T with
  | zero => intro h; omega
  | succ T ih =>
    intro _
    rw [wtm_succ]
    by_cases e : T = 0
    · subst e; omega
    · have := ih (by omega); omega
theorem wt_zeros {f : Nat → Int} : ∀ l, (∀ i, i < l → f i = 0) → wt l f = 0 := by
  intro l
  induction l with
  | zero => intro _; rfl
  | succ l ih => intro h; rw [wt_succ, if_pos (h l (by omega)), ih fun i hi => h i (by omega)]
/-- the proof that conv.Free makes -/
noncomputable def Enc.fp (e : Enc) (h : Fi M) (hr0 : 0 < e.r) (pot : Nat → Int) (b : Nat → Nat) (D : Int) (T : Nat) : Fp := ⟨D, T, fun _ => e.r, fun j => inp M (b ((e.G h hr0).sq b j)), qn M ^ e.ds e.r, pot⟩
theorem Enc.G_nx' (e : Enc) (h : Fi M) (hr0 : 0 < e.r) {s x : Nat} (hx : x < (e.G h hr0).I) : e.nx (qn M : Nat) (s : Nat) (inp M x) e.r 0 = (((e.G h hr0).nx (s * (e.G h hr0).I + x) : Nat) : Int) := by
  have hII : qn M ^ e.r = (e.G h hr0).I := rfl
  have h2 := e.G_nx h hr0 (s * (e.G h hr0).I + x)
  rw [Enc.nxa, hII, div_at hx, mod_at hx] at h2
  exact h2
theorem Enc.G_w' (e : Enc) (h : Fi M) (hr0 : 0 < e.r) {s x : Nat} (hx : x < (e.G h hr0).I) : (e.G h hr0).w (s * (e.G h hr0).I + x) = wt (e.w 0) (e.orw M s x) := by
  have hII : qn M ^ e.r = (e.G h hr0).I := rfl
  show e.owa M _ = _
  rw [Enc.owa, hII, div_at hx, mod_at hx]
theorem Enc.fp_tw (e : Enc) (h : Fi M) (hr0 : 0 < e.r) {pot : Nat → Int} {b : Nat → Nat} {D : Int} {T : Nat} (fin : (e.G h hr0).Fin pot b D T) : ((e.tw M T (fun j => inp M (b ((e.G h hr0).sq b j))) : Nat) : Int) = D := by
  have hs := fin.sum
  have hb := fin.bi
  have hGn : ∀ s x, x < (e.G h hr0).I → e.nx (qn M : Nat) (s : Nat) (inp M x) e.r 0 = (((e.G h hr0).nx (s * (e.G h hr0).I + x) : Nat) : Int) := fun s x hx => e.G_nx' h hr0 hx
  have hGw : ∀ s x, x < (e.G h hr0).I → (e.G h hr0).w (s * (e.G h hr0).I + x) = wt (e.w 0) (e.orw M s x) := fun s x hx => e.G_w' h hr0 hx
  have t2 := fin.t2
  clear fin
  generalize e.G h hr0 = G at *
  have sqS : ∀ j, G.sq b j < G.S := G.sq_lt hb
  have sq0 : G.sq b 0 = 0 := by rw [Gf.sq]
  have sq1 : ∀ j, G.sq b (j + 1) = G.nx (G.sq b j * G.I + b (G.sq b j)) := fun j => by rw [Gf.sq]
  generalize G.sq b = sq at *
  generalize hg : tval T (fun j => inp M (b (sq j))) = g at *
  have g1 : ∀ t, t < T → g t = inp M (b (sq t)) := fun t ht => by funext i; rw [← hg, tval, if_pos ht]
  have g2 : ∀ t, T ≤ t → g t = fun _ => 0 := fun t ht => by funext i; rw [← hg, tval, if_neg (by omega)]
  have htw : e.tw M T (fun j => inp M (b (sq j))) = wtm (fun _ => e.w 0) (e.yv M g) (T + e.mem e.r) := by rw [Enc.tw, hg]
  clear hg
  have S0 : e.S (qn M : Nat) g 0 = 0 := by rw [Enc.S]
  have S1 : ∀ t, e.S (qn M : Nat) g (t + 1) = e.nx (qn M : Nat) (e.S (qn M : Nat) g t) (g t) e.r 0 := fun t => by rw [Enc.S]
  have hS : ∀ t, t ≤ T → e.S (qn M : Nat) g t = ((sq t : Nat) : Int) := by
    intro t
    induction t with
    | zero => intro _; rw [S0, sq0]; exact Int.natCast_zero.symm
    | succ t ih => intro ht; rw [S1, ih (by omega), g1 t (by omega), hGn _ _ (hb _ (sqS t)), sq1]
  have hnz : e.nx (qn M : Nat) 0 (fun _ => 0) e.r 0 = 0 := by
    have := e.nx_add (qn M : Nat) 0 (fun _ => 0)
    generalize e.nx (qn M : Nat) 0 (fun _ => 0) e.r 0 = z at *
    omega
  have hz : ∀ d, e.S (qn M : Nat) g (T + d) = 0 := by
    intro d
    induction d with
    | zero => rw [Nat.add_zero, hS T (Nat.le_refl _), t2]; exact Int.natCast_zero
    | succ d ih => rw [← Nat.add_assoc, S1, ih, g2 _ (by omega), hnz]
  have hyv : ∀ t j, e.yv M g t j = (cn (e.so M (e.S (qn M : Nat) g t) (g t) e.r 0 j) : Nat) := fun t j => by rw [Enc.yv, Enc.Y]
  have hw1 : ∀ t, t < T → wt (e.w 0) (e.yv M g t) = G.w (sq t * G.I + b (sq t)) := by
    intro t ht
    rw [hGw _ _ (hb _ (sqS t))]
    refine wt_cong fun j _ => ?_
    rw [hyv, hS t (by omega), g1 t ht, Enc.orw]
  have hw2 : ∀ t, T ≤ t → wt (e.w 0) (e.yv M g t) = 0 := by
    intro t ht
    obtain ⟨d, rfl⟩ : ∃ d, t = T + d := ⟨t - T, by omega⟩
    refine wt_zeros _ fun j _ => ?_
    have h1 := e.so_lin h.fc 0 (fun _ => 0) j
    have h2 : e.so M 0 (fun _ => 0) e.r 0 j = 0 := (Alg.add_left_cancel (h1.symm.trans (Alg.add_zero _).symm))
    rw [hyv, hz, g2 _ ht, h2, cn_zero]; exact Int.natCast_zero
  have hsum : ∀ t, t ≤ T → wtm (fun _ => e.w 0) (e.yv M g) t = sumn (fun j => G.w (sq j * G.I + b (sq j))) t := by
    intro t
    induction t with
    | zero => intro _; exact (show wtm (fun _ => e.w 0) (e.yv M g) 0 = 0 from rfl).trans (show sumn (fun j => G.w (sq j * G.I + b (sq j))) 0 = 0 from rfl).symm
    | succ t ih => intro ht; rw [wtm_succ, ih (by omega), hw1 t (by omega), sumn]
  have hmore : ∀ d, wtm (fun _ => e.w 0) (e.yv M g) (T + d) = wtm (fun _ => e.w 0) (e.yv M g) T := by
    intro d
    induction d with
    | zero => rw [Nat.add_zero]
    | succ d ih => rw [← Nat.add_assoc, wtm_succ, ih, hw2 _ (by omega), Nat.add_zero]
  rw [← hs, htw, hmore, hsum T (Nat.le_refl _)]
theorem Enc.fp_acc (e : Enc) (h : Fi M) (hr0 : 0 < e.r) {pot : Nat → Int} {b : Nat → Nat} {D : Int} {T : Nat} (fin : (e.G h hr0).Fin pot b D T) : e.Acc M (e.fp h hr0 pot b D T) := by
  have hq2 := qn_two M
  have hq : (2 : Int) ≤ (qn M : Nat) := by omega
  have hI1 : 0 < qn M ^ e.r := Nat.pow_pos (by omega)
  refine ⟨⟨fun t ht => ⟨rfl, fun i hi => inp_in _ i⟩, ?_, e.fp_tw h hr0 fin⟩, ⟨rfl, fin.p0⟩, fun s hs => ?_, fun a ha => ?_⟩
  · have hb0 := fin.b0
    have hb1 := fin.bi 0 (e.G h hr0).hS
    have hne : ∃ i, i < e.r ∧ inp M (b 0) i ≠ 0 := by
      apply Classical.byContradiction
      intro hn
      have hall : ∀ i, i < e.r → Gh.dg (qn M : Nat) ((b 0 : Nat) : Int) i = 0 := fun i hi => Classical.byContradiction fun h1 => hn ⟨i, hi, h1⟩
      have h1 : ((b 0 : Nat) : Int) < (qn M : Nat) ^ e.r := by
        have h2 := Int.natCast_pow (qn M) e.r
        have h3 : b 0 < qn M ^ e.r := hb1
        omega
      have h2 := vs_dg hq e.r (Int.natCast_nonneg (b 0)) h1
      rw [vs_congr _ _ (g := fun _ => 0) hall, vs_zero] at h2
      omega
    obtain ⟨i, hi, h1⟩ := hne
    have h2 := wt_pos hi h1
    have h3 := wtm_ge0 (e.fp h hr0 pot b D T).l (e.fp h hr0 pot b D T).f T fin.t0
    have h4 : wt ((e.fp h hr0 pot b D T).l 0) ((e.fp h hr0 pot b D T).f 0) = wt e.r (inp M (b 0)) := rfl
    show wtm (e.fp h hr0 pot b D T).l (e.fp h hr0 pot b D T).f T ≠ 0
    omega
  · have h1 := fin.rg s hs
    show 0 ≤ pot s ∧ pot s ≤ 2147483648
    omega
  · have hdm := Nat.div_add_mod a (qn M ^ e.r)
    have hmod := Nat.mod_lt a hI1
    have hdv : a / qn M ^ e.r < qn M ^ e.ds e.r := Nat.div_lt_of_lt_mul (by rw [Nat.mul_comm]; exact ha)
    have hform : a / qn M ^ e.r * qn M ^ e.r + a % qn M ^ e.r = a := by rw [Nat.mul_comm]; exact hdm
    rintro (⟨h1, h2⟩ | ⟨h1, h2, h3⟩)
    · have h4 := fin.fx (a / qn M ^ e.r) h1 hdv (a % qn M ^ e.r) hmod
      have h5 : a / qn M ^ e.r * (e.G h hr0).I + a % qn M ^ e.r = a := hform
      rw [h5] at h4
      have h6 : ((e.owa M a : Nat) : Int) + pot (e.nxa M a).toNat < pot (a / qn M ^ e.r) := h2
      have h7 : pot (a / qn M ^ e.r) ≤ ((e.owa M a : Nat) : Int) + pot (e.nxa M a).toNat := h4
      omega
    · have h5 : a < qn M ^ e.r := by rw [h1, Nat.zero_mul, Nat.zero_add] at hform; omega
      have h4 := fin.dm a h2 h5
      have h6 : ((e.owa M a : Nat) : Int) + pot (e.nxa M a).toNat < D := h3
      have h7 : D ≤ ((e.owa M a : Nat) : Int) + pot (e.nxa M a).toNat := h4
      omega
end
end Go.Proofs.Ytdpibcniodhinaa.Gh
/- The statement ConvFrees. -/
namespace Go.Proofs.Ytdpibcniodhinaa.Gh
open Go Go.RowKit
open Alg (CR Ps Dg Zm Mn El Cg sm pw Irr Prm)
set_option linter.unusedVariables false
set_option linter.unusedSimpArgs false
theorem sp_conv_Free_no {H : Heap} {n : Nat} {k : Nat} {M : Mn k} (e : Enc) (hB : e.Bnd) (h : Fi M) (hd : e.Des M) (hce : e.ce ≠ 0) : Spec prog fid_conv_Free [e.gv] H n (.tup [.agg [.int .i64 0, .nil, .nil], .int .i64 e.ce]) H n := by
  refine spec_ends hmix ok_conv_Free rfl fun hF => ?_
  show gw prog B_conv_Free _ (tl 140 _) H n
  have f1 : (n = n + 1) = False := eq_false (by omega)
  have f2 : n + 1 < n + 2 := by omega
  simp -implicitDefEqProofs only [B_conv_Free, go_sem, Nat.reduceLT, Nat.reduceBEq, Nat.reduceAdd, Nat.reduceEqDiff, Nat.reduceLeDiff, Nat.reduceSub, Nat.reduceMul, upd_no, f1]
  refine call_of (sp_conv_build e hB h hd) ?_
  rw [if_neg hce]
  simp -implicitDefEqProofs only [go_sem, Nat.reduceLT, Nat.reduceBEq, Nat.reduceAdd, Nat.reduceEqDiff, Nat.reduceLeDiff, Nat.reduceSub, Nat.reduceMul, hce, f2]
  refine fin_ct (b := n + 1) (o := 0) rfl (by decide) (by decide) (by simp -implicitDefEqProofs only [go_sem, Nat.reduceLT, Nat.reduceBEq, Nat.reduceAdd, Nat.reduceEqDiff, Nat.reduceLeDiff, Nat.reduceSub, Nat.reduceMul]) (by simp -implicitDefEqProofs only [go_sem, Nat.reduceLT, Nat.reduceBEq, Nat.reduceAdd, Nat.reduceEqDiff, Nat.reduceLeDiff, Nat.reduceSub, Nat.reduceMul, upd_no]; rfl) (Nat.le_refl _) ?_ (by simp -implicitDefEqProofs only [go_sem, Nat.reduceLT, Nat.reduceBEq, Nat.reduceAdd, Nat.reduceEqDiff, Nat.reduceLeDiff, Nat.reduceSub, Nat.reduceMul]; exact fz_int rfl) fun b hb => ?_
  · refine .agg _ _ rfl fun j hj => ?_
    rcases j with _ | _ | _ | j
    · exact .int _ _
    · exact .nil
    · exact .nil
    · simp at hj; omega
  · simp only [upd, if_neg (show b ≠ n by omega), if_neg (show b ≠ n + 1 by omega)]
set_option maxHeartbeats 8000000 in
theorem sp_ConvFrees {H : Heap} {n : Nat} (e : Enc) : Spec prog fid_law20_ConvFrees [e.gv] H n (.bool true) H n := by
  refine spec_ends hmix ok_law20_ConvFrees rfl fun hF => ?_
  show gw prog B_law20_ConvFrees _ (tl 59 _) H n
  have hu : ∀ x b, b < n → upd H n x b = H b := fun x b hb => upd_ne _ _ (by omega)
  have f1 : (n = n + 1) = False := eq_false (by omega)
  have f2 : n + 1 < n + 2 := by omega
  have f3 : n < n + 2 := by omega
  have f0 : n < n + 1 := by omega
  simp -implicitDefEqProofs only [B_law20_ConvFrees, go_sem, Nat.reduceLT, Nat.reduceBEq, Nat.reduceAdd, Nat.reduceEqDiff, Nat.reduceLeDiff, Nat.reduceSub, Nat.reduceMul]
  refine call_of (sp_few e) ?_
  by_cases hb : e.Bnd ∧ e.gs e.r ≤ 3000
  case neg =>
    rw [decide_eq_false hb]
    simp -implicitDefEqProofs only [go_sem, Nat.reduceLT, Nat.reduceBEq, Nat.reduceAdd, Nat.reduceEqDiff, Nat.reduceLeDiff, Nat.reduceSub, Nat.reduceMul]
    exact fin_ret rfl (by decide) (fz_bool rfl) (hu _)
  have hB := hb.1
  rw [decide_eq_true hb]
  simp -implicitDefEqProofs only [go_sem, Nat.reduceLT, Nat.reduceBEq, Nat.reduceAdd, Nat.reduceEqDiff, Nat.reduceLeDiff, Nat.reduceSub, Nat.reduceMul]
  refine call_of (sp_ref20_Check e hB) ?_
  by_cases hce : e.ce = 0
  case neg =>
    have sFr : ∀ (H : Heap) (n : Nat), Spec prog fid_conv_Free [e.gv] H n (.tup [.agg [.int .i64 0, .nil, .nil], .int .i64 e.ce]) H n := fun H n => by
      rcases e.cases with ⟨k, M, h, hd⟩ | hf
      · exact sp_conv_Free_no e hB h hd hce
      · rw [Enc.ce_fail hf]; exact sp_conv_Free_fail e hf
    have sCk : ∀ (H : Heap) (n : Nat), Spec prog fid_ref20_Check [e.gv] H n (.int .i64 e.ce) H n := fun H n => sp_ref20_Check e hB
    generalize e.ce = c at *
    have z1 : IntKind.i64.wrap (0 + 0) = 0 := by decide
    simp -implicitDefEqProofs only [go_sem, Nat.reduceLT, Nat.reduceBEq, Nat.reduceAdd, Nat.reduceEqDiff, Nat.reduceLeDiff, Nat.reduceSub, Nat.reduceMul, hce]
    refine call_of (sFr _ _) ?_
    simp -implicitDefEqProofs only [go_sem, Nat.reduceLT, Nat.reduceBEq, Nat.reduceAdd, Nat.reduceEqDiff, Nat.reduceLeDiff, Nat.reduceSub, Nat.reduceMul, upd_no, f1, f2, f3]
    refine call_of (sCk _ _) ?_
    simp -implicitDefEqProofs only [go_sem, Nat.reduceLT, Nat.reduceBEq, Nat.reduceAdd, Nat.reduceEqDiff, Nat.reduceLeDiff, Nat.reduceSub, Nat.reduceMul, upd_no, f1, f2, f3, z1]
    refine fin_ret rfl (by decide) (by simp -implicitDefEqProofs only [go_sem, Nat.reduceLT, Nat.reduceBEq, Nat.reduceAdd, Nat.reduceEqDiff, Nat.reduceLeDiff, Nat.reduceSub, Nat.reduceMul]; exact fz_bool rfl) fun b hb => ?_
    rw [upd_ne _ _ (by omega), upd_ne _ _ (by omega)]
  obtain ⟨k, M, h, hd⟩ : ∃ (k : Nat) (M : Mn k) (_ : Fi M), e.Des M := by
    rcases e.cases with hh | hf
    · exact hh
    · exact absurd (Enc.ok hce).1 hf
  have hq2 := qn_two M
  have hok := Enc.ok hce
  have hr0 : 0 < e.r := by have := hok.2.1.1; omega
  rw [hce]
  simp -implicitDefEqProofs only [go_sem, Nat.reduceLT, Nat.reduceBEq, Nat.reduceAdd, Nat.reduceEqDiff, Nat.reduceLeDiff, Nat.reduceSub, Nat.reduceMul]
  refine call_of (sp_ref20_Small e hB h hd hce 512) ?_
  by_cases hs : ((qn M ^ e.ds e.r * qn M ^ e.r : Nat) : Int) ≤ 512 ∧ e.w 0 ≤ 6
  case neg =>
    rw [decide_eq_false hs]
    simp -implicitDefEqProofs only [go_sem, Nat.reduceLT, Nat.reduceBEq, Nat.reduceAdd, Nat.reduceEqDiff, Nat.reduceLeDiff, Nat.reduceSub, Nat.reduceMul]
    exact fin_ret rfl (by decide) (fz_bool rfl) (hu _)
  rw [decide_eq_true hs]
  simp -implicitDefEqProofs only [go_sem, Nat.reduceLT, Nat.reduceBEq, Nat.reduceAdd, Nat.reduceEqDiff, Nat.reduceLeDiff, Nat.reduceSub, Nat.reduceMul]
  refine call_ofS (sp_conv_Free e hB h hd hce hr0) fun g H' n' hsp => ?_
  obtain ⟨rfl, rfl, pot, b, D, T, fin, rfl⟩ := hsp
  have hI1 : 1 ≤ qn M ^ e.r := Nat.pow_pos (by omega)
  have hT : T ≤ 600 := by
    have h1 : T ≤ qn M ^ e.ds e.r + 1 := fin.t1
    have h2 : qn M ^ e.ds e.r * 1 ≤ qn M ^ e.ds e.r * qn M ^ e.r := Nat.mul_le_mul_left _ hI1
    omega
  have sFr : ∀ (H : Heap) (n : Nat), Spec prog fid_ref20_Free [e.gv] H n (.int .i64 D) H n := fun H n => sp_ref20_Free e hB h hd hce hr0 fin
  have sAc : ∀ (H : Heap) (n : Nat), Spec prog fid_ref20_Accept [e.gv, (e.fp h hr0 pot b D T).gv] H n (.bool true) H n := fun H n => by
    have := sp_Accept (H := H) (n := n) e hB h hd hce (e.fp h hr0 pot b D T) hT
    rwa [decide_eq_true (e.fp_acc h hr0 fin)] at this
  have hgv : (e.fp h hr0 pot b D T).gv = .agg [.int .i64 D, msg T (fun _ => e.r) (fun j => inp M (b ((e.G h hr0).sq b j))), isl (qn M ^ e.ds e.r) pot] := rfl
  rw [hgv] at sAc
  generalize hms : msg T (fun _ => e.r) (fun j => inp M (b ((e.G h hr0).sq b j))) = MS at *
  generalize hps : isl (qn M ^ e.ds e.r) pot = PS at *
  have mc : isCell MS = true := by rw [← hms]; rfl
  have pc : isCell PS = true := by rw [← hps]; rfl
  simp -implicitDefEqProofs only [go_sem, Nat.reduceLT, Nat.reduceBEq, Nat.reduceAdd, Nat.reduceEqDiff, Nat.reduceLeDiff, Nat.reduceSub, Nat.reduceMul, upd_no, f1, f2, f3, mc, pc]
  refine mcall_of (.int _ _) (fun H1 n1 _ _ => sFr H1 n1) ?_
  simp -implicitDefEqProofs only [go_sem, Nat.reduceLT, Nat.reduceBEq, Nat.reduceAdd, Nat.reduceEqDiff, Nat.reduceLeDiff, Nat.reduceSub, Nat.reduceMul, upd_no, f1, f2, f3, mc, pc]
  refine call_of (sAc _ _) ?_
  simp -implicitDefEqProofs only [go_sem, Nat.reduceLT, Nat.reduceBEq, Nat.reduceAdd, Nat.reduceEqDiff, Nat.reduceLeDiff, Nat.reduceSub, Nat.reduceMul, upd_no, f1, f2, f3]
  refine fin_ret rfl (by decide) (by simp -implicitDefEqProofs only [go_sem, Nat.reduceLT, Nat.reduceBEq, Nat.reduceAdd, Nat.reduceEqDiff, Nat.reduceLeDiff, Nat.reduceSub, Nat.reduceMul]; exact fz_bool rfl) fun b hb => ?_
  rw [upd_ne _ _ (by omega), upd_ne _ _ (by omega)]
end Go.Proofs.Ytdpibcniodhinaa.Gh
