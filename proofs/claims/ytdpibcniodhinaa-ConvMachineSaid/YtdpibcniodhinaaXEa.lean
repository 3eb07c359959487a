/- The digits of the states, and the outputs of a message: the plain laws. -/
import Derived.Test.YtdpibcniodhinaaXDa
namespace Go.Proofs.Ytdpibcniodhinaa.Gh
open Go Go.RowKit
open Alg (CR Ps Dg Zm Mn El Cg sm pw Irr Prm)
set_option linter.unusedVariables false
set_option linter.unusedSimpArgs false

theorem dg_add_lo {q a x : Int} {pos p : Nat} (hq : 2 ≤ q) (h : pos < p) : dg q (a + x * q ^ p) pos = dg q a pos := by
  have hp : q ^ p = q ^ pos * (q * q ^ (p - pos - 1)) := by
    have e1 : q * q ^ (p - pos - 1) = q ^ (p - pos) := by
      have : p - pos = (p - pos - 1) + 1 := by omega
      rw [this, Int.pow_succ, Int.mul_comm, Nat.add_sub_cancel]
    rw [e1, ← Int.pow_add]; congr 1; omega
  have h0 : q ^ pos ≠ 0 := by have : 0 < q ^ pos := Int.pow_pos (by omega); omega
  have e2 : a + x * q ^ p = a + q ^ pos * (q * (x * q ^ (p - pos - 1))) := by
    rw [hp, Int.mul_left_comm x, Int.mul_left_comm x q]
  rw [dg, dg, e2, Int.add_mul_ediv_left _ _ h0, Int.add_mul_emod_self_left]
theorem dg_add_hi {q a x : Int} {p : Nat} (hq : 2 ≤ q) (ha0 : 0 ≤ a) (ha : a < q ^ p) (hx0 : 0 ≤ x) (hx : x < q) : dg q (a + x * q ^ p) p = x := by
  have h0 : q ^ p ≠ 0 := by have : 0 < q ^ p := Int.pow_pos (by omega); omega
  rw [dg, Int.add_mul_ediv_right _ _ h0, Int.ediv_eq_zero_of_lt ha0 ha, Int.zero_add]
  exact Int.emod_eq_of_lt hx0 hx
theorem Enc.nx_dg (e : Enc) {q st : Int} {inp : Nat → Int} (hq : 2 ≤ q) (hin : ∀ i, i < e.r → 0 ≤ inp i ∧ inp i < q) : ∀ i', i' ≤ e.r → ∀ d', (d' = 0 ∨ i' < e.r) → ∀ i d, (i < i' ∧ d < e.deg i) ∨ (i = i' ∧ d < d') → Gh.dg q (e.nx q st inp i' d') (e.ds i + d) = e.X q st inp i d := by
  intro i'
  have step : ∀ i', i' < e.r → ∀ d', (∀ i d, (i < i' ∧ d < e.deg i) ∨ (i = i' ∧ d < d') → Gh.dg q (e.nx q st inp i' d') (e.ds i + d) = e.X q st inp i d) → ∀ i d, (i < i' ∧ d < e.deg i) ∨ (i = i' ∧ d < d' + 1) → Gh.dg q (e.nx q st inp i' (d' + 1)) (e.ds i + d) = e.X q st inp i d := by
    intro i' hi' d' ih i d h
    rw [nx_step]
    have hb := e.nx_lt (st := st) hq hin i' (by omega) d' (.inr hi')
    have hX := e.X_in (st := st) hq hin hi' d'
    by_cases hlast : i = i' ∧ d = d'
    · obtain ⟨rfl, rfl⟩ := hlast
      exact dg_add_hi hq hb.1 hb.2 hX.1 hX.2
    · have hpos : e.ds i + d < e.ds i' + d' := by
        rcases h with ⟨h1, h2⟩ | ⟨h1, h2⟩
        · have h3 : e.ds (i + 1) ≤ e.ds i' := sumn_mono (by omega)
          have h4 : e.ds (i + 1) = e.ds i + e.deg i := rfl
          omega
        · subst h1; omega
      rw [dg_add_lo hq hpos]
      exact ih i d (by omega)
  induction i' with
  | zero =>
    intro hi d'
    induction d' with
    | zero => intro _ i d h; omega
    | succ d' ih => intro hd; exact step 0 (by omega) d' (ih (by omega))
  | succ i' ihi =>
    intro hi d'
    induction d' with
    | zero =>
      intro _ i d h
      rw [nx_row]
      refine ihi (by omega) (e.deg i') (by omega) i d ?_
      rcases h with ⟨h1, h2⟩ | ⟨h1, h2⟩
      · by_cases e1 : i = i'
        · subst e1; exact .inr ⟨rfl, h2⟩
        · exact .inl ⟨by omega, h2⟩
      · omega
    | succ d' ih => intro hd; exact step (i' + 1) (by omega) d' (ih (by omega))
/-- the states of a message -/
def Enc.S (e : Enc) (q : Int) (f : Nat → Nat → Int) : Nat → Int
  | 0 => 0
  | t + 1 => e.nx q (e.S q f t) (f t) e.r 0
theorem Enc.S_in (e : Enc) {q : Int} {f : Nat → Nat → Int} (hq : 2 ≤ q) : ∀ t, (∀ u, u < t → ∀ i, i < e.r → 0 ≤ f u i ∧ f u i < q) → 0 ≤ e.S q f t ∧ e.S q f t < q ^ e.ds e.r := by
  intro t
  cases t with
  | zero => intro _; exact ⟨Int.le_refl _, Int.pow_pos (by omega)⟩
  | succ t => intro h; exact e.nx_lt hq (h t (by omega)) e.r (Nat.le_refl _) 0 (.inl rfl)
theorem dg_of_zero (q : Int) (j : Nat) : dg q 0 j = 0 := by rw [dg, Int.zero_ediv]; exact Int.zero_emod _
theorem Enc.X_S (e : Enc) {q : Int} {f : Nat → Nat → Int} (hq : 2 ≤ q) : ∀ t, (∀ u, u < t → ∀ i, i < e.r → 0 ≤ f u i ∧ f u i < q) → ∀ i d, i < e.r → d ≤ e.deg i → e.X q (e.S q f t) (f t) i d = if d ≤ t then f (t - d) i else 0 := by
  intro t
  induction t with
  | zero =>
    intro _ i d hi hd
    unfold X
    by_cases h0 : d = 0
    · subst h0; rw [if_pos rfl, if_pos (Nat.le_refl _)]
    · rw [if_neg h0, if_neg (by omega)]; exact dg_of_zero _ _
  | succ t ih =>
    intro h i d hi hd
    by_cases h0 : d = 0
    · subst h0; rw [X, if_pos rfl, if_pos (by omega)]; rfl
    · obtain ⟨d, rfl⟩ : ∃ u, d = u + 1 := ⟨d - 1, by omega⟩
      have h1 := ih (fun u hu => h u (by omega)) i d hi (by omega)
      have h2 := e.nx_dg (st := e.S q f t) hq (h t (by omega)) e.r (Nat.le_refl _) 0 (.inl rfl) i d (.inl ⟨hi, by omega⟩)
      rw [X, if_neg h0, Nat.add_sub_cancel]
      show Gh.dg q (e.nx q (e.S q f t) (f t) e.r 0) (e.ds i + d) = _
      rw [h2, h1, show t + 1 - (d + 1) = t - d by omega]
      by_cases h3 : d ≤ t
      · rw [if_pos h3, if_pos (by omega)]
      · rw [if_neg h3, if_neg (by omega)]
theorem hid_big (f : Nat → Int) : ∀ n d, d < n → f d ≠ 0 → d ≤ hid f n := by
  intro n
  induction n with
  | zero => intro d h; omega
  | succ n ih =>
    intro d h hz
    rw [hid]
    by_cases e : d = n
    · subst e; rw [if_neg hz]; omega
    · have := ih d (by omega) hz
      split <;> omega
theorem Enc.dg_hid (e : Enc) (i : Nat) : ∀ w j, j < w → hid (e.c i j) (e.n i j) ≤ e.dg i w := by
  intro w
  induction w with
  | zero => intro j h; omega
  | succ w ih =>
    intro j h
    rw [Enc.dg]
    by_cases e1 : j = w
    · subst e1; omega
    · have := ih j (by omega); omega
theorem Enc.co_big (e : Enc) {i j d : Nat} (hj : j < e.w i) (hd : e.deg i < d) : e.co i j d = 0 := by
  unfold co
  by_cases h : d < e.n i j
  · rw [if_pos h]
    by_cases hz : e.c i j d = 0
    · exact hz
    · have h1 := hid_big (e.c i j) (e.n i j) d h hz
      have h2 := e.dg_hid i (e.w i) j hj
      have h3 : e.deg i = e.dg i (e.w i) := rfl
      omega
  · exact if_neg h
section
variable {k : Nat} {M : Mn k}
/-- a term of the reference's output -/
noncomputable def Enc.rt (e : Enc) (M : Mn k) (f : Nat → Nat → Int) (t j i d : Nat) : Alg.El M := ein M (e.c i j d) * ein M (f (t - d) i)
/-- the reference's output, so far -/
noncomputable def Enc.ro (e : Enc) (M : Mn k) (f : Nat → Nat → Int) (t j i d : Nat) : Alg.El M := sm i (fun i' => sm (min (t + 1) (e.n i' j)) (e.rt M f t j i')) + sm d (e.rt M f t j i)
theorem Enc.ro_zero (e : Enc) (f : Nat → Nat → Int) (t j : Nat) : e.ro M f t j 0 0 = 0 := Alg.add_zero _
theorem Enc.ro_step (e : Enc) (f : Nat → Nat → Int) (t j i d : Nat) : e.ro M f t j i (d + 1) = e.ro M f t j i d + e.rt M f t j i d := by
  rw [ro, ro, Alg.sm_succ, Alg.add_assoc]
theorem Enc.ro_row (e : Enc) (f : Nat → Nat → Int) (t j i : Nat) : e.ro M f t j (i + 1) 0 = e.ro M f t j i (min (t + 1) (e.n i j)) := by
  rw [ro, ro, Alg.sm_succ, Alg.sm_zero, Alg.add_zero]
theorem Enc.ro_so (e : Enc) (h : Fc M) (f : Nat → Nat → Int) (t j : Nat) (hw : ∀ i, i < e.r → j < e.w i) (hin : ∀ u, u < t → ∀ i, i < e.r → 0 ≤ f u i ∧ f u i < (qn M : Nat)) : e.ro M f t j e.r 0 = e.so M (e.S (qn M : Nat) f t) (f t) e.r 0 j := by
  have hq2 := qn_two M
  rw [ro, so, Alg.sm_zero, Alg.sm_zero]
  congr 1
  refine Alg.sm_congr fun i hi => ?_
  have hX := e.X_S (q := (qn M : Nat)) (by omega) t hin i
  -- both are sums over all places
  let L := t + 1 + e.n i j + (e.deg i + 1)
  have h1 : sm (min (t + 1) (e.n i j)) (e.rt M f t j i) = sm L fun d => if d ≤ t then ein M (e.co i j d) * ein M (f (t - d) i) else 0 := by
    have e1 : sm (min (t + 1) (e.n i j)) (e.rt M f t j i) = sm (min (t + 1) (e.n i j)) fun d => if d ≤ t then ein M (e.co i j d) * ein M (f (t - d) i) else 0 :=
      Alg.sm_congr fun d hd => by rw [rt, if_pos (by omega), co, if_pos (by omega)]
    rw [e1]
    refine (Alg.sm_ext (by omega) fun d d1 d2 => ?_).symm
    by_cases h3 : d ≤ t
    · rw [if_pos h3, co, if_neg (by omega), ein_zero h, Alg.zero_mul]
    · exact if_neg h3
  have h2 : sm (e.deg i + 1) (e.tm M (e.S (qn M : Nat) f t) (f t) j i) = sm L fun d => if d ≤ t then ein M (e.co i j d) * ein M (f (t - d) i) else 0 := by
    have e1 : sm (e.deg i + 1) (e.tm M (e.S (qn M : Nat) f t) (f t) j i) = sm (e.deg i + 1) fun d => if d ≤ t then ein M (e.co i j d) * ein M (f (t - d) i) else 0 :=
      Alg.sm_congr fun d hd => by
        rw [tm, hX d hi (by omega)]
        by_cases h3 : d ≤ t
        · rw [if_pos h3, if_pos h3, Alg.mul_comm]
        · rw [if_neg h3, if_neg h3, ein_zero h, Alg.zero_mul]
    rw [e1]
    refine (Alg.sm_ext (by omega) fun d d1 d2 => ?_).symm
    by_cases h3 : d ≤ t
    · rw [if_pos h3, e.co_big (hw i hi) (by omega), ein_zero h, Alg.zero_mul]
    · exact if_neg h3
  rw [h1, h2]
end
end Go.Proofs.Ytdpibcniodhinaa.Gh
/- Messages: errors, outputs by the program and by the reference. -/
namespace Go.Proofs.Ytdpibcniodhinaa.Gh
open Go Go.RowKit
open Alg (CR Ps Dg Zm Mn El Cg sm pw Irr Prm)
set_option linter.unusedVariables false
set_option linter.unusedSimpArgs false

/-- a message -/
def msr (l : Nat → Nat) (f : Nat → Nat → Int) : Nat → GV := fun t => isl (l t) (f t)
theorem msr_at (l : Nat → Nat) (f : Nat → Nat → Int) (t : Nat) : msr l f t = isl (l t) (f t) := rfl
abbrev msg (T : Nat) (l : Nat → Nat) (f : Nat → Nat → Int) : GV := .sl T (tab T (msr l f))
/-- the first error of a message -/
noncomputable def stE (r : Nat) (l : Nat → Nat) (f : Nat → Nat → Int) (q : Int) : Nat → Int
  | 0 => 0
  | t + 1 => if stE r l f q t = 0 then inE r (l t) (f t) q else stE r l f q t
theorem stE_up {r : Nat} {l : Nat → Nat} {f : Nat → Nat → Int} {q : Int} {t T : Nat} (h : t ≤ T) (h0 : stE r l f q t ≠ 0) : stE r l f q T = stE r l f q t := by
  induction T with
  | zero => have : t = 0 := by omega
            subst this; rfl
  | succ T ih =>
    by_cases e : t = T + 1
    · subst e; rfl
    · have := ih (by omega)
      rw [stE, if_neg (by rw [this]; exact h0)]; exact this
theorem stE_ok {r : Nat} {l : Nat → Nat} {f : Nat → Nat → Int} {q : Int} {T : Nat} (h : stE r l f q T = 0) : ∀ t, t < T → l t = r ∧ ∀ i, i < r → 0 ≤ f t i ∧ f t i < q := by
  induction T with
  | zero => intro t ht; omega
  | succ T ih =>
    rw [stE] at h
    by_cases h0 : stE r l f q T = 0
    · rw [if_pos h0] at h
      intro t ht
      by_cases e : t = T
      · subst e
        obtain ⟨h1, h2⟩ := inE_ok h
        exact ⟨h1, fun i hi => h2 i (by omega)⟩
      · exact ih h0 t (by omega)
    · rw [if_neg h0] at h; exact absurd h h0
theorem sp_ref20_Steps {H : Heap} {n : Nat} (e : Enc) (hB : e.Bnd) (T : Nat) (l : Nat → Nat) (f : Nat → Nat → Int) (hT : T ≤ 1000000) : Spec prog fid_ref20_Steps [e.gv, msg T l f] H n (.int .i64 (stE e.r l f (qo e.p e.m) T)) H n := by
  refine spec_ends hmix ok_ref20_Steps rfl fun hF => ?_
  show gw prog B_ref20_Steps _ (tl 22 _) H n
  simp -implicitDefEqProofs only [B_ref20_Steps, gev_t, gev_c, st_same, mkE_nil, mkE_cons, e_nil, e_cons, e_kops, e_mov, e_box, e_box_some, e_gc_agg, w_region, w_seq, w_block, w_loop, s_n, Nat.reduceLT, Nat.zero_add, ns2]
  refine loop_rule (fun (t : Nat) E H' n' => n' = n + 1 ∧ H' n = some e.cs ∧ (∀ b, b < n → H' b = H b) ∧ E 1 = msg T l f ∧ E 2 = .ptr n 0 ∧ E 5 = .int .i64 (t : Nat) ∧ t ≤ T ∧ stE e.r l f (qo e.p e.m) t = 0) (fun t => T - t) 0 ⟨rfl, by simp -implicitDefEqProofs only [upd_same], fun b hb => upd_ne _ _ (by omega), rfl, rfl, rfl, by omega, rfl⟩ ?_
  rintro t E H' n' ⟨rfl, h0, ho, e1, e2, e5, ht, hz⟩
  simp -implicitDefEqProofs only [gev_t, st_same, st_ne, e_nil, e_cons, e_kops, e_some, e_mov, e_bin, e_lss, e_len, e_len_sl, w_region, w_seq, w_cond, s_n, Nat.reduceLT, Nat.reduceBEq, e1, e5]
  refine c_split (fun hc => ?_) (fun hc => ?_)
  · have htN : t < T := by omega
    have hwt := wrap64 (x := (t : Int) + 1) (by omega)
    have hs : stE e.r l f (qo e.p e.m) (t + 1) = inE e.r (l t) (f t) (qo e.p e.m) := by rw [stE, if_pos hz]
    simp -implicitDefEqProofs only [gev_t, st_same, st_ne, e_cons, e_some, e_mov, e_iaddr, e_iaddr_sl, e_call, w_skip, w_seq, w_block, w_draw, s_n, d_kdr, m_nil, m_cons, m_kmops, m_kpm, m_load, m_cell_pp, Nat.reduceLT, Nat.reduceBEq, decide_true, Int.toNat_natCast, List.length_cons, List.length_nil, true_and, and_self, if_true, List.drop_zero, List.take_zero, List.take_succ_cons, Nat.zero_add, Nat.mul_one, List.map_cons, List.map_nil, tab_len, m_p_mov, m_p_indexAddr, m_cell_ptr, m_clm, Nat.lt_add_one, ns2, Int.natCast_nonneg, ns12, ns13, Nat.le_refl, e1, e2, e5, h0, hc, htN, gat_tab, msr_at]
    refine call_of (sp_ref20_List e hB (l t) (f t)) ?_
    by_cases hE : inE e.r (l t) (f t) (qo e.p e.m) = 0
    · simp -implicitDefEqProofs only [gev_t, gev_c, st_same, st_ne, e_nil, e_cons, e_kops, e_some, e_mov, e_bin, e_add, e_neq, w_skip, w_region, w_seq, w_cond, s_n, b_n, c_f, Nat.reduceLT, Nat.reduceBEq, decide_true, Bool.not_true, hE, e5, hwt]
      exact l_n ⟨t + 1, by omega, rfl, h0, ho, by simp -implicitDefEqProofs only [st_ne, Nat.reduceBEq, e1], by simp -implicitDefEqProofs only [st_ne, Nat.reduceBEq, e2], by simp -implicitDefEqProofs only [st_same]; rfl, by omega, hs.trans hE⟩
    · simp -implicitDefEqProofs only [gev_t, gev_c, st_same, st_ne, e_nil, e_cons, e_kops, e_some, e_mov, e_bin, e_neq, w_region, w_seq, w_ret, w_cond, s_n, s_r, b_r, c_t, l_r, Nat.reduceLT, Nat.reduceBEq, decide_false, Bool.not_false, Nat.lt_add_one, hE]
      refine fin_ret rfl (by decide) ?_ ho
      simp -implicitDefEqProofs only [st_same]
      exact fz_int (by rw [stE_up (t := t + 1) (by omega) (by rw [hs]; exact hE), hs])
  · have : t = T := by omega
    subst this
    simp -implicitDefEqProofs only [gev_c, e_nil, e_cons, e_kops, e_mov, w_region, w_seq, w_exit, w_ret, s_n, s_x, b_x, l_x, if_true]
    refine fin_ret rfl (by decide) ?_ ho
    simp -implicitDefEqProofs only [st_same]
    exact fz_int hz.symm

section
variable {k : Nat} {M : Mn k}
/-- the outputs of a message, row by row -/
noncomputable def Enc.orow (e : Enc) (M : Mn k) (f : Nat → Nat → Int) : Nat → GV := fun t => isl (e.w 0) fun j => (cn (e.so M (e.S (qn M : Nat) f t) (f t) e.r 0 j) : Nat)
noncomputable def Enc.oval (e : Enc) (M : Mn k) (f : Nat → Nat → Int) (T : Nat) : GV := if T = 0 then .nil else .sl T (tab T (e.orow M f))
theorem sp_encode {H : Heap} {n : Nat} (e : Enc) (hB : e.Bnd) (h : Fi M) (hd : e.Des M) (hce : e.ce = 0) (T : Nat) (l : Nat → Nat) (f : Nat → Nat → Int) (hT : T ≤ 100000) :
    Spec prog fid_conv_machine_encode [e.mch h.gf (qn M), msg T l f] H n (if stE e.r l f (qn M : Nat) T = 0 then .tup [e.oval M f T, .int .i64 0] else .tup [.nil, .int .i64 (stE e.r l f (qn M : Nat) T)]) H n := by
  refine spec_ends hmix ok_conv_machine_encode rfl fun hF => ?_
  show gw prog B_conv_machine_encode _ (tl 39 _) H n
  have hq2 := qn_two M
  have hpw := Enc.pow_le h hd hce (e.ds e.r) (Nat.le_refl _)
  have hP : ((qn M ^ e.ds e.r : Nat) : Int) = ((qn M : Nat) : Int) ^ e.ds e.r := Int.natCast_pow ..
  simp -implicitDefEqProofs only [B_conv_machine_encode, gev_t, gev_c, st_same, st_ne, mkE_nil, mkE_cons, e_nil, e_cons, e_kops, e_some, e_mov, e_len, e_len_sl, w_region, w_seq, w_block, w_loop, s_n, Nat.reduceLT, Nat.reduceBEq, Nat.zero_add, ns2]
  refine loop_rule (fun (t : Nat) E H' n' => ∃ g, n ≤ n' ∧ (∀ b, b < n → H' b = H b) ∧ Sl H' n n' g t (e.orow M f) ∧ (t = 0 → g = .nil) ∧ E 0 = e.mch h.gf (qn M) ∧ E 6 = g ∧ E 7 = .int .i64 (e.S (qn M : Nat) f t) ∧ E 13 = msg T l f ∧ E 14 = .int .i64 (T : Nat) ∧ E 15 = .int .i64 (t : Nat) ∧ t ≤ T ∧ stE e.r l f (qn M : Nat) t = 0) (fun t => T - t) 0 ⟨.nil, by omega, fun _ _ => rfl, .nil, fun _ => rfl, rfl, rfl, rfl, rfl, rfl, rfl, by omega, rfl⟩ ?_
  rintro t E H' n' ⟨g, hn, ho, sl, hg0, e0, e6, e7, e13, e14, e15, ht, hz⟩
  simp -implicitDefEqProofs only [gev_t, st_same, e_nil, e_cons, e_kops, e_some, e_bin, e_lss, w_region, w_seq, w_cond, s_n, Nat.reduceLT, e14, e15]
  refine c_split (fun hc => ?_) (fun hc => ?_)
  · have htN : t < T := by omega
    have hwt := wrap64 (x := (t : Int) + 1) (by omega)
    have hs : stE e.r l f (qn M : Nat) (t + 1) = inE e.r (l t) (f t) (qn M : Nat) := by rw [stE, if_pos hz]
    simp -implicitDefEqProofs only [gev_t, st_same, st_ne, e_nil, e_cons, e_kops, e_some, e_mov, e_iaddr, e_iaddr_sl, e_load, e_cell_pp, e_call, w_skip, w_region, w_seq, w_block, s_n, Nat.reduceLT, Nat.reduceBEq, decide_true, Int.toNat_natCast, true_and, and_self, if_true, Nat.mul_one, List.map_cons, List.map_nil, tab_len, Int.natCast_nonneg, e0, e13, e15, hc, htN, gat_tab, msr_at]
    refine call_of (sp_input e hB h (l t) (f t)) ?_
    by_cases hE : inE e.r (l t) (f t) (qn M : Nat) = 0
    · obtain ⟨hl, hf⟩ := inE_ok hE
      have hok := stE_ok hz
      have hS := e.S_in (q := (qn M : Nat)) (f := f) (by omega) t fun u hu i hi => (hok u hu).2 i hi
      rw [hl] at hf hE hs ⊢
      simp -implicitDefEqProofs only [gev_t, gev_c, st_same, st_ne, e_nil, e_cons, e_kops, e_some, e_mov, e_bin, e_neq, e_call, w_skip, w_region, w_seq, w_cond, s_n, c_f, Nat.reduceLT, Nat.reduceBEq, decide_true, Bool.not_true, List.map_cons, List.map_nil, hE, e0, e7]
      refine call_of (sp_step e hB h hd hce (e.S (qn M : Nat) f t) (f t) hS.1 (by omega) hf) ?_
      simp -implicitDefEqProofs only [gev_t, st_same, st_ne, e_nil, e_cons, e_kops, e_some, e_mov, e_ext, e_ext0, e_ext1, e_bslice, e_bs_some, e_append, e_gc_sl, w_region, w_seq, s_n, Nat.reduceLT, Nat.reduceBEq, List.length_cons, List.length_nil, setL_nil, setL_cons, e_gel_own, e_hgel, e_fill_nil, e_fill, e_hfl, upd_same, true_and, and_self, if_true, List.drop_zero, List.take_zero, List.take_succ_cons, List.set_cons_zero, Nat.zero_add, Nat.le_refl, e6]
      have sl' : Sl (upd H' n' (some [isl (e.w 0) fun j => ((cn (e.so M (e.S (qn M : Nat) f t) (f t) e.r 0 j) : Nat) : Int)])) n (n' + 1) g t (e.orow M f) := sl.keep (fun c hc => upd_ne _ _ (by have := sl.lt hc; omega)) (by omega)
      refine app_one sl' rfl rfl (by omega) fun H2 k1 k2 => ?_
      simp -implicitDefEqProofs only [gev_t, gev_c, st_same, st_ne, e_nil, e_cons, e_kops, e_some, e_mov, e_bin, e_add, w_region, s_n, b_n, Nat.reduceLT, Nat.reduceBEq, ns2, e15, hwt]
      refine l_n ⟨t + 1, by omega, .own (n' + 1) 0 (t + 1), by omega, fun b hb => ?_, .inr ⟨n' + 1, by omega, by omega, rfl, k1⟩, fun h => by omega, by simp -implicitDefEqProofs only [st_ne, Nat.reduceBEq, e0], by simp -implicitDefEqProofs only [st_same, st_ne, Nat.reduceBEq], by simp -implicitDefEqProofs only [st_same, st_ne, Nat.reduceBEq]; rfl, by simp -implicitDefEqProofs only [st_ne, Nat.reduceBEq, e13], by simp -implicitDefEqProofs only [st_ne, Nat.reduceBEq, e14], by simp -implicitDefEqProofs only [st_same]; rfl, by omega, hs.trans hE⟩
      rw [k2 b (by omega) fun hg => by have := sl.lt hg; omega, upd_ne _ _ (by omega)]; exact ho b hb
    · have hne : stE e.r l f (qn M : Nat) T = inE e.r (l t) (f t) (qn M : Nat) := by rw [stE_up (t := t + 1) (by omega) (by rw [hs]; exact hE), hs]
      rw [if_neg (by rw [hne]; exact hE), hne]
      simp -implicitDefEqProofs only [gev_t, gev_c, st_same, st_ne, e_nil, e_cons, e_kops, e_some, e_mov, e_bin, e_neq, w_region, w_seq, w_ret, w_cond, s_n, s_r, b_r, c_t, l_r, Nat.reduceLT, Nat.reduceBEq, decide_false, Bool.not_false, hE]
      exact fin_ret2 rfl (by decide) (by decide) (by simp -implicitDefEqProofs only [st_same, st_ne, Nat.reduceBEq]; exact .nil) (by simp -implicitDefEqProofs only [st_same]; exact fz_int rfl) ho
  · have : t = T := by omega
    subst this
    rw [if_pos hz]
    simp -implicitDefEqProofs only [gev_t, gev_c, st_same, st_ne, e_nil, e_cons, e_kops, e_mov, w_region, w_seq, w_exit, w_ret, s_n, s_x, b_x, l_x, Nat.reduceLT, Nat.reduceBEq, if_true, Nat.lt_add_one, e6]
    refine fin_ret2 rfl (by decide) (by decide) ?_ (by simp -implicitDefEqProofs only [st_same]; exact fz_int rfl) ho
    simp -implicitDefEqProofs only [st_same, st_ne, Nat.reduceBEq]
    by_cases h0 : t = 0
    · rw [hg0 h0, Enc.oval, if_pos h0]; exact .nil
    · obtain ⟨b, b1, b2, rfl, b3⟩ := sl.own (by omega)
      rw [Enc.oval, if_neg h0]
      refine .ownf b 0 t _ _ b3 (by omega) (fun i a c => by omega) (by rw [tab_len]; omega) tab_len fun j hj => ?_
      rw [Nat.zero_add, gat_tab hj]; exact (pl_isl _ _).tr
theorem sp_conv_Encode {H : Heap} {n : Nat} (e : Enc) (hB : e.Bnd) (h : Fi M) (hd : e.Des M) (T : Nat) (l : Nat → Nat) (f : Nat → Nat → Int) (hT : T ≤ 100000) :
    Spec prog fid_conv_Encode [e.gv, msg T l f] H n (if e.ce = 0 then (if stE e.r l f (qn M : Nat) T = 0 then .tup [e.oval M f T, .int .i64 0] else .tup [.nil, .int .i64 (stE e.r l f (qn M : Nat) T)]) else .tup [.nil, .int .i64 e.ce]) H n := by
  refine spec_ends hmix ok_conv_Encode rfl fun hF => ?_
  show gw prog B_conv_Encode _ (tl 21 _) H n
  have hu : ∀ x b, b < n → upd H n x b = H b := fun x b hb => upd_ne _ _ (by omega)
  simp -implicitDefEqProofs only [B_conv_Encode, gev_t, gev_c, st_same, st_ne, mkE_nil, mkE_cons, e_nil, e_cons, e_kops, e_mov, e_load, e_box, e_box_some, e_call, e_gc_agg, w_region, w_seq, s_n, Nat.reduceLT, Nat.reduceBEq, List.length_cons, List.length_nil, e_cell_ptr, e_clm, upd_same, true_and, List.drop_zero, List.take_zero, List.take_succ_cons, Nat.zero_add, List.map_cons, List.map_nil, ns2, ns12, ns13, Nat.le_refl]
  refine call_of (sp_conv_build e hB h hd) ?_
  by_cases hce : e.ce = 0
  · rw [if_pos hce, if_pos hce, hce]
    simp -implicitDefEqProofs only [gev_t, gev_c, st_same, st_ne, e_nil, e_cons, e_kops, e_some, e_mov, e_bin, e_neq, e_ext, e_ext0, e_ext1, e_call, w_skip, w_region, w_seq, w_cond, s_n, c_f, Nat.reduceLT, Nat.reduceBEq, decide_true, Bool.not_true, List.map_cons, List.map_nil]
    refine call_of (sp_encode e hB h hd hce T l f hT) ?_
    by_cases hz : stE e.r l f (qn M : Nat) T = 0
    · rw [if_pos hz]
      simp -implicitDefEqProofs only [gev_t, st_same, st_ne, e_nil, e_cons, e_kops, e_some, e_mov, e_ext, e_ext0, e_ext1, w_ret, s_n, Nat.reduceLT, Nat.reduceBEq, Nat.lt_add_one]
      refine fin_ret2 rfl (by decide) (by decide) ?_ (by simp -implicitDefEqProofs only [st_same]; exact fz_int rfl) (hu _)
      simp -implicitDefEqProofs only [st_same, st_ne, Nat.reduceBEq, Enc.oval]
      split
      · exact .nil
      · exact (Pl.sl _ _ (pl_tab fun i _ => pl_isl _ _)).tr
    · rw [if_neg hz]
      simp -implicitDefEqProofs only [gev_t, st_same, st_ne, e_nil, e_cons, e_kops, e_some, e_mov, e_ext, e_ext0, e_ext1, w_ret, s_n, Nat.reduceLT, Nat.reduceBEq, Nat.lt_add_one]
      exact fin_ret2 rfl (by decide) (by decide) (by simp -implicitDefEqProofs only [st_same, st_ne, Nat.reduceBEq]; exact .nil) (by simp -implicitDefEqProofs only [st_same]; exact fz_int rfl) (hu _)
  · rw [if_neg hce, if_neg hce]
    simp -implicitDefEqProofs only [gev_t, gev_c, st_same, st_ne, e_nil, e_cons, e_kops, e_some, e_mov, e_bin, e_neq, e_ext, e_ext0, e_ext1, w_region, w_seq, w_ret, w_cond, s_n, s_r, c_t, Nat.reduceLT, Nat.reduceBEq, decide_false, Bool.not_false, hce]
    exact fin_ret2 rfl (by decide) (by decide) (by simp -implicitDefEqProofs only [st_same, st_ne, Nat.reduceBEq]; exact .nil) (by simp -implicitDefEqProofs only [st_same]; exact fz_int rfl) (hu _)
end
theorem sp_conv_Encode_fail {H : Heap} {n : Nat} (e : Enc) (hf : ¬ e.Fok) (T : Nat) (l : Nat → Nat) (f : Nat → Nat → Int) : Spec prog fid_conv_Encode [e.gv, msg T l f] H n (.tup [.nil, .int .i64 1]) H n := by
  refine spec_ends hmix ok_conv_Encode rfl fun hF => ?_
  show gw prog B_conv_Encode _ (tl 21 _) H n
  have h10 : ((1 : Int) = 0) = False := by simp
  simp -implicitDefEqProofs only [B_conv_Encode, gev_t, gev_c, st_same, st_ne, mkE_nil, mkE_cons, e_nil, e_cons, e_kops, e_mov, e_load, e_box, e_box_some, e_call, e_gc_agg, w_region, w_seq, s_n, Nat.reduceLT, Nat.reduceBEq, List.length_cons, List.length_nil, e_cell_ptr, e_clm, upd_same, true_and, List.drop_zero, List.take_zero, List.take_succ_cons, Nat.zero_add, List.map_cons, List.map_nil, ns2, ns12, ns13, Nat.le_refl]
  refine call_of (sp_conv_build_fail e hf) ?_
  simp -implicitDefEqProofs only [gev_t, gev_c, st_same, st_ne, e_nil, e_cons, e_kops, e_some, e_mov, e_bin, e_neq, e_ext, e_ext0, e_ext1, w_region, w_seq, w_ret, w_cond, s_n, s_r, c_t, Nat.reduceLT, Nat.reduceBEq, decide_false, Bool.not_false, h10]
  exact fin_ret2 rfl (by decide) (by decide) (by simp -implicitDefEqProofs only [st_same, st_ne, Nat.reduceBEq]; exact .nil) (by simp -implicitDefEqProofs only [st_same]; exact fz_int rfl) fun b hb => upd_ne _ _ (by omega)
end Go.Proofs.Ytdpibcniodhinaa.Gh
/- The reference's outputs of a message. -/
namespace Go.Proofs.Ytdpibcniodhinaa.Gh
open Go Go.RowKit
open Alg (CR Ps Dg Zm Mn El Cg sm pw Irr Prm)
set_option linter.unusedVariables false
set_option linter.unusedSimpArgs false

theorem upf_upf {α : Type} (f : Nat → α) (i : Nat) (x y : α) : upf (upf f i x) i y = upf f i y := by
  funext j; simp only [upf]; split <;> rfl
section
variable {k : Nat} {M : Mn k}
set_option maxHeartbeats 4000000 in
theorem sp_ref20_Encode {H : Heap} {n : Nat} (e : Enc) (hB : e.Bnd) (h : Fi M) (hd : e.Des M) (hce : e.ce = 0) (T : Nat) (l : Nat → Nat) (f : Nat → Nat → Int) (hT : T ≤ 100000) (hz : stE e.r l f (qn M : Nat) T = 0) :
    Spec prog fid_ref20_Encode [e.gv, msg T l f] H n (e.oval M f T) H n := by
  refine spec_ends hmix ok_ref20_Encode rfl fun hF => ?_
  show gw prog B_ref20_Encode _ (tl 92 _) H n
  have hr := hB.r
  have hok := Enc.ok hce
  have hr0 : 0 < e.r := by have := hok.2.1.1; omega
  have hw0 := hB.w 0 hr0
  have hst := stE_ok hz
  have hfd : fgv e.p e.m (isl e.l e.mo) = fd M := Des.fd hd
  have sMul : ∀ (H3 : Heap) (n3 : Nat) (x y : Int), Spec prog fid_ref04_Mul [fgv e.p e.m (isl e.l e.mo), .int .i64 x, .int .i64 y] H3 n3 (.int .i64 (cd (ein M x * ein M y))) H3 n3 := fun H3 n3 x y => by rw [hfd]; exact sp_ref04_Mul h.fc x y
  have sAdd : ∀ (H3 : Heap) (n3 : Nat) (x y : Int), Spec prog fid_ref04_Add [fgv e.p e.m (isl e.l e.mo), .int .i64 x, .int .i64 y] H3 n3 (.int .i64 (cd (ein M x + ein M y))) H3 n3 := fun H3 n3 x y => by rw [hfd]; exact sp_ref04_Add h.fc x y
  have hz1 : (0 : Int) < (e.r : Int) := by omega
  have hz3 : (0 : Int).toNat = 0 := rfl
  have hz4 : (0 : Int) ≤ 0 := Int.le_refl 0
  simp -implicitDefEqProofs only [B_ref20_Encode, gev_t, gev_c, st_same, mkE_nil, mkE_cons, e_nil, e_cons, e_kops, e_mov, e_box, e_box_some, e_gc_agg, w_region, w_seq, w_block, w_loop, s_n, Nat.reduceLT, Nat.zero_add, ns2]
  refine loop_rule (fun (t : Nat) E H' n' => ∃ g bs, n + 1 ≤ n' ∧ H' n = some e.cs ∧ (∀ b, b < n → H' b = H b) ∧ Sl H' (n + 1) n' g t (fun u => .own (bs u) 0 (e.w 0)) ∧ (t = 0 → g = .nil) ∧ (∀ u, u < t → n + 1 ≤ bs u ∧ bs u < n' ∧ ¬ Own g (bs u) ∧ H' (bs u) = some (tab (e.w 0) (it fun j => (cn (e.so M (e.S (qn M : Nat) f u) (f u) e.r 0 j) : Nat)))) ∧ E 1 = msg T l f ∧ E 2 = .ptr n 0 ∧ E 5 = g ∧ E 6 = .int .i64 (t : Nat) ∧ t ≤ T) (fun t => T - t) 0 ⟨.nil, fun _ => 0, by omega, by simp -implicitDefEqProofs only [upd_same], fun b hb => upd_ne _ _ (by omega), .nil, fun _ => rfl, fun u hu => by omega, rfl, rfl, rfl, rfl, by omega⟩ ?_
  rintro t E H' n' ⟨g, bs, hn, h0, ho, sl, hg0, hrows, e1, e2, e5, e6, ht⟩
  simp -implicitDefEqProofs only [gev_t, st_same, st_ne, e_nil, e_cons, e_kops, e_some, e_mov, e_bin, e_lss, e_len, e_len_sl, w_region, w_seq, w_cond, s_n, Nat.reduceLT, Nat.reduceBEq, e1, e6]
  refine c_split (fun hc => ?_) (fun hc => ?_)
  · have htN : t < T := by omega
    have hwt := wrap64 (x := (t : Int) + 1) (by omega)
    have f0 : (n = n') = False := eq_false (by omega)
    simp -implicitDefEqProofs only [gev_t, gev_c, st_same, st_ne, e_nil, e_cons, e_kops, e_some, e_mov, e_faddr, e_faddr_ptr, e_iaddr, e_iaddr_sl, e_len, e_len_sl, e_load, e_cell_pp, e_mslice, e_ms_int, w_skip, w_region, w_seq, w_block, w_loop, s_n, Nat.reduceLT, Nat.reduceBEq, Int.toNat_natCast, List.length_cons, List.length_nil, e_cell_ptr, e_cl1, gat_3, true_and, and_self, if_true, Nat.zero_add, Nat.mul_one, tab_len, Nat.lt_add_one, ns2, Int.natCast_nonneg, ns12, ns13, e2, h0, hz1, hr0, hz3, hz4, gat_tab, e.rw_at]
    repeat with_reducible refine And.intro (by omega) ?_
    refine loop_rule (fun (j : Nat) E H1 n1 => n1 = n' + 1 ∧ H1 n' = some (tab (e.w 0) (it (mix (fun j => (cn (e.ro M f t j e.r 0) : Nat)) (fun _ => 0) j))) ∧ (∀ c, c ≠ n' → H1 c = H' c) ∧ E 1 = msg T l f ∧ E 2 = .ptr n 0 ∧ E 5 = g ∧ E 6 = .int .i64 (t : Nat) ∧ E 7 = .own n' 0 (e.w 0) ∧ E 8 = .int .i64 (j : Nat) ∧ j ≤ e.w 0) (fun j => e.w 0 - j) 0 ?_ ?_
    · refine ⟨rfl, ?_, fun c hc => upd_ne _ _ hc, by simp -implicitDefEqProofs only [st_ne, Nat.reduceBEq, e1], by simp -implicitDefEqProofs only [st_ne, Nat.reduceBEq, e2], by simp -implicitDefEqProofs only [st_ne, Nat.reduceBEq, e5], by simp -implicitDefEqProofs only [st_ne, Nat.reduceBEq, e6], by simp -implicitDefEqProofs only [st_same, st_ne, Nat.reduceBEq], rfl, by omega⟩
      simp -implicitDefEqProofs only [upd_same, tab_rep, mix_zero]; rfl
    clear e1 e2 e5 e6 E
    rintro j E H1 n1 ⟨rfl, hrow, hk, e1, e2, e5, e6, e7, e8, hj⟩
    simp -implicitDefEqProofs only [gev_t, st_same, st_ne, e_nil, e_cons, e_kops, e_some, e_mov, e_bin, e_lss, e_len, e_len_own, w_region, w_seq, w_cond, s_n, Nat.reduceLT, Nat.reduceBEq, e7, e8]
    refine c_split (fun hcj => ?_) (fun hcj => ?_)
    · have hjN : j < e.w 0 := by omega
      have hjI : ((j : Nat) : Int) < ((e.w 0 : Nat) : Int) := hcj
      have hwj := wrap64 (x := (j : Int) + 1) (by omega)
      simp -implicitDefEqProofs only [gev_c, e_nil, e_cons, e_kops, e_mov, w_skip, w_region, w_seq, w_block, w_loop, s_n]
      refine loop_rule (fun (i : Nat) E H2 n2 => n2 = n' + 1 ∧ H2 n' = some (tab (e.w 0) (it (upf (mix (fun j => (cn (e.ro M f t j e.r 0) : Nat)) (fun _ => 0) j) j (cn (e.ro M f t j i 0) : Nat)))) ∧ (∀ c, c ≠ n' → H2 c = H' c) ∧ E 1 = msg T l f ∧ E 2 = .ptr n 0 ∧ E 5 = g ∧ E 6 = .int .i64 (t : Nat) ∧ E 7 = .own n' 0 (e.w 0) ∧ E 8 = .int .i64 (j : Nat) ∧ E 9 = .int .i64 (i : Nat) ∧ i ≤ e.r) (fun i => e.r - i) 0 ?_ ?_
      · refine ⟨rfl, ?_, hk, by simp -implicitDefEqProofs only [st_ne, Nat.reduceBEq, e1], by simp -implicitDefEqProofs only [st_ne, Nat.reduceBEq, e2], by simp -implicitDefEqProofs only [st_ne, Nat.reduceBEq, e5], by simp -implicitDefEqProofs only [st_ne, Nat.reduceBEq, e6], by simp -implicitDefEqProofs only [st_ne, Nat.reduceBEq, e7], by simp -implicitDefEqProofs only [st_ne, Nat.reduceBEq, e8], rfl, by omega⟩
        rw [hrow]
        refine congrArg some (tab_congr fun u hu => congrArg (GV.int .i64) ?_)
        by_cases eu : u = j
        · subst eu
          rw [upf_same, mix_at, e.ro_zero, cn_zero]; rfl
        · rw [upf_ne _ _ eu]
      clear hrow hk e1 e2 e5 e6 e7 e8 E H1
      rintro i E H2 n2 ⟨rfl, hrow, hk, e1, e2, e5, e6, e7, e8, e9, hi⟩
      have h0' : H2 n = some e.cs := by rw [hk n (by omega)]; exact h0
      simp -implicitDefEqProofs only [gev_t, st_same, st_ne, e_nil, e_cons, e_kops, e_some, e_mov, e_bin, e_lss, e_faddr, e_faddr_ptr, e_len, e_len_sl, e_load, w_region, w_seq, w_cond, s_n, Nat.reduceLT, Nat.reduceBEq, List.length_cons, List.length_nil, e_cell_ptr, e_cl1, gat_3, true_and, Nat.zero_add, Nat.lt_add_one, ns2, ns12, ns13, e2, e9, h0']
      refine c_split (fun hci => ?_) (fun hci => ?_)
      · have hiN : i < e.r := by omega
        have hiI : ((i : Nat) : Int) < ((e.r : Nat) : Int) := hci
        have hwi := wrap64 (x := (i : Int) + 1) (by omega)
        have hwN : e.w i = e.w 0 := hok.2.1.2.2.2 i hiN
        have hnij := hB.n i j hiN (by omega)
        simp -implicitDefEqProofs only [gev_c, e_nil, e_cons, e_kops, e_mov, w_skip, w_region, w_seq, w_block, w_loop, s_n]
        refine loop_rule (fun (d : Nat) E H3 n3 => n3 = n' + 1 ∧ H3 n' = some (tab (e.w 0) (it (upf (mix (fun j => (cn (e.ro M f t j e.r 0) : Nat)) (fun _ => 0) j) j (cn (e.ro M f t j i d) : Nat)))) ∧ (∀ c, c ≠ n' → H3 c = H' c) ∧ E 1 = msg T l f ∧ E 2 = .ptr n 0 ∧ E 5 = g ∧ E 6 = .int .i64 (t : Nat) ∧ E 7 = .own n' 0 (e.w 0) ∧ E 8 = .int .i64 (j : Nat) ∧ E 9 = .int .i64 (i : Nat) ∧ E 10 = .int .i64 (d : Nat) ∧ d ≤ min (t + 1) (e.n i j)) (fun d => min (t + 1) (e.n i j) - d) 0 ⟨rfl, hrow, hk, by simp -implicitDefEqProofs only [st_ne, Nat.reduceBEq, e1], by simp -implicitDefEqProofs only [st_ne, Nat.reduceBEq, e2], by simp -implicitDefEqProofs only [st_ne, Nat.reduceBEq, e5], by simp -implicitDefEqProofs only [st_ne, Nat.reduceBEq, e6], by simp -implicitDefEqProofs only [st_ne, Nat.reduceBEq, e7], by simp -implicitDefEqProofs only [st_ne, Nat.reduceBEq, e8], by simp -implicitDefEqProofs only [st_ne, Nat.reduceBEq, e9], rfl, by omega⟩ ?_
        clear hrow hk h0' e1 e2 e5 e6 e7 e8 e9 E H2
        rintro d E H3 n3 ⟨rfl, hrow, hk, e1, e2, e5, e6, e7, e8, e9, e10, hdd⟩
        have h0' : H3 n = some e.cs := by rw [hk n (by omega)]; exact h0
        by_cases hcd : d < min (t + 1) (e.n i j)
        · have hdt : ((d : Nat) : Int) ≤ ((t : Nat) : Int) := by omega
          have hdn : ((d : Nat) : Int) < ((e.n i j : Nat) : Int) := by omega
          have hdN : d < e.n i j := by omega
          have htd : t - d < T := by omega
          have htdI : ((t - d : Nat) : Int) < ((T : Nat) : Int) := by omega
          have htd0 := Int.natCast_nonneg (t - d)
          have hws : IntKind.i64.wrap (((t : Nat) : Int) - ((d : Nat) : Int)) = ((t - d : Nat) : Int) := (wrap64 (by omega)).trans (by omega)
          have hlr := (hst (t - d) htd).1
          have hil : i < l (t - d) := by omega
          have hilI : ((i : Nat) : Int) < ((l (t - d) : Nat) : Int) := by omega
          have hwd := wrap64 (x := (d : Int) + 1) (by omega)
          have f1 : n < n' + 1 := by omega
          have f2 : n' < n' + 1 := by omega
          have hat : upf (mix (fun j => ((cn (e.ro M f t j e.r 0) : Nat) : Int)) (fun _ => 0) j) j ((cn (e.ro M f t j i d) : Nat) : Int) j = ((cn (e.ro M f t j i d) : Nat) : Int) := upf_same _ _ _
          simp -implicitDefEqProofs only [gev_t, gev_c, st_same, st_ne, e_nil, e_cons, e_kops, e_guard, e_tt, e_some, e_mov, e_pick, e_pick_t, e_bin, e_sub, e_lss, e_leq, e_faddr, e_faddr_ptr, e_iaddr, e_iaddr_own, e_iaddr_sl, e_len, e_len_sl, e_load, e_cell_pp, w_skip, w_region, w_seq, w_block, w_cond, w_draw, s_n, c_t, m_cons, m_kmops, m_kpm, m_load, m_cell_pp, m_call, Nat.reduceLT, Nat.reduceBEq, Nat.reduceLeDiff, decide_true, Int.toNat_natCast, List.length_cons, List.length_nil, e_cell_ptr, e_cl1, gat_3, true_and, and_self, if_true, List.drop_zero, List.take_zero, List.take_succ_cons, Nat.add_zero, Nat.zero_add, Nat.mul_one, List.map_cons, List.map_nil, tab_len, m_p_mov, m_p_bin, m_p_fieldAddr, m_p_indexAddr, m_cell_ptr, m_cl1, m_clm, Nat.lt_add_one, ns2, Int.natCast_nonneg, it_at, ns12, ns13, e1, e2, e6, e7, e8, e9, e10, h0', hrow, hiI, hiN, hjI, hjN, hdt, hdn, hdN, gat_tab, e.rw_at, e.pl_at, hwN, msr_at, hws, htd, htdI, htd0, hil, hilI, f1, f2, hat]
          refine mcall_of (.int _ _) (fun H4 n4 _ _ => sMul H4 n4 _ _) ?_
          simp -implicitDefEqProofs only [gev_t, st_same, st_ne, m_cons, m_kmops, m_call, Nat.reduceLT, Nat.reduceBEq, List.map_cons, List.map_nil]
          refine mcall_of (.int _ _) (fun H4 n4 _ _ => sAdd H4 n4 _ _) ?_
          have hval : cd (ein M ((cn (e.ro M f t j i d) : Nat) : Int) + ein M (cd (ein M (e.c i j d) * ein M (f (t - d) i)))) = ((cn (e.ro M f t j i (d + 1)) : Nat) : Int) := by
            rw [cd_cn (ein M (e.c i j d) * ein M (f (t - d) i)), ein_cn h.fc, ein_cn h.fc, cd_cn, e.ro_step]; rfl
          simp -implicitDefEqProofs only [gev_t, gev_c, st_same, st_ne, e_nil, e_cons, e_kops, e_kops_none, e_some, e_mov, e_bin, e_add, e_iaddr, e_iaddr_own, e_store, e_gc_int, w_region, s_n, b_n, d_kdr, m_nil, m_kmops, Nat.reduceLT, Nat.reduceBEq, Int.toNat_natCast, List.length_cons, List.length_nil, setL_nil, setL_cons, e_store_ptr, e_stp, cell_int, true_and, and_self, if_true, List.all_cons, List.all_nil, Bool.and_self, Nat.zero_add, Nat.mul_one, tab_len, tab_set, it_upf, Int.natCast_nonneg, e10, hrow, hjI, hwd, hval, upf_upf]
          repeat with_reducible refine And.intro (by omega) ?_
          exact l_n ⟨d + 1, by omega, rfl, by simp -implicitDefEqProofs only [upd_same], fun c hc => by rw [upd_ne _ _ hc]; exact hk c hc, by simp -implicitDefEqProofs only [st_ne, Nat.reduceBEq, e1], by simp -implicitDefEqProofs only [st_ne, Nat.reduceBEq, e2], by simp -implicitDefEqProofs only [st_ne, Nat.reduceBEq, e5], by simp -implicitDefEqProofs only [st_ne, Nat.reduceBEq, e6], by simp -implicitDefEqProofs only [st_ne, Nat.reduceBEq, e7], by simp -implicitDefEqProofs only [st_ne, Nat.reduceBEq, e8], by simp -implicitDefEqProofs only [st_ne, Nat.reduceBEq, e9], by simp -implicitDefEqProofs only [st_same]; rfl, by omega⟩
        · have hdm : d = min (t + 1) (e.n i j) := by omega
          have hrow' : H3 n' = some (tab (e.w 0) (it (upf (mix (fun j => (cn (e.ro M f t j e.r 0) : Nat)) (fun _ => 0) j) j (cn (e.ro M f t j (i + 1) 0) : Nat)))) := by
            rw [e.ro_row, ← hdm]; exact hrow
          by_cases hdt : ((d : Nat) : Int) ≤ ((t : Nat) : Int)
          · have hdn : ¬ ((d : Nat) : Int) < ((e.n i j : Nat) : Int) := by omega
            simp -implicitDefEqProofs only [gev_t, gev_c, st_same, st_ne, e_nil, e_cons, e_kops, e_guard, e_tt, e_some, e_mov, e_pick, e_pick_t, e_bin, e_add, e_lss, e_leq, e_faddr, e_faddr_ptr, e_iaddr, e_iaddr_sl, e_len, e_len_sl, e_load, e_cell_pp, e_bslice, w_region, w_seq, w_exit, w_ret, w_cond, s_n, s_x, b_n, b_x, c_f, l_x, Nat.reduceLT, Nat.reduceBEq, Nat.reduceEqDiff, decide_true, decide_false, Int.toNat_natCast, List.length_cons, List.length_nil, e_cell_ptr, e_cl1, e_fill, gat_3, true_and, and_self, if_true, if_false, Nat.zero_add, Nat.mul_one, tab_len, Nat.lt_add_one, ns2, Int.natCast_nonneg, ns12, ns13, e2, e6, e8, e9, e10, h0', hiI, hiN, hjI, hjN, hdt, hdn, gat_tab, e.rw_at, e.pl_at, hwN, hwi]
            exact l_n ⟨i + 1, by omega, rfl, hrow', hk, by simp -implicitDefEqProofs only [st_ne, Nat.reduceBEq, e1], by simp -implicitDefEqProofs only [st_ne, Nat.reduceBEq, e2], by simp -implicitDefEqProofs only [st_ne, Nat.reduceBEq, e5], by simp -implicitDefEqProofs only [st_ne, Nat.reduceBEq, e6], by simp -implicitDefEqProofs only [st_ne, Nat.reduceBEq, e7], by simp -implicitDefEqProofs only [st_ne, Nat.reduceBEq, e8], by simp -implicitDefEqProofs only [st_same]; rfl, by omega⟩
          · simp -implicitDefEqProofs only [gev_t, gev_c, st_same, st_ne, e_nil, e_cons, e_kops, e_guard, e_tf, e_some, e_mov, e_pick, e_pick_f, e_bin, e_add, e_leq, e_bslice, w_region, w_seq, w_exit, w_ret, w_cond, s_n, s_x, b_n, b_x, c_f, l_x, Nat.reduceLT, Nat.reduceBEq, Nat.reduceEqDiff, decide_false, e_fill, if_true, if_false, Nat.lt_add_one, e6, e9, e10, hdt, hwi]
            exact l_n ⟨i + 1, by omega, rfl, hrow', hk, by simp -implicitDefEqProofs only [st_ne, Nat.reduceBEq, e1], by simp -implicitDefEqProofs only [st_ne, Nat.reduceBEq, e2], by simp -implicitDefEqProofs only [st_ne, Nat.reduceBEq, e5], by simp -implicitDefEqProofs only [st_ne, Nat.reduceBEq, e6], by simp -implicitDefEqProofs only [st_ne, Nat.reduceBEq, e7], by simp -implicitDefEqProofs only [st_ne, Nat.reduceBEq, e8], by simp -implicitDefEqProofs only [st_same]; rfl, by omega⟩
      · have hir : i = e.r := by omega
        subst hir
        rw [mix_step (fun j => ((cn (e.ro M f t j e.r 0) : Nat) : Int)) (fun _ => 0) j] at hrow
        simp -implicitDefEqProofs only [gev_t, gev_c, st_same, st_ne, e_nil, e_cons, e_kops, e_some, e_mov, e_bin, e_add, e_bslice, w_region, w_seq, w_exit, w_ret, s_n, s_x, b_n, b_x, l_x, Nat.reduceLT, Nat.reduceBEq, Nat.reduceEqDiff, e_fill, if_true, if_false, Nat.lt_add_one, e8, hwj]
        exact l_n ⟨j + 1, by omega, rfl, hrow, hk, by simp -implicitDefEqProofs only [st_ne, Nat.reduceBEq, e1], by simp -implicitDefEqProofs only [st_ne, Nat.reduceBEq, e2], by simp -implicitDefEqProofs only [st_ne, Nat.reduceBEq, e5], by simp -implicitDefEqProofs only [st_ne, Nat.reduceBEq, e6], by simp -implicitDefEqProofs only [st_ne, Nat.reduceBEq, e7], by simp -implicitDefEqProofs only [st_same]; rfl, by omega⟩
    · have hjw : j = e.w 0 := by omega
      subst hjw
      have hrow : H1 n' = some (tab (e.w 0) (it fun j => (cn (e.so M (e.S (qn M : Nat) f t) (f t) e.r 0 j) : Nat))) := by
        rw [hrow]
        refine congrArg some (tab_congr fun u hu => congrArg (GV.int .i64) ?_)
        rw [mix_lt _ _ hu]
        show ((cn (e.ro M f t u e.r 0) : Nat) : Int) = _
        rw [e.ro_so h.fc f t u (fun i hi => by rw [hok.2.1.2.2.2 i hi]; exact hu) fun v hv i hi => (hst v (by omega)).2 i hi]
      have sl0 : Sl H1 (n + 1) (n' + 1) g t (fun u => .own (upf bs t n' u) 0 (e.w 0)) := (sl.keep (fun c hc => hk c (by have := sl.lt hc; omega)) (by omega)).congr fun u hu => by rw [upf_ne _ _ (by omega)]
      simp -implicitDefEqProofs only [gev_t, gev_c, st_same, st_ne, e_nil, e_cons, e_kops, e_mov, e_bin, e_bslice, e_bs_some, e_append, e_gc_own, w_region, w_seq, w_exit, w_ret, s_n, s_x, b_x, l_x, Nat.reduceLT, Nat.reduceBEq, Nat.reduceEqDiff, List.length_cons, List.length_nil, setL_nil, setL_cons, e_gel_own, e_hgel, e_fill_nil, e_fill, e_hfl, upd_same, true_and, and_self, if_true, if_false, List.drop_zero, List.take_zero, List.take_succ_cons, List.set_cons_zero, Nat.zero_add, Nat.lt_add_one, ns2, Nat.le_refl, e5, e7]
      have sl' : Sl (upd H1 (n' + 1) (some [GV.own n' 0 (e.w 0)])) (n + 1) (n' + 2) g t (fun u => .own (upf bs t n' u) 0 (e.w 0)) := sl0.keep (fun c hc => upd_ne _ _ (by have := sl.lt hc; omega)) (by omega)
      refine app_one sl' (by rw [upf_same]) rfl (by omega) fun H2 k1 k2 => ?_
      have keep : ∀ c, c < n' + 1 → ¬ Own g c → H2 c = H1 c := fun c hc hg => by rw [k2 c (by omega) hg, upd_ne _ _ (by omega)]
      simp -implicitDefEqProofs only [gev_t, gev_c, st_same, st_ne, e_nil, e_cons, e_kops, e_some, e_mov, e_bin, e_add, w_region, s_n, b_n, Nat.reduceLT, Nat.reduceBEq, ns2, ns12, e6, hwt]
      refine l_n ⟨t + 1, by omega, .own (n' + 2) 0 (t + 1), upf bs t n', by omega, ?_, fun b hb => ?_, .inr ⟨n' + 2, by omega, by omega, rfl, k1⟩, fun h => by omega, fun u hu => ?_, by simp -implicitDefEqProofs only [st_ne, Nat.reduceBEq, e1], by simp -implicitDefEqProofs only [st_ne, Nat.reduceBEq, e2], by simp -implicitDefEqProofs only [st_same, st_ne, Nat.reduceBEq], by simp -implicitDefEqProofs only [st_same]; rfl, by omega⟩
      · rw [keep n (by omega) fun hg => by have := sl.lt hg; omega, hk n (by omega)]; exact h0
      · rw [keep b (by omega) fun hg => by have := sl.lt hg; omega, hk b (by omega)]; exact ho b hb
      · by_cases eu : u = t
        · subst eu
          rw [upf_same]
          refine ⟨by omega, by omega, fun hg => by rw [own_own] at hg; omega, ?_⟩
          rw [keep n' (by omega) fun hg => by have := sl.lt hg; omega]; exact hrow
        · rw [upf_ne _ _ eu]
          obtain ⟨r1, r2, r3, r4⟩ := hrows u (by omega)
          refine ⟨r1, by omega, fun hg => by rw [own_own] at hg; omega, ?_⟩
          rw [keep _ (by omega) r3, hk _ (by omega)]; exact r4
  · have : t = T := by omega
    subst this
    simp -implicitDefEqProofs only [gev_t, st_same, st_ne, e_nil, e_cons, e_kops, e_mov, w_region, w_seq, w_exit, w_ret, s_n, s_x, b_x, l_x, Nat.reduceLT, Nat.reduceBEq, if_true, Nat.lt_add_one, e5]
    refine fin_ret rfl (by decide) ?_ ho
    simp -implicitDefEqProofs only [st_same]
    by_cases h0 : t = 0
    · rw [hg0 h0, Enc.oval, if_pos h0]; exact .nil
    · obtain ⟨b, b1, b2, rfl, b3⟩ := sl.own (by omega)
      rw [Enc.oval, if_neg h0]
      refine .ownf b 0 t _ _ b3 (by omega) (fun i a c => by omega) (by rw [tab_len]; omega) tab_len fun u hu => ?_
      rw [Nat.zero_add, gat_tab hu, gat_tab hu]
      obtain ⟨r1, r2, r3, r4⟩ := hrows u hu
      exact fz_own_isl r4 (by omega)
end

theorem sp_SameRows {H : Heap} {n : Nat} (T : Nat) (l : Nat → Nat) (f : Nat → Nat → Int) (hT : T ≤ 1000000) (hl : ∀ t, t < T → l t ≤ 1000000) : Spec prog fid_ref09_SameRows [if T = 0 then .nil else msg T l f, if T = 0 then .nil else msg T l f] H n (.bool true) H n := by
  refine spec_ends hmix ok_ref09_SameRows rfl fun hF => ?_
  show gw prog B_ref09_SameRows _ (tl 27 _) H n
  by_cases h0 : T = 0
  · rw [if_pos h0]
    have h00 : ¬ (0 : Int) < 0 := by omega
    simp -implicitDefEqProofs only [B_ref09_SameRows, gev_t, gev_c, st_same, st_ne, mkE_nil, mkE_cons, e_nil, e_cons, e_kops, e_some, e_mov, e_bin, e_neq, e_len, e_len_nil, w_skip, w_region, w_seq, w_block, w_cond, w_loop, s_n, c_f, Nat.reduceLT, Nat.reduceBEq, decide_true, Bool.not_true, Nat.zero_add, ns2]
    refine loop_rule (fun (t : Nat) E H' n' => H' = H ∧ n' = n ∧ E 0 = .nil ∧ E 5 = .int .i64 0) (fun t => 0) 0 ⟨rfl, rfl, rfl, rfl⟩ ?_
    rintro t E H' n' ⟨rfl, rfl, e0, e5⟩
    simp -implicitDefEqProofs only [gev_t, gev_c, st_same, st_ne, e_nil, e_cons, e_kops, e_some, e_mov, e_bin, e_lss, e_len, e_len_nil, w_region, w_seq, w_exit, w_ret, w_cond, s_n, s_x, b_x, c_f, l_x, Nat.reduceLT, Nat.reduceBEq, decide_false, if_true, e0, e5, Int.lt_irrefl]
    exact fin_ret rfl (by decide) (fz_bool rfl) fun _ _ => rfl
  · rw [if_neg h0]
    simp -implicitDefEqProofs only [B_ref09_SameRows, gev_t, gev_c, st_same, st_ne, mkE_nil, mkE_cons, e_nil, e_cons, e_kops, e_some, e_mov, e_bin, e_neq, e_len, e_len_sl, w_skip, w_region, w_seq, w_block, w_cond, w_loop, s_n, c_f, Nat.reduceLT, Nat.reduceBEq, decide_true, Bool.not_true, Nat.zero_add, ns2]
    refine loop_rule (fun (t : Nat) E H' n' => H' = H ∧ n' = n ∧ E 0 = msg T l f ∧ E 1 = msg T l f ∧ E 5 = .int .i64 (t : Nat) ∧ t ≤ T) (fun t => T - t) 0 ⟨rfl, rfl, rfl, rfl, rfl, by omega⟩ ?_
    rintro t E H' n' ⟨rfl, rfl, e0, e1, e5, ht⟩
    simp -implicitDefEqProofs only [gev_t, st_same, st_ne, e_nil, e_cons, e_kops, e_some, e_mov, e_bin, e_lss, e_len, e_len_sl, w_region, w_seq, w_cond, s_n, Nat.reduceLT, Nat.reduceBEq, e0, e5]
    refine c_split (fun hc => ?_) (fun hc => ?_)
    · have htN : t < T := by omega
      have hwt := wrap64 (x := (t : Int) + 1) (by omega)
      have hS : decide (l t = l t ∧ ∀ i, i < l t → f t i = f t i) = true := decide_eq_true ⟨rfl, fun _ _ => rfl⟩
      simp -implicitDefEqProofs only [gev_t, st_same, st_ne, e_cons, e_some, e_mov, e_iaddr, e_iaddr_sl, e_call, w_skip, w_seq, w_block, w_draw, s_n, d_kdr, m_nil, m_cons, m_kmops, m_kpm, m_load, m_cell_pp, Nat.reduceLT, Nat.reduceBEq, decide_true, Int.toNat_natCast, true_and, and_self, if_true, Nat.mul_one, List.map_cons, List.map_nil, tab_len, m_p_mov, m_p_indexAddr, Int.natCast_nonneg, e0, e1, e5, hc, htN, gat_tab, msr_at]
      refine call_of (sp_SameInts (l t) (l t) (f t) (f t) (hl t htN)) ?_
      rw [hS]
      simp -implicitDefEqProofs only [gev_t, gev_c, st_same, st_ne, e_nil, e_cons, e_kops, e_some, e_mov, e_bin, e_un, e_not, e_add, w_skip, w_region, w_cond, s_n, b_n, c_f, Nat.reduceLT, Nat.reduceBEq, Bool.not_true, Nat.lt_add_one, e5, hwt]
      exact l_n ⟨t + 1, by omega, rfl, rfl, by simp -implicitDefEqProofs only [st_ne, Nat.reduceBEq, e0], by simp -implicitDefEqProofs only [st_ne, Nat.reduceBEq, e1], by simp -implicitDefEqProofs only [st_same]; rfl, by omega⟩
    · simp -implicitDefEqProofs only [gev_c, e_nil, e_cons, e_kops, e_mov, w_region, w_seq, w_exit, w_ret, s_n, s_x, b_x, l_x, if_true]
      exact fin_ret rfl (by decide) (fz_bool rfl) fun _ _ => rfl

theorem sp_ConvEncodes {H : Heap} {n : Nat} (e : Enc) (T : Nat) (l : Nat → Nat) (f : Nat → Nat → Int) : Spec prog fid_law20_ConvEncodes [e.gv, msg T l f] H n (.bool true) H n := by
  refine spec_ends hmix ok_law20_ConvEncodes rfl fun hF => ?_
  show gw prog B_law20_ConvEncodes _ (tl 48 _) H n
  have hu : ∀ x b, b < n → upd H n x b = H b := fun x b hb => upd_ne _ _ (by omega)
  simp -implicitDefEqProofs only [B_law20_ConvEncodes, gev_t, gev_c, st_same, st_ne, mkE_nil, mkE_cons, e_nil, e_cons, e_kops, e_mov, e_load, e_box, e_box_some, e_call, e_gc_agg, w_region, w_seq, s_n, Nat.reduceLT, Nat.reduceBEq, List.length_cons, List.length_nil, e_cell_ptr, e_clm, upd_same, true_and, List.drop_zero, List.take_zero, List.take_succ_cons, Nat.zero_add, List.map_cons, List.map_nil, ns2, ns12, ns13, Nat.le_refl]
  refine call_of (sp_few e) ?_
  by_cases hb : e.Bnd ∧ e.gs e.r ≤ 3000
  case neg =>
    simp -implicitDefEqProofs only [gev_t, gev_c, st_same, st_ne, e_nil, e_cons, e_kops, e_guard, e_ft, e_some, e_mov, e_pick, e_pick_t, e_un, e_not, w_region, w_seq, w_ret, w_cond, s_n, s_r, c_t, Nat.reduceLT, Nat.reduceBEq, decide_false, Bool.not_false, hb]
    exact fin_ret rfl (by decide) (fz_bool rfl) (hu _)
  have hB := hb.1
  have hb' : decide (e.Bnd ∧ e.gs e.r ≤ 3000) = true := decide_eq_true hb
  rw [hb']
  by_cases hT : T ≤ 100
  case neg =>
    have hTI : (100 : Int) < (T : Nat) := by omega
    simp -implicitDefEqProofs only [gev_t, gev_c, st_same, st_ne, e_nil, e_cons, e_kops, e_guard, e_ff, e_some, e_mov, e_pick, e_pick_f, e_bin, e_un, e_not, e_gtr, e_len, e_len_sl, w_region, w_seq, w_ret, w_cond, s_n, s_r, c_t, Nat.reduceLT, Nat.reduceBEq, decide_true, Bool.not_true, hTI]
    exact fin_ret rfl (by decide) (fz_bool rfl) (hu _)
  have hTI : ¬ (100 : Int) < (T : Nat) := by omega
  simp -implicitDefEqProofs only [gev_t, gev_c, st_same, st_ne, e_nil, e_cons, e_kops, e_guard, e_ff, e_some, e_mov, e_pick, e_pick_f, e_bin, e_un, e_not, e_gtr, e_len, e_len_sl, e_load, e_call, w_skip, w_region, w_seq, w_cond, s_n, c_f, Nat.reduceLT, Nat.reduceBEq, decide_false, Bool.not_true, List.length_cons, List.length_nil, e_cell_ptr, e_clm, upd_same, true_and, List.drop_zero, List.take_zero, List.take_succ_cons, Nat.zero_add, List.map_cons, List.map_nil, ns2, ns12, ns13, Nat.le_refl, hTI]
  rcases e.cases with ⟨k, M, h, hd⟩ | hf
  case inr =>
    refine call_of (sp_conv_Encode_fail e hf T l f) ?_
    simp -implicitDefEqProofs only [gev_t, st_same, st_ne, e_nil, e_cons, e_kops, e_some, e_mov, e_ext, e_ext0, e_ext1, e_load, e_call, w_region, w_seq, s_n, Nat.reduceLT, Nat.reduceBEq, List.length_cons, List.length_nil, e_cell_ptr, e_clm, upd_same, true_and, List.drop_zero, List.take_zero, List.take_succ_cons, Nat.zero_add, List.map_cons, List.map_nil, ns2, ns12, ns13, Nat.le_refl]
    refine call_of (sp_ref20_Check e hB) ?_
    rw [Enc.ce_fail hf]
    have h10 : ((1 : Int) = 0) = False := by simp
    simp -implicitDefEqProofs only [gev_t, gev_c, st_same, st_ne, e_nil, e_cons, e_kops, e_guard, e_tt, e_some, e_mov, e_pick, e_pick_t, e_bin, e_eql, e_neq, e_len, e_len_nil, w_skip, w_region, w_seq, w_ret, w_cond, s_n, s_r, c_t, c_f, Nat.reduceLT, Nat.reduceBEq, decide_true, decide_false, Bool.not_false, h10]
    exact fin_ret rfl (by decide) (fz_bool rfl) (hu _)
  have hqo := hd.qo h
  refine call_of (sp_conv_Encode e hB h hd T l f (by omega)) ?_
  by_cases hce : e.ce = 0
  case neg =>
    rw [if_neg hce]
    simp -implicitDefEqProofs only [gev_t, st_same, st_ne, e_nil, e_cons, e_kops, e_some, e_mov, e_ext, e_ext0, e_ext1, e_load, e_call, w_region, w_seq, s_n, Nat.reduceLT, Nat.reduceBEq, List.length_cons, List.length_nil, e_cell_ptr, e_clm, upd_same, true_and, List.drop_zero, List.take_zero, List.take_succ_cons, Nat.zero_add, List.map_cons, List.map_nil, ns2, ns12, ns13, Nat.le_refl]
    refine call_of (sp_ref20_Check e hB) ?_
    simp -implicitDefEqProofs only [gev_t, gev_c, st_same, st_ne, e_nil, e_cons, e_kops, e_guard, e_tt, e_some, e_mov, e_pick, e_pick_t, e_bin, e_eql, e_neq, e_len, e_len_nil, w_skip, w_region, w_seq, w_ret, w_cond, s_n, s_r, c_t, c_f, Nat.reduceLT, Nat.reduceBEq, decide_true, decide_false, Bool.not_false, hce]
    exact fin_ret rfl (by decide) (fz_bool rfl) (hu _)
  have hok := Enc.ok hce
  have hw0 := hB.w 0 (by have := hok.2.1.1; omega)
  rw [if_pos hce]
  by_cases hz : stE e.r l f (qn M : Nat) T = 0
  · rw [if_pos hz]
    simp -implicitDefEqProofs only [gev_t, st_same, st_ne, e_nil, e_cons, e_kops, e_some, e_mov, e_ext, e_ext0, e_ext1, e_load, e_call, w_region, w_seq, s_n, Nat.reduceLT, Nat.reduceBEq, List.length_cons, List.length_nil, e_cell_ptr, e_clm, upd_same, true_and, List.drop_zero, List.take_zero, List.take_succ_cons, Nat.zero_add, List.map_cons, List.map_nil, ns2, ns12, ns13, Nat.le_refl]
    refine call_of (sp_ref20_Check e hB) ?_
    rw [hce]
    simp -implicitDefEqProofs only [gev_t, gev_c, st_same, st_ne, e_nil, e_cons, e_kops, e_some, e_mov, e_bin, e_eql, e_load, e_call, w_region, w_seq, w_cond, s_n, c_t, Nat.reduceLT, Nat.reduceBEq, decide_true, List.length_cons, List.length_nil, e_cell_ptr, e_clm, upd_same, true_and, List.drop_zero, List.take_zero, List.take_succ_cons, Nat.zero_add, List.map_cons, List.map_nil, ns2, ns12, ns13, Nat.le_refl]
    refine call_of (sp_ref20_Steps e hB T l f (by omega)) ?_
    rw [hqo, hz]
    simp -implicitDefEqProofs only [gev_t, gev_c, st_same, st_ne, e_nil, e_cons, e_kops, e_guard, e_tt, e_some, e_mov, e_bin, e_eql, e_neq, e_load, e_call, w_skip, w_region, w_seq, w_cond, s_n, c_f, Nat.reduceLT, Nat.reduceBEq, decide_true, Bool.not_true, List.length_cons, List.length_nil, e_cell_ptr, e_clm, upd_same, true_and, List.drop_zero, List.take_zero, List.take_succ_cons, Nat.zero_add, List.map_cons, List.map_nil, ns2, ns12, ns13, Nat.le_refl]
    refine call_of (sp_ref20_Encode e hB h hd hce T l f (by omega) hz) ?_
    simp -implicitDefEqProofs only [gev_t, st_same, st_ne, e_kops, e_guard, e_tt, e_call, Nat.reduceLT, Nat.reduceBEq, List.map_cons, List.map_nil]
    refine call_of (sp_SameRows T (fun _ => e.w 0) (fun t j => (cn (e.so M (e.S (qn M : Nat) f t) (f t) e.r 0 j) : Nat)) (by omega) fun t ht => by omega) ?_
    simp -implicitDefEqProofs only [gev_t, gev_c, st_same, st_ne, e_nil, e_cons, e_kops, e_some, e_mov, e_pick, e_pick_t, w_ret, s_n, Nat.reduceLT, Nat.reduceBEq, Nat.lt_add_one]
    exact fin_ret rfl (by decide) (fz_bool rfl) (hu _)
  · rw [if_neg hz]
    simp -implicitDefEqProofs only [gev_t, st_same, st_ne, e_nil, e_cons, e_kops, e_some, e_mov, e_ext, e_ext0, e_ext1, e_load, e_call, w_region, w_seq, s_n, Nat.reduceLT, Nat.reduceBEq, List.length_cons, List.length_nil, e_cell_ptr, e_clm, upd_same, true_and, List.drop_zero, List.take_zero, List.take_succ_cons, Nat.zero_add, List.map_cons, List.map_nil, ns2, ns12, ns13, Nat.le_refl]
    refine call_of (sp_ref20_Check e hB) ?_
    rw [hce]
    simp -implicitDefEqProofs only [gev_t, gev_c, st_same, st_ne, e_nil, e_cons, e_kops, e_some, e_mov, e_bin, e_eql, e_load, e_call, w_region, w_seq, w_cond, s_n, c_t, Nat.reduceLT, Nat.reduceBEq, decide_true, List.length_cons, List.length_nil, e_cell_ptr, e_clm, upd_same, true_and, List.drop_zero, List.take_zero, List.take_succ_cons, Nat.zero_add, List.map_cons, List.map_nil, ns2, ns12, ns13, Nat.le_refl]
    refine call_of (sp_ref20_Steps e hB T l f (by omega)) ?_
    rw [hqo]
    simp -implicitDefEqProofs only [gev_t, gev_c, st_same, st_ne, e_nil, e_cons, e_kops, e_guard, e_tt, e_some, e_mov, e_pick, e_pick_t, e_bin, e_eql, e_neq, e_len, e_len_nil, w_region, w_seq, w_ret, w_cond, s_n, s_r, c_t, Nat.reduceLT, Nat.reduceBEq, decide_true, decide_false, Bool.not_false, hz]
    exact fin_ret rfl (by decide) (fz_bool rfl) (hu _)
end Go.Proofs.Ytdpibcniodhinaa.Gh
/- The machine step by step against messages. -/
namespace Go.Proofs.Ytdpibcniodhinaa.Gh
open Go Go.RowKit
open Alg (CR Ps Dg Zm Mn El Cg sm pw Irr Prm)
set_option linter.unusedVariables false
set_option linter.unusedSimpArgs false

theorem Enc.mem_ge (e : Enc) : ∀ w i, i < w → e.deg i ≤ e.mem w := by
  intro w
  induction w with
  | zero => intro i h; omega
  | succ w ih =>
    intro i h
    rw [Enc.mem]
    by_cases e1 : i = w
    · subst e1; omega
    · have := ih i (by omega); omega
theorem Enc.mem_le (e : Enc) (h : e.Bnd) : ∀ w, w ≤ e.r → e.mem w ≤ 40 := by
  intro w
  induction w with
  | zero => intro _; exact Nat.zero_le _
  | succ w ih => intro hw; rw [Enc.mem]; have := ih (by omega); have := e.deg_le h (i := w) (by omega); omega
theorem Enc.pos_dec (e : Enc) : ∀ w pos, pos < e.ds w → ∃ i d, i < w ∧ d < e.deg i ∧ pos = e.ds i + d := by
  intro w
  induction w with
  | zero => intro pos h; exact absurd h (Nat.not_lt_zero _)
  | succ w ih =>
    intro pos h
    have h1 : e.ds (w + 1) = e.ds w + e.deg w := rfl
    by_cases h2 : pos < e.ds w
    · obtain ⟨i, d, a, b, c⟩ := ih pos h2
      exact ⟨i, d, by omega, b, c⟩
    · exact ⟨w, pos - e.ds w, by omega, by omega, by omega⟩
theorem Enc.S_back (e : Enc) {q : Int} {f : Nat → Nat → Int} (hq : 2 ≤ q) (T : Nat) (hin : ∀ u, u < T + e.mem e.r → ∀ i, i < e.r → 0 ≤ f u i ∧ f u i < q) (hz : ∀ u, T ≤ u → u < T + e.mem e.r → ∀ i, i < e.r → f u i = 0) : e.S q f (T + e.mem e.r) = 0 := by
  have hS := e.S_in hq _ hin
  rw [← vs_dg hq (e.ds e.r) hS.1 hS.2, vs_congr q (e.ds e.r) (g := fun _ => 0) fun pos hpos => ?_, vs_zero]
  obtain ⟨i, d, h1, h2, rfl⟩ := e.pos_dec e.r pos hpos
  have hm := e.mem_ge e.r i h1
  have h3 := e.X_S hq (T + e.mem e.r) hin i (d + 1) h1 (by omega)
  rw [X, if_neg (by omega), Nat.add_sub_cancel] at h3
  rw [h3]
  by_cases h4 : d + 1 ≤ T + e.mem e.r
  · rw [if_pos h4]; exact hz _ (by omega) (by omega) i h1
  · exact if_neg h4

theorem sp_ref20_Memory {H : Heap} {n : Nat} (e : Enc) (hB : e.Bnd) : Spec prog fid_ref20_Memory [e.gv] H n (.int .i64 (e.mem e.r : Nat)) H n := by
  refine spec_ends hmix ok_ref20_Memory rfl fun hF => ?_
  show gw prog B_ref20_Memory _ (tl 18 _) H n
  have hr := hB.r
  simp -implicitDefEqProofs only [B_ref20_Memory, gev_t, gev_c, st_same, mkE_nil, mkE_cons, e_nil, e_cons, e_kops, e_mov, e_box, e_box_some, e_gc_agg, w_region, w_seq, w_block, w_loop, s_n, Nat.reduceLT, Nat.zero_add]
  refine loop_rule (fun (i : Nat) E H' n' => n' = n + 1 ∧ H' n = some e.cs ∧ (∀ b, b < n → H' b = H b) ∧ E 1 = .ptr n 0 ∧ E 3 = .int .i64 (e.mem i : Nat) ∧ E 4 = .int .i64 (i : Nat) ∧ i ≤ e.r) (fun i => e.r - i) 0 ⟨rfl, by simp -implicitDefEqProofs only [upd_same], fun b hb => upd_ne _ _ (by omega), rfl, rfl, rfl, by omega⟩ ?_
  rintro i E H' n' ⟨rfl, h0, ho, e1, e3, e4, hi⟩
  simp -implicitDefEqProofs only [gev_t, st_same, st_ne, e_nil, e_cons, e_kops, e_some, e_mov, e_bin, e_lss, e_faddr, e_faddr_ptr, e_len, e_len_sl, e_load, w_region, w_seq, w_cond, s_n, Nat.reduceLT, Nat.reduceBEq, List.length_cons, List.length_nil, e_cell_ptr, e_cl1, gat_3, true_and, Nat.zero_add, Nat.lt_add_one, ns2, ns12, ns13, e1, e4, h0]
  refine c_split (fun hc => ?_) (fun hc => ?_)
  · have hiN : i < e.r := by omega
    have hwi := wrap64 (x := (i : Int) + 1) (by omega)
    have hmm : (max ((e.mem i : Nat) : Int) ((e.deg i : Nat) : Int)) = ((e.mem (i + 1) : Nat) : Int) := by rw [Enc.mem]; omega
    simp -implicitDefEqProofs only [gev_t, st_same, st_ne, e_cons, e_kops, e_mov, e_load, e_call, w_skip, w_region, w_seq, w_block, s_n, Nat.reduceLT, Nat.reduceBEq, List.length_cons, List.length_nil, e_cell_ptr, e_clm, true_and, List.drop_zero, List.take_zero, List.take_succ_cons, Nat.zero_add, List.map_cons, List.map_nil, ns2, ns12, ns13, Nat.le_refl, e1, e3, e4, h0]
    refine call_of (sp_ref20_Degree e hB i hiN) ?_
    simp -implicitDefEqProofs only [gev_t, gev_c, st_same, st_ne, e_nil, e_cons, e_kops, e_some, e_mov, e_bin, e_add, e_mm, e_max, w_region, s_n, b_n, Nat.reduceLT, Nat.reduceBEq, e4, hmm, hwi]
    exact l_n ⟨i + 1, by omega, rfl, h0, ho, by simp -implicitDefEqProofs only [st_ne, Nat.reduceBEq, e1], by simp -implicitDefEqProofs only [st_same, st_ne, Nat.reduceBEq], by simp -implicitDefEqProofs only [st_same]; rfl, by omega⟩
  · have : i = e.r := by omega
    subst this
    simp -implicitDefEqProofs only [gev_t, st_same, st_ne, e_nil, e_cons, e_kops, e_mov, w_region, w_seq, w_exit, w_ret, s_n, s_x, b_x, l_x, Nat.reduceLT, Nat.reduceBEq, if_true, Nat.lt_add_one, e3]
    refine fin_ret rfl (by decide) ?_ ho
    simp -implicitDefEqProofs only [st_same]; exact fz_int rfl

def tlen (T r : Nat) (l : Nat → Nat) : Nat → Nat := fun t => if t < T then l t else r
def tval (T : Nat) (f : Nat → Nat → Int) : Nat → Nat → Int := fun t i => if t < T then f t i else 0
set_option maxHeartbeats 4000000 in
theorem sp_ref20_Terminate {H : Heap} {n : Nat} (e : Enc) (hB : e.Bnd) (T : Nat) (l : Nat → Nat) (f : Nat → Nat → Int) (hT : T ≤ 1000) : Spec prog fid_ref20_Terminate [e.gv, msg T l f] H n (msg (T + e.mem e.r) (tlen T e.r l) (tval T f)) H n := by
  refine spec_ends hmix ok_ref20_Terminate rfl fun hF => ?_
  show gw prog B_ref20_Terminate _ (tl 24 _) H n
  have hr := hB.r
  have hm := e.mem_le hB e.r (Nat.le_refl _)
  simp -implicitDefEqProofs only [B_ref20_Terminate, gev_t, gev_c, st_same, st_ne, mkE_nil, mkE_cons, e_nil, e_cons, e_kops, e_mov, e_box, e_box_some, e_empty, e_append, e_app_emp, e_gc_agg, w_region, w_seq, w_block, w_loop, s_n, Nat.reduceLT, Nat.reduceBEq, e_gel_sl, if_true, Nat.zero_add, tab_len, ns2]
  repeat with_reducible refine And.intro (by omega) ?_
  refine loop_rule (fun (i : Nat) E H' n' => ∃ (b : Nat) (bs : Nat → Nat), n + 1 ≤ n' ∧ H' n = some e.cs ∧ (∀ b, b < n → H' b = H b) ∧ n + 1 ≤ b ∧ b < n' ∧ H' b = some (tab (T + i) fun u => if u < T then isl (l u) (f u) else .own (bs u) 0 e.r) ∧ (∀ u, T ≤ u → u < T + i → n + 1 ≤ bs u ∧ bs u < n' ∧ bs u ≠ b ∧ H' (bs u) = some (tab e.r (it fun _ => 0))) ∧ E 2 = .ptr n 0 ∧ E 5 = .own b 0 (T + i) ∧ E 6 = .int .i64 (i : Nat) ∧ i ≤ e.mem e.r) (fun i => e.mem e.r - i) 0 ?_ ?_
  · refine ⟨n + 1, fun _ => 0, by omega, by simp -implicitDefEqProofs only [upd_same, upd_n1], fun b hb => by rw [upd_ne _ _ (by omega), upd_ne _ _ (by omega)], by omega, by omega, ?_, fun u h1 h2 => by omega, rfl, by simp -implicitDefEqProofs only [st_same, st_ne, Nat.reduceBEq, Nat.add_zero], by simp -implicitDefEqProofs only [st_same]; rfl, by omega⟩
    rw [upd_same]
    refine congrArg some (tab_congr fun u hu => ?_)
    rw [if_pos (by omega)]; rfl
  rintro i E H' n' ⟨b, bs, hn, h0, ho, b1, b2, hb, hrows, e2, e5, e6, hi⟩
  simp -implicitDefEqProofs only [gev_t, st_same, st_ne, e_cons, e_kops, e_mov, e_load, e_call, w_region, w_seq, Nat.reduceLT, Nat.reduceBEq, List.length_cons, List.length_nil, e_cell_ptr, e_clm, true_and, List.drop_zero, List.take_zero, List.take_succ_cons, Nat.zero_add, List.map_cons, List.map_nil, ns2, ns12, ns13, Nat.le_refl, e2, e6, h0]
  refine call_of (sp_ref20_Memory e hB) ?_
  simp -implicitDefEqProofs only [gev_t, st_same, st_ne, e_nil, e_cons, e_kops, e_some, e_bin, e_lss, w_cond, s_n, Nat.reduceLT, Nat.reduceBEq]
  refine c_split (fun hc => ?_) (fun hc => ?_)
  · have hwi := wrap64 (x := (i : Int) + 1) (by omega)
    have f1 : (n = n') = False := eq_false (by omega)
    simp -implicitDefEqProofs only [gev_t, st_same, st_ne, e_cons, e_kops, e_some, e_mov, e_faddr, e_faddr_ptr, e_len, e_len_sl, e_load, e_bslice, e_bs_some, e_mslice, e_ms_int, e_append, e_gc_own, w_skip, w_region, w_seq, w_block, s_n, Nat.reduceLT, Nat.reduceBEq, Int.toNat_natCast, List.length_cons, List.length_nil, setL_nil, setL_cons, e_cell_ptr, e_cl1, e_app_own, e_gel_own, e_hgel, e_fill_nil, e_fill, e_hfl, gat_3, upd_same, true_and, and_self, if_true, List.drop_zero, List.take_zero, List.take_succ_cons, List.set_cons_zero, Nat.zero_add, Nat.lt_add_one, ns2, Int.natCast_nonneg, ns12, ns13, Nat.le_refl, e2, e5, h0]
    repeat with_reducible refine And.intro (by omega) ?_
    have sl : Sl (upd (upd H' n' (some (List.replicate e.r (GV.int .i64 0)))) (n' + 1) (some [GV.own n' 0 e.r])) (n + 1) (n' + 2) (.own b 0 (T + i)) (T + i) (fun u => if u < T then isl (l u) (f u) else .own (upf bs (T + i) n' u) 0 e.r) := by
      refine .inr ⟨b, b1, by omega, rfl, ?_⟩
      rw [upd_ne _ _ (by omega), upd_ne _ _ (by omega), hb]
      refine congrArg some (tab_congr fun u hu => ?_)
      by_cases h1 : u < T
      · rw [if_pos h1, if_pos h1]
      · rw [if_neg h1, if_neg h1, upf_ne _ _ (by omega)]
    refine app_one sl (by rw [if_neg (by omega), upf_same]) rfl (by omega) fun H2 k1 k2 => ?_
    have keep : ∀ c, c < n' → c ≠ b → H2 c = H' c := fun c hc hcb => by rw [k2 c (by omega) (fun hg => hcb (own_own.1 hg)), upd_ne _ _ (by omega), upd_ne _ _ (by omega)]
    simp -implicitDefEqProofs only [gev_t, gev_c, st_same, st_ne, e_nil, e_cons, e_kops, e_some, e_mov, e_bin, e_add, w_region, s_n, b_n, Nat.reduceLT, Nat.reduceBEq, ns2, ns12, e6, hwi]
    refine l_n ⟨i + 1, by omega, n' + 2, upf bs (T + i) n', by omega, ?_, fun c hc => ?_, by omega, by omega, k1, fun u h1 h2 => ?_, by simp -implicitDefEqProofs only [st_ne, Nat.reduceBEq, e2], by simp -implicitDefEqProofs only [st_same, st_ne, Nat.reduceBEq]; rfl, by simp -implicitDefEqProofs only [st_same]; rfl, by omega⟩
    · rw [keep n (by omega) (by omega)]; exact h0
    · rw [keep c (by omega) (by omega)]; exact ho c hc
    · by_cases eu : u = T + i
      · subst eu
        rw [upf_same]
        refine ⟨by omega, by omega, by omega, ?_⟩
        rw [k2 n' (by omega) (fun hg => by have := own_own.1 hg; omega), upd_ne _ _ (by omega), upd_same, tab_rep]; rfl
      · rw [upf_ne _ _ eu]
        obtain ⟨r1, r2, r3, r4⟩ := hrows u h1 (by omega)
        exact ⟨r1, by omega, by omega, by rw [keep _ r2 r3]; exact r4⟩
  · have : i = e.mem e.r := by omega
    subst this
    simp -implicitDefEqProofs only [gev_t, st_same, st_ne, e_nil, e_cons, e_kops, e_mov, w_region, w_seq, w_exit, w_ret, s_n, s_x, b_x, l_x, Nat.reduceLT, Nat.reduceBEq, if_true, Nat.lt_add_one, e5]
    refine fin_ret rfl (by decide) ?_ ho
    simp -implicitDefEqProofs only [st_same]
    refine .ownf b 0 (T + e.mem e.r) _ _ hb (by omega) (fun i a c => by omega) (by rw [tab_len]; omega) tab_len fun u hu => ?_
    rw [Nat.zero_add, gat_tab hu, gat_tab hu, msr_at]
    by_cases h1 : u < T
    · rw [if_pos h1, tlen, if_pos h1]
      have : isl (l u) (tval T f u) = isl (l u) (f u) := isl_congr fun j _ => if_pos h1
      rw [this]
      exact (pl_isl _ _).tr
    · rw [if_neg h1, tlen, if_neg h1]
      have : isl e.r (tval T f u) = isl e.r (fun _ => 0) := isl_congr fun j _ => if_neg h1
      rw [this]
      obtain ⟨r1, r2, r3, r4⟩ := hrows u (by omega) hu
      exact fz_own_isl r4 (by omega)

theorem sp_SameInts' {H : Heap} {n : Nat} {x y : GV} (a : Nat) (f g : Nat → Int) (ha : a ≤ 1000000) (hx : Rd H n x a f) (hy : Rd H n y a g) (hfg : ∀ i, i < a → f i = g i) : Spec prog fid_ref09_SameInts [x, y] H n (.bool true) H n := by
  refine spec_ends hmix ok_ref09_SameInts rfl fun hF => ?_
  show gw prog B_ref09_SameInts _ (tl 26 _) H n
  have hxl := hx.len
  have hyl := hy.len
  simp -implicitDefEqProofs only [B_ref09_SameInts, gev_t, gev_c, st_same, st_ne, mkE_nil, mkE_cons, e_nil, e_cons, e_kops, e_some, e_mov, e_bin, e_neq, e_len, w_skip, w_region, w_seq, w_block, w_cond, w_loop, s_n, c_f, Nat.reduceLT, Nat.reduceBEq, decide_true, Bool.not_true, Nat.zero_add, ns2, hxl, hyl]
  refine loop_rule (fun (i : Nat) E H' n' => H' = H ∧ n' = n ∧ E 0 = x ∧ E 1 = y ∧ E 5 = .int .i64 (i : Nat) ∧ i ≤ a) (fun i => a - i) 0 ⟨rfl, rfl, rfl, rfl, rfl, by omega⟩ ?_
  rintro i E H' n' ⟨rfl, rfl, e0, e1, e5, hi⟩
  simp -implicitDefEqProofs only [gev_t, st_same, st_ne, e_nil, e_cons, e_kops, e_some, e_mov, e_bin, e_lss, e_len, w_region, w_seq, w_cond, s_n, Nat.reduceLT, Nat.reduceBEq, e0, e5, hxl]
  refine c_split (fun hc => ?_) (fun hc => ?_)
  · have hiN : i < a := by omega
    have hwi := wrap64 (x := (i : Int) + 1) (by omega)
    obtain ⟨pa, pa1, pa2, pa3⟩ := hx.idx i hiN
    obtain ⟨pb, pb1, pb2, pb3⟩ := hy.idx i hiN
    have pa4 := fun q => pa3 q H' n' (Nat.le_refl _) fun _ _ => rfl
    have pb4 := fun q => pb3 q H' n' (Nat.le_refl _) fun _ _ => rfl
    have hfi := hfg i hiN
    simp -implicitDefEqProofs only [gev_t, gev_c, st_same, st_ne, e_nil, e_cons, e_kops, e_some, e_mov, e_bin, e_add, e_neq, e_iaddr, w_skip, w_region, w_seq, w_block, w_cond, w_draw, s_n, b_n, c_f, d_kdr, m_nil, m_cons, m_kmops, m_kpm, m_load, Nat.reduceLT, Nat.reduceBEq, decide_true, Bool.not_true, m_p_mov, m_p_indexAddr, Nat.lt_add_one, e0, e1, e5, pa1, pb1, pa4, pb4, hfi, hwi]
    exact l_n ⟨i + 1, by omega, rfl, rfl, by simp -implicitDefEqProofs only [st_ne, Nat.reduceBEq, e0], by simp -implicitDefEqProofs only [st_ne, Nat.reduceBEq, e1], by simp -implicitDefEqProofs only [st_same]; rfl, by omega⟩
  · simp -implicitDefEqProofs only [gev_c, e_nil, e_cons, e_kops, e_mov, w_region, w_seq, w_exit, w_ret, s_n, s_x, b_x, l_x, if_true]
    exact fin_ret rfl (by decide) (fz_bool rfl) fun _ _ => rfl
end Go.Proofs.Ytdpibcniodhinaa.Gh
/- The statement ConvMachine, over ghost values. -/
namespace Go.Proofs.Ytdpibcniodhinaa.Gh
open Go Go.RowKit
open Alg (CR Ps Dg Zm Mn El Cg sm pw Irr Prm)
set_option linter.unusedVariables false
set_option linter.unusedSimpArgs false

/-- the encoder of the chapter's first example -/
def e4 : Enc := ⟨2, 1, 0, fun _ => 0, 1, fun _ => 2, fun _ _ => 3, fun _ j d => if j = 0 then (if d = 1 then 0 else 1) else 1⟩
theorem sp_four {H : Heap} {n : Nat} : Spec prog fid_law20_four [] H n e4.gv H n := by
  refine spec_ends hmix ok_law20_four rfl fun hF => ?_
  show gw prog B_law20_four _ (tl 7 _) H n
  simp -implicitDefEqProofs only [B_law20_four, gev_t, gev_c, st_same, st_ne, mkE_nil, e_nil, e_cons, e_kops, e_kops_none, e_some, e_store, e_alloc, e_bslice, e_bs_some, e_gc_int, e_gc_own, e_gc_agg, w_region, w_seq, w_ret, s_n, Nat.reduceLT, Nat.reduceBEq, Nat.reduceLeDiff, List.length_cons, List.length_nil, setL_nil, setL_cons, e_store_ptr, e_stp, e_fill_nil, e_fill, e_hfl, upd_same, upd_n1, cell_int, cell_own, cell_nil, true_and, and_self, if_true, List.all_cons, List.all_nil, Bool.and_self, List.set_cons_zero, List.set_cons_succ, Nat.zero_add, e_map_some, Nat.lt_add_one, ns2, ns12, ns13, ns14, Nat.le_refl, e_build]
  refine fin_cell (b := n) (o := 0) rfl (by decide) (by simp -implicitDefEqProofs only [st_same, st_ne, Nat.reduceBEq]) (by simp -implicitDefEqProofs only [upd_same]; rfl) (Nat.le_refl _) ?_ fun b hb => ?_
  · refine .agg _ _ rfl fun j hj => ?_
    rcases j with _ | _ | _ | _ | j
    · exact .int _ _
    · exact .int _ _
    · exact .nilsl
    · refine .ownf (n + 4) 0 1 _ _ (by simp -implicitDefEqProofs only [upd_same, upd_1n, Nat.zero_add, ns2, ns12, ns13]; rfl) (by omega) (fun i a c => by omega) (Nat.le_refl _) rfl fun t ht => ?_
      have : t = 0 := by omega
      subst this
      refine .ownf (n + 3) 0 2 _ _ (by simp -implicitDefEqProofs only [Nat.reduceBEq, upd_same, upd_1n, Nat.zero_add, ns2, upd_lit, ns12]; rfl) (by omega) (fun i a c => by omega) (Nat.le_refl _) rfl fun u hu => ?_
      rcases u with _ | _ | u
      · exact .ownf (n + 1) 0 3 _ _ (by simp -implicitDefEqProofs only [Nat.reduceBEq, upd_same, upd_1n, Nat.zero_add, upd_lit]; rfl) (by omega) (fun i a c => by omega) (Nat.le_refl _) rfl fun v hv => by
          rcases v with _ | _ | _ | v
          · exact .int _ _
          · exact .int _ _
          · exact .int _ _
          · omega
      · exact .ownf (n + 2) 0 3 _ _ (by simp -implicitDefEqProofs only [Nat.reduceBEq, upd_same, upd_1n, Nat.zero_add, ns2, upd_lit]; rfl) (by omega) (fun i a c => by omega) (Nat.le_refl _) rfl fun v hv => by
          rcases v with _ | _ | _ | v
          · exact .int _ _
          · exact .int _ _
          · exact .int _ _
          · omega
      · omega
    · simp at hj; omega
  · simp only [upd, if_neg (show b ≠ n by omega), if_neg (show b ≠ n + 1 by omega), if_neg (show b ≠ n + 2 by omega), if_neg (show b ≠ n + 3 by omega), if_neg (show b ≠ n + 4 by omega)]
theorem e4_bnd : e4.Bnd := ⟨by decide, fun i _ => (by decide : (2 : Nat) ≤ 70), fun i j _ _ => (by decide : (3 : Nat) ≤ 40)⟩
theorem e4_deg (i : Nat) : e4.deg i = 2 := rfl
theorem e4_qo : qo 2 1 = 2 := by decide
theorem e4_fi : ∃ (k : Nat) (M : Mn k) (_ : Fi M), e4.Des M ∧ M.m = 1 := by
  have hs : Shp 2 1 0 (fun _ => 0) := ⟨by rw [e4_qo]; decide, ⟨by decide, fun d h1 h2 => by omega⟩, fun _ => rfl, fun h => absurd rfl h⟩
  obtain ⟨k, M, h1, h2, h3, h4, h5, h6⟩ := shp_M hs
  have hm : M.m = 1 := by omega
  exact ⟨k, M, ⟨h5, h6, fun d a q d1 d2 => by omega⟩, ⟨h1, h2, h3, h4⟩, hm⟩
theorem e4_ce : e4.ce = 0 := by
  obtain ⟨k, M, h, hd, _⟩ := e4_fi
  have hA := hd.fok h
  have hS : e4.Shp3 := ⟨by decide, by decide, by decide, fun i _ => rfl⟩
  have hqo : qo e4.p e4.m = 2 := e4_qo
  have hE : e4.El := by
    intro i j _ _ d _
    rw [hqo]
    show 0 ≤ (if j = 0 then (if d = 1 then (0 : Int) else 1) else 1) ∧ (if j = 0 then (if d = 1 then (0 : Int) else 1) else 1) < 2
    split
    · split <;> decide
    · decide
  have ht : e4.tot e4.r = 3 := rfl
  rw [Enc.ce, if_pos hA, if_pos hS, if_pos (show e4.w 0 ≤ 64 by decide), if_pos hE, hqo, ht, if_pos (by decide)]
theorem e4_so {k : Nat} {M : Mn k} (h : Fi M) (j : Nat) : e4.so M 0 (fun _ => 1) e4.r 0 j = 1 := by
  have hone : ein M 1 = 1 := by have := ein_cn h.fc (1 : El M); rwa [cn_one] at this
  have h0 : e4.tm M 0 (fun _ => 1) j 0 0 = 1 := by
    have hX : e4.X (qn M : Nat) 0 (fun _ => 1) 0 0 = 1 := rfl
    have hco : e4.co 0 j 0 = 1 := by
      have h1 : e4.co 0 j 0 = e4.c 0 j 0 := if_pos (show (0 : Nat) < 3 by decide)
      rw [h1]
      show (if j = 0 then (if (0 : Nat) = 1 then (0 : Int) else 1) else 1) = 1
      by_cases hj : j = 0
      · rw [if_pos hj]; rfl
      · rw [if_neg hj]
    rw [Enc.tm, hX, hco, hone, Alg.one_mul]
  have hs : ∀ d, e4.tm M 0 (fun _ => 1) j 0 (d + 1) = 0 := fun d => by
    apply e4.tm_zero h.fc
    rw [Enc.X, if_neg (by omega)]
    exact dg_of_zero _ _
  show sm 1 (fun i' => sm 3 (e4.tm M 0 (fun _ => 1) j i')) + sm 0 _ = 1
  rw [Alg.sm_zero, Alg.add_zero, Alg.sm_succ, Alg.sm_zero, Alg.zero_add, Alg.sm_succ, Alg.sm_succ, Alg.sm_succ, Alg.sm_zero, Alg.zero_add, h0, hs, hs, Alg.add_zero, Alg.add_zero]

set_option maxHeartbeats 4000000 in
theorem sp_ConvMachine {H : Heap} {n : Nat} (e : Enc) (T : Nat) (l : Nat → Nat) (f : Nat → Nat → Int) : Spec prog fid_law20_ConvMachine [e.gv, msg T l f] H n (.bool true) H n := by
  refine spec_ends hmix ok_law20_ConvMachine rfl fun hF => ?_
  show gw prog B_law20_ConvMachine _ (tl 100 _) H n
  have hu : ∀ x b, b < n → upd H n x b = H b := fun x b hb => upd_ne _ _ (by omega)
  simp -implicitDefEqProofs only [B_law20_ConvMachine, gev_t, gev_c, st_same, st_ne, mkE_nil, mkE_cons, e_nil, e_cons, e_kops, e_mov, e_load, e_box, e_box_some, e_call, e_gc_agg, w_region, w_seq, s_n, Nat.reduceLT, Nat.reduceBEq, List.length_cons, List.length_nil, e_cell_ptr, e_clm, upd_same, true_and, List.drop_zero, List.take_zero, List.take_succ_cons, Nat.zero_add, List.map_cons, List.map_nil, ns2, ns12, ns13, Nat.le_refl]
  refine call_of (sp_few e) ?_
  by_cases hb : e.Bnd ∧ e.gs e.r ≤ 3000
  case neg =>
    simp -implicitDefEqProofs only [gev_t, gev_c, st_same, st_ne, e_nil, e_cons, e_kops, e_guard, e_ft, e_some, e_mov, e_pick, e_pick_t, e_un, e_not, w_region, w_seq, w_ret, w_cond, s_n, s_r, c_t, Nat.reduceLT, Nat.reduceBEq, decide_false, Bool.not_false, hb]
    exact fin_ret rfl (by decide) (fz_bool rfl) (hu _)
  have hB := hb.1
  have hb' : decide (e.Bnd ∧ e.gs e.r ≤ 3000) = true := decide_eq_true hb
  rw [hb']
  by_cases hT : T ≤ 100
  case neg =>
    have hTI : (100 : Int) < (T : Nat) := by omega
    simp -implicitDefEqProofs only [gev_t, gev_c, st_same, st_ne, e_nil, e_cons, e_kops, e_guard, e_ff, e_ft, e_some, e_mov, e_pick, e_pick_t, e_pick_f, e_bin, e_un, e_not, e_gtr, e_len, e_len_sl, w_region, w_seq, w_ret, w_cond, s_n, s_r, c_t, Nat.reduceLT, Nat.reduceBEq, decide_true, Bool.not_true, hTI]
    exact fin_ret rfl (by decide) (fz_bool rfl) (hu _)
  have hTI : ¬ (100 : Int) < (T : Nat) := by omega
  simp -implicitDefEqProofs only [gev_t, gev_c, st_same, st_ne, e_cons, e_kops, e_guard, e_ff, e_some, e_mov, e_pick, e_pick_f, e_bin, e_un, e_not, e_gtr, e_len, e_len_sl, e_load, e_call, Nat.reduceLT, Nat.reduceBEq, decide_false, Bool.not_true, List.length_cons, List.length_nil, e_cell_ptr, e_clm, upd_same, true_and, List.drop_zero, List.take_zero, List.take_succ_cons, Nat.zero_add, List.map_cons, List.map_nil, ns2, ns12, ns13, Nat.le_refl, hTI]
  refine call_of (sp_ref20_Check e hB) ?_
  by_cases hce : e.ce = 0
  case neg =>
    simp -implicitDefEqProofs only [gev_t, gev_c, st_same, st_ne, e_nil, e_cons, e_kops, e_guard, e_ff, e_ft, e_some, e_mov, e_pick, e_pick_t, e_pick_f, e_bin, e_neq, w_region, w_seq, w_ret, w_cond, s_n, s_r, c_t, Nat.reduceLT, Nat.reduceBEq, decide_false, Bool.not_false, hce]
    exact fin_ret rfl (by decide) (fz_bool rfl) (hu _)
  obtain ⟨k, M, h, hd⟩ : ∃ (k : Nat) (M : Mn k) (_ : Fi M), e.Des M := by
    rcases e.cases with hh | hf
    · exact hh
    · exact absurd (Enc.ok hce).1 hf
  have hqo := hd.qo h
  have hq2 := qn_two M
  have hr := hB.r
  have hm := e.mem_le hB e.r (Nat.le_refl _)
  have hok := Enc.ok hce
  have hw0 := hB.w 0 (by have := hok.2.1.1; omega)
  rw [hce]
  simp -implicitDefEqProofs only [gev_t, gev_c, st_same, st_ne, e_cons, e_kops, e_guard, e_ff, e_some, e_mov, e_pick, e_pick_f, e_bin, e_neq, e_load, e_call, Nat.reduceLT, Nat.reduceBEq, decide_true, Bool.not_true, List.length_cons, List.length_nil, e_cell_ptr, e_clm, upd_same, true_and, List.drop_zero, List.take_zero, List.take_succ_cons, Nat.zero_add, List.map_cons, List.map_nil, ns2, ns12, ns13, Nat.le_refl]
  refine call_of (sp_ref20_Steps e hB T l f (by omega)) ?_
  rw [hqo]
  by_cases hz : stE e.r l f (qn M : Nat) T = 0
  case neg =>
    simp -implicitDefEqProofs only [gev_t, gev_c, st_same, st_ne, e_nil, e_cons, e_kops, e_guard, e_ff, e_some, e_mov, e_pick, e_pick_f, e_bin, e_neq, w_region, w_seq, w_ret, w_cond, s_n, s_r, c_t, Nat.reduceLT, Nat.reduceBEq, decide_false, Bool.not_false, hz]
    exact fin_ret rfl (by decide) (fz_bool rfl) (hu _)
  have hst := stE_ok hz
  rw [hz]
  simp -implicitDefEqProofs only [gev_t, gev_c, st_same, st_ne, e_nil, e_cons, e_kops, e_guard, e_ff, e_some, e_mov, e_pick, e_pick_f, e_bin, e_neq, e_load, e_call, w_skip, w_region, w_seq, w_cond, s_n, c_f, Nat.reduceLT, Nat.reduceBEq, decide_true, Bool.not_true, List.length_cons, List.length_nil, e_cell_ptr, e_clm, upd_same, true_and, List.drop_zero, List.take_zero, List.take_succ_cons, Nat.zero_add, List.map_cons, List.map_nil, ns2, ns12, ns13, Nat.le_refl]
  refine call_of (sp_ref20_Terminate e hB T l f (by omega)) ?_
  simp -implicitDefEqProofs only [gev_t, st_same, st_ne, e_nil, e_cons, e_kops, e_mov, e_load, e_call, w_region, w_seq, s_n, Nat.reduceLT, Nat.reduceBEq, List.length_cons, List.length_nil, e_cell_ptr, e_clm, upd_same, true_and, List.drop_zero, List.take_zero, List.take_succ_cons, Nat.zero_add, List.map_cons, List.map_nil, ns2, ns12, ns13, Nat.le_refl]
  have hin : ∀ u, ∀ i, i < e.r → 0 ≤ tval T f u i ∧ tval T f u i < (qn M : Nat) := by
    intro u i hi
    unfold tval
    by_cases h1 : u < T
    · rw [if_pos h1]; exact (hst u h1).2 i hi
    · rw [if_neg h1]; omega
  have hlenU : ∀ u, tlen T e.r l u = e.r := by
    intro u
    unfold tlen
    by_cases h1 : u < T
    · rw [if_pos h1]; exact (hst u h1).1
    · exact if_neg h1
  have hinE : ∀ u, inE e.r (tlen T e.r l u) (tval T f u) (qn M : Nat) = 0 := fun u => by rw [inE, if_pos (hlenU u), if_pos fun i hi => hin u i (by rw [hlenU] at hi; exact hi)]
  have hz' : ∀ u, stE e.r (tlen T e.r l) (tval T f) (qn M : Nat) u = 0 := by
    intro u
    induction u with
    | zero => rfl
    | succ u ih => rw [stE, if_pos ih]; exact hinE u
  have hS0 := e.S_back (q := (qn M : Nat)) (f := tval T f) (by omega) T (fun u _ => hin u) fun u h1 _ i _ => if_neg (by omega)
  have hnx := sp_conv_Encode (M := M) (H := upd H n (some e.cs)) (n := n + 1) e hB h hd (T + e.mem e.r) (tlen T e.r l) (tval T f) (by omega)
  rw [if_pos hce, if_pos (hz' _)] at hnx
  refine call_of hnx ?_
  have hTb : T + e.mem e.r ≤ 140 := by omega
  generalize T + e.mem e.r = T' at *
  have hol : hlen (e.oval M (tval T f) T') = some (.int .i64 (T' : Nat)) := by
    rw [Enc.oval]
    split
    · rename_i h0; rw [h0]; rfl
    · rfl
  simp -implicitDefEqProofs only [gev_t, gev_c, st_same, st_ne, e_nil, e_cons, e_kops, e_guard, e_ff, e_some, e_mov, e_pick, e_pick_f, e_bin, e_neq, e_ext, e_ext0, e_ext1, e_len, e_len_sl, w_skip, w_region, w_seq, w_block, w_cond, w_loop, s_n, c_f, Nat.reduceLT, Nat.reduceBEq, decide_true, Bool.not_true, hol]
  refine loop_rule (fun (t : Nat) E H' n' => n' = n + 1 ∧ H' n = some e.cs ∧ (∀ b, b < n → H' b = H b) ∧ E 2 = .ptr n 0 ∧ E 5 = msg T' (tlen T e.r l) (tval T f) ∧ E 6 = e.oval M (tval T f) T' ∧ E 8 = .int .i64 (e.S (qn M : Nat) (tval T f) t) ∧ E 9 = .int .i64 (t : Nat) ∧ t ≤ T') (fun t => T' - t) 0 ⟨rfl, by simp -implicitDefEqProofs only [upd_same], hu _, rfl, rfl, rfl, rfl, rfl, by omega⟩ ?_
  rintro t E H' n' ⟨rfl, h0, ho, e2, e5, e6, e8, e9, ht⟩
  simp -implicitDefEqProofs only [gev_t, st_same, st_ne, e_nil, e_cons, e_kops, e_some, e_mov, e_bin, e_lss, e_len, e_len_sl, w_region, w_seq, w_cond, s_n, Nat.reduceLT, Nat.reduceBEq, e5, e9]
  refine c_split (fun hc => ?_) (fun hc => ?_)
  · have htN : t < T' := by omega
    have hwt := wrap64 (x := (t : Int) + 1) (by omega)
    have hSt := e.S_in (q := (qn M : Nat)) (f := tval T f) (by omega) t fun u _ => hin u
    have hP : ((qn M ^ e.ds e.r : Nat) : Int) = ((qn M : Nat) : Int) ^ e.ds e.r := Int.natCast_pow ..
    have hE0 : e.nxE (qn M ^ e.ds e.r : Nat) (e.S (qn M : Nat) (tval T f) t) (tlen T e.r l t) (tval T f t) = 0 := by
      rw [Enc.nxE, if_pos hce, if_pos ⟨hSt.1, by rw [hP]; exact hSt.2⟩, hqo]; exact hinE t
    have f0 : n < n + 1 := by omega
    have hov : e.oval M (tval T f) T' = .sl T' (tab T' (e.orow M (tval T f))) := by rw [Enc.oval, if_neg (by omega)]
    have hor : e.orow M (tval T f) t = isl (e.w 0) fun j => (cn (e.so M (e.S (qn M : Nat) (tval T f) t) (tval T f t) e.r 0 j) : Nat) := rfl
    simp -implicitDefEqProofs only [gev_t, st_same, st_ne, e_some, e_mov, e_iaddr, e_iaddr_sl, w_skip, w_seq, w_block, w_draw, s_n, m_cons, m_kmops, m_kpm, m_load, m_cell_pp, m_call, Nat.reduceLT, Nat.reduceBEq, decide_true, Int.toNat_natCast, List.length_cons, List.length_nil, true_and, and_self, if_true, List.drop_zero, List.take_zero, List.take_succ_cons, Nat.zero_add, Nat.mul_one, List.map_cons, List.map_nil, tab_len, m_p_mov, m_p_indexAddr, m_cell_ptr, m_clm, ns2, Int.natCast_nonneg, ns12, ns13, Nat.le_refl, e2, e5, e8, e9, h0, hc, htN, gat_tab, msr_at, f0]
    refine mcall_of (g := .tup [.int .i64 (e.nx (qn M : Nat) (e.S (qn M : Nat) (tval T f) t) (tval T f t) e.r 0), isl (e.w 0) fun j => (cn (e.so M (e.S (qn M : Nat) (tval T f) t) (tval T f t) e.r 0 j) : Nat), .int .i64 0]) ?_ (fun H1 n1 _ _ => ?_) ?_
    · refine (Pl.tup _ fun j hj => ?_).nr
      rcases j with _ | _ | _ | j
      · exact .int _ _
      · exact pl_isl _ _
      · exact .int _ _
      · simp at hj; omega
    · have := sp_conv_Next (M := M) (H := H1) (n := n1) e hB h hd (e.S (qn M : Nat) (tval T f) t) (tlen T e.r l t) (tval T f t)
      rw [if_pos hE0] at this
      exact this
    simp -implicitDefEqProofs only [gev_t, gev_c, st_same, st_ne, e_nil, e_cons, e_kops, e_guard, e_ff, e_some, e_mov, e_bin, e_neq, e_iaddr, e_iaddr_sl, e_ext, e_ext0, e_ext1, e_ext2, e_load, e_cell_pp, e_call, w_region, w_seq, s_n, d_kdr, m_nil, m_cons, m_kmops, m_kpm, Nat.reduceLT, Nat.reduceBEq, decide_true, Bool.not_true, Int.toNat_natCast, true_and, and_self, if_true, Nat.mul_one, List.map_cons, List.map_nil, tab_len, m_p_mov, m_p_extract, Int.natCast_nonneg, e6, e9, hov, hc, htN, gat_tab, hor]
    refine call_of (sp_SameInts (e.w 0) (e.w 0) _ _ (by omega)) ?_
    have hTr : decide (e.w 0 = e.w 0 ∧ ∀ j, j < e.w 0 → ((cn (e.so M (e.S (qn M : Nat) (tval T f) t) (tval T f t) e.r 0 j) : Nat) : Int) = ((cn (e.so M (e.S (qn M : Nat) (tval T f) t) (tval T f t) e.r 0 j) : Nat) : Int)) = true := decide_eq_true ⟨rfl, fun _ _ => rfl⟩
    rw [hTr]
    simp -implicitDefEqProofs only [gev_t, gev_c, st_same, st_ne, e_nil, e_cons, e_kops, e_guard, e_ff, e_some, e_mov, e_pick, e_pick_f, e_bin, e_un, e_not, e_add, w_skip, w_region, w_cond, s_n, b_n, c_f, Nat.reduceLT, Nat.reduceBEq, Bool.not_true, e9, hwt]
    exact l_n ⟨t + 1, by omega, rfl, h0, ho, by simp -implicitDefEqProofs only [st_ne, Nat.reduceBEq, e2], by simp -implicitDefEqProofs only [st_ne, Nat.reduceBEq, e5], by simp -implicitDefEqProofs only [st_ne, Nat.reduceBEq, e6, hov], by simp -implicitDefEqProofs only [st_same, st_ne, Nat.reduceBEq]; rfl, by simp -implicitDefEqProofs only [st_same]; rfl, by omega⟩
  · have : t = T' := by omega
    subst this
    simp -implicitDefEqProofs only [e_cons, e_call, w_region, w_seq, w_exit, s_n, s_x, b_x, l_x, if_true, List.map_nil]
    refine call_of sp_four ?_
    obtain ⟨k4, M4, h4, hd4, hm4⟩ := e4_fi
    have hE4 : e4.nxE (qn M4 ^ e4.ds e4.r : Nat) 0 1 (fun _ => 1) = 0 := by
      have hp : 0 < qn M4 ^ e4.ds e4.r := Nat.pow_pos (by have := qn_two M4; omega)
      rw [Enc.nxE, if_pos e4_ce, if_pos ⟨by omega, by omega⟩, inE, if_pos (show 1 = e4.r from rfl), if_pos fun i _ => ?_]
      have : qo e4.p e4.m = 2 := e4_qo
      rw [this]; decide
    have hone : tab 1 (it fun _ => 1) = [GV.int .i64 1] := rfl
    have hN := sp_conv_Next' (M := M4) (H := upd H' (n + 1) (some [GV.int .i64 1])) (n := n + 2) e4 e4_bnd h4 hd4 0 1 (fun _ => 1) (a := .own (n + 1) 0 1) (Rd.own (by omega) (by rw [upd_same, hone]))
    rw [if_pos hE4] at hN
    simp -implicitDefEqProofs only [gev_t, gev_c, st_same, st_ne, e_cons, e_kops, e_bslice, e_bs_some, e_call, e_gc_int, Nat.reduceLT, Nat.reduceBEq, List.length_cons, List.length_nil, setL_nil, setL_cons, e_fill_nil, e_fill, e_hfl, true_and, and_self, if_true, List.set_cons_zero, Nat.zero_add, List.map_cons, List.map_nil, ns2, Nat.le_refl]
    refine call_of hN ?_
    rw [hS0] at e8
    simp -implicitDefEqProofs only [gev_t, gev_c, st_same, st_ne, e_nil, e_cons, e_kops, e_guard, e_tt, e_some, e_mov, e_pick, e_pick_t, e_bin, e_eql, e_ext, e_ext0, e_ext1, e_ext2, e_bslice, e_bs_some, e_call, e_gc_int, w_region, w_seq, s_n, Nat.reduceLT, Nat.reduceBEq, Nat.reduceLeDiff, decide_true, List.length_cons, List.length_nil, setL_nil, setL_cons, e_fill_nil, e_fill, e_hfl, true_and, and_self, if_true, List.set_cons_zero, List.set_cons_succ, Nat.zero_add, List.map_cons, List.map_nil, ns2, ns12, Nat.le_refl, e8]
    refine call_of (sp_SameInts' (x := isl (e4.w 0) fun j => (cn (e4.so M4 0 (fun _ => 1) e4.r 0 j) : Nat)) 2 (fun j => (cn (e4.so M4 0 (fun _ => 1) e4.r 0 j) : Nat)) (fun _ => 1) (by omega) (Rd.sl _ _) (Rd.own (by omega) (by rw [upd_same]; rfl)) fun i _ => by rw [e4_so h4, cn_one]; rfl) ?_
    simp -implicitDefEqProofs only [gev_t, gev_c, st_same, st_ne, e_nil, e_cons, e_kops, e_some, e_mov, e_pick, e_pick_t, w_ret, s_n, Nat.reduceLT, Nat.reduceBEq, Nat.lt_add_one]
    exact fin_ret rfl (by decide) (fz_bool rfl) fun b hb => by rw [upd_ne _ _ (by omega), upd_ne _ _ (by omega)]; exact ho b hb
end Go.Proofs.Ytdpibcniodhinaa.Gh
