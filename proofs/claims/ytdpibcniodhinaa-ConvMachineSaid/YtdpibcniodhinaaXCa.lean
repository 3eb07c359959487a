/- Methods of the field, and small functions of rows. -/
import Derived.Test.YtdpibcniodhinaaXFm
namespace Go.Proofs.Ytdpibcniodhinaa.Gh
open Go Go.RowKit
open Alg (CR Ps Dg Zm Mn El Cg sm pw Irr Prm)
set_option linter.unusedVariables false
set_option linter.unusedSimpArgs false

section
variable {k : Nat} {M : Mn k}
theorem sp_GF_Order {H : Heap} {n : Nat} (g : El M) : Spec prog fid_field_GF_Order [gfv M g] H n (.int .i64 (qn M : Nat)) H n := by
  refine spec_ends hmix ok_field_GF_Order rfl fun hF => ?_
  show gw prog B_field_GF_Order _ (tl 7 _) H n
  simp -implicitDefEqProofs only [B_field_GF_Order, gfv, gev_t, gev_c, st_same, st_ne, mkE_nil, mkE_cons, e_nil, e_cons, e_kops, e_some, e_mov, e_faddr, e_faddr_pp, e_nilc, e_nilc_pp, e_load, e_cell_pp, w_region, w_seq, w_ret, s_n, Nat.reduceLT, Nat.reduceBEq, List.length_cons, List.length_nil, gat_3, true_and, Nat.zero_add, Nat.lt_add_one, ns2, ns12, ns13, ns14, ns15]
  exact fin_ret rfl (by decide) (fz_int rfl) fun _ _ => rfl
theorem sp_GF_Is {H : Heap} {n : Nat} (g : El M) (x : Int) : Spec prog fid_field_GF_Is [gfv M g, .int .i64 x] H n (.bool (decide (0 ≤ x ∧ x < (qn M : Nat)))) H n := by
  refine spec_ends hmix ok_field_GF_Is rfl fun hF => ?_
  show gw prog B_field_GF_Is _ (tl 15 _) H n
  by_cases h : 0 ≤ x
  · simp -implicitDefEqProofs only [B_field_GF_Is, gfv, gev_t, gev_c, st_same, st_ne, mkE_nil, mkE_cons, e_nil, e_cons, e_kops, e_guard, e_tt, e_some, e_mov, e_pick, e_pick_t, e_bin, e_lss, e_geq, e_faddr, e_faddr_pp, e_nilc, e_nilc_pp, e_load, e_cell_pp, w_region, w_seq, w_ret, s_n, Nat.reduceLT, Nat.reduceBEq, decide_true, List.length_cons, List.length_nil, gat_3, true_and, Nat.zero_add, Nat.lt_add_one, ns2, ns12, ns13, ns14, ns15, h]
    refine fin_ret rfl (by decide) (fz_bool ?_) fun _ _ => rfl
    simp only []
  · simp -implicitDefEqProofs only [B_field_GF_Is, gfv, gev_t, gev_c, st_same, st_ne, mkE_nil, mkE_cons, e_nil, e_cons, e_kops, e_guard, e_tf, e_some, e_mov, e_pick, e_pick_f, e_bin, e_geq, w_region, w_seq, w_ret, s_n, Nat.reduceLT, Nat.reduceBEq, decide_false, Nat.zero_add, Nat.lt_add_one, ns2, h]
    refine fin_ret rfl (by decide) (fz_bool ?_) fun _ _ => rfl
    simp only [false_and]; rfl
theorem sp_GF_in {H : Heap} {n : Nat} (g : El M) (x : Int) : Spec prog fid_field_GF_in [gfv M g, .int .i64 x] H n (.int .i64 (inq (qn M : Nat) x)) H n := by
  refine spec_ends hmix ok_field_GF_in rfl fun hF => ?_
  show gw prog B_field_GF_in _ (tl 9 _) H n
  simp -implicitDefEqProofs only [B_field_GF_in, gev_t, gev_c, st_same, st_ne, mkE_nil, mkE_cons, e_nil, e_cons, e_kops, e_mov, e_call, w_region, w_seq, s_n, Nat.reduceLT, Nat.reduceBEq, Nat.zero_add, List.map_cons, List.map_nil, ns2]
  refine call_of (sp_GF_Is g x) ?_
  simp -implicitDefEqProofs only [gev_t, st_same, e_nil, e_kops, w_cond, s_n, Nat.reduceLT]
  refine c_split (fun hc => ?_) (fun hc => ?_)
  · simp -implicitDefEqProofs only [gev_t, st_same, st_ne, e_nil, e_cons, e_kops, e_mov, w_region, w_seq, w_ret, s_n, s_r, Nat.reduceLT, Nat.reduceBEq, Nat.lt_add_one]
    exact fin_ret rfl (by decide) (fz_int (if_pos hc).symm) fun _ _ => rfl
  · simp -implicitDefEqProofs only [gev_c, e_nil, e_cons, e_kops, e_mov, w_skip, w_region, w_seq, w_ret, s_n]
    exact fin_ret rfl (by decide) (fz_int (if_neg hc).symm) fun _ _ => rfl
end

/-- the length without the zeros at the end -/
def tn (f : Nat → Int) : Nat → Nat
  | 0 => 0
  | m + 1 => if f m = 0 then tn f m else m + 1
theorem tn_le (f : Nat → Int) : ∀ m, tn f m ≤ m := by
  intro m
  induction m with
  | zero => exact Nat.le_refl _
  | succ m ih => rw [tn]; split <;> omega
theorem tn_congr {f g : Nat → Int} : ∀ {m : Nat}, (∀ j, j < m → f j = g j) → tn f m = tn g m := by
  intro m
  induction m with
  | zero => intro _; rfl
  | succ m ih => intro h; rw [tn, tn, h m (by omega), ih fun j hj => h j (by omega)]
theorem sp_trim {H : Heap} {n : Nat} (b m m' : Nat) (f : Nat → Int) (hb : b < n) (hH : H b = some (tab m' (it f))) (hm : m ≤ m') (hmm : m ≤ 1000000) : Spec prog fid_poly_trim [.own b 0 m] H n (.own b 0 (tn f m)) H n := by
  refine spec_ends hmix ok_poly_trim rfl fun hF => ?_
  show gw prog B_poly_trim _ (tl 21 _) H n
  simp -implicitDefEqProofs only [B_poly_trim, gev_c, mkE_nil, mkE_cons, e_nil, e_cons, e_kops, e_mov, w_region, w_seq, w_block, w_loop, s_n, Nat.zero_add]
  refine loop_rule (fun (j : Nat) E H' n' => H' = H ∧ n' = n ∧ E 0 = .own b 0 j ∧ tn f j = tn f m ∧ j ≤ m) (fun j => j) m ⟨rfl, rfl, rfl, rfl, Nat.le_refl _⟩ ?_
  rintro j E H' n' ⟨rfl, rfl, e0, hj, hjm⟩
  have fin : ∀ (E : Env), E 2 = .own b 0 j → tn f j = j → F_poly_trim.ends H' n' (.own b 0 (tn f m)) .ret (tl 21 E) H' n' := by
    intro E he h2
    refine fin_ret rfl (by decide) ?_ fun _ _ => rfl
    rw [he, ← hj, h2]; exact .own b 0 j hb
  cases j with
  | zero =>
    have h0 : ((0 : Nat) : Int) = 0 := rfl
    simp -implicitDefEqProofs only [gev_t, gev_c, st_same, st_ne, e_nil, e_cons, e_kops, e_guard, e_tf, e_some, e_mov, e_pick, e_pick_f, e_bin, e_gtr, e_len, e_len_own, w_region, w_seq, w_exit, w_ret, w_cond, s_n, s_x, b_x, c_f, l_x, Nat.reduceLT, Nat.reduceBEq, decide_false, if_true, Nat.lt_add_one, e0, h0, Int.lt_irrefl, decide_false]
    exact fin _ (by simp -implicitDefEqProofs only [st_same]) rfl
  | succ j =>
    have h1 : (0 : Int) < ((j + 1 : Nat) : Int) := by omega
    have hw : IntKind.i64.wrap (((j + 1 : Nat) : Int) - 1) = (j : Int) := (wrap64 (by omega)).trans (by omega)
    have h2 : (j : Int) < ((j + 1 : Nat) : Int) := by omega
    have h3 : j < m' := by omega
    have h4 : j ≤ j + 1 := by omega
    by_cases hz : f j = 0
    · simp -implicitDefEqProofs only [gev_t, gev_c, st_same, st_ne, e_nil, e_cons, e_kops, e_guard, e_tt, e_some, e_mov, e_pick, e_pick_t, e_bin, e_sub, e_eql, e_gtr, e_iaddr, e_iaddr_own, e_len, e_len_own, e_load, w_skip, w_region, w_seq, w_block, w_cond, s_n, b_n, c_t, Nat.reduceLT, Nat.reduceBEq, decide_true, Int.toNat_natCast, e_cell_ptr, e_cl1, true_and, and_self, if_true, Nat.add_zero, Nat.zero_add, Nat.mul_one, tab_len, Int.natCast_nonneg, it_at, e_slice, e_bd_none, e_bd_some, e_hbd, e_sl_own, e_hso, Nat.sub_zero, Nat.zero_le, Nat.le_refl, e0, h1, hw, h2, hH, h3, gat_tab, hz, h4]
      refine l_n ⟨j, by omega, rfl, rfl, by simp -implicitDefEqProofs only [st_same], ?_, by omega⟩
      rw [← hj, tn, if_pos hz]
    · simp -implicitDefEqProofs only [gev_t, gev_c, st_same, st_ne, e_nil, e_cons, e_kops, e_guard, e_tt, e_some, e_mov, e_pick, e_pick_t, e_bin, e_sub, e_eql, e_gtr, e_iaddr, e_iaddr_own, e_len, e_len_own, e_load, w_region, w_seq, w_exit, w_ret, w_cond, s_n, s_x, b_x, c_f, l_x, Nat.reduceLT, Nat.reduceBEq, decide_true, decide_false, Int.toNat_natCast, e_cell_ptr, e_cl1, true_and, and_self, if_true, Nat.zero_add, Nat.mul_one, tab_len, Nat.lt_add_one, Int.natCast_nonneg, it_at, e0, h1, hw, h2, hH, h3, gat_tab, hz]
      exact fin _ (by simp -implicitDefEqProofs only [st_same]) (by rw [tn, if_neg hz])
section
variable {k : Nat} {M : Mn k}
theorem sp_Canon {H : Heap} {n : Nat} (g : El M) (m : Nat) (f : Nat → Int) (hm : m ≤ 1000000) (hq : qn M ≤ 256) : Spec prog fid_poly_Canon [gfv M g, isl m f] H n (.own n 0 (tn (fun i => inq (qn M : Nat) (f i)) m)) (upd H n (some (tab m (it fun i => inq (qn M : Nat) (f i))))) (n + 1) := by
  refine spec_ends1 hmix ok_poly_Canon rfl fun hF => ?_
  show gw prog B_poly_Canon _ (tl 28 _) H n
  simp -implicitDefEqProofs only [B_poly_Canon, gev_t, gev_c, st_same, st_ne, mkE_nil, mkE_cons, e_nil, e_cons, e_kops, e_some, e_mov, e_len, e_len_sl, e_mslice, e_ms_int, w_region, w_seq, w_block, w_loop, s_n, Nat.reduceLT, Nat.reduceBEq, Int.toNat_natCast, true_and, Nat.zero_add, ns2, Int.natCast_nonneg]
  repeat with_reducible refine And.intro (by omega) ?_
  refine loop_rule (fun (i : Nat) E H' n' => n' = n + 1 ∧ H' n = some (tab m (it (mix (fun i => inq (qn M : Nat) (f i)) (fun _ => 0) i))) ∧ (∀ b, b < n → H' b = H b) ∧ E 0 = gfv M g ∧ E 5 = .own n 0 m ∧ E 11 = isl m f ∧ E 12 = .int .i64 (m : Nat) ∧ E 13 = .int .i64 (i : Nat) ∧ i ≤ m) (fun i => m - i) 0 ?_ ?_
  · exact ⟨rfl, by simp -implicitDefEqProofs only [upd_same, tab_rep, mix_zero]; rfl, fun c hc => by rw [upd_ne _ _ (by omega)], rfl, rfl, rfl, rfl, rfl, by omega⟩
  rintro i E H' n' ⟨rfl, h0, ho, e0, e5, e11, e12, e13, hi⟩
  simp -implicitDefEqProofs only [gev_t, st_same, e_nil, e_cons, e_kops, e_some, e_bin, e_lss, w_region, w_seq, w_cond, s_n, Nat.reduceLT, e12, e13]
  refine c_split (fun hc => ?_) (fun hc => ?_)
  · have hiN : i < m := by omega
    have hwi := wrap64 (x := (i : Int) + 1) (by omega)
    simp -implicitDefEqProofs only [gev_t, st_same, st_ne, e_nil, e_cons, e_kops, e_some, e_mov, e_iaddr, e_iaddr_sl, e_load, e_cell_pp, e_call, w_skip, w_region, w_seq, w_block, s_n, Nat.reduceLT, Nat.reduceBEq, decide_true, Int.toNat_natCast, true_and, and_self, if_true, Nat.mul_one, List.map_cons, List.map_nil, tab_len, Int.natCast_nonneg, it_at, e0, e11, e13, hc, hiN, gat_tab]
    refine call_of (sp_GF_Is g (f i)) ?_
    by_cases hx : 0 ≤ f i ∧ f i < (qn M : Nat)
    · have hst := mix_step (fun i => inq (qn M : Nat) (f i)) (fun _ => 0) i
      have hin : inq (qn M : Nat) (f i) = f i := if_pos hx
      simp only [hin] at hst
      simp -implicitDefEqProofs only [gev_t, gev_c, st_same, st_ne, e_nil, e_cons, e_kops, e_kops_none, e_some, e_mov, e_bin, e_add, e_iaddr, e_iaddr_own, e_store, e_gc_int, w_region, w_cond, s_n, b_n, c_t, Nat.reduceLT, Nat.reduceBEq, decide_true, Int.toNat_natCast, List.length_cons, List.length_nil, setL_nil, setL_cons, e_store_ptr, e_stp, cell_int, true_and, and_self, if_true, List.all_cons, List.all_nil, Bool.and_self, Nat.zero_add, Nat.mul_one, tab_len, tab_set, it_upf, Int.natCast_nonneg, hx, e5, e13, hc, h0, hwi, hst]
      repeat with_reducible refine And.intro (by omega) ?_
      exact l_n ⟨i + 1, by omega, rfl, by simp -implicitDefEqProofs only [upd_same], fun b hb => by rw [upd_ne _ _ (by omega)]; exact ho b hb, by simp -implicitDefEqProofs only [st_ne, Nat.reduceBEq, e0], by simp -implicitDefEqProofs only [st_ne, Nat.reduceBEq, e5], by simp -implicitDefEqProofs only [st_ne, Nat.reduceBEq, e11], by simp -implicitDefEqProofs only [st_ne, Nat.reduceBEq, e12], by simp -implicitDefEqProofs only [st_same]; rfl, by omega⟩
    · have hst := mix_step (fun i => inq (qn M : Nat) (f i)) (fun _ => 0) i
      have hin : inq (qn M : Nat) (f i) = 0 := if_neg hx
      have hs2 : mix (fun i => inq (qn M : Nat) (f i)) (fun _ => 0) (i + 1) = mix (fun i => inq (qn M : Nat) (f i)) (fun _ => 0) i := by
        rw [← hst]
        funext t
        by_cases e : t = i
        · subst e; rw [upf_same, mix_at]; exact hin
        · rw [upf_ne _ _ e]
      simp -implicitDefEqProofs only [gev_t, gev_c, st_same, st_ne, e_nil, e_cons, e_kops, e_some, e_mov, e_bin, e_add, w_skip, w_region, w_cond, s_n, b_n, c_f, Nat.reduceLT, Nat.reduceBEq, decide_false, hx, e13, hwi]
      exact l_n ⟨i + 1, by omega, rfl, by rw [hs2]; exact h0, ho, by simp -implicitDefEqProofs only [st_ne, Nat.reduceBEq, e0], by simp -implicitDefEqProofs only [st_ne, Nat.reduceBEq, e5], by simp -implicitDefEqProofs only [st_ne, Nat.reduceBEq, e11], by simp -implicitDefEqProofs only [st_ne, Nat.reduceBEq, e12], by simp -implicitDefEqProofs only [st_same]; rfl, by omega⟩
  · have : i = m := by omega
    subst this
    simp -implicitDefEqProofs only [gev_t, st_same, st_ne, e_cons, e_kops, e_mov, e_call, w_region, w_seq, w_exit, s_n, s_x, b_x, l_x, Nat.reduceLT, Nat.reduceBEq, if_true, List.map_cons, List.map_nil, e5]
    have hrow : H' n = some (tab i (it fun i => inq (qn M : Nat) (f i))) := by
      rw [h0]; exact congrArg some (tab_congr fun j hj => congrArg (GV.int .i64) (mix_lt _ _ hj))
    refine call_of (sp_trim n i i _ (by omega) hrow (Nat.le_refl _) hm) ?_
    simp -implicitDefEqProofs only [gev_t, st_same, e_nil, e_cons, e_kops, e_mov, w_ret, s_n, Nat.lt_add_one]
    exact fin_own rfl (by decide) (by simp -implicitDefEqProofs only [st_same]) (Nat.le_refl _) hrow trs_it ho
end

theorem sp_Exp {H : Heap} {n : Nat} (q N : Int) (k : Nat) (hq : 2 ≤ q) (hq2 : q ≤ 256) (hk : k ≤ 1000000) (hN : 1 ≤ N) (hN2 : N ≤ 65536) : Spec prog fid_number_Exp [.int .i64 q, .int .i64 k, .int .i64 N] H n (.tup [.int .i64 (if q ^ k ≤ N then q ^ k else 0), .int .i64 (if q ^ k ≤ N then 0 else 8)]) H n := by
  refine spec_ends hmix ok_number_Exp rfl fun hF => ?_
  show gw prog B_number_Exp _ (tl 44 _) H n
  have h1 : ¬ (q < 0) := by omega
  have h2 : ¬ ((k : Int) < 0) := by omega
  have h3 : ¬ (N < 0) := by omega
  have h4 : ¬ (q = 0) := by omega
  have h5 : ¬ (N = 0) := by omega
  have h6 : 1 < q := by omega
  simp -implicitDefEqProofs only [B_number_Exp, gev_t, gev_c, st_same, st_ne, mkE_nil, mkE_cons, e_nil, e_cons, e_kops, e_guard, e_ff, e_tf, e_some, e_mov, e_pick, e_pick_f, e_bin, e_eql, e_lss, w_skip, w_region, w_seq, w_block, w_cond, w_loop, s_n, c_f, Nat.reduceLT, Nat.reduceBEq, decide_false, Nat.zero_add, ns2, ns12, h1, h2, h3, h4, h5]
  refine loop_rule (fun (j : Nat) E H' n' => H' = H ∧ n' = n ∧ E 0 = .int .i64 q ∧ E 1 = .int .i64 ((k - j : Nat) : Int) ∧ E 2 = .int .i64 N ∧ E 8 = .int .i64 (q ^ j) ∧ j ≤ k ∧ q ^ j ≤ N) (fun j => k - j) 0 ⟨rfl, rfl, rfl, rfl, rfl, by simp -implicitDefEqProofs only [st_same, Int.pow_zero], by omega, by rw [Int.pow_zero]; omega⟩ ?_
  rintro j E H' n' ⟨rfl, rfl, e0, e1, e2, e8, hj, hpj⟩
  by_cases hjk : j < k
  · have hpos : (0 : Int) < ((k - j : Nat) : Int) := by omega
    have hps : q ^ (j + 1) = q ^ j * q := Int.pow_succ q j
    have hp0 : 0 < q ^ j := Int.pow_pos (by omega)
    have hd : Int.tdiv N q = N / q := Int.tdiv_eq_ediv_of_nonneg (by omega)
    have hd0 : 0 ≤ N / q := Int.ediv_nonneg (by omega) (by omega)
    have hdl : N / q ≤ N := Int.ediv_le_self _ (by omega)
    have hwd := wrap64 (x := N / q) (by omega)
    have key : N / q < q ^ j ↔ N < q ^ (j + 1) := by rw [Int.ediv_lt_iff_lt_mul (by omega), hps]
    by_cases hb : N / q < q ^ j
    · have hbig : ¬ q ^ k ≤ N := by
        have h7 := key.1 hb
        have h8 := pow_mono (p := q) (by omega) (i := j + 1) (j := k) (by omega)
        omega
      simp -implicitDefEqProofs only [gev_t, gev_c, st_same, st_ne, e_nil, e_cons, e_kops, e_guard, e_tt, e_some, e_mov, e_pick, e_pick_t, e_bin, e_quo, e_gtr, w_skip, w_region, w_seq, w_block, w_ret, w_cond, s_n, s_r, b_r, c_t, l_r, Nat.reduceLT, Nat.reduceBEq, decide_true, if_false, e0, e1, e2, e8, hpos, h6, h4, hd, hwd, hb]
      exact fin_ret2 rfl (by decide) (by decide) (by simp -implicitDefEqProofs only [st_same, st_ne, Nat.reduceBEq]; exact fz_int (if_neg hbig).symm) (by simp -implicitDefEqProofs only [st_same]; exact fz_int (if_neg hbig).symm) fun _ _ => rfl
    · have hsm : q ^ (j + 1) ≤ N := by have := mt key.2 hb; omega
      have hp1 : 0 < q ^ (j + 1) := Int.pow_pos (by omega)
      have hwm := wrap64 (x := q ^ (j + 1)) (by omega)
      have hwk : IntKind.i64.wrap (((k - j : Nat) : Int) - 1) = ((k - (j + 1) : Nat) : Int) := (wrap64 (by omega)).trans (by omega)
      simp -implicitDefEqProofs only [gev_t, gev_c, st_same, st_ne, e_nil, e_cons, e_kops, e_guard, e_tt, e_some, e_mov, e_pick, e_pick_t, e_bin, e_sub, e_mul, e_quo, e_gtr, w_skip, w_region, w_seq, w_block, w_cond, s_n, b_n, c_t, c_f, Nat.reduceLT, Nat.reduceBEq, decide_true, decide_false, if_false, e0, e1, e2, e8, hpos, h6, h4, hd, hwd, hb, ← hps, hwm, hwk]
      exact l_n ⟨j + 1, by omega, rfl, rfl, by simp -implicitDefEqProofs only [st_ne, Nat.reduceBEq, e0], by simp -implicitDefEqProofs only [st_same], by simp -implicitDefEqProofs only [st_ne, Nat.reduceBEq, e2], by simp -implicitDefEqProofs only [st_same, st_ne, Nat.reduceBEq], by omega, hsm⟩
  · have : j = k := by omega
    subst this
    have hpos : ¬ (0 : Int) < ((j - j : Nat) : Int) := by omega
    simp -implicitDefEqProofs only [gev_t, gev_c, st_same, st_ne, e_nil, e_cons, e_kops, e_guard, e_tf, e_some, e_mov, e_pick, e_pick_f, e_bin, e_gtr, w_region, w_seq, w_exit, w_ret, w_cond, s_n, s_x, b_x, c_f, l_x, Nat.reduceLT, Nat.reduceBEq, decide_false, if_true, Nat.lt_add_one, e1, e8, hpos]
    exact fin_ret2 rfl (by decide) (by decide) (by simp -implicitDefEqProofs only [st_same, st_ne, Nat.reduceBEq]; exact fz_int (if_pos hpj).symm) (by simp -implicitDefEqProofs only [st_same]; exact fz_int (if_pos hpj).symm) fun _ _ => rfl

theorem sp_SameInts {H : Heap} {n : Nat} (a b : Nat) (f g : Nat → Int) (ha : a ≤ 1000000) : Spec prog fid_ref09_SameInts [isl a f, isl b g] H n (.bool (decide (a = b ∧ ∀ i, i < a → f i = g i))) H n := by
  refine spec_ends hmix ok_ref09_SameInts rfl fun hF => ?_
  show gw prog B_ref09_SameInts _ (tl 26 _) H n
  by_cases hl : a = b
  · subst hl
    simp -implicitDefEqProofs only [B_ref09_SameInts, gev_t, gev_c, st_same, st_ne, mkE_nil, mkE_cons, e_nil, e_cons, e_kops, e_some, e_mov, e_bin, e_neq, e_len, e_len_sl, w_skip, w_region, w_seq, w_block, w_cond, w_loop, s_n, c_f, Nat.reduceLT, Nat.reduceBEq, decide_true, Bool.not_true, true_and, Nat.zero_add, ns2]
    refine loop_rule (fun (i : Nat) E H' n' => H' = H ∧ n' = n ∧ E 0 = isl a f ∧ E 1 = isl a g ∧ E 5 = .int .i64 (i : Nat) ∧ i ≤ a ∧ ∀ j, j < i → f j = g j) (fun i => a - i) 0 ⟨rfl, rfl, rfl, rfl, rfl, by omega, fun j hj => by omega⟩ ?_
    rintro i E H' n' ⟨rfl, rfl, e0, e1, e5, hi, hj⟩
    simp -implicitDefEqProofs only [gev_t, st_same, st_ne, e_nil, e_cons, e_kops, e_some, e_mov, e_bin, e_lss, e_len, e_len_sl, w_region, w_seq, w_cond, s_n, Nat.reduceLT, Nat.reduceBEq, e0, e5]
    refine c_split (fun hc => ?_) (fun hc => ?_)
    · have hiN : i < a := by omega
      have hwi := wrap64 (x := (i : Int) + 1) (by omega)
      by_cases hx : f i = g i
      · simp -implicitDefEqProofs only [gev_t, gev_c, st_same, st_ne, e_nil, e_cons, e_kops, e_some, e_mov, e_bin, e_add, e_neq, e_iaddr, e_iaddr_sl, w_skip, w_region, w_seq, w_block, w_cond, w_draw, s_n, b_n, c_f, d_kdr, m_nil, m_cons, m_kmops, m_kpm, m_load, m_cell_pp, Nat.reduceLT, Nat.reduceBEq, decide_true, Bool.not_true, Int.toNat_natCast, true_and, and_self, if_true, Nat.mul_one, tab_len, m_p_mov, m_p_indexAddr, Nat.lt_add_one, Int.natCast_nonneg, it_at, e0, e1, e5, hc, hiN, gat_tab, hx, hwi]
        refine l_n ⟨i + 1, by omega, rfl, rfl, by simp -implicitDefEqProofs only [st_ne, Nat.reduceBEq, e0], by simp -implicitDefEqProofs only [st_ne, Nat.reduceBEq, e1], by simp -implicitDefEqProofs only [st_same]; rfl, by omega, fun j h1 => ?_⟩
        by_cases e : j = i
        · subst e; exact hx
        · exact hj j (by omega)
      · simp -implicitDefEqProofs only [gev_t, gev_c, st_same, st_ne, e_nil, e_cons, e_kops, e_some, e_mov, e_bin, e_neq, e_iaddr, e_iaddr_sl, w_skip, w_region, w_seq, w_block, w_ret, w_cond, w_draw, s_n, s_r, b_r, c_t, l_r, d_kdr, m_nil, m_cons, m_kmops, m_kpm, m_load, m_cell_pp, Nat.reduceLT, Nat.reduceBEq, decide_true, decide_false, Bool.not_false, Int.toNat_natCast, true_and, and_self, if_true, Nat.mul_one, tab_len, m_p_mov, m_p_indexAddr, Nat.lt_add_one, Int.natCast_nonneg, it_at, e0, e1, e5, hc, hiN, gat_tab, hx]
        exact fin_ret rfl (by decide) (fz_bool (decide_eq_false fun h => hx (h i hiN)).symm) fun _ _ => rfl
    · simp -implicitDefEqProofs only [gev_c, e_nil, e_cons, e_kops, e_mov, w_region, w_seq, w_exit, w_ret, s_n, s_x, b_x, l_x, if_true]
      exact fin_ret rfl (by decide) (fz_bool (decide_eq_true fun j h1 => hj j (by omega)).symm) fun _ _ => rfl
  · have hlI : ¬ ((a : Int) = (b : Int)) := by omega
    simp -implicitDefEqProofs only [B_ref09_SameInts, gev_t, gev_c, st_same, st_ne, mkE_nil, mkE_cons, e_nil, e_cons, e_kops, e_some, e_mov, e_bin, e_neq, e_len, e_len_sl, w_region, w_seq, w_ret, w_cond, s_n, s_r, c_t, Nat.reduceLT, Nat.reduceBEq, decide_false, Bool.not_false, Nat.zero_add, ns2, hlI]
    exact fin_ret rfl (by decide) (fz_bool (decide_eq_false fun h => hl h.1).symm) fun _ _ => rfl
end Go.Proofs.Ytdpibcniodhinaa.Gh
/- Encoders: the bounds of the statements, and degrees. -/
namespace Go.Proofs.Ytdpibcniodhinaa.Gh
open Go Go.RowKit
open Alg (CR Ps Dg Zm Mn El Cg sm pw Irr Prm)
set_option linter.unusedVariables false
set_option linter.unusedSimpArgs false

/-- an encoder as it is given -/
structure Enc where
  p : Int
  m : Int
  l : Nat
  mo : Nat → Int
  r : Nat
  w : Nat → Nat
  n : Nat → Nat → Nat
  c : Nat → Nat → Nat → Int
def Enc.pl (e : Enc) (i : Nat) : Nat → GV := fun j => isl (e.n i j) (e.c i j)
def Enc.rw (e : Enc) : Nat → GV := fun i => .sl (e.w i) (tab (e.w i) (e.pl i))
abbrev Enc.gen (e : Enc) : GV := .sl e.r (tab e.r e.rw)
abbrev Enc.f (e : Enc) : GV := fgv e.p e.m (isl e.l e.mo)
abbrev Enc.cs (e : Enc) : List GV := [.int .i64 e.p, .int .i64 e.m, isl e.l e.mo, e.gen]
abbrev Enc.gv (e : Enc) : GV := .agg e.cs
theorem Enc.pl_at (e : Enc) (i j : Nat) : e.pl i j = isl (e.n i j) (e.c i j) := rfl
theorem Enc.rw_at (e : Enc) (i : Nat) : e.rw i = .sl (e.w i) (tab (e.w i) (e.pl i)) := rfl
/-- the bounds of the statements -/
structure Enc.Bnd (e : Enc) : Prop where
  r : e.r ≤ 70
  w : ∀ i, i < e.r → e.w i ≤ 70
  n : ∀ i j, i < e.r → j < e.w i → e.n i j ≤ 40
def sumn (f : Nat → Nat) : Nat → Nat
  | 0 => 0
  | n + 1 => sumn f n + f n
theorem sumn_le {f : Nat → Nat} {b : Nat} : ∀ {n : Nat}, (∀ i, i < n → f i ≤ b) → sumn f n ≤ n * b := by
  intro n
  induction n with
  | zero => intro _; exact Nat.zero_le _
  | succ n ih => intro h; rw [sumn, Nat.succ_mul]; have := ih fun i hi => h i (by omega); have := h n (by omega); omega
def Enc.rs (e : Enc) (i : Nat) : Nat → Nat := sumn (e.n i)
def Enc.gs (e : Enc) : Nat → Nat := sumn fun i => e.rs i (e.w i)
noncomputable instance (e : Enc) : Decidable (e.Bnd ∧ e.gs e.r ≤ 3000) := Classical.propDecidable _

theorem sp_few {H : Heap} {n : Nat} (e : Enc) : Spec prog fid_law20_few [e.gv] H n (.bool (decide (e.Bnd ∧ e.gs e.r ≤ 3000))) H n := by
  refine spec_ends hmix ok_law20_few rfl fun hF => ?_
  show gw prog B_law20_few _ (tl 57 _) H n
  have bad : ∀ (E : Env) (H' : Heap) (n' : Nat), (∀ b, b < n → H' b = H b) → E 2 = .bool false → ¬ (e.Bnd ∧ e.gs e.r ≤ 3000) → F_law20_few.ends H n (.bool (decide (e.Bnd ∧ e.gs e.r ≤ 3000))) .ret (tl 57 E) H' n' := by
    intro E H' n' ho h4 h
    refine fin_ret rfl (by decide) ?_ ho
    rw [h4]; exact fz_bool (decide_eq_false h).symm
  have hu : ∀ x b, b < n → upd H n x b = H b := fun x b hb => upd_ne _ _ (by omega)
  simp -implicitDefEqProofs only [B_law20_few, gev_t, gev_c, st_same, st_ne, mkE_nil, mkE_cons, e_nil, e_cons, e_kops, e_some, e_mov, e_bin, e_gtr, e_faddr, e_faddr_ptr, e_len, e_len_sl, e_load, e_box, e_box_some, e_gc_agg, w_region, w_seq, w_cond, s_n, Nat.reduceLT, Nat.reduceBEq, List.length_cons, List.length_nil, e_cell_ptr, e_cl1, gat_3, upd_same, true_and, Nat.zero_add, Nat.lt_add_one, ns2, ns12, ns13]
  by_cases h1 : e.r ≤ 70
  · have h1' : ¬ (70 : Int) < (e.r : Int) := by omega
    simp -implicitDefEqProofs only [gev_c, e_nil, e_cons, e_kops, e_mov, w_skip, w_region, w_seq, w_block, w_loop, s_n, c_f, decide_false, h1']
    refine loop_rule (fun (i : Nat) E H' n' => n' = n + 1 ∧ H' n = some e.cs ∧ (∀ b, b < n → H' b = H b) ∧ E 1 = .ptr n 0 ∧ E 3 = .int .i64 (e.gs i : Nat) ∧ E 4 = .int .i64 (i : Nat) ∧ i ≤ e.r ∧ e.gs i ≤ i * 2800 ∧ (∀ t, t < i → e.w t ≤ 70) ∧ ∀ t j, t < i → j < e.w t → e.n t j ≤ 40) (fun i => e.r - i) 0 ?_ ?_
    · exact ⟨rfl, by simp -implicitDefEqProofs only [upd_same], hu _, rfl, rfl, rfl, by omega, by simp [Enc.gs, sumn], fun t ht => by omega, fun t j ht => by omega⟩
    rintro i E H' n' ⟨rfl, h0, ho, e1, e3, e4, hi, hg, hw, hn⟩
    simp -implicitDefEqProofs only [gev_t, st_same, st_ne, e_nil, e_cons, e_kops, e_some, e_mov, e_bin, e_lss, e_faddr, e_faddr_ptr, e_len, e_len_sl, e_load, w_region, w_seq, w_cond, s_n, Nat.reduceLT, Nat.reduceBEq, List.length_cons, List.length_nil, e_cell_ptr, e_cl1, gat_3, true_and, Nat.zero_add, Nat.lt_add_one, ns2, ns12, ns13, e1, e4, h0]
    refine c_split (fun hc => ?_) (fun hc => ?_)
    · have hiN : i < e.r := by omega
      simp -implicitDefEqProofs only [gev_t, gev_c, st_same, st_ne, e_nil, e_cons, e_kops, e_some, e_mov, e_bin, e_gtr, e_faddr, e_faddr_ptr, e_iaddr, e_iaddr_sl, e_len, e_len_sl, e_load, e_cell_pp, w_skip, w_region, w_seq, w_block, w_cond, s_n, Nat.reduceLT, Nat.reduceBEq, decide_true, Int.toNat_natCast, List.length_cons, List.length_nil, e_cell_ptr, e_cl1, gat_3, true_and, and_self, if_true, Nat.zero_add, Nat.mul_one, tab_len, Nat.lt_add_one, ns2, Int.natCast_nonneg, ns12, ns13, e1, e4, h0, hc, hiN, gat_tab, e.rw_at]
      by_cases h2 : e.w i ≤ 70
      · have h2' : ¬ (70 : Int) < (e.w i : Int) := by omega
        simp -implicitDefEqProofs only [gev_c, e_nil, e_cons, e_kops, e_mov, w_skip, w_region, w_seq, w_block, w_loop, s_n, c_f, decide_false, h2']
        refine loop_rule (fun (j : Nat) E H' n' => n' = n + 1 ∧ H' n = some e.cs ∧ (∀ b, b < n → H' b = H b) ∧ E 1 = .ptr n 0 ∧ E 3 = .int .i64 (e.gs i + e.rs i j : Nat) ∧ E 4 = .int .i64 (i : Nat) ∧ E 5 = .int .i64 (j : Nat) ∧ j ≤ e.w i ∧ e.rs i j ≤ j * 40 ∧ ∀ t, t < j → e.n i t ≤ 40) (fun j => e.w i - j) 0 ?_ ?_
        · exact ⟨rfl, h0, ho, by simp -implicitDefEqProofs only [st_ne, Nat.reduceBEq, e1], by simp -implicitDefEqProofs only [st_ne, Nat.reduceBEq, e3]; rfl, by simp -implicitDefEqProofs only [st_ne, Nat.reduceBEq, e4], rfl, by omega, by simp [Enc.rs, sumn], fun t ht => by omega⟩
        clear h0 ho e1 e3 e4 H' E
        rintro j E H' n' ⟨rfl, h0, ho, e1, e3, e4, e5, hj, hr, hnj⟩
        simp -implicitDefEqProofs only [gev_t, st_same, st_ne, e_nil, e_cons, e_kops, e_some, e_mov, e_bin, e_lss, e_faddr, e_faddr_ptr, e_iaddr, e_iaddr_sl, e_len, e_len_sl, e_load, e_cell_pp, w_region, w_seq, w_cond, s_n, Nat.reduceLT, Nat.reduceBEq, Int.toNat_natCast, List.length_cons, List.length_nil, e_cell_ptr, e_cl1, gat_3, true_and, and_self, if_true, Nat.zero_add, Nat.mul_one, tab_len, Nat.lt_add_one, ns2, Int.natCast_nonneg, ns12, ns13, e1, e4, e5, h0, hc, hiN, gat_tab, e.rw_at]
        refine c_split (fun hc' => ?_) (fun hc' => ?_)
        · have hjN : j < e.w i := by omega
          simp -implicitDefEqProofs only [gev_t, gev_c, st_same, st_ne, e_nil, e_cons, e_kops, e_some, e_mov, e_bin, e_gtr, e_faddr, e_faddr_ptr, e_iaddr, e_iaddr_sl, e_len, e_len_sl, e_load, e_cell_pp, w_skip, w_region, w_seq, w_block, w_cond, s_n, Nat.reduceLT, Nat.reduceBEq, decide_true, Int.toNat_natCast, List.length_cons, List.length_nil, e_cell_ptr, e_cl1, gat_3, true_and, and_self, if_true, Nat.zero_add, Nat.mul_one, tab_len, Nat.lt_add_one, ns2, Int.natCast_nonneg, ns12, ns13, e1, e4, e5, h0, hc, hc', hiN, hjN, gat_tab, e.rw_at, e.pl_at]
          by_cases h3 : e.n i j ≤ 40
          · have h3' : ¬ (40 : Int) < (e.n i j : Int) := by omega
            have hrs : e.rs i (j + 1) = e.rs i j + e.n i j := rfl
            have hadd : IntKind.i64.wrap (((e.gs i + e.rs i j : Nat) : Int) + ((e.n i j : Nat) : Int)) = ((e.gs i + e.rs i (j + 1) : Nat) : Int) := (wrap64 (by omega)).trans (by omega)
            have hwj := wrap64 (x := (j : Int) + 1) (by omega)
            simp -implicitDefEqProofs only [gev_t, gev_c, st_same, st_ne, e_nil, e_cons, e_kops, e_some, e_mov, e_bin, e_add, e_faddr, e_faddr_ptr, e_iaddr, e_iaddr_sl, e_len, e_len_sl, e_load, e_cell_pp, w_skip, w_region, s_n, b_n, c_f, Nat.reduceLT, Nat.reduceBEq, decide_false, Int.toNat_natCast, List.length_cons, List.length_nil, e_cell_ptr, e_cl1, gat_3, true_and, and_self, if_true, Nat.zero_add, Nat.mul_one, tab_len, Nat.lt_add_one, ns2, Int.natCast_nonneg, ns12, ns13, h3', e1, e3, e4, e5, h0, hc, hc', hiN, hjN, gat_tab, e.rw_at, e.pl_at, hadd, hwj]
            refine l_n ⟨j + 1, by omega, rfl, h0, ho, by simp -implicitDefEqProofs only [st_ne, Nat.reduceBEq, e1], by simp -implicitDefEqProofs only [st_same, st_ne, Nat.reduceBEq], by simp -implicitDefEqProofs only [st_ne, Nat.reduceBEq, e4], by simp -implicitDefEqProofs only [st_same]; rfl, by omega, by omega, fun t ht => ?_⟩
            by_cases et : t = j
            · subst et; exact h3
            · exact hnj t (by omega)
          · have h3' : (40 : Int) < (e.n i j : Int) := by omega
            simp -implicitDefEqProofs only [gev_c, e_nil, e_cons, e_kops, e_mov, w_region, w_seq, w_ret, s_n, s_r, b_r, c_t, l_r, decide_true, h3']
            exact bad _ _ _ ho (by simp -implicitDefEqProofs only [st_same]) fun h => h3 (h.1.n i j hiN hjN)
        · have : j = e.w i := by omega
          subst this
          have hgs : e.gs (i + 1) = e.gs i + e.rs i (e.w i) := rfl
          have hwi := wrap64 (x := (i : Int) + 1) (by omega)
          simp -implicitDefEqProofs only [gev_t, gev_c, st_same, st_ne, e_nil, e_cons, e_kops, e_some, e_mov, e_bin, e_add, w_region, w_seq, w_exit, s_n, s_x, b_n, b_x, l_x, Nat.reduceLT, Nat.reduceBEq, Nat.reduceEqDiff, if_true, if_false, e4, hwi]
          refine l_n ⟨i + 1, by omega, rfl, h0, ho, by simp -implicitDefEqProofs only [st_ne, Nat.reduceBEq, e1], by simp -implicitDefEqProofs only [st_ne, Nat.reduceBEq, e3]; rfl, by simp -implicitDefEqProofs only [st_same]; rfl, by omega, by omega, fun t ht => ?_, fun t u ht hu' => ?_⟩
          · by_cases et : t = i
            · subst et; exact h2
            · exact hw t (by omega)
          · by_cases et : t = i
            · subst et; exact hnj u hu'
            · exact hn t u (by omega) hu'
      · have h2' : (70 : Int) < (e.w i : Int) := by omega
        simp -implicitDefEqProofs only [gev_c, e_nil, e_cons, e_kops, e_mov, w_region, w_seq, w_ret, s_n, s_r, b_r, c_t, l_r, decide_true, h2']
        exact bad _ _ _ ho (by simp -implicitDefEqProofs only [st_same]) fun h => h2 (h.1.w i hiN)
    · have : i = e.r := by omega
      subst this
      simp -implicitDefEqProofs only [gev_t, gev_c, st_same, st_ne, e_nil, e_cons, e_kops, e_some, e_mov, e_bin, e_leq, w_region, w_seq, w_exit, w_ret, s_n, s_x, b_x, l_x, Nat.reduceLT, Nat.reduceBEq, if_true, Nat.lt_add_one, e3]
      refine fin_ret rfl (by decide) ?_ ho
      simp -implicitDefEqProofs only [st_same]
      refine fz_bool (decide_eq_decide.2 ?_)
      constructor
      · intro h; exact ⟨⟨h1, hw, fun t j ht hj => hn t j ht hj⟩, by omega⟩
      · intro h; have := h.2; omega
  · have h1' : (70 : Int) < (e.r : Int) := by omega
    simp -implicitDefEqProofs only [gev_c, e_nil, e_cons, e_kops, e_mov, w_region, w_seq, w_ret, s_n, s_r, c_t, decide_true, h1']
    exact bad _ _ _ (hu _) rfl fun h => h1 h.1.r

/-- the greatest index below n of an entry other than 0 -/
def hid (f : Nat → Int) : Nat → Nat
  | 0 => 0
  | n + 1 => if f n = 0 then hid f n else max (hid f n) n
theorem hid_le (f : Nat → Int) : ∀ n, hid f n ≤ n := by
  intro n
  induction n with
  | zero => exact Nat.le_refl _
  | succ n ih => rw [hid]; split <;> omega
theorem hid_tn (f : Nat → Int) : ∀ n, hid f n = tn f n - 1 := by
  intro n
  induction n with
  | zero => rfl
  | succ n ih =>
    rw [hid, tn]
    split
    · exact ih
    · have := hid_le f n; omega
/-- the degree of the first j entries of row i -/
def Enc.dg (e : Enc) (i : Nat) : Nat → Nat
  | 0 => 0
  | j + 1 => max (e.dg i j) (hid (e.c i j) (e.n i j))
def Enc.deg (e : Enc) (i : Nat) : Nat := e.dg i (e.w i)
theorem Enc.dg_le (e : Enc) (h : e.Bnd) {i : Nat} (hi : i < e.r) : ∀ j, j ≤ e.w i → e.dg i j ≤ 40 := by
  intro j
  induction j with
  | zero => intro _; exact Nat.zero_le _
  | succ j ih =>
    intro hj
    have h1 := ih (by omega)
    have h2 := hid_le (e.c i j) (e.n i j)
    have h3 := h.n i j hi (by omega)
    rw [Enc.dg]; omega
theorem Enc.deg_le (e : Enc) (h : e.Bnd) {i : Nat} (hi : i < e.r) : e.deg i ≤ 40 := e.dg_le h hi _ (Nat.le_refl _)

theorem sp_ref20_Degree {H : Heap} {n : Nat} (e : Enc) (h : e.Bnd) (i : Nat) (hi : i < e.r) : Spec prog fid_ref20_Degree [e.gv, .int .i64 i] H n (.int .i64 (e.deg i : Nat)) H n := by
  refine spec_ends hmix ok_ref20_Degree rfl fun hF => ?_
  show gw prog B_ref20_Degree _ (tl 47 _) H n
  have hiI : (i : Int) < (e.r : Int) := by omega
  have hw := h.w i hi
  simp -implicitDefEqProofs only [B_ref20_Degree, gev_t, gev_c, st_same, mkE_nil, mkE_cons, e_nil, e_cons, e_kops, e_mov, e_box, e_box_some, e_gc_agg, w_region, w_seq, w_block, w_loop, s_n, Nat.reduceLT, Nat.zero_add, ns2]
  refine loop_rule (fun (j : Nat) E H' n' => n' = n + 1 ∧ H' n = some e.cs ∧ (∀ b, b < n → H' b = H b) ∧ E 1 = .int .i64 (i : Nat) ∧ E 2 = .ptr n 0 ∧ E 5 = .int .i64 (e.dg i j : Nat) ∧ E 6 = .int .i64 (j : Nat) ∧ j ≤ e.w i) (fun j => e.w i - j) 0 ?_ ?_
  · exact ⟨rfl, by simp -implicitDefEqProofs only [upd_same], fun b hb => upd_ne _ _ (by omega), rfl, rfl, rfl, rfl, by omega⟩
  rintro j E H' n' ⟨rfl, h0, ho, e1, e2, e5, e6, hj⟩
  simp -implicitDefEqProofs only [gev_t, st_same, st_ne, e_nil, e_cons, e_kops, e_some, e_mov, e_bin, e_lss, e_faddr, e_faddr_ptr, e_iaddr, e_iaddr_sl, e_len, e_len_sl, e_load, e_cell_pp, w_region, w_seq, w_cond, s_n, Nat.reduceLT, Nat.reduceBEq, Int.toNat_natCast, List.length_cons, List.length_nil, e_cell_ptr, e_cl1, gat_3, true_and, and_self, if_true, Nat.zero_add, Nat.mul_one, tab_len, Nat.lt_add_one, ns2, Int.natCast_nonneg, ns12, ns13, e1, e2, e6, h0, hi, hiI, gat_tab, e.rw_at]
  refine c_split (fun hc => ?_) (fun hc => ?_)
  · have hjN : j < e.w i := by omega
    have hn := h.n i j hi hjN
    simp -implicitDefEqProofs only [gev_c, e_nil, e_cons, e_kops, e_mov, w_skip, w_region, w_seq, w_block, w_loop, s_n]
    refine loop_rule (fun (d : Nat) E H' n' => n' = n + 1 ∧ H' n = some e.cs ∧ (∀ b, b < n → H' b = H b) ∧ E 1 = .int .i64 (i : Nat) ∧ E 2 = .ptr n 0 ∧ E 5 = .int .i64 (max (e.dg i j) (hid (e.c i j) d) : Nat) ∧ E 6 = .int .i64 (j : Nat) ∧ E 7 = .int .i64 (d : Nat) ∧ d ≤ e.n i j) (fun d => e.n i j - d) 0 ?_ ?_
    · refine ⟨rfl, h0, ho, by simp -implicitDefEqProofs only [st_ne, Nat.reduceBEq, e1], by simp -implicitDefEqProofs only [st_ne, Nat.reduceBEq, e2], ?_, by simp -implicitDefEqProofs only [st_ne, Nat.reduceBEq, e6], rfl, by omega⟩
      simp -implicitDefEqProofs only [st_ne, Nat.reduceBEq, e5, hid, Nat.max_zero]
    clear h0 ho e1 e2 e5 e6 H' E
    rintro d E H' n' ⟨rfl, h0, ho, e1, e2, e5, e6, e7, hd⟩
    simp -implicitDefEqProofs only [gev_t, st_same, st_ne, e_nil, e_cons, e_kops, e_some, e_mov, e_bin, e_lss, e_faddr, e_faddr_ptr, e_iaddr, e_iaddr_sl, e_len, e_len_sl, e_load, e_cell_pp, w_region, w_seq, w_cond, s_n, Nat.reduceLT, Nat.reduceBEq, Int.toNat_natCast, List.length_cons, List.length_nil, e_cell_ptr, e_cl1, gat_3, true_and, and_self, if_true, Nat.zero_add, Nat.mul_one, tab_len, Nat.lt_add_one, ns2, Int.natCast_nonneg, ns12, ns13, e1, e2, e6, e7, h0, hi, hiI, hc, hjN, gat_tab, e.rw_at, e.pl_at]
    refine c_split (fun hc' => ?_) (fun hc' => ?_)
    · have hdN : d < e.n i j := by omega
      have hwd := wrap64 (x := (d : Int) + 1) (by omega)
      by_cases hz : e.c i j d = 0
      · simp -implicitDefEqProofs only [gev_t, gev_c, st_same, st_ne, e_nil, e_cons, e_kops, e_some, e_mov, e_bin, e_add, e_neq, e_faddr, e_faddr_ptr, e_iaddr, e_iaddr_sl, e_load, e_cell_pp, w_skip, w_region, w_seq, w_block, w_cond, s_n, b_n, c_f, Nat.reduceLT, Nat.reduceBEq, decide_true, Bool.not_true, Int.toNat_natCast, List.length_cons, List.length_nil, e_cell_ptr, e_cl1, gat_3, true_and, and_self, if_true, Nat.zero_add, Nat.mul_one, tab_len, Nat.lt_add_one, ns2, Int.natCast_nonneg, it_at, ns12, ns13, e1, e2, e6, e7, h0, hi, hiI, hc, hc', hjN, hdN, gat_tab, e.rw_at, e.pl_at, hz, hwd]
        refine l_n ⟨d + 1, by omega, rfl, h0, ho, by simp -implicitDefEqProofs only [st_ne, Nat.reduceBEq, e1], by simp -implicitDefEqProofs only [st_ne, Nat.reduceBEq, e2], ?_, by simp -implicitDefEqProofs only [st_ne, Nat.reduceBEq, e6], by simp -implicitDefEqProofs only [st_same]; rfl, by omega⟩
        simp -implicitDefEqProofs only [st_ne, Nat.reduceBEq, if_true, e5, hid, hz]
      · have hmx : (max ((max (e.dg i j) (hid (e.c i j) d) : Nat) : Int) (d : Int)) = ((max (e.dg i j) (hid (e.c i j) (d + 1)) : Nat) : Int) := by
          rw [hid, if_neg hz]; omega
        simp -implicitDefEqProofs only [gev_t, gev_c, st_same, st_ne, e_nil, e_cons, e_kops, e_some, e_mov, e_bin, e_add, e_neq, e_faddr, e_faddr_ptr, e_iaddr, e_iaddr_sl, e_mm, e_max, e_load, e_cell_pp, w_skip, w_region, w_seq, w_block, w_cond, s_n, b_n, c_t, Nat.reduceLT, Nat.reduceBEq, decide_true, decide_false, Bool.not_false, Int.toNat_natCast, List.length_cons, List.length_nil, e_cell_ptr, e_cl1, gat_3, true_and, and_self, if_true, Nat.zero_add, Nat.mul_one, tab_len, Nat.lt_add_one, ns2, Int.natCast_nonneg, it_at, ns12, ns13, e1, e2, e5, e6, e7, h0, hi, hiI, hc, hc', hjN, hdN, gat_tab, e.rw_at, e.pl_at, hz, hwd, hmx]
        exact l_n ⟨d + 1, by omega, rfl, h0, ho, by simp -implicitDefEqProofs only [st_ne, Nat.reduceBEq, e1], by simp -implicitDefEqProofs only [st_ne, Nat.reduceBEq, e2], by simp -implicitDefEqProofs only [st_same, st_ne, Nat.reduceBEq], by simp -implicitDefEqProofs only [st_ne, Nat.reduceBEq, e6], by simp -implicitDefEqProofs only [st_same]; rfl, by omega⟩
    · have : d = e.n i j := by omega
      subst this
      have hwj := wrap64 (x := (j : Int) + 1) (by omega)
      simp -implicitDefEqProofs only [gev_t, gev_c, st_same, st_ne, e_nil, e_cons, e_kops, e_some, e_mov, e_bin, e_add, w_region, w_seq, w_exit, w_ret, s_n, s_x, b_n, b_x, l_x, Nat.reduceLT, Nat.reduceBEq, Nat.reduceEqDiff, if_true, if_false, Nat.lt_add_one, e6, hwj]
      exact l_n ⟨j + 1, by omega, rfl, h0, ho, by simp -implicitDefEqProofs only [st_ne, Nat.reduceBEq, e1], by simp -implicitDefEqProofs only [st_ne, Nat.reduceBEq, e2], by simp -implicitDefEqProofs only [st_ne, Nat.reduceBEq, e5, Enc.dg], by simp -implicitDefEqProofs only [st_same]; rfl, by omega⟩
  · have : j = e.w i := by omega
    subst this
    simp -implicitDefEqProofs only [gev_t, st_same, st_ne, e_nil, e_cons, e_kops, e_mov, w_region, w_seq, w_exit, w_ret, s_n, s_x, b_x, l_x, Nat.reduceLT, Nat.reduceBEq, if_true, Nat.lt_add_one, e5]
    exact fin_ret rfl (by decide) (by simp -implicitDefEqProofs only [st_same]; exact fz_int rfl) ho

theorem sp_ref20_Degrees {H : Heap} {n : Nat} (e : Enc) (h : e.Bnd) (hr : 0 < e.r) : Spec prog fid_ref20_Degrees [e.gv] H n (.own n 0 e.r) (upd H n (some (tab e.r (it fun i => (e.deg i : Nat))))) (n + 1) := by
  refine spec_ends1 hmix ok_ref20_Degrees rfl fun hF => ?_
  show gw prog B_ref20_Degrees _ (tl 19 _) H n
  have h1 := h.r
  simp -implicitDefEqProofs only [B_ref20_Degrees, gev_t, gev_c, st_same, mkE_nil, mkE_cons, e_nil, e_cons, e_kops, e_mov, e_box, e_box_some, e_gc_agg, w_region, w_seq, w_block, w_loop, s_n, Nat.reduceLT, Nat.zero_add]
  refine loop_rule (fun (i : Nat) E H' n' => n + 1 ≤ n' ∧ H' n = some e.cs ∧ (∀ b, b < n → H' b = H b) ∧ E 1 = .ptr n 0 ∧ E 4 = .int .i64 (i : Nat) ∧ i ≤ e.r ∧ ((i = 0 ∧ E 3 = .nil) ∨ ∃ b, n < b ∧ b < n' ∧ E 3 = .own b 0 i ∧ H' b = some (tab i (it fun i => (e.deg i : Nat))))) (fun i => e.r - i) 0 ?_ ?_
  · exact ⟨by omega, by simp -implicitDefEqProofs only [upd_same], fun b hb => upd_ne _ _ (by omega), rfl, rfl, by omega, .inl ⟨rfl, rfl⟩⟩
  rintro i E H' n' ⟨hn', h0, ho, e1, e4, hi, hb⟩
  simp -implicitDefEqProofs only [gev_t, st_same, st_ne, e_nil, e_cons, e_kops, e_some, e_mov, e_bin, e_lss, e_faddr, e_faddr_ptr, e_len, e_len_sl, e_load, w_region, w_seq, w_cond, s_n, Nat.reduceLT, Nat.reduceBEq, List.length_cons, List.length_nil, e_cell_ptr, e_cl1, gat_3, true_and, Nat.zero_add, Nat.lt_add_one, ns2, ns12, ns13, e1, e4, h0]
  refine c_split (fun hc => ?_) (fun hc => ?_)
  · have hiN : i < e.r := by omega
    have hwi := wrap64 (x := (i : Int) + 1) (by omega)
    simp -implicitDefEqProofs only [gev_t, st_same, st_ne, e_cons, e_kops, e_mov, e_load, e_call, w_skip, w_region, w_seq, w_block, s_n, Nat.reduceLT, Nat.reduceBEq, List.length_cons, List.length_nil, e_cell_ptr, e_clm, true_and, List.drop_zero, List.take_zero, List.take_succ_cons, Nat.zero_add, List.map_cons, List.map_nil, ns2, ns12, ns13, Nat.le_refl, e1, e4, h0]
    refine call_of (sp_ref20_Degree e h i hiN) ?_
    have f1 : (n = n') = False := eq_false (by omega)
    have f2 : (n = n' + 1) = False := eq_false (by omega)
    rcases hb with ⟨rfl, e3⟩ | ⟨b, b1, b2, e3, hb⟩
    · have f3 : (0 : Nat) + 1 = 1 := rfl
      simp -implicitDefEqProofs only [gev_t, gev_c, st_same, st_ne, e_nil, e_cons, e_kops, e_some, e_mov, e_bin, e_add, e_bslice, e_bs_some, e_append, e_app_nil, e_gc_int, w_region, s_n, b_n, Nat.reduceLT, Nat.reduceBEq, Nat.reduceLeDiff, Nat.reduceMul, List.length_cons, List.length_nil, setL_nil, setL_cons, e_gel_own, e_hgel, e_fill_nil, e_fill, e_hfl, upd_same, true_and, and_self, if_true, List.drop_zero, List.take_zero, List.take_succ_cons, List.set_cons_zero, Nat.zero_add, ns2, Nat.sub_zero, Nat.le_refl, e3, e4, hwi]
      repeat with_reducible refine And.intro (by omega) ?_
      refine l_n ⟨1, by omega, by omega, ?_, fun c hc => ?_, by simp -implicitDefEqProofs only [st_ne, Nat.reduceBEq, e1], by simp -implicitDefEqProofs only [st_same]; rfl, by omega, .inr ⟨n' + 1, by omega, by omega, by simp -implicitDefEqProofs only [st_same, st_ne, Nat.reduceBEq], ?_⟩⟩
      · simp -implicitDefEqProofs only [upd_no, f1, f2, h0]
      · rw [upd_ne _ _ (by omega), upd_ne _ _ (by omega)]; exact ho c hc
      · simp -implicitDefEqProofs only [upd_same]; rfl
    · have f4 : (b = n') = False := eq_false (by omega)
      have f5 : (n = b) = False := eq_false (by omega)
      have f6 : (n' = b) = False := eq_false (by omega)
      have hs1 : tab i (it fun i => ((e.deg i : Nat) : Int)) ++ [GV.int .i64 (e.deg i : Nat)] = tab (i + 1) (it fun i => ((e.deg i : Nat) : Int)) := tab_succ.symm
      simp -implicitDefEqProofs only [gev_t, gev_c, st_same, st_ne, e_nil, e_cons, e_kops, e_some, e_mov, e_bin, e_add, e_bslice, e_bs_some, e_append, e_gc_int, w_region, s_n, b_n, Nat.reduceLT, Nat.reduceBEq, List.length_cons, List.length_nil, setL_nil, setL_cons, e_app_own, e_appo, e_gel_own, e_hgel, e_fill_nil, e_fill, e_hfl, upd_same, cell_int, true_and, and_self, if_true, List.all_cons, List.all_nil, Bool.and_self, List.drop_zero, List.take_zero, List.take_succ_cons, List.set_cons_zero, Nat.zero_add, tab_len, ns2, Nat.le_refl, e3, e4, hwi, hb, upd_no, f4, hs1]
      repeat with_reducible refine And.intro (by omega) ?_
      refine l_n ⟨i + 1, by omega, by omega, ?_, fun c hc => ?_, by simp -implicitDefEqProofs only [st_ne, Nat.reduceBEq, e1], by simp -implicitDefEqProofs only [st_same]; rfl, by omega, .inr ⟨n' + 1, by omega, by omega, by simp -implicitDefEqProofs only [st_same, st_ne, Nat.reduceBEq], by simp -implicitDefEqProofs only [upd_same]⟩⟩
      · simp -implicitDefEqProofs only [upd_no, f1, f2, f5, h0]
      · rw [upd_ne _ _ (by omega), upd_ne _ _ (by omega), upd_ne _ _ (by omega)]; exact ho c hc
  · have : i = e.r := by omega
    subst this
    rcases hb with ⟨h3, e3⟩ | ⟨b, b1, b2, e3, hb⟩
    · omega
    · simp -implicitDefEqProofs only [gev_t, st_same, st_ne, e_nil, e_cons, e_kops, e_mov, w_region, w_seq, w_exit, w_ret, s_n, s_x, b_x, l_x, Nat.reduceLT, Nat.reduceBEq, if_true, Nat.lt_add_one, e3]
      exact fin_own rfl (by decide) (by simp -implicitDefEqProofs only [st_same]) (by omega) hb trs_it ho
end Go.Proofs.Ytdpibcniodhinaa.Gh
/- The reference's check of an encoder. -/
namespace Go.Proofs.Ytdpibcniodhinaa.Gh
open Go Go.RowKit
open Alg (CR Ps Dg Zm Mn El Cg sm pw Irr Prm)
set_option linter.unusedVariables false
set_option linter.unusedSimpArgs false

noncomputable instance (l : Nat) (f : Nat → Int) (q : Int) : Decidable (∀ i, i < l → 0 ≤ f i ∧ f i < q) := Classical.propDecidable _
theorem sp_Entries {H : Heap} {n : Nat} (p m : Int) (g : GV) (hg : isCell g = true) (l : Nat) (f : Nat → Int) (hl : l ≤ 1000000) : Spec prog fid_ref09_Entries [fgv p m g, isl l f] H n (.int .i64 (if ∀ i, i < l → 0 ≤ f i ∧ f i < qo p m then 0 else 2)) H n := by
  refine spec_ends hmix ok_ref09_Entries rfl fun hF => ?_
  show gw prog B_ref09_Entries _ (tl 19 _) H n
  simp -implicitDefEqProofs only [B_ref09_Entries, gev_t, gev_c, st_same, mkE_nil, mkE_cons, e_nil, e_cons, e_kops, e_mov, e_box, e_box_some, e_gc_agg, w_region, w_seq, w_block, w_loop, s_n, Nat.reduceLT, Nat.zero_add, ns2]
  refine loop_rule (fun (i : Nat) E H' n' => n' = n + 1 ∧ H' n = some [.int .i64 p, .int .i64 m, g] ∧ (∀ b, b < n → H' b = H b) ∧ E 1 = isl l f ∧ E 2 = .ptr n 0 ∧ E 5 = .int .i64 (i : Nat) ∧ i ≤ l ∧ ∀ t, t < i → 0 ≤ f t ∧ f t < qo p m) (fun i => l - i) 0 ?_ ?_
  · exact ⟨rfl, by simp -implicitDefEqProofs only [upd_same], fun b hb => upd_ne _ _ (by omega), rfl, rfl, rfl, by omega, fun t ht => by omega⟩
  rintro i E H' n' ⟨rfl, h0, ho, e1, e2, e5, hi, hf⟩
  simp -implicitDefEqProofs only [gev_t, st_same, st_ne, e_nil, e_cons, e_kops, e_some, e_mov, e_bin, e_lss, e_len, e_len_sl, w_region, w_seq, w_cond, s_n, Nat.reduceLT, Nat.reduceBEq, e1, e5]
  refine c_split (fun hc => ?_) (fun hc => ?_)
  · have hiN : i < l := by omega
    have hwi := wrap64 (x := (i : Int) + 1) (by omega)
    simp -implicitDefEqProofs only [gev_t, st_same, st_ne, e_cons, e_some, e_mov, e_iaddr, e_iaddr_sl, e_call, w_skip, w_seq, w_block, w_draw, s_n, d_kdr, m_nil, m_cons, m_kmops, m_kpm, m_load, m_cell_pp, Nat.reduceLT, Nat.reduceBEq, decide_true, Int.toNat_natCast, List.length_cons, List.length_nil, true_and, and_self, if_true, List.drop_zero, List.take_zero, List.take_succ_cons, Nat.zero_add, Nat.mul_one, List.map_cons, List.map_nil, tab_len, m_p_mov, m_p_indexAddr, m_cell_ptr, m_clm, Nat.lt_add_one, ns2, Int.natCast_nonneg, it_at, ns12, Nat.le_refl, e1, e2, e5, h0, hc, hiN, gat_tab]
    refine call_of (sp_ref04_Is p m g hg (f i)) ?_
    by_cases hx : 0 ≤ f i ∧ f i < qo p m
    · simp -implicitDefEqProofs only [gev_t, gev_c, st_same, st_ne, e_nil, e_cons, e_kops, e_some, e_mov, e_bin, e_un, e_not, e_add, w_skip, w_region, w_cond, s_n, b_n, c_f, Nat.reduceLT, Nat.reduceBEq, decide_true, Bool.not_true, and_self, Nat.lt_add_one, hx, e5, hwi]
      refine l_n ⟨i + 1, by omega, rfl, h0, ho, by simp -implicitDefEqProofs only [st_ne, Nat.reduceBEq, e1], by simp -implicitDefEqProofs only [st_ne, Nat.reduceBEq, e2], by simp -implicitDefEqProofs only [st_same]; rfl, by omega, fun t ht => ?_⟩
      by_cases et : t = i
      · subst et; exact hx
      · exact hf t (by omega)
    · simp -implicitDefEqProofs only [gev_t, gev_c, st_same, e_nil, e_cons, e_kops, e_some, e_mov, e_un, e_not, w_region, w_seq, w_ret, w_cond, s_n, s_r, b_r, c_t, l_r, Nat.reduceLT, decide_false, Bool.not_false, Nat.lt_add_one, hx]
      exact fin_ret rfl (by decide) (fz_int (if_neg fun h => hx (h i hiN)).symm) ho
  · simp -implicitDefEqProofs only [gev_c, e_nil, e_cons, e_kops, e_mov, w_region, w_seq, w_exit, w_ret, s_n, s_x, b_x, l_x, if_true]
    exact fin_ret rfl (by decide) (fz_int (if_pos fun t ht => hf t (by omega)).symm) ho

/-- the first shape -/
def Enc.Shp3 (e : Enc) : Prop := e.r ≠ 0 ∧ e.w 0 ≠ 0 ∧ e.r ≤ e.w 0 ∧ ∀ i, i < e.r → e.w i = e.w 0
def Enc.El (e : Enc) : Prop := ∀ i j, i < e.r → j < e.w i → ∀ d, d < e.n i j → 0 ≤ e.c i j d ∧ e.c i j d < qo e.p e.m
def Enc.tot (e : Enc) : Nat → Nat := sumn fun i => e.deg i + 1
abbrev Enc.Fok (e : Enc) : Prop := Gh.Fok e.p e.m e.l e.mo
open Classical in
/-- the code of the first error -/
noncomputable def Enc.ce (e : Enc) : Int := if e.Fok then (if e.Shp3 then (if e.w 0 ≤ 64 then (if e.El then (if qo e.p e.m ^ e.tot e.r ≤ 65536 then 0 else 8) else 2) else 4) else 3) else 1
theorem sumn_mono {f : Nat → Nat} : ∀ {i j : Nat}, i ≤ j → sumn f i ≤ sumn f j := by
  intro i j h
  induction j with
  | zero => have : i = 0 := by omega
            subst this; exact Nat.le_refl _
  | succ j ih =>
    by_cases e : i = j + 1
    · subst e; exact Nat.le_refl _
    · have := ih (by omega); rw [sumn]; omega
theorem Enc.qo_in (e : Enc) (h : e.Fok) : 2 ≤ qo e.p e.m ∧ qo e.p e.m ≤ 256 := by
  obtain ⟨k, M, d, h1, h2, h3⟩ := h
  obtain ⟨q1, q2, q3, q4, q5, q6⟩ := Gh.qo_in (d.shp h1 h2).1
  have h1i := pow_mono (p := e.p) (by omega) (i := 1) (j := e.m.toNat) (by omega)
  rw [Int.pow_succ, Int.pow_zero, Int.one_mul] at h1i
  omega

theorem sp_ref20_Check {H : Heap} {n : Nat} (e : Enc) (h : e.Bnd) : Spec prog fid_ref20_Check [e.gv] H n (.int .i64 e.ce) H n := by
  refine spec_ends hmix ok_ref20_Check rfl fun hF => ?_
  show gw prog B_ref20_Check _ (tl 109 _) H n
  have fin : ∀ (E : Env) (H' : Heap) (n' : Nat) (v : Int), E 2 = .int .i64 v → e.ce = v → (∀ b, b < n → H' b = H b) → F_ref20_Check.ends H n (.int .i64 e.ce) .ret (tl 109 E) H' n' := by
    intro E H' n' v h2 hv ho
    refine fin_ret rfl (by decide) ?_ ho
    rw [h2]; exact fz_int hv.symm
  have hu : ∀ x b, b < n → upd H n x b = H b := fun x b hb => upd_ne _ _ (by omega)
  have hr := h.r
  simp -implicitDefEqProofs only [B_ref20_Check, gev_t, gev_c, st_same, st_ne, mkE_nil, mkE_cons, e_nil, e_cons, e_kops, e_some, e_mov, e_faddr, e_faddr_ptr, e_load, e_box, e_box_some, e_call, e_gc_agg, w_region, w_seq, s_n, Nat.reduceLT, Nat.reduceBEq, Nat.reduceLeDiff, List.length_cons, List.length_nil, e_cell_ptr, e_clm, upd_same, true_and, List.drop_zero, List.take_zero, List.take_succ_cons, Nat.add_zero, Nat.zero_add, List.map_cons, List.map_nil, ns2, ns12, ns13]
  refine call_of (sp_ref04_Check' e.p e.m e.l e.mo) ?_
  by_cases hA : e.Fok
  case neg =>
    have hA' : ¬ Fok e.p e.m e.l e.mo := hA
    have h10 : ((1 : Int) = 0) = False := by simp
    simp -implicitDefEqProofs only [gev_t, gev_c, st_same, e_nil, e_cons, e_kops, e_some, e_mov, e_bin, e_neq, w_region, w_seq, w_ret, w_cond, s_n, s_r, c_t, Nat.reduceLT, decide_false, Bool.not_false, if_false, hA', h10]
    exact fin _ _ _ 1 (by simp -implicitDefEqProofs only [st_same]) (if_neg hA) (hu _)
  have hA' : Fok e.p e.m e.l e.mo := hA
  obtain ⟨q2, q256⟩ := e.qo_in hA
  simp -implicitDefEqProofs only [gev_t, gev_c, st_same, st_ne, e_nil, e_cons, e_kops, e_guard, e_some, e_mov, e_bin, e_eql, e_neq, e_faddr, e_faddr_ptr, e_len, e_len_sl, e_load, w_skip, w_region, w_seq, w_cond, s_n, c_f, Nat.reduceLT, Nat.reduceBEq, decide_true, Bool.not_true, List.length_cons, List.length_nil, e_cell_ptr, e_cl1, gat_3, upd_same, true_and, if_true, Nat.zero_add, Nat.lt_add_one, ns2, ns12, ns13, hA']
  by_cases hr0 : e.r = 0
  · have hr0' : (e.r : Int) = 0 := by omega
    simp -implicitDefEqProofs only [gev_t, gev_c, st_same, st_ne, e_nil, e_cons, e_kops, e_guard, e_ft, e_some, e_mov, e_pick, e_pick_t, w_region, w_seq, w_ret, w_cond, s_n, s_r, c_t, Nat.reduceLT, Nat.reduceBEq, decide_true, hr0']
    exact fin _ _ _ 3 (by simp -implicitDefEqProofs only [st_same]) (by rw [Enc.ce, if_pos hA, if_neg fun hs => hs.1 hr0]) (hu _)
  have hr0' : ¬ (e.r : Int) = 0 := by omega
  have hz1 : (0 : Int) < (e.r : Int) := by omega
  have hz2 : 0 < e.r := by omega
  have hz3 : (0 : Int).toNat = 0 := rfl
  have hz4 : (0 : Int) ≤ 0 := Int.le_refl 0
  have hw0 := h.w 0 hz2
  simp -implicitDefEqProofs only [gev_t, gev_c, st_same, st_ne, e_nil, e_cons, e_kops, e_guard, e_ff, e_some, e_pick, e_pick_f, e_bin, e_eql, e_faddr, e_faddr_ptr, e_iaddr, e_iaddr_sl, e_len, e_len_sl, e_load, e_cell_pp, w_cond, s_n, Nat.reduceLT, Nat.reduceBEq, decide_false, List.length_cons, List.length_nil, e_cell_ptr, e_cl1, gat_3, upd_same, true_and, and_self, if_true, Nat.zero_add, Nat.mul_one, tab_len, Nat.lt_add_one, ns2, ns12, ns13, hr0', hz1, hz2, hz3, hz4, gat_tab, e.rw_at]
  by_cases hw00 : e.w 0 = 0
  · have hw00' : (e.w 0 : Int) = 0 := by omega
    simp -implicitDefEqProofs only [gev_c, e_nil, e_cons, e_kops, e_mov, w_region, w_seq, w_ret, s_n, s_r, c_t, decide_true, hw00']
    exact fin _ _ _ 3 (by simp -implicitDefEqProofs only [st_same]) (by rw [Enc.ce, if_pos hA, if_neg fun hs => hs.2.1 hw00]) (hu _)
  have hw00' : ¬ (e.w 0 : Int) = 0 := by omega
  simp -implicitDefEqProofs only [gev_c, e_nil, e_cons, e_kops, e_mov, w_skip, w_region, w_seq, w_block, w_loop, s_n, c_f, decide_false, hw00']
  refine loop_rule (fun (i : Nat) E H' n' => n' = n + 1 ∧ H' n = some e.cs ∧ (∀ b, b < n → H' b = H b) ∧ E 1 = .ptr n 0 ∧ E 3 = .int .i64 (i : Nat) ∧ i ≤ e.r ∧ ∀ t, t < i → e.w t = e.w 0) (fun i => e.r - i) 0 ⟨rfl, by simp -implicitDefEqProofs only [upd_same], hu _, rfl, rfl, by omega, fun t ht => by omega⟩ ?_
  rintro i E H' n' ⟨rfl, h0, ho, e1, e3, hi, hwi⟩
  simp -implicitDefEqProofs only [gev_t, st_same, st_ne, e_nil, e_cons, e_kops, e_some, e_mov, e_bin, e_lss, e_faddr, e_faddr_ptr, e_len, e_len_sl, e_load, w_region, w_seq, w_cond, s_n, Nat.reduceLT, Nat.reduceBEq, List.length_cons, List.length_nil, e_cell_ptr, e_cl1, gat_3, true_and, Nat.zero_add, Nat.lt_add_one, ns2, ns12, ns13, e1, e3, h0]
  refine c_split (fun hc => ?_) (fun hc => ?_)
  · have hiN : i < e.r := by omega
    have hwr := wrap64 (x := (i : Int) + 1) (by omega)
    by_cases hx : e.w i = e.w 0
    · simp -implicitDefEqProofs only [gev_t, gev_c, st_same, st_ne, e_nil, e_cons, e_kops, e_some, e_mov, e_bin, e_add, e_neq, e_faddr, e_faddr_ptr, e_iaddr, e_iaddr_sl, e_len, e_len_sl, w_skip, w_region, w_seq, w_block, w_cond, w_draw, s_n, b_n, c_f, d_kdr, m_nil, m_cons, m_kmops, m_kpm, m_load, m_cell_pp, Nat.reduceLT, Nat.reduceBEq, decide_true, Bool.not_true, Int.toNat_natCast, List.length_cons, List.length_nil, gat_3, true_and, and_self, if_true, Nat.zero_add, Nat.mul_one, tab_len, m_p_mov, m_p_fieldAddr, m_p_indexAddr, m_p_len, m_cell_ptr, m_cl1, Nat.lt_add_one, ns2, Int.natCast_nonneg, ns12, ns13, e1, e3, h0, hc, hiN, gat_tab, e.rw_at, hz1, hz2, hz3, hz4, hx, hwr]
      refine l_n ⟨i + 1, by omega, rfl, h0, ho, by simp -implicitDefEqProofs only [st_ne, Nat.reduceBEq, e1], by simp -implicitDefEqProofs only [st_same]; rfl, by omega, fun t ht => ?_⟩
      by_cases et : t = i
      · subst et; exact hx
      · exact hwi t (by omega)
    · have hxI : ¬ ((e.w i : Nat) : Int) = (e.w 0 : Nat) := by omega
      simp -implicitDefEqProofs only [gev_t, gev_c, st_same, st_ne, e_nil, e_cons, e_kops, e_some, e_mov, e_bin, e_neq, e_faddr, e_faddr_ptr, e_iaddr, e_iaddr_sl, e_len, e_len_sl, w_skip, w_region, w_seq, w_block, w_ret, w_cond, w_draw, s_n, s_r, b_r, c_t, l_r, d_kdr, m_nil, m_cons, m_kmops, m_kpm, m_load, m_cell_pp, Nat.reduceLT, Nat.reduceBEq, decide_true, decide_false, Bool.not_false, Int.toNat_natCast, List.length_cons, List.length_nil, gat_3, true_and, and_self, if_true, Nat.zero_add, Nat.mul_one, tab_len, m_p_mov, m_p_fieldAddr, m_p_indexAddr, m_p_len, m_cell_ptr, m_cl1, Nat.lt_add_one, ns2, Int.natCast_nonneg, ns12, ns13, e1, e3, h0, hc, hiN, gat_tab, e.rw_at, hz1, hz2, hz3, hz4, hxI]
      exact fin _ _ _ 3 (by simp -implicitDefEqProofs only [st_same]) (by rw [Enc.ce, if_pos hA, if_neg fun hs => hx (hs.2.2.2 i hiN)]) ho
  have hwall : ∀ t, t < e.r → e.w t = e.w 0 := fun t ht => hwi t (by omega)
  clear hi hwi e3
  by_cases hrw : e.r ≤ e.w 0
  case neg =>
    have hrw' : (e.w 0 : Int) < (e.r : Int) := by omega
    simp -implicitDefEqProofs only [gev_t, gev_c, st_same, st_ne, e_nil, e_cons, e_kops, e_some, e_mov, e_bin, e_gtr, e_faddr, e_faddr_ptr, e_iaddr, e_iaddr_sl, e_len, e_len_sl, w_region, w_seq, w_exit, w_ret, w_cond, w_draw, s_n, s_x, s_r, b_x, c_t, l_x, d_kdr, m_nil, m_cons, m_kmops, m_kpm, m_load, m_cell_pp, Nat.reduceLT, Nat.reduceBEq, decide_true, List.length_cons, List.length_nil, gat_3, true_and, and_self, if_true, Nat.zero_add, Nat.mul_one, tab_len, m_p_fieldAddr, m_p_indexAddr, m_p_len, m_cell_ptr, m_cl1, Nat.lt_add_one, ns2, ns12, ns13, e1, h0, gat_tab, e.rw_at, hz1, hz2, hz3, hz4, hrw']
    exact fin _ _ _ 3 (by simp -implicitDefEqProofs only [st_same]) (by rw [Enc.ce, if_pos hA, if_neg fun hs => hrw hs.2.2.1]) ho
  have hrw' : ¬ (e.w 0 : Int) < (e.r : Int) := by omega
  have hS : e.Shp3 := ⟨hr0, hw00, hrw, hwall⟩
  by_cases h64 : e.w 0 ≤ 64
  case neg =>
    have h64' : (64 : Int) < (e.w 0 : Int) := by omega
    simp -implicitDefEqProofs only [gev_t, gev_c, st_same, st_ne, e_nil, e_cons, e_kops, e_some, e_mov, e_bin, e_gtr, e_faddr, e_faddr_ptr, e_iaddr, e_iaddr_sl, e_len, e_len_sl, e_load, e_cell_pp, w_skip, w_region, w_seq, w_exit, w_ret, w_cond, w_draw, s_n, s_x, s_r, b_x, c_t, c_f, l_x, d_kdr, m_nil, m_cons, m_kmops, m_kpm, m_load, m_cell_pp, Nat.reduceLT, Nat.reduceBEq, decide_true, decide_false, List.length_cons, List.length_nil, e_cell_ptr, e_cl1, gat_3, true_and, and_self, if_true, Nat.zero_add, Nat.mul_one, tab_len, m_p_fieldAddr, m_p_indexAddr, m_p_len, m_cell_ptr, m_cl1, Nat.lt_add_one, ns2, ns12, ns13, e1, h0, gat_tab, e.rw_at, hz1, hz2, hz3, hz4, hrw', h64']
    exact fin _ _ _ 4 (by simp -implicitDefEqProofs only [st_same]) (by rw [Enc.ce, if_pos hA, if_pos hS, if_neg h64]) ho
  have h64' : ¬ (64 : Int) < (e.w 0 : Int) := by omega
  simp -implicitDefEqProofs only [gev_t, gev_c, st_same, st_ne, e_nil, e_cons, e_kops, e_some, e_mov, e_bin, e_gtr, e_faddr, e_faddr_ptr, e_iaddr, e_iaddr_sl, e_len, e_len_sl, e_load, e_cell_pp, w_skip, w_region, w_seq, w_block, w_exit, w_cond, w_loop, w_draw, s_n, s_x, b_x, c_f, l_x, d_kdr, m_nil, m_cons, m_kmops, m_kpm, m_load, m_cell_pp, Nat.reduceLT, Nat.reduceBEq, decide_false, List.length_cons, List.length_nil, e_cell_ptr, e_cl1, gat_3, true_and, and_self, if_true, Nat.zero_add, Nat.mul_one, tab_len, m_p_fieldAddr, m_p_indexAddr, m_p_len, m_cell_ptr, m_cl1, Nat.lt_add_one, ns2, ns12, ns13, e1, h0, gat_tab, e.rw_at, hz1, hz2, hz3, hz4, hrw', h64']
  clear hc
  refine loop_rule (fun (i : Nat) E H' n' => n' = n + 1 ∧ H' n = some e.cs ∧ (∀ b, b < n → H' b = H b) ∧ E 1 = .ptr n 0 ∧ E 4 = .int .i64 1 ∧ E 5 = .int .i64 (i : Nat) ∧ i ≤ e.r ∧ ∀ t j, t < i → j < e.w t → ∀ d, d < e.n t j → 0 ≤ e.c t j d ∧ e.c t j d < qo e.p e.m) (fun i => e.r - i) 0 ⟨rfl, h0, ho, by simp -implicitDefEqProofs only [st_ne, Nat.reduceBEq, e1], by simp -implicitDefEqProofs only [st_same, st_ne, Nat.reduceBEq], rfl, by omega, fun t j ht => by omega⟩ ?_
  clear h0 ho e1 E H'
  rintro i E H' n' ⟨rfl, h0, ho, e1, e4, e5, hi, hel⟩
  simp -implicitDefEqProofs only [gev_t, st_same, st_ne, e_nil, e_cons, e_kops, e_some, e_mov, e_bin, e_lss, e_faddr, e_faddr_ptr, e_len, e_len_sl, e_load, w_region, w_seq, w_cond, s_n, Nat.reduceLT, Nat.reduceBEq, List.length_cons, List.length_nil, e_cell_ptr, e_cl1, gat_3, true_and, Nat.zero_add, Nat.lt_add_one, ns2, ns12, ns13, e1, e5, h0]
  refine c_split (fun hc => ?_) (fun hc => ?_)
  · have hiN : i < e.r := by omega
    have hwiN := h.w i hiN
    simp -implicitDefEqProofs only [gev_c, e_nil, e_cons, e_kops, e_mov, w_skip, w_region, w_seq, w_block, w_loop, s_n]
    refine loop_rule (fun (j : Nat) E H' n' => n' = n + 1 ∧ H' n = some e.cs ∧ (∀ b, b < n → H' b = H b) ∧ E 1 = .ptr n 0 ∧ E 4 = .int .i64 1 ∧ E 5 = .int .i64 (i : Nat) ∧ E 6 = .int .i64 (j : Nat) ∧ j ≤ e.w i ∧ ∀ u, u < j → ∀ d, d < e.n i u → 0 ≤ e.c i u d ∧ e.c i u d < qo e.p e.m) (fun j => e.w i - j) 0 ⟨rfl, h0, ho, by simp -implicitDefEqProofs only [st_ne, Nat.reduceBEq, e1], by simp -implicitDefEqProofs only [st_ne, Nat.reduceBEq, e4], by simp -implicitDefEqProofs only [st_ne, Nat.reduceBEq, e5], rfl, by omega, fun u hu => by omega⟩ ?_
    clear h0 ho e1 e4 e5 E H'
    rintro j E H' n' ⟨rfl, h0, ho, e1, e4, e5, e6, hj, helj⟩
    simp -implicitDefEqProofs only [gev_t, st_same, st_ne, e_nil, e_cons, e_kops, e_some, e_mov, e_bin, e_lss, e_faddr, e_faddr_ptr, e_iaddr, e_iaddr_sl, e_len, e_len_sl, e_load, e_cell_pp, w_region, w_seq, w_cond, s_n, Nat.reduceLT, Nat.reduceBEq, Int.toNat_natCast, List.length_cons, List.length_nil, e_cell_ptr, e_cl1, gat_3, true_and, and_self, if_true, Nat.zero_add, Nat.mul_one, tab_len, Nat.lt_add_one, ns2, Int.natCast_nonneg, ns12, ns13, e1, e5, e6, h0, hc, hiN, gat_tab, e.rw_at]
    refine c_split (fun hc' => ?_) (fun hc' => ?_)
    · have hjN : j < e.w i := by omega
      have hnij := h.n i j hiN hjN
      have hwr := wrap64 (x := (j : Int) + 1) (by omega)
      simp -implicitDefEqProofs only [gev_t, st_same, st_ne, e_cons, e_some, e_mov, e_faddr, e_faddr_ptr, e_iaddr, e_iaddr_sl, e_call, w_skip, w_seq, w_block, w_draw, s_n, d_kdr, m_nil, m_cons, m_kmops, m_kpm, m_load, m_cell_pp, Nat.reduceLT, Nat.reduceBEq, Nat.reduceLeDiff, decide_true, Int.toNat_natCast, List.length_cons, List.length_nil, gat_3, true_and, and_self, if_true, List.drop_zero, List.take_zero, List.take_succ_cons, Nat.add_zero, Nat.zero_add, Nat.mul_one, List.map_cons, List.map_nil, tab_len, m_p_mov, m_p_fieldAddr, m_p_indexAddr, m_cell_ptr, m_cl1, m_clm, Nat.lt_add_one, ns2, Int.natCast_nonneg, ns12, ns13, e1, e5, e6, h0, hc, hiN, hc', hjN, gat_tab, e.rw_at, e.pl_at]
      refine call_of (sp_Entries e.p e.m (isl e.l e.mo) rfl (e.n i j) (e.c i j) (by omega)) ?_
      by_cases hx : ∀ d, d < e.n i j → 0 ≤ e.c i j d ∧ e.c i j d < qo e.p e.m
      · rw [if_pos hx]
        simp -implicitDefEqProofs only [gev_t, gev_c, st_same, st_ne, e_nil, e_cons, e_kops, e_some, e_mov, e_bin, e_add, e_neq, w_skip, w_region, w_cond, s_n, b_n, c_f, Nat.reduceLT, Nat.reduceBEq, decide_true, Bool.not_true, e6, hwr]
        refine l_n ⟨j + 1, by omega, rfl, h0, ho, by simp -implicitDefEqProofs only [st_ne, Nat.reduceBEq, e1], by simp -implicitDefEqProofs only [st_ne, Nat.reduceBEq, e4], by simp -implicitDefEqProofs only [st_ne, Nat.reduceBEq, e5], by simp -implicitDefEqProofs only [st_same]; rfl, by omega, fun u hu => ?_⟩
        by_cases et : u = j
        · subst et; exact hx
        · exact helj u (by omega)
      · rw [if_neg hx]
        have h20 : ((2 : Int) = 0) = False := by simp
        simp -implicitDefEqProofs only [gev_t, gev_c, st_same, e_nil, e_cons, e_kops, e_some, e_mov, e_bin, e_neq, w_region, w_seq, w_ret, w_cond, s_n, s_r, b_r, c_t, l_r, Nat.reduceLT, decide_false, Bool.not_false, h20]
        exact fin _ _ _ 2 (by simp -implicitDefEqProofs only [st_same]) (by rw [Enc.ce, if_pos hA, if_pos hS, if_pos h64, if_neg fun hs => hx (hs i j hiN hjN)]) ho
    · have : j = e.w i := by omega
      subst this
      have hwr := wrap64 (x := (i : Int) + 1) (by omega)
      simp -implicitDefEqProofs only [gev_t, gev_c, st_same, st_ne, e_nil, e_cons, e_kops, e_some, e_mov, e_bin, e_add, w_region, w_seq, w_block, w_exit, w_loop, s_n, s_x, b_n, b_x, l_x, Nat.reduceLT, Nat.reduceBEq, Nat.reduceEqDiff, if_true, if_false, e5, hwr]
      refine l_n ⟨i + 1, by omega, rfl, h0, ho, by simp -implicitDefEqProofs only [st_ne, Nat.reduceBEq, e1], by simp -implicitDefEqProofs only [st_ne, Nat.reduceBEq, e4], by simp -implicitDefEqProofs only [st_same]; rfl, by omega, fun t u ht hu => ?_⟩
      by_cases et : t = i
      · subst et; exact helj u hu
      · exact hel t u (by omega) hu
  have hEl : e.El := fun t j ht hj => hel t j (by omega) hj
  simp -implicitDefEqProofs only [gev_c, e_nil, e_cons, e_kops, e_mov, w_region, w_seq, w_block, w_exit, w_loop, s_n, s_x, b_x, l_x, if_true]
  refine loop_rule (fun (i : Nat) E H' n' => n' = n + 1 ∧ H' n = some e.cs ∧ (∀ b, b < n → H' b = H b) ∧ E 1 = .ptr n 0 ∧ E 4 = .int .i64 (qo e.p e.m ^ e.tot i) ∧ E 7 = .int .i64 (i : Nat) ∧ i ≤ e.r ∧ qo e.p e.m ^ e.tot i ≤ 65536) (fun i => e.r - i) 0 ⟨rfl, h0, ho, by simp -implicitDefEqProofs only [st_ne, Nat.reduceBEq, e1], by simp -implicitDefEqProofs only [st_ne, Nat.reduceBEq, e4, Enc.tot, sumn, Int.pow_zero], rfl, by omega, by rw [Enc.tot, sumn, Int.pow_zero]; omega⟩ ?_
  clear h0 ho e1 e4 e5 E H' hi hel hc
  rintro i E H' n' ⟨rfl, h0, ho, e1, e4, e7, hi, hq⟩
  simp -implicitDefEqProofs only [gev_t, st_same, st_ne, e_nil, e_cons, e_kops, e_some, e_mov, e_bin, e_lss, e_faddr, e_faddr_ptr, e_len, e_len_sl, e_load, w_region, w_seq, w_cond, s_n, Nat.reduceLT, Nat.reduceBEq, List.length_cons, List.length_nil, e_cell_ptr, e_cl1, gat_3, true_and, Nat.zero_add, Nat.lt_add_one, ns2, ns12, ns13, e1, e7, h0]
  refine c_split (fun hc => ?_) (fun hc => ?_)
  · have hiN : i < e.r := by omega
    have hdeg := e.deg_le h hiN
    have htot : e.tot (i + 1) = e.tot i + (e.deg i + 1) := rfl
    have hmon := sumn_mono (f := fun i => e.deg i + 1) (i := i + 1) (j := e.r) (by omega)
    have hmon' : e.tot (i + 1) ≤ e.tot e.r := hmon
    simp -implicitDefEqProofs only [gev_c, e_nil, e_cons, e_kops, e_mov, w_skip, w_region, w_seq, w_block, w_loop, s_n]
    refine loop_rule (fun (d : Nat) E H' n' => n' = n + 1 ∧ H' n = some e.cs ∧ (∀ b, b < n → H' b = H b) ∧ E 1 = .ptr n 0 ∧ E 4 = .int .i64 (qo e.p e.m ^ (e.tot i + d)) ∧ E 7 = .int .i64 (i : Nat) ∧ E 8 = .int .i64 (d : Nat) ∧ d ≤ e.deg i + 1 ∧ qo e.p e.m ^ (e.tot i + d) ≤ 65536) (fun d => e.deg i + 1 - d) 0 ⟨rfl, h0, ho, by simp -implicitDefEqProofs only [st_ne, Nat.reduceBEq, e1], by simp -implicitDefEqProofs only [st_ne, Nat.reduceBEq, Nat.add_zero, e4], by simp -implicitDefEqProofs only [st_ne, Nat.reduceBEq, e7], rfl, by omega, hq⟩ ?_
    clear h0 ho e1 e4 e7 E H' hq
    rintro d E H' n' ⟨rfl, h0, ho, e1, e4, e7, e8, hd, hq⟩
    simp -implicitDefEqProofs only [gev_t, st_same, st_ne, e_cons, e_kops, e_mov, e_load, e_call, w_region, w_seq, Nat.reduceLT, Nat.reduceBEq, List.length_cons, List.length_nil, e_cell_ptr, e_clm, true_and, List.drop_zero, List.take_zero, List.take_succ_cons, Nat.zero_add, List.map_cons, List.map_nil, ns2, ns12, ns13, Nat.le_refl, e1, e7, e8, h0]
    refine call_of (sp_ref20_Degree e h i hiN) ?_
    simp -implicitDefEqProofs only [gev_t, st_same, st_ne, e_nil, e_cons, e_kops, e_some, e_bin, e_leq, w_cond, s_n, Nat.reduceLT, Nat.reduceBEq]
    refine c_split (fun hc' => ?_) (fun hc' => ?_)
    · simp -implicitDefEqProofs only [gev_t, st_same, st_ne, e_cons, e_kops, e_some, e_mov, e_faddr, e_faddr_ptr, e_load, e_call, w_skip, w_region, w_seq, w_block, s_n, Nat.reduceLT, Nat.reduceBEq, Nat.reduceLeDiff, List.length_cons, List.length_nil, e_cell_ptr, e_clm, true_and, List.drop_zero, List.take_zero, List.take_succ_cons, Nat.add_zero, Nat.zero_add, List.map_cons, List.map_nil, ns2, ns12, ns13, e1, e4, h0]
      refine call_of (sp_ref04_Order e.p e.m _ rfl) ?_
      have hps : qo e.p e.m ^ (e.tot i + (d + 1)) = qo e.p e.m ^ (e.tot i + d) * qo e.p e.m := Int.pow_succ _ _
      have hp0 : 0 < qo e.p e.m ^ (e.tot i + d) := Int.pow_pos (by omega)
      have hp1 : 0 ≤ qo e.p e.m ^ (e.tot i + d) * qo e.p e.m := Int.mul_nonneg (by omega) (by omega)
      have hp2 : qo e.p e.m ^ (e.tot i + d) * qo e.p e.m ≤ 65536 * 256 := Int.mul_le_mul hq q256 (by omega) (by omega)
      have hwm := wrap64 (x := qo e.p e.m ^ (e.tot i + d) * qo e.p e.m) (by omega)
      have hwr := wrap64 (x := (d : Int) + 1) (by omega)
      by_cases hbig : 65536 < qo e.p e.m ^ (e.tot i + d) * qo e.p e.m
      · simp -implicitDefEqProofs only [gev_t, gev_c, st_same, st_ne, e_nil, e_cons, e_kops, e_some, e_mov, e_bin, e_mul, e_gtr, w_region, w_seq, w_ret, w_cond, s_n, s_r, b_r, c_t, l_r, Nat.reduceLT, Nat.reduceBEq, decide_true, Nat.lt_add_one, hwm, hbig]
        refine fin _ _ _ 8 (by simp -implicitDefEqProofs only [st_same]) ?_ ho
        rw [Enc.ce, if_pos hA, if_pos hS, if_pos h64, if_pos hEl, if_neg]
        intro hle
        have := pow_mono (p := qo e.p e.m) (by omega) (i := e.tot i + (d + 1)) (j := e.tot e.r) (by omega)
        omega
      · simp -implicitDefEqProofs only [gev_t, gev_c, st_same, st_ne, e_nil, e_cons, e_kops, e_some, e_mov, e_bin, e_add, e_mul, e_gtr, w_skip, w_region, w_seq, w_cond, s_n, b_n, c_f, Nat.reduceLT, Nat.reduceBEq, decide_false, Nat.lt_add_one, hwm, hbig, e8, hwr]
        exact l_n ⟨d + 1, by omega, rfl, h0, ho, by simp -implicitDefEqProofs only [st_ne, Nat.reduceBEq, e1], by simp -implicitDefEqProofs only [st_same, st_ne, Nat.reduceBEq, hps], by simp -implicitDefEqProofs only [st_ne, Nat.reduceBEq, e7], by simp -implicitDefEqProofs only [st_same]; rfl, by omega, by omega⟩
    · have : d = e.deg i + 1 := by omega
      subst this
      have hwr := wrap64 (x := (i : Int) + 1) (by omega)
      simp -implicitDefEqProofs only [gev_t, gev_c, st_same, st_ne, e_nil, e_cons, e_kops, e_some, e_mov, e_bin, e_add, w_region, w_seq, w_exit, w_ret, s_n, s_x, b_n, b_x, l_x, Nat.reduceLT, Nat.reduceBEq, Nat.reduceEqDiff, if_true, if_false, e7, hwr]
      exact l_n ⟨i + 1, by omega, rfl, h0, ho, by simp -implicitDefEqProofs only [st_ne, Nat.reduceBEq, e1], by simp -implicitDefEqProofs only [st_ne, Nat.reduceBEq, e4, htot], by simp -implicitDefEqProofs only [st_same]; rfl, by omega, by rw [htot]; exact hq⟩
  · have : i = e.r := by omega
    subst this
    simp -implicitDefEqProofs only [gev_c, e_nil, e_cons, e_kops, e_mov, w_region, w_seq, w_exit, w_ret, s_n, s_x, b_x, l_x, if_true]
    exact fin _ _ _ 0 (by simp -implicitDefEqProofs only [st_same]) (by rw [Enc.ce, if_pos hA, if_pos hS, if_pos h64, if_pos hEl, if_pos hq]) ho
end Go.Proofs.Ytdpibcniodhinaa.Gh
/- Slices that grow. -/
namespace Go.Proofs.Ytdpibcniodhinaa.Gh
open Go Go.RowKit
open Alg (CR Ps Dg Zm Mn El Cg sm pw Irr Prm)
set_option linter.unusedVariables false
set_option linter.unusedSimpArgs false

/-- c is the block of this slice -/
def Own (g : GV) (c : Nat) : Prop := ∃ m, g = .own c 0 m
theorem own_nil {c : Nat} : ¬ Own .nil c := fun ⟨m, h⟩ => by cases h
theorem own_own {b m c : Nat} : Own (.own b 0 m) c ↔ c = b := ⟨fun ⟨m, h⟩ => by injection h with h; exact h.symm, fun h => ⟨m, by rw [h]⟩⟩
/-- a slice of m entries that grows: nil, or a block of its own -/
def Sl (H : Heap) (lo n : Nat) (g : GV) (m : Nat) (f : Nat → GV) : Prop := (m = 0 ∧ g = .nil) ∨ ∃ b, lo ≤ b ∧ b < n ∧ g = .own b 0 m ∧ H b = some (tab m f)
section
variable {H H' : Heap} {lo n n' m bytes : Nat} {g : GV} {f f' : Nat → GV}
theorem Sl.nil : Sl H lo n .nil 0 f := .inl ⟨rfl, rfl⟩
theorem Sl.cell (h : Sl H lo n g m f) : isCell g = true := by
  rcases h with ⟨_, rfl⟩ | ⟨b, _, _, rfl, _⟩ <;> rfl
theorem Sl.gc (h : Sl H lo n g m f) : gcells g = some [g] := by
  rcases h with ⟨_, rfl⟩ | ⟨b, _, _, rfl, _⟩ <;> rfl
theorem Sl.len (h : Sl H lo n g m f) : hlen g = some (.int .i64 (m : Nat)) := by
  rcases h with ⟨rfl, rfl⟩ | ⟨b, _, _, rfl, _⟩ <;> rfl
theorem Sl.lt (h : Sl H lo n g m f) {c : Nat} (hc : Own g c) : lo ≤ c ∧ c < n := by
  rcases h with ⟨_, rfl⟩ | ⟨b, h1, h2, rfl, _⟩
  · exact absurd hc own_nil
  · rw [own_own] at hc; subst hc; exact ⟨h1, h2⟩
theorem Sl.keep (h : Sl H lo n g m f) (hk : ∀ c, Own g c → H' c = H c) (hn : n ≤ n') : Sl H' lo n' g m f := by
  rcases h with h | ⟨b, h1, h2, h3, h4⟩
  · exact .inl h
  · exact .inr ⟨b, h1, by omega, h3, by rw [hk b (h3 ▸ own_own.2 rfl), h4]⟩
theorem Sl.congr (h : Sl H lo n g m f) (hf : ∀ i, i < m → f i = f' i) : Sl H lo n g m f' := by
  rcases h with h | ⟨b, h1, h2, h3, h4⟩
  · exact .inl h
  · exact .inr ⟨b, h1, h2, h3, by rw [h4, tab_congr hf]⟩
theorem Sl.own (h : Sl H lo n g m f) (hm : 0 < m) : ∃ b, lo ≤ b ∧ b < n ∧ g = .own b 0 m ∧ H b = some (tab m f) := by
  rcases h with ⟨h, _⟩ | h
  · omega
  · exact h
/-- one entry more -/
theorem app_one {q : Kn} {x : GV} (hs : Sl H lo n g m f) (hx : x = f m) (hc : isCell x = true) (hb : (m + 1) * bytes ≤ 140737488355328)
    (hK : ∀ H'' : Heap, H'' n = some (tab (m + 1) f) → (∀ c, c ≠ n → ¬ Own g c → H'' c = H c) → q (.own n 0 (m + 1)) H'' (n + 1)) : happ q H n bytes g (some [x]) := by
  rcases hs with ⟨rfl, rfl⟩ | ⟨b, h1, h2, rfl, h4⟩
  · rw [e_app_nil]
    refine ⟨hb, ?_⟩
    refine hK _ ?_ fun c hc _ => upd_ne _ _ hc
    rw [upd_same, hx]; rfl
  · rw [e_app_own, h4, e_appo]
    refine ⟨tab_len, by simp [hc], hb, ?_⟩
    refine hK _ ?_ fun c hc hn => ?_
    · rw [upd_same, hx, tab_succ]
    · rw [upd_ne _ _ hc, upd_ne _ _ fun e => hn (own_own.2 e)]
end
end Go.Proofs.Ytdpibcniodhinaa.Gh
/- The program's machine of an encoder: what it keeps. -/
namespace Go.Proofs.Ytdpibcniodhinaa.Gh
open Go Go.RowKit
open Alg (CR Ps Dg Zm Mn El Cg sm pw Irr Prm)
set_option linter.unusedVariables false
set_option linter.unusedSimpArgs false

def Enc.rowf (e : Enc) (i : Nat) : Nat → GV := fun j => isl (tn (e.c i j) (e.n i j)) (e.c i j)
theorem Enc.rowf_at (e : Enc) (i j : Nat) : e.rowf i j = isl (tn (e.c i j) (e.n i j)) (e.c i j) := rfl
def Enc.ds (e : Enc) : Nat → Nat := sumn e.deg
def Enc.mem (e : Enc) : Nat → Nat
  | 0 => 0
  | i + 1 => max (e.mem i) (e.deg i)
theorem Enc.tot_ds (e : Enc) : ∀ i, e.tot i = i + e.ds i := by
  intro i
  induction i with
  | zero => rfl
  | succ i ih =>
    have h1 : e.tot (i + 1) = e.tot i + (e.deg i + 1) := rfl
    have h2 : e.ds (i + 1) = e.ds i + e.deg i := rfl
    omega
/-- the machine as the program keeps it -/
def Enc.mch (e : Enc) (gf : GV) (q : Nat) : GV := .pp [gf, .sl e.r (tab e.r fun t => .sl (e.w t) (tab (e.w t) (e.rowf t))), .int .i64 (e.r : Nat), .int .i64 (e.w 0 : Nat), isl e.r (fun t => (e.deg t : Nat)), .int .i64 (e.mem e.r : Nat), .int .i64 (q : Nat), .int .i64 (q ^ e.ds e.r : Nat), isl e.r fun t => (q ^ e.ds t : Nat)] 0
abbrev mcs (gf g1 g2 g3 : GV) (r w q mem st : Nat) : List GV := [gf, g1, .int .i64 (r : Nat), .int .i64 (w : Nat), g2, .int .i64 (mem : Nat), .int .i64 (q : Nat), .int .i64 (st : Nat), g3]

def Used (n i : Nat) (g1 g2 : GV) (bs : Nat → Nat) (c : Nat) : Prop := c = n ∨ Own g1 c ∨ Own g2 c ∨ ∃ t, t < i ∧ c = bs t
structure Bo (e : Enc) (n : Nat) (H0 : Heap) (i : Nat) (g1 g2 : GV) (bs : Nat → Nat) (H : Heap) (n' : Nat) : Prop where
  lo : n + 2 ≤ n'
  h0 : H n = some e.cs
  s1 : Sl H (n + 2) n' g1 i fun t => .own (bs t) 0 (e.w t)
  s2 : Sl H (n + 2) n' g2 i (it fun t => (e.deg t : Nat))
  rows : ∀ t, t < i → n + 2 ≤ bs t ∧ bs t < n' ∧ H (bs t) = some (tab (e.w t) (e.rowf t))
  d1 : ∀ t, t < i → ¬ Own g1 (bs t) ∧ ¬ Own g2 (bs t)
  d2 : ∀ c, Own g1 c → ¬ Own g2 c
  old : ∀ b, b < n → H b = H0 b
section
variable {e : Enc} {n : Nat} {H0 : Heap} {i : Nat} {g1 g2 : GV} {bs : Nat → Nat} {H H' : Heap} {n' n'' : Nat}
theorem Bo.lt (B : Bo e n H0 i g1 g2 bs H n') {c : Nat} (h : Used n i g1 g2 bs c) : c < n' ∧ c ≠ n + 1 := by
  have := B.lo
  rcases h with rfl | h | h | ⟨t, ht, rfl⟩
  · omega
  · have := B.s1.lt h; omega
  · have := B.s2.lt h; omega
  · have := B.rows t ht; omega
theorem Bo.keep (B : Bo e n H0 i g1 g2 bs H n') (hn : n' ≤ n'') (hk : ∀ c, c < n ∨ Used n i g1 g2 bs c → H' c = H c) : Bo e n H0 i g1 g2 bs H' n'' where
  lo := by have := B.lo; omega
  h0 := by rw [hk n (.inr (.inl rfl))]; exact B.h0
  s1 := B.s1.keep (fun c hc => hk c (.inr (.inr (.inl hc)))) hn
  s2 := B.s2.keep (fun c hc => hk c (.inr (.inr (.inr (.inl hc))))) hn
  rows t ht := by
    obtain ⟨a, b, c⟩ := B.rows t ht
    exact ⟨a, by omega, by rw [hk _ (.inr (.inr (.inr (.inr ⟨t, ht, rfl⟩))))]; exact c⟩
  d1 := B.d1
  d2 := B.d2
  old b hb := by rw [hk b (.inl hb)]; exact B.old b hb
theorem Bo.step (B : Bo e n H0 i g1 g2 bs H n') {bl a1 a2 : Nat} (l1 : n + 2 ≤ bl) (l2 : bl < n') (l3 : H bl = some (tab (e.w i) (e.rowf i))) (l4 : ¬ Used n i g1 g2 bs bl)
    (k1 : n' ≤ a1) (k2 : n' ≤ a2) (k3 : a1 ≠ a2) (k4 : a1 < n'') (k5 : a2 < n'') (k6 : H' a1 = some (tab (i + 1) fun t => .own (upf bs i bl t) 0 (e.w t))) (k7 : H' a2 = some (tab (i + 1) (it fun t => (e.deg t : Nat))))
    (k8 : ∀ c, c < n' → c ≠ n + 1 → ¬ Own g1 c → ¬ Own g2 c → H' c = H c) : Bo e n H0 (i + 1) (.own a1 0 (i + 1)) (.own a2 0 (i + 1)) (upf bs i bl) H' n'' where
  lo := by have := B.lo; omega
  h0 := by
    have := B.lo
    rw [k8 n (by omega) (by omega) (fun h => by have := B.s1.lt h; omega) (fun h => by have := B.s2.lt h; omega)]; exact B.h0
  s1 := .inr ⟨a1, by have := B.lo; omega, k4, rfl, k6⟩
  s2 := .inr ⟨a2, by have := B.lo; omega, k5, rfl, k7⟩
  rows t ht := by
    by_cases et : t = i
    · subst et
      rw [upf_same]
      refine ⟨l1, by omega, ?_⟩
      rw [k8 bl l2 (by omega) (fun h => l4 (.inr (.inl h))) (fun h => l4 (.inr (.inr (.inl h))))]; exact l3
    · rw [upf_ne _ _ et]
      obtain ⟨a, b, c⟩ := B.rows t (by omega)
      have := B.d1 t (by omega)
      refine ⟨a, by omega, ?_⟩
      rw [k8 _ b (by omega) this.1 this.2]; exact c
  d1 t ht := by
    have hb : upf bs i bl t < n' := by
      by_cases et : t = i
      · subst et; rw [upf_same]; exact l2
      · rw [upf_ne _ _ et]; exact (B.rows t (by omega)).2.1
    exact ⟨fun h => by rw [own_own] at h; omega, fun h => by rw [own_own] at h; omega⟩
  d2 c hc h := by rw [own_own] at hc h; omega
  old b hb := by
    have := B.lo
    rw [k8 b (by omega) (by omega) (fun h => by have := B.s1.lt h; omega) (fun h => by have := B.s2.lt h; omega)]; exact B.old b hb
end

section
variable {k : Nat} {M : Mn k}
theorem sp_Canon' {H : Heap} {n : Nat} (g : El M) (m : Nat) (f : Nat → Int) (hm : m ≤ 1000000) (hq : qn M ≤ 256) (hf : ∀ i, i < m → 0 ≤ f i ∧ f i < (qn M : Nat)) : Spec prog fid_poly_Canon [gfv M g, isl m f] H n (isl (tn f m) f) H n := by
  have hin : ∀ i, i < m → inq (qn M : Nat) (f i) = f i := fun i hi => if_pos (hf i hi)
  have h := sp_Canon (H := H) (n := n) g m f hm hq
  rw [tn_congr hin] at h
  refine h.ends (fun b hb => upd_ne _ _ (by omega)) ?_
  have hl := tn_le f m
  refine .ownf n 0 (tn f m) _ _ (upd_same _ _ _) (Nat.le_refl _) (fun i a b => by omega) (by rw [tab_len]; omega) tab_len fun j hj => ?_
  rw [Nat.zero_add, gat_tab (by omega), gat_tab hj]
  rw [it_at, it_at, hin j (by omega)]
  exact .int _ _
theorem pl_gf (g : El M) : Pl (gfv M g) := .pp _ _ fun j hj => by
  rcases j with _ | _ | _ | _ | _ | _ | j
  · exact .int _ _
  · exact .int _ _
  · exact pl_isl _ _
  · exact .int _ _
  · exact pl_isl _ _
  · exact pl_isl _ _
  · simp at hj; omega
end
end Go.Proofs.Ytdpibcniodhinaa.Gh
/- The program's machine of an encoder: how it is made, and the errors. -/
namespace Go.Proofs.Ytdpibcniodhinaa.Gh
open Go Go.RowKit
open Alg (CR Ps Dg Zm Mn El Cg sm pw Irr Prm)
set_option linter.unusedVariables false
set_option linter.unusedSimpArgs false

abbrev Enc.Des (e : Enc) {k : Nat} (M : Mn k) : Prop := Gh.Des e.p e.m e.l e.mo M
theorem Enc.Des.qo {e : Enc} {k : Nat} {M : Mn k} (d : e.Des M) (h : Fi M) : qo e.p e.m = (qn M : Nat) := by
  rw [d.hp, d.hm, h.fc.qo']
theorem Enc.Des.fok {e : Enc} {k : Nat} {M : Mn k} (d : e.Des M) (h : Fi M) : e.Fok := ⟨k, M, d, h.fc, h.prm, h.irr⟩

theorem sp_conv_build_fail {H : Heap} {n : Nat} (e : Enc) (hf : ¬ e.Fok) : Spec prog fid_conv_build [e.gv] H n (.tup [.nilp, .int .i64 1]) H n := by
  refine spec_ends hmix ok_conv_build rfl fun hF => ?_
  show gw prog B_conv_build _ (tl 212 _) H n
  simp -implicitDefEqProofs only [B_conv_build, gev_t, gev_c, st_same, st_ne, mkE_nil, mkE_cons, e_nil, e_cons, e_kops, e_some, e_mov, e_faddr, e_faddr_ptr, e_load, e_box, e_box_some, e_call, e_gc_agg, w_region, w_seq, s_n, Nat.reduceLT, Nat.reduceBEq, Nat.reduceLeDiff, List.length_cons, List.length_nil, e_cell_ptr, e_clm, upd_same, true_and, List.drop_zero, List.take_zero, List.take_succ_cons, Nat.add_zero, Nat.zero_add, List.map_cons, List.map_nil, ns2, ns12, ns13]
  refine call_of (sp_field_New_fail e.p e.m e.l e.mo hf) ?_
  have h10 : ((1 : Int) = 0) = False := by simp
  simp -implicitDefEqProofs only [gev_t, gev_c, st_same, st_ne, e_nil, e_cons, e_kops, e_some, e_mov, e_bin, e_neq, e_ext, e_ext0, e_ext1, w_region, w_seq, w_ret, w_cond, s_n, s_r, c_t, Nat.reduceLT, Nat.reduceBEq, decide_false, Bool.not_false, h10]
  exact fin_ret2 rfl (by decide) (by decide) .nilp (.int _ _) fun b hb => upd_ne _ _ (by omega)

section
variable {k : Nat} {M : Mn k}
set_option maxHeartbeats 4000000 in
theorem sp_conv_build {H : Heap} {n : Nat} (e : Enc) (hB : e.Bnd) (h : Fi M) (d : e.Des M) : Spec prog fid_conv_build [e.gv] H n (.tup [if e.ce = 0 then e.mch h.gf (qn M) else .nilp, .int .i64 e.ce]) H n := by
  refine spec_ends hmix ok_conv_build rfl fun hF => ?_
  show gw prog B_conv_build _ (tl 212 _) H n
  have hA := d.fok h
  have hqo := d.qo h
  have hq2 := qn_two M
  have hq := h.fc.qn
  have err : ∀ (E : Env) (H' : Heap) (n' : Nat) (v : Int), E 2 = .nilp → E 3 = .int .i64 v → e.ce = v → v ≠ 0 → (∀ b, b < n → H' b = H b) → F_conv_build.ends H n (.tup [if e.ce = 0 then e.mch h.gf (qn M) else .nilp, .int .i64 e.ce]) .ret (tl 212 E) H' n' := by
    intro E H' n' v h2 h3 hv hv0 ho
    refine fin_ret2 rfl (by decide) (by decide) ?_ ?_ ho
    · rw [h2, hv, if_neg hv0]; exact .nilp
    · rw [h3]; exact fz_int hv.symm
  have hu : ∀ x b, b < n → upd H n x b = H b := fun x b hb => upd_ne _ _ (by omega)
  have hu2 : ∀ x y b, b < n → upd (upd H n x) (n + 1) y b = H b := fun x y b hb => by rw [upd_ne _ _ (by omega), upd_ne _ _ (by omega)]
  have hr := hB.r
  have hgc : gcells h.gf = some [h.gf] := rfl
  have hcl : isCell h.gf = true := rfl
  have hnew : ∀ H n, Spec prog fid_field_New [fgv e.p e.m (isl e.l e.mo)] H n (.tup [h.gf, .int .i64 0]) H n := fun H n => by rw [d.fd]; exact sp_field_New h
  simp -implicitDefEqProofs only [B_conv_build, gev_t, gev_c, st_same, st_ne, mkE_nil, mkE_cons, e_nil, e_cons, e_kops, e_some, e_mov, e_faddr, e_faddr_ptr, e_load, e_box, e_box_some, e_call, e_gc_agg, w_region, w_seq, s_n, Nat.reduceLT, Nat.reduceBEq, Nat.reduceLeDiff, List.length_cons, List.length_nil, e_cell_ptr, e_clm, upd_same, true_and, List.drop_zero, List.take_zero, List.take_succ_cons, Nat.add_zero, Nat.zero_add, List.map_cons, List.map_nil, ns2, ns12, ns13]
  refine call_of (hnew _ _) ?_
  simp -implicitDefEqProofs only [gev_t, gev_c, st_same, st_ne, e_nil, e_cons, e_kops, e_some, e_mov, e_bin, e_eql, e_neq, e_faddr, e_faddr_ptr, e_ext, e_ext0, e_ext1, e_len, e_len_sl, w_skip, w_region, w_seq, w_cond, w_draw, s_n, c_f, m_cons, m_kmops, m_guard, m_kpm, m_load, Nat.reduceLT, Nat.reduceBEq, decide_true, Bool.not_true, List.length_cons, List.length_nil, gat_3, upd_same, true_and, Nat.zero_add, m_p_mov, m_p_bin, m_p_fieldAddr, m_p_len, m_cell_ptr, m_cl1, Nat.lt_add_one, ns2, ns12, ns13]
  by_cases hr0 : e.r = 0
  · have hr0' : (e.r : Int) = 0 := by omega
    simp -implicitDefEqProofs only [gev_t, gev_c, st_same, st_ne, e_nil, e_cons, e_kops, e_guard, e_ft, e_some, e_mov, e_pick, e_pick_t, w_region, w_seq, w_ret, w_cond, s_n, s_r, c_t, d_kdr, m_nil, m_cons, m_kmops, m_guard, m_ft, m_kpm, Nat.reduceLT, Nat.reduceBEq, decide_true, m_p_mov, m_p_pick, hr0']
    exact err _ _ _ 3 (by simp -implicitDefEqProofs only [st_same, st_ne, Nat.reduceBEq]) (by simp -implicitDefEqProofs only [st_same]) (by rw [Enc.ce, if_pos hA, if_neg fun hs => hs.1 hr0]) (by decide) (hu _)
  have hr0' : ¬ (e.r : Int) = 0 := by omega
  have hz1 : (0 : Int) < (e.r : Int) := by omega
  have hz2 : 0 < e.r := by omega
  have hz3 : (0 : Int).toNat = 0 := rfl
  have hz4 : (0 : Int) ≤ 0 := Int.le_refl 0
  have hw0 := hB.w 0 hz2
  by_cases hw00 : e.w 0 = 0
  · have hw00' : (e.w 0 : Int) = 0 := by omega
    simp -implicitDefEqProofs only [gev_t, gev_c, st_same, st_ne, e_nil, e_cons, e_kops, e_guard, e_ft, e_some, e_mov, e_pick, e_pick_t, e_pick_f, e_bin, e_eql, e_faddr, e_faddr_ptr, e_iaddr, e_iaddr_sl, e_len, e_len_sl, w_region, w_seq, w_ret, w_cond, s_n, s_r, c_t, d_kdr, m_nil, m_cons, m_kmops, m_guard, m_ff, m_ft, m_kpm, m_load, m_cell_pp, Nat.reduceLT, Nat.reduceBEq, decide_true, decide_false, List.length_cons, List.length_nil, gat_3, upd_same, true_and, and_self, if_true, Nat.zero_add, Nat.mul_one, tab_len, m_p_mov, m_p_pick, m_p_bin, m_p_fieldAddr, m_p_indexAddr, m_p_len, m_cell_ptr, m_cl1, Nat.lt_add_one, ns2, ns12, ns13, hr0', hz1, hz2, hz3, hz4, gat_tab, e.rw_at, hw00']
    exact err _ _ _ 3 (by simp -implicitDefEqProofs only [st_same, st_ne, Nat.reduceBEq]) (by simp -implicitDefEqProofs only [st_same]) (by rw [Enc.ce, if_pos hA, if_neg fun hs => hs.2.1 hw00]) (by decide) (hu _)
  have hw00' : ¬ (e.w 0 : Int) = 0 := by omega
  by_cases hrw : e.r ≤ e.w 0
  case neg =>
    have hrw' : (e.w 0 : Int) < (e.r : Int) := by omega
    simp -implicitDefEqProofs only [gev_t, gev_c, st_same, st_ne, e_nil, e_cons, e_kops, e_guard, e_ff, e_some, e_mov, e_pick, e_pick_f, e_bin, e_eql, e_gtr, e_faddr, e_faddr_ptr, e_iaddr, e_iaddr_sl, e_len, e_len_sl, w_region, w_seq, w_ret, w_cond, s_n, s_r, c_t, d_kdr, m_nil, m_cons, m_kmops, m_guard, m_ff, m_kpm, m_load, m_cell_pp, Nat.reduceLT, Nat.reduceBEq, decide_true, decide_false, List.length_cons, List.length_nil, gat_3, upd_same, true_and, and_self, if_true, Nat.zero_add, Nat.mul_one, tab_len, m_p_mov, m_p_pick, m_p_bin, m_p_fieldAddr, m_p_indexAddr, m_p_len, m_cell_ptr, m_cl1, Nat.lt_add_one, ns2, ns12, ns13, hr0', hz1, hz2, hz3, hz4, gat_tab, e.rw_at, hw00', hrw']
    exact err _ _ _ 3 (by simp -implicitDefEqProofs only [st_same, st_ne, Nat.reduceBEq]) (by simp -implicitDefEqProofs only [st_same]) (by rw [Enc.ce, if_pos hA, if_neg fun hs => hrw hs.2.2.1]) (by decide) (hu _)
  have hrw' : ¬ (e.w 0 : Int) < (e.r : Int) := by omega
  simp -implicitDefEqProofs only [gev_t, gev_c, st_same, st_ne, e_nil, e_cons, e_kops, e_guard, e_ff, e_some, e_mov, e_pick, e_pick_f, e_bin, e_eql, e_gtr, e_faddr, e_faddr_ptr, e_iaddr, e_iaddr_sl, e_len, e_len_sl, w_skip, w_seq, w_cond, w_draw, s_n, c_f, d_kdr, m_nil, m_cons, m_kmops, m_guard, m_ff, m_kpm, m_load, m_cell_pp, m_call, Nat.reduceLT, Nat.reduceBEq, decide_false, List.length_cons, List.length_nil, gat_3, upd_same, true_and, and_self, if_true, Nat.zero_add, Nat.mul_one, List.map_cons, List.map_nil, tab_len, m_p_mov, m_p_pick, m_p_bin, m_p_fieldAddr, m_p_indexAddr, m_p_len, m_cell_ptr, m_cl1, Nat.lt_add_one, ns2, ns12, ns13, hr0', hz1, hz2, hz3, hz4, gat_tab, e.rw_at, hw00', hrw']
  refine mcall_of (.int _ _) (fun H' n' _ _ => sp_GF_Order h.g) ?_
  simp -implicitDefEqProofs only [gev_t, gev_c, st_same, st_ne, e_nil, e_cons, e_kops, e_some, e_mov, e_faddr, e_faddr_ptr, e_len, e_len_sl, e_load, e_box, e_box_some, e_gc_int, e_gc_agg, w_region, w_seq, w_block, w_loop, s_n, d_kdr, m_nil, m_kmops, Nat.reduceLT, Nat.reduceBEq, Nat.reduceAdd, Nat.reduceLeDiff, List.length_cons, List.length_nil, setL_nil, setL_cons, e_cell_ptr, e_cl1, e_fill_nil, e_fill, e_hfl, gat_3, upd_same, upd_n1, true_and, and_self, if_true, List.set_cons_zero, List.set_cons_succ, Nat.zero_add, e_map_some, Nat.lt_add_one, ns2, ns12, ns13, ns14, ns15, e_build, hgc]
  refine loop_rule (fun (i : Nat) E H' n' => n' = n + 2 ∧ H' n = some e.cs ∧ H' (n + 1) = some (mcs h.gf .nil .nil .nil e.r (e.w 0) (qn M) 0 1) ∧ (∀ b, b < n → H' b = H b) ∧ E 1 = .ptr n 0 ∧ E 4 = h.gf ∧ E 6 = .ptr (n + 1) 0 ∧ E 69 = e.gen ∧ E 70 = .int .i64 (e.r : Nat) ∧ E 71 = .int .i64 (i : Nat) ∧ i ≤ e.r ∧ ∀ t, t < i → e.w t = e.w 0) (fun i => e.r - i) 0 ⟨rfl, by simp -implicitDefEqProofs only [upd_same, upd_n1], by simp -implicitDefEqProofs only [upd_same]; rfl, hu2 _ _, rfl, rfl, rfl, rfl, rfl, rfl, by omega, fun t ht => by omega⟩ ?_
  rintro i E H' n' ⟨rfl, h0, h1, ho, e1, e4, e6, e69, e70, e71, hi, hwi⟩
  simp -implicitDefEqProofs only [gev_t, st_same, e_nil, e_cons, e_kops, e_some, e_bin, e_lss, w_region, w_seq, w_cond, s_n, Nat.reduceLT, e70, e71]
  refine c_split (fun hc => ?_) (fun hc => ?_)
  · have hiN : i < e.r := by omega
    have hwr := wrap64 (x := (i : Int) + 1) (by omega)
    by_cases hx : e.w i = e.w 0
    · simp -implicitDefEqProofs only [gev_t, gev_c, st_same, st_ne, e_nil, e_cons, e_kops, e_some, e_mov, e_bin, e_add, e_neq, e_faddr, e_faddr_ptr, e_iaddr, e_iaddr_sl, e_nilc, e_nilc_ptr, e_len, e_len_sl, e_load, e_cell_pp, w_skip, w_region, w_seq, w_block, w_cond, s_n, b_n, c_f, Nat.reduceLT, Nat.reduceBEq, Nat.reduceAdd, decide_true, Bool.not_true, Int.toNat_natCast, List.length_cons, List.length_nil, e_cell_ptr, e_cl1, gat_3, true_and, and_self, if_true, Nat.zero_add, Nat.mul_one, tab_len, ns2, Int.natCast_nonneg, ns12, ns13, ns14, ns15, e6, e69, e71, h1, hc, hiN, gat_tab, e.rw_at, hx, hwr]
      refine l_n ⟨i + 1, by omega, rfl, h0, h1, ho, by simp -implicitDefEqProofs only [st_ne, Nat.reduceBEq, e1], by simp -implicitDefEqProofs only [st_ne, Nat.reduceBEq, e4], by simp -implicitDefEqProofs only [st_ne, Nat.reduceBEq, e6], by simp -implicitDefEqProofs only [st_ne, Nat.reduceBEq, e69], by simp -implicitDefEqProofs only [st_ne, Nat.reduceBEq, e70], by simp -implicitDefEqProofs only [st_same]; rfl, by omega, fun t ht => ?_⟩
      by_cases et : t = i
      · subst et; exact hx
      · exact hwi t (by omega)
    · have hxI : ¬ ((e.w i : Nat) : Int) = (e.w 0 : Nat) := by omega
      simp -implicitDefEqProofs only [gev_t, gev_c, st_same, st_ne, e_nil, e_cons, e_kops, e_some, e_mov, e_bin, e_neq, e_faddr, e_faddr_ptr, e_iaddr, e_iaddr_sl, e_nilc, e_nilc_ptr, e_len, e_len_sl, e_load, e_cell_pp, w_skip, w_region, w_seq, w_block, w_ret, w_cond, s_n, s_r, b_r, c_t, l_r, Nat.reduceLT, Nat.reduceBEq, Nat.reduceAdd, decide_true, decide_false, Bool.not_false, Int.toNat_natCast, List.length_cons, List.length_nil, e_cell_ptr, e_cl1, gat_3, true_and, and_self, if_true, Nat.zero_add, Nat.mul_one, tab_len, ns2, Int.natCast_nonneg, ns12, ns13, ns14, ns15, e6, e69, e71, h1, hc, hiN, gat_tab, e.rw_at, hxI]
      exact err _ _ _ 3 (by simp -implicitDefEqProofs only [st_same, st_ne, Nat.reduceBEq]) (by simp -implicitDefEqProofs only [st_same]) (by rw [Enc.ce, if_pos hA, if_neg fun hs => hx (hs.2.2.2 i hiN)]) (by decide) ho
  have hwall : ∀ t, t < e.r → e.w t = e.w 0 := fun t ht => hwi t (by omega)
  have hS : e.Shp3 := ⟨hr0, hw00, hrw, hwall⟩
  clear hi hwi hc
  by_cases h64 : e.w 0 ≤ 64
  case neg =>
    have h64' : (64 : Int) < (e.w 0 : Int) := by omega
    simp -implicitDefEqProofs only [gev_t, gev_c, st_same, st_ne, e_nil, e_cons, e_kops, e_some, e_mov, e_bin, e_gtr, e_faddr, e_faddr_ptr, e_nilc, e_nilc_ptr, e_load, w_region, w_seq, w_exit, w_ret, w_cond, s_n, s_x, s_r, b_x, c_t, l_x, Nat.reduceLT, Nat.reduceBEq, Nat.reduceAdd, decide_true, List.length_cons, List.length_nil, e_cell_ptr, e_cl1, gat_3, true_and, if_true, Nat.zero_add, ns2, ns12, ns13, ns14, ns15, e6, h1, h64']
    exact err _ _ _ 4 (by simp -implicitDefEqProofs only [st_same, st_ne, Nat.reduceBEq]) (by simp -implicitDefEqProofs only [st_same]) (by rw [Enc.ce, if_pos hA, if_pos hS, if_neg h64]) (by decide) ho
  have h64' : ¬ (64 : Int) < (e.w 0 : Int) := by omega
  simp -implicitDefEqProofs only [gev_t, gev_c, st_same, st_ne, e_nil, e_cons, e_kops, e_some, e_mov, e_bin, e_gtr, e_faddr, e_faddr_ptr, e_nilc, e_nilc_ptr, e_len, e_len_sl, e_load, w_skip, w_region, w_seq, w_block, w_exit, w_cond, w_loop, s_n, s_x, b_x, c_f, l_x, Nat.reduceLT, Nat.reduceBEq, Nat.reduceAdd, decide_false, List.length_cons, List.length_nil, e_cell_ptr, e_cl1, gat_2, gat_3, true_and, if_true, Nat.zero_add, Nat.lt_add_one, ns2, ns12, ns13, ns14, ns15, e1, e6, h0, h1, h64']
  refine loop_rule (fun (i : Nat) E H' n' => ∃ g1 g2 bs, Bo e n H i g1 g2 bs H' n' ∧ H' (n + 1) = some (mcs h.gf g1 g2 .nil e.r (e.w 0) (qn M) (e.mem i) 1) ∧ E 1 = .ptr n 0 ∧ E 4 = h.gf ∧ E 6 = .ptr (n + 1) 0 ∧ E 9 = .int .i64 (e.r + e.ds i : Nat) ∧ E 93 = e.gen ∧ E 94 = .int .i64 (e.r : Nat) ∧ E 95 = .int .i64 (i : Nat) ∧ i ≤ e.r ∧ e.ds i ≤ i * 40 ∧ ∀ t j, t < i → j < e.w t → ∀ d, d < e.n t j → 0 ≤ e.c t j d ∧ e.c t j d < qo e.p e.m) (fun i => e.r - i) 0 ?_ ?_
  · exact ⟨.nil, .nil, fun _ => 0, ⟨Nat.le_refl _, h0, .nil, .nil, fun t ht => by omega, fun t ht => by omega, fun c hc => absurd hc own_nil, ho⟩, h1, by simp -implicitDefEqProofs only [st_ne, Nat.reduceBEq, e1], by simp -implicitDefEqProofs only [st_ne, Nat.reduceBEq, e4], by simp -implicitDefEqProofs only [st_ne, Nat.reduceBEq, e6], by simp -implicitDefEqProofs only [st_same, st_ne, Nat.reduceBEq]; rfl, by simp -implicitDefEqProofs only [st_same, st_ne, Nat.reduceBEq], by simp -implicitDefEqProofs only [st_same, st_ne, Nat.reduceBEq], by simp -implicitDefEqProofs only [st_same]; rfl, by omega, by simp [Enc.ds, sumn], fun t j ht => by omega⟩
  clear h0 h1 ho e1 e4 e6 e69 e70 e71 E H'
  rintro i E H' n' ⟨g1, g2, bs, B, h1, e1, e4, e6, e9, e93, e94, e95, hi, hds, hel⟩
  simp -implicitDefEqProofs only [gev_t, st_same, e_nil, e_cons, e_kops, e_some, e_bin, e_lss, w_region, w_seq, w_cond, s_n, Nat.reduceLT, e94, e95]
  refine c_split (fun hc => ?_) (fun hc => ?_)
  · have hiN : i < e.r := by omega
    have hwiN := hB.w i hiN
    have hwi0 : 0 < e.w i := by rw [hwall i hiN]; omega
    simp -implicitDefEqProofs only [gev_t, gev_c, st_same, st_ne, e_nil, e_cons, e_kops, e_some, e_mov, e_iaddr, e_iaddr_sl, e_len, e_len_sl, e_load, e_cell_pp, w_skip, w_region, w_seq, w_block, w_loop, s_n, Nat.reduceLT, Nat.reduceBEq, decide_true, Int.toNat_natCast, true_and, and_self, if_true, Nat.mul_one, tab_len, Int.natCast_nonneg, e93, e95, hc, hiN, gat_tab, e.rw_at]
    refine loop_rule (fun (j : Nat) E H' n' => ∃ gl, Bo e n H i g1 g2 bs H' n' ∧ H' (n + 1) = some (mcs h.gf g1 g2 .nil e.r (e.w 0) (qn M) (e.mem i) 1) ∧ Sl H' (n + 2) n' gl j (e.rowf i) ∧ (∀ c, Own gl c → ¬ Used n i g1 g2 bs c) ∧ E 1 = .ptr n 0 ∧ E 4 = h.gf ∧ E 6 = .ptr (n + 1) 0 ∧ E 9 = .int .i64 (e.r + e.ds i : Nat) ∧ E 12 = .int .i64 (e.dg i j : Nat) ∧ E 13 = gl ∧ E 93 = e.gen ∧ E 94 = .int .i64 (e.r : Nat) ∧ E 95 = .int .i64 (i : Nat) ∧ E 99 = e.rw i ∧ E 100 = .int .i64 (e.w i : Nat) ∧ E 101 = .int .i64 (j : Nat) ∧ j ≤ e.w i ∧ ∀ u, u < j → ∀ d, d < e.n i u → 0 ≤ e.c i u d ∧ e.c i u d < qo e.p e.m) (fun j => e.w i - j) 0 ?_ ?_
    · exact ⟨.nil, B, h1, .nil, fun c hc => absurd hc own_nil, by simp -implicitDefEqProofs only [st_ne, Nat.reduceBEq, e1], by simp -implicitDefEqProofs only [st_ne, Nat.reduceBEq, e4], by simp -implicitDefEqProofs only [st_ne, Nat.reduceBEq, e6], by simp -implicitDefEqProofs only [st_ne, Nat.reduceBEq, e9], by simp -implicitDefEqProofs only [st_same, st_ne, Nat.reduceBEq]; rfl, by simp -implicitDefEqProofs only [st_same, st_ne, Nat.reduceBEq], by simp -implicitDefEqProofs only [st_ne, Nat.reduceBEq, e93], by simp -implicitDefEqProofs only [st_ne, Nat.reduceBEq, e94], by simp -implicitDefEqProofs only [st_ne, Nat.reduceBEq, e95], by simp -implicitDefEqProofs only [st_same, st_ne, Nat.reduceBEq]; rfl, by simp -implicitDefEqProofs only [st_same, st_ne, Nat.reduceBEq], by simp -implicitDefEqProofs only [st_same]; rfl, by omega, fun u hu => by omega⟩
    clear B h1 e1 e4 e6 e9 e93 e94 e95 E H' n'
    rintro j E H' n' ⟨gl, B, h1, sl, dl, e1, e4, e6, e9, e12, e13, e93, e94, e95, e99, e100, e101, hj, helj⟩
    simp -implicitDefEqProofs only [gev_t, st_same, e_nil, e_cons, e_kops, e_some, e_bin, e_lss, w_region, w_seq, w_cond, s_n, Nat.reduceLT, e100, e101]
    refine c_split (fun hc' => ?_) (fun hc' => ?_)
    · have hjN : j < e.w i := by omega
      have hn := hB.n i j hiN hjN
      simp -implicitDefEqProofs only [gev_t, gev_c, st_same, st_ne, e_nil, e_cons, e_kops, e_some, e_mov, e_iaddr, e_iaddr_sl, e_len, e_len_sl, e_load, e_cell_pp, w_skip, w_region, w_seq, w_block, w_loop, s_n, Nat.reduceLT, Nat.reduceBEq, decide_true, Int.toNat_natCast, true_and, and_self, if_true, Nat.mul_one, tab_len, Int.natCast_nonneg, e99, e101, hc', hjN, gat_tab, e.rw_at, e.pl_at]
      refine loop_rule (fun (t : Nat) E H1 n1 => H1 = H' ∧ n1 = n' ∧ E 1 = .ptr n 0 ∧ E 4 = h.gf ∧ E 6 = .ptr (n + 1) 0 ∧ E 9 = .int .i64 (e.r + e.ds i : Nat) ∧ E 12 = .int .i64 (e.dg i j : Nat) ∧ E 13 = gl ∧ E 15 = isl (e.n i j) (e.c i j) ∧ E 93 = e.gen ∧ E 94 = .int .i64 (e.r : Nat) ∧ E 95 = .int .i64 (i : Nat) ∧ E 99 = e.rw i ∧ E 100 = .int .i64 (e.w i : Nat) ∧ E 101 = .int .i64 (j : Nat) ∧ E 105 = isl (e.n i j) (e.c i j) ∧ E 106 = .int .i64 (e.n i j : Nat) ∧ E 107 = .int .i64 (t : Nat) ∧ t ≤ e.n i j ∧ ∀ u, u < t → 0 ≤ e.c i j u ∧ e.c i j u < qo e.p e.m) (fun t => e.n i j - t) 0 ?_ ?_
      · exact ⟨rfl, rfl, by simp -implicitDefEqProofs only [st_ne, Nat.reduceBEq, e1], by simp -implicitDefEqProofs only [st_ne, Nat.reduceBEq, e4], by simp -implicitDefEqProofs only [st_ne, Nat.reduceBEq, e6], by simp -implicitDefEqProofs only [st_ne, Nat.reduceBEq, e9], by simp -implicitDefEqProofs only [st_ne, Nat.reduceBEq, e12], by simp -implicitDefEqProofs only [st_ne, Nat.reduceBEq, e13], by simp -implicitDefEqProofs only [st_same, st_ne, Nat.reduceBEq], by simp -implicitDefEqProofs only [st_ne, Nat.reduceBEq, e93], by simp -implicitDefEqProofs only [st_ne, Nat.reduceBEq, e94], by simp -implicitDefEqProofs only [st_ne, Nat.reduceBEq, e95], by simp -implicitDefEqProofs only [st_ne, Nat.reduceBEq, e99, e.rw_at], by simp -implicitDefEqProofs only [st_ne, Nat.reduceBEq, e100], by simp -implicitDefEqProofs only [st_ne, Nat.reduceBEq, e101], by simp -implicitDefEqProofs only [st_same, st_ne, Nat.reduceBEq], by simp -implicitDefEqProofs only [st_same, st_ne, Nat.reduceBEq], by simp -implicitDefEqProofs only [st_same]; rfl, by omega, fun u hu => by omega⟩
      clear e1 e4 e6 e9 e12 e13 e93 e94 e95 e99 e100 e101 E
      rintro t E H1 n1 ⟨rfl, rfl, e1, e4, e6, e9, e12, e13, e15, e93, e94, e95, e99, e100, e101, e105, e106, e107, ht, helt⟩
      simp -implicitDefEqProofs only [gev_t, st_same, e_nil, e_cons, e_kops, e_some, e_bin, e_lss, w_region, w_seq, w_cond, s_n, Nat.reduceLT, e106, e107]
      refine c_split (fun hc2 => ?_) (fun hc2 => ?_)
      · have htN : t < e.n i j := by omega
        have hwr := wrap64 (x := (t : Int) + 1) (by omega)
        simp -implicitDefEqProofs only [gev_t, st_same, st_ne, e_nil, e_cons, e_kops, e_some, e_mov, e_iaddr, e_iaddr_sl, e_load, e_cell_pp, e_call, w_skip, w_region, w_seq, w_block, s_n, Nat.reduceLT, Nat.reduceBEq, decide_true, Int.toNat_natCast, true_and, and_self, if_true, Nat.mul_one, List.map_cons, List.map_nil, tab_len, Int.natCast_nonneg, it_at, e4, e105, e107, hc2, htN, gat_tab]
        refine call_of (sp_GF_Is h.g (e.c i j t)) ?_
        by_cases hx : 0 ≤ e.c i j t ∧ e.c i j t < (qn M : Nat)
        · simp -implicitDefEqProofs only [gev_t, gev_c, st_same, st_ne, e_nil, e_cons, e_kops, e_some, e_mov, e_bin, e_un, e_not, e_add, w_skip, w_region, w_cond, s_n, b_n, c_f, Nat.reduceLT, Nat.reduceBEq, decide_true, Bool.not_true, and_self, hx, e107, hwr]
          refine l_n ⟨t + 1, by omega, rfl, rfl, by simp -implicitDefEqProofs only [st_ne, Nat.reduceBEq, e1], by simp -implicitDefEqProofs only [st_ne, Nat.reduceBEq, e4], by simp -implicitDefEqProofs only [st_ne, Nat.reduceBEq, e6], by simp -implicitDefEqProofs only [st_ne, Nat.reduceBEq, e9], by simp -implicitDefEqProofs only [st_ne, Nat.reduceBEq, e12], by simp -implicitDefEqProofs only [st_ne, Nat.reduceBEq, e13], by simp -implicitDefEqProofs only [st_ne, Nat.reduceBEq, e15], by simp -implicitDefEqProofs only [st_ne, Nat.reduceBEq, e93], by simp -implicitDefEqProofs only [st_ne, Nat.reduceBEq, e94], by simp -implicitDefEqProofs only [st_ne, Nat.reduceBEq, e95], by simp -implicitDefEqProofs only [st_ne, Nat.reduceBEq, e99, e.rw_at], by simp -implicitDefEqProofs only [st_ne, Nat.reduceBEq, e100], by simp -implicitDefEqProofs only [st_ne, Nat.reduceBEq, e101], by simp -implicitDefEqProofs only [st_ne, Nat.reduceBEq, e105], by simp -implicitDefEqProofs only [st_ne, Nat.reduceBEq, e106], by simp -implicitDefEqProofs only [st_same]; rfl, by omega, fun u hu => ?_⟩
          by_cases et : u = t
          · subst et; rw [hqo]; exact hx
          · exact helt u (by omega)
        · simp -implicitDefEqProofs only [gev_t, gev_c, st_same, e_nil, e_cons, e_kops, e_some, e_mov, e_un, e_not, w_region, w_seq, w_ret, w_cond, s_n, s_r, b_r, c_t, l_r, Nat.reduceLT, decide_false, Bool.not_false, hx]
          exact err _ _ _ 2 (by simp -implicitDefEqProofs only [st_same, st_ne, Nat.reduceBEq]) (by simp -implicitDefEqProofs only [st_same]) (by rw [Enc.ce, if_pos hA, if_pos hS, if_pos h64, if_neg fun hs => hx (by have := hs i j hiN hjN t htN; rwa [hqo] at this)]) (by decide) B.old
      · have : t = e.n i j := by omega
        subst this
        simp -implicitDefEqProofs only [gev_t, gev_c, st_same, st_ne, e_cons, e_kops, e_mov, e_bin, e_nilc, e_call, w_region, w_seq, w_exit, s_n, s_x, b_x, l_x, Nat.reduceLT, Nat.reduceBEq, Nat.reduceEqDiff, if_true, if_false, List.map_cons, List.map_nil, e4, e15]
        refine call_of (sp_Canon' h.g (e.n i j) (e.c i j) (by omega) hq fun u hu => by have := helt u hu; rwa [hqo] at this) ?_
        have htn := tn_le (e.c i j) (e.n i j)
        have hdg : e.dg i (j + 1) = max (e.dg i j) (hid (e.c i j) (e.n i j)) := rfl
        have hht := hid_tn (e.c i j) (e.n i j)
        have hwt := wrap64 (x := ((tn (e.c i j) (e.n i j) : Nat) : Int) - 1) (by omega)
        have hmx : (max ((e.dg i j : Nat) : Int) (((tn (e.c i j) (e.n i j) : Nat) : Int) - 1)) = ((e.dg i (j + 1) : Nat) : Int) := by rw [hdg]; omega
        have hwj := wrap64 (x := (j : Int) + 1) (by omega)
        have hlo := B.lo
        simp -implicitDefEqProofs only [gev_t, st_same, st_ne, e_nil, e_cons, e_kops, e_mov, e_bslice, e_bs_some, e_append, e_gc_sl, w_region, w_seq, s_n, Nat.reduceLT, Nat.reduceBEq, List.length_cons, List.length_nil, setL_nil, setL_cons, e_gel_own, e_hgel, e_fill_nil, e_fill, e_hfl, upd_same, true_and, and_self, if_true, List.drop_zero, List.take_zero, List.take_succ_cons, List.set_cons_zero, Nat.zero_add, Nat.le_refl, e13]
        have sl' : Sl (upd H1 n1 (some [isl (tn (e.c i j) (e.n i j)) (e.c i j)])) (n + 2) (n1 + 1) gl j (e.rowf i) := sl.keep (fun c hc => upd_ne _ _ (by have := sl.lt hc; omega)) (by omega)
        refine app_one sl' (e.rowf_at i j).symm rfl (by omega) fun H2 k1 k2 => ?_
        have keep : ∀ c, c < n1 → ¬ Own gl c → H2 c = H1 c := fun c hc hg => by rw [k2 c (by omega) hg, upd_ne _ _ (by omega)]
        simp -implicitDefEqProofs only [gev_t, gev_c, st_same, st_ne, e_nil, e_cons, e_kops, e_some, e_mov, e_bin, e_add, e_sub, e_len, e_len_sl, e_mm, e_max, w_region, s_n, b_n, Nat.reduceLT, Nat.reduceBEq, ns2, e12, hwt, hmx, e101, hwj]
        refine l_n ⟨j + 1, by omega, .own (n1 + 1) 0 (j + 1), B.keep (by omega) ?_, ?_, ?_, ?_, by simp -implicitDefEqProofs only [st_ne, Nat.reduceBEq, e1], by simp -implicitDefEqProofs only [st_ne, Nat.reduceBEq, e4], by simp -implicitDefEqProofs only [st_ne, Nat.reduceBEq, e6], by simp -implicitDefEqProofs only [st_ne, Nat.reduceBEq, e9], by simp -implicitDefEqProofs only [st_same, st_ne, Nat.reduceBEq], by simp -implicitDefEqProofs only [st_same, st_ne, Nat.reduceBEq], by simp -implicitDefEqProofs only [st_ne, Nat.reduceBEq, e93], by simp -implicitDefEqProofs only [st_ne, Nat.reduceBEq, e94], by simp -implicitDefEqProofs only [st_ne, Nat.reduceBEq, e95], by simp -implicitDefEqProofs only [st_ne, Nat.reduceBEq, e99, e.rw_at], by simp -implicitDefEqProofs only [st_ne, Nat.reduceBEq, e100], by simp -implicitDefEqProofs only [st_same]; rfl, by omega, fun u hu => ?_⟩
        · rintro c (hc | hc)
          · exact keep c (by omega) fun hg => by have := sl.lt hg; omega
          · exact keep c (B.lt hc).1 fun hg => dl c hg hc
        · rw [keep (n + 1) (by omega) fun hg => by have := sl.lt hg; omega]; exact h1
        · exact .inr ⟨n1 + 1, by omega, by omega, rfl, k1⟩
        · intro c hc hu
          rw [own_own] at hc
          have := (B.lt hu).1
          omega
        · by_cases et : u = j
          · subst et; exact helt
          · exact helj u (by omega)
    · have : j = e.w i := by omega
      subst this
      obtain ⟨bl, l1, l2, rfl, l3⟩ := sl.own hwi0
      have l4 := dl bl (own_own.2 rfl)
      have hlo := B.lo
      have hwi' := wrap64 (x := (i : Int) + 1) (by omega)
      have hdeg := e.deg_le hB hiN
      have hdeg' : e.dg i (e.w i) = e.deg i := rfl
      have hdsS : e.ds (i + 1) = e.ds i + e.deg i := rfl
      have hadd : IntKind.i64.wrap (((e.r + e.ds i : Nat) : Int) + ((e.deg i : Nat) : Int)) = ((e.r + e.ds (i + 1) : Nat) : Int) := (wrap64 (by omega)).trans (by omega)
      have hmm : (max ((e.mem i : Nat) : Int) ((e.deg i : Nat) : Int)) = ((e.mem (i + 1) : Nat) : Int) := by rw [Enc.mem]; omega
      rw [hdeg'] at e12
      have c1 := B.s1.cell
      have c2 := B.s2.cell
      simp -implicitDefEqProofs only [gev_t, gev_c, st_same, st_ne, e_cons, e_kops, e_some, e_mov, e_bin, e_faddr, e_faddr_ptr, e_nilc, e_nilc_ptr, e_load, e_bslice, e_bs_some, e_append, e_call, e_gc_own, w_region, w_seq, w_exit, s_n, s_x, b_x, l_x, Nat.reduceLT, Nat.reduceBEq, Nat.reduceAdd, Nat.reduceEqDiff, List.length_cons, List.length_nil, setL_nil, setL_cons, e_cell_ptr, e_cl1, e_gel_own, e_hgel, e_fill_nil, e_fill, e_hfl, gat_1, gat_6, upd_same, true_and, and_self, if_true, if_false, List.drop_zero, List.take_zero, List.take_succ_cons, List.set_cons_zero, Nat.zero_add, List.map_cons, List.map_nil, ns2, ns12, ns13, ns14, ns15, Nat.le_refl, e6, e13, h1]
      have s1' : Sl (upd H' n' (some [GV.own bl 0 (e.w i)])) (n + 2) (n' + 1) g1 i (fun t => .own (upf bs i bl t) 0 (e.w t)) := (B.s1.keep (fun c hc => upd_ne _ _ (by have := B.s1.lt hc; omega)) (by omega)).congr fun t ht => by rw [upf_ne _ _ (by omega)]
      refine app_one s1' (by rw [upf_same]) rfl (by omega) fun H1 k1 k2 => ?_
      have q1 : ∀ c, c < n' → ¬ Own g1 c → H1 c = H' c := fun c hc hg => by rw [k2 c (by omega) hg, upd_ne _ _ (by omega)]
      have hm1 : H1 (n + 1) = _ := (q1 (n + 1) (by omega) fun hg => by have := B.s1.lt hg; omega).trans h1
      have f1 : (n + 1 = n' + 2) = False := eq_false (by omega)
      have f2 : (n' + 1 + 1 : Nat) = n' + 2 := rfl
      have f3 : (n' + 2 + 1 : Nat) = n' + 3 := rfl
      simp -implicitDefEqProofs only [gev_t, st_same, st_ne, e_nil, e_cons, e_kops, e_kops_none, e_some, e_mov, e_faddr, e_faddr_ptr, e_nilc, e_nilc_ptr, e_load, e_store, e_bslice, e_bs_some, e_append, e_gc_int, e_gc_own, w_region, w_seq, s_n, Nat.reduceLT, Nat.reduceBEq, Nat.reduceAdd, Nat.reduceLeDiff, List.length_cons, List.length_nil, setL_nil, setL_cons, e_cell_ptr, e_cl1, e_store_ptr, e_stp, e_gel_own, e_hgel, e_fill_nil, e_fill, e_hfl, gat_4, upd_same, cell_own, true_and, and_self, if_true, List.all_cons, List.all_nil, Bool.and_self, List.drop_zero, List.take_zero, List.take_succ_cons, List.set_cons_zero, List.set_cons_succ, Nat.zero_add, ns2, ns12, ns13, ns14, ns15, Nat.le_refl, e6, e12, hm1, f2]
      have s2' : Sl (upd (upd H1 (n + 1) (some (mcs h.gf (.own (n' + 1) 0 (i + 1)) g2 .nil e.r (e.w 0) (qn M) (e.mem i) 1))) (n' + 2) (some [GV.int .i64 (e.deg i : Nat)])) (n + 2) (n' + 3) g2 i (it fun t => (e.deg t : Nat)) := B.s2.keep (fun c hc => by
        have := B.s2.lt hc
        rw [upd_ne _ _ (by omega), upd_ne _ _ (by omega)]
        exact q1 c (by omega) fun hg => B.d2 c hg hc) (by omega)
      refine app_one s2' rfl rfl (by omega) fun H2 k3 k4 => ?_
      have q2 : ∀ c, c < n' + 2 → c ≠ n + 1 → ¬ Own g2 c → H2 c = H1 c := fun c hc hc1 hg => by rw [k4 c (by omega) hg, upd_ne _ _ (by omega), upd_ne _ _ hc1]
      have hm2 : H2 (n + 1) = some (mcs h.gf (.own (n' + 1) 0 (i + 1)) g2 .nil e.r (e.w 0) (qn M) (e.mem i) 1) := by
        rw [k4 (n + 1) (by omega) fun hg => by have := B.s2.lt hg; omega, upd_ne _ _ (by omega), upd_same]
      simp -implicitDefEqProofs only [gev_t, gev_c, st_same, st_ne, e_nil, e_cons, e_kops, e_kops_none, e_some, e_mov, e_bin, e_add, e_faddr, e_faddr_ptr, e_nilc, e_nilc_ptr, e_mm, e_max, e_load, e_store, e_gc_int, e_gc_own, w_region, w_seq, s_n, b_n, Nat.reduceLT, Nat.reduceBEq, Nat.reduceAdd, Nat.reduceLeDiff, List.length_cons, List.length_nil, setL_nil, setL_cons, e_cell_ptr, e_cl1, e_store_ptr, e_stp, gat_5, upd_same, cell_int, cell_own, true_and, List.all_cons, List.all_nil, Bool.and_self, List.set_cons_zero, List.set_cons_succ, Nat.zero_add, upd_upd, ns2, ns12, ns13, ns14, ns15, e6, e9, e12, e95, hm2, hmm, hadd, hwi']
      refine l_n ⟨i + 1, by omega, .own (n' + 1) 0 (i + 1), .own (n' + 3) 0 (i + 1), upf bs i bl, ?_, by simp -implicitDefEqProofs only [upd_same], by simp -implicitDefEqProofs only [st_ne, Nat.reduceBEq, e1], by simp -implicitDefEqProofs only [st_ne, Nat.reduceBEq, e4], by simp -implicitDefEqProofs only [st_ne, Nat.reduceBEq, e6], by simp -implicitDefEqProofs only [st_same, st_ne, Nat.reduceBEq], by simp -implicitDefEqProofs only [st_ne, Nat.reduceBEq, e93], by simp -implicitDefEqProofs only [st_ne, Nat.reduceBEq, e94], by simp -implicitDefEqProofs only [st_same]; rfl, by omega, by omega, fun t u ht hu => ?_⟩
      · refine B.step l1 l2 l3 l4 (by omega) (by omega) (by omega) (by omega) (by omega) ?_ ?_ fun c hc1 hc2 hg1 hg2 => ?_
        · rw [upd_ne _ _ (by omega), q2 (n' + 1) (by omega) (by omega) fun hg => by have := B.s2.lt hg; omega]; exact k1
        · rw [upd_ne _ _ (by omega)]; exact k3
        · rw [upd_ne _ _ hc2, q2 c (by omega) hc2 hg2, q1 c hc1 hg1]
      · by_cases et : t = i
        · subst et; exact helj u hu
        · exact hel t u (by omega) hu
  have hi' : i = e.r := by omega
  subst hi'
  have hEl : e.El := hel
  have htot := e.tot_ds e.r
  simp -implicitDefEqProofs only [gev_t, gev_c, st_same, st_ne, e_cons, e_kops, e_some, e_mov, e_faddr, e_faddr_ptr, e_nilc, e_nilc_ptr, e_load, e_call, w_region, w_seq, w_exit, s_n, s_x, b_x, l_x, Nat.reduceLT, Nat.reduceBEq, Nat.reduceAdd, List.length_cons, List.length_nil, e_cell_ptr, e_cl1, gat_6, true_and, if_true, Nat.zero_add, List.map_cons, List.map_nil, ns2, ns12, ns13, ns14, ns15, e6, e9, h1]
  rw [← htot]
  have hh1 : (2 : Int) ≤ ((qn M : Nat) : Int) := by omega
  have hh2 : ((qn M : Nat) : Int) ≤ 256 := by omega
  refine call_of (sp_Exp ((qn M : Nat) : Int) 65536 (e.tot e.r) hh1 hh2 (by omega) (by decide) (by decide)) ?_
  by_cases hx : ((qn M : Nat) : Int) ^ e.tot e.r ≤ 65536
  case neg =>
    have h80 : ((8 : Int) = 0) = False := by simp
    simp -implicitDefEqProofs only [gev_t, gev_c, st_same, st_ne, e_nil, e_cons, e_kops, e_some, e_mov, e_bin, e_neq, e_ext, e_ext0, e_ext1, w_region, w_seq, w_ret, w_cond, s_n, s_r, c_t, Nat.reduceLT, Nat.reduceBEq, decide_false, Bool.not_false, if_false, hx, h80]
    exact err _ _ _ 8 (by simp -implicitDefEqProofs only [st_same, st_ne, Nat.reduceBEq]) (by simp -implicitDefEqProofs only [st_same]) (by rw [Enc.ce, if_pos hA, if_pos hS, if_pos h64, if_pos hEl, hqo, if_neg hx]) (by decide) B.old
  have hce : e.ce = 0 := by rw [Enc.ce, if_pos hA, if_pos hS, if_pos h64, if_pos hEl, hqo, if_pos hx]
  obtain ⟨bd, b1, b2, rfl, b3⟩ := B.s2.own hz2
  have hxN : qn M ^ e.tot e.r ≤ 65536 := by
    have := hx
    rw [← Int.natCast_pow] at this
    omega
  have hpw : ∀ x, x ≤ e.ds e.r → qn M ^ x ≤ 65536 := fun x hx => Nat.le_trans (Nat.pow_le_pow_right (by omega) (by omega)) hxN
  have h1' : H' (n + 1) = some (mcs h.gf g1 (.own bd 0 e.r) .nil e.r (e.w 0) (qn M) (e.mem e.r) (qn M ^ e.ds 0)) := h1
  simp -implicitDefEqProofs only [gev_t, gev_c, st_same, st_ne, e_nil, e_cons, e_kops, e_some, e_mov, e_bin, e_neq, e_faddr, e_faddr_ptr, e_nilc, e_nilc_ptr, e_ext, e_ext0, e_ext1, e_len, e_len_own, e_load, w_skip, w_region, w_seq, w_block, w_cond, w_loop, s_n, c_f, Nat.reduceLT, Nat.reduceBEq, Nat.reduceAdd, decide_true, Bool.not_true, List.length_cons, List.length_nil, e_cell_ptr, e_cl1, gat_4, true_and, if_true, Nat.zero_add, ns2, ns12, ns13, ns14, ns15, hx, e6, h1]
  refine loop_rule (fun (i : Nat) E H1 n1 => ∃ g3, Bo e n H e.r g1 (.own bd 0 e.r) bs H1 n1 ∧ H1 (n + 1) = some (mcs h.gf g1 (.own bd 0 e.r) g3 e.r (e.w 0) (qn M) (e.mem e.r) (qn M ^ e.ds i)) ∧ Sl H1 (n + 2) n1 g3 i (it fun t => (qn M ^ e.ds t : Nat)) ∧ (∀ c, Own g3 c → ¬ Used n e.r g1 (.own bd 0 e.r) bs c) ∧ E 6 = .ptr (n + 1) 0 ∧ E 176 = .own bd 0 e.r ∧ E 177 = .int .i64 (e.r : Nat) ∧ E 178 = .int .i64 (i : Nat) ∧ i ≤ e.r) (fun i => e.r - i) 0 ?_ ?_
  · exact ⟨.nil, B, h1', .nil, fun c hc => absurd hc own_nil, by simp -implicitDefEqProofs only [st_ne, Nat.reduceBEq, e6], by simp -implicitDefEqProofs only [st_same, st_ne, Nat.reduceBEq], by simp -implicitDefEqProofs only [st_same, st_ne, Nat.reduceBEq], by simp -implicitDefEqProofs only [st_same]; rfl, by omega⟩
  clear B h1 h1' b1 b2 b3 e1 e4 e6 e9 e93 e94 e95 E H' n' hc hds hi
  rintro i E H1 n1 ⟨g3, B, h1, s3, d3, e6, e176, e177, e178, hi⟩
  obtain ⟨bd', b1, b2, b4, b3⟩ := B.s2.own hz2
  have hlo := B.lo
  injection b4 with b4
  subst b4
  simp -implicitDefEqProofs only [gev_t, st_same, e_nil, e_cons, e_kops, e_some, e_bin, e_lss, w_region, w_seq, w_cond, s_n, Nat.reduceLT, e177, e178]
  refine c_split (fun hc => ?_) (fun hc => ?_)
  · have hiN : i < e.r := by omega
    have hdeg := e.deg_le hB hiN
    have hdsS : e.ds (i + 1) = e.ds i + e.deg i := rfl
    have hdsle : e.ds (i + 1) ≤ e.ds e.r := sumn_mono (by omega)
    have f0 : n + 1 < n1 := by omega
    have hU : ∀ c, Used n e.r g1 (.own bd 0 e.r) bs c → c < n1 := fun c hc => (B.lt hc).1
    have hwi' := wrap64 (x := (i : Int) + 1) (by omega)
    have c3 := s3.cell
    simp -implicitDefEqProofs only [gev_t, st_same, st_ne, e_nil, e_cons, e_kops, e_some, e_mov, e_faddr, e_faddr_ptr, e_iaddr, e_iaddr_own, e_nilc, e_nilc_ptr, e_load, e_blit, e_bl_some, e_append, e_gc_int, w_skip, w_region, w_seq, w_block, w_draw, s_n, d_kdr, m_nil, m_cons, m_kmops, m_kpm, m_load, Nat.reduceLT, Nat.reduceBEq, Nat.reduceAdd, decide_true, Int.toNat_natCast, List.length_cons, List.length_nil, setL_nil, setL_cons, e_cell_ptr, e_cl1, e_gel_lit, e_fill_nil, e_fill, e_hfl, gat_7, gat_8, true_and, and_self, if_true, List.set_cons_zero, Nat.zero_add, Nat.mul_one, tab_len, m_p_mov, m_p_fieldAddr, m_p_nilCheck, m_p_blit, m_cell_ptr, m_cl1, Nat.lt_add_one, ns2, Int.natCast_nonneg, it_at, ns12, ns13, ns14, ns15, Nat.le_refl, e6, e176, e178, b3, h1, hc, hiN, gat_tab, f0]
    refine app_one s3 rfl rfl (by omega) fun H2 k1 k2 => ?_
    have q1 : ∀ c, c < n1 → ¬ Own g3 c → H2 c = H1 c := fun c hc hg => k2 c (by omega) hg
    have hm1 : H2 (n + 1) = _ := (q1 (n + 1) (by omega) fun hg => by have := s3.lt hg; omega).trans h1
    simp -implicitDefEqProofs only [gev_t, gev_c, st_same, st_ne, e_nil, e_cons, e_kops, e_kops_none, e_some, e_mov, e_faddr, e_faddr_ptr, e_nilc, e_nilc_ptr, e_store, e_gc_own, w_region, w_seq, w_block, w_loop, s_n, Nat.reduceLT, Nat.reduceBEq, Nat.reduceAdd, List.length_cons, List.length_nil, setL_nil, setL_cons, e_store_ptr, e_stp, cell_own, true_and, List.all_cons, List.all_nil, Bool.and_self, List.set_cons_zero, List.set_cons_succ, Nat.zero_add, ns2, ns12, ns13, ns14, ns15, Nat.le_refl, hm1]
    refine loop_rule (fun (u : Nat) E H3 n3 => n3 = n1 + 1 ∧ Bo e n H e.r g1 (.own bd 0 e.r) bs H3 n3 ∧ H3 (n + 1) = some (mcs h.gf g1 (.own bd 0 e.r) (.own n1 0 (i + 1)) e.r (e.w 0) (qn M) (e.mem e.r) (qn M ^ (e.ds i + u))) ∧ H3 n1 = some (tab (i + 1) (it fun t => (qn M ^ e.ds t : Nat))) ∧ E 6 = .ptr (n + 1) 0 ∧ E 176 = .own bd 0 e.r ∧ E 177 = .int .i64 (e.r : Nat) ∧ E 178 = .int .i64 (i : Nat) ∧ E 195 = .int .i64 (e.deg i : Nat) ∧ E 196 = .int .i64 (u : Nat) ∧ u ≤ e.deg i) (fun u => e.deg i - u) 0 ?_ ?_
    · refine ⟨rfl, B.keep (by omega) ?_, by simp -implicitDefEqProofs only [upd_same, Nat.add_zero], ?_, by simp -implicitDefEqProofs only [st_ne, Nat.reduceBEq, e6], by simp -implicitDefEqProofs only [st_ne, Nat.reduceBEq, e176], by simp -implicitDefEqProofs only [st_ne, Nat.reduceBEq, e177], by simp -implicitDefEqProofs only [st_ne, Nat.reduceBEq, e178], by simp -implicitDefEqProofs only [st_same, st_ne, Nat.reduceBEq], by simp -implicitDefEqProofs only [st_same]; rfl, by omega⟩
      · rintro c (hc | hc)
        · rw [upd_ne _ _ (by omega)]; exact q1 c (by omega) fun hg => by have := s3.lt hg; omega
        · have := B.lt hc
          rw [upd_ne _ _ this.2]; exact q1 c this.1 fun hg => d3 c hg hc
      · rw [upd_ne _ _ (by omega)]; exact k1
    clear B h1 s3 e6 e176 e177 e178 hm1 k1 k2 q1 H2 b1 b2 b3 E
    rintro u E H3 n3 ⟨rfl, B, h1, h2, e6, e176, e177, e178, e195, e196, hu⟩
    simp -implicitDefEqProofs only [gev_t, st_same, e_nil, e_cons, e_kops, e_some, e_bin, e_lss, w_region, w_seq, w_cond, s_n, Nat.reduceLT, e195, e196]
    refine c_split (fun hc' => ?_) (fun hc' => ?_)
    · have f1 : n + 1 < n1 + 1 := by omega
      have hps : qn M ^ (e.ds i + (u + 1)) = qn M ^ (e.ds i + u) * qn M := Nat.pow_succ ..
      have hle := hpw (e.ds i + (u + 1)) (by omega)
      have hmul : ((qn M ^ (e.ds i + u) : Nat) : Int) * ((qn M : Nat) : Int) = ((qn M ^ (e.ds i + (u + 1)) : Nat) : Int) := by rw [hps]; push_cast; rfl
      have hwm := wrap64 (x := ((qn M ^ (e.ds i + (u + 1)) : Nat) : Int)) (by omega)
      have hwu := wrap64 (x := (u : Int) + 1) (by omega)
      simp -implicitDefEqProofs only [gev_t, gev_c, st_same, st_ne, e_nil, e_cons, e_kops, e_kops_none, e_some, e_mov, e_bin, e_add, e_mul, e_faddr, e_faddr_ptr, e_nilc, e_nilc_ptr, e_store, e_gc_int, w_skip, w_region, w_seq, w_block, w_draw, s_n, b_n, d_kdr, m_nil, m_cons, m_kmops, m_kpm, m_load, Nat.reduceLT, Nat.reduceBEq, Nat.reduceAdd, Nat.reduceLeDiff, List.length_cons, List.length_nil, setL_nil, setL_cons, e_store_ptr, e_stp, gat_6, gat_7, cell_int, true_and, List.all_cons, List.all_nil, Bool.and_self, List.set_cons_zero, List.set_cons_succ, Nat.zero_add, m_p_mov, m_p_fieldAddr, m_p_nilCheck, m_cell_ptr, m_cl1, ns2, ns12, ns13, ns14, ns15, e6, e196, h1, f1, hmul, hwm, hwu]
      refine l_n ⟨u + 1, by omega, rfl, B.keep (Nat.le_refl _) ?_, by simp -implicitDefEqProofs only [upd_same], ?_, by simp -implicitDefEqProofs only [st_ne, Nat.reduceBEq, e6], by simp -implicitDefEqProofs only [st_ne, Nat.reduceBEq, e176], by simp -implicitDefEqProofs only [st_ne, Nat.reduceBEq, e177], by simp -implicitDefEqProofs only [st_ne, Nat.reduceBEq, e178], by simp -implicitDefEqProofs only [st_ne, Nat.reduceBEq, e195], by simp -implicitDefEqProofs only [st_same]; rfl, by omega⟩
      · rintro c (hc | hc)
        · exact upd_ne _ _ (by omega)
        · exact upd_ne _ _ (B.lt hc).2
      · rw [upd_ne _ _ (by omega)]; exact h2
    · have hu' : u = e.deg i := by omega
      subst hu'
      simp -implicitDefEqProofs only [gev_t, gev_c, st_same, st_ne, e_nil, e_cons, e_kops, e_some, e_mov, e_bin, e_add, w_region, w_seq, w_exit, w_ret, s_n, s_x, b_n, b_x, l_x, Nat.reduceLT, Nat.reduceBEq, Nat.reduceEqDiff, if_true, if_false, Nat.lt_add_one, e178, hwi']
      refine l_n ⟨i + 1, by omega, .own n1 0 (i + 1), B, by rw [hdsS]; exact h1, .inr ⟨n1, by omega, by omega, rfl, h2⟩, ?_, by simp -implicitDefEqProofs only [st_ne, Nat.reduceBEq, e6], by simp -implicitDefEqProofs only [st_ne, Nat.reduceBEq, e176], by simp -implicitDefEqProofs only [st_ne, Nat.reduceBEq, e177], by simp -implicitDefEqProofs only [st_same]; rfl, by omega⟩
      intro c hc hu
      rw [own_own] at hc
      have := hU c hu
      omega
  · have hi' : i = e.r := by omega
    subst hi'
    simp -implicitDefEqProofs only [gev_t, gev_c, st_same, st_ne, e_nil, e_cons, e_kops, e_mov, w_region, w_seq, w_exit, w_ret, s_n, s_x, b_x, l_x, Nat.reduceLT, Nat.reduceBEq, if_true, Nat.lt_add_one, e6]
    refine fin_ret2 rfl (by decide) (by decide) ?_ (by rw [hce]; exact .int _ _) B.old
    rw [if_pos hce]
    obtain ⟨bg, g1a, g1b, rfl, g1c⟩ := B.s1.own hz2
    obtain ⟨bf, g3a, g3b, rfl, g3c⟩ := s3.own hz2
    simp -implicitDefEqProofs only [st_same, st_ne, Nat.reduceBEq]
    refine .ptrf (n + 1) 0 _ _ h1 (by omega) (fun i a c => by omega) (by simp) rfl fun j hj => ?_
    rcases j with _ | _ | _ | _ | _ | _ | _ | _ | _ | j
    · exact (pl_gf h.g).tr
    · refine .ownf bg 0 e.r _ _ g1c (by omega) (fun i a c => by omega) (by rw [tab_len]; omega) tab_len fun t ht => ?_
      rw [Nat.zero_add, gat_tab ht, gat_tab ht]
      obtain ⟨r1, r2, r3⟩ := B.rows t ht
      refine .ownf (bs t) 0 (e.w t) _ _ r3 (by omega) (fun i a c => by omega) (by rw [tab_len]; omega) tab_len fun u hu => ?_
      rw [Nat.zero_add, gat_tab hu, e.rowf_at]
      exact (pl_isl _ _).tr
    · exact .int _ _
    · exact .int _ _
    · exact fz_own_isl b3 (by omega)
    · exact .int _ _
    · exact .int _ _
    · exact .int _ _
    · exact fz_own_isl g3c (by omega)
    · simp at hj; omega
end
end Go.Proofs.Ytdpibcniodhinaa.Gh
/- The statement ConvChecks, over ghost values. -/
namespace Go.Proofs.Ytdpibcniodhinaa.Gh
open Go Go.RowKit
open Alg (CR Ps Dg Zm Mn El Cg sm pw Irr Prm)
set_option linter.unusedVariables false
set_option linter.unusedSimpArgs false

theorem Enc.cases (e : Enc) : (∃ (k : Nat) (M : Mn k) (_ : Fi M), e.Des M) ∨ ¬ e.Fok := fok_cases e.p e.m e.l e.mo
theorem Enc.ce_fail {e : Enc} (h : ¬ e.Fok) : e.ce = 1 := by rw [Enc.ce, if_neg h]
theorem Enc.ok {e : Enc} (h : e.ce = 0) : e.Fok ∧ e.Shp3 ∧ e.w 0 ≤ 64 ∧ e.El ∧ qo e.p e.m ^ e.tot e.r ≤ 65536 := by
  unfold Enc.ce at h
  by_cases h1 : e.Fok
  · rw [if_pos h1] at h
    by_cases h2 : e.Shp3
    · rw [if_pos h2] at h
      by_cases h3 : e.w 0 ≤ 64
      · rw [if_pos h3] at h
        by_cases h4 : e.El
        · rw [if_pos h4] at h
          by_cases h5 : qo e.p e.m ^ e.tot e.r ≤ 65536
          · exact ⟨h1, h2, h3, h4, h5⟩
          · rw [if_neg h5] at h; omega
        · rw [if_neg h4] at h; omega
      · rw [if_neg h3] at h; omega
    · rw [if_neg h2] at h; omega
  · rw [if_neg h1] at h; omega
theorem sp_conv_Check {H : Heap} {n : Nat} (e : Enc) (hB : e.Bnd) : Spec prog fid_conv_Check [e.gv] H n (.int .i64 e.ce) H n := by
  refine spec_ends hmix ok_conv_Check rfl fun hF => ?_
  show gw prog B_conv_Check _ (tl 11 _) H n
  have hu : ∀ x b, b < n → upd H n x b = H b := fun x b hb => upd_ne _ _ (by omega)
  simp -implicitDefEqProofs only [B_conv_Check, gev_t, gev_c, st_same, st_ne, mkE_nil, mkE_cons, e_nil, e_cons, e_kops, e_mov, e_load, e_box, e_box_some, e_call, e_gc_agg, w_region, w_seq, s_n, Nat.reduceLT, Nat.reduceBEq, List.length_cons, List.length_nil, e_cell_ptr, e_clm, upd_same, true_and, List.drop_zero, List.take_zero, List.take_succ_cons, Nat.zero_add, List.map_cons, List.map_nil, ns2, ns12, ns13, Nat.le_refl]
  rcases e.cases with ⟨k, M, h, d⟩ | hf
  · refine call_of (sp_conv_build e hB h d) ?_
    simp -implicitDefEqProofs only [gev_t, st_same, st_ne, e_nil, e_cons, e_kops, e_some, e_mov, e_ext, e_ext0, e_ext1, w_region, w_seq, w_ret, s_n, Nat.reduceLT, Nat.reduceBEq, Nat.lt_add_one]
    exact fin_ret rfl (by decide) (fz_int rfl) (hu _)
  · refine call_of (sp_conv_build_fail e hf) ?_
    simp -implicitDefEqProofs only [gev_t, st_same, st_ne, e_nil, e_cons, e_kops, e_some, e_mov, e_ext, e_ext0, e_ext1, w_region, w_seq, w_ret, s_n, Nat.reduceLT, Nat.reduceBEq, Nat.lt_add_one]
    exact fin_ret rfl (by decide) (fz_int (Enc.ce_fail hf).symm) (hu _)
theorem sp_conv_Degrees {H : Heap} {n : Nat} (e : Enc) (hB : e.Bnd) : Spec prog fid_conv_Degrees [e.gv] H n (.tup [if e.ce = 0 then isl e.r (fun t => (e.deg t : Nat)) else .nil, .int .i64 e.ce]) H n := by
  refine spec_ends hmix ok_conv_Degrees rfl fun hF => ?_
  show gw prog B_conv_Degrees _ (tl 18 _) H n
  have hu : ∀ x b, b < n → upd H n x b = H b := fun x b hb => upd_ne _ _ (by omega)
  simp -implicitDefEqProofs only [B_conv_Degrees, gev_t, gev_c, st_same, st_ne, mkE_nil, mkE_cons, e_nil, e_cons, e_kops, e_mov, e_load, e_box, e_box_some, e_call, e_gc_agg, w_region, w_seq, s_n, Nat.reduceLT, Nat.reduceBEq, List.length_cons, List.length_nil, e_cell_ptr, e_clm, upd_same, true_and, List.drop_zero, List.take_zero, List.take_succ_cons, Nat.zero_add, List.map_cons, List.map_nil, ns2, ns12, ns13, Nat.le_refl]
  rcases e.cases with ⟨k, M, h, d⟩ | hf
  · refine call_of (sp_conv_build e hB h d) ?_
    by_cases hc : e.ce = 0
    · rw [if_pos hc, if_pos hc, hc]
      simp -implicitDefEqProofs only [gev_t, gev_c, st_same, st_ne, e_nil, e_cons, e_kops, e_some, e_mov, e_bin, e_neq, e_faddr, e_faddr_pp, e_nilc, e_nilc_pp, e_ext, e_ext0, e_ext1, e_load, e_cell_pp, w_skip, w_region, w_seq, w_ret, w_cond, s_n, c_f, Nat.reduceLT, Nat.reduceBEq, Nat.reduceAdd, decide_true, Bool.not_true, List.length_cons, List.length_nil, gat_4, true_and, Nat.zero_add, Nat.lt_add_one, ns2, ns12, ns13, ns14, ns15, Enc.mch]
      exact fin_ret2 rfl (by decide) (by decide) (pl_isl _ _).tr (.int _ _) (hu _)
    · rw [if_neg hc, if_neg hc]
      simp -implicitDefEqProofs only [gev_t, gev_c, st_same, st_ne, e_nil, e_cons, e_kops, e_some, e_mov, e_bin, e_neq, e_ext, e_ext0, e_ext1, w_region, w_seq, w_ret, w_cond, s_n, s_r, c_t, Nat.reduceLT, Nat.reduceBEq, decide_false, Bool.not_false, hc]
      exact fin_ret2 rfl (by decide) (by decide) .nil (.int _ _) (hu _)
  · refine call_of (sp_conv_build_fail e hf) ?_
    have h10 : ((1 : Int) = 0) = False := by simp
    rw [Enc.ce_fail hf]
    simp -implicitDefEqProofs only [gev_t, gev_c, st_same, st_ne, e_nil, e_cons, e_kops, e_some, e_mov, e_bin, e_neq, e_ext, e_ext0, e_ext1, w_region, w_seq, w_ret, w_cond, s_n, s_r, c_t, Nat.reduceLT, Nat.reduceBEq, decide_false, Bool.not_false, if_false, h10]
    exact fin_ret2 rfl (by decide) (by decide) .nil (.int _ _) (hu _)

theorem sp_ConvChecks {H : Heap} {n : Nat} (e : Enc) : Spec prog fid_law20_ConvChecks [e.gv] H n (.bool true) H n := by
  refine spec_ends hmix ok_law20_ConvChecks rfl fun hF => ?_
  show gw prog B_law20_ConvChecks _ (tl 45 _) H n
  have hu : ∀ x b, b < n → upd H n x b = H b := fun x b hb => upd_ne _ _ (by omega)
  simp -implicitDefEqProofs only [B_law20_ConvChecks, gev_t, gev_c, st_same, st_ne, mkE_nil, mkE_cons, e_nil, e_cons, e_kops, e_mov, e_load, e_box, e_box_some, e_call, e_gc_agg, w_region, w_seq, s_n, Nat.reduceLT, Nat.reduceBEq, List.length_cons, List.length_nil, e_cell_ptr, e_clm, upd_same, true_and, List.drop_zero, List.take_zero, List.take_succ_cons, Nat.zero_add, List.map_cons, List.map_nil, ns2, ns12, ns13, Nat.le_refl]
  refine call_of (sp_few e) ?_
  by_cases hb : e.Bnd ∧ e.gs e.r ≤ 3000
  case neg =>
    simp -implicitDefEqProofs only [gev_t, gev_c, st_same, e_nil, e_cons, e_kops, e_some, e_mov, e_un, e_not, w_region, w_seq, w_ret, w_cond, s_n, s_r, c_t, Nat.reduceLT, decide_false, Bool.not_false, hb]
    exact fin_ret rfl (by decide) (fz_bool rfl) (hu _)
  have hB := hb.1
  have hb' : decide (e.Bnd ∧ e.gs e.r ≤ 3000) = true := decide_eq_true hb
  rw [hb']
  simp -implicitDefEqProofs only [gev_t, st_same, st_ne, e_nil, e_cons, e_kops, e_some, e_un, e_not, e_load, e_call, w_skip, w_region, w_seq, w_cond, s_n, c_f, Nat.reduceLT, Nat.reduceBEq, Bool.not_true, List.length_cons, List.length_nil, e_cell_ptr, e_clm, upd_same, true_and, List.drop_zero, List.take_zero, List.take_succ_cons, Nat.zero_add, List.map_cons, List.map_nil, ns2, ns12, ns13, Nat.le_refl]
  refine call_of (sp_conv_Degrees e hB) ?_
  simp -implicitDefEqProofs only [gev_t, st_same, st_ne, e_nil, e_cons, e_kops, e_some, e_mov, e_ext, e_ext0, e_ext1, e_load, e_call, w_region, w_seq, s_n, Nat.reduceLT, Nat.reduceBEq, List.length_cons, List.length_nil, e_cell_ptr, e_clm, upd_same, true_and, List.drop_zero, List.take_zero, List.take_succ_cons, Nat.zero_add, List.map_cons, List.map_nil, ns2, ns12, ns13, Nat.le_refl]
  refine call_of (sp_ref20_Check e hB) ?_
  by_cases hc : e.ce = 0
  · have hok := Enc.ok hc
    have hr0 : 0 < e.r := by have := hok.2.1.1; omega
    have hr := hB.r
    rw [if_pos hc, hc]
    simp -implicitDefEqProofs only [gev_t, gev_c, st_same, st_ne, e_nil, e_cons, e_kops, e_some, e_mov, e_bin, e_neq, e_load, e_call, w_skip, w_region, w_seq, w_cond, s_n, c_f, Nat.reduceLT, Nat.reduceBEq, decide_true, Bool.not_true, List.length_cons, List.length_nil, e_cell_ptr, e_clm, upd_same, true_and, List.drop_zero, List.take_zero, List.take_succ_cons, Nat.zero_add, List.map_cons, List.map_nil, ns2, ns12, ns13, Nat.le_refl]
    refine call_of (sp_conv_Check e hB) ?_
    rw [hc]
    simp -implicitDefEqProofs only [gev_t, gev_c, st_same, st_ne, e_cons, e_kops, e_guard, e_tt, e_some, e_mov, e_pick, e_pick_t, e_bin, e_eql, e_load, e_call, Nat.reduceLT, Nat.reduceBEq, decide_true, List.length_cons, List.length_nil, e_cell_ptr, e_clm, upd_same, true_and, List.drop_zero, List.take_zero, List.take_succ_cons, Nat.zero_add, List.map_cons, List.map_nil, ns2, ns12, ns13, Nat.le_refl]
    refine call_of ((sp_ref20_Degrees e hB hr0).frozen tab_len (pl_tab fun i _ => .int _ _)) ?_
    simp -implicitDefEqProofs only [gev_t, st_same, st_ne, e_kops, e_guard, e_tt, e_call, Nat.reduceLT, Nat.reduceBEq, List.map_cons, List.map_nil]
    refine call_of (sp_SameInts e.r e.r _ _ (by omega)) ?_
    have hT : decide (e.r = e.r ∧ ∀ i, i < e.r → ((e.deg i : Nat) : Int) = ((e.deg i : Nat) : Int)) = true := decide_eq_true ⟨rfl, fun _ _ => rfl⟩
    rw [hT]
    simp -implicitDefEqProofs only [gev_t, gev_c, st_same, st_ne, e_nil, e_cons, e_kops, e_some, e_mov, e_pick, e_pick_t, w_ret, s_n, Nat.reduceLT, Nat.reduceBEq, Nat.lt_add_one]
    exact fin_ret rfl (by decide) (fz_bool rfl) (hu _)
  · rw [if_neg hc]
    simp -implicitDefEqProofs only [gev_t, gev_c, st_same, st_ne, e_nil, e_cons, e_kops, e_some, e_mov, e_bin, e_neq, e_load, e_call, w_region, w_seq, w_cond, s_n, c_t, Nat.reduceLT, Nat.reduceBEq, decide_false, Bool.not_false, List.length_cons, List.length_nil, e_cell_ptr, e_clm, upd_same, true_and, List.drop_zero, List.take_zero, List.take_succ_cons, Nat.zero_add, List.map_cons, List.map_nil, ns2, ns12, ns13, Nat.le_refl, hc]
    refine call_of (sp_conv_Check e hB) ?_
    simp -implicitDefEqProofs only [gev_t, gev_c, st_same, st_ne, e_nil, e_cons, e_kops, e_guard, e_tt, e_some, e_mov, e_pick, e_pick_t, e_bin, e_eql, e_len, e_len_nil, w_ret, s_n, s_r, Nat.reduceLT, Nat.reduceBEq, decide_true]
    exact fin_ret rfl (by decide) (fz_bool rfl) (hu _)
end Go.Proofs.Ytdpibcniodhinaa.Gh
