/- The field's order, primes and digits: what the program and the reference compute. -/
import Derived.Test.YtdpibcniodhinaaXBd
namespace Go.Proofs.Ytdpibcniodhinaa.Gh
open Go Go.RowKit
set_option linter.unusedVariables false
set_option linter.unusedSimpArgs false

/-- the order of a description, or 0 -/
def qo (p m : Int) : Int := if 2 ≤ p ∧ p ≤ 256 ∧ 1 ≤ m ∧ m ≤ 8 ∧ p ^ m.toNat ≤ 256 then p ^ m.toNat else 0
theorem pow_mono {p : Int} (hp : 1 ≤ p) : ∀ {i j : Nat}, i ≤ j → p ^ i ≤ p ^ j := by
  intro i j h
  induction j with
  | zero => have : i = 0 := by omega
            subst this; exact Int.le_refl _
  | succ j ih =>
    by_cases e : i = j + 1
    · subst e; exact Int.le_refl _
    · have h1 := ih (by omega)
      have h2 : 0 ≤ p ^ j := Int.pow_nonneg (by omega)
      rw [Int.pow_succ]
      have : p ^ j * 1 ≤ p ^ j * p := Int.mul_le_mul_of_nonneg_left hp h2
      omega

theorem sp_field_order {H : Heap} {n : Nat} (p m : Int) : Spec prog fid_field_order [.int .i64 p, .int .i64 m] H n (.int .i64 (qo p m)) H n := by
  refine spec_ends hmix ok_field_order rfl fun hF => ?_
  show gw prog B_field_order _ (tl 30 _) H n
  have bad : ∀ E : Env, E 4 = .int .i64 0 → ¬ (2 ≤ p ∧ p ≤ 256 ∧ 1 ≤ m ∧ m ≤ 8 ∧ p ^ m.toNat ≤ 256) → F_field_order.ends H n (.int .i64 (qo p m)) .ret (tl 30 E) H n := by
    intro E h4 h
    refine fin_ret rfl (by decide) ?_ fun _ _ => rfl
    rw [h4]; exact fz_int (if_neg h).symm
  by_cases h1 : p < 2
  · simp -implicitDefEqProofs only [B_field_order, gev_t, gev_c, st_same, st_ne, mkE_nil, mkE_cons, e_nil, e_cons, e_kops, e_guard, e_ft, e_some, e_mov, e_pick, e_pick_t, e_bin, e_lss, w_region, w_seq, w_ret, w_cond, s_n, s_r, c_t, Nat.reduceLT, Nat.reduceBEq, decide_true, Nat.zero_add, ns2, h1]
    exact bad _ rfl (by omega)
  by_cases h2 : 256 < p
  · simp -implicitDefEqProofs only [B_field_order, gev_t, gev_c, st_same, st_ne, mkE_nil, mkE_cons, e_nil, e_cons, e_kops, e_guard, e_ff, e_ft, e_some, e_mov, e_pick, e_pick_t, e_pick_f, e_bin, e_lss, e_gtr, w_region, w_seq, w_ret, w_cond, s_n, s_r, c_t, Nat.reduceLT, Nat.reduceBEq, decide_true, decide_false, Nat.zero_add, ns2, h1, h2]
    exact bad _ rfl (by omega)
  by_cases h3 : m < 1
  · simp -implicitDefEqProofs only [B_field_order, gev_t, gev_c, st_same, st_ne, mkE_nil, mkE_cons, e_nil, e_cons, e_kops, e_guard, e_ff, e_ft, e_some, e_mov, e_pick, e_pick_t, e_pick_f, e_bin, e_lss, e_gtr, w_region, w_seq, w_ret, w_cond, s_n, s_r, c_t, Nat.reduceLT, Nat.reduceBEq, decide_true, decide_false, Nat.zero_add, ns2, h1, h2, h3]
    exact bad _ rfl (by omega)
  by_cases h4 : 8 < m
  · simp -implicitDefEqProofs only [B_field_order, gev_t, gev_c, st_same, st_ne, mkE_nil, mkE_cons, e_nil, e_cons, e_kops, e_guard, e_ff, e_some, e_mov, e_pick, e_pick_f, e_bin, e_lss, e_gtr, w_region, w_seq, w_ret, w_cond, s_n, s_r, c_t, Nat.reduceLT, Nat.reduceBEq, decide_true, decide_false, Nat.zero_add, ns2, h1, h2, h3, h4]
    exact bad _ rfl (by omega)
  simp -implicitDefEqProofs only [B_field_order, gev_t, gev_c, st_same, st_ne, mkE_nil, mkE_cons, e_nil, e_cons, e_kops, e_guard, e_ff, e_some, e_mov, e_pick, e_pick_f, e_bin, e_lss, e_gtr, w_skip, w_region, w_seq, w_block, w_cond, w_loop, s_n, c_f, Nat.reduceLT, Nat.reduceBEq, decide_false, Nat.zero_add, ns2, h1, h2, h3, h4]
  refine loop_rule (fun i E H' n' => H' = H ∧ n' = n ∧ E 0 = .int .i64 p ∧ E 20 = .int .i64 m ∧ E 21 = .int .i64 (i : Nat) ∧ E 5 = .int .i64 (p ^ i) ∧ (i : Int) ≤ m ∧ p ^ i ≤ 256) (fun i => 8 - i) 0 ⟨rfl, rfl, rfl, rfl, rfl, by simp -implicitDefEqProofs only [st_same, st_ne, Nat.reduceBEq, Int.pow_zero], by omega, by rw [Int.pow_zero]; omega⟩ ?_
  rintro i E H' n' ⟨rfl, rfl, e0, e20, e21, e5, hi, hq⟩
  have hpos : 0 ≤ p ^ i := Int.pow_nonneg (by omega)
  simp -implicitDefEqProofs only [gev_t, st_same, e_nil, e_cons, e_kops, e_some, e_bin, e_lss, w_region, w_seq, w_cond, s_n, Nat.reduceLT, e20, e21]
  refine c_split (fun h => ?_) (fun h => ?_)
  · simp -implicitDefEqProofs only [gev_t, gev_c, st_same, st_ne, e_nil, e_cons, e_kops, e_some, e_mov, e_bin, e_mul, e_gtr, w_skip, w_region, w_seq, w_block, w_cond, s_n, Nat.reduceLT, Nat.reduceBEq, e0, e5]
    have hb : p ^ i * p ≤ 256 * 256 := Int.mul_le_mul hq (by omega) (by omega) (by omega)
    have hb0 : 0 ≤ p ^ i * p := Int.mul_nonneg hpos (by omega)
    have hps : p ^ (i + 1) = p ^ i * p := Int.pow_succ p i
    rw [wrap64 (by omega), ← hps]
    refine c_split (fun h' => ?_) (fun h' => ?_)
    · simp -implicitDefEqProofs only [gev_c, e_nil, e_cons, e_kops, e_mov, w_region, w_seq, w_ret, s_n, s_r, b_r, l_r]
      refine bad _ rfl fun hh => ?_
      have := pow_mono (p := p) (by omega) (i := i + 1) (j := m.toNat) (by omega)
      omega
    · simp -implicitDefEqProofs only [gev_t, gev_c, st_same, st_ne, e_nil, e_cons, e_kops, e_some, e_mov, e_bin, e_add, w_skip, w_region, s_n, b_n, Nat.reduceLT, Nat.reduceBEq, e21]
      rw [wrap64 (by omega)]
      exact l_n ⟨i + 1, by omega, rfl, rfl, by simp -implicitDefEqProofs only [st_ne, Nat.reduceBEq, e0], by simp -implicitDefEqProofs only [st_ne, Nat.reduceBEq, e20], by simp -implicitDefEqProofs only [st_same]; norm_cast, by simp -implicitDefEqProofs only [st_same, st_ne, Nat.reduceBEq], by omega, by omega⟩
  · simp -implicitDefEqProofs only [gev_t, st_same, st_ne, e_nil, e_cons, e_kops, e_mov, w_region, w_seq, w_exit, w_ret, s_n, s_x, b_x, l_x, Nat.reduceLT, Nat.reduceBEq, if_true, Nat.lt_add_one, e5]
    refine fin_ret rfl (by decide) ?_ fun _ _ => rfl
    simp -implicitDefEqProofs only [st_same]
    have : m.toNat = i := by omega
    exact fz_int (by rw [qo, this, if_pos (by omega)])
theorem sp_ref04_Order {H : Heap} {n : Nat} (p m : Int) (g : GV) (hg : isCell g = true) : Spec prog fid_ref04_Order [.agg [.int .i64 p, .int .i64 m, g]] H n (.int .i64 (qo p m)) H n := by
  refine spec_ends hmix ok_ref04_Order rfl fun hF => ?_
  show gw prog B_ref04_Order _ (tl 34 _) H n
  have bad : ∀ (E : Env) (H1 : Heap) (n1 : Nat), E 2 = .int .i64 0 → ¬ (2 ≤ p ∧ p ≤ 256 ∧ 1 ≤ m ∧ m ≤ 8 ∧ p ^ m.toNat ≤ 256) → (∀ b, b < n → H1 b = H b) → F_ref04_Order.ends H n (.int .i64 (qo p m)) .ret (tl 34 E) H1 n1 := by
    intro E H1 n1 h4 h ho
    refine fin_ret rfl (by decide) ?_ ho
    rw [h4]; exact fz_int (if_neg h).symm
  have ho : ∀ c b, b < n → upd H n c b = H b := fun c b hb => upd_ne _ _ (by omega)
  by_cases h1 : p < 2
  · simp -implicitDefEqProofs only [B_ref04_Order, gev_t, gev_c, st_same, st_ne, mkE_nil, mkE_cons, e_nil, e_cons, e_kops, e_guard, e_ft, e_some, e_mov, e_pick, e_pick_t, e_bin, e_lss, e_faddr, e_faddr_ptr, e_load, e_box, e_box_some, e_gc_agg, w_region, w_seq, w_ret, w_cond, s_n, s_r, c_t, Nat.reduceLT, Nat.reduceBEq, decide_true, List.length_cons, List.length_nil, e_cell_ptr, e_cl1, gat_0, upd_same, true_and, Nat.add_zero, Nat.zero_add, ns2, ns12, h1]
    exact bad _ _ _ rfl (by omega) (ho _)
  by_cases h3 : m < 1
  · simp -implicitDefEqProofs only [B_ref04_Order, gev_t, gev_c, st_same, st_ne, mkE_nil, mkE_cons, e_nil, e_cons, e_kops, e_guard, e_ff, e_ft, e_some, e_mov, e_pick, e_pick_t, e_pick_f, e_bin, e_lss, e_faddr, e_faddr_ptr, e_load, e_box, e_box_some, e_gc_agg, w_region, w_seq, w_ret, w_cond, s_n, s_r, c_t, Nat.reduceLT, Nat.reduceBEq, decide_true, decide_false, List.length_cons, List.length_nil, e_cell_ptr, e_cl1, gat_0, gat_1, upd_same, true_and, Nat.add_zero, Nat.zero_add, ns2, ns12, h1, h3]
    exact bad _ _ _ rfl (by omega) (ho _)
  by_cases h4 : 8 < m
  · simp -implicitDefEqProofs only [B_ref04_Order, gev_t, gev_c, st_same, st_ne, mkE_nil, mkE_cons, e_nil, e_cons, e_kops, e_guard, e_ff, e_some, e_mov, e_pick, e_pick_f, e_bin, e_lss, e_gtr, e_faddr, e_faddr_ptr, e_load, e_box, e_box_some, e_gc_agg, w_region, w_seq, w_ret, w_cond, s_n, s_r, c_t, Nat.reduceLT, Nat.reduceBEq, decide_true, decide_false, List.length_cons, List.length_nil, e_cell_ptr, e_cl1, gat_0, gat_1, upd_same, true_and, Nat.add_zero, Nat.zero_add, ns2, ns12, h1, h3, h4]
    exact bad _ _ _ rfl (by omega) (ho _)
  simp -implicitDefEqProofs only [B_ref04_Order, gev_t, gev_c, st_same, st_ne, mkE_nil, mkE_cons, e_nil, e_cons, e_kops, e_guard, e_ff, e_some, e_mov, e_pick, e_pick_f, e_bin, e_lss, e_gtr, e_faddr, e_faddr_ptr, e_load, e_box, e_box_some, e_gc_agg, w_skip, w_region, w_seq, w_block, w_cond, w_loop, s_n, c_f, Nat.reduceLT, Nat.reduceBEq, decide_false, List.length_cons, List.length_nil, e_cell_ptr, e_cl1, gat_0, gat_1, upd_same, true_and, Nat.add_zero, Nat.zero_add, ns2, ns12, h1, h3, h4]
  refine loop_rule (fun i E H' n' => H' = upd H n (some [.int .i64 p, .int .i64 m, g]) ∧ n' = n + 1 ∧ E 1 = .ptr n 0 ∧ E 4 = .int .i64 (i : Nat) ∧ E 3 = .int .i64 (p ^ i) ∧ (i : Int) ≤ m ∧ p ^ i ≤ 256) (fun i => 8 - i) 0 ⟨rfl, rfl, rfl, rfl, by simp -implicitDefEqProofs only [st_same, st_ne, Nat.reduceBEq, Int.pow_zero], by omega, by rw [Int.pow_zero]; omega⟩ ?_
  rintro i E H' n' ⟨rfl, rfl, e1, e4, e3, hi, hq⟩
  have hpos : 0 < p ^ i := Int.pow_pos (by omega)
  simp -implicitDefEqProofs only [gev_t, st_same, st_ne, e_nil, e_cons, e_kops, e_some, e_mov, e_bin, e_lss, e_faddr, e_faddr_ptr, e_load, w_region, w_seq, w_cond, s_n, Nat.reduceLT, Nat.reduceBEq, List.length_cons, List.length_nil, e_cell_ptr, e_cl1, gat_1, upd_same, true_and, Nat.zero_add, ns2, ns12, e1, e4]
  refine c_split (fun h => ?_) (fun h => ?_)
  · simp -implicitDefEqProofs only [gev_t, gev_c, st_same, st_ne, e_cons, e_kops, e_some, e_mov, e_bin, e_quo, e_faddr, e_faddr_ptr, e_load, w_skip, w_region, w_seq, w_block, s_n, Nat.reduceLT, Nat.reduceBEq, List.length_cons, List.length_nil, e_cell_ptr, e_cl1, gat_0, upd_same, true_and, Nat.add_zero, Nat.zero_add, ns2, ns12, e1, e3]
    rw [if_neg (by omega)]
    have hd : Int.tdiv 256 p = 256 / p := Int.tdiv_eq_ediv_of_nonneg (by omega)
    have hd0 : 0 ≤ 256 / p := Int.ediv_nonneg (by omega) (by omega)
    have hd1 : 256 / p ≤ 256 := Int.ediv_le_self _ (by omega)
    have hps : p ^ (i + 1) = p ^ i * p := Int.pow_succ p i
    simp -implicitDefEqProofs only [gev_t, st_same, st_ne, e_nil, e_cons, e_kops, e_some, e_bin, e_gtr, w_cond, s_n, Nat.reduceLT, Nat.reduceBEq, hd]
    rw [wrap64 (by omega)]
    have key : 256 / p < p ^ i ↔ 256 < p ^ (i + 1) := by rw [Int.ediv_lt_iff_lt_mul (by omega), hps]
    refine c_split (fun h' => ?_) (fun h' => ?_)
    · simp -implicitDefEqProofs only [gev_c, e_nil, e_cons, e_kops, e_mov, w_region, w_seq, w_ret, s_n, s_r, b_r, l_r]
      refine bad _ _ _ rfl (fun hh => ?_) (ho _)
      have := pow_mono (p := p) (by omega) (i := i + 1) (j := m.toNat) (by omega)
      have := key.1 h'
      omega
    · have h'' : ¬ 256 < p ^ (i + 1) := fun hh => h' (key.2 hh)
      have hnn : 0 ≤ p ^ (i + 1) := Int.pow_nonneg (by omega)
      simp -implicitDefEqProofs only [gev_t, gev_c, st_same, st_ne, e_nil, e_cons, e_kops, e_some, e_mov, e_bin, e_add, e_mul, e_faddr, e_faddr_ptr, e_load, w_skip, w_region, s_n, b_n, Nat.reduceLT, Nat.reduceBEq, List.length_cons, List.length_nil, e_cell_ptr, e_cl1, gat_0, upd_same, true_and, Nat.add_zero, Nat.zero_add, ns2, ns12, e1, e4, e3]
      rw [wrap64 (by omega), ← hps, wrap64 (by omega)]
      exact l_n ⟨i + 1, by omega, rfl, rfl, by simp -implicitDefEqProofs only [st_ne, Nat.reduceBEq, e1], by simp -implicitDefEqProofs only [st_same]; norm_cast, by simp -implicitDefEqProofs only [st_same, st_ne, Nat.reduceBEq], by omega, by omega⟩
  · simp -implicitDefEqProofs only [gev_t, st_same, st_ne, e_nil, e_cons, e_kops, e_mov, w_region, w_seq, w_exit, w_ret, s_n, s_x, b_x, l_x, Nat.reduceLT, Nat.reduceBEq, if_true, Nat.lt_add_one, e3]
    refine fin_ret rfl (by decide) ?_ (ho _)
    simp -implicitDefEqProofs only [st_same]
    have : m.toNat = i := by omega
    have h1i := pow_mono (p := p) (by omega) (i := 1) (j := i) (by omega)
    rw [Int.pow_succ, Int.pow_zero, Int.one_mul] at h1i
    exact fz_int (by rw [qo, this, if_pos (by omega)])
end Go.Proofs.Ytdpibcniodhinaa.Gh
/- Primes, digits and values: what the program and the reference compute. -/
namespace Go.Proofs.Ytdpibcniodhinaa.Gh
open Go Go.RowKit
set_option linter.unusedVariables false
set_option linter.unusedSimpArgs false

def isPr (p : Int) : Prop := 2 ≤ p ∧ ∀ d : Int, 2 ≤ d → d < p → p % d ≠ 0
noncomputable instance (p : Int) : Decidable (isPr p) := Classical.propDecidable _

theorem tmod_nn {a b : Int} (h : 0 ≤ a) : a.tmod b = a % b := Int.tmod_eq_emod_of_nonneg h
theorem tdiv_nn {a b : Int} (h : 0 ≤ a) : a.tdiv b = a / b := Int.tdiv_eq_ediv_of_nonneg h

theorem sp_ref04_prime {H : Heap} {n : Nat} (p : Int) (hp : 2 ≤ p) (hp2 : p ≤ 1000000) : Spec prog fid_ref04_prime [.int .i64 p] H n (.bool (decide (isPr p))) H n := by
  refine spec_ends hmix ok_ref04_prime rfl fun hF => ?_
  show gw prog B_ref04_prime _ (tl 13 _) H n
  simp -implicitDefEqProofs only [B_ref04_prime, gev_c, mkE_nil, mkE_cons, e_nil, e_cons, e_kops, e_mov, w_region, w_seq, w_block, w_loop, s_n, Nat.zero_add]
  refine loop_rule (fun (d : Nat) E H' n' => H' = H ∧ n' = n ∧ E 0 = .int .i64 p ∧ E 3 = .int .i64 d ∧ 2 ≤ (d : Int) ∧ (d : Int) ≤ p ∧ ∀ c : Int, 2 ≤ c → c < d → p % c ≠ 0) (fun d => p.toNat - d) 2 ⟨rfl, rfl, rfl, rfl, by omega, by omega, fun c h1 h2 => by omega⟩ ?_
  rintro d E H' n' ⟨rfl, rfl, h0, h3, h4, h5, h6⟩
  simp -implicitDefEqProofs only [gev_t, st_same, st_ne, e_nil, e_cons, e_kops, e_some, e_mov, e_bin, e_lss, w_region, w_seq, w_cond, s_n, Nat.reduceLT, Nat.reduceBEq, h0, h3]
  refine c_split (fun h => ?_) (fun h => ?_)
  · simp -implicitDefEqProofs only [gev_t, st_same, st_ne, e_cons, e_kops, e_mov, e_bin, e_rem, w_skip, w_region, w_seq, w_block, s_n, Nat.reduceLT, Nat.reduceBEq, h0, h3]
    rw [if_neg (by omega), tmod_nn (by omega)]
    simp -implicitDefEqProofs only [gev_t, gev_c, st_same, e_nil, e_cons, e_kops, e_some, e_bin, e_eql, w_cond, s_n, Nat.reduceLT, Nat.lt_add_one]
    refine c_split (fun h => ?_) (fun h => ?_)
    · simp -implicitDefEqProofs only [gev_c, e_nil, e_cons, e_kops, e_mov, w_region, w_seq, w_ret, s_n, s_r, b_r, l_r]
      refine fin_ret rfl (by decide) (fz_bool ?_) fun _ _ => rfl
      exact (decide_eq_false fun hh => hh.2 d (by omega) (by omega) h).symm
    · simp -implicitDefEqProofs only [gev_t, gev_c, st_same, st_ne, e_nil, e_cons, e_kops, e_some, e_mov, e_bin, e_add, w_skip, w_region, s_n, b_n, Nat.reduceLT, Nat.reduceBEq, h3]
      rw [wrap64 (by omega)]
      refine l_n ⟨d + 1, by omega, rfl, rfl, by simp -implicitDefEqProofs only [st_ne, Nat.reduceBEq, h0], by simp -implicitDefEqProofs only [st_same]; norm_cast, by omega, by omega, fun c c1 c2 => ?_⟩
      by_cases e : c = d
      · subst e; exact h
      · exact h6 c c1 (by omega)
  · simp -implicitDefEqProofs only [gev_c, e_nil, e_cons, e_kops, e_mov, w_region, w_seq, w_exit, w_ret, s_n, s_x, b_x, l_x, if_true]
    refine fin_ret rfl (by decide) (fz_bool ?_) fun _ _ => rfl
    exact (decide_eq_true ⟨hp, fun c c1 c2 => h6 c c1 (by omega)⟩).symm

theorem sp_field_isPrime {H : Heap} {n : Nat} (p : Int) (hp2 : p ≤ 1000000) : Spec prog fid_field_isPrime [.int .i64 p] H n (.bool (decide (isPr p))) H n := by
  refine spec_ends hmix ok_field_isPrime rfl fun hF => ?_
  show gw prog B_field_isPrime _ (tl 17 _) H n
  simp -implicitDefEqProofs only [B_field_isPrime, gev_c, mkE_nil, mkE_cons, e_nil, e_cons, e_kops, e_mov, w_region, w_seq, w_block, w_loop, s_n, Nat.zero_add]
  refine loop_rule (fun (d : Nat) E H' n' => H' = H ∧ n' = n ∧ E 0 = .int .i64 p ∧ E 3 = .int .i64 d ∧ 2 ≤ (d : Int) ∧ (d : Int) ≤ 1001 ∧ ∀ c : Int, 2 ≤ c → c < d → p % c ≠ 0 ∨ p < 2) (fun d => 1001 - d) 2 ⟨rfl, rfl, rfl, rfl, by omega, by omega, fun c h1 h2 => by omega⟩ ?_
  rintro d E H' n' ⟨rfl, rfl, h0, h3, h4, h5, h6⟩
  simp -implicitDefEqProofs only [gev_t, st_same, st_ne, e_nil, e_cons, e_kops, e_some, e_mov, e_bin, e_mul, e_leq, w_region, w_seq, w_cond, s_n, Nat.reduceLT, Nat.reduceBEq, h0, h3]
  have hdd : 0 ≤ (d : Int) * d := Int.mul_nonneg (by omega) (by omega)
  have hdd2 : (d : Int) * d ≤ 1001 * 1001 := Int.mul_le_mul h5 h5 (by omega) (by omega)
  have hdd3 : (d : Int) * 2 ≤ d * d := Int.mul_le_mul_of_nonneg_left h4 (by omega)
  rw [wrap64 (by omega)]
  refine c_split (fun h => ?_) (fun h => ?_)
  · simp -implicitDefEqProofs only [gev_t, st_same, st_ne, e_cons, e_kops, e_mov, e_bin, e_rem, w_skip, w_region, w_seq, w_block, s_n, Nat.reduceLT, Nat.reduceBEq, h0, h3]
    have hp4 : 4 ≤ p := by omega
    rw [if_neg (by omega), tmod_nn (by omega)]
    simp -implicitDefEqProofs only [gev_t, gev_c, st_same, e_nil, e_cons, e_kops, e_some, e_bin, e_eql, w_cond, s_n, Nat.reduceLT]
    have hd1000 : (d : Int) ≤ 1000 := by
      rcases Int.lt_or_le (1000 : Int) d with h' | h'
      · have : (1001 : Int) * 1001 ≤ d * d := Int.mul_le_mul (by omega) (by omega) (by omega) (by omega)
        omega
      · exact h'
    refine c_split (fun h' => ?_) (fun h' => ?_)
    · simp -implicitDefEqProofs only [gev_c, e_nil, e_cons, e_kops, e_mov, w_region, w_seq, w_ret, s_n, s_r, b_r, l_r]
      refine fin_ret rfl (by decide) (fz_bool ?_) fun _ _ => rfl
      exact (decide_eq_false fun hh => hh.2 d (by omega) (by omega) h').symm
    · simp -implicitDefEqProofs only [gev_t, gev_c, st_same, st_ne, e_nil, e_cons, e_kops, e_some, e_mov, e_bin, e_add, w_skip, w_region, s_n, b_n, Nat.reduceLT, Nat.reduceBEq, h3]
      rw [wrap64 (by omega)]
      refine l_n ⟨d + 1, by omega, rfl, rfl, by simp -implicitDefEqProofs only [st_ne, Nat.reduceBEq, h0], by simp -implicitDefEqProofs only [st_same]; norm_cast, by omega, by omega, fun c c1 c2 => ?_⟩
      by_cases e : c = d
      · subst e; exact .inl h'
      · exact h6 c c1 (by omega)
  · simp -implicitDefEqProofs only [gev_t, gev_c, st_same, st_ne, e_nil, e_cons, e_kops, e_some, e_mov, e_bin, e_geq, w_region, w_seq, w_exit, w_ret, s_n, s_x, b_x, l_x, Nat.reduceLT, Nat.reduceBEq, if_true, Nat.lt_add_one, h0]
    refine fin_ret rfl (by decide) (fz_bool ?_) fun _ _ => rfl
    refine decide_eq_decide.2 ⟨fun h2 => ⟨h2, fun c c1 c2 e => ?_⟩, fun hh => hh.1⟩
    -- a divisor c, or its cofactor, lies below d
    have hc := Int.emod_add_mul_ediv p c
    rw [e, Int.zero_add] at hc
    rcases Int.lt_or_le c d with hcd | hcd
    · rcases h6 c c1 hcd with h | h
      · exact h e
      · omega
    · generalize p / c = y at hc
      have hy0 : 0 < y := by
        rcases Int.lt_or_le 0 y with hy | hy
        · exact hy
        · have : c * y ≤ 0 := Int.mul_nonpos_of_nonneg_of_nonpos (by omega) hy
          omega
      have hy1 : y ≠ 1 := fun e1 => by rw [e1, Int.mul_one] at hc; omega
      have hyd : y < d := by
        rcases Int.lt_or_le y d with hy | hy
        · exact hy
        · have : (d : Int) * d ≤ c * y := Int.mul_le_mul hcd hy (by omega) (by omega)
          omega
      rcases h6 y (by omega) hyd with h | h
      · apply h; rw [← hc]; exact Int.mul_emod_left c y
      · omega
end Go.Proofs.Ytdpibcniodhinaa.Gh
/- Digits and values: what the program and the reference compute. -/
namespace Go.Proofs.Ytdpibcniodhinaa.Gh
open Go Go.RowKit
set_option linter.unusedVariables false
set_option linter.unusedSimpArgs false

/-- the j-th digit -/
def dg (p x : Int) (j : Nat) : Int := x / p ^ j % p
theorem dg_lo {p x : Int} (hp : 2 ≤ p) (j : Nat) : 0 ≤ dg p x j := Int.emod_nonneg _ (by omega)
theorem dg_hi {p x : Int} (hp : 2 ≤ p) (j : Nat) : dg p x j < p := Int.emod_lt_of_pos _ (by omega)
theorem dg_step {p x : Int} (hp : 2 ≤ p) (i : Nat) : x / p ^ i / p = x / p ^ (i + 1) := by
  rw [Int.ediv_ediv_of_nonneg (Int.pow_nonneg (by omega)), Int.pow_succ]
/-- the first i digits, and zeros -/
def dgi (p x : Int) (i : Nat) : Nat → Int := fun j => if j < i then dg p x j else 0
theorem dgi_step (p x : Int) (i : Nat) : upf (dgi p x i) i (x / p ^ i % p) = dgi p x (i + 1) := by
  funext j
  simp only [upf, dgi]
  by_cases h : j = i
  · subst h; rw [if_pos rfl, if_pos (by omega)]; rfl
  · rw [if_neg h]
    by_cases h2 : j < i
    · rw [if_pos h2, if_pos (by omega)]
    · rw [if_neg h2, if_neg (by omega)]
theorem dgi_zero (p x : Int) (m : Nat) : tab m (it (dgi p x 0)) = List.replicate m (.int .i64 0) := by
  rw [tab_rep]; exact tab_congr fun i _ => rfl
theorem dgi_all (p x : Int) (m : Nat) : tab m (it (dgi p x m)) = tab m (it (dg p x)) := tab_congr fun i h => by
  show GV.int _ _ = GV.int _ _
  rw [dgi, if_pos h]

theorem sp_ref04_digits {H : Heap} {n : Nat} (x p : Int) (m : Nat) (hx : 0 ≤ x) (hx2 : x ≤ 1000000000000) (hp : 2 ≤ p) (hm : m ≤ 1000000) :
    Spec prog fid_ref04_digits [.int .i64 x, .int .i64 p, .int .i64 m] H n (.own n 0 m) (upd H n (some (tab m (it (dg p x))))) (n + 1) := by
  refine spec_ends1 hmix ok_ref04_digits rfl fun hF => ?_
  show gw prog B_ref04_digits _ (tl 26 _) H n
  simp -implicitDefEqProofs only [B_ref04_digits, gev_t, gev_c, st_same, st_ne, mkE_nil, mkE_cons, e_nil, e_cons, e_kops, e_mov, e_mslice, e_ms_int, w_region, w_seq, w_block, w_loop, s_n, Nat.reduceLT, Nat.reduceBEq, Int.toNat_natCast, true_and, Nat.zero_add, ns2, Int.natCast_nonneg, ns12]
  repeat with_reducible refine And.intro (by omega) ?_
  rw [← dgi_zero p x]
  refine loop_rule (fun (i : Nat) E H' n' => H' = upd H n (some (tab m (it (dgi p x i)))) ∧ n' = n + 1 ∧ E 0 = .int .i64 (x / p ^ i) ∧ E 1 = .int .i64 p ∧ E 2 = .int .i64 m ∧ E 7 = .own n 0 m ∧ E 8 = .int .i64 i ∧ i ≤ m) (fun i => m - i) 0 ⟨rfl, rfl, by simp -implicitDefEqProofs only [st_same, st_ne, Nat.reduceBEq, Int.pow_zero, Int.ediv_one], rfl, rfl, rfl, rfl, by omega⟩ ?_
  rintro i E H' n' ⟨rfl, rfl, e0, e1, e2, e7, e8, hi⟩
  have hxi : 0 ≤ x / p ^ i := Int.ediv_nonneg hx (Int.pow_nonneg (by omega))
  have hxi2 : x / p ^ i ≤ x := Int.ediv_le_self _ hx
  have hxi3 : 0 ≤ x / p ^ i / p := Int.ediv_nonneg hxi (by omega)
  have hxi4 : x / p ^ i / p ≤ x / p ^ i := Int.ediv_le_self _ hxi
  simp -implicitDefEqProofs only [gev_t, st_same, st_ne, e_nil, e_cons, e_kops, e_some, e_mov, e_bin, e_lss, w_region, w_seq, w_cond, s_n, Nat.reduceLT, Nat.reduceBEq, e8, e2]
  refine c_split (fun h => ?_) (fun h => ?_)
  · simp -implicitDefEqProofs only [gev_t, st_same, st_ne, e_cons, e_kops, e_mov, e_bin, e_rem, w_skip, w_region, w_seq, w_block, s_n, Nat.reduceLT, Nat.reduceBEq, e0, e1, e7, e8]
    rw [if_neg (by omega), tmod_nn hxi]
    simp -implicitDefEqProofs only [gev_t, st_same, st_ne, e_cons, e_kops, e_some, e_iaddr, e_iaddr_own, Nat.reduceLT, Nat.reduceBEq, Int.toNat_natCast, true_and, Nat.zero_add, Nat.mul_one, Int.natCast_nonneg]
    rw [if_pos (by omega)]
    simp -implicitDefEqProofs only [gev_t, st_same, st_ne, e_nil, e_cons, e_kops, e_kops_none, e_some, e_mov, e_bin, e_store, e_gc_int, w_region, s_n, Nat.reduceLT, Nat.reduceBEq, List.length_cons, List.length_nil, setL_nil, setL_cons, e_store_ptr, e_stp, upd_same, cell_int, true_and, List.all_cons, List.all_nil, Bool.and_self, Nat.zero_add, tab_len, tab_set, it_upf, upd_upd]
    repeat with_reducible refine And.intro (by omega) ?_
    simp -implicitDefEqProofs only [e_quo, e0, e1]
    rw [if_neg (by omega), tdiv_nn hxi]
    simp -implicitDefEqProofs only [gev_t, gev_c, st_same, st_ne, e_nil, e_cons, e_kops, e_some, e_mov, e_bin, e_add, w_region, s_n, b_n, Nat.reduceLT, Nat.reduceBEq, e8]
    rw [wrap64 (by omega), wrap64 (by omega), dgi_step]
    exact l_n ⟨i + 1, by omega, rfl, rfl, by simp -implicitDefEqProofs only [st_same, st_ne, Nat.reduceBEq]; rw [dg_step hp], by simp -implicitDefEqProofs only [st_ne, Nat.reduceBEq, e1], by simp -implicitDefEqProofs only [st_ne, Nat.reduceBEq, e2], by simp -implicitDefEqProofs only [st_ne, Nat.reduceBEq, e7], by simp -implicitDefEqProofs only [st_same]; norm_cast, by omega⟩
  · simp -implicitDefEqProofs only [gev_t, st_same, st_ne, e_nil, e_cons, e_kops, e_mov, w_region, w_seq, w_exit, w_ret, s_n, s_x, b_x, l_x, Nat.reduceLT, Nat.reduceBEq, if_true, Nat.lt_add_one, e7]
    have : i = m := by omega
    subst this
    refine fin_own rfl (by decide) (by simp -implicitDefEqProofs only [st_same]) (Nat.le_refl _) (upd_same _ _ _) ?_ fun b hb => upd_ne _ _ (by omega)
    rw [dgi_all]; exact trs_it
theorem sp_field_digitsOf {H : Heap} {n : Nat} (x p : Int) (m : Nat) (hx : 0 ≤ x) (hx2 : x ≤ 1000000000000) (hp : 2 ≤ p) (hm : m ≤ 1000000) :
    Spec prog fid_field_digitsOf [.int .i64 x, .int .i64 p, .int .i64 m] H n (.own n 0 m) (upd H n (some (tab m (it (dg p x))))) (n + 1) := by
  refine spec_ends1 hmix ok_field_digitsOf rfl fun hF => ?_
  show gw prog B_field_digitsOf _ (tl 27 _) H n
  simp -implicitDefEqProofs only [B_field_digitsOf, gev_t, gev_c, st_same, st_ne, mkE_nil, mkE_cons, e_nil, e_cons, e_kops, e_some, e_mov, e_len, e_len_own, e_mslice, e_ms_int, w_region, w_seq, w_block, w_loop, s_n, Nat.reduceLT, Nat.reduceBEq, Int.toNat_natCast, true_and, Nat.zero_add, ns2, Int.natCast_nonneg, ns12]
  repeat with_reducible refine And.intro (by omega) ?_
  rw [← dgi_zero p x]
  refine loop_rule (fun (i : Nat) E H' n' => H' = upd H n (some (tab m (it (dgi p x i)))) ∧ n' = n + 1 ∧ E 0 = .int .i64 (x / p ^ i) ∧ E 1 = .int .i64 p ∧ E 12 = .int .i64 m ∧ E 7 = .own n 0 m ∧ E 13 = .int .i64 i ∧ i ≤ m) (fun i => m - i) 0 ⟨rfl, rfl, by simp -implicitDefEqProofs only [st_same, st_ne, Nat.reduceBEq, Int.pow_zero, Int.ediv_one], rfl, rfl, rfl, rfl, by omega⟩ ?_
  rintro i E H' n' ⟨rfl, rfl, e0, e1, e12, e7, e13, hi⟩
  have hxi : 0 ≤ x / p ^ i := Int.ediv_nonneg hx (Int.pow_nonneg (by omega))
  have hxi2 : x / p ^ i ≤ x := Int.ediv_le_self _ hx
  have hxi3 : 0 ≤ x / p ^ i / p := Int.ediv_nonneg hxi (by omega)
  have hxi4 : x / p ^ i / p ≤ x / p ^ i := Int.ediv_le_self _ hxi
  simp -implicitDefEqProofs only [gev_t, st_same, e_nil, e_cons, e_kops, e_some, e_bin, e_lss, w_region, w_seq, w_cond, s_n, Nat.reduceLT, e12, e13]
  refine c_split (fun h => ?_) (fun h => ?_)
  · simp -implicitDefEqProofs only [gev_t, st_same, st_ne, e_nil, e_cons, e_kops, e_mov, e_bin, e_rem, w_skip, w_region, w_seq, w_block, s_n, Nat.reduceLT, Nat.reduceBEq, e0, e1, e7, e13]
    rw [if_neg (by omega), tmod_nn hxi]
    simp -implicitDefEqProofs only [gev_t, st_same, st_ne, e_cons, e_kops, e_some, e_iaddr, e_iaddr_own, Nat.reduceLT, Nat.reduceBEq, Int.toNat_natCast, true_and, Nat.zero_add, Nat.mul_one, Int.natCast_nonneg]
    rw [if_pos (by omega)]
    simp -implicitDefEqProofs only [gev_t, st_same, st_ne, e_nil, e_cons, e_kops, e_kops_none, e_some, e_mov, e_bin, e_store, e_gc_int, w_region, s_n, Nat.reduceLT, Nat.reduceBEq, List.length_cons, List.length_nil, setL_nil, setL_cons, e_store_ptr, e_stp, upd_same, cell_int, true_and, List.all_cons, List.all_nil, Bool.and_self, Nat.zero_add, tab_len, tab_set, it_upf, upd_upd]
    repeat with_reducible refine And.intro (by omega) ?_
    simp -implicitDefEqProofs only [e_quo, e0, e1]
    rw [if_neg (by omega), tdiv_nn hxi]
    simp -implicitDefEqProofs only [gev_t, gev_c, st_same, st_ne, e_nil, e_cons, e_kops, e_some, e_mov, e_bin, e_add, w_region, s_n, b_n, Nat.reduceLT, Nat.reduceBEq, e13]
    rw [wrap64 (by omega), wrap64 (by omega), dgi_step]
    exact l_n ⟨i + 1, by omega, rfl, rfl, by simp -implicitDefEqProofs only [st_same, st_ne, Nat.reduceBEq]; rw [dg_step hp], by simp -implicitDefEqProofs only [st_ne, Nat.reduceBEq, e1], by simp -implicitDefEqProofs only [st_ne, Nat.reduceBEq, e12], by simp -implicitDefEqProofs only [st_ne, Nat.reduceBEq, e7], by simp -implicitDefEqProofs only [st_same]; norm_cast, by omega⟩
  · simp -implicitDefEqProofs only [gev_t, st_same, st_ne, e_nil, e_cons, e_kops, e_mov, w_region, w_seq, w_exit, w_ret, s_n, s_x, b_x, l_x, Nat.reduceLT, Nat.reduceBEq, if_true, Nat.lt_add_one, e7]
    have : i = m := by omega
    subst this
    refine fin_own rfl (by decide) (by simp -implicitDefEqProofs only [st_same]) (Nat.le_refl _) (upd_same _ _ _) ?_ fun b hb => upd_ne _ _ (by omega)
    rw [dgi_all]; exact trs_it
end Go.Proofs.Ytdpibcniodhinaa.Gh
/- Values, elements: what the program and the reference compute. -/
namespace Go.Proofs.Ytdpibcniodhinaa.Gh
open Go Go.RowKit
set_option linter.unusedVariables false
set_option linter.unusedSimpArgs false

/-- the number with the digits f 0, .., f (k - 1) -/
def vs (p : Int) : Nat → (Nat → Int) → Int
  | 0, _ => 0
  | k + 1, f => f 0 + p * vs p k fun j => f (j + 1)
theorem vs_congr (p : Int) : ∀ (k : Nat) {f g : Nat → Int}, (∀ j, j < k → f j = g j) → vs p k f = vs p k g := by
  intro k
  induction k with
  | zero => intro f g _; rfl
  | succ k ih => intro f g h; simp only [vs]; rw [h 0 (by omega), ih fun j hj => h (j + 1) (by omega)]
theorem vs_nn {p : Int} (hp : 2 ≤ p) : ∀ (k : Nat) {f : Nat → Int}, (∀ j, j < k → 0 ≤ f j ∧ f j < p) → 0 ≤ vs p k f ∧ vs p k f < p ^ k := by
  intro k
  induction k with
  | zero => intro f _; exact ⟨Int.le_refl _, by rw [Int.pow_zero]; exact Int.one_pos⟩
  | succ k ih =>
    intro f h
    obtain ⟨h1, h2⟩ := ih (f := fun j => f (j + 1)) fun j hj => h (j + 1) (by omega)
    obtain ⟨h3, h4⟩ := h 0 (by omega)
    simp only [vs]
    have h5 : 0 ≤ p * vs p k fun j => f (j + 1) := Int.mul_nonneg (by omega) h1
    have h6 : p * (vs p k fun j => f (j + 1)) ≤ p * (p ^ k - 1) := Int.mul_le_mul_of_nonneg_left (by omega) (by omega)
    have h7 : p ^ (k + 1) = p * p ^ k := by rw [Int.pow_succ, Int.mul_comm]
    rw [Int.mul_sub, Int.mul_one, ← h7] at h6
    exact ⟨by omega, by omega⟩

theorem sp_value_step {p : Int} {f : Nat → Int} {m i : Nat} (h : i < m) : vs p (m - i) (fun j => f (i + j)) = vs p (m - (i + 1)) (fun j => f (i + 1 + j)) * p + f i := by
  have : m - i = (m - (i + 1)) + 1 := by omega
  rw [this]
  simp only [vs]
  rw [Int.add_comm, Int.mul_comm, vs_congr p _ fun j _ => by rw [show i + (j + 1) = i + 1 + j by omega]]
  rfl

theorem sp_ref04_Value {H : Heap} {n : Nat} (p M : Int) (g : GV) (hg : isCell g = true) (b m m' : Nat) (f : Nat → Int) (hb : b < n) (hH : H b = some (tab m' (it f))) (hm : m ≤ m') (hp : 2 ≤ p) (hpm : p ^ m ≤ 1000000) (hmm : m ≤ 1000) (hf : ∀ j, j < m → 0 ≤ f j ∧ f j < p) :
    Spec prog fid_ref04_Value [.agg [.int .i64 p, .int .i64 M, g], .own b 0 m] H n (.int .i64 (vs p m f)) H n := by
  refine spec_ends hmix ok_ref04_Value rfl fun hF => ?_
  show gw prog B_ref04_Value _ (tl 24 _) H n
  simp -implicitDefEqProofs only [B_ref04_Value, gev_t, gev_c, st_same, st_ne, mkE_nil, mkE_cons, e_nil, e_cons, e_kops, e_some, e_mov, e_bin, e_sub, e_len, e_len_own, e_box, e_box_some, e_gc_agg, w_region, w_seq, w_block, w_loop, s_n, Nat.reduceLT, Nat.reduceBEq, Nat.zero_add, ns2]
  have ho : ∀ c b, b < n → upd H n c b = H b := fun c b hb => upd_ne _ _ (by omega)
  rw [wrap64 (by omega)]
  refine loop_rule (fun (i : Nat) E H' n' => H' = upd H n (some [.int .i64 p, .int .i64 M, g]) ∧ n' = n + 1 ∧ E 1 = .own b 0 m ∧ E 2 = .ptr n 0 ∧ E 5 = .int .i64 (vs p (m - i) fun j => f (i + j)) ∧ E 6 = .int .i64 ((i : Int) - 1) ∧ i ≤ m) (fun i => i) m ⟨rfl, rfl, rfl, rfl, by simp -implicitDefEqProofs only [st_same, st_ne, Nat.reduceBEq, Nat.sub_self, vs], rfl, by omega⟩ ?_
  rintro i E H' n' ⟨rfl, rfl, e1, e2, e5, e6, hi⟩
  have hv : ∀ i, i ≤ m → 0 ≤ (vs p (m - i) fun j => f (i + j)) ∧ (vs p (m - i) fun j => f (i + j)) < p ^ m := fun i hi => by
    obtain ⟨a, b⟩ := vs_nn hp (m - i) (f := fun j => f (i + j)) fun j hj => hf _ (by omega)
    exact ⟨a, Int.lt_of_lt_of_le b (pow_mono (by omega) (by omega))⟩
  simp -implicitDefEqProofs only [gev_t, gev_c, st_same, e_nil, e_cons, e_kops, e_some, e_mov, e_bin, e_geq, w_region, w_seq, w_cond, s_n, Nat.reduceLT, e6]
  refine c_split (fun h => ?_) (fun h => ?_)
  · obtain ⟨i, rfl⟩ : ∃ k, i = k + 1 := ⟨i - 1, by omega⟩
    have hq := hv (i + 1) hi
    have hq' := hv i (by omega)
    have hst := sp_value_step (p := p) (f := f) (m := m) (i := i) (by omega)
    generalize hx : (vs p (m - (i + 1)) fun j => f (i + 1 + j)) = x at *
    have hf1 := hf i (by omega)
    have hi1 : ((i + 1 : Nat) : Int) - 1 = (i : Nat) := by omega
    rw [hi1] at e6
    simp -implicitDefEqProofs only [gev_t, st_same, st_ne, e_some, e_mov, e_bin, e_mul, e_faddr, e_faddr_ptr, e_iaddr, e_iaddr_own, w_skip, w_seq, w_block, w_draw, s_n, m_cons, m_kmops, m_kpm, m_load, Nat.reduceLT, Nat.reduceBEq, Int.toNat_natCast, List.length_cons, List.length_nil, gat_0, upd_same, true_and, Nat.add_zero, Nat.zero_add, Nat.mul_one, m_p_mov, m_p_bin, m_p_fieldAddr, m_p_indexAddr, m_cell_ptr, m_cl1, Nat.lt_add_one, ns2, Int.natCast_nonneg, ns12, e1, e2, e5, e6]
    have hxp : 0 ≤ x * p := Int.mul_nonneg hq.1 (by omega)
    rw [if_pos (by omega), wrap64 (by omega)]
    simp -implicitDefEqProofs only [gev_t, st_same, st_ne, e_cons, e_some, e_bin, d_kdr, m_nil, m_cons, m_kmops, m_kpm, m_load, Nat.reduceLT, Nat.reduceBEq, tab_len, m_cell_ptr, m_cl1, upd_ne H _ (show b ≠ n by omega), hH]
    refine ⟨by omega, by omega, ?_⟩
    rw [gat_tab (by omega), it_at]
    simp -implicitDefEqProofs only [gev_t, gev_c, st_same, st_ne, e_nil, e_cons, e_kops, e_some, e_mov, e_bin, e_add, e_sub, w_region, s_n, b_n, Nat.reduceLT, Nat.reduceBEq, e6]
    rw [wrap64 (by omega), wrap64 (by omega), ← hst]
    exact l_n ⟨i, by omega, rfl, rfl, by simp -implicitDefEqProofs only [st_ne, Nat.reduceBEq, e1], by simp -implicitDefEqProofs only [st_ne, Nat.reduceBEq, e2], by simp -implicitDefEqProofs only [st_same, st_ne, Nat.reduceBEq], by simp -implicitDefEqProofs only [st_same], by omega⟩
  · simp -implicitDefEqProofs only [gev_t, st_same, st_ne, e_nil, e_cons, e_kops, e_mov, w_region, w_seq, w_exit, w_ret, s_n, s_x, b_x, l_x, Nat.reduceLT, Nat.reduceBEq, if_true, Nat.lt_add_one, e5]
    have : i = 0 := by omega
    subst this
    refine fin_ret rfl (by decide) (fz_int ?_) (ho _)
    rw [Nat.sub_zero]
    exact vs_congr p m fun j _ => by rw [Nat.zero_add]
end Go.Proofs.Ytdpibcniodhinaa.Gh
/- Values of the program, elements of the reference. -/
namespace Go.Proofs.Ytdpibcniodhinaa.Gh
open Go Go.RowKit
set_option linter.unusedVariables false
set_option linter.unusedSimpArgs false

theorem sp_field_valueOf {H : Heap} {n : Nat} (p : Int) (b m m' : Nat) (f : Nat → Int) (hb : b < n) (hH : H b = some (tab m' (it f))) (hm : m ≤ m') (hp : 2 ≤ p) (hpm : p ^ m ≤ 1000000) (hmm : m ≤ 1000) (hf : ∀ j, j < m → 0 ≤ f j ∧ f j < p) :
    Spec prog fid_field_valueOf [.own b 0 m, .int .i64 p] H n (.int .i64 (vs p m f)) H n := by
  refine spec_ends hmix ok_field_valueOf rfl fun hF => ?_
  show gw prog B_field_valueOf _ (tl 23 _) H n
  simp -implicitDefEqProofs only [B_field_valueOf, gev_t, gev_c, st_same, st_ne, mkE_nil, mkE_cons, e_nil, e_cons, e_kops, e_some, e_mov, e_bin, e_sub, e_len, e_len_own, w_region, w_seq, w_block, w_loop, s_n, Nat.reduceLT, Nat.reduceBEq, Nat.zero_add, ns2]
  rw [wrap64 (by omega)]
  refine loop_rule (fun (i : Nat) E H' n' => H' = H ∧ n' = n ∧ E 0 = .own b 0 m ∧ E 1 = .int .i64 p ∧ E 5 = .int .i64 (vs p (m - i) fun j => f (i + j)) ∧ E 6 = .int .i64 ((i : Int) - 1) ∧ i ≤ m) (fun i => i) m ⟨rfl, rfl, rfl, rfl, by simp -implicitDefEqProofs only [st_same, st_ne, Nat.reduceBEq, Nat.sub_self, vs], rfl, by omega⟩ ?_
  rintro i E H' n' ⟨rfl, rfl, e1, e2, e5, e6, hi⟩
  have hv : ∀ i, i ≤ m → 0 ≤ (vs p (m - i) fun j => f (i + j)) ∧ (vs p (m - i) fun j => f (i + j)) < p ^ m := fun i hi => by
    obtain ⟨a, b⟩ := vs_nn hp (m - i) (f := fun j => f (i + j)) fun j hj => hf _ (by omega)
    exact ⟨a, Int.lt_of_lt_of_le b (pow_mono (by omega) (by omega))⟩
  simp -implicitDefEqProofs only [gev_t, gev_c, st_same, e_nil, e_cons, e_kops, e_some, e_mov, e_bin, e_geq, w_region, w_seq, w_cond, s_n, Nat.reduceLT, e6]
  refine c_split (fun h => ?_) (fun h => ?_)
  · obtain ⟨i, rfl⟩ : ∃ k, i = k + 1 := ⟨i - 1, by omega⟩
    have hq := hv (i + 1) hi
    have hq' := hv i (by omega)
    have hst := sp_value_step (p := p) (f := f) (m := m) (i := i) (by omega)
    generalize hx : (vs p (m - (i + 1)) fun j => f (i + 1 + j)) = x at *
    have hf1 := hf i (by omega)
    have hi1 : ((i + 1 : Nat) : Int) - 1 = (i : Nat) := by omega
    rw [hi1] at e6
    simp -implicitDefEqProofs only [gev_t, st_same, st_ne, e_cons, e_kops, e_some, e_mov, e_bin, e_mul, e_iaddr, e_iaddr_own, w_skip, w_region, w_seq, w_block, s_n, Nat.reduceLT, Nat.reduceBEq, Int.toNat_natCast, true_and, Nat.zero_add, Nat.mul_one, Int.natCast_nonneg, e1, e2, e5, e6]
    have hxp : 0 ≤ x * p := Int.mul_nonneg hq.1 (by omega)
    rw [if_pos (by omega), wrap64 (by omega)]
    simp -implicitDefEqProofs only [gev_t, st_same, st_ne, e_cons, e_kops, e_some, e_bin, e_load, Nat.reduceLT, Nat.reduceBEq, e_cell_ptr, e_cl1, tab_len, hH]
    refine ⟨by omega, ?_⟩
    rw [gat_tab (by omega), it_at]
    simp -implicitDefEqProofs only [gev_t, gev_c, st_same, st_ne, e_nil, e_cons, e_kops, e_some, e_mov, e_bin, e_add, e_sub, w_region, s_n, b_n, Nat.reduceLT, Nat.reduceBEq, e6]
    rw [wrap64 (by omega), wrap64 (by omega), ← hst]
    exact l_n ⟨i, by omega, rfl, rfl, by simp -implicitDefEqProofs only [st_ne, Nat.reduceBEq, e1], by simp -implicitDefEqProofs only [st_ne, Nat.reduceBEq, e2], by simp -implicitDefEqProofs only [st_same, st_ne, Nat.reduceBEq], by simp -implicitDefEqProofs only [st_same], by omega⟩
  · simp -implicitDefEqProofs only [gev_t, st_same, st_ne, e_nil, e_cons, e_kops, e_mov, w_region, w_seq, w_exit, w_ret, s_n, s_x, b_x, l_x, Nat.reduceLT, Nat.reduceBEq, if_true, Nat.lt_add_one, e5]
    have : i = 0 := by omega
    subst this
    refine fin_ret rfl (by decide) (fz_int ?_) fun _ _ => rfl
    rw [Nat.sub_zero]
    exact vs_congr p m fun j _ => by rw [Nat.zero_add]

/-- an element, or 0 -/
def inq (q x : Int) : Int := if 0 ≤ x ∧ x < q then x else 0
theorem inq_lo (q x : Int) : 0 ≤ inq q x := by unfold inq; split <;> omega
theorem inq_hi {q : Int} (h : 0 < q) (x : Int) : inq q x < q := by unfold inq; split <;> omega

abbrev fgv (p M : Int) (g : GV) : GV := .agg [.int .i64 p, .int .i64 M, g]
theorem sp_ref04_Is {H : Heap} {n : Nat} (p M : Int) (g : GV) (hg : isCell g = true) (x : Int) : Spec prog fid_ref04_Is [fgv p M g, .int .i64 x] H n (.bool (decide (0 ≤ x ∧ x < qo p M))) H n := by
  refine spec_ends hmix ok_ref04_Is rfl fun hF => ?_
  show gw prog B_ref04_Is _ (tl 13 _) H n
  have ho : ∀ c b, b < n → upd H n c b = H b := fun c b hb => upd_ne _ _ (by omega)
  by_cases h : 0 ≤ x
  · simp -implicitDefEqProofs only [B_ref04_Is, gev_t, gev_c, st_same, st_ne, mkE_nil, mkE_cons, e_nil, e_cons, e_kops, e_guard, e_tt, e_some, e_mov, e_bin, e_geq, e_load, e_box, e_box_some, e_call, e_gc_agg, w_region, w_seq, s_n, Nat.reduceLT, Nat.reduceBEq, decide_true, List.length_cons, List.length_nil, e_cell_ptr, e_clm, upd_same, true_and, List.drop_zero, List.take_zero, List.take_succ_cons, Nat.zero_add, List.map_cons, List.map_nil, ns2, ns12, Nat.le_refl, h]
    refine call_of (sp_ref04_Order p M g hg) ?_
    simp -implicitDefEqProofs only [gev_t, gev_c, st_same, st_ne, e_nil, e_cons, e_kops, e_guard, e_tt, e_some, e_mov, e_pick, e_pick_t, e_bin, e_lss, w_ret, s_n, Nat.reduceLT, Nat.reduceBEq, Nat.lt_add_one]
    refine fin_ret rfl (by decide) (fz_bool ?_) (ho _)
    exact decide_eq_decide.2 ⟨fun h' => h', fun h' => h'⟩
  · simp -implicitDefEqProofs only [B_ref04_Is, gev_t, gev_c, st_same, st_ne, mkE_nil, mkE_cons, e_nil, e_cons, e_kops, e_guard, e_tf, e_some, e_mov, e_pick, e_pick_f, e_bin, e_geq, e_box, e_box_some, e_gc_agg, w_region, w_seq, w_ret, s_n, Nat.reduceLT, Nat.reduceBEq, decide_false, Nat.zero_add, Nat.lt_add_one, ns2, h]
    refine fin_ret rfl (by decide) (fz_bool ?_) (ho _)
    exact (decide_eq_false fun h' => h'.1).symm
theorem sp_ref04_In {H : Heap} {n : Nat} (p M : Int) (g : GV) (hg : isCell g = true) (x : Int) : Spec prog fid_ref04_In [fgv p M g, .int .i64 x] H n (.int .i64 (inq (qo p M) x)) H n := by
  refine spec_ends hmix ok_ref04_In rfl fun hF => ?_
  show gw prog B_ref04_In _ (tl 9 _) H n
  have ho : ∀ c b, b < n → upd H n c b = H b := fun c b hb => upd_ne _ _ (by omega)
  simp -implicitDefEqProofs only [B_ref04_In, gev_t, gev_c, st_same, st_ne, mkE_nil, mkE_cons, e_nil, e_cons, e_kops, e_mov, e_load, e_box, e_box_some, e_call, e_gc_agg, w_region, w_seq, s_n, Nat.reduceLT, Nat.reduceBEq, List.length_cons, List.length_nil, e_cell_ptr, e_clm, upd_same, true_and, List.drop_zero, List.take_zero, List.take_succ_cons, Nat.zero_add, List.map_cons, List.map_nil, ns2, ns12, Nat.le_refl]
  refine call_of (sp_ref04_Is p M g hg x) ?_
  simp -implicitDefEqProofs only [gev_t, st_same, e_nil, e_kops, w_cond, s_n, Nat.reduceLT]
  refine c_split (fun h => ?_) (fun h => ?_)
  · simp -implicitDefEqProofs only [gev_t, st_same, st_ne, e_nil, e_cons, e_kops, e_mov, w_region, w_seq, w_ret, s_n, s_r, Nat.reduceLT, Nat.reduceBEq, Nat.lt_add_one]
    refine fin_ret rfl (by decide) (fz_int ?_) (ho _)
    rw [inq, if_pos h]
  · simp -implicitDefEqProofs only [gev_c, e_nil, e_cons, e_kops, e_mov, w_skip, w_region, w_seq, w_ret, s_n]
    refine fin_ret rfl (by decide) (fz_int ?_) (ho _)
    rw [inq, if_neg h]
theorem qo_le (p M : Int) : 0 ≤ qo p M ∧ qo p M ≤ 256 := by
  unfold qo; split
  · rename_i h; exact ⟨Int.pow_nonneg (by omega), by omega⟩
  · omega
theorem sp_ref04_Digits {H : Heap} {n : Nat} (p : Int) (M : Nat) (g : GV) (hg : isCell g = true) (x : Int) (hp : 2 ≤ p) (hM : M ≤ 8) : Spec prog fid_ref04_Digits [fgv p M g, .int .i64 x] H n (.own n 0 M) (upd H n (some (tab M (it (dg p (inq (qo p M) x)))))) (n + 1) := by
  refine spec_ends1 hmix ok_ref04_Digits rfl fun hF => ?_
  show gw prog B_ref04_Digits _ (tl 13 _) H n
  have hq := qo_le p M
  have h0 := inq_lo (qo p M) x
  have h1 : inq (qo p M) x ≤ 256 := by unfold inq; split <;> omega
  simp -implicitDefEqProofs only [B_ref04_Digits, gev_t, gev_c, st_same, st_ne, mkE_nil, mkE_cons, e_nil, e_cons, e_kops, e_mov, e_box, e_box_some, e_gc_agg, w_region, w_seq, w_draw, s_n, m_cons, m_kmops, m_kpm, m_load, m_call, Nat.reduceLT, Nat.reduceBEq, List.length_cons, List.length_nil, upd_same, true_and, List.drop_zero, List.take_zero, List.take_succ_cons, Nat.zero_add, List.map_cons, List.map_nil, m_p_mov, m_cell_ptr, m_clm, Nat.lt_add_one, ns2, ns12, Nat.le_refl]
  refine mcall_of (.int _ _) (fun H' n' _ _ => sp_ref04_In p M g hg x) ?_
  simp -implicitDefEqProofs only [gev_t, st_same, st_ne, e_cons, e_some, e_faddr, e_faddr_ptr, e_call, d_kdr, m_nil, m_cons, m_kmops, m_kpm, m_load, Nat.reduceLT, Nat.reduceBEq, List.length_cons, List.length_nil, gat_0, gat_1, upd_same, true_and, Nat.add_zero, Nat.zero_add, List.map_cons, List.map_nil, m_p_fieldAddr, m_cell_ptr, m_cl1, Nat.lt_add_one, ns2, ns12]
  refine call_of (sp_ref04_digits _ p M h0 (by omega) hp (by omega)) ?_
  simp -implicitDefEqProofs only [gev_t, st_same, e_nil, e_cons, e_kops, e_mov, w_ret, s_n, Nat.lt_add_one, ns2]
  exact fin_own rfl (by decide) (by simp -implicitDefEqProofs only [st_same]) (by omega) (upd_same _ _ _) trs_it fun b hb => by rw [upd_ne _ _ (by omega), upd_ne _ _ (by omega)]
end Go.Proofs.Ytdpibcniodhinaa.Gh
/- Numbers as residues: digits are coefficients. -/
namespace Go.Proofs.Ytdpibcniodhinaa.Gh
open Go Go.RowKit
open Alg (CR Fd Ps Dg Zm Mn El Cg sm pw)
set_option linter.unusedVariables false
set_option linter.unusedSimpArgs false

theorem dg_zero (p x : Int) : dg p x 0 = x % p := by rw [dg, Int.pow_zero, Int.ediv_one]
theorem dg_succ {p x : Int} (hp : 2 ≤ p) (j : Nat) : dg p x (j + 1) = dg p (x / p) j := by
  rw [dg, dg, Int.ediv_ediv_of_nonneg (by omega), Int.pow_succ, Int.mul_comm]
theorem dg_vs {p : Int} (hp : 2 ≤ p) : ∀ (m : Nat) {f : Nat → Int}, (∀ j, j < m → 0 ≤ f j ∧ f j < p) → ∀ i, i < m → dg p (vs p m f) i = f i := by
  intro m
  induction m with
  | zero => intro f _ i hi; omega
  | succ m ih =>
    intro f h i hi
    have h0 := h 0 (by omega)
    cases i with
    | zero => rw [dg_zero, vs, Int.add_mul_emod_self_left]; exact Int.emod_eq_of_lt h0.1 h0.2
    | succ i =>
      rw [dg_succ hp, vs, Int.add_mul_ediv_left _ _ (by omega), Int.ediv_eq_zero_of_lt h0.1 h0.2, Int.zero_add]
      exact ih (fun j hj => h (j + 1) (by omega)) i (by omega)
theorem vs_dg {p : Int} (hp : 2 ≤ p) : ∀ (m : Nat) {x : Int}, 0 ≤ x → x < p ^ m → vs p m (dg p x) = x := by
  intro m
  induction m with
  | zero => intro x h1 h2; rw [Int.pow_zero] at h2; rw [vs]; omega
  | succ m ih =>
    intro x h1 h2
    rw [vs, vs_congr p m fun j _ => dg_succ hp j, ih (Int.ediv_nonneg h1 (by omega)) (Int.ediv_lt_of_lt_mul (by omega) (by rwa [Int.pow_succ] at h2)), dg_zero]
    exact Int.emod_add_mul_ediv x p
theorem dg_big {p x : Int} (hp : 2 ≤ p) {m i : Nat} (h0 : 0 ≤ x) (h : x < p ^ m) (hi : m ≤ i) : dg p x i = 0 := by
  rw [dg, Int.ediv_eq_zero_of_lt h0 (Int.lt_of_lt_of_le h (pow_mono (by omega) hi))]; rfl

section
variable {k : Nat} {M : Mn k}
def el (M : Mn k) (x : Int) : El M := ⟨⟨fun i => if i < M.m then Zm.of (dg (k + 2) x i) else 0⟩, fun i hi => by show (if i < M.m then _ else (0 : Zm k)) = 0; rw [if_neg (by omega)]⟩
def cd (a : El M) : Int := vs (k + 2) M.m fun i => (a.p.co i).v
theorem el_co {x : Int} {i : Nat} (h : i < M.m) : (el M x).p.co i = Zm.of (dg (k + 2) x i) := if_pos h
theorem hp2 (k : Nat) : (2 : Int) ≤ k + 2 := by omega
theorem cd_dg (a : El M) {i : Nat} (h : i < M.m) : dg (k + 2) (cd a) i = (a.p.co i).v := dg_vs (hp2 k) M.m (fun j _ => ⟨(a.p.co j).lo, (a.p.co j).hi⟩) i h
theorem cd_nn (a : El M) : 0 ≤ cd a ∧ cd a < ((k : Int) + 2) ^ M.m := vs_nn (hp2 k) M.m fun j _ => ⟨(a.p.co j).lo, (a.p.co j).hi⟩
theorem el_cd (a : El M) : el M (cd a) = a := by
  apply El.ext'
  apply Ps.ext'
  intro i
  by_cases h : i < M.m
  · rw [el_co h, cd_dg a h, Zm.of_self]
  · show (if i < M.m then _ else (0 : Zm k)) = _
    rw [if_neg h, a.dg i (by omega)]
theorem of_v_small {x : Int} (h0 : 0 ≤ x) (h1 : x < k + 2) : (Zm.of (k := k) x).v = x := Int.emod_eq_of_lt h0 h1
theorem cd_el {x : Int} (h0 : 0 ≤ x) (h1 : x < ((k : Int) + 2) ^ M.m) : cd (el M x) = x := by
  rw [cd, vs_congr _ M.m (g := dg (k + 2) x) fun j hj => by rw [el_co hj, of_v_small (dg_lo (hp2 k) j) (dg_hi (hp2 k) j)]]
  exact vs_dg (hp2 k) M.m h0 h1
theorem cd_inj {a b : El M} (h : cd a = cd b) : a = b := by rw [← el_cd a, h, el_cd]
theorem vs_zero (p : Int) : ∀ m, vs p m (fun _ => 0) = 0 := by
  intro m
  induction m with
  | zero => rfl
  | succ m ih => rw [vs, ih, Int.mul_zero]; rfl
theorem cd_zero : cd (0 : El M) = 0 := vs_zero _ _
theorem cd_one : cd (1 : El M) = 1 := by
  obtain ⟨m, hm⟩ : ∃ m, M.m = m + 1 := ⟨M.m - 1, by have := M.pos; omega⟩
  rw [cd, hm, vs, vs_congr _ m (g := fun _ => 0) fun j _ => ?_, vs_zero, Int.mul_zero]
  · show (Zm.v (if 0 = 0 then (1 : Zm k) else 0)) + 0 = 1
    rw [if_pos rfl, Zm.one_v]; rfl
  · show (Zm.v (if j + 1 = 0 then (1 : Zm k) else 0)) = 0
    rw [if_neg (by omega)]; rfl
theorem el_zero : el M 0 = 0 := by rw [← cd_zero (M := M), el_cd]
theorem el_one : el M 1 = 1 := by rw [← cd_one (M := M), el_cd]
theorem cd_eq_zero {a : El M} : cd a = 0 ↔ a = 0 := ⟨fun h => cd_inj (by rw [h, cd_zero]), fun h => by rw [h, cd_zero]⟩
theorem cd_add (a b : El M) : cd (a + b) = vs (k + 2) M.m fun i => (dg (k + 2) (cd a) i + dg (k + 2) (cd b) i) % (k + 2) :=
  vs_congr _ _ fun j hj => by rw [cd_dg a hj, cd_dg b hj]; rfl
theorem cd_neg (a : El M) : cd (-a) = vs (k + 2) M.m fun i => ((k + 2) - dg (k + 2) (cd a) i) % (k + 2) :=
  vs_congr _ _ fun j hj => by
    rw [cd_dg a hj]
    show (-(a.p.co j).v) % ((k : Int) + 2) = _
    have h1 := Int.add_mul_emod_self_left (-(a.p.co j).v) ((k : Int) + 2) 1
    rw [Int.mul_one] at h1
    rw [← h1]; congr 1; omega
end
end Go.Proofs.Ytdpibcniodhinaa.Gh
/- The reference's sums. -/
namespace Go.Proofs.Ytdpibcniodhinaa.Gh
open Go Go.RowKit
open Alg (CR Fd Ps Dg Zm Mn El Cg sm pw)
set_option linter.unusedVariables false
set_option linter.unusedSimpArgs false

section
variable {k : Nat} {M : Mn k}
/-- the order -/
def qq (M : Mn k) : Int := ((k : Int) + 2) ^ M.m
/-- a description within the bounds -/
structure Fc (M : Mn k) : Prop where
  q : qq M ≤ 256
  m8 : M.m ≤ 8
  one : M.m = 1 → M.f.co 0 = 0
def fmod (M : Mn k) : GV := isl (if M.m = 1 then 0 else M.m) fun i => (M.f.co i).v
def fd (M : Mn k) : GV := fgv ((k : Int) + 2) (M.m : Nat) (fmod M)
theorem fmod_cell : isCell (fmod M) = true := rfl
theorem Fc.p256 (h : Fc M) : (k : Int) + 2 ≤ 256 := by
  have h1 := pow_mono (p := (k : Int) + 2) (by omega) (i := 1) (j := M.m) M.pos
  rw [Int.pow_succ, Int.pow_zero, Int.one_mul] at h1
  exact Int.le_trans h1 h.q
theorem Fc.qo (h : Fc M) : qo ((k : Int) + 2) (M.m : Nat) = qq M := by
  have := h.p256; have := h.m8; have := M.pos; have := h.q
  rw [Gh.qo, if_pos ⟨by omega, by omega, by omega, by omega, by rw [Int.toNat_natCast]; exact h.q⟩, Int.toNat_natCast]; rfl
theorem Fc.q2 (h : Fc M) : 2 ≤ qq M := by
  have h1 := pow_mono (p := (k : Int) + 2) (by omega) (i := 1) (j := M.m) M.pos
  rw [Int.pow_succ, Int.pow_zero, Int.one_mul] at h1
  have : qq M = ((k : Int) + 2) ^ M.m := rfl
  omega
def ein (M : Mn k) (x : Int) : El M := el M (inq (qq M) x)
theorem Fc.cd_ein (h : Fc M) (x : Int) : cd (ein M x) = inq (qq M) x := cd_el (inq_lo _ _) (inq_hi (by have := h.q2; omega) x)

theorem sp_ref04_Digits' {H : Heap} {n : Nat} (h : Fc M) (x : Int) : Spec prog fid_ref04_Digits [fd M, .int .i64 x] H n (.own n 0 M.m) (upd H n (some (tab M.m (it (dg ((k : Int) + 2) (cd (ein M x))))))) (n + 1) := by
  rw [h.cd_ein, ← h.qo]
  exact sp_ref04_Digits _ M.m _ fmod_cell x (by omega) h.m8
theorem sp_ref04_Value' {H : Heap} {n : Nat} (h : Fc M) (b m' : Nat) (f : Nat → Int) (hb : b < n) (hH : H b = some (tab m' (it f))) (hm : M.m ≤ m') (hf : ∀ j, j < M.m → 0 ≤ f j ∧ f j < (k : Int) + 2) :
    Spec prog fid_ref04_Value [fd M, .own b 0 M.m] H n (.int .i64 (vs ((k : Int) + 2) M.m f)) H n :=
  sp_ref04_Value _ _ _ fmod_cell b M.m m' f hb hH hm (by omega) (by have := h.q; show qq M ≤ 1000000; omega) (by have := h.m8; omega) hf

/-- the first i entries of one row, the others of another -/
def mix (g f : Nat → Int) (i : Nat) : Nat → Int := fun j => if j < i then g j else f j
theorem mix_step (g f : Nat → Int) (i : Nat) : upf (mix g f i) i (g i) = mix g f (i + 1) := by
  funext j
  simp only [upf, mix]
  by_cases h : j = i
  · subst h; rw [if_pos rfl, if_pos (by omega)]
  · rw [if_neg h]
    by_cases h2 : j < i
    · rw [if_pos h2, if_pos (by omega)]
    · rw [if_neg h2, if_neg (by omega)]
theorem mix_at (g f : Nat → Int) (i : Nat) : mix g f i i = f i := if_neg (by omega)
theorem mix_zero (g f : Nat → Int) : mix g f 0 = f := by funext j; exact if_neg (by omega)
theorem mix_lt (g f : Nat → Int) {i j : Nat} (h : j < i) : mix g f i j = g j := if_pos h

theorem sp_ref04_Add {H : Heap} {n : Nat} (h : Fc M) (x y : Int) : Spec prog fid_ref04_Add [fd M, .int .i64 x, .int .i64 y] H n (.int .i64 (cd (ein M x + ein M y))) H n := by
  refine spec_ends hmix ok_ref04_Add rfl fun hF => ?_
  show gw prog B_ref04_Add _ (tl 40 _) H n
  have hp := h.p256
  have hm8 := h.m8
  simp -implicitDefEqProofs only [B_ref04_Add, fd, gev_t, gev_c, st_same, st_ne, mkE_nil, mkE_cons, e_nil, e_cons, e_kops, e_mov, e_load, e_box, e_box_some, e_call, e_gc_agg, w_region, w_seq, s_n, Nat.reduceLT, Nat.reduceBEq, List.length_cons, List.length_nil, e_cell_ptr, e_clm, upd_same, true_and, List.drop_zero, List.take_zero, List.take_succ_cons, Nat.zero_add, List.map_cons, List.map_nil, ns2, ns12, Nat.le_refl]
  refine call_of (sp_ref04_Digits' h x) ?_
  simp -implicitDefEqProofs only [gev_t, st_same, st_ne, e_nil, e_cons, e_kops, e_mov, e_load, e_call, w_region, w_seq, s_n, Nat.reduceLT, Nat.reduceBEq, List.length_cons, List.length_nil, e_cell_ptr, e_clm, upd_same, upd_n1, true_and, List.drop_zero, List.take_zero, List.take_succ_cons, Nat.zero_add, List.map_cons, List.map_nil, ns2, ns12, Nat.le_refl]
  refine call_of (sp_ref04_Digits' h y) ?_
  simp -implicitDefEqProofs only [gev_t, gev_c, st_same, e_nil, e_cons, e_kops, e_mov, w_region, w_seq, w_block, w_loop, s_n, Nat.reduceLT, ns2, ns12]
  rw [cd_add]
  generalize cd (ein M x) = a
  generalize cd (ein M y) = b
  refine loop_rule (fun (i : Nat) E H' n' => n' = n + 3 ∧ H' n = some [.int .i64 ((k : Int) + 2), .int .i64 (M.m : Nat), fmod M] ∧ H' (n + 1) = some (tab M.m (it (mix (fun j => (dg ((k : Int) + 2) a j + dg ((k : Int) + 2) b j) % ((k : Int) + 2)) (dg ((k : Int) + 2) a) i))) ∧ H' (n + 2) = some (tab M.m (it (dg ((k : Int) + 2) b))) ∧ (∀ b, b < n → H' b = H b) ∧ E 3 = .ptr n 0 ∧ E 7 = .own (n + 1) 0 M.m ∧ E 8 = .own (n + 2) 0 M.m ∧ E 9 = .int .i64 i ∧ i ≤ M.m) (fun i => M.m - i) 0
    ⟨rfl, by simp -implicitDefEqProofs only [upd_same, upd_n1], by simp -implicitDefEqProofs only [Nat.reduceBEq, upd_same, upd_lit, mix_zero], by simp -implicitDefEqProofs only [upd_same], fun c hc => by rw [upd_ne _ _ (by omega), upd_ne _ _ (by omega), upd_ne _ _ (by omega)], rfl, rfl, rfl, rfl, by omega⟩ ?_
  rintro i E H' n' ⟨rfl, h0, h1, h2, ho, e3, e7, e8, e9, hi⟩
  have ha1 := dg_lo (p := (k : Int) + 2) (x := a) (by omega) i
  have ha2 := dg_hi (p := (k : Int) + 2) (x := a) (by omega) i
  have hb1 := dg_lo (p := (k : Int) + 2) (x := b) (by omega) i
  have hb2 := dg_hi (p := (k : Int) + 2) (x := b) (by omega) i
  simp -implicitDefEqProofs only [gev_t, st_same, st_ne, e_nil, e_cons, e_kops, e_some, e_mov, e_bin, e_lss, e_len, e_len_own, w_region, w_seq, w_cond, s_n, Nat.reduceLT, Nat.reduceBEq, e7, e9]
  refine c_split (fun hc => ?_) (fun hc => ?_)
  · have hiN : i < M.m := by omega
    have hw := wrap64 (x := dg ((k : Int) + 2) a i + dg ((k : Int) + 2) b i) (by omega)
    have hw2 := wrap64 (x := (i : Int) + 1) (by omega)
    have hne : ((k : Int) + 2 = 0) = False := by simp; omega
    have ht := tmod_nn (a := dg ((k : Int) + 2) a i + dg ((k : Int) + 2) b i) (b := (k : Int) + 2) (by omega)
    simp -implicitDefEqProofs only [gev_t, gev_c, st_same, st_ne, e_nil, e_cons, e_kops, e_kops_none, e_some, e_mov, e_bin, e_add, e_rem, e_faddr, e_faddr_ptr, e_iaddr, e_iaddr_own, e_store, e_gc_int, w_skip, w_region, w_seq, w_block, w_draw, s_n, b_n, d_kdr, m_nil, m_cons, m_kmops, m_kpm, m_load, Nat.reduceLT, Nat.reduceBEq, decide_true, Int.toNat_natCast, List.length_cons, List.length_nil, setL_nil, setL_cons, e_store_ptr, e_stp, gat_0, cell_int, true_and, and_self, if_true, if_false, List.all_cons, List.all_nil, Bool.and_self, Nat.add_zero, Nat.zero_add, Nat.mul_one, tab_len, tab_set, it_upf, m_p_mov, m_p_bin, m_p_fieldAddr, m_p_indexAddr, m_cell_ptr, m_cl1, Nat.lt_add_one, ns2, Int.natCast_nonneg, it_at, ns12, Nat.add_lt_add_iff_left, Nat.lt_add_right_iff_pos, e3, e7, e8, e9, h0, h1, h2, hc, hiN, gat_tab, mix_at, hw, hw2, hne, ht]
    repeat with_reducible refine And.intro (by omega) ?_
    refine l_n ⟨i + 1, by omega, rfl, ?_⟩
    simp -implicitDefEqProofs only [st_same, st_ne, Nat.reduceBEq, upd_same, upd_n1, true_and, upd_lit, e3, e7, e8, h0, h2]
    refine ⟨?_, fun c hc => by rw [upd_ne _ _ (by omega)]; exact ho c hc, rfl, by omega⟩
    exact congrArg some (congrArg (tab M.m) (congrArg it (mix_step (fun j => (dg ((k : Int) + 2) a j + dg ((k : Int) + 2) b j) % ((k : Int) + 2)) _ i)))
  · have : i = M.m := by omega
    subst this
    simp -implicitDefEqProofs only [gev_t, st_same, st_ne, e_cons, e_kops, e_mov, e_load, e_call, w_region, w_seq, w_exit, s_n, s_x, b_x, l_x, Nat.reduceLT, Nat.reduceBEq, List.length_cons, List.length_nil, e_cell_ptr, e_clm, true_and, if_true, List.drop_zero, List.take_zero, List.take_succ_cons, Nat.zero_add, List.map_cons, List.map_nil, ns2, ns12, Nat.le_refl, e3, e7, h0]
    refine call_of (sp_ref04_Value' h (n + 1) M.m _ (by omega) h1 (Nat.le_refl _) fun j hj => ?_) ?_
    · rw [mix_lt _ _ hj]
      exact ⟨Int.emod_nonneg _ (by omega), Int.emod_lt_of_pos _ (by omega)⟩
    · simp -implicitDefEqProofs only [gev_t, st_same, e_nil, e_cons, e_kops, e_mov, w_ret, s_n, Nat.lt_add_one]
      refine fin_ret rfl (by decide) (fz_int ?_) ho
      exact vs_congr _ _ fun j hj => mix_lt _ _ hj
end
end Go.Proofs.Ytdpibcniodhinaa.Gh
/- Products of residues by rows of coefficients: the plain laws. -/
namespace Go.Proofs.Ytdpibcniodhinaa.Gh
open Go Go.RowKit
open Alg (CR Fd Ps Dg Zm Mn El Cg sm pw sm_succ sm_congr sm_zero sm_ext sm_single sm_const_zero)
set_option linter.unusedVariables false
set_option linter.unusedSimpArgs false

section
variable {k : Nat} {M : Mn k}
/-- the sum of the products so far -/
def mS (m : Nat) (A B : Nat → Zm k) (i j t : Nat) : Zm k := sm i (fun i' => sm m fun j' => if i' + j' = t then A i' * B j' else 0) + sm j fun j' => if i + j' = t then A i * B j' else 0
theorem mS_zero (m : Nat) (A B : Nat → Zm k) (t : Nat) : mS m A B 0 0 t = 0 := Alg.add_zero _
theorem mS_step (m : Nat) (A B : Nat → Zm k) (i j t : Nat) : mS m A B i (j + 1) t = mS m A B i j t + if i + j = t then A i * B j else 0 := by
  simp only [mS, sm_succ, Alg.add_assoc]
theorem mS_row (m : Nat) (A B : Nat → Zm k) (i t : Nat) : mS m A B (i + 1) 0 t = mS m A B i m t := by
  simp only [mS, sm_succ, sm_zero, Alg.add_zero]
theorem mS_all {m : Nat} {A B : Ps (Zm k)} (hA : Dg A m) (hB : Dg B m) (t : Nat) : mS m A.co B.co m 0 t = (A * B).co t := by
  rw [Alg.co_mul]
  simp only [mS, sm_zero, Alg.add_zero]
  have inner : ∀ i', (sm m fun j' => if i' + j' = t then A.co i' * B.co j' else 0) = if i' ≤ t then A.co i' * B.co (t - i') else 0 := by
    intro i'
    by_cases h : i' ≤ t
    · rw [if_pos h]
      by_cases h2 : t - i' < m
      · rw [sm_single h2 fun j hj hne => if_neg (by omega), if_pos (by omega)]
      · rw [hB (t - i') (by omega), Alg.mul_zero]
        exact sm_const_zero fun j hj => if_neg (by omega)
    · rw [if_neg h]
      exact sm_const_zero fun j hj => if_neg (by omega)
  rw [sm_congr fun i' _ => inner i']
  have e1 : (sm (t + 1) fun i => A.co i * B.co (t - i)) = sm (t + 1) fun i => if i ≤ t then A.co i * B.co (t - i) else 0 := sm_congr fun i hi => by rw [if_pos (by omega)]
  rw [e1]
  rcases Nat.le_total m (t + 1) with h | h
  · refine (sm_ext h fun i h1 h2 => ?_).symm
    rw [if_pos (by omega), hA i h1, Alg.zero_mul]
  · exact sm_ext h fun i h1 h2 => if_neg (by omega)

/-- the coefficients below n -/
def trc (c : Nat → Int) (n : Nat) : Ps (Zm k) := ⟨fun t => if t < n then Zm.of (c t) else 0⟩
theorem trc_dg (c : Nat → Int) (n : Nat) : Dg (trc (k := k) c n) n := fun t ht => if_neg (by omega)
/-- one step of the reduction, up to its j-th coefficient -/
def rdc (M : Mn k) (c : Nat → Int) (i j : Nat) : Nat → Int := fun t => if i - M.m ≤ t ∧ t < i - M.m + j then (c t + ((k : Int) + 2 - c i) * (M.f.co (t - (i - M.m))).v) % ((k : Int) + 2) else c t
theorem rdc_zero (c : Nat → Int) (i : Nat) : rdc M c i 0 = c := by funext t; exact if_neg (by omega)
theorem rdc_step (c : Nat → Int) {i j : Nat} (hi : M.m ≤ i) (hj : j < M.m) : upf (rdc M c i j) (i - M.m + j) ((rdc M c i j (i - M.m + j) + ((k : Int) + 2 - rdc M c i j i) * (M.f.co j).v) % ((k : Int) + 2)) = rdc M c i (j + 1) := by
  have h1 : rdc M c i j i = c i := if_neg (by omega)
  have h2 : rdc M c i j (i - M.m + j) = c (i - M.m + j) := if_neg (by omega)
  rw [h1, h2]
  funext t
  simp only [upf, rdc]
  by_cases e : t = i - M.m + j
  · subst e; rw [if_pos rfl, if_pos (by omega), show i - M.m + j - (i - M.m) = j by omega]
  · rw [if_neg e]
    by_cases h3 : i - M.m ≤ t ∧ t < i - M.m + j
    · rw [if_pos h3, if_pos (by omega)]
    · rw [if_neg h3, if_neg (by omega)]
theorem rdc_cg (c : Nat → Int) {i : Nat} (hi : M.m ≤ i) : Cg M (trc c (i + 1)) (trc (rdc M c i M.m) i) := by
  refine ⟨i - M.m + 1, Alg.mono (Zm.of (c i)) (i - M.m), Dg.monom _ _, ?_⟩
  apply Ps.ext'
  intro t
  rw [Alg.co_add, Alg.co_mono_mul]
  show (if t < i + 1 then Zm.of (c t) else 0) = (if i - M.m ≤ t then Zm.of (c i) * M.f.co (t - (i - M.m)) else 0) + if t < i then Zm.of (rdc M c i M.m t) else 0
  by_cases h1 : t < i
  · rw [if_pos (by omega), if_pos h1]
    by_cases h2 : i - M.m ≤ t
    · rw [if_pos h2]
      have : rdc M c i M.m t = (c t + ((k : Int) + 2 - c i) * (M.f.co (t - (i - M.m))).v) % ((k : Int) + 2) := if_pos (by omega)
      rw [this]
      have e1 : Zm.of (k := k) ((c t + ((k : Int) + 2 - c i) * (M.f.co (t - (i - M.m))).v) % ((k : Int) + 2)) = Zm.of (c t + ((k : Int) + 2 - c i) * (M.f.co (t - (i - M.m))).v) := Zm.of_eq (Int.emod_emod_of_dvd _ (Int.dvd_refl _))
      rw [e1, Zm.of_add, Zm.of_mul, Zm.of_self, Int.sub_eq_add_neg, Zm.of_add, Zm.of_p, Alg.zero_add, Zm.of_neg, Alg.neg_mul, Alg.add_left_comm, Alg.add_neg, Alg.add_zero]
    · rw [if_neg h2, Alg.zero_add]
      have : rdc M c i M.m t = c t := if_neg (by omega)
      rw [this]
  · rw [if_neg h1, Alg.add_zero]
    by_cases h2 : t = i
    · subst h2
      rw [if_pos (by omega), if_pos (by omega), show t - (t - M.m) = M.m by omega, M.top, Alg.mul_one]
    · rw [if_neg (by omega)]
      by_cases h3 : i - M.m ≤ t
      · rw [if_pos h3, M.dg (t - (i - M.m)) (by omega), Alg.mul_zero]
      · rw [if_neg h3]
/-- what the product is, from the coefficients that are left -/
theorem cd_mul_of {a b : El M} {c : Nat → Int} (hc : ∀ t, t < M.m → 0 ≤ c t ∧ c t < (k : Int) + 2) (h : Cg M (a.p * b.p) (trc c M.m)) : vs ((k : Int) + 2) M.m c = cd (a * b) := by
  have e : a * b = ⟨trc c M.m, trc_dg c M.m⟩ := El.mul_eq h
  rw [e]
  refine vs_congr _ _ fun j hj => ?_
  show c j = (if j < M.m then Zm.of (c j) else (0 : Zm k)).v
  rw [if_pos hj, of_v_small (hc j hj).1 (hc j hj).2]
end
end Go.Proofs.Ytdpibcniodhinaa.Gh
/- The reference's product. -/
namespace Go.Proofs.Ytdpibcniodhinaa.Gh
open Go Go.RowKit
open Alg (CR Fd Ps Dg Zm Mn El Cg sm pw)
set_option linter.unusedVariables false
set_option linter.unusedSimpArgs false

section
variable {k : Nat} {M : Mn k}
def mulR (M : Mn k) (n : Nat) (H : Heap) (a b : Int) (c : Nat → Int) (E : Env) (H' : Heap) (n' : Nat) : Prop :=
  n' = n + 4 ∧ H' n = some [.int .i64 ((k : Int) + 2), .int .i64 (M.m : Nat), fmod M] ∧ H' (n + 1) = some (tab M.m (it (dg ((k : Int) + 2) a))) ∧ H' (n + 2) = some (tab M.m (it (dg ((k : Int) + 2) b))) ∧
  H' (n + 3) = some (tab (2 * M.m - 1) (it c)) ∧ (∀ b, b < n → H' b = H b) ∧ E 3 = .ptr n 0 ∧ E 7 = .own (n + 1) 0 M.m ∧ E 8 = .own (n + 2) 0 M.m ∧ E 9 = .own (n + 3) 0 (2 * M.m - 1) ∧ ∀ t, t < 2 * M.m - 1 → 0 ≤ c t ∧ c t < (k : Int) + 2

theorem upf_range {p : Int} {N : Nat} {c : Nat → Int} (h : ∀ t, t < N → 0 ≤ c t ∧ c t < p) {i : Nat} {x : Int} (h0 : 0 ≤ x) (h1 : x < p) : ∀ t, t < N → 0 ≤ upf c i x t ∧ upf c i x t < p := by
  intro t ht
  by_cases e : t = i
  · subst e; rw [upf_same]; exact ⟨h0, h1⟩
  · rw [upf_ne _ _ e]; exact h t ht

theorem sp_ref04_Mul {H : Heap} {n : Nat} (h : Fc M) (x y : Int) : Spec prog fid_ref04_Mul [fd M, .int .i64 x, .int .i64 y] H n (.int .i64 (cd (ein M x * ein M y))) H n := by
  refine spec_ends hmix ok_ref04_Mul rfl fun hF => ?_
  show gw prog B_ref04_Mul _ (tl 117 _) H n
  have hp := h.p256
  have hm8 := h.m8
  have hm0 := M.pos
  have hw1 := wrap64 (x := 2 * (M.m : Int)) (by omega)
  have hw2 : IntKind.i64.wrap (2 * (M.m : Int) - 1) = ((2 * M.m - 1 : Nat) : Int) := (wrap64 (by omega)).trans (by omega)
  have hne : ((k : Int) + 2 = 0) = False := by simp; omega
  simp -implicitDefEqProofs only [B_ref04_Mul, fd, gev_t, gev_c, st_same, st_ne, mkE_nil, mkE_cons, e_nil, e_cons, e_kops, e_mov, e_load, e_box, e_box_some, e_call, e_gc_agg, w_region, w_seq, s_n, Nat.reduceLT, Nat.reduceBEq, List.length_cons, List.length_nil, e_cell_ptr, e_clm, upd_same, true_and, List.drop_zero, List.take_zero, List.take_succ_cons, Nat.zero_add, List.map_cons, List.map_nil, ns2, ns12, Nat.le_refl]
  refine call_of (sp_ref04_Digits' h x) ?_
  simp -implicitDefEqProofs only [gev_t, st_same, st_ne, e_nil, e_cons, e_kops, e_mov, e_load, e_call, w_region, w_seq, s_n, Nat.reduceLT, Nat.reduceBEq, List.length_cons, List.length_nil, e_cell_ptr, e_clm, upd_same, upd_n1, true_and, List.drop_zero, List.take_zero, List.take_succ_cons, Nat.zero_add, List.map_cons, List.map_nil, ns2, ns12, Nat.le_refl]
  refine call_of (sp_ref04_Digits' h y) ?_
  simp -implicitDefEqProofs only [gev_t, gev_c, st_same, st_ne, e_nil, e_cons, e_kops, e_some, e_mov, e_bin, e_sub, e_mul, e_faddr, e_faddr_ptr, e_load, e_mslice, e_ms_int, w_region, w_seq, w_block, w_loop, s_n, Nat.reduceLT, Nat.reduceBEq, Int.toNat_natCast, List.length_cons, List.length_nil, e_cell_ptr, e_cl1, gat_1, upd_same, upd_n1, true_and, Nat.zero_add, ns2, Int.natCast_nonneg, ns12, ns13, hw1, hw2]
  generalize ein M x = a'
  generalize ein M y = b'
  have hA : ∀ i, i < M.m → Zm.of (dg ((k : Int) + 2) (cd a') i) = a'.p.co i := fun i hi => by rw [cd_dg a' hi, Zm.of_self]
  have hB : ∀ i, i < M.m → Zm.of (dg ((k : Int) + 2) (cd b') i) = b'.p.co i := fun i hi => by rw [cd_dg b' hi, Zm.of_self]
  repeat with_reducible refine And.intro (by omega) ?_
  refine loop_rule (fun (i : Nat) E H' n' => ∃ c, mulR M n H (cd a') (cd b') c E H' n' ∧ (∀ t, t < 2 * M.m - 1 → Zm.of (c t) = mS M.m a'.p.co b'.p.co i 0 t) ∧ E 10 = .int .i64 i ∧ i ≤ M.m) (fun i => M.m - i) 0 ?_ ?_
  · refine ⟨fun _ => 0, ⟨rfl, ?_, ?_, ?_, ?_, fun c hc => by rw [upd_ne _ _ (by omega), upd_ne _ _ (by omega), upd_ne _ _ (by omega), upd_ne _ _ (by omega)], rfl, rfl, rfl, rfl, fun t ht => ⟨Int.le_refl 0, by show (0 : Int) < (k : Int) + 2; omega⟩⟩, fun t ht => by rw [mS_zero]; rfl, rfl, by omega⟩
    · simp -implicitDefEqProofs only [upd_same, upd_n1]
    · simp -implicitDefEqProofs only [Nat.reduceBEq, upd_same, upd_lit]
    · simp -implicitDefEqProofs only [Nat.reduceBEq, upd_same, upd_lit]
    · simp -implicitDefEqProofs only [upd_same, tab_rep]; rfl
  rintro i E H' n' ⟨c, ⟨rfl, h0, h1, h2, h3, ho, e3, e7, e8, e9, hc⟩, hS, e10, hi⟩
  simp -implicitDefEqProofs only [gev_t, st_same, st_ne, e_nil, e_cons, e_kops, e_some, e_mov, e_bin, e_lss, e_faddr, e_faddr_ptr, e_load, w_region, w_seq, w_cond, s_n, Nat.reduceLT, Nat.reduceBEq, List.length_cons, List.length_nil, e_cell_ptr, e_cl1, gat_1, true_and, Nat.zero_add, ns2, ns12, e3, e10, h0]
  refine c_split (fun hlt => ?_) (fun hlt => ?_)
  · simp -implicitDefEqProofs only [gev_c, e_nil, e_cons, e_kops, e_mov, w_skip, w_region, w_seq, w_block, w_loop, s_n]
    refine loop_rule (fun (j : Nat) E H' n' => ∃ c, mulR M n H (cd a') (cd b') c E H' n' ∧ (∀ t, t < 2 * M.m - 1 → Zm.of (c t) = mS M.m a'.p.co b'.p.co i j t) ∧ E 10 = .int .i64 i ∧ E 11 = .int .i64 j ∧ j ≤ M.m) (fun j => M.m - j) 0
      ⟨c, ⟨rfl, h0, h1, h2, h3, ho, by simp -implicitDefEqProofs only [st_ne, Nat.reduceBEq, e3], by simp -implicitDefEqProofs only [st_ne, Nat.reduceBEq, e7], by simp -implicitDefEqProofs only [st_ne, Nat.reduceBEq, e8], by simp -implicitDefEqProofs only [st_ne, Nat.reduceBEq, e9], hc⟩, hS, by simp -implicitDefEqProofs only [st_ne, Nat.reduceBEq, e10], rfl, by omega⟩ ?_
    clear h0 h1 h2 h3 ho e3 e7 e8 e9 hc hS e10 c H' E
    rintro j E H' n' ⟨c, ⟨rfl, h0, h1, h2, h3, ho, e3, e7, e8, e9, hc⟩, hS, e10, e11, hj⟩
    simp -implicitDefEqProofs only [gev_t, st_same, st_ne, e_nil, e_cons, e_kops, e_some, e_mov, e_bin, e_lss, e_faddr, e_faddr_ptr, e_load, w_region, w_seq, w_cond, s_n, Nat.reduceLT, Nat.reduceBEq, List.length_cons, List.length_nil, e_cell_ptr, e_cl1, gat_1, true_and, Nat.zero_add, ns2, ns12, e3, e11, h0]
    refine c_split (fun hlt' => ?_) (fun hlt' => ?_)
    · have hiN : i < M.m := by omega
      have hjN : j < M.m := by omega
      have hijN : i + j < 2 * M.m - 1 := by omega
      have hijI : ((i + j : Nat) : Int) < ((2 * M.m - 1 : Nat) : Int) := by omega
      have hi0 := Int.natCast_nonneg (i + j)
      have hwij : IntKind.i64.wrap ((i : Int) + (j : Int)) = ((i + j : Nat) : Int) := (wrap64 (by omega)).trans (by omega)
      have hA1 := dg_lo (p := (k : Int) + 2) (x := cd a') (by omega) i
      have hA2 := dg_hi (p := (k : Int) + 2) (x := cd a') (by omega) i
      have hB1 := dg_lo (p := (k : Int) + 2) (x := cd b') (by omega) j
      have hB2 := dg_hi (p := (k : Int) + 2) (x := cd b') (by omega) j
      have hAi := hA i hiN
      have hBj := hB j hjN
      generalize hAv : dg ((k : Int) + 2) (cd a') i = A at *
      generalize hBv : dg ((k : Int) + 2) (cd b') j = B at *
      have hAB0 : 0 ≤ A * B := Int.mul_nonneg hA1 hB1
      have hAB1 : A * B ≤ 256 * 256 := Int.mul_le_mul (by omega) (by omega) hB1 (by omega)
      have hcij := hc (i + j) hijN
      have hwm := wrap64 (x := A * B) (by omega)
      have hwa := wrap64 (x := c (i + j) + A * B) (by omega)
      have ht := tmod_nn (a := c (i + j) + A * B) (b := (k : Int) + 2) (by omega)
      have hwj := wrap64 (x := (j : Int) + 1) (by omega)
      simp -implicitDefEqProofs only [gev_t, gev_c, st_same, st_ne, e_nil, e_cons, e_kops, e_kops_none, e_some, e_mov, e_bin, e_add, e_mul, e_rem, e_faddr, e_faddr_ptr, e_iaddr, e_iaddr_own, e_store, e_gc_int, w_skip, w_region, w_seq, w_block, w_draw, s_n, b_n, d_kdr, m_nil, m_cons, m_kmops, m_kpm, m_load, Nat.reduceLT, Nat.reduceBEq, decide_true, Int.toNat_natCast, List.length_cons, List.length_nil, setL_nil, setL_cons, e_store_ptr, e_stp, gat_0, cell_int, true_and, and_self, if_true, if_false, List.all_cons, List.all_nil, Bool.and_self, Nat.add_zero, Nat.zero_add, Nat.mul_one, tab_len, tab_set, it_upf, m_p_mov, m_p_bin, m_p_fieldAddr, m_p_indexAddr, m_cell_ptr, m_cl1, Nat.lt_add_one, ns2, Int.natCast_nonneg, it_at, ns12, Nat.add_lt_add_iff_left, Nat.lt_add_right_iff_pos, e3, e7, e8, e9, e10, e11, h0, h1, h2, h3, hlt, hlt', hiN, hjN, hijN, hijI, hi0, hwij, gat_tab, hAv, hBv, hwm, hwa, hne, ht, hwj]
      have hr0 : 0 ≤ (c (i + j) + A * B) % ((k : Int) + 2) := Int.emod_nonneg _ (by omega)
      have hr1 : (c (i + j) + A * B) % ((k : Int) + 2) < (k : Int) + 2 := Int.emod_lt_of_pos _ (by omega)
      repeat with_reducible refine And.intro (by omega) ?_
      refine l_n ⟨j + 1, by omega, upf c (i + j) ((c (i + j) + A * B) % ((k : Int) + 2)), ⟨rfl, by simp -implicitDefEqProofs only [upd_n1, h0], by simp -implicitDefEqProofs only [Nat.reduceBEq, upd_lit, h1], by simp -implicitDefEqProofs only [Nat.reduceBEq, upd_lit, h2], by simp -implicitDefEqProofs only [upd_same], fun b hb => by rw [upd_ne _ _ (by omega)]; exact ho b hb, by simp -implicitDefEqProofs only [st_ne, Nat.reduceBEq, e3], by simp -implicitDefEqProofs only [st_ne, Nat.reduceBEq, e7], by simp -implicitDefEqProofs only [st_ne, Nat.reduceBEq, e8], by simp -implicitDefEqProofs only [st_ne, Nat.reduceBEq, e9], upf_range hc hr0 hr1⟩, fun t ht => ?_, by simp -implicitDefEqProofs only [st_ne, Nat.reduceBEq, e10], by simp -implicitDefEqProofs only [st_same]; rfl, by omega⟩
      rw [mS_step]
      by_cases e : t = i + j
      · subst e
        rw [upf_same, if_pos rfl, ← hS _ hijN, ← hAi, ← hBj, ← Zm.of_mul, ← Zm.of_add]
        exact Zm.of_eq (Int.emod_emod_of_dvd _ (Int.dvd_refl _))
      · rw [upf_ne _ _ e, if_neg (by omega), Alg.add_zero]; exact hS t ht
    · have : j = M.m := by omega
      subst this
      have hwi := wrap64 (x := (i : Int) + 1) (by omega)
      simp -implicitDefEqProofs only [gev_t, gev_c, st_same, st_ne, e_nil, e_cons, e_kops, e_some, e_mov, e_bin, e_add, e_faddr, w_region, w_seq, w_exit, s_n, s_x, b_n, b_x, l_x, Nat.reduceLT, Nat.reduceBEq, Nat.reduceEqDiff, if_true, if_false, e10, hwi]
      exact l_n ⟨i + 1, by omega, c, ⟨rfl, h0, h1, h2, h3, ho, by simp -implicitDefEqProofs only [st_ne, Nat.reduceBEq, e3], by simp -implicitDefEqProofs only [st_ne, Nat.reduceBEq, e7], by simp -implicitDefEqProofs only [st_ne, Nat.reduceBEq, e8], by simp -implicitDefEqProofs only [st_ne, Nat.reduceBEq, e9], hc⟩, fun t ht => by rw [mS_row]; exact hS t ht, by simp -implicitDefEqProofs only [st_same]; rfl, by omega⟩
  · have : i = M.m := by omega
    subst this
    have hw3 : IntKind.i64.wrap (2 * (M.m : Int) - 2) = ((2 * M.m - 1 : Nat) : Int) - 1 := (wrap64 (by omega)).trans (by omega)
    simp -implicitDefEqProofs only [gev_t, gev_c, st_same, st_ne, e_nil, e_cons, e_kops, e_some, e_mov, e_bin, e_sub, e_mul, e_faddr, e_faddr_ptr, e_load, w_region, w_seq, w_block, w_exit, w_loop, s_n, s_x, b_x, l_x, Nat.reduceLT, Nat.reduceBEq, List.length_cons, List.length_nil, e_cell_ptr, e_cl1, gat_1, true_and, if_true, Nat.zero_add, ns2, ns12, e3, h0, hw1, hw3]
    have hS0 : Cg M (a'.p * b'.p) (trc c (2 * M.m - 1)) := by
      have : a'.p * b'.p = trc c (2 * M.m - 1) := by
        apply Ps.ext'
        intro t
        show _ = if t < 2 * M.m - 1 then Zm.of (c t) else 0
        by_cases ht : t < 2 * M.m - 1
        · rw [if_pos ht, hS t ht, mS_all a'.dg b'.dg]
        · rw [if_neg ht]; exact Dg.mul' a'.dg b'.dg (k := 2 * M.m - 1) (by omega) t (by omega)
      rw [this]; exact Cg.refl _
    refine loop_rule (fun (i : Nat) E H' n' => ∃ c, mulR M n H (cd a') (cd b') c E H' n' ∧ Cg M (a'.p * b'.p) (trc c i) ∧ E 12 = .int .i64 ((i : Int) - 1) ∧ M.m ≤ i ∧ i ≤ 2 * M.m - 1) (fun i => i) (2 * M.m - 1)
      ⟨c, ⟨rfl, h0, h1, h2, h3, ho, by simp -implicitDefEqProofs only [st_ne, Nat.reduceBEq, e3], by simp -implicitDefEqProofs only [st_ne, Nat.reduceBEq, e7], by simp -implicitDefEqProofs only [st_ne, Nat.reduceBEq, e8], by simp -implicitDefEqProofs only [st_ne, Nat.reduceBEq, e9], hc⟩, hS0, by simp -implicitDefEqProofs only [st_same], by omega, by omega⟩ ?_
    clear h0 h1 h2 h3 ho e3 e7 e8 e9 hc hS e10 hS0 c H' E
    rintro i E H' n' ⟨c, ⟨rfl, h0, h1, h2, h3, ho, e3, e7, e8, e9, hc⟩, hS, e12, hi0, hi⟩
    simp -implicitDefEqProofs only [gev_t, st_same, st_ne, e_nil, e_cons, e_kops, e_some, e_mov, e_bin, e_geq, e_faddr, e_faddr_ptr, e_load, w_region, w_seq, w_cond, s_n, Nat.reduceLT, Nat.reduceBEq, List.length_cons, List.length_nil, e_cell_ptr, e_cl1, gat_1, true_and, Nat.zero_add, ns2, ns12, e3, e12, h0]
    refine c_split (fun hlt => ?_) (fun hlt => ?_)
    · obtain ⟨i, rfl⟩ : ∃ u, i = u + 1 := ⟨i - 1, by omega⟩
      have hi1 : ((i + 1 : Nat) : Int) - 1 = (i : Nat) := by omega
      rw [hi1] at e12 hlt
      simp -implicitDefEqProofs only [gev_c, e_nil, e_cons, e_kops, e_mov, w_skip, w_region, w_seq, w_block, w_loop, s_n]
      refine loop_rule (fun (j : Nat) E H' n' => mulR M n H (cd a') (cd b') (rdc M c i j) E H' n' ∧ E 12 = .int .i64 i ∧ E 13 = .int .i64 j ∧ j ≤ M.m) (fun j => M.m - j) 0 ?_ ?_
      · rw [rdc_zero]
        exact ⟨⟨rfl, h0, h1, h2, h3, ho, by simp -implicitDefEqProofs only [st_ne, Nat.reduceBEq, e3], by simp -implicitDefEqProofs only [st_ne, Nat.reduceBEq, e7], by simp -implicitDefEqProofs only [st_ne, Nat.reduceBEq, e8], by simp -implicitDefEqProofs only [st_ne, Nat.reduceBEq, e9], hc⟩, by simp -implicitDefEqProofs only [st_ne, Nat.reduceBEq, e12], rfl, by omega⟩
      clear h0 h1 h2 h3 ho e3 e7 e8 e9 e12 H' E
      rintro j E H' n' ⟨⟨rfl, h0, h1, h2, h3, ho, e3, e7, e8, e9, hc'⟩, e12, e13, hj⟩
      simp -implicitDefEqProofs only [gev_t, st_same, st_ne, e_nil, e_cons, e_kops, e_some, e_mov, e_bin, e_lss, e_faddr, e_faddr_ptr, e_load, w_region, w_seq, w_cond, s_n, Nat.reduceLT, Nat.reduceBEq, List.length_cons, List.length_nil, e_cell_ptr, e_cl1, gat_1, true_and, Nat.zero_add, ns2, ns12, e3, e13, h0]
      refine c_split (fun hlt' => ?_) (fun hlt' => ?_)
      · have hjN : j < M.m := by omega
        have hjI : (j : Int) < (M.m : Int) := by omega
        have hm1 : M.m ≠ 1 := by omega
        have hiN : i < 2 * M.m - 1 := by omega
        have hiI : (i : Int) < ((2 * M.m - 1 : Nat) : Int) := by omega
        have hijN : i - M.m + j < 2 * M.m - 1 := by omega
        have hijI : ((i - M.m + j : Nat) : Int) < ((2 * M.m - 1 : Nat) : Int) := by omega
        have hi0' := Int.natCast_nonneg (i - M.m + j)
        have hws : IntKind.i64.wrap ((i : Int) - (M.m : Int)) = ((i - M.m : Nat) : Int) := (wrap64 (by omega)).trans (by omega)
        have hwij : IntKind.i64.wrap (((i - M.m : Nat) : Int) + (j : Int)) = ((i - M.m + j : Nat) : Int) := (wrap64 (by omega)).trans (by omega)
        have hci := hc' i hiN
        have hcij := hc' (i - M.m + j) hijN
        have hf0 := (M.f.co j).lo
        have hf1 := (M.f.co j).hi
        have hmod : fmod M = isl M.m fun i => (M.f.co i).v := by rw [fmod, if_neg hm1]
        have hst := rdc_step (M := M) c (i := i) (j := j) (by omega) hjN
        generalize hX : rdc M c i j (i - M.m + j) = X at *
        generalize hY : rdc M c i j i = Y at *
        generalize hZ : (M.f.co j).v = Z at *
        have hP0 : 0 ≤ ((k : Int) + 2 - Y) * Z := Int.mul_nonneg (by omega) hf0
        have hP1 : ((k : Int) + 2 - Y) * Z ≤ 256 * 256 := Int.mul_le_mul (by omega) (by omega) hf0 (by omega)
        have hwd := wrap64 (x := (k : Int) + 2 - Y) (by omega)
        have hwm := wrap64 (x := ((k : Int) + 2 - Y) * Z) (by omega)
        have hwa := wrap64 (x := X + ((k : Int) + 2 - Y) * Z) (by omega)
        have ht := tmod_nn (a := X + ((k : Int) + 2 - Y) * Z) (b := (k : Int) + 2) (by omega)
        have hwj := wrap64 (x := (j : Int) + 1) (by omega)
        have hiP := Int.natCast_nonneg i
        simp -implicitDefEqProofs only [gev_t, gev_c, st_same, st_ne, e_nil, e_cons, e_kops, e_kops_none, e_some, e_mov, e_bin, e_add, e_sub, e_mul, e_rem, e_faddr, e_faddr_ptr, e_iaddr, e_iaddr_own, e_iaddr_sl, e_store, e_gc_int, w_skip, w_region, w_seq, w_block, w_draw, s_n, b_n, d_kdr, m_nil, m_cons, m_kmops, m_kpm, m_load, m_cell_pp, Nat.reduceLT, Nat.reduceBEq, decide_true, Int.toNat_natCast, List.length_cons, List.length_nil, setL_nil, setL_cons, e_store_ptr, e_stp, gat_0, gat_1, gat_2, cell_int, true_and, and_self, if_true, if_false, List.all_cons, List.all_nil, Bool.and_self, Nat.add_zero, Nat.zero_add, Nat.mul_one, tab_len, tab_set, it_upf, m_p_mov, m_p_bin, m_p_fieldAddr, m_p_indexAddr, m_cell_ptr, m_cl1, Nat.lt_add_one, ns2, Int.natCast_nonneg, it_at, ns12, Nat.lt_add_right_iff_pos, e3, e9, e12, e13, h0, h3, hjI, hjN, hiN, hiI, hijN, hijI, hi0', hws, hwij, hmod, gat_tab, hX, hY, hZ, hwd, hwm, hwa, hne, ht, hwj]
        have hr0 : 0 ≤ (X + ((k : Int) + 2 - Y) * Z) % ((k : Int) + 2) := Int.emod_nonneg _ (by omega)
        have hr1 : (X + ((k : Int) + 2 - Y) * Z) % ((k : Int) + 2) < (k : Int) + 2 := Int.emod_lt_of_pos _ (by omega)
        have hc2 := upf_range hc' (i := i - M.m + j) hr0 hr1
        rw [hst] at hc2 ⊢
        repeat with_reducible refine And.intro (by omega) ?_
        exact l_n ⟨j + 1, by omega, ⟨rfl, by simp -implicitDefEqProofs only [upd_n1, h0], by simp -implicitDefEqProofs only [Nat.reduceBEq, upd_lit, h1], by simp -implicitDefEqProofs only [Nat.reduceBEq, upd_lit, h2], by simp -implicitDefEqProofs only [upd_same], fun b hb => by rw [upd_ne _ _ (by omega)]; exact ho b hb, by simp -implicitDefEqProofs only [st_ne, Nat.reduceBEq, e3], by simp -implicitDefEqProofs only [st_ne, Nat.reduceBEq, e7], by simp -implicitDefEqProofs only [st_ne, Nat.reduceBEq, e8], by simp -implicitDefEqProofs only [st_ne, Nat.reduceBEq, e9], hc2⟩, by simp -implicitDefEqProofs only [st_ne, Nat.reduceBEq, e12], by simp -implicitDefEqProofs only [st_same]; rfl, by omega⟩
      · have : j = M.m := by omega
        subst this
        have hwi := wrap64 (x := (i : Int) - 1) (by omega)
        simp -implicitDefEqProofs only [gev_t, gev_c, st_same, st_ne, e_nil, e_cons, e_kops, e_some, e_mov, e_bin, e_sub, w_region, w_seq, w_exit, w_draw, s_n, s_x, b_n, b_x, l_x, m_cons, m_load, Nat.reduceLT, Nat.reduceBEq, Nat.reduceEqDiff, if_true, if_false, e12, hwi]
        exact l_n ⟨i, by omega, rdc M c i M.m, ⟨rfl, h0, h1, h2, h3, ho, by simp -implicitDefEqProofs only [st_ne, Nat.reduceBEq, e3], by simp -implicitDefEqProofs only [st_ne, Nat.reduceBEq, e7], by simp -implicitDefEqProofs only [st_ne, Nat.reduceBEq, e8], by simp -implicitDefEqProofs only [st_ne, Nat.reduceBEq, e9], hc'⟩, hS.trans (rdc_cg c (by omega)), by simp -implicitDefEqProofs only [st_same], by omega, by omega⟩
    · have : i = M.m := by omega
      subst this
      have hle : (M.m : Int) ≤ ((2 * M.m - 1 : Nat) : Int) := by omega
      have hleN : M.m ≤ 2 * M.m - 1 := by omega
      have hiP := Int.natCast_nonneg M.m
      simp -implicitDefEqProofs only [gev_t, st_same, st_ne, e_cons, e_some, e_mov, e_faddr, e_faddr_ptr, e_call, w_seq, w_exit, w_draw, s_n, s_x, b_x, l_x, d_kdr, m_nil, m_cons, m_kmops, m_kpm, m_load, Nat.reduceLT, Nat.reduceBEq, Int.toNat_natCast, List.length_cons, List.length_nil, gat_1, true_and, and_self, if_true, List.drop_zero, List.take_zero, List.take_succ_cons, Nat.add_zero, Nat.zero_add, List.map_cons, List.map_nil, m_p_mov, m_p_fieldAddr, m_p_slice, m_cell_ptr, m_cl1, m_clm, ns2, Int.natCast_nonneg, ns12, e_slice, e_bd_none, e_bd_some, e_hbd, e_sl_own, e_hso, Nat.sub_zero, Nat.zero_le, Nat.le_refl, Nat.lt_add_right_iff_pos, e3, e9, h0, hleN]
      repeat with_reducible refine And.intro (by omega) ?_
      refine call_of (sp_ref04_Value' h (n + 3) (2 * M.m - 1) c (by omega) h3 (by omega) fun j hj => hc j (by omega)) ?_
      simp -implicitDefEqProofs only [gev_t, st_same, e_nil, e_cons, e_kops, e_mov, w_ret, s_n, Nat.lt_add_one]
      refine fin_ret rfl (by decide) (fz_int ?_) ho
      exact cd_mul_of (fun t ht => hc t (by omega)) hS
end
end Go.Proofs.Ytdpibcniodhinaa.Gh
/- Products of residues by Horner's rule: the plain law, and the program's product. -/
namespace Go.Proofs.Ytdpibcniodhinaa.Gh
open Go Go.RowKit
open Alg (CR Fd Ps Dg Zm Mn El Cg sm pw)
set_option linter.unusedVariables false
set_option linter.unusedSimpArgs false

section
variable {k : Nat} {M : Mn k}
/-- moved up by one -/
def shl (c : Nat → Int) : Nat → Int := fun t => if t = 0 then 0 else c (t - 1)
/-- one round of Horner's rule, up to its j-th coefficient -/
def hor (M : Mn k) (A : Nat → Int) (b : Int) (c : Nat → Int) (j : Nat) : Nat → Int := fun t => if t < j then (shl c t + ((k : Int) + 2 - c (M.m - 1)) * (M.f.co t).v + b * A t) % ((k : Int) + 2) else shl c t
theorem hor_zero (A : Nat → Int) (b : Int) (c : Nat → Int) : hor M A b c 0 = shl c := by funext t; exact if_neg (by omega)
theorem hor_at (A : Nat → Int) (b : Int) (c : Nat → Int) (j : Nat) : hor M A b c j j = shl c j := if_neg (by omega)
theorem hor_step (A : Nat → Int) (b : Int) (c : Nat → Int) (j : Nat) : upf (hor M A b c j) j ((shl c j + ((k : Int) + 2 - c (M.m - 1)) * (M.f.co j).v + b * A j) % ((k : Int) + 2)) = hor M A b c (j + 1) := by
  funext t
  simp only [upf, hor]
  by_cases e : t = j
  · subst e; rw [if_pos rfl, if_pos (by omega)]
  · rw [if_neg e]
    by_cases h3 : t < j
    · rw [if_pos h3, if_pos (by omega)]
    · rw [if_neg h3, if_neg (by omega)]
theorem hor_range {A : Nat → Int} {b : Int} {c : Nat → Int} (hc : ∀ t, t < M.m → 0 ≤ c t ∧ c t < (k : Int) + 2) (j : Nat) : ∀ t, t < M.m → 0 ≤ hor M A b c j t ∧ hor M A b c j t < (k : Int) + 2 := by
  intro t ht
  simp only [hor]
  split
  · exact ⟨Int.emod_nonneg _ (by omega), Int.emod_lt_of_pos _ (by omega)⟩
  · simp only [shl]
    split
    · omega
    · exact hc _ (by omega)
theorem trc_dgm (c : Nat → Int) : Dg (trc (k := k) c M.m) M.m := trc_dg c _
theorem hor_cg {A : Nat → Int} {a : El M} (hA : ∀ i, i < M.m → Zm.of (A i) = a.p.co i) {b : Int} {c : Nat → Int} {D : Ps (Zm k)} (h : Cg M (D * a.p) (trc c M.m)) : Cg M ((Alg.mono 1 1 * D + Alg.mono (Zm.of b) 0) * a.p) (trc (hor M A b c M.m) M.m) := by
  have h1 : Cg M (Alg.mono 1 1 * (D * a.p)) (Alg.mono 1 1 * trc c M.m) := h.mul_left _ (Dg.monom _ _)
  have h2 : Cg M (Alg.mono 1 1 * trc c M.m) (Alg.mono 1 1 * trc c M.m + -(Alg.mono (Zm.of (c (M.m - 1))) 0 * M.f)) := ⟨1, Alg.mono (Zm.of (c (M.m - 1))) 0, Dg.monom _ _, by
    rw [Alg.add_left_comm, Alg.add_neg, Alg.add_zero]⟩
  have h3 := ((h1.trans h2).add (Cg.refl (M := M) (Alg.mono (Zm.of b) 0 * a.p)))
  rw [Alg.add_mul, Alg.mul_assoc]
  refine h3.trans ?_
  have e : Alg.mono 1 1 * trc c M.m + -(Alg.mono (Zm.of (c (M.m - 1))) 0 * M.f) + Alg.mono (Zm.of b) 0 * a.p = trc (hor M A b c M.m) M.m := by
    apply Ps.ext'
    intro t
    rw [Alg.co_add, Alg.co_add, Alg.co_neg, Alg.co_mono_mul, Alg.co_mono_mul, Alg.co_mono_mul, if_pos (Nat.zero_le _), if_pos (Nat.zero_le _), Nat.sub_zero, Alg.one_mul]
    show (if 1 ≤ t then (if t - 1 < M.m then Zm.of (c (t - 1)) else 0) else 0) + _ + _ = if t < M.m then Zm.of (hor M A b c M.m t) else 0
    by_cases ht : t < M.m
    · rw [if_pos ht]
      have e1 : hor M A b c M.m t = (shl c t + ((k : Int) + 2 - c (M.m - 1)) * (M.f.co t).v + b * A t) % ((k : Int) + 2) := if_pos ht
      have e2 : Zm.of (k := k) ((shl c t + ((k : Int) + 2 - c (M.m - 1)) * (M.f.co t).v + b * A t) % ((k : Int) + 2)) = Zm.of (shl c t + ((k : Int) + 2 - c (M.m - 1)) * (M.f.co t).v + b * A t) := Zm.of_eq (Int.emod_emod_of_dvd _ (Int.dvd_refl _))
      rw [e1, e2, Zm.of_add, Zm.of_add, Zm.of_mul, Zm.of_mul, Zm.of_self, Int.sub_eq_add_neg, Zm.of_add, Zm.of_p, Alg.zero_add, Zm.of_neg, Alg.neg_mul, hA t ht]
      congr 2
      by_cases h0 : t = 0
      · subst h0; rfl
      · rw [if_pos (by omega), if_pos (by omega)]
        have : shl c t = c (t - 1) := if_neg h0
        rw [this]
    · rw [if_neg ht, a.dg t (by omega), Alg.mul_zero, Alg.add_zero, if_pos (by have := M.pos; omega)]
      by_cases h1 : t = M.m
      · subst h1
        rw [if_pos (by have := M.pos; omega), M.top, Alg.mul_one, Alg.add_neg]
      · rw [if_neg (by omega), M.dg t (by omega), Alg.mul_zero, Alg.zero_add, Alg.neg_zero]
  rw [e]; exact Cg.refl _
/-- the upper coefficients, moved down -/
def upper (b : El M) (i : Nat) : Ps (Zm k) := ⟨fun t => b.p.co (i + t)⟩
theorem upper_top (b : El M) : upper b M.m = 0 := Ps.ext' fun t => b.dg _ (by omega)
theorem upper_zero (b : El M) : upper b 0 = b.p := Ps.ext' fun t => by show b.p.co (0 + t) = _; rw [Nat.zero_add]
theorem upper_step (b : El M) (i : Nat) : upper b i = Alg.mono 1 1 * upper b (i + 1) + Alg.mono (b.p.co i) 0 := by
  apply Ps.ext'
  intro t
  rw [Alg.co_add, Alg.co_mono_mul, Alg.co_mono]
  show b.p.co (i + t) = (if 1 ≤ t then 1 * b.p.co (i + 1 + (t - 1)) else 0) + _
  by_cases h : t = 0
  · subst h; rw [if_neg (by omega), if_pos rfl, Alg.zero_add]; rfl
  · rw [if_pos (by omega), if_neg h, Alg.add_zero, Alg.one_mul, show i + 1 + (t - 1) = i + t by omega]
end
end Go.Proofs.Ytdpibcniodhinaa.Gh
/- The program's product of residues. -/
namespace Go.Proofs.Ytdpibcniodhinaa.Gh
open Go Go.RowKit
open Alg (CR Fd Ps Dg Zm Mn El Cg sm pw)
set_option linter.unusedVariables false
set_option linter.unusedSimpArgs false

section
variable {k : Nat} {M : Mn k}
def mulP (M : Mn k) (n : Nat) (H : Heap) (a b : Int) (c : Nat → Int) (E : Env) (H' : Heap) (n' : Nat) : Prop :=
  n' = n + 3 ∧ H' n = some [.int .i64 ((k : Int) + 2), .int .i64 (M.m : Nat), fmod M] ∧ H' (n + 1) = some (tab M.m (it (dg ((k : Int) + 2) b))) ∧
  H' (n + 2) = some (tab M.m (it c)) ∧ (∀ b, b < n → H' b = H b) ∧ E 3 = .ptr n 0 ∧ E 7 = isl M.m (dg ((k : Int) + 2) a) ∧ E 8 = .own (n + 1) 0 M.m ∧ E 9 = .own (n + 2) 0 M.m ∧ ∀ t, t < M.m → 0 ≤ c t ∧ c t < (k : Int) + 2

theorem sp_field_multiply {H : Heap} {n : Nat} (h : Fc M) (x y : El M) : Spec prog fid_field_multiply [fd M, .int .i64 (cd x), .int .i64 (cd y)] H n (.int .i64 (cd (x * y))) H n := by
  refine spec_ends hmix ok_field_multiply rfl fun hF => ?_
  show gw prog B_field_multiply _ (tl 97 _) H n
  have hp := h.p256
  have hm8 := h.m8
  have hm0 := M.pos
  have hmP := Int.natCast_nonneg M.m
  have hq := h.q
  have hx := cd_nn x
  have hy := cd_nn y
  have hqq : qq M = ((k : Int) + 2) ^ M.m := rfl
  have hne : ((k : Int) + 2 = 0) = False := by simp; omega
  have hwm := wrap64 (x := (M.m : Int) - 1) (by omega)
  simp -implicitDefEqProofs only [B_field_multiply, fd, gev_t, gev_c, st_same, st_ne, mkE_nil, mkE_cons, e_nil, e_cons, e_kops, e_some, e_mov, e_faddr, e_faddr_ptr, e_box, e_box_some, e_gc_agg, w_region, w_seq, w_draw, s_n, m_cons, m_kmops, m_kpm, m_load, m_call, Nat.reduceLT, Nat.reduceBEq, List.length_cons, List.length_nil, gat_0, gat_1, upd_same, true_and, Nat.add_zero, Nat.zero_add, List.map_cons, List.map_nil, m_p_mov, m_p_fieldAddr, m_cell_ptr, m_cl1, Nat.lt_add_one, ns2, ns12]
  refine mcall_of (pl_isl _ _).nr (fun H' n' _ _ => (sp_field_digitsOf (cd x) ((k : Int) + 2) M.m hx.1 (by omega) (by omega) (by omega)).frozen tab_len (pl_tab fun i _ => .int _ _)) ?_
  simp -implicitDefEqProofs only [gev_t, st_same, st_ne, e_cons, e_some, e_mov, e_faddr, e_faddr_ptr, e_call, d_kdr, m_nil, m_cons, m_kmops, m_kpm, m_load, Nat.reduceLT, Nat.reduceBEq, List.length_cons, List.length_nil, gat_0, gat_1, upd_same, true_and, Nat.add_zero, Nat.zero_add, List.map_cons, List.map_nil, m_p_mov, m_p_fieldAddr, m_cell_ptr, m_cl1, Nat.lt_add_one, ns2, ns12]
  refine call_of (sp_field_digitsOf (cd y) ((k : Int) + 2) M.m hy.1 (by omega) (by omega) (by omega)) ?_
  simp -implicitDefEqProofs only [gev_t, gev_c, st_same, st_ne, e_nil, e_cons, e_kops, e_some, e_mov, e_bin, e_sub, e_faddr, e_faddr_ptr, e_load, e_mslice, e_ms_int, w_region, w_seq, w_block, w_loop, s_n, Nat.reduceLT, Nat.reduceBEq, Int.toNat_natCast, List.length_cons, List.length_nil, e_cell_ptr, e_cl1, gat_1, upd_same, upd_n1, true_and, Nat.zero_add, ns2, ns12, hmP, hwm]
  repeat with_reducible refine And.intro (by omega) ?_
  have hA : ∀ i, i < M.m → Zm.of (dg ((k : Int) + 2) (cd x) i) = x.p.co i := fun i hi => by rw [cd_dg x hi, Zm.of_self]
  have hB : ∀ i, i < M.m → Zm.of (dg ((k : Int) + 2) (cd y) i) = y.p.co i := fun i hi => by rw [cd_dg y hi, Zm.of_self]
  refine loop_rule (fun (i : Nat) E H' n' => ∃ c, mulP M n H (cd x) (cd y) c E H' n' ∧ Cg M (upper y i * x.p) (trc c M.m) ∧ E 10 = .int .i64 ((i : Int) - 1) ∧ i ≤ M.m) (fun i => i) M.m ?_ ?_
  · refine ⟨fun _ => 0, ⟨rfl, ?_, ?_, ?_, fun c hc => by rw [upd_ne _ _ (by omega), upd_ne _ _ (by omega), upd_ne _ _ (by omega)], rfl, rfl, rfl, rfl, fun t ht => ⟨Int.le_refl 0, by show (0 : Int) < (k : Int) + 2; omega⟩⟩, ?_, rfl, Nat.le_refl _⟩
    · simp -implicitDefEqProofs only [upd_same, upd_n1]
    · simp -implicitDefEqProofs only [Nat.reduceBEq, upd_same, upd_lit]
    · simp -implicitDefEqProofs only [upd_same, tab_rep]; rfl
    · rw [upper_top, Alg.zero_mul]
      have : trc (k := k) (fun _ => 0) M.m = 0 := Ps.ext' fun t => by show (if t < M.m then Zm.of 0 else 0) = 0; split <;> rfl
      rw [this]; exact Cg.refl _
  rintro i E H' n' ⟨c, ⟨rfl, h0, h1, h2, ho, e3, e7, e8, e9, hc⟩, hS, e10, hi⟩
  simp -implicitDefEqProofs only [gev_t, gev_c, st_same, e_nil, e_cons, e_kops, e_some, e_mov, e_bin, e_geq, w_region, w_seq, w_cond, s_n, Nat.reduceLT, e10]
  refine c_split (fun hlt => ?_) (fun hlt => ?_)
  · obtain ⟨i, rfl⟩ : ∃ u, i = u + 1 := ⟨i - 1, by omega⟩
    have hi1 : ((i + 1 : Nat) : Int) - 1 = (i : Nat) := by omega
    rw [hi1] at e10
    have hmm : (M.m : Int) - 1 = ((M.m - 1 : Nat) : Int) := by omega
    have hmm1 := Int.natCast_nonneg (M.m - 1)
    have hmm2 : ((M.m - 1 : Nat) : Int) < (M.m : Int) := by omega
    have hmm3 : M.m - 1 < M.m := by omega
    have hwm2 := wrap64 (x := ((M.m - 1 : Nat) : Int)) (by omega)
    have h01 : (0 : Int) ≤ 1 := by omega
    have h11 : (1 : Int).toNat = 1 := rfl
    have h00 : (0 : Int).toNat = 0 := rfl
    have h000 : (0 : Int) ≤ 0 := by omega
    have h1m : 1 ≤ M.m := by omega
    have hm1m : M.m - 1 ≤ M.m := by omega
    have hmin : min (M.m - 1) (M.m - 1) = M.m - 1 := Nat.min_self _
    have htk : (tab M.m (it c)).take (M.m - 1) = tab (M.m - 1) (it c) := tab_take _ hm1m
    have htk2 : (tab (M.m - 1) (it c)).take (M.m - 1) = tab (M.m - 1) (it c) := tab_take _ (Nat.le_refl _)
    have hset : tab M.m (upf (fun j => if 1 ≤ j ∧ j < 1 + (M.m - 1) then GV.int .i64 (c (j - 1)) else GV.int .i64 (c j)) 0 (.int .i64 0)) = tab M.m (it (hor M (dg ((k : Int) + 2) (cd x)) (dg ((k : Int) + 2) (cd y) i) c 0)) := tab_congr fun j hj => by
      rw [hor_zero]
      simp only [upf, it]
      by_cases hj0 : j = 0
      · subst hj0; rw [if_pos rfl]; rfl
      · rw [if_neg hj0, if_pos (by omega), shl, if_neg hj0]
    have hst := setL_tabs (m := M.m) (f := it c) (g := it c) (M.m - 1) 1 (by omega)
    have h0m : (0 : Int) < (M.m : Int) := by omega
    have hle1 : 1 + (M.m - 1) ≤ M.m := by omega
    have hle0 : 0 < M.m := hm0
    have hle2 : M.m - 1 ≤ M.m := by omega
    simp -implicitDefEqProofs only [gev_t, gev_c, st_same, st_ne, e_nil, e_cons, e_kops, e_kops_none, e_some, e_mov, e_bin, e_sub, e_faddr, e_faddr_ptr, e_iaddr, e_iaddr_own, e_len, e_len_own, e_load, e_store, e_copy, e_gc_int, w_skip, w_region, w_seq, w_block, w_loop, w_draw, s_n, d_kdr, m_nil, m_cons, m_kmops, m_kpm, m_load, Nat.reduceLT, Nat.reduceBEq, Int.toNat_natCast, List.length_cons, List.length_nil, setL_nil, setL_cons, e_cell_ptr, e_cl1, e_store_ptr, e_stp, e_copy_own, e_cpo, e_gel_own, e_hgel, gat_1, upd_same, cell_int, true_and, and_self, if_true, List.all_cons, List.all_nil, Bool.and_self, List.drop_zero, Nat.add_zero, Nat.zero_add, Nat.mul_one, tab_len, tab_set, upd_upd, m_p_mov, m_p_bin, m_p_fieldAddr, m_p_slice, m_cell_ptr, m_cl1, ns2, it_at, ns12, e_slice, e_bd_none, e_bd_some, e_hbd, e_sl_own, e_hso, Nat.sub_zero, Nat.zero_le, Nat.le_refl, Nat.lt_add_right_iff_pos, e3, e9, h0, h2, hwm2, h01, h11, h00, h000, hmm, hmm1, hmm2, hmm3, h1m, hm1m, hmin, htk, htk2, gat_tab, it_cell, hst, hset, h0m, hle1]
    repeat with_reducible refine And.intro (by omega) ?_
    refine loop_rule (fun (j : Nat) E H' n' => mulP M n H (cd x) (cd y) (hor M (dg ((k : Int) + 2) (cd x)) (dg ((k : Int) + 2) (cd y) i) c j) E H' n' ∧ E 10 = .int .i64 i ∧ E 11 = .int .i64 (c (M.m - 1)) ∧ E 53 = .int .i64 (M.m : Nat) ∧ E 54 = .int .i64 j ∧ j ≤ M.m) (fun j => M.m - j) 0 ?_ ?_
    · exact ⟨⟨rfl, by simp -implicitDefEqProofs only [upd_n1, h0], by simp -implicitDefEqProofs only [Nat.reduceBEq, upd_lit, h1], by simp -implicitDefEqProofs only [upd_same], fun b hb => by rw [upd_ne _ _ (by omega)]; exact ho b hb, by simp -implicitDefEqProofs only [st_ne, Nat.reduceBEq, e3], by simp -implicitDefEqProofs only [st_ne, Nat.reduceBEq, e7], by simp -implicitDefEqProofs only [st_ne, Nat.reduceBEq, e8], by simp -implicitDefEqProofs only [st_ne, Nat.reduceBEq, e9], hor_range hc 0⟩, by simp -implicitDefEqProofs only [st_ne, Nat.reduceBEq, e10], by simp -implicitDefEqProofs only [st_same, st_ne, Nat.reduceBEq], by simp -implicitDefEqProofs only [st_same, st_ne, Nat.reduceBEq], rfl, by omega⟩
    have hc0 := hc
    have htop := hc (M.m - 1) (by omega)
    clear h0 h1 h2 ho e3 e7 e8 e9 e10 E H' hset hst
    rintro j E H' n' ⟨⟨rfl, h0, h1, h2, ho, e3, e7, e8, e9, hc⟩, e10, e11, e53, e54, hj⟩
    simp -implicitDefEqProofs only [gev_t, st_same, e_nil, e_cons, e_kops, e_some, e_bin, e_lss, w_region, w_seq, w_cond, s_n, Nat.reduceLT, e53, e54]
    refine c_split (fun hlt' => ?_) (fun hlt' => ?_)
    · simp -implicitDefEqProofs only [gev_t, gev_c, st_same, st_ne, e_nil, e_cons, e_kops, e_some, e_mov, e_bin, e_gtr, e_faddr, e_faddr_ptr, e_load, w_skip, w_region, w_seq, w_block, w_cond, s_n, Nat.reduceLT, Nat.reduceBEq, List.length_cons, List.length_nil, e_cell_ptr, e_cl1, gat_1, true_and, Nat.zero_add, ns2, ns12, e3, h0]
      have hiN : i < M.m := by omega
      have hjN : j < M.m := by omega
      have hjN1 : j + 1 ≤ M.m := hjN
      have hjI : (j : Int) < (M.m : Int) := by omega
      have hiI : (i : Int) < (M.m : Int) := by omega
      have hiP := Int.natCast_nonneg i
      have hjP := Int.natCast_nonneg j
      have hA1 := dg_lo (p := (k : Int) + 2) (x := cd x) (by omega) j
      have hA2 := dg_hi (p := (k : Int) + 2) (x := cd x) (by omega) j
      have hB1 := dg_lo (p := (k : Int) + 2) (x := cd y) (by omega) i
      have hB2 := dg_hi (p := (k : Int) + 2) (x := cd y) (by omega) i
      have hcj := hc j hjN
      have hf0 := (M.f.co j).lo
      have hf1 := (M.f.co j).hi
      have hst := hor_step (M := M) (dg ((k : Int) + 2) (cd x)) (dg ((k : Int) + 2) (cd y) i) c j
      have hcr := hor_range (A := dg ((k : Int) + 2) (cd x)) (b := dg ((k : Int) + 2) (cd y) i) hc0 (j + 1)
      have hX : hor M (dg ((k : Int) + 2) (cd x)) (dg ((k : Int) + 2) (cd y) i) c j j = shl c j := hor_at _ _ _ _
      rw [hX] at hcj
      generalize hAv : dg ((k : Int) + 2) (cd x) j = A at *
      generalize hBv : dg ((k : Int) + 2) (cd y) i = B at *
      generalize hZ : (M.f.co j).v = Z at *
      generalize hXv : shl c j = X at *
      generalize c (M.m - 1) = top at *
      have hP0 : 0 ≤ ((k : Int) + 2 - top) * Z := Int.mul_nonneg (by omega) hf0
      have hP1 : ((k : Int) + 2 - top) * Z ≤ 256 * 256 := Int.mul_le_mul (by omega) (by omega) hf0 (by omega)
      have hQ0 : 0 ≤ B * A := Int.mul_nonneg hB1 hA1
      have hQ1 : B * A ≤ 256 * 256 := Int.mul_le_mul (by omega) (by omega) hA1 (by omega)
      have hwd := wrap64 (x := (k : Int) + 2 - top) (by omega)
      have hw1 := wrap64 (x := ((k : Int) + 2 - top) * Z) (by omega)
      have hw2 := wrap64 (x := X + ((k : Int) + 2 - top) * Z) (by omega)
      have hw3 := wrap64 (x := B * A) (by omega)
      have hw4 := wrap64 (x := X + ((k : Int) + 2 - top) * Z + B * A) (by omega)
      have ht := tmod_nn (a := X + ((k : Int) + 2 - top) * Z + B * A) (b := (k : Int) + 2) (by omega)
      have hwj := wrap64 (x := (j : Int) + 1) (by omega)
      refine c_split (fun hm => ?_) (fun hm => ?_)
      · have hmod : fmod M = isl M.m fun i => (M.f.co i).v := by rw [fmod, if_neg (by omega)]
        simp -implicitDefEqProofs only [gev_t, gev_c, st_same, st_ne, e_nil, e_cons, e_kops, e_kops_none, e_some, e_mov, e_bin, e_add, e_sub, e_mul, e_rem, e_faddr, e_faddr_ptr, e_iaddr, e_iaddr_own, e_iaddr_sl, e_load, e_cell_pp, e_store, e_gc_int, w_region, w_draw, s_n, b_n, d_kdr, m_nil, m_cons, m_kmops, m_kpm, m_load, m_cell_pp, Nat.reduceLT, Nat.reduceBEq, decide_true, Int.toNat_natCast, List.length_cons, List.length_nil, setL_nil, setL_cons, e_cell_ptr, e_cl1, e_store_ptr, e_stp, gat_0, gat_2, cell_int, true_and, and_self, if_true, if_false, List.all_cons, List.all_nil, Bool.and_self, Nat.add_zero, Nat.zero_add, Nat.mul_one, tab_len, tab_set, it_upf, m_p_mov, m_p_bin, m_p_fieldAddr, m_p_indexAddr, m_cell_ptr, m_cl1, Nat.lt_add_one, ns2, Int.natCast_nonneg, it_at, ns12, Nat.add_lt_add_iff_left, Nat.lt_add_right_iff_pos, e3, e7, e8, e9, e10, e11, e54, h0, h1, h2, hmod, hiN, hjN, hjI, hiI, gat_tab, hAv, hBv, hZ, hX, hwd, hw1, hw2, hw3, hw4, ht, hne, hwj, hst, hjN1]
        exact l_n ⟨j + 1, by omega, ⟨rfl, by simp -implicitDefEqProofs only [upd_n1, h0, hmod], by simp -implicitDefEqProofs only [Nat.reduceBEq, upd_lit, h1], by simp -implicitDefEqProofs only [upd_same], fun b hb => by rw [upd_ne _ _ (by omega)]; exact ho b hb, by simp -implicitDefEqProofs only [st_ne, Nat.reduceBEq, e3], by simp -implicitDefEqProofs only [st_ne, Nat.reduceBEq, e7], by simp -implicitDefEqProofs only [st_ne, Nat.reduceBEq, e8], by simp -implicitDefEqProofs only [st_ne, Nat.reduceBEq, e9], hcr⟩, by simp -implicitDefEqProofs only [st_ne, Nat.reduceBEq, e10], by simp -implicitDefEqProofs only [st_ne, Nat.reduceBEq, e11], by simp -implicitDefEqProofs only [st_ne, Nat.reduceBEq, e53], by simp -implicitDefEqProofs only [st_same]; rfl, by omega⟩
      · have hm1 : M.m = 1 := by omega
        have hj0 : j = 0 := by omega
        have hZ0 : Z = 0 := by rw [← hZ, hj0, h.one hm1]; rfl
        subst hZ0
        simp -implicitDefEqProofs only [gev_t, gev_c, st_same, st_ne, e_nil, e_cons, e_kops, e_kops_none, e_some, e_mov, e_bin, e_add, e_sub, e_mul, e_rem, e_faddr, e_faddr_ptr, e_iaddr, e_iaddr_own, e_iaddr_sl, e_store, e_gc_int, w_skip, w_region, w_draw, s_n, b_n, d_kdr, m_nil, m_cons, m_kmops, m_kpm, m_load, m_cell_pp, Nat.reduceLT, Nat.reduceBEq, decide_true, Int.toNat_natCast, List.length_cons, List.length_nil, setL_nil, setL_cons, e_store_ptr, e_stp, gat_0, cell_int, true_and, and_self, if_true, if_false, List.all_cons, List.all_nil, Bool.and_self, Nat.add_zero, Nat.zero_add, Nat.mul_one, tab_len, tab_set, it_upf, m_p_mov, m_p_bin, m_p_fieldAddr, m_p_indexAddr, m_cell_ptr, m_cl1, Nat.lt_add_one, ns2, Int.natCast_nonneg, it_at, ns12, Nat.add_lt_add_iff_left, Nat.lt_add_right_iff_pos, e3, e7, e8, e9, e10, e11, e54, h0, h1, h2, hiN, hjN, hjI, hiI, gat_tab, hAv, hBv, hX, hwd, hw1, hw2, hw3, hw4, ht, hne, hwj, hst, hjN1]
        exact l_n ⟨j + 1, by omega, ⟨rfl, by simp -implicitDefEqProofs only [upd_n1, h0], by simp -implicitDefEqProofs only [Nat.reduceBEq, upd_lit, h1], by simp -implicitDefEqProofs only [upd_same], fun b hb => by rw [upd_ne _ _ (by omega)]; exact ho b hb, by simp -implicitDefEqProofs only [st_ne, Nat.reduceBEq, e3], by simp -implicitDefEqProofs only [st_ne, Nat.reduceBEq, e7], by simp -implicitDefEqProofs only [st_ne, Nat.reduceBEq, e8], by simp -implicitDefEqProofs only [st_ne, Nat.reduceBEq, e9], hcr⟩, by simp -implicitDefEqProofs only [st_ne, Nat.reduceBEq, e10], by simp -implicitDefEqProofs only [st_ne, Nat.reduceBEq, e11], by simp -implicitDefEqProofs only [st_ne, Nat.reduceBEq, e53], by simp -implicitDefEqProofs only [st_same]; rfl, by omega⟩
    · have : j = M.m := by omega
      subst this
      have hwi := wrap64 (x := (i : Int) - 1) (by omega)
      simp -implicitDefEqProofs only [gev_t, gev_c, st_same, st_ne, e_nil, e_cons, e_kops, e_some, e_mov, e_bin, e_sub, e_faddr, w_region, w_seq, w_exit, s_n, s_x, b_n, b_x, l_x, Nat.reduceLT, Nat.reduceBEq, Nat.reduceEqDiff, if_true, if_false, e10, hwi]
      refine l_n ⟨i, by omega, _, ⟨rfl, h0, h1, h2, ho, by simp -implicitDefEqProofs only [st_ne, Nat.reduceBEq, e3], by simp -implicitDefEqProofs only [st_ne, Nat.reduceBEq, e7], by simp -implicitDefEqProofs only [st_ne, Nat.reduceBEq, e8], by simp -implicitDefEqProofs only [st_ne, Nat.reduceBEq, e9], hc⟩, ?_, by simp -implicitDefEqProofs only [st_same], by omega⟩
      rw [upper_step, ← hB i (by omega)]
      exact hor_cg hA hS
  · have : i = 0 := by omega
    subst this
    simp -implicitDefEqProofs only [gev_t, st_same, st_ne, e_cons, e_kops, e_some, e_mov, e_faddr, e_faddr_ptr, e_load, e_call, w_region, w_seq, w_exit, s_n, s_x, b_x, l_x, Nat.reduceLT, Nat.reduceBEq, List.length_cons, List.length_nil, e_cell_ptr, e_cl1, gat_0, true_and, if_true, Nat.add_zero, Nat.zero_add, List.map_cons, List.map_nil, ns2, ns12, e3, e9, h0]
    rw [upper_zero, Alg.mul_comm] at hS
    repeat with_reducible refine And.intro (by omega) ?_
    refine call_of (sp_field_valueOf ((k : Int) + 2) (n + 2) M.m M.m c (by omega) h2 (Nat.le_refl _) (by omega) (by omega) (by omega) hc) ?_
    simp -implicitDefEqProofs only [gev_t, st_same, e_nil, e_cons, e_kops, e_mov, w_ret, s_n, Nat.lt_add_one]
    exact fin_ret rfl (by decide) (fz_int (cd_mul_of hc hS)) ho
end
end Go.Proofs.Ytdpibcniodhinaa.Gh
