/- Sums and products, as the program computes them. -/
import Derived.Test.YtdpibcniodhinaaXCa
namespace Go.Proofs.Ytdpibcniodhinaa.Gh
open Go Go.RowKit
open Alg (CR Ps Dg Zm Mn El Cg sm pw Irr Prm)
set_option linter.unusedVariables false
set_option linter.unusedSimpArgs false

theorem vs_app (p : Int) : ∀ (i : Nat) (f : Nat → Int), vs p (i + 1) f = vs p i f + f i * p ^ i := by
  intro i
  induction i with
  | zero => intro f; rw [vs, vs, vs, Int.pow_zero]; omega
  | succ i ih =>
    intro f
    rw [vs, ih, vs, Int.mul_add, Int.pow_succ, Int.mul_comm (f (i + 1)) (p ^ i * p), Int.mul_comm (p ^ i) p, Int.mul_assoc, Int.mul_comm (p ^ i), Int.add_assoc]
theorem vs_tail (p : Int) {i m : Nat} {f : Nat → Int} (him : i ≤ m) (h : ∀ j, i ≤ j → j < m → f j = 0) : vs p m f = vs p i f := by
  induction m with
  | zero => have : i = 0 := by omega
            subst this; rfl
  | succ m ih =>
    by_cases e : i = m + 1
    · subst e; rfl
    · rw [vs_app, h m (by omega) (by omega), Int.zero_mul, Int.add_zero]
      exact ih (by omega) fun j h1 h2 => h j h1 (by omega)
theorem dg_nat (x j : Nat) : dg 2 x j = ((x / 2 ^ j % 2 : Nat) : Int) := by
  unfold dg
  push_cast
  rfl
theorem vs_xor : ∀ (m : Nat) (a b : Nat), a < 2 ^ m → b < 2 ^ m → vs 2 m (fun i => (dg 2 a i + dg 2 b i) % 2) = ((a ^^^ b : Nat) : Int) := by
  intro m
  induction m with
  | zero =>
    intro a b ha hb
    have ha : a = 0 := by simpa using ha
    have hb : b = 0 := by simpa using hb
    subst ha hb
    rfl
  | succ m ih =>
    intro a b ha hb
    rw [Nat.pow_succ] at ha hb
    have h1 := ih (a / 2) (b / 2) (by omega) (by omega)
    rw [vs, vs_congr 2 m (g := fun i => (dg 2 ((a / 2 : Nat) : Int) i + dg 2 ((b / 2 : Nat) : Int) i) % 2) fun j _ => by
      show (dg 2 (a : Int) (j + 1) + dg 2 (b : Int) (j + 1)) % 2 = _
      rw [dg_succ (by omega), dg_succ (by omega)]; rfl, h1, dg_zero, dg_zero]
    have h2 : (a ^^^ b) % 2 = (a + b) % 2 := by
      have h0 : (a ^^^ b) % 2 ^ 1 = a % 2 ^ 1 ^^^ b % 2 ^ 1 := Nat.xor_mod_two_pow
      rw [Nat.pow_one] at h0
      rw [h0]
      rcases Nat.mod_two_eq_zero_or_one a with h | h <;> rcases Nat.mod_two_eq_zero_or_one b with h' | h' <;> rw [h, h'] <;> simp <;> omega
    have h3 : (a ^^^ b) / 2 = a / 2 ^^^ b / 2 := Nat.xor_div_two
    omega
theorem ein_inq {k : Nat} {M : Mn k} (h : Fc M) (x : Int) : inq (qn M : Nat) x = (cn (ein M x) : Nat) := by
  rw [cn_cd, h.cd_ein, qq_qn]
theorem xor_wrap {a b : Nat} (ha : a < 256) (hb : b < 256) : IntKind.i64.wrap ((BitVec.ofInt 64 (a : Int) ^^^ BitVec.ofInt 64 (b : Int)).toNat : Int) = ((a ^^^ b : Nat) : Int) := by
  have hx : a ^^^ b < 2 ^ 8 := Nat.xor_lt_two_pow ha hb
  have e1 : BitVec.ofInt 64 (a : Int) = BitVec.ofNat 64 a := BitVec.ofInt_natCast ..
  have e2 : BitVec.ofInt 64 (b : Int) = BitVec.ofNat 64 b := BitVec.ofInt_natCast ..
  rw [e1, e2, BitVec.toNat_xor, BitVec.toNat_ofNat, BitVec.toNat_ofNat, Nat.mod_eq_of_lt (by omega), Nat.mod_eq_of_lt (by omega)]
  exact wrap64 (by omega)

section
variable {k : Nat} {M : Mn k}
theorem sp_GF_Mul {H : Heap} {n : Nat} (h : Fc M) (g : El M) (hg : Gen g) (x y : Int) : Spec prog fid_field_GF_Mul [gfv M g, .int .i64 x, .int .i64 y] H n (.int .i64 (cn (ein M x * ein M y) : Nat)) H n := by
  refine spec_ends hmix ok_field_GF_Mul rfl fun hF => ?_
  show gw prog B_field_GF_Mul _ (tl 46 _) H n
  have hq2 := qn_two M
  have hq := h.qn
  simp -implicitDefEqProofs only [B_field_GF_Mul, gev_t, gev_c, st_same, st_ne, mkE_nil, mkE_cons, e_nil, e_cons, e_kops, e_mov, e_call, w_region, w_seq, s_n, Nat.reduceLT, Nat.reduceBEq, Nat.zero_add, List.map_cons, List.map_nil, ns2, ns12]
  refine call_of (sp_GF_in g x) ?_
  simp -implicitDefEqProofs only [gev_t, st_same, st_ne, e_cons, e_kops, e_mov, e_call, Nat.reduceLT, Nat.reduceBEq, List.map_cons, List.map_nil]
  refine call_of (sp_GF_in g y) ?_
  rw [ein_inq h x, ein_inq h y]
  generalize ein M x = a
  generalize ein M y = b
  by_cases ha : a = 0
  · have ha' : ((cn a : Nat) : Int) = 0 := by rw [ha, cn_zero]; rfl
    simp -implicitDefEqProofs only [gev_t, gev_c, st_same, st_ne, e_nil, e_cons, e_kops, e_guard, e_ft, e_some, e_mov, e_pick, e_pick_t, e_bin, e_eql, w_region, w_seq, w_ret, w_cond, s_n, s_r, c_t, Nat.reduceLT, Nat.reduceBEq, decide_true, ha']
    refine fin_ret rfl (by decide) ?_ fun _ _ => rfl
    simp -implicitDefEqProofs only [st_same]
    exact fz_int (by rw [ha, Alg.zero_mul, cn_zero]; rfl)
  have ha' : (((cn a : Nat) : Int) = 0) = False := eq_false fun e => ha (cn_eq_zero.1 (by omega))
  by_cases hb : b = 0
  · have hb' : ((cn b : Nat) : Int) = 0 := by rw [hb, cn_zero]; rfl
    simp -implicitDefEqProofs only [gev_t, gev_c, st_same, st_ne, e_nil, e_cons, e_kops, e_guard, e_ff, e_some, e_mov, e_pick, e_pick_f, e_bin, e_eql, w_region, w_seq, w_ret, w_cond, s_n, s_r, c_t, Nat.reduceLT, Nat.reduceBEq, decide_true, decide_false, ha', hb']
    refine fin_ret rfl (by decide) ?_ fun _ _ => rfl
    simp -implicitDefEqProofs only [st_same]
    exact fz_int (by rw [hb, Alg.mul_zero, cn_zero]; rfl)
  have hb' : (((cn b : Nat) : Int) = 0) = False := eq_false fun e => hb (cn_eq_zero.1 (by omega))
  have hal := cn_lt a
  have hbl := cn_lt b
  have haI : ((cn a : Nat) : Int) < (qn M : Nat) := by omega
  have hbI : ((cn b : Nat) : Int) < (qn M : Nat) := by omega
  have hla := lg_lt hg ha
  have hlb := lg_lt hg hb
  have ela : lg g (el M (cn a : Nat)) = lg g a := by rw [el_cn]
  have elb : lg g (el M (cn b : Nat)) = lg g b := by rw [el_cn]
  have hw1 : IntKind.i64.wrap (((lg g a : Nat) : Int) + ((lg g b : Nat) : Int)) = ((lg g a + lg g b : Nat) : Int) := (wrap64 (by omega)).trans (by omega)
  have hw2 : IntKind.i64.wrap (((qn M : Nat) : Int) - 1) = ((qn M - 1 : Nat) : Int) := (wrap64 (by omega)).trans (by omega)
  have hne : (((qn M - 1 : Nat) : Int) = 0) = False := eq_false (by omega)
  have htm : Int.tmod ((lg g a + lg g b : Nat) : Int) ((qn M - 1 : Nat) : Int) = (((lg g a + lg g b) % (qn M - 1) : Nat) : Int) := by rw [tmod_nn (by omega)]; rfl
  have hml : (lg g a + lg g b) % (qn M - 1) < qn M - 1 := Nat.mod_lt _ (by omega)
  have hmI : (((lg g a + lg g b) % (qn M - 1) : Nat) : Int) < ((qn M - 1 : Nat) : Int) := by omega
  have hm0 := Int.natCast_nonneg ((lg g a + lg g b) % (qn M - 1))
  simp -implicitDefEqProofs only [gev_t, gev_c, st_same, st_ne, e_nil, e_cons, e_kops, e_guard, e_ff, e_some, e_mov, e_pick, e_pick_f, e_bin, e_add, e_sub, e_rem, e_eql, e_faddr, e_faddr_pp, e_iaddr, e_iaddr_sl, e_nilc, e_nilc_pp, e_load, e_cell_pp, w_skip, w_region, w_seq, w_ret, w_cond, w_draw, s_n, c_f, d_kdr, m_nil, m_cons, m_kmops, m_kpm, m_load, m_cell_pp, Nat.reduceLT, Nat.reduceBEq, decide_false, Int.toNat_natCast, List.length_cons, List.length_nil, gat_3, gat_4, gat_5, true_and, and_self, if_true, if_false, Nat.zero_add, Nat.mul_one, tab_len, m_p_mov, m_p_bin, m_p_fieldAddr, m_p_indexAddr, m_p_nilCheck, Nat.lt_add_one, ns2, Int.natCast_nonneg, it_at, ns12, ns13, ns14, ns15, gfv, ha', hb', hal, hbl, haI, hbI, gat_tab, ela, elb, hw1, hw2, hne, htm, hml, hmI, hm0]
  refine fin_ret rfl (by decide) ?_ fun _ _ => rfl
  simp -implicitDefEqProofs only [st_same]
  exact fz_int (by rw [mul_lg hg ha hb]; rfl)

theorem sp_GF_Add {H : Heap} {n : Nat} (h : Fc M) (g : El M) (x y : Int) : Spec prog fid_field_GF_Add [gfv M g, .int .i64 x, .int .i64 y] H n (.int .i64 (cn (ein M x + ein M y) : Nat)) H n := by
  refine spec_ends hmix ok_field_GF_Add rfl fun hF => ?_
  show gw prog B_field_GF_Add _ (tl 77 _) H n
  have hq2 := qn_two M
  have hq := h.qn
  have hp := h.p256
  simp -implicitDefEqProofs only [B_field_GF_Add, gev_t, gev_c, st_same, st_ne, mkE_nil, mkE_cons, e_nil, e_cons, e_kops, e_mov, e_call, w_region, w_seq, s_n, Nat.reduceLT, Nat.reduceBEq, Nat.zero_add, List.map_cons, List.map_nil, ns2, ns12]
  refine call_of (sp_GF_in g x) ?_
  simp -implicitDefEqProofs only [gev_t, st_same, st_ne, e_cons, e_kops, e_mov, e_call, Nat.reduceLT, Nat.reduceBEq, List.map_cons, List.map_nil]
  refine call_of (sp_GF_in g y) ?_
  rw [ein_inq h x, ein_inq h y, cn_cd (ein M x + ein M y), cd_add, cd_cn (ein M x), cd_cn (ein M y)]
  have hal := cn_lt (ein M x)
  have hbl := cn_lt (ein M y)
  generalize cn (ein M x) = a at *
  generalize cn (ein M y) = b at *
  have hqp : (qn M : Int) = ((k : Int) + 2) ^ M.m := by rw [← qq_qn]; rfl
  by_cases hk : k = 0
  · subst hk
    have h2 : ((((0 : Nat) : Int) + 2 : Int) = 2) = True := eq_true rfl
    have hxr := xor_wrap (a := a) (b := b) (by omega) (by omega)
    simp -implicitDefEqProofs only [gev_t, gev_c, st_same, st_ne, e_nil, e_cons, e_kops, e_some, e_mov, e_bin, e_xor, e_eql, e_faddr, e_faddr_pp, e_nilc, e_nilc_pp, e_load, e_cell_pp, w_region, w_seq, w_ret, w_cond, s_n, s_r, c_t, Nat.reduceLT, Nat.reduceBEq, decide_true, List.length_cons, List.length_nil, gat_0, true_and, Nat.add_zero, Nat.zero_add, ns2, ns12, ns13, ns14, ns15, gfv, h2]
    refine fin_ret rfl (by decide) ?_ fun _ _ => rfl
    simp -implicitDefEqProofs only [st_same]
    have hqn : qn M = 2 ^ M.m := rfl
    rw [hqn] at hal hbl
    have e2 : (((0 : Nat) : Int) + 2 : Int) = 2 := rfl
    rw [e2]
    exact fz_int (hxr.trans (vs_xor M.m a b hal hbl).symm)
  have h2 : ((k : Int) + 2 = 2) = False := eq_false (by omega)
  have hne : ((k : Int) + 2 = 0) = False := eq_false (by omega)
  simp -implicitDefEqProofs only [gev_t, gev_c, st_same, st_ne, e_nil, e_cons, e_kops, e_some, e_mov, e_bin, e_eql, e_faddr, e_faddr_pp, e_nilc, e_nilc_pp, e_load, e_cell_pp, w_skip, w_region, w_seq, w_block, w_cond, w_loop, s_n, c_f, Nat.reduceLT, Nat.reduceBEq, decide_false, List.length_cons, List.length_nil, gat_0, true_and, Nat.add_zero, Nat.zero_add, ns2, ns12, ns13, ns14, ns15, gfv, h2]
  have hpp : ∀ i, i ≤ M.m → 1 ≤ ((k : Int) + 2) ^ i ∧ ((k : Int) + 2) ^ i ≤ 256 := fun i hi => by
    have h1 := pow_mono (p := (k : Int) + 2) (by omega) hi
    have h0 := Int.pow_pos (n := (k : Int) + 2) (m := i) (by omega)
    omega
  have hS : ∀ j, 0 ≤ (dg ((k : Int) + 2) a j + dg ((k : Int) + 2) b j) % ((k : Int) + 2) ∧ (dg ((k : Int) + 2) a j + dg ((k : Int) + 2) b j) % ((k : Int) + 2) < (k : Int) + 2 := fun j => ⟨Int.emod_nonneg _ (by omega), Int.emod_lt_of_pos _ (by omega)⟩
  have hdiv : ∀ (c : Nat), (c : Int) < (qn M : Int) → ∀ i, 0 ≤ (c : Int) / ((k : Int) + 2) ^ i ∧ (c : Int) / ((k : Int) + 2) ^ i ≤ 256 := fun c hc i => by
    have h0 : 0 < ((k : Int) + 2) ^ i := Int.pow_pos (by omega)
    exact ⟨Int.ediv_nonneg (by omega) (by omega), Int.le_trans (Int.ediv_le_self _ (by omega)) (by omega)⟩
  have hz : ∀ (c : Nat), (c : Int) < (qn M : Int) → ∀ i, M.m ≤ i → (c : Int) / ((k : Int) + 2) ^ i = 0 := fun c hc i hi => by
    have := pow_mono (p := (k : Int) + 2) (by omega) hi
    exact Int.ediv_eq_zero_of_lt (by omega) (by omega)
  refine loop_rule (fun (i : Nat) E H' n' => H' = H ∧ n' = n ∧ E 0 = gfv M g ∧ E 1 = .int .i64 ((a : Int) / ((k : Int) + 2) ^ i) ∧ E 2 = .int .i64 ((b : Int) / ((k : Int) + 2) ^ i) ∧ E 7 = .int .i64 (vs ((k : Int) + 2) i fun j => (dg ((k : Int) + 2) a j + dg ((k : Int) + 2) b j) % ((k : Int) + 2)) ∧ E 8 = .int .i64 (((k : Int) + 2) ^ i) ∧ i ≤ M.m) (fun i => M.m - i) 0 ⟨rfl, rfl, rfl, by simp -implicitDefEqProofs only [st_same, st_ne, Nat.reduceBEq, Int.pow_zero, Int.ediv_one], by simp -implicitDefEqProofs only [st_same, st_ne, Nat.reduceBEq, Int.pow_zero, Int.ediv_one], rfl, by simp -implicitDefEqProofs only [st_same, Int.pow_zero], by omega⟩ ?_
  rintro i E H' n' ⟨rfl, rfl, e0, e1, e2, e7, e8, hi⟩
  have hA := hdiv a (by omega) i
  have hB := hdiv b (by omega) i
  have hPi := hpp i hi
  have hV := vs_nn (p := (k : Int) + 2) (by omega) i fun j _ => hS j
  have hVs := vs_app ((k : Int) + 2) i fun j => (dg ((k : Int) + 2) a j + dg ((k : Int) + 2) b j) % ((k : Int) + 2)
  have hsA := dg_step (p := (k : Int) + 2) (x := a) (by omega) i
  have hsB := dg_step (p := (k : Int) + 2) (x := b) (by omega) i
  have hzA := hz a (by omega) i
  have hzB := hz b (by omega) i
  have hdA : dg ((k : Int) + 2) a i = (a : Int) / ((k : Int) + 2) ^ i % ((k : Int) + 2) := rfl
  have hdB : dg ((k : Int) + 2) b i = (b : Int) / ((k : Int) + 2) ^ i % ((k : Int) + 2) := rfl
  by_cases hc : 0 < (a : Int) / ((k : Int) + 2) ^ i ∨ 0 < (b : Int) / ((k : Int) + 2) ^ i
  · have him : i < M.m := by
      rcases Nat.lt_or_ge i M.m with h | h
      · exact h
      · have := hzA h; have := hzB h; omega
    have hP1 := hpp (i + 1) him
    have hA1 := hdiv a (by omega) (i + 1)
    have hB1 := hdiv b (by omega) (i + 1)
    have hps : ((k : Int) + 2) ^ (i + 1) = ((k : Int) + 2) ^ i * ((k : Int) + 2) := Int.pow_succ _ _
    have hr := hS i
    rw [hdA, hdB] at hr hVs
    generalize (a : Int) / ((k : Int) + 2) ^ i = A at *
    generalize (b : Int) / ((k : Int) + 2) ^ i = B at *
    generalize ((k : Int) + 2) ^ i = PL at *
    have hmA : 0 ≤ A % ((k : Int) + 2) ∧ A % ((k : Int) + 2) < (k : Int) + 2 := ⟨Int.emod_nonneg _ (by omega), Int.emod_lt_of_pos _ (by omega)⟩
    have hmB : 0 ≤ B % ((k : Int) + 2) ∧ B % ((k : Int) + 2) < (k : Int) + 2 := ⟨Int.emod_nonneg _ (by omega), Int.emod_lt_of_pos _ (by omega)⟩
    have t1 := tmod_nn (a := A) (b := (k : Int) + 2) (by omega)
    have t2 := tmod_nn (a := B) (b := (k : Int) + 2) (by omega)
    have w1 := wrap64 (x := A % ((k : Int) + 2) + B % ((k : Int) + 2)) (by omega)
    have t3 := tmod_nn (a := A % ((k : Int) + 2) + B % ((k : Int) + 2)) (b := (k : Int) + 2) (by omega)
    generalize (A % ((k : Int) + 2) + B % ((k : Int) + 2)) % ((k : Int) + 2) = r at *
    have hm0 : 0 ≤ r * PL := Int.mul_nonneg (by omega) (by omega)
    have hm1 : r * PL ≤ 256 * 256 := Int.mul_le_mul (by omega) (by omega) (by omega) (by omega)
    have w2 := wrap64 (x := r * PL) (by omega)
    have w3 : IntKind.i64.wrap ((vs ((k : Int) + 2) i fun j => (dg ((k : Int) + 2) a j + dg ((k : Int) + 2) b j) % ((k : Int) + 2)) + r * PL) = vs ((k : Int) + 2) (i + 1) fun j => (dg ((k : Int) + 2) a j + dg ((k : Int) + 2) b j) % ((k : Int) + 2) := (wrap64 (by omega)).trans hVs.symm
    have w4 : IntKind.i64.wrap (PL * ((k : Int) + 2)) = ((k : Int) + 2) ^ (i + 1) := (wrap64 (by omega)).trans hps.symm
    have w5 : IntKind.i64.wrap (A.tdiv ((k : Int) + 2)) = (a : Int) / ((k : Int) + 2) ^ (i + 1) := by rw [tdiv_nn (by omega), hsA]; exact wrap64 (by omega)
    have w6 : IntKind.i64.wrap (B.tdiv ((k : Int) + 2)) = (b : Int) / ((k : Int) + 2) ^ (i + 1) := by rw [tdiv_nn (by omega), hsB]; exact wrap64 (by omega)
    by_cases hA0 : 0 < A
    · simp -implicitDefEqProofs only [gev_t, gev_c, st_same, st_ne, e_nil, e_cons, e_kops, e_guard, e_ft, e_some, e_mov, e_pick, e_pick_t, e_bin, e_add, e_mul, e_quo, e_rem, e_gtr, e_faddr, e_faddr_pp, e_nilc, e_nilc_pp, e_load, e_cell_pp, w_skip, w_region, w_seq, w_block, w_cond, w_draw, s_n, b_n, c_t, d_kdr, m_nil, m_cons, m_kmops, m_kpm, m_load, m_cell_pp, Nat.reduceLT, Nat.reduceBEq, decide_true, List.length_cons, List.length_nil, gat_0, true_and, if_false, Nat.add_zero, Nat.zero_add, m_p_mov, m_p_bin, m_p_fieldAddr, m_p_nilCheck, ns2, ns12, ns13, ns14, ns15, gfv, e0, e1, e2, e7, e8, hA0, hne, t1, t2, t3, w1, w2, w3, w4, w5, w6]
      exact l_n ⟨i + 1, by omega, rfl, rfl, by simp -implicitDefEqProofs only [st_ne, Nat.reduceBEq, e0, gfv], by simp -implicitDefEqProofs only [st_same, st_ne, Nat.reduceBEq], by simp -implicitDefEqProofs only [st_same], by simp -implicitDefEqProofs only [st_same, st_ne, Nat.reduceBEq], by simp -implicitDefEqProofs only [st_same, st_ne, Nat.reduceBEq], by omega⟩
    · have hB0 : 0 < B := by omega
      simp -implicitDefEqProofs only [gev_t, gev_c, st_same, st_ne, e_nil, e_cons, e_kops, e_guard, e_ff, e_some, e_mov, e_pick, e_pick_f, e_bin, e_add, e_mul, e_quo, e_rem, e_gtr, e_faddr, e_faddr_pp, e_nilc, e_nilc_pp, e_load, e_cell_pp, w_skip, w_region, w_seq, w_block, w_cond, w_draw, s_n, b_n, c_t, d_kdr, m_nil, m_cons, m_kmops, m_kpm, m_load, m_cell_pp, Nat.reduceLT, Nat.reduceBEq, decide_true, decide_false, List.length_cons, List.length_nil, gat_0, true_and, if_false, Nat.add_zero, Nat.zero_add, m_p_mov, m_p_bin, m_p_fieldAddr, m_p_nilCheck, ns2, ns12, ns13, ns14, ns15, gfv, e0, e1, e2, e7, e8, hA0, hB0, hne, t1, t2, t3, w1, w2, w3, w4, w5, w6]
      exact l_n ⟨i + 1, by omega, rfl, rfl, by simp -implicitDefEqProofs only [st_ne, Nat.reduceBEq, e0, gfv], by simp -implicitDefEqProofs only [st_same, st_ne, Nat.reduceBEq], by simp -implicitDefEqProofs only [st_same], by simp -implicitDefEqProofs only [st_same, st_ne, Nat.reduceBEq], by simp -implicitDefEqProofs only [st_same, st_ne, Nat.reduceBEq], by omega⟩
  · have hA0 : ¬ 0 < (a : Int) / ((k : Int) + 2) ^ i := fun h => hc (.inl h)
    have hB0 : ¬ 0 < (b : Int) / ((k : Int) + 2) ^ i := fun h => hc (.inr h)
    simp -implicitDefEqProofs only [gev_t, gev_c, st_same, st_ne, e_nil, e_cons, e_kops, e_guard, e_ff, e_some, e_mov, e_pick, e_pick_f, e_bin, e_gtr, w_region, w_seq, w_exit, w_ret, w_cond, s_n, s_x, b_x, c_f, l_x, Nat.reduceLT, Nat.reduceBEq, decide_false, if_true, Nat.lt_add_one, e1, e2, e7, hA0, hB0]
    refine fin_ret rfl (by decide) ?_ fun _ _ => rfl
    simp -implicitDefEqProofs only [st_same]
    refine fz_int (vs_tail _ hi fun j h1 h2 => ?_).symm
    have hj : ∀ (c : Nat), (c : Int) / ((k : Int) + 2) ^ i = 0 → dg ((k : Int) + 2) c j = 0 := fun c hc => by
      have e1 : ((k : Int) + 2) ^ j = ((k : Int) + 2) ^ i * ((k : Int) + 2) ^ (j - i) := by rw [← Int.pow_add]; congr 1; omega
      rw [dg, e1, ← Int.ediv_ediv_of_nonneg (Int.pow_nonneg (by omega)), hc, Int.zero_ediv]; rfl
    rw [hj a (by omega), hj b (by omega)]; rfl
end
end Go.Proofs.Ytdpibcniodhinaa.Gh
/- A step of the machine: the sums. -/
namespace Go.Proofs.Ytdpibcniodhinaa.Gh
open Go Go.RowKit
open Alg (CR Ps Dg Zm Mn El Cg sm pw Irr Prm)
set_option linter.unusedVariables false
set_option linter.unusedSimpArgs false

def si : Nat → (Nat → Int) → Int
  | 0, _ => 0
  | n + 1, f => si n f + f n
theorem tn_zero (f : Nat → Int) : ∀ m d, tn f m ≤ d → d < m → f d = 0 := by
  intro m
  induction m with
  | zero => intro d _ h; omega
  | succ m ih =>
    intro d h1 h2
    rw [tn] at h1
    by_cases hz : f m = 0
    · rw [if_pos hz] at h1
      by_cases e : d = m
      · subst e; exact hz
      · exact ih d h1 (by omega)
    · rw [if_neg hz] at h1; omega
section
variable {k : Nat} {M : Mn k}
theorem ein_cn (h : Fc M) (a : El M) : ein M (cn a : Nat) = a := by
  have h1 := ein_inq h (cn a : Nat)
  have : inq (qn M : Nat) ((cn a : Nat) : Int) = (cn a : Nat) := if_pos ⟨by omega, by have := cn_lt a; omega⟩
  rw [this] at h1
  exact cn_inj (by omega)
theorem ein_zero (h : Fc M) : ein M 0 = 0 := by
  have := ein_cn h (0 : El M)
  rw [cn_zero] at this
  exact this
theorem cn_ein (h : Fc M) {x : Int} (h0 : 0 ≤ x) (h1 : x < (qn M : Nat)) : (cn (ein M x) : Int) = x := by
  rw [← ein_inq h x, inq, if_pos ⟨h0, h1⟩]
/-- what input i reads d steps ago -/
def Enc.X (e : Enc) (q st : Int) (inp : Nat → Int) (i d : Nat) : Int := if d = 0 then inp i else Gh.dg q st (e.ds i + (d - 1))
def Enc.co (e : Enc) (i j d : Nat) : Int := if d < e.n i j then e.c i j d else 0
noncomputable def Enc.tm (e : Enc) (M : Mn k) (st : Int) (inp : Nat → Int) (j i d : Nat) : Alg.El M := ein M (e.X (qn M : Nat) st inp i d) * ein M (e.co i j d)
/-- the output j, so far -/
noncomputable def Enc.so (e : Enc) (M : Mn k) (st : Int) (inp : Nat → Int) (i d j : Nat) : Alg.El M := sm i (fun i' => sm (e.deg i' + 1) (e.tm M st inp j i')) + sm d (e.tm M st inp j i)
/-- the next state, so far -/
def Enc.nx (e : Enc) (q st : Int) (inp : Nat → Int) (i d : Nat) : Int := si i (fun i' => si (e.deg i') fun d' => e.X q st inp i' d' * q ^ (e.ds i' + d')) + si d fun d' => e.X q st inp i d' * q ^ (e.ds i + d')
theorem Enc.so_zero (e : Enc) (st : Int) (inp : Nat → Int) (j : Nat) : e.so M st inp 0 0 j = 0 := Alg.add_zero _
theorem Enc.so_step (e : Enc) (st : Int) (inp : Nat → Int) (i d j : Nat) : e.so M st inp i (d + 1) j = e.so M st inp i d j + e.tm M st inp j i d := by
  rw [so, so, Alg.sm_succ, Alg.add_assoc]
theorem Enc.so_row (e : Enc) (st : Int) (inp : Nat → Int) (i j : Nat) : e.so M st inp (i + 1) 0 j = e.so M st inp i (e.deg i + 1) j := by
  rw [so, so, Alg.sm_succ, Alg.sm_zero, Alg.add_zero]
theorem Enc.nx_zero (e : Enc) (q st : Int) (inp : Nat → Int) : e.nx q st inp 0 0 = 0 := rfl
theorem Enc.nx_step (e : Enc) (q st : Int) (inp : Nat → Int) (i d : Nat) : e.nx q st inp i (d + 1) = e.nx q st inp i d + e.X q st inp i d * q ^ (e.ds i + d) := by
  rw [nx, nx, si, Int.add_assoc]
theorem Enc.nx_row (e : Enc) (q st : Int) (inp : Nat → Int) (i : Nat) : e.nx q st inp (i + 1) 0 = e.nx q st inp i (e.deg i) := by
  rw [nx, nx, si, si, Int.add_zero]
theorem Enc.X_in (e : Enc) {q st : Int} {inp : Nat → Int} (hq : 2 ≤ q) (hin : ∀ i, i < e.r → 0 ≤ inp i ∧ inp i < q) {i : Nat} (hi : i < e.r) (d : Nat) : 0 ≤ e.X q st inp i d ∧ e.X q st inp i d < q := by
  unfold X
  split
  · exact hin i hi
  · exact ⟨dg_lo hq _, dg_hi hq _⟩
theorem Enc.nx_lt (e : Enc) {q st : Int} {inp : Nat → Int} (hq : 2 ≤ q) (hin : ∀ i, i < e.r → 0 ≤ inp i ∧ inp i < q) : ∀ i, i ≤ e.r → ∀ d, (d = 0 ∨ i < e.r) → 0 ≤ e.nx q st inp i d ∧ e.nx q st inp i d < q ^ (e.ds i + d) := by
  intro i
  induction i with
  | zero =>
    intro hi d
    induction d with
    | zero => intro _; rw [nx_zero]; exact ⟨Int.le_refl _, Int.pow_pos (by omega)⟩
    | succ d ih =>
      intro hd
      have h1 := ih (by omega)
      have h2 := e.X_in (st := st) hq hin (i := 0) (by omega) d
      have hp : 0 < q ^ (e.ds 0 + d) := Int.pow_pos (by omega)
      rw [nx_step, show e.ds 0 + (d + 1) = (e.ds 0 + d) + 1 by omega, Int.pow_succ]
      have h3 : 0 ≤ e.X q st inp 0 d * q ^ (e.ds 0 + d) := Int.mul_nonneg h2.1 (by omega)
      have h4 : (e.X q st inp 0 d + 1) * q ^ (e.ds 0 + d) ≤ q * q ^ (e.ds 0 + d) := Int.mul_le_mul_of_nonneg_right (by omega) (by omega)
      rw [Int.add_mul, Int.one_mul, Int.mul_comm q] at h4
      omega
  | succ i ihi =>
    intro hi d
    induction d with
    | zero =>
      intro _
      have h1 := ihi (by omega) (e.deg i) (by omega)
      rw [nx_row]
      exact h1
    | succ d ih =>
      intro hd
      have h1 := ih (by omega)
      have h2 := e.X_in (st := st) hq hin (i := i + 1) (by omega) d
      have hp : 0 < q ^ (e.ds (i + 1) + d) := Int.pow_pos (by omega)
      rw [nx_step, show e.ds (i + 1) + (d + 1) = (e.ds (i + 1) + d) + 1 by omega, Int.pow_succ]
      have h3 : 0 ≤ e.X q st inp (i + 1) d * q ^ (e.ds (i + 1) + d) := Int.mul_nonneg h2.1 (by omega)
      have h4 : (e.X q st inp (i + 1) d + 1) * q ^ (e.ds (i + 1) + d) ≤ q * q ^ (e.ds (i + 1) + d) := Int.mul_le_mul_of_nonneg_right (by omega) (by omega)
      rw [Int.add_mul, Int.one_mul, Int.mul_comm q] at h4
      omega
theorem Enc.tm_zero (e : Enc) (h : Fc M) (st : Int) (inp : Nat → Int) (j i d : Nat) (hx : e.X (qn M : Nat) st inp i d = 0) : e.tm M st inp j i d = 0 := by
  rw [tm, hx, ein_zero h, Alg.zero_mul]
end

theorem sp_coefficient {H : Heap} {n : Nat} (e : Enc) (i j d : Nat) (hn : e.n i j ≤ 1000000) : Spec prog fid_conv_coefficient [isl (tn (e.c i j) (e.n i j)) (e.c i j), .int .i64 d] H n (.int .i64 (e.co i j d)) H n := by
  refine spec_ends hmix ok_conv_coefficient rfl fun hF => ?_
  show gw prog B_conv_coefficient _ (tl 13 _) H n
  have htn := tn_le (e.c i j) (e.n i j)
  have hz := tn_zero (e.c i j) (e.n i j) d
  simp -implicitDefEqProofs only [B_conv_coefficient, gev_t, gev_c, st_same, st_ne, mkE_nil, mkE_cons, e_nil, e_cons, e_kops, e_some, e_mov, e_bin, e_lss, e_len, e_len_sl, w_region, w_seq, w_cond, s_n, Nat.reduceLT, Nat.reduceBEq, Nat.zero_add, ns2]
  refine c_split (fun hc => ?_) (fun hc => ?_)
  · have hd : d < tn (e.c i j) (e.n i j) := by omega
    simp -implicitDefEqProofs only [gev_t, st_same, st_ne, e_nil, e_cons, e_kops, e_some, e_mov, e_iaddr, e_iaddr_sl, e_load, e_cell_pp, w_region, w_seq, w_ret, s_n, s_r, Nat.reduceLT, Nat.reduceBEq, decide_true, Int.toNat_natCast, true_and, and_self, if_true, Nat.mul_one, tab_len, Nat.lt_add_one, Int.natCast_nonneg, it_at, hc, hd, gat_tab]
    refine fin_ret rfl (by decide) ?_ fun _ _ => rfl
    simp -implicitDefEqProofs only [st_same]
    exact fz_int (if_pos (by omega)).symm
  · simp -implicitDefEqProofs only [gev_c, e_nil, e_cons, e_kops, e_mov, w_skip, w_region, w_seq, w_ret, s_n]
    refine fin_ret rfl (by decide) ?_ fun _ _ => rfl
    simp -implicitDefEqProofs only [st_same]
    refine fz_int ?_
    rw [Enc.co]
    split
    · exact (hz (by omega) (by omega)).symm
    · rfl
end Go.Proofs.Ytdpibcniodhinaa.Gh
/- Rows that are only read, of either kind; inner products. -/
namespace Go.Proofs.Ytdpibcniodhinaa.Gh
open Go Go.RowKit
open Alg (CR Ps Dg Zm Mn El Cg sm pw Irr Prm)
set_option linter.unusedVariables false
set_option linter.unusedSimpArgs false

/-- a row that can be read: one that is only read, or one of the call's own -/
def Rd (H : Heap) (n : Nat) (a : GV) (m : Nat) (f : Nat → Int) : Prop := a = isl m f ∨ ∃ b, b < n ∧ a = .own b 0 m ∧ H b = some (tab m (it f))
section
variable {H H' : Heap} {n n' m : Nat} {a : GV} {f : Nat → Int}
theorem Rd.sl (m : Nat) (f : Nat → Int) : Rd H n (isl m f) m f := .inl rfl
theorem Rd.own {b : Nat} (hb : b < n) (h : H b = some (tab m (it f))) : Rd H n (.own b 0 m) m f := .inr ⟨b, hb, rfl, h⟩
theorem Rd.keep (h : Rd H n a m f) (hn : n ≤ n') (hk : ∀ b, b < n → H' b = H b) : Rd H' n' a m f := by
  rcases h with h | ⟨b, h1, h2, h3⟩
  · exact .inl h
  · exact .inr ⟨b, by omega, h2, by rw [hk b h1]; exact h3⟩
theorem Rd.len (h : Rd H n a m f) : hlen a = some (.int .i64 (m : Nat)) := by
  rcases h with rfl | ⟨b, _, rfl, _⟩ <;> rfl
theorem Rd.cell (h : Rd H n a m f) : isCell a = true := by
  rcases h with rfl | ⟨b, _, rfl, _⟩ <;> rfl
theorem Rd.idx (h : Rd H n a m f) (i : Nat) (hi : i < m) : ∃ p, hiaddr 1 a (.int .i64 (i : Nat)) = some p ∧ (∀ (q : Kn) (H' H'' : Heap) (n' : Nat), (∀ b, b < n → H' b = H b) → hcell q H' H'' n' none p = q (.int .i64 (f i)) H'' n') ∧ ∀ (q : Km) (H' : Heap) (n' : Nat), n ≤ n' → (∀ b, b < n → H' b = H b) → hmcell q H' n' none p = q (.int .i64 (f i)) none := by
  have h0 := Int.natCast_nonneg i
  have hiI : ((i : Nat) : Int) < (m : Nat) := by omega
  rcases h with rfl | ⟨b, h1, rfl, h3⟩
  · refine ⟨.pp (tab m (it f)) i, ?_, ?_, ?_⟩
    · simp -implicitDefEqProofs only [e_iaddr_sl, Int.toNat_natCast, and_self, if_true, Nat.mul_one, tab_len, Int.natCast_nonneg, hi, hiI]
    · intro q H' H'' n' _
      rw [e_cell_pp, gat_tab hi, tab_len, it_at]; simp [hi]
    · intro q H' n' _ _
      rw [m_cell_pp, gat_tab hi, tab_len, it_at]; simp [hi]
  · refine ⟨.ptr b i, ?_, ?_, ?_⟩
    · simp -implicitDefEqProofs only [e_iaddr_own, Int.toNat_natCast, and_self, if_true, Nat.zero_add, Nat.mul_one, Int.natCast_nonneg, hiI]
    · intro q H' H'' n' hk
      rw [e_cell_ptr, hk b h1, h3, e_cl1, gat_tab hi, tab_len, it_at]; simp [hi]
    · intro q H' n' hn hk
      rw [m_cell_ptr, hk b h1, h3, m_cl1, gat_tab hi, tab_len, it_at]; simp [hi]; omega
end
section
variable {k : Nat} {M : Mn k}
theorem sp_Dot {H : Heap} {n : Nat} (h : Fc M) {a b : GV} {la lb : Nat} {f g : Nat → Int} (ha : Rd H n a la f) (hb : Rd H n b lb g) (hla : la ≤ 1000000) (hlb : lb ≤ 1000000) :
    Spec prog fid_ref04_Dot [fd M, a, b] H n (.int .i64 (cn (sm (min la lb) fun i => ein M (f i) * ein M (g i)) : Nat)) H n := by
  refine spec_ends hmix ok_ref04_Dot rfl fun hF => ?_
  show gw prog B_ref04_Dot _ (tl 35 _) H n
  have hal := ha.len
  have hbl := hb.len
  simp -implicitDefEqProofs only [B_ref04_Dot, fd, gev_t, gev_c, st_same, mkE_nil, mkE_cons, e_nil, e_cons, e_kops, e_mov, e_box, e_box_some, e_gc_agg, w_region, w_seq, w_block, w_loop, s_n, Nat.reduceLT, Nat.zero_add, ns2, ns12]
  refine loop_rule (fun (i : Nat) E H' n' => n' = n + 1 ∧ H' n = some [.int .i64 ((k : Int) + 2), .int .i64 (M.m : Nat), fmod M] ∧ (∀ b, b < n → H' b = H b) ∧ E 1 = a ∧ E 2 = b ∧ E 3 = .ptr n 0 ∧ E 7 = .int .i64 (cn (sm i fun i => ein M (f i) * ein M (g i)) : Nat) ∧ E 8 = .int .i64 (i : Nat) ∧ i ≤ min la lb) (fun i => min la lb - i) 0 ?_ ?_
  · exact ⟨rfl, by simp -implicitDefEqProofs only [upd_same], fun b hb => upd_ne _ _ (by omega), rfl, rfl, rfl, by simp -implicitDefEqProofs only [st_same, st_ne, Nat.reduceBEq, Alg.sm_zero, cn_zero]; rfl, rfl, by omega⟩
  rintro i E H' n' ⟨rfl, h0, ho, e1, e2, e3, e7, e8, hi⟩
  by_cases hc : i < min la lb
  · have hca : ((i : Nat) : Int) < (la : Nat) := by omega
    have hcb : ((i : Nat) : Int) < (lb : Nat) := by omega
    obtain ⟨pa, pa1, pa2, pa3⟩ := ha.idx i (by omega)
    obtain ⟨pb, pb1, pb2, pb3⟩ := hb.idx i (by omega)
    have pa4 := fun q => pa3 q H' (n + 1) (by omega) ho
    have pb4 := fun q => pb3 q H' (n + 1) (by omega) ho
    have hwi := wrap64 (x := (i : Int) + 1) (by omega)
    simp -implicitDefEqProofs only [gev_t, gev_c, st_same, st_ne, e_nil, e_cons, e_kops, e_guard, e_tt, e_some, e_mov, e_pick, e_pick_t, e_bin, e_lss, e_iaddr, e_len, w_skip, w_region, w_seq, w_block, w_cond, w_draw, s_n, c_t, m_cons, m_kmops, m_kpm, m_load, m_call, Nat.reduceLT, Nat.reduceBEq, decide_true, List.length_cons, List.length_nil, true_and, List.drop_zero, List.take_zero, List.take_succ_cons, Nat.zero_add, List.map_cons, List.map_nil, m_p_mov, m_p_indexAddr, m_cell_ptr, m_clm, Nat.lt_add_one, ns2, ns12, Nat.le_refl, e1, e2, e3, e7, e8, h0, hal, hbl, hca, hcb, pa1, pb1, pa4, pb4]
    refine mcall_of (.int _ _) (fun H1 n1 _ _ => sp_ref04_Mul h (f i) (g i)) ?_
    simp -implicitDefEqProofs only [gev_t, st_same, st_ne, e_cons, e_call, d_kdr, m_nil, m_kmops, Nat.reduceLT, Nat.reduceBEq, List.map_cons, List.map_nil]
    refine call_of (sp_ref04_Add h _ _) ?_
    simp -implicitDefEqProofs only [gev_t, gev_c, st_same, st_ne, e_nil, e_cons, e_kops, e_some, e_mov, e_bin, e_add, w_region, s_n, b_n, Nat.reduceLT, Nat.reduceBEq, e8, hwi]
    refine l_n ⟨i + 1, by omega, rfl, h0, ho, by simp -implicitDefEqProofs only [st_ne, Nat.reduceBEq, e1], by simp -implicitDefEqProofs only [st_ne, Nat.reduceBEq, e2], by simp -implicitDefEqProofs only [st_ne, Nat.reduceBEq, e3], ?_, by simp -implicitDefEqProofs only [st_same]; rfl, by omega⟩
    simp -implicitDefEqProofs only [st_same, st_ne, Nat.reduceBEq]
    have e1 : cd (ein M (f i) * ein M (g i)) = (cn (ein M (f i) * ein M (g i)) : Nat) := cd_cn _
    rw [e1]
    have hein : ∀ a : El M, ein M ((cn a : Nat) : Int) = a := fun a => by
      have h1 := ein_inq h (cn a : Nat)
      have : inq (qn M : Nat) ((cn a : Nat) : Int) = (cn a : Nat) := if_pos ⟨by omega, by have := cn_lt a; omega⟩
      rw [this] at h1
      exact cn_inj (by omega)
    rw [hein, hein, Alg.sm_succ, cd_cn]
  · have him : i = min la lb := by omega
    by_cases hca : ((i : Nat) : Int) < (la : Nat)
    · have hcb : ¬ ((i : Nat) : Int) < (lb : Nat) := by omega
      simp -implicitDefEqProofs only [gev_t, gev_c, st_same, st_ne, e_nil, e_cons, e_kops, e_guard, e_tt, e_some, e_mov, e_pick, e_pick_t, e_bin, e_lss, e_len, w_region, w_seq, w_exit, w_ret, w_cond, s_n, s_x, b_x, c_f, l_x, Nat.reduceLT, Nat.reduceBEq, decide_true, decide_false, if_true, Nat.lt_add_one, e1, e2, e7, e8, hal, hbl, hca, hcb]
      refine fin_ret rfl (by decide) ?_ ho
      simp -implicitDefEqProofs only [st_same]; exact fz_int (by rw [him])
    · simp -implicitDefEqProofs only [gev_t, gev_c, st_same, st_ne, e_nil, e_cons, e_kops, e_guard, e_tf, e_some, e_mov, e_pick, e_pick_f, e_bin, e_lss, e_len, w_region, w_seq, w_exit, w_ret, w_cond, s_n, s_x, b_x, c_f, l_x, Nat.reduceLT, Nat.reduceBEq, decide_false, if_true, Nat.lt_add_one, e1, e7, e8, hal, hca]
      refine fin_ret rfl (by decide) ?_ ho
      simp -implicitDefEqProofs only [st_same]; exact fz_int (by rw [him])
end
end Go.Proofs.Ytdpibcniodhinaa.Gh
/- A step of the machine, as the program makes it. -/
namespace Go.Proofs.Ytdpibcniodhinaa.Gh
open Go Go.RowKit
open Alg (CR Ps Dg Zm Mn El Cg sm pw Irr Prm)
set_option linter.unusedVariables false
set_option linter.unusedSimpArgs false

def Enc.mcl (e : Enc) (gf : GV) (q : Nat) : List GV := [gf, .sl e.r (tab e.r fun t => .sl (e.w t) (tab (e.w t) (e.rowf t))), .int .i64 (e.r : Nat), .int .i64 (e.w 0 : Nat), isl e.r (fun t => (e.deg t : Nat)), .int .i64 (e.mem e.r : Nat), .int .i64 (q : Nat), .int .i64 (q ^ e.ds e.r : Nat), isl e.r fun t => (q ^ e.ds t : Nat)]
theorem Enc.mch_eq (e : Enc) (gf : GV) (q : Nat) : e.mch gf q = .pp (e.mcl gf q) 0 := rfl
section
variable {k : Nat} {M : Mn k}
theorem Enc.pow_le {e : Enc} (h : Fi M) (d : e.Des M) (hce : e.ce = 0) : ∀ x, x ≤ e.ds e.r → qn M ^ x ≤ 65536 := by
  have h1 := (Enc.ok hce).2.2.2.2
  rw [d.qo h, ← Int.natCast_pow] at h1
  have h2 := e.tot_ds e.r
  have h3 := qn_two M
  intro x hx
  exact Nat.le_trans (Nat.pow_le_pow_right (by omega) (show x ≤ e.tot e.r by omega)) (by omega)
set_option maxHeartbeats 4000000 in
theorem sp_step' {H : Heap} {n : Nat} (e : Enc) (hB : e.Bnd) (h : Fi M) (hd : e.Des M) (hce : e.ce = 0) (st : Int) (inp : Nat → Int) (hs0 : 0 ≤ st) (hs1 : st ≤ 65536) (hin : ∀ i, i < e.r → 0 ≤ inp i ∧ inp i < (qn M : Nat)) {a : GV} (ha : Rd H n a e.r inp) :
    Spec prog fid_conv_machine_step [e.mch h.gf (qn M), .int .i64 st, a] H n (.tup [.int .i64 (e.nx (qn M : Nat) st inp e.r 0), isl (e.w 0) fun j => (cn (e.so M st inp e.r 0 j) : Nat)]) H n := by
  refine spec_ends hmix ok_conv_machine_step rfl fun hF => ?_
  show gw prog B_conv_machine_step _ (tl 128 _) H n
  have hq2 := qn_two M
  have hq := h.fc.qn
  have hr := hB.r
  have hpw := Enc.pow_le h hd hce
  have hok := Enc.ok hce
  have hr0 : 0 < e.r := by have := hok.2.1.1; omega
  have hw0 := hB.w 0 hr0
  have hq2I : (2 : Int) ≤ ((qn M : Nat) : Int) := by omega
  have hqne : (((qn M : Nat) : Int) = 0) = False := eq_false (by omega)
  have hP : ∀ x, ((qn M ^ x : Nat) : Int) = ((qn M : Nat) : Int) ^ x := fun x => Int.natCast_pow ..
  have hdiv : ∀ x, 0 ≤ st / ((qn M : Nat) : Int) ^ x ∧ st / ((qn M : Nat) : Int) ^ x ≤ 65536 := fun x => by
    have h0 : 0 < ((qn M : Nat) : Int) ^ x := Int.pow_pos (by omega)
    exact ⟨Int.ediv_nonneg (by omega) (by omega), Int.le_trans (Int.ediv_le_self _ (by omega)) (by omega)⟩
  have hpw : ∀ x, x ≤ e.ds e.r → ((qn M ^ x : Nat) : Int) ≤ 65536 := fun x hx => by have := hpw x hx; omega
  have hal := ha.len
  rw [e.mch_eq]
  simp -implicitDefEqProofs only [B_conv_machine_step, Enc.mcl, gev_t, gev_c, st_same, st_ne, mkE_nil, mkE_cons, e_nil, e_cons, e_kops, e_some, e_mov, e_faddr, e_faddr_pp, e_nilc, e_nilc_pp, e_len, w_region, w_seq, w_block, w_loop, w_draw, s_n, d_kdr, m_nil, m_cons, m_kmops, m_kmopsn, m_kpm, m_load, m_cell_pp, m_mslice, m_ms_int, Nat.reduceLT, Nat.reduceBEq, Nat.reduceAdd, Int.toNat_natCast, List.length_cons, List.length_nil, gat_3, true_and, Nat.zero_add, m_p_mov, m_p_fieldAddr, m_p_nilCheck, ns2, Int.natCast_nonneg, ns12, ns13, ns14, ns15, hal]
  repeat with_reducible refine And.intro (by omega) ?_
  refine loop_rule (fun (i : Nat) E H' n' => n' = n + 1 ∧ H' n = some (tab (e.w 0) (it fun j => (cn (e.so M st inp i 0 j) : Nat))) ∧ (∀ b, b < n → H' b = H b) ∧ E 0 = .pp (e.mcl h.gf (qn M)) 0 ∧ E 1 = .int .i64 st ∧ E 8 = .int .i64 (e.nx (qn M : Nat) st inp i 0) ∧ E 9 = .own n 0 (e.w 0) ∧ E 21 = a ∧ E 22 = .int .i64 (e.r : Nat) ∧ E 23 = .int .i64 (i : Nat) ∧ i ≤ e.r) (fun i => e.r - i) 0 ?_ ?_
  · refine ⟨rfl, ?_, fun b hb => upd_ne _ _ (by omega), rfl, rfl, rfl, rfl, rfl, rfl, rfl, by omega⟩
    simp -implicitDefEqProofs only [upd_same, tab_rep]
    refine congrArg some (tab_congr fun j hj => congrArg (GV.int .i64) ?_)
    show (0 : Int) = ((cn (e.so M st inp 0 0 j) : Nat) : Int)
    rw [e.so_zero, cn_zero]; rfl
  rintro i E H' n' ⟨rfl, hrow, ho, e0, e1, e8, e9, e21, e22, e23, hi⟩
  simp -implicitDefEqProofs only [gev_t, st_same, e_nil, e_cons, e_kops, e_some, e_bin, e_lss, w_region, w_seq, w_cond, s_n, Nat.reduceLT, e22, e23]
  refine c_split (fun hc => ?_) (fun hc => ?_)
  · have hiN : i < e.r := by omega
    have hiI : ((i : Nat) : Int) < ((e.r : Nat) : Int) := hc
    have hwi := wrap64 (x := (i : Int) + 1) (by omega)
    have hdsm : e.ds (i + 1) ≤ e.ds e.r := sumn_mono (by omega)
    have hdsS : e.ds (i + 1) = e.ds i + e.deg i := rfl
    have hdeg := e.deg_le hB hiN
    have hwN : e.w i = e.w 0 := hok.2.1.2.2.2 i hiN
    have hv0 := hdiv (e.ds i)
    have hp0 := hpw (e.ds i) (by omega)
    have hpp : 0 < qn M ^ e.ds i := Nat.pow_pos (by omega)
    have hpne : (((qn M ^ e.ds i : Nat) : Int) = 0) = False := eq_false (by omega)
    have w0 : IntKind.i64.wrap (st.tdiv ((qn M ^ e.ds i : Nat) : Int)) = st / ((qn M : Nat) : Int) ^ (e.ds i + 0) := by
      rw [tdiv_nn (by omega), hP]; exact wrap64 (by rw [Nat.add_zero] at *; omega)
    obtain ⟨pa, pa1, pa2, pa3⟩ := ha.idx i hiN
    have pa4 := fun q => pa2 q H' H' (n + 1) ho
    simp -implicitDefEqProofs only [gev_t, gev_c, st_same, st_ne, e_nil, e_cons, e_kops, e_some, e_mov, e_bin, e_quo, e_faddr, e_faddr_pp, e_iaddr, e_iaddr_sl, e_nilc, e_nilc_pp, e_load, w_skip, w_region, w_seq, w_block, w_loop, w_draw, s_n, d_kdr, m_nil, m_cons, m_kmops, m_kpm, m_load, m_cell_pp, Nat.reduceLT, Nat.reduceBEq, Nat.reduceAdd, decide_true, Int.toNat_natCast, List.length_cons, List.length_nil, gat_8, true_and, and_self, if_true, if_false, Nat.add_zero, Nat.zero_add, Nat.mul_one, tab_len, m_p_mov, m_p_bin, m_p_fieldAddr, m_p_indexAddr, m_p_nilCheck, Nat.lt_add_one, ns2, Int.natCast_nonneg, it_at, ns12, ns13, ns14, ns15, Enc.mcl, e0, e1, e21, e23, hiI, hiN, gat_tab, hpne, w0, pa1, pa4]
    clear pa4
    refine loop_rule (fun (d : Nat) E H' n' => n' = n + 1 ∧ H' n = some (tab (e.w 0) (it fun j => (cn (e.so M st inp i d j) : Nat))) ∧ (∀ b, b < n → H' b = H b) ∧ E 0 = .pp (e.mcl h.gf (qn M)) 0 ∧ E 1 = .int .i64 st ∧ E 8 = .int .i64 (e.nx (qn M : Nat) st inp i (min d (e.deg i))) ∧ E 9 = .own n 0 (e.w 0) ∧ E 10 = .int .i64 (i : Nat) ∧ E 14 = .int .i64 (d : Nat) ∧ E 21 = a ∧ E 22 = .int .i64 (e.r : Nat) ∧ E 23 = .int .i64 (i : Nat) ∧ (d ≤ e.deg i → E 11 = .int .i64 (e.X (qn M : Nat) st inp i d) ∧ E 12 = .int .i64 (((qn M : Nat) : Int) ^ (e.ds i + d)) ∧ E 13 = .int .i64 (st / ((qn M : Nat) : Int) ^ (e.ds i + d))) ∧ d ≤ e.deg i + 1) (fun d => e.deg i + 1 - d) 0 ?_ ?_
    · refine ⟨rfl, hrow, ho, by simp -implicitDefEqProofs only [st_ne, Nat.reduceBEq, e0, Enc.mcl], by simp -implicitDefEqProofs only [st_ne, Nat.reduceBEq, e1], ?_, by simp -implicitDefEqProofs only [st_ne, Nat.reduceBEq, e9], by simp -implicitDefEqProofs only [st_same, st_ne, Nat.reduceBEq], rfl, by simp -implicitDefEqProofs only [st_ne, Nat.reduceBEq, e21], by simp -implicitDefEqProofs only [st_ne, Nat.reduceBEq, e22], by simp -implicitDefEqProofs only [st_ne, Nat.reduceBEq, e23], fun _ => ⟨?_, ?_, ?_⟩, by omega⟩
      · simp -implicitDefEqProofs only [st_ne, Nat.reduceBEq, e8]
        have : min 0 (e.deg i) = 0 := by omega
        rw [this]
      · simp -implicitDefEqProofs only [st_same, st_ne, Nat.reduceBEq]; rfl
      · simp -implicitDefEqProofs only [st_same, st_ne, Nat.reduceBEq, Nat.add_zero]; rw [hP]
      · simp -implicitDefEqProofs only [st_same, st_ne, Nat.reduceBEq, Nat.add_zero]
    clear hrow ho e0 e1 e8 e9 e21 e22 e23 E H'
    rintro d E H' n' ⟨rfl, hrow, ho, e0, e1, e8, e9, e10, e14, e21, e22, e23, hx, hd1⟩
    simp -implicitDefEqProofs only [gev_t, st_same, st_ne, e_nil, e_cons, e_kops, e_some, e_mov, e_bin, e_leq, e_faddr, e_faddr_pp, e_iaddr, e_iaddr_sl, e_nilc, e_nilc_pp, e_load, e_cell_pp, w_region, w_seq, w_cond, s_n, Nat.reduceLT, Nat.reduceBEq, Nat.reduceAdd, Int.toNat_natCast, List.length_cons, List.length_nil, gat_4, true_and, and_self, if_true, Nat.zero_add, Nat.mul_one, tab_len, ns2, Int.natCast_nonneg, it_at, ns12, ns13, ns14, ns15, Enc.mcl, e0, e10, e14, hiI, hiN, gat_tab]
    refine c_split (fun hcd => ?_) (fun hcd => ?_)
    · have hdN : d ≤ e.deg i := by omega
      obtain ⟨e11, e12, e13⟩ := hx hdN
      have hwd := wrap64 (x := (d : Int) + 1) (by omega)
      have hX := e.X_in (st := st) hq2I hin hiN d
      have hXv : e.X (qn M : Nat) st inp i d = e.X (qn M : Nat) st inp i d := rfl
      generalize hXX : e.X (qn M : Nat) st inp i d = X at hX e11
      rw [hXX] at hXv
      have hXv := hXX
      by_cases hx0 : X = 0
      · have hrow : H' n = some (tab (e.w 0) (it fun j => (cn (e.so M st inp i (d + 1) j) : Nat))) := by
          rw [hrow]
          refine congrArg some (tab_congr fun j hj => congrArg (GV.int .i64) ?_)
          show ((cn (e.so M st inp i d j) : Nat) : Int) = ((cn (e.so M st inp i (d + 1) j) : Nat) : Int)
          rw [e.so_step, e.tm_zero h.fc st inp j i d (hXX.trans hx0), Alg.add_zero]
        simp -implicitDefEqProofs only [gev_t, gev_c, st_same, st_ne, e_nil, e_cons, e_kops, e_some, e_mov, e_bin, e_neq, e_nilc, w_skip, w_region, w_seq, w_block, w_cond, s_n, c_f, Nat.reduceLT, Nat.reduceBEq, decide_true, Bool.not_true, e11, hx0]
        by_cases hdl : d < e.deg i
        · have hdI : ((d : Nat) : Int) < ((e.deg i : Nat) : Int) := by omega
          have hnx := e.nx_step (qn M : Nat) st inp i d
          have hmn : min (d + 1) (e.deg i) = d + 1 := by omega
          have hmn0 : min d (e.deg i) = d := by omega
          have hb0 := e.nx_lt (st := st) hq2I hin i (by omega) d (.inr hiN)
          have hb1 := e.nx_lt (st := st) hq2I hin i (by omega) (d + 1) (.inr hiN)
          have hp1 := hpw (e.ds i + d) (by omega)
          have hp2 := hpw (e.ds i + (d + 1)) (by omega)
          have hps : qn M ^ (e.ds i + (d + 1)) = qn M ^ (e.ds i + d) * qn M := Nat.pow_succ ..
          have hX1 : e.X (qn M : Nat) st inp i (d + 1) = st / ((qn M : Nat) : Int) ^ (e.ds i + d) % ((qn M : Nat) : Int) := rfl
          have hdst := dg_step (p := ((qn M : Nat) : Int)) (x := st) hq2I (e.ds i + d)
          have hv0 := hdiv (e.ds i + d)
          have hv1 := hdiv (e.ds i + (d + 1))
          rw [hP] at hp1 hp2
          have hm0 : 0 ≤ X * ((qn M : Nat) : Int) ^ (e.ds i + d) := Int.mul_nonneg hX.1 (by omega)
          have hm1 : X * ((qn M : Nat) : Int) ^ (e.ds i + d) ≤ 256 * 65536 := Int.mul_le_mul (by omega) (by omega) (by omega) (by omega)
          have w1 := wrap64 (x := X * ((qn M : Nat) : Int) ^ (e.ds i + d)) (by omega)
          have w2 : IntKind.i64.wrap (e.nx (qn M : Nat) st inp i d + X * ((qn M : Nat) : Int) ^ (e.ds i + d)) = e.nx (qn M : Nat) st inp i (d + 1) := by rw [hnx, hXv]; exact wrap64 (by omega)
          have w3 : IntKind.i64.wrap (((qn M : Nat) : Int) ^ (e.ds i + d) * ((qn M : Nat) : Int)) = ((qn M : Nat) : Int) ^ (e.ds i + (d + 1)) := by
            have : ((qn M : Nat) : Int) ^ (e.ds i + (d + 1)) = ((qn M : Nat) : Int) ^ (e.ds i + d) * ((qn M : Nat) : Int) := Int.pow_succ _ _
            rw [← this]; exact wrap64 (by omega)
          have t1 := tmod_nn (a := st / ((qn M : Nat) : Int) ^ (e.ds i + d)) (b := ((qn M : Nat) : Int)) (by omega)
          have w4 : IntKind.i64.wrap ((st / ((qn M : Nat) : Int) ^ (e.ds i + d)).tdiv ((qn M : Nat) : Int)) = st / ((qn M : Nat) : Int) ^ (e.ds i + (d + 1)) := by
            rw [tdiv_nn (by omega), hdst]; exact wrap64 (x := st / ((qn M : Nat) : Int) ^ (e.ds i + (d + 1))) (by omega)
          simp -implicitDefEqProofs only [gev_t, gev_c, st_same, st_ne, e_nil, e_cons, e_kops, e_some, e_mov, e_bin, e_add, e_mul, e_quo, e_rem, e_lss, e_faddr, e_faddr_pp, e_iaddr, e_iaddr_sl, e_nilc, e_nilc_pp, e_load, e_cell_pp, w_region, w_seq, w_cond, s_n, b_n, c_t, Nat.reduceLT, Nat.reduceBEq, Nat.reduceAdd, decide_true, Int.toNat_natCast, List.length_cons, List.length_nil, gat_4, gat_6, true_and, and_self, if_true, if_false, Nat.zero_add, Nat.mul_one, tab_len, ns2, Int.natCast_nonneg, it_at, ns12, ns13, ns14, ns15, Enc.mcl, e0, e8, e10, e11, e12, e13, e14, hiI, hiN, gat_tab, hdI, hmn0, hqne, w1, w2, w3, w4, t1, hwd]
          exact l_n ⟨d + 1, by omega, rfl, hrow, ho, by simp -implicitDefEqProofs only [st_ne, Nat.reduceBEq, e0, Enc.mcl], by simp -implicitDefEqProofs only [st_ne, Nat.reduceBEq, e1], by simp -implicitDefEqProofs only [st_same, st_ne, Nat.reduceBEq, hmn], by simp -implicitDefEqProofs only [st_ne, Nat.reduceBEq, e9], by simp -implicitDefEqProofs only [st_ne, Nat.reduceBEq, e10], by simp -implicitDefEqProofs only [st_same]; rfl, by simp -implicitDefEqProofs only [st_ne, Nat.reduceBEq, e21], by simp -implicitDefEqProofs only [st_ne, Nat.reduceBEq, e22], by simp -implicitDefEqProofs only [st_ne, Nat.reduceBEq, e23], fun _ => ⟨by simp -implicitDefEqProofs only [st_same, st_ne, Nat.reduceBEq]; rfl, by simp -implicitDefEqProofs only [st_same, st_ne, Nat.reduceBEq], by simp -implicitDefEqProofs only [st_same, st_ne, Nat.reduceBEq]⟩, by omega⟩
        · have hdI : ¬ ((d : Nat) : Int) < ((e.deg i : Nat) : Int) := by omega
          have hmn : min (d + 1) (e.deg i) = min d (e.deg i) := by omega
          simp -implicitDefEqProofs only [gev_t, gev_c, st_same, st_ne, e_nil, e_cons, e_kops, e_some, e_mov, e_bin, e_add, e_lss, e_faddr, e_faddr_pp, e_iaddr, e_iaddr_sl, e_nilc_pp, e_load, e_cell_pp, w_skip, w_region, w_cond, s_n, b_n, c_f, Nat.reduceLT, Nat.reduceBEq, Nat.reduceAdd, decide_false, Int.toNat_natCast, List.length_cons, List.length_nil, gat_4, true_and, and_self, if_true, Nat.zero_add, Nat.mul_one, tab_len, ns2, Int.natCast_nonneg, it_at, ns12, ns13, ns14, ns15, Enc.mcl, e0, e10, e14, hiI, hiN, gat_tab, hdI, hwd]
          exact l_n ⟨d + 1, by omega, rfl, hrow, ho, by simp -implicitDefEqProofs only [st_ne, Nat.reduceBEq, e0, Enc.mcl], by simp -implicitDefEqProofs only [st_ne, Nat.reduceBEq, e1], by simp -implicitDefEqProofs only [st_ne, Nat.reduceBEq, e8, hmn], by simp -implicitDefEqProofs only [st_ne, Nat.reduceBEq, e9], by simp -implicitDefEqProofs only [st_ne, Nat.reduceBEq, e10], by simp -implicitDefEqProofs only [st_same]; rfl, by simp -implicitDefEqProofs only [st_ne, Nat.reduceBEq, e21], by simp -implicitDefEqProofs only [st_ne, Nat.reduceBEq, e22], by simp -implicitDefEqProofs only [st_ne, Nat.reduceBEq, e23], fun h => by omega, by omega⟩
      · simp -implicitDefEqProofs only [gev_t, gev_c, st_same, st_ne, e_nil, e_cons, e_kops, e_some, e_mov, e_bin, e_neq, e_len, e_len_own, w_skip, w_region, w_seq, w_block, w_cond, w_loop, s_n, c_t, Nat.reduceLT, Nat.reduceBEq, decide_false, Bool.not_false, e9, e11, hx0]
        refine loop_rule (fun (j : Nat) E H' n' => n' = n + 1 ∧ H' n = some (tab (e.w 0) (it (mix (fun j => (cn (e.so M st inp i (d + 1) j) : Nat)) (fun j => (cn (e.so M st inp i d j) : Nat)) j))) ∧ (∀ b, b < n → H' b = H b) ∧ E 0 = .pp (e.mcl h.gf (qn M)) 0 ∧ E 1 = .int .i64 st ∧ E 8 = .int .i64 (e.nx (qn M : Nat) st inp i (min d (e.deg i))) ∧ E 9 = .own n 0 (e.w 0) ∧ E 10 = .int .i64 (i : Nat) ∧ E 11 = .int .i64 X ∧ E 12 = .int .i64 (((qn M : Nat) : Int) ^ (e.ds i + d)) ∧ E 13 = .int .i64 (st / ((qn M : Nat) : Int) ^ (e.ds i + d)) ∧ E 14 = .int .i64 (d : Nat) ∧ E 21 = a ∧ E 22 = .int .i64 (e.r : Nat) ∧ E 23 = .int .i64 (i : Nat) ∧ E 58 = .int .i64 (e.w 0 : Nat) ∧ E 59 = .int .i64 (j : Nat) ∧ j ≤ e.w 0) (fun j => e.w 0 - j) 0 ?_ ?_
        · exact ⟨rfl, by rw [mix_zero]; exact hrow, ho, by simp -implicitDefEqProofs only [st_ne, Nat.reduceBEq, e0, Enc.mcl], by simp -implicitDefEqProofs only [st_ne, Nat.reduceBEq, e1], by simp -implicitDefEqProofs only [st_ne, Nat.reduceBEq, e8], by simp -implicitDefEqProofs only [st_ne, Nat.reduceBEq, e9], by simp -implicitDefEqProofs only [st_ne, Nat.reduceBEq, e10], by simp -implicitDefEqProofs only [st_ne, Nat.reduceBEq, e11], by simp -implicitDefEqProofs only [st_ne, Nat.reduceBEq, e12], by simp -implicitDefEqProofs only [st_ne, Nat.reduceBEq, e13], by simp -implicitDefEqProofs only [st_ne, Nat.reduceBEq, e14], by simp -implicitDefEqProofs only [st_ne, Nat.reduceBEq, e21], by simp -implicitDefEqProofs only [st_ne, Nat.reduceBEq, e22], by simp -implicitDefEqProofs only [st_ne, Nat.reduceBEq, e23], by simp -implicitDefEqProofs only [st_same, st_ne, Nat.reduceBEq], rfl, by omega⟩
        clear hrow ho e0 e1 e8 e9 e10 e11 e12 e13 e14 e21 e22 e23 hx E H'
        rintro j E H' n' ⟨rfl, hrow, ho, e0, e1, e8, e9, e10, e11, e12, e13, e14, e21, e22, e23, e58, e59, hj⟩
        simp -implicitDefEqProofs only [gev_t, st_same, e_nil, e_cons, e_kops, e_some, e_bin, e_lss, w_region, w_seq, w_cond, s_n, Nat.reduceLT, e58, e59]
        refine c_split (fun hcj => ?_) (fun hcj => ?_)
        · have hjN : j < e.w 0 := by omega
          have hjI : ((j : Nat) : Int) < ((e.w 0 : Nat) : Int) := hcj
          have hwj := wrap64 (x := (j : Int) + 1) (by omega)
          have hn := hB.n i j hiN (by omega)
          simp -implicitDefEqProofs only [gev_t, st_same, st_ne, e_nil, e_cons, e_kops, e_some, e_mov, e_faddr, e_faddr_pp, e_iaddr, e_iaddr_own, e_iaddr_sl, e_nilc, e_nilc_pp, w_skip, w_region, w_seq, w_block, w_draw, s_n, m_cons, m_kmops, m_kpm, m_load, m_cell_pp, m_call, Nat.reduceLT, Nat.reduceBEq, Nat.reduceAdd, decide_true, Int.toNat_natCast, List.length_cons, List.length_nil, gat_0, gat_1, true_and, and_self, if_true, Nat.add_zero, Nat.zero_add, Nat.mul_one, List.map_cons, List.map_nil, tab_len, m_p_mov, m_p_fieldAddr, m_p_indexAddr, m_p_nilCheck, m_cell_ptr, m_cl1, Nat.lt_add_one, ns2, Int.natCast_nonneg, it_at, ns12, ns13, ns14, ns15, Enc.mcl, e0, e9, e10, e11, e14, e59, hrow, hjN, hjI, hiN, hiI, gat_tab, hwN, e.rowf_at, mix_at]
          refine mcall_of (.int _ _) (fun H1 n1 _ _ => sp_coefficient e i j d (by omega)) ?_
          simp -implicitDefEqProofs only [gev_t, st_same, st_ne, m_cons, m_kmops, m_call, Nat.reduceLT, Nat.reduceBEq, List.map_cons, List.map_nil]
          refine mcall_of (.int _ _) (fun H1 n1 _ _ => sp_GF_Mul h.fc h.g h.gg X (e.co i j d)) ?_
          simp -implicitDefEqProofs only [gev_t, st_same, st_ne, m_cons, m_kmops, m_call, Nat.reduceLT, Nat.reduceBEq, List.map_cons, List.map_nil]
          refine mcall_of (.int _ _) (fun H1 n1 _ _ => sp_GF_Add h.fc h.g _ _) ?_
          have hval : ein M ((cn (e.so M st inp i d j) : Nat) : Int) + ein M ((cn (ein M X * ein M (e.co i j d)) : Nat) : Int) = e.so M st inp i (d + 1) j := by
            rw [ein_cn h.fc, ein_cn h.fc, e.so_step, Enc.tm, hXX]
          rw [hval]
          have hst := mix_step (fun j => ((cn (e.so M st inp i (d + 1) j) : Nat) : Int)) (fun j => ((cn (e.so M st inp i d j) : Nat) : Int)) j
          simp -implicitDefEqProofs only [gev_t, gev_c, st_same, st_ne, e_nil, e_cons, e_kops, e_kops_none, e_some, e_mov, e_bin, e_add, e_iaddr, e_iaddr_own, e_store, e_gc_int, w_region, s_n, b_n, d_kdr, m_nil, m_kmops, Nat.reduceLT, Nat.reduceBEq, Int.toNat_natCast, List.length_cons, List.length_nil, setL_nil, setL_cons, e_store_ptr, e_stp, cell_int, true_and, and_self, if_true, List.all_cons, List.all_nil, Bool.and_self, Nat.zero_add, Nat.mul_one, tab_len, tab_set, it_upf, Int.natCast_nonneg, e59, hrow, hjI, hwj, hst]
          repeat with_reducible refine And.intro (by omega) ?_
          exact l_n ⟨j + 1, by omega, rfl, by simp -implicitDefEqProofs only [upd_same], fun b hb => by rw [upd_ne _ _ (by omega)]; exact ho b hb, by simp -implicitDefEqProofs only [st_ne, Nat.reduceBEq, e0, Enc.mcl], by simp -implicitDefEqProofs only [st_ne, Nat.reduceBEq, e1], by simp -implicitDefEqProofs only [st_ne, Nat.reduceBEq, e8], by simp -implicitDefEqProofs only [st_ne, Nat.reduceBEq, e9], by simp -implicitDefEqProofs only [st_ne, Nat.reduceBEq, e10], by simp -implicitDefEqProofs only [st_ne, Nat.reduceBEq, e11], by simp -implicitDefEqProofs only [st_ne, Nat.reduceBEq, e12], by simp -implicitDefEqProofs only [st_ne, Nat.reduceBEq, e13], by simp -implicitDefEqProofs only [st_ne, Nat.reduceBEq, e14], by simp -implicitDefEqProofs only [st_ne, Nat.reduceBEq, e21], by simp -implicitDefEqProofs only [st_ne, Nat.reduceBEq, e22], by simp -implicitDefEqProofs only [st_ne, Nat.reduceBEq, e23], by simp -implicitDefEqProofs only [st_ne, Nat.reduceBEq, e58], by simp -implicitDefEqProofs only [st_same]; rfl, by omega⟩
        · have hjw : j = e.w 0 := by omega
          subst hjw
          have hrow : H' n = some (tab (e.w 0) (it fun j => (cn (e.so M st inp i (d + 1) j) : Nat))) := by
            rw [hrow]
            exact congrArg some (tab_congr fun j hj => congrArg (GV.int .i64) (mix_lt _ _ hj))
          simp -implicitDefEqProofs only [gev_t, gev_c, st_same, st_ne, e_nil, e_cons, e_kops, e_mov, e_bin, e_nilc, w_region, w_seq, w_exit, w_ret, s_n, s_x, b_n, b_x, l_x, Nat.reduceLT, Nat.reduceBEq, Nat.reduceEqDiff, if_true, if_false, Nat.lt_add_one]
          by_cases hdl : d < e.deg i
          · have hdI : ((d : Nat) : Int) < ((e.deg i : Nat) : Int) := by omega
            have hnx := e.nx_step (qn M : Nat) st inp i d
            have hmn : min (d + 1) (e.deg i) = d + 1 := by omega
            have hmn0 : min d (e.deg i) = d := by omega
            have hb0 := e.nx_lt (st := st) hq2I hin i (by omega) d (.inr hiN)
            have hb1 := e.nx_lt (st := st) hq2I hin i (by omega) (d + 1) (.inr hiN)
            have hp1 := hpw (e.ds i + d) (by omega)
            have hp2 := hpw (e.ds i + (d + 1)) (by omega)
            have hps : qn M ^ (e.ds i + (d + 1)) = qn M ^ (e.ds i + d) * qn M := Nat.pow_succ ..
            have hX1 : e.X (qn M : Nat) st inp i (d + 1) = st / ((qn M : Nat) : Int) ^ (e.ds i + d) % ((qn M : Nat) : Int) := rfl
            have hdst := dg_step (p := ((qn M : Nat) : Int)) (x := st) hq2I (e.ds i + d)
            have hv0 := hdiv (e.ds i + d)
            have hv1 := hdiv (e.ds i + (d + 1))
            rw [hP] at hp1 hp2
            have hm0 : 0 ≤ X * ((qn M : Nat) : Int) ^ (e.ds i + d) := Int.mul_nonneg hX.1 (by omega)
            have hm1 : X * ((qn M : Nat) : Int) ^ (e.ds i + d) ≤ 256 * 65536 := Int.mul_le_mul (by omega) (by omega) (by omega) (by omega)
            have w1 := wrap64 (x := X * ((qn M : Nat) : Int) ^ (e.ds i + d)) (by omega)
            have w2 : IntKind.i64.wrap (e.nx (qn M : Nat) st inp i d + X * ((qn M : Nat) : Int) ^ (e.ds i + d)) = e.nx (qn M : Nat) st inp i (d + 1) := by rw [hnx, hXv]; exact wrap64 (by omega)
            have w3 : IntKind.i64.wrap (((qn M : Nat) : Int) ^ (e.ds i + d) * ((qn M : Nat) : Int)) = ((qn M : Nat) : Int) ^ (e.ds i + (d + 1)) := by
              have : ((qn M : Nat) : Int) ^ (e.ds i + (d + 1)) = ((qn M : Nat) : Int) ^ (e.ds i + d) * ((qn M : Nat) : Int) := Int.pow_succ _ _
              rw [← this]; exact wrap64 (by omega)
            have t1 := tmod_nn (a := st / ((qn M : Nat) : Int) ^ (e.ds i + d)) (b := ((qn M : Nat) : Int)) (by omega)
            have w4 : IntKind.i64.wrap ((st / ((qn M : Nat) : Int) ^ (e.ds i + d)).tdiv ((qn M : Nat) : Int)) = st / ((qn M : Nat) : Int) ^ (e.ds i + (d + 1)) := by
              rw [tdiv_nn (by omega), hdst]; exact wrap64 (x := st / ((qn M : Nat) : Int) ^ (e.ds i + (d + 1))) (by omega)
            simp -implicitDefEqProofs only [gev_t, gev_c, st_same, st_ne, e_nil, e_cons, e_kops, e_some, e_mov, e_bin, e_add, e_mul, e_quo, e_rem, e_lss, e_faddr, e_faddr_pp, e_iaddr, e_iaddr_sl, e_nilc, e_nilc_pp, e_load, e_cell_pp, w_region, w_seq, w_cond, s_n, b_n, c_t, Nat.reduceLT, Nat.reduceBEq, Nat.reduceAdd, decide_true, Int.toNat_natCast, List.length_cons, List.length_nil, gat_4, gat_6, true_and, and_self, if_true, if_false, Nat.zero_add, Nat.mul_one, tab_len, ns2, Int.natCast_nonneg, it_at, ns12, ns13, ns14, ns15, Enc.mcl, e0, e8, e10, e11, e12, e13, e14, hiI, hiN, gat_tab, hdI, hmn0, hqne, w1, w2, w3, w4, t1, hwd]
            exact l_n ⟨d + 1, by omega, rfl, hrow, ho, by simp -implicitDefEqProofs only [st_ne, Nat.reduceBEq, e0, Enc.mcl], by simp -implicitDefEqProofs only [st_ne, Nat.reduceBEq, e1], by simp -implicitDefEqProofs only [st_same, st_ne, Nat.reduceBEq, hmn], by simp -implicitDefEqProofs only [st_ne, Nat.reduceBEq, e9], by simp -implicitDefEqProofs only [st_ne, Nat.reduceBEq, e10], by simp -implicitDefEqProofs only [st_same]; rfl, by simp -implicitDefEqProofs only [st_ne, Nat.reduceBEq, e21], by simp -implicitDefEqProofs only [st_ne, Nat.reduceBEq, e22], by simp -implicitDefEqProofs only [st_ne, Nat.reduceBEq, e23], fun _ => ⟨by simp -implicitDefEqProofs only [st_same, st_ne, Nat.reduceBEq]; rfl, by simp -implicitDefEqProofs only [st_same, st_ne, Nat.reduceBEq], by simp -implicitDefEqProofs only [st_same, st_ne, Nat.reduceBEq]⟩, by omega⟩
          · have hdI : ¬ ((d : Nat) : Int) < ((e.deg i : Nat) : Int) := by omega
            have hmn : min (d + 1) (e.deg i) = min d (e.deg i) := by omega
            simp -implicitDefEqProofs only [gev_t, gev_c, st_same, st_ne, e_nil, e_cons, e_kops, e_some, e_mov, e_bin, e_add, e_lss, e_faddr, e_faddr_pp, e_iaddr, e_iaddr_sl, e_nilc_pp, e_load, e_cell_pp, w_skip, w_region, w_cond, s_n, b_n, c_f, Nat.reduceLT, Nat.reduceBEq, Nat.reduceAdd, decide_false, Int.toNat_natCast, List.length_cons, List.length_nil, gat_4, true_and, and_self, if_true, Nat.zero_add, Nat.mul_one, tab_len, ns2, Int.natCast_nonneg, it_at, ns12, ns13, ns14, ns15, Enc.mcl, e0, e10, e14, hiI, hiN, gat_tab, hdI, hwd]
            exact l_n ⟨d + 1, by omega, rfl, hrow, ho, by simp -implicitDefEqProofs only [st_ne, Nat.reduceBEq, e0, Enc.mcl], by simp -implicitDefEqProofs only [st_ne, Nat.reduceBEq, e1], by simp -implicitDefEqProofs only [st_ne, Nat.reduceBEq, e8, hmn], by simp -implicitDefEqProofs only [st_ne, Nat.reduceBEq, e9], by simp -implicitDefEqProofs only [st_ne, Nat.reduceBEq, e10], by simp -implicitDefEqProofs only [st_same]; rfl, by simp -implicitDefEqProofs only [st_ne, Nat.reduceBEq, e21], by simp -implicitDefEqProofs only [st_ne, Nat.reduceBEq, e22], by simp -implicitDefEqProofs only [st_ne, Nat.reduceBEq, e23], fun h => by omega, by omega⟩
    · have hdd : d = e.deg i + 1 := by omega
      subst hdd
      have hmn : min (e.deg i + 1) (e.deg i) = e.deg i := by omega
      rw [hmn, ← e.nx_row] at e8
      have hrow : H' n = some (tab (e.w 0) (it fun j => (cn (e.so M st inp (i + 1) 0 j) : Nat))) := by
        rw [hrow]
        exact congrArg some (tab_congr fun j hj => congrArg (GV.int .i64) (show ((cn (e.so M st inp i (e.deg i + 1) j) : Nat) : Int) = ((cn (e.so M st inp (i + 1) 0 j) : Nat) : Int) by rw [e.so_row]))
      simp -implicitDefEqProofs only [gev_t, gev_c, st_same, st_ne, e_nil, e_cons, e_kops, e_some, e_mov, e_bin, e_add, w_region, w_seq, w_exit, w_ret, s_n, s_x, b_n, b_x, l_x, Nat.reduceLT, Nat.reduceBEq, Nat.reduceEqDiff, if_true, if_false, Nat.lt_add_one, e23, hwi]
      exact l_n ⟨i + 1, by omega, rfl, hrow, ho, by simp -implicitDefEqProofs only [st_ne, Nat.reduceBEq, e0, Enc.mcl], by simp -implicitDefEqProofs only [st_ne, Nat.reduceBEq, e1], by simp -implicitDefEqProofs only [st_ne, Nat.reduceBEq, e8], by simp -implicitDefEqProofs only [st_ne, Nat.reduceBEq, e9], by simp -implicitDefEqProofs only [st_ne, Nat.reduceBEq, e21], by simp -implicitDefEqProofs only [st_ne, Nat.reduceBEq, e22], by simp -implicitDefEqProofs only [st_same]; rfl, by omega⟩
  · have : i = e.r := by omega
    subst this
    simp -implicitDefEqProofs only [gev_t, st_same, st_ne, e_nil, e_cons, e_kops, e_mov, w_region, w_seq, w_exit, w_ret, s_n, s_x, b_x, l_x, Nat.reduceLT, Nat.reduceBEq, if_true, Nat.lt_add_one, e8, e9]
    refine fin_ret2 rfl (by decide) (by decide) ?_ ?_ ho
    · simp -implicitDefEqProofs only [st_same, st_ne, Nat.reduceBEq]; exact fz_int rfl
    · simp -implicitDefEqProofs only [st_same]; exact fz_own_isl hrow (by omega)
theorem sp_step {H : Heap} {n : Nat} (e : Enc) (hB : e.Bnd) (h : Fi M) (hd : e.Des M) (hce : e.ce = 0) (st : Int) (inp : Nat → Int) (hs0 : 0 ≤ st) (hs1 : st ≤ 65536) (hin : ∀ i, i < e.r → 0 ≤ inp i ∧ inp i < (qn M : Nat)) :
    Spec prog fid_conv_machine_step [e.mch h.gf (qn M), .int .i64 st, isl e.r inp] H n (.tup [.int .i64 (e.nx (qn M : Nat) st inp e.r 0), isl (e.w 0) fun j => (cn (e.so M st inp e.r 0 j) : Nat)]) H n :=
  sp_step' e hB h hd hce st inp hs0 hs1 hin (Rd.sl _ _)
end
end Go.Proofs.Ytdpibcniodhinaa.Gh
/- The reference's step, states and inputs. -/
namespace Go.Proofs.Ytdpibcniodhinaa.Gh
open Go Go.RowKit
open Alg (CR Ps Dg Zm Mn El Cg sm pw Irr Prm)
set_option linter.unusedVariables false
set_option linter.unusedSimpArgs false

section
variable {k : Nat} {M : Mn k}
theorem Enc.dot_eq (e : Enc) (h : Fc M) (st : Int) (inp : Nat → Int) (i j : Nat) :
    sm (min (e.deg i + 1) (e.n i j)) (fun d => ein M (e.X (qn M : Nat) st inp i d) * ein M (e.c i j d)) = sm (e.deg i + 1) (e.tm M st inp j i) := by
  have h1 : sm (min (e.deg i + 1) (e.n i j)) (fun d => ein M (e.X (qn M : Nat) st inp i d) * ein M (e.c i j d)) = sm (min (e.deg i + 1) (e.n i j)) (e.tm M st inp j i) :=
    Alg.sm_congr fun d hd => by rw [tm, co, if_pos (by omega)]
  rw [h1]
  refine (Alg.sm_ext (Nat.min_le_left _ _) fun d h2 h3 => ?_).symm
  rw [tm, co, if_neg (by omega), ein_zero h, Alg.mul_zero]
theorem Enc.so_add (e : Enc) (st : Int) (inp : Nat → Int) (i j : Nat) : e.so M st inp i 0 j + sm (e.deg i + 1) (e.tm M st inp j i) = e.so M st inp (i + 1) 0 j := by
  rw [so, so, Alg.sm_zero, Alg.sm_zero, Alg.add_zero, Alg.add_zero]
  rfl
set_option maxHeartbeats 4000000 in
theorem sp_ref20_Next {H : Heap} {n : Nat} (e : Enc) (hB : e.Bnd) (h : Fi M) (hd : e.Des M) (hce : e.ce = 0) (st : Int) (inp : Nat → Int) (hs0 : 0 ≤ st) (hs1 : st ≤ 65536) (hin : ∀ i, i < e.r → 0 ≤ inp i ∧ inp i < (qn M : Nat)) :
    Spec prog fid_ref20_Next [e.gv, .int .i64 st, isl e.r inp] H n (.tup [.int .i64 (e.nx (qn M : Nat) st inp e.r 0), isl (e.w 0) fun j => (cn (e.so M st inp e.r 0 j) : Nat)]) H n := by
  refine spec_ends hmix ok_ref20_Next rfl fun hF => ?_
  show gw prog B_ref20_Next _ (tl 102 _) H n
  have hq2 := qn_two M
  have hq := h.fc.qn
  have hr := hB.r
  have hqo := hd.qo h
  have hpw := Enc.pow_le h hd hce
  have hok := Enc.ok hce
  have hr0 : 0 < e.r := by have := hok.2.1.1; omega
  have hw0 := hB.w 0 hr0
  have hq2I : (2 : Int) ≤ ((qn M : Nat) : Int) := by omega
  have hqne : (((qn M : Nat) : Int) = 0) = False := eq_false (by omega)
  have hP : ∀ x, ((qn M ^ x : Nat) : Int) = ((qn M : Nat) : Int) ^ x := fun x => Int.natCast_pow ..
  have hdiv : ∀ x, 0 ≤ st / ((qn M : Nat) : Int) ^ x ∧ st / ((qn M : Nat) : Int) ^ x ≤ 65536 := fun x => by
    have h0 : 0 < ((qn M : Nat) : Int) ^ x := Int.pow_pos (by omega)
    exact ⟨Int.ediv_nonneg (by omega) (by omega), Int.le_trans (Int.ediv_le_self _ (by omega)) (by omega)⟩
  have hpw : ∀ x, x ≤ e.ds e.r → ((qn M : Nat) : Int) ^ x ≤ 65536 := fun x hx => by have := hpw x hx; rw [← hP]; omega
  have hfd : fgv e.p e.m (isl e.l e.mo) = fd M := Des.fd hd
  have sDot : ∀ (H3 : Heap) (n3 : Nat) (a b : GV) (la lb : Nat) (f g : Nat → Int), Rd H3 n3 a la f → Rd H3 n3 b lb g → la ≤ 1000000 → lb ≤ 1000000 → Spec prog fid_ref04_Dot [fgv e.p e.m (isl e.l e.mo), a, b] H3 n3 (.int .i64 (cn (sm (min la lb) fun i => ein M (f i) * ein M (g i)) : Nat)) H3 n3 := fun H3 n3 a b la lb f g h1 h2 h3 h4 => by rw [hfd]; exact sp_Dot h.fc h1 h2 h3 h4
  have sAdd : ∀ (H3 : Heap) (n3 : Nat) (x y : Int), Spec prog fid_ref04_Add [fgv e.p e.m (isl e.l e.mo), .int .i64 x, .int .i64 y] H3 n3 (.int .i64 (cd (ein M x + ein M y))) H3 n3 := fun H3 n3 x y => by rw [hfd]; exact sp_ref04_Add h.fc x y
  have hz1 : (0 : Int) < (e.r : Int) := by omega
  have hz3 : (0 : Int).toNat = 0 := rfl
  have hz4 : (0 : Int) ≤ 0 := Int.le_refl 0
  simp -implicitDefEqProofs only [B_ref20_Next, gev_t, gev_c, st_same, st_ne, mkE_nil, mkE_cons, e_nil, e_cons, e_kops, e_some, e_mov, e_faddr, e_faddr_ptr, e_load, e_box, e_box_some, e_call, e_gc_agg, w_region, w_seq, s_n, Nat.reduceLT, Nat.reduceBEq, Nat.reduceLeDiff, List.length_cons, List.length_nil, e_cell_ptr, e_clm, upd_same, true_and, List.drop_zero, List.take_zero, List.take_succ_cons, Nat.add_zero, Nat.zero_add, List.map_cons, List.map_nil, ns2, ns12, ns13]
  refine call_of (sp_ref04_Order e.p e.m _ rfl) ?_
  rw [hqo]
  simp -implicitDefEqProofs only [gev_t, gev_c, st_same, st_ne, e_nil, e_cons, e_kops, e_some, e_mov, e_faddr, e_faddr_ptr, e_iaddr, e_iaddr_sl, e_len, e_len_sl, e_load, e_cell_pp, e_mslice, e_ms_int, w_region, w_seq, w_block, w_loop, s_n, Nat.reduceLT, Nat.reduceBEq, Int.toNat_natCast, List.length_cons, List.length_nil, e_cell_ptr, e_cl1, gat_3, upd_same, true_and, and_self, if_true, Nat.zero_add, Nat.mul_one, tab_len, Nat.lt_add_one, ns2, Int.natCast_nonneg, ns12, ns13, hz1, hr0, hz3, hz4, gat_tab, e.rw_at]
  repeat with_reducible refine And.intro (by omega) ?_
  refine loop_rule (fun (i : Nat) E H' n' => n + 2 ≤ n' ∧ H' n = some e.cs ∧ H' (n + 1) = some (tab (e.w 0) (it fun j => (cn (e.so M st inp i 0 j) : Nat))) ∧ (∀ b, b < n → H' b = H b) ∧ E 1 = .int .i64 (st / ((qn M : Nat) : Int) ^ (e.ds i)) ∧ E 2 = isl e.r inp ∧ E 3 = .ptr n 0 ∧ E 8 = .int .i64 (qn M : Nat) ∧ E 9 = .int .i64 (e.nx (qn M : Nat) st inp i 0) ∧ E 10 = .int .i64 (((qn M : Nat) : Int) ^ (e.ds i)) ∧ E 11 = .own (n + 1) 0 (e.w 0) ∧ E 12 = .int .i64 (i : Nat) ∧ i ≤ e.r) (fun i => e.r - i) 0 ?_ ?_
  · refine ⟨by omega, by simp -implicitDefEqProofs only [upd_same, upd_n1], ?_, fun b hb => by rw [upd_ne _ _ (by omega), upd_ne _ _ (by omega)], ?_, rfl, rfl, rfl, rfl, ?_, rfl, rfl, by omega⟩
    · simp -implicitDefEqProofs only [upd_same, tab_rep]
      refine congrArg some (tab_congr fun j hj => congrArg (GV.int .i64) ?_)
      show (0 : Int) = ((cn (e.so M st inp 0 0 j) : Nat) : Int)
      rw [e.so_zero, cn_zero]; rfl
    · have : e.ds 0 = 0 := rfl
      simp -implicitDefEqProofs only [st_same, st_ne, Nat.reduceBEq, this, Int.pow_zero, Int.ediv_one]
    · have : e.ds 0 = 0 := rfl
      simp -implicitDefEqProofs only [st_same, st_ne, Nat.reduceBEq, this, Int.pow_zero]
  rintro i E H' n' ⟨hn', h0, hrow, ho, e1, e2, e3, e8, e9, e10, e11, e12, hi⟩
  simp -implicitDefEqProofs only [gev_t, st_same, st_ne, e_nil, e_cons, e_kops, e_some, e_mov, e_bin, e_lss, e_faddr, e_faddr_ptr, e_len, e_len_sl, e_load, w_region, w_seq, w_cond, s_n, Nat.reduceLT, Nat.reduceBEq, List.length_cons, List.length_nil, e_cell_ptr, e_cl1, gat_3, true_and, Nat.zero_add, Nat.lt_add_one, ns2, ns12, ns13, e3, e12, h0]
  refine c_split (fun hc => ?_) (fun hc => ?_)
  · have hiN : i < e.r := by omega
    have hiI : ((i : Nat) : Int) < ((e.r : Nat) : Int) := hc
    have hwi := wrap64 (x := (i : Int) + 1) (by omega)
    have hdsm : e.ds (i + 1) ≤ e.ds e.r := sumn_mono (by omega)
    have hdsS : e.ds (i + 1) = e.ds i + e.deg i := rfl
    have hdeg := e.deg_le hB hiN
    have hwN : e.w i = e.w 0 := hok.2.1.2.2.2 i hiN
    simp -implicitDefEqProofs only [gev_t, gev_c, st_same, st_ne, e_nil, e_cons, e_kops, e_some, e_mov, e_iaddr, e_iaddr_sl, e_load, e_cell_pp, e_bslice, e_bs_some, e_gc_int, w_skip, w_region, w_seq, w_block, w_loop, s_n, Nat.reduceLT, Nat.reduceBEq, decide_true, Int.toNat_natCast, List.length_cons, List.length_nil, setL_nil, setL_cons, e_fill_nil, e_fill, e_hfl, true_and, and_self, if_true, List.set_cons_zero, Nat.zero_add, Nat.mul_one, tab_len, Int.natCast_nonneg, it_at, Nat.le_refl, e2, e12, hiI, hiN, gat_tab]
    repeat with_reducible refine And.intro (by omega) ?_
    refine loop_rule (fun (d : Nat) E H' n' => ∃ bl, n + 2 ≤ bl ∧ bl < n' ∧ H' n = some e.cs ∧ H' (n + 1) = some (tab (e.w 0) (it fun j => (cn (e.so M st inp i 0 j) : Nat))) ∧ H' bl = some (tab (d + 1) (it (e.X (qn M : Nat) st inp i))) ∧ (∀ b, b < n → H' b = H b) ∧ E 1 = .int .i64 (st / ((qn M : Nat) : Int) ^ (e.ds i + d)) ∧ E 2 = isl e.r inp ∧ E 3 = .ptr n 0 ∧ E 8 = .int .i64 (qn M : Nat) ∧ E 9 = .int .i64 (e.nx (qn M : Nat) st inp i 0) ∧ E 10 = .int .i64 (((qn M : Nat) : Int) ^ (e.ds i)) ∧ E 11 = .own (n + 1) 0 (e.w 0) ∧ E 12 = .int .i64 (i : Nat) ∧ E 13 = .own bl 0 (d + 1) ∧ E 14 = .int .i64 (d : Nat) ∧ d ≤ e.deg i) (fun d => e.deg i - d) 0 ?_ ?_
    · refine ⟨n', by omega, by omega, ?_, ?_, ?_, fun b hb => by rw [upd_ne _ _ (by omega)]; exact ho b hb, by simp -implicitDefEqProofs only [st_ne, Nat.reduceBEq, Nat.add_zero, e1], by simp -implicitDefEqProofs only [st_ne, Nat.reduceBEq, e2], by simp -implicitDefEqProofs only [st_ne, Nat.reduceBEq, e3], by simp -implicitDefEqProofs only [st_ne, Nat.reduceBEq, e8], by simp -implicitDefEqProofs only [st_ne, Nat.reduceBEq, e9], by simp -implicitDefEqProofs only [st_ne, Nat.reduceBEq, e10], by simp -implicitDefEqProofs only [st_ne, Nat.reduceBEq, e11], by simp -implicitDefEqProofs only [st_ne, Nat.reduceBEq, e12], by simp -implicitDefEqProofs only [st_same, st_ne, Nat.reduceBEq, Nat.zero_add], by simp -implicitDefEqProofs only [st_same]; rfl, by omega⟩
      · rw [upd_ne _ _ (by omega)]; exact h0
      · rw [upd_ne _ _ (by omega)]; exact hrow
      · rw [upd_same]; rfl
    clear hn' h0 hrow ho e1 e2 e3 e8 e9 e10 e11 e12 E H' n'
    rintro d E H' n' ⟨bl, l1, l2, h0, hrow, hl, ho, e1, e2, e3, e8, e9, e10, e11, e12, e13, e14, hdd⟩
    simp -implicitDefEqProofs only [gev_t, st_same, st_ne, e_cons, e_kops, e_mov, e_load, e_call, w_region, w_seq, Nat.reduceLT, Nat.reduceBEq, List.length_cons, List.length_nil, e_cell_ptr, e_clm, true_and, List.drop_zero, List.take_zero, List.take_succ_cons, Nat.zero_add, List.map_cons, List.map_nil, ns2, ns12, ns13, Nat.le_refl, e3, e12, e14, h0]
    refine call_of (sp_ref20_Degree e hB i hiN) ?_
    simp -implicitDefEqProofs only [gev_t, st_same, st_ne, e_nil, e_cons, e_kops, e_some, e_bin, e_lss, w_cond, s_n, Nat.reduceLT, Nat.reduceBEq]
    refine c_split (fun hcd => ?_) (fun hcd => ?_)
    · have hv0 := hdiv (e.ds i + d)
      have hv1 := hdiv (e.ds i + (d + 1))
      have hX1 : e.X (qn M : Nat) st inp i (d + 1) = st / ((qn M : Nat) : Int) ^ (e.ds i + d) % ((qn M : Nat) : Int) := rfl
      have hdst := dg_step (p := ((qn M : Nat) : Int)) (x := st) hq2I (e.ds i + d)
      have t1 := tmod_nn (a := st / ((qn M : Nat) : Int) ^ (e.ds i + d)) (b := ((qn M : Nat) : Int)) (by omega)
      have w4 : IntKind.i64.wrap ((st / ((qn M : Nat) : Int) ^ (e.ds i + d)).tdiv ((qn M : Nat) : Int)) = st / ((qn M : Nat) : Int) ^ (e.ds i + (d + 1)) := by
        rw [tdiv_nn (by omega), hdst]; exact wrap64 (x := st / ((qn M : Nat) : Int) ^ (e.ds i + (d + 1))) (by omega)
      have hwd := wrap64 (x := (d : Int) + 1) (by omega)
      have f1 : (bl = n') = False := eq_false (by omega)
      have f2 : (n' = bl) = False := eq_false (by omega)
      have hs1 : tab (d + 1) (it (e.X (qn M : Nat) st inp i)) ++ [GV.int .i64 (st / ((qn M : Nat) : Int) ^ (e.ds i + d) % ((qn M : Nat) : Int))] = tab (d + 1 + 1) (it (e.X (qn M : Nat) st inp i)) := by
        rw [← hX1]; exact tab_succ.symm
      simp -implicitDefEqProofs only [gev_t, gev_c, st_same, st_ne, e_nil, e_cons, e_kops, e_some, e_mov, e_bin, e_add, e_quo, e_rem, e_bslice, e_bs_some, e_append, e_gc_int, w_skip, w_region, w_seq, w_block, s_n, b_n, Nat.reduceLT, Nat.reduceBEq, List.length_cons, List.length_nil, setL_nil, setL_cons, e_app_own, e_appo, e_gel_own, e_hgel, e_fill_nil, e_fill, e_hfl, upd_same, cell_int, true_and, and_self, if_true, if_false, List.all_cons, List.all_nil, Bool.and_self, List.drop_zero, List.take_zero, List.take_succ_cons, List.set_cons_zero, Nat.zero_add, tab_len, ns2, Nat.le_refl, e1, e8, e13, e14, hl, hqne, t1, w4, hwd, upd_no, f1, hs1]
      repeat with_reducible refine And.intro (by omega) ?_
      refine l_n ⟨d + 1, by omega, n' + 1, by omega, by omega, ?_, ?_, by simp -implicitDefEqProofs only [upd_same, ns2], fun b hb => ?_, by simp -implicitDefEqProofs only [st_same, st_ne, Nat.reduceBEq], by simp -implicitDefEqProofs only [st_ne, Nat.reduceBEq, e2], by simp -implicitDefEqProofs only [st_ne, Nat.reduceBEq, e3], by simp -implicitDefEqProofs only [st_ne, Nat.reduceBEq, e8], by simp -implicitDefEqProofs only [st_ne, Nat.reduceBEq, e9], by simp -implicitDefEqProofs only [st_ne, Nat.reduceBEq, e10], by simp -implicitDefEqProofs only [st_ne, Nat.reduceBEq, e11], by simp -implicitDefEqProofs only [st_ne, Nat.reduceBEq, e12], by simp -implicitDefEqProofs only [st_same, st_ne, Nat.reduceBEq, ns2], by simp -implicitDefEqProofs only [st_same]; rfl, by omega⟩
      · rw [upd_ne _ _ (by omega), upd_ne _ _ (by omega), upd_ne _ _ (by omega)]; exact h0
      · rw [upd_ne _ _ (by omega), upd_ne _ _ (by omega), upd_ne _ _ (by omega)]; exact hrow
      · rw [upd_ne _ _ (by omega), upd_ne _ _ (by omega), upd_ne _ _ (by omega)]; exact ho b hb
    have hdD : d = e.deg i := by omega
    subst hdD
    simp -implicitDefEqProofs only [gev_t, gev_c, st_same, st_ne, e_nil, e_cons, e_kops, e_mov, e_bin, w_region, w_seq, w_block, w_exit, w_ret, w_loop, s_n, s_x, b_x, l_x, Nat.reduceLT, Nat.reduceBEq, Nat.reduceEqDiff, if_true, if_false, Nat.lt_add_one]
    refine loop_rule (fun (d : Nat) E H1 n1 => H1 = H' ∧ n1 = n' ∧ E 1 = .int .i64 (st / ((qn M : Nat) : Int) ^ (e.ds i + e.deg i)) ∧ E 2 = isl e.r inp ∧ E 3 = .ptr n 0 ∧ E 8 = .int .i64 (qn M : Nat) ∧ E 9 = .int .i64 (e.nx (qn M : Nat) st inp i d) ∧ E 10 = .int .i64 (((qn M : Nat) : Int) ^ (e.ds i + d)) ∧ E 11 = .own (n + 1) 0 (e.w 0) ∧ E 12 = .int .i64 (i : Nat) ∧ E 13 = .own bl 0 (e.deg i + 1) ∧ E 15 = .int .i64 (d : Nat) ∧ d ≤ e.deg i) (fun d => e.deg i - d) 0 ?_ ?_
    · exact ⟨rfl, rfl, by simp -implicitDefEqProofs only [st_ne, Nat.reduceBEq, e1], by simp -implicitDefEqProofs only [st_ne, Nat.reduceBEq, e2], by simp -implicitDefEqProofs only [st_ne, Nat.reduceBEq, e3], by simp -implicitDefEqProofs only [st_ne, Nat.reduceBEq, e8], by simp -implicitDefEqProofs only [st_ne, Nat.reduceBEq, e9], by simp -implicitDefEqProofs only [st_ne, Nat.reduceBEq, Nat.add_zero, e10], by simp -implicitDefEqProofs only [st_ne, Nat.reduceBEq, e11], by simp -implicitDefEqProofs only [st_ne, Nat.reduceBEq, e12], by simp -implicitDefEqProofs only [st_ne, Nat.reduceBEq, e13], by simp -implicitDefEqProofs only [st_same]; rfl, by omega⟩
    clear e1 e2 e3 e8 e9 e10 e11 e12 e13 e14 hcd E
    rintro d E H1 n1 ⟨rfl, rfl, e1, e2, e3, e8, e9, e10, e11, e12, e13, e15, hdd⟩
    simp -implicitDefEqProofs only [gev_t, st_same, st_ne, e_cons, e_kops, e_mov, e_load, e_call, w_region, w_seq, Nat.reduceLT, Nat.reduceBEq, List.length_cons, List.length_nil, e_cell_ptr, e_clm, true_and, List.drop_zero, List.take_zero, List.take_succ_cons, Nat.zero_add, List.map_cons, List.map_nil, ns2, ns12, ns13, Nat.le_refl, e3, e12, e15, h0]
    refine call_of (sp_ref20_Degree e hB i hiN) ?_
    simp -implicitDefEqProofs only [gev_t, st_same, st_ne, e_nil, e_cons, e_kops, e_some, e_bin, e_lss, w_cond, s_n, Nat.reduceLT, Nat.reduceBEq]
    refine c_split (fun hcd => ?_) (fun hcd => ?_)
    · have hdN : d < e.deg i + 1 := by omega
      have hdI : ((d : Nat) : Int) < ((e.deg i + 1 : Nat) : Int) := by omega
      have hnx := e.nx_step (qn M : Nat) st inp i d
      have hX := e.X_in (st := st) hq2I hin hiN d
      have hb0 := e.nx_lt (st := st) hq2I hin i (by omega) d (.inr hiN)
      have hb1 := e.nx_lt (st := st) hq2I hin i (by omega) (d + 1) (.inr hiN)
      have hp1 := hpw (e.ds i + d) (by omega)
      have hp2 := hpw (e.ds i + (d + 1)) (by omega)
      have hpp : 0 < ((qn M : Nat) : Int) ^ (e.ds i + d) := Int.pow_pos (by omega)
      have hpp2 : 0 < ((qn M : Nat) : Int) ^ (e.ds i + (d + 1)) := Int.pow_pos (by omega)
      have hm0 : 0 ≤ e.X (qn M : Nat) st inp i d * ((qn M : Nat) : Int) ^ (e.ds i + d) := Int.mul_nonneg hX.1 (by omega)
      have hm1 : e.X (qn M : Nat) st inp i d * ((qn M : Nat) : Int) ^ (e.ds i + d) ≤ 256 * 65536 := Int.mul_le_mul (by omega) (by omega) (by omega) (by omega)
      have w1 := wrap64 (x := e.X (qn M : Nat) st inp i d * ((qn M : Nat) : Int) ^ (e.ds i + d)) (by omega)
      have w2 : IntKind.i64.wrap (e.nx (qn M : Nat) st inp i d + e.X (qn M : Nat) st inp i d * ((qn M : Nat) : Int) ^ (e.ds i + d)) = e.nx (qn M : Nat) st inp i (d + 1) := by rw [hnx]; exact wrap64 (by omega)
      have w3 : IntKind.i64.wrap (((qn M : Nat) : Int) ^ (e.ds i + d) * ((qn M : Nat) : Int)) = ((qn M : Nat) : Int) ^ (e.ds i + (d + 1)) := by
        have : ((qn M : Nat) : Int) ^ (e.ds i + (d + 1)) = ((qn M : Nat) : Int) ^ (e.ds i + d) * ((qn M : Nat) : Int) := Int.pow_succ _ _
        rw [← this]; exact wrap64 (by omega)
      have hwd := wrap64 (x := (d : Int) + 1) (by omega)
      simp -implicitDefEqProofs only [gev_t, gev_c, st_same, st_ne, e_nil, e_cons, e_kops, e_some, e_mov, e_bin, e_add, e_mul, e_iaddr, e_iaddr_own, e_load, w_skip, w_region, w_seq, w_block, s_n, b_n, Nat.reduceLT, Nat.reduceBEq, Int.toNat_natCast, e_cell_ptr, e_cl1, true_and, and_self, if_true, Nat.zero_add, Nat.mul_one, tab_len, Int.natCast_nonneg, it_at, e8, e9, e10, e13, e15, hl, hdN, hdI, gat_tab, w1, w2, w3, hwd]
      exact l_n ⟨d + 1, by omega, rfl, rfl, by simp -implicitDefEqProofs only [st_ne, Nat.reduceBEq, e1], by simp -implicitDefEqProofs only [st_ne, Nat.reduceBEq, e2], by simp -implicitDefEqProofs only [st_ne, Nat.reduceBEq, e3], by simp -implicitDefEqProofs only [st_ne, Nat.reduceBEq, e8], by simp -implicitDefEqProofs only [st_same, st_ne, Nat.reduceBEq], by simp -implicitDefEqProofs only [st_same, st_ne, Nat.reduceBEq], by simp -implicitDefEqProofs only [st_ne, Nat.reduceBEq, e11], by simp -implicitDefEqProofs only [st_ne, Nat.reduceBEq, e12], by simp -implicitDefEqProofs only [st_ne, Nat.reduceBEq, e13], by simp -implicitDefEqProofs only [st_same]; rfl, by omega⟩
    have hdD : d = e.deg i := by omega
    subst hdD
    simp -implicitDefEqProofs only [gev_t, gev_c, st_same, st_ne, e_nil, e_cons, e_kops, e_mov, e_bin, w_region, w_seq, w_block, w_exit, w_ret, w_loop, s_n, s_x, b_x, l_x, Nat.reduceLT, Nat.reduceBEq, Nat.reduceEqDiff, if_true, if_false, Nat.lt_add_one]
    refine loop_rule (fun (j : Nat) E H2 n2 => n2 = n1 ∧ H2 n = some e.cs ∧ H2 (n + 1) = some (tab (e.w 0) (it (mix (fun j => (cn (e.so M st inp (i + 1) 0 j) : Nat)) (fun j => (cn (e.so M st inp i 0 j) : Nat)) j))) ∧ H2 bl = some (tab (e.deg i + 1) (it (e.X (qn M : Nat) st inp i))) ∧ (∀ b, b < n → H2 b = H b) ∧ E 1 = .int .i64 (st / ((qn M : Nat) : Int) ^ (e.ds i + e.deg i)) ∧ E 2 = isl e.r inp ∧ E 3 = .ptr n 0 ∧ E 8 = .int .i64 (qn M : Nat) ∧ E 9 = .int .i64 (e.nx (qn M : Nat) st inp i (e.deg i)) ∧ E 10 = .int .i64 (((qn M : Nat) : Int) ^ (e.ds i + e.deg i)) ∧ E 11 = .own (n + 1) 0 (e.w 0) ∧ E 12 = .int .i64 (i : Nat) ∧ E 13 = .own bl 0 (e.deg i + 1) ∧ E 16 = .int .i64 (j : Nat) ∧ j ≤ e.w 0) (fun j => e.w 0 - j) 0 ?_ ?_
    · exact ⟨rfl, h0, by rw [mix_zero]; exact hrow, hl, ho, by simp -implicitDefEqProofs only [st_ne, Nat.reduceBEq, e1], by simp -implicitDefEqProofs only [st_ne, Nat.reduceBEq, e2], by simp -implicitDefEqProofs only [st_ne, Nat.reduceBEq, e3], by simp -implicitDefEqProofs only [st_ne, Nat.reduceBEq, e8], by simp -implicitDefEqProofs only [st_ne, Nat.reduceBEq, e9], by simp -implicitDefEqProofs only [st_ne, Nat.reduceBEq, e10], by simp -implicitDefEqProofs only [st_ne, Nat.reduceBEq, e11], by simp -implicitDefEqProofs only [st_ne, Nat.reduceBEq, e12], by simp -implicitDefEqProofs only [st_ne, Nat.reduceBEq, e13], by simp -implicitDefEqProofs only [st_same]; rfl, by omega⟩
    clear h0 hrow hl ho e1 e2 e3 e8 e9 e10 e11 e12 e13 e15 hcd E
    rintro j E H2 n2 ⟨rfl, h0, hrow, hl, ho, e1, e2, e3, e8, e9, e10, e11, e12, e13, e16, hj⟩
    simp -implicitDefEqProofs only [gev_t, st_same, st_ne, e_nil, e_cons, e_kops, e_some, e_mov, e_bin, e_lss, e_len, e_len_own, w_region, w_seq, w_cond, s_n, Nat.reduceLT, Nat.reduceBEq, e11, e16]
    refine c_split (fun hcj => ?_) (fun hcj => ?_)
    · have hjN : j < e.w 0 := by omega
      have hjI : ((j : Nat) : Int) < ((e.w 0 : Nat) : Int) := hcj
      have hwj := wrap64 (x := (j : Int) + 1) (by omega)
      have hnij := hB.n i j hiN (by omega)
      have f0 : n < n2 := by omega
      have f1 : n + 1 < n2 := by omega
      simp -implicitDefEqProofs only [gev_t, st_same, st_ne, e_some, e_mov, e_faddr, e_faddr_ptr, e_iaddr, e_iaddr_own, e_iaddr_sl, w_skip, w_seq, w_block, w_draw, s_n, m_cons, m_kmops, m_kpm, m_load, m_cell_pp, m_call, Nat.reduceLT, Nat.reduceBEq, Nat.reduceLeDiff, decide_true, Int.toNat_natCast, List.length_cons, List.length_nil, gat_3, true_and, and_self, if_true, List.drop_zero, List.take_zero, List.take_succ_cons, Nat.add_zero, Nat.zero_add, Nat.mul_one, List.map_cons, List.map_nil, tab_len, m_p_mov, m_p_fieldAddr, m_p_indexAddr, m_cell_ptr, m_cl1, m_clm, Nat.lt_add_one, ns2, Int.natCast_nonneg, it_at, ns12, ns13, e3, e11, e12, e13, e16, h0, hrow, hiI, hiN, hjI, hjN, gat_tab, e.rw_at, e.pl_at, hwN, mix_at, f0, f1]
      refine mcall_of (.int _ _) (fun H3 n3 hk hn => sDot H3 n3 _ _ _ _ _ _ (Rd.own (by omega) (by rw [hk bl (by omega)]; exact hl)) (Rd.sl _ _) (by omega) (by omega)) ?_
      rw [e.dot_eq h.fc]
      simp -implicitDefEqProofs only [gev_t, st_same, st_ne, m_cons, m_kmops, m_call, Nat.reduceLT, Nat.reduceBEq, List.map_cons, List.map_nil]
      refine mcall_of (.int _ _) (fun H3 n3 hk hn => sAdd H3 n3 _ _) ?_
      have hval : ein M ((cn (e.so M st inp i 0 j) : Nat) : Int) + ein M ((cn (sm (e.deg i + 1) (e.tm M st inp j i)) : Nat) : Int) = e.so M st inp (i + 1) 0 j := by
        rw [ein_cn h.fc, ein_cn h.fc, e.so_add]
      rw [hval, cd_cn]
      have hst := mix_step (fun j => ((cn (e.so M st inp (i + 1) 0 j) : Nat) : Int)) (fun j => ((cn (e.so M st inp i 0 j) : Nat) : Int)) j
      simp -implicitDefEqProofs only [gev_t, gev_c, st_same, st_ne, e_nil, e_cons, e_kops, e_kops_none, e_some, e_mov, e_bin, e_add, e_iaddr, e_iaddr_own, e_store, e_gc_int, w_region, s_n, b_n, d_kdr, m_nil, m_kmops, Nat.reduceLT, Nat.reduceBEq, Int.toNat_natCast, List.length_cons, List.length_nil, setL_nil, setL_cons, e_store_ptr, e_stp, cell_int, true_and, and_self, if_true, List.all_cons, List.all_nil, Bool.and_self, Nat.zero_add, Nat.mul_one, tab_len, tab_set, it_upf, Int.natCast_nonneg, e16, hrow, hjI, hwj, hst]
      repeat with_reducible refine And.intro (by omega) ?_
      exact l_n ⟨j + 1, by omega, rfl, by rw [upd_ne _ _ (by omega)]; exact h0, by simp -implicitDefEqProofs only [upd_same], by rw [upd_ne _ _ (by omega)]; exact hl, fun b hb => by rw [upd_ne _ _ (by omega)]; exact ho b hb, by simp -implicitDefEqProofs only [st_ne, Nat.reduceBEq, e1], by simp -implicitDefEqProofs only [st_ne, Nat.reduceBEq, e2], by simp -implicitDefEqProofs only [st_ne, Nat.reduceBEq, e3], by simp -implicitDefEqProofs only [st_ne, Nat.reduceBEq, e8], by simp -implicitDefEqProofs only [st_ne, Nat.reduceBEq, e9], by simp -implicitDefEqProofs only [st_ne, Nat.reduceBEq, e10], by simp -implicitDefEqProofs only [st_ne, Nat.reduceBEq, e11], by simp -implicitDefEqProofs only [st_ne, Nat.reduceBEq, e12], by simp -implicitDefEqProofs only [st_ne, Nat.reduceBEq, e13], by simp -implicitDefEqProofs only [st_same]; rfl, by omega⟩
    · have hjw : j = e.w 0 := by omega
      subst hjw
      have hrow : H2 (n + 1) = some (tab (e.w 0) (it fun j => (cn (e.so M st inp (i + 1) 0 j) : Nat))) := by
        rw [hrow]
        exact congrArg some (tab_congr fun j hj => congrArg (GV.int .i64) (mix_lt _ _ hj))
      rw [← e.nx_row] at e9
      simp -implicitDefEqProofs only [gev_t, gev_c, st_same, st_ne, e_nil, e_cons, e_kops, e_some, e_mov, e_bin, e_add, w_region, w_seq, w_exit, w_ret, s_n, s_x, b_n, b_x, l_x, Nat.reduceLT, Nat.reduceBEq, Nat.reduceEqDiff, if_true, if_false, Nat.lt_add_one, e12, hwi]
      exact l_n ⟨i + 1, by omega, by omega, h0, hrow, ho, by simp -implicitDefEqProofs only [st_ne, Nat.reduceBEq, e1, hdsS], by simp -implicitDefEqProofs only [st_ne, Nat.reduceBEq, e2], by simp -implicitDefEqProofs only [st_ne, Nat.reduceBEq, e3], by simp -implicitDefEqProofs only [st_ne, Nat.reduceBEq, e8], by simp -implicitDefEqProofs only [st_ne, Nat.reduceBEq, e9], by simp -implicitDefEqProofs only [st_ne, Nat.reduceBEq, e10, hdsS], by simp -implicitDefEqProofs only [st_ne, Nat.reduceBEq, e11], by simp -implicitDefEqProofs only [st_same]; rfl, by omega⟩
  · have : i = e.r := by omega
    subst this
    simp -implicitDefEqProofs only [gev_t, st_same, st_ne, e_nil, e_cons, e_kops, e_mov, w_region, w_seq, w_exit, w_ret, s_n, s_x, b_x, l_x, Nat.reduceLT, Nat.reduceBEq, if_true, Nat.lt_add_one, e9, e11]
    refine fin_ret2 rfl (by decide) (by decide) ?_ ?_ ho
    · simp -implicitDefEqProofs only [st_same, st_ne, Nat.reduceBEq]; exact fz_int rfl
    · simp -implicitDefEqProofs only [st_same]; exact fz_own_isl hrow (by omega)
end
end Go.Proofs.Ytdpibcniodhinaa.Gh
/- The statement ConvNext, over ghost values. -/
namespace Go.Proofs.Ytdpibcniodhinaa.Gh
open Go Go.RowKit
open Alg (CR Ps Dg Zm Mn El Cg sm pw Irr Prm)
set_option linter.unusedVariables false
set_option linter.unusedSimpArgs false

/-- the error of the inputs of a step -/
noncomputable def inE (r l : Nat) (f : Nat → Int) (q : Int) : Int := open Classical in if l = r then (if ∀ i, i < l → 0 ≤ f i ∧ f i < q then 0 else 2) else 4
theorem inE_ok {r l : Nat} {f : Nat → Int} {q : Int} (h : inE r l f q = 0) : l = r ∧ ∀ i, i < l → 0 ≤ f i ∧ f i < q := by
  unfold inE at h
  by_cases h1 : l = r
  · rw [if_pos h1] at h
    by_cases h2 : ∀ i, i < l → 0 ≤ f i ∧ f i < q
    · exact ⟨h1, h2⟩
    · rw [if_neg h2] at h; omega
  · rw [if_neg h1] at h; omega
theorem sp_ref20_List {H : Heap} {n : Nat} (e : Enc) (hB : e.Bnd) (l : Nat) (f : Nat → Int) : Spec prog fid_ref20_List [e.gv, isl l f] H n (.int .i64 (inE e.r l f (qo e.p e.m))) H n := by
  refine spec_ends hmix ok_ref20_List rfl fun hF => ?_
  show gw prog B_ref20_List _ (tl 15 _) H n
  have hu : ∀ x b, b < n → upd H n x b = H b := fun x b hb => upd_ne _ _ (by omega)
  have hr := hB.r
  simp -implicitDefEqProofs only [B_ref20_List, gev_t, gev_c, st_same, st_ne, mkE_nil, mkE_cons, e_nil, e_cons, e_kops, e_some, e_mov, e_bin, e_neq, e_faddr, e_faddr_ptr, e_len, e_len_sl, e_load, e_box, e_box_some, e_gc_agg, w_region, w_seq, w_cond, s_n, Nat.reduceLT, Nat.reduceBEq, List.length_cons, List.length_nil, e_cell_ptr, e_cl1, gat_3, upd_same, true_and, Nat.zero_add, Nat.lt_add_one, ns2, ns12, ns13]
  by_cases hl : l = e.r
  · subst hl
    simp -implicitDefEqProofs only [gev_t, st_same, st_ne, e_cons, e_kops, e_some, e_mov, e_faddr, e_faddr_ptr, e_load, e_call, w_skip, w_region, w_seq, s_n, c_f, Nat.reduceLT, Nat.reduceBEq, Nat.reduceLeDiff, decide_true, Bool.not_true, List.length_cons, List.length_nil, e_cell_ptr, e_clm, upd_same, true_and, List.drop_zero, List.take_zero, List.take_succ_cons, Nat.add_zero, Nat.zero_add, List.map_cons, List.map_nil, ns2, ns12, ns13]
    refine call_of (sp_Entries e.p e.m (isl e.l e.mo) rfl e.r f (by omega)) ?_
    simp -implicitDefEqProofs only [gev_t, st_same, e_nil, e_cons, e_kops, e_mov, w_ret, s_n, Nat.lt_add_one]
    refine fin_ret rfl (by decide) ?_ (hu _)
    simp -implicitDefEqProofs only [st_same]
    refine fz_int ?_
    rw [inE, if_pos rfl]
  · have hlI : ¬ ((l : Int) = (e.r : Int)) := by omega
    simp -implicitDefEqProofs only [gev_c, e_nil, e_cons, e_kops, e_mov, w_region, w_seq, w_ret, s_n, s_r, c_t, decide_false, Bool.not_false, hlI]
    refine fin_ret rfl (by decide) ?_ (hu _)
    simp -implicitDefEqProofs only [st_same]
    exact fz_int (by rw [inE, if_neg hl])
theorem sp_ref20_States {H : Heap} {n : Nat} (e : Enc) (hB : e.Bnd) {k : Nat} {M : Mn k} (h : Fi M) (hd : e.Des M) (hce : e.ce = 0) : Spec prog fid_ref20_States [e.gv] H n (.int .i64 (qn M ^ e.ds e.r : Nat)) H n := by
  refine spec_ends hmix ok_ref20_States rfl fun hF => ?_
  show gw prog B_ref20_States _ (tl 26 _) H n
  have hr := hB.r
  have hq2 := qn_two M
  have hq := h.fc.qn
  have hqo := hd.qo h
  have hpw := Enc.pow_le h hd hce
  simp -implicitDefEqProofs only [B_ref20_States, gev_t, gev_c, st_same, mkE_nil, mkE_cons, e_nil, e_cons, e_kops, e_mov, e_box, e_box_some, e_gc_agg, w_region, w_seq, w_block, w_loop, s_n, Nat.reduceLT, Nat.zero_add]
  refine loop_rule (fun (i : Nat) E H' n' => n' = n + 1 ∧ H' n = some e.cs ∧ (∀ b, b < n → H' b = H b) ∧ E 1 = .ptr n 0 ∧ E 3 = .int .i64 (qn M ^ e.ds i : Nat) ∧ E 4 = .int .i64 (i : Nat) ∧ i ≤ e.r) (fun i => e.r - i) 0 ⟨rfl, by simp -implicitDefEqProofs only [upd_same], fun b hb => upd_ne _ _ (by omega), rfl, rfl, rfl, by omega⟩ ?_
  rintro i E H' n' ⟨rfl, h0, ho, e1, e3, e4, hi⟩
  simp -implicitDefEqProofs only [gev_t, st_same, st_ne, e_nil, e_cons, e_kops, e_some, e_mov, e_bin, e_lss, e_faddr, e_faddr_ptr, e_len, e_len_sl, e_load, w_region, w_seq, w_cond, s_n, Nat.reduceLT, Nat.reduceBEq, List.length_cons, List.length_nil, e_cell_ptr, e_cl1, gat_3, true_and, Nat.zero_add, Nat.lt_add_one, ns2, ns12, ns13, e1, e4, h0]
  refine c_split (fun hc => ?_) (fun hc => ?_)
  · have hiN : i < e.r := by omega
    have hdsm : e.ds (i + 1) ≤ e.ds e.r := sumn_mono (by omega)
    have hdsS : e.ds (i + 1) = e.ds i + e.deg i := rfl
    have hdeg := e.deg_le hB hiN
    simp -implicitDefEqProofs only [gev_c, e_nil, e_cons, e_kops, e_mov, w_skip, w_region, w_seq, w_block, w_loop, s_n]
    refine loop_rule (fun (d : Nat) E H' n' => n' = n + 1 ∧ H' n = some e.cs ∧ (∀ b, b < n → H' b = H b) ∧ E 1 = .ptr n 0 ∧ E 3 = .int .i64 (qn M ^ (e.ds i + d) : Nat) ∧ E 4 = .int .i64 (i : Nat) ∧ E 5 = .int .i64 (d : Nat) ∧ d ≤ e.deg i) (fun d => e.deg i - d) 0 ⟨rfl, h0, ho, by simp -implicitDefEqProofs only [st_ne, Nat.reduceBEq, e1], by simp -implicitDefEqProofs only [st_ne, Nat.reduceBEq, Nat.add_zero, e3], by simp -implicitDefEqProofs only [st_ne, Nat.reduceBEq, e4], rfl, by omega⟩ ?_
    clear h0 ho e1 e3 e4 E H'
    rintro d E H' n' ⟨rfl, h0, ho, e1, e3, e4, e5, hd'⟩
    simp -implicitDefEqProofs only [gev_t, st_same, st_ne, e_cons, e_kops, e_mov, e_load, e_call, w_region, w_seq, Nat.reduceLT, Nat.reduceBEq, List.length_cons, List.length_nil, e_cell_ptr, e_clm, true_and, List.drop_zero, List.take_zero, List.take_succ_cons, Nat.zero_add, List.map_cons, List.map_nil, ns2, ns12, ns13, Nat.le_refl, e1, e4, e5, h0]
    refine call_of (sp_ref20_Degree e hB i hiN) ?_
    simp -implicitDefEqProofs only [gev_t, st_same, st_ne, e_nil, e_cons, e_kops, e_some, e_bin, e_lss, w_cond, s_n, Nat.reduceLT, Nat.reduceBEq]
    refine c_split (fun hc' => ?_) (fun hc' => ?_)
    · simp -implicitDefEqProofs only [gev_t, st_same, st_ne, e_cons, e_kops, e_some, e_mov, e_faddr, e_faddr_ptr, e_load, e_call, w_skip, w_region, w_seq, w_block, s_n, Nat.reduceLT, Nat.reduceBEq, Nat.reduceLeDiff, List.length_cons, List.length_nil, e_cell_ptr, e_clm, true_and, List.drop_zero, List.take_zero, List.take_succ_cons, Nat.add_zero, Nat.zero_add, List.map_cons, List.map_nil, ns2, ns12, ns13, e1, e3, h0]
      refine call_of (sp_ref04_Order e.p e.m _ rfl) ?_
      rw [hqo]
      have hps : qn M ^ (e.ds i + (d + 1)) = qn M ^ (e.ds i + d) * qn M := Nat.pow_succ ..
      have hle := hpw (e.ds i + (d + 1)) (by omega)
      have hmul : ((qn M ^ (e.ds i + d) : Nat) : Int) * ((qn M : Nat) : Int) = ((qn M ^ (e.ds i + (d + 1)) : Nat) : Int) := by rw [hps]; push_cast; rfl
      have hwm := wrap64 (x := ((qn M ^ (e.ds i + (d + 1)) : Nat) : Int)) (by omega)
      have hwd := wrap64 (x := (d : Int) + 1) (by omega)
      simp -implicitDefEqProofs only [gev_t, gev_c, st_same, st_ne, e_nil, e_cons, e_kops, e_some, e_mov, e_bin, e_add, e_mul, w_region, s_n, b_n, Nat.reduceLT, Nat.reduceBEq, e5, hmul, hwm, hwd]
      exact l_n ⟨d + 1, by omega, rfl, h0, ho, by simp -implicitDefEqProofs only [st_ne, Nat.reduceBEq, e1], by simp -implicitDefEqProofs only [st_same, st_ne, Nat.reduceBEq], by simp -implicitDefEqProofs only [st_ne, Nat.reduceBEq, e4], by simp -implicitDefEqProofs only [st_same]; rfl, by omega⟩
    · have : d = e.deg i := by omega
      subst this
      have hwi := wrap64 (x := (i : Int) + 1) (by omega)
      simp -implicitDefEqProofs only [gev_t, gev_c, st_same, st_ne, e_nil, e_cons, e_kops, e_some, e_mov, e_bin, e_add, w_region, w_seq, w_exit, w_ret, s_n, s_x, b_n, b_x, l_x, Nat.reduceLT, Nat.reduceBEq, Nat.reduceEqDiff, if_true, if_false, Nat.lt_add_one, e4, hwi]
      exact l_n ⟨i + 1, by omega, rfl, h0, ho, by simp -implicitDefEqProofs only [st_ne, Nat.reduceBEq, e1], by simp -implicitDefEqProofs only [st_ne, Nat.reduceBEq, e3, hdsS], by simp -implicitDefEqProofs only [st_same]; rfl, by omega⟩
  · have : i = e.r := by omega
    subst this
    simp -implicitDefEqProofs only [gev_t, st_same, st_ne, e_nil, e_cons, e_kops, e_mov, w_region, w_seq, w_exit, w_ret, s_n, s_x, b_x, l_x, Nat.reduceLT, Nat.reduceBEq, if_true, Nat.lt_add_one, e3]
    refine fin_ret rfl (by decide) ?_ ho
    simp -implicitDefEqProofs only [st_same]; exact fz_int rfl
section
variable {k : Nat} {M : Mn k}
theorem sp_input' {H : Heap} {n : Nat} (e : Enc) (hB : e.Bnd) (h : Fi M) (l : Nat) (f : Nat → Int) {a : GV} (ha : Rd H n a l f) : Spec prog fid_conv_machine_input [e.mch h.gf (qn M), a] H n (.int .i64 (inE e.r l f (qn M : Nat))) H n := by
  refine spec_ends hmix ok_conv_machine_input rfl fun hF => ?_
  show gw prog B_conv_machine_input _ (tl 28 _) H n
  have hr := hB.r
  have hal := ha.len
  rw [e.mch_eq]
  by_cases hl : l = e.r
  · subst hl
    simp -implicitDefEqProofs only [B_conv_machine_input, Enc.mcl, gev_t, gev_c, st_same, st_ne, mkE_nil, mkE_cons, e_nil, e_cons, e_kops, e_some, e_mov, e_bin, e_neq, e_faddr, e_faddr_pp, e_nilc, e_nilc_pp, e_len, e_load, e_cell_pp, w_skip, w_region, w_seq, w_block, w_cond, w_loop, s_n, c_f, Nat.reduceLT, Nat.reduceBEq, Nat.reduceAdd, decide_true, Bool.not_true, List.length_cons, List.length_nil, gat_2, true_and, Nat.zero_add, ns2, ns12, ns13, ns14, ns15, hal]
    refine loop_rule (fun (i : Nat) E H' n' => H' = H ∧ n' = n ∧ E 0 = .pp (e.mcl h.gf (qn M)) 0 ∧ E 14 = a ∧ E 15 = .int .i64 (e.r : Nat) ∧ E 16 = .int .i64 (i : Nat) ∧ i ≤ e.r ∧ ∀ t, t < i → 0 ≤ f t ∧ f t < (qn M : Nat)) (fun i => e.r - i) 0 ⟨rfl, rfl, rfl, rfl, rfl, rfl, by omega, fun t ht => by omega⟩ ?_
    rintro i E H' n' ⟨rfl, rfl, e0, e14, e15, e16, hi, hf⟩
    simp -implicitDefEqProofs only [gev_t, st_same, e_nil, e_cons, e_kops, e_some, e_bin, e_lss, w_region, w_seq, w_cond, s_n, Nat.reduceLT, e15, e16]
    refine c_split (fun hc => ?_) (fun hc => ?_)
    · have hiN : i < e.r := by omega
      have hwi := wrap64 (x := (i : Int) + 1) (by omega)
      obtain ⟨pa, pa1, pa2, pa3⟩ := ha.idx i hiN
      have pa4 := fun q => pa2 q H' H' n' fun _ _ => rfl
      simp -implicitDefEqProofs only [gev_t, st_same, st_ne, e_nil, e_cons, e_kops, e_some, e_mov, e_faddr, e_faddr_pp, e_iaddr, e_nilc, e_nilc_pp, e_load, e_cell_pp, e_call, w_skip, w_region, w_seq, w_block, s_n, Nat.reduceLT, Nat.reduceBEq, Nat.reduceAdd, decide_true, List.length_cons, List.length_nil, gat_0, true_and, Nat.add_zero, Nat.zero_add, List.map_cons, List.map_nil, ns2, ns12, ns13, ns14, ns15, Enc.mcl, e0, e14, e16, hc, pa1, pa4]
      refine call_of (sp_GF_Is h.g (f i)) ?_
      by_cases hx : 0 ≤ f i ∧ f i < (qn M : Nat)
      · simp -implicitDefEqProofs only [gev_t, gev_c, st_same, st_ne, e_nil, e_cons, e_kops, e_some, e_mov, e_bin, e_un, e_not, e_add, w_skip, w_region, w_cond, s_n, b_n, c_f, Nat.reduceLT, Nat.reduceBEq, decide_true, Bool.not_true, and_self, Nat.lt_add_one, hx, e16, hwi]
        refine l_n ⟨i + 1, by omega, rfl, rfl, by simp -implicitDefEqProofs only [st_ne, Nat.reduceBEq, e0, Enc.mcl], by simp -implicitDefEqProofs only [st_ne, Nat.reduceBEq, e14], by simp -implicitDefEqProofs only [st_ne, Nat.reduceBEq, e15], by simp -implicitDefEqProofs only [st_same]; rfl, by omega, fun t ht => ?_⟩
        by_cases et : t = i
        · subst et; exact hx
        · exact hf t (by omega)
      · simp -implicitDefEqProofs only [gev_t, gev_c, st_same, e_nil, e_cons, e_kops, e_some, e_mov, e_un, e_not, w_region, w_seq, w_ret, w_cond, s_n, s_r, b_r, c_t, l_r, Nat.reduceLT, decide_false, Bool.not_false, hx]
        refine fin_ret rfl (by decide) ?_ fun _ _ => rfl
        simp -implicitDefEqProofs only [st_same]
        exact fz_int (by rw [inE, if_pos rfl, if_neg fun hh => hx (hh i hiN)])
    · simp -implicitDefEqProofs only [gev_c, e_nil, e_cons, e_kops, e_mov, w_region, w_seq, w_exit, w_ret, s_n, s_x, b_x, l_x, if_true]
      refine fin_ret rfl (by decide) ?_ fun _ _ => rfl
      simp -implicitDefEqProofs only [st_same]
      exact fz_int (by rw [inE, if_pos rfl, if_pos fun t ht => hf t (by omega)])
  · have hlI : ¬ ((l : Int) = (e.r : Int)) := by omega
    simp -implicitDefEqProofs only [B_conv_machine_input, Enc.mcl, gev_t, gev_c, st_same, st_ne, mkE_nil, mkE_cons, e_nil, e_cons, e_kops, e_some, e_mov, e_bin, e_neq, e_faddr, e_faddr_pp, e_nilc, e_nilc_pp, e_len, e_load, e_cell_pp, w_region, w_seq, w_ret, w_cond, s_n, s_r, c_t, Nat.reduceLT, Nat.reduceBEq, Nat.reduceAdd, decide_false, Bool.not_false, List.length_cons, List.length_nil, gat_2, true_and, Nat.zero_add, ns2, ns12, ns13, ns14, ns15, hal, hlI]
    refine fin_ret rfl (by decide) ?_ fun _ _ => rfl
    simp -implicitDefEqProofs only [st_same]
    exact fz_int (by rw [inE, if_neg hl])
theorem sp_input {H : Heap} {n : Nat} (e : Enc) (hB : e.Bnd) (h : Fi M) (l : Nat) (f : Nat → Int) : Spec prog fid_conv_machine_input [e.mch h.gf (qn M), isl l f] H n (.int .i64 (inE e.r l f (qn M : Nat))) H n := sp_input' e hB h l f (Rd.sl _ _)
/-- the error of a step -/
noncomputable def Enc.nxE (e : Enc) (S st : Int) (l : Nat) (f : Nat → Int) : Int := if e.ce = 0 then (if 0 ≤ st ∧ st < S then inE e.r l f (qo e.p e.m) else 6) else e.ce
theorem sp_conv_Next' {H : Heap} {n : Nat} (e : Enc) (hB : e.Bnd) (h : Fi M) (hd : e.Des M) (st : Int) (l : Nat) (f : Nat → Int) {a : GV} (ha : Rd H n a l f) :
    Spec prog fid_conv_Next [e.gv, .int .i64 st, a] H n (if e.nxE (qn M ^ e.ds e.r : Nat) st l f = 0 then .tup [.int .i64 (e.nx (qn M : Nat) st f e.r 0), isl (e.w 0) fun j => (cn (e.so M st f e.r 0 j) : Nat), .int .i64 0] else .tup [.int .i64 0, .nil, .int .i64 (e.nxE (qn M ^ e.ds e.r : Nat) st l f)]) H n := by
  have hqo := hd.qo h
  have hu : ∀ x b, b < n → upd H n x b = H b := fun x b hb => upd_ne _ _ (by omega)
  have ha1 : ∀ x, Rd (upd H n x) (n + 1) a l f := fun x => ha.keep (by omega) (hu x)
  by_cases hE : e.nxE (qn M ^ e.ds e.r : Nat) st l f = 0
  · rw [if_pos hE]
    refine spec_ends hmix ok_conv_Next rfl fun hF => ?_
    show gw prog B_conv_Next _ (tl 44 _) H n
    have hce : e.ce = 0 := by
      unfold Enc.nxE at hE
      by_cases hc : e.ce = 0
      · exact hc
      · rw [if_neg hc] at hE; exact hE
    rw [Enc.nxE, if_pos hce] at hE
    have hst : 0 ≤ st ∧ st < (qn M ^ e.ds e.r : Nat) := by
      by_cases hs : 0 ≤ st ∧ st < (qn M ^ e.ds e.r : Nat)
      · exact hs
      · rw [if_neg hs] at hE; omega
    rw [if_pos hst, hqo] at hE
    obtain ⟨rfl, hf⟩ := inE_ok hE
    have hpw := Enc.pow_le h hd hce (e.ds e.r) (Nat.le_refl _)
    have hs1 : ¬ st < 0 := by omega
    have hs2 : ¬ ((qn M ^ e.ds e.r : Nat) : Int) ≤ st := by omega
    simp -implicitDefEqProofs only [B_conv_Next, gev_t, gev_c, st_same, st_ne, mkE_nil, mkE_cons, e_nil, e_cons, e_kops, e_mov, e_load, e_box, e_box_some, e_call, e_gc_agg, w_region, w_seq, s_n, Nat.reduceLT, Nat.reduceBEq, List.length_cons, List.length_nil, e_cell_ptr, e_clm, upd_same, true_and, List.drop_zero, List.take_zero, List.take_succ_cons, Nat.zero_add, List.map_cons, List.map_nil, ns2, ns12, ns13, Nat.le_refl]
    refine call_of (sp_conv_build e hB h hd) ?_
    rw [if_pos hce, hce]
    simp -implicitDefEqProofs only [gev_t, gev_c, st_same, st_ne, e_nil, e_cons, e_kops, e_guard, e_ff, e_some, e_mov, e_pick, e_pick_f, e_bin, e_neq, e_lss, e_geq, e_faddr, e_faddr_pp, e_nilc, e_nilc_pp, e_ext, e_ext0, e_ext1, e_load, e_cell_pp, e_call, w_skip, w_region, w_seq, w_cond, s_n, c_f, Nat.reduceLT, Nat.reduceBEq, Nat.reduceAdd, decide_true, decide_false, Bool.not_true, List.length_cons, List.length_nil, gat_7, true_and, Nat.zero_add, List.map_cons, List.map_nil, ns2, ns12, ns13, ns14, ns15, Enc.mch, hs1, hs2]
    refine call_of (sp_input' e hB h e.r f (ha1 _)) ?_
    rw [hE]
    simp -implicitDefEqProofs only [gev_t, gev_c, st_same, st_ne, e_nil, e_cons, e_kops, e_some, e_mov, e_bin, e_neq, e_call, w_skip, w_region, w_seq, w_cond, s_n, c_f, Nat.reduceLT, Nat.reduceBEq, decide_true, Bool.not_true, List.map_cons, List.map_nil]
    refine call_of (sp_step' e hB h hd hce st f hst.1 (by omega) hf (ha1 _)) ?_
    simp -implicitDefEqProofs only [gev_t, gev_c, st_same, st_ne, e_nil, e_cons, e_kops, e_some, e_mov, e_ext, e_ext0, e_ext1, w_region, w_seq, w_ret, s_n, Nat.reduceLT, Nat.reduceBEq, Nat.lt_add_one]
    exact fin_ret3 rfl (by decide) (by decide) (by decide) (by simp -implicitDefEqProofs only [st_same, st_ne, Nat.reduceBEq]; exact fz_int rfl) (by simp -implicitDefEqProofs only [st_same, st_ne, Nat.reduceBEq]; exact (pl_isl _ _).tr) (by simp -implicitDefEqProofs only [st_same]; exact fz_int rfl) (hu _)
  · rw [if_neg hE]
    refine spec_ends hmix ok_conv_Next rfl fun hF => ?_
    show gw prog B_conv_Next _ (tl 44 _) H n
    simp -implicitDefEqProofs only [B_conv_Next, gev_t, gev_c, st_same, st_ne, mkE_nil, mkE_cons, e_nil, e_cons, e_kops, e_mov, e_load, e_box, e_box_some, e_call, e_gc_agg, w_region, w_seq, s_n, Nat.reduceLT, Nat.reduceBEq, List.length_cons, List.length_nil, e_cell_ptr, e_clm, upd_same, true_and, List.drop_zero, List.take_zero, List.take_succ_cons, Nat.zero_add, List.map_cons, List.map_nil, ns2, ns12, ns13, Nat.le_refl]
    refine call_of (sp_conv_build e hB h hd) ?_
    by_cases hce : e.ce = 0
    case neg =>
      rw [if_neg hce]
      simp -implicitDefEqProofs only [gev_t, gev_c, st_same, st_ne, e_nil, e_cons, e_kops, e_some, e_mov, e_bin, e_neq, e_ext, e_ext0, e_ext1, w_region, w_seq, w_ret, w_cond, s_n, s_r, c_t, Nat.reduceLT, Nat.reduceBEq, decide_false, Bool.not_false, hce]
      exact fin_ret3 rfl (by decide) (by decide) (by decide) (by simp -implicitDefEqProofs only [st_same, st_ne, Nat.reduceBEq]; exact fz_int rfl) (by simp -implicitDefEqProofs only [st_same, st_ne, Nat.reduceBEq]; exact .nil) (by simp -implicitDefEqProofs only [st_same]; exact fz_int (by rw [Enc.nxE, if_neg hce])) (hu _)
    rw [if_pos hce, hce]
    have hpw := Enc.pow_le h hd hce (e.ds e.r) (Nat.le_refl _)
    by_cases hst : 0 ≤ st ∧ st < (qn M ^ e.ds e.r : Nat)
    case neg =>
      have hv : e.nxE (qn M ^ e.ds e.r : Nat) st l f = 6 := by rw [Enc.nxE, if_pos hce, if_neg hst]
      rw [hv]
      by_cases hs1 : st < 0
      · simp -implicitDefEqProofs only [gev_t, gev_c, st_same, st_ne, e_nil, e_cons, e_kops, e_guard, e_ft, e_some, e_mov, e_pick, e_pick_t, e_bin, e_neq, e_lss, e_ext, e_ext0, e_ext1, w_skip, w_region, w_seq, w_ret, w_cond, s_n, s_r, c_t, c_f, Nat.reduceLT, Nat.reduceBEq, decide_true, Bool.not_true, Enc.mch, hs1]
        exact fin_ret3 rfl (by decide) (by decide) (by decide) (by simp -implicitDefEqProofs only [st_same, st_ne, Nat.reduceBEq]; exact fz_int rfl) (by simp -implicitDefEqProofs only [st_same, st_ne, Nat.reduceBEq]; exact .nil) (by simp -implicitDefEqProofs only [st_same]; exact fz_int rfl) (hu _)
      · have hs2 : ((qn M ^ e.ds e.r : Nat) : Int) ≤ st := by omega
        simp -implicitDefEqProofs only [gev_t, gev_c, st_same, st_ne, e_nil, e_cons, e_kops, e_guard, e_ff, e_some, e_mov, e_pick, e_pick_f, e_bin, e_neq, e_lss, e_geq, e_faddr, e_faddr_pp, e_nilc, e_nilc_pp, e_ext, e_ext0, e_ext1, e_load, e_cell_pp, w_skip, w_region, w_seq, w_ret, w_cond, s_n, s_r, c_t, c_f, Nat.reduceLT, Nat.reduceBEq, Nat.reduceAdd, decide_true, decide_false, Bool.not_true, List.length_cons, List.length_nil, gat_7, true_and, Nat.zero_add, ns2, ns12, ns13, ns14, ns15, Enc.mch, hs1, hs2]
        exact fin_ret3 rfl (by decide) (by decide) (by decide) (by simp -implicitDefEqProofs only [st_same, st_ne, Nat.reduceBEq]; exact fz_int rfl) (by simp -implicitDefEqProofs only [st_same, st_ne, Nat.reduceBEq]; exact .nil) (by simp -implicitDefEqProofs only [st_same]; exact fz_int rfl) (hu _)
    have hv : e.nxE (qn M ^ e.ds e.r : Nat) st l f = inE e.r l f (qn M : Nat) := by rw [Enc.nxE, if_pos hce, if_pos hst, hqo]
    rw [hv] at hE ⊢
    have hs1 : ¬ st < 0 := by omega
    have hs2 : ¬ ((qn M ^ e.ds e.r : Nat) : Int) ≤ st := by omega
    simp -implicitDefEqProofs only [gev_t, gev_c, st_same, st_ne, e_nil, e_cons, e_kops, e_guard, e_ff, e_some, e_mov, e_pick, e_pick_f, e_bin, e_neq, e_lss, e_geq, e_faddr, e_faddr_pp, e_nilc, e_nilc_pp, e_ext, e_ext0, e_ext1, e_load, e_cell_pp, e_call, w_skip, w_region, w_seq, w_cond, s_n, c_f, Nat.reduceLT, Nat.reduceBEq, Nat.reduceAdd, decide_true, decide_false, Bool.not_true, List.length_cons, List.length_nil, gat_7, true_and, Nat.zero_add, List.map_cons, List.map_nil, ns2, ns12, ns13, ns14, ns15, Enc.mch, hs1, hs2]
    refine call_of (sp_input' e hB h l f (ha1 _)) ?_
    simp -implicitDefEqProofs only [gev_t, gev_c, st_same, st_ne, e_nil, e_cons, e_kops, e_some, e_mov, e_bin, e_neq, w_region, w_seq, w_ret, w_cond, s_n, s_r, c_t, Nat.reduceLT, Nat.reduceBEq, decide_false, Bool.not_false, hE]
    exact fin_ret3 rfl (by decide) (by decide) (by decide) (by simp -implicitDefEqProofs only [st_same, st_ne, Nat.reduceBEq]; exact fz_int rfl) (by simp -implicitDefEqProofs only [st_same, st_ne, Nat.reduceBEq]; exact .nil) (by simp -implicitDefEqProofs only [st_same]; exact fz_int rfl) (hu _)
theorem sp_conv_Next {H : Heap} {n : Nat} (e : Enc) (hB : e.Bnd) (h : Fi M) (hd : e.Des M) (st : Int) (l : Nat) (f : Nat → Int) :
    Spec prog fid_conv_Next [e.gv, .int .i64 st, isl l f] H n (if e.nxE (qn M ^ e.ds e.r : Nat) st l f = 0 then .tup [.int .i64 (e.nx (qn M : Nat) st f e.r 0), isl (e.w 0) fun j => (cn (e.so M st f e.r 0 j) : Nat), .int .i64 0] else .tup [.int .i64 0, .nil, .int .i64 (e.nxE (qn M ^ e.ds e.r : Nat) st l f)]) H n := sp_conv_Next' e hB h hd st l f (Rd.sl _ _)
end
theorem sp_conv_Next_fail {H : Heap} {n : Nat} (e : Enc) (hf : ¬ e.Fok) (st : Int) (l : Nat) (f : Nat → Int) : Spec prog fid_conv_Next [e.gv, .int .i64 st, isl l f] H n (.tup [.int .i64 0, .nil, .int .i64 1]) H n := by
  refine spec_ends hmix ok_conv_Next rfl fun hF => ?_
  show gw prog B_conv_Next _ (tl 44 _) H n
  have h10 : ((1 : Int) = 0) = False := by simp
  simp -implicitDefEqProofs only [B_conv_Next, gev_t, gev_c, st_same, st_ne, mkE_nil, mkE_cons, e_nil, e_cons, e_kops, e_mov, e_load, e_box, e_box_some, e_call, e_gc_agg, w_region, w_seq, s_n, Nat.reduceLT, Nat.reduceBEq, List.length_cons, List.length_nil, e_cell_ptr, e_clm, upd_same, true_and, List.drop_zero, List.take_zero, List.take_succ_cons, Nat.zero_add, List.map_cons, List.map_nil, ns2, ns12, ns13, Nat.le_refl]
  refine call_of (sp_conv_build_fail e hf) ?_
  simp -implicitDefEqProofs only [gev_t, gev_c, st_same, st_ne, e_nil, e_cons, e_kops, e_some, e_mov, e_bin, e_neq, e_ext, e_ext0, e_ext1, w_region, w_seq, w_ret, w_cond, s_n, s_r, c_t, Nat.reduceLT, Nat.reduceBEq, decide_false, Bool.not_false, h10]
  exact fin_ret3 rfl (by decide) (by decide) (by decide) (by simp -implicitDefEqProofs only [st_same, st_ne, Nat.reduceBEq]; exact fz_int rfl) (by simp -implicitDefEqProofs only [st_same, st_ne, Nat.reduceBEq]; exact .nil) (by simp -implicitDefEqProofs only [st_same]; exact fz_int rfl) fun b hb => upd_ne _ _ (by omega)

theorem sp_ConvNext {H : Heap} {n : Nat} (e : Enc) (st : Int) (l : Nat) (f : Nat → Int) : Spec prog fid_law20_ConvNext [e.gv, .int .i64 st, isl l f] H n (.bool true) H n := by
  refine spec_ends hmix ok_law20_ConvNext rfl fun hF => ?_
  show gw prog B_law20_ConvNext _ (tl 76 _) H n
  have hu : ∀ x b, b < n → upd H n x b = H b := fun x b hb => upd_ne _ _ (by omega)
  simp -implicitDefEqProofs only [B_law20_ConvNext, gev_t, gev_c, st_same, st_ne, mkE_nil, mkE_cons, e_nil, e_cons, e_kops, e_mov, e_load, e_box, e_box_some, e_call, e_gc_agg, w_region, w_seq, s_n, Nat.reduceLT, Nat.reduceBEq, List.length_cons, List.length_nil, e_cell_ptr, e_clm, upd_same, true_and, List.drop_zero, List.take_zero, List.take_succ_cons, Nat.zero_add, List.map_cons, List.map_nil, ns2, ns12, ns13, Nat.le_refl]
  refine call_of (sp_few e) ?_
  by_cases hb : e.Bnd ∧ e.gs e.r ≤ 3000
  case neg =>
    simp -implicitDefEqProofs only [gev_t, gev_c, st_same, e_nil, e_cons, e_kops, e_some, e_mov, e_un, e_not, w_region, w_seq, w_ret, w_cond, s_n, s_r, c_t, Nat.reduceLT, decide_false, Bool.not_false, hb]
    exact fin_ret rfl (by decide) (fz_bool rfl) (hu _)
  have hB := hb.1
  have hb' : decide (e.Bnd ∧ e.gs e.r ≤ 3000) = true := decide_eq_true hb
  rw [hb']
  simp -implicitDefEqProofs only [gev_t, st_same, st_ne, e_nil, e_cons, e_kops, e_some, e_mov, e_un, e_not, e_load, e_call, w_skip, w_region, w_seq, w_cond, s_n, c_f, Nat.reduceLT, Nat.reduceBEq, Bool.not_true, List.length_cons, List.length_nil, e_cell_ptr, e_clm, upd_same, true_and, List.drop_zero, List.take_zero, List.take_succ_cons, Nat.zero_add, List.map_cons, List.map_nil, ns2, ns12, ns13, Nat.le_refl]
  rcases e.cases with ⟨k, M, h, hd⟩ | hf
  case inr =>
    refine call_of (sp_conv_Next_fail e hf st l f) ?_
    simp -implicitDefEqProofs only [gev_t, st_same, st_ne, e_nil, e_cons, e_kops, e_some, e_mov, e_ext, e_ext0, e_ext1, e_ext2, e_load, e_call, w_region, w_seq, s_n, Nat.reduceLT, Nat.reduceBEq, List.length_cons, List.length_nil, e_cell_ptr, e_clm, upd_same, true_and, List.drop_zero, List.take_zero, List.take_succ_cons, Nat.zero_add, List.map_cons, List.map_nil, ns2, ns12, ns13, Nat.le_refl]
    refine call_of (sp_ref20_Check e hB) ?_
    rw [Enc.ce_fail hf]
    have h10 : ((1 : Int) = 0) = False := by simp
    simp -implicitDefEqProofs only [gev_t, gev_c, st_same, st_ne, e_nil, e_cons, e_kops, e_guard, e_tt, e_tf, e_tu, e_some, e_mov, e_pick, e_pick_t, e_pick_f, e_bin, e_eql, e_neq, e_len, e_len_nil, w_skip, w_region, w_seq, w_ret, w_cond, s_n, s_r, c_t, c_f, Nat.reduceLT, Nat.reduceBEq, decide_true, decide_false, Bool.not_false, h10]
    exact fin_ret rfl (by decide) (fz_bool rfl) (hu _)
  have hqo := hd.qo h
  refine call_of (sp_conv_Next e hB h hd st l f) ?_
  by_cases hce : e.ce = 0
  case neg =>
    have hv : e.nxE (qn M ^ e.ds e.r : Nat) st l f = e.ce := by rw [Enc.nxE, if_neg hce]
    rw [hv, if_neg hce]
    simp -implicitDefEqProofs only [gev_t, st_same, st_ne, e_nil, e_cons, e_kops, e_some, e_mov, e_ext, e_ext0, e_ext1, e_ext2, e_load, e_call, w_region, w_seq, s_n, Nat.reduceLT, Nat.reduceBEq, List.length_cons, List.length_nil, e_cell_ptr, e_clm, upd_same, true_and, List.drop_zero, List.take_zero, List.take_succ_cons, Nat.zero_add, List.map_cons, List.map_nil, ns2, ns12, ns13, Nat.le_refl]
    refine call_of (sp_ref20_Check e hB) ?_
    simp -implicitDefEqProofs only [gev_t, gev_c, st_same, st_ne, e_nil, e_cons, e_kops, e_guard, e_tt, e_tf, e_tu, e_some, e_mov, e_pick, e_pick_t, e_pick_f, e_bin, e_eql, e_neq, e_len, e_len_nil, w_skip, w_region, w_seq, w_ret, w_cond, s_n, s_r, c_t, c_f, Nat.reduceLT, Nat.reduceBEq, decide_true, decide_false, Bool.not_false, hce]
    exact fin_ret rfl (by decide) (fz_bool rfl) (hu _)
  have hok := Enc.ok hce
  have hr := hB.r
  have hw0 := hB.w 0 (by have := hok.2.1.1; omega)
  by_cases hst : 0 ≤ st ∧ st < (qn M ^ e.ds e.r : Nat)
  case neg =>
    have hv : e.nxE (qn M ^ e.ds e.r : Nat) st l f = 6 := by rw [Enc.nxE, if_pos hce, if_neg hst]
    have h60 : ((6 : Int) = 0) = False := by simp
    rw [hv, if_neg (by decide)]
    simp -implicitDefEqProofs only [gev_t, st_same, st_ne, e_nil, e_cons, e_kops, e_some, e_mov, e_ext, e_ext0, e_ext1, e_ext2, e_load, e_call, w_region, w_seq, s_n, Nat.reduceLT, Nat.reduceBEq, List.length_cons, List.length_nil, e_cell_ptr, e_clm, upd_same, true_and, List.drop_zero, List.take_zero, List.take_succ_cons, Nat.zero_add, List.map_cons, List.map_nil, ns2, ns12, ns13, Nat.le_refl]
    refine call_of (sp_ref20_Check e hB) ?_
    rw [hce]
    by_cases hs1 : st < 0
    · simp -implicitDefEqProofs only [gev_t, gev_c, st_same, st_ne, e_nil, e_cons, e_kops, e_guard, e_tt, e_ft, e_some, e_mov, e_pick, e_pick_t, e_bin, e_eql, e_neq, e_lss, e_len, e_len_nil, w_skip, w_region, w_seq, w_ret, w_cond, s_n, s_r, c_t, c_f, Nat.reduceLT, Nat.reduceBEq, decide_true, decide_false, Bool.not_false, hs1, h60]
      exact fin_ret rfl (by decide) (fz_bool rfl) (hu _)
    · have hs2 : ((qn M ^ e.ds e.r : Nat) : Int) ≤ st := by omega
      simp -implicitDefEqProofs only [gev_t, gev_c, st_same, st_ne, e_nil, e_cons, e_kops, e_guard, e_tt, e_ff, e_some, e_mov, e_bin, e_eql, e_lss, e_load, e_call, w_region, w_seq, s_n, Nat.reduceLT, Nat.reduceBEq, decide_true, decide_false, List.length_cons, List.length_nil, e_cell_ptr, e_clm, upd_same, true_and, List.drop_zero, List.take_zero, List.take_succ_cons, Nat.zero_add, List.map_cons, List.map_nil, ns2, ns12, ns13, Nat.le_refl, hs1]
      refine call_of (sp_ref20_States e hB h hd hce) ?_
      simp -implicitDefEqProofs only [gev_t, gev_c, st_same, st_ne, e_nil, e_cons, e_kops, e_guard, e_tt, e_ff, e_some, e_mov, e_pick, e_pick_t, e_pick_f, e_bin, e_eql, e_neq, e_geq, e_len, e_len_nil, w_skip, w_region, w_seq, w_ret, w_cond, s_n, s_r, c_t, c_f, Nat.reduceLT, Nat.reduceBEq, decide_true, decide_false, Bool.not_false, hs2, h60]
      exact fin_ret rfl (by decide) (fz_bool rfl) (hu _)
  have hs1 : ¬ st < 0 := by omega
  have hs2 : ¬ ((qn M ^ e.ds e.r : Nat) : Int) ≤ st := by omega
  have hv : e.nxE (qn M ^ e.ds e.r : Nat) st l f = inE e.r l f (qo e.p e.m) := by rw [Enc.nxE, if_pos hce, if_pos hst]
  rw [hv]
  by_cases hE : inE e.r l f (qo e.p e.m) = 0
  · rw [if_pos hE]
    have hE' := hE
    rw [hqo] at hE'
    obtain ⟨rfl, hf⟩ := inE_ok hE'
    have hpw := Enc.pow_le h hd hce (e.ds e.r) (Nat.le_refl _)
    simp -implicitDefEqProofs only [gev_t, st_same, st_ne, e_nil, e_cons, e_kops, e_some, e_mov, e_ext, e_ext0, e_ext1, e_ext2, e_load, e_call, w_region, w_seq, s_n, Nat.reduceLT, Nat.reduceBEq, List.length_cons, List.length_nil, e_cell_ptr, e_clm, upd_same, true_and, List.drop_zero, List.take_zero, List.take_succ_cons, Nat.zero_add, List.map_cons, List.map_nil, ns2, ns12, ns13, Nat.le_refl]
    refine call_of (sp_ref20_Check e hB) ?_
    rw [hce]
    simp -implicitDefEqProofs only [gev_t, gev_c, st_same, st_ne, e_nil, e_cons, e_kops, e_guard, e_tt, e_ff, e_some, e_mov, e_bin, e_eql, e_lss, e_load, e_call, w_region, w_seq, s_n, Nat.reduceLT, Nat.reduceBEq, decide_true, decide_false, List.length_cons, List.length_nil, e_cell_ptr, e_clm, upd_same, true_and, List.drop_zero, List.take_zero, List.take_succ_cons, Nat.zero_add, List.map_cons, List.map_nil, ns2, ns12, ns13, Nat.le_refl, hs1]
    refine call_of (sp_ref20_States e hB h hd hce) ?_
    simp -implicitDefEqProofs only [gev_t, gev_c, st_same, st_ne, e_nil, e_cons, e_kops, e_guard, e_tt, e_ff, e_some, e_mov, e_pick, e_pick_t, e_pick_f, e_bin, e_eql, e_geq, e_load, e_call, w_skip, w_region, w_seq, w_cond, s_n, c_t, c_f, Nat.reduceLT, Nat.reduceBEq, decide_true, decide_false, List.length_cons, List.length_nil, e_cell_ptr, e_clm, upd_same, true_and, List.drop_zero, List.take_zero, List.take_succ_cons, Nat.zero_add, List.map_cons, List.map_nil, ns2, ns12, ns13, Nat.le_refl, hs2]
    refine call_of (sp_ref20_List e hB e.r f) ?_
    rw [hE]
    simp -implicitDefEqProofs only [gev_t, gev_c, st_same, st_ne, e_nil, e_cons, e_kops, e_some, e_mov, e_bin, e_neq, e_load, e_call, w_skip, w_region, w_seq, w_cond, s_n, c_f, Nat.reduceLT, Nat.reduceBEq, decide_true, Bool.not_true, List.length_cons, List.length_nil, e_cell_ptr, e_clm, upd_same, true_and, List.drop_zero, List.take_zero, List.take_succ_cons, Nat.zero_add, List.map_cons, List.map_nil, ns2, ns12, ns13, Nat.le_refl]
    refine call_of (sp_ref20_Next e hB h hd hce st f hst.1 (by omega) hf) ?_
    simp -implicitDefEqProofs only [gev_t, gev_c, st_same, st_ne, e_nil, e_cons, e_kops, e_guard, e_tt, e_some, e_mov, e_pick, e_pick_t, e_bin, e_eql, e_ext, e_ext0, e_ext1, e_call, w_region, w_seq, s_n, Nat.reduceLT, Nat.reduceBEq, decide_true, List.map_cons, List.map_nil]
    refine call_of (sp_SameInts (e.w 0) (e.w 0) _ _ (by omega)) ?_
    have hT : decide (e.w 0 = e.w 0 ∧ ∀ j, j < e.w 0 → ((cn (e.so M st f e.r 0 j) : Nat) : Int) = ((cn (e.so M st f e.r 0 j) : Nat) : Int)) = true := decide_eq_true ⟨rfl, fun _ _ => rfl⟩
    rw [hT]
    simp -implicitDefEqProofs only [gev_t, gev_c, st_same, st_ne, e_nil, e_cons, e_kops, e_some, e_mov, e_pick, e_pick_t, w_ret, s_n, Nat.reduceLT, Nat.reduceBEq, Nat.lt_add_one]
    exact fin_ret rfl (by decide) (fz_bool rfl) (hu _)
  · rw [if_neg hE]
    simp -implicitDefEqProofs only [gev_t, st_same, st_ne, e_nil, e_cons, e_kops, e_some, e_mov, e_ext, e_ext0, e_ext1, e_ext2, e_load, e_call, w_region, w_seq, s_n, Nat.reduceLT, Nat.reduceBEq, List.length_cons, List.length_nil, e_cell_ptr, e_clm, upd_same, true_and, List.drop_zero, List.take_zero, List.take_succ_cons, Nat.zero_add, List.map_cons, List.map_nil, ns2, ns12, ns13, Nat.le_refl]
    refine call_of (sp_ref20_Check e hB) ?_
    rw [hce]
    simp -implicitDefEqProofs only [gev_t, gev_c, st_same, st_ne, e_nil, e_cons, e_kops, e_guard, e_tt, e_ff, e_some, e_mov, e_bin, e_eql, e_lss, e_load, e_call, w_region, w_seq, s_n, Nat.reduceLT, Nat.reduceBEq, decide_true, decide_false, List.length_cons, List.length_nil, e_cell_ptr, e_clm, upd_same, true_and, List.drop_zero, List.take_zero, List.take_succ_cons, Nat.zero_add, List.map_cons, List.map_nil, ns2, ns12, ns13, Nat.le_refl, hs1]
    refine call_of (sp_ref20_States e hB h hd hce) ?_
    simp -implicitDefEqProofs only [gev_t, gev_c, st_same, st_ne, e_nil, e_cons, e_kops, e_guard, e_tt, e_ff, e_some, e_mov, e_pick, e_pick_t, e_pick_f, e_bin, e_eql, e_geq, e_load, e_call, w_skip, w_region, w_seq, w_cond, s_n, c_t, c_f, Nat.reduceLT, Nat.reduceBEq, decide_true, decide_false, List.length_cons, List.length_nil, e_cell_ptr, e_clm, upd_same, true_and, List.drop_zero, List.take_zero, List.take_succ_cons, Nat.zero_add, List.map_cons, List.map_nil, ns2, ns12, ns13, Nat.le_refl, hs2]
    refine call_of (sp_ref20_List e hB l f) ?_
    simp -implicitDefEqProofs only [gev_t, gev_c, st_same, st_ne, e_nil, e_cons, e_kops, e_guard, e_tt, e_some, e_mov, e_pick, e_pick_t, e_bin, e_eql, e_neq, e_len, e_len_nil, w_region, w_seq, w_ret, w_cond, s_n, s_r, c_t, Nat.reduceLT, Nat.reduceBEq, decide_true, decide_false, Bool.not_false, hE]
    exact fin_ret rfl (by decide) (fz_bool rfl) (hu _)
end Go.Proofs.Ytdpibcniodhinaa.Gh
