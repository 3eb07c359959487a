/- The statements GrsChecks, GrsStandard, GrsEncodes, GrsDuals, over ghost values. -/
import Derived.Test.YteiafdhejcgjcaaZd
namespace Go.Proofs.Yteiafdhejcgjcaa.Gh
open Go Go.RowKit
open Alg (CR Ps Dg Zm Mn El Cg sm pw Irr Prm)
set_option linter.unusedVariables false
set_option linter.unusedSimpArgs false

theorem sp_GrsChecks {H : Heap} {n : Nat} (s : Gr) : Spec prog fid_law18_GrsChecks [s.gv] H n (.bool true) H n := by
  refine spec_ends hmix ok_law18_GrsChecks rfl fun hF => ?_
  show gw prog B_law18_GrsChecks _ (tl 14 _) H n
  have hu : ∀ x b, b < n → upd H n x b = H b := fun x b hb => upd_ne _ _ (by omega)
  simp -implicitDefEqProofs only [B_law18_GrsChecks, go_sem, Nat.reduceLT, Nat.reduceBEq, Nat.reduceAdd, Nat.reduceEqDiff, Nat.reduceLeDiff, Nat.reduceSub, Nat.reduceMul]
  refine call_of sp_law18_alive ?_
  by_cases hn : (300 : Int) < (s.np : Int)
  · simp -implicitDefEqProofs only [go_sem, Nat.reduceLT, Nat.reduceBEq, Nat.reduceAdd, Nat.reduceEqDiff, Nat.reduceLeDiff, Nat.reduceSub, Nat.reduceMul, hn]
    exact fin_ret rfl (by decide) (fz_bool rfl) (hu _)
  simp -implicitDefEqProofs only [go_sem, Nat.reduceLT, Nat.reduceBEq, Nat.reduceAdd, Nat.reduceEqDiff, Nat.reduceLeDiff, Nat.reduceSub, Nat.reduceMul, hn]
  refine mcall_of (.int _ _) (fun H1 n1 _ _ => sp_grs_Check s) ?_
  simp -implicitDefEqProofs only [go_sem, Nat.reduceLT, Nat.reduceBEq, Nat.reduceAdd, Nat.reduceEqDiff, Nat.reduceLeDiff, Nat.reduceSub, Nat.reduceMul]
  refine call_of (sp_ref18_Check s (by omega)) ?_
  simp -implicitDefEqProofs only [go_sem, Nat.reduceLT, Nat.reduceBEq, Nat.reduceAdd, Nat.reduceEqDiff, Nat.reduceLeDiff, Nat.reduceSub, Nat.reduceMul]
  exact fin_ret rfl (by decide) (fz_bool rfl) (hu _)

theorem gstd_ok {k : Nat} {M : Mn k} (h : Fi M) {p m : Int} {l : Nat} {mo : Nat → Int} (d : Gh.Des p m l mo M) (N : Nat) (K : Int) (he : gse (qn M : Nat) N K = 0) : (gstd p m l mo N K).Ok := by
  have h1 : ¬ ((N : Int) < 1 ∨ min 64 ((qn M : Nat) : Int) < (N : Int)) := fun hc => by rw [gse, if_pos hc] at he; omega
  have h2 : ¬ (K < 0 ∨ (N : Int) < K) := fun hc => by rw [gse, if_neg h1, if_pos hc] at he; omega
  have d' : (gstd p m l mo N K).Des M := d
  have hq := Gr.Des.qo d' h
  have hq2 := qn_two M
  refine ⟨⟨k, M, d, h.fc, h.prm, h.irr⟩, show 1 ≤ N by omega, show N ≤ 64 by omega, rfl, fun i hi => ?_, fun i hi => ?_, fun ⟨i, j, h1, h2, h3⟩ => ?_, fun i hi => ?_, show 0 ≤ K by omega, show K ≤ N by omega⟩
  · have hi : i < N := hi
    rw [hq]; show 0 ≤ ((i : Nat) : Int) ∧ ((i : Nat) : Int) < _; omega
  · rw [hq]; show 0 ≤ (1 : Int) ∧ (1 : Int) < _; omega
  · have h3 : ((i : Nat) : Int) = ((j : Nat) : Int) := h3
    omega
  · show (1 : Int) ≠ 0
    decide
set_option maxHeartbeats 4000000 in
theorem sp_GrsStandard {H : Heap} {n : Nat} (p m : Int) (l : Nat) (mo : Nat → Int) (N K : Int) : Spec prog fid_law18_GrsStandard [fgv p m (isl l mo), .int .i64 N, .int .i64 K] H n (.bool true) H n := by
  refine spec_ends hmix ok_law18_GrsStandard rfl fun hF => ?_
  show gw prog B_law18_GrsStandard _ (tl 93 _) H n
  have hu2 : ∀ x y b, b < n → upd (upd H n x) (n + 1) y b = H b := fun x y b hb => by rw [upd_ne _ _ (by omega), upd_ne _ _ (by omega)]
  have zz : ∀ (H : Heap) (n : Nat), Spec prog fid_ref18_Zero [g0.gv] H n (.bool true) H n := fun H n => sp_ref18_Zero (.gv g0) ⟨⟨rfl, rfl, rfl, fun i _ => rfl⟩, rfl, rfl, rfl, fun i _ => rfl, fun i _ => rfl⟩
  have g0c : g0.gv = .agg [.int .i64 0, .int .i64 0, isl 0 fun _ => 0, .int .i64 0, isl 0 fun _ => 0, isl 0 fun _ => 0] := rfl
  have h10 : ((1 : Int) = 0) = False := by simp
  have h40 : ((4 : Int) = 0) = False := by simp
  have h60 : ((6 : Int) = 0) = False := by simp
  simp -implicitDefEqProofs only [B_law18_GrsStandard, go_sem, Nat.reduceLT, Nat.reduceBEq, Nat.reduceAdd, Nat.reduceEqDiff, Nat.reduceLeDiff, Nat.reduceSub, Nat.reduceMul]
  refine call_of sp_law18_alive ?_
  simp -implicitDefEqProofs only [go_sem, Nat.reduceLT, Nat.reduceBEq, Nat.reduceAdd, Nat.reduceEqDiff, Nat.reduceLeDiff, Nat.reduceSub, Nat.reduceMul]
  rcases fok_cases p m l mo with ⟨k, M, h, d⟩ | hf
  case inr =>
    have hck := sp_ref04_Check_fail (H := H) (n := n) p m l mo hf
    refine call_of (sp_grs_Standard_fail p m l mo N K hf) ?_
    rw [g0c]
    simp -implicitDefEqProofs only [go_sem, Nat.reduceLT, Nat.reduceBEq, Nat.reduceAdd, Nat.reduceEqDiff, Nat.reduceLeDiff, Nat.reduceSub, Nat.reduceMul]
    refine call_of (sp_ref04_Order p m _ rfl) ?_
    simp -implicitDefEqProofs only [go_sem, Nat.reduceLT, Nat.reduceBEq, Nat.reduceAdd, Nat.reduceEqDiff, Nat.reduceLeDiff, Nat.reduceSub, Nat.reduceMul]
    refine call_of (sp_ref04_Check_fail p m l mo hf) ?_
    simp -implicitDefEqProofs only [go_sem, Nat.reduceLT, Nat.reduceBEq, Nat.reduceAdd, Nat.reduceEqDiff, Nat.reduceLeDiff, Nat.reduceSub, Nat.reduceMul, h10]
    refine call_of (zz _ _) ?_
    simp -implicitDefEqProofs only [go_sem, Nat.reduceLT, Nat.reduceBEq, Nat.reduceAdd, Nat.reduceEqDiff, Nat.reduceLeDiff, Nat.reduceSub, Nat.reduceMul]
    exact fin_ret rfl (by decide) (fz_bool rfl) (hu2 _ _)
  have hfok : Fok p m l mo := ⟨k, M, d, h.fc, h.prm, h.irr⟩
  have hl : l ≤ 1000000 := by
    have h1 := d.hl
    have h2 := h.fc.mlen
    omega
  have hqo : qo p m = (qn M : Nat) := by rw [d.hp, d.hm, h.fc.qo']
  have hck : ∀ (H : Heap) (n : Nat), Spec prog fid_ref04_Check [fgv p m (isl l mo)] H n (.int .i64 0) H n := fun H n => by rw [d.fd]; exact sp_ref04_Check h
  have hmin : min ((qn M : Nat) : Int) 64 = min 64 ((qn M : Nat) : Int) := Int.min_comm _ _
  by_cases he : gse (qn M : Nat) N K = 0
  case neg =>
    refine call_of (sp_grs_Standard_err p m l mo h d N K he) ?_
    rw [g0c]
    simp -implicitDefEqProofs only [go_sem, Nat.reduceLT, Nat.reduceBEq, Nat.reduceAdd, Nat.reduceEqDiff, Nat.reduceLeDiff, Nat.reduceSub, Nat.reduceMul]
    refine call_of (sp_ref04_Order p m _ rfl) ?_
    rw [hqo]
    simp -implicitDefEqProofs only [go_sem, Nat.reduceLT, Nat.reduceBEq, Nat.reduceAdd, Nat.reduceEqDiff, Nat.reduceLeDiff, Nat.reduceSub, Nat.reduceMul]
    refine call_of (hck _ _) ?_
    by_cases h1 : N < 1
    · have hv : gse (qn M : Nat) N K = 4 := by rw [gse, if_pos (.inl h1)]
      simp -implicitDefEqProofs only [go_sem, Nat.reduceLT, Nat.reduceBEq, Nat.reduceAdd, Nat.reduceEqDiff, Nat.reduceLeDiff, Nat.reduceSub, Nat.reduceMul, h1, hv]
      refine call_of (zz _ _) ?_
      simp -implicitDefEqProofs only [go_sem, Nat.reduceLT, Nat.reduceBEq, Nat.reduceAdd, Nat.reduceEqDiff, Nat.reduceLeDiff, Nat.reduceSub, Nat.reduceMul]
      exact fin_ret rfl (by decide) (fz_bool rfl) (hu2 _ _)
    by_cases h2 : min 64 ((qn M : Nat) : Int) < N
    · have hv : gse (qn M : Nat) N K = 4 := by rw [gse, if_pos (.inr h2)]
      simp -implicitDefEqProofs only [go_sem, Nat.reduceLT, Nat.reduceBEq, Nat.reduceAdd, Nat.reduceEqDiff, Nat.reduceLeDiff, Nat.reduceSub, Nat.reduceMul, h1, hmin, h2, hv]
      refine call_of (zz _ _) ?_
      simp -implicitDefEqProofs only [go_sem, Nat.reduceLT, Nat.reduceBEq, Nat.reduceAdd, Nat.reduceEqDiff, Nat.reduceLeDiff, Nat.reduceSub, Nat.reduceMul]
      exact fin_ret rfl (by decide) (fz_bool rfl) (hu2 _ _)
    have hg1 : ¬ (N < 1 ∨ min 64 ((qn M : Nat) : Int) < N) := by omega
    by_cases h3 : K < 0
    · have hv : gse (qn M : Nat) N K = 6 := by rw [gse, if_neg hg1, if_pos (.inl h3)]
      simp -implicitDefEqProofs only [go_sem, Nat.reduceLT, Nat.reduceBEq, Nat.reduceAdd, Nat.reduceEqDiff, Nat.reduceLeDiff, Nat.reduceSub, Nat.reduceMul, h1, hmin, h2, h3, hv]
      refine call_of (zz _ _) ?_
      simp -implicitDefEqProofs only [go_sem, Nat.reduceLT, Nat.reduceBEq, Nat.reduceAdd, Nat.reduceEqDiff, Nat.reduceLeDiff, Nat.reduceSub, Nat.reduceMul]
      exact fin_ret rfl (by decide) (fz_bool rfl) (hu2 _ _)
    by_cases h4 : N < K
    · have hv : gse (qn M : Nat) N K = 6 := by rw [gse, if_neg hg1, if_pos (.inr h4)]
      simp -implicitDefEqProofs only [go_sem, Nat.reduceLT, Nat.reduceBEq, Nat.reduceAdd, Nat.reduceEqDiff, Nat.reduceLeDiff, Nat.reduceSub, Nat.reduceMul, h1, hmin, h2, h3, h4, hv]
      refine call_of (zz _ _) ?_
      simp -implicitDefEqProofs only [go_sem, Nat.reduceLT, Nat.reduceBEq, Nat.reduceAdd, Nat.reduceEqDiff, Nat.reduceLeDiff, Nat.reduceSub, Nat.reduceMul]
      exact fin_ret rfl (by decide) (fz_bool rfl) (hu2 _ _)
    exact absurd (by rw [gse, if_neg hg1, if_neg (by omega)]) he
  have h1 : ¬ N < 1 := fun hc => by rw [gse, if_pos (.inl hc)] at he; omega
  have h2 : ¬ min 64 ((qn M : Nat) : Int) < N := fun hc => by rw [gse, if_pos (.inr hc)] at he; omega
  have hg1 : ¬ (N < 1 ∨ min 64 ((qn M : Nat) : Int) < N) := by omega
  have h3 : ¬ K < 0 := fun hc => by rw [gse, if_neg hg1, if_pos (.inl hc)] at he; omega
  have h4 : ¬ N < K := fun hc => by rw [gse, if_neg hg1, if_pos (.inr hc)] at he; omega
  obtain ⟨N, rfl⟩ : ∃ N' : Nat, N = (N' : Int) := ⟨N.toNat, by omega⟩
  have hok := gstd_ok h d N K he
  have hgc : (gstd p m l mo N K).gv = .agg [.int .i64 p, .int .i64 m, isl l mo, .int .i64 K, isl N fun i => (i : Nat), isl N fun _ => 1] := rfl
  refine call_of (sp_grs_Standard p m l mo h d N K he) ?_
  rw [hgc]
  simp -implicitDefEqProofs only [go_sem, Nat.reduceLT, Nat.reduceBEq, Nat.reduceAdd, Nat.reduceEqDiff, Nat.reduceLeDiff, Nat.reduceSub, Nat.reduceMul]
  refine call_of (sp_ref04_Order p m _ rfl) ?_
  rw [hqo]
  simp -implicitDefEqProofs only [go_sem, Nat.reduceLT, Nat.reduceBEq, Nat.reduceAdd, Nat.reduceEqDiff, Nat.reduceLeDiff, Nat.reduceSub, Nat.reduceMul]
  refine call_of (hck _ _) ?_
  simp -implicitDefEqProofs only [go_sem, Nat.reduceLT, Nat.reduceBEq, Nat.reduceAdd, Nat.reduceEqDiff, Nat.reduceLeDiff, Nat.reduceSub, Nat.reduceMul, h1, hmin, h2, h3, h4]
  refine loop_rule (fun (i : Nat) E H' n' => ∃ g1 g2, n + 3 ≤ n' ∧ H' (n + 1) = some [.int .i64 p, .int .i64 m, isl l mo, .int .i64 K, isl N fun i => (i : Nat), isl N fun _ => 1] ∧ H' (n + 2) = some [.int .i64 p, .int .i64 m, isl l mo, .int .i64 K, g1, g2] ∧ (∀ b, b < n → H' b = H b) ∧ Sl H' (n + 3) n' g1 i (it fun t => (t : Nat)) ∧ Sl H' (n + 3) n' g2 i (it fun _ => 1) ∧ (∀ c, Own g1 c → ¬ Own g2 c) ∧ E 7 = .ptr (n + 1) 0 ∧ E 8 = .int .i64 0 ∧ E 10 = .ptr (n + 2) 0 ∧ E 65 = .int .i64 (N : Nat) ∧ E 66 = .int .i64 (i : Nat) ∧ i ≤ N) (fun i => N - i) 0 ?_ ?_
  · exact ⟨.nil, .nil, by omega, by simp -implicitDefEqProofs only [go_sem, Nat.reduceLT, Nat.reduceBEq, Nat.reduceAdd, Nat.reduceEqDiff, Nat.reduceLeDiff, Nat.reduceSub, Nat.reduceMul], by simp -implicitDefEqProofs only [go_sem, Nat.reduceLT, Nat.reduceBEq, Nat.reduceAdd, Nat.reduceEqDiff, Nat.reduceLeDiff, Nat.reduceSub, Nat.reduceMul], fun b hb => by rw [upd_ne _ _ (by omega), upd_ne _ _ (by omega), upd_ne _ _ (by omega)], .nil, .nil, fun c h => absurd h own_nil, rfl, rfl, rfl, rfl, rfl, by omega⟩
  rintro i E H' n' ⟨g1, g2, hn, c1, c2, ho, s1, s2, hd, e7, e8, e10, e65, e66, hi⟩
  simp -implicitDefEqProofs only [go_sem, Nat.reduceLT, Nat.reduceBEq, Nat.reduceAdd, Nat.reduceEqDiff, Nat.reduceLeDiff, Nat.reduceSub, Nat.reduceMul, e65, e66]
  refine c_split (fun hc => ?_) (fun hc => ?_)
  · have hiN : i < N := by omega
    have hN64 := hok.n64
    have hN64 : N ≤ 64 := hN64
    have hwi := wrap64 (x := (i : Int) + 1) (by omega)
    have k1 := s1.cell
    have k2 := s2.cell
    have f2 : (n + 2 = n') = False := eq_false (by omega)
    simp -implicitDefEqProofs only [go_sem, Nat.reduceLT, Nat.reduceBEq, Nat.reduceAdd, Nat.reduceEqDiff, Nat.reduceLeDiff, Nat.reduceSub, Nat.reduceMul, e10, e66, upd_no, f2, c2, k1, k2]
    have s1' : Sl (upd H' n' (some [GV.int .i64 (i : Nat)])) (n + 3) (n' + 1) g1 i (it fun t => (t : Nat)) := s1.keep (fun c hc => upd_ne _ _ (by have := s1.lt hc; omega)) (by omega)
    refine app_one s1' rfl rfl (by omega) fun H2 a1 a2 => ?_
    have f3 : ¬ Own g1 (n + 2) := fun h => by have := s1.lt h; omega
    have c2' : H2 (n + 2) = some [.int .i64 p, .int .i64 m, isl l mo, .int .i64 K, g1, g2] := by rw [a2 _ (by omega) f3, upd_ne _ _ (by omega), c2]
    have s2' : Sl H2 (n + 3) (n' + 2) g2 i (it fun _ => 1) := s2.keep (fun c hc => by rw [a2 c (by have := s2.lt hc; omega) (fun h => hd c h hc), upd_ne _ _ (by have := s2.lt hc; omega)]) (by omega)
    have f4 : (n + 2 = n' + 1 + 1) = False := eq_false (by omega)
    simp -implicitDefEqProofs only [go_sem, Nat.reduceLT, Nat.reduceBEq, Nat.reduceAdd, Nat.reduceEqDiff, Nat.reduceLeDiff, Nat.reduceSub, Nat.reduceMul, e10, c2', k2, upd_no, f4]
    refine app_one (m := i) (lo := n + 3) (f := it fun _ => 1) ?_ rfl rfl (by omega) fun H3 b1 b2 => ?_
    · exact s2'.keep (fun c hc => by rw [upd_ne _ _ (by have := s2.lt hc; omega), upd_ne _ _ (by have := s2.lt hc; omega)]) (by omega)
    have f5 : ¬ Own g2 (n + 2) := fun h => by have := s2.lt h; omega
    have c3 : H3 (n + 2) = some [.int .i64 p, .int .i64 m, isl l mo, .int .i64 K, .own (n' + 1) 0 (i + 1), g2] := by
      rw [b2 _ (by omega) f5, upd_ne _ _ (by omega), upd_same]
    simp -implicitDefEqProofs only [go_sem, Nat.reduceLT, Nat.reduceBEq, Nat.reduceAdd, Nat.reduceEqDiff, Nat.reduceLeDiff, Nat.reduceSub, Nat.reduceMul, e10, c3, e66, hwi]
    refine l_n ⟨i + 1, by omega, .own (n' + 1) 0 (i + 1), .own (n' + 1 + 1 + 1) 0 (i + 1), by omega, ?_, by simp -implicitDefEqProofs only [go_sem, Nat.reduceLT, Nat.reduceBEq, Nat.reduceAdd, Nat.reduceEqDiff, Nat.reduceLeDiff, Nat.reduceSub, Nat.reduceMul], fun b hb => ?_, .inr ⟨n' + 1, by omega, by omega, rfl, ?_⟩, .inr ⟨n' + 1 + 1 + 1, by omega, by omega, rfl, ?_⟩, fun c h1 h2 => ?_, by simp -implicitDefEqProofs only [go_sem, Nat.reduceLT, Nat.reduceBEq, Nat.reduceAdd, Nat.reduceEqDiff, Nat.reduceLeDiff, Nat.reduceSub, Nat.reduceMul, e7], by simp -implicitDefEqProofs only [go_sem, Nat.reduceLT, Nat.reduceBEq, Nat.reduceAdd, Nat.reduceEqDiff, Nat.reduceLeDiff, Nat.reduceSub, Nat.reduceMul, e8], by simp -implicitDefEqProofs only [go_sem, Nat.reduceLT, Nat.reduceBEq, Nat.reduceAdd, Nat.reduceEqDiff, Nat.reduceLeDiff, Nat.reduceSub, Nat.reduceMul, e10], by simp -implicitDefEqProofs only [go_sem, Nat.reduceLT, Nat.reduceBEq, Nat.reduceAdd, Nat.reduceEqDiff, Nat.reduceLeDiff, Nat.reduceSub, Nat.reduceMul, e65], by simp -implicitDefEqProofs only [go_sem, Nat.reduceLT, Nat.reduceBEq, Nat.reduceAdd, Nat.reduceEqDiff, Nat.reduceLeDiff, Nat.reduceSub, Nat.reduceMul]; rfl, by omega⟩
    · rw [upd_ne _ _ (by omega), b2 _ (by omega) (fun h => by have := s2.lt h; omega), upd_ne _ _ (by omega), upd_ne _ _ (by omega), a2 _ (by omega) (fun h => by have := s1.lt h; omega), upd_ne _ _ (by omega), c1]
    · rw [upd_ne _ _ (by omega), b2 _ (by omega) (fun h => by have := s2.lt h; omega), upd_ne _ _ (by omega), upd_ne _ _ (by omega), a2 _ (by omega) (fun h => by have := s1.lt h; omega), upd_ne _ _ (by omega), ho b hb]
    · rw [upd_ne _ _ (by omega), b2 _ (by omega) (fun h => by have := s2.lt h; omega), upd_ne _ _ (by omega), upd_ne _ _ (by omega), a1]
    · rw [upd_ne _ _ (by omega), b1]
    · rw [own_own] at h1 h2; omega
  · have : i = N := by omega
    subst this
    have hN64 : i ≤ 64 := hok.n64
    have k1 := s1.cell
    have k2 := s2.cell
    obtain ⟨b1, r1, r2, rfl, r4⟩ := s1.own (by omega)
    obtain ⟨b2, q1, q2, rfl, q4⟩ := s2.own (by omega)
    have hS : (gstd p m l mo i K).Same (gstd p m l mo i K) := ⟨⟨rfl, rfl, rfl, fun _ _ => rfl⟩, rfl, rfl, rfl, fun _ _ => rfl, fun _ _ => rfl⟩
    simp -implicitDefEqProofs only [go_sem, Nat.reduceLT, Nat.reduceBEq, Nat.reduceAdd, Nat.reduceEqDiff, Nat.reduceLeDiff, Nat.reduceSub, Nat.reduceMul, e7, e8, e10, c1, c2]
    refine call_of (sp_ref18_Same (s := gstd p m l mo i K) (t := gstd p m l mo i K) ⟨_, _, _, rfl, .sl _ _, .sl _ _, .sl _ _⟩ ⟨_, _, _, rfl, .sl _ _, .inl (.own (by omega) r4), .inl (.own (by omega) q4)⟩ hl (show i ≤ 1000000 by omega) (show i ≤ 1000000 by omega)) ?_
    rw [decide_eq_true hS]
    simp -implicitDefEqProofs only [go_sem, Nat.reduceLT, Nat.reduceBEq, Nat.reduceAdd, Nat.reduceEqDiff, Nat.reduceLeDiff, Nat.reduceSub, Nat.reduceMul, e7, c1]
    refine call_of (sp_ref18_Check (gstd p m l mo i K) (show i ≤ 1000000 by omega)) ?_
    rw [hok.ce]
    simp -implicitDefEqProofs only [go_sem, Nat.reduceLT, Nat.reduceBEq, Nat.reduceAdd, Nat.reduceEqDiff, Nat.reduceLeDiff, Nat.reduceSub, Nat.reduceMul]
    exact fin_ret rfl (by decide) (fz_bool rfl) ho

set_option maxHeartbeats 4000000 in
theorem sp_GrsEncodes {H : Heap} {n : Nat} (s : Gr) (l : Nat) (f : Nat → Int) : Spec prog fid_law18_GrsEncodes [s.gv, isl l f] H n (.bool true) H n := by
  refine spec_ends hmix ok_law18_GrsEncodes rfl fun hF => ?_
  show gw prog B_law18_GrsEncodes _ (tl 54 _) H n
  have hu : ∀ x b, b < n → upd H n x b = H b := fun x b hb => upd_ne _ _ (by omega)
  simp -implicitDefEqProofs only [B_law18_GrsEncodes, go_sem, Nat.reduceLT, Nat.reduceBEq, Nat.reduceAdd, Nat.reduceEqDiff, Nat.reduceLeDiff, Nat.reduceSub, Nat.reduceMul]
  refine call_of sp_law18_alive ?_
  by_cases hn : (24 : Int) < (s.np : Int)
  · simp -implicitDefEqProofs only [go_sem, Nat.reduceLT, Nat.reduceBEq, Nat.reduceAdd, Nat.reduceEqDiff, Nat.reduceLeDiff, Nat.reduceSub, Nat.reduceMul, hn]
    exact fin_ret rfl (by decide) (fz_bool rfl) (hu _)
  by_cases hl : (300 : Int) < (l : Int)
  · simp -implicitDefEqProofs only [go_sem, Nat.reduceLT, Nat.reduceBEq, Nat.reduceAdd, Nat.reduceEqDiff, Nat.reduceLeDiff, Nat.reduceSub, Nat.reduceMul, hn, hl]
    exact fin_ret rfl (by decide) (fz_bool rfl) (hu _)
  simp -implicitDefEqProofs only [go_sem, Nat.reduceLT, Nat.reduceBEq, Nat.reduceAdd, Nat.reduceEqDiff, Nat.reduceLeDiff, Nat.reduceSub, Nat.reduceMul, hn, hl]
  rcases s.cases with ⟨k, M, h, d⟩ | hf
  case inr =>
    have hce := Gr.ce_fail hf
    have h10 : ((1 : Int) = 0) = False := by simp
    have hec : s.ec l f = 1 := by rw [Gr.ec, hce, if_neg (by decide)]
    refine call_of (sp_grs_Encode_fail s hf (.sl l f)) ?_
    rw [hec]
    simp -implicitDefEqProofs only [go_sem, Nat.reduceLT, Nat.reduceBEq, Nat.reduceAdd, Nat.reduceEqDiff, Nat.reduceLeDiff, Nat.reduceSub, Nat.reduceMul]
    refine call_of (sp_ref18_Check s (by omega)) ?_
    rw [hce]
    simp -implicitDefEqProofs only [go_sem, Nat.reduceLT, Nat.reduceBEq, Nat.reduceAdd, Nat.reduceEqDiff, Nat.reduceLeDiff, Nat.reduceSub, Nat.reduceMul, h10]
    exact fin_ret rfl (by decide) (fz_bool rfl) (hu _)
  refine call_of (sp_grs_Encode h s d (.sl l f) (by omega)) ?_
  simp -implicitDefEqProofs only [go_sem, Nat.reduceLT, Nat.reduceBEq, Nat.reduceAdd, Nat.reduceEqDiff, Nat.reduceLeDiff, Nat.reduceSub, Nat.reduceMul]
  refine call_of (sp_ref18_Check s (by omega)) ?_
  by_cases hce : s.ce = 0
  case neg =>
    have hec : s.ec l f = s.ce := if_neg hce
    rw [hec, if_neg hce]
    simp -implicitDefEqProofs only [go_sem, Nat.reduceLT, Nat.reduceBEq, Nat.reduceAdd, Nat.reduceEqDiff, Nat.reduceLeDiff, Nat.reduceSub, Nat.reduceMul, hce]
    exact fin_ret rfl (by decide) (fz_bool rfl) (hu _)
  have hec : s.ec l f = if (l : Int) = s.K then (if Ein l f s.q then 0 else 2) else 3 := if_pos hce
  rw [hce]
  simp -implicitDefEqProofs only [go_sem, Nat.reduceLT, Nat.reduceBEq, Nat.reduceAdd, Nat.reduceEqDiff, Nat.reduceLeDiff, Nat.reduceSub, Nat.reduceMul]
  refine call_of (sp_ref18_Elements s.p s.m _ rfl l f s.K 3 (by omega)) ?_
  have hec' : (if (l : Int) = s.K then (if Ein l f (qo s.p s.m) then 0 else 2) else 3) = s.ec l f := hec.symm
  rw [hec']
  by_cases he : s.ec l f = 0
  · rw [he, if_pos rfl]
    simp -implicitDefEqProofs only [go_sem, Nat.reduceLT, Nat.reduceBEq, Nat.reduceAdd, Nat.reduceEqDiff, Nat.reduceLeDiff, Nat.reduceSub, Nat.reduceMul]
    refine call_of (sp_ref18_Word h s d (Gr.ok hce) l f (by omega)) ?_
    simp -implicitDefEqProofs only [go_sem, Nat.reduceLT, Nat.reduceBEq, Nat.reduceAdd, Nat.reduceEqDiff, Nat.reduceLeDiff, Nat.reduceSub, Nat.reduceMul]
    refine call_of (sp_law18_same (.sl s.np (s.w M l f)) (.sl s.np (s.w M l f)) (by omega)) ?_
    rw [decide_eq_true ⟨rfl, fun _ _ => rfl⟩]
    simp -implicitDefEqProofs only [go_sem, Nat.reduceLT, Nat.reduceBEq, Nat.reduceAdd, Nat.reduceEqDiff, Nat.reduceLeDiff, Nat.reduceSub, Nat.reduceMul]
    exact fin_ret rfl (by decide) (fz_bool rfl) (hu _)
  · rw [if_neg he]
    simp -implicitDefEqProofs only [go_sem, Nat.reduceLT, Nat.reduceBEq, Nat.reduceAdd, Nat.reduceEqDiff, Nat.reduceLeDiff, Nat.reduceSub, Nat.reduceMul, he]
    exact fin_ret rfl (by decide) (fz_bool rfl) (hu _)

section
variable {k : Nat} {M : Mn k}
theorem Gr.dual_ok {s : Gr} (h : Fi M) (d : s.Des M) (hs : s.Ok) : (s.dual h).Ok := by
  have hq := Gr.Des.qo d h
  refine ⟨hs.f, hs.n1, hs.n64, rfl, hs.x, fun i hi => ?_, hs.tw, fun i hi => ?_, ?_, ?_⟩
  · have := cn_lt (h.iv (s.dfv M i))
    show 0 ≤ ((cn (h.iv (s.dfv M i)) : Nat) : Int) ∧ ((cn (h.iv (s.dfv M i)) : Nat) : Int) < s.q
    rw [hq]; omega
  · show ((cn (h.iv (s.dfv M i)) : Nat) : Int) ≠ 0
    intro e
    exact h.iv_ne (hs.dfv_ne h d hi) (cn_eq_zero.1 (by omega))
  · show 0 ≤ (s.np : Int) - s.K
    have := hs.Kn; omega
  · show (s.np : Int) - s.K ≤ s.np
    have := hs.K0; omega
theorem Gr.dual_dual {s : Gr} (h : Fi M) (d : s.Des M) (hs : s.Ok) : ((s.dual h).dual h).Same s := by
  refine ⟨⟨rfl, rfl, rfl, fun _ _ => rfl⟩, ?_, rfl, hs.nm.symm, fun _ _ => rfl, fun i hi => ?_⟩
  · show (s.np : Int) - ((s.np : Int) - s.K) = s.K
    omega
  · have hi : i < s.np := hi
    show ((cn (h.iv ((s.dual h).dfv M i)) : Nat) : Int) = s.v i
    have hv := hs.v i hi
    rw [Gr.Des.qo d h] at hv
    have e1 : (s.dual h).dfv M i = h.iv (ein M (s.v i) * Alg.df s.np (s.X M) i) * Alg.df s.np (s.X M) i := by
      show ein M ((cn (h.iv (s.dfv M i)) : Nat) : Int) * Alg.df s.np (s.X M) i = _
      rw [ein_cn h.fc]; rfl
    rw [e1]
    refine Eq.trans (congrArg (fun z : El M => ((cn z : Nat) : Int)) (h.iv_of ?_).symm) (cn_ein h.fc hv.1 hv.2)
    have hne := hs.dfv_ne h d hi
    have hv1 : s.dfv M i = ein M (s.v i) * Alg.df s.np (s.X M) i := rfl
    rw [Alg.mul_assoc, Alg.mul_comm (Alg.df s.np (s.X M) i), Alg.mul_comm, ← hv1, h.iv_mul hne]
end
set_option maxHeartbeats 4000000 in
theorem sp_GrsDuals {H : Heap} {n : Nat} (s : Gr) : Spec prog fid_law18_GrsDuals [s.gv] H n (.bool true) H n := by
  refine spec_ends hmix ok_law18_GrsDuals rfl fun hF => ?_
  show gw prog B_law18_GrsDuals _ (tl 52 _) H n
  have hu : ∀ x b, b < n → upd H n x b = H b := fun x b hb => upd_ne _ _ (by omega)
  have hu2 : ∀ x y b, b < n → upd (upd H n x) (n + 1) y b = H b := fun x y b hb => by rw [upd_ne _ _ (by omega), upd_ne _ _ (by omega)]
  have hu3 : ∀ x y z b, b < n → upd (upd (upd H n x) (n + 1) y) (n + 2) z b = H b := fun x y z b hb => by rw [upd_ne _ _ (by omega), upd_ne _ _ (by omega), upd_ne _ _ (by omega)]
  have zz : ∀ (H : Heap) (n : Nat), Spec prog fid_ref18_Zero [g0.gv] H n (.bool true) H n := fun H n => sp_ref18_Zero (.gv g0) ⟨⟨rfl, rfl, rfl, fun i _ => rfl⟩, rfl, rfl, rfl, fun i _ => rfl, fun i _ => rfl⟩
  have g0c : g0.gv = .agg [.int .i64 0, .int .i64 0, isl 0 fun _ => 0, .int .i64 0, isl 0 fun _ => 0, isl 0 fun _ => 0] := rfl
  simp -implicitDefEqProofs only [B_law18_GrsDuals, go_sem, Nat.reduceLT, Nat.reduceBEq, Nat.reduceAdd, Nat.reduceEqDiff, Nat.reduceLeDiff, Nat.reduceSub, Nat.reduceMul]
  refine call_of sp_law18_alive ?_
  by_cases hn : (24 : Int) < (s.np : Int)
  · simp -implicitDefEqProofs only [go_sem, Nat.reduceLT, Nat.reduceBEq, Nat.reduceAdd, Nat.reduceEqDiff, Nat.reduceLeDiff, Nat.reduceSub, Nat.reduceMul, hn]
    exact fin_ret rfl (by decide) (fz_bool rfl) (hu _)
  simp -implicitDefEqProofs only [go_sem, Nat.reduceLT, Nat.reduceBEq, Nat.reduceAdd, Nat.reduceEqDiff, Nat.reduceLeDiff, Nat.reduceSub, Nat.reduceMul, hn]
  rcases s.cases with ⟨k, M, h, d⟩ | hf
  case inr =>
    have hce := Gr.ce_fail hf
    have h10 : ((1 : Int) = 0) = False := by simp
    refine call_of (sp_grs_Dual_fail s hf) ?_
    rw [hce, g0c]
    simp -implicitDefEqProofs only [go_sem, Nat.reduceLT, Nat.reduceBEq, Nat.reduceAdd, Nat.reduceEqDiff, Nat.reduceLeDiff, Nat.reduceSub, Nat.reduceMul]
    refine call_of (sp_ref18_Check s (by omega)) ?_
    rw [hce]
    simp -implicitDefEqProofs only [go_sem, Nat.reduceLT, Nat.reduceBEq, Nat.reduceAdd, Nat.reduceEqDiff, Nat.reduceLeDiff, Nat.reduceSub, Nat.reduceMul, h10]
    refine call_of (zz _ _) ?_
    simp -implicitDefEqProofs only [go_sem, Nat.reduceLT, Nat.reduceBEq, Nat.reduceAdd, Nat.reduceEqDiff, Nat.reduceLeDiff, Nat.reduceSub, Nat.reduceMul]
    exact fin_ret rfl (by decide) (fz_bool rfl) (hu2 _ _)
  by_cases hce : s.ce = 0
  case neg =>
    refine call_of (sp_grs_Dual_err h s d hce) ?_
    rw [g0c]
    simp -implicitDefEqProofs only [go_sem, Nat.reduceLT, Nat.reduceBEq, Nat.reduceAdd, Nat.reduceEqDiff, Nat.reduceLeDiff, Nat.reduceSub, Nat.reduceMul]
    refine call_of (sp_ref18_Check s (by omega)) ?_
    simp -implicitDefEqProofs only [go_sem, Nat.reduceLT, Nat.reduceBEq, Nat.reduceAdd, Nat.reduceEqDiff, Nat.reduceLeDiff, Nat.reduceSub, Nat.reduceMul, hce]
    refine call_of (zz _ _) ?_
    simp -implicitDefEqProofs only [go_sem, Nat.reduceLT, Nat.reduceBEq, Nat.reduceAdd, Nat.reduceEqDiff, Nat.reduceLeDiff, Nat.reduceSub, Nat.reduceMul]
    exact fin_ret rfl (by decide) (fz_bool rfl) (hu2 _ _)
  have hs := Gr.ok hce
  have hd := Gr.dual_ok h d hs
  have dd : (s.dual h).Des M := d
  have hl8 : s.l ≤ 1000000 := by
    have h1 := d.hl
    have h2 := h.fc.mlen
    omega
  have hnm := hs.nm
  have hdc : (s.dual h).gv = .agg [.int .i64 s.p, .int .i64 s.m, isl s.l s.mo, .int .i64 ((s.np : Int) - s.K), isl s.np s.x, isl s.np (s.dv h)] := rfl
  have hddc : ((s.dual h).dual h).gv = .agg [.int .i64 s.p, .int .i64 s.m, isl s.l s.mo, .int .i64 ((s.np : Int) - ((s.np : Int) - s.K)), isl s.np s.x, isl s.np ((s.dual h).dv h)] := rfl
  have hS : (s.dual h).Same (s.dual h) := ⟨⟨rfl, rfl, rfl, fun _ _ => rfl⟩, rfl, rfl, rfl, fun _ _ => rfl, fun _ _ => rfl⟩
  refine call_of (sp_grs_Dual h s d hs) ?_
  rw [hdc]
  simp -implicitDefEqProofs only [go_sem, Nat.reduceLT, Nat.reduceBEq, Nat.reduceAdd, Nat.reduceEqDiff, Nat.reduceLeDiff, Nat.reduceSub, Nat.reduceMul]
  refine call_of (sp_ref18_Check s (by omega)) ?_
  rw [hce]
  simp -implicitDefEqProofs only [go_sem, Nat.reduceLT, Nat.reduceBEq, Nat.reduceAdd, Nat.reduceEqDiff, Nat.reduceLeDiff, Nat.reduceSub, Nat.reduceMul]
  refine call_of (sp_grs_Dual h (s.dual h) dd hd) ?_
  rw [hddc]
  simp -implicitDefEqProofs only [go_sem, Nat.reduceLT, Nat.reduceBEq, Nat.reduceAdd, Nat.reduceEqDiff, Nat.reduceLeDiff, Nat.reduceSub, Nat.reduceMul]
  refine mcall_of (pl_gr (s.dual h)).nr (fun H1 n1 _ _ => sp_ref18_Dual h s d hs) ?_
  simp -implicitDefEqProofs only [go_sem, Nat.reduceLT, Nat.reduceBEq, Nat.reduceAdd, Nat.reduceEqDiff, Nat.reduceLeDiff, Nat.reduceSub, Nat.reduceMul]
  refine mcall_of (.bool _) (fun H1 n1 _ _ => sp_ref18_Same (.gv (s.dual h)) (.gv (s.dual h)) hl8 (show s.np ≤ 1000000 by omega) (show s.np ≤ 1000000 by omega)) ?_
  rw [decide_eq_true hS]
  simp -implicitDefEqProofs only [go_sem, Nat.reduceLT, Nat.reduceBEq, Nat.reduceAdd, Nat.reduceEqDiff, Nat.reduceLeDiff, Nat.reduceSub, Nat.reduceMul]
  refine call_of (sp_ref18_Same (.gv ((s.dual h).dual h)) (.gv s) hl8 (show s.np ≤ 1000000 by omega) (show s.np ≤ 1000000 by omega)) ?_
  rw [decide_eq_true (Gr.dual_dual h d hs)]
  simp -implicitDefEqProofs only [go_sem, Nat.reduceLT, Nat.reduceBEq, Nat.reduceAdd, Nat.reduceEqDiff, Nat.reduceLeDiff, Nat.reduceSub, Nat.reduceMul]
  exact fin_ret rfl (by decide) (fz_bool rfl) (hu3 _ _ _)
end Go.Proofs.Yteiafdhejcgjcaa.Gh
/- More equations of the evaluator. -/
namespace Go.Proofs.Yteiafdhejcgjcaa.Gh
open Go Go.RowKit
set_option linter.unusedVariables false
set_option linter.unusedSimpArgs false
section
variable {P : Program} {N n m n0 : Nat} {E : Env} {H H0 : Heap} {q : Km} {g v : GV} {x y : GX} {t : List GV}
def hmappp (q : Km) (bytes : Nat) : GV → Option (List GV) → Option (List GV) → Prop
  | .nil, some _, some ys => ys.length * bytes ≤ 140737488355328 ∧ q (.sl ys.length ys) none
  | .emp, some _, some ys => ys.length * bytes ≤ 140737488355328 ∧ q (.sl ys.length ys) none
  | .lit _, some cs, some ys => (cs.length + ys.length) * bytes ≤ 140737488355328 ∧ q (.sl (cs.length + ys.length) (cs ++ ys)) none
  | _, _, _ => False
theorem m_appendp (bytes : Nat) : gmop P H0 n0 t n q (.appendp bytes x y) = hmappp q bytes (gev t x) (gelems (below H0 n0) (gev t x)) (gelems (below H0 n0) (gev t y)) := by
  simp only [gmop]
  show (match gelems (below H0 n0) (gev t x), gelems (below H0 n0) (gev t y) with | some cs, some ys => _ | _, _ => False) = _
  generalize gelems (below H0 n0) (gev t x) = u; generalize gev t x = v; generalize gelems (below H0 n0) (gev t y) = w
  unfold hmappp
  cases u <;> cases w <;> cases v <;> rfl
theorem m_appp_nil (bytes : Nat) (ys zs : List GV) : hmappp q bytes .nil (some zs) (some ys) = (ys.length * bytes ≤ 140737488355328 ∧ q (.sl ys.length ys) none) := rfl
theorem m_appp_emp (bytes : Nat) (ys zs : List GV) : hmappp q bytes .emp (some zs) (some ys) = (ys.length * bytes ≤ 140737488355328 ∧ q (.sl ys.length ys) none) := rfl
theorem m_appp_lit (bytes : Nat) (cs zs ys : List GV) : hmappp q bytes (.lit cs) (some zs) (some ys) = ((zs.length + ys.length) * bytes ≤ 140737488355328 ∧ q (.sl (zs.length + ys.length) (zs ++ ys)) none) := rfl
def hmsp (q : Kn) (H : Heap) (n : Nat) (zv : GV) (bytes : Nat) : GV → GV → Prop
  | .int .i64 a, .int .i64 b => 0 ≤ a ∧ a = b ∧ a * bytes ≤ 281474976710656 ∧ 0 < bytes ∧ q (.sl a.toNat (List.replicate a.toNat zv)) H n
  | _, _ => False
theorem e_mslicep {q : Kn} (zv : GV) (bytes : Nat) : gop P t H n q (.mslicep zv bytes x y) = hmsp q H n zv bytes (gev t x) (gev t y) := by
  simp only [gop]; generalize gev t x = v; generalize gev t y = w; unfold hmsp
  cases v <;> cases w <;> first | rfl | (rename_i k1 a k2 b; cases k1 <;> cases k2 <;> rfl)
theorem e_msp_int {q : Kn} (zv : GV) (bytes : Nat) (a b : Int) : hmsp q H n zv bytes (.int .i64 a) (.int .i64 b) = (0 ≤ a ∧ a = b ∧ a * bytes ≤ 281474976710656 ∧ 0 < bytes ∧ q (.sl a.toNat (List.replicate a.toNat zv)) H n) := rfl
theorem e_aa_ptr (len size b o : Nat) (kd : IntKind) (i : Int) : haaddr len size (.ptr b o) (.int kd i) = if 0 ≤ i ∧ i < len then some (.ptr b (o + i.toNat * size)) else none := rfl
theorem e_aa_pp (len size o : Nat) (cs : List GV) (kd : IntKind) (i : Int) : haaddr len size (.pp cs o) (.int kd i) = if 0 ≤ i ∧ i < len then some (.pp cs (o + i.toNat * size)) else none := rfl
def hconv (kd : IntKind) : GV → Option GV
  | .int _ n => some (.int kd (kd.wrap n))
  | _ => none
theorem e_conv' {q : Kn} (kd : IntKind) : gop P t H n q (.conv kd x) = hopt q H n (hconv kd (gev t x)) := by
  rw [e_conv]; generalize gev t x = v; cases v <;> rfl
theorem e_conv_int (kd kd' : IntKind) (i : Int) : hconv kd (.int kd' i) = some (.int kd (kd.wrap i)) := rfl
end
def hisu (q : Kn) (H : Heap) (n : Nat) : GV → Prop
  | .sl _ _ => q (.bool true) H n ∧ q (.bool false) H n
  | _ => False
theorem e_isnilu {P : Program} {t : List GV} {H : Heap} {n : Nat} {q : Kn} {x : GX} (neg : Bool) : gop P t H n q (.isnilu neg x) = hisu q H n (gev t x) := by
  simp only [gop]; generalize gev t x = v; cases v <;> rfl
theorem e_isu_sl {q : Kn} {H : Heap} {n : Nat} (m : Nat) (cs : List GV) : hisu q H n (.sl m cs) = (q (.bool true) H n ∧ q (.bool false) H n) := rfl
/-- what stands for a value may be said in another way -/
theorem spec_arg {P : Program} {f : FuncId} {xs ys : List GV} {H H' : Heap} {n n' : Nat} {g : GV} (hlen : ys.length = xs.length) (hxy : ∀ K v j, j < xs.length → VR K (gat xs j) v → VR K (gat ys j) v) (h : Spec P f ys H n g H' n') : Spec P f xs H n g H' n' := by
  intro K vs e1 e2 hF hs hv
  exact h K vs e1 e2 hF hs ⟨by rw [hv.1, hlen], fun j hj => hxy K _ j (by omega) (hv.2 j (by omega))⟩
theorem vr_nil {K : Kr} {v : Value} (h : VR K .nil v) : VR K (.sl 0 []) v := by
  cases h; exact .sl0 0 0 none (Nat.le_refl _)
attribute [go_sem] m_appendp m_appp_nil m_appp_emp m_appp_lit e_mslicep e_msp_int e_aaddr e_aa_ptr e_aa_pp e_conv' e_conv_int e_isnilu e_isu_sl
end Go.Proofs.Yteiafdhejcgjcaa.Gh
/- Rows without the zeros at their end. -/
namespace Go.Proofs.Yteiafdhejcgjcaa.Gh
open Go Go.RowKit
set_option linter.unusedVariables false
set_option linter.unusedSimpArgs false
/-- the length without the zeros at the end -/
def tn (f : Nat → Int) : Nat → Nat
  | 0 => 0
  | m + 1 => if f m = 0 then tn f m else m + 1
theorem tn_le (f : Nat → Int) : ∀ m, tn f m ≤ m := by
  intro m
  induction m with
  | zero => exact Nat.le_refl _
  | succ m ih => rw [tn]; split <;> omega
theorem tn_congr {f g : Nat → Int} : ∀ {m : Nat}, (∀ j, j < m → f j = g j) → tn f m = tn g m := by
  intro m
  induction m with
  | zero => intro _; rfl
  | succ m ih => intro h; rw [tn, tn, h m (by omega), ih fun j hj => h j (by omega)]
theorem tn_tail {f : Nat → Int} {m n : Nat} (hm : m ≤ n) (h : ∀ j, m ≤ j → j < n → f j = 0) : tn f n = tn f m := by
  induction n with
  | zero => have : m = 0 := by omega
            subst this; rfl
  | succ n ih =>
    by_cases e : m = n + 1
    · subst e; rfl
    · rw [tn, if_pos (h n (by omega) (by omega)), ih (by omega) fun j h1 h2 => h j h1 (by omega)]
theorem tn_zero {f : Nat → Int} : ∀ (n j : Nat), tn f n ≤ j → j < n → f j = 0 := by
  intro n
  induction n with
  | zero => intro j h1 h2; omega
  | succ n ih =>
    intro j h1 h2
    rw [tn] at h1
    by_cases e : f n = 0
    · rw [if_pos e] at h1
      by_cases e' : j = n
      · subst e'; exact e
      · exact ih j h1 (by omega)
    · rw [if_neg e] at h1; omega
theorem upf_upf {α : Type} (f : Nat → α) (i : Nat) (x y : α) : upf (upf f i x) i y = upf f i y := by
  funext j; simp only [upf]; split <;> rfl
end Go.Proofs.Yteiafdhejcgjcaa.Gh
/- Polynomials as rows: canonical rows and products of the reference. -/
namespace Go.Proofs.Yteiafdhejcgjcaa.Gh
open Go Go.RowKit
open Alg (CR Ps Dg Zm Mn El Cg sm pw Irr Prm)
set_option linter.unusedVariables false
set_option linter.unusedSimpArgs false

section
variable {α : Type} [CR α]
/-- the sum of the products so far -/
def mG (m : Nat) (A B : Nat → α) (i j t : Nat) : α := sm i (fun i' => sm m fun j' => if i' + j' = t then A i' * B j' else 0) + sm j fun j' => if i + j' = t then A i * B j' else 0
theorem mG_zero (m : Nat) (A B : Nat → α) (t : Nat) : mG m A B 0 0 t = 0 := Alg.add_zero _
theorem mG_step (m : Nat) (A B : Nat → α) (i j t : Nat) : mG m A B i (j + 1) t = mG m A B i j t + if i + j = t then A i * B j else 0 := by
  simp only [mG, Alg.sm_succ, Alg.add_assoc]
theorem mG_row (m : Nat) (A B : Nat → α) (i t : Nat) : mG m A B (i + 1) 0 t = mG m A B i m t := by
  simp only [mG, Alg.sm_succ, Alg.sm_zero, Alg.add_zero]
theorem mG_all {m n : Nat} {A B : Ps α} (hA : Dg A n) (hB : Dg B m) (t : Nat) : mG m A.co B.co n 0 t = (A * B).co t := by
  rw [Alg.co_mul]
  simp only [mG, Alg.sm_zero, Alg.add_zero]
  have inner : ∀ i', (sm m fun j' => if i' + j' = t then A.co i' * B.co j' else 0) = if i' ≤ t then A.co i' * B.co (t - i') else 0 := by
    intro i'
    by_cases h : i' ≤ t
    · rw [if_pos h]
      by_cases h2 : t - i' < m
      · rw [Alg.sm_single h2 fun j hj hne => if_neg (by omega), if_pos (by omega)]
      · rw [hB (t - i') (by omega), Alg.mul_zero]
        exact Alg.sm_const_zero fun j hj => if_neg (by omega)
    · rw [if_neg h]
      exact Alg.sm_const_zero fun j hj => if_neg (by omega)
  rw [Alg.sm_congr fun i' _ => inner i']
  have e1 : (sm (t + 1) fun i => A.co i * B.co (t - i)) = sm (t + 1) fun i => if i ≤ t then A.co i * B.co (t - i) else 0 := Alg.sm_congr fun i hi => by rw [if_pos (by omega)]
  rw [e1]
  rcases Nat.le_total n (t + 1) with h | h
  · refine (Alg.sm_ext h fun i h1 h2 => ?_).symm
    rw [if_pos (by omega), hA i h1, Alg.zero_mul]
  · exact Alg.sm_ext h fun i h1 h2 => if_neg (by omega)
end
section
variable {k : Nat} {M : Mn k}
/-- the polynomial of a row of l entries -/
noncomputable def tp (M : Mn k) (l : Nat) (f : Nat → Int) : Ps (El M) := ⟨fun i => if i < l then ein M (f i) else 0⟩
theorem tp_dg (l : Nat) (f : Nat → Int) : Dg (tp M l f) l := fun i hi => if_neg (by omega)
theorem tp_co {l : Nat} {f : Nat → Int} {i : Nat} (h : i < l) : (tp M l f).co i = ein M (f i) := if_pos h
theorem tp_ev (l : Nat) (f : Nat → Int) (x : El M) : Alg.ev l (tp M l f) x = Alg.ev l (pf M f) x :=
  Alg.sm_congr fun i hi => by
    have : (tp M l f).co i = (pf M f).co i := if_pos hi
    rw [this]
/-- the entries of a polynomial, and the length of its canonical row -/
noncomputable def pe (p : Ps (El M)) : Nat → Int := fun i => (cn (p.co i) : Nat)
noncomputable def dl (p : Ps (El M)) (N : Nat) : Nat := tn (pe p) N
theorem pe_zero {p : Ps (El M)} {i : Nat} : pe p i = 0 ↔ p.co i = 0 := by
  unfold pe
  exact ⟨fun h => cn_eq_zero.1 (by omega), fun h => by rw [h, cn_zero]; rfl⟩
theorem pe_in (p : Ps (El M)) (i : Nat) : 0 ≤ pe p i ∧ pe p i < (qn M : Nat) := by
  have := cn_lt (p.co i)
  unfold pe; omega
theorem dl_le (p : Ps (El M)) (N : Nat) : dl p N ≤ N := tn_le _ _
theorem dl_any {p : Ps (El M)} {m n : Nat} (h : Dg p m) (hm : m ≤ n) : dl p n = dl p m := tn_tail hm fun j h1 _ => pe_zero.2 (h j h1)
theorem dl_dg {p : Ps (El M)} {N : Nat} (h : Dg p N) : Dg p (dl p N) := fun i hi => by
  by_cases e : i < N
  · exact pe_zero.1 (tn_zero N i hi e)
  · exact h i (by omega)
theorem dl_top {p : Ps (El M)} {N : Nat} (h : p.co N ≠ 0) : dl p (N + 1) = N + 1 := by
  unfold dl
  rw [tn, if_neg fun e => h (pe_zero.1 e)]
theorem tp_pe (h : Fc M) {p : Ps (El M)} {N : Nat} (hp : Dg p N) : tp M N (pe p) = p := Alg.Ps.ext' fun i => by
  by_cases e : i < N
  · rw [tp_co e, pe, ein_cn h]
  · rw [hp i (by omega)]; exact if_neg e
/-- the canonical row of a polynomial -/
noncomputable abbrev cr (p : Ps (El M)) (N : Nat) : GV := isl (dl p N) (pe p)
theorem cr_any {p : Ps (El M)} {m n : Nat} (h : Dg p m) (hm : m ≤ n) : cr p n = cr p m := by
  unfold cr; rw [dl_any h hm]
theorem tp_cr (h : Fc M) {p : Ps (El M)} {N : Nat} (hp : Dg p N) : tp M (dl p N) (pe p) = p := tp_pe h (dl_dg hp)

theorem sp_ref05_Canon {H : Heap} {n : Nat} (h : Fc M) {a : GV} {l : Nat} {f : Nat → Int} (ha : Rd H n a l f) (hl : l ≤ 1000000) :
    Spec prog fid_ref05_Canon [fd M, a] H n (cr (tp M l f) l) H n := by
  refine spec_ends hmix ok_ref05_Canon rfl fun hF => ?_
  show gw prog B_ref05_Canon _ (tl 41 _) H n
  have hal := ha.len
  have hq2 := qn_two M
  have hpv : ∀ i, i < l → inq (qn M : Nat) (f i) = pe (tp M l f) i := fun i hi => by rw [pe, tp_co hi, ein_inq h]
  have hqo : qo ((k : Int) + 2) (M.m : Nat) = (qn M : Nat) := h.qo'
  have sIn : ∀ (H : Heap) (n : Nat) (x : Int), Spec prog fid_ref04_In [.agg [.int .i64 ((k : Int) + 2), .int .i64 (M.m : Nat), fmod M], .int .i64 x] H n (.int .i64 (inq (qn M : Nat) x)) H n := fun H n x => by
    have := sp_ref04_In (H := H) (n := n) ((k : Int) + 2) (M.m : Nat) (fmod M) rfl x
    rwa [hqo] at this
  have hu : ∀ x b, b < n → upd H n x b = H b := fun x b hb => upd_ne _ _ (by omega)
  simp -implicitDefEqProofs only [B_ref05_Canon, fd, go_sem, Nat.reduceLT, Nat.reduceBEq, Nat.reduceAdd, Nat.reduceEqDiff, Nat.reduceLeDiff, Nat.reduceSub, Nat.reduceMul]
  refine loop_rule (fun (i : Nat) E H' n' => n' = n + 1 ∧ H' n = some [.int .i64 ((k : Int) + 2), .int .i64 (M.m : Nat), fmod M] ∧ (∀ b, b < n → H' b = H b) ∧ E 1 = a ∧ E 2 = .ptr n 0 ∧ E 5 = .int .i64 (tn (pe (tp M l f)) i : Nat) ∧ E 6 = .int .i64 (i : Nat) ∧ i ≤ l) (fun i => l - i) 0 ⟨rfl, by simp -implicitDefEqProofs only [go_sem, Nat.reduceLT, Nat.reduceBEq, Nat.reduceAdd, Nat.reduceEqDiff, Nat.reduceLeDiff, Nat.reduceSub, Nat.reduceMul], hu _, rfl, rfl, rfl, rfl, by omega⟩ ?_
  rintro i E H' n' ⟨rfl, h0, ho, e1, e2, e5, e6, hi⟩
  simp -implicitDefEqProofs only [go_sem, Nat.reduceLT, Nat.reduceBEq, Nat.reduceAdd, Nat.reduceEqDiff, Nat.reduceLeDiff, Nat.reduceSub, Nat.reduceMul, e1, e6, hal]
  refine c_split (fun hc => ?_) (fun hc => ?_)
  · have hiN : i < l := by omega
    have hwi := wrap64 (x := (i : Int) + 1) (by omega)
    obtain ⟨pa, pa1, pa2, pa3⟩ := ha.idx i hiN
    have pa4 := fun q => pa3 q H' (n + 1) (by omega) ho
    have f0 : n < n + 1 := by omega
    simp -implicitDefEqProofs only [go_sem, Nat.reduceLT, Nat.reduceBEq, Nat.reduceAdd, Nat.reduceEqDiff, Nat.reduceLeDiff, Nat.reduceSub, Nat.reduceMul, e1, e2, e6, h0, f0, pa1, pa4]
    refine call_of (sIn _ _ _) ?_
    rw [hpv i hiN]
    by_cases hz : pe (tp M l f) i = 0
    · have hs : tn (pe (tp M l f)) (i + 1) = tn (pe (tp M l f)) i := by rw [tn, if_pos hz]
      simp -implicitDefEqProofs only [go_sem, Nat.reduceLT, Nat.reduceBEq, Nat.reduceAdd, Nat.reduceEqDiff, Nat.reduceLeDiff, Nat.reduceSub, Nat.reduceMul, hz, e6, hwi]
      exact l_n ⟨i + 1, by omega, rfl, h0, ho, by simp -implicitDefEqProofs only [go_sem, Nat.reduceLT, Nat.reduceBEq, Nat.reduceAdd, Nat.reduceEqDiff, Nat.reduceLeDiff, Nat.reduceSub, Nat.reduceMul, e1], by simp -implicitDefEqProofs only [go_sem, Nat.reduceLT, Nat.reduceBEq, Nat.reduceAdd, Nat.reduceEqDiff, Nat.reduceLeDiff, Nat.reduceSub, Nat.reduceMul, e2], by simp -implicitDefEqProofs only [go_sem, Nat.reduceLT, Nat.reduceBEq, Nat.reduceAdd, Nat.reduceEqDiff, Nat.reduceLeDiff, Nat.reduceSub, Nat.reduceMul, e5, hs], by simp -implicitDefEqProofs only [go_sem, Nat.reduceLT, Nat.reduceBEq, Nat.reduceAdd, Nat.reduceEqDiff, Nat.reduceLeDiff, Nat.reduceSub, Nat.reduceMul]; rfl, by omega⟩
    · have hs : tn (pe (tp M l f)) (i + 1) = i + 1 := by rw [tn, if_neg hz]
      simp -implicitDefEqProofs only [go_sem, Nat.reduceLT, Nat.reduceBEq, Nat.reduceAdd, Nat.reduceEqDiff, Nat.reduceLeDiff, Nat.reduceSub, Nat.reduceMul, hz, e6, hwi]
      exact l_n ⟨i + 1, by omega, rfl, h0, ho, by simp -implicitDefEqProofs only [go_sem, Nat.reduceLT, Nat.reduceBEq, Nat.reduceAdd, Nat.reduceEqDiff, Nat.reduceLeDiff, Nat.reduceSub, Nat.reduceMul, e1], by simp -implicitDefEqProofs only [go_sem, Nat.reduceLT, Nat.reduceBEq, Nat.reduceAdd, Nat.reduceEqDiff, Nat.reduceLeDiff, Nat.reduceSub, Nat.reduceMul, e2], by simp -implicitDefEqProofs only [go_sem, Nat.reduceLT, Nat.reduceBEq, Nat.reduceAdd, Nat.reduceEqDiff, Nat.reduceLeDiff, Nat.reduceSub, Nat.reduceMul, hs]; rfl, by simp -implicitDefEqProofs only [go_sem, Nat.reduceLT, Nat.reduceBEq, Nat.reduceAdd, Nat.reduceEqDiff, Nat.reduceLeDiff, Nat.reduceSub, Nat.reduceMul]; rfl, by omega⟩
  · have : i = l := by omega
    subst this
    replace e5 : E 5 = .int .i64 (dl (tp M i f) i : Nat) := e5
    have hdl := dl_le (tp M i f) i
    simp -implicitDefEqProofs only [go_sem, Nat.reduceLT, Nat.reduceBEq, Nat.reduceAdd, Nat.reduceEqDiff, Nat.reduceLeDiff, Nat.reduceSub, Nat.reduceMul, e5]
    repeat with_reducible refine And.intro (by omega) ?_
    refine loop_rule (fun (j : Nat) E H' n' => n' = n + 2 ∧ H' n = some [.int .i64 ((k : Int) + 2), .int .i64 (M.m : Nat), fmod M] ∧ H' (n + 1) = some (tab (dl (tp M i f) i) (it (mix (pe (tp M i f)) (fun _ => 0) j))) ∧ (∀ b, b < n → H' b = H b) ∧ E 1 = a ∧ E 2 = .ptr n 0 ∧ E 5 = .int .i64 (dl (tp M i f) i : Nat) ∧ E 7 = .own (n + 1) 0 (dl (tp M i f) i) ∧ E 8 = .int .i64 (j : Nat) ∧ j ≤ dl (tp M i f) i) (fun j => i - j) 0 ?_ ?_
    · exact ⟨rfl, by simp -implicitDefEqProofs only [go_sem, Nat.reduceLT, Nat.reduceBEq, Nat.reduceAdd, Nat.reduceEqDiff, Nat.reduceLeDiff, Nat.reduceSub, Nat.reduceMul, h0], by simp -implicitDefEqProofs only [go_sem, Nat.reduceLT, Nat.reduceBEq, Nat.reduceAdd, Nat.reduceEqDiff, Nat.reduceLeDiff, Nat.reduceSub, Nat.reduceMul, tab_rep, mix_zero]; rfl, fun b hb => by rw [upd_ne _ _ (by omega), ho b hb], by simp -implicitDefEqProofs only [go_sem, Nat.reduceLT, Nat.reduceBEq, Nat.reduceAdd, Nat.reduceEqDiff, Nat.reduceLeDiff, Nat.reduceSub, Nat.reduceMul, e1], by simp -implicitDefEqProofs only [go_sem, Nat.reduceLT, Nat.reduceBEq, Nat.reduceAdd, Nat.reduceEqDiff, Nat.reduceLeDiff, Nat.reduceSub, Nat.reduceMul, e2], by simp -implicitDefEqProofs only [go_sem, Nat.reduceLT, Nat.reduceBEq, Nat.reduceAdd, Nat.reduceEqDiff, Nat.reduceLeDiff, Nat.reduceSub, Nat.reduceMul, e5], rfl, rfl, by omega⟩
    clear e6 e5 e2 e1 ho h0 hc hi E H'
    rintro j E H' n' ⟨rfl, h0, h1, ho, e1, e2, e5, e7, e8, hj⟩
    simp -implicitDefEqProofs only [go_sem, Nat.reduceLT, Nat.reduceBEq, Nat.reduceAdd, Nat.reduceEqDiff, Nat.reduceLeDiff, Nat.reduceSub, Nat.reduceMul, e5, e8]
    refine c_split (fun hc => ?_) (fun hc => ?_)
    · have hjN : j < dl (tp M i f) i := by omega
      have hji : j < i := by omega
      have hwj := wrap64 (x := (j : Int) + 1) (by omega)
      have hst := mix_step (pe (tp M i f)) (fun _ => 0) j
      obtain ⟨pa, pa1, pa2, pa3⟩ := ha.idx j hji
      have pa4 := fun q => pa3 q H' (n + 2) (by omega) ho
      have f0 : n < n + 2 := by omega
      simp -implicitDefEqProofs only [go_sem, Nat.reduceLT, Nat.reduceBEq, Nat.reduceAdd, Nat.reduceEqDiff, Nat.reduceLeDiff, Nat.reduceSub, Nat.reduceMul, e1, e2, e7, e8, h0, f0, pa1, pa4]
      refine mcall_of (.int _ _) (fun H1 n1 _ _ => sIn H1 n1 _) ?_
      rw [hpv j hji]
      simp -implicitDefEqProofs only [go_sem, Nat.reduceLT, Nat.reduceBEq, Nat.reduceAdd, Nat.reduceEqDiff, Nat.reduceLeDiff, Nat.reduceSub, Nat.reduceMul, h1, hc, hjN, e8, hwj, hst]
      repeat with_reducible refine And.intro (by omega) ?_
      exact l_n ⟨j + 1, by omega, rfl, by simp -implicitDefEqProofs only [go_sem, Nat.reduceLT, Nat.reduceBEq, Nat.reduceAdd, Nat.reduceEqDiff, Nat.reduceLeDiff, Nat.reduceSub, Nat.reduceMul, h0], by simp -implicitDefEqProofs only [go_sem, Nat.reduceLT, Nat.reduceBEq, Nat.reduceAdd, Nat.reduceEqDiff, Nat.reduceLeDiff, Nat.reduceSub, Nat.reduceMul], fun b hb => by rw [upd_ne _ _ (by omega)]; exact ho b hb, by simp -implicitDefEqProofs only [go_sem, Nat.reduceLT, Nat.reduceBEq, Nat.reduceAdd, Nat.reduceEqDiff, Nat.reduceLeDiff, Nat.reduceSub, Nat.reduceMul, e1], by simp -implicitDefEqProofs only [go_sem, Nat.reduceLT, Nat.reduceBEq, Nat.reduceAdd, Nat.reduceEqDiff, Nat.reduceLeDiff, Nat.reduceSub, Nat.reduceMul, e2], by simp -implicitDefEqProofs only [go_sem, Nat.reduceLT, Nat.reduceBEq, Nat.reduceAdd, Nat.reduceEqDiff, Nat.reduceLeDiff, Nat.reduceSub, Nat.reduceMul, e5], by simp -implicitDefEqProofs only [go_sem, Nat.reduceLT, Nat.reduceBEq, Nat.reduceAdd, Nat.reduceEqDiff, Nat.reduceLeDiff, Nat.reduceSub, Nat.reduceMul, e7], by simp -implicitDefEqProofs only [go_sem, Nat.reduceLT, Nat.reduceBEq, Nat.reduceAdd, Nat.reduceEqDiff, Nat.reduceLeDiff, Nat.reduceSub, Nat.reduceMul]; rfl, by omega⟩
    · have : j = dl (tp M i f) i := by omega
      subst this
      simp -implicitDefEqProofs only [go_sem, Nat.reduceLT, Nat.reduceBEq, Nat.reduceAdd, Nat.reduceEqDiff, Nat.reduceLeDiff, Nat.reduceSub, Nat.reduceMul, e7]
      refine fin_ret rfl (by decide) ?_ ho
      simp -implicitDefEqProofs only [go_sem, Nat.reduceLT, Nat.reduceBEq, Nat.reduceAdd, Nat.reduceEqDiff, Nat.reduceLeDiff, Nat.reduceSub, Nat.reduceMul]
      have hrow : H' (n + 1) = some (tab (dl (tp M i f) i) (it (pe (tp M i f)))) := by
        rw [h1]; exact congrArg some (tab_congr fun j hj => congrArg (GV.int .i64) (mix_lt _ _ hj))
      exact fz_own_isl hrow (by omega)
set_option maxHeartbeats 4000000 in
theorem sp_ref05_Mul {H : Heap} {n : Nat} (h : Fc M) {a b : GV} {la lb : Nat} {f g : Nat → Int} (ha : Rd H n a la f) (hb : Rd H n b lb g) (hla : la ≤ 1000) (hlb : lb ≤ 1000) :
    Spec prog fid_ref05_Mul [fd M, a, b] H n (cr (tp M la f * tp M lb g) (la + lb)) H n := by
  refine spec_ends hmix ok_ref05_Mul rfl fun hF => ?_
  show gw prog B_ref05_Mul _ (tl 60 _) H n
  have hu : ∀ x b, b < n → upd H n x b = H b := fun x b hb => upd_ne _ _ (by omega)
  have sC : ∀ (H : Heap) (n : Nat) (a : GV) (l : Nat) (f : Nat → Int), Rd H n a l f → l ≤ 1000000 → Spec prog fid_ref05_Canon [.agg [.int .i64 ((k : Int) + 2), .int .i64 (M.m : Nat), fmod M], a] H n (cr (tp M l f) l) H n := fun H n a l f ha hl => sp_ref05_Canon h ha hl
  have sMul : ∀ (H3 : Heap) (n3 : Nat) (x y : Int), Spec prog fid_ref04_Mul [.agg [.int .i64 ((k : Int) + 2), .int .i64 (M.m : Nat), fmod M], .int .i64 x, .int .i64 y] H3 n3 (.int .i64 (cd (ein M x * ein M y))) H3 n3 := fun H3 n3 x y => sp_ref04_Mul h x y
  have sAdd : ∀ (H3 : Heap) (n3 : Nat) (x y : Int), Spec prog fid_ref04_Add [.agg [.int .i64 ((k : Int) + 2), .int .i64 (M.m : Nat), fmod M], .int .i64 x, .int .i64 y] H3 n3 (.int .i64 (cd (ein M x + ein M y))) H3 n3 := fun H3 n3 x y => sp_ref04_Add h x y
  generalize hP : tp M la f = P
  generalize hQ : tp M lb g = Q
  have dP : Dg P la := by rw [← hP]; exact tp_dg la f
  have dQ : Dg Q lb := by rw [← hQ]; exact tp_dg lb g
  have l1 := dl_le P la
  have l2 := dl_le Q lb
  have d1 := dl_dg dP
  have d2 := dl_dg dQ
  simp -implicitDefEqProofs only [B_ref05_Mul, fd, go_sem, Nat.reduceLT, Nat.reduceBEq, Nat.reduceAdd, Nat.reduceEqDiff, Nat.reduceLeDiff, Nat.reduceSub, Nat.reduceMul]
  refine call_of (sC _ _ _ _ _ (ha.keep (by omega) (hu _)) (by omega)) ?_
  rw [hP]
  simp -implicitDefEqProofs only [go_sem, Nat.reduceLT, Nat.reduceBEq, Nat.reduceAdd, Nat.reduceEqDiff, Nat.reduceLeDiff, Nat.reduceSub, Nat.reduceMul]
  refine call_of (sC _ _ _ _ _ (hb.keep (by omega) (hu _)) (by omega)) ?_
  rw [hQ]
  have hw0 := wrap64 (x := ((dl P la : Nat) : Int) + ((dl Q lb : Nat) : Int)) (by omega)
  have hw1 : ((dl P la : Nat) : Int) + ((dl Q lb : Nat) : Int) = ((dl P la + dl Q lb : Nat) : Int) := by omega
  rw [hw1] at hw0
  simp -implicitDefEqProofs only [go_sem, Nat.reduceLT, Nat.reduceBEq, Nat.reduceAdd, Nat.reduceEqDiff, Nat.reduceLeDiff, Nat.reduceSub, Nat.reduceMul, hw1, hw0]
  repeat with_reducible refine And.intro (by omega) ?_
  generalize hI : dl P la = I at *
  generalize hJ : dl Q lb = J at *
  let c : Nat → Nat → Nat → Int := fun i j t => (cn (mG J P.co Q.co i j t) : Nat)
  refine loop_rule (fun (i : Nat) E H' n' => n' = n + 2 ∧ H' n = some [.int .i64 ((k : Int) + 2), .int .i64 (M.m : Nat), fmod M] ∧ H' (n + 1) = some (tab (I + J) (it (c i 0))) ∧ (∀ b, b < n → H' b = H b) ∧ E 1 = isl I (pe P) ∧ E 2 = isl J (pe Q) ∧ E 3 = .ptr n 0 ∧ E 7 = .own (n + 1) 0 (I + J) ∧ E 8 = .int .i64 (i : Nat) ∧ i ≤ I) (fun i => I - i) 0 ?_ ?_
  · refine ⟨rfl, by simp -implicitDefEqProofs only [go_sem, Nat.reduceLT, Nat.reduceBEq, Nat.reduceAdd, Nat.reduceEqDiff, Nat.reduceLeDiff, Nat.reduceSub, Nat.reduceMul], ?_, fun b hb => by rw [upd_ne _ _ (by omega), upd_ne _ _ (by omega)], by simp -implicitDefEqProofs only [go_sem, Nat.reduceLT, Nat.reduceBEq, Nat.reduceAdd, Nat.reduceEqDiff, Nat.reduceLeDiff, Nat.reduceSub, Nat.reduceMul, cr, hI], by simp -implicitDefEqProofs only [go_sem, Nat.reduceLT, Nat.reduceBEq, Nat.reduceAdd, Nat.reduceEqDiff, Nat.reduceLeDiff, Nat.reduceSub, Nat.reduceMul, cr, hJ], rfl, rfl, rfl, by omega⟩
    simp -implicitDefEqProofs only [go_sem, Nat.reduceLT, Nat.reduceBEq, Nat.reduceAdd, Nat.reduceEqDiff, Nat.reduceLeDiff, Nat.reduceSub, Nat.reduceMul, tab_rep]
    refine congrArg some (tab_congr fun t _ => ?_)
    show GV.int .i64 0 = GV.int .i64 (cn (mG J P.co Q.co 0 0 t) : Nat)
    rw [mG_zero, cn_zero]; rfl
  rintro i E H' n' ⟨rfl, h0, h1, ho, e1, e2, e3, e7, e8, hi⟩
  simp -implicitDefEqProofs only [go_sem, Nat.reduceLT, Nat.reduceBEq, Nat.reduceAdd, Nat.reduceEqDiff, Nat.reduceLeDiff, Nat.reduceSub, Nat.reduceMul, e1, e8]
  refine c_split (fun hc => ?_) (fun hc => ?_)
  · have hiN : i < I := by omega
    have hwi := wrap64 (x := (i : Int) + 1) (by omega)
    simp -implicitDefEqProofs only [go_sem, Nat.reduceLT, Nat.reduceBEq, Nat.reduceAdd, Nat.reduceEqDiff, Nat.reduceLeDiff, Nat.reduceSub, Nat.reduceMul]
    refine loop_rule (fun (j : Nat) E H' n' => n' = n + 2 ∧ H' n = some [.int .i64 ((k : Int) + 2), .int .i64 (M.m : Nat), fmod M] ∧ H' (n + 1) = some (tab (I + J) (it (c i j))) ∧ (∀ b, b < n → H' b = H b) ∧ E 1 = isl I (pe P) ∧ E 2 = isl J (pe Q) ∧ E 3 = .ptr n 0 ∧ E 7 = .own (n + 1) 0 (I + J) ∧ E 8 = .int .i64 (i : Nat) ∧ E 9 = .int .i64 (j : Nat) ∧ j ≤ J) (fun j => J - j) 0 ⟨rfl, h0, h1, ho, by simp -implicitDefEqProofs only [go_sem, Nat.reduceLT, Nat.reduceBEq, Nat.reduceAdd, Nat.reduceEqDiff, Nat.reduceLeDiff, Nat.reduceSub, Nat.reduceMul, e1], by simp -implicitDefEqProofs only [go_sem, Nat.reduceLT, Nat.reduceBEq, Nat.reduceAdd, Nat.reduceEqDiff, Nat.reduceLeDiff, Nat.reduceSub, Nat.reduceMul, e2], by simp -implicitDefEqProofs only [go_sem, Nat.reduceLT, Nat.reduceBEq, Nat.reduceAdd, Nat.reduceEqDiff, Nat.reduceLeDiff, Nat.reduceSub, Nat.reduceMul, e3], by simp -implicitDefEqProofs only [go_sem, Nat.reduceLT, Nat.reduceBEq, Nat.reduceAdd, Nat.reduceEqDiff, Nat.reduceLeDiff, Nat.reduceSub, Nat.reduceMul, e7], by simp -implicitDefEqProofs only [go_sem, Nat.reduceLT, Nat.reduceBEq, Nat.reduceAdd, Nat.reduceEqDiff, Nat.reduceLeDiff, Nat.reduceSub, Nat.reduceMul, e8], by simp -implicitDefEqProofs only [go_sem, Nat.reduceLT, Nat.reduceBEq, Nat.reduceAdd, Nat.reduceEqDiff, Nat.reduceLeDiff, Nat.reduceSub, Nat.reduceMul]; rfl, by omega⟩ ?_
    clear e8 e7 e3 e2 e1 ho h1 h0 E H'
    rintro j E H' n' ⟨rfl, h0, h1, ho, e1, e2, e3, e7, e8, e9, hj⟩
    simp -implicitDefEqProofs only [go_sem, Nat.reduceLT, Nat.reduceBEq, Nat.reduceAdd, Nat.reduceEqDiff, Nat.reduceLeDiff, Nat.reduceSub, Nat.reduceMul, e2, e9]
    refine c_split (fun hc' => ?_) (fun hc' => ?_)
    · have hjN : j < J := by omega
      have hwj := wrap64 (x := (j : Int) + 1) (by omega)
      have hij : i + j < I + J := by omega
      have hwij : IntKind.i64.wrap ((i : Int) + (j : Int)) = ((i + j : Nat) : Int) := (wrap64 (by omega)).trans (by omega)
      have hijI : ((i + j : Nat) : Int) < ((I + J : Nat) : Int) := by omega
      have hij0 : (0 : Int) ≤ ((i + j : Nat) : Int) := by omega
      have f0 : n < n + 2 := by omega
      have f1 : n + 1 < n + 2 := by omega
      have hst : upf (c i j) (i + j) (cn (mG J P.co Q.co i j (i + j) + P.co i * Q.co j) : Nat) = c i (j + 1) := by
        funext t
        show _ = ((cn (mG J P.co Q.co i (j + 1) t) : Nat) : Int)
        rw [mG_step]
        by_cases e : t = i + j
        · subst e; rw [upf_same, if_pos rfl]
        · rw [upf_ne _ _ e, if_neg (fun e' => e e'.symm), Alg.add_zero]
      simp -implicitDefEqProofs only [go_sem, Nat.reduceLT, Nat.reduceBEq, Nat.reduceAdd, Nat.reduceEqDiff, Nat.reduceLeDiff, Nat.reduceSub, Nat.reduceMul, e1, e2, e3, e7, e8, e9, h0, h1, f0, f1, hc, hc', hiN, hjN, hij, hwij, hijI, hij0, gat_tab]
      refine mcall_of (.int _ _) (fun H1 n1 _ _ => sMul H1 n1 _ _) ?_
      simp -implicitDefEqProofs only [go_sem, Nat.reduceLT, Nat.reduceBEq, Nat.reduceAdd, Nat.reduceEqDiff, Nat.reduceLeDiff, Nat.reduceSub, Nat.reduceMul]
      refine mcall_of (.int _ _) (fun H1 n1 _ _ => sAdd H1 n1 _ _) ?_
      have hA : cd (ein M (c i j (i + j)) + ein M (cd (ein M (pe P i) * ein M (pe Q j)))) = (cn (mG J P.co Q.co i j (i + j) + P.co i * Q.co j) : Nat) := by
        show cd (ein M ((cn (mG J P.co Q.co i j (i + j)) : Nat) : Int) + ein M (cd (ein M ((cn (P.co i) : Nat) : Int) * ein M ((cn (Q.co j) : Nat) : Int)))) = _
        rw [ein_cn h, ein_cn h, ein_cn h, cd_cn (P.co i * Q.co j), ein_cn h, cd_cn]
      rw [hA]
      simp -implicitDefEqProofs only [go_sem, Nat.reduceLT, Nat.reduceBEq, Nat.reduceAdd, Nat.reduceEqDiff, Nat.reduceLeDiff, Nat.reduceSub, Nat.reduceMul, h1, hij, hijI, hij0, hst, e9, hwj]
      repeat with_reducible refine And.intro (by omega) ?_
      exact l_n ⟨j + 1, by omega, rfl, by simp -implicitDefEqProofs only [go_sem, Nat.reduceLT, Nat.reduceBEq, Nat.reduceAdd, Nat.reduceEqDiff, Nat.reduceLeDiff, Nat.reduceSub, Nat.reduceMul, h0], by simp -implicitDefEqProofs only [go_sem, Nat.reduceLT, Nat.reduceBEq, Nat.reduceAdd, Nat.reduceEqDiff, Nat.reduceLeDiff, Nat.reduceSub, Nat.reduceMul], fun b hb => by rw [upd_ne _ _ (by omega)]; exact ho b hb, by simp -implicitDefEqProofs only [go_sem, Nat.reduceLT, Nat.reduceBEq, Nat.reduceAdd, Nat.reduceEqDiff, Nat.reduceLeDiff, Nat.reduceSub, Nat.reduceMul, e1], by simp -implicitDefEqProofs only [go_sem, Nat.reduceLT, Nat.reduceBEq, Nat.reduceAdd, Nat.reduceEqDiff, Nat.reduceLeDiff, Nat.reduceSub, Nat.reduceMul, e2], by simp -implicitDefEqProofs only [go_sem, Nat.reduceLT, Nat.reduceBEq, Nat.reduceAdd, Nat.reduceEqDiff, Nat.reduceLeDiff, Nat.reduceSub, Nat.reduceMul, e3], by simp -implicitDefEqProofs only [go_sem, Nat.reduceLT, Nat.reduceBEq, Nat.reduceAdd, Nat.reduceEqDiff, Nat.reduceLeDiff, Nat.reduceSub, Nat.reduceMul, e7], by simp -implicitDefEqProofs only [go_sem, Nat.reduceLT, Nat.reduceBEq, Nat.reduceAdd, Nat.reduceEqDiff, Nat.reduceLeDiff, Nat.reduceSub, Nat.reduceMul, e8], by simp -implicitDefEqProofs only [go_sem, Nat.reduceLT, Nat.reduceBEq, Nat.reduceAdd, Nat.reduceEqDiff, Nat.reduceLeDiff, Nat.reduceSub, Nat.reduceMul]; rfl, by omega⟩
    · have : j = J := by omega
      subst this
      have hrow : c (i + 1) 0 = c i j := by
        funext t
        show ((cn (mG j P.co Q.co (i + 1) 0 t) : Nat) : Int) = _
        rw [mG_row]
      simp -implicitDefEqProofs only [go_sem, Nat.reduceLT, Nat.reduceBEq, Nat.reduceAdd, Nat.reduceEqDiff, Nat.reduceLeDiff, Nat.reduceSub, Nat.reduceMul, e8, hwi]
      exact l_n ⟨i + 1, by omega, rfl, h0, by rw [hrow]; exact h1, ho, by simp -implicitDefEqProofs only [go_sem, Nat.reduceLT, Nat.reduceBEq, Nat.reduceAdd, Nat.reduceEqDiff, Nat.reduceLeDiff, Nat.reduceSub, Nat.reduceMul, e1], by simp -implicitDefEqProofs only [go_sem, Nat.reduceLT, Nat.reduceBEq, Nat.reduceAdd, Nat.reduceEqDiff, Nat.reduceLeDiff, Nat.reduceSub, Nat.reduceMul, e2], by simp -implicitDefEqProofs only [go_sem, Nat.reduceLT, Nat.reduceBEq, Nat.reduceAdd, Nat.reduceEqDiff, Nat.reduceLeDiff, Nat.reduceSub, Nat.reduceMul, e3], by simp -implicitDefEqProofs only [go_sem, Nat.reduceLT, Nat.reduceBEq, Nat.reduceAdd, Nat.reduceEqDiff, Nat.reduceLeDiff, Nat.reduceSub, Nat.reduceMul, e7], by simp -implicitDefEqProofs only [go_sem, Nat.reduceLT, Nat.reduceBEq, Nat.reduceAdd, Nat.reduceEqDiff, Nat.reduceLeDiff, Nat.reduceSub, Nat.reduceMul]; rfl, by omega⟩
  · have : i = I := by omega
    subst this
    have dPQ : Dg (P * Q) (i + J) := Alg.Dg.mul' d1 d2 (by omega)
    have hrow : H' (n + 1) = some (tab (i + J) (it (pe (P * Q)))) := by
      rw [h1]
      refine congrArg some (tab_congr fun t _ => congrArg (GV.int .i64) ?_)
      show ((cn (mG J P.co Q.co i 0 t) : Nat) : Int) = _
      rw [mG_all d1 d2]; rfl
    have f0 : n < n + 2 := by omega
    simp -implicitDefEqProofs only [go_sem, Nat.reduceLT, Nat.reduceBEq, Nat.reduceAdd, Nat.reduceEqDiff, Nat.reduceLeDiff, Nat.reduceSub, Nat.reduceMul, e3, e7, h0, f0]
    refine call_of (sC _ _ _ _ _ (.own (by omega) hrow) (by omega)) ?_
    rw [tp_pe h dPQ]
    simp -implicitDefEqProofs only [go_sem, Nat.reduceLT, Nat.reduceBEq, Nat.reduceAdd, Nat.reduceEqDiff, Nat.reduceLeDiff, Nat.reduceSub, Nat.reduceMul]
    refine fin_ret rfl (by decide) ?_ ho
    simp -implicitDefEqProofs only [go_sem, Nat.reduceLT, Nat.reduceBEq, Nat.reduceAdd, Nat.reduceEqDiff, Nat.reduceLeDiff, Nat.reduceSub, Nat.reduceMul]
    rw [cr_any dPQ (show i + J ≤ la + lb by omega)]
    exact (pl_isl _ _).tr
end
end Go.Proofs.Yteiafdhejcgjcaa.Gh
/- The statements GrsOrthogonal and GrsSeparates, over ghost values. -/
namespace Go.Proofs.Yteiafdhejcgjcaa.Gh
open Go Go.RowKit
open Alg (CR Ps Dg Zm Mn El Cg sm pw Irr Prm)
set_option linter.unusedVariables false
set_option linter.unusedSimpArgs false

theorem cnt_false' {n : Nat} {P : Nat → Bool} (h : ∀ i, i < n → P i = false) : Alg.cnt n P = 0 := by
  induction n with
  | zero => rfl
  | succ n ih => rw [Alg.cnt_succ, ih fun i hi => h i (by omega), h n (by omega)]; rfl
section
variable {k : Nat} {M : Mn k}
theorem Gr.w_in (s : Gr) (l : Nat) (f : Nat → Int) (i : Nat) : ein M (s.v i) * Alg.ev l (pf M f) (ein M (s.x i)) = ein M (s.v i) * Alg.ev l (tp M l f) (s.X M i) := by rw [tp_ev]; rfl
/-- the inner product of a codeword and one of the dual -/
theorem Gr.ortho {s : Gr} (h : Fi M) (d : s.Des M) (hs : s.Ok) {l0 l1 : Nat} (f0 f1 : Nat → Int) (h0 : (l0 : Int) = s.K) (h1 : (l1 : Int) = (s.np : Int) - s.K) :
    sm s.np (fun i => ein M (s.w M l0 f0 i) * ein M ((s.dual h).w M l1 f1 i)) = 0 := by
  letI : Alg.Fd (El M) := Alg.elFd h.prm h.irr
  have hn1 := hs.n1
  have hKn := hs.Kn
  obtain ⟨N, hN⟩ : ∃ N, s.np = N + 1 := ⟨s.np - 1, by omega⟩
  have hdist : Alg.Dist (N + 1) (s.X M) := fun i j hi hj e => hs.inj h d (by omega) (by omega) e
  have hv : ∀ i, i < N + 1 → ein M (s.v i) ≠ 0 := fun i hi => hs.vne h d (by omega)
  have hK : l0 ≤ N + 1 := by omega
  have hl1 : l1 = N + 1 - l0 := by omega
  have h2 := Alg.ortho hK hdist hv (tp_dg (M := M) l0 f0) (q := tp M l1 f1) (by rw [← hl1]; exact tp_dg l1 f1)
  rw [hN, ← h2]
  refine Alg.sm_congr fun i hi => ?_
  have e0 : ein M (s.w M l0 f0 i) = ein M (s.v i) * Alg.ev l0 (tp M l0 f0) (s.X M i) := by
    rw [Gr.w, ein_cn h.fc, s.w_in]
  have e1 : ein M ((s.dual h).w M l1 f1 i) = Alg.Fd.inv (ein M (s.v i) * Alg.df (N + 1) (s.X M) i) * Alg.ev (N + 1 - l0) (tp M l1 f1) (s.X M i) := by
    rw [Gr.w, ein_cn h.fc, (s.dual h).w_in, ← hl1, ← hN]
    show ein M ((cn (h.iv (s.dfv M i)) : Nat) : Int) * Alg.ev l1 (tp M l1 f1) (s.X M i) = h.iv (ein M (s.v i) * Alg.df s.np (s.X M) i) * Alg.ev l1 (tp M l1 f1) (s.X M i)
    rw [ein_cn h.fc]; rfl
  rw [e0, e1]
theorem Gr.sep {s : Gr} (h : Fi M) (d : s.Des M) (hs : s.Ok) {l : Nat} {f : Nat → Int} (hl : (l : Int) = s.K) (hE : Ein l f s.q) (h0 : wt l f ≠ 0) : (s.np : Int) - s.K + 1 ≤ (wt s.np (s.w M l f) : Nat) := by
  letI : Alg.Fd (El M) := Alg.elFd h.prm h.irr
  have hdist : Alg.Dist s.np (s.X M) := fun i j hi hj e => hs.inj h d hi hj e
  have hne : tp M l f ≠ 0 := by
    intro e
    refine h0 (cnt_false' fun i hi => ?_)
    have h1 : (tp M l f).co i = 0 := by rw [e]; rfl
    have h2 : (tp M l f).co i = ein M (f i) := if_pos hi
    rw [h2] at h1
    have h3 := hE i hi
    rw [Gr.Des.qo d h] at h3
    have h4 := cn_ein h.fc h3.1 h3.2
    rw [h1, cn_zero] at h4
    simp [← h4]
  have h1 := Alg.sep hdist (tp_dg (M := M) l f) hne (fun i => decide (s.w M l f i ≠ 0)) fun i hi hP => by
    have h2 : s.w M l f i = 0 := by simpa using hP
    rw [Gr.w] at h2
    have h3 := cn_eq_zero.1 (show cn (ein M (s.v i) * Alg.ev l (pf M f) (ein M (s.x i))) = 0 by omega)
    rw [s.w_in] at h3
    exact Alg.mul_eq_zero (hs.vne h d hi) h3
  have h2 : wt s.np (s.w M l f) = Alg.cnt s.np fun i => decide (s.w M l f i ≠ 0) := rfl
  omega
end

set_option maxHeartbeats 4000000 in
theorem sp_GrsSeparates {H : Heap} {n : Nat} (s : Gr) (l : Nat) (f : Nat → Int) : Spec prog fid_law18_GrsSeparates [s.gv, isl l f] H n (.bool true) H n := by
  refine spec_ends hmix ok_law18_GrsSeparates rfl fun hF => ?_
  show gw prog B_law18_GrsSeparates _ (tl 53 _) H n
  have hu : ∀ x b, b < n → upd H n x b = H b := fun x b hb => upd_ne _ _ (by omega)
  have h30 : ((3 : Int) = 0) = False := by simp
  have h20 : ((2 : Int) = 0) = False := by simp
  simp -implicitDefEqProofs only [B_law18_GrsSeparates, go_sem, Nat.reduceLT, Nat.reduceBEq, Nat.reduceAdd, Nat.reduceEqDiff, Nat.reduceLeDiff, Nat.reduceSub, Nat.reduceMul]
  refine call_of sp_law18_alive ?_
  simp -implicitDefEqProofs only [go_sem, Nat.reduceLT, Nat.reduceBEq, Nat.reduceAdd, Nat.reduceEqDiff, Nat.reduceLeDiff, Nat.reduceSub, Nat.reduceMul]
  refine call_of (sp_law18_good s) ?_
  by_cases hg : s.np ≤ 24 ∧ s.ce = 0
  case neg =>
    rw [decide_eq_false hg]
    simp -implicitDefEqProofs only [go_sem, Nat.reduceLT, Nat.reduceBEq, Nat.reduceAdd, Nat.reduceEqDiff, Nat.reduceLeDiff, Nat.reduceSub, Nat.reduceMul]
    exact fin_ret rfl (by decide) (fz_bool rfl) (hu _)
  rw [decide_eq_true hg]
  have hs := Gr.ok hg.2
  have hKn := hs.Kn
  have hK0 := hs.K0
  have hnp := hg.1
  simp -implicitDefEqProofs only [go_sem, Nat.reduceLT, Nat.reduceBEq, Nat.reduceAdd, Nat.reduceEqDiff, Nat.reduceLeDiff, Nat.reduceSub, Nat.reduceMul]
  refine call_of (sp_ref18_Elements s.p s.m _ rfl l f s.K 3 (by omega)) ?_
  by_cases hK : (l : Int) = s.K
  case neg =>
    rw [if_neg hK]
    simp -implicitDefEqProofs only [go_sem, Nat.reduceLT, Nat.reduceBEq, Nat.reduceAdd, Nat.reduceEqDiff, Nat.reduceLeDiff, Nat.reduceSub, Nat.reduceMul, h30]
    exact fin_ret rfl (by decide) (fz_bool rfl) (hu _)
  by_cases hE : Ein l f s.q
  case neg =>
    rw [if_pos hK, if_neg hE]
    simp -implicitDefEqProofs only [go_sem, Nat.reduceLT, Nat.reduceBEq, Nat.reduceAdd, Nat.reduceEqDiff, Nat.reduceLeDiff, Nat.reduceSub, Nat.reduceMul, h20]
    exact fin_ret rfl (by decide) (fz_bool rfl) (hu _)
  rw [if_pos hK, if_pos hE]
  simp -implicitDefEqProofs only [go_sem, Nat.reduceLT, Nat.reduceBEq, Nat.reduceAdd, Nat.reduceEqDiff, Nat.reduceLeDiff, Nat.reduceSub, Nat.reduceMul]
  refine call_of (sp_ref18_Weight l f (by omega)) ?_
  by_cases h0 : wt l f = 0
  · have h0' : ((wt l f : Nat) : Int) = 0 := by omega
    simp -implicitDefEqProofs only [go_sem, Nat.reduceLT, Nat.reduceBEq, Nat.reduceAdd, Nat.reduceEqDiff, Nat.reduceLeDiff, Nat.reduceSub, Nat.reduceMul, h0']
    exact fin_ret rfl (by decide) (fz_bool rfl) (hu _)
  have h0' : ¬ ((wt l f : Nat) : Int) = 0 := by omega
  rcases s.cases with ⟨k, M, h, d⟩ | hf
  case inr => exact absurd hs.f hf
  have hec : s.ec l f = 0 := by rw [Gr.ec, if_pos hg.2, if_pos hK, if_pos hE]
  have hen : ∀ (H : Heap) (n : Nat), Spec prog fid_grs_Encode [s.gv, isl l f] H n (.tup [isl s.np (s.w M l f), .int .i64 0]) H n := fun H n => by
    have := sp_grs_Encode (H := H) (n := n) h s d (.sl l f) (by omega)
    rwa [hec, if_pos rfl] at this
  simp -implicitDefEqProofs only [go_sem, Nat.reduceLT, Nat.reduceBEq, Nat.reduceAdd, Nat.reduceEqDiff, Nat.reduceLeDiff, Nat.reduceSub, Nat.reduceMul, h0']
  refine call_of (hen _ _) ?_
  have f0 : n < n + 1 := by omega
  have hw1 := wrap64 (x := (s.np : Int) - s.K) (by omega)
  have hw2 := wrap64 (x := (s.np : Int) - s.K + 1) (by omega)
  have hle := Gr.sep h d hs hK hE h0
  simp -implicitDefEqProofs only [go_sem, Nat.reduceLT, Nat.reduceBEq, Nat.reduceAdd, Nat.reduceEqDiff, Nat.reduceLeDiff, Nat.reduceSub, Nat.reduceMul, f0]
  refine mcall_of (.int _ _) (fun H1 n1 _ _ => sp_ref18_Weight s.np (s.w M l f) (by omega)) ?_
  simp -implicitDefEqProofs only [go_sem, Nat.reduceLT, Nat.reduceBEq, Nat.reduceAdd, Nat.reduceEqDiff, Nat.reduceLeDiff, Nat.reduceSub, Nat.reduceMul, f0, hw1, hw2, hle]
  exact fin_ret rfl (by decide) (fz_bool rfl) (hu _)
set_option maxHeartbeats 4000000 in
theorem sp_GrsOrthogonal {H : Heap} {n : Nat} (s : Gr) (l0 : Nat) (f0 : Nat → Int) (l1 : Nat) (f1 : Nat → Int) : Spec prog fid_law18_GrsOrthogonal [s.gv, .agg [isl l0 f0, isl l1 f1]] H n (.bool true) H n := by
  refine spec_ends hmix ok_law18_GrsOrthogonal rfl fun hF => ?_
  show gw prog B_law18_GrsOrthogonal _ (tl 92 _) H n
  have hu : ∀ x y b, b < n → upd (upd H n x) (n + 1) y b = H b := fun x y b hb => by rw [upd_ne _ _ (by omega), upd_ne _ _ (by omega)]
  have hu3 : ∀ x y z b, b < n → upd (upd (upd H n x) (n + 1) y) (n + 2) z b = H b := fun x y z b hb => by rw [upd_ne _ _ (by omega), upd_ne _ _ (by omega), upd_ne _ _ (by omega)]
  have h30 : ((3 : Int) = 0) = False := by simp
  have h20 : ((2 : Int) = 0) = False := by simp
  have z0 : (0 : Int).toNat = 0 := rfl
  have z1 : (1 : Int).toNat = 1 := rfl
  have z2 : (0 : Int) ≤ 0 := Int.le_refl 0
  have z3 : (0 : Int) ≤ 1 := by decide
  have z4 : (0 : Int) < ((2 : Nat) : Int) := by decide
  have z5 : (1 : Int) < ((2 : Nat) : Int) := by decide
  simp -implicitDefEqProofs only [B_law18_GrsOrthogonal, go_sem, Nat.reduceLT, Nat.reduceBEq, Nat.reduceAdd, Nat.reduceEqDiff, Nat.reduceLeDiff, Nat.reduceSub, Nat.reduceMul]
  refine call_of sp_law18_alive ?_
  simp -implicitDefEqProofs only [go_sem, Nat.reduceLT, Nat.reduceBEq, Nat.reduceAdd, Nat.reduceEqDiff, Nat.reduceLeDiff, Nat.reduceSub, Nat.reduceMul]
  refine call_of (sp_law18_good s) ?_
  by_cases hg : s.np ≤ 24 ∧ s.ce = 0
  case neg =>
    rw [decide_eq_false hg]
    simp -implicitDefEqProofs only [go_sem, Nat.reduceLT, Nat.reduceBEq, Nat.reduceAdd, Nat.reduceEqDiff, Nat.reduceLeDiff, Nat.reduceSub, Nat.reduceMul]
    exact fin_ret rfl (by decide) (fz_bool rfl) (hu _ _)
  rw [decide_eq_true hg]
  have hs := Gr.ok hg.2
  have hKn := hs.Kn
  have hK0 := hs.K0
  have hnp := hg.1
  simp -implicitDefEqProofs only [go_sem, Nat.reduceLT, Nat.reduceBEq, Nat.reduceAdd, Nat.reduceEqDiff, Nat.reduceLeDiff, Nat.reduceSub, Nat.reduceMul, z0, z1, z2, z3, z4, z5]
  refine call_of (sp_ref18_Elements s.p s.m _ rfl l0 f0 s.K 3 (by omega)) ?_
  by_cases hA : (l0 : Int) = s.K
  case neg =>
    rw [if_neg hA]
    simp -implicitDefEqProofs only [go_sem, Nat.reduceLT, Nat.reduceBEq, Nat.reduceAdd, Nat.reduceEqDiff, Nat.reduceLeDiff, Nat.reduceSub, Nat.reduceMul, h30]
    exact fin_ret rfl (by decide) (fz_bool rfl) (hu _ _)
  by_cases hB : Ein l0 f0 s.q
  case neg =>
    rw [if_pos hA, if_neg hB]
    simp -implicitDefEqProofs only [go_sem, Nat.reduceLT, Nat.reduceBEq, Nat.reduceAdd, Nat.reduceEqDiff, Nat.reduceLeDiff, Nat.reduceSub, Nat.reduceMul, h20]
    exact fin_ret rfl (by decide) (fz_bool rfl) (hu _ _)
  have hwK := wrap64 (x := (s.np : Int) - s.K) (by omega)
  rw [if_pos hA, if_pos hB]
  simp -implicitDefEqProofs only [go_sem, Nat.reduceLT, Nat.reduceBEq, Nat.reduceAdd, Nat.reduceEqDiff, Nat.reduceLeDiff, Nat.reduceSub, Nat.reduceMul, z0, z1, z2, z3, z4, z5, hwK]
  refine call_of (sp_ref18_Elements s.p s.m _ rfl l1 f1 ((s.np : Int) - s.K) 3 (by omega)) ?_
  by_cases hC : (l1 : Int) = (s.np : Int) - s.K
  case neg =>
    rw [if_neg hC]
    simp -implicitDefEqProofs only [go_sem, Nat.reduceLT, Nat.reduceBEq, Nat.reduceAdd, Nat.reduceEqDiff, Nat.reduceLeDiff, Nat.reduceSub, Nat.reduceMul, h30]
    exact fin_ret rfl (by decide) (fz_bool rfl) (hu _ _)
  by_cases hD : Ein l1 f1 s.q
  case neg =>
    rw [if_pos hC, if_neg hD]
    simp -implicitDefEqProofs only [go_sem, Nat.reduceLT, Nat.reduceBEq, Nat.reduceAdd, Nat.reduceEqDiff, Nat.reduceLeDiff, Nat.reduceSub, Nat.reduceMul, h20]
    exact fin_ret rfl (by decide) (fz_bool rfl) (hu _ _)
  rw [if_pos hC, if_pos hD]
  rcases s.cases with ⟨k, M, h, d⟩ | hf
  case inr => exact absurd hs.f hf
  have dd : (s.dual h).Des M := d
  have hd := Gr.dual_ok h d hs
  have hec : s.ec l0 f0 = 0 := by rw [Gr.ec, if_pos hg.2, if_pos hA, if_pos hB]
  have hec1 : (s.dual h).ec l1 f1 = 0 := by rw [Gr.ec, if_pos hd.ce, if_pos (show (l1 : Int) = (s.dual h).K from hC), if_pos (show Ein l1 f1 (s.dual h).q from hD)]
  have hen : ∀ (H : Heap) (n : Nat), Spec prog fid_grs_Encode [s.gv, isl l0 f0] H n (.tup [isl s.np (s.w M l0 f0), .int .i64 0]) H n := fun H n => by
    have := sp_grs_Encode (H := H) (n := n) h s d (.sl l0 f0) (by omega)
    rwa [hec, if_pos rfl] at this
  have hen1 : ∀ (H : Heap) (n : Nat), Spec prog fid_grs_Encode [(s.dual h).gv, isl l1 f1] H n (.tup [isl s.np ((s.dual h).w M l1 f1), .int .i64 0]) H n := fun H n => by
    have := sp_grs_Encode (H := H) (n := n) h (s.dual h) dd (.sl l1 f1) (by omega)
    rwa [hec1, if_pos rfl] at this
  have hdc : (s.dual h).gv = .agg [.int .i64 s.p, .int .i64 s.m, isl s.l s.mo, .int .i64 ((s.np : Int) - s.K), isl s.np s.x, isl s.np (s.dv h)] := rfl
  have hfd : fgv s.p s.m (isl s.l s.mo) = fd M := d.fd
  have hdot : ∀ (H : Heap) (n : Nat), Spec prog fid_ref04_Dot [fgv s.p s.m (isl s.l s.mo), isl s.np (s.w M l0 f0), isl s.np ((s.dual h).w M l1 f1)] H n (.int .i64 0) H n := fun H n => by
    have h1 := sp_Dot (H := H) (n := n) h.fc (.sl s.np (s.w M l0 f0)) (.sl s.np ((s.dual h).w M l1 f1)) (by omega) (by omega)
    rw [Nat.min_self, Gr.ortho h d hs f0 f1 hA hC, cn_zero] at h1
    rw [hfd]; exact h1
  have f1' : n < n + 1 := by omega
  simp -implicitDefEqProofs only [go_sem, Nat.reduceLT, Nat.reduceBEq, Nat.reduceAdd, Nat.reduceEqDiff, Nat.reduceLeDiff, Nat.reduceSub, Nat.reduceMul]
  refine call_of (sp_grs_Dual h s d hs) ?_
  rw [hdc]
  simp -implicitDefEqProofs only [go_sem, Nat.reduceLT, Nat.reduceBEq, Nat.reduceAdd, Nat.reduceEqDiff, Nat.reduceLeDiff, Nat.reduceSub, Nat.reduceMul, z0, z1, z2, z3, z4, z5]
  refine call_of (hen _ _) ?_
  have e1 : (n + 1 = n + 2) = False := eq_false (by omega)
  have e2 : (n = n + 2) = False := eq_false (by omega)
  simp -implicitDefEqProofs only [go_sem, Nat.reduceLT, Nat.reduceBEq, Nat.reduceAdd, Nat.reduceEqDiff, Nat.reduceLeDiff, Nat.reduceSub, Nat.reduceMul, z0, z1, z2, z3, z4, z5, upd_no, e1, e2]
  refine call_of (hen1 _ _) ?_
  simp -implicitDefEqProofs only [go_sem, Nat.reduceLT, Nat.reduceBEq, Nat.reduceAdd, Nat.reduceEqDiff, Nat.reduceLeDiff, Nat.reduceSub, Nat.reduceMul, upd_no, e1, e2]
  refine call_of (hdot _ _) ?_
  simp -implicitDefEqProofs only [go_sem, Nat.reduceLT, Nat.reduceBEq, Nat.reduceAdd, Nat.reduceEqDiff, Nat.reduceLeDiff, Nat.reduceSub, Nat.reduceMul]
  exact fin_ret rfl (by decide) (fz_bool rfl) (hu3 _ _ _)
end Go.Proofs.Yteiafdhejcgjcaa.Gh
/- The statement GrsLightest, over ghost values. -/
namespace Go.Proofs.Yteiafdhejcgjcaa.Gh
open Go Go.RowKit
open Alg (CR Ps Dg Zm Mn El Cg sm pw Irr Prm)
set_option linter.unusedVariables false
set_option linter.unusedSimpArgs false

theorem vr_lit {K : Kr} {cs : List GV} {v : Value} (h : VR K (.lit cs) v) : VR K (.sl cs.length cs) v := by
  cases h with
  | lit B o _ us hS hc hv => exact .sl _ _ B o cs us (Nat.le_refl _) hS hc hv
section
variable {k : Nat} {M : Mn k}
/-- the product of X - r -/
noncomputable def rp (M : Mn k) (r : Nat → Int) : Nat → Ps (El M)
  | 0 => 1
  | i + 1 => rp M r i * Alg.lin (ein M (r i))
theorem rp_dg (r : Nat → Int) : ∀ i, Dg (rp M r i) (i + 1) := by
  intro i
  induction i with
  | zero => exact Dg.one
  | succ i ih => exact Alg.Dg.mul' ih (Alg.lin_dg _) (by omega)
theorem rp_top (r : Nat → Int) : ∀ i, (rp M r i).co i = 1 := by
  intro i
  induction i with
  | zero => rfl
  | succ i ih =>
    have h := Alg.co_mul_top (rp_dg (M := M) r i) (Alg.lin_dg (ein M (r i)))
    show (rp M r i * Alg.lin (ein M (r i))).co (i + 1) = 1
    rw [h, ih, Alg.one_mul]; rfl
theorem rp_ev (r : Nat → Int) (x : El M) : ∀ i, Alg.ev (i + 1) (rp M r i) x = Alg.pd i fun j => x - ein M (r j) := by
  intro i
  induction i with
  | zero =>
    show sm 1 (fun t => (1 : Ps (El M)).co t * pw x t) = 1
    rw [Alg.sm_succ, Alg.sm_zero, Alg.zero_add, Alg.pw_zero, Alg.mul_one]; rfl
  | succ i ih =>
    have h := Alg.ev_mul (rp_dg (M := M) r i) (Alg.lin_dg (ein M (r i))) x
    rw [Alg.lin_ev (Nat.le_refl _), ih] at h
    rw [Alg.pd_succ, ← h]
    exact (Alg.ev_ext (rp_dg (M := M) r (i + 1)) (by omega) x).symm
theorem dl_rp (r : Nat → Int) (i : Nat) : dl (rp M r i) (i + 1) = i + 1 := dl_top (by rw [rp_top]; exact el1_ne)
theorem sp_ref05_FromRoots {H : Heap} {n : Nat} (h : Fc M) {x : GV} {l : Nat} {r : Nat → Int} (hx : Rn H n x l r) (hl : l ≤ 900) :
    Spec prog fid_ref05_FromRoots [fd M, x] H n (isl (l + 1) (pe (rp M r l))) H n := by
  refine spec_ends hmix ok_ref05_FromRoots rfl fun hF => ?_
  show gw prog B_ref05_FromRoots _ (tl 25 _) H n
  have hxl := hx.len
  have hone : ((cn (1 : El M) : Nat) : Int) = 1 := by rw [cn_one]; rfl
  have sNeg : ∀ (H : Heap) (n : Nat) (y : Int), Spec prog fid_ref04_Neg [.agg [.int .i64 ((k : Int) + 2), .int .i64 (M.m : Nat), fmod M], .int .i64 y] H n (.int .i64 (cd (-ein M y))) H n := fun H n y => sp_ref04_Neg h y
  have sMul : ∀ (H : Heap) (n : Nat) (a b : GV) (la lb : Nat) (f g : Nat → Int), Rd H n a la f → Rd H n b lb g → la ≤ 1000 → lb ≤ 1000 → Spec prog fid_ref05_Mul [.agg [.int .i64 ((k : Int) + 2), .int .i64 (M.m : Nat), fmod M], a, b] H n (cr (tp M la f * tp M lb g) (la + lb)) H n := fun H n a b la lb f g ha hb h1 h2 => sp_ref05_Mul h ha hb h1 h2
  simp -implicitDefEqProofs only [B_ref05_FromRoots, fd, go_sem, Nat.reduceLT, Nat.reduceBEq, Nat.reduceAdd, Nat.reduceEqDiff, Nat.reduceLeDiff, Nat.reduceSub, Nat.reduceMul]
  repeat with_reducible refine And.intro (by omega) ?_
  refine loop_rule (fun (i : Nat) E H' n' => n' = n + 2 ∧ H' n = some [.int .i64 ((k : Int) + 2), .int .i64 (M.m : Nat), fmod M] ∧ (∀ b, b < n → H' b = H b) ∧ E 1 = x ∧ E 2 = .ptr n 0 ∧ (∃ a, E 5 = a ∧ Rd H' (n + 2) a (i + 1) (pe (rp M r i)) ∧ ∀ b m, a = .own b 0 m → n ≤ b) ∧ E 6 = .int .i64 (i : Nat) ∧ i ≤ l) (fun i => l - i) 0 ?_ ?_
  · refine ⟨rfl, by simp -implicitDefEqProofs only [go_sem, Nat.reduceLT, Nat.reduceBEq, Nat.reduceAdd, Nat.reduceEqDiff, Nat.reduceLeDiff, Nat.reduceSub, Nat.reduceMul], fun b hb => by rw [upd_ne _ _ (by omega), upd_ne _ _ (by omega)], rfl, rfl, ⟨_, rfl, .own (b := n + 1) (by omega) ?_, fun b m e => by injection e with e; omega⟩, rfl, by omega⟩
    simp -implicitDefEqProofs only [go_sem, Nat.reduceLT, Nat.reduceBEq, Nat.reduceAdd, Nat.reduceEqDiff, Nat.reduceLeDiff, Nat.reduceSub, Nat.reduceMul]
    refine congrArg some ?_
    show [GV.int .i64 1] = [GV.int .i64 ((cn ((1 : Ps (El M)).co 0) : Nat) : Int)]
    have : (1 : Ps (El M)).co 0 = 1 := rfl
    rw [this, hone]
  rintro i E H' n' ⟨rfl, h0, ho, e1, e2, ⟨a, e5, ha, han⟩, e6, hi⟩
  simp -implicitDefEqProofs only [go_sem, Nat.reduceLT, Nat.reduceBEq, Nat.reduceAdd, Nat.reduceEqDiff, Nat.reduceLeDiff, Nat.reduceSub, Nat.reduceMul, e1, e6, hxl]
  refine c_split (fun hc => ?_) (fun hc => ?_)
  · have hiN : i < l := by omega
    have hwi := wrap64 (x := (i : Int) + 1) (by omega)
    obtain ⟨pa, pa1, pa2, pa3⟩ := hx.idx i hiN
    have pa4 := fun q => pa3 q H' (n + 2) (by omega) ho
    have f0 : n < n + 2 := by omega
    simp -implicitDefEqProofs only [go_sem, Nat.reduceLT, Nat.reduceBEq, Nat.reduceAdd, Nat.reduceEqDiff, Nat.reduceLeDiff, Nat.reduceSub, Nat.reduceMul, e1, e2, e5, e6, h0, f0, pa1, pa4]
    refine mcall_of (.int _ _) (fun H1 n1 _ _ => sNeg H1 n1 _) ?_
    simp -implicitDefEqProofs only [go_sem, Nat.reduceLT, Nat.reduceBEq, Nat.reduceAdd, Nat.reduceEqDiff, Nat.reduceLeDiff, Nat.reduceSub, Nat.reduceMul]
    let lr : Nat → Int := fun j => if j = 0 then cd (-ein M (r i)) else 1
    have hlit : GV.lit [GV.int .i64 (cd (-ein M (r i))), GV.int .i64 1] = GV.lit (tab 2 (it lr)) := rfl
    have htl : tp M 2 lr = Alg.lin (ein M (r i)) := Alg.Ps.ext' fun j => by
      rcases j with _ | _ | j
      · rw [tp_co (by omega)]
        show ein M (cd (-ein M (r i))) = -ein M (r i)
        rw [cd_cn, ein_cn h]
      · rw [tp_co (by omega)]
        show ein M 1 = 1
        rw [← hone, ein_cn h]
      · rw [tp_dg 2 lr (j + 2) (by omega), Alg.lin_dg (ein M (r i)) (j + 2) (by omega)]
    have hsp : ∀ (H1 : Heap) (n1 : Nat), (∀ b, b < n + 2 → H1 b = H' b) → n + 2 ≤ n1 → Spec prog fid_ref05_Mul [.agg [.int .i64 ((k : Int) + 2), .int .i64 (M.m : Nat), fmod M], a, .lit (tab 2 (it lr))] H1 n1 (isl (i + 1 + 1) (pe (rp M r (i + 1)))) H1 n1 := fun H1 n1 k1 k2 => by
      have h1 := sMul H1 n1 a (isl 2 lr) (i + 1) 2 _ lr (ha.keep k2 k1) (.sl 2 lr) (by omega) (by omega)
      rw [tp_pe h (rp_dg r i), htl] at h1
      have h2 : cr (rp M r i * Alg.lin (ein M (r i))) (i + 1 + 2) = isl (i + 1 + 1) (pe (rp M r (i + 1))) := by
        have h3 := cr_any (rp_dg (M := M) r (i + 1)) (show i + 1 + 1 ≤ i + 1 + 2 by omega)
        have h4 : cr (rp M r (i + 1)) (i + 1 + 1) = isl (i + 1 + 1) (pe (rp M r (i + 1))) := by unfold cr; rw [dl_rp]
        exact h3.trans h4
      rw [h2] at h1
      refine spec_arg (ys := [.agg [.int .i64 ((k : Int) + 2), .int .i64 (M.m : Nat), fmod M], a, isl 2 lr]) rfl (fun K v j hj hv => ?_) h1
      rcases j with _ | _ | _ | j
      · exact hv
      · exact hv
      · exact vr_lit hv
      · simp at hj; omega
    refine call_of (hsp H' (n + 2) (fun _ _ => rfl) (Nat.le_refl _)) ?_
    simp -implicitDefEqProofs only [go_sem, Nat.reduceLT, Nat.reduceBEq, Nat.reduceAdd, Nat.reduceEqDiff, Nat.reduceLeDiff, Nat.reduceSub, Nat.reduceMul, e6, hwi]
    exact l_n ⟨i + 1, by omega, rfl, h0, ho, by simp -implicitDefEqProofs only [go_sem, Nat.reduceLT, Nat.reduceBEq, Nat.reduceAdd, Nat.reduceEqDiff, Nat.reduceLeDiff, Nat.reduceSub, Nat.reduceMul, e1], by simp -implicitDefEqProofs only [go_sem, Nat.reduceLT, Nat.reduceBEq, Nat.reduceAdd, Nat.reduceEqDiff, Nat.reduceLeDiff, Nat.reduceSub, Nat.reduceMul, e2], ⟨_, by simp -implicitDefEqProofs only [go_sem, Nat.reduceLT, Nat.reduceBEq, Nat.reduceAdd, Nat.reduceEqDiff, Nat.reduceLeDiff, Nat.reduceSub, Nat.reduceMul], .sl _ _, fun b m e => by cases e⟩, by simp -implicitDefEqProofs only [go_sem, Nat.reduceLT, Nat.reduceBEq, Nat.reduceAdd, Nat.reduceEqDiff, Nat.reduceLeDiff, Nat.reduceSub, Nat.reduceMul]; rfl, by omega⟩
  · have : i = l := by omega
    subst this
    simp -implicitDefEqProofs only [go_sem, Nat.reduceLT, Nat.reduceBEq, Nat.reduceAdd, Nat.reduceEqDiff, Nat.reduceLeDiff, Nat.reduceSub, Nat.reduceMul, e5]
    refine fin_ret rfl (by decide) ?_ ho
    simp -implicitDefEqProofs only [go_sem, Nat.reduceLT, Nat.reduceBEq, Nat.reduceAdd, Nat.reduceEqDiff, Nat.reduceLeDiff, Nat.reduceSub, Nat.reduceMul]
    rcases ha with rfl | ⟨b, hb, rfl, hH⟩
    · exact (pl_isl _ _).tr
    · exact fz_own_isl hH (han b _ rfl)
/-- the codeword of the product over K - 1 of the points -/
theorem Gr.light {s : Gr} (h : Fi M) (d : s.Des M) (hs : s.Ok) {K : Nat} (hK : (K : Int) = s.K) (hK1 : 1 ≤ K) (t : Nat) (r : Nat → Int) (hr : ∀ j, j < K - 1 → r j = s.x ((j + t) % s.np)) :
    wt s.np (s.w M K (pe (rp M r (K - 1)))) + K = s.np + 1 := by
  letI : Alg.Fd (El M) := Alg.elFd h.prm h.irr
  have hKn := hs.Kn
  have hn1 := hs.n1
  have hq := Gr.Des.qo d h
  have hE : Ein K (pe (rp M r (K - 1))) s.q := fun i _ => by rw [hq]; exact pe_in _ i
  have h0 : wt K (pe (rp M r (K - 1))) ≠ 0 := by
    intro e
    have h1 := Alg.cnt_not K fun i => decide (pe (rp M r (K - 1)) i ≠ 0)
    have h2 : Alg.cnt K (fun i => decide (pe (rp M r (K - 1)) i ≠ 0)) = 0 := e
    have h3 : Alg.cnt K (fun i => !decide (pe (rp M r (K - 1)) i ≠ 0)) + 1 ≤ K := Alg.cnt_few _ (fun _ => K - 1) (fun i j h1 h2 => by omega) fun i _ => ⟨by omega, by
      have : pe (rp M r (K - 1)) (K - 1) ≠ 0 := fun e => el1_ne (M := M) (by rw [← rp_top (M := M) r (K - 1)]; exact pe_zero.1 e)
      simp [this]⟩
    omega
  have hlo := Gr.sep h d hs hK hE h0
  have hz : ∀ j, j < K - 1 → s.w M K (pe (rp M r (K - 1))) ((j + t) % s.np) = 0 := fun j hj => by
    have hlt : (j + t) % s.np < s.np := Nat.mod_lt _ (by omega)
    rw [Gr.w, s.w_in, tp_pe h.fc ((rp_dg (M := M) r (K - 1)).mono (by omega))]
    have h1 : Alg.ev K (rp M r (K - 1)) (s.X M ((j + t) % s.np)) = 0 := by
      have h2 := rp_ev (M := M) r (s.X M ((j + t) % s.np)) (K - 1)
      rw [show K - 1 + 1 = K by omega] at h2
      rw [h2]
      refine Alg.pd_has_zero hj ?_
      rw [hr j hj]; exact Alg.sub_self _
    rw [h1, Alg.mul_zero, cn_zero]; rfl
  have hup := Alg.cnt_few (n := s.np) (m := K - 1) (fun i => decide (s.w M K (pe (rp M r (K - 1))) i ≠ 0)) (fun j => (j + t) % s.np) (fun i j hij hj e => by
    have e : (i + t) % s.np = (j + t) % s.np := e
    have h1 := Nat.div_add_mod (i + t) s.np
    have h2 := Nat.div_add_mod (j + t) s.np
    rw [e] at h1
    have h4 : s.np * ((j + t) / s.np) = s.np * ((i + t) / s.np) + (j - i) := by omega
    have h5 : (j + t) / s.np ≤ (i + t) / s.np := by
      rcases Nat.lt_or_ge ((i + t) / s.np) ((j + t) / s.np) with h | h
      · have := Nat.mul_le_mul_left s.np h
        rw [Nat.mul_succ] at this
        omega
      · exact h
    have h6 := Nat.mul_le_mul_left s.np h5
    omega) fun j hj => ⟨Nat.mod_lt _ (by omega), by simp [hz j hj]⟩
  have h2 : wt s.np (s.w M K (pe (rp M r (K - 1)))) = Alg.cnt s.np fun i => decide (s.w M K (pe (rp M r (K - 1))) i ≠ 0) := rfl
  omega
end
theorem u64_nn (x : Int) : 0 ≤ IntKind.u64.wrap x ∧ IntKind.u64.wrap x < 18446744073709551616 := by
  simp [IntKind.wrap, IntKind.bits, IntKind.signed]
  omega
theorem u64_small {x : Int} (h : 0 ≤ x) (h1 : x < 18446744073709551616) : IntKind.u64.wrap x = x := by
  simp [IntKind.wrap, IntKind.bits, IntKind.signed]
  omega

set_option maxHeartbeats 4000000 in
theorem sp_GrsLightest {H : Heap} {n : Nat} (s : Gr) (turn : Int) : Spec prog fid_law18_GrsLightest [s.gv, .int .i64 turn] H n (.bool true) H n := by
  refine spec_ends hmix ok_law18_GrsLightest rfl fun hF => ?_
  show gw prog B_law18_GrsLightest _ (tl 74 _) H n
  have hu : ∀ x b, b < n → upd H n x b = H b := fun x b hb => upd_ne _ _ (by omega)
  simp -implicitDefEqProofs only [B_law18_GrsLightest, go_sem, Nat.reduceLT, Nat.reduceBEq, Nat.reduceAdd, Nat.reduceEqDiff, Nat.reduceLeDiff, Nat.reduceSub, Nat.reduceMul]
  refine call_of sp_law18_alive ?_
  simp -implicitDefEqProofs only [go_sem, Nat.reduceLT, Nat.reduceBEq, Nat.reduceAdd, Nat.reduceEqDiff, Nat.reduceLeDiff, Nat.reduceSub, Nat.reduceMul]
  refine call_of (sp_law18_good s) ?_
  by_cases hg : s.np ≤ 24 ∧ s.ce = 0
  case neg =>
    rw [decide_eq_false hg]
    simp -implicitDefEqProofs only [go_sem, Nat.reduceLT, Nat.reduceBEq, Nat.reduceAdd, Nat.reduceEqDiff, Nat.reduceLeDiff, Nat.reduceSub, Nat.reduceMul]
    exact fin_ret rfl (by decide) (fz_bool rfl) (hu _)
  rw [decide_eq_true hg]
  have hs := Gr.ok hg.2
  have hKn := hs.Kn
  have hK0 := hs.K0
  have hn1 := hs.n1
  have hnp := hg.1
  by_cases hK1 : s.K < 1
  · simp -implicitDefEqProofs only [go_sem, Nat.reduceLT, Nat.reduceBEq, Nat.reduceAdd, Nat.reduceEqDiff, Nat.reduceLeDiff, Nat.reduceSub, Nat.reduceMul, hK1]
    exact fin_ret rfl (by decide) (fz_bool rfl) (hu _)
  rcases s.cases with ⟨k, M, h, d⟩ | hf
  case inr => exact absurd hs.f hf
  have hwK := wrap64 (x := s.K - 1) (by omega)
  obtain ⟨K, hK⟩ : ∃ K : Nat, (K : Int) = s.K := ⟨s.K.toNat, by omega⟩
  have hK1' : ((K : Nat) : Int) - 1 = ((K - 1 : Nat) : Int) := by omega
  obtain ⟨t, ht, htn⟩ : ∃ t : Nat, Int.tmod (IntKind.u64.wrap turn) (s.np : Int) = (t : Int) ∧ t < s.np := by
    have h1 := u64_nn turn
    have h2 := tmod_nn (a := IntKind.u64.wrap turn) (b := (s.np : Int)) h1.1
    have h3 := Int.emod_nonneg (IntKind.u64.wrap turn) (show (s.np : Int) ≠ 0 by omega)
    have h4 := Int.emod_lt_of_pos (IntKind.u64.wrap turn) (show (0 : Int) < s.np by omega)
    exact ⟨(Int.tmod (IntKind.u64.wrap turn) (s.np : Int)).toNat, by omega, by omega⟩
  have hw1 := u64_small (x := (s.np : Int)) (by omega) (by omega)
  have hne : ((s.np : Int) = 0) = False := eq_false (by omega)
  have hw2 := wrap64 (x := (t : Int)) (by omega)
  let r : Nat → Int := fun j => s.x ((j + t) % s.np)
  rw [← hK] at hwK
  rw [hK1'] at hwK
  have hK1b : ¬ ((K : Nat) : Int) < 1 := by omega
  simp -implicitDefEqProofs only [go_sem, Nat.reduceLT, Nat.reduceBEq, Nat.reduceAdd, Nat.reduceEqDiff, Nat.reduceLeDiff, Nat.reduceSub, Nat.reduceMul, hK1b, ← hK, hK1', hwK]
  refine loop_rule (fun (i : Nat) E H' n' => ∃ gs, n + 1 ≤ n' ∧ H' n = some s.cs ∧ (∀ b, b < n → H' b = H b) ∧ Sl H' (n + 1) n' gs i (it r) ∧ E 1 = .int .i64 turn ∧ E 2 = .ptr n 0 ∧ E 5 = .int .i64 (s.np : Nat) ∧ E 6 = gs ∧ E 25 = .int .i64 ((K - 1 : Nat) : Int) ∧ E 26 = .int .i64 (i : Nat) ∧ i ≤ K - 1) (fun i => K - 1 - i) 0 ⟨.nil, by omega, by simp -implicitDefEqProofs only [go_sem, Nat.reduceLT, Nat.reduceBEq, Nat.reduceAdd, Nat.reduceEqDiff, Nat.reduceLeDiff, Nat.reduceSub, Nat.reduceMul], hu _, .nil, rfl, rfl, rfl, rfl, rfl, rfl, by omega⟩ ?_
  rintro i E H' n' ⟨gs, hn, c0, ho, sl, e1, e2, e5, e6, e25, e26, hi⟩
  simp -implicitDefEqProofs only [go_sem, Nat.reduceLT, Nat.reduceBEq, Nat.reduceAdd, Nat.reduceEqDiff, Nat.reduceLeDiff, Nat.reduceSub, Nat.reduceMul, e25, e26]
  refine c_split (fun hc => ?_) (fun hc => ?_)
  · have hiN : i < K - 1 := by omega
    have hwi := wrap64 (x := (i : Int) + 1) (by omega)
    have f0 : n < n' := by omega
    have hwa : IntKind.i64.wrap ((i : Int) + (t : Int)) = ((i + t : Nat) : Int) := (wrap64 (by omega)).trans (by omega)
    have htm : Int.tmod ((i + t : Nat) : Int) (s.np : Int) = (((i + t) % s.np : Nat) : Int) := by rw [tmod_nn (by omega)]; rfl
    have hlt : (i + t) % s.np < s.np := Nat.mod_lt _ (by omega)
    have hltI : (((i + t) % s.np : Nat) : Int) < (s.np : Int) := by omega
    have hl0 := Int.natCast_nonneg ((i + t) % s.np)
    have hk := sl.cell
    simp -implicitDefEqProofs only [go_sem, Nat.reduceLT, Nat.reduceBEq, Nat.reduceAdd, Nat.reduceEqDiff, Nat.reduceLeDiff, Nat.reduceSub, Nat.reduceMul, e1, e2, e5, e6, e26, c0, f0, hne, hw1, ht, hw2, hwa, htm, hlt, hltI, hl0, gat_tab]
    refine app_one sl rfl rfl (by omega) fun H2 a1 a2 => ?_
    simp -implicitDefEqProofs only [go_sem, Nat.reduceLT, Nat.reduceBEq, Nat.reduceAdd, Nat.reduceEqDiff, Nat.reduceLeDiff, Nat.reduceSub, Nat.reduceMul, e26, hwi]
    refine l_n ⟨i + 1, by omega, .own n' 0 (i + 1), by omega, ?_, fun b hb => ?_, .inr ⟨n', by omega, by omega, rfl, a1⟩, by simp -implicitDefEqProofs only [go_sem, Nat.reduceLT, Nat.reduceBEq, Nat.reduceAdd, Nat.reduceEqDiff, Nat.reduceLeDiff, Nat.reduceSub, Nat.reduceMul, e1], by simp -implicitDefEqProofs only [go_sem, Nat.reduceLT, Nat.reduceBEq, Nat.reduceAdd, Nat.reduceEqDiff, Nat.reduceLeDiff, Nat.reduceSub, Nat.reduceMul, e2], by simp -implicitDefEqProofs only [go_sem, Nat.reduceLT, Nat.reduceBEq, Nat.reduceAdd, Nat.reduceEqDiff, Nat.reduceLeDiff, Nat.reduceSub, Nat.reduceMul, e5], by simp -implicitDefEqProofs only [go_sem, Nat.reduceLT, Nat.reduceBEq, Nat.reduceAdd, Nat.reduceEqDiff, Nat.reduceLeDiff, Nat.reduceSub, Nat.reduceMul], by simp -implicitDefEqProofs only [go_sem, Nat.reduceLT, Nat.reduceBEq, Nat.reduceAdd, Nat.reduceEqDiff, Nat.reduceLeDiff, Nat.reduceSub, Nat.reduceMul, e25], by simp -implicitDefEqProofs only [go_sem, Nat.reduceLT, Nat.reduceBEq, Nat.reduceAdd, Nat.reduceEqDiff, Nat.reduceLeDiff, Nat.reduceSub, Nat.reduceMul]; rfl, by omega⟩
    · rw [a2 _ (by omega) fun h => by have := sl.lt h; omega, c0]
    · rw [a2 _ (by omega) fun h => by have := sl.lt h; omega, ho b hb]
  have : i = K - 1 := by omega
  subst this
  have f0 : n < n' := by omega
  have hRn : Rn H' n' gs (K - 1) r := by
    rcases sl with ⟨h1, rfl⟩ | ⟨b, h1, h2, rfl, h4⟩
    · rw [h1]; exact .nil _
    · exact .inl (.own h2 h4)
  have hfd : fgv s.p s.m (isl s.l s.mo) = fd M := d.fd
  have hK1n : K - 1 + 1 = K := by omega
  have sFR : ∀ (H1 : Heap) (n1 : Nat), (∀ b, b < n' → H1 b = H' b) → n' ≤ n1 → Spec prog fid_ref05_FromRoots [fgv s.p s.m (isl s.l s.mo), gs] H1 n1 (isl K (pe (rp M r (K - 1)))) H1 n1 := fun H1 n1 k1 k2 => by
    have h1 := sp_ref05_FromRoots (H := H1) (n := n1) h.fc (hRn.keep k2 k1) (by omega)
    rw [hfd, ← hK1n]; rw [hK1n] at h1 ⊢; exact h1
  have hq := Gr.Des.qo d h
  have hE : Ein K (pe (rp M r (K - 1))) s.q := fun i _ => by rw [hq]; exact pe_in _ i
  have hec : s.ec K (pe (rp M r (K - 1))) = 0 := by rw [Gr.ec, if_pos hg.2, if_pos hK, if_pos hE]
  have hen : ∀ (H : Heap) (n : Nat), Spec prog fid_grs_Encode [s.gv, isl K (pe (rp M r (K - 1)))] H n (.tup [isl s.np (s.w M K (pe (rp M r (K - 1)))), .int .i64 0]) H n := fun H n => by
    have := sp_grs_Encode (H := H) (n := n) h s d (.sl K (pe (rp M r (K - 1)))) (by omega)
    rwa [hec, if_pos rfl] at this
  simp -implicitDefEqProofs only [go_sem, Nat.reduceLT, Nat.reduceBEq, Nat.reduceAdd, Nat.reduceEqDiff, Nat.reduceLeDiff, Nat.reduceSub, Nat.reduceMul, e2, e6, c0, f0]
  refine mcall_of (pl_isl _ _).nr (fun H1 n1 k1 k2 => sFR H1 n1 k1 k2) ?_
  simp -implicitDefEqProofs only [go_sem, Nat.reduceLT, Nat.reduceBEq, Nat.reduceAdd, Nat.reduceEqDiff, Nat.reduceLeDiff, Nat.reduceSub, Nat.reduceMul]
  refine mcall_of (Pl.nr (.tup _ fun j hj => by
    rcases j with _ | _ | j
    · exact pl_isl _ _
    · exact .int _ _
    · simp at hj; omega)) (fun H1 n1 _ _ => hen H1 n1) ?_
  have hL := Gr.light h d hs hK (by omega) t r fun j _ => rfl
  simp -implicitDefEqProofs only [go_sem, Nat.reduceLT, Nat.reduceBEq, Nat.reduceAdd, Nat.reduceEqDiff, Nat.reduceLeDiff, Nat.reduceSub, Nat.reduceMul, e2, e5, c0, f0]
  refine mcall_of (.int _ _) (fun H1 n1 _ _ => sp_ref18_Weight s.np _ (by omega)) ?_
  have hw3 : IntKind.i64.wrap ((s.np : Int) - s.K) = (s.np : Int) - s.K := wrap64 (by omega)
  have hw4 : IntKind.i64.wrap ((s.np : Int) - s.K + 1) = ((wt s.np (s.w M K (pe (rp M r (K - 1)))) : Nat) : Int) := (wrap64 (by omega)).trans (by omega)
  simp -implicitDefEqProofs only [go_sem, Nat.reduceLT, Nat.reduceBEq, Nat.reduceAdd, Nat.reduceEqDiff, Nat.reduceLeDiff, Nat.reduceSub, Nat.reduceMul, e2, e5, c0, f0, hw3, hw4]
  exact fin_ret rfl (by decide) (fz_bool rfl) ho
end Go.Proofs.Yteiafdhejcgjcaa.Gh
