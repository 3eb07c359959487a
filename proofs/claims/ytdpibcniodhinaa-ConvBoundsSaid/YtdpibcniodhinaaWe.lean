/- A step of the machine, as the program makes it. -/
import Derived.Test.YtdpibcniodhinaaProg
import Derived.Test.YtdpibcniodhinaaWd
namespace Go.Proofs.Ytdpibcniodhinaa.Gh
open Go Go.RowKit
open Alg (CR Ps Dg Zm Mn El Cg sm pw Irr Prm)
set_option linter.unusedVariables false
set_option linter.unusedSimpArgs false

def Enc.mcl (e : Enc) (gf : GV) (q : Nat) : List GV := [gf, .sl e.r (tab e.r fun t => .sl (e.w t) (tab (e.w t) (e.rowf t))), .int .i64 (e.r : Nat), .int .i64 (e.w 0 : Nat), isl e.r (fun t => (e.deg t : Nat)), .int .i64 (e.mem e.r : Nat), .int .i64 (q : Nat), .int .i64 (q ^ e.ds e.r : Nat), isl e.r fun t => (q ^ e.ds t : Nat)]
theorem Enc.mch_eq (e : Enc) (gf : GV) (q : Nat) : e.mch gf q = .pp (e.mcl gf q) 0 := rfl
section
variable {k : Nat} {M : Mn k}
theorem Enc.pow_le {e : Enc} (h : Fi M) (d : e.Des M) (hce : e.ce = 0) : ∀ x, x ≤ e.ds e.r → qn M ^ x ≤ 65536 := by
  have h1 := (Enc.ok hce).2.2.2.2
  rw [d.qo h, ← Int.natCast_pow] at h1
  have h2 := e.tot_ds e.r
  have h3 := qn_two M
  intro x hx
  exact Nat.le_trans (Nat.pow_le_pow_right (by omega) (show x ≤ e.tot e.r by omega)) (by omega)
set_option maxHeartbeats 4000000 in
theorem sp_step' {H : Heap} {n : Nat} (e : Enc) (hB : e.Bnd) (h : Fi M) (hd : e.Des M) (hce : e.ce = 0) (st : Int) (inp : Nat → Int) (hs0 : 0 ≤ st) (hs1 : st ≤ 65536) (hin : ∀ i, i < e.r → 0 ≤ inp i ∧ inp i < (qn M : Nat)) {a : GV} (ha : Rd H n a e.r inp) :
    Spec prog fid_conv_machine_step [e.mch h.gf (qn M), .int .i64 st, a] H n (.tup [.int .i64 (e.nx (qn M : Nat) st inp e.r 0), isl (e.w 0) fun j => (cn (e.so M st inp e.r 0 j) : Nat)]) H n := by
  refine spec_ends hmix ok_conv_machine_step rfl fun hF => ?_
  show gw prog B_conv_machine_step _ (tl 128 _) H n
  have hq2 := qn_two M
  have hq := h.fc.qn
  have hr := hB.r
  have hpw := Enc.pow_le h hd hce
  have hok := Enc.ok hce
  have hr0 : 0 < e.r := by have := hok.2.1.1; omega
  have hw0 := hB.w 0 hr0
  have hq2I : (2 : Int) ≤ ((qn M : Nat) : Int) := by omega
  have hqne : (((qn M : Nat) : Int) = 0) = False := eq_false (by omega)
  have hP : ∀ x, ((qn M ^ x : Nat) : Int) = ((qn M : Nat) : Int) ^ x := fun x => Int.natCast_pow ..
  have hdiv : ∀ x, 0 ≤ st / ((qn M : Nat) : Int) ^ x ∧ st / ((qn M : Nat) : Int) ^ x ≤ 65536 := fun x => by
    have h0 : 0 < ((qn M : Nat) : Int) ^ x := Int.pow_pos (by omega)
    exact ⟨Int.ediv_nonneg (by omega) (by omega), Int.le_trans (Int.ediv_le_self _ (by omega)) (by omega)⟩
  have hpw : ∀ x, x ≤ e.ds e.r → ((qn M ^ x : Nat) : Int) ≤ 65536 := fun x hx => by have := hpw x hx; omega
  have hal := ha.len
  rw [e.mch_eq]
  simp -implicitDefEqProofs only [B_conv_machine_step, Enc.mcl, go_sem, Nat.reduceLT, Nat.reduceBEq, Nat.reduceAdd, Nat.reduceEqDiff, Nat.reduceLeDiff, Nat.reduceSub, Nat.reduceMul, hal]
  repeat with_reducible refine And.intro (by omega) ?_
  refine loop_rule (fun (i : Nat) E H' n' => n' = n + 1 ∧ H' n = some (tab (e.w 0) (it fun j => (cn (e.so M st inp i 0 j) : Nat))) ∧ (∀ b, b < n → H' b = H b) ∧ E 0 = .pp (e.mcl h.gf (qn M)) 0 ∧ E 1 = .int .i64 st ∧ E 8 = .int .i64 (e.nx (qn M : Nat) st inp i 0) ∧ E 9 = .own n 0 (e.w 0) ∧ E 21 = a ∧ E 22 = .int .i64 (e.r : Nat) ∧ E 23 = .int .i64 (i : Nat) ∧ i ≤ e.r) (fun i => e.r - i) 0 ?_ ?_
  · refine ⟨rfl, ?_, fun b hb => upd_ne _ _ (by omega), rfl, rfl, rfl, rfl, rfl, rfl, rfl, by omega⟩
    simp -implicitDefEqProofs only [go_sem, Nat.reduceLT, Nat.reduceBEq, Nat.reduceAdd, Nat.reduceEqDiff, Nat.reduceLeDiff, Nat.reduceSub, Nat.reduceMul, tab_rep]
    refine congrArg some (tab_congr fun j hj => congrArg (GV.int .i64) ?_)
    show (0 : Int) = ((cn (e.so M st inp 0 0 j) : Nat) : Int)
    rw [e.so_zero, cn_zero]; rfl
  rintro i E H' n' ⟨rfl, hrow, ho, e0, e1, e8, e9, e21, e22, e23, hi⟩
  simp -implicitDefEqProofs only [go_sem, Nat.reduceLT, Nat.reduceBEq, Nat.reduceAdd, Nat.reduceEqDiff, Nat.reduceLeDiff, Nat.reduceSub, Nat.reduceMul, e22, e23]
  refine c_split (fun hc => ?_) (fun hc => ?_)
  · have hiN : i < e.r := by omega
    have hiI : ((i : Nat) : Int) < ((e.r : Nat) : Int) := hc
    have hwi := wrap64 (x := (i : Int) + 1) (by omega)
    have hdsm : e.ds (i + 1) ≤ e.ds e.r := sumn_mono (by omega)
    have hdsS : e.ds (i + 1) = e.ds i + e.deg i := rfl
    have hdeg := e.deg_le hB hiN
    have hwN : e.w i = e.w 0 := hok.2.1.2.2.2 i hiN
    have hv0 := hdiv (e.ds i)
    have hp0 := hpw (e.ds i) (by omega)
    have hpp : 0 < qn M ^ e.ds i := Nat.pow_pos (by omega)
    have hpne : (((qn M ^ e.ds i : Nat) : Int) = 0) = False := eq_false (by omega)
    have w0 : IntKind.i64.wrap (st.tdiv ((qn M ^ e.ds i : Nat) : Int)) = st / ((qn M : Nat) : Int) ^ (e.ds i + 0) := by
      rw [tdiv_nn (by omega), hP]; exact wrap64 (by rw [Nat.add_zero] at *; omega)
    obtain ⟨pa, pa1, pa2, pa3⟩ := ha.idx i hiN
    have pa4 := fun q => pa2 q H' H' (n + 1) ho
    simp -implicitDefEqProofs only [go_sem, Nat.reduceLT, Nat.reduceBEq, Nat.reduceAdd, Nat.reduceEqDiff, Nat.reduceLeDiff, Nat.reduceSub, Nat.reduceMul, Enc.mcl, e0, e1, e21, e23, hiI, hiN, gat_tab, hpne, w0, pa1, pa4]
    clear pa4
    refine loop_rule (fun (d : Nat) E H' n' => n' = n + 1 ∧ H' n = some (tab (e.w 0) (it fun j => (cn (e.so M st inp i d j) : Nat))) ∧ (∀ b, b < n → H' b = H b) ∧ E 0 = .pp (e.mcl h.gf (qn M)) 0 ∧ E 1 = .int .i64 st ∧ E 8 = .int .i64 (e.nx (qn M : Nat) st inp i (min d (e.deg i))) ∧ E 9 = .own n 0 (e.w 0) ∧ E 10 = .int .i64 (i : Nat) ∧ E 14 = .int .i64 (d : Nat) ∧ E 21 = a ∧ E 22 = .int .i64 (e.r : Nat) ∧ E 23 = .int .i64 (i : Nat) ∧ (d ≤ e.deg i → E 11 = .int .i64 (e.X (qn M : Nat) st inp i d) ∧ E 12 = .int .i64 (((qn M : Nat) : Int) ^ (e.ds i + d)) ∧ E 13 = .int .i64 (st / ((qn M : Nat) : Int) ^ (e.ds i + d))) ∧ d ≤ e.deg i + 1) (fun d => e.deg i + 1 - d) 0 ?_ ?_
    · refine ⟨rfl, hrow, ho, by simp -implicitDefEqProofs only [go_sem, Nat.reduceLT, Nat.reduceBEq, Nat.reduceAdd, Nat.reduceEqDiff, Nat.reduceLeDiff, Nat.reduceSub, Nat.reduceMul, e0, Enc.mcl], by simp -implicitDefEqProofs only [go_sem, Nat.reduceLT, Nat.reduceBEq, Nat.reduceAdd, Nat.reduceEqDiff, Nat.reduceLeDiff, Nat.reduceSub, Nat.reduceMul, e1], ?_, by simp -implicitDefEqProofs only [go_sem, Nat.reduceLT, Nat.reduceBEq, Nat.reduceAdd, Nat.reduceEqDiff, Nat.reduceLeDiff, Nat.reduceSub, Nat.reduceMul, e9], by simp -implicitDefEqProofs only [go_sem, Nat.reduceLT, Nat.reduceBEq, Nat.reduceAdd, Nat.reduceEqDiff, Nat.reduceLeDiff, Nat.reduceSub, Nat.reduceMul], rfl, by simp -implicitDefEqProofs only [go_sem, Nat.reduceLT, Nat.reduceBEq, Nat.reduceAdd, Nat.reduceEqDiff, Nat.reduceLeDiff, Nat.reduceSub, Nat.reduceMul, e21], by simp -implicitDefEqProofs only [go_sem, Nat.reduceLT, Nat.reduceBEq, Nat.reduceAdd, Nat.reduceEqDiff, Nat.reduceLeDiff, Nat.reduceSub, Nat.reduceMul, e22], by simp -implicitDefEqProofs only [go_sem, Nat.reduceLT, Nat.reduceBEq, Nat.reduceAdd, Nat.reduceEqDiff, Nat.reduceLeDiff, Nat.reduceSub, Nat.reduceMul, e23], fun _ => ⟨?_, ?_, ?_⟩, by omega⟩
      · simp -implicitDefEqProofs only [go_sem, Nat.reduceLT, Nat.reduceBEq, Nat.reduceAdd, Nat.reduceEqDiff, Nat.reduceLeDiff, Nat.reduceSub, Nat.reduceMul, e8]
        have : min 0 (e.deg i) = 0 := by omega
        rw [this]
      · simp -implicitDefEqProofs only [go_sem, Nat.reduceLT, Nat.reduceBEq, Nat.reduceAdd, Nat.reduceEqDiff, Nat.reduceLeDiff, Nat.reduceSub, Nat.reduceMul]; rfl
      · simp -implicitDefEqProofs only [go_sem, Nat.reduceLT, Nat.reduceBEq, Nat.reduceAdd, Nat.reduceEqDiff, Nat.reduceLeDiff, Nat.reduceSub, Nat.reduceMul]; rw [hP]
      · simp -implicitDefEqProofs only [go_sem, Nat.reduceLT, Nat.reduceBEq, Nat.reduceAdd, Nat.reduceEqDiff, Nat.reduceLeDiff, Nat.reduceSub, Nat.reduceMul]
    clear hrow ho e0 e1 e8 e9 e21 e22 e23 E H'
    rintro d E H' n' ⟨rfl, hrow, ho, e0, e1, e8, e9, e10, e14, e21, e22, e23, hx, hd1⟩
    simp -implicitDefEqProofs only [go_sem, Nat.reduceLT, Nat.reduceBEq, Nat.reduceAdd, Nat.reduceEqDiff, Nat.reduceLeDiff, Nat.reduceSub, Nat.reduceMul, Enc.mcl, e0, e10, e14, hiI, hiN, gat_tab]
    refine c_split (fun hcd => ?_) (fun hcd => ?_)
    · have hdN : d ≤ e.deg i := by omega
      obtain ⟨e11, e12, e13⟩ := hx hdN
      have hwd := wrap64 (x := (d : Int) + 1) (by omega)
      have hX := e.X_in (st := st) hq2I hin hiN d
      have hXv : e.X (qn M : Nat) st inp i d = e.X (qn M : Nat) st inp i d := rfl
      generalize hXX : e.X (qn M : Nat) st inp i d = X at hX e11
      rw [hXX] at hXv
      have hXv := hXX
      by_cases hx0 : X = 0
      · have hrow : H' n = some (tab (e.w 0) (it fun j => (cn (e.so M st inp i (d + 1) j) : Nat))) := by
          rw [hrow]
          refine congrArg some (tab_congr fun j hj => congrArg (GV.int .i64) ?_)
          show ((cn (e.so M st inp i d j) : Nat) : Int) = ((cn (e.so M st inp i (d + 1) j) : Nat) : Int)
          rw [e.so_step, e.tm_zero h.fc st inp j i d (hXX.trans hx0), Alg.add_zero]
        simp -implicitDefEqProofs only [go_sem, Nat.reduceLT, Nat.reduceBEq, Nat.reduceAdd, Nat.reduceEqDiff, Nat.reduceLeDiff, Nat.reduceSub, Nat.reduceMul, e11, hx0]
        by_cases hdl : d < e.deg i
        · have hdI : ((d : Nat) : Int) < ((e.deg i : Nat) : Int) := by omega
          have hnx := e.nx_step (qn M : Nat) st inp i d
          have hmn : min (d + 1) (e.deg i) = d + 1 := by omega
          have hmn0 : min d (e.deg i) = d := by omega
          have hb0 := e.nx_lt (st := st) hq2I hin i (by omega) d (.inr hiN)
          have hb1 := e.nx_lt (st := st) hq2I hin i (by omega) (d + 1) (.inr hiN)
          have hp1 := hpw (e.ds i + d) (by omega)
          have hp2 := hpw (e.ds i + (d + 1)) (by omega)
          have hps : qn M ^ (e.ds i + (d + 1)) = qn M ^ (e.ds i + d) * qn M := Nat.pow_succ ..
          have hX1 : e.X (qn M : Nat) st inp i (d + 1) = st / ((qn M : Nat) : Int) ^ (e.ds i + d) % ((qn M : Nat) : Int) := rfl
          have hdst := dg_step (p := ((qn M : Nat) : Int)) (x := st) hq2I (e.ds i + d)
          have hv0 := hdiv (e.ds i + d)
          have hv1 := hdiv (e.ds i + (d + 1))
          rw [hP] at hp1 hp2
          have hm0 : 0 ≤ X * ((qn M : Nat) : Int) ^ (e.ds i + d) := Int.mul_nonneg hX.1 (by omega)
          have hm1 : X * ((qn M : Nat) : Int) ^ (e.ds i + d) ≤ 256 * 65536 := Int.mul_le_mul (by omega) (by omega) (by omega) (by omega)
          have w1 := wrap64 (x := X * ((qn M : Nat) : Int) ^ (e.ds i + d)) (by omega)
          have w2 : IntKind.i64.wrap (e.nx (qn M : Nat) st inp i d + X * ((qn M : Nat) : Int) ^ (e.ds i + d)) = e.nx (qn M : Nat) st inp i (d + 1) := by rw [hnx, hXv]; exact wrap64 (by omega)
          have w3 : IntKind.i64.wrap (((qn M : Nat) : Int) ^ (e.ds i + d) * ((qn M : Nat) : Int)) = ((qn M : Nat) : Int) ^ (e.ds i + (d + 1)) := by
            have : ((qn M : Nat) : Int) ^ (e.ds i + (d + 1)) = ((qn M : Nat) : Int) ^ (e.ds i + d) * ((qn M : Nat) : Int) := Int.pow_succ _ _
            rw [← this]; exact wrap64 (by omega)
          have t1 := tmod_nn (a := st / ((qn M : Nat) : Int) ^ (e.ds i + d)) (b := ((qn M : Nat) : Int)) (by omega)
          have w4 : IntKind.i64.wrap ((st / ((qn M : Nat) : Int) ^ (e.ds i + d)).tdiv ((qn M : Nat) : Int)) = st / ((qn M : Nat) : Int) ^ (e.ds i + (d + 1)) := by
            rw [tdiv_nn (by omega), hdst]; exact wrap64 (x := st / ((qn M : Nat) : Int) ^ (e.ds i + (d + 1))) (by omega)
          simp -implicitDefEqProofs only [go_sem, Nat.reduceLT, Nat.reduceBEq, Nat.reduceAdd, Nat.reduceEqDiff, Nat.reduceLeDiff, Nat.reduceSub, Nat.reduceMul, Enc.mcl, e0, e8, e10, e11, e12, e13, e14, hiI, hiN, gat_tab, hdI, hmn0, hqne, w1, w2, w3, w4, t1, hwd]
          exact l_n ⟨d + 1, by omega, rfl, hrow, ho, by simp -implicitDefEqProofs only [go_sem, Nat.reduceLT, Nat.reduceBEq, Nat.reduceAdd, Nat.reduceEqDiff, Nat.reduceLeDiff, Nat.reduceSub, Nat.reduceMul, e0, Enc.mcl], by simp -implicitDefEqProofs only [go_sem, Nat.reduceLT, Nat.reduceBEq, Nat.reduceAdd, Nat.reduceEqDiff, Nat.reduceLeDiff, Nat.reduceSub, Nat.reduceMul, e1], by simp -implicitDefEqProofs only [go_sem, Nat.reduceLT, Nat.reduceBEq, Nat.reduceAdd, Nat.reduceEqDiff, Nat.reduceLeDiff, Nat.reduceSub, Nat.reduceMul, hmn], by simp -implicitDefEqProofs only [go_sem, Nat.reduceLT, Nat.reduceBEq, Nat.reduceAdd, Nat.reduceEqDiff, Nat.reduceLeDiff, Nat.reduceSub, Nat.reduceMul, e9], by simp -implicitDefEqProofs only [go_sem, Nat.reduceLT, Nat.reduceBEq, Nat.reduceAdd, Nat.reduceEqDiff, Nat.reduceLeDiff, Nat.reduceSub, Nat.reduceMul, e10], by simp -implicitDefEqProofs only [go_sem, Nat.reduceLT, Nat.reduceBEq, Nat.reduceAdd, Nat.reduceEqDiff, Nat.reduceLeDiff, Nat.reduceSub, Nat.reduceMul]; rfl, by simp -implicitDefEqProofs only [go_sem, Nat.reduceLT, Nat.reduceBEq, Nat.reduceAdd, Nat.reduceEqDiff, Nat.reduceLeDiff, Nat.reduceSub, Nat.reduceMul, e21], by simp -implicitDefEqProofs only [go_sem, Nat.reduceLT, Nat.reduceBEq, Nat.reduceAdd, Nat.reduceEqDiff, Nat.reduceLeDiff, Nat.reduceSub, Nat.reduceMul, e22], by simp -implicitDefEqProofs only [go_sem, Nat.reduceLT, Nat.reduceBEq, Nat.reduceAdd, Nat.reduceEqDiff, Nat.reduceLeDiff, Nat.reduceSub, Nat.reduceMul, e23], fun _ => ⟨by simp -implicitDefEqProofs only [go_sem, Nat.reduceLT, Nat.reduceBEq, Nat.reduceAdd, Nat.reduceEqDiff, Nat.reduceLeDiff, Nat.reduceSub, Nat.reduceMul]; rfl, by simp -implicitDefEqProofs only [go_sem, Nat.reduceLT, Nat.reduceBEq, Nat.reduceAdd, Nat.reduceEqDiff, Nat.reduceLeDiff, Nat.reduceSub, Nat.reduceMul], by simp -implicitDefEqProofs only [go_sem, Nat.reduceLT, Nat.reduceBEq, Nat.reduceAdd, Nat.reduceEqDiff, Nat.reduceLeDiff, Nat.reduceSub, Nat.reduceMul]⟩, by omega⟩
        · have hdI : ¬ ((d : Nat) : Int) < ((e.deg i : Nat) : Int) := by omega
          have hmn : min (d + 1) (e.deg i) = min d (e.deg i) := by omega
          simp -implicitDefEqProofs only [go_sem, Nat.reduceLT, Nat.reduceBEq, Nat.reduceAdd, Nat.reduceEqDiff, Nat.reduceLeDiff, Nat.reduceSub, Nat.reduceMul, Enc.mcl, e0, e10, e14, hiI, hiN, gat_tab, hdI, hwd]
          exact l_n ⟨d + 1, by omega, rfl, hrow, ho, by simp -implicitDefEqProofs only [go_sem, Nat.reduceLT, Nat.reduceBEq, Nat.reduceAdd, Nat.reduceEqDiff, Nat.reduceLeDiff, Nat.reduceSub, Nat.reduceMul, e0, Enc.mcl], by simp -implicitDefEqProofs only [go_sem, Nat.reduceLT, Nat.reduceBEq, Nat.reduceAdd, Nat.reduceEqDiff, Nat.reduceLeDiff, Nat.reduceSub, Nat.reduceMul, e1], by simp -implicitDefEqProofs only [go_sem, Nat.reduceLT, Nat.reduceBEq, Nat.reduceAdd, Nat.reduceEqDiff, Nat.reduceLeDiff, Nat.reduceSub, Nat.reduceMul, e8, hmn], by simp -implicitDefEqProofs only [go_sem, Nat.reduceLT, Nat.reduceBEq, Nat.reduceAdd, Nat.reduceEqDiff, Nat.reduceLeDiff, Nat.reduceSub, Nat.reduceMul, e9], by simp -implicitDefEqProofs only [go_sem, Nat.reduceLT, Nat.reduceBEq, Nat.reduceAdd, Nat.reduceEqDiff, Nat.reduceLeDiff, Nat.reduceSub, Nat.reduceMul, e10], by simp -implicitDefEqProofs only [go_sem, Nat.reduceLT, Nat.reduceBEq, Nat.reduceAdd, Nat.reduceEqDiff, Nat.reduceLeDiff, Nat.reduceSub, Nat.reduceMul]; rfl, by simp -implicitDefEqProofs only [go_sem, Nat.reduceLT, Nat.reduceBEq, Nat.reduceAdd, Nat.reduceEqDiff, Nat.reduceLeDiff, Nat.reduceSub, Nat.reduceMul, e21], by simp -implicitDefEqProofs only [go_sem, Nat.reduceLT, Nat.reduceBEq, Nat.reduceAdd, Nat.reduceEqDiff, Nat.reduceLeDiff, Nat.reduceSub, Nat.reduceMul, e22], by simp -implicitDefEqProofs only [go_sem, Nat.reduceLT, Nat.reduceBEq, Nat.reduceAdd, Nat.reduceEqDiff, Nat.reduceLeDiff, Nat.reduceSub, Nat.reduceMul, e23], fun h => by omega, by omega⟩
      · simp -implicitDefEqProofs only [go_sem, Nat.reduceLT, Nat.reduceBEq, Nat.reduceAdd, Nat.reduceEqDiff, Nat.reduceLeDiff, Nat.reduceSub, Nat.reduceMul, e9, e11, hx0]
        refine loop_rule (fun (j : Nat) E H' n' => n' = n + 1 ∧ H' n = some (tab (e.w 0) (it (mix (fun j => (cn (e.so M st inp i (d + 1) j) : Nat)) (fun j => (cn (e.so M st inp i d j) : Nat)) j))) ∧ (∀ b, b < n → H' b = H b) ∧ E 0 = .pp (e.mcl h.gf (qn M)) 0 ∧ E 1 = .int .i64 st ∧ E 8 = .int .i64 (e.nx (qn M : Nat) st inp i (min d (e.deg i))) ∧ E 9 = .own n 0 (e.w 0) ∧ E 10 = .int .i64 (i : Nat) ∧ E 11 = .int .i64 X ∧ E 12 = .int .i64 (((qn M : Nat) : Int) ^ (e.ds i + d)) ∧ E 13 = .int .i64 (st / ((qn M : Nat) : Int) ^ (e.ds i + d)) ∧ E 14 = .int .i64 (d : Nat) ∧ E 21 = a ∧ E 22 = .int .i64 (e.r : Nat) ∧ E 23 = .int .i64 (i : Nat) ∧ E 58 = .int .i64 (e.w 0 : Nat) ∧ E 59 = .int .i64 (j : Nat) ∧ j ≤ e.w 0) (fun j => e.w 0 - j) 0 ?_ ?_
        · exact ⟨rfl, by rw [mix_zero]; exact hrow, ho, by simp -implicitDefEqProofs only [go_sem, Nat.reduceLT, Nat.reduceBEq, Nat.reduceAdd, Nat.reduceEqDiff, Nat.reduceLeDiff, Nat.reduceSub, Nat.reduceMul, e0, Enc.mcl], by simp -implicitDefEqProofs only [go_sem, Nat.reduceLT, Nat.reduceBEq, Nat.reduceAdd, Nat.reduceEqDiff, Nat.reduceLeDiff, Nat.reduceSub, Nat.reduceMul, e1], by simp -implicitDefEqProofs only [go_sem, Nat.reduceLT, Nat.reduceBEq, Nat.reduceAdd, Nat.reduceEqDiff, Nat.reduceLeDiff, Nat.reduceSub, Nat.reduceMul, e8], by simp -implicitDefEqProofs only [go_sem, Nat.reduceLT, Nat.reduceBEq, Nat.reduceAdd, Nat.reduceEqDiff, Nat.reduceLeDiff, Nat.reduceSub, Nat.reduceMul, e9], by simp -implicitDefEqProofs only [go_sem, Nat.reduceLT, Nat.reduceBEq, Nat.reduceAdd, Nat.reduceEqDiff, Nat.reduceLeDiff, Nat.reduceSub, Nat.reduceMul, e10], by simp -implicitDefEqProofs only [go_sem, Nat.reduceLT, Nat.reduceBEq, Nat.reduceAdd, Nat.reduceEqDiff, Nat.reduceLeDiff, Nat.reduceSub, Nat.reduceMul, e11], by simp -implicitDefEqProofs only [go_sem, Nat.reduceLT, Nat.reduceBEq, Nat.reduceAdd, Nat.reduceEqDiff, Nat.reduceLeDiff, Nat.reduceSub, Nat.reduceMul, e12], by simp -implicitDefEqProofs only [go_sem, Nat.reduceLT, Nat.reduceBEq, Nat.reduceAdd, Nat.reduceEqDiff, Nat.reduceLeDiff, Nat.reduceSub, Nat.reduceMul, e13], by simp -implicitDefEqProofs only [go_sem, Nat.reduceLT, Nat.reduceBEq, Nat.reduceAdd, Nat.reduceEqDiff, Nat.reduceLeDiff, Nat.reduceSub, Nat.reduceMul, e14], by simp -implicitDefEqProofs only [go_sem, Nat.reduceLT, Nat.reduceBEq, Nat.reduceAdd, Nat.reduceEqDiff, Nat.reduceLeDiff, Nat.reduceSub, Nat.reduceMul, e21], by simp -implicitDefEqProofs only [go_sem, Nat.reduceLT, Nat.reduceBEq, Nat.reduceAdd, Nat.reduceEqDiff, Nat.reduceLeDiff, Nat.reduceSub, Nat.reduceMul, e22], by simp -implicitDefEqProofs only [go_sem, Nat.reduceLT, Nat.reduceBEq, Nat.reduceAdd, Nat.reduceEqDiff, Nat.reduceLeDiff, Nat.reduceSub, Nat.reduceMul, e23], by simp -implicitDefEqProofs only [go_sem, Nat.reduceLT, Nat.reduceBEq, Nat.reduceAdd, Nat.reduceEqDiff, Nat.reduceLeDiff, Nat.reduceSub, Nat.reduceMul], rfl, by omega⟩
        clear hrow ho e0 e1 e8 e9 e10 e11 e12 e13 e14 e21 e22 e23 hx E H'
        rintro j E H' n' ⟨rfl, hrow, ho, e0, e1, e8, e9, e10, e11, e12, e13, e14, e21, e22, e23, e58, e59, hj⟩
        simp -implicitDefEqProofs only [go_sem, Nat.reduceLT, Nat.reduceBEq, Nat.reduceAdd, Nat.reduceEqDiff, Nat.reduceLeDiff, Nat.reduceSub, Nat.reduceMul, e58, e59]
        refine c_split (fun hcj => ?_) (fun hcj => ?_)
        · have hjN : j < e.w 0 := by omega
          have hjI : ((j : Nat) : Int) < ((e.w 0 : Nat) : Int) := hcj
          have hwj := wrap64 (x := (j : Int) + 1) (by omega)
          have hn := hB.n i j hiN (by omega)
          simp -implicitDefEqProofs only [go_sem, Nat.reduceLT, Nat.reduceBEq, Nat.reduceAdd, Nat.reduceEqDiff, Nat.reduceLeDiff, Nat.reduceSub, Nat.reduceMul, Enc.mcl, e0, e9, e10, e11, e14, e59, hrow, hjN, hjI, hiN, hiI, gat_tab, hwN, e.rowf_at, mix_at]
          refine mcall_of (.int _ _) (fun H1 n1 _ _ => sp_coefficient e i j d (by omega)) ?_
          simp -implicitDefEqProofs only [go_sem, Nat.reduceLT, Nat.reduceBEq, Nat.reduceAdd, Nat.reduceEqDiff, Nat.reduceLeDiff, Nat.reduceSub, Nat.reduceMul]
          refine mcall_of (.int _ _) (fun H1 n1 _ _ => sp_GF_Mul h.fc h.g h.gg X (e.co i j d)) ?_
          simp -implicitDefEqProofs only [go_sem, Nat.reduceLT, Nat.reduceBEq, Nat.reduceAdd, Nat.reduceEqDiff, Nat.reduceLeDiff, Nat.reduceSub, Nat.reduceMul]
          refine mcall_of (.int _ _) (fun H1 n1 _ _ => sp_GF_Add h.fc h.g _ _) ?_
          have hval : ein M ((cn (e.so M st inp i d j) : Nat) : Int) + ein M ((cn (ein M X * ein M (e.co i j d)) : Nat) : Int) = e.so M st inp i (d + 1) j := by
            rw [ein_cn h.fc, ein_cn h.fc, e.so_step, Enc.tm, hXX]
          rw [hval]
          have hst := mix_step (fun j => ((cn (e.so M st inp i (d + 1) j) : Nat) : Int)) (fun j => ((cn (e.so M st inp i d j) : Nat) : Int)) j
          simp -implicitDefEqProofs only [go_sem, Nat.reduceLT, Nat.reduceBEq, Nat.reduceAdd, Nat.reduceEqDiff, Nat.reduceLeDiff, Nat.reduceSub, Nat.reduceMul, e59, hrow, hjN, hjI, hwj, hst]
          repeat with_reducible refine And.intro (by omega) ?_
          exact l_n ⟨j + 1, by omega, rfl, by simp -implicitDefEqProofs only [go_sem, Nat.reduceLT, Nat.reduceBEq, Nat.reduceAdd, Nat.reduceEqDiff, Nat.reduceLeDiff, Nat.reduceSub, Nat.reduceMul], fun b hb => by rw [upd_ne _ _ (by omega)]; exact ho b hb, by simp -implicitDefEqProofs only [go_sem, Nat.reduceLT, Nat.reduceBEq, Nat.reduceAdd, Nat.reduceEqDiff, Nat.reduceLeDiff, Nat.reduceSub, Nat.reduceMul, e0, Enc.mcl], by simp -implicitDefEqProofs only [go_sem, Nat.reduceLT, Nat.reduceBEq, Nat.reduceAdd, Nat.reduceEqDiff, Nat.reduceLeDiff, Nat.reduceSub, Nat.reduceMul, e1], by simp -implicitDefEqProofs only [go_sem, Nat.reduceLT, Nat.reduceBEq, Nat.reduceAdd, Nat.reduceEqDiff, Nat.reduceLeDiff, Nat.reduceSub, Nat.reduceMul, e8], by simp -implicitDefEqProofs only [go_sem, Nat.reduceLT, Nat.reduceBEq, Nat.reduceAdd, Nat.reduceEqDiff, Nat.reduceLeDiff, Nat.reduceSub, Nat.reduceMul, e9], by simp -implicitDefEqProofs only [go_sem, Nat.reduceLT, Nat.reduceBEq, Nat.reduceAdd, Nat.reduceEqDiff, Nat.reduceLeDiff, Nat.reduceSub, Nat.reduceMul, e10], by simp -implicitDefEqProofs only [go_sem, Nat.reduceLT, Nat.reduceBEq, Nat.reduceAdd, Nat.reduceEqDiff, Nat.reduceLeDiff, Nat.reduceSub, Nat.reduceMul, e11], by simp -implicitDefEqProofs only [go_sem, Nat.reduceLT, Nat.reduceBEq, Nat.reduceAdd, Nat.reduceEqDiff, Nat.reduceLeDiff, Nat.reduceSub, Nat.reduceMul, e12], by simp -implicitDefEqProofs only [go_sem, Nat.reduceLT, Nat.reduceBEq, Nat.reduceAdd, Nat.reduceEqDiff, Nat.reduceLeDiff, Nat.reduceSub, Nat.reduceMul, e13], by simp -implicitDefEqProofs only [go_sem, Nat.reduceLT, Nat.reduceBEq, Nat.reduceAdd, Nat.reduceEqDiff, Nat.reduceLeDiff, Nat.reduceSub, Nat.reduceMul, e14], by simp -implicitDefEqProofs only [go_sem, Nat.reduceLT, Nat.reduceBEq, Nat.reduceAdd, Nat.reduceEqDiff, Nat.reduceLeDiff, Nat.reduceSub, Nat.reduceMul, e21], by simp -implicitDefEqProofs only [go_sem, Nat.reduceLT, Nat.reduceBEq, Nat.reduceAdd, Nat.reduceEqDiff, Nat.reduceLeDiff, Nat.reduceSub, Nat.reduceMul, e22], by simp -implicitDefEqProofs only [go_sem, Nat.reduceLT, Nat.reduceBEq, Nat.reduceAdd, Nat.reduceEqDiff, Nat.reduceLeDiff, Nat.reduceSub, Nat.reduceMul, e23], by simp -implicitDefEqProofs only [go_sem, Nat.reduceLT, Nat.reduceBEq, Nat.reduceAdd, Nat.reduceEqDiff, Nat.reduceLeDiff, Nat.reduceSub, Nat.reduceMul, e58], by simp -implicitDefEqProofs only [go_sem, Nat.reduceLT, Nat.reduceBEq, Nat.reduceAdd, Nat.reduceEqDiff, Nat.reduceLeDiff, Nat.reduceSub, Nat.reduceMul]; rfl, by omega⟩
        · have hjw : j = e.w 0 := by omega
          subst hjw
          have hrow : H' n = some (tab (e.w 0) (it fun j => (cn (e.so M st inp i (d + 1) j) : Nat))) := by
            rw [hrow]
            exact congrArg some (tab_congr fun j hj => congrArg (GV.int .i64) (mix_lt _ _ hj))
          simp -implicitDefEqProofs only [go_sem, Nat.reduceLT, Nat.reduceBEq, Nat.reduceAdd, Nat.reduceEqDiff, Nat.reduceLeDiff, Nat.reduceSub, Nat.reduceMul]
          by_cases hdl : d < e.deg i
          · have hdI : ((d : Nat) : Int) < ((e.deg i : Nat) : Int) := by omega
            have hnx := e.nx_step (qn M : Nat) st inp i d
            have hmn : min (d + 1) (e.deg i) = d + 1 := by omega
            have hmn0 : min d (e.deg i) = d := by omega
            have hb0 := e.nx_lt (st := st) hq2I hin i (by omega) d (.inr hiN)
            have hb1 := e.nx_lt (st := st) hq2I hin i (by omega) (d + 1) (.inr hiN)
            have hp1 := hpw (e.ds i + d) (by omega)
            have hp2 := hpw (e.ds i + (d + 1)) (by omega)
            have hps : qn M ^ (e.ds i + (d + 1)) = qn M ^ (e.ds i + d) * qn M := Nat.pow_succ ..
            have hX1 : e.X (qn M : Nat) st inp i (d + 1) = st / ((qn M : Nat) : Int) ^ (e.ds i + d) % ((qn M : Nat) : Int) := rfl
            have hdst := dg_step (p := ((qn M : Nat) : Int)) (x := st) hq2I (e.ds i + d)
            have hv0 := hdiv (e.ds i + d)
            have hv1 := hdiv (e.ds i + (d + 1))
            rw [hP] at hp1 hp2
            have hm0 : 0 ≤ X * ((qn M : Nat) : Int) ^ (e.ds i + d) := Int.mul_nonneg hX.1 (by omega)
            have hm1 : X * ((qn M : Nat) : Int) ^ (e.ds i + d) ≤ 256 * 65536 := Int.mul_le_mul (by omega) (by omega) (by omega) (by omega)
            have w1 := wrap64 (x := X * ((qn M : Nat) : Int) ^ (e.ds i + d)) (by omega)
            have w2 : IntKind.i64.wrap (e.nx (qn M : Nat) st inp i d + X * ((qn M : Nat) : Int) ^ (e.ds i + d)) = e.nx (qn M : Nat) st inp i (d + 1) := by rw [hnx, hXv]; exact wrap64 (by omega)
            have w3 : IntKind.i64.wrap (((qn M : Nat) : Int) ^ (e.ds i + d) * ((qn M : Nat) : Int)) = ((qn M : Nat) : Int) ^ (e.ds i + (d + 1)) := by
              have : ((qn M : Nat) : Int) ^ (e.ds i + (d + 1)) = ((qn M : Nat) : Int) ^ (e.ds i + d) * ((qn M : Nat) : Int) := Int.pow_succ _ _
              rw [← this]; exact wrap64 (by omega)
            have t1 := tmod_nn (a := st / ((qn M : Nat) : Int) ^ (e.ds i + d)) (b := ((qn M : Nat) : Int)) (by omega)
            have w4 : IntKind.i64.wrap ((st / ((qn M : Nat) : Int) ^ (e.ds i + d)).tdiv ((qn M : Nat) : Int)) = st / ((qn M : Nat) : Int) ^ (e.ds i + (d + 1)) := by
              rw [tdiv_nn (by omega), hdst]; exact wrap64 (x := st / ((qn M : Nat) : Int) ^ (e.ds i + (d + 1))) (by omega)
            simp -implicitDefEqProofs only [go_sem, Nat.reduceLT, Nat.reduceBEq, Nat.reduceAdd, Nat.reduceEqDiff, Nat.reduceLeDiff, Nat.reduceSub, Nat.reduceMul, Enc.mcl, e0, e8, e10, e11, e12, e13, e14, hiI, hiN, gat_tab, hdI, hmn0, hqne, w1, w2, w3, w4, t1, hwd]
            exact l_n ⟨d + 1, by omega, rfl, hrow, ho, by simp -implicitDefEqProofs only [go_sem, Nat.reduceLT, Nat.reduceBEq, Nat.reduceAdd, Nat.reduceEqDiff, Nat.reduceLeDiff, Nat.reduceSub, Nat.reduceMul, e0, Enc.mcl], by simp -implicitDefEqProofs only [go_sem, Nat.reduceLT, Nat.reduceBEq, Nat.reduceAdd, Nat.reduceEqDiff, Nat.reduceLeDiff, Nat.reduceSub, Nat.reduceMul, e1], by simp -implicitDefEqProofs only [go_sem, Nat.reduceLT, Nat.reduceBEq, Nat.reduceAdd, Nat.reduceEqDiff, Nat.reduceLeDiff, Nat.reduceSub, Nat.reduceMul, hmn], by simp -implicitDefEqProofs only [go_sem, Nat.reduceLT, Nat.reduceBEq, Nat.reduceAdd, Nat.reduceEqDiff, Nat.reduceLeDiff, Nat.reduceSub, Nat.reduceMul, e9], by simp -implicitDefEqProofs only [go_sem, Nat.reduceLT, Nat.reduceBEq, Nat.reduceAdd, Nat.reduceEqDiff, Nat.reduceLeDiff, Nat.reduceSub, Nat.reduceMul, e10], by simp -implicitDefEqProofs only [go_sem, Nat.reduceLT, Nat.reduceBEq, Nat.reduceAdd, Nat.reduceEqDiff, Nat.reduceLeDiff, Nat.reduceSub, Nat.reduceMul]; rfl, by simp -implicitDefEqProofs only [go_sem, Nat.reduceLT, Nat.reduceBEq, Nat.reduceAdd, Nat.reduceEqDiff, Nat.reduceLeDiff, Nat.reduceSub, Nat.reduceMul, e21], by simp -implicitDefEqProofs only [go_sem, Nat.reduceLT, Nat.reduceBEq, Nat.reduceAdd, Nat.reduceEqDiff, Nat.reduceLeDiff, Nat.reduceSub, Nat.reduceMul, e22], by simp -implicitDefEqProofs only [go_sem, Nat.reduceLT, Nat.reduceBEq, Nat.reduceAdd, Nat.reduceEqDiff, Nat.reduceLeDiff, Nat.reduceSub, Nat.reduceMul, e23], fun _ => ⟨by simp -implicitDefEqProofs only [go_sem, Nat.reduceLT, Nat.reduceBEq, Nat.reduceAdd, Nat.reduceEqDiff, Nat.reduceLeDiff, Nat.reduceSub, Nat.reduceMul]; rfl, by simp -implicitDefEqProofs only [go_sem, Nat.reduceLT, Nat.reduceBEq, Nat.reduceAdd, Nat.reduceEqDiff, Nat.reduceLeDiff, Nat.reduceSub, Nat.reduceMul], by simp -implicitDefEqProofs only [go_sem, Nat.reduceLT, Nat.reduceBEq, Nat.reduceAdd, Nat.reduceEqDiff, Nat.reduceLeDiff, Nat.reduceSub, Nat.reduceMul]⟩, by omega⟩
          · have hdI : ¬ ((d : Nat) : Int) < ((e.deg i : Nat) : Int) := by omega
            have hmn : min (d + 1) (e.deg i) = min d (e.deg i) := by omega
            simp -implicitDefEqProofs only [go_sem, Nat.reduceLT, Nat.reduceBEq, Nat.reduceAdd, Nat.reduceEqDiff, Nat.reduceLeDiff, Nat.reduceSub, Nat.reduceMul, Enc.mcl, e0, e10, e14, hiI, hiN, gat_tab, hdI, hwd]
            exact l_n ⟨d + 1, by omega, rfl, hrow, ho, by simp -implicitDefEqProofs only [go_sem, Nat.reduceLT, Nat.reduceBEq, Nat.reduceAdd, Nat.reduceEqDiff, Nat.reduceLeDiff, Nat.reduceSub, Nat.reduceMul, e0, Enc.mcl], by simp -implicitDefEqProofs only [go_sem, Nat.reduceLT, Nat.reduceBEq, Nat.reduceAdd, Nat.reduceEqDiff, Nat.reduceLeDiff, Nat.reduceSub, Nat.reduceMul, e1], by simp -implicitDefEqProofs only [go_sem, Nat.reduceLT, Nat.reduceBEq, Nat.reduceAdd, Nat.reduceEqDiff, Nat.reduceLeDiff, Nat.reduceSub, Nat.reduceMul, e8, hmn], by simp -implicitDefEqProofs only [go_sem, Nat.reduceLT, Nat.reduceBEq, Nat.reduceAdd, Nat.reduceEqDiff, Nat.reduceLeDiff, Nat.reduceSub, Nat.reduceMul, e9], by simp -implicitDefEqProofs only [go_sem, Nat.reduceLT, Nat.reduceBEq, Nat.reduceAdd, Nat.reduceEqDiff, Nat.reduceLeDiff, Nat.reduceSub, Nat.reduceMul, e10], by simp -implicitDefEqProofs only [go_sem, Nat.reduceLT, Nat.reduceBEq, Nat.reduceAdd, Nat.reduceEqDiff, Nat.reduceLeDiff, Nat.reduceSub, Nat.reduceMul]; rfl, by simp -implicitDefEqProofs only [go_sem, Nat.reduceLT, Nat.reduceBEq, Nat.reduceAdd, Nat.reduceEqDiff, Nat.reduceLeDiff, Nat.reduceSub, Nat.reduceMul, e21], by simp -implicitDefEqProofs only [go_sem, Nat.reduceLT, Nat.reduceBEq, Nat.reduceAdd, Nat.reduceEqDiff, Nat.reduceLeDiff, Nat.reduceSub, Nat.reduceMul, e22], by simp -implicitDefEqProofs only [go_sem, Nat.reduceLT, Nat.reduceBEq, Nat.reduceAdd, Nat.reduceEqDiff, Nat.reduceLeDiff, Nat.reduceSub, Nat.reduceMul, e23], fun h => by omega, by omega⟩
    · have hdd : d = e.deg i + 1 := by omega
      subst hdd
      have hmn : min (e.deg i + 1) (e.deg i) = e.deg i := by omega
      rw [hmn, ← e.nx_row] at e8
      have hrow : H' n = some (tab (e.w 0) (it fun j => (cn (e.so M st inp (i + 1) 0 j) : Nat))) := by
        rw [hrow]
        exact congrArg some (tab_congr fun j hj => congrArg (GV.int .i64) (show ((cn (e.so M st inp i (e.deg i + 1) j) : Nat) : Int) = ((cn (e.so M st inp (i + 1) 0 j) : Nat) : Int) by rw [e.so_row]))
      simp -implicitDefEqProofs only [go_sem, Nat.reduceLT, Nat.reduceBEq, Nat.reduceAdd, Nat.reduceEqDiff, Nat.reduceLeDiff, Nat.reduceSub, Nat.reduceMul, e23, hwi]
      exact l_n ⟨i + 1, by omega, rfl, hrow, ho, by simp -implicitDefEqProofs only [go_sem, Nat.reduceLT, Nat.reduceBEq, Nat.reduceAdd, Nat.reduceEqDiff, Nat.reduceLeDiff, Nat.reduceSub, Nat.reduceMul, e0, Enc.mcl], by simp -implicitDefEqProofs only [go_sem, Nat.reduceLT, Nat.reduceBEq, Nat.reduceAdd, Nat.reduceEqDiff, Nat.reduceLeDiff, Nat.reduceSub, Nat.reduceMul, e1], by simp -implicitDefEqProofs only [go_sem, Nat.reduceLT, Nat.reduceBEq, Nat.reduceAdd, Nat.reduceEqDiff, Nat.reduceLeDiff, Nat.reduceSub, Nat.reduceMul, e8], by simp -implicitDefEqProofs only [go_sem, Nat.reduceLT, Nat.reduceBEq, Nat.reduceAdd, Nat.reduceEqDiff, Nat.reduceLeDiff, Nat.reduceSub, Nat.reduceMul, e9], by simp -implicitDefEqProofs only [go_sem, Nat.reduceLT, Nat.reduceBEq, Nat.reduceAdd, Nat.reduceEqDiff, Nat.reduceLeDiff, Nat.reduceSub, Nat.reduceMul, e21], by simp -implicitDefEqProofs only [go_sem, Nat.reduceLT, Nat.reduceBEq, Nat.reduceAdd, Nat.reduceEqDiff, Nat.reduceLeDiff, Nat.reduceSub, Nat.reduceMul, e22], by simp -implicitDefEqProofs only [go_sem, Nat.reduceLT, Nat.reduceBEq, Nat.reduceAdd, Nat.reduceEqDiff, Nat.reduceLeDiff, Nat.reduceSub, Nat.reduceMul]; rfl, by omega⟩
  · have : i = e.r := by omega
    subst this
    simp -implicitDefEqProofs only [go_sem, Nat.reduceLT, Nat.reduceBEq, Nat.reduceAdd, Nat.reduceEqDiff, Nat.reduceLeDiff, Nat.reduceSub, Nat.reduceMul, e8, e9]
    refine fin_ret2 rfl (by decide) (by decide) ?_ ?_ ho
    · simp -implicitDefEqProofs only [go_sem, Nat.reduceLT, Nat.reduceBEq, Nat.reduceAdd, Nat.reduceEqDiff, Nat.reduceLeDiff, Nat.reduceSub, Nat.reduceMul]; exact fz_int rfl
    · simp -implicitDefEqProofs only [go_sem, Nat.reduceLT, Nat.reduceBEq, Nat.reduceAdd, Nat.reduceEqDiff, Nat.reduceLeDiff, Nat.reduceSub, Nat.reduceMul]; exact fz_own_isl hrow (by omega)
theorem sp_step {H : Heap} {n : Nat} (e : Enc) (hB : e.Bnd) (h : Fi M) (hd : e.Des M) (hce : e.ce = 0) (st : Int) (inp : Nat → Int) (hs0 : 0 ≤ st) (hs1 : st ≤ 65536) (hin : ∀ i, i < e.r → 0 ≤ inp i ∧ inp i < (qn M : Nat)) :
    Spec prog fid_conv_machine_step [e.mch h.gf (qn M), .int .i64 st, isl e.r inp] H n (.tup [.int .i64 (e.nx (qn M : Nat) st inp e.r 0), isl (e.w 0) fun j => (cn (e.so M st inp e.r 0 j) : Nat)]) H n :=
  sp_step' e hB h hd hce st inp hs0 hs1 hin (Rd.sl _ _)
end
end Go.Proofs.Ytdpibcniodhinaa.Gh
/- The reference's step, states and inputs. -/
namespace Go.Proofs.Ytdpibcniodhinaa.Gh
open Go Go.RowKit
open Alg (CR Ps Dg Zm Mn El Cg sm pw Irr Prm)
set_option linter.unusedVariables false
set_option linter.unusedSimpArgs false

section
variable {k : Nat} {M : Mn k}
theorem Enc.dot_eq (e : Enc) (h : Fc M) (st : Int) (inp : Nat → Int) (i j : Nat) :
    sm (min (e.deg i + 1) (e.n i j)) (fun d => ein M (e.X (qn M : Nat) st inp i d) * ein M (e.c i j d)) = sm (e.deg i + 1) (e.tm M st inp j i) := by
  have h1 : sm (min (e.deg i + 1) (e.n i j)) (fun d => ein M (e.X (qn M : Nat) st inp i d) * ein M (e.c i j d)) = sm (min (e.deg i + 1) (e.n i j)) (e.tm M st inp j i) :=
    Alg.sm_congr fun d hd => by rw [tm, co, if_pos (by omega)]
  rw [h1]
  refine (Alg.sm_ext (Nat.min_le_left _ _) fun d h2 h3 => ?_).symm
  rw [tm, co, if_neg (by omega), ein_zero h, Alg.mul_zero]
theorem Enc.so_add (e : Enc) (st : Int) (inp : Nat → Int) (i j : Nat) : e.so M st inp i 0 j + sm (e.deg i + 1) (e.tm M st inp j i) = e.so M st inp (i + 1) 0 j := by
  rw [so, so, Alg.sm_zero, Alg.sm_zero, Alg.add_zero, Alg.add_zero]
  rfl
set_option maxHeartbeats 4000000 in
theorem sp_ref20_Next {H : Heap} {n : Nat} (e : Enc) (hB : e.Bnd) (h : Fi M) (hd : e.Des M) (hce : e.ce = 0) (st : Int) (inp : Nat → Int) (hs0 : 0 ≤ st) (hs1 : st ≤ 65536) (hin : ∀ i, i < e.r → 0 ≤ inp i ∧ inp i < (qn M : Nat)) :
    Spec prog fid_ref20_Next [e.gv, .int .i64 st, isl e.r inp] H n (.tup [.int .i64 (e.nx (qn M : Nat) st inp e.r 0), isl (e.w 0) fun j => (cn (e.so M st inp e.r 0 j) : Nat)]) H n := by
  refine spec_ends hmix ok_ref20_Next rfl fun hF => ?_
  show gw prog B_ref20_Next _ (tl 102 _) H n
  have hq2 := qn_two M
  have hq := h.fc.qn
  have hr := hB.r
  have hqo := hd.qo h
  have hpw := Enc.pow_le h hd hce
  have hok := Enc.ok hce
  have hr0 : 0 < e.r := by have := hok.2.1.1; omega
  have hw0 := hB.w 0 hr0
  have hq2I : (2 : Int) ≤ ((qn M : Nat) : Int) := by omega
  have hqne : (((qn M : Nat) : Int) = 0) = False := eq_false (by omega)
  have hP : ∀ x, ((qn M ^ x : Nat) : Int) = ((qn M : Nat) : Int) ^ x := fun x => Int.natCast_pow ..
  have hdiv : ∀ x, 0 ≤ st / ((qn M : Nat) : Int) ^ x ∧ st / ((qn M : Nat) : Int) ^ x ≤ 65536 := fun x => by
    have h0 : 0 < ((qn M : Nat) : Int) ^ x := Int.pow_pos (by omega)
    exact ⟨Int.ediv_nonneg (by omega) (by omega), Int.le_trans (Int.ediv_le_self _ (by omega)) (by omega)⟩
  have hpw : ∀ x, x ≤ e.ds e.r → ((qn M : Nat) : Int) ^ x ≤ 65536 := fun x hx => by have := hpw x hx; rw [← hP]; omega
  have hfd : fgv e.p e.m (isl e.l e.mo) = fd M := Des.fd hd
  have sDot : ∀ (H3 : Heap) (n3 : Nat) (a b : GV) (la lb : Nat) (f g : Nat → Int), Rd H3 n3 a la f → Rd H3 n3 b lb g → la ≤ 1000000 → lb ≤ 1000000 → Spec prog fid_ref04_Dot [fgv e.p e.m (isl e.l e.mo), a, b] H3 n3 (.int .i64 (cn (sm (min la lb) fun i => ein M (f i) * ein M (g i)) : Nat)) H3 n3 := fun H3 n3 a b la lb f g h1 h2 h3 h4 => by rw [hfd]; exact sp_Dot h.fc h1 h2 h3 h4
  have sAdd : ∀ (H3 : Heap) (n3 : Nat) (x y : Int), Spec prog fid_ref04_Add [fgv e.p e.m (isl e.l e.mo), .int .i64 x, .int .i64 y] H3 n3 (.int .i64 (cd (ein M x + ein M y))) H3 n3 := fun H3 n3 x y => by rw [hfd]; exact sp_ref04_Add h.fc x y
  have hz1 : (0 : Int) < (e.r : Int) := by omega
  have hz3 : (0 : Int).toNat = 0 := rfl
  have hz4 : (0 : Int) ≤ 0 := Int.le_refl 0
  simp -implicitDefEqProofs only [B_ref20_Next, go_sem, Nat.reduceLT, Nat.reduceBEq, Nat.reduceAdd, Nat.reduceEqDiff, Nat.reduceLeDiff, Nat.reduceSub, Nat.reduceMul]
  refine call_of (sp_ref04_Order e.p e.m _ rfl) ?_
  rw [hqo]
  simp -implicitDefEqProofs only [go_sem, Nat.reduceLT, Nat.reduceBEq, Nat.reduceAdd, Nat.reduceEqDiff, Nat.reduceLeDiff, Nat.reduceSub, Nat.reduceMul, hz1, hr0, hz3, hz4, gat_tab, e.rw_at]
  repeat with_reducible refine And.intro (by omega) ?_
  refine loop_rule (fun (i : Nat) E H' n' => n + 2 ≤ n' ∧ H' n = some e.cs ∧ H' (n + 1) = some (tab (e.w 0) (it fun j => (cn (e.so M st inp i 0 j) : Nat))) ∧ (∀ b, b < n → H' b = H b) ∧ E 1 = .int .i64 (st / ((qn M : Nat) : Int) ^ (e.ds i)) ∧ E 2 = isl e.r inp ∧ E 3 = .ptr n 0 ∧ E 8 = .int .i64 (qn M : Nat) ∧ E 9 = .int .i64 (e.nx (qn M : Nat) st inp i 0) ∧ E 10 = .int .i64 (((qn M : Nat) : Int) ^ (e.ds i)) ∧ E 11 = .own (n + 1) 0 (e.w 0) ∧ E 12 = .int .i64 (i : Nat) ∧ i ≤ e.r) (fun i => e.r - i) 0 ?_ ?_
  · refine ⟨by omega, by simp -implicitDefEqProofs only [go_sem, Nat.reduceLT, Nat.reduceBEq, Nat.reduceAdd, Nat.reduceEqDiff, Nat.reduceLeDiff, Nat.reduceSub, Nat.reduceMul], ?_, fun b hb => by rw [upd_ne _ _ (by omega), upd_ne _ _ (by omega)], ?_, rfl, rfl, rfl, rfl, ?_, rfl, rfl, by omega⟩
    · simp -implicitDefEqProofs only [go_sem, Nat.reduceLT, Nat.reduceBEq, Nat.reduceAdd, Nat.reduceEqDiff, Nat.reduceLeDiff, Nat.reduceSub, Nat.reduceMul, tab_rep]
      refine congrArg some (tab_congr fun j hj => congrArg (GV.int .i64) ?_)
      show (0 : Int) = ((cn (e.so M st inp 0 0 j) : Nat) : Int)
      rw [e.so_zero, cn_zero]; rfl
    · have : e.ds 0 = 0 := rfl
      simp -implicitDefEqProofs only [go_sem, Nat.reduceLT, Nat.reduceBEq, Nat.reduceAdd, Nat.reduceEqDiff, Nat.reduceLeDiff, Nat.reduceSub, Nat.reduceMul, this, Int.pow_zero, Int.ediv_one]
    · have : e.ds 0 = 0 := rfl
      simp -implicitDefEqProofs only [go_sem, Nat.reduceLT, Nat.reduceBEq, Nat.reduceAdd, Nat.reduceEqDiff, Nat.reduceLeDiff, Nat.reduceSub, Nat.reduceMul, this, Int.pow_zero]
  rintro i E H' n' ⟨hn', h0, hrow, ho, e1, e2, e3, e8, e9, e10, e11, e12, hi⟩
  simp -implicitDefEqProofs only [go_sem, Nat.reduceLT, Nat.reduceBEq, Nat.reduceAdd, Nat.reduceEqDiff, Nat.reduceLeDiff, Nat.reduceSub, Nat.reduceMul, e3, e12, h0]
  refine c_split (fun hc => ?_) (fun hc => ?_)
  · have hiN : i < e.r := by omega
    have hiI : ((i : Nat) : Int) < ((e.r : Nat) : Int) := hc
    have hwi := wrap64 (x := (i : Int) + 1) (by omega)
    have hdsm : e.ds (i + 1) ≤ e.ds e.r := sumn_mono (by omega)
    have hdsS : e.ds (i + 1) = e.ds i + e.deg i := rfl
    have hdeg := e.deg_le hB hiN
    have hwN : e.w i = e.w 0 := hok.2.1.2.2.2 i hiN
    simp -implicitDefEqProofs only [go_sem, Nat.reduceLT, Nat.reduceBEq, Nat.reduceAdd, Nat.reduceEqDiff, Nat.reduceLeDiff, Nat.reduceSub, Nat.reduceMul, e2, e12, hiI, hiN, gat_tab]
    repeat with_reducible refine And.intro (by omega) ?_
    refine loop_rule (fun (d : Nat) E H' n' => ∃ bl, n + 2 ≤ bl ∧ bl < n' ∧ H' n = some e.cs ∧ H' (n + 1) = some (tab (e.w 0) (it fun j => (cn (e.so M st inp i 0 j) : Nat))) ∧ H' bl = some (tab (d + 1) (it (e.X (qn M : Nat) st inp i))) ∧ (∀ b, b < n → H' b = H b) ∧ E 1 = .int .i64 (st / ((qn M : Nat) : Int) ^ (e.ds i + d)) ∧ E 2 = isl e.r inp ∧ E 3 = .ptr n 0 ∧ E 8 = .int .i64 (qn M : Nat) ∧ E 9 = .int .i64 (e.nx (qn M : Nat) st inp i 0) ∧ E 10 = .int .i64 (((qn M : Nat) : Int) ^ (e.ds i)) ∧ E 11 = .own (n + 1) 0 (e.w 0) ∧ E 12 = .int .i64 (i : Nat) ∧ E 13 = .own bl 0 (d + 1) ∧ E 14 = .int .i64 (d : Nat) ∧ d ≤ e.deg i) (fun d => e.deg i - d) 0 ?_ ?_
    · refine ⟨n', by omega, by omega, ?_, ?_, ?_, fun b hb => by rw [upd_ne _ _ (by omega)]; exact ho b hb, by simp -implicitDefEqProofs only [go_sem, Nat.reduceLT, Nat.reduceBEq, Nat.reduceAdd, Nat.reduceEqDiff, Nat.reduceLeDiff, Nat.reduceSub, Nat.reduceMul, e1], by simp -implicitDefEqProofs only [go_sem, Nat.reduceLT, Nat.reduceBEq, Nat.reduceAdd, Nat.reduceEqDiff, Nat.reduceLeDiff, Nat.reduceSub, Nat.reduceMul, e2], by simp -implicitDefEqProofs only [go_sem, Nat.reduceLT, Nat.reduceBEq, Nat.reduceAdd, Nat.reduceEqDiff, Nat.reduceLeDiff, Nat.reduceSub, Nat.reduceMul, e3], by simp -implicitDefEqProofs only [go_sem, Nat.reduceLT, Nat.reduceBEq, Nat.reduceAdd, Nat.reduceEqDiff, Nat.reduceLeDiff, Nat.reduceSub, Nat.reduceMul, e8], by simp -implicitDefEqProofs only [go_sem, Nat.reduceLT, Nat.reduceBEq, Nat.reduceAdd, Nat.reduceEqDiff, Nat.reduceLeDiff, Nat.reduceSub, Nat.reduceMul, e9], by simp -implicitDefEqProofs only [go_sem, Nat.reduceLT, Nat.reduceBEq, Nat.reduceAdd, Nat.reduceEqDiff, Nat.reduceLeDiff, Nat.reduceSub, Nat.reduceMul, e10], by simp -implicitDefEqProofs only [go_sem, Nat.reduceLT, Nat.reduceBEq, Nat.reduceAdd, Nat.reduceEqDiff, Nat.reduceLeDiff, Nat.reduceSub, Nat.reduceMul, e11], by simp -implicitDefEqProofs only [go_sem, Nat.reduceLT, Nat.reduceBEq, Nat.reduceAdd, Nat.reduceEqDiff, Nat.reduceLeDiff, Nat.reduceSub, Nat.reduceMul, e12], by simp -implicitDefEqProofs only [go_sem, Nat.reduceLT, Nat.reduceBEq, Nat.reduceAdd, Nat.reduceEqDiff, Nat.reduceLeDiff, Nat.reduceSub, Nat.reduceMul], by simp -implicitDefEqProofs only [go_sem, Nat.reduceLT, Nat.reduceBEq, Nat.reduceAdd, Nat.reduceEqDiff, Nat.reduceLeDiff, Nat.reduceSub, Nat.reduceMul]; rfl, by omega⟩
      · rw [upd_ne _ _ (by omega)]; exact h0
      · rw [upd_ne _ _ (by omega)]; exact hrow
      · rw [upd_same]; rfl
    clear hn' h0 hrow ho e1 e2 e3 e8 e9 e10 e11 e12 E H' n'
    rintro d E H' n' ⟨bl, l1, l2, h0, hrow, hl, ho, e1, e2, e3, e8, e9, e10, e11, e12, e13, e14, hdd⟩
    simp -implicitDefEqProofs only [go_sem, Nat.reduceLT, Nat.reduceBEq, Nat.reduceAdd, Nat.reduceEqDiff, Nat.reduceLeDiff, Nat.reduceSub, Nat.reduceMul, e3, e12, e14, h0]
    refine call_of (sp_ref20_Degree e hB i hiN) ?_
    simp -implicitDefEqProofs only [go_sem, Nat.reduceLT, Nat.reduceBEq, Nat.reduceAdd, Nat.reduceEqDiff, Nat.reduceLeDiff, Nat.reduceSub, Nat.reduceMul]
    refine c_split (fun hcd => ?_) (fun hcd => ?_)
    · have hv0 := hdiv (e.ds i + d)
      have hv1 := hdiv (e.ds i + (d + 1))
      have hX1 : e.X (qn M : Nat) st inp i (d + 1) = st / ((qn M : Nat) : Int) ^ (e.ds i + d) % ((qn M : Nat) : Int) := rfl
      have hdst := dg_step (p := ((qn M : Nat) : Int)) (x := st) hq2I (e.ds i + d)
      have t1 := tmod_nn (a := st / ((qn M : Nat) : Int) ^ (e.ds i + d)) (b := ((qn M : Nat) : Int)) (by omega)
      have w4 : IntKind.i64.wrap ((st / ((qn M : Nat) : Int) ^ (e.ds i + d)).tdiv ((qn M : Nat) : Int)) = st / ((qn M : Nat) : Int) ^ (e.ds i + (d + 1)) := by
        rw [tdiv_nn (by omega), hdst]; exact wrap64 (x := st / ((qn M : Nat) : Int) ^ (e.ds i + (d + 1))) (by omega)
      have hwd := wrap64 (x := (d : Int) + 1) (by omega)
      have f1 : (bl = n') = False := eq_false (by omega)
      have f2 : (n' = bl) = False := eq_false (by omega)
      have hs1 : tab (d + 1) (it (e.X (qn M : Nat) st inp i)) ++ [GV.int .i64 (st / ((qn M : Nat) : Int) ^ (e.ds i + d) % ((qn M : Nat) : Int))] = tab (d + 1 + 1) (it (e.X (qn M : Nat) st inp i)) := by
        rw [← hX1]; exact tab_succ.symm
      simp -implicitDefEqProofs only [go_sem, Nat.reduceLT, Nat.reduceBEq, Nat.reduceAdd, Nat.reduceEqDiff, Nat.reduceLeDiff, Nat.reduceSub, Nat.reduceMul, e1, e8, e13, e14, hl, hqne, t1, w4, hwd, upd_no, f1, f2, hs1]
      repeat with_reducible refine And.intro (by omega) ?_
      refine l_n ⟨d + 1, by omega, n' + 1, by omega, by omega, ?_, ?_, by simp -implicitDefEqProofs only [go_sem, Nat.reduceLT, Nat.reduceBEq, Nat.reduceAdd, Nat.reduceEqDiff, Nat.reduceLeDiff, Nat.reduceSub, Nat.reduceMul], fun b hb => ?_, by simp -implicitDefEqProofs only [go_sem, Nat.reduceLT, Nat.reduceBEq, Nat.reduceAdd, Nat.reduceEqDiff, Nat.reduceLeDiff, Nat.reduceSub, Nat.reduceMul], by simp -implicitDefEqProofs only [go_sem, Nat.reduceLT, Nat.reduceBEq, Nat.reduceAdd, Nat.reduceEqDiff, Nat.reduceLeDiff, Nat.reduceSub, Nat.reduceMul, e2], by simp -implicitDefEqProofs only [go_sem, Nat.reduceLT, Nat.reduceBEq, Nat.reduceAdd, Nat.reduceEqDiff, Nat.reduceLeDiff, Nat.reduceSub, Nat.reduceMul, e3], by simp -implicitDefEqProofs only [go_sem, Nat.reduceLT, Nat.reduceBEq, Nat.reduceAdd, Nat.reduceEqDiff, Nat.reduceLeDiff, Nat.reduceSub, Nat.reduceMul, e8], by simp -implicitDefEqProofs only [go_sem, Nat.reduceLT, Nat.reduceBEq, Nat.reduceAdd, Nat.reduceEqDiff, Nat.reduceLeDiff, Nat.reduceSub, Nat.reduceMul, e9], by simp -implicitDefEqProofs only [go_sem, Nat.reduceLT, Nat.reduceBEq, Nat.reduceAdd, Nat.reduceEqDiff, Nat.reduceLeDiff, Nat.reduceSub, Nat.reduceMul, e10], by simp -implicitDefEqProofs only [go_sem, Nat.reduceLT, Nat.reduceBEq, Nat.reduceAdd, Nat.reduceEqDiff, Nat.reduceLeDiff, Nat.reduceSub, Nat.reduceMul, e11], by simp -implicitDefEqProofs only [go_sem, Nat.reduceLT, Nat.reduceBEq, Nat.reduceAdd, Nat.reduceEqDiff, Nat.reduceLeDiff, Nat.reduceSub, Nat.reduceMul, e12], by simp -implicitDefEqProofs only [go_sem, Nat.reduceLT, Nat.reduceBEq, Nat.reduceAdd, Nat.reduceEqDiff, Nat.reduceLeDiff, Nat.reduceSub, Nat.reduceMul], by simp -implicitDefEqProofs only [go_sem, Nat.reduceLT, Nat.reduceBEq, Nat.reduceAdd, Nat.reduceEqDiff, Nat.reduceLeDiff, Nat.reduceSub, Nat.reduceMul]; rfl, by omega⟩
      · rw [upd_ne _ _ (by omega), upd_ne _ _ (by omega), upd_ne _ _ (by omega)]; exact h0
      · rw [upd_ne _ _ (by omega), upd_ne _ _ (by omega), upd_ne _ _ (by omega)]; exact hrow
      · rw [upd_ne _ _ (by omega), upd_ne _ _ (by omega), upd_ne _ _ (by omega)]; exact ho b hb
    have hdD : d = e.deg i := by omega
    subst hdD
    simp -implicitDefEqProofs only [go_sem, Nat.reduceLT, Nat.reduceBEq, Nat.reduceAdd, Nat.reduceEqDiff, Nat.reduceLeDiff, Nat.reduceSub, Nat.reduceMul]
    refine loop_rule (fun (d : Nat) E H1 n1 => H1 = H' ∧ n1 = n' ∧ E 1 = .int .i64 (st / ((qn M : Nat) : Int) ^ (e.ds i + e.deg i)) ∧ E 2 = isl e.r inp ∧ E 3 = .ptr n 0 ∧ E 8 = .int .i64 (qn M : Nat) ∧ E 9 = .int .i64 (e.nx (qn M : Nat) st inp i d) ∧ E 10 = .int .i64 (((qn M : Nat) : Int) ^ (e.ds i + d)) ∧ E 11 = .own (n + 1) 0 (e.w 0) ∧ E 12 = .int .i64 (i : Nat) ∧ E 13 = .own bl 0 (e.deg i + 1) ∧ E 15 = .int .i64 (d : Nat) ∧ d ≤ e.deg i) (fun d => e.deg i - d) 0 ?_ ?_
    · exact ⟨rfl, rfl, by simp -implicitDefEqProofs only [go_sem, Nat.reduceLT, Nat.reduceBEq, Nat.reduceAdd, Nat.reduceEqDiff, Nat.reduceLeDiff, Nat.reduceSub, Nat.reduceMul, e1], by simp -implicitDefEqProofs only [go_sem, Nat.reduceLT, Nat.reduceBEq, Nat.reduceAdd, Nat.reduceEqDiff, Nat.reduceLeDiff, Nat.reduceSub, Nat.reduceMul, e2], by simp -implicitDefEqProofs only [go_sem, Nat.reduceLT, Nat.reduceBEq, Nat.reduceAdd, Nat.reduceEqDiff, Nat.reduceLeDiff, Nat.reduceSub, Nat.reduceMul, e3], by simp -implicitDefEqProofs only [go_sem, Nat.reduceLT, Nat.reduceBEq, Nat.reduceAdd, Nat.reduceEqDiff, Nat.reduceLeDiff, Nat.reduceSub, Nat.reduceMul, e8], by simp -implicitDefEqProofs only [go_sem, Nat.reduceLT, Nat.reduceBEq, Nat.reduceAdd, Nat.reduceEqDiff, Nat.reduceLeDiff, Nat.reduceSub, Nat.reduceMul, e9], by simp -implicitDefEqProofs only [go_sem, Nat.reduceLT, Nat.reduceBEq, Nat.reduceAdd, Nat.reduceEqDiff, Nat.reduceLeDiff, Nat.reduceSub, Nat.reduceMul, e10], by simp -implicitDefEqProofs only [go_sem, Nat.reduceLT, Nat.reduceBEq, Nat.reduceAdd, Nat.reduceEqDiff, Nat.reduceLeDiff, Nat.reduceSub, Nat.reduceMul, e11], by simp -implicitDefEqProofs only [go_sem, Nat.reduceLT, Nat.reduceBEq, Nat.reduceAdd, Nat.reduceEqDiff, Nat.reduceLeDiff, Nat.reduceSub, Nat.reduceMul, e12], by simp -implicitDefEqProofs only [go_sem, Nat.reduceLT, Nat.reduceBEq, Nat.reduceAdd, Nat.reduceEqDiff, Nat.reduceLeDiff, Nat.reduceSub, Nat.reduceMul, e13], by simp -implicitDefEqProofs only [go_sem, Nat.reduceLT, Nat.reduceBEq, Nat.reduceAdd, Nat.reduceEqDiff, Nat.reduceLeDiff, Nat.reduceSub, Nat.reduceMul]; rfl, by omega⟩
    clear e1 e2 e3 e8 e9 e10 e11 e12 e13 e14 hcd E
    rintro d E H1 n1 ⟨rfl, rfl, e1, e2, e3, e8, e9, e10, e11, e12, e13, e15, hdd⟩
    simp -implicitDefEqProofs only [go_sem, Nat.reduceLT, Nat.reduceBEq, Nat.reduceAdd, Nat.reduceEqDiff, Nat.reduceLeDiff, Nat.reduceSub, Nat.reduceMul, e3, e12, e15, h0]
    refine call_of (sp_ref20_Degree e hB i hiN) ?_
    simp -implicitDefEqProofs only [go_sem, Nat.reduceLT, Nat.reduceBEq, Nat.reduceAdd, Nat.reduceEqDiff, Nat.reduceLeDiff, Nat.reduceSub, Nat.reduceMul]
    refine c_split (fun hcd => ?_) (fun hcd => ?_)
    · have hdN : d < e.deg i + 1 := by omega
      have hdI : ((d : Nat) : Int) < ((e.deg i + 1 : Nat) : Int) := by omega
      have hnx := e.nx_step (qn M : Nat) st inp i d
      have hX := e.X_in (st := st) hq2I hin hiN d
      have hb0 := e.nx_lt (st := st) hq2I hin i (by omega) d (.inr hiN)
      have hb1 := e.nx_lt (st := st) hq2I hin i (by omega) (d + 1) (.inr hiN)
      have hp1 := hpw (e.ds i + d) (by omega)
      have hp2 := hpw (e.ds i + (d + 1)) (by omega)
      have hpp : 0 < ((qn M : Nat) : Int) ^ (e.ds i + d) := Int.pow_pos (by omega)
      have hpp2 : 0 < ((qn M : Nat) : Int) ^ (e.ds i + (d + 1)) := Int.pow_pos (by omega)
      have hm0 : 0 ≤ e.X (qn M : Nat) st inp i d * ((qn M : Nat) : Int) ^ (e.ds i + d) := Int.mul_nonneg hX.1 (by omega)
      have hm1 : e.X (qn M : Nat) st inp i d * ((qn M : Nat) : Int) ^ (e.ds i + d) ≤ 256 * 65536 := Int.mul_le_mul (by omega) (by omega) (by omega) (by omega)
      have w1 := wrap64 (x := e.X (qn M : Nat) st inp i d * ((qn M : Nat) : Int) ^ (e.ds i + d)) (by omega)
      have w2 : IntKind.i64.wrap (e.nx (qn M : Nat) st inp i d + e.X (qn M : Nat) st inp i d * ((qn M : Nat) : Int) ^ (e.ds i + d)) = e.nx (qn M : Nat) st inp i (d + 1) := by rw [hnx]; exact wrap64 (by omega)
      have w3 : IntKind.i64.wrap (((qn M : Nat) : Int) ^ (e.ds i + d) * ((qn M : Nat) : Int)) = ((qn M : Nat) : Int) ^ (e.ds i + (d + 1)) := by
        have : ((qn M : Nat) : Int) ^ (e.ds i + (d + 1)) = ((qn M : Nat) : Int) ^ (e.ds i + d) * ((qn M : Nat) : Int) := Int.pow_succ _ _
        rw [← this]; exact wrap64 (by omega)
      have hwd := wrap64 (x := (d : Int) + 1) (by omega)
      simp -implicitDefEqProofs only [go_sem, Nat.reduceLT, Nat.reduceBEq, Nat.reduceAdd, Nat.reduceEqDiff, Nat.reduceLeDiff, Nat.reduceSub, Nat.reduceMul, e8, e9, e10, e13, e15, hl, hdN, hdI, gat_tab, w1, w2, w3, hwd]
      exact l_n ⟨d + 1, by omega, rfl, rfl, by simp -implicitDefEqProofs only [go_sem, Nat.reduceLT, Nat.reduceBEq, Nat.reduceAdd, Nat.reduceEqDiff, Nat.reduceLeDiff, Nat.reduceSub, Nat.reduceMul, e1], by simp -implicitDefEqProofs only [go_sem, Nat.reduceLT, Nat.reduceBEq, Nat.reduceAdd, Nat.reduceEqDiff, Nat.reduceLeDiff, Nat.reduceSub, Nat.reduceMul, e2], by simp -implicitDefEqProofs only [go_sem, Nat.reduceLT, Nat.reduceBEq, Nat.reduceAdd, Nat.reduceEqDiff, Nat.reduceLeDiff, Nat.reduceSub, Nat.reduceMul, e3], by simp -implicitDefEqProofs only [go_sem, Nat.reduceLT, Nat.reduceBEq, Nat.reduceAdd, Nat.reduceEqDiff, Nat.reduceLeDiff, Nat.reduceSub, Nat.reduceMul, e8], by simp -implicitDefEqProofs only [go_sem, Nat.reduceLT, Nat.reduceBEq, Nat.reduceAdd, Nat.reduceEqDiff, Nat.reduceLeDiff, Nat.reduceSub, Nat.reduceMul], by simp -implicitDefEqProofs only [go_sem, Nat.reduceLT, Nat.reduceBEq, Nat.reduceAdd, Nat.reduceEqDiff, Nat.reduceLeDiff, Nat.reduceSub, Nat.reduceMul], by simp -implicitDefEqProofs only [go_sem, Nat.reduceLT, Nat.reduceBEq, Nat.reduceAdd, Nat.reduceEqDiff, Nat.reduceLeDiff, Nat.reduceSub, Nat.reduceMul, e11], by simp -implicitDefEqProofs only [go_sem, Nat.reduceLT, Nat.reduceBEq, Nat.reduceAdd, Nat.reduceEqDiff, Nat.reduceLeDiff, Nat.reduceSub, Nat.reduceMul, e12], by simp -implicitDefEqProofs only [go_sem, Nat.reduceLT, Nat.reduceBEq, Nat.reduceAdd, Nat.reduceEqDiff, Nat.reduceLeDiff, Nat.reduceSub, Nat.reduceMul, e13], by simp -implicitDefEqProofs only [go_sem, Nat.reduceLT, Nat.reduceBEq, Nat.reduceAdd, Nat.reduceEqDiff, Nat.reduceLeDiff, Nat.reduceSub, Nat.reduceMul]; rfl, by omega⟩
    have hdD : d = e.deg i := by omega
    subst hdD
    simp -implicitDefEqProofs only [go_sem, Nat.reduceLT, Nat.reduceBEq, Nat.reduceAdd, Nat.reduceEqDiff, Nat.reduceLeDiff, Nat.reduceSub, Nat.reduceMul]
    refine loop_rule (fun (j : Nat) E H2 n2 => n2 = n1 ∧ H2 n = some e.cs ∧ H2 (n + 1) = some (tab (e.w 0) (it (mix (fun j => (cn (e.so M st inp (i + 1) 0 j) : Nat)) (fun j => (cn (e.so M st inp i 0 j) : Nat)) j))) ∧ H2 bl = some (tab (e.deg i + 1) (it (e.X (qn M : Nat) st inp i))) ∧ (∀ b, b < n → H2 b = H b) ∧ E 1 = .int .i64 (st / ((qn M : Nat) : Int) ^ (e.ds i + e.deg i)) ∧ E 2 = isl e.r inp ∧ E 3 = .ptr n 0 ∧ E 8 = .int .i64 (qn M : Nat) ∧ E 9 = .int .i64 (e.nx (qn M : Nat) st inp i (e.deg i)) ∧ E 10 = .int .i64 (((qn M : Nat) : Int) ^ (e.ds i + e.deg i)) ∧ E 11 = .own (n + 1) 0 (e.w 0) ∧ E 12 = .int .i64 (i : Nat) ∧ E 13 = .own bl 0 (e.deg i + 1) ∧ E 16 = .int .i64 (j : Nat) ∧ j ≤ e.w 0) (fun j => e.w 0 - j) 0 ?_ ?_
    · exact ⟨rfl, h0, by rw [mix_zero]; exact hrow, hl, ho, by simp -implicitDefEqProofs only [go_sem, Nat.reduceLT, Nat.reduceBEq, Nat.reduceAdd, Nat.reduceEqDiff, Nat.reduceLeDiff, Nat.reduceSub, Nat.reduceMul, e1], by simp -implicitDefEqProofs only [go_sem, Nat.reduceLT, Nat.reduceBEq, Nat.reduceAdd, Nat.reduceEqDiff, Nat.reduceLeDiff, Nat.reduceSub, Nat.reduceMul, e2], by simp -implicitDefEqProofs only [go_sem, Nat.reduceLT, Nat.reduceBEq, Nat.reduceAdd, Nat.reduceEqDiff, Nat.reduceLeDiff, Nat.reduceSub, Nat.reduceMul, e3], by simp -implicitDefEqProofs only [go_sem, Nat.reduceLT, Nat.reduceBEq, Nat.reduceAdd, Nat.reduceEqDiff, Nat.reduceLeDiff, Nat.reduceSub, Nat.reduceMul, e8], by simp -implicitDefEqProofs only [go_sem, Nat.reduceLT, Nat.reduceBEq, Nat.reduceAdd, Nat.reduceEqDiff, Nat.reduceLeDiff, Nat.reduceSub, Nat.reduceMul, e9], by simp -implicitDefEqProofs only [go_sem, Nat.reduceLT, Nat.reduceBEq, Nat.reduceAdd, Nat.reduceEqDiff, Nat.reduceLeDiff, Nat.reduceSub, Nat.reduceMul, e10], by simp -implicitDefEqProofs only [go_sem, Nat.reduceLT, Nat.reduceBEq, Nat.reduceAdd, Nat.reduceEqDiff, Nat.reduceLeDiff, Nat.reduceSub, Nat.reduceMul, e11], by simp -implicitDefEqProofs only [go_sem, Nat.reduceLT, Nat.reduceBEq, Nat.reduceAdd, Nat.reduceEqDiff, Nat.reduceLeDiff, Nat.reduceSub, Nat.reduceMul, e12], by simp -implicitDefEqProofs only [go_sem, Nat.reduceLT, Nat.reduceBEq, Nat.reduceAdd, Nat.reduceEqDiff, Nat.reduceLeDiff, Nat.reduceSub, Nat.reduceMul, e13], by simp -implicitDefEqProofs only [go_sem, Nat.reduceLT, Nat.reduceBEq, Nat.reduceAdd, Nat.reduceEqDiff, Nat.reduceLeDiff, Nat.reduceSub, Nat.reduceMul]; rfl, by omega⟩
    clear h0 hrow hl ho e1 e2 e3 e8 e9 e10 e11 e12 e13 e15 hcd E
    rintro j E H2 n2 ⟨rfl, h0, hrow, hl, ho, e1, e2, e3, e8, e9, e10, e11, e12, e13, e16, hj⟩
    simp -implicitDefEqProofs only [go_sem, Nat.reduceLT, Nat.reduceBEq, Nat.reduceAdd, Nat.reduceEqDiff, Nat.reduceLeDiff, Nat.reduceSub, Nat.reduceMul, e11, e16]
    refine c_split (fun hcj => ?_) (fun hcj => ?_)
    · have hjN : j < e.w 0 := by omega
      have hjI : ((j : Nat) : Int) < ((e.w 0 : Nat) : Int) := hcj
      have hwj := wrap64 (x := (j : Int) + 1) (by omega)
      have hnij := hB.n i j hiN (by omega)
      have f0 : n < n2 := by omega
      have f1 : n + 1 < n2 := by omega
      simp -implicitDefEqProofs only [go_sem, Nat.reduceLT, Nat.reduceBEq, Nat.reduceAdd, Nat.reduceEqDiff, Nat.reduceLeDiff, Nat.reduceSub, Nat.reduceMul, e3, e11, e12, e13, e16, h0, hrow, hiI, hiN, hjI, hjN, gat_tab, e.rw_at, e.pl_at, hwN, mix_at, f0, f1]
      refine mcall_of (.int _ _) (fun H3 n3 hk hn => sDot H3 n3 _ _ _ _ _ _ (Rd.own (by omega) (by rw [hk bl (by omega)]; exact hl)) (Rd.sl _ _) (by omega) (by omega)) ?_
      rw [e.dot_eq h.fc]
      simp -implicitDefEqProofs only [go_sem, Nat.reduceLT, Nat.reduceBEq, Nat.reduceAdd, Nat.reduceEqDiff, Nat.reduceLeDiff, Nat.reduceSub, Nat.reduceMul]
      refine mcall_of (.int _ _) (fun H3 n3 hk hn => sAdd H3 n3 _ _) ?_
      have hval : ein M ((cn (e.so M st inp i 0 j) : Nat) : Int) + ein M ((cn (sm (e.deg i + 1) (e.tm M st inp j i)) : Nat) : Int) = e.so M st inp (i + 1) 0 j := by
        rw [ein_cn h.fc, ein_cn h.fc, e.so_add]
      rw [hval, cd_cn]
      have hst := mix_step (fun j => ((cn (e.so M st inp (i + 1) 0 j) : Nat) : Int)) (fun j => ((cn (e.so M st inp i 0 j) : Nat) : Int)) j
      simp -implicitDefEqProofs only [go_sem, Nat.reduceLT, Nat.reduceBEq, Nat.reduceAdd, Nat.reduceEqDiff, Nat.reduceLeDiff, Nat.reduceSub, Nat.reduceMul, e16, hrow, hjN, hjI, hwj, hst]
      repeat with_reducible refine And.intro (by omega) ?_
      exact l_n ⟨j + 1, by omega, rfl, by rw [upd_ne _ _ (by omega)]; exact h0, by simp -implicitDefEqProofs only [go_sem, Nat.reduceLT, Nat.reduceBEq, Nat.reduceAdd, Nat.reduceEqDiff, Nat.reduceLeDiff, Nat.reduceSub, Nat.reduceMul], by rw [upd_ne _ _ (by omega)]; exact hl, fun b hb => by rw [upd_ne _ _ (by omega)]; exact ho b hb, by simp -implicitDefEqProofs only [go_sem, Nat.reduceLT, Nat.reduceBEq, Nat.reduceAdd, Nat.reduceEqDiff, Nat.reduceLeDiff, Nat.reduceSub, Nat.reduceMul, e1], by simp -implicitDefEqProofs only [go_sem, Nat.reduceLT, Nat.reduceBEq, Nat.reduceAdd, Nat.reduceEqDiff, Nat.reduceLeDiff, Nat.reduceSub, Nat.reduceMul, e2], by simp -implicitDefEqProofs only [go_sem, Nat.reduceLT, Nat.reduceBEq, Nat.reduceAdd, Nat.reduceEqDiff, Nat.reduceLeDiff, Nat.reduceSub, Nat.reduceMul, e3], by simp -implicitDefEqProofs only [go_sem, Nat.reduceLT, Nat.reduceBEq, Nat.reduceAdd, Nat.reduceEqDiff, Nat.reduceLeDiff, Nat.reduceSub, Nat.reduceMul, e8], by simp -implicitDefEqProofs only [go_sem, Nat.reduceLT, Nat.reduceBEq, Nat.reduceAdd, Nat.reduceEqDiff, Nat.reduceLeDiff, Nat.reduceSub, Nat.reduceMul, e9], by simp -implicitDefEqProofs only [go_sem, Nat.reduceLT, Nat.reduceBEq, Nat.reduceAdd, Nat.reduceEqDiff, Nat.reduceLeDiff, Nat.reduceSub, Nat.reduceMul, e10], by simp -implicitDefEqProofs only [go_sem, Nat.reduceLT, Nat.reduceBEq, Nat.reduceAdd, Nat.reduceEqDiff, Nat.reduceLeDiff, Nat.reduceSub, Nat.reduceMul, e11], by simp -implicitDefEqProofs only [go_sem, Nat.reduceLT, Nat.reduceBEq, Nat.reduceAdd, Nat.reduceEqDiff, Nat.reduceLeDiff, Nat.reduceSub, Nat.reduceMul, e12], by simp -implicitDefEqProofs only [go_sem, Nat.reduceLT, Nat.reduceBEq, Nat.reduceAdd, Nat.reduceEqDiff, Nat.reduceLeDiff, Nat.reduceSub, Nat.reduceMul, e13], by simp -implicitDefEqProofs only [go_sem, Nat.reduceLT, Nat.reduceBEq, Nat.reduceAdd, Nat.reduceEqDiff, Nat.reduceLeDiff, Nat.reduceSub, Nat.reduceMul]; rfl, by omega⟩
    · have hjw : j = e.w 0 := by omega
      subst hjw
      have hrow : H2 (n + 1) = some (tab (e.w 0) (it fun j => (cn (e.so M st inp (i + 1) 0 j) : Nat))) := by
        rw [hrow]
        exact congrArg some (tab_congr fun j hj => congrArg (GV.int .i64) (mix_lt _ _ hj))
      rw [← e.nx_row] at e9
      simp -implicitDefEqProofs only [go_sem, Nat.reduceLT, Nat.reduceBEq, Nat.reduceAdd, Nat.reduceEqDiff, Nat.reduceLeDiff, Nat.reduceSub, Nat.reduceMul, e12, hwi]
      exact l_n ⟨i + 1, by omega, by omega, h0, hrow, ho, by simp -implicitDefEqProofs only [go_sem, Nat.reduceLT, Nat.reduceBEq, Nat.reduceAdd, Nat.reduceEqDiff, Nat.reduceLeDiff, Nat.reduceSub, Nat.reduceMul, e1, hdsS], by simp -implicitDefEqProofs only [go_sem, Nat.reduceLT, Nat.reduceBEq, Nat.reduceAdd, Nat.reduceEqDiff, Nat.reduceLeDiff, Nat.reduceSub, Nat.reduceMul, e2], by simp -implicitDefEqProofs only [go_sem, Nat.reduceLT, Nat.reduceBEq, Nat.reduceAdd, Nat.reduceEqDiff, Nat.reduceLeDiff, Nat.reduceSub, Nat.reduceMul, e3], by simp -implicitDefEqProofs only [go_sem, Nat.reduceLT, Nat.reduceBEq, Nat.reduceAdd, Nat.reduceEqDiff, Nat.reduceLeDiff, Nat.reduceSub, Nat.reduceMul, e8], by simp -implicitDefEqProofs only [go_sem, Nat.reduceLT, Nat.reduceBEq, Nat.reduceAdd, Nat.reduceEqDiff, Nat.reduceLeDiff, Nat.reduceSub, Nat.reduceMul, e9], by simp -implicitDefEqProofs only [go_sem, Nat.reduceLT, Nat.reduceBEq, Nat.reduceAdd, Nat.reduceEqDiff, Nat.reduceLeDiff, Nat.reduceSub, Nat.reduceMul, e10, hdsS], by simp -implicitDefEqProofs only [go_sem, Nat.reduceLT, Nat.reduceBEq, Nat.reduceAdd, Nat.reduceEqDiff, Nat.reduceLeDiff, Nat.reduceSub, Nat.reduceMul, e11], by simp -implicitDefEqProofs only [go_sem, Nat.reduceLT, Nat.reduceBEq, Nat.reduceAdd, Nat.reduceEqDiff, Nat.reduceLeDiff, Nat.reduceSub, Nat.reduceMul]; rfl, by omega⟩
  · have : i = e.r := by omega
    subst this
    simp -implicitDefEqProofs only [go_sem, Nat.reduceLT, Nat.reduceBEq, Nat.reduceAdd, Nat.reduceEqDiff, Nat.reduceLeDiff, Nat.reduceSub, Nat.reduceMul, e9, e11]
    refine fin_ret2 rfl (by decide) (by decide) ?_ ?_ ho
    · simp -implicitDefEqProofs only [go_sem, Nat.reduceLT, Nat.reduceBEq, Nat.reduceAdd, Nat.reduceEqDiff, Nat.reduceLeDiff, Nat.reduceSub, Nat.reduceMul]; exact fz_int rfl
    · simp -implicitDefEqProofs only [go_sem, Nat.reduceLT, Nat.reduceBEq, Nat.reduceAdd, Nat.reduceEqDiff, Nat.reduceLeDiff, Nat.reduceSub, Nat.reduceMul]; exact fz_own_isl hrow (by omega)
end
end Go.Proofs.Ytdpibcniodhinaa.Gh
/- The statement ConvNext, over ghost values. -/
namespace Go.Proofs.Ytdpibcniodhinaa.Gh
open Go Go.RowKit
open Alg (CR Ps Dg Zm Mn El Cg sm pw Irr Prm)
set_option linter.unusedVariables false
set_option linter.unusedSimpArgs false

/-- the error of the inputs of a step -/
noncomputable def inE (r l : Nat) (f : Nat → Int) (q : Int) : Int := open Classical in if l = r then (if ∀ i, i < l → 0 ≤ f i ∧ f i < q then 0 else 2) else 4
theorem inE_ok {r l : Nat} {f : Nat → Int} {q : Int} (h : inE r l f q = 0) : l = r ∧ ∀ i, i < l → 0 ≤ f i ∧ f i < q := by
  unfold inE at h
  by_cases h1 : l = r
  · rw [if_pos h1] at h
    by_cases h2 : ∀ i, i < l → 0 ≤ f i ∧ f i < q
    · exact ⟨h1, h2⟩
    · rw [if_neg h2] at h; omega
  · rw [if_neg h1] at h; omega
theorem sp_ref20_List {H : Heap} {n : Nat} (e : Enc) (hB : e.Bnd) (l : Nat) (f : Nat → Int) : Spec prog fid_ref20_List [e.gv, isl l f] H n (.int .i64 (inE e.r l f (qo e.p e.m))) H n := by
  refine spec_ends hmix ok_ref20_List rfl fun hF => ?_
  show gw prog B_ref20_List _ (tl 15 _) H n
  have hu : ∀ x b, b < n → upd H n x b = H b := fun x b hb => upd_ne _ _ (by omega)
  have hr := hB.r
  simp -implicitDefEqProofs only [B_ref20_List, go_sem, Nat.reduceLT, Nat.reduceBEq, Nat.reduceAdd, Nat.reduceEqDiff, Nat.reduceLeDiff, Nat.reduceSub, Nat.reduceMul]
  by_cases hl : l = e.r
  · subst hl
    simp -implicitDefEqProofs only [go_sem, Nat.reduceLT, Nat.reduceBEq, Nat.reduceAdd, Nat.reduceEqDiff, Nat.reduceLeDiff, Nat.reduceSub, Nat.reduceMul]
    refine call_of (sp_Entries e.p e.m (isl e.l e.mo) rfl e.r f (by omega)) ?_
    simp -implicitDefEqProofs only [go_sem, Nat.reduceLT, Nat.reduceBEq, Nat.reduceAdd, Nat.reduceEqDiff, Nat.reduceLeDiff, Nat.reduceSub, Nat.reduceMul]
    refine fin_ret rfl (by decide) ?_ (hu _)
    simp -implicitDefEqProofs only [go_sem, Nat.reduceLT, Nat.reduceBEq, Nat.reduceAdd, Nat.reduceEqDiff, Nat.reduceLeDiff, Nat.reduceSub, Nat.reduceMul]
    refine fz_int ?_
    rw [inE, if_pos rfl]
  · have hlI : ¬ ((l : Int) = (e.r : Int)) := by omega
    simp -implicitDefEqProofs only [go_sem, Nat.reduceLT, Nat.reduceBEq, Nat.reduceAdd, Nat.reduceEqDiff, Nat.reduceLeDiff, Nat.reduceSub, Nat.reduceMul, hlI]
    refine fin_ret rfl (by decide) ?_ (hu _)
    simp -implicitDefEqProofs only [go_sem, Nat.reduceLT, Nat.reduceBEq, Nat.reduceAdd, Nat.reduceEqDiff, Nat.reduceLeDiff, Nat.reduceSub, Nat.reduceMul]
    exact fz_int (by rw [inE, if_neg hl])
theorem sp_ref20_States {H : Heap} {n : Nat} (e : Enc) (hB : e.Bnd) {k : Nat} {M : Mn k} (h : Fi M) (hd : e.Des M) (hce : e.ce = 0) : Spec prog fid_ref20_States [e.gv] H n (.int .i64 (qn M ^ e.ds e.r : Nat)) H n := by
  refine spec_ends hmix ok_ref20_States rfl fun hF => ?_
  show gw prog B_ref20_States _ (tl 26 _) H n
  have hr := hB.r
  have hq2 := qn_two M
  have hq := h.fc.qn
  have hqo := hd.qo h
  have hpw := Enc.pow_le h hd hce
  simp -implicitDefEqProofs only [B_ref20_States, go_sem, Nat.reduceLT, Nat.reduceBEq, Nat.reduceAdd, Nat.reduceEqDiff, Nat.reduceLeDiff, Nat.reduceSub, Nat.reduceMul]
  refine loop_rule (fun (i : Nat) E H' n' => n' = n + 1 ∧ H' n = some e.cs ∧ (∀ b, b < n → H' b = H b) ∧ E 1 = .ptr n 0 ∧ E 3 = .int .i64 (qn M ^ e.ds i : Nat) ∧ E 4 = .int .i64 (i : Nat) ∧ i ≤ e.r) (fun i => e.r - i) 0 ⟨rfl, by simp -implicitDefEqProofs only [go_sem, Nat.reduceLT, Nat.reduceBEq, Nat.reduceAdd, Nat.reduceEqDiff, Nat.reduceLeDiff, Nat.reduceSub, Nat.reduceMul], fun b hb => upd_ne _ _ (by omega), rfl, rfl, rfl, by omega⟩ ?_
  rintro i E H' n' ⟨rfl, h0, ho, e1, e3, e4, hi⟩
  simp -implicitDefEqProofs only [go_sem, Nat.reduceLT, Nat.reduceBEq, Nat.reduceAdd, Nat.reduceEqDiff, Nat.reduceLeDiff, Nat.reduceSub, Nat.reduceMul, e1, e4, h0]
  refine c_split (fun hc => ?_) (fun hc => ?_)
  · have hiN : i < e.r := by omega
    have hdsm : e.ds (i + 1) ≤ e.ds e.r := sumn_mono (by omega)
    have hdsS : e.ds (i + 1) = e.ds i + e.deg i := rfl
    have hdeg := e.deg_le hB hiN
    simp -implicitDefEqProofs only [go_sem, Nat.reduceLT, Nat.reduceBEq, Nat.reduceAdd, Nat.reduceEqDiff, Nat.reduceLeDiff, Nat.reduceSub, Nat.reduceMul]
    refine loop_rule (fun (d : Nat) E H' n' => n' = n + 1 ∧ H' n = some e.cs ∧ (∀ b, b < n → H' b = H b) ∧ E 1 = .ptr n 0 ∧ E 3 = .int .i64 (qn M ^ (e.ds i + d) : Nat) ∧ E 4 = .int .i64 (i : Nat) ∧ E 5 = .int .i64 (d : Nat) ∧ d ≤ e.deg i) (fun d => e.deg i - d) 0 ⟨rfl, h0, ho, by simp -implicitDefEqProofs only [go_sem, Nat.reduceLT, Nat.reduceBEq, Nat.reduceAdd, Nat.reduceEqDiff, Nat.reduceLeDiff, Nat.reduceSub, Nat.reduceMul, e1], by simp -implicitDefEqProofs only [go_sem, Nat.reduceLT, Nat.reduceBEq, Nat.reduceAdd, Nat.reduceEqDiff, Nat.reduceLeDiff, Nat.reduceSub, Nat.reduceMul, e3], by simp -implicitDefEqProofs only [go_sem, Nat.reduceLT, Nat.reduceBEq, Nat.reduceAdd, Nat.reduceEqDiff, Nat.reduceLeDiff, Nat.reduceSub, Nat.reduceMul, e4], rfl, by omega⟩ ?_
    clear h0 ho e1 e3 e4 E H'
    rintro d E H' n' ⟨rfl, h0, ho, e1, e3, e4, e5, hd'⟩
    simp -implicitDefEqProofs only [go_sem, Nat.reduceLT, Nat.reduceBEq, Nat.reduceAdd, Nat.reduceEqDiff, Nat.reduceLeDiff, Nat.reduceSub, Nat.reduceMul, e1, e4, e5, h0]
    refine call_of (sp_ref20_Degree e hB i hiN) ?_
    simp -implicitDefEqProofs only [go_sem, Nat.reduceLT, Nat.reduceBEq, Nat.reduceAdd, Nat.reduceEqDiff, Nat.reduceLeDiff, Nat.reduceSub, Nat.reduceMul]
    refine c_split (fun hc' => ?_) (fun hc' => ?_)
    · simp -implicitDefEqProofs only [go_sem, Nat.reduceLT, Nat.reduceBEq, Nat.reduceAdd, Nat.reduceEqDiff, Nat.reduceLeDiff, Nat.reduceSub, Nat.reduceMul, e1, e3, h0]
      refine call_of (sp_ref04_Order e.p e.m _ rfl) ?_
      rw [hqo]
      have hps : qn M ^ (e.ds i + (d + 1)) = qn M ^ (e.ds i + d) * qn M := Nat.pow_succ ..
      have hle := hpw (e.ds i + (d + 1)) (by omega)
      have hmul : ((qn M ^ (e.ds i + d) : Nat) : Int) * ((qn M : Nat) : Int) = ((qn M ^ (e.ds i + (d + 1)) : Nat) : Int) := by rw [hps]; push_cast; rfl
      have hwm := wrap64 (x := ((qn M ^ (e.ds i + (d + 1)) : Nat) : Int)) (by omega)
      have hwd := wrap64 (x := (d : Int) + 1) (by omega)
      simp -implicitDefEqProofs only [go_sem, Nat.reduceLT, Nat.reduceBEq, Nat.reduceAdd, Nat.reduceEqDiff, Nat.reduceLeDiff, Nat.reduceSub, Nat.reduceMul, e5, hmul, hwm, hwd]
      exact l_n ⟨d + 1, by omega, rfl, h0, ho, by simp -implicitDefEqProofs only [go_sem, Nat.reduceLT, Nat.reduceBEq, Nat.reduceAdd, Nat.reduceEqDiff, Nat.reduceLeDiff, Nat.reduceSub, Nat.reduceMul, e1], by simp -implicitDefEqProofs only [go_sem, Nat.reduceLT, Nat.reduceBEq, Nat.reduceAdd, Nat.reduceEqDiff, Nat.reduceLeDiff, Nat.reduceSub, Nat.reduceMul], by simp -implicitDefEqProofs only [go_sem, Nat.reduceLT, Nat.reduceBEq, Nat.reduceAdd, Nat.reduceEqDiff, Nat.reduceLeDiff, Nat.reduceSub, Nat.reduceMul, e4], by simp -implicitDefEqProofs only [go_sem, Nat.reduceLT, Nat.reduceBEq, Nat.reduceAdd, Nat.reduceEqDiff, Nat.reduceLeDiff, Nat.reduceSub, Nat.reduceMul]; rfl, by omega⟩
    · have : d = e.deg i := by omega
      subst this
      have hwi := wrap64 (x := (i : Int) + 1) (by omega)
      simp -implicitDefEqProofs only [go_sem, Nat.reduceLT, Nat.reduceBEq, Nat.reduceAdd, Nat.reduceEqDiff, Nat.reduceLeDiff, Nat.reduceSub, Nat.reduceMul, e4, hwi]
      exact l_n ⟨i + 1, by omega, rfl, h0, ho, by simp -implicitDefEqProofs only [go_sem, Nat.reduceLT, Nat.reduceBEq, Nat.reduceAdd, Nat.reduceEqDiff, Nat.reduceLeDiff, Nat.reduceSub, Nat.reduceMul, e1], by simp -implicitDefEqProofs only [go_sem, Nat.reduceLT, Nat.reduceBEq, Nat.reduceAdd, Nat.reduceEqDiff, Nat.reduceLeDiff, Nat.reduceSub, Nat.reduceMul, e3, hdsS], by simp -implicitDefEqProofs only [go_sem, Nat.reduceLT, Nat.reduceBEq, Nat.reduceAdd, Nat.reduceEqDiff, Nat.reduceLeDiff, Nat.reduceSub, Nat.reduceMul]; rfl, by omega⟩
  · have : i = e.r := by omega
    subst this
    simp -implicitDefEqProofs only [go_sem, Nat.reduceLT, Nat.reduceBEq, Nat.reduceAdd, Nat.reduceEqDiff, Nat.reduceLeDiff, Nat.reduceSub, Nat.reduceMul, e3]
    refine fin_ret rfl (by decide) ?_ ho
    simp -implicitDefEqProofs only [go_sem, Nat.reduceLT, Nat.reduceBEq, Nat.reduceAdd, Nat.reduceEqDiff, Nat.reduceLeDiff, Nat.reduceSub, Nat.reduceMul]; exact fz_int rfl
section
variable {k : Nat} {M : Mn k}
theorem sp_input' {H : Heap} {n : Nat} (e : Enc) (hB : e.Bnd) (h : Fi M) (l : Nat) (f : Nat → Int) {a : GV} (ha : Rd H n a l f) : Spec prog fid_conv_machine_input [e.mch h.gf (qn M), a] H n (.int .i64 (inE e.r l f (qn M : Nat))) H n := by
  refine spec_ends hmix ok_conv_machine_input rfl fun hF => ?_
  show gw prog B_conv_machine_input _ (tl 28 _) H n
  have hr := hB.r
  have hal := ha.len
  rw [e.mch_eq]
  by_cases hl : l = e.r
  · subst hl
    simp -implicitDefEqProofs only [B_conv_machine_input, Enc.mcl, go_sem, Nat.reduceLT, Nat.reduceBEq, Nat.reduceAdd, Nat.reduceEqDiff, Nat.reduceLeDiff, Nat.reduceSub, Nat.reduceMul, hal]
    refine loop_rule (fun (i : Nat) E H' n' => H' = H ∧ n' = n ∧ E 0 = .pp (e.mcl h.gf (qn M)) 0 ∧ E 14 = a ∧ E 15 = .int .i64 (e.r : Nat) ∧ E 16 = .int .i64 (i : Nat) ∧ i ≤ e.r ∧ ∀ t, t < i → 0 ≤ f t ∧ f t < (qn M : Nat)) (fun i => e.r - i) 0 ⟨rfl, rfl, rfl, rfl, rfl, rfl, by omega, fun t ht => by omega⟩ ?_
    rintro i E H' n' ⟨rfl, rfl, e0, e14, e15, e16, hi, hf⟩
    simp -implicitDefEqProofs only [go_sem, Nat.reduceLT, Nat.reduceBEq, Nat.reduceAdd, Nat.reduceEqDiff, Nat.reduceLeDiff, Nat.reduceSub, Nat.reduceMul, e15, e16]
    refine c_split (fun hc => ?_) (fun hc => ?_)
    · have hiN : i < e.r := by omega
      have hwi := wrap64 (x := (i : Int) + 1) (by omega)
      obtain ⟨pa, pa1, pa2, pa3⟩ := ha.idx i hiN
      have pa4 := fun q => pa2 q H' H' n' fun _ _ => rfl
      simp -implicitDefEqProofs only [go_sem, Nat.reduceLT, Nat.reduceBEq, Nat.reduceAdd, Nat.reduceEqDiff, Nat.reduceLeDiff, Nat.reduceSub, Nat.reduceMul, Enc.mcl, e0, e14, e16, hc, hiN, gat_tab, pa1, pa4]
      refine call_of (sp_GF_Is h.g (f i)) ?_
      by_cases hx : 0 ≤ f i ∧ f i < (qn M : Nat)
      · simp -implicitDefEqProofs only [go_sem, Nat.reduceLT, Nat.reduceBEq, Nat.reduceAdd, Nat.reduceEqDiff, Nat.reduceLeDiff, Nat.reduceSub, Nat.reduceMul, hx, e16, hwi]
        refine l_n ⟨i + 1, by omega, rfl, rfl, by simp -implicitDefEqProofs only [go_sem, Nat.reduceLT, Nat.reduceBEq, Nat.reduceAdd, Nat.reduceEqDiff, Nat.reduceLeDiff, Nat.reduceSub, Nat.reduceMul, e0, Enc.mcl], by simp -implicitDefEqProofs only [go_sem, Nat.reduceLT, Nat.reduceBEq, Nat.reduceAdd, Nat.reduceEqDiff, Nat.reduceLeDiff, Nat.reduceSub, Nat.reduceMul, e14], by simp -implicitDefEqProofs only [go_sem, Nat.reduceLT, Nat.reduceBEq, Nat.reduceAdd, Nat.reduceEqDiff, Nat.reduceLeDiff, Nat.reduceSub, Nat.reduceMul, e15], by simp -implicitDefEqProofs only [go_sem, Nat.reduceLT, Nat.reduceBEq, Nat.reduceAdd, Nat.reduceEqDiff, Nat.reduceLeDiff, Nat.reduceSub, Nat.reduceMul]; rfl, by omega, fun t ht => ?_⟩
        by_cases et : t = i
        · subst et; exact hx
        · exact hf t (by omega)
      · simp -implicitDefEqProofs only [go_sem, Nat.reduceLT, Nat.reduceBEq, Nat.reduceAdd, Nat.reduceEqDiff, Nat.reduceLeDiff, Nat.reduceSub, Nat.reduceMul, hx]
        refine fin_ret rfl (by decide) ?_ fun _ _ => rfl
        simp -implicitDefEqProofs only [go_sem, Nat.reduceLT, Nat.reduceBEq, Nat.reduceAdd, Nat.reduceEqDiff, Nat.reduceLeDiff, Nat.reduceSub, Nat.reduceMul]
        exact fz_int (by rw [inE, if_pos rfl, if_neg fun hh => hx (hh i hiN)])
    · simp -implicitDefEqProofs only [go_sem, Nat.reduceLT, Nat.reduceBEq, Nat.reduceAdd, Nat.reduceEqDiff, Nat.reduceLeDiff, Nat.reduceSub, Nat.reduceMul]
      refine fin_ret rfl (by decide) ?_ fun _ _ => rfl
      simp -implicitDefEqProofs only [go_sem, Nat.reduceLT, Nat.reduceBEq, Nat.reduceAdd, Nat.reduceEqDiff, Nat.reduceLeDiff, Nat.reduceSub, Nat.reduceMul]
      exact fz_int (by rw [inE, if_pos rfl, if_pos fun t ht => hf t (by omega)])
  · have hlI : ¬ ((l : Int) = (e.r : Int)) := by omega
    simp -implicitDefEqProofs only [B_conv_machine_input, Enc.mcl, go_sem, Nat.reduceLT, Nat.reduceBEq, Nat.reduceAdd, Nat.reduceEqDiff, Nat.reduceLeDiff, Nat.reduceSub, Nat.reduceMul, hal, hlI]
    refine fin_ret rfl (by decide) ?_ fun _ _ => rfl
    simp -implicitDefEqProofs only [go_sem, Nat.reduceLT, Nat.reduceBEq, Nat.reduceAdd, Nat.reduceEqDiff, Nat.reduceLeDiff, Nat.reduceSub, Nat.reduceMul]
    exact fz_int (by rw [inE, if_neg hl])
theorem sp_input {H : Heap} {n : Nat} (e : Enc) (hB : e.Bnd) (h : Fi M) (l : Nat) (f : Nat → Int) : Spec prog fid_conv_machine_input [e.mch h.gf (qn M), isl l f] H n (.int .i64 (inE e.r l f (qn M : Nat))) H n := sp_input' e hB h l f (Rd.sl _ _)
/-- the error of a step -/
noncomputable def Enc.nxE (e : Enc) (S st : Int) (l : Nat) (f : Nat → Int) : Int := if e.ce = 0 then (if 0 ≤ st ∧ st < S then inE e.r l f (qo e.p e.m) else 6) else e.ce
theorem sp_conv_Next' {H : Heap} {n : Nat} (e : Enc) (hB : e.Bnd) (h : Fi M) (hd : e.Des M) (st : Int) (l : Nat) (f : Nat → Int) {a : GV} (ha : Rd H n a l f) :
    Spec prog fid_conv_Next [e.gv, .int .i64 st, a] H n (if e.nxE (qn M ^ e.ds e.r : Nat) st l f = 0 then .tup [.int .i64 (e.nx (qn M : Nat) st f e.r 0), isl (e.w 0) fun j => (cn (e.so M st f e.r 0 j) : Nat), .int .i64 0] else .tup [.int .i64 0, .nil, .int .i64 (e.nxE (qn M ^ e.ds e.r : Nat) st l f)]) H n := by
  have hqo := hd.qo h
  have hu : ∀ x b, b < n → upd H n x b = H b := fun x b hb => upd_ne _ _ (by omega)
  have ha1 : ∀ x, Rd (upd H n x) (n + 1) a l f := fun x => ha.keep (by omega) (hu x)
  by_cases hE : e.nxE (qn M ^ e.ds e.r : Nat) st l f = 0
  · rw [if_pos hE]
    refine spec_ends hmix ok_conv_Next rfl fun hF => ?_
    show gw prog B_conv_Next _ (tl 44 _) H n
    have hce : e.ce = 0 := by
      unfold Enc.nxE at hE
      by_cases hc : e.ce = 0
      · exact hc
      · rw [if_neg hc] at hE; exact hE
    rw [Enc.nxE, if_pos hce] at hE
    have hst : 0 ≤ st ∧ st < (qn M ^ e.ds e.r : Nat) := by
      by_cases hs : 0 ≤ st ∧ st < (qn M ^ e.ds e.r : Nat)
      · exact hs
      · rw [if_neg hs] at hE; omega
    rw [if_pos hst, hqo] at hE
    obtain ⟨rfl, hf⟩ := inE_ok hE
    have hpw := Enc.pow_le h hd hce (e.ds e.r) (Nat.le_refl _)
    have hs1 : ¬ st < 0 := by omega
    have hs2 : ¬ ((qn M ^ e.ds e.r : Nat) : Int) ≤ st := by omega
    simp -implicitDefEqProofs only [B_conv_Next, go_sem, Nat.reduceLT, Nat.reduceBEq, Nat.reduceAdd, Nat.reduceEqDiff, Nat.reduceLeDiff, Nat.reduceSub, Nat.reduceMul]
    refine call_of (sp_conv_build e hB h hd) ?_
    rw [if_pos hce, hce]
    simp -implicitDefEqProofs only [go_sem, Nat.reduceLT, Nat.reduceBEq, Nat.reduceAdd, Nat.reduceEqDiff, Nat.reduceLeDiff, Nat.reduceSub, Nat.reduceMul, Enc.mch, hs1, hs2]
    refine call_of (sp_input' e hB h e.r f (ha1 _)) ?_
    rw [hE]
    simp -implicitDefEqProofs only [go_sem, Nat.reduceLT, Nat.reduceBEq, Nat.reduceAdd, Nat.reduceEqDiff, Nat.reduceLeDiff, Nat.reduceSub, Nat.reduceMul]
    refine call_of (sp_step' e hB h hd hce st f hst.1 (by omega) hf (ha1 _)) ?_
    simp -implicitDefEqProofs only [go_sem, Nat.reduceLT, Nat.reduceBEq, Nat.reduceAdd, Nat.reduceEqDiff, Nat.reduceLeDiff, Nat.reduceSub, Nat.reduceMul]
    exact fin_ret3 rfl (by decide) (by decide) (by decide) (by simp -implicitDefEqProofs only [go_sem, Nat.reduceLT, Nat.reduceBEq, Nat.reduceAdd, Nat.reduceEqDiff, Nat.reduceLeDiff, Nat.reduceSub, Nat.reduceMul]; exact fz_int rfl) (by simp -implicitDefEqProofs only [go_sem, Nat.reduceLT, Nat.reduceBEq, Nat.reduceAdd, Nat.reduceEqDiff, Nat.reduceLeDiff, Nat.reduceSub, Nat.reduceMul]; exact (pl_isl _ _).tr) (by simp -implicitDefEqProofs only [go_sem, Nat.reduceLT, Nat.reduceBEq, Nat.reduceAdd, Nat.reduceEqDiff, Nat.reduceLeDiff, Nat.reduceSub, Nat.reduceMul]; exact fz_int rfl) (hu _)
  · rw [if_neg hE]
    refine spec_ends hmix ok_conv_Next rfl fun hF => ?_
    show gw prog B_conv_Next _ (tl 44 _) H n
    simp -implicitDefEqProofs only [B_conv_Next, go_sem, Nat.reduceLT, Nat.reduceBEq, Nat.reduceAdd, Nat.reduceEqDiff, Nat.reduceLeDiff, Nat.reduceSub, Nat.reduceMul]
    refine call_of (sp_conv_build e hB h hd) ?_
    by_cases hce : e.ce = 0
    case neg =>
      rw [if_neg hce]
      simp -implicitDefEqProofs only [go_sem, Nat.reduceLT, Nat.reduceBEq, Nat.reduceAdd, Nat.reduceEqDiff, Nat.reduceLeDiff, Nat.reduceSub, Nat.reduceMul, hce]
      exact fin_ret3 rfl (by decide) (by decide) (by decide) (by simp -implicitDefEqProofs only [go_sem, Nat.reduceLT, Nat.reduceBEq, Nat.reduceAdd, Nat.reduceEqDiff, Nat.reduceLeDiff, Nat.reduceSub, Nat.reduceMul]; exact fz_int rfl) (by simp -implicitDefEqProofs only [go_sem, Nat.reduceLT, Nat.reduceBEq, Nat.reduceAdd, Nat.reduceEqDiff, Nat.reduceLeDiff, Nat.reduceSub, Nat.reduceMul]; exact .nil) (by simp -implicitDefEqProofs only [go_sem, Nat.reduceLT, Nat.reduceBEq, Nat.reduceAdd, Nat.reduceEqDiff, Nat.reduceLeDiff, Nat.reduceSub, Nat.reduceMul]; exact fz_int (by rw [Enc.nxE, if_neg hce])) (hu _)
    rw [if_pos hce, hce]
    have hpw := Enc.pow_le h hd hce (e.ds e.r) (Nat.le_refl _)
    by_cases hst : 0 ≤ st ∧ st < (qn M ^ e.ds e.r : Nat)
    case neg =>
      have hv : e.nxE (qn M ^ e.ds e.r : Nat) st l f = 6 := by rw [Enc.nxE, if_pos hce, if_neg hst]
      rw [hv]
      by_cases hs1 : st < 0
      · simp -implicitDefEqProofs only [go_sem, Nat.reduceLT, Nat.reduceBEq, Nat.reduceAdd, Nat.reduceEqDiff, Nat.reduceLeDiff, Nat.reduceSub, Nat.reduceMul, Enc.mch, hs1]
        exact fin_ret3 rfl (by decide) (by decide) (by decide) (by simp -implicitDefEqProofs only [go_sem, Nat.reduceLT, Nat.reduceBEq, Nat.reduceAdd, Nat.reduceEqDiff, Nat.reduceLeDiff, Nat.reduceSub, Nat.reduceMul]; exact fz_int rfl) (by simp -implicitDefEqProofs only [go_sem, Nat.reduceLT, Nat.reduceBEq, Nat.reduceAdd, Nat.reduceEqDiff, Nat.reduceLeDiff, Nat.reduceSub, Nat.reduceMul]; exact .nil) (by simp -implicitDefEqProofs only [go_sem, Nat.reduceLT, Nat.reduceBEq, Nat.reduceAdd, Nat.reduceEqDiff, Nat.reduceLeDiff, Nat.reduceSub, Nat.reduceMul]; exact fz_int rfl) (hu _)
      · have hs2 : ((qn M ^ e.ds e.r : Nat) : Int) ≤ st := by omega
        simp -implicitDefEqProofs only [go_sem, Nat.reduceLT, Nat.reduceBEq, Nat.reduceAdd, Nat.reduceEqDiff, Nat.reduceLeDiff, Nat.reduceSub, Nat.reduceMul, Enc.mch, hs1, hs2]
        exact fin_ret3 rfl (by decide) (by decide) (by decide) (by simp -implicitDefEqProofs only [go_sem, Nat.reduceLT, Nat.reduceBEq, Nat.reduceAdd, Nat.reduceEqDiff, Nat.reduceLeDiff, Nat.reduceSub, Nat.reduceMul]; exact fz_int rfl) (by simp -implicitDefEqProofs only [go_sem, Nat.reduceLT, Nat.reduceBEq, Nat.reduceAdd, Nat.reduceEqDiff, Nat.reduceLeDiff, Nat.reduceSub, Nat.reduceMul]; exact .nil) (by simp -implicitDefEqProofs only [go_sem, Nat.reduceLT, Nat.reduceBEq, Nat.reduceAdd, Nat.reduceEqDiff, Nat.reduceLeDiff, Nat.reduceSub, Nat.reduceMul]; exact fz_int rfl) (hu _)
    have hv : e.nxE (qn M ^ e.ds e.r : Nat) st l f = inE e.r l f (qn M : Nat) := by rw [Enc.nxE, if_pos hce, if_pos hst, hqo]
    rw [hv] at hE ⊢
    have hs1 : ¬ st < 0 := by omega
    have hs2 : ¬ ((qn M ^ e.ds e.r : Nat) : Int) ≤ st := by omega
    simp -implicitDefEqProofs only [go_sem, Nat.reduceLT, Nat.reduceBEq, Nat.reduceAdd, Nat.reduceEqDiff, Nat.reduceLeDiff, Nat.reduceSub, Nat.reduceMul, Enc.mch, hs1, hs2]
    refine call_of (sp_input' e hB h l f (ha1 _)) ?_
    simp -implicitDefEqProofs only [go_sem, Nat.reduceLT, Nat.reduceBEq, Nat.reduceAdd, Nat.reduceEqDiff, Nat.reduceLeDiff, Nat.reduceSub, Nat.reduceMul, hE]
    exact fin_ret3 rfl (by decide) (by decide) (by decide) (by simp -implicitDefEqProofs only [go_sem, Nat.reduceLT, Nat.reduceBEq, Nat.reduceAdd, Nat.reduceEqDiff, Nat.reduceLeDiff, Nat.reduceSub, Nat.reduceMul]; exact fz_int rfl) (by simp -implicitDefEqProofs only [go_sem, Nat.reduceLT, Nat.reduceBEq, Nat.reduceAdd, Nat.reduceEqDiff, Nat.reduceLeDiff, Nat.reduceSub, Nat.reduceMul]; exact .nil) (by simp -implicitDefEqProofs only [go_sem, Nat.reduceLT, Nat.reduceBEq, Nat.reduceAdd, Nat.reduceEqDiff, Nat.reduceLeDiff, Nat.reduceSub, Nat.reduceMul]; exact fz_int rfl) (hu _)
theorem sp_conv_Next {H : Heap} {n : Nat} (e : Enc) (hB : e.Bnd) (h : Fi M) (hd : e.Des M) (st : Int) (l : Nat) (f : Nat → Int) :
    Spec prog fid_conv_Next [e.gv, .int .i64 st, isl l f] H n (if e.nxE (qn M ^ e.ds e.r : Nat) st l f = 0 then .tup [.int .i64 (e.nx (qn M : Nat) st f e.r 0), isl (e.w 0) fun j => (cn (e.so M st f e.r 0 j) : Nat), .int .i64 0] else .tup [.int .i64 0, .nil, .int .i64 (e.nxE (qn M ^ e.ds e.r : Nat) st l f)]) H n := sp_conv_Next' e hB h hd st l f (Rd.sl _ _)
end
theorem sp_conv_Next_fail {H : Heap} {n : Nat} (e : Enc) (hf : ¬ e.Fok) (st : Int) (l : Nat) (f : Nat → Int) : Spec prog fid_conv_Next [e.gv, .int .i64 st, isl l f] H n (.tup [.int .i64 0, .nil, .int .i64 1]) H n := by
  refine spec_ends hmix ok_conv_Next rfl fun hF => ?_
  show gw prog B_conv_Next _ (tl 44 _) H n
  have h10 : ((1 : Int) = 0) = False := by simp
  simp -implicitDefEqProofs only [B_conv_Next, go_sem, Nat.reduceLT, Nat.reduceBEq, Nat.reduceAdd, Nat.reduceEqDiff, Nat.reduceLeDiff, Nat.reduceSub, Nat.reduceMul]
  refine call_of (sp_conv_build_fail e hf) ?_
  simp -implicitDefEqProofs only [go_sem, Nat.reduceLT, Nat.reduceBEq, Nat.reduceAdd, Nat.reduceEqDiff, Nat.reduceLeDiff, Nat.reduceSub, Nat.reduceMul, h10]
  exact fin_ret3 rfl (by decide) (by decide) (by decide) (by simp -implicitDefEqProofs only [go_sem, Nat.reduceLT, Nat.reduceBEq, Nat.reduceAdd, Nat.reduceEqDiff, Nat.reduceLeDiff, Nat.reduceSub, Nat.reduceMul]; exact fz_int rfl) (by simp -implicitDefEqProofs only [go_sem, Nat.reduceLT, Nat.reduceBEq, Nat.reduceAdd, Nat.reduceEqDiff, Nat.reduceLeDiff, Nat.reduceSub, Nat.reduceMul]; exact .nil) (by simp -implicitDefEqProofs only [go_sem, Nat.reduceLT, Nat.reduceBEq, Nat.reduceAdd, Nat.reduceEqDiff, Nat.reduceLeDiff, Nat.reduceSub, Nat.reduceMul]; exact fz_int rfl) fun b hb => upd_ne _ _ (by omega)

theorem sp_ConvNext {H : Heap} {n : Nat} (e : Enc) (st : Int) (l : Nat) (f : Nat → Int) : Spec prog fid_law20_ConvNext [e.gv, .int .i64 st, isl l f] H n (.bool true) H n := by
  refine spec_ends hmix ok_law20_ConvNext rfl fun hF => ?_
  show gw prog B_law20_ConvNext _ (tl 76 _) H n
  have hu : ∀ x b, b < n → upd H n x b = H b := fun x b hb => upd_ne _ _ (by omega)
  simp -implicitDefEqProofs only [B_law20_ConvNext, go_sem, Nat.reduceLT, Nat.reduceBEq, Nat.reduceAdd, Nat.reduceEqDiff, Nat.reduceLeDiff, Nat.reduceSub, Nat.reduceMul]
  refine call_of (sp_few e) ?_
  by_cases hb : e.Bnd ∧ e.gs e.r ≤ 3000
  case neg =>
    simp -implicitDefEqProofs only [go_sem, Nat.reduceLT, Nat.reduceBEq, Nat.reduceAdd, Nat.reduceEqDiff, Nat.reduceLeDiff, Nat.reduceSub, Nat.reduceMul, hb]
    exact fin_ret rfl (by decide) (fz_bool rfl) (hu _)
  have hB := hb.1
  have hb' : decide (e.Bnd ∧ e.gs e.r ≤ 3000) = true := decide_eq_true hb
  rw [hb']
  simp -implicitDefEqProofs only [go_sem, Nat.reduceLT, Nat.reduceBEq, Nat.reduceAdd, Nat.reduceEqDiff, Nat.reduceLeDiff, Nat.reduceSub, Nat.reduceMul]
  rcases e.cases with ⟨k, M, h, hd⟩ | hf
  case inr =>
    refine call_of (sp_conv_Next_fail e hf st l f) ?_
    simp -implicitDefEqProofs only [go_sem, Nat.reduceLT, Nat.reduceBEq, Nat.reduceAdd, Nat.reduceEqDiff, Nat.reduceLeDiff, Nat.reduceSub, Nat.reduceMul]
    refine call_of (sp_ref20_Check e hB) ?_
    rw [Enc.ce_fail hf]
    have h10 : ((1 : Int) = 0) = False := by simp
    simp -implicitDefEqProofs only [go_sem, Nat.reduceLT, Nat.reduceBEq, Nat.reduceAdd, Nat.reduceEqDiff, Nat.reduceLeDiff, Nat.reduceSub, Nat.reduceMul, h10]
    exact fin_ret rfl (by decide) (fz_bool rfl) (hu _)
  have hqo := hd.qo h
  refine call_of (sp_conv_Next e hB h hd st l f) ?_
  by_cases hce : e.ce = 0
  case neg =>
    have hv : e.nxE (qn M ^ e.ds e.r : Nat) st l f = e.ce := by rw [Enc.nxE, if_neg hce]
    rw [hv, if_neg hce]
    simp -implicitDefEqProofs only [go_sem, Nat.reduceLT, Nat.reduceBEq, Nat.reduceAdd, Nat.reduceEqDiff, Nat.reduceLeDiff, Nat.reduceSub, Nat.reduceMul]
    refine call_of (sp_ref20_Check e hB) ?_
    simp -implicitDefEqProofs only [go_sem, Nat.reduceLT, Nat.reduceBEq, Nat.reduceAdd, Nat.reduceEqDiff, Nat.reduceLeDiff, Nat.reduceSub, Nat.reduceMul, hce]
    exact fin_ret rfl (by decide) (fz_bool rfl) (hu _)
  have hok := Enc.ok hce
  have hr := hB.r
  have hw0 := hB.w 0 (by have := hok.2.1.1; omega)
  by_cases hst : 0 ≤ st ∧ st < (qn M ^ e.ds e.r : Nat)
  case neg =>
    have hv : e.nxE (qn M ^ e.ds e.r : Nat) st l f = 6 := by rw [Enc.nxE, if_pos hce, if_neg hst]
    have h60 : ((6 : Int) = 0) = False := by simp
    rw [hv, if_neg (by decide)]
    simp -implicitDefEqProofs only [go_sem, Nat.reduceLT, Nat.reduceBEq, Nat.reduceAdd, Nat.reduceEqDiff, Nat.reduceLeDiff, Nat.reduceSub, Nat.reduceMul]
    refine call_of (sp_ref20_Check e hB) ?_
    rw [hce]
    by_cases hs1 : st < 0
    · simp -implicitDefEqProofs only [go_sem, Nat.reduceLT, Nat.reduceBEq, Nat.reduceAdd, Nat.reduceEqDiff, Nat.reduceLeDiff, Nat.reduceSub, Nat.reduceMul, hs1, h60]
      exact fin_ret rfl (by decide) (fz_bool rfl) (hu _)
    · have hs2 : ((qn M ^ e.ds e.r : Nat) : Int) ≤ st := by omega
      simp -implicitDefEqProofs only [go_sem, Nat.reduceLT, Nat.reduceBEq, Nat.reduceAdd, Nat.reduceEqDiff, Nat.reduceLeDiff, Nat.reduceSub, Nat.reduceMul, hs1]
      refine call_of (sp_ref20_States e hB h hd hce) ?_
      simp -implicitDefEqProofs only [go_sem, Nat.reduceLT, Nat.reduceBEq, Nat.reduceAdd, Nat.reduceEqDiff, Nat.reduceLeDiff, Nat.reduceSub, Nat.reduceMul, hs2, h60]
      exact fin_ret rfl (by decide) (fz_bool rfl) (hu _)
  have hs1 : ¬ st < 0 := by omega
  have hs2 : ¬ ((qn M ^ e.ds e.r : Nat) : Int) ≤ st := by omega
  have hv : e.nxE (qn M ^ e.ds e.r : Nat) st l f = inE e.r l f (qo e.p e.m) := by rw [Enc.nxE, if_pos hce, if_pos hst]
  rw [hv]
  by_cases hE : inE e.r l f (qo e.p e.m) = 0
  · rw [if_pos hE]
    have hE' := hE
    rw [hqo] at hE'
    obtain ⟨rfl, hf⟩ := inE_ok hE'
    have hpw := Enc.pow_le h hd hce (e.ds e.r) (Nat.le_refl _)
    simp -implicitDefEqProofs only [go_sem, Nat.reduceLT, Nat.reduceBEq, Nat.reduceAdd, Nat.reduceEqDiff, Nat.reduceLeDiff, Nat.reduceSub, Nat.reduceMul]
    refine call_of (sp_ref20_Check e hB) ?_
    rw [hce]
    simp -implicitDefEqProofs only [go_sem, Nat.reduceLT, Nat.reduceBEq, Nat.reduceAdd, Nat.reduceEqDiff, Nat.reduceLeDiff, Nat.reduceSub, Nat.reduceMul, hs1]
    refine call_of (sp_ref20_States e hB h hd hce) ?_
    simp -implicitDefEqProofs only [go_sem, Nat.reduceLT, Nat.reduceBEq, Nat.reduceAdd, Nat.reduceEqDiff, Nat.reduceLeDiff, Nat.reduceSub, Nat.reduceMul, hs2]
    refine call_of (sp_ref20_List e hB e.r f) ?_
    rw [hE]
    simp -implicitDefEqProofs only [go_sem, Nat.reduceLT, Nat.reduceBEq, Nat.reduceAdd, Nat.reduceEqDiff, Nat.reduceLeDiff, Nat.reduceSub, Nat.reduceMul]
    refine call_of (sp_ref20_Next e hB h hd hce st f hst.1 (by omega) hf) ?_
    simp -implicitDefEqProofs only [go_sem, Nat.reduceLT, Nat.reduceBEq, Nat.reduceAdd, Nat.reduceEqDiff, Nat.reduceLeDiff, Nat.reduceSub, Nat.reduceMul]
    refine call_of (sp_SameInts (e.w 0) (e.w 0) _ _ (by omega)) ?_
    have hT : decide (e.w 0 = e.w 0 ∧ ∀ j, j < e.w 0 → ((cn (e.so M st f e.r 0 j) : Nat) : Int) = ((cn (e.so M st f e.r 0 j) : Nat) : Int)) = true := decide_eq_true ⟨rfl, fun _ _ => rfl⟩
    rw [hT]
    simp -implicitDefEqProofs only [go_sem, Nat.reduceLT, Nat.reduceBEq, Nat.reduceAdd, Nat.reduceEqDiff, Nat.reduceLeDiff, Nat.reduceSub, Nat.reduceMul]
    exact fin_ret rfl (by decide) (fz_bool rfl) (hu _)
  · rw [if_neg hE]
    simp -implicitDefEqProofs only [go_sem, Nat.reduceLT, Nat.reduceBEq, Nat.reduceAdd, Nat.reduceEqDiff, Nat.reduceLeDiff, Nat.reduceSub, Nat.reduceMul]
    refine call_of (sp_ref20_Check e hB) ?_
    rw [hce]
    simp -implicitDefEqProofs only [go_sem, Nat.reduceLT, Nat.reduceBEq, Nat.reduceAdd, Nat.reduceEqDiff, Nat.reduceLeDiff, Nat.reduceSub, Nat.reduceMul, hs1]
    refine call_of (sp_ref20_States e hB h hd hce) ?_
    simp -implicitDefEqProofs only [go_sem, Nat.reduceLT, Nat.reduceBEq, Nat.reduceAdd, Nat.reduceEqDiff, Nat.reduceLeDiff, Nat.reduceSub, Nat.reduceMul, hs2]
    refine call_of (sp_ref20_List e hB l f) ?_
    simp -implicitDefEqProofs only [go_sem, Nat.reduceLT, Nat.reduceBEq, Nat.reduceAdd, Nat.reduceEqDiff, Nat.reduceLeDiff, Nat.reduceSub, Nat.reduceMul, hE]
    exact fin_ret rfl (by decide) (fz_bool rfl) (hu _)
end Go.Proofs.Ytdpibcniodhinaa.Gh
/- The digits of the states, and the outputs of a message: the plain laws. -/
namespace Go.Proofs.Ytdpibcniodhinaa.Gh
open Go Go.RowKit
open Alg (CR Ps Dg Zm Mn El Cg sm pw Irr Prm)
set_option linter.unusedVariables false
set_option linter.unusedSimpArgs false

theorem dg_add_lo {q a x : Int} {pos p : Nat} (hq : 2 ≤ q) (h : pos < p) : dg q (a + x * q ^ p) pos = dg q a pos := by
  have hp : q ^ p = q ^ pos * (q * q ^ (p - pos - 1)) := by
    have e1 : q * q ^ (p - pos - 1) = q ^ (p - pos) := by
      have : p - pos = (p - pos - 1) + 1 := by omega
      rw [this, Int.pow_succ, Int.mul_comm, Nat.add_sub_cancel]
    rw [e1, ← Int.pow_add]; congr 1; omega
  have h0 : q ^ pos ≠ 0 := by have : 0 < q ^ pos := Int.pow_pos (by omega); omega
  have e2 : a + x * q ^ p = a + q ^ pos * (q * (x * q ^ (p - pos - 1))) := by
    rw [hp, Int.mul_left_comm x, Int.mul_left_comm x q]
  rw [dg, dg, e2, Int.add_mul_ediv_left _ _ h0, Int.add_mul_emod_self_left]
theorem dg_add_hi {q a x : Int} {p : Nat} (hq : 2 ≤ q) (ha0 : 0 ≤ a) (ha : a < q ^ p) (hx0 : 0 ≤ x) (hx : x < q) : dg q (a + x * q ^ p) p = x := by
  have h0 : q ^ p ≠ 0 := by have : 0 < q ^ p := Int.pow_pos (by omega); omega
  rw [dg, Int.add_mul_ediv_right _ _ h0, Int.ediv_eq_zero_of_lt ha0 ha, Int.zero_add]
  exact Int.emod_eq_of_lt hx0 hx
theorem Enc.nx_dg (e : Enc) {q st : Int} {inp : Nat → Int} (hq : 2 ≤ q) (hin : ∀ i, i < e.r → 0 ≤ inp i ∧ inp i < q) : ∀ i', i' ≤ e.r → ∀ d', (d' = 0 ∨ i' < e.r) → ∀ i d, (i < i' ∧ d < e.deg i) ∨ (i = i' ∧ d < d') → Gh.dg q (e.nx q st inp i' d') (e.ds i + d) = e.X q st inp i d := by
  intro i'
  have step : ∀ i', i' < e.r → ∀ d', (∀ i d, (i < i' ∧ d < e.deg i) ∨ (i = i' ∧ d < d') → Gh.dg q (e.nx q st inp i' d') (e.ds i + d) = e.X q st inp i d) → ∀ i d, (i < i' ∧ d < e.deg i) ∨ (i = i' ∧ d < d' + 1) → Gh.dg q (e.nx q st inp i' (d' + 1)) (e.ds i + d) = e.X q st inp i d := by
    intro i' hi' d' ih i d h
    rw [nx_step]
    have hb := e.nx_lt (st := st) hq hin i' (by omega) d' (.inr hi')
    have hX := e.X_in (st := st) hq hin hi' d'
    by_cases hlast : i = i' ∧ d = d'
    · obtain ⟨rfl, rfl⟩ := hlast
      exact dg_add_hi hq hb.1 hb.2 hX.1 hX.2
    · have hpos : e.ds i + d < e.ds i' + d' := by
        rcases h with ⟨h1, h2⟩ | ⟨h1, h2⟩
        · have h3 : e.ds (i + 1) ≤ e.ds i' := sumn_mono (by omega)
          have h4 : e.ds (i + 1) = e.ds i + e.deg i := rfl
          omega
        · subst h1; omega
      rw [dg_add_lo hq hpos]
      exact ih i d (by omega)
  induction i' with
  | zero =>
    intro hi d'
    induction d' with
    | zero => intro _ i d h; omega
    | succ d' ih => intro hd; exact step 0 (by omega) d' (ih (by omega))
  | succ i' ihi =>
    intro hi d'
    induction d' with
    | zero =>
      intro _ i d h
      rw [nx_row]
      refine ihi (by omega) (e.deg i') (by omega) i d ?_
      rcases h with ⟨h1, h2⟩ | ⟨h1, h2⟩
      · by_cases e1 : i = i'
        · subst e1; exact .inr ⟨rfl, h2⟩
        · exact .inl ⟨by omega, h2⟩
      · omega
    | succ d' ih => intro hd; exact step (i' + 1) (by omega) d' (ih (by omega))
/-- the states of a message -/
def Enc.S (e : Enc) (q : Int) (f : Nat → Nat → Int) : Nat → Int
  | 0 => 0
  | t + 1 => e.nx q (e.S q f t) (f t) e.r 0
theorem Enc.S_in (e : Enc) {q : Int} {f : Nat → Nat → Int} (hq : 2 ≤ q) : ∀ t, (∀ u, u < t → ∀ i, i < e.r → 0 ≤ f u i ∧ f u i < q) → 0 ≤ e.S q f t ∧ e.S q f t < q ^ e.ds e.r := by
  intro t
  cases t with
  | zero => intro _; exact ⟨Int.le_refl _, Int.pow_pos (by omega)⟩
  | succ t => intro h; exact e.nx_lt hq (h t (by omega)) e.r (Nat.le_refl _) 0 (.inl rfl)
theorem dg_of_zero (q : Int) (j : Nat) : dg q 0 j = 0 := by rw [dg, Int.zero_ediv]; exact Int.zero_emod _
theorem Enc.X_S (e : Enc) {q : Int} {f : Nat → Nat → Int} (hq : 2 ≤ q) : ∀ t, (∀ u, u < t → ∀ i, i < e.r → 0 ≤ f u i ∧ f u i < q) → ∀ i d, i < e.r → d ≤ e.deg i → e.X q (e.S q f t) (f t) i d = if d ≤ t then f (t - d) i else 0 := by
  intro t
  induction t with
  | zero =>
    intro _ i d hi hd
    unfold X
    by_cases h0 : d = 0
    · subst h0; rw [if_pos rfl, if_pos (Nat.le_refl _)]
    · rw [if_neg h0, if_neg (by omega)]; exact dg_of_zero _ _
  | succ t ih =>
    intro h i d hi hd
    by_cases h0 : d = 0
    · subst h0; rw [X, if_pos rfl, if_pos (by omega)]; rfl
    · obtain ⟨d, rfl⟩ : ∃ u, d = u + 1 := ⟨d - 1, by omega⟩
      have h1 := ih (fun u hu => h u (by omega)) i d hi (by omega)
      have h2 := e.nx_dg (st := e.S q f t) hq (h t (by omega)) e.r (Nat.le_refl _) 0 (.inl rfl) i d (.inl ⟨hi, by omega⟩)
      rw [X, if_neg h0, Nat.add_sub_cancel]
      show Gh.dg q (e.nx q (e.S q f t) (f t) e.r 0) (e.ds i + d) = _
      rw [h2, h1, show t + 1 - (d + 1) = t - d by omega]
      by_cases h3 : d ≤ t
      · rw [if_pos h3, if_pos (by omega)]
      · rw [if_neg h3, if_neg (by omega)]
theorem hid_big (f : Nat → Int) : ∀ n d, d < n → f d ≠ 0 → d ≤ hid f n := by
  intro n
  induction n with
  | zero => intro d h; omega
  | succ n ih =>
    intro d h hz
    rw [hid]
    by_cases e : d = n
    · subst e; rw [if_neg hz]; omega
    · have := ih d (by omega) hz
      split <;> omega
theorem Enc.dg_hid (e : Enc) (i : Nat) : ∀ w j, j < w → hid (e.c i j) (e.n i j) ≤ e.dg i w := by
  intro w
  induction w with
  | zero => intro j h; omega
  | succ w ih =>
    intro j h
    rw [Enc.dg]
    by_cases e1 : j = w
    · subst e1; omega
    · have := ih j (by omega); omega
theorem Enc.co_big (e : Enc) {i j d : Nat} (hj : j < e.w i) (hd : e.deg i < d) : e.co i j d = 0 := by
  unfold co
  by_cases h : d < e.n i j
  · rw [if_pos h]
    by_cases hz : e.c i j d = 0
    · exact hz
    · have h1 := hid_big (e.c i j) (e.n i j) d h hz
      have h2 := e.dg_hid i (e.w i) j hj
      have h3 : e.deg i = e.dg i (e.w i) := rfl
      omega
  · exact if_neg h
section
variable {k : Nat} {M : Mn k}
/-- a term of the reference's output -/
noncomputable def Enc.rt (e : Enc) (M : Mn k) (f : Nat → Nat → Int) (t j i d : Nat) : Alg.El M := ein M (e.c i j d) * ein M (f (t - d) i)
/-- the reference's output, so far -/
noncomputable def Enc.ro (e : Enc) (M : Mn k) (f : Nat → Nat → Int) (t j i d : Nat) : Alg.El M := sm i (fun i' => sm (min (t + 1) (e.n i' j)) (e.rt M f t j i')) + sm d (e.rt M f t j i)
theorem Enc.ro_zero (e : Enc) (f : Nat → Nat → Int) (t j : Nat) : e.ro M f t j 0 0 = 0 := Alg.add_zero _
theorem Enc.ro_step (e : Enc) (f : Nat → Nat → Int) (t j i d : Nat) : e.ro M f t j i (d + 1) = e.ro M f t j i d + e.rt M f t j i d := by
  rw [ro, ro, Alg.sm_succ, Alg.add_assoc]
theorem Enc.ro_row (e : Enc) (f : Nat → Nat → Int) (t j i : Nat) : e.ro M f t j (i + 1) 0 = e.ro M f t j i (min (t + 1) (e.n i j)) := by
  rw [ro, ro, Alg.sm_succ, Alg.sm_zero, Alg.add_zero]
theorem Enc.ro_so (e : Enc) (h : Fc M) (f : Nat → Nat → Int) (t j : Nat) (hw : ∀ i, i < e.r → j < e.w i) (hin : ∀ u, u < t → ∀ i, i < e.r → 0 ≤ f u i ∧ f u i < (qn M : Nat)) : e.ro M f t j e.r 0 = e.so M (e.S (qn M : Nat) f t) (f t) e.r 0 j := by
  have hq2 := qn_two M
  rw [ro, so, Alg.sm_zero, Alg.sm_zero]
  congr 1
  refine Alg.sm_congr fun i hi => ?_
  have hX := e.X_S (q := (qn M : Nat)) (by omega) t hin i
  -- both are sums over all places
  let L := t + 1 + e.n i j + (e.deg i + 1)
  have h1 : sm (min (t + 1) (e.n i j)) (e.rt M f t j i) = sm L fun d => if d ≤ t then ein M (e.co i j d) * ein M (f (t - d) i) else 0 := by
    have e1 : sm (min (t + 1) (e.n i j)) (e.rt M f t j i) = sm (min (t + 1) (e.n i j)) fun d => if d ≤ t then ein M (e.co i j d) * ein M (f (t - d) i) else 0 :=
      Alg.sm_congr fun d hd => by rw [rt, if_pos (by omega), co, if_pos (by omega)]
    rw [e1]
    refine (Alg.sm_ext (by omega) fun d d1 d2 => ?_).symm
    by_cases h3 : d ≤ t
    · rw [if_pos h3, co, if_neg (by omega), ein_zero h, Alg.zero_mul]
    · exact if_neg h3
  have h2 : sm (e.deg i + 1) (e.tm M (e.S (qn M : Nat) f t) (f t) j i) = sm L fun d => if d ≤ t then ein M (e.co i j d) * ein M (f (t - d) i) else 0 := by
    have e1 : sm (e.deg i + 1) (e.tm M (e.S (qn M : Nat) f t) (f t) j i) = sm (e.deg i + 1) fun d => if d ≤ t then ein M (e.co i j d) * ein M (f (t - d) i) else 0 :=
      Alg.sm_congr fun d hd => by
        rw [tm, hX d hi (by omega)]
        by_cases h3 : d ≤ t
        · rw [if_pos h3, if_pos h3, Alg.mul_comm]
        · rw [if_neg h3, if_neg h3, ein_zero h, Alg.zero_mul]
    rw [e1]
    refine (Alg.sm_ext (by omega) fun d d1 d2 => ?_).symm
    by_cases h3 : d ≤ t
    · rw [if_pos h3, e.co_big (hw i hi) (by omega), ein_zero h, Alg.zero_mul]
    · exact if_neg h3
  rw [h1, h2]
end
end Go.Proofs.Ytdpibcniodhinaa.Gh
/- Messages: errors, outputs by the program and by the reference. -/
namespace Go.Proofs.Ytdpibcniodhinaa.Gh
open Go Go.RowKit
open Alg (CR Ps Dg Zm Mn El Cg sm pw Irr Prm)
set_option linter.unusedVariables false
set_option linter.unusedSimpArgs false

/-- a message -/
def msr (l : Nat → Nat) (f : Nat → Nat → Int) : Nat → GV := fun t => isl (l t) (f t)
theorem msr_at (l : Nat → Nat) (f : Nat → Nat → Int) (t : Nat) : msr l f t = isl (l t) (f t) := rfl
abbrev msg (T : Nat) (l : Nat → Nat) (f : Nat → Nat → Int) : GV := .sl T (tab T (msr l f))
/-- the first error of a message -/
noncomputable def stE (r : Nat) (l : Nat → Nat) (f : Nat → Nat → Int) (q : Int) : Nat → Int
  | 0 => 0
  | t + 1 => if stE r l f q t = 0 then inE r (l t) (f t) q else stE r l f q t
theorem stE_up {r : Nat} {l : Nat → Nat} {f : Nat → Nat → Int} {q : Int} {t T : Nat} (h : t ≤ T) (h0 : stE r l f q t ≠ 0) : stE r l f q T = stE r l f q t := by
  induction T with
  | zero => have : t = 0 := by omega
            subst this; rfl
  | succ T ih =>
    by_cases e : t = T + 1
    · subst e; rfl
    · have := ih (by omega)
      rw [stE, if_neg (by rw [this]; exact h0)]; exact this
theorem stE_ok {r : Nat} {l : Nat → Nat} {f : Nat → Nat → Int} {q : Int} {T : Nat} (h : stE r l f q T = 0) : ∀ t, t < T → l t = r ∧ ∀ i, i < r → 0 ≤ f t i ∧ f t i < q := by
  induction T with
  | zero => intro t ht; omega
  | succ T ih =>
    rw [stE] at h
    by_cases h0 : stE r l f q T = 0
    · rw [if_pos h0] at h
      intro t ht
      by_cases e : t = T
      · subst e
        obtain ⟨h1, h2⟩ := inE_ok h
        exact ⟨h1, fun i hi => h2 i (by omega)⟩
      · exact ih h0 t (by omega)
    · rw [if_neg h0] at h; exact absurd h h0
theorem sp_ref20_Steps {H : Heap} {n : Nat} (e : Enc) (hB : e.Bnd) (T : Nat) (l : Nat → Nat) (f : Nat → Nat → Int) (hT : T ≤ 1000000) : Spec prog fid_ref20_Steps [e.gv, msg T l f] H n (.int .i64 (stE e.r l f (qo e.p e.m) T)) H n := by
  refine spec_ends hmix ok_ref20_Steps rfl fun hF => ?_
  show gw prog B_ref20_Steps _ (tl 22 _) H n
  simp -implicitDefEqProofs only [B_ref20_Steps, go_sem, Nat.reduceLT, Nat.reduceBEq, Nat.reduceAdd, Nat.reduceEqDiff, Nat.reduceLeDiff, Nat.reduceSub, Nat.reduceMul]
  refine loop_rule (fun (t : Nat) E H' n' => n' = n + 1 ∧ H' n = some e.cs ∧ (∀ b, b < n → H' b = H b) ∧ E 1 = msg T l f ∧ E 2 = .ptr n 0 ∧ E 5 = .int .i64 (t : Nat) ∧ t ≤ T ∧ stE e.r l f (qo e.p e.m) t = 0) (fun t => T - t) 0 ⟨rfl, by simp -implicitDefEqProofs only [go_sem, Nat.reduceLT, Nat.reduceBEq, Nat.reduceAdd, Nat.reduceEqDiff, Nat.reduceLeDiff, Nat.reduceSub, Nat.reduceMul], fun b hb => upd_ne _ _ (by omega), rfl, rfl, rfl, by omega, rfl⟩ ?_
  rintro t E H' n' ⟨rfl, h0, ho, e1, e2, e5, ht, hz⟩
  simp -implicitDefEqProofs only [go_sem, Nat.reduceLT, Nat.reduceBEq, Nat.reduceAdd, Nat.reduceEqDiff, Nat.reduceLeDiff, Nat.reduceSub, Nat.reduceMul, e1, e5]
  refine c_split (fun hc => ?_) (fun hc => ?_)
  · have htN : t < T := by omega
    have hwt := wrap64 (x := (t : Int) + 1) (by omega)
    have hs : stE e.r l f (qo e.p e.m) (t + 1) = inE e.r (l t) (f t) (qo e.p e.m) := by rw [stE, if_pos hz]
    simp -implicitDefEqProofs only [go_sem, Nat.reduceLT, Nat.reduceBEq, Nat.reduceAdd, Nat.reduceEqDiff, Nat.reduceLeDiff, Nat.reduceSub, Nat.reduceMul, e1, e2, e5, h0, hc, htN, gat_tab, msr_at]
    refine call_of (sp_ref20_List e hB (l t) (f t)) ?_
    by_cases hE : inE e.r (l t) (f t) (qo e.p e.m) = 0
    · simp -implicitDefEqProofs only [go_sem, Nat.reduceLT, Nat.reduceBEq, Nat.reduceAdd, Nat.reduceEqDiff, Nat.reduceLeDiff, Nat.reduceSub, Nat.reduceMul, hE, e5, hwt]
      exact l_n ⟨t + 1, by omega, rfl, h0, ho, by simp -implicitDefEqProofs only [go_sem, Nat.reduceLT, Nat.reduceBEq, Nat.reduceAdd, Nat.reduceEqDiff, Nat.reduceLeDiff, Nat.reduceSub, Nat.reduceMul, e1], by simp -implicitDefEqProofs only [go_sem, Nat.reduceLT, Nat.reduceBEq, Nat.reduceAdd, Nat.reduceEqDiff, Nat.reduceLeDiff, Nat.reduceSub, Nat.reduceMul, e2], by simp -implicitDefEqProofs only [go_sem, Nat.reduceLT, Nat.reduceBEq, Nat.reduceAdd, Nat.reduceEqDiff, Nat.reduceLeDiff, Nat.reduceSub, Nat.reduceMul]; rfl, by omega, hs.trans hE⟩
    · simp -implicitDefEqProofs only [go_sem, Nat.reduceLT, Nat.reduceBEq, Nat.reduceAdd, Nat.reduceEqDiff, Nat.reduceLeDiff, Nat.reduceSub, Nat.reduceMul, hE]
      refine fin_ret rfl (by decide) ?_ ho
      simp -implicitDefEqProofs only [go_sem, Nat.reduceLT, Nat.reduceBEq, Nat.reduceAdd, Nat.reduceEqDiff, Nat.reduceLeDiff, Nat.reduceSub, Nat.reduceMul]
      exact fz_int (by rw [stE_up (t := t + 1) (by omega) (by rw [hs]; exact hE), hs])
  · have : t = T := by omega
    subst this
    simp -implicitDefEqProofs only [go_sem, Nat.reduceLT, Nat.reduceBEq, Nat.reduceAdd, Nat.reduceEqDiff, Nat.reduceLeDiff, Nat.reduceSub, Nat.reduceMul]
    refine fin_ret rfl (by decide) ?_ ho
    simp -implicitDefEqProofs only [go_sem, Nat.reduceLT, Nat.reduceBEq, Nat.reduceAdd, Nat.reduceEqDiff, Nat.reduceLeDiff, Nat.reduceSub, Nat.reduceMul]
    exact fz_int hz.symm

section
variable {k : Nat} {M : Mn k}
/-- the outputs of a message, row by row -/
noncomputable def Enc.orow (e : Enc) (M : Mn k) (f : Nat → Nat → Int) : Nat → GV := fun t => isl (e.w 0) fun j => (cn (e.so M (e.S (qn M : Nat) f t) (f t) e.r 0 j) : Nat)
noncomputable def Enc.oval (e : Enc) (M : Mn k) (f : Nat → Nat → Int) (T : Nat) : GV := if T = 0 then .nil else .sl T (tab T (e.orow M f))
theorem sp_encode {H : Heap} {n : Nat} (e : Enc) (hB : e.Bnd) (h : Fi M) (hd : e.Des M) (hce : e.ce = 0) (T : Nat) (l : Nat → Nat) (f : Nat → Nat → Int) (hT : T ≤ 100000) :
    Spec prog fid_conv_machine_encode [e.mch h.gf (qn M), msg T l f] H n (if stE e.r l f (qn M : Nat) T = 0 then .tup [e.oval M f T, .int .i64 0] else .tup [.nil, .int .i64 (stE e.r l f (qn M : Nat) T)]) H n := by
  refine spec_ends hmix ok_conv_machine_encode rfl fun hF => ?_
  show gw prog B_conv_machine_encode _ (tl 39 _) H n
  have hq2 := qn_two M
  have hpw := Enc.pow_le h hd hce (e.ds e.r) (Nat.le_refl _)
  have hP : ((qn M ^ e.ds e.r : Nat) : Int) = ((qn M : Nat) : Int) ^ e.ds e.r := Int.natCast_pow ..
  simp -implicitDefEqProofs only [B_conv_machine_encode, go_sem, Nat.reduceLT, Nat.reduceBEq, Nat.reduceAdd, Nat.reduceEqDiff, Nat.reduceLeDiff, Nat.reduceSub, Nat.reduceMul]
  refine loop_rule (fun (t : Nat) E H' n' => ∃ g, n ≤ n' ∧ (∀ b, b < n → H' b = H b) ∧ Sl H' n n' g t (e.orow M f) ∧ (t = 0 → g = .nil) ∧ E 0 = e.mch h.gf (qn M) ∧ E 6 = g ∧ E 7 = .int .i64 (e.S (qn M : Nat) f t) ∧ E 13 = msg T l f ∧ E 14 = .int .i64 (T : Nat) ∧ E 15 = .int .i64 (t : Nat) ∧ t ≤ T ∧ stE e.r l f (qn M : Nat) t = 0) (fun t => T - t) 0 ⟨.nil, by omega, fun _ _ => rfl, .nil, fun _ => rfl, rfl, rfl, rfl, rfl, rfl, rfl, by omega, rfl⟩ ?_
  rintro t E H' n' ⟨g, hn, ho, sl, hg0, e0, e6, e7, e13, e14, e15, ht, hz⟩
  simp -implicitDefEqProofs only [go_sem, Nat.reduceLT, Nat.reduceBEq, Nat.reduceAdd, Nat.reduceEqDiff, Nat.reduceLeDiff, Nat.reduceSub, Nat.reduceMul, e14, e15]
  refine c_split (fun hc => ?_) (fun hc => ?_)
  · have htN : t < T := by omega
    have hwt := wrap64 (x := (t : Int) + 1) (by omega)
    have hs : stE e.r l f (qn M : Nat) (t + 1) = inE e.r (l t) (f t) (qn M : Nat) := by rw [stE, if_pos hz]
    simp -implicitDefEqProofs only [go_sem, Nat.reduceLT, Nat.reduceBEq, Nat.reduceAdd, Nat.reduceEqDiff, Nat.reduceLeDiff, Nat.reduceSub, Nat.reduceMul, e0, e13, e15, hc, htN, gat_tab, msr_at]
    refine call_of (sp_input e hB h (l t) (f t)) ?_
    by_cases hE : inE e.r (l t) (f t) (qn M : Nat) = 0
    · obtain ⟨hl, hf⟩ := inE_ok hE
      have hok := stE_ok hz
      have hS := e.S_in (q := (qn M : Nat)) (f := f) (by omega) t fun u hu i hi => (hok u hu).2 i hi
      rw [hl] at hf hE hs ⊢
      simp -implicitDefEqProofs only [go_sem, Nat.reduceLT, Nat.reduceBEq, Nat.reduceAdd, Nat.reduceEqDiff, Nat.reduceLeDiff, Nat.reduceSub, Nat.reduceMul, hE, e0, e7]
      refine call_of (sp_step e hB h hd hce (e.S (qn M : Nat) f t) (f t) hS.1 (by omega) hf) ?_
      simp -implicitDefEqProofs only [go_sem, Nat.reduceLT, Nat.reduceBEq, Nat.reduceAdd, Nat.reduceEqDiff, Nat.reduceLeDiff, Nat.reduceSub, Nat.reduceMul, e6]
      have sl' : Sl (upd H' n' (some [isl (e.w 0) fun j => ((cn (e.so M (e.S (qn M : Nat) f t) (f t) e.r 0 j) : Nat) : Int)])) n (n' + 1) g t (e.orow M f) := sl.keep (fun c hc => upd_ne _ _ (by have := sl.lt hc; omega)) (by omega)
      refine app_one sl' rfl rfl (by omega) fun H2 k1 k2 => ?_
      simp -implicitDefEqProofs only [go_sem, Nat.reduceLT, Nat.reduceBEq, Nat.reduceAdd, Nat.reduceEqDiff, Nat.reduceLeDiff, Nat.reduceSub, Nat.reduceMul, e15, hwt]
      refine l_n ⟨t + 1, by omega, .own (n' + 1) 0 (t + 1), by omega, fun b hb => ?_, .inr ⟨n' + 1, by omega, by omega, rfl, k1⟩, fun h => by omega, by simp -implicitDefEqProofs only [go_sem, Nat.reduceLT, Nat.reduceBEq, Nat.reduceAdd, Nat.reduceEqDiff, Nat.reduceLeDiff, Nat.reduceSub, Nat.reduceMul, e0], by simp -implicitDefEqProofs only [go_sem, Nat.reduceLT, Nat.reduceBEq, Nat.reduceAdd, Nat.reduceEqDiff, Nat.reduceLeDiff, Nat.reduceSub, Nat.reduceMul], by simp -implicitDefEqProofs only [go_sem, Nat.reduceLT, Nat.reduceBEq, Nat.reduceAdd, Nat.reduceEqDiff, Nat.reduceLeDiff, Nat.reduceSub, Nat.reduceMul]; rfl, by simp -implicitDefEqProofs only [go_sem, Nat.reduceLT, Nat.reduceBEq, Nat.reduceAdd, Nat.reduceEqDiff, Nat.reduceLeDiff, Nat.reduceSub, Nat.reduceMul, e13], by simp -implicitDefEqProofs only [go_sem, Nat.reduceLT, Nat.reduceBEq, Nat.reduceAdd, Nat.reduceEqDiff, Nat.reduceLeDiff, Nat.reduceSub, Nat.reduceMul, e14], by simp -implicitDefEqProofs only [go_sem, Nat.reduceLT, Nat.reduceBEq, Nat.reduceAdd, Nat.reduceEqDiff, Nat.reduceLeDiff, Nat.reduceSub, Nat.reduceMul]; rfl, by omega, hs.trans hE⟩
      rw [k2 b (by omega) fun hg => by have := sl.lt hg; omega, upd_ne _ _ (by omega)]; exact ho b hb
    · have hne : stE e.r l f (qn M : Nat) T = inE e.r (l t) (f t) (qn M : Nat) := by rw [stE_up (t := t + 1) (by omega) (by rw [hs]; exact hE), hs]
      rw [if_neg (by rw [hne]; exact hE), hne]
      simp -implicitDefEqProofs only [go_sem, Nat.reduceLT, Nat.reduceBEq, Nat.reduceAdd, Nat.reduceEqDiff, Nat.reduceLeDiff, Nat.reduceSub, Nat.reduceMul, hE]
      exact fin_ret2 rfl (by decide) (by decide) (by simp -implicitDefEqProofs only [go_sem, Nat.reduceLT, Nat.reduceBEq, Nat.reduceAdd, Nat.reduceEqDiff, Nat.reduceLeDiff, Nat.reduceSub, Nat.reduceMul]; exact .nil) (by simp -implicitDefEqProofs only [go_sem, Nat.reduceLT, Nat.reduceBEq, Nat.reduceAdd, Nat.reduceEqDiff, Nat.reduceLeDiff, Nat.reduceSub, Nat.reduceMul]; exact fz_int rfl) ho
  · have : t = T := by omega
    subst this
    rw [if_pos hz]
    simp -implicitDefEqProofs only [go_sem, Nat.reduceLT, Nat.reduceBEq, Nat.reduceAdd, Nat.reduceEqDiff, Nat.reduceLeDiff, Nat.reduceSub, Nat.reduceMul, e6]
    refine fin_ret2 rfl (by decide) (by decide) ?_ (by simp -implicitDefEqProofs only [go_sem, Nat.reduceLT, Nat.reduceBEq, Nat.reduceAdd, Nat.reduceEqDiff, Nat.reduceLeDiff, Nat.reduceSub, Nat.reduceMul]; exact fz_int rfl) ho
    simp -implicitDefEqProofs only [go_sem, Nat.reduceLT, Nat.reduceBEq, Nat.reduceAdd, Nat.reduceEqDiff, Nat.reduceLeDiff, Nat.reduceSub, Nat.reduceMul]
    by_cases h0 : t = 0
    · rw [hg0 h0, Enc.oval, if_pos h0]; exact .nil
    · obtain ⟨b, b1, b2, rfl, b3⟩ := sl.own (by omega)
      rw [Enc.oval, if_neg h0]
      refine .ownf b 0 t _ _ b3 (by omega) (fun i a c => by omega) (by rw [tab_len]; omega) tab_len fun j hj => ?_
      rw [Nat.zero_add, gat_tab hj]; exact (pl_isl _ _).tr
theorem sp_conv_Encode {H : Heap} {n : Nat} (e : Enc) (hB : e.Bnd) (h : Fi M) (hd : e.Des M) (T : Nat) (l : Nat → Nat) (f : Nat → Nat → Int) (hT : T ≤ 100000) :
    Spec prog fid_conv_Encode [e.gv, msg T l f] H n (if e.ce = 0 then (if stE e.r l f (qn M : Nat) T = 0 then .tup [e.oval M f T, .int .i64 0] else .tup [.nil, .int .i64 (stE e.r l f (qn M : Nat) T)]) else .tup [.nil, .int .i64 e.ce]) H n := by
  refine spec_ends hmix ok_conv_Encode rfl fun hF => ?_
  show gw prog B_conv_Encode _ (tl 21 _) H n
  have hu : ∀ x b, b < n → upd H n x b = H b := fun x b hb => upd_ne _ _ (by omega)
  simp -implicitDefEqProofs only [B_conv_Encode, go_sem, Nat.reduceLT, Nat.reduceBEq, Nat.reduceAdd, Nat.reduceEqDiff, Nat.reduceLeDiff, Nat.reduceSub, Nat.reduceMul]
  refine call_of (sp_conv_build e hB h hd) ?_
  by_cases hce : e.ce = 0
  · rw [if_pos hce, if_pos hce, hce]
    simp -implicitDefEqProofs only [go_sem, Nat.reduceLT, Nat.reduceBEq, Nat.reduceAdd, Nat.reduceEqDiff, Nat.reduceLeDiff, Nat.reduceSub, Nat.reduceMul]
    refine call_of (sp_encode e hB h hd hce T l f hT) ?_
    by_cases hz : stE e.r l f (qn M : Nat) T = 0
    · rw [if_pos hz]
      simp -implicitDefEqProofs only [go_sem, Nat.reduceLT, Nat.reduceBEq, Nat.reduceAdd, Nat.reduceEqDiff, Nat.reduceLeDiff, Nat.reduceSub, Nat.reduceMul]
      refine fin_ret2 rfl (by decide) (by decide) ?_ (by simp -implicitDefEqProofs only [go_sem, Nat.reduceLT, Nat.reduceBEq, Nat.reduceAdd, Nat.reduceEqDiff, Nat.reduceLeDiff, Nat.reduceSub, Nat.reduceMul]; exact fz_int rfl) (hu _)
      simp -implicitDefEqProofs only [go_sem, Nat.reduceLT, Nat.reduceBEq, Nat.reduceAdd, Nat.reduceEqDiff, Nat.reduceLeDiff, Nat.reduceSub, Nat.reduceMul, Enc.oval]
      split
      · exact .nil
      · exact (Pl.sl _ _ (pl_tab fun i _ => pl_isl _ _)).tr
    · rw [if_neg hz]
      simp -implicitDefEqProofs only [go_sem, Nat.reduceLT, Nat.reduceBEq, Nat.reduceAdd, Nat.reduceEqDiff, Nat.reduceLeDiff, Nat.reduceSub, Nat.reduceMul]
      exact fin_ret2 rfl (by decide) (by decide) (by simp -implicitDefEqProofs only [go_sem, Nat.reduceLT, Nat.reduceBEq, Nat.reduceAdd, Nat.reduceEqDiff, Nat.reduceLeDiff, Nat.reduceSub, Nat.reduceMul]; exact .nil) (by simp -implicitDefEqProofs only [go_sem, Nat.reduceLT, Nat.reduceBEq, Nat.reduceAdd, Nat.reduceEqDiff, Nat.reduceLeDiff, Nat.reduceSub, Nat.reduceMul]; exact fz_int rfl) (hu _)
  · rw [if_neg hce, if_neg hce]
    simp -implicitDefEqProofs only [go_sem, Nat.reduceLT, Nat.reduceBEq, Nat.reduceAdd, Nat.reduceEqDiff, Nat.reduceLeDiff, Nat.reduceSub, Nat.reduceMul, hce]
    exact fin_ret2 rfl (by decide) (by decide) (by simp -implicitDefEqProofs only [go_sem, Nat.reduceLT, Nat.reduceBEq, Nat.reduceAdd, Nat.reduceEqDiff, Nat.reduceLeDiff, Nat.reduceSub, Nat.reduceMul]; exact .nil) (by simp -implicitDefEqProofs only [go_sem, Nat.reduceLT, Nat.reduceBEq, Nat.reduceAdd, Nat.reduceEqDiff, Nat.reduceLeDiff, Nat.reduceSub, Nat.reduceMul]; exact fz_int rfl) (hu _)
end
theorem sp_conv_Encode_fail {H : Heap} {n : Nat} (e : Enc) (hf : ¬ e.Fok) (T : Nat) (l : Nat → Nat) (f : Nat → Nat → Int) : Spec prog fid_conv_Encode [e.gv, msg T l f] H n (.tup [.nil, .int .i64 1]) H n := by
  refine spec_ends hmix ok_conv_Encode rfl fun hF => ?_
  show gw prog B_conv_Encode _ (tl 21 _) H n
  have h10 : ((1 : Int) = 0) = False := by simp
  simp -implicitDefEqProofs only [B_conv_Encode, go_sem, Nat.reduceLT, Nat.reduceBEq, Nat.reduceAdd, Nat.reduceEqDiff, Nat.reduceLeDiff, Nat.reduceSub, Nat.reduceMul]
  refine call_of (sp_conv_build_fail e hf) ?_
  simp -implicitDefEqProofs only [go_sem, Nat.reduceLT, Nat.reduceBEq, Nat.reduceAdd, Nat.reduceEqDiff, Nat.reduceLeDiff, Nat.reduceSub, Nat.reduceMul, h10]
  exact fin_ret2 rfl (by decide) (by decide) (by simp -implicitDefEqProofs only [go_sem, Nat.reduceLT, Nat.reduceBEq, Nat.reduceAdd, Nat.reduceEqDiff, Nat.reduceLeDiff, Nat.reduceSub, Nat.reduceMul]; exact .nil) (by simp -implicitDefEqProofs only [go_sem, Nat.reduceLT, Nat.reduceBEq, Nat.reduceAdd, Nat.reduceEqDiff, Nat.reduceLeDiff, Nat.reduceSub, Nat.reduceMul]; exact fz_int rfl) fun b hb => upd_ne _ _ (by omega)
end Go.Proofs.Ytdpibcniodhinaa.Gh
/- The reference's outputs of a message. -/
namespace Go.Proofs.Ytdpibcniodhinaa.Gh
open Go Go.RowKit
open Alg (CR Ps Dg Zm Mn El Cg sm pw Irr Prm)
set_option linter.unusedVariables false
set_option linter.unusedSimpArgs false

section
variable {k : Nat} {M : Mn k}
set_option maxHeartbeats 4000000 in
theorem sp_ref20_Encode {H : Heap} {n : Nat} (e : Enc) (hB : e.Bnd) (h : Fi M) (hd : e.Des M) (hce : e.ce = 0) (T : Nat) (l : Nat → Nat) (f : Nat → Nat → Int) (hT : T ≤ 100000) (hz : stE e.r l f (qn M : Nat) T = 0) :
    Spec prog fid_ref20_Encode [e.gv, msg T l f] H n (e.oval M f T) H n := by
  refine spec_ends hmix ok_ref20_Encode rfl fun hF => ?_
  show gw prog B_ref20_Encode _ (tl 92 _) H n
  have hr := hB.r
  have hok := Enc.ok hce
  have hr0 : 0 < e.r := by have := hok.2.1.1; omega
  have hw0 := hB.w 0 hr0
  have hst := stE_ok hz
  have hfd : fgv e.p e.m (isl e.l e.mo) = fd M := Des.fd hd
  have sMul : ∀ (H3 : Heap) (n3 : Nat) (x y : Int), Spec prog fid_ref04_Mul [fgv e.p e.m (isl e.l e.mo), .int .i64 x, .int .i64 y] H3 n3 (.int .i64 (cd (ein M x * ein M y))) H3 n3 := fun H3 n3 x y => by rw [hfd]; exact sp_ref04_Mul h.fc x y
  have sAdd : ∀ (H3 : Heap) (n3 : Nat) (x y : Int), Spec prog fid_ref04_Add [fgv e.p e.m (isl e.l e.mo), .int .i64 x, .int .i64 y] H3 n3 (.int .i64 (cd (ein M x + ein M y))) H3 n3 := fun H3 n3 x y => by rw [hfd]; exact sp_ref04_Add h.fc x y
  have hz1 : (0 : Int) < (e.r : Int) := by omega
  have hz3 : (0 : Int).toNat = 0 := rfl
  have hz4 : (0 : Int) ≤ 0 := Int.le_refl 0
  simp -implicitDefEqProofs only [B_ref20_Encode, go_sem, Nat.reduceLT, Nat.reduceBEq, Nat.reduceAdd, Nat.reduceEqDiff, Nat.reduceLeDiff, Nat.reduceSub, Nat.reduceMul]
  refine loop_rule (fun (t : Nat) E H' n' => ∃ g bs, n + 1 ≤ n' ∧ H' n = some e.cs ∧ (∀ b, b < n → H' b = H b) ∧ Sl H' (n + 1) n' g t (fun u => .own (bs u) 0 (e.w 0)) ∧ (t = 0 → g = .nil) ∧ (∀ u, u < t → n + 1 ≤ bs u ∧ bs u < n' ∧ ¬ Own g (bs u) ∧ H' (bs u) = some (tab (e.w 0) (it fun j => (cn (e.so M (e.S (qn M : Nat) f u) (f u) e.r 0 j) : Nat)))) ∧ E 1 = msg T l f ∧ E 2 = .ptr n 0 ∧ E 5 = g ∧ E 6 = .int .i64 (t : Nat) ∧ t ≤ T) (fun t => T - t) 0 ⟨.nil, fun _ => 0, by omega, by simp -implicitDefEqProofs only [go_sem, Nat.reduceLT, Nat.reduceBEq, Nat.reduceAdd, Nat.reduceEqDiff, Nat.reduceLeDiff, Nat.reduceSub, Nat.reduceMul], fun b hb => upd_ne _ _ (by omega), .nil, fun _ => rfl, fun u hu => by omega, rfl, rfl, rfl, rfl, by omega⟩ ?_
  rintro t E H' n' ⟨g, bs, hn, h0, ho, sl, hg0, hrows, e1, e2, e5, e6, ht⟩
  simp -implicitDefEqProofs only [go_sem, Nat.reduceLT, Nat.reduceBEq, Nat.reduceAdd, Nat.reduceEqDiff, Nat.reduceLeDiff, Nat.reduceSub, Nat.reduceMul, e1, e6]
  refine c_split (fun hc => ?_) (fun hc => ?_)
  · have htN : t < T := by omega
    have hwt := wrap64 (x := (t : Int) + 1) (by omega)
    have f0 : (n = n') = False := eq_false (by omega)
    simp -implicitDefEqProofs only [go_sem, Nat.reduceLT, Nat.reduceBEq, Nat.reduceAdd, Nat.reduceEqDiff, Nat.reduceLeDiff, Nat.reduceSub, Nat.reduceMul, e2, h0, hz1, hr0, hz3, hz4, gat_tab, e.rw_at]
    repeat with_reducible refine And.intro (by omega) ?_
    refine loop_rule (fun (j : Nat) E H1 n1 => n1 = n' + 1 ∧ H1 n' = some (tab (e.w 0) (it (mix (fun j => (cn (e.ro M f t j e.r 0) : Nat)) (fun _ => 0) j))) ∧ (∀ c, c ≠ n' → H1 c = H' c) ∧ E 1 = msg T l f ∧ E 2 = .ptr n 0 ∧ E 5 = g ∧ E 6 = .int .i64 (t : Nat) ∧ E 7 = .own n' 0 (e.w 0) ∧ E 8 = .int .i64 (j : Nat) ∧ j ≤ e.w 0) (fun j => e.w 0 - j) 0 ?_ ?_
    · refine ⟨rfl, ?_, fun c hc => upd_ne _ _ hc, by simp -implicitDefEqProofs only [go_sem, Nat.reduceLT, Nat.reduceBEq, Nat.reduceAdd, Nat.reduceEqDiff, Nat.reduceLeDiff, Nat.reduceSub, Nat.reduceMul, e1], by simp -implicitDefEqProofs only [go_sem, Nat.reduceLT, Nat.reduceBEq, Nat.reduceAdd, Nat.reduceEqDiff, Nat.reduceLeDiff, Nat.reduceSub, Nat.reduceMul, e2], by simp -implicitDefEqProofs only [go_sem, Nat.reduceLT, Nat.reduceBEq, Nat.reduceAdd, Nat.reduceEqDiff, Nat.reduceLeDiff, Nat.reduceSub, Nat.reduceMul, e5], by simp -implicitDefEqProofs only [go_sem, Nat.reduceLT, Nat.reduceBEq, Nat.reduceAdd, Nat.reduceEqDiff, Nat.reduceLeDiff, Nat.reduceSub, Nat.reduceMul, e6], by simp -implicitDefEqProofs only [go_sem, Nat.reduceLT, Nat.reduceBEq, Nat.reduceAdd, Nat.reduceEqDiff, Nat.reduceLeDiff, Nat.reduceSub, Nat.reduceMul], rfl, by omega⟩
      simp -implicitDefEqProofs only [go_sem, Nat.reduceLT, Nat.reduceBEq, Nat.reduceAdd, Nat.reduceEqDiff, Nat.reduceLeDiff, Nat.reduceSub, Nat.reduceMul, tab_rep, mix_zero]; rfl
    clear e1 e2 e5 e6 E
    rintro j E H1 n1 ⟨rfl, hrow, hk, e1, e2, e5, e6, e7, e8, hj⟩
    simp -implicitDefEqProofs only [go_sem, Nat.reduceLT, Nat.reduceBEq, Nat.reduceAdd, Nat.reduceEqDiff, Nat.reduceLeDiff, Nat.reduceSub, Nat.reduceMul, e7, e8]
    refine c_split (fun hcj => ?_) (fun hcj => ?_)
    · have hjN : j < e.w 0 := by omega
      have hjI : ((j : Nat) : Int) < ((e.w 0 : Nat) : Int) := hcj
      have hwj := wrap64 (x := (j : Int) + 1) (by omega)
      simp -implicitDefEqProofs only [go_sem, Nat.reduceLT, Nat.reduceBEq, Nat.reduceAdd, Nat.reduceEqDiff, Nat.reduceLeDiff, Nat.reduceSub, Nat.reduceMul]
      refine loop_rule (fun (i : Nat) E H2 n2 => n2 = n' + 1 ∧ H2 n' = some (tab (e.w 0) (it (upf (mix (fun j => (cn (e.ro M f t j e.r 0) : Nat)) (fun _ => 0) j) j (cn (e.ro M f t j i 0) : Nat)))) ∧ (∀ c, c ≠ n' → H2 c = H' c) ∧ E 1 = msg T l f ∧ E 2 = .ptr n 0 ∧ E 5 = g ∧ E 6 = .int .i64 (t : Nat) ∧ E 7 = .own n' 0 (e.w 0) ∧ E 8 = .int .i64 (j : Nat) ∧ E 9 = .int .i64 (i : Nat) ∧ i ≤ e.r) (fun i => e.r - i) 0 ?_ ?_
      · refine ⟨rfl, ?_, hk, by simp -implicitDefEqProofs only [go_sem, Nat.reduceLT, Nat.reduceBEq, Nat.reduceAdd, Nat.reduceEqDiff, Nat.reduceLeDiff, Nat.reduceSub, Nat.reduceMul, e1], by simp -implicitDefEqProofs only [go_sem, Nat.reduceLT, Nat.reduceBEq, Nat.reduceAdd, Nat.reduceEqDiff, Nat.reduceLeDiff, Nat.reduceSub, Nat.reduceMul, e2], by simp -implicitDefEqProofs only [go_sem, Nat.reduceLT, Nat.reduceBEq, Nat.reduceAdd, Nat.reduceEqDiff, Nat.reduceLeDiff, Nat.reduceSub, Nat.reduceMul, e5], by simp -implicitDefEqProofs only [go_sem, Nat.reduceLT, Nat.reduceBEq, Nat.reduceAdd, Nat.reduceEqDiff, Nat.reduceLeDiff, Nat.reduceSub, Nat.reduceMul, e6], by simp -implicitDefEqProofs only [go_sem, Nat.reduceLT, Nat.reduceBEq, Nat.reduceAdd, Nat.reduceEqDiff, Nat.reduceLeDiff, Nat.reduceSub, Nat.reduceMul, e7], by simp -implicitDefEqProofs only [go_sem, Nat.reduceLT, Nat.reduceBEq, Nat.reduceAdd, Nat.reduceEqDiff, Nat.reduceLeDiff, Nat.reduceSub, Nat.reduceMul, e8], rfl, by omega⟩
        rw [hrow]
        refine congrArg some (tab_congr fun u hu => congrArg (GV.int .i64) ?_)
        by_cases eu : u = j
        · subst eu
          rw [upf_same, mix_at, e.ro_zero, cn_zero]; rfl
        · rw [upf_ne _ _ eu]
      clear hrow hk e1 e2 e5 e6 e7 e8 E H1
      rintro i E H2 n2 ⟨rfl, hrow, hk, e1, e2, e5, e6, e7, e8, e9, hi⟩
      have h0' : H2 n = some e.cs := by rw [hk n (by omega)]; exact h0
      simp -implicitDefEqProofs only [go_sem, Nat.reduceLT, Nat.reduceBEq, Nat.reduceAdd, Nat.reduceEqDiff, Nat.reduceLeDiff, Nat.reduceSub, Nat.reduceMul, e2, e9, h0']
      refine c_split (fun hci => ?_) (fun hci => ?_)
      · have hiN : i < e.r := by omega
        have hiI : ((i : Nat) : Int) < ((e.r : Nat) : Int) := hci
        have hwi := wrap64 (x := (i : Int) + 1) (by omega)
        have hwN : e.w i = e.w 0 := hok.2.1.2.2.2 i hiN
        have hnij := hB.n i j hiN (by omega)
        simp -implicitDefEqProofs only [go_sem, Nat.reduceLT, Nat.reduceBEq, Nat.reduceAdd, Nat.reduceEqDiff, Nat.reduceLeDiff, Nat.reduceSub, Nat.reduceMul]
        refine loop_rule (fun (d : Nat) E H3 n3 => n3 = n' + 1 ∧ H3 n' = some (tab (e.w 0) (it (upf (mix (fun j => (cn (e.ro M f t j e.r 0) : Nat)) (fun _ => 0) j) j (cn (e.ro M f t j i d) : Nat)))) ∧ (∀ c, c ≠ n' → H3 c = H' c) ∧ E 1 = msg T l f ∧ E 2 = .ptr n 0 ∧ E 5 = g ∧ E 6 = .int .i64 (t : Nat) ∧ E 7 = .own n' 0 (e.w 0) ∧ E 8 = .int .i64 (j : Nat) ∧ E 9 = .int .i64 (i : Nat) ∧ E 10 = .int .i64 (d : Nat) ∧ d ≤ min (t + 1) (e.n i j)) (fun d => min (t + 1) (e.n i j) - d) 0 ⟨rfl, hrow, hk, by simp -implicitDefEqProofs only [go_sem, Nat.reduceLT, Nat.reduceBEq, Nat.reduceAdd, Nat.reduceEqDiff, Nat.reduceLeDiff, Nat.reduceSub, Nat.reduceMul, e1], by simp -implicitDefEqProofs only [go_sem, Nat.reduceLT, Nat.reduceBEq, Nat.reduceAdd, Nat.reduceEqDiff, Nat.reduceLeDiff, Nat.reduceSub, Nat.reduceMul, e2], by simp -implicitDefEqProofs only [go_sem, Nat.reduceLT, Nat.reduceBEq, Nat.reduceAdd, Nat.reduceEqDiff, Nat.reduceLeDiff, Nat.reduceSub, Nat.reduceMul, e5], by simp -implicitDefEqProofs only [go_sem, Nat.reduceLT, Nat.reduceBEq, Nat.reduceAdd, Nat.reduceEqDiff, Nat.reduceLeDiff, Nat.reduceSub, Nat.reduceMul, e6], by simp -implicitDefEqProofs only [go_sem, Nat.reduceLT, Nat.reduceBEq, Nat.reduceAdd, Nat.reduceEqDiff, Nat.reduceLeDiff, Nat.reduceSub, Nat.reduceMul, e7], by simp -implicitDefEqProofs only [go_sem, Nat.reduceLT, Nat.reduceBEq, Nat.reduceAdd, Nat.reduceEqDiff, Nat.reduceLeDiff, Nat.reduceSub, Nat.reduceMul, e8], by simp -implicitDefEqProofs only [go_sem, Nat.reduceLT, Nat.reduceBEq, Nat.reduceAdd, Nat.reduceEqDiff, Nat.reduceLeDiff, Nat.reduceSub, Nat.reduceMul, e9], rfl, by omega⟩ ?_
        clear hrow hk h0' e1 e2 e5 e6 e7 e8 e9 E H2
        rintro d E H3 n3 ⟨rfl, hrow, hk, e1, e2, e5, e6, e7, e8, e9, e10, hdd⟩
        have h0' : H3 n = some e.cs := by rw [hk n (by omega)]; exact h0
        by_cases hcd : d < min (t + 1) (e.n i j)
        · have hdt : ((d : Nat) : Int) ≤ ((t : Nat) : Int) := by omega
          have hdn : ((d : Nat) : Int) < ((e.n i j : Nat) : Int) := by omega
          have hdN : d < e.n i j := by omega
          have htd : t - d < T := by omega
          have htdI : ((t - d : Nat) : Int) < ((T : Nat) : Int) := by omega
          have htd0 := Int.natCast_nonneg (t - d)
          have hws : IntKind.i64.wrap (((t : Nat) : Int) - ((d : Nat) : Int)) = ((t - d : Nat) : Int) := (wrap64 (by omega)).trans (by omega)
          have hlr := (hst (t - d) htd).1
          have hil : i < l (t - d) := by omega
          have hilI : ((i : Nat) : Int) < ((l (t - d) : Nat) : Int) := by omega
          have hwd := wrap64 (x := (d : Int) + 1) (by omega)
          have f1 : n < n' + 1 := by omega
          have f2 : n' < n' + 1 := by omega
          have hat : upf (mix (fun j => ((cn (e.ro M f t j e.r 0) : Nat) : Int)) (fun _ => 0) j) j ((cn (e.ro M f t j i d) : Nat) : Int) j = ((cn (e.ro M f t j i d) : Nat) : Int) := upf_same _ _ _
          simp -implicitDefEqProofs only [go_sem, Nat.reduceLT, Nat.reduceBEq, Nat.reduceAdd, Nat.reduceEqDiff, Nat.reduceLeDiff, Nat.reduceSub, Nat.reduceMul, e1, e2, e6, e7, e8, e9, e10, h0', hrow, hiI, hiN, hjI, hjN, hdt, hdn, hdN, gat_tab, e.rw_at, e.pl_at, hwN, msr_at, hws, htd, htdI, htd0, hil, hilI, f1, f2, hat]
          refine mcall_of (.int _ _) (fun H4 n4 _ _ => sMul H4 n4 _ _) ?_
          simp -implicitDefEqProofs only [go_sem, Nat.reduceLT, Nat.reduceBEq, Nat.reduceAdd, Nat.reduceEqDiff, Nat.reduceLeDiff, Nat.reduceSub, Nat.reduceMul]
          refine mcall_of (.int _ _) (fun H4 n4 _ _ => sAdd H4 n4 _ _) ?_
          have hval : cd (ein M ((cn (e.ro M f t j i d) : Nat) : Int) + ein M (cd (ein M (e.c i j d) * ein M (f (t - d) i)))) = ((cn (e.ro M f t j i (d + 1)) : Nat) : Int) := by
            rw [cd_cn (ein M (e.c i j d) * ein M (f (t - d) i)), ein_cn h.fc, ein_cn h.fc, cd_cn, e.ro_step]; rfl
          simp -implicitDefEqProofs only [go_sem, Nat.reduceLT, Nat.reduceBEq, Nat.reduceAdd, Nat.reduceEqDiff, Nat.reduceLeDiff, Nat.reduceSub, Nat.reduceMul, e10, hrow, hjI, hjN, hwd, hval, upf_upf]
          repeat with_reducible refine And.intro (by omega) ?_
          exact l_n ⟨d + 1, by omega, rfl, by simp -implicitDefEqProofs only [go_sem, Nat.reduceLT, Nat.reduceBEq, Nat.reduceAdd, Nat.reduceEqDiff, Nat.reduceLeDiff, Nat.reduceSub, Nat.reduceMul], fun c hc => by rw [upd_ne _ _ hc]; exact hk c hc, by simp -implicitDefEqProofs only [go_sem, Nat.reduceLT, Nat.reduceBEq, Nat.reduceAdd, Nat.reduceEqDiff, Nat.reduceLeDiff, Nat.reduceSub, Nat.reduceMul, e1], by simp -implicitDefEqProofs only [go_sem, Nat.reduceLT, Nat.reduceBEq, Nat.reduceAdd, Nat.reduceEqDiff, Nat.reduceLeDiff, Nat.reduceSub, Nat.reduceMul, e2], by simp -implicitDefEqProofs only [go_sem, Nat.reduceLT, Nat.reduceBEq, Nat.reduceAdd, Nat.reduceEqDiff, Nat.reduceLeDiff, Nat.reduceSub, Nat.reduceMul, e5], by simp -implicitDefEqProofs only [go_sem, Nat.reduceLT, Nat.reduceBEq, Nat.reduceAdd, Nat.reduceEqDiff, Nat.reduceLeDiff, Nat.reduceSub, Nat.reduceMul, e6], by simp -implicitDefEqProofs only [go_sem, Nat.reduceLT, Nat.reduceBEq, Nat.reduceAdd, Nat.reduceEqDiff, Nat.reduceLeDiff, Nat.reduceSub, Nat.reduceMul, e7], by simp -implicitDefEqProofs only [go_sem, Nat.reduceLT, Nat.reduceBEq, Nat.reduceAdd, Nat.reduceEqDiff, Nat.reduceLeDiff, Nat.reduceSub, Nat.reduceMul, e8], by simp -implicitDefEqProofs only [go_sem, Nat.reduceLT, Nat.reduceBEq, Nat.reduceAdd, Nat.reduceEqDiff, Nat.reduceLeDiff, Nat.reduceSub, Nat.reduceMul, e9], by simp -implicitDefEqProofs only [go_sem, Nat.reduceLT, Nat.reduceBEq, Nat.reduceAdd, Nat.reduceEqDiff, Nat.reduceLeDiff, Nat.reduceSub, Nat.reduceMul]; rfl, by omega⟩
        · have hdm : d = min (t + 1) (e.n i j) := by omega
          have hrow' : H3 n' = some (tab (e.w 0) (it (upf (mix (fun j => (cn (e.ro M f t j e.r 0) : Nat)) (fun _ => 0) j) j (cn (e.ro M f t j (i + 1) 0) : Nat)))) := by
            rw [e.ro_row, ← hdm]; exact hrow
          by_cases hdt : ((d : Nat) : Int) ≤ ((t : Nat) : Int)
          · have hdn : ¬ ((d : Nat) : Int) < ((e.n i j : Nat) : Int) := by omega
            simp -implicitDefEqProofs only [go_sem, Nat.reduceLT, Nat.reduceBEq, Nat.reduceAdd, Nat.reduceEqDiff, Nat.reduceLeDiff, Nat.reduceSub, Nat.reduceMul, e2, e6, e8, e9, e10, h0', hiI, hiN, hjI, hjN, hdt, hdn, gat_tab, e.rw_at, e.pl_at, hwN, hwi]
            exact l_n ⟨i + 1, by omega, rfl, hrow', hk, by simp -implicitDefEqProofs only [go_sem, Nat.reduceLT, Nat.reduceBEq, Nat.reduceAdd, Nat.reduceEqDiff, Nat.reduceLeDiff, Nat.reduceSub, Nat.reduceMul, e1], by simp -implicitDefEqProofs only [go_sem, Nat.reduceLT, Nat.reduceBEq, Nat.reduceAdd, Nat.reduceEqDiff, Nat.reduceLeDiff, Nat.reduceSub, Nat.reduceMul, e2], by simp -implicitDefEqProofs only [go_sem, Nat.reduceLT, Nat.reduceBEq, Nat.reduceAdd, Nat.reduceEqDiff, Nat.reduceLeDiff, Nat.reduceSub, Nat.reduceMul, e5], by simp -implicitDefEqProofs only [go_sem, Nat.reduceLT, Nat.reduceBEq, Nat.reduceAdd, Nat.reduceEqDiff, Nat.reduceLeDiff, Nat.reduceSub, Nat.reduceMul, e6], by simp -implicitDefEqProofs only [go_sem, Nat.reduceLT, Nat.reduceBEq, Nat.reduceAdd, Nat.reduceEqDiff, Nat.reduceLeDiff, Nat.reduceSub, Nat.reduceMul, e7], by simp -implicitDefEqProofs only [go_sem, Nat.reduceLT, Nat.reduceBEq, Nat.reduceAdd, Nat.reduceEqDiff, Nat.reduceLeDiff, Nat.reduceSub, Nat.reduceMul, e8], by simp -implicitDefEqProofs only [go_sem, Nat.reduceLT, Nat.reduceBEq, Nat.reduceAdd, Nat.reduceEqDiff, Nat.reduceLeDiff, Nat.reduceSub, Nat.reduceMul]; rfl, by omega⟩
          · simp -implicitDefEqProofs only [go_sem, Nat.reduceLT, Nat.reduceBEq, Nat.reduceAdd, Nat.reduceEqDiff, Nat.reduceLeDiff, Nat.reduceSub, Nat.reduceMul, e6, e9, e10, hdt, hwi]
            exact l_n ⟨i + 1, by omega, rfl, hrow', hk, by simp -implicitDefEqProofs only [go_sem, Nat.reduceLT, Nat.reduceBEq, Nat.reduceAdd, Nat.reduceEqDiff, Nat.reduceLeDiff, Nat.reduceSub, Nat.reduceMul, e1], by simp -implicitDefEqProofs only [go_sem, Nat.reduceLT, Nat.reduceBEq, Nat.reduceAdd, Nat.reduceEqDiff, Nat.reduceLeDiff, Nat.reduceSub, Nat.reduceMul, e2], by simp -implicitDefEqProofs only [go_sem, Nat.reduceLT, Nat.reduceBEq, Nat.reduceAdd, Nat.reduceEqDiff, Nat.reduceLeDiff, Nat.reduceSub, Nat.reduceMul, e5], by simp -implicitDefEqProofs only [go_sem, Nat.reduceLT, Nat.reduceBEq, Nat.reduceAdd, Nat.reduceEqDiff, Nat.reduceLeDiff, Nat.reduceSub, Nat.reduceMul, e6], by simp -implicitDefEqProofs only [go_sem, Nat.reduceLT, Nat.reduceBEq, Nat.reduceAdd, Nat.reduceEqDiff, Nat.reduceLeDiff, Nat.reduceSub, Nat.reduceMul, e7], by simp -implicitDefEqProofs only [go_sem, Nat.reduceLT, Nat.reduceBEq, Nat.reduceAdd, Nat.reduceEqDiff, Nat.reduceLeDiff, Nat.reduceSub, Nat.reduceMul, e8], by simp -implicitDefEqProofs only [go_sem, Nat.reduceLT, Nat.reduceBEq, Nat.reduceAdd, Nat.reduceEqDiff, Nat.reduceLeDiff, Nat.reduceSub, Nat.reduceMul]; rfl, by omega⟩
      · have hir : i = e.r := by omega
        subst hir
        rw [mix_step (fun j => ((cn (e.ro M f t j e.r 0) : Nat) : Int)) (fun _ => 0) j] at hrow
        simp -implicitDefEqProofs only [go_sem, Nat.reduceLT, Nat.reduceBEq, Nat.reduceAdd, Nat.reduceEqDiff, Nat.reduceLeDiff, Nat.reduceSub, Nat.reduceMul, e8, hwj]
        exact l_n ⟨j + 1, by omega, rfl, hrow, hk, by simp -implicitDefEqProofs only [go_sem, Nat.reduceLT, Nat.reduceBEq, Nat.reduceAdd, Nat.reduceEqDiff, Nat.reduceLeDiff, Nat.reduceSub, Nat.reduceMul, e1], by simp -implicitDefEqProofs only [go_sem, Nat.reduceLT, Nat.reduceBEq, Nat.reduceAdd, Nat.reduceEqDiff, Nat.reduceLeDiff, Nat.reduceSub, Nat.reduceMul, e2], by simp -implicitDefEqProofs only [go_sem, Nat.reduceLT, Nat.reduceBEq, Nat.reduceAdd, Nat.reduceEqDiff, Nat.reduceLeDiff, Nat.reduceSub, Nat.reduceMul, e5], by simp -implicitDefEqProofs only [go_sem, Nat.reduceLT, Nat.reduceBEq, Nat.reduceAdd, Nat.reduceEqDiff, Nat.reduceLeDiff, Nat.reduceSub, Nat.reduceMul, e6], by simp -implicitDefEqProofs only [go_sem, Nat.reduceLT, Nat.reduceBEq, Nat.reduceAdd, Nat.reduceEqDiff, Nat.reduceLeDiff, Nat.reduceSub, Nat.reduceMul, e7], by simp -implicitDefEqProofs only [go_sem, Nat.reduceLT, Nat.reduceBEq, Nat.reduceAdd, Nat.reduceEqDiff, Nat.reduceLeDiff, Nat.reduceSub, Nat.reduceMul]; rfl, by omega⟩
    · have hjw : j = e.w 0 := by omega
      subst hjw
      have hrow : H1 n' = some (tab (e.w 0) (it fun j => (cn (e.so M (e.S (qn M : Nat) f t) (f t) e.r 0 j) : Nat))) := by
        rw [hrow]
        refine congrArg some (tab_congr fun u hu => congrArg (GV.int .i64) ?_)
        rw [mix_lt _ _ hu]
        show ((cn (e.ro M f t u e.r 0) : Nat) : Int) = _
        rw [e.ro_so h.fc f t u (fun i hi => by rw [hok.2.1.2.2.2 i hi]; exact hu) fun v hv i hi => (hst v (by omega)).2 i hi]
      have sl0 : Sl H1 (n + 1) (n' + 1) g t (fun u => .own (upf bs t n' u) 0 (e.w 0)) := (sl.keep (fun c hc => hk c (by have := sl.lt hc; omega)) (by omega)).congr fun u hu => by rw [upf_ne _ _ (by omega)]
      simp -implicitDefEqProofs only [go_sem, Nat.reduceLT, Nat.reduceBEq, Nat.reduceAdd, Nat.reduceEqDiff, Nat.reduceLeDiff, Nat.reduceSub, Nat.reduceMul, e5, e7]
      have sl' : Sl (upd H1 (n' + 1) (some [GV.own n' 0 (e.w 0)])) (n + 1) (n' + 2) g t (fun u => .own (upf bs t n' u) 0 (e.w 0)) := sl0.keep (fun c hc => upd_ne _ _ (by have := sl.lt hc; omega)) (by omega)
      refine app_one sl' (by rw [upf_same]) rfl (by omega) fun H2 k1 k2 => ?_
      have keep : ∀ c, c < n' + 1 → ¬ Own g c → H2 c = H1 c := fun c hc hg => by rw [k2 c (by omega) hg, upd_ne _ _ (by omega)]
      simp -implicitDefEqProofs only [go_sem, Nat.reduceLT, Nat.reduceBEq, Nat.reduceAdd, Nat.reduceEqDiff, Nat.reduceLeDiff, Nat.reduceSub, Nat.reduceMul, e6, hwt]
      refine l_n ⟨t + 1, by omega, .own (n' + 2) 0 (t + 1), upf bs t n', by omega, ?_, fun b hb => ?_, .inr ⟨n' + 2, by omega, by omega, rfl, k1⟩, fun h => by omega, fun u hu => ?_, by simp -implicitDefEqProofs only [go_sem, Nat.reduceLT, Nat.reduceBEq, Nat.reduceAdd, Nat.reduceEqDiff, Nat.reduceLeDiff, Nat.reduceSub, Nat.reduceMul, e1], by simp -implicitDefEqProofs only [go_sem, Nat.reduceLT, Nat.reduceBEq, Nat.reduceAdd, Nat.reduceEqDiff, Nat.reduceLeDiff, Nat.reduceSub, Nat.reduceMul, e2], by simp -implicitDefEqProofs only [go_sem, Nat.reduceLT, Nat.reduceBEq, Nat.reduceAdd, Nat.reduceEqDiff, Nat.reduceLeDiff, Nat.reduceSub, Nat.reduceMul], by simp -implicitDefEqProofs only [go_sem, Nat.reduceLT, Nat.reduceBEq, Nat.reduceAdd, Nat.reduceEqDiff, Nat.reduceLeDiff, Nat.reduceSub, Nat.reduceMul]; rfl, by omega⟩
      · rw [keep n (by omega) fun hg => by have := sl.lt hg; omega, hk n (by omega)]; exact h0
      · rw [keep b (by omega) fun hg => by have := sl.lt hg; omega, hk b (by omega)]; exact ho b hb
      · by_cases eu : u = t
        · subst eu
          rw [upf_same]
          refine ⟨by omega, by omega, fun hg => by rw [own_own] at hg; omega, ?_⟩
          rw [keep n' (by omega) fun hg => by have := sl.lt hg; omega]; exact hrow
        · rw [upf_ne _ _ eu]
          obtain ⟨r1, r2, r3, r4⟩ := hrows u (by omega)
          refine ⟨r1, by omega, fun hg => by rw [own_own] at hg; omega, ?_⟩
          rw [keep _ (by omega) r3, hk _ (by omega)]; exact r4
  · have : t = T := by omega
    subst this
    simp -implicitDefEqProofs only [go_sem, Nat.reduceLT, Nat.reduceBEq, Nat.reduceAdd, Nat.reduceEqDiff, Nat.reduceLeDiff, Nat.reduceSub, Nat.reduceMul, e5]
    refine fin_ret rfl (by decide) ?_ ho
    simp -implicitDefEqProofs only [go_sem, Nat.reduceLT, Nat.reduceBEq, Nat.reduceAdd, Nat.reduceEqDiff, Nat.reduceLeDiff, Nat.reduceSub, Nat.reduceMul]
    by_cases h0 : t = 0
    · rw [hg0 h0, Enc.oval, if_pos h0]; exact .nil
    · obtain ⟨b, b1, b2, rfl, b3⟩ := sl.own (by omega)
      rw [Enc.oval, if_neg h0]
      refine .ownf b 0 t _ _ b3 (by omega) (fun i a c => by omega) (by rw [tab_len]; omega) tab_len fun u hu => ?_
      rw [Nat.zero_add, gat_tab hu, gat_tab hu]
      obtain ⟨r1, r2, r3, r4⟩ := hrows u hu
      exact fz_own_isl r4 (by omega)
end

theorem sp_SameRows {H : Heap} {n : Nat} (T : Nat) (l : Nat → Nat) (f : Nat → Nat → Int) (hT : T ≤ 1000000) (hl : ∀ t, t < T → l t ≤ 1000000) : Spec prog fid_ref09_SameRows [if T = 0 then .nil else msg T l f, if T = 0 then .nil else msg T l f] H n (.bool true) H n := by
  refine spec_ends hmix ok_ref09_SameRows rfl fun hF => ?_
  show gw prog B_ref09_SameRows _ (tl 27 _) H n
  by_cases h0 : T = 0
  · rw [if_pos h0]
    have h00 : ¬ (0 : Int) < 0 := by omega
    simp -implicitDefEqProofs only [B_ref09_SameRows, go_sem, Nat.reduceLT, Nat.reduceBEq, Nat.reduceAdd, Nat.reduceEqDiff, Nat.reduceLeDiff, Nat.reduceSub, Nat.reduceMul]
    refine loop_rule (fun (t : Nat) E H' n' => H' = H ∧ n' = n ∧ E 0 = .nil ∧ E 5 = .int .i64 0) (fun t => 0) 0 ⟨rfl, rfl, rfl, rfl⟩ ?_
    rintro t E H' n' ⟨rfl, rfl, e0, e5⟩
    simp -implicitDefEqProofs only [go_sem, Nat.reduceLT, Nat.reduceBEq, Nat.reduceAdd, Nat.reduceEqDiff, Nat.reduceLeDiff, Nat.reduceSub, Nat.reduceMul, e0, e5, Int.lt_irrefl]
    exact fin_ret rfl (by decide) (fz_bool rfl) fun _ _ => rfl
  · rw [if_neg h0]
    simp -implicitDefEqProofs only [B_ref09_SameRows, go_sem, Nat.reduceLT, Nat.reduceBEq, Nat.reduceAdd, Nat.reduceEqDiff, Nat.reduceLeDiff, Nat.reduceSub, Nat.reduceMul]
    refine loop_rule (fun (t : Nat) E H' n' => H' = H ∧ n' = n ∧ E 0 = msg T l f ∧ E 1 = msg T l f ∧ E 5 = .int .i64 (t : Nat) ∧ t ≤ T) (fun t => T - t) 0 ⟨rfl, rfl, rfl, rfl, rfl, by omega⟩ ?_
    rintro t E H' n' ⟨rfl, rfl, e0, e1, e5, ht⟩
    simp -implicitDefEqProofs only [go_sem, Nat.reduceLT, Nat.reduceBEq, Nat.reduceAdd, Nat.reduceEqDiff, Nat.reduceLeDiff, Nat.reduceSub, Nat.reduceMul, e0, e5]
    refine c_split (fun hc => ?_) (fun hc => ?_)
    · have htN : t < T := by omega
      have hwt := wrap64 (x := (t : Int) + 1) (by omega)
      have hS : decide (l t = l t ∧ ∀ i, i < l t → f t i = f t i) = true := decide_eq_true ⟨rfl, fun _ _ => rfl⟩
      simp -implicitDefEqProofs only [go_sem, Nat.reduceLT, Nat.reduceBEq, Nat.reduceAdd, Nat.reduceEqDiff, Nat.reduceLeDiff, Nat.reduceSub, Nat.reduceMul, e0, e1, e5, hc, htN, gat_tab, msr_at]
      refine call_of (sp_SameInts (l t) (l t) (f t) (f t) (hl t htN)) ?_
      rw [hS]
      simp -implicitDefEqProofs only [go_sem, Nat.reduceLT, Nat.reduceBEq, Nat.reduceAdd, Nat.reduceEqDiff, Nat.reduceLeDiff, Nat.reduceSub, Nat.reduceMul, e5, hwt]
      exact l_n ⟨t + 1, by omega, rfl, rfl, by simp -implicitDefEqProofs only [go_sem, Nat.reduceLT, Nat.reduceBEq, Nat.reduceAdd, Nat.reduceEqDiff, Nat.reduceLeDiff, Nat.reduceSub, Nat.reduceMul, e0], by simp -implicitDefEqProofs only [go_sem, Nat.reduceLT, Nat.reduceBEq, Nat.reduceAdd, Nat.reduceEqDiff, Nat.reduceLeDiff, Nat.reduceSub, Nat.reduceMul, e1], by simp -implicitDefEqProofs only [go_sem, Nat.reduceLT, Nat.reduceBEq, Nat.reduceAdd, Nat.reduceEqDiff, Nat.reduceLeDiff, Nat.reduceSub, Nat.reduceMul]; rfl, by omega⟩
    · simp -implicitDefEqProofs only [go_sem, Nat.reduceLT, Nat.reduceBEq, Nat.reduceAdd, Nat.reduceEqDiff, Nat.reduceLeDiff, Nat.reduceSub, Nat.reduceMul]
      exact fin_ret rfl (by decide) (fz_bool rfl) fun _ _ => rfl

theorem sp_ConvEncodes {H : Heap} {n : Nat} (e : Enc) (T : Nat) (l : Nat → Nat) (f : Nat → Nat → Int) : Spec prog fid_law20_ConvEncodes [e.gv, msg T l f] H n (.bool true) H n := by
  refine spec_ends hmix ok_law20_ConvEncodes rfl fun hF => ?_
  show gw prog B_law20_ConvEncodes _ (tl 48 _) H n
  have hu : ∀ x b, b < n → upd H n x b = H b := fun x b hb => upd_ne _ _ (by omega)
  simp -implicitDefEqProofs only [B_law20_ConvEncodes, go_sem, Nat.reduceLT, Nat.reduceBEq, Nat.reduceAdd, Nat.reduceEqDiff, Nat.reduceLeDiff, Nat.reduceSub, Nat.reduceMul]
  refine call_of (sp_few e) ?_
  by_cases hb : e.Bnd ∧ e.gs e.r ≤ 3000
  case neg =>
    simp -implicitDefEqProofs only [go_sem, Nat.reduceLT, Nat.reduceBEq, Nat.reduceAdd, Nat.reduceEqDiff, Nat.reduceLeDiff, Nat.reduceSub, Nat.reduceMul, hb]
    exact fin_ret rfl (by decide) (fz_bool rfl) (hu _)
  have hB := hb.1
  have hb' : decide (e.Bnd ∧ e.gs e.r ≤ 3000) = true := decide_eq_true hb
  rw [hb']
  by_cases hT : T ≤ 100
  case neg =>
    have hTI : (100 : Int) < (T : Nat) := by omega
    simp -implicitDefEqProofs only [go_sem, Nat.reduceLT, Nat.reduceBEq, Nat.reduceAdd, Nat.reduceEqDiff, Nat.reduceLeDiff, Nat.reduceSub, Nat.reduceMul, hTI]
    exact fin_ret rfl (by decide) (fz_bool rfl) (hu _)
  have hTI : ¬ (100 : Int) < (T : Nat) := by omega
  simp -implicitDefEqProofs only [go_sem, Nat.reduceLT, Nat.reduceBEq, Nat.reduceAdd, Nat.reduceEqDiff, Nat.reduceLeDiff, Nat.reduceSub, Nat.reduceMul, hTI]
  rcases e.cases with ⟨k, M, h, hd⟩ | hf
  case inr =>
    refine call_of (sp_conv_Encode_fail e hf T l f) ?_
    simp -implicitDefEqProofs only [go_sem, Nat.reduceLT, Nat.reduceBEq, Nat.reduceAdd, Nat.reduceEqDiff, Nat.reduceLeDiff, Nat.reduceSub, Nat.reduceMul]
    refine call_of (sp_ref20_Check e hB) ?_
    rw [Enc.ce_fail hf]
    have h10 : ((1 : Int) = 0) = False := by simp
    simp -implicitDefEqProofs only [go_sem, Nat.reduceLT, Nat.reduceBEq, Nat.reduceAdd, Nat.reduceEqDiff, Nat.reduceLeDiff, Nat.reduceSub, Nat.reduceMul, h10]
    exact fin_ret rfl (by decide) (fz_bool rfl) (hu _)
  have hqo := hd.qo h
  refine call_of (sp_conv_Encode e hB h hd T l f (by omega)) ?_
  by_cases hce : e.ce = 0
  case neg =>
    rw [if_neg hce]
    simp -implicitDefEqProofs only [go_sem, Nat.reduceLT, Nat.reduceBEq, Nat.reduceAdd, Nat.reduceEqDiff, Nat.reduceLeDiff, Nat.reduceSub, Nat.reduceMul]
    refine call_of (sp_ref20_Check e hB) ?_
    simp -implicitDefEqProofs only [go_sem, Nat.reduceLT, Nat.reduceBEq, Nat.reduceAdd, Nat.reduceEqDiff, Nat.reduceLeDiff, Nat.reduceSub, Nat.reduceMul, hce]
    exact fin_ret rfl (by decide) (fz_bool rfl) (hu _)
  have hok := Enc.ok hce
  have hw0 := hB.w 0 (by have := hok.2.1.1; omega)
  rw [if_pos hce]
  by_cases hz : stE e.r l f (qn M : Nat) T = 0
  · rw [if_pos hz]
    simp -implicitDefEqProofs only [go_sem, Nat.reduceLT, Nat.reduceBEq, Nat.reduceAdd, Nat.reduceEqDiff, Nat.reduceLeDiff, Nat.reduceSub, Nat.reduceMul]
    refine call_of (sp_ref20_Check e hB) ?_
    rw [hce]
    simp -implicitDefEqProofs only [go_sem, Nat.reduceLT, Nat.reduceBEq, Nat.reduceAdd, Nat.reduceEqDiff, Nat.reduceLeDiff, Nat.reduceSub, Nat.reduceMul]
    refine call_of (sp_ref20_Steps e hB T l f (by omega)) ?_
    rw [hqo, hz]
    simp -implicitDefEqProofs only [go_sem, Nat.reduceLT, Nat.reduceBEq, Nat.reduceAdd, Nat.reduceEqDiff, Nat.reduceLeDiff, Nat.reduceSub, Nat.reduceMul]
    refine call_of (sp_ref20_Encode e hB h hd hce T l f (by omega) hz) ?_
    simp -implicitDefEqProofs only [go_sem, Nat.reduceLT, Nat.reduceBEq, Nat.reduceAdd, Nat.reduceEqDiff, Nat.reduceLeDiff, Nat.reduceSub, Nat.reduceMul]
    refine call_of (sp_SameRows T (fun _ => e.w 0) (fun t j => (cn (e.so M (e.S (qn M : Nat) f t) (f t) e.r 0 j) : Nat)) (by omega) fun t ht => by omega) ?_
    simp -implicitDefEqProofs only [go_sem, Nat.reduceLT, Nat.reduceBEq, Nat.reduceAdd, Nat.reduceEqDiff, Nat.reduceLeDiff, Nat.reduceSub, Nat.reduceMul]
    exact fin_ret rfl (by decide) (fz_bool rfl) (hu _)
  · rw [if_neg hz]
    simp -implicitDefEqProofs only [go_sem, Nat.reduceLT, Nat.reduceBEq, Nat.reduceAdd, Nat.reduceEqDiff, Nat.reduceLeDiff, Nat.reduceSub, Nat.reduceMul]
    refine call_of (sp_ref20_Check e hB) ?_
    rw [hce]
    simp -implicitDefEqProofs only [go_sem, Nat.reduceLT, Nat.reduceBEq, Nat.reduceAdd, Nat.reduceEqDiff, Nat.reduceLeDiff, Nat.reduceSub, Nat.reduceMul]
    refine call_of (sp_ref20_Steps e hB T l f (by omega)) ?_
    rw [hqo]
    simp -implicitDefEqProofs only [go_sem, Nat.reduceLT, Nat.reduceBEq, Nat.reduceAdd, Nat.reduceEqDiff, Nat.reduceLeDiff, Nat.reduceSub, Nat.reduceMul, hz]
    exact fin_ret rfl (by decide) (fz_bool rfl) (hu _)
end Go.Proofs.Ytdpibcniodhinaa.Gh
/- The machine step by step against messages. -/
namespace Go.Proofs.Ytdpibcniodhinaa.Gh
open Go Go.RowKit
open Alg (CR Ps Dg Zm Mn El Cg sm pw Irr Prm)
set_option linter.unusedVariables false
set_option linter.unusedSimpArgs false

theorem Enc.mem_ge (e : Enc) : ∀ w i, i < w → e.deg i ≤ e.mem w := by
  intro w
  induction w with
  | zero => intro i h; omega
  | succ w ih =>
    intro i h
    rw [Enc.mem]
    by_cases e1 : i = w
    · subst e1; omega
    · have := ih i (by omega); omega
theorem Enc.mem_le (e : Enc) (h : e.Bnd) : ∀ w, w ≤ e.r → e.mem w ≤ 40 := by
  intro w
  induction w with
  | zero => intro _; exact Nat.zero_le _
  | succ w ih => intro hw; rw [Enc.mem]; have := ih (by omega); have := e.deg_le h (i := w) (by omega); omega
theorem Enc.pos_dec (e : Enc) : ∀ w pos, pos < e.ds w → ∃ i d, i < w ∧ d < e.deg i ∧ pos = e.ds i + d := by
  intro w
  induction w with
  | zero => intro pos h; exact absurd h (Nat.not_lt_zero _)
  | succ w ih =>
    intro pos h
    have h1 : e.ds (w + 1) = e.ds w + e.deg w := rfl
    by_cases h2 : pos < e.ds w
    · obtain ⟨i, d, a, b, c⟩ := ih pos h2
      exact ⟨i, d, by omega, b, c⟩
    · exact ⟨w, pos - e.ds w, by omega, by omega, by omega⟩
theorem Enc.S_back (e : Enc) {q : Int} {f : Nat → Nat → Int} (hq : 2 ≤ q) (T : Nat) (hin : ∀ u, u < T + e.mem e.r → ∀ i, i < e.r → 0 ≤ f u i ∧ f u i < q) (hz : ∀ u, T ≤ u → u < T + e.mem e.r → ∀ i, i < e.r → f u i = 0) : e.S q f (T + e.mem e.r) = 0 := by
  have hS := e.S_in hq _ hin
  rw [← vs_dg hq (e.ds e.r) hS.1 hS.2, vs_congr q (e.ds e.r) (g := fun _ => 0) fun pos hpos => ?_, vs_zero]
  obtain ⟨i, d, h1, h2, rfl⟩ := e.pos_dec e.r pos hpos
  have hm := e.mem_ge e.r i h1
  have h3 := e.X_S hq (T + e.mem e.r) hin i (d + 1) h1 (by omega)
  rw [X, if_neg (by omega), Nat.add_sub_cancel] at h3
  rw [h3]
  by_cases h4 : d + 1 ≤ T + e.mem e.r
  · rw [if_pos h4]; exact hz _ (by omega) (by omega) i h1
  · exact if_neg h4

theorem sp_ref20_Memory {H : Heap} {n : Nat} (e : Enc) (hB : e.Bnd) : Spec prog fid_ref20_Memory [e.gv] H n (.int .i64 (e.mem e.r : Nat)) H n := by
  refine spec_ends hmix ok_ref20_Memory rfl fun hF => ?_
  show gw prog B_ref20_Memory _ (tl 18 _) H n
  have hr := hB.r
  simp -implicitDefEqProofs only [B_ref20_Memory, go_sem, Nat.reduceLT, Nat.reduceBEq, Nat.reduceAdd, Nat.reduceEqDiff, Nat.reduceLeDiff, Nat.reduceSub, Nat.reduceMul]
  refine loop_rule (fun (i : Nat) E H' n' => n' = n + 1 ∧ H' n = some e.cs ∧ (∀ b, b < n → H' b = H b) ∧ E 1 = .ptr n 0 ∧ E 3 = .int .i64 (e.mem i : Nat) ∧ E 4 = .int .i64 (i : Nat) ∧ i ≤ e.r) (fun i => e.r - i) 0 ⟨rfl, by simp -implicitDefEqProofs only [go_sem, Nat.reduceLT, Nat.reduceBEq, Nat.reduceAdd, Nat.reduceEqDiff, Nat.reduceLeDiff, Nat.reduceSub, Nat.reduceMul], fun b hb => upd_ne _ _ (by omega), rfl, rfl, rfl, by omega⟩ ?_
  rintro i E H' n' ⟨rfl, h0, ho, e1, e3, e4, hi⟩
  simp -implicitDefEqProofs only [go_sem, Nat.reduceLT, Nat.reduceBEq, Nat.reduceAdd, Nat.reduceEqDiff, Nat.reduceLeDiff, Nat.reduceSub, Nat.reduceMul, e1, e4, h0]
  refine c_split (fun hc => ?_) (fun hc => ?_)
  · have hiN : i < e.r := by omega
    have hwi := wrap64 (x := (i : Int) + 1) (by omega)
    have hmm : (max ((e.mem i : Nat) : Int) ((e.deg i : Nat) : Int)) = ((e.mem (i + 1) : Nat) : Int) := by rw [Enc.mem]; omega
    simp -implicitDefEqProofs only [go_sem, Nat.reduceLT, Nat.reduceBEq, Nat.reduceAdd, Nat.reduceEqDiff, Nat.reduceLeDiff, Nat.reduceSub, Nat.reduceMul, e1, e3, e4, h0]
    refine call_of (sp_ref20_Degree e hB i hiN) ?_
    simp -implicitDefEqProofs only [go_sem, Nat.reduceLT, Nat.reduceBEq, Nat.reduceAdd, Nat.reduceEqDiff, Nat.reduceLeDiff, Nat.reduceSub, Nat.reduceMul, e4, hmm, hwi]
    exact l_n ⟨i + 1, by omega, rfl, h0, ho, by simp -implicitDefEqProofs only [go_sem, Nat.reduceLT, Nat.reduceBEq, Nat.reduceAdd, Nat.reduceEqDiff, Nat.reduceLeDiff, Nat.reduceSub, Nat.reduceMul, e1], by simp -implicitDefEqProofs only [go_sem, Nat.reduceLT, Nat.reduceBEq, Nat.reduceAdd, Nat.reduceEqDiff, Nat.reduceLeDiff, Nat.reduceSub, Nat.reduceMul], by simp -implicitDefEqProofs only [go_sem, Nat.reduceLT, Nat.reduceBEq, Nat.reduceAdd, Nat.reduceEqDiff, Nat.reduceLeDiff, Nat.reduceSub, Nat.reduceMul]; rfl, by omega⟩
  · have : i = e.r := by omega
    subst this
    simp -implicitDefEqProofs only [go_sem, Nat.reduceLT, Nat.reduceBEq, Nat.reduceAdd, Nat.reduceEqDiff, Nat.reduceLeDiff, Nat.reduceSub, Nat.reduceMul, e3]
    refine fin_ret rfl (by decide) ?_ ho
    simp -implicitDefEqProofs only [go_sem, Nat.reduceLT, Nat.reduceBEq, Nat.reduceAdd, Nat.reduceEqDiff, Nat.reduceLeDiff, Nat.reduceSub, Nat.reduceMul]; exact fz_int rfl

def tlen (T r : Nat) (l : Nat → Nat) : Nat → Nat := fun t => if t < T then l t else r
def tval (T : Nat) (f : Nat → Nat → Int) : Nat → Nat → Int := fun t i => if t < T then f t i else 0
set_option maxHeartbeats 4000000 in
theorem sp_ref20_Terminate {H : Heap} {n : Nat} (e : Enc) (hB : e.Bnd) (T : Nat) (l : Nat → Nat) (f : Nat → Nat → Int) (hT : T ≤ 1000) : Spec prog fid_ref20_Terminate [e.gv, msg T l f] H n (msg (T + e.mem e.r) (tlen T e.r l) (tval T f)) H n := by
  refine spec_ends hmix ok_ref20_Terminate rfl fun hF => ?_
  show gw prog B_ref20_Terminate _ (tl 24 _) H n
  have hr := hB.r
  have hm := e.mem_le hB e.r (Nat.le_refl _)
  simp -implicitDefEqProofs only [B_ref20_Terminate, go_sem, Nat.reduceLT, Nat.reduceBEq, Nat.reduceAdd, Nat.reduceEqDiff, Nat.reduceLeDiff, Nat.reduceSub, Nat.reduceMul]
  repeat with_reducible refine And.intro (by omega) ?_
  refine loop_rule (fun (i : Nat) E H' n' => ∃ (b : Nat) (bs : Nat → Nat), n + 1 ≤ n' ∧ H' n = some e.cs ∧ (∀ b, b < n → H' b = H b) ∧ n + 1 ≤ b ∧ b < n' ∧ H' b = some (tab (T + i) fun u => if u < T then isl (l u) (f u) else .own (bs u) 0 e.r) ∧ (∀ u, T ≤ u → u < T + i → n + 1 ≤ bs u ∧ bs u < n' ∧ bs u ≠ b ∧ H' (bs u) = some (tab e.r (it fun _ => 0))) ∧ E 2 = .ptr n 0 ∧ E 5 = .own b 0 (T + i) ∧ E 6 = .int .i64 (i : Nat) ∧ i ≤ e.mem e.r) (fun i => e.mem e.r - i) 0 ?_ ?_
  · refine ⟨n + 1, fun _ => 0, by omega, by simp -implicitDefEqProofs only [go_sem, Nat.reduceLT, Nat.reduceBEq, Nat.reduceAdd, Nat.reduceEqDiff, Nat.reduceLeDiff, Nat.reduceSub, Nat.reduceMul], fun b hb => by rw [upd_ne _ _ (by omega), upd_ne _ _ (by omega)], by omega, by omega, ?_, fun u h1 h2 => by omega, rfl, by simp -implicitDefEqProofs only [go_sem, Nat.reduceLT, Nat.reduceBEq, Nat.reduceAdd, Nat.reduceEqDiff, Nat.reduceLeDiff, Nat.reduceSub, Nat.reduceMul], by simp -implicitDefEqProofs only [go_sem, Nat.reduceLT, Nat.reduceBEq, Nat.reduceAdd, Nat.reduceEqDiff, Nat.reduceLeDiff, Nat.reduceSub, Nat.reduceMul]; rfl, by omega⟩
    rw [upd_same]
    refine congrArg some (tab_congr fun u hu => ?_)
    rw [if_pos (by omega)]; rfl
  rintro i E H' n' ⟨b, bs, hn, h0, ho, b1, b2, hb, hrows, e2, e5, e6, hi⟩
  simp -implicitDefEqProofs only [go_sem, Nat.reduceLT, Nat.reduceBEq, Nat.reduceAdd, Nat.reduceEqDiff, Nat.reduceLeDiff, Nat.reduceSub, Nat.reduceMul, e2, e6, h0]
  refine call_of (sp_ref20_Memory e hB) ?_
  simp -implicitDefEqProofs only [go_sem, Nat.reduceLT, Nat.reduceBEq, Nat.reduceAdd, Nat.reduceEqDiff, Nat.reduceLeDiff, Nat.reduceSub, Nat.reduceMul]
  refine c_split (fun hc => ?_) (fun hc => ?_)
  · have hwi := wrap64 (x := (i : Int) + 1) (by omega)
    have f1 : (n = n') = False := eq_false (by omega)
    simp -implicitDefEqProofs only [go_sem, Nat.reduceLT, Nat.reduceBEq, Nat.reduceAdd, Nat.reduceEqDiff, Nat.reduceLeDiff, Nat.reduceSub, Nat.reduceMul, e2, e5, h0]
    repeat with_reducible refine And.intro (by omega) ?_
    have sl : Sl (upd (upd H' n' (some (List.replicate e.r (GV.int .i64 0)))) (n' + 1) (some [GV.own n' 0 e.r])) (n + 1) (n' + 2) (.own b 0 (T + i)) (T + i) (fun u => if u < T then isl (l u) (f u) else .own (upf bs (T + i) n' u) 0 e.r) := by
      refine .inr ⟨b, b1, by omega, rfl, ?_⟩
      rw [upd_ne _ _ (by omega), upd_ne _ _ (by omega), hb]
      refine congrArg some (tab_congr fun u hu => ?_)
      by_cases h1 : u < T
      · rw [if_pos h1, if_pos h1]
      · rw [if_neg h1, if_neg h1, upf_ne _ _ (by omega)]
    refine app_one sl (by rw [if_neg (by omega), upf_same]) rfl (by omega) fun H2 k1 k2 => ?_
    have keep : ∀ c, c < n' → c ≠ b → H2 c = H' c := fun c hc hcb => by rw [k2 c (by omega) (fun hg => hcb (own_own.1 hg)), upd_ne _ _ (by omega), upd_ne _ _ (by omega)]
    simp -implicitDefEqProofs only [go_sem, Nat.reduceLT, Nat.reduceBEq, Nat.reduceAdd, Nat.reduceEqDiff, Nat.reduceLeDiff, Nat.reduceSub, Nat.reduceMul, e6, hwi]
    refine l_n ⟨i + 1, by omega, n' + 2, upf bs (T + i) n', by omega, ?_, fun c hc => ?_, by omega, by omega, k1, fun u h1 h2 => ?_, by simp -implicitDefEqProofs only [go_sem, Nat.reduceLT, Nat.reduceBEq, Nat.reduceAdd, Nat.reduceEqDiff, Nat.reduceLeDiff, Nat.reduceSub, Nat.reduceMul, e2], by simp -implicitDefEqProofs only [go_sem, Nat.reduceLT, Nat.reduceBEq, Nat.reduceAdd, Nat.reduceEqDiff, Nat.reduceLeDiff, Nat.reduceSub, Nat.reduceMul]; rfl, by simp -implicitDefEqProofs only [go_sem, Nat.reduceLT, Nat.reduceBEq, Nat.reduceAdd, Nat.reduceEqDiff, Nat.reduceLeDiff, Nat.reduceSub, Nat.reduceMul]; rfl, by omega⟩
    · rw [keep n (by omega) (by omega)]; exact h0
    · rw [keep c (by omega) (by omega)]; exact ho c hc
    · by_cases eu : u = T + i
      · subst eu
        rw [upf_same]
        refine ⟨by omega, by omega, by omega, ?_⟩
        rw [k2 n' (by omega) (fun hg => by have := own_own.1 hg; omega), upd_ne _ _ (by omega), upd_same, tab_rep]; rfl
      · rw [upf_ne _ _ eu]
        obtain ⟨r1, r2, r3, r4⟩ := hrows u h1 (by omega)
        exact ⟨r1, by omega, by omega, by rw [keep _ r2 r3]; exact r4⟩
  · have : i = e.mem e.r := by omega
    subst this
    simp -implicitDefEqProofs only [go_sem, Nat.reduceLT, Nat.reduceBEq, Nat.reduceAdd, Nat.reduceEqDiff, Nat.reduceLeDiff, Nat.reduceSub, Nat.reduceMul, e5]
    refine fin_ret rfl (by decide) ?_ ho
    simp -implicitDefEqProofs only [go_sem, Nat.reduceLT, Nat.reduceBEq, Nat.reduceAdd, Nat.reduceEqDiff, Nat.reduceLeDiff, Nat.reduceSub, Nat.reduceMul]
    refine .ownf b 0 (T + e.mem e.r) _ _ hb (by omega) (fun i a c => by omega) (by rw [tab_len]; omega) tab_len fun u hu => ?_
    rw [Nat.zero_add, gat_tab hu, gat_tab hu, msr_at]
    by_cases h1 : u < T
    · rw [if_pos h1, tlen, if_pos h1]
      have : isl (l u) (tval T f u) = isl (l u) (f u) := isl_congr fun j _ => if_pos h1
      rw [this]
      exact (pl_isl _ _).tr
    · rw [if_neg h1, tlen, if_neg h1]
      have : isl e.r (tval T f u) = isl e.r (fun _ => 0) := isl_congr fun j _ => if_neg h1
      rw [this]
      obtain ⟨r1, r2, r3, r4⟩ := hrows u (by omega) hu
      exact fz_own_isl r4 (by omega)

theorem sp_SameInts' {H : Heap} {n : Nat} {x y : GV} (a : Nat) (f g : Nat → Int) (ha : a ≤ 1000000) (hx : Rd H n x a f) (hy : Rd H n y a g) (hfg : ∀ i, i < a → f i = g i) : Spec prog fid_ref09_SameInts [x, y] H n (.bool true) H n := by
  refine spec_ends hmix ok_ref09_SameInts rfl fun hF => ?_
  show gw prog B_ref09_SameInts _ (tl 26 _) H n
  have hxl := hx.len
  have hyl := hy.len
  simp -implicitDefEqProofs only [B_ref09_SameInts, go_sem, Nat.reduceLT, Nat.reduceBEq, Nat.reduceAdd, Nat.reduceEqDiff, Nat.reduceLeDiff, Nat.reduceSub, Nat.reduceMul, hxl, hyl]
  refine loop_rule (fun (i : Nat) E H' n' => H' = H ∧ n' = n ∧ E 0 = x ∧ E 1 = y ∧ E 5 = .int .i64 (i : Nat) ∧ i ≤ a) (fun i => a - i) 0 ⟨rfl, rfl, rfl, rfl, rfl, by omega⟩ ?_
  rintro i E H' n' ⟨rfl, rfl, e0, e1, e5, hi⟩
  simp -implicitDefEqProofs only [go_sem, Nat.reduceLT, Nat.reduceBEq, Nat.reduceAdd, Nat.reduceEqDiff, Nat.reduceLeDiff, Nat.reduceSub, Nat.reduceMul, e0, e5, hxl]
  refine c_split (fun hc => ?_) (fun hc => ?_)
  · have hiN : i < a := by omega
    have hwi := wrap64 (x := (i : Int) + 1) (by omega)
    obtain ⟨pa, pa1, pa2, pa3⟩ := hx.idx i hiN
    obtain ⟨pb, pb1, pb2, pb3⟩ := hy.idx i hiN
    have pa4 := fun q => pa3 q H' n' (Nat.le_refl _) fun _ _ => rfl
    have pb4 := fun q => pb3 q H' n' (Nat.le_refl _) fun _ _ => rfl
    have hfi := hfg i hiN
    simp -implicitDefEqProofs only [go_sem, Nat.reduceLT, Nat.reduceBEq, Nat.reduceAdd, Nat.reduceEqDiff, Nat.reduceLeDiff, Nat.reduceSub, Nat.reduceMul, e0, e1, e5, pa1, pb1, pa4, pb4, hfi, hwi]
    exact l_n ⟨i + 1, by omega, rfl, rfl, by simp -implicitDefEqProofs only [go_sem, Nat.reduceLT, Nat.reduceBEq, Nat.reduceAdd, Nat.reduceEqDiff, Nat.reduceLeDiff, Nat.reduceSub, Nat.reduceMul, e0], by simp -implicitDefEqProofs only [go_sem, Nat.reduceLT, Nat.reduceBEq, Nat.reduceAdd, Nat.reduceEqDiff, Nat.reduceLeDiff, Nat.reduceSub, Nat.reduceMul, e1], by simp -implicitDefEqProofs only [go_sem, Nat.reduceLT, Nat.reduceBEq, Nat.reduceAdd, Nat.reduceEqDiff, Nat.reduceLeDiff, Nat.reduceSub, Nat.reduceMul]; rfl, by omega⟩
  · simp -implicitDefEqProofs only [go_sem, Nat.reduceLT, Nat.reduceBEq, Nat.reduceAdd, Nat.reduceEqDiff, Nat.reduceLeDiff, Nat.reduceSub, Nat.reduceMul]
    exact fin_ret rfl (by decide) (fz_bool rfl) fun _ _ => rfl
end Go.Proofs.Ytdpibcniodhinaa.Gh
/- The statement ConvMachine, over ghost values. -/
namespace Go.Proofs.Ytdpibcniodhinaa.Gh
open Go Go.RowKit
open Alg (CR Ps Dg Zm Mn El Cg sm pw Irr Prm)
set_option linter.unusedVariables false
set_option linter.unusedSimpArgs false

/-- the encoder of the chapter's first example -/
def e4 : Enc := ⟨2, 1, 0, fun _ => 0, 1, fun _ => 2, fun _ _ => 3, fun _ j d => if j = 0 then (if d = 1 then 0 else 1) else 1⟩
theorem sp_four {H : Heap} {n : Nat} : Spec prog fid_law20_four [] H n e4.gv H n := by
  refine spec_ends hmix ok_law20_four rfl fun hF => ?_
  show gw prog B_law20_four _ (tl 7 _) H n
  simp -implicitDefEqProofs only [B_law20_four, go_sem, Nat.reduceLT, Nat.reduceBEq, Nat.reduceAdd, Nat.reduceEqDiff, Nat.reduceLeDiff, Nat.reduceSub, Nat.reduceMul]
  refine fin_cell (b := n) (o := 0) rfl (by decide) (by simp -implicitDefEqProofs only [go_sem, Nat.reduceLT, Nat.reduceBEq, Nat.reduceAdd, Nat.reduceEqDiff, Nat.reduceLeDiff, Nat.reduceSub, Nat.reduceMul]) (by simp -implicitDefEqProofs only [go_sem, Nat.reduceLT, Nat.reduceBEq, Nat.reduceAdd, Nat.reduceEqDiff, Nat.reduceLeDiff, Nat.reduceSub, Nat.reduceMul]; rfl) (Nat.le_refl _) ?_ fun b hb => ?_
  · refine .agg _ _ rfl fun j hj => ?_
    rcases j with _ | _ | _ | _ | j
    · exact .int _ _
    · exact .int _ _
    · exact .nilsl
    · refine .ownf (n + 4) 0 1 _ _ (by simp -implicitDefEqProofs only [go_sem, Nat.reduceLT, Nat.reduceBEq, Nat.reduceAdd, Nat.reduceEqDiff, Nat.reduceLeDiff, Nat.reduceSub, Nat.reduceMul]; rfl) (by omega) (fun i a c => by omega) (Nat.le_refl _) rfl fun t ht => ?_
      have : t = 0 := by omega
      subst this
      refine .ownf (n + 3) 0 2 _ _ (by simp -implicitDefEqProofs only [go_sem, Nat.reduceLT, Nat.reduceBEq, Nat.reduceAdd, Nat.reduceEqDiff, Nat.reduceLeDiff, Nat.reduceSub, Nat.reduceMul]; rfl) (by omega) (fun i a c => by omega) (Nat.le_refl _) rfl fun u hu => ?_
      rcases u with _ | _ | u
      · exact .ownf (n + 1) 0 3 _ _ (by simp -implicitDefEqProofs only [go_sem, Nat.reduceLT, Nat.reduceBEq, Nat.reduceAdd, Nat.reduceEqDiff, Nat.reduceLeDiff, Nat.reduceSub, Nat.reduceMul]; rfl) (by omega) (fun i a c => by omega) (Nat.le_refl _) rfl fun v hv => by
          rcases v with _ | _ | _ | v
          · exact .int _ _
          · exact .int _ _
          · exact .int _ _
          · omega
      · exact .ownf (n + 2) 0 3 _ _ (by simp -implicitDefEqProofs only [go_sem, Nat.reduceLT, Nat.reduceBEq, Nat.reduceAdd, Nat.reduceEqDiff, Nat.reduceLeDiff, Nat.reduceSub, Nat.reduceMul]; rfl) (by omega) (fun i a c => by omega) (Nat.le_refl _) rfl fun v hv => by
          rcases v with _ | _ | _ | v
          · exact .int _ _
          · exact .int _ _
          · exact .int _ _
          · omega
      · omega
    · simp at hj; omega
  · simp only [upd, if_neg (show b ≠ n by omega), if_neg (show b ≠ n + 1 by omega), if_neg (show b ≠ n + 2 by omega), if_neg (show b ≠ n + 3 by omega), if_neg (show b ≠ n + 4 by omega)]
theorem e4_bnd : e4.Bnd := ⟨by decide, fun i _ => (by decide : (2 : Nat) ≤ 70), fun i j _ _ => (by decide : (3 : Nat) ≤ 40)⟩
theorem e4_deg (i : Nat) : e4.deg i = 2 := rfl
theorem e4_qo : qo 2 1 = 2 := by decide
theorem e4_fi : ∃ (k : Nat) (M : Mn k) (_ : Fi M), e4.Des M ∧ M.m = 1 := by
  have hs : Shp 2 1 0 (fun _ => 0) := ⟨by rw [e4_qo]; decide, ⟨by decide, fun d h1 h2 => by omega⟩, fun _ => rfl, fun h => absurd rfl h⟩
  obtain ⟨k, M, h1, h2, h3, h4, h5, h6⟩ := shp_M hs
  have hm : M.m = 1 := by omega
  exact ⟨k, M, ⟨h5, h6, fun d a q d1 d2 => by omega⟩, ⟨h1, h2, h3, h4⟩, hm⟩
theorem e4_ce : e4.ce = 0 := by
  obtain ⟨k, M, h, hd, _⟩ := e4_fi
  have hA := hd.fok h
  have hS : e4.Shp3 := ⟨by decide, by decide, by decide, fun i _ => rfl⟩
  have hqo : qo e4.p e4.m = 2 := e4_qo
  have hE : e4.El := by
    intro i j _ _ d _
    rw [hqo]
    show 0 ≤ (if j = 0 then (if d = 1 then (0 : Int) else 1) else 1) ∧ (if j = 0 then (if d = 1 then (0 : Int) else 1) else 1) < 2
    split
    · split <;> decide
    · decide
  have ht : e4.tot e4.r = 3 := rfl
  rw [Enc.ce, if_pos hA, if_pos hS, if_pos (show e4.w 0 ≤ 64 by decide), if_pos hE, hqo, ht, if_pos (by decide)]
theorem e4_so {k : Nat} {M : Mn k} (h : Fi M) (j : Nat) : e4.so M 0 (fun _ => 1) e4.r 0 j = 1 := by
  have hone : ein M 1 = 1 := by have := ein_cn h.fc (1 : El M); rwa [cn_one] at this
  have h0 : e4.tm M 0 (fun _ => 1) j 0 0 = 1 := by
    have hX : e4.X (qn M : Nat) 0 (fun _ => 1) 0 0 = 1 := rfl
    have hco : e4.co 0 j 0 = 1 := by
      have h1 : e4.co 0 j 0 = e4.c 0 j 0 := if_pos (show (0 : Nat) < 3 by decide)
      rw [h1]
      show (if j = 0 then (if (0 : Nat) = 1 then (0 : Int) else 1) else 1) = 1
      by_cases hj : j = 0
      · rw [if_pos hj]; rfl
      · rw [if_neg hj]
    rw [Enc.tm, hX, hco, hone, Alg.one_mul]
  have hs : ∀ d, e4.tm M 0 (fun _ => 1) j 0 (d + 1) = 0 := fun d => by
    apply e4.tm_zero h.fc
    rw [Enc.X, if_neg (by omega)]
    exact dg_of_zero _ _
  show sm 1 (fun i' => sm 3 (e4.tm M 0 (fun _ => 1) j i')) + sm 0 _ = 1
  rw [Alg.sm_zero, Alg.add_zero, Alg.sm_succ, Alg.sm_zero, Alg.zero_add, Alg.sm_succ, Alg.sm_succ, Alg.sm_succ, Alg.sm_zero, Alg.zero_add, h0, hs, hs, Alg.add_zero, Alg.add_zero]

set_option maxHeartbeats 4000000 in
theorem sp_ConvMachine {H : Heap} {n : Nat} (e : Enc) (T : Nat) (l : Nat → Nat) (f : Nat → Nat → Int) : Spec prog fid_law20_ConvMachine [e.gv, msg T l f] H n (.bool true) H n := by
  refine spec_ends hmix ok_law20_ConvMachine rfl fun hF => ?_
  show gw prog B_law20_ConvMachine _ (tl 100 _) H n
  have hu : ∀ x b, b < n → upd H n x b = H b := fun x b hb => upd_ne _ _ (by omega)
  simp -implicitDefEqProofs only [B_law20_ConvMachine, go_sem, Nat.reduceLT, Nat.reduceBEq, Nat.reduceAdd, Nat.reduceEqDiff, Nat.reduceLeDiff, Nat.reduceSub, Nat.reduceMul]
  refine call_of (sp_few e) ?_
  by_cases hb : e.Bnd ∧ e.gs e.r ≤ 3000
  case neg =>
    simp -implicitDefEqProofs only [go_sem, Nat.reduceLT, Nat.reduceBEq, Nat.reduceAdd, Nat.reduceEqDiff, Nat.reduceLeDiff, Nat.reduceSub, Nat.reduceMul, hb]
    exact fin_ret rfl (by decide) (fz_bool rfl) (hu _)
  have hB := hb.1
  have hb' : decide (e.Bnd ∧ e.gs e.r ≤ 3000) = true := decide_eq_true hb
  rw [hb']
  by_cases hT : T ≤ 100
  case neg =>
    have hTI : (100 : Int) < (T : Nat) := by omega
    simp -implicitDefEqProofs only [go_sem, Nat.reduceLT, Nat.reduceBEq, Nat.reduceAdd, Nat.reduceEqDiff, Nat.reduceLeDiff, Nat.reduceSub, Nat.reduceMul, hTI]
    exact fin_ret rfl (by decide) (fz_bool rfl) (hu _)
  have hTI : ¬ (100 : Int) < (T : Nat) := by omega
  simp -implicitDefEqProofs only [go_sem, Nat.reduceLT, Nat.reduceBEq, Nat.reduceAdd, Nat.reduceEqDiff, Nat.reduceLeDiff, Nat.reduceSub, Nat.reduceMul, hTI]
  refine call_of (sp_ref20_Check e hB) ?_
  by_cases hce : e.ce = 0
  case neg =>
    simp -implicitDefEqProofs only [go_sem, Nat.reduceLT, Nat.reduceBEq, Nat.reduceAdd, Nat.reduceEqDiff, Nat.reduceLeDiff, Nat.reduceSub, Nat.reduceMul, hce]
    exact fin_ret rfl (by decide) (fz_bool rfl) (hu _)
  obtain ⟨k, M, h, hd⟩ : ∃ (k : Nat) (M : Mn k) (_ : Fi M), e.Des M := by
    rcases e.cases with hh | hf
    · exact hh
    · exact absurd (Enc.ok hce).1 hf
  have hqo := hd.qo h
  have hq2 := qn_two M
  have hr := hB.r
  have hm := e.mem_le hB e.r (Nat.le_refl _)
  have hok := Enc.ok hce
  have hw0 := hB.w 0 (by have := hok.2.1.1; omega)
  rw [hce]
  simp -implicitDefEqProofs only [go_sem, Nat.reduceLT, Nat.reduceBEq, Nat.reduceAdd, Nat.reduceEqDiff, Nat.reduceLeDiff, Nat.reduceSub, Nat.reduceMul]
  refine call_of (sp_ref20_Steps e hB T l f (by omega)) ?_
  rw [hqo]
  by_cases hz : stE e.r l f (qn M : Nat) T = 0
  case neg =>
    simp -implicitDefEqProofs only [go_sem, Nat.reduceLT, Nat.reduceBEq, Nat.reduceAdd, Nat.reduceEqDiff, Nat.reduceLeDiff, Nat.reduceSub, Nat.reduceMul, hz]
    exact fin_ret rfl (by decide) (fz_bool rfl) (hu _)
  have hst := stE_ok hz
  rw [hz]
  simp -implicitDefEqProofs only [go_sem, Nat.reduceLT, Nat.reduceBEq, Nat.reduceAdd, Nat.reduceEqDiff, Nat.reduceLeDiff, Nat.reduceSub, Nat.reduceMul]
  refine call_of (sp_ref20_Terminate e hB T l f (by omega)) ?_
  simp -implicitDefEqProofs only [go_sem, Nat.reduceLT, Nat.reduceBEq, Nat.reduceAdd, Nat.reduceEqDiff, Nat.reduceLeDiff, Nat.reduceSub, Nat.reduceMul]
  have hin : ∀ u, ∀ i, i < e.r → 0 ≤ tval T f u i ∧ tval T f u i < (qn M : Nat) := by
    intro u i hi
    unfold tval
    by_cases h1 : u < T
    · rw [if_pos h1]; exact (hst u h1).2 i hi
    · rw [if_neg h1]; omega
  have hlenU : ∀ u, tlen T e.r l u = e.r := by
    intro u
    unfold tlen
    by_cases h1 : u < T
    · rw [if_pos h1]; exact (hst u h1).1
    · exact if_neg h1
  have hinE : ∀ u, inE e.r (tlen T e.r l u) (tval T f u) (qn M : Nat) = 0 := fun u => by rw [inE, if_pos (hlenU u), if_pos fun i hi => hin u i (by rw [hlenU] at hi; exact hi)]
  have hz' : ∀ u, stE e.r (tlen T e.r l) (tval T f) (qn M : Nat) u = 0 := by
    intro u
    induction u with
    | zero => rfl
    | succ u ih => rw [stE, if_pos ih]; exact hinE u
  have hS0 := e.S_back (q := (qn M : Nat)) (f := tval T f) (by omega) T (fun u _ => hin u) fun u h1 _ i _ => if_neg (by omega)
  have hnx := sp_conv_Encode (M := M) (H := upd H n (some e.cs)) (n := n + 1) e hB h hd (T + e.mem e.r) (tlen T e.r l) (tval T f) (by omega)
  rw [if_pos hce, if_pos (hz' _)] at hnx
  refine call_of hnx ?_
  have hTb : T + e.mem e.r ≤ 140 := by omega
  generalize T + e.mem e.r = T' at *
  have hol : hlen (e.oval M (tval T f) T') = some (.int .i64 (T' : Nat)) := by
    rw [Enc.oval]
    split
    · rename_i h0; rw [h0]; rfl
    · rfl
  simp -implicitDefEqProofs only [go_sem, Nat.reduceLT, Nat.reduceBEq, Nat.reduceAdd, Nat.reduceEqDiff, Nat.reduceLeDiff, Nat.reduceSub, Nat.reduceMul, hol]
  refine loop_rule (fun (t : Nat) E H' n' => n' = n + 1 ∧ H' n = some e.cs ∧ (∀ b, b < n → H' b = H b) ∧ E 2 = .ptr n 0 ∧ E 5 = msg T' (tlen T e.r l) (tval T f) ∧ E 6 = e.oval M (tval T f) T' ∧ E 8 = .int .i64 (e.S (qn M : Nat) (tval T f) t) ∧ E 9 = .int .i64 (t : Nat) ∧ t ≤ T') (fun t => T' - t) 0 ⟨rfl, by simp -implicitDefEqProofs only [go_sem, Nat.reduceLT, Nat.reduceBEq, Nat.reduceAdd, Nat.reduceEqDiff, Nat.reduceLeDiff, Nat.reduceSub, Nat.reduceMul], hu _, rfl, rfl, rfl, rfl, rfl, by omega⟩ ?_
  rintro t E H' n' ⟨rfl, h0, ho, e2, e5, e6, e8, e9, ht⟩
  simp -implicitDefEqProofs only [go_sem, Nat.reduceLT, Nat.reduceBEq, Nat.reduceAdd, Nat.reduceEqDiff, Nat.reduceLeDiff, Nat.reduceSub, Nat.reduceMul, e5, e9]
  refine c_split (fun hc => ?_) (fun hc => ?_)
  · have htN : t < T' := by omega
    have hwt := wrap64 (x := (t : Int) + 1) (by omega)
    have hSt := e.S_in (q := (qn M : Nat)) (f := tval T f) (by omega) t fun u _ => hin u
    have hP : ((qn M ^ e.ds e.r : Nat) : Int) = ((qn M : Nat) : Int) ^ e.ds e.r := Int.natCast_pow ..
    have hE0 : e.nxE (qn M ^ e.ds e.r : Nat) (e.S (qn M : Nat) (tval T f) t) (tlen T e.r l t) (tval T f t) = 0 := by
      rw [Enc.nxE, if_pos hce, if_pos ⟨hSt.1, by rw [hP]; exact hSt.2⟩, hqo]; exact hinE t
    have f0 : n < n + 1 := by omega
    have hov : e.oval M (tval T f) T' = .sl T' (tab T' (e.orow M (tval T f))) := by rw [Enc.oval, if_neg (by omega)]
    have hor : e.orow M (tval T f) t = isl (e.w 0) fun j => (cn (e.so M (e.S (qn M : Nat) (tval T f) t) (tval T f t) e.r 0 j) : Nat) := rfl
    simp -implicitDefEqProofs only [go_sem, Nat.reduceLT, Nat.reduceBEq, Nat.reduceAdd, Nat.reduceEqDiff, Nat.reduceLeDiff, Nat.reduceSub, Nat.reduceMul, e2, e5, e8, e9, h0, hc, htN, gat_tab, msr_at, f0]
    refine mcall_of (g := .tup [.int .i64 (e.nx (qn M : Nat) (e.S (qn M : Nat) (tval T f) t) (tval T f t) e.r 0), isl (e.w 0) fun j => (cn (e.so M (e.S (qn M : Nat) (tval T f) t) (tval T f t) e.r 0 j) : Nat), .int .i64 0]) ?_ (fun H1 n1 _ _ => ?_) ?_
    · refine (Pl.tup _ fun j hj => ?_).nr
      rcases j with _ | _ | _ | j
      · exact .int _ _
      · exact pl_isl _ _
      · exact .int _ _
      · simp at hj; omega
    · have := sp_conv_Next (M := M) (H := H1) (n := n1) e hB h hd (e.S (qn M : Nat) (tval T f) t) (tlen T e.r l t) (tval T f t)
      rw [if_pos hE0] at this
      exact this
    simp -implicitDefEqProofs only [go_sem, Nat.reduceLT, Nat.reduceBEq, Nat.reduceAdd, Nat.reduceEqDiff, Nat.reduceLeDiff, Nat.reduceSub, Nat.reduceMul, e6, e9, hov, hc, htN, gat_tab, hor]
    refine call_of (sp_SameInts (e.w 0) (e.w 0) _ _ (by omega)) ?_
    have hTr : decide (e.w 0 = e.w 0 ∧ ∀ j, j < e.w 0 → ((cn (e.so M (e.S (qn M : Nat) (tval T f) t) (tval T f t) e.r 0 j) : Nat) : Int) = ((cn (e.so M (e.S (qn M : Nat) (tval T f) t) (tval T f t) e.r 0 j) : Nat) : Int)) = true := decide_eq_true ⟨rfl, fun _ _ => rfl⟩
    rw [hTr]
    simp -implicitDefEqProofs only [go_sem, Nat.reduceLT, Nat.reduceBEq, Nat.reduceAdd, Nat.reduceEqDiff, Nat.reduceLeDiff, Nat.reduceSub, Nat.reduceMul, e9, hwt]
    exact l_n ⟨t + 1, by omega, rfl, h0, ho, by simp -implicitDefEqProofs only [go_sem, Nat.reduceLT, Nat.reduceBEq, Nat.reduceAdd, Nat.reduceEqDiff, Nat.reduceLeDiff, Nat.reduceSub, Nat.reduceMul, e2], by simp -implicitDefEqProofs only [go_sem, Nat.reduceLT, Nat.reduceBEq, Nat.reduceAdd, Nat.reduceEqDiff, Nat.reduceLeDiff, Nat.reduceSub, Nat.reduceMul, e5], by simp -implicitDefEqProofs only [go_sem, Nat.reduceLT, Nat.reduceBEq, Nat.reduceAdd, Nat.reduceEqDiff, Nat.reduceLeDiff, Nat.reduceSub, Nat.reduceMul, e6, hov], by simp -implicitDefEqProofs only [go_sem, Nat.reduceLT, Nat.reduceBEq, Nat.reduceAdd, Nat.reduceEqDiff, Nat.reduceLeDiff, Nat.reduceSub, Nat.reduceMul]; rfl, by simp -implicitDefEqProofs only [go_sem, Nat.reduceLT, Nat.reduceBEq, Nat.reduceAdd, Nat.reduceEqDiff, Nat.reduceLeDiff, Nat.reduceSub, Nat.reduceMul]; rfl, by omega⟩
  · have : t = T' := by omega
    subst this
    simp -implicitDefEqProofs only [go_sem, Nat.reduceLT, Nat.reduceBEq, Nat.reduceAdd, Nat.reduceEqDiff, Nat.reduceLeDiff, Nat.reduceSub, Nat.reduceMul]
    refine call_of sp_four ?_
    obtain ⟨k4, M4, h4, hd4, hm4⟩ := e4_fi
    have hE4 : e4.nxE (qn M4 ^ e4.ds e4.r : Nat) 0 1 (fun _ => 1) = 0 := by
      have hp : 0 < qn M4 ^ e4.ds e4.r := Nat.pow_pos (by have := qn_two M4; omega)
      rw [Enc.nxE, if_pos e4_ce, if_pos ⟨by omega, by omega⟩, inE, if_pos (show 1 = e4.r from rfl), if_pos fun i _ => ?_]
      have : qo e4.p e4.m = 2 := e4_qo
      rw [this]; decide
    have hone : tab 1 (it fun _ => 1) = [GV.int .i64 1] := rfl
    have hN := sp_conv_Next' (M := M4) (H := upd H' (n + 1) (some [GV.int .i64 1])) (n := n + 2) e4 e4_bnd h4 hd4 0 1 (fun _ => 1) (a := .own (n + 1) 0 1) (Rd.own (by omega) (by rw [upd_same, hone]))
    rw [if_pos hE4] at hN
    simp -implicitDefEqProofs only [go_sem, Nat.reduceLT, Nat.reduceBEq, Nat.reduceAdd, Nat.reduceEqDiff, Nat.reduceLeDiff, Nat.reduceSub, Nat.reduceMul]
    refine call_of hN ?_
    rw [hS0] at e8
    simp -implicitDefEqProofs only [go_sem, Nat.reduceLT, Nat.reduceBEq, Nat.reduceAdd, Nat.reduceEqDiff, Nat.reduceLeDiff, Nat.reduceSub, Nat.reduceMul, e8]
    refine call_of (sp_SameInts' (x := isl (e4.w 0) fun j => (cn (e4.so M4 0 (fun _ => 1) e4.r 0 j) : Nat)) 2 (fun j => (cn (e4.so M4 0 (fun _ => 1) e4.r 0 j) : Nat)) (fun _ => 1) (by omega) (Rd.sl _ _) (Rd.own (by omega) (by rw [upd_same]; rfl)) fun i _ => by rw [e4_so h4, cn_one]; rfl) ?_
    simp -implicitDefEqProofs only [go_sem, Nat.reduceLT, Nat.reduceBEq, Nat.reduceAdd, Nat.reduceEqDiff, Nat.reduceLeDiff, Nat.reduceSub, Nat.reduceMul]
    exact fin_ret rfl (by decide) (fz_bool rfl) fun b hb => by rw [upd_ne _ _ (by omega), upd_ne _ _ (by omega)]; exact ho b hb
end Go.Proofs.Ytdpibcniodhinaa.Gh
/- A slice of the call's own that is handed on for good: it is only read from then on. -/
namespace Go.Proofs.Ytdpibcniodhinaa.Gh
open Go Go.RowKit
set_option linter.unusedVariables false
set_option linter.unusedSimpArgs false

/-- the block b is only read from now on -/
def lay (K : Kr) (b : Nat) : Kr := ⟨K.σ, K.sz, upd K.H b none, K.lo, K.w, fun B => K.S B ∨ (0 < K.sz b ∧ B = K.σ b)⟩
section
variable {K : Kr} {b : Nat} {cs : List GV}
theorem lay_step (hb : b < K.lo) (hH : K.H b = some cs) : KStep K (lay K b) where
  os := rfl
  tape := rfl
  output := rfl
  size := Nat.le_refl _
  S B h := .inl h
  keep B h := rfl
  lo := Nat.le_refl _
  live x h1 h2 := ⟨rfl, rfl⟩
  dies x h1 h2 := by
    by_cases e : x = b
    · subst e; exact hb
    · have h2 : upd K.H b none x = none := h2
      rw [upd_ne _ _ e] at h2; exact absurd h2 h1
  dead x h1 h2 := by
    show upd K.H b none x = none
    by_cases e : x = b
    · subst e; exact upd_same _ _ _
    · rw [upd_ne _ _ e]; exact h2
theorem lay_sat (hs : Sat K) (hb : b < K.lo) (hH : K.H b = some cs) : Sat (lay K b) := by
  have hst := lay_step hb hH
  refine ⟨?_, ?_, ?_, ?_⟩
  · intro x cs' e
    have e : upd K.H b none x = some cs' := e
    by_cases hx : x = b
    · subst hx; rw [upd_same] at e; cases e
    · rw [upd_ne _ _ hx] at e; exact hs.len x cs' e
  · intro x cs' e hz
    have e : upd K.H b none x = some cs' := e
    by_cases hx : x = b
    · subst hx; rw [upd_same] at e; cases e
    · rw [upd_ne _ _ hx] at e
      obtain ⟨row, T, h1, h2, h3, h4⟩ := hs.blk x cs' e hz
      refine ⟨row, T, h1, h2, fun j hj => (h3 j hj).mono hst, fun h => ?_⟩
      rcases h with h | ⟨hz', h⟩
      · exact h4 h
      · exact hx (hs.inj x b (by rw [e]; simp) (by rw [hH]; simp) hz hz' h)
  · intro x y h1 h2 hz1 hz2 e
    have h1 : upd K.H b none x ≠ none := h1
    have h2 : upd K.H b none y ≠ none := h2
    have hx : x ≠ b := fun e => by subst e; rw [upd_same] at h1; exact h1 rfl
    have hy : y ≠ b := fun e => by subst e; rw [upd_same] at h2; exact h2 rfl
    rw [upd_ne _ _ hx] at h1
    rw [upd_ne _ _ hy] at h2
    exact hs.inj x y h1 h2 hz1 hz2 e
  · intro B h
    rcases h with h | ⟨hz, rfl⟩
    · exact hs.sS B h
    · obtain ⟨row, T, h1, _⟩ := hs.blk b cs hH hz
      exact (Array.getElem?_eq_some_iff.1 h1).1
theorem lay_VR (hs : Sat K) (hb : b < K.lo) (hH : K.H b = some cs) {m : Nat} (hl : cs.length = m) {v : Value} (h : VR K (.own b 0 m) v) : VR (lay K b) (.sl m cs) v := by
  have hst := lay_step hb hH
  have zero : ∀ (A : Option Addr) (c : Nat), m = 0 → VR (lay K b) (.sl m cs) (.slice A m c) := fun A c h0 => by
    have hc : cs = [] := List.length_eq_zero_iff.1 (by omega)
    subst hc
    exact .sl0 m c A (by omega)
  cases h with
  | own _ _ _ c h1 h2 h3 =>
    rcases Nat.eq_zero_or_pos m with h0 | h0
    · exact zero _ _ h0
    · have hz : 0 < K.sz b := by omega
      obtain ⟨row, T, r1, r2, r3, r4⟩ := hs.blk b cs hH hz
      refine .sl m c (K.σ b) 0 cs (fun j => vat row j) h3 (.inr ⟨hz, rfl⟩) (fun j hj => ?_) fun j hj => (r3 j hj).mono hst
      have hlen := hs.len b cs hH
      show K.w.cell? ⟨K.σ b, 0 + j, none⟩ = _
      unfold World.cell?
      rw [r1]
      have hj' : j < row.size := by omega
      simp [vat, Array.getD, hj']
  | own0 _ _ A h1 => exact zero _ _ rfl
  | owns _ _ _ B c h1 h2 h3 => rw [hH] at h1; cases h1
end
/-- a slice of the call's own is handed on, and never used again -/
theorem spec_frz {P : Program} {f : FuncId} {xs ys : List GV} {H H' : Heap} {n n' b m : Nat} {cs : List GV} {g : GV} (hb : b < n) (hH : H b = some cs) (hl : cs.length = m)
    (h : Spec P f (xs ++ .sl m cs :: ys) (upd H b none) n g H' n') : Spec P f (xs ++ .own b 0 m :: ys) H n g H' n' := by
  intro K vs e1 e2 hF hs hv
  subst e1 e2
  have hst := lay_step hb hH
  refine Calls.mono (h (lay K b) vs rfl rfl (fun x hx => ?_) (lay_sat hs hb hH) ⟨by rw [hv.1]; simp, fun j hj => ?_⟩) ?_
  · show upd K.H b none x = none
    rw [upd_ne _ _ (by omega)]; exact hF x hx
  · have hj' : j < (xs ++ GV.own b 0 m :: ys).length := by simpa using hj
    have h1 := hv.2 j hj'
    rcases Nat.lt_trichotomy j xs.length with e | e | e
    · have g1 : gat (xs ++ GV.own b 0 m :: ys) j = gat xs j := by simp [gat, List.getD_eq_getElem?_getD, List.getElem?_append, e]
      have g2 : gat (xs ++ GV.sl m cs :: ys) j = gat xs j := by simp [gat, List.getD_eq_getElem?_getD, List.getElem?_append, e]
      rw [g1] at h1; rw [g2]; exact h1.mono hst
    · subst e
      have g1 : gat (xs ++ GV.own b 0 m :: ys) xs.length = .own b 0 m := by simp [gat, List.getD_eq_getElem?_getD]
      have g2 : gat (xs ++ GV.sl m cs :: ys) xs.length = .sl m cs := by simp [gat, List.getD_eq_getElem?_getD]
      rw [g1] at h1; rw [g2]; exact lay_VR hs hb hH hl h1
    · obtain ⟨d, rfl⟩ : ∃ d, j = xs.length + (d + 1) := ⟨j - xs.length - 1, by omega⟩
      have g1 : gat (xs ++ GV.own b 0 m :: ys) (xs.length + (d + 1)) = gat ys d := by simp [gat, List.getD_eq_getElem?_getD, List.getElem?_append_right]
      have g2 : gat (xs ++ GV.sl m cs :: ys) (xs.length + (d + 1)) = gat ys d := by simp [gat, List.getD_eq_getElem?_getD, List.getElem?_append_right]
      rw [g1] at h1; rw [g2]; exact h1.mono hst
  · rintro e w' ⟨v, K', h1, h2, h3, h4, h5, h6, h7, h8⟩
    exact ⟨v, K', h1, h2, hst.trans h3, h4, h5, h6, h7, h8⟩
end Go.Proofs.Ytdpibcniodhinaa.Gh
/- More equations of the evaluator. -/
namespace Go.Proofs.Ytdpibcniodhinaa.Gh
open Go Go.RowKit
set_option linter.unusedVariables false
set_option linter.unusedSimpArgs false
section
variable {P : Program} {N n m n0 : Nat} {E : Env} {H H0 : Heap} {q : Km} {g v : GV} {x y : GX} {t : List GV}
def hmappp (q : Km) (bytes : Nat) : GV → Option (List GV) → Option (List GV) → Prop
  | .nil, some _, some ys => ys.length * bytes ≤ 140737488355328 ∧ q (.sl ys.length ys) none
  | .emp, some _, some ys => ys.length * bytes ≤ 140737488355328 ∧ q (.sl ys.length ys) none
  | .lit _, some cs, some ys => (cs.length + ys.length) * bytes ≤ 140737488355328 ∧ q (.sl (cs.length + ys.length) (cs ++ ys)) none
  | _, _, _ => False
theorem m_appendp (bytes : Nat) : gmop P H0 n0 t n q (.appendp bytes x y) = hmappp q bytes (gev t x) (gelems (below H0 n0) (gev t x)) (gelems (below H0 n0) (gev t y)) := by
  simp only [gmop]
  show (match gelems (below H0 n0) (gev t x), gelems (below H0 n0) (gev t y) with | some cs, some ys => _ | _, _ => False) = _
  generalize gelems (below H0 n0) (gev t x) = u; generalize gev t x = v; generalize gelems (below H0 n0) (gev t y) = w
  unfold hmappp
  cases u <;> cases w <;> cases v <;> rfl
theorem m_appp_nil (bytes : Nat) (ys zs : List GV) : hmappp q bytes .nil (some zs) (some ys) = (ys.length * bytes ≤ 140737488355328 ∧ q (.sl ys.length ys) none) := rfl
theorem m_appp_emp (bytes : Nat) (ys zs : List GV) : hmappp q bytes .emp (some zs) (some ys) = (ys.length * bytes ≤ 140737488355328 ∧ q (.sl ys.length ys) none) := rfl
theorem m_appp_lit (bytes : Nat) (cs zs ys : List GV) : hmappp q bytes (.lit cs) (some zs) (some ys) = ((zs.length + ys.length) * bytes ≤ 140737488355328 ∧ q (.sl (zs.length + ys.length) (zs ++ ys)) none) := rfl
def hmsp (q : Kn) (H : Heap) (n : Nat) (zv : GV) (bytes : Nat) : GV → GV → Prop
  | .int .i64 a, .int .i64 b => 0 ≤ a ∧ a = b ∧ a * bytes ≤ 281474976710656 ∧ 0 < bytes ∧ q (.sl a.toNat (List.replicate a.toNat zv)) H n
  | _, _ => False
theorem e_mslicep {q : Kn} (zv : GV) (bytes : Nat) : gop P t H n q (.mslicep zv bytes x y) = hmsp q H n zv bytes (gev t x) (gev t y) := by
  simp only [gop]; generalize gev t x = v; generalize gev t y = w; unfold hmsp
  cases v <;> cases w <;> first | rfl | (rename_i k1 a k2 b; cases k1 <;> cases k2 <;> rfl)
theorem e_msp_int {q : Kn} (zv : GV) (bytes : Nat) (a b : Int) : hmsp q H n zv bytes (.int .i64 a) (.int .i64 b) = (0 ≤ a ∧ a = b ∧ a * bytes ≤ 281474976710656 ∧ 0 < bytes ∧ q (.sl a.toNat (List.replicate a.toNat zv)) H n) := rfl
theorem e_aa_ptr (len size b o : Nat) (kd : IntKind) (i : Int) : haaddr len size (.ptr b o) (.int kd i) = if 0 ≤ i ∧ i < len then some (.ptr b (o + i.toNat * size)) else none := rfl
theorem e_aa_pp (len size o : Nat) (cs : List GV) (kd : IntKind) (i : Int) : haaddr len size (.pp cs o) (.int kd i) = if 0 ≤ i ∧ i < len then some (.pp cs (o + i.toNat * size)) else none := rfl
def hconv (kd : IntKind) : GV → Option GV
  | .int _ n => some (.int kd (kd.wrap n))
  | _ => none
theorem e_conv' {q : Kn} (kd : IntKind) : gop P t H n q (.conv kd x) = hopt q H n (hconv kd (gev t x)) := by
  rw [e_conv]; generalize gev t x = v; cases v <;> rfl
theorem e_conv_int (kd kd' : IntKind) (i : Int) : hconv kd (.int kd' i) = some (.int kd (kd.wrap i)) := rfl
end
def hisu (q : Kn) (H : Heap) (n : Nat) (neg : Bool) : GV → Prop
  | .sl _ cs => (cs = [] → q (.bool !neg) H n) ∧ q (.bool neg) H n
  | _ => False
theorem e_isnilu {P : Program} {t : List GV} {H : Heap} {n : Nat} {q : Kn} {x : GX} (neg : Bool) : gop P t H n q (.isnilu neg x) = hisu q H n neg (gev t x) := by
  simp only [gop]; generalize gev t x = v; cases v <;> rfl
theorem e_isu_sl {q : Kn} {H : Heap} {n : Nat} (neg : Bool) (m : Nat) (cs : List GV) : hisu q H n neg (.sl m cs) = ((cs = [] → q (.bool !neg) H n) ∧ q (.bool neg) H n) := rfl
/-- what stands for a value may be said in another way -/
theorem spec_arg {P : Program} {f : FuncId} {xs ys : List GV} {H H' : Heap} {n n' : Nat} {g : GV} (hlen : ys.length = xs.length) (hxy : ∀ K v j, j < xs.length → VR K (gat xs j) v → VR K (gat ys j) v) (h : Spec P f ys H n g H' n') : Spec P f xs H n g H' n' := by
  intro K vs e1 e2 hF hs hv
  exact h K vs e1 e2 hF hs ⟨by rw [hv.1, hlen], fun j hj => hxy K _ j (by omega) (hv.2 j (by omega))⟩
theorem vr_nil {K : Kr} {v : Value} (h : VR K .nil v) : VR K (.sl 0 []) v := by
  cases h; exact .sl0 0 0 none (Nat.le_refl _)
attribute [go_sem] m_appendp m_appp_nil m_appp_emp m_appp_lit e_mslicep e_msp_int e_aaddr e_aa_ptr e_aa_pp e_conv' e_conv_int e_isnilu e_isu_sl
end Go.Proofs.Ytdpibcniodhinaa.Gh
/- Rows of the reference: a row plus a multiple of another, weights, sameness. -/
namespace Go.Proofs.Ytdpibcniodhinaa.Gh
open Go Go.RowKit
open Alg (CR Ps Dg Zm Mn El Cg sm pw Irr Prm)
set_option linter.unusedVariables false
set_option linter.unusedSimpArgs false

section
variable {k : Nat} {M : Mn k}
/-- f plus a times g -/
noncomputable def adf (M : Mn k) (a : Int) (f g : Nat → Int) : Nat → Int := fun i => if g i = 0 then f i else (cn (ein M (f i) + ein M a * ein M (g i)) : Nat)
theorem sp_AddTo {H : Heap} {n : Nat} (h : Fi M) {v u : GV} {l m : Nat} {f g : Nat → Int} (a : Int) (hv : Rd H n v l f) (hu : Rd H n u m g) (hlm : l ≤ m) (hl : l ≤ 1000000) :
    Spec prog fid_ref09_AddTo [fd M, v, .int .i64 a, u] H n (isl l (adf M a f g)) H n := by
  refine spec_ends hmix ok_ref09_AddTo rfl fun hF => ?_
  show gw prog B_ref09_AddTo _ (tl 49 _) H n
  have hvl := hv.len
  have hul := hu.len
  simp -implicitDefEqProofs only [B_ref09_AddTo, fd, go_sem, Nat.reduceLT, Nat.reduceBEq, Nat.reduceAdd, Nat.reduceEqDiff, Nat.reduceLeDiff, Nat.reduceSub, Nat.reduceMul, hvl]
  repeat with_reducible refine And.intro (by omega) ?_
  refine loop_rule (fun (i : Nat) E H' n' => n' = n + 2 ∧ H' n = some [.int .i64 ((k : Int) + 2), .int .i64 (M.m : Nat), fmod M] ∧ H' (n + 1) = some (tab l (it (mix (adf M a f g) (fun _ => 0) i))) ∧ (∀ b, b < n → H' b = H b) ∧ E 1 = v ∧ E 2 = .int .i64 a ∧ E 3 = u ∧ E 4 = .ptr n 0 ∧ E 9 = .own (n + 1) 0 l ∧ E 10 = .int .i64 (i : Nat) ∧ i ≤ l) (fun i => l - i) 0 ?_ ?_
  · exact ⟨rfl, by simp -implicitDefEqProofs only [go_sem, Nat.reduceLT, Nat.reduceBEq, Nat.reduceAdd, Nat.reduceEqDiff, Nat.reduceLeDiff, Nat.reduceSub, Nat.reduceMul], by simp -implicitDefEqProofs only [go_sem, Nat.reduceLT, Nat.reduceBEq, Nat.reduceAdd, Nat.reduceEqDiff, Nat.reduceLeDiff, Nat.reduceSub, Nat.reduceMul, tab_rep, mix_zero]; rfl, fun b hb => by rw [upd_ne _ _ (by omega), upd_ne _ _ (by omega)], rfl, rfl, rfl, rfl, rfl, rfl, by omega⟩
  rintro i E H' n' ⟨rfl, h0, h1, ho, e1, e2, e3, e4, e9, e10, hi⟩
  simp -implicitDefEqProofs only [go_sem, Nat.reduceLT, Nat.reduceBEq, Nat.reduceAdd, Nat.reduceEqDiff, Nat.reduceLeDiff, Nat.reduceSub, Nat.reduceMul, e1, e10, hvl]
  refine c_split (fun hc => ?_) (fun hc => ?_)
  · have hiN : i < l := by omega
    have hwi := wrap64 (x := (i : Int) + 1) (by omega)
    obtain ⟨pa, pa1, pa2, pa3⟩ := hv.idx i hiN
    obtain ⟨pb, pb1, pb2, pb3⟩ := hu.idx i (by omega)
    have pa4 := fun q => pa2 q H' H' (n + 2) ho
    simp -implicitDefEqProofs only [go_sem, Nat.reduceLT, Nat.reduceBEq, Nat.reduceAdd, Nat.reduceEqDiff, Nat.reduceLeDiff, Nat.reduceSub, Nat.reduceMul, e1, e9, e10, pa1, pa4, hc, hiN, h1]
    repeat with_reducible refine And.intro (by omega) ?_
    generalize hH1 : upd H' (n + 1) (some (tab l (it (upf (mix (adf M a f g) (fun _ => 0) i) i (f i))))) = H1
    have g0 : H1 n = some [.int .i64 ((k : Int) + 2), .int .i64 (M.m : Nat), fmod M] := by rw [← hH1, upd_ne _ _ (by omega), h0]
    have g1 : H1 (n + 1) = some (tab l (it (upf (mix (adf M a f g) (fun _ => 0) i) i (f i)))) := by rw [← hH1, upd_same]
    have go : ∀ b, b < n → H1 b = H b := fun b hb => by rw [← hH1, upd_ne _ _ (by omega), ho b hb]
    have pb4 := fun q => pb2 q H1 H1 (n + 2) go
    simp -implicitDefEqProofs only [go_sem, Nat.reduceLT, Nat.reduceBEq, Nat.reduceAdd, Nat.reduceEqDiff, Nat.reduceLeDiff, Nat.reduceSub, Nat.reduceMul, e3, e10, pb1, pb4]
    by_cases hz : g i = 0
    · have hst := mix_step (adf M a f g) (fun _ => 0) i
      have had : adf M a f g i = f i := if_pos hz
      rw [had] at hst
      simp -implicitDefEqProofs only [go_sem, Nat.reduceLT, Nat.reduceBEq, Nat.reduceAdd, Nat.reduceEqDiff, Nat.reduceLeDiff, Nat.reduceSub, Nat.reduceMul, hz, e10, hwi]
      refine l_n ⟨i + 1, by omega, rfl, g0, by rw [g1, hst], go, by simp -implicitDefEqProofs only [go_sem, Nat.reduceLT, Nat.reduceBEq, Nat.reduceAdd, Nat.reduceEqDiff, Nat.reduceLeDiff, Nat.reduceSub, Nat.reduceMul, e1], by simp -implicitDefEqProofs only [go_sem, Nat.reduceLT, Nat.reduceBEq, Nat.reduceAdd, Nat.reduceEqDiff, Nat.reduceLeDiff, Nat.reduceSub, Nat.reduceMul, e2], by simp -implicitDefEqProofs only [go_sem, Nat.reduceLT, Nat.reduceBEq, Nat.reduceAdd, Nat.reduceEqDiff, Nat.reduceLeDiff, Nat.reduceSub, Nat.reduceMul, e3], by simp -implicitDefEqProofs only [go_sem, Nat.reduceLT, Nat.reduceBEq, Nat.reduceAdd, Nat.reduceEqDiff, Nat.reduceLeDiff, Nat.reduceSub, Nat.reduceMul, e4], by simp -implicitDefEqProofs only [go_sem, Nat.reduceLT, Nat.reduceBEq, Nat.reduceAdd, Nat.reduceEqDiff, Nat.reduceLeDiff, Nat.reduceSub, Nat.reduceMul, e9], by simp -implicitDefEqProofs only [go_sem, Nat.reduceLT, Nat.reduceBEq, Nat.reduceAdd, Nat.reduceEqDiff, Nat.reduceLeDiff, Nat.reduceSub, Nat.reduceMul]; rfl, by omega⟩
    · have hst := mix_step (adf M a f g) (fun _ => 0) i
      have had : adf M a f g i = (cn (ein M (f i) + ein M a * ein M (g i)) : Nat) := if_neg hz
      have pa5 := fun q => pa3 q H1 (n + 2) (by omega) go
      have pb5 := fun q => pb3 q H1 (n + 2) (by omega) go
      simp -implicitDefEqProofs only [go_sem, Nat.reduceLT, Nat.reduceBEq, Nat.reduceAdd, Nat.reduceEqDiff, Nat.reduceLeDiff, Nat.reduceSub, Nat.reduceMul, hz, e1, e2, e3, e4, e9, e10, g0, pa1, pb1, pa5, pb5]
      refine mcall_of (.int _ _) (fun H1 n1 _ _ => sp_ref04_Mul h.fc _ _) ?_
      simp -implicitDefEqProofs only [go_sem, Nat.reduceLT, Nat.reduceBEq, Nat.reduceAdd, Nat.reduceEqDiff, Nat.reduceLeDiff, Nat.reduceSub, Nat.reduceMul]
      refine mcall_of (.int _ _) (fun H1 n1 _ _ => sp_ref04_Add h.fc _ _) ?_
      rw [cd_cn, cd_cn, ein_cn h.fc, ← had]
      simp -implicitDefEqProofs only [go_sem, Nat.reduceLT, Nat.reduceBEq, Nat.reduceAdd, Nat.reduceEqDiff, Nat.reduceLeDiff, Nat.reduceSub, Nat.reduceMul, hc, hiN, g1, upf_upf, hst, e10, hwi]
      repeat with_reducible refine And.intro (by omega) ?_
      refine l_n ⟨i + 1, by omega, rfl, by simp -implicitDefEqProofs only [go_sem, Nat.reduceLT, Nat.reduceBEq, Nat.reduceAdd, Nat.reduceEqDiff, Nat.reduceLeDiff, Nat.reduceSub, Nat.reduceMul, g0], by simp -implicitDefEqProofs only [go_sem, Nat.reduceLT, Nat.reduceBEq, Nat.reduceAdd, Nat.reduceEqDiff, Nat.reduceLeDiff, Nat.reduceSub, Nat.reduceMul], fun b hb => by rw [upd_ne _ _ (by omega)]; exact go b hb, by simp -implicitDefEqProofs only [go_sem, Nat.reduceLT, Nat.reduceBEq, Nat.reduceAdd, Nat.reduceEqDiff, Nat.reduceLeDiff, Nat.reduceSub, Nat.reduceMul, e1], by simp -implicitDefEqProofs only [go_sem, Nat.reduceLT, Nat.reduceBEq, Nat.reduceAdd, Nat.reduceEqDiff, Nat.reduceLeDiff, Nat.reduceSub, Nat.reduceMul, e2], by simp -implicitDefEqProofs only [go_sem, Nat.reduceLT, Nat.reduceBEq, Nat.reduceAdd, Nat.reduceEqDiff, Nat.reduceLeDiff, Nat.reduceSub, Nat.reduceMul, e3], by simp -implicitDefEqProofs only [go_sem, Nat.reduceLT, Nat.reduceBEq, Nat.reduceAdd, Nat.reduceEqDiff, Nat.reduceLeDiff, Nat.reduceSub, Nat.reduceMul, e4], by simp -implicitDefEqProofs only [go_sem, Nat.reduceLT, Nat.reduceBEq, Nat.reduceAdd, Nat.reduceEqDiff, Nat.reduceLeDiff, Nat.reduceSub, Nat.reduceMul, e9], by simp -implicitDefEqProofs only [go_sem, Nat.reduceLT, Nat.reduceBEq, Nat.reduceAdd, Nat.reduceEqDiff, Nat.reduceLeDiff, Nat.reduceSub, Nat.reduceMul]; rfl, by omega⟩
  · have : i = l := by omega
    subst this
    simp -implicitDefEqProofs only [go_sem, Nat.reduceLT, Nat.reduceBEq, Nat.reduceAdd, Nat.reduceEqDiff, Nat.reduceLeDiff, Nat.reduceSub, Nat.reduceMul, e9]
    refine fin_ret rfl (by decide) ?_ ho
    simp -implicitDefEqProofs only [go_sem, Nat.reduceLT, Nat.reduceBEq, Nat.reduceAdd, Nat.reduceEqDiff, Nat.reduceLeDiff, Nat.reduceSub, Nat.reduceMul]
    have hrow : H' (n + 1) = some (tab i (it (adf M a f g))) := by
      rw [h1]; exact congrArg some (tab_congr fun j hj => congrArg (GV.int .i64) (mix_lt _ _ hj))
    exact fz_own_isl hrow (by omega)
end
/-- how many entries are not 0 -/
def wt (l : Nat) (f : Nat → Int) : Nat := sumn (fun i => if f i = 0 then 0 else 1) l
def wtm (l : Nat → Nat) (f : Nat → Nat → Int) : Nat → Nat := sumn fun t => wt (l t) (f t)
theorem sumn_le1 {f : Nat → Nat} {c : Nat} : ∀ m, (∀ i, i < m → f i ≤ c) → sumn f m ≤ m * c := by
  intro m
  induction m with
  | zero => intro _; exact Nat.zero_le _
  | succ m ih => intro h; rw [sumn, Nat.succ_mul]; have := ih fun i hi => h i (by omega); have := h m (by omega); omega
theorem wt_le (l : Nat) (f : Nat → Int) : wt l f ≤ l := by
  have := sumn_le1 (c := 1) l (f := fun i => if f i = 0 then 0 else 1) fun i _ => by split <;> omega
  rw [wt]; omega
/-- rows that can be read, or nil -/
def Rr (x : GV) (T : Nat) (l : Nat → Nat) (f : Nat → Nat → Int) : Prop := x = msg T l f ∨ (x = .nil ∧ T = 0)
theorem Rr.len {x : GV} {T : Nat} {l : Nat → Nat} {f : Nat → Nat → Int} (h : Rr x T l f) : hlen x = some (.int .i64 (T : Nat)) := by
  rcases h with rfl | ⟨rfl, rfl⟩ <;> rfl
theorem Rr.sl {x : GV} {T : Nat} {l : Nat → Nat} {f : Nat → Nat → Int} (h : Rr x T l f) (h0 : 0 < T) : x = msg T l f := by
  rcases h with h | ⟨_, h⟩
  · exact h
  · omega
theorem sp_Weight {H : Heap} {n : Nat} {x : GV} (T L : Nat) (l : Nat → Nat) (f : Nat → Nat → Int) (hx : Rr x T l f) (hT : T ≤ 1000000) (hL : L ≤ 1000000) (hl : ∀ t, t < T → l t ≤ L) :
    Spec prog fid_ref20_Weight [x] H n (.int .i64 (wtm l f T : Nat)) H n := by
  refine spec_ends hmix ok_ref20_Weight rfl fun hF => ?_
  show gw prog B_ref20_Weight _ (tl 32 _) H n
  have hxl := hx.len
  have bd : ∀ t, t ≤ T → wtm l f t ≤ 1000000000000 := fun t ht => by
    have h1 := sumn_le1 (c := L) t (f := fun t => wt (l t) (f t)) fun i hi => by have := wt_le (l i) (f i); have := hl i (by omega); omega
    have h2 : t * L ≤ 1000000 * 1000000 := Nat.mul_le_mul (by omega) hL
    rw [wtm]; omega
  simp -implicitDefEqProofs only [B_ref20_Weight, go_sem, Nat.reduceLT, Nat.reduceBEq, Nat.reduceAdd, Nat.reduceEqDiff, Nat.reduceLeDiff, Nat.reduceSub, Nat.reduceMul]
  refine loop_rule (fun (t : Nat) E H' n' => H' = H ∧ n' = n ∧ E 0 = x ∧ E 3 = .int .i64 (wtm l f t : Nat) ∧ E 4 = .int .i64 (t : Nat) ∧ t ≤ T) (fun t => T - t) 0 ⟨rfl, rfl, rfl, rfl, rfl, by omega⟩ ?_
  rintro t E H' n' ⟨rfl, rfl, e0, e3, e4, ht⟩
  simp -implicitDefEqProofs only [go_sem, Nat.reduceLT, Nat.reduceBEq, Nat.reduceAdd, Nat.reduceEqDiff, Nat.reduceLeDiff, Nat.reduceSub, Nat.reduceMul, e0, e4, hxl]
  refine c_split (fun hc => ?_) (fun hc => ?_)
  · have htN : t < T := by omega
    have hwt := wrap64 (x := (t : Int) + 1) (by omega)
    have hxs := hx.sl (by omega)
    have hlt := hl t htN
    subst hxs
    simp -implicitDefEqProofs only [go_sem, Nat.reduceLT, Nat.reduceBEq, Nat.reduceAdd, Nat.reduceEqDiff, Nat.reduceLeDiff, Nat.reduceSub, Nat.reduceMul]
    refine loop_rule (fun (i : Nat) E H1 n1 => H1 = H' ∧ n1 = n' ∧ E 0 = msg T l f ∧ E 3 = .int .i64 (wtm l f t + wt i (f t) : Nat) ∧ E 4 = .int .i64 (t : Nat) ∧ E 5 = .int .i64 (i : Nat) ∧ i ≤ l t) (fun i => l t - i) 0 ⟨rfl, rfl, by simp -implicitDefEqProofs only [go_sem, Nat.reduceLT, Nat.reduceBEq, Nat.reduceAdd, Nat.reduceEqDiff, Nat.reduceLeDiff, Nat.reduceSub, Nat.reduceMul, e0], by simp -implicitDefEqProofs only [go_sem, Nat.reduceLT, Nat.reduceBEq, Nat.reduceAdd, Nat.reduceEqDiff, Nat.reduceLeDiff, Nat.reduceSub, Nat.reduceMul, e3]; rfl, by simp -implicitDefEqProofs only [go_sem, Nat.reduceLT, Nat.reduceBEq, Nat.reduceAdd, Nat.reduceEqDiff, Nat.reduceLeDiff, Nat.reduceSub, Nat.reduceMul, e4], by simp -implicitDefEqProofs only [go_sem, Nat.reduceLT, Nat.reduceBEq, Nat.reduceAdd, Nat.reduceEqDiff, Nat.reduceLeDiff, Nat.reduceSub, Nat.reduceMul]; rfl, by omega⟩ ?_
    clear e4 e3 e0 E
    rintro i E H1 n1 ⟨rfl, rfl, e0, e3, e4, e5, hi⟩
    have hms : msr l f t = isl (l t) (f t) := rfl
    simp -implicitDefEqProofs only [go_sem, Nat.reduceLT, Nat.reduceBEq, Nat.reduceAdd, Nat.reduceEqDiff, Nat.reduceLeDiff, Nat.reduceSub, Nat.reduceMul, e0, e4, e5, hc, htN, gat_tab, hms]
    refine c_split (fun hc' => ?_) (fun hc' => ?_)
    · have hiN : i < l t := by omega
      have hwi := wrap64 (x := (i : Int) + 1) (by omega)
      have hs : wt (i + 1) (f t) = wt i (f t) + if f t i = 0 then 0 else 1 := rfl
      by_cases hz : f t i = 0
      · rw [if_pos hz] at hs
        simp -implicitDefEqProofs only [go_sem, Nat.reduceLT, Nat.reduceBEq, Nat.reduceAdd, Nat.reduceEqDiff, Nat.reduceLeDiff, Nat.reduceSub, Nat.reduceMul, e0, e4, e5, hc, hc', htN, hiN, gat_tab, hms, hz, hwi]
        exact l_n ⟨i + 1, by omega, rfl, rfl, by simp -implicitDefEqProofs only [go_sem, Nat.reduceLT, Nat.reduceBEq, Nat.reduceAdd, Nat.reduceEqDiff, Nat.reduceLeDiff, Nat.reduceSub, Nat.reduceMul, e0], by simp -implicitDefEqProofs only [go_sem, Nat.reduceLT, Nat.reduceBEq, Nat.reduceAdd, Nat.reduceEqDiff, Nat.reduceLeDiff, Nat.reduceSub, Nat.reduceMul, e3]; rw [hs]; rfl, by simp -implicitDefEqProofs only [go_sem, Nat.reduceLT, Nat.reduceBEq, Nat.reduceAdd, Nat.reduceEqDiff, Nat.reduceLeDiff, Nat.reduceSub, Nat.reduceMul, e4], by simp -implicitDefEqProofs only [go_sem, Nat.reduceLT, Nat.reduceBEq, Nat.reduceAdd, Nat.reduceEqDiff, Nat.reduceLeDiff, Nat.reduceSub, Nat.reduceMul]; rfl, by omega⟩
      · rw [if_neg hz] at hs
        have h1 := bd t (by omega)
        have h2 := wt_le i (f t)
        have hw : IntKind.i64.wrap (((wtm l f t + wt i (f t) : Nat) : Int) + 1) = ((wtm l f t + wt (i + 1) (f t) : Nat) : Int) := (wrap64 (by omega)).trans (by omega)
        simp -implicitDefEqProofs only [go_sem, Nat.reduceLT, Nat.reduceBEq, Nat.reduceAdd, Nat.reduceEqDiff, Nat.reduceLeDiff, Nat.reduceSub, Nat.reduceMul, e0, e3, e4, e5, hc, hc', htN, hiN, gat_tab, hms, hz, hwi, hw]
        exact l_n ⟨i + 1, by omega, rfl, rfl, by simp -implicitDefEqProofs only [go_sem, Nat.reduceLT, Nat.reduceBEq, Nat.reduceAdd, Nat.reduceEqDiff, Nat.reduceLeDiff, Nat.reduceSub, Nat.reduceMul, e0], by simp -implicitDefEqProofs only [go_sem, Nat.reduceLT, Nat.reduceBEq, Nat.reduceAdd, Nat.reduceEqDiff, Nat.reduceLeDiff, Nat.reduceSub, Nat.reduceMul], by simp -implicitDefEqProofs only [go_sem, Nat.reduceLT, Nat.reduceBEq, Nat.reduceAdd, Nat.reduceEqDiff, Nat.reduceLeDiff, Nat.reduceSub, Nat.reduceMul, e4], by simp -implicitDefEqProofs only [go_sem, Nat.reduceLT, Nat.reduceBEq, Nat.reduceAdd, Nat.reduceEqDiff, Nat.reduceLeDiff, Nat.reduceSub, Nat.reduceMul]; rfl, by omega⟩
    · have : i = l t := by omega
      subst this
      simp -implicitDefEqProofs only [go_sem, Nat.reduceLT, Nat.reduceBEq, Nat.reduceAdd, Nat.reduceEqDiff, Nat.reduceLeDiff, Nat.reduceSub, Nat.reduceMul, e4, hwt]
      exact l_n ⟨t + 1, by omega, rfl, rfl, by simp -implicitDefEqProofs only [go_sem, Nat.reduceLT, Nat.reduceBEq, Nat.reduceAdd, Nat.reduceEqDiff, Nat.reduceLeDiff, Nat.reduceSub, Nat.reduceMul, e0], by simp -implicitDefEqProofs only [go_sem, Nat.reduceLT, Nat.reduceBEq, Nat.reduceAdd, Nat.reduceEqDiff, Nat.reduceLeDiff, Nat.reduceSub, Nat.reduceMul, e3]; rfl, by simp -implicitDefEqProofs only [go_sem, Nat.reduceLT, Nat.reduceBEq, Nat.reduceAdd, Nat.reduceEqDiff, Nat.reduceLeDiff, Nat.reduceSub, Nat.reduceMul]; rfl, by omega⟩
  · have : t = T := by omega
    subst this
    simp -implicitDefEqProofs only [go_sem, Nat.reduceLT, Nat.reduceBEq, Nat.reduceAdd, Nat.reduceEqDiff, Nat.reduceLeDiff, Nat.reduceSub, Nat.reduceMul, e3]
    exact fin_ret rfl (by decide) (by simp -implicitDefEqProofs only [go_sem, Nat.reduceLT, Nat.reduceBEq, Nat.reduceAdd, Nat.reduceEqDiff, Nat.reduceLeDiff, Nat.reduceSub, Nat.reduceMul]; exact fz_int rfl) fun _ _ => rfl
theorem sp_SameRows' {H : Heap} {n : Nat} {x y : GV} (T : Nat) (l : Nat → Nat) (f g : Nat → Nat → Int) (hx : Rr x T l f) (hy : Rr y T l g) (hT : T ≤ 1000000) (hl : ∀ t, t < T → l t ≤ 1000000) (hfg : ∀ t, t < T → ∀ i, i < l t → f t i = g t i) : Spec prog fid_ref09_SameRows [x, y] H n (.bool true) H n := by
  refine spec_ends hmix ok_ref09_SameRows rfl fun hF => ?_
  show gw prog B_ref09_SameRows _ (tl 27 _) H n
  have hxl := hx.len
  have hyl := hy.len
  simp -implicitDefEqProofs only [B_ref09_SameRows, go_sem, Nat.reduceLT, Nat.reduceBEq, Nat.reduceAdd, Nat.reduceEqDiff, Nat.reduceLeDiff, Nat.reduceSub, Nat.reduceMul, hxl, hyl]
  refine loop_rule (fun (t : Nat) E H' n' => H' = H ∧ n' = n ∧ E 0 = x ∧ E 1 = y ∧ E 5 = .int .i64 (t : Nat) ∧ t ≤ T) (fun t => T - t) 0 ⟨rfl, rfl, rfl, rfl, rfl, by omega⟩ ?_
  rintro t E H' n' ⟨rfl, rfl, e0, e1, e5, ht⟩
  simp -implicitDefEqProofs only [go_sem, Nat.reduceLT, Nat.reduceBEq, Nat.reduceAdd, Nat.reduceEqDiff, Nat.reduceLeDiff, Nat.reduceSub, Nat.reduceMul, e0, e5, hxl]
  refine c_split (fun hc => ?_) (fun hc => ?_)
  · have htN : t < T := by omega
    have hwt := wrap64 (x := (t : Int) + 1) (by omega)
    have hxs := hx.sl (by omega)
    have hys := hy.sl (by omega)
    subst hxs hys
    have hms : msr l f t = isl (l t) (f t) := rfl
    have hms' : msr l g t = isl (l t) (g t) := rfl
    simp -implicitDefEqProofs only [go_sem, Nat.reduceLT, Nat.reduceBEq, Nat.reduceAdd, Nat.reduceEqDiff, Nat.reduceLeDiff, Nat.reduceSub, Nat.reduceMul, e0, e1, e5, hc, htN, gat_tab, hms, hms']
    refine call_of (sp_SameInts (l t) (l t) (f t) (g t) (hl t htN)) ?_
    rw [decide_eq_true ⟨rfl, hfg t htN⟩]
    simp -implicitDefEqProofs only [go_sem, Nat.reduceLT, Nat.reduceBEq, Nat.reduceAdd, Nat.reduceEqDiff, Nat.reduceLeDiff, Nat.reduceSub, Nat.reduceMul, e5, hwt]
    exact l_n ⟨t + 1, by omega, rfl, rfl, by simp -implicitDefEqProofs only [go_sem, Nat.reduceLT, Nat.reduceBEq, Nat.reduceAdd, Nat.reduceEqDiff, Nat.reduceLeDiff, Nat.reduceSub, Nat.reduceMul, e0], by simp -implicitDefEqProofs only [go_sem, Nat.reduceLT, Nat.reduceBEq, Nat.reduceAdd, Nat.reduceEqDiff, Nat.reduceLeDiff, Nat.reduceSub, Nat.reduceMul, e1], by simp -implicitDefEqProofs only [go_sem, Nat.reduceLT, Nat.reduceBEq, Nat.reduceAdd, Nat.reduceEqDiff, Nat.reduceLeDiff, Nat.reduceSub, Nat.reduceMul]; rfl, by omega⟩
  · simp -implicitDefEqProofs only [go_sem, Nat.reduceLT, Nat.reduceBEq, Nat.reduceAdd, Nat.reduceEqDiff, Nat.reduceLeDiff, Nat.reduceSub, Nat.reduceMul]
    exact fin_ret rfl (by decide) (fz_bool rfl) fun _ _ => rfl
end Go.Proofs.Ytdpibcniodhinaa.Gh
/- The statement ConvLinear, over ghost values. -/
namespace Go.Proofs.Ytdpibcniodhinaa.Gh
open Go Go.RowKit
open Alg (CR Ps Dg Zm Mn El Cg sm pw Irr Prm)
set_option linter.unusedVariables false
set_option linter.unusedSimpArgs false

theorem stE_of {r : Nat} {l : Nat → Nat} {f : Nat → Nat → Int} {q : Int} : ∀ {T : Nat}, (∀ t, t < T → l t = r ∧ ∀ i, i < r → 0 ≤ f t i ∧ f t i < q) → stE r l f q T = 0 := by
  intro T
  induction T with
  | zero => intro _; rfl
  | succ T ih =>
    intro h
    rw [stE, if_pos (ih fun t ht => h t (by omega)), inE, if_pos (h T (by omega)).1, if_pos fun i hi => (h T (by omega)).2 i (by rw [← (h T (by omega)).1]; exact hi)]
theorem tab_cons {α : Type} (x : α) (m : Nat) (g : Nat → α) : x :: tab m g = tab (m + 1) fun j => if j = 0 then x else g (j - 1) := by
  apply List.ext_getElem
  · simp [tab]
  · intro i h1 h2
    cases i with
    | zero => simp [tab]
    | succ i => simp [tab]
/-- a slice that was grown is handed on, and never used again -/
theorem call_sl {f : FuncId} {q : Kn} {H : Heap} {lo n T : Nat} {gs x0 res : GV} {l : Nat → Nat} {F : Nat → Nat → Int} (hs : Sl H lo n gs T (msr l F)) (hsp : ∀ H n, Spec prog f [x0, msg T l F] H n res H n)
    (hq : ∀ H'', (∀ c, ¬ Own gs c → H'' c = H c) → q res H'' n) : hcall prog f [x0, gs] q H n := by
  rcases hs with ⟨rfl, rfl⟩ | ⟨b, h1, h2, rfl, h4⟩
  · refine call_of (spec_arg (ys := [x0, .sl 0 []]) rfl (fun K v j hj hv => ?_) (hsp H n)) (hq _ fun _ _ => rfl)
    rcases j with _ | _ | j
    · exact hv
    · exact vr_nil hv
    · simp at hj; omega
  · exact call_of (spec_frz (xs := [x0]) (ys := []) h2 h4 tab_len (hsp _ n)) (hq _ fun c hc => upd_ne _ _ fun e => hc (own_own.2 e))

section
variable {k : Nat} {M : Mn k}
/-- the outputs, as elements -/
noncomputable def Enc.Y (e : Enc) (M : Mn k) (f : Nat → Nat → Int) (t j : Nat) : Alg.El M := e.so M (e.S (qn M : Nat) f t) (f t) e.r 0 j
noncomputable def Enc.yv (e : Enc) (M : Mn k) (f : Nat → Nat → Int) (t j : Nat) : Int := (cn (e.Y M f t j) : Nat)
theorem Enc.oval_rr (e : Enc) (f : Nat → Nat → Int) (T : Nat) : Rr (e.oval M f T) T (fun _ => e.w 0) (e.yv M f) := by
  unfold oval
  by_cases h : T = 0
  · rw [if_pos h]; exact .inr ⟨rfl, h⟩
  · rw [if_neg h]; exact .inl rfl
theorem sp_Enc_ok {H : Heap} {n : Nat} (e : Enc) (hB : e.Bnd) (h : Fi M) (hd : e.Des M) (hce : e.ce = 0) (T : Nat) (l : Nat → Nat) (f : Nat → Nat → Int) (hT : T ≤ 100000) (hG : ∀ t, t < T → l t = e.r ∧ ∀ i, i < e.r → 0 ≤ f t i ∧ f t i < (qn M : Nat)) :
    Spec prog fid_conv_Encode [e.gv, msg T l f] H n (.tup [e.oval M f T, .int .i64 0]) H n := by
  have h1 := sp_conv_Encode (M := M) (H := H) (n := n) e hB h hd T l f hT
  rwa [if_pos hce, if_pos (stE_of hG)] at h1
theorem Enc.ro_lin (e : Enc) (f1 f2 f3 : Nat → Nat → Int) (A : Alg.El M) (t j : Nat) (h3 : ∀ u i, u ≤ t → i < e.r → ein M (f3 u i) = ein M (f1 u i) + A * ein M (f2 u i)) : e.ro M f3 t j e.r 0 = e.ro M f1 t j e.r 0 + A * e.ro M f2 t j e.r 0 := by
  unfold ro
  rw [Alg.sm_zero, Alg.sm_zero, Alg.sm_zero, Alg.add_zero, Alg.add_zero, Alg.add_zero, Alg.mul_sm, ← Alg.sm_add]
  refine Alg.sm_congr fun i hi => ?_
  rw [Alg.mul_sm, ← Alg.sm_add]
  refine Alg.sm_congr fun d hd => ?_
  unfold rt
  rw [h3 (t - d) i (by omega) hi, Alg.mul_add, Alg.mul_left_comm]
theorem Enc.Y_lin (e : Enc) (h : Fc M) (f1 f2 f3 : Nat → Nat → Int) (A : Alg.El M) (t j : Nat) (hw : ∀ i, i < e.r → j < e.w i) (g1 : ∀ u, u < t → ∀ i, i < e.r → 0 ≤ f1 u i ∧ f1 u i < (qn M : Nat)) (g2 : ∀ u, u < t → ∀ i, i < e.r → 0 ≤ f2 u i ∧ f2 u i < (qn M : Nat)) (g3 : ∀ u, u < t → ∀ i, i < e.r → 0 ≤ f3 u i ∧ f3 u i < (qn M : Nat))
    (h3 : ∀ u i, u ≤ t → i < e.r → ein M (f3 u i) = ein M (f1 u i) + A * ein M (f2 u i)) : e.Y M f3 t j = e.Y M f1 t j + A * e.Y M f2 t j := by
  unfold Y
  rw [← e.ro_so h f1 t j hw g1, ← e.ro_so h f2 t j hw g2, ← e.ro_so h f3 t j hw g3]
  exact e.ro_lin f1 f2 f3 A t j h3
/-- a message behind a step of zeros -/
def sh0 (f : Nat → Nat → Int) : Nat → Nat → Int := fun t i => if t = 0 then 0 else f (t - 1) i
theorem Enc.Y_sh0 (e : Enc) (h : Fc M) (f : Nat → Nat → Int) (j : Nat) (hw : ∀ i, i < e.r → j < e.w i) : e.Y M (sh0 f) 0 j = 0 := by
  unfold Y
  rw [← e.ro_so h (sh0 f) 0 j hw fun u hu => by omega]
  unfold ro
  rw [Alg.sm_zero, Alg.add_zero]
  refine Alg.sm_const_zero fun i hi => Alg.sm_const_zero fun d hd => ?_
  have hz : sh0 f (0 - d) i = 0 := if_pos (by omega)
  rw [rt, hz, ein_zero h, Alg.mul_zero]
theorem Enc.Y_sh (e : Enc) (h : Fc M) (f : Nat → Nat → Int) (t j : Nat) (hw : ∀ i, i < e.r → j < e.w i) (g : ∀ u, u < t → ∀ i, i < e.r → 0 ≤ f u i ∧ f u i < (qn M : Nat)) : e.Y M (sh0 f) (t + 1) j = e.Y M f t j := by
  have hq2 := qn_two M
  unfold Y
  rw [← e.ro_so h (sh0 f) (t + 1) j hw fun u hu i hi => ?_, ← e.ro_so h f t j hw g]
  · unfold ro
    rw [Alg.sm_zero, Alg.add_zero, Alg.sm_zero, Alg.add_zero]
    refine Alg.sm_congr fun i hi => ?_
    rw [Alg.sm_ext (m := min (t + 1) (e.n i j)) (by omega) fun d d1 d2 => ?_]
    · refine Alg.sm_congr fun d hd => ?_
      have hs : sh0 f (t + 1 - d) i = f (t - d) i := by
        rw [sh0, if_neg (by omega), show t + 1 - d - 1 = t - d by omega]
      rw [rt, rt, hs]
    · have hz : sh0 f (t + 1 - d) i = 0 := if_pos (by omega)
      rw [rt, hz, ein_zero h, Alg.mul_zero]
  · unfold sh0
    by_cases e0 : u = 0
    · rw [if_pos e0]; omega
    · rw [if_neg e0]; exact g (u - 1) (by omega) i hi
end

set_option maxHeartbeats 4000000 in
theorem sp_ConvLinear {H : Heap} {n : Nat} (e : Enc) (T : Nat) (l : Nat → Nat) (f : Nat → Nat → Int) (T' : Nat) (l' : Nat → Nat) (f' : Nat → Nat → Int) (a : Int) : Spec prog fid_law20_ConvLinear [e.gv, msg T l f, msg T' l' f', .int .i64 a] H n (.bool true) H n := by
  refine spec_ends hmix ok_law20_ConvLinear rfl fun hF => ?_
  show gw prog B_law20_ConvLinear _ (tl 212 _) H n
  have hu : ∀ x b, b < n → upd H n x b = H b := fun x b hb => upd_ne _ _ (by omega)
  simp -implicitDefEqProofs only [B_law20_ConvLinear, go_sem, Nat.reduceLT, Nat.reduceBEq, Nat.reduceAdd, Nat.reduceEqDiff, Nat.reduceLeDiff, Nat.reduceSub, Nat.reduceMul]
  refine call_of (sp_few e) ?_
  by_cases hb : e.Bnd ∧ e.gs e.r ≤ 3000
  case neg =>
    simp -implicitDefEqProofs only [go_sem, Nat.reduceLT, Nat.reduceBEq, Nat.reduceAdd, Nat.reduceEqDiff, Nat.reduceLeDiff, Nat.reduceSub, Nat.reduceMul, hb]
    exact fin_ret rfl (by decide) (fz_bool rfl) (hu _)
  have hB := hb.1
  have hb' : decide (e.Bnd ∧ e.gs e.r ≤ 3000) = true := decide_eq_true hb
  rw [hb']
  by_cases hT : T ≤ 60
  case neg =>
    have hTI : (60 : Int) < (T : Nat) := by omega
    simp -implicitDefEqProofs only [go_sem, Nat.reduceLT, Nat.reduceBEq, Nat.reduceAdd, Nat.reduceEqDiff, Nat.reduceLeDiff, Nat.reduceSub, Nat.reduceMul, hTI]
    exact fin_ret rfl (by decide) (fz_bool rfl) (hu _)
  have hTI : ¬ (60 : Int) < (T : Nat) := by omega
  by_cases hTT : T = T'
  case neg =>
    have hTTI : ¬ ((T : Int) = (T' : Int)) := by omega
    simp -implicitDefEqProofs only [go_sem, Nat.reduceLT, Nat.reduceBEq, Nat.reduceAdd, Nat.reduceEqDiff, Nat.reduceLeDiff, Nat.reduceSub, Nat.reduceMul, hTI, hTTI]
    exact fin_ret rfl (by decide) (fz_bool rfl) (hu _)
  subst hTT
  simp -implicitDefEqProofs only [go_sem, Nat.reduceLT, Nat.reduceBEq, Nat.reduceAdd, Nat.reduceEqDiff, Nat.reduceLeDiff, Nat.reduceSub, Nat.reduceMul, hTI]
  refine call_of (sp_ref20_Check e hB) ?_
  by_cases hce : e.ce = 0
  case neg =>
    simp -implicitDefEqProofs only [go_sem, Nat.reduceLT, Nat.reduceBEq, Nat.reduceAdd, Nat.reduceEqDiff, Nat.reduceLeDiff, Nat.reduceSub, Nat.reduceMul, hce]
    exact fin_ret rfl (by decide) (fz_bool rfl) (hu _)
  obtain ⟨k, M, h, hd⟩ : ∃ (k : Nat) (M : Mn k) (_ : Fi M), e.Des M := by
    rcases e.cases with hh | hf
    · exact hh
    · exact absurd (Enc.ok hce).1 hf
  have hqo := hd.qo h
  have hq2 := qn_two M
  have hr := hB.r
  have hok := Enc.ok hce
  have hr0 : 0 < e.r := by have := hok.2.1.1; omega
  have hw0 := hB.w 0 hr0
  have hww : ∀ j, j < e.w 0 → ∀ i, i < e.r → j < e.w i := fun j hj i hi => by rw [hok.2.1.2.2.2 i hi]; exact hj
  rw [hce]
  simp -implicitDefEqProofs only [go_sem, Nat.reduceLT, Nat.reduceBEq, Nat.reduceAdd, Nat.reduceEqDiff, Nat.reduceLeDiff, Nat.reduceSub, Nat.reduceMul]
  refine call_of (sp_ref20_Steps e hB T l f (by omega)) ?_
  rw [hqo]
  by_cases hz : stE e.r l f (qn M : Nat) T = 0
  case neg =>
    simp -implicitDefEqProofs only [go_sem, Nat.reduceLT, Nat.reduceBEq, Nat.reduceAdd, Nat.reduceEqDiff, Nat.reduceLeDiff, Nat.reduceSub, Nat.reduceMul, hz]
    exact fin_ret rfl (by decide) (fz_bool rfl) (hu _)
  have hst := stE_ok hz
  rw [hz]
  simp -implicitDefEqProofs only [go_sem, Nat.reduceLT, Nat.reduceBEq, Nat.reduceAdd, Nat.reduceEqDiff, Nat.reduceLeDiff, Nat.reduceSub, Nat.reduceMul]
  refine call_of (sp_ref20_Steps e hB T l' f' (by omega)) ?_
  rw [hqo]
  by_cases hz' : stE e.r l' f' (qn M : Nat) T = 0
  case neg =>
    simp -implicitDefEqProofs only [go_sem, Nat.reduceLT, Nat.reduceBEq, Nat.reduceAdd, Nat.reduceEqDiff, Nat.reduceLeDiff, Nat.reduceSub, Nat.reduceMul, hz']
    exact fin_ret rfl (by decide) (fz_bool rfl) (hu _)
  have hst' := stE_ok hz'
  rw [hz']
  simp -implicitDefEqProofs only [go_sem, Nat.reduceLT, Nat.reduceBEq, Nat.reduceAdd, Nat.reduceEqDiff, Nat.reduceLeDiff, Nat.reduceSub, Nat.reduceMul]
  have hfd : fgv e.p e.m (isl e.l e.mo) = fd M := Des.fd hd
  have hdp : qo e.p e.m = (qn M : Nat) := hqo
  generalize hA : inq (qn M : Nat) a = A
  have sIn : ∀ (H : Heap) (n : Nat), Spec prog fid_ref04_In [fgv e.p e.m (isl e.l e.mo), .int .i64 a] H n (.int .i64 A) H n := fun H n => by
    have := sp_ref04_In (H := H) (n := n) e.p e.m (isl e.l e.mo) rfl a
    rwa [hqo, hA] at this
  have sAdd : ∀ (H : Heap) (n t : Nat), t < T → Spec prog fid_ref09_AddTo [fgv e.p e.m (isl e.l e.mo), isl (l t) (f t), .int .i64 A, isl (l' t) (f' t)] H n (isl (l t) (adf M A (f t) (f' t))) H n := fun H n t ht => by
    rw [hfd]; exact sp_AddTo h A (.sl _ _) (.sl _ _) (by have := (hst t ht).1; have := (hst' t ht).1; omega) (by have := (hst t ht).1; omega)
  let g : Nat → Nat → Int := fun t => adf M A (f t) (f' t)
  refine loop_rule (fun (t : Nat) E H' n' => ∃ gs, n + 1 ≤ n' ∧ H' n = some e.cs ∧ (∀ b, b < n → H' b = H b) ∧ Sl H' (n + 1) n' gs t (msr l g) ∧ E 1 = msg T l f ∧ E 2 = msg T l' f' ∧ E 3 = .int .i64 a ∧ E 4 = .ptr n 0 ∧ E 9 = gs ∧ E 10 = .int .i64 (t : Nat) ∧ t ≤ T) (fun t => T - t) 0 ⟨.nil, by omega, by simp -implicitDefEqProofs only [go_sem, Nat.reduceLT, Nat.reduceBEq, Nat.reduceAdd, Nat.reduceEqDiff, Nat.reduceLeDiff, Nat.reduceSub, Nat.reduceMul], hu _, .nil, rfl, rfl, rfl, rfl, rfl, rfl, by omega⟩ ?_
  rintro t E H' n' ⟨gs, hn, c0, ho, sl, e1, e2, e3, e4, e9, e10, ht⟩
  simp -implicitDefEqProofs only [go_sem, Nat.reduceLT, Nat.reduceBEq, Nat.reduceAdd, Nat.reduceEqDiff, Nat.reduceLeDiff, Nat.reduceSub, Nat.reduceMul, e1, e10]
  refine c_split (fun hc => ?_) (fun hc => ?_)
  · have htN : t < T := by omega
    have hwt := wrap64 (x := (t : Int) + 1) (by omega)
    have f0 : n < n' := by omega
    have hms : msr l f t = isl (l t) (f t) := rfl
    have hms' : msr l' f' t = isl (l' t) (f' t) := rfl
    have hk := sl.cell
    simp -implicitDefEqProofs only [go_sem, Nat.reduceLT, Nat.reduceBEq, Nat.reduceAdd, Nat.reduceEqDiff, Nat.reduceLeDiff, Nat.reduceSub, Nat.reduceMul, e1, e2, e3, e4, e9, e10, c0, f0, hc, htN, gat_tab, hms, hms']
    refine mcall_of (.int _ _) (fun H1 n1 _ _ => sIn H1 n1) ?_
    simp -implicitDefEqProofs only [go_sem, Nat.reduceLT, Nat.reduceBEq, Nat.reduceAdd, Nat.reduceEqDiff, Nat.reduceLeDiff, Nat.reduceSub, Nat.reduceMul, e2, e10, hc, htN, gat_tab, hms']
    refine mcall_of (pl_isl _ _).nr (fun H1 n1 _ _ => sAdd H1 n1 t htN) ?_
    simp -implicitDefEqProofs only [go_sem, Nat.reduceLT, Nat.reduceBEq, Nat.reduceAdd, Nat.reduceEqDiff, Nat.reduceLeDiff, Nat.reduceSub, Nat.reduceMul]
    refine app_one sl rfl rfl (by omega) fun H2 a1 a2 => ?_
    simp -implicitDefEqProofs only [go_sem, Nat.reduceLT, Nat.reduceBEq, Nat.reduceAdd, Nat.reduceEqDiff, Nat.reduceLeDiff, Nat.reduceSub, Nat.reduceMul, e10, hwt]
    refine l_n ⟨t + 1, by omega, .own n' 0 (t + 1), by omega, ?_, fun b hb => ?_, .inr ⟨n', by omega, by omega, rfl, a1⟩, by simp -implicitDefEqProofs only [go_sem, Nat.reduceLT, Nat.reduceBEq, Nat.reduceAdd, Nat.reduceEqDiff, Nat.reduceLeDiff, Nat.reduceSub, Nat.reduceMul, e1], by simp -implicitDefEqProofs only [go_sem, Nat.reduceLT, Nat.reduceBEq, Nat.reduceAdd, Nat.reduceEqDiff, Nat.reduceLeDiff, Nat.reduceSub, Nat.reduceMul, e2], by simp -implicitDefEqProofs only [go_sem, Nat.reduceLT, Nat.reduceBEq, Nat.reduceAdd, Nat.reduceEqDiff, Nat.reduceLeDiff, Nat.reduceSub, Nat.reduceMul, e3], by simp -implicitDefEqProofs only [go_sem, Nat.reduceLT, Nat.reduceBEq, Nat.reduceAdd, Nat.reduceEqDiff, Nat.reduceLeDiff, Nat.reduceSub, Nat.reduceMul, e4], by simp -implicitDefEqProofs only [go_sem, Nat.reduceLT, Nat.reduceBEq, Nat.reduceAdd, Nat.reduceEqDiff, Nat.reduceLeDiff, Nat.reduceSub, Nat.reduceMul], by simp -implicitDefEqProofs only [go_sem, Nat.reduceLT, Nat.reduceBEq, Nat.reduceAdd, Nat.reduceEqDiff, Nat.reduceLeDiff, Nat.reduceSub, Nat.reduceMul]; rfl, by omega⟩
    · rw [a2 _ (by omega) fun h => by have := sl.lt h; omega, c0]
    · rw [a2 _ (by omega) fun h => by have := sl.lt h; omega, ho b hb]
  have : t = T := by omega
  subst this
  have f0 : n < n' := by omega
  have hG3 : ∀ u, u < t → l u = e.r ∧ ∀ i, i < e.r → 0 ≤ g u i ∧ g u i < (qn M : Nat) := fun u hu => by
    refine ⟨(hst u hu).1, fun i hi => ?_⟩
    show 0 ≤ adf M A (f u) (f' u) i ∧ adf M A (f u) (f' u) i < _
    unfold adf
    by_cases e0 : f' u i = 0
    · rw [if_pos e0]; exact (hst u hu).2 i hi
    · rw [if_neg e0]; have := cn_lt (ein M (f u i) + ein M A * ein M (f' u i)); omega
  have hG4 : ∀ u, u < t + 1 → (fun u => if u = 0 then e.r else l (u - 1)) u = e.r ∧ ∀ i, i < e.r → 0 ≤ sh0 f u i ∧ sh0 f u i < (qn M : Nat) := fun u hu => by
    unfold sh0
    by_cases e0 : u = 0
    · refine ⟨if_pos e0, fun i hi => ?_⟩
      rw [if_pos e0]; omega
    · refine ⟨(if_neg e0).trans (hst (u - 1) (by omega)).1, fun i hi => ?_⟩
      rw [if_neg e0]; exact (hst (u - 1) (by omega)).2 i hi
  simp -implicitDefEqProofs only [go_sem, Nat.reduceLT, Nat.reduceBEq, Nat.reduceAdd, Nat.reduceEqDiff, Nat.reduceLeDiff, Nat.reduceSub, Nat.reduceMul, e1, e4, c0]
  refine call_of (sp_Enc_ok (M := M) e hB h hd hce t l f (by omega) hst) ?_
  simp -implicitDefEqProofs only [go_sem, Nat.reduceLT, Nat.reduceBEq, Nat.reduceAdd, Nat.reduceEqDiff, Nat.reduceLeDiff, Nat.reduceSub, Nat.reduceMul, e2, e4, c0]
  refine call_of (sp_Enc_ok (M := M) e hB h hd hce t l' f' (by omega) hst') ?_
  simp -implicitDefEqProofs only [go_sem, Nat.reduceLT, Nat.reduceBEq, Nat.reduceAdd, Nat.reduceEqDiff, Nat.reduceLeDiff, Nat.reduceSub, Nat.reduceMul, e4, e9, c0]
  refine call_sl sl (fun H n => sp_Enc_ok (M := M) e hB h hd hce t l g (by omega) hG3) fun H2 hH2 => ?_
  have c2 : H2 n = some e.cs := by rw [hH2 _ fun h => by have := sl.lt h; omega, c0]
  have ho2 : ∀ b, b < n → H2 b = H b := fun b hb => by rw [hH2 _ fun h => by have := sl.lt h; omega, ho b hb]
  have hzl : (GV.sl e.r (List.replicate e.r (GV.int .i64 0))) = isl e.r fun _ => 0 := congrArg (GV.sl e.r) (tab_rep _)
  have hmv : GV.sl (1 + t) ((isl e.r fun _ => 0) :: tab t (msr l f)) = msg (t + 1) (fun u => if u = 0 then e.r else l (u - 1)) (sh0 f) := by
    rw [Nat.add_comm 1 t, tab_cons]
    refine congrArg (GV.sl (t + 1)) (tab_congr fun j hj => ?_)
    by_cases e0 : j = 0
    · subst e0
      rw [if_pos rfl]
      show isl e.r (fun _ => 0) = isl (if 0 = 0 then e.r else l (0 - 1)) (sh0 f 0)
      rw [if_pos rfl]; rfl
    · rw [if_neg e0]
      show isl (l (j - 1)) (f (j - 1)) = isl (if j = 0 then e.r else l (j - 1)) (sh0 f j)
      rw [if_neg e0]
      refine isl_congr fun i _ => ?_
      rw [sh0, if_neg e0]
  simp -implicitDefEqProofs only [go_sem, Nat.reduceLT, Nat.reduceBEq, Nat.reduceAdd, Nat.reduceEqDiff, Nat.reduceLeDiff, Nat.reduceSub, Nat.reduceMul, e1, e4, c2, f0]
  repeat with_reducible refine And.intro (by omega) ?_
  simp -implicitDefEqProofs only [go_sem, Nat.reduceLT, Nat.reduceBEq, Nat.reduceAdd, Nat.reduceEqDiff, Nat.reduceLeDiff, Nat.reduceSub, Nat.reduceMul, hzl]
  repeat with_reducible refine And.intro (by omega) ?_
  have sE4 : ∀ (H : Heap) (n : Nat), Spec prog fid_conv_Encode [e.gv, GV.sl (1 + t) ((isl e.r fun _ => 0) :: tab t (msr l f))] H n (.tup [e.oval M (sh0 f) (t + 1), .int .i64 0]) H n := fun H n => by
    rw [hmv]; exact sp_Enc_ok (M := M) e hB h hd hce (t + 1) _ (sh0 f) (by omega) hG4
  have hov : e.oval M (sh0 f) (t + 1) = msg (t + 1) (fun _ => e.w 0) (e.yv M (sh0 f)) := (e.oval_rr (sh0 f) (t + 1)).sl (by omega)
  rw [hov] at sE4
  refine mcall_of (Pl.nr (.tup _ fun j hj => by
    rcases j with _ | _ | j
    · exact .sl _ _ (pl_tab fun _ _ => pl_isl _ _)
    · exact .int _ _
    · simp at hj; omega)) (fun H1 n1 _ _ => sE4 H1 n1) ?_
  have rx := e.oval_rr (M := M) f t
  have ry := e.oval_rr (M := M) f' t
  have rz := e.oval_rr (M := M) g t
  have lx := rx.len
  have ly := ry.len
  have lz := rz.len
  have hw1 : IntKind.i64.wrap ((t : Int) + 1) = ((t + 1 : Nat) : Int) := (wrap64 (by omega)).trans (by omega)
  simp -implicitDefEqProofs only [go_sem, Nat.reduceLT, Nat.reduceBEq, Nat.reduceAdd, Nat.reduceEqDiff, Nat.reduceLeDiff, Nat.reduceSub, Nat.reduceMul, e1, lx, ly, lz, hw1]
  have hz1 : (0 : Int) < ((t + 1 : Nat) : Int) := by omega
  have hz2 : 0 < t + 1 := by omega
  have hz3 : (0 : Int) < (e.r : Int) := by omega
  have hz4 : (0 : Int).toNat = 0 := rfl
  have hz5 : (0 : Int) ≤ 0 := Int.le_refl 0
  have hz6 : (0 : Int) ≤ 1 := by decide
  have hz7 : 1 ≤ t + 1 := by omega
  have hz8 : (1 : Int).toNat = 1 := rfl
  have htk : (tab (t + 1) (msr (fun _ => e.w 0) (e.yv M (sh0 f)))).take 1 = tab 1 (msr (fun _ => e.w 0) (e.yv M (sh0 f))) := tab_take 1 (by omega)
  have htd : (tab (t + 1) (msr (fun _ => e.w 0) (e.yv M (sh0 f)))).drop 1 = tab t (msr (fun _ => e.w 0) fun u => e.yv M (sh0 f) (u + 1)) := by
    rw [tab_drop, Nat.add_sub_cancel]; exact tab_congr fun u _ => by rw [Nat.add_comm 1 u]; rfl
  have hR : msr (fun _ => e.w 0) (e.yv M (sh0 f)) 0 = isl (e.w 0) (e.yv M (sh0 f) 0) := rfl
  have hrw : e.rw 0 = .sl (e.w 0) (tab (e.w 0) (e.pl 0)) := rfl
  simp -implicitDefEqProofs only [go_sem, Nat.reduceLT, Nat.reduceBEq, Nat.reduceAdd, Nat.reduceEqDiff, Nat.reduceLeDiff, Nat.reduceSub, Nat.reduceMul, e4, c2, f0, hz1, hz2, hz3, hz4, hz5, hz6, hz7, hz8, htk, Nat.zero_mul, hr0, gat_tab, hR, hrw]
  refine mcall_of (.int _ _) (fun H1 n1 _ _ => sp_Weight 1 70 (fun _ => e.w 0) (e.yv M (sh0 f)) (.inl rfl) (by omega) (by omega) fun _ _ => hw0) ?_
  have hY0 : ∀ j, j < e.w 0 → e.yv M (sh0 f) 0 j = 0 := fun j hj => by rw [Enc.yv, e.Y_sh0 h.fc f j (hww j hj), cn_zero]; rfl
  have hW : wtm (fun _ => e.w 0) (e.yv M (sh0 f)) 1 = 0 := by
    have h1 := sumn_le1 (c := 0) (e.w 0) (f := fun i => if e.yv M (sh0 f) 0 i = 0 then 0 else 1) fun j hj => by rw [if_pos (hY0 j hj)]; exact Nat.le_refl _
    show sumn (fun t => wt (e.w 0) (e.yv M (sh0 f) t)) 1 = 0
    rw [sumn, sumn, wt]; omega
  rw [hW]
  have hnc : ((0 : Nat) : Int) = 0 := rfl
  have htt : (tab t (msr (fun _ => e.w 0) fun u => e.yv M (sh0 f) (u + 1))).take t = tab t (msr (fun _ => e.w 0) fun u => e.yv M (sh0 f) (u + 1)) := tab_take t (Nat.le_refl _)
  have hsub : t + 1 - 1 = t := Nat.add_sub_cancel ..
  have hz9 : (1 : Int) ≤ ((t + 1 : Nat) : Int) := by omega
  simp -implicitDefEqProofs only [go_sem, Nat.reduceLT, Nat.reduceBEq, Nat.reduceAdd, Nat.reduceEqDiff, Nat.reduceLeDiff, Nat.reduceSub, Nat.reduceMul, hnc, hz1, hz2, hz6, hz7, hz8, hz9, htd, htt, hsub]
  refine call_of (sp_SameRows' t (fun _ => e.w 0) (fun u => e.yv M (sh0 f) (u + 1)) (e.yv M f) (.inl rfl) rx (by omega) (fun _ _ => by omega) fun u hu j hj => ?_) ?_
  · rw [Enc.yv, Enc.yv, e.Y_sh h.fc f u j (hww j hj) fun v hv => (hst v (by omega)).2]
  simp -implicitDefEqProofs only [go_sem, Nat.reduceLT, Nat.reduceBEq, Nat.reduceAdd, Nat.reduceEqDiff, Nat.reduceLeDiff, Nat.reduceSub, Nat.reduceMul]
  have hgv : ∀ u i, u < t → i < e.r → ein M (g u i) = ein M (f u i) + ein M A * ein M (f' u i) := fun u i hu hi => by
    show ein M (adf M A (f u) (f' u) i) = _
    unfold adf
    by_cases e0 : f' u i = 0
    · rw [if_pos e0, e0, ein_zero h.fc, Alg.mul_zero, Alg.add_zero]
    · rw [if_neg e0, ein_cn h.fc]
  have hlin : ∀ u j, u < t → j < e.w 0 → e.yv M g u j = adf M A (e.yv M f u) (e.yv M f' u) j := fun u j hu hj => by
    have hY := e.Y_lin (M := M) h.fc f f' g (ein M A) u j (hww j hj) (fun v hv => (hst v (by omega)).2) (fun v hv => (hst' v (by omega)).2) (fun v hv => (hG3 v (by omega)).2) fun v i hv hi => hgv v i (by omega) hi
    unfold adf
    by_cases e0 : e.yv M f' u j = 0
    · have e1 : e.Y M f' u j = 0 := by
        have : cn (e.Y M f' u j) = 0 := by have h9 := e0; unfold Enc.yv at h9; omega
        exact cn_eq_zero.1 this
      rw [if_pos e0, Enc.yv, hY, e1, Alg.mul_zero, Alg.add_zero]; rfl
    · rw [if_neg e0, Enc.yv, hY, Enc.yv, Enc.yv, ein_cn h.fc, ein_cn h.fc]
  have sAd2 : ∀ (H : Heap) (n u : Nat), Spec prog fid_ref09_AddTo [fgv e.p e.m (isl e.l e.mo), isl (e.w 0) (e.yv M f u), .int .i64 A, isl (e.w 0) (e.yv M f' u)] H n (isl (e.w 0) (adf M A (e.yv M f u) (e.yv M f' u))) H n := fun H n u => by
    rw [hfd]; exact sp_AddTo h A (.sl _ _) (.sl _ _) (Nat.le_refl _) (by omega)
  refine loop_rule (fun (u : Nat) E H' n2 => H' n = some e.cs ∧ n < n2 ∧ (∀ b, b < n → H' b = H b) ∧ E 1 = msg t l f ∧ E 3 = .int .i64 a ∧ E 4 = .ptr n 0 ∧ E 11 = e.oval M f t ∧ E 13 = e.oval M f' t ∧ E 15 = e.oval M g t ∧ E 19 = .int .i64 (u : Nat) ∧ u ≤ t) (fun u => t - u) 0 ⟨c2, f0, ho2, by simp -implicitDefEqProofs only [go_sem, Nat.reduceLT, Nat.reduceBEq, Nat.reduceAdd, Nat.reduceEqDiff, Nat.reduceLeDiff, Nat.reduceSub, Nat.reduceMul, e1], by simp -implicitDefEqProofs only [go_sem, Nat.reduceLT, Nat.reduceBEq, Nat.reduceAdd, Nat.reduceEqDiff, Nat.reduceLeDiff, Nat.reduceSub, Nat.reduceMul, e3], by simp -implicitDefEqProofs only [go_sem, Nat.reduceLT, Nat.reduceBEq, Nat.reduceAdd, Nat.reduceEqDiff, Nat.reduceLeDiff, Nat.reduceSub, Nat.reduceMul, e4], rfl, rfl, rfl, rfl, by omega⟩ ?_
  clear hov sE4 hmv hzl f0 c2 ho2 hH2 H2 e10 e9 e4 e3 e2 e1 sl ho c0 hn gs n' H' E
  rintro u E H' n' ⟨c0, f0, ho, e1, e3, e4, e11, e13, e15, e19, hu'⟩
  simp -implicitDefEqProofs only [go_sem, Nat.reduceLT, Nat.reduceBEq, Nat.reduceAdd, Nat.reduceEqDiff, Nat.reduceLeDiff, Nat.reduceSub, Nat.reduceMul, e1, e19]
  refine c_split (fun hc => ?_) (fun hc => ?_)
  · have huN : u < t := by omega
    have hwu := wrap64 (x := (u : Int) + 1) (by omega)
    have sx := rx.sl (by omega)
    have sy := ry.sl (by omega)
    have sz := rz.sl (by omega)
    have hmx : msr (fun _ => e.w 0) (e.yv M f) u = isl (e.w 0) (e.yv M f u) := rfl
    have hmy : msr (fun _ => e.w 0) (e.yv M f') u = isl (e.w 0) (e.yv M f' u) := rfl
    have hmz : msr (fun _ => e.w 0) (e.yv M g) u = isl (e.w 0) (e.yv M g u) := rfl
    simp -implicitDefEqProofs only [go_sem, Nat.reduceLT, Nat.reduceBEq, Nat.reduceAdd, Nat.reduceEqDiff, Nat.reduceLeDiff, Nat.reduceSub, Nat.reduceMul, e3, e4, e11, e13, e15, e19, c0, f0, sx, sy, sz, hc, huN, gat_tab, hmx, hmy, hmz]
    refine mcall_of (.int _ _) (fun H1 n1 _ _ => sIn H1 n1) ?_
    simp -implicitDefEqProofs only [go_sem, Nat.reduceLT, Nat.reduceBEq, Nat.reduceAdd, Nat.reduceEqDiff, Nat.reduceLeDiff, Nat.reduceSub, Nat.reduceMul, e13, e19, sy, hc, huN, gat_tab, hmy]
    refine mcall_of (pl_isl _ _).nr (fun H1 n1 _ _ => sAd2 H1 n1 u) ?_
    simp -implicitDefEqProofs only [go_sem, Nat.reduceLT, Nat.reduceBEq, Nat.reduceAdd, Nat.reduceEqDiff, Nat.reduceLeDiff, Nat.reduceSub, Nat.reduceMul]
    refine call_of (sp_SameInts (e.w 0) (e.w 0) _ _ (by omega)) ?_
    rw [decide_eq_true ⟨rfl, fun j hj => hlin u j huN hj⟩]
    simp -implicitDefEqProofs only [go_sem, Nat.reduceLT, Nat.reduceBEq, Nat.reduceAdd, Nat.reduceEqDiff, Nat.reduceLeDiff, Nat.reduceSub, Nat.reduceMul, e19, hwu]
    exact l_n ⟨u + 1, by omega, c0, f0, ho, by simp -implicitDefEqProofs only [go_sem, Nat.reduceLT, Nat.reduceBEq, Nat.reduceAdd, Nat.reduceEqDiff, Nat.reduceLeDiff, Nat.reduceSub, Nat.reduceMul, e1], by simp -implicitDefEqProofs only [go_sem, Nat.reduceLT, Nat.reduceBEq, Nat.reduceAdd, Nat.reduceEqDiff, Nat.reduceLeDiff, Nat.reduceSub, Nat.reduceMul, e3], by simp -implicitDefEqProofs only [go_sem, Nat.reduceLT, Nat.reduceBEq, Nat.reduceAdd, Nat.reduceEqDiff, Nat.reduceLeDiff, Nat.reduceSub, Nat.reduceMul, e4], by simp -implicitDefEqProofs only [go_sem, Nat.reduceLT, Nat.reduceBEq, Nat.reduceAdd, Nat.reduceEqDiff, Nat.reduceLeDiff, Nat.reduceSub, Nat.reduceMul, e11, sx], by simp -implicitDefEqProofs only [go_sem, Nat.reduceLT, Nat.reduceBEq, Nat.reduceAdd, Nat.reduceEqDiff, Nat.reduceLeDiff, Nat.reduceSub, Nat.reduceMul, e13, sy], by simp -implicitDefEqProofs only [go_sem, Nat.reduceLT, Nat.reduceBEq, Nat.reduceAdd, Nat.reduceEqDiff, Nat.reduceLeDiff, Nat.reduceSub, Nat.reduceMul, e15, sz], by simp -implicitDefEqProofs only [go_sem, Nat.reduceLT, Nat.reduceBEq, Nat.reduceAdd, Nat.reduceEqDiff, Nat.reduceLeDiff, Nat.reduceSub, Nat.reduceMul]; rfl, by omega⟩
  · simp -implicitDefEqProofs only [go_sem, Nat.reduceLT, Nat.reduceBEq, Nat.reduceAdd, Nat.reduceEqDiff, Nat.reduceLeDiff, Nat.reduceSub, Nat.reduceMul]
    exact fin_ret rfl (by decide) (fz_bool rfl) ho
end Go.Proofs.Ytdpibcniodhinaa.Gh
/- The ghost code of some functions. -/
namespace Go.Proofs.Ytdpibcniodhinaa.Gh
open Go Go.RowKit
def B_slices_Clone2 : GCode :=
  (.seq (.region [⟨(some 2), .mov (.c (.nil)), none⟩])
  (.seq (.seq (.region [⟨(some 3), .mov (.t 0), none⟩,
    ⟨(some 4), .isnilu false (.t 3), none⟩])
  (.cond (.t 4)
  (.seq (.region [⟨(some 2), .mov (.c (.nil)), none⟩])
  .ret)
  .skip))
  (.seq (.region [⟨(some 5), .empty, none⟩,
    ⟨(some 6), .mov (.t 0), none⟩,
    ⟨(some 7), .append 24 (.t 5) (.t 6), none⟩,
    ⟨(some 2), .mov (.t 7), none⟩])
  .ret)))
def F_slices_Clone2 : GFun := ⟨1, 8, B_slices_Clone2, [.t 2]⟩
theorem ok_slices_Clone2 : okFun Go.Proofs.Try.prog fid_slices_Clone2 F_slices_Clone2 = true := by kernel_rfl
end Go.Proofs.Ytdpibcniodhinaa.Gh
/- Digits, weights, inputs of a step as numbers; steps of a machine add up. -/
namespace Go.Proofs.Ytdpibcniodhinaa.Gh
open Go Go.RowKit
open Alg (CR Ps Dg Zm Mn El Cg sm pw Irr Prm)
set_option linter.unusedVariables false
set_option linter.unusedSimpArgs false

theorem dg_step' {q x : Int} (hq : 2 ≤ q) (i : Nat) : x / q ^ i / q = x / q ^ (i + 1) := by
  rw [Int.pow_succ, Int.ediv_ediv_of_nonneg (Int.pow_nonneg (by omega))]
theorem sp_conv_digits {H : Heap} {n : Nat} (x q : Int) (N : Nat) (hx : 0 ≤ x) (hx1 : x ≤ 1000000000) (hq : 2 ≤ q) (hq1 : q ≤ 1000000000) (hN : N ≤ 1000000) :
    Spec prog fid_conv_digits [.int .i64 x, .int .i64 q, .int .i64 (N : Nat)] H n (isl N (dg q x)) H n := by
  refine spec_ends hmix ok_conv_digits rfl fun hF => ?_
  show gw prog B_conv_digits _ (tl 27 _) H n
  simp -implicitDefEqProofs only [B_conv_digits, go_sem, Nat.reduceLT, Nat.reduceBEq, Nat.reduceAdd, Nat.reduceEqDiff, Nat.reduceLeDiff, Nat.reduceSub, Nat.reduceMul]
  repeat with_reducible refine And.intro (by omega) ?_
  have hne : (q = 0) = False := eq_false (by omega)
  have hX : ∀ i : Nat, 0 ≤ x / q ^ i ∧ x / q ^ i ≤ 1000000000 := fun i => by
    have h0 : 0 < q ^ i := Int.pow_pos (by omega)
    exact ⟨Int.ediv_nonneg hx (by omega), Int.le_trans (Int.ediv_le_self _ hx) hx1⟩
  refine loop_rule (fun (i : Nat) E H' n' => n' = n + 1 ∧ H' n = some (tab N (it (mix (dg q x) (fun _ => 0) i))) ∧ (∀ b, b < n → H' b = H b) ∧ E 0 = .int .i64 (x / q ^ i) ∧ E 1 = .int .i64 q ∧ E 7 = .own n 0 N ∧ E 12 = .int .i64 (N : Nat) ∧ E 13 = .int .i64 (i : Nat) ∧ i ≤ N) (fun i => N - i) 0 ?_ ?_
  · exact ⟨rfl, by simp -implicitDefEqProofs only [go_sem, Nat.reduceLT, Nat.reduceBEq, Nat.reduceAdd, Nat.reduceEqDiff, Nat.reduceLeDiff, Nat.reduceSub, Nat.reduceMul, tab_rep, mix_zero]; rfl, fun b hb => upd_ne _ _ (by omega), by simp -implicitDefEqProofs only [go_sem, Nat.reduceLT, Nat.reduceBEq, Nat.reduceAdd, Nat.reduceEqDiff, Nat.reduceLeDiff, Nat.reduceSub, Nat.reduceMul, Int.pow_zero, Int.ediv_one], rfl, rfl, rfl, rfl, by omega⟩
  rintro i E H' n' ⟨rfl, h0, ho, e0, e1, e7, e12, e13, hi⟩
  simp -implicitDefEqProofs only [go_sem, Nat.reduceLT, Nat.reduceBEq, Nat.reduceAdd, Nat.reduceEqDiff, Nat.reduceLeDiff, Nat.reduceSub, Nat.reduceMul, e12, e13]
  refine c_split (fun hc => ?_) (fun hc => ?_)
  · have hiN : i < N := by omega
    have hwi := wrap64 (x := (i : Int) + 1) (by omega)
    have h1 := hX i
    have h2 := hX (i + 1)
    have hst := mix_step (dg q x) (fun _ => 0) i
    have htm : Int.tmod (x / q ^ i) q = dg q x i := by rw [tmod_nn h1.1]; rfl
    have htd : IntKind.i64.wrap (Int.tdiv (x / q ^ i) q) = x / q ^ (i + 1) := by rw [tdiv_nn h1.1, dg_step' hq]; exact wrap64 (by omega)
    simp -implicitDefEqProofs only [go_sem, Nat.reduceLT, Nat.reduceBEq, Nat.reduceAdd, Nat.reduceEqDiff, Nat.reduceLeDiff, Nat.reduceSub, Nat.reduceMul, e0, e1, e7, e13, h0, hc, hiN, hne, htm, htd, hst, hwi]
    repeat with_reducible refine And.intro (by omega) ?_
    exact l_n ⟨i + 1, by omega, rfl, by simp -implicitDefEqProofs only [go_sem, Nat.reduceLT, Nat.reduceBEq, Nat.reduceAdd, Nat.reduceEqDiff, Nat.reduceLeDiff, Nat.reduceSub, Nat.reduceMul], fun b hb => by rw [upd_ne _ _ (by omega)]; exact ho b hb, by simp -implicitDefEqProofs only [go_sem, Nat.reduceLT, Nat.reduceBEq, Nat.reduceAdd, Nat.reduceEqDiff, Nat.reduceLeDiff, Nat.reduceSub, Nat.reduceMul], by simp -implicitDefEqProofs only [go_sem, Nat.reduceLT, Nat.reduceBEq, Nat.reduceAdd, Nat.reduceEqDiff, Nat.reduceLeDiff, Nat.reduceSub, Nat.reduceMul, e1], by simp -implicitDefEqProofs only [go_sem, Nat.reduceLT, Nat.reduceBEq, Nat.reduceAdd, Nat.reduceEqDiff, Nat.reduceLeDiff, Nat.reduceSub, Nat.reduceMul, e7], by simp -implicitDefEqProofs only [go_sem, Nat.reduceLT, Nat.reduceBEq, Nat.reduceAdd, Nat.reduceEqDiff, Nat.reduceLeDiff, Nat.reduceSub, Nat.reduceMul, e12], by simp -implicitDefEqProofs only [go_sem, Nat.reduceLT, Nat.reduceBEq, Nat.reduceAdd, Nat.reduceEqDiff, Nat.reduceLeDiff, Nat.reduceSub, Nat.reduceMul]; rfl, by omega⟩
  · have : i = N := by omega
    subst this
    simp -implicitDefEqProofs only [go_sem, Nat.reduceLT, Nat.reduceBEq, Nat.reduceAdd, Nat.reduceEqDiff, Nat.reduceLeDiff, Nat.reduceSub, Nat.reduceMul, e7]
    refine fin_ret rfl (by decide) ?_ ho
    simp -implicitDefEqProofs only [go_sem, Nat.reduceLT, Nat.reduceBEq, Nat.reduceAdd, Nat.reduceEqDiff, Nat.reduceLeDiff, Nat.reduceSub, Nat.reduceMul]
    have hrow : H' n = some (tab i (it (dg q x))) := by
      rw [h0]; exact congrArg some (tab_congr fun j hj => congrArg (GV.int .i64) (mix_lt _ _ hj))
    exact fz_own_isl hrow (by omega)
theorem wt_succ (i : Nat) (f : Nat → Int) : wt (i + 1) f = wt i f + if f i = 0 then 0 else 1 := rfl
theorem sp_conv_weight {H : Heap} {n : Nat} (l : Nat) (f : Nat → Int) (hl : l ≤ 1000000) : Spec prog fid_conv_weight [isl l f] H n (.int .i64 (wt l f : Nat)) H n := by
  refine spec_ends hmix ok_conv_weight rfl fun hF => ?_
  show gw prog B_conv_weight _ (tl 18 _) H n
  simp -implicitDefEqProofs only [B_conv_weight, go_sem, Nat.reduceLT, Nat.reduceBEq, Nat.reduceAdd, Nat.reduceEqDiff, Nat.reduceLeDiff, Nat.reduceSub, Nat.reduceMul]
  refine loop_rule (fun (i : Nat) E H' n' => H' = H ∧ n' = n ∧ E 3 = .int .i64 (wt i f : Nat) ∧ E 6 = isl l f ∧ E 7 = .int .i64 (l : Nat) ∧ E 8 = .int .i64 (i : Nat) ∧ i ≤ l) (fun i => l - i) 0 ⟨rfl, rfl, rfl, rfl, rfl, rfl, by omega⟩ ?_
  rintro i E H' n' ⟨rfl, rfl, e3, e6, e7, e8, hi⟩
  simp -implicitDefEqProofs only [go_sem, Nat.reduceLT, Nat.reduceBEq, Nat.reduceAdd, Nat.reduceEqDiff, Nat.reduceLeDiff, Nat.reduceSub, Nat.reduceMul, e7, e8]
  refine c_split (fun hc => ?_) (fun hc => ?_)
  · have hiN : i < l := by omega
    have hwi := wrap64 (x := (i : Int) + 1) (by omega)
    have hle := wt_le i f
    have hs := wt_succ i f
    by_cases hx : f i = 0
    · rw [if_pos hx] at hs
      simp -implicitDefEqProofs only [go_sem, Nat.reduceLT, Nat.reduceBEq, Nat.reduceAdd, Nat.reduceEqDiff, Nat.reduceLeDiff, Nat.reduceSub, Nat.reduceMul, e6, e8, hc, hiN, gat_tab, hx, hwi]
      exact l_n ⟨i + 1, by omega, rfl, rfl, by simp -implicitDefEqProofs only [go_sem, Nat.reduceLT, Nat.reduceBEq, Nat.reduceAdd, Nat.reduceEqDiff, Nat.reduceLeDiff, Nat.reduceSub, Nat.reduceMul, e3, hs], by simp -implicitDefEqProofs only [go_sem, Nat.reduceLT, Nat.reduceBEq, Nat.reduceAdd, Nat.reduceEqDiff, Nat.reduceLeDiff, Nat.reduceSub, Nat.reduceMul, e6], by simp -implicitDefEqProofs only [go_sem, Nat.reduceLT, Nat.reduceBEq, Nat.reduceAdd, Nat.reduceEqDiff, Nat.reduceLeDiff, Nat.reduceSub, Nat.reduceMul, e7], by simp -implicitDefEqProofs only [go_sem, Nat.reduceLT, Nat.reduceBEq, Nat.reduceAdd, Nat.reduceEqDiff, Nat.reduceLeDiff, Nat.reduceSub, Nat.reduceMul]; rfl, by omega⟩
    · rw [if_neg hx] at hs
      have hw : IntKind.i64.wrap (((wt i f : Nat) : Int) + 1) = ((wt (i + 1) f : Nat) : Int) := (wrap64 (by omega)).trans (by omega)
      simp -implicitDefEqProofs only [go_sem, Nat.reduceLT, Nat.reduceBEq, Nat.reduceAdd, Nat.reduceEqDiff, Nat.reduceLeDiff, Nat.reduceSub, Nat.reduceMul, e3, e6, e8, hc, hiN, gat_tab, hx, hwi, hw]
      exact l_n ⟨i + 1, by omega, rfl, rfl, by simp -implicitDefEqProofs only [go_sem, Nat.reduceLT, Nat.reduceBEq, Nat.reduceAdd, Nat.reduceEqDiff, Nat.reduceLeDiff, Nat.reduceSub, Nat.reduceMul], by simp -implicitDefEqProofs only [go_sem, Nat.reduceLT, Nat.reduceBEq, Nat.reduceAdd, Nat.reduceEqDiff, Nat.reduceLeDiff, Nat.reduceSub, Nat.reduceMul, e6], by simp -implicitDefEqProofs only [go_sem, Nat.reduceLT, Nat.reduceBEq, Nat.reduceAdd, Nat.reduceEqDiff, Nat.reduceLeDiff, Nat.reduceSub, Nat.reduceMul, e7], by simp -implicitDefEqProofs only [go_sem, Nat.reduceLT, Nat.reduceBEq, Nat.reduceAdd, Nat.reduceEqDiff, Nat.reduceLeDiff, Nat.reduceSub, Nat.reduceMul]; rfl, by omega⟩
  · have : i = l := by omega
    subst this
    simp -implicitDefEqProofs only [go_sem, Nat.reduceLT, Nat.reduceBEq, Nat.reduceAdd, Nat.reduceEqDiff, Nat.reduceLeDiff, Nat.reduceSub, Nat.reduceMul, e3]
    exact fin_ret rfl (by decide) (by simp -implicitDefEqProofs only [go_sem, Nat.reduceLT, Nat.reduceBEq, Nat.reduceAdd, Nat.reduceEqDiff, Nat.reduceLeDiff, Nat.reduceSub, Nat.reduceMul]; exact fz_int rfl) fun _ _ => rfl
section
variable {k : Nat} {M : Mn k}
theorem Enc.r_tot (e : Enc) : e.tot e.r = e.ds e.r + e.r := by
  have : ∀ i, e.tot i = e.ds i + i := by
    intro i
    induction i with
    | zero => rfl
    | succ i ih => show e.tot i + (e.deg i + 1) = e.ds i + e.deg i + (i + 1); omega
  exact this e.r
theorem Enc.pow_tot {e : Enc} (h : Fi M) (d : e.Des M) (hce : e.ce = 0) : qn M ^ e.ds e.r * qn M ^ e.r ≤ 65536 := by
  have h1 := (Enc.ok hce).2.2.2.2
  rw [d.qo h, ← Int.natCast_pow, e.r_tot, Nat.pow_add] at h1
  omega
theorem Enc.pow_r {e : Enc} (h : Fi M) (d : e.Des M) (hce : e.ce = 0) : ∀ i, i ≤ e.r → qn M ^ i ≤ 65536 := by
  intro i hi
  have h1 := Enc.pow_tot h d hce
  have h3 := qn_two M
  have h4 : qn M ^ i ≤ qn M ^ e.r := Nat.pow_le_pow_right (by omega) hi
  have h5 : 1 * qn M ^ e.r ≤ qn M ^ e.ds e.r * qn M ^ e.r := Nat.mul_le_mul_right _ (Nat.pow_pos (by omega))
  omega
theorem sp_ref20_Inputs {H : Heap} {n : Nat} (e : Enc) (hB : e.Bnd) (h : Fi M) (hd : e.Des M) (hce : e.ce = 0) : Spec prog fid_ref20_Inputs [e.gv] H n (.int .i64 (qn M ^ e.r : Nat)) H n := by
  refine spec_ends hmix ok_ref20_Inputs rfl fun hF => ?_
  show gw prog B_ref20_Inputs _ (tl 18 _) H n
  have hr := hB.r
  have hqo := hd.qo h
  have hq2 := qn_two M
  simp -implicitDefEqProofs only [B_ref20_Inputs, go_sem, Nat.reduceLT, Nat.reduceBEq, Nat.reduceAdd, Nat.reduceEqDiff, Nat.reduceLeDiff, Nat.reduceSub, Nat.reduceMul]
  refine loop_rule (fun (i : Nat) E H' n' => n' = n + 1 ∧ H' n = some e.cs ∧ (∀ b, b < n → H' b = H b) ∧ E 1 = .ptr n 0 ∧ E 3 = .int .i64 (qn M ^ i : Nat) ∧ E 4 = .int .i64 (i : Nat) ∧ i ≤ e.r) (fun i => e.r - i) 0 ⟨rfl, by simp -implicitDefEqProofs only [go_sem, Nat.reduceLT, Nat.reduceBEq, Nat.reduceAdd, Nat.reduceEqDiff, Nat.reduceLeDiff, Nat.reduceSub, Nat.reduceMul], fun b hb => upd_ne _ _ (by omega), rfl, rfl, rfl, by omega⟩ ?_
  rintro i E H' n' ⟨rfl, h0, ho, e1, e3, e4, hi⟩
  simp -implicitDefEqProofs only [go_sem, Nat.reduceLT, Nat.reduceBEq, Nat.reduceAdd, Nat.reduceEqDiff, Nat.reduceLeDiff, Nat.reduceSub, Nat.reduceMul, e1, e4, h0]
  refine c_split (fun hc => ?_) (fun hc => ?_)
  · have hwi := wrap64 (x := (i : Int) + 1) (by omega)
    have hp := Enc.pow_r h hd hce (i + 1) (by omega)
    have hps : qn M ^ (i + 1) = qn M ^ i * qn M := Nat.pow_succ ..
    have hw : IntKind.i64.wrap (((qn M ^ i : Nat) : Int) * ((qn M : Nat) : Int)) = ((qn M ^ (i + 1) : Nat) : Int) := by
      rw [hps]; push_cast; rw [hps] at hp
      have : ((qn M ^ i * qn M : Nat) : Int) = ((qn M : Nat) : Int) ^ i * ((qn M : Nat) : Int) := by push_cast; rfl
      rw [← this]; exact wrap64 (by omega)
    simp -implicitDefEqProofs only [go_sem, Nat.reduceLT, Nat.reduceBEq, Nat.reduceAdd, Nat.reduceEqDiff, Nat.reduceLeDiff, Nat.reduceSub, Nat.reduceMul, e1, e3, h0]
    refine call_of (sp_ref04_Order e.p e.m _ rfl) ?_
    rw [hqo]
    simp -implicitDefEqProofs only [go_sem, Nat.reduceLT, Nat.reduceBEq, Nat.reduceAdd, Nat.reduceEqDiff, Nat.reduceLeDiff, Nat.reduceSub, Nat.reduceMul, e4, hw, hwi]
    exact l_n ⟨i + 1, by omega, rfl, h0, ho, by simp -implicitDefEqProofs only [go_sem, Nat.reduceLT, Nat.reduceBEq, Nat.reduceAdd, Nat.reduceEqDiff, Nat.reduceLeDiff, Nat.reduceSub, Nat.reduceMul, e1], by simp -implicitDefEqProofs only [go_sem, Nat.reduceLT, Nat.reduceBEq, Nat.reduceAdd, Nat.reduceEqDiff, Nat.reduceLeDiff, Nat.reduceSub, Nat.reduceMul], by simp -implicitDefEqProofs only [go_sem, Nat.reduceLT, Nat.reduceBEq, Nat.reduceAdd, Nat.reduceEqDiff, Nat.reduceLeDiff, Nat.reduceSub, Nat.reduceMul]; rfl, by omega⟩
  · have : i = e.r := by omega
    subst this
    simp -implicitDefEqProofs only [go_sem, Nat.reduceLT, Nat.reduceBEq, Nat.reduceAdd, Nat.reduceEqDiff, Nat.reduceLeDiff, Nat.reduceSub, Nat.reduceMul, e3]
    exact fin_ret rfl (by decide) (by simp -implicitDefEqProofs only [go_sem, Nat.reduceLT, Nat.reduceBEq, Nat.reduceAdd, Nat.reduceEqDiff, Nat.reduceLeDiff, Nat.reduceSub, Nat.reduceMul]; exact fz_int rfl) ho
/-- the inputs with the number x -/
def inp (M : Mn k) (x : Nat) : Nat → Int := dg (qn M : Nat) (x : Nat)
theorem inp_in (x : Nat) (i : Nat) : 0 ≤ inp M x i ∧ inp M x i < (qn M : Nat) := by
  have := qn_two M
  exact ⟨dg_lo (by omega) _, dg_hi (by omega) _⟩
theorem sp_ref20_Input {H : Heap} {n : Nat} (e : Enc) (hB : e.Bnd) (h : Fi M) (hd : e.Des M) (hr0 : 0 < e.r) (x : Nat) (hx : x ≤ 1000000000) : Spec prog fid_ref20_Input [e.gv, .int .i64 (x : Nat)] H n (isl e.r (inp M x)) H n := by
  refine spec_ends hmix ok_ref20_Input rfl fun hF => ?_
  show gw prog B_ref20_Input _ (tl 28 _) H n
  have hr := hB.r
  have hqo := hd.qo h
  have hq2 := qn_two M
  have hq := h.fc.qn
  have hne : (((qn M : Nat) : Int) = 0) = False := eq_false (by omega)
  have hX : ∀ i : Nat, 0 ≤ ((x : Nat) : Int) / ((qn M : Nat) : Int) ^ i ∧ ((x : Nat) : Int) / ((qn M : Nat) : Int) ^ i ≤ 1000000000 := fun i => by
    have h0 : 0 < ((qn M : Nat) : Int) ^ i := Int.pow_pos (by omega)
    exact ⟨Int.ediv_nonneg (by omega) (by omega), Int.le_trans (Int.ediv_le_self _ (by omega)) (by omega)⟩
  simp -implicitDefEqProofs only [B_ref20_Input, go_sem, Nat.reduceLT, Nat.reduceBEq, Nat.reduceAdd, Nat.reduceEqDiff, Nat.reduceLeDiff, Nat.reduceSub, Nat.reduceMul]
  refine loop_rule (fun (i : Nat) E H' n' => ∃ gs, n + 1 ≤ n' ∧ H' n = some e.cs ∧ (∀ b, b < n → H' b = H b) ∧ Sl H' (n + 1) n' gs i (it (inp M x)) ∧ E 1 = .int .i64 (((x : Nat) : Int) / ((qn M : Nat) : Int) ^ i) ∧ E 2 = .ptr n 0 ∧ E 5 = gs ∧ E 6 = .int .i64 (i : Nat) ∧ i ≤ e.r) (fun i => e.r - i) 0 ⟨.nil, by omega, by simp -implicitDefEqProofs only [go_sem, Nat.reduceLT, Nat.reduceBEq, Nat.reduceAdd, Nat.reduceEqDiff, Nat.reduceLeDiff, Nat.reduceSub, Nat.reduceMul], fun b hb => upd_ne _ _ (by omega), .nil, by simp -implicitDefEqProofs only [go_sem, Nat.reduceLT, Nat.reduceBEq, Nat.reduceAdd, Nat.reduceEqDiff, Nat.reduceLeDiff, Nat.reduceSub, Nat.reduceMul, Int.pow_zero, Int.ediv_one], rfl, rfl, rfl, by omega⟩ ?_
  rintro i E H' n' ⟨gs, hn, c0, ho, sl, e1, e2, e5, e6, hi⟩
  simp -implicitDefEqProofs only [go_sem, Nat.reduceLT, Nat.reduceBEq, Nat.reduceAdd, Nat.reduceEqDiff, Nat.reduceLeDiff, Nat.reduceSub, Nat.reduceMul, e2, e6, c0]
  refine c_split (fun hc => ?_) (fun hc => ?_)
  · have hwi := wrap64 (x := (i : Int) + 1) (by omega)
    have h1 := hX i
    have h2 := hX (i + 1)
    have htm : Int.tmod (((x : Nat) : Int) / ((qn M : Nat) : Int) ^ i) ((qn M : Nat) : Int) = inp M x i := by rw [tmod_nn h1.1]; rfl
    have htd : IntKind.i64.wrap (Int.tdiv (((x : Nat) : Int) / ((qn M : Nat) : Int) ^ i) ((qn M : Nat) : Int)) = ((x : Nat) : Int) / ((qn M : Nat) : Int) ^ (i + 1) := by rw [tdiv_nn h1.1, dg_step' (by omega)]; exact wrap64 (by omega)
    have f0 : (n = n') = False := eq_false (by omega)
    have hk := sl.cell
    simp -implicitDefEqProofs only [go_sem, Nat.reduceLT, Nat.reduceBEq, Nat.reduceAdd, Nat.reduceEqDiff, Nat.reduceLeDiff, Nat.reduceSub, Nat.reduceMul, e1, e2, e5, c0]
    refine call_of (sp_ref04_Order e.p e.m _ rfl) ?_
    rw [hqo]
    simp -implicitDefEqProofs only [go_sem, Nat.reduceLT, Nat.reduceBEq, Nat.reduceAdd, Nat.reduceEqDiff, Nat.reduceLeDiff, Nat.reduceSub, Nat.reduceMul, hne, htm]
    have sl' : Sl (upd H' n' (some [GV.int .i64 (inp M x i)])) (n + 1) (n' + 1) gs i (it (inp M x)) := sl.keep (fun c hc => upd_ne _ _ (by have := sl.lt hc; omega)) (by omega)
    refine app_one sl' rfl rfl (by omega) fun H2 a1 a2 => ?_
    have c2 : H2 n = some e.cs := by rw [a2 _ (by omega) fun h => by have := sl.lt h; omega, upd_ne _ _ (by omega), c0]
    have ho2 : ∀ b, b < n → H2 b = H b := fun b hb => by rw [a2 _ (by omega) fun h => by have := sl.lt h; omega, upd_ne _ _ (by omega), ho b hb]
    simp -implicitDefEqProofs only [go_sem, Nat.reduceLT, Nat.reduceBEq, Nat.reduceAdd, Nat.reduceEqDiff, Nat.reduceLeDiff, Nat.reduceSub, Nat.reduceMul, e1, e2, c2]
    refine call_of (sp_ref04_Order e.p e.m _ rfl) ?_
    rw [hqo]
    simp -implicitDefEqProofs only [go_sem, Nat.reduceLT, Nat.reduceBEq, Nat.reduceAdd, Nat.reduceEqDiff, Nat.reduceLeDiff, Nat.reduceSub, Nat.reduceMul, e6, hne, htd, hwi]
    exact l_n ⟨i + 1, by omega, .own (n' + 1) 0 (i + 1), by omega, c2, ho2, .inr ⟨n' + 1, by omega, by omega, rfl, a1⟩, by simp -implicitDefEqProofs only [go_sem, Nat.reduceLT, Nat.reduceBEq, Nat.reduceAdd, Nat.reduceEqDiff, Nat.reduceLeDiff, Nat.reduceSub, Nat.reduceMul], by simp -implicitDefEqProofs only [go_sem, Nat.reduceLT, Nat.reduceBEq, Nat.reduceAdd, Nat.reduceEqDiff, Nat.reduceLeDiff, Nat.reduceSub, Nat.reduceMul, e2], by simp -implicitDefEqProofs only [go_sem, Nat.reduceLT, Nat.reduceBEq, Nat.reduceAdd, Nat.reduceEqDiff, Nat.reduceLeDiff, Nat.reduceSub, Nat.reduceMul], by simp -implicitDefEqProofs only [go_sem, Nat.reduceLT, Nat.reduceBEq, Nat.reduceAdd, Nat.reduceEqDiff, Nat.reduceLeDiff, Nat.reduceSub, Nat.reduceMul]; rfl, by omega⟩
  · have : i = e.r := by omega
    subst this
    simp -implicitDefEqProofs only [go_sem, Nat.reduceLT, Nat.reduceBEq, Nat.reduceAdd, Nat.reduceEqDiff, Nat.reduceLeDiff, Nat.reduceSub, Nat.reduceMul, e5]
    obtain ⟨b1, r1, r2, rfl, r4⟩ := sl.own (by omega)
    refine fin_ret rfl (by decide) ?_ ho
    simp -implicitDefEqProofs only [go_sem, Nat.reduceLT, Nat.reduceBEq, Nat.reduceAdd, Nat.reduceEqDiff, Nat.reduceLeDiff, Nat.reduceSub, Nat.reduceMul]
    exact fz_own_isl r4 (by omega)
theorem sp_ref20_Small {H : Heap} {n : Nat} (e : Enc) (hB : e.Bnd) (h : Fi M) (hd : e.Des M) (hce : e.ce = 0) (N : Int) : Spec prog fid_ref20_Small [e.gv, .int .i64 N] H n (.bool (decide (((qn M ^ e.ds e.r * qn M ^ e.r : Nat) : Int) ≤ N ∧ e.w 0 ≤ 6))) H n := by
  generalize hR : decide (((qn M ^ e.ds e.r * qn M ^ e.r : Nat) : Int) ≤ N ∧ e.w 0 ≤ 6) = R
  refine spec_ends hmix ok_ref20_Small rfl fun hF => ?_
  show gw prog B_ref20_Small _ (tl 20 _) H n
  have hu : ∀ x b, b < n → upd H n x b = H b := fun x b hb => upd_ne _ _ (by omega)
  have hp := Enc.pow_tot h hd hce
  have hr0 : 0 < e.r := by have := (Enc.ok hce).2.1.1; omega
  have hr1 : (0 : Int) < (e.r : Int) := by omega
  have hz4 : (0 : Int).toNat = 0 := rfl
  have hz5 : (0 : Int) ≤ 0 := Int.le_refl 0
  have hrw : e.rw 0 = .sl (e.w 0) (tab (e.w 0) (e.pl 0)) := rfl
  have hw : IntKind.i64.wrap (((qn M ^ e.ds e.r : Nat) : Int) * ((qn M ^ e.r : Nat) : Int)) = ((qn M ^ e.ds e.r * qn M ^ e.r : Nat) : Int) := by
    rw [Int.natCast_mul]; rw [← Int.natCast_mul]; exact wrap64 (by omega)
  have f0 : n < n + 1 := by omega
  simp -implicitDefEqProofs only [B_ref20_Small, go_sem, Nat.reduceLT, Nat.reduceBEq, Nat.reduceAdd, Nat.reduceEqDiff, Nat.reduceLeDiff, Nat.reduceSub, Nat.reduceMul, f0]
  refine mcall_of (.int _ _) (fun H1 n1 _ _ => sp_ref20_States e hB h hd hce) ?_
  simp -implicitDefEqProofs only [go_sem, Nat.reduceLT, Nat.reduceBEq, Nat.reduceAdd, Nat.reduceEqDiff, Nat.reduceLeDiff, Nat.reduceSub, Nat.reduceMul, f0]
  refine mcall_of (.int _ _) (fun H1 n1 _ _ => sp_ref20_Inputs e hB h hd hce) ?_
  by_cases h1 : ((qn M ^ e.ds e.r * qn M ^ e.r : Nat) : Int) ≤ N
  · by_cases h2 : (e.w 0 : Int) ≤ 6
    · simp -implicitDefEqProofs only [go_sem, Nat.reduceLT, Nat.reduceBEq, Nat.reduceAdd, Nat.reduceEqDiff, Nat.reduceLeDiff, Nat.reduceSub, Nat.reduceMul, hw, h1, hr0, hr1, hz4, hz5, Nat.zero_mul, gat_tab, hrw, h2]
      exact fin_ret rfl (by decide) (by simp -implicitDefEqProofs only [go_sem, Nat.reduceLT, Nat.reduceBEq, Nat.reduceAdd, Nat.reduceEqDiff, Nat.reduceLeDiff, Nat.reduceSub, Nat.reduceMul]; exact fz_bool ((hR.symm.trans (decide_eq_true ⟨h1, by omega⟩)).symm)) (hu _)
    · simp -implicitDefEqProofs only [go_sem, Nat.reduceLT, Nat.reduceBEq, Nat.reduceAdd, Nat.reduceEqDiff, Nat.reduceLeDiff, Nat.reduceSub, Nat.reduceMul, hw, h1, hr0, hr1, hz4, hz5, Nat.zero_mul, gat_tab, hrw, h2]
      exact fin_ret rfl (by decide) (by simp -implicitDefEqProofs only [go_sem, Nat.reduceLT, Nat.reduceBEq, Nat.reduceAdd, Nat.reduceEqDiff, Nat.reduceLeDiff, Nat.reduceSub, Nat.reduceMul]; exact fz_bool ((hR.symm.trans (decide_eq_false fun h => h2 (by have := h.2; omega))).symm)) (hu _)
  · simp -implicitDefEqProofs only [go_sem, Nat.reduceLT, Nat.reduceBEq, Nat.reduceAdd, Nat.reduceEqDiff, Nat.reduceLeDiff, Nat.reduceSub, Nat.reduceMul, hw, h1]
    exact fin_ret rfl (by decide) (by simp -implicitDefEqProofs only [go_sem, Nat.reduceLT, Nat.reduceBEq, Nat.reduceAdd, Nat.reduceEqDiff, Nat.reduceLeDiff, Nat.reduceSub, Nat.reduceMul]; exact fz_bool ((hR.symm.trans (decide_eq_false fun h => h1 h.1)).symm)) (hu _)
/-- a step is that of the state with inputs of zeros, plus that of the inputs in state 0 -/
theorem Enc.X_split (e : Enc) (q st : Int) (f : Nat → Int) (i d : Nat) : e.X q st f i d = e.X q st (fun _ => 0) i d + e.X q 0 f i d ∧ (e.X q st (fun _ => 0) i d = 0 ∨ e.X q 0 f i d = 0) := by
  unfold X
  by_cases h : d = 0
  · rw [if_pos h, if_pos h, if_pos h]; exact ⟨(Int.zero_add _).symm, .inl rfl⟩
  · rw [if_neg h, if_neg h, if_neg h, dg_of_zero]; exact ⟨by omega, .inr rfl⟩
theorem si_add {n : Nat} {f g h : Nat → Int} (hh : ∀ i, i < n → h i = f i + g i) : si n h = si n f + si n g := by
  induction n with
  | zero => rfl
  | succ n ih => rw [si, si, si, ih fun i hi => hh i (by omega), hh n (by omega)]; omega
theorem Enc.nx_add (e : Enc) (q st : Int) (f : Nat → Int) : e.nx q st f e.r 0 = e.nx q st (fun _ => 0) e.r 0 + e.nx q 0 f e.r 0 := by
  unfold nx
  rw [si_add (f := fun i' => si (e.deg i') fun d' => e.X q st (fun _ => 0) i' d' * q ^ (e.ds i' + d')) (g := fun i' => si (e.deg i') fun d' => e.X q 0 f i' d' * q ^ (e.ds i' + d')) fun i _ => si_add fun d _ => by rw [(e.X_split q st f i d).1, Int.add_mul]]
  simp only [si]; omega
theorem Enc.so_lin (e : Enc) (h : Fc M) (st : Int) (f : Nat → Int) (j : Nat) : e.so M st f e.r 0 j = e.so M st (fun _ => 0) e.r 0 j + e.so M 0 f e.r 0 j := by
  unfold so
  rw [Alg.sm_zero, Alg.sm_zero, Alg.sm_zero, Alg.add_zero, Alg.add_zero, Alg.add_zero, ← Alg.sm_add]
  refine Alg.sm_congr fun i _ => ?_
  rw [← Alg.sm_add]
  refine Alg.sm_congr fun d _ => ?_
  unfold tm
  rw [← Alg.add_mul]
  congr 1
  obtain ⟨h1, h2⟩ := e.X_split (qn M : Nat) st f i d
  rcases h2 with h2 | h2
  · rw [h1, h2, ein_zero h, Alg.zero_add, Int.zero_add]
  · rw [h1, h2, ein_zero h, Alg.add_zero, Int.add_zero]
end
end Go.Proofs.Ytdpibcniodhinaa.Gh
