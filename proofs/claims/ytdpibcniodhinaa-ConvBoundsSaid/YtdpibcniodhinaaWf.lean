/- The steps of a machine, all of them. -/
import Derived.Test.YtdpibcniodhinaaWe
namespace Go.Proofs.Ytdpibcniodhinaa.Gh
open Go Go.RowKit
open Alg (CR Ps Dg Zm Mn El Cg sm pw Irr Prm)
set_option linter.unusedVariables false
set_option linter.unusedSimpArgs false

def mixg (g f : Nat → GV) (i : Nat) : Nat → GV := fun j => if j < i then g j else f j
theorem mixg_step (g f : Nat → GV) (i : Nat) : upf (mixg g f i) i (g i) = mixg g f (i + 1) := by
  funext j
  by_cases e : j = i
  · subst e; rw [upf_same, mixg, if_pos (by omega)]
  · rw [upf_ne _ _ e, mixg, mixg]
    by_cases h : j < i
    · rw [if_pos h, if_pos (by omega)]
    · rw [if_neg h, if_neg (by omega)]
theorem mixg_zero (g f : Nat → GV) : mixg g f 0 = f := by funext j; exact if_neg (by omega)
theorem mixg_lt (g f : Nat → GV) {i j : Nat} (h : j < i) : mixg g f i j = g j := if_pos h
section
variable {k : Nat} {M : Mn k}
/-- the next state, and the weight of the output, of the step with the number a -/
noncomputable def Enc.nxa (e : Enc) (M : Mn k) (a : Nat) : Int := e.nx (qn M : Nat) ((a / qn M ^ e.r : Nat) : Int) (inp M (a % qn M ^ e.r)) e.r 0
noncomputable def Enc.orw (e : Enc) (M : Mn k) (s x : Nat) : Nat → Int := fun j => (cn (e.so M ((s : Nat) : Int) (inp M x) e.r 0 j) : Nat)
noncomputable def Enc.owa (e : Enc) (M : Mn k) (a : Nat) : Nat := wt (e.w 0) (e.orw M (a / qn M ^ e.r) (a % qn M ^ e.r))
noncomputable abbrev Enc.edg (e : Enc) (M : Mn k) : GV := .agg [.int .i64 (qn M ^ e.r : Nat), isl (qn M ^ e.ds e.r * qn M ^ e.r) (e.nxa M), isl (qn M ^ e.ds e.r * qn M ^ e.r) fun a => (e.owa M a : Nat)]
theorem div_at {s i I : Nat} (h : i < I) : (s * I + i) / I = s := by
  rw [Nat.mul_comm, Nat.mul_add_div (by omega), Nat.div_eq_of_lt h, Nat.add_zero]
theorem mod_at {s i I : Nat} (h : i < I) : (s * I + i) % I = i := by
  rw [Nat.mul_comm, Nat.mul_add_mod, Nat.mod_eq_of_lt h]
theorem Enc.nx_in {e : Enc} (h : Fi M) {st : Int} {f : Nat → Int} (hin : ∀ i, i < e.r → 0 ≤ f i ∧ f i < (qn M : Nat)) : 0 ≤ e.nx (qn M : Nat) st f e.r 0 ∧ e.nx (qn M : Nat) st f e.r 0 < ((qn M ^ e.ds e.r : Nat) : Int) := by
  have hq2 := qn_two M
  have h1 := e.nx_lt (q := (qn M : Nat)) (st := st) (inp := f) (by omega) hin e.r (Nat.le_refl _) 0 (.inl rfl)
  rw [Nat.add_zero] at h1
  rw [Int.natCast_pow]; exact h1
set_option maxHeartbeats 8000000 in
theorem sp_edges {H : Heap} {n : Nat} (e : Enc) (hB : e.Bnd) (h : Fi M) (hd : e.Des M) (hce : e.ce = 0) : Spec prog fid_conv_machine_edges [e.mch h.gf (qn M)] H n (e.edg M) H n := by
  refine spec_ends hmix ok_conv_machine_edges rfl fun hF => ?_
  show gw prog B_conv_machine_edges _ (tl 132 _) H n
  have hr := hB.r
  have hq2 := qn_two M
  have hq := h.fc.qn
  have hr0 : 0 < e.r := by have := (Enc.ok hce).2.1.1; omega
  have hw0 := hB.w 0 hr0
  have hp := Enc.pow_tot h hd hce
  have hpr := Enc.pow_r h hd hce
  have hS1 : 1 ≤ qn M ^ e.ds e.r := Nat.pow_pos (by omega)
  have hI1 : 1 ≤ qn M ^ e.r := Nat.pow_pos (by omega)
  have hS2 : qn M ^ e.ds e.r ≤ 65536 := Enc.pow_le h hd hce _ (Nat.le_refl _)
  generalize hgf : h.gf = gf
  have hm : e.mch gf (qn M) = .pp (e.mcl gf (qn M)) 0 := rfl
  have hin0 : ∀ i, i < e.r → 0 ≤ (fun _ : Nat => (0 : Int)) i ∧ (fun _ : Nat => (0 : Int)) i < (qn M : Nat) := fun i _ => ⟨Int.le_refl _, by show (0 : Int) < _; omega⟩
  have u1 : ∀ x y b, b < n → upd (upd H n x) (n + 1) y b = H b := fun x y b hb => by rw [upd_ne _ _ (by omega), upd_ne _ _ (by omega)]
  have f1 : (n = n + 1) = False := eq_false (by omega)
  simp -implicitDefEqProofs only [B_conv_machine_edges, hm, Enc.mcl, go_sem, Nat.reduceLT, Nat.reduceBEq, Nat.reduceAdd, Nat.reduceEqDiff, Nat.reduceLeDiff, Nat.reduceSub, Nat.reduceMul, upd_no, f1]
  generalize hcl : [gf, .sl e.r (tab e.r fun t => .sl (e.w t) (tab (e.w t) (e.rowf t))), .int .i64 (e.r : Nat), .int .i64 (e.w 0 : Nat), isl e.r (fun t => (e.deg t : Nat)), .int .i64 (e.mem e.r : Nat), .int .i64 (qn M : Nat), .int .i64 (qn M ^ e.ds e.r : Nat), isl e.r fun t => (qn M ^ e.ds t : Nat)] = CL
  have hmc : e.mch gf (qn M) = .pp CL 0 := by rw [← hcl]; rfl
  have cl : CL.length = 9 := by rw [← hcl]; rfl
  have g0 : gat CL 0 = gf := by rw [← hcl]; rfl
  have g2 : gat CL 2 = .int .i64 (e.r : Nat) := by rw [← hcl]; rfl
  have g6 : gat CL 6 = .int .i64 (qn M : Nat) := by rw [← hcl]; rfl
  have g7 : gat CL 7 = .int .i64 (qn M ^ e.ds e.r : Nat) := by rw [← hcl]; rfl
  refine loop_rule (fun (i : Nat) E H' n' => n' = n + 2 ∧ H' n = some [.int .i64 0, .nil, .nil] ∧ H' (n + 1) = some [.int .i64 (qn M ^ i : Nat), .nil, .nil] ∧ (∀ b, b < n → H' b = H b) ∧ E 0 = .pp CL 0 ∧ E 2 = .ptr n 0 ∧ E 3 = .ptr (n + 1) 0 ∧ E 19 = .int .i64 (e.r : Nat) ∧ E 20 = .int .i64 (i : Nat) ∧ i ≤ e.r) (fun i => e.r - i) 0 ?_ ?_
  · exact ⟨rfl, by simp -implicitDefEqProofs only [go_sem, Nat.reduceLT, Nat.reduceBEq, Nat.reduceAdd, Nat.reduceEqDiff, Nat.reduceLeDiff, Nat.reduceSub, Nat.reduceMul, upd_no, f1], by simp -implicitDefEqProofs only [go_sem, Nat.reduceLT, Nat.reduceBEq, Nat.reduceAdd, Nat.reduceEqDiff, Nat.reduceLeDiff, Nat.reduceSub, Nat.reduceMul, Nat.pow_zero]; rfl, u1 _ _, rfl, rfl, rfl, rfl, rfl, by omega⟩
  rintro i E H' n' ⟨rfl, c0, c1, ho, e0, e2, e3, e19, e20, hi⟩
  simp -implicitDefEqProofs only [go_sem, Nat.reduceLT, Nat.reduceBEq, Nat.reduceAdd, Nat.reduceEqDiff, Nat.reduceLeDiff, Nat.reduceSub, Nat.reduceMul, e19, e20]
  refine c_split (fun hc => ?_) (fun hc => ?_)
  · have hwi := wrap64 (x := (i : Int) + 1) (by omega)
    have hpi := hpr (i + 1) (by omega)
    have hps : qn M ^ (i + 1) = qn M ^ i * qn M := Nat.pow_succ ..
    have hw : IntKind.i64.wrap (((qn M ^ i : Nat) : Int) * ((qn M : Nat) : Int)) = ((qn M ^ (i + 1) : Nat) : Int) := by
      rw [hps]; rw [hps] at hpi
      have : ((qn M ^ i : Nat) : Int) * ((qn M : Nat) : Int) = ((qn M ^ i * qn M : Nat) : Int) := (Int.natCast_mul ..).symm
      rw [this]; exact wrap64 (by omega)
    have f2 : n + 1 < n + 2 := by omega
    simp -implicitDefEqProofs only [go_sem, Nat.reduceLT, Nat.reduceBEq, Nat.reduceAdd, Nat.reduceEqDiff, Nat.reduceLeDiff, Nat.reduceSub, Nat.reduceMul, e0, e3, c1, f2, cl, g6, hw, e20, hwi]
    exact l_n ⟨i + 1, by omega, rfl, by rw [upd_ne _ _ (by omega)]; exact c0, by simp -implicitDefEqProofs only [go_sem, Nat.reduceLT, Nat.reduceBEq, Nat.reduceAdd, Nat.reduceEqDiff, Nat.reduceLeDiff, Nat.reduceSub, Nat.reduceMul], fun b hb => by rw [upd_ne _ _ (by omega)]; exact ho b hb, by simp -implicitDefEqProofs only [go_sem, Nat.reduceLT, Nat.reduceBEq, Nat.reduceAdd, Nat.reduceEqDiff, Nat.reduceLeDiff, Nat.reduceSub, Nat.reduceMul, e0], by simp -implicitDefEqProofs only [go_sem, Nat.reduceLT, Nat.reduceBEq, Nat.reduceAdd, Nat.reduceEqDiff, Nat.reduceLeDiff, Nat.reduceSub, Nat.reduceMul, e2], by simp -implicitDefEqProofs only [go_sem, Nat.reduceLT, Nat.reduceBEq, Nat.reduceAdd, Nat.reduceEqDiff, Nat.reduceLeDiff, Nat.reduceSub, Nat.reduceMul, e3], by simp -implicitDefEqProofs only [go_sem, Nat.reduceLT, Nat.reduceBEq, Nat.reduceAdd, Nat.reduceEqDiff, Nat.reduceLeDiff, Nat.reduceSub, Nat.reduceMul, e19], by simp -implicitDefEqProofs only [go_sem, Nat.reduceLT, Nat.reduceBEq, Nat.reduceAdd, Nat.reduceEqDiff, Nat.reduceLeDiff, Nat.reduceSub, Nat.reduceMul]; rfl, by omega⟩
  have : i = e.r := by omega
  subst this
  generalize hII : qn M ^ e.r = I at *
  generalize hSS : qn M ^ e.ds e.r = S at *
  have hedg : e.edg M = .agg [.int .i64 (I : Nat), isl (S * I) (e.nxa M), isl (S * I) fun a => (e.owa M a : Nat)] := by rw [← hII, ← hSS]
  rw [hedg]
  have f2 : n + 1 < n + 2 := by omega
  have hI2 : I ≤ 65536 := hII ▸ hpr e.r (Nat.le_refl _)
  simp -implicitDefEqProofs only [go_sem, Nat.reduceLT, Nat.reduceBEq, Nat.reduceAdd, Nat.reduceEqDiff, Nat.reduceLeDiff, Nat.reduceSub, Nat.reduceMul, e3, c1, f2]
  repeat with_reducible refine And.intro (by omega) ?_
  let ah : Nat → Int := fun x => e.nx (qn M : Nat) 0 (inp M x) e.r 0
  let ou : Nat → GV := fun x => isl (e.w 0) (e.orw M 0 x)
  have sDig : ∀ (H : Heap) (n x : Nat), x < I → Spec prog fid_conv_digits [.int .i64 (x : Nat), .int .i64 (qn M : Nat), .int .i64 (e.r : Nat)] H n (isl e.r (inp M x)) H n := fun H n x hx => sp_conv_digits (x : Nat) (qn M : Nat) e.r (by omega) (by omega) (by omega) (by omega) (by omega)
  have sSt0 : ∀ (H : Heap) (n x : Nat), Spec prog fid_conv_machine_step [.pp CL 0, .int .i64 0, isl e.r (inp M x)] H n (.tup [.int .i64 (ah x), isl (e.w 0) (e.orw M 0 x)]) H n := fun H n x => by
    have := sp_step (H := H) (n := n) e hB h hd hce 0 (inp M x) (by omega) (by omega) fun i _ => inp_in x i
    rw [hgf, hmc] at this; exact this
  have sStz : ∀ (H : Heap) (n s : Nat) (a : GV), s < S → Rd H n a e.r (fun _ => 0) → Spec prog fid_conv_machine_step [.pp CL 0, .int .i64 (s : Nat), a] H n (.tup [.int .i64 (e.nx (qn M : Nat) (s : Nat) (fun _ => 0) e.r 0), isl (e.w 0) fun j => (cn (e.so M (s : Nat) (fun _ => 0) e.r 0 j) : Nat)]) H n := fun H n s a hs ha => by
    have := sp_step' (H := H) (n := n) e hB h hd hce (s : Nat) (fun _ => 0) (by omega) (by omega) hin0 ha
    rw [hgf, hmc] at this; exact this
  refine loop_rule (fun (i : Nat) E H' n' => n' = n + 4 ∧ H' n = some [.int .i64 0, .nil, .nil] ∧ H' (n + 1) = some [.int .i64 (I : Nat), .nil, .nil] ∧ H' (n + 2) = some (tab I (it (mix ah (fun _ => 0) i))) ∧ H' (n + 3) = some (tab I (mixg ou (fun _ => .nil) i)) ∧ (∀ b, b < n → H' b = H b) ∧ E 0 = .pp CL 0 ∧ E 2 = .ptr n 0 ∧ E 3 = .ptr (n + 1) 0 ∧ E 4 = .own (n + 2) 0 I ∧ E 5 = .own (n + 3) 0 I ∧ E 38 = .int .i64 (I : Nat) ∧ E 39 = .int .i64 (i : Nat) ∧ i ≤ I) (fun i => I - i) 0 ?_ ?_
  · refine ⟨rfl, by simp -implicitDefEqProofs only [go_sem, Nat.reduceLT, Nat.reduceBEq, Nat.reduceAdd, Nat.reduceEqDiff, Nat.reduceLeDiff, Nat.reduceSub, Nat.reduceMul, upd_no, c0], by simp -implicitDefEqProofs only [go_sem, Nat.reduceLT, Nat.reduceBEq, Nat.reduceAdd, Nat.reduceEqDiff, Nat.reduceLeDiff, Nat.reduceSub, Nat.reduceMul, upd_no, c1], ?_, ?_, fun b hb => ?_, by simp -implicitDefEqProofs only [go_sem, Nat.reduceLT, Nat.reduceBEq, Nat.reduceAdd, Nat.reduceEqDiff, Nat.reduceLeDiff, Nat.reduceSub, Nat.reduceMul, e0], by simp -implicitDefEqProofs only [go_sem, Nat.reduceLT, Nat.reduceBEq, Nat.reduceAdd, Nat.reduceEqDiff, Nat.reduceLeDiff, Nat.reduceSub, Nat.reduceMul, e2], by simp -implicitDefEqProofs only [go_sem, Nat.reduceLT, Nat.reduceBEq, Nat.reduceAdd, Nat.reduceEqDiff, Nat.reduceLeDiff, Nat.reduceSub, Nat.reduceMul, e3], rfl, rfl, rfl, rfl, by omega⟩
    · simp -implicitDefEqProofs only [go_sem, Nat.reduceLT, Nat.reduceBEq, Nat.reduceAdd, Nat.reduceEqDiff, Nat.reduceLeDiff, Nat.reduceSub, Nat.reduceMul, mix_zero]; exact congrArg some (tab_rep _)
    · simp -implicitDefEqProofs only [go_sem, Nat.reduceLT, Nat.reduceBEq, Nat.reduceAdd, Nat.reduceEqDiff, Nat.reduceLeDiff, Nat.reduceSub, Nat.reduceMul, mixg_zero]; exact congrArg some (tab_rep _)
    · rw [upd_ne _ _ (by omega), upd_ne _ _ (by omega), ho b hb]
  clear hi hc e20 e19 e3 e2 e0 ho c1 c0 E H'
  rintro i E H' n' ⟨rfl, c0, c1, c2, c3, ho, e0, e2, e3, e4, e5, e38, e39, hi⟩
  simp -implicitDefEqProofs only [go_sem, Nat.reduceLT, Nat.reduceBEq, Nat.reduceAdd, Nat.reduceEqDiff, Nat.reduceLeDiff, Nat.reduceSub, Nat.reduceMul, e38, e39]
  refine c_split (fun hc => ?_) (fun hc => ?_)
  · have hiN : i < I := by omega
    have hwi := wrap64 (x := (i : Int) + 1) (by omega)
    have hst := mix_step ah (fun _ => 0) i
    have hsg : upf (mixg ou (fun _ => .nil) i) i (isl (e.w 0) (e.orw M 0 i)) = mixg ou (fun _ => .nil) (i + 1) := mixg_step ou (fun _ => .nil) i
    have f3 : (n + 3 = n + 2) = False := eq_false (by omega)
    simp -implicitDefEqProofs only [go_sem, Nat.reduceLT, Nat.reduceBEq, Nat.reduceAdd, Nat.reduceEqDiff, Nat.reduceLeDiff, Nat.reduceSub, Nat.reduceMul, e0, e4, e5, e39, cl, g2, g6]
    refine mcall_of (pl_isl _ _).nr (fun H1 n1 _ _ => sDig H1 n1 i hiN) ?_
    simp -implicitDefEqProofs only [go_sem, Nat.reduceLT, Nat.reduceBEq, Nat.reduceAdd, Nat.reduceEqDiff, Nat.reduceLeDiff, Nat.reduceSub, Nat.reduceMul]
    refine mcall_of (Pl.nr (.tup _ fun j hj => by
      rcases j with _ | _ | j
      · exact .int _ _
      · exact pl_isl _ _
      · simp at hj; omega)) (fun H1 n1 _ _ => sSt0 H1 n1 i) ?_
    simp -implicitDefEqProofs only [go_sem, Nat.reduceLT, Nat.reduceBEq, Nat.reduceAdd, Nat.reduceEqDiff, Nat.reduceLeDiff, Nat.reduceSub, Nat.reduceMul, hc, hiN, c2, c3, hst, hsg, upd_no, f3, e39, hwi]
    repeat with_reducible refine And.intro (by omega) ?_
    refine l_n ⟨i + 1, by omega, rfl, ?_, ?_, ?_, ?_, fun b hb => ?_, by simp -implicitDefEqProofs only [go_sem, Nat.reduceLT, Nat.reduceBEq, Nat.reduceAdd, Nat.reduceEqDiff, Nat.reduceLeDiff, Nat.reduceSub, Nat.reduceMul, e0], by simp -implicitDefEqProofs only [go_sem, Nat.reduceLT, Nat.reduceBEq, Nat.reduceAdd, Nat.reduceEqDiff, Nat.reduceLeDiff, Nat.reduceSub, Nat.reduceMul, e2], by simp -implicitDefEqProofs only [go_sem, Nat.reduceLT, Nat.reduceBEq, Nat.reduceAdd, Nat.reduceEqDiff, Nat.reduceLeDiff, Nat.reduceSub, Nat.reduceMul, e3], by simp -implicitDefEqProofs only [go_sem, Nat.reduceLT, Nat.reduceBEq, Nat.reduceAdd, Nat.reduceEqDiff, Nat.reduceLeDiff, Nat.reduceSub, Nat.reduceMul, e4], by simp -implicitDefEqProofs only [go_sem, Nat.reduceLT, Nat.reduceBEq, Nat.reduceAdd, Nat.reduceEqDiff, Nat.reduceLeDiff, Nat.reduceSub, Nat.reduceMul, e5], by simp -implicitDefEqProofs only [go_sem, Nat.reduceLT, Nat.reduceBEq, Nat.reduceAdd, Nat.reduceEqDiff, Nat.reduceLeDiff, Nat.reduceSub, Nat.reduceMul, e38], by simp -implicitDefEqProofs only [go_sem, Nat.reduceLT, Nat.reduceBEq, Nat.reduceAdd, Nat.reduceEqDiff, Nat.reduceLeDiff, Nat.reduceSub, Nat.reduceMul]; rfl, by omega⟩
    · rw [upd_ne _ _ (by omega), upd_ne _ _ (by omega), c0]
    · rw [upd_ne _ _ (by omega), upd_ne _ _ (by omega), c1]
    · rw [upd_ne _ _ (by omega), upd_same]
    · rw [upd_same]
    · rw [upd_ne _ _ (by omega), upd_ne _ _ (by omega), ho b hb]
  have : i = I := by omega
  subst this
  have c2' : H' (n + 2) = some (tab i (it ah)) := by
    rw [c2]; exact congrArg some (tab_congr fun j hj => congrArg (GV.int .i64) (mix_lt _ _ hj))
  have c3' : H' (n + 3) = some (tab i ou) := by
    rw [c3]; exact congrArg some (tab_congr fun j hj => mixg_lt _ _ hj)
  simp -implicitDefEqProofs only [go_sem, Nat.reduceLT, Nat.reduceBEq, Nat.reduceAdd, Nat.reduceEqDiff, Nat.reduceLeDiff, Nat.reduceSub, Nat.reduceMul, e0, cl, g2, g7]
  repeat with_reducible refine And.intro (by omega) ?_
  refine loop_rule (fun (s : Nat) E H' n' => ∃ g1 g2, n + 5 ≤ n' ∧ H' n = some [.int .i64 0, .nil, .nil] ∧ H' (n + 1) = some [.int .i64 (i : Nat), g1, g2] ∧ H' (n + 2) = some (tab i (it ah)) ∧ H' (n + 3) = some (tab i ou) ∧ H' (n + 4) = some (tab e.r (it fun _ => 0)) ∧ (∀ b, b < n → H' b = H b) ∧ Sl H' (n + 5) n' g1 (s * i) (it (e.nxa M)) ∧ Sl H' (n + 5) n' g2 (s * i) (it fun a => (e.owa M a : Nat)) ∧ (∀ c, Own g1 c → ¬ Own g2 c) ∧ E 0 = .pp CL 0 ∧ E 2 = .ptr n 0 ∧ E 3 = .ptr (n + 1) 0 ∧ E 4 = .own (n + 2) 0 i ∧ E 5 = .own (n + 3) 0 i ∧ E 7 = .own (n + 4) 0 e.r ∧ E 72 = .int .i64 (S : Nat) ∧ E 73 = .int .i64 (s : Nat) ∧ s ≤ S) (fun s => S - s) 0 ?_ ?_
  · refine ⟨.nil, .nil, by omega, by simp -implicitDefEqProofs only [go_sem, Nat.reduceLT, Nat.reduceBEq, Nat.reduceAdd, Nat.reduceEqDiff, Nat.reduceLeDiff, Nat.reduceSub, Nat.reduceMul, upd_no, c0], by simp -implicitDefEqProofs only [go_sem, Nat.reduceLT, Nat.reduceBEq, Nat.reduceAdd, Nat.reduceEqDiff, Nat.reduceLeDiff, Nat.reduceSub, Nat.reduceMul, upd_no, c1], ?_, ?_, ?_, fun b hb => ?_, by rw [Nat.zero_mul]; exact .nil, by rw [Nat.zero_mul]; exact .nil, fun c h => absurd h own_nil, by simp -implicitDefEqProofs only [go_sem, Nat.reduceLT, Nat.reduceBEq, Nat.reduceAdd, Nat.reduceEqDiff, Nat.reduceLeDiff, Nat.reduceSub, Nat.reduceMul, e0], by simp -implicitDefEqProofs only [go_sem, Nat.reduceLT, Nat.reduceBEq, Nat.reduceAdd, Nat.reduceEqDiff, Nat.reduceLeDiff, Nat.reduceSub, Nat.reduceMul, e2], by simp -implicitDefEqProofs only [go_sem, Nat.reduceLT, Nat.reduceBEq, Nat.reduceAdd, Nat.reduceEqDiff, Nat.reduceLeDiff, Nat.reduceSub, Nat.reduceMul, e3], by simp -implicitDefEqProofs only [go_sem, Nat.reduceLT, Nat.reduceBEq, Nat.reduceAdd, Nat.reduceEqDiff, Nat.reduceLeDiff, Nat.reduceSub, Nat.reduceMul, e4], by simp -implicitDefEqProofs only [go_sem, Nat.reduceLT, Nat.reduceBEq, Nat.reduceAdd, Nat.reduceEqDiff, Nat.reduceLeDiff, Nat.reduceSub, Nat.reduceMul, e5], rfl, rfl, rfl, by omega⟩
    · rw [upd_ne _ _ (by omega), c2']
    · rw [upd_ne _ _ (by omega), c3']
    · simp -implicitDefEqProofs only [go_sem, Nat.reduceLT, Nat.reduceBEq, Nat.reduceAdd, Nat.reduceEqDiff, Nat.reduceLeDiff, Nat.reduceSub, Nat.reduceMul]; exact congrArg some (tab_rep _)
    · rw [upd_ne _ _ (by omega), ho b hb]
  clear c3' c2' hi hc e39 e38 e5 e4 e3 e2 e0 ho c3 c2 c1 c0 E H'
  generalize i = I at *
  rintro s E H' n' ⟨g1, g2, hn, c0, c1, c2, c3, c4, ho, s1, s2, hdj, e0, e2, e3, e4, e5, e7, e72, e73, hs⟩
  simp -implicitDefEqProofs only [go_sem, Nat.reduceLT, Nat.reduceBEq, Nat.reduceAdd, Nat.reduceEqDiff, Nat.reduceLeDiff, Nat.reduceSub, Nat.reduceMul, e72, e73]
  refine c_split (fun hc => ?_) (fun hc => ?_)
  · have hsS : s < S := by omega
    have hws := wrap64 (x := (s : Int) + 1) (by omega)
    simp -implicitDefEqProofs only [go_sem, Nat.reduceLT, Nat.reduceBEq, Nat.reduceAdd, Nat.reduceEqDiff, Nat.reduceLeDiff, Nat.reduceSub, Nat.reduceMul, e0, e7, e73]
    refine call_of (sStz H' n' s _ hsS (.own (b := n + 4) (by omega) c4)) ?_
    simp -implicitDefEqProofs only [go_sem, Nat.reduceLT, Nat.reduceBEq, Nat.reduceAdd, Nat.reduceEqDiff, Nat.reduceLeDiff, Nat.reduceSub, Nat.reduceMul, e3, c1]
    let x0 : Nat → Int := fun j => (cn (e.so M (s : Nat) (fun _ => 0) e.r 0 j) : Nat)
    refine loop_rule (fun (i : Nat) E H' n' => ∃ g1 g2, n + 5 ≤ n' ∧ H' n = some [.int .i64 0, .nil, .nil] ∧ H' (n + 1) = some [.int .i64 (I : Nat), g1, g2] ∧ H' (n + 2) = some (tab I (it ah)) ∧ H' (n + 3) = some (tab I ou) ∧ H' (n + 4) = some (tab e.r (it fun _ => 0)) ∧ (∀ b, b < n → H' b = H b) ∧ Sl H' (n + 5) n' g1 (s * I + i) (it (e.nxa M)) ∧ Sl H' (n + 5) n' g2 (s * I + i) (it fun a => (e.owa M a : Nat)) ∧ (∀ c, Own g1 c → ¬ Own g2 c) ∧ E 0 = .pp CL 0 ∧ E 2 = .ptr n 0 ∧ E 3 = .ptr (n + 1) 0 ∧ E 4 = .own (n + 2) 0 I ∧ E 5 = .own (n + 3) 0 I ∧ E 7 = .own (n + 4) 0 e.r ∧ E 9 = .int .i64 (e.nx (qn M : Nat) (s : Nat) (fun _ => 0) e.r 0) ∧ E 10 = isl (e.w 0) x0 ∧ E 72 = .int .i64 (S : Nat) ∧ E 73 = .int .i64 (s : Nat) ∧ E 84 = .int .i64 (I : Nat) ∧ E 85 = .int .i64 (i : Nat) ∧ i ≤ I) (fun i => I - i) 0 ⟨g1, g2, hn, c0, c1, c2, c3, c4, ho, s1, s2, hdj, by simp -implicitDefEqProofs only [go_sem, Nat.reduceLT, Nat.reduceBEq, Nat.reduceAdd, Nat.reduceEqDiff, Nat.reduceLeDiff, Nat.reduceSub, Nat.reduceMul, e0], by simp -implicitDefEqProofs only [go_sem, Nat.reduceLT, Nat.reduceBEq, Nat.reduceAdd, Nat.reduceEqDiff, Nat.reduceLeDiff, Nat.reduceSub, Nat.reduceMul, e2], by simp -implicitDefEqProofs only [go_sem, Nat.reduceLT, Nat.reduceBEq, Nat.reduceAdd, Nat.reduceEqDiff, Nat.reduceLeDiff, Nat.reduceSub, Nat.reduceMul, e3], by simp -implicitDefEqProofs only [go_sem, Nat.reduceLT, Nat.reduceBEq, Nat.reduceAdd, Nat.reduceEqDiff, Nat.reduceLeDiff, Nat.reduceSub, Nat.reduceMul, e4], by simp -implicitDefEqProofs only [go_sem, Nat.reduceLT, Nat.reduceBEq, Nat.reduceAdd, Nat.reduceEqDiff, Nat.reduceLeDiff, Nat.reduceSub, Nat.reduceMul, e5], by simp -implicitDefEqProofs only [go_sem, Nat.reduceLT, Nat.reduceBEq, Nat.reduceAdd, Nat.reduceEqDiff, Nat.reduceLeDiff, Nat.reduceSub, Nat.reduceMul, e7], rfl, rfl, by simp -implicitDefEqProofs only [go_sem, Nat.reduceLT, Nat.reduceBEq, Nat.reduceAdd, Nat.reduceEqDiff, Nat.reduceLeDiff, Nat.reduceSub, Nat.reduceMul, e72], by simp -implicitDefEqProofs only [go_sem, Nat.reduceLT, Nat.reduceBEq, Nat.reduceAdd, Nat.reduceEqDiff, Nat.reduceLeDiff, Nat.reduceSub, Nat.reduceMul, e73], rfl, rfl, by omega⟩ ?_
    clear hc e73 e72 e7 e5 e4 e3 e2 e0 hdj s2 s1 ho c4 c3 c2 c1 c0 hn g1 g2 n' H' E
    rintro i E H' n' ⟨g1, g2, hn, c0, c1, c2, c3, c4, ho, s1, s2, hdj, e0, e2, e3, e4, e5, e7, e9, e10, e72, e73, e84, e85, hi⟩
    simp -implicitDefEqProofs only [go_sem, Nat.reduceLT, Nat.reduceBEq, Nat.reduceAdd, Nat.reduceEqDiff, Nat.reduceLeDiff, Nat.reduceSub, Nat.reduceMul, e84, e85]
    refine c_split (fun hc => ?_) (fun hc => ?_)
    · have hiN : i < I := by omega
      have hwi := wrap64 (x := (i : Int) + 1) (by omega)
      simp -implicitDefEqProofs only [go_sem, Nat.reduceLT, Nat.reduceBEq, Nat.reduceAdd, Nat.reduceEqDiff, Nat.reduceLeDiff, Nat.reduceSub, Nat.reduceMul, e10]
      have hY : ∀ j, e.orw M s i j = (cn (ein M (x0 j) + ein M (e.orw M 0 i j)) : Nat) := fun j => by
        show ((cn (e.so M (s : Nat) (inp M i) e.r 0 j) : Nat) : Int) = (cn (ein M ((cn (e.so M (s : Nat) (fun _ => 0) e.r 0 j) : Nat) : Int) + ein M ((cn (e.so M ((0 : Nat) : Int) (inp M i) e.r 0 j) : Nat) : Int)) : Nat)
        rw [ein_cn h.fc, ein_cn h.fc, e.so_lin h.fc (s : Nat) (inp M i) j]; rfl
      refine loop_rule (fun (j : Nat) E H1 n1 => H1 = H' ∧ n1 = n' ∧ E 0 = .pp CL 0 ∧ E 2 = .ptr n 0 ∧ E 3 = .ptr (n + 1) 0 ∧ E 4 = .own (n + 2) 0 I ∧ E 5 = .own (n + 3) 0 I ∧ E 7 = .own (n + 4) 0 e.r ∧ E 9 = .int .i64 (e.nx (qn M : Nat) (s : Nat) (fun _ => 0) e.r 0) ∧ E 10 = isl (e.w 0) x0 ∧ E 11 = .int .i64 (i : Nat) ∧ E 12 = .int .i64 (wt j (e.orw M s i) : Nat) ∧ E 72 = .int .i64 (S : Nat) ∧ E 73 = .int .i64 (s : Nat) ∧ E 84 = .int .i64 (I : Nat) ∧ E 85 = .int .i64 (i : Nat) ∧ E 88 = isl (e.w 0) x0 ∧ E 89 = .int .i64 (e.w 0 : Nat) ∧ E 90 = .int .i64 (j : Nat) ∧ j ≤ e.w 0) (fun j => e.w 0 - j) 0 ⟨rfl, rfl, by simp -implicitDefEqProofs only [go_sem, Nat.reduceLT, Nat.reduceBEq, Nat.reduceAdd, Nat.reduceEqDiff, Nat.reduceLeDiff, Nat.reduceSub, Nat.reduceMul, e0], by simp -implicitDefEqProofs only [go_sem, Nat.reduceLT, Nat.reduceBEq, Nat.reduceAdd, Nat.reduceEqDiff, Nat.reduceLeDiff, Nat.reduceSub, Nat.reduceMul, e2], by simp -implicitDefEqProofs only [go_sem, Nat.reduceLT, Nat.reduceBEq, Nat.reduceAdd, Nat.reduceEqDiff, Nat.reduceLeDiff, Nat.reduceSub, Nat.reduceMul, e3], by simp -implicitDefEqProofs only [go_sem, Nat.reduceLT, Nat.reduceBEq, Nat.reduceAdd, Nat.reduceEqDiff, Nat.reduceLeDiff, Nat.reduceSub, Nat.reduceMul, e4], by simp -implicitDefEqProofs only [go_sem, Nat.reduceLT, Nat.reduceBEq, Nat.reduceAdd, Nat.reduceEqDiff, Nat.reduceLeDiff, Nat.reduceSub, Nat.reduceMul, e5], by simp -implicitDefEqProofs only [go_sem, Nat.reduceLT, Nat.reduceBEq, Nat.reduceAdd, Nat.reduceEqDiff, Nat.reduceLeDiff, Nat.reduceSub, Nat.reduceMul, e7], by simp -implicitDefEqProofs only [go_sem, Nat.reduceLT, Nat.reduceBEq, Nat.reduceAdd, Nat.reduceEqDiff, Nat.reduceLeDiff, Nat.reduceSub, Nat.reduceMul, e9], by simp -implicitDefEqProofs only [go_sem, Nat.reduceLT, Nat.reduceBEq, Nat.reduceAdd, Nat.reduceEqDiff, Nat.reduceLeDiff, Nat.reduceSub, Nat.reduceMul, e10], by simp -implicitDefEqProofs only [go_sem, Nat.reduceLT, Nat.reduceBEq, Nat.reduceAdd, Nat.reduceEqDiff, Nat.reduceLeDiff, Nat.reduceSub, Nat.reduceMul, e85], rfl, by simp -implicitDefEqProofs only [go_sem, Nat.reduceLT, Nat.reduceBEq, Nat.reduceAdd, Nat.reduceEqDiff, Nat.reduceLeDiff, Nat.reduceSub, Nat.reduceMul, e72], by simp -implicitDefEqProofs only [go_sem, Nat.reduceLT, Nat.reduceBEq, Nat.reduceAdd, Nat.reduceEqDiff, Nat.reduceLeDiff, Nat.reduceSub, Nat.reduceMul, e73], by simp -implicitDefEqProofs only [go_sem, Nat.reduceLT, Nat.reduceBEq, Nat.reduceAdd, Nat.reduceEqDiff, Nat.reduceLeDiff, Nat.reduceSub, Nat.reduceMul, e84], by simp -implicitDefEqProofs only [go_sem, Nat.reduceLT, Nat.reduceBEq, Nat.reduceAdd, Nat.reduceEqDiff, Nat.reduceLeDiff, Nat.reduceSub, Nat.reduceMul, e85], rfl, rfl, rfl, by omega⟩ ?_
      clear e85 e84 e73 e72 e10 e9 e7 e5 e4 e3 e2 e0 E
      rintro j E H1 n1 ⟨rfl, rfl, e0, e2, e3, e4, e5, e7, e9, e10, e11, e12, e72, e73, e84, e85, e88, e89, e90, hj⟩
      simp -implicitDefEqProofs only [go_sem, Nat.reduceLT, Nat.reduceBEq, Nat.reduceAdd, Nat.reduceEqDiff, Nat.reduceLeDiff, Nat.reduceSub, Nat.reduceMul, e89, e90]
      refine c_split (fun hc' => ?_) (fun hc' => ?_)
      · have hjN : j < e.w 0 := by omega
        have hwj := wrap64 (x := (j : Int) + 1) (by omega)
        have f3 : n + 3 < n1 := by omega
        have hou : ou i = isl (e.w 0) (e.orw M 0 i) := rfl
        have hle := wt_le j (e.orw M s i)
        have hwt := wt_succ j (e.orw M s i)
        simp -implicitDefEqProofs only [go_sem, Nat.reduceLT, Nat.reduceBEq, Nat.reduceAdd, Nat.reduceEqDiff, Nat.reduceLeDiff, Nat.reduceSub, Nat.reduceMul, e0, e5, e11, e88, e90, cl, g0, hc, hc', hiN, hjN, c3, f3, gat_tab, hou]
        rw [← hgf]
        refine call_of (sp_GF_Add h.fc h.g _ _) ?_
        rw [← hY j]
        by_cases hz : e.orw M s i j = 0
        · rw [if_pos hz] at hwt
          simp -implicitDefEqProofs only [go_sem, Nat.reduceLT, Nat.reduceBEq, Nat.reduceAdd, Nat.reduceEqDiff, Nat.reduceLeDiff, Nat.reduceSub, Nat.reduceMul, hz, e90, hwj]
          exact l_n ⟨j + 1, by omega, rfl, rfl, by simp -implicitDefEqProofs only [go_sem, Nat.reduceLT, Nat.reduceBEq, Nat.reduceAdd, Nat.reduceEqDiff, Nat.reduceLeDiff, Nat.reduceSub, Nat.reduceMul, e0], by simp -implicitDefEqProofs only [go_sem, Nat.reduceLT, Nat.reduceBEq, Nat.reduceAdd, Nat.reduceEqDiff, Nat.reduceLeDiff, Nat.reduceSub, Nat.reduceMul, e2], by simp -implicitDefEqProofs only [go_sem, Nat.reduceLT, Nat.reduceBEq, Nat.reduceAdd, Nat.reduceEqDiff, Nat.reduceLeDiff, Nat.reduceSub, Nat.reduceMul, e3], by simp -implicitDefEqProofs only [go_sem, Nat.reduceLT, Nat.reduceBEq, Nat.reduceAdd, Nat.reduceEqDiff, Nat.reduceLeDiff, Nat.reduceSub, Nat.reduceMul, e4], by simp -implicitDefEqProofs only [go_sem, Nat.reduceLT, Nat.reduceBEq, Nat.reduceAdd, Nat.reduceEqDiff, Nat.reduceLeDiff, Nat.reduceSub, Nat.reduceMul, e5], by simp -implicitDefEqProofs only [go_sem, Nat.reduceLT, Nat.reduceBEq, Nat.reduceAdd, Nat.reduceEqDiff, Nat.reduceLeDiff, Nat.reduceSub, Nat.reduceMul, e7], by simp -implicitDefEqProofs only [go_sem, Nat.reduceLT, Nat.reduceBEq, Nat.reduceAdd, Nat.reduceEqDiff, Nat.reduceLeDiff, Nat.reduceSub, Nat.reduceMul, e9], by simp -implicitDefEqProofs only [go_sem, Nat.reduceLT, Nat.reduceBEq, Nat.reduceAdd, Nat.reduceEqDiff, Nat.reduceLeDiff, Nat.reduceSub, Nat.reduceMul, e10], by simp -implicitDefEqProofs only [go_sem, Nat.reduceLT, Nat.reduceBEq, Nat.reduceAdd, Nat.reduceEqDiff, Nat.reduceLeDiff, Nat.reduceSub, Nat.reduceMul, e11], by simp -implicitDefEqProofs only [go_sem, Nat.reduceLT, Nat.reduceBEq, Nat.reduceAdd, Nat.reduceEqDiff, Nat.reduceLeDiff, Nat.reduceSub, Nat.reduceMul, e12, hwt], by simp -implicitDefEqProofs only [go_sem, Nat.reduceLT, Nat.reduceBEq, Nat.reduceAdd, Nat.reduceEqDiff, Nat.reduceLeDiff, Nat.reduceSub, Nat.reduceMul, e72], by simp -implicitDefEqProofs only [go_sem, Nat.reduceLT, Nat.reduceBEq, Nat.reduceAdd, Nat.reduceEqDiff, Nat.reduceLeDiff, Nat.reduceSub, Nat.reduceMul, e73], by simp -implicitDefEqProofs only [go_sem, Nat.reduceLT, Nat.reduceBEq, Nat.reduceAdd, Nat.reduceEqDiff, Nat.reduceLeDiff, Nat.reduceSub, Nat.reduceMul, e84], by simp -implicitDefEqProofs only [go_sem, Nat.reduceLT, Nat.reduceBEq, Nat.reduceAdd, Nat.reduceEqDiff, Nat.reduceLeDiff, Nat.reduceSub, Nat.reduceMul, e85], by simp -implicitDefEqProofs only [go_sem, Nat.reduceLT, Nat.reduceBEq, Nat.reduceAdd, Nat.reduceEqDiff, Nat.reduceLeDiff, Nat.reduceSub, Nat.reduceMul, e88], by simp -implicitDefEqProofs only [go_sem, Nat.reduceLT, Nat.reduceBEq, Nat.reduceAdd, Nat.reduceEqDiff, Nat.reduceLeDiff, Nat.reduceSub, Nat.reduceMul, e89], by simp -implicitDefEqProofs only [go_sem, Nat.reduceLT, Nat.reduceBEq, Nat.reduceAdd, Nat.reduceEqDiff, Nat.reduceLeDiff, Nat.reduceSub, Nat.reduceMul]; rfl, by omega⟩
        · rw [if_neg hz] at hwt
          have hw : IntKind.i64.wrap (((wt j (e.orw M s i) : Nat) : Int) + 1) = ((wt (j + 1) (e.orw M s i) : Nat) : Int) := (wrap64 (by omega)).trans (by omega)
          simp -implicitDefEqProofs only [go_sem, Nat.reduceLT, Nat.reduceBEq, Nat.reduceAdd, Nat.reduceEqDiff, Nat.reduceLeDiff, Nat.reduceSub, Nat.reduceMul, hz, e12, e90, hwj, hw]
          exact l_n ⟨j + 1, by omega, rfl, rfl, by simp -implicitDefEqProofs only [go_sem, Nat.reduceLT, Nat.reduceBEq, Nat.reduceAdd, Nat.reduceEqDiff, Nat.reduceLeDiff, Nat.reduceSub, Nat.reduceMul, e0], by simp -implicitDefEqProofs only [go_sem, Nat.reduceLT, Nat.reduceBEq, Nat.reduceAdd, Nat.reduceEqDiff, Nat.reduceLeDiff, Nat.reduceSub, Nat.reduceMul, e2], by simp -implicitDefEqProofs only [go_sem, Nat.reduceLT, Nat.reduceBEq, Nat.reduceAdd, Nat.reduceEqDiff, Nat.reduceLeDiff, Nat.reduceSub, Nat.reduceMul, e3], by simp -implicitDefEqProofs only [go_sem, Nat.reduceLT, Nat.reduceBEq, Nat.reduceAdd, Nat.reduceEqDiff, Nat.reduceLeDiff, Nat.reduceSub, Nat.reduceMul, e4], by simp -implicitDefEqProofs only [go_sem, Nat.reduceLT, Nat.reduceBEq, Nat.reduceAdd, Nat.reduceEqDiff, Nat.reduceLeDiff, Nat.reduceSub, Nat.reduceMul, e5], by simp -implicitDefEqProofs only [go_sem, Nat.reduceLT, Nat.reduceBEq, Nat.reduceAdd, Nat.reduceEqDiff, Nat.reduceLeDiff, Nat.reduceSub, Nat.reduceMul, e7], by simp -implicitDefEqProofs only [go_sem, Nat.reduceLT, Nat.reduceBEq, Nat.reduceAdd, Nat.reduceEqDiff, Nat.reduceLeDiff, Nat.reduceSub, Nat.reduceMul, e9], by simp -implicitDefEqProofs only [go_sem, Nat.reduceLT, Nat.reduceBEq, Nat.reduceAdd, Nat.reduceEqDiff, Nat.reduceLeDiff, Nat.reduceSub, Nat.reduceMul, e10], by simp -implicitDefEqProofs only [go_sem, Nat.reduceLT, Nat.reduceBEq, Nat.reduceAdd, Nat.reduceEqDiff, Nat.reduceLeDiff, Nat.reduceSub, Nat.reduceMul, e11], by simp -implicitDefEqProofs only [go_sem, Nat.reduceLT, Nat.reduceBEq, Nat.reduceAdd, Nat.reduceEqDiff, Nat.reduceLeDiff, Nat.reduceSub, Nat.reduceMul], by simp -implicitDefEqProofs only [go_sem, Nat.reduceLT, Nat.reduceBEq, Nat.reduceAdd, Nat.reduceEqDiff, Nat.reduceLeDiff, Nat.reduceSub, Nat.reduceMul, e72], by simp -implicitDefEqProofs only [go_sem, Nat.reduceLT, Nat.reduceBEq, Nat.reduceAdd, Nat.reduceEqDiff, Nat.reduceLeDiff, Nat.reduceSub, Nat.reduceMul, e73], by simp -implicitDefEqProofs only [go_sem, Nat.reduceLT, Nat.reduceBEq, Nat.reduceAdd, Nat.reduceEqDiff, Nat.reduceLeDiff, Nat.reduceSub, Nat.reduceMul, e84], by simp -implicitDefEqProofs only [go_sem, Nat.reduceLT, Nat.reduceBEq, Nat.reduceAdd, Nat.reduceEqDiff, Nat.reduceLeDiff, Nat.reduceSub, Nat.reduceMul, e85], by simp -implicitDefEqProofs only [go_sem, Nat.reduceLT, Nat.reduceBEq, Nat.reduceAdd, Nat.reduceEqDiff, Nat.reduceLeDiff, Nat.reduceSub, Nat.reduceMul, e88], by simp -implicitDefEqProofs only [go_sem, Nat.reduceLT, Nat.reduceBEq, Nat.reduceAdd, Nat.reduceEqDiff, Nat.reduceLeDiff, Nat.reduceSub, Nat.reduceMul, e89], by simp -implicitDefEqProofs only [go_sem, Nat.reduceLT, Nat.reduceBEq, Nat.reduceAdd, Nat.reduceEqDiff, Nat.reduceLeDiff, Nat.reduceSub, Nat.reduceMul]; rfl, by omega⟩
      have : j = e.w 0 := by omega
      subst this
      have hci : s * I + i < S * I := by
        have : (s + 1) * I ≤ S * I := Nat.mul_le_mul_right I (by omega)
        rw [Nat.succ_mul] at this; omega
      have hnxa : e.nxa M (s * I + i) = e.nx (qn M : Nat) (s : Nat) (fun _ => 0) e.r 0 + ah i := by
        rw [Enc.nxa, hII, div_at hiN, mod_at hiN]; exact e.nx_add _ _ _
      have howa : e.owa M (s * I + i) = wt (e.w 0) (e.orw M s i) := by rw [Enc.owa, hII, div_at hiN, mod_at hiN]
      have hnin := Enc.nx_in (e := e) (st := (s : Nat)) h (f := inp M i) fun t _ => inp_in i t
      have hwn : IntKind.i64.wrap (e.nx (qn M : Nat) (s : Nat) (fun _ => 0) e.r 0 + ah i) = e.nxa M (s * I + i) := by
        rw [hnxa]
        have : e.nx (qn M : Nat) (s : Nat) (inp M i) e.r 0 = e.nx (qn M : Nat) (s : Nat) (fun _ => 0) e.r 0 + ah i := e.nx_add _ _ _
        rw [hSS] at hnin
        exact wrap64 (by omega)
      have k1 := s1.cell
      have k2 := s2.cell
      have f1' : n + 1 < n1 := by omega
      have f2' : n + 2 < n1 := by omega
      simp -implicitDefEqProofs only [go_sem, Nat.reduceLT, Nat.reduceBEq, Nat.reduceAdd, Nat.reduceEqDiff, Nat.reduceLeDiff, Nat.reduceSub, Nat.reduceMul, e3, e4, e9, e11, c1, c2, f1', f2', hc, hiN, gat_tab, hwn]
      refine app_one s1 rfl rfl (by omega) fun H2 a1 a2 => ?_
      have d1 : H2 (n + 1) = some [.int .i64 (I : Nat), g1, g2] := by rw [a2 _ (by omega) (fun h => by have := s1.lt h; omega), c1]
      have s2' : Sl H2 (n + 5) (n1 + 1) g2 (s * I + i) (it fun a => (e.owa M a : Nat)) := s2.keep (fun c hc => a2 c (by have := s2.lt hc; omega) (fun h => hdj c h hc)) (by omega)
      have f3 : (n + 1 = n1 + 1) = False := eq_false (by omega)
      simp -implicitDefEqProofs only [go_sem, Nat.reduceLT, Nat.reduceBEq, Nat.reduceAdd, Nat.reduceEqDiff, Nat.reduceLeDiff, Nat.reduceSub, Nat.reduceMul, e3, e12, d1, upd_no, f3, k1, k2]
      refine app_one (m := s * I + i) (lo := n + 5) (f := it fun a => (e.owa M a : Nat)) ?_ ?_ rfl (by omega) fun H3 b1 b2 => ?_
      · exact s2'.keep (fun c hc => by rw [upd_ne _ _ (by have := s2.lt hc; omega), upd_ne _ _ (by have := s2.lt hc; omega)]) (by omega)
      · show GV.int .i64 ((wt (e.w 0) (e.orw M s i) : Nat) : Int) = GV.int .i64 ((e.owa M (s * I + i) : Nat) : Int)
        rw [howa]
      have f5 : ¬ Own g2 (n + 1) := fun h => by have := s2.lt h; omega
      have d3 : H3 (n + 1) = some [.int .i64 (I : Nat), .own n1 0 (s * I + i + 1), g2] := by
        rw [b2 _ (by omega) f5, upd_ne _ _ (by omega), upd_same]
      simp -implicitDefEqProofs only [go_sem, Nat.reduceLT, Nat.reduceBEq, Nat.reduceAdd, Nat.reduceEqDiff, Nat.reduceLeDiff, Nat.reduceSub, Nat.reduceMul, e3, d3, e85, hwi]
      have keep : ∀ b, b < n + 5 → b ≠ n + 1 → H3 b = H1 b := fun b hb hne => by
        rw [b2 _ (by omega) (fun h => by have := s2.lt h; omega), upd_ne _ _ (by omega), upd_ne _ _ hne, a2 _ (by omega) (fun h => by have := s1.lt h; omega)]
      refine l_n ⟨i + 1, by omega, .own n1 0 (s * I + i + 1), .own (n1 + 1 + 1) 0 (s * I + i + 1), by omega, ?_, by simp -implicitDefEqProofs only [go_sem, Nat.reduceLT, Nat.reduceBEq, Nat.reduceAdd, Nat.reduceEqDiff, Nat.reduceLeDiff, Nat.reduceSub, Nat.reduceMul], ?_, ?_, ?_, fun b hb => ?_, .inr ⟨n1, by omega, by omega, rfl, ?_⟩, .inr ⟨n1 + 1 + 1, by omega, by omega, rfl, ?_⟩, fun c h1 h2 => ?_, by simp -implicitDefEqProofs only [go_sem, Nat.reduceLT, Nat.reduceBEq, Nat.reduceAdd, Nat.reduceEqDiff, Nat.reduceLeDiff, Nat.reduceSub, Nat.reduceMul, e0], by simp -implicitDefEqProofs only [go_sem, Nat.reduceLT, Nat.reduceBEq, Nat.reduceAdd, Nat.reduceEqDiff, Nat.reduceLeDiff, Nat.reduceSub, Nat.reduceMul, e2], by simp -implicitDefEqProofs only [go_sem, Nat.reduceLT, Nat.reduceBEq, Nat.reduceAdd, Nat.reduceEqDiff, Nat.reduceLeDiff, Nat.reduceSub, Nat.reduceMul, e3], by simp -implicitDefEqProofs only [go_sem, Nat.reduceLT, Nat.reduceBEq, Nat.reduceAdd, Nat.reduceEqDiff, Nat.reduceLeDiff, Nat.reduceSub, Nat.reduceMul, e4], by simp -implicitDefEqProofs only [go_sem, Nat.reduceLT, Nat.reduceBEq, Nat.reduceAdd, Nat.reduceEqDiff, Nat.reduceLeDiff, Nat.reduceSub, Nat.reduceMul, e5], by simp -implicitDefEqProofs only [go_sem, Nat.reduceLT, Nat.reduceBEq, Nat.reduceAdd, Nat.reduceEqDiff, Nat.reduceLeDiff, Nat.reduceSub, Nat.reduceMul, e7], by simp -implicitDefEqProofs only [go_sem, Nat.reduceLT, Nat.reduceBEq, Nat.reduceAdd, Nat.reduceEqDiff, Nat.reduceLeDiff, Nat.reduceSub, Nat.reduceMul, e9], by simp -implicitDefEqProofs only [go_sem, Nat.reduceLT, Nat.reduceBEq, Nat.reduceAdd, Nat.reduceEqDiff, Nat.reduceLeDiff, Nat.reduceSub, Nat.reduceMul, e10], by simp -implicitDefEqProofs only [go_sem, Nat.reduceLT, Nat.reduceBEq, Nat.reduceAdd, Nat.reduceEqDiff, Nat.reduceLeDiff, Nat.reduceSub, Nat.reduceMul, e72], by simp -implicitDefEqProofs only [go_sem, Nat.reduceLT, Nat.reduceBEq, Nat.reduceAdd, Nat.reduceEqDiff, Nat.reduceLeDiff, Nat.reduceSub, Nat.reduceMul, e73], by simp -implicitDefEqProofs only [go_sem, Nat.reduceLT, Nat.reduceBEq, Nat.reduceAdd, Nat.reduceEqDiff, Nat.reduceLeDiff, Nat.reduceSub, Nat.reduceMul, e84], by simp -implicitDefEqProofs only [go_sem, Nat.reduceLT, Nat.reduceBEq, Nat.reduceAdd, Nat.reduceEqDiff, Nat.reduceLeDiff, Nat.reduceSub, Nat.reduceMul]; rfl, by omega⟩
      · rw [upd_ne _ _ (by omega), keep _ (by omega) (by omega), c0]
      · rw [upd_ne _ _ (by omega), keep _ (by omega) (by omega), c2]
      · rw [upd_ne _ _ (by omega), keep _ (by omega) (by omega), c3]
      · rw [upd_ne _ _ (by omega), keep _ (by omega) (by omega), c4]
      · rw [upd_ne _ _ (by omega), keep _ (by omega) (by omega), ho b hb]
      · rw [upd_ne _ _ (by omega), b2 _ (by omega) (fun h => by have := s2.lt h; omega), upd_ne _ _ (by omega), upd_ne _ _ (by omega), a1]; rfl
      · rw [upd_ne _ _ (by omega), b1]; rfl
      · rw [own_own] at h1 h2; omega
    · have : i = I := by omega
      subst this
      simp -implicitDefEqProofs only [go_sem, Nat.reduceLT, Nat.reduceBEq, Nat.reduceAdd, Nat.reduceEqDiff, Nat.reduceLeDiff, Nat.reduceSub, Nat.reduceMul, e73, hws]
      exact l_n ⟨s + 1, by omega, g1, g2, hn, c0, c1, c2, c3, c4, ho, by rw [Nat.succ_mul]; exact s1, by rw [Nat.succ_mul]; exact s2, hdj, by simp -implicitDefEqProofs only [go_sem, Nat.reduceLT, Nat.reduceBEq, Nat.reduceAdd, Nat.reduceEqDiff, Nat.reduceLeDiff, Nat.reduceSub, Nat.reduceMul, e0], by simp -implicitDefEqProofs only [go_sem, Nat.reduceLT, Nat.reduceBEq, Nat.reduceAdd, Nat.reduceEqDiff, Nat.reduceLeDiff, Nat.reduceSub, Nat.reduceMul, e2], by simp -implicitDefEqProofs only [go_sem, Nat.reduceLT, Nat.reduceBEq, Nat.reduceAdd, Nat.reduceEqDiff, Nat.reduceLeDiff, Nat.reduceSub, Nat.reduceMul, e3], by simp -implicitDefEqProofs only [go_sem, Nat.reduceLT, Nat.reduceBEq, Nat.reduceAdd, Nat.reduceEqDiff, Nat.reduceLeDiff, Nat.reduceSub, Nat.reduceMul, e4], by simp -implicitDefEqProofs only [go_sem, Nat.reduceLT, Nat.reduceBEq, Nat.reduceAdd, Nat.reduceEqDiff, Nat.reduceLeDiff, Nat.reduceSub, Nat.reduceMul, e5], by simp -implicitDefEqProofs only [go_sem, Nat.reduceLT, Nat.reduceBEq, Nat.reduceAdd, Nat.reduceEqDiff, Nat.reduceLeDiff, Nat.reduceSub, Nat.reduceMul, e7], by simp -implicitDefEqProofs only [go_sem, Nat.reduceLT, Nat.reduceBEq, Nat.reduceAdd, Nat.reduceEqDiff, Nat.reduceLeDiff, Nat.reduceSub, Nat.reduceMul, e72], by simp -implicitDefEqProofs only [go_sem, Nat.reduceLT, Nat.reduceBEq, Nat.reduceAdd, Nat.reduceEqDiff, Nat.reduceLeDiff, Nat.reduceSub, Nat.reduceMul]; rfl, by omega⟩
  · have : s = S := by omega
    subst this
    have k1 := s1.cell
    have k2 := s2.cell
    have hpos : 0 < s * I := Nat.mul_pos (by omega) (by omega)
    obtain ⟨b1, r1, r2, rfl, r4⟩ := s1.own hpos
    obtain ⟨b2, q1, q2, rfl, q4⟩ := s2.own hpos
    simp -implicitDefEqProofs only [go_sem, Nat.reduceLT, Nat.reduceBEq, Nat.reduceAdd, Nat.reduceEqDiff, Nat.reduceLeDiff, Nat.reduceSub, Nat.reduceMul, e2, e3, c0, c1]
    refine fin_cell (b := n) (o := 0) rfl (by decide) (by simp -implicitDefEqProofs only [go_sem, Nat.reduceLT, Nat.reduceBEq, Nat.reduceAdd, Nat.reduceEqDiff, Nat.reduceLeDiff, Nat.reduceSub, Nat.reduceMul, e2]) (by simp -implicitDefEqProofs only [go_sem, Nat.reduceLT, Nat.reduceBEq, Nat.reduceAdd, Nat.reduceEqDiff, Nat.reduceLeDiff, Nat.reduceSub, Nat.reduceMul]; rfl) (Nat.le_refl _) ?_ fun b hb => ?_
    · refine .agg _ _ rfl fun j hj => ?_
      rcases j with _ | _ | _ | j
      · exact fz_int rfl
      · exact fz_own_isl (by rw [upd_ne _ _ (by omega)]; exact r4) (by omega)
      · exact fz_own_isl (by rw [upd_ne _ _ (by omega)]; exact q4) (by omega)
      · simp at hj; omega
    · rw [upd_ne _ _ (by omega)]; exact ho b hb
end
end Go.Proofs.Ytdpibcniodhinaa.Gh
/- Proofs of the free distance: what the program and the reference accept. -/
namespace Go.Proofs.Ytdpibcniodhinaa.Gh
open Go Go.RowKit
open Alg (CR Ps Dg Zm Mn El Cg sm pw Irr Prm)
set_option linter.unusedVariables false
set_option linter.unusedSimpArgs false

/-- a proof as it is given -/
structure Fp where
  D : Int
  T : Nat
  l : Nat → Nat
  f : Nat → Nat → Int
  np : Nat
  p : Nat → Int
abbrev Fp.cs (p : Fp) : List GV := [.int .i64 p.D, msg p.T p.l p.f, isl p.np p.p]
abbrev Fp.gv (p : Fp) : GV := .agg p.cs
section
variable {F : GFun} {H : Heap} {n : Nat} {g : GV}
theorem ends_told {e : GExit} {t : List GV} {H1 : Heap} {n1 : Nat} (hF : Fr H n) (h : F.ends H n g e t H1 n1) : F.told H n g H n e t H1 n1 := by
  have key : (∃ g1, gretv t H1 F.res = some g1 ∧ Fz H1 n g1 g ∧ ∀ b, b < n → H1 b = H b) ∧ n1 = n1 → ∃ g1 κ, gretv t H1 F.res = some g1 ∧ Tr H1 n n κ g1 g ∧ n ≤ n ∧ Fr H n ∧ (∀ i j, n ≤ i → i < n → n ≤ j → j < n → κ i = κ j → i = j) ∧
      (∀ b, b < n → (H1 b = H b ∧ H b = H b) ∨ ((H1 b = none ∧ H b = none) ∨ ∃ cs cs', H1 b = some cs ∧ H b = some cs' ∧ Trs H1 n n κ cs cs')) ∧
      (∀ i, n ≤ i → i < n → ∃ cs cs', H1 (κ i) = some cs ∧ n ≤ κ i ∧ H i = some cs' ∧ Trs H1 n n κ cs cs') := by
    rintro ⟨⟨g1, h1, h2, h3⟩, _⟩
    exact ⟨g1, id, h1, h2, Nat.le_refl _, hF, fun i j a b => by omega, fun b hb => .inl ⟨h3 b hb, rfl⟩, fun i a b => by omega⟩
  cases e with
  | normal => exact key h
  | ret => exact key h
  | exit id => exact h
theorem ends1_told {e : GExit} {t : List GV} {H1 : Heap} {n1 : Nat} {cs : List GV} (hF : Fr H n) (h : F.ends1 H n g cs e t H1 n1) : F.told H n g (upd H n (some cs)) (n + 1) e t H1 n1 := by
  have key : (∃ g1 b cs0, gretv t H1 F.res = some g1 ∧ Tr H1 n (n + 1) (fun _ => b) g1 g ∧ n ≤ b ∧ H1 b = some cs0 ∧ Trs H1 n (n + 1) (fun _ => b) cs0 cs ∧ (∀ b, b < n → H1 b = H b) ∧ n1 = n1) →
      ∃ g1 κ, gretv t H1 F.res = some g1 ∧ Tr H1 n (n + 1) κ g1 g ∧ n ≤ n + 1 ∧ Fr (upd H n (some cs)) (n + 1) ∧ (∀ i j, n ≤ i → i < n + 1 → n ≤ j → j < n + 1 → κ i = κ j → i = j) ∧
      (∀ b, b < n → (H1 b = H b ∧ upd H n (some cs) b = H b) ∨ ((H1 b = none ∧ upd H n (some cs) b = none) ∨ ∃ cs1 cs', H1 b = some cs1 ∧ upd H n (some cs) b = some cs' ∧ Trs H1 n (n + 1) κ cs1 cs')) ∧
      (∀ i, n ≤ i → i < n + 1 → ∃ cs1 cs', H1 (κ i) = some cs1 ∧ n ≤ κ i ∧ upd H n (some cs) i = some cs' ∧ Trs H1 n (n + 1) κ cs1 cs') := by
    rintro ⟨g1, b, cs0, h1, h2, h3, h4, h5, h6, _⟩
    refine ⟨g1, fun _ => b, h1, h2, Nat.le_succ _, fun x hx => ?_, fun i j a b c d _ => by omega, fun b hb => .inl ⟨h6 b hb, upd_ne _ _ (by omega)⟩, fun i a b => ?_⟩
    · rw [upd_ne _ _ (by omega)]; exact hF x (by omega)
    · have : i = n := by omega
      subst this
      exact ⟨cs0, cs, h4, h3, upd_same _ _ _, h5⟩
  cases e with
  | normal => exact key h
  | ret => exact key h
  | exit id => exact h
end
/-- a copy of a message: nil, or a slice of the call's own -/
theorem sp_Clone2 {H : Heap} {n : Nat} (T : Nat) (l : Nat → Nat) (f : Nat → Nat → Int) (hT : T ≤ 1000000) : SpecS prog fid_slices_Clone2 [msg T l f] H n fun g H' n' => n ≤ n' ∧ (∀ b, b < n → H' b = H b) ∧ Sl H' n n' g T (msr l f) := by
  refine spec_toldS hmix ok_slices_Clone2 rfl fun hF => ?_
  show gw prog B_slices_Clone2 _ (tl 8 _) H n
  simp -implicitDefEqProofs only [B_slices_Clone2, go_sem, Nat.reduceLT, Nat.reduceBEq, Nat.reduceAdd, Nat.reduceEqDiff, Nat.reduceLeDiff, Nat.reduceSub, Nat.reduceMul]
  refine ⟨fun h0 => ?_, by omega, ?_⟩
  · have hT0 : T = 0 := by
      have h1 := congrArg List.length h0
      rwa [tab_len] at h1
    subst hT0
    refine ⟨.nil, H, n, ⟨Nat.le_refl _, fun _ _ => rfl, .nil⟩, ends_told hF (fin_ret rfl (by decide) ?_ fun _ _ => rfl)⟩
    simp -implicitDefEqProofs only [go_sem, Nat.reduceLT, Nat.reduceBEq, Nat.reduceAdd, Nat.reduceEqDiff, Nat.reduceLeDiff, Nat.reduceSub, Nat.reduceMul]
    exact .nil
  · refine ⟨.own n 0 T, upd H n (some (tab T (msr l f))), n + 1, ⟨by omega, fun b hb => upd_ne _ _ (by omega), .inr ⟨n, Nat.le_refl _, by omega, rfl, upd_same _ _ _⟩⟩, ends1_told hF ?_⟩
    exact fin_own rfl (by decide) (by simp -implicitDefEqProofs only [go_sem, Nat.reduceLT, Nat.reduceBEq, Nat.reduceAdd, Nat.reduceEqDiff, Nat.reduceLeDiff, Nat.reduceSub, Nat.reduceMul]) (Nat.le_refl _) (upd_same _ _ _) (trs_pl fun t _ => pl_isl _ _) fun b hb => upd_ne _ _ (by omega)
section
variable {k : Nat} {M : Mn k}
/-- the weight of the terminated output -/
noncomputable def Enc.tw (e : Enc) (M : Mn k) (T : Nat) (f : Nat → Nat → Int) : Nat := wtm (fun _ => e.w 0) (e.yv M (tval T f)) (T + e.mem e.r)
/-- the message is one, has a nonzero input, and its terminated output has this weight -/
def Enc.Rch (e : Enc) (M : Mn k) (p : Fp) : Prop := (∀ t, t < p.T → p.l t = e.r ∧ ∀ i, i < e.r → 0 ≤ p.f t i ∧ p.f t i < (qn M : Nat)) ∧ wtm p.l p.f p.T ≠ 0 ∧ ((e.tw M p.T p.f : Nat) : Int) = p.D
def Enc.Pot0 (e : Enc) (M : Mn k) (p : Fp) : Prop := p.np = qn M ^ e.ds e.r ∧ p.p 0 = 0
def Fp.Rng (p : Fp) : Prop := ∀ s, s < p.np → 0 ≤ p.p s ∧ p.p s ≤ 2147483648
/-- the step a breaks the proof -/
def Enc.Bad (e : Enc) (M : Mn k) (p : Fp) (a : Nat) : Prop := (0 < a / qn M ^ e.r ∧ ((e.owa M a : Nat) : Int) + p.p (e.nxa M a).toNat < p.p (a / qn M ^ e.r)) ∨ (a / qn M ^ e.r = 0 ∧ 0 < a ∧ ((e.owa M a : Nat) : Int) + p.p (e.nxa M a).toNat < p.D)
def Enc.Acc (e : Enc) (M : Mn k) (p : Fp) : Prop := e.Rch M p ∧ e.Pot0 M p ∧ p.Rng ∧ ∀ a, a < qn M ^ e.ds e.r * qn M ^ e.r → ¬ e.Bad M p a
end
end Go.Proofs.Ytdpibcniodhinaa.Gh
/- What the program accepts as a proof of the free distance. -/
namespace Go.Proofs.Ytdpibcniodhinaa.Gh
open Go Go.RowKit
open Alg (CR Ps Dg Zm Mn El Cg sm pw Irr Prm)
set_option linter.unusedVariables false
set_option linter.unusedSimpArgs false

theorem Sl.lo {H : Heap} {lo lo' n m : Nat} {g : GV} {f : Nat → GV} (h : Sl H lo n g m f) (hl : lo' ≤ lo) : Sl H lo' n g m f := by
  rcases h with h | ⟨b, h1, h2, h3, h4⟩
  · exact .inl h
  · exact .inr ⟨b, by omega, h2, h3, h4⟩
theorem wtm_succ (l : Nat → Nat) (f : Nat → Nat → Int) (t : Nat) : wtm l f (t + 1) = wtm l f t + wt (l t) (f t) := rfl
section
variable {k : Nat} {M : Mn k}
noncomputable instance (e : Enc) (p : Fp) : Decidable (e.Rch M p) := Classical.propDecidable _
noncomputable instance (e : Enc) (p : Fp) : Decidable (e.Acc M p) := Classical.propDecidable _
noncomputable instance (e : Enc) (p : Fp) (a : Nat) : Decidable (e.Bad M p a) := Classical.propDecidable _
theorem Enc.tw_le (e : Enc) (hB : e.Bnd) (hr0 : 0 < e.r) (T : Nat) (f : Nat → Nat → Int) (hT : T ≤ 100) : ∀ u, u ≤ T + e.mem e.r → wtm (fun _ => e.w 0) (e.yv M (tval T f)) u ≤ 1000000 := by
  intro u hu
  have hw := hB.w 0 hr0
  have hm := e.mem_le hB e.r (Nat.le_refl _)
  have h1 := sumn_le1 (c := 70) u (f := fun t => wt (e.w 0) (e.yv M (tval T f) t)) fun i hi => by have := wt_le (e.w 0) (e.yv M (tval T f) i); omega
  rw [wtm]; omega
set_option maxHeartbeats 4000000 in
theorem sp_reaches {H : Heap} {n : Nat} (e : Enc) (hB : e.Bnd) (h : Fi M) (hd : e.Des M) (hce : e.ce = 0) (p : Fp) (hT : p.T ≤ 60) : Spec prog fid_conv_machine_reaches [e.mch h.gf (qn M), p.gv] H n (.bool (decide (e.Rch M p))) H n := by
  generalize hR : decide (e.Rch M p) = R
  refine spec_ends hmix ok_conv_machine_reaches rfl fun hF => ?_
  show gw prog B_conv_machine_reaches _ (tl 72 _) H n
  have hr := hB.r
  have hq2 := qn_two M
  have hr0 : 0 < e.r := by have := (Enc.ok hce).2.1.1; omega
  have hw0 := hB.w 0 hr0
  have hmem := e.mem_le hB e.r (Nat.le_refl _)
  have hmch : e.mch h.gf (qn M) = .pp (e.mcl h.gf (qn M)) 0 := rfl
  have sEnc : ∀ (H : Heap) (n : Nat), Spec prog fid_conv_machine_encode [e.mch h.gf (qn M), msg (p.T + e.mem e.r) (tlen p.T e.r p.l) (tval p.T p.f)] H n _ H n := fun H n => sp_encode e hB h hd hce (p.T + e.mem e.r) (tlen p.T e.r p.l) (tval p.T p.f) (by omega)
  rw [hmch] at sEnc ⊢
  generalize hcl : e.mcl h.gf (qn M) = CL at *
  have cl : CL.length = 9 := by rw [← hcl]; rfl
  have g2 : gat CL 2 = .int .i64 (e.r : Nat) := by rw [← hcl]; rfl
  have g5 : gat CL 5 = .int .i64 (e.mem e.r : Nat) := by rw [← hcl]; rfl
  simp -implicitDefEqProofs only [B_conv_machine_reaches, go_sem, Nat.reduceLT, Nat.reduceBEq, Nat.reduceAdd, Nat.reduceEqDiff, Nat.reduceLeDiff, Nat.reduceSub, Nat.reduceMul]
  refine call_ofS (sp_Clone2 p.T p.l p.f (by omega)) fun g H' n' hsp => ?_
  obtain ⟨hn, ho1, sl1⟩ := hsp
  have ho : ∀ b, b < n + 1 → H' b = upd H n (some p.cs) b := ho1
  have c0 : H' n = some p.cs := by rw [ho _ (by omega), upd_same]
  replace ho : ∀ b, b < n → H' b = H b := fun b hb => by rw [ho _ (by omega), upd_ne _ _ (by omega)]
  have sl : Sl H' (n + 1) n' g (p.T + 0) (msr (tlen p.T e.r p.l) (tval p.T p.f)) := sl1.congr fun t ht => by
    show isl (p.l t) (p.f t) = isl (tlen p.T e.r p.l t) (tval p.T p.f t)
    rw [show tlen p.T e.r p.l t = p.l t from if_pos ht]
    exact isl_congr fun i _ => (if_pos ht).symm
  simp -implicitDefEqProofs only [go_sem, Nat.reduceLT, Nat.reduceBEq, Nat.reduceAdd, Nat.reduceEqDiff, Nat.reduceLeDiff, Nat.reduceSub, Nat.reduceMul, cl, g5]
  refine loop_rule (fun (d : Nat) E H' n' => ∃ gs, n + 1 ≤ n' ∧ H' n = some p.cs ∧ (∀ b, b < n → H' b = H b) ∧ Sl H' (n + 1) n' gs (p.T + d) (msr (tlen p.T e.r p.l) (tval p.T p.f)) ∧ E 0 = .pp CL 0 ∧ E 3 = .ptr n 0 ∧ E 5 = gs ∧ E 20 = .int .i64 (e.mem e.r : Nat) ∧ E 21 = .int .i64 (d : Nat) ∧ d ≤ e.mem e.r) (fun d => e.mem e.r - d) 0 ⟨g, hn, c0, ho, sl, rfl, rfl, rfl, rfl, rfl, by omega⟩ ?_
  clear sl sl1 ho ho1 c0 hn g n' H'
  rintro d E H' n' ⟨gs, hn, c0, ho, sl, e0, e3, e5, e20, e21, hd'⟩
  simp -implicitDefEqProofs only [go_sem, Nat.reduceLT, Nat.reduceBEq, Nat.reduceAdd, Nat.reduceEqDiff, Nat.reduceLeDiff, Nat.reduceSub, Nat.reduceMul, e20, e21]
  refine c_split (fun hc => ?_) (fun hc => ?_)
  · have hwd := wrap64 (x := (d : Int) + 1) (by omega)
    simp -implicitDefEqProofs only [go_sem, Nat.reduceLT, Nat.reduceBEq, Nat.reduceAdd, Nat.reduceEqDiff, Nat.reduceLeDiff, Nat.reduceSub, Nat.reduceMul, e0, e5, cl, g2]
    repeat with_reducible refine And.intro (by omega) ?_
    refine app_one (lo := n + 1) (m := p.T + d) (f := msr (tlen p.T e.r p.l) (tval p.T p.f)) ?_ ?_ rfl (by omega) fun H2 a1 a2 => ?_
    · exact sl.keep (fun c hc => upd_ne _ _ (by have := sl.lt hc; omega)) (by omega)
    · show GV.sl e.r (List.replicate e.r (GV.int .i64 0)) = isl (tlen p.T e.r p.l (p.T + d)) (tval p.T p.f (p.T + d))
      have h1 : tlen p.T e.r p.l (p.T + d) = e.r := if_neg (by omega)
      rw [h1]
      refine congrArg (GV.sl e.r) ((tab_rep _).trans (tab_congr fun i _ => ?_))
      show GV.int .i64 0 = GV.int .i64 (tval p.T p.f (p.T + d) i)
      rw [show tval p.T p.f (p.T + d) i = 0 from if_neg (by omega)]
    simp -implicitDefEqProofs only [go_sem, Nat.reduceLT, Nat.reduceBEq, Nat.reduceAdd, Nat.reduceEqDiff, Nat.reduceLeDiff, Nat.reduceSub, Nat.reduceMul, e21, hwd]
    refine l_n ⟨d + 1, by omega, .own (n' + 1) 0 (p.T + d + 1), by omega, ?_, fun b hb => ?_, .inr ⟨n' + 1, by omega, by omega, rfl, a1⟩, by simp -implicitDefEqProofs only [go_sem, Nat.reduceLT, Nat.reduceBEq, Nat.reduceAdd, Nat.reduceEqDiff, Nat.reduceLeDiff, Nat.reduceSub, Nat.reduceMul, e0], by simp -implicitDefEqProofs only [go_sem, Nat.reduceLT, Nat.reduceBEq, Nat.reduceAdd, Nat.reduceEqDiff, Nat.reduceLeDiff, Nat.reduceSub, Nat.reduceMul, e3], by simp -implicitDefEqProofs only [go_sem, Nat.reduceLT, Nat.reduceBEq, Nat.reduceAdd, Nat.reduceEqDiff, Nat.reduceLeDiff, Nat.reduceSub, Nat.reduceMul], by simp -implicitDefEqProofs only [go_sem, Nat.reduceLT, Nat.reduceBEq, Nat.reduceAdd, Nat.reduceEqDiff, Nat.reduceLeDiff, Nat.reduceSub, Nat.reduceMul, e20], by simp -implicitDefEqProofs only [go_sem, Nat.reduceLT, Nat.reduceBEq, Nat.reduceAdd, Nat.reduceEqDiff, Nat.reduceLeDiff, Nat.reduceSub, Nat.reduceMul]; rfl, by omega⟩
    · rw [a2 _ (by omega) fun h => by have := sl.lt h; omega, upd_ne _ _ (by omega), c0]
    · rw [a2 _ (by omega) fun h => by have := sl.lt h; omega, upd_ne _ _ (by omega), ho b hb]
  have : d = e.mem e.r := by omega
  subst this
  simp -implicitDefEqProofs only [go_sem, Nat.reduceLT, Nat.reduceBEq, Nat.reduceAdd, Nat.reduceEqDiff, Nat.reduceLeDiff, Nat.reduceSub, Nat.reduceMul, e0, e5]
  refine call_sl sl sEnc fun H2 hH2 => ?_
  have c2 : H2 n = some p.cs := by rw [hH2 _ fun h => by have := sl.lt h; omega, c0]
  have ho2 : ∀ b, b < n → H2 b = H b := fun b hb => by rw [hH2 _ fun h => by have := sl.lt h; omega, ho b hb]
  by_cases hz : stE e.r (tlen p.T e.r p.l) (tval p.T p.f) (qn M : Nat) (p.T + e.mem e.r) = 0
  case neg =>
    rw [if_neg hz]
    simp -implicitDefEqProofs only [go_sem, Nat.reduceLT, Nat.reduceBEq, Nat.reduceAdd, Nat.reduceEqDiff, Nat.reduceLeDiff, Nat.reduceSub, Nat.reduceMul, hz]
    refine fin_ret rfl (by decide) ?_ ho2
    simp -implicitDefEqProofs only [go_sem, Nat.reduceLT, Nat.reduceBEq, Nat.reduceAdd, Nat.reduceEqDiff, Nat.reduceLeDiff, Nat.reduceSub, Nat.reduceMul]
    refine fz_bool (hR.symm.trans (decide_eq_false fun hh => hz (stE_of fun t ht => ?_))).symm
    by_cases e1 : t < p.T
    · refine ⟨(if_pos e1).trans (hh.1 t e1).1, fun i hi => ?_⟩
      rw [show tval p.T p.f t i = p.f t i from if_pos e1]; exact (hh.1 t e1).2 i hi
    · refine ⟨if_neg e1, fun i hi => ?_⟩
      rw [show tval p.T p.f t i = 0 from if_neg e1]; omega
  have hG : ∀ t, t < p.T → p.l t = e.r ∧ ∀ i, i < e.r → 0 ≤ p.f t i ∧ p.f t i < (qn M : Nat) := fun t ht => by
    have h1 := stE_ok hz t (by omega)
    rw [show tlen p.T e.r p.l t = p.l t from if_pos ht] at h1
    refine ⟨h1.1, fun i hi => ?_⟩
    have h2 := h1.2 i hi
    rwa [show tval p.T p.f t i = p.f t i from if_pos ht] at h2
  rw [if_pos hz]
  have rr := e.oval_rr (M := M) (tval p.T p.f) (p.T + e.mem e.r)
  have lr := rr.len
  simp -implicitDefEqProofs only [go_sem, Nat.reduceLT, Nat.reduceBEq, Nat.reduceAdd, Nat.reduceEqDiff, Nat.reduceLeDiff, Nat.reduceSub, Nat.reduceMul, e3, c2]
  refine loop_rule (fun (t : Nat) E H' n2 => H' n = some p.cs ∧ n < n2 ∧ (∀ b, b < n → H' b = H b) ∧ E 3 = .ptr n 0 ∧ E 6 = e.oval M (tval p.T p.f) (p.T + e.mem e.r) ∧ E 8 = .bool (decide (0 < wtm p.l p.f t)) ∧ E 9 = .int .i64 0 ∧ E 41 = msg p.T p.l p.f ∧ E 42 = .int .i64 (p.T : Nat) ∧ E 43 = .int .i64 (t : Nat) ∧ t ≤ p.T) (fun t => p.T - t) 0 ⟨c2, by omega, ho2, by simp -implicitDefEqProofs only [go_sem, Nat.reduceLT, Nat.reduceBEq, Nat.reduceAdd, Nat.reduceEqDiff, Nat.reduceLeDiff, Nat.reduceSub, Nat.reduceMul, e3], rfl, rfl, rfl, rfl, rfl, rfl, by omega⟩ ?_
  clear ho2 c2 hH2 H2 e21 e20 e5 e3 e0 hc hd' sl ho c0 hn gs n' H' E
  rintro t E H' n2 ⟨c0, hn, ho, e3, e6, e8, e9, e41, e42, e43, ht⟩
  simp -implicitDefEqProofs only [go_sem, Nat.reduceLT, Nat.reduceBEq, Nat.reduceAdd, Nat.reduceEqDiff, Nat.reduceLeDiff, Nat.reduceSub, Nat.reduceMul, e42, e43]
  refine c_split (fun hc => ?_) (fun hc => ?_)
  · have htN : t < p.T := by omega
    have hwt := wrap64 (x := (t : Int) + 1) (by omega)
    have hms : msr p.l p.f t = isl (p.l t) (p.f t) := rfl
    have hs := wtm_succ p.l p.f t
    have hlt := (hG t htN).1
    by_cases h1 : 0 < wtm p.l p.f t
    · have h2 : 0 < wtm p.l p.f (t + 1) := by omega
      have d1 : decide (0 < wtm p.l p.f t) = true := decide_eq_true h1
      rw [d1] at e8
      simp -implicitDefEqProofs only [go_sem, Nat.reduceLT, Nat.reduceBEq, Nat.reduceAdd, Nat.reduceEqDiff, Nat.reduceLeDiff, Nat.reduceSub, Nat.reduceMul, e8, e41, e43, hc, htN, gat_tab, hms, hwt]
      exact l_n ⟨t + 1, by omega, c0, hn, ho, by simp -implicitDefEqProofs only [go_sem, Nat.reduceLT, Nat.reduceBEq, Nat.reduceAdd, Nat.reduceEqDiff, Nat.reduceLeDiff, Nat.reduceSub, Nat.reduceMul, e3], by simp -implicitDefEqProofs only [go_sem, Nat.reduceLT, Nat.reduceBEq, Nat.reduceAdd, Nat.reduceEqDiff, Nat.reduceLeDiff, Nat.reduceSub, Nat.reduceMul, e6], by simp -implicitDefEqProofs only [go_sem, Nat.reduceLT, Nat.reduceBEq, Nat.reduceAdd, Nat.reduceEqDiff, Nat.reduceLeDiff, Nat.reduceSub, Nat.reduceMul]; rw [decide_eq_true h2], by simp -implicitDefEqProofs only [go_sem, Nat.reduceLT, Nat.reduceBEq, Nat.reduceAdd, Nat.reduceEqDiff, Nat.reduceLeDiff, Nat.reduceSub, Nat.reduceMul, e9], by simp -implicitDefEqProofs only [go_sem, Nat.reduceLT, Nat.reduceBEq, Nat.reduceAdd, Nat.reduceEqDiff, Nat.reduceLeDiff, Nat.reduceSub, Nat.reduceMul, e41], by simp -implicitDefEqProofs only [go_sem, Nat.reduceLT, Nat.reduceBEq, Nat.reduceAdd, Nat.reduceEqDiff, Nat.reduceLeDiff, Nat.reduceSub, Nat.reduceMul, e42], by simp -implicitDefEqProofs only [go_sem, Nat.reduceLT, Nat.reduceBEq, Nat.reduceAdd, Nat.reduceEqDiff, Nat.reduceLeDiff, Nat.reduceSub, Nat.reduceMul]; rfl, by omega⟩
    · have d1 : decide (0 < wtm p.l p.f t) = false := decide_eq_false h1
      rw [d1] at e8
      simp -implicitDefEqProofs only [go_sem, Nat.reduceLT, Nat.reduceBEq, Nat.reduceAdd, Nat.reduceEqDiff, Nat.reduceLeDiff, Nat.reduceSub, Nat.reduceMul, e8, e41, e43, hc, htN, gat_tab, hms]
      refine call_of (sp_conv_weight (p.l t) (p.f t) (by omega)) ?_
      have d2 : decide ((0 : Int) < ((wt (p.l t) (p.f t) : Nat) : Int)) = decide (0 < wtm p.l p.f (t + 1)) := decide_eq_decide.2 ⟨fun h => by omega, fun h => by omega⟩
      simp -implicitDefEqProofs only [go_sem, Nat.reduceLT, Nat.reduceBEq, Nat.reduceAdd, Nat.reduceEqDiff, Nat.reduceLeDiff, Nat.reduceSub, Nat.reduceMul, e43, hwt, d2]
      exact l_n ⟨t + 1, by omega, c0, hn, ho, by simp -implicitDefEqProofs only [go_sem, Nat.reduceLT, Nat.reduceBEq, Nat.reduceAdd, Nat.reduceEqDiff, Nat.reduceLeDiff, Nat.reduceSub, Nat.reduceMul, e3], by simp -implicitDefEqProofs only [go_sem, Nat.reduceLT, Nat.reduceBEq, Nat.reduceAdd, Nat.reduceEqDiff, Nat.reduceLeDiff, Nat.reduceSub, Nat.reduceMul, e6], by simp -implicitDefEqProofs only [go_sem, Nat.reduceLT, Nat.reduceBEq, Nat.reduceAdd, Nat.reduceEqDiff, Nat.reduceLeDiff, Nat.reduceSub, Nat.reduceMul], by simp -implicitDefEqProofs only [go_sem, Nat.reduceLT, Nat.reduceBEq, Nat.reduceAdd, Nat.reduceEqDiff, Nat.reduceLeDiff, Nat.reduceSub, Nat.reduceMul, e9], by simp -implicitDefEqProofs only [go_sem, Nat.reduceLT, Nat.reduceBEq, Nat.reduceAdd, Nat.reduceEqDiff, Nat.reduceLeDiff, Nat.reduceSub, Nat.reduceMul, e41], by simp -implicitDefEqProofs only [go_sem, Nat.reduceLT, Nat.reduceBEq, Nat.reduceAdd, Nat.reduceEqDiff, Nat.reduceLeDiff, Nat.reduceSub, Nat.reduceMul, e42], by simp -implicitDefEqProofs only [go_sem, Nat.reduceLT, Nat.reduceBEq, Nat.reduceAdd, Nat.reduceEqDiff, Nat.reduceLeDiff, Nat.reduceSub, Nat.reduceMul]; rfl, by omega⟩
  have : t = p.T := by omega
  subst this
  simp -implicitDefEqProofs only [go_sem, Nat.reduceLT, Nat.reduceBEq, Nat.reduceAdd, Nat.reduceEqDiff, Nat.reduceLeDiff, Nat.reduceSub, Nat.reduceMul, e6, lr]
  refine loop_rule (fun (u : Nat) E H' n2 => H' n = some p.cs ∧ n < n2 ∧ (∀ b, b < n → H' b = H b) ∧ E 3 = .ptr n 0 ∧ E 8 = .bool (decide (0 < wtm p.l p.f p.T)) ∧ E 9 = .int .i64 (wtm (fun _ => e.w 0) (e.yv M (tval p.T p.f)) u : Nat) ∧ E 54 = e.oval M (tval p.T p.f) (p.T + e.mem e.r) ∧ E 55 = .int .i64 (p.T + e.mem e.r : Nat) ∧ E 56 = .int .i64 (u : Nat) ∧ u ≤ p.T + e.mem e.r) (fun u => p.T + e.mem e.r - u) 0 ⟨c0, hn, ho, by simp -implicitDefEqProofs only [go_sem, Nat.reduceLT, Nat.reduceBEq, Nat.reduceAdd, Nat.reduceEqDiff, Nat.reduceLeDiff, Nat.reduceSub, Nat.reduceMul, e3], by simp -implicitDefEqProofs only [go_sem, Nat.reduceLT, Nat.reduceBEq, Nat.reduceAdd, Nat.reduceEqDiff, Nat.reduceLeDiff, Nat.reduceSub, Nat.reduceMul, e8], by simp -implicitDefEqProofs only [go_sem, Nat.reduceLT, Nat.reduceBEq, Nat.reduceAdd, Nat.reduceEqDiff, Nat.reduceLeDiff, Nat.reduceSub, Nat.reduceMul, e9]; rfl, rfl, rfl, rfl, by omega⟩ ?_
  clear e43 e42 e41 e9 e8 e6 e3 hc ht ho hn c0 n2 H' E
  rintro u E H' n2 ⟨c0, hn, ho, e3, e8, e9, e54, e55, e56, hu⟩
  simp -implicitDefEqProofs only [go_sem, Nat.reduceLT, Nat.reduceBEq, Nat.reduceAdd, Nat.reduceEqDiff, Nat.reduceLeDiff, Nat.reduceSub, Nat.reduceMul, e55, e56]
  refine c_split (fun hc => ?_) (fun hc => ?_)
  · have huN : u < p.T + e.mem e.r := by omega
    have hwu := wrap64 (x := (u : Int) + 1) (by omega)
    have sx := rr.sl (by omega)
    have hms : msr (fun _ => e.w 0) (e.yv M (tval p.T p.f)) u = isl (e.w 0) (e.yv M (tval p.T p.f) u) := rfl
    have hs := wtm_succ (fun _ => e.w 0) (e.yv M (tval p.T p.f)) u
    have hle := e.tw_le (M := M) hB hr0 p.T p.f (by omega) (u + 1) (by omega)
    have hw : IntKind.i64.wrap (((wtm (fun _ => e.w 0) (e.yv M (tval p.T p.f)) u : Nat) : Int) + ((wt (e.w 0) (e.yv M (tval p.T p.f) u) : Nat) : Int)) = ((wtm (fun _ => e.w 0) (e.yv M (tval p.T p.f)) (u + 1) : Nat) : Int) := (wrap64 (by omega)).trans (by omega)
    simp -implicitDefEqProofs only [go_sem, Nat.reduceLT, Nat.reduceBEq, Nat.reduceAdd, Nat.reduceEqDiff, Nat.reduceLeDiff, Nat.reduceSub, Nat.reduceMul, e54, e56, sx, hc, huN, gat_tab, hms]
    refine call_of (sp_conv_weight (e.w 0) (e.yv M (tval p.T p.f) u) (by omega)) ?_
    simp -implicitDefEqProofs only [go_sem, Nat.reduceLT, Nat.reduceBEq, Nat.reduceAdd, Nat.reduceEqDiff, Nat.reduceLeDiff, Nat.reduceSub, Nat.reduceMul, e9, e56, hw, hwu]
    exact l_n ⟨u + 1, by omega, c0, hn, ho, by simp -implicitDefEqProofs only [go_sem, Nat.reduceLT, Nat.reduceBEq, Nat.reduceAdd, Nat.reduceEqDiff, Nat.reduceLeDiff, Nat.reduceSub, Nat.reduceMul, e3], by simp -implicitDefEqProofs only [go_sem, Nat.reduceLT, Nat.reduceBEq, Nat.reduceAdd, Nat.reduceEqDiff, Nat.reduceLeDiff, Nat.reduceSub, Nat.reduceMul, e8], by simp -implicitDefEqProofs only [go_sem, Nat.reduceLT, Nat.reduceBEq, Nat.reduceAdd, Nat.reduceEqDiff, Nat.reduceLeDiff, Nat.reduceSub, Nat.reduceMul], by simp -implicitDefEqProofs only [go_sem, Nat.reduceLT, Nat.reduceBEq, Nat.reduceAdd, Nat.reduceEqDiff, Nat.reduceLeDiff, Nat.reduceSub, Nat.reduceMul, e54, sx], by simp -implicitDefEqProofs only [go_sem, Nat.reduceLT, Nat.reduceBEq, Nat.reduceAdd, Nat.reduceEqDiff, Nat.reduceLeDiff, Nat.reduceSub, Nat.reduceMul, e55], by simp -implicitDefEqProofs only [go_sem, Nat.reduceLT, Nat.reduceBEq, Nat.reduceAdd, Nat.reduceEqDiff, Nat.reduceLeDiff, Nat.reduceSub, Nat.reduceMul]; rfl, by omega⟩
  · have : u = p.T + e.mem e.r := by omega
    subst this
    by_cases h1 : 0 < wtm p.l p.f p.T
    · rw [decide_eq_true h1] at e8
      simp -implicitDefEqProofs only [go_sem, Nat.reduceLT, Nat.reduceBEq, Nat.reduceAdd, Nat.reduceEqDiff, Nat.reduceLeDiff, Nat.reduceSub, Nat.reduceMul, e3, e8, e9, c0]
      refine fin_ret rfl (by decide) ?_ ho
      simp -implicitDefEqProofs only [go_sem, Nat.reduceLT, Nat.reduceBEq, Nat.reduceAdd, Nat.reduceEqDiff, Nat.reduceLeDiff, Nat.reduceSub, Nat.reduceMul]
      refine fz_bool (Eq.trans ?_ hR)
      exact decide_eq_decide.2 ⟨fun hh => ⟨hG, by omega, hh⟩, fun hh => hh.2.2⟩
    · rw [decide_eq_false h1] at e8
      simp -implicitDefEqProofs only [go_sem, Nat.reduceLT, Nat.reduceBEq, Nat.reduceAdd, Nat.reduceEqDiff, Nat.reduceLeDiff, Nat.reduceSub, Nat.reduceMul, e3, e8, e9, c0]
      refine fin_ret rfl (by decide) ?_ ho
      simp -implicitDefEqProofs only [go_sem, Nat.reduceLT, Nat.reduceBEq, Nat.reduceAdd, Nat.reduceEqDiff, Nat.reduceLeDiff, Nat.reduceSub, Nat.reduceMul]
      exact fz_bool (hR.symm.trans (decide_eq_false fun hh => hh.2.1 (by omega))).symm
end
end Go.Proofs.Ytdpibcniodhinaa.Gh
/- CheckFree. -/
namespace Go.Proofs.Ytdpibcniodhinaa.Gh
open Go Go.RowKit
open Alg (CR Ps Dg Zm Mn El Cg sm pw Irr Prm)
set_option linter.unusedVariables false
set_option linter.unusedSimpArgs false

theorem sp_CheckFree_fail {H : Heap} {n : Nat} (e : Enc) (hf : ¬ e.Fok) (p : Fp) : Spec prog fid_conv_CheckFree [e.gv, p.gv] H n (.int .i64 1) H n := by
  refine spec_ends hmix ok_conv_CheckFree rfl fun hF => ?_
  show gw prog B_conv_CheckFree _ (tl 108 _) H n
  have f1 : (n = n + 1) = False := eq_false (by omega)
  have h10 : ((1 : Int) = 0) = False := by simp
  simp -implicitDefEqProofs only [B_conv_CheckFree, go_sem, Nat.reduceLT, Nat.reduceBEq, Nat.reduceAdd, Nat.reduceEqDiff, Nat.reduceLeDiff, Nat.reduceSub, Nat.reduceMul, upd_no, f1]
  refine call_of (sp_conv_build_fail e hf) ?_
  simp -implicitDefEqProofs only [go_sem, Nat.reduceLT, Nat.reduceBEq, Nat.reduceAdd, Nat.reduceEqDiff, Nat.reduceLeDiff, Nat.reduceSub, Nat.reduceMul, h10]
  exact fin_ret rfl (by decide) (fz_int rfl) fun b hb => by rw [upd_ne _ _ (by omega), upd_ne _ _ (by omega)]
section
variable {k : Nat} {M : Mn k}
theorem Enc.nxa_in {e : Enc} (h : Fi M) (a : Nat) : 0 ≤ e.nxa M a ∧ e.nxa M a < ((qn M ^ e.ds e.r : Nat) : Int) := Enc.nx_in h fun i _ => inp_in _ i
theorem Enc.owa_le {e : Enc} (hB : e.Bnd) (hr0 : 0 < e.r) (a : Nat) : e.owa M a ≤ 70 := by
  have := wt_le (e.w 0) (e.orw M (a / qn M ^ e.r) (a % qn M ^ e.r))
  have := hB.w 0 hr0
  unfold Enc.owa; omega
set_option maxHeartbeats 8000000 in
theorem sp_CheckFree {H : Heap} {n : Nat} (e : Enc) (hB : e.Bnd) (h : Fi M) (hd : e.Des M) (p : Fp) (hT : p.T ≤ 60) : Spec prog fid_conv_CheckFree [e.gv, p.gv] H n (.int .i64 (if e.ce = 0 then (if e.Acc M p then 0 else 13) else e.ce)) H n := by
  refine spec_ends hmix ok_conv_CheckFree rfl fun hF => ?_
  show gw prog B_conv_CheckFree _ (tl 108 _) H n
  have u1 : ∀ x y b, b < n → upd (upd H n x) (n + 1) y b = H b := fun x y b hb => by rw [upd_ne _ _ (by omega), upd_ne _ _ (by omega)]
  have f1 : (n = n + 1) = False := eq_false (by omega)
  simp -implicitDefEqProofs only [B_conv_CheckFree, go_sem, Nat.reduceLT, Nat.reduceBEq, Nat.reduceAdd, Nat.reduceEqDiff, Nat.reduceLeDiff, Nat.reduceSub, Nat.reduceMul, upd_no, f1]
  refine call_of (sp_conv_build e hB h hd) ?_
  by_cases hce : e.ce = 0
  case neg =>
    rw [if_neg hce, if_neg hce]
    simp -implicitDefEqProofs only [go_sem, Nat.reduceLT, Nat.reduceBEq, Nat.reduceAdd, Nat.reduceEqDiff, Nat.reduceLeDiff, Nat.reduceSub, Nat.reduceMul, hce]
    exact fin_ret rfl (by decide) (by simp -implicitDefEqProofs only [go_sem, Nat.reduceLT, Nat.reduceBEq, Nat.reduceAdd, Nat.reduceEqDiff, Nat.reduceLeDiff, Nat.reduceSub, Nat.reduceMul]; exact fz_int rfl) (u1 _ _)
  rw [if_pos hce, if_pos hce]
  have hr := hB.r
  have hq2 := qn_two M
  have hr0 : 0 < e.r := by have := (Enc.ok hce).2.1.1; omega
  have hp := Enc.pow_tot h hd hce
  have hS1 : 1 ≤ qn M ^ e.ds e.r := Nat.pow_pos (by omega)
  have hS2 : qn M ^ e.ds e.r ≤ 65536 := Enc.pow_le h hd hce _ (Nat.le_refl _)
  have hI1 : 1 ≤ qn M ^ e.r := Nat.pow_pos (by omega)
  have sRe : ∀ (H : Heap) (n : Nat), Spec prog fid_conv_machine_reaches [e.mch h.gf (qn M), p.gv] H n (.bool (decide (e.Rch M p))) H n := fun H n => sp_reaches e hB h hd hce p hT
  have sEd : ∀ (H : Heap) (n : Nat), Spec prog fid_conv_machine_edges [e.mch h.gf (qn M)] H n (e.edg M) H n := fun H n => sp_edges e hB h hd hce
  have hmch : e.mch h.gf (qn M) = .pp (e.mcl h.gf (qn M)) 0 := rfl
  rw [hmch] at sRe sEd ⊢
  generalize hcl : e.mcl h.gf (qn M) = CL at *
  have cl : CL.length = 9 := by rw [← hcl]; rfl
  have g7 : gat CL 7 = .int .i64 (qn M ^ e.ds e.r : Nat) := by rw [← hcl]; rfl
  have rej : ∀ (E : Env) (H' : Heap) (n' : Nat), E 4 = .int .i64 13 → (∀ b, b < n → H' b = H b) → ¬ e.Acc M p → F_conv_CheckFree.ends H n (.int .i64 (if e.Acc M p then 0 else 13)) .ret (tl 108 E) H' n' := by
    intro E H' n' h4 ho hA
    refine fin_ret rfl (by decide) ?_ ho
    rw [h4, if_neg hA]; exact fz_int rfl
  have f2 : n + 1 < n + 2 := by omega
  simp -implicitDefEqProofs only [go_sem, Nat.reduceLT, Nat.reduceBEq, Nat.reduceAdd, Nat.reduceEqDiff, Nat.reduceLeDiff, Nat.reduceSub, Nat.reduceMul, hce, upd_no, f1, f2]
  refine mcall_of (.bool _) (fun H1 n1 _ _ => sRe H1 n1) ?_
  by_cases hRc : e.Rch M p
  case neg =>
    rw [decide_eq_false hRc]
    simp -implicitDefEqProofs only [go_sem, Nat.reduceLT, Nat.reduceBEq, Nat.reduceAdd, Nat.reduceEqDiff, Nat.reduceLeDiff, Nat.reduceSub, Nat.reduceMul]
    exact rej _ _ _ (by simp -implicitDefEqProofs only [go_sem, Nat.reduceLT, Nat.reduceBEq, Nat.reduceAdd, Nat.reduceEqDiff, Nat.reduceLeDiff, Nat.reduceSub, Nat.reduceMul]) (u1 _ _) fun hA => hRc hA.1
  rw [decide_eq_true hRc]
  by_cases hnp : ((p.np : Nat) : Int) = ((qn M ^ e.ds e.r : Nat) : Int)
  case neg =>
    simp -implicitDefEqProofs only [go_sem, Nat.reduceLT, Nat.reduceBEq, Nat.reduceAdd, Nat.reduceEqDiff, Nat.reduceLeDiff, Nat.reduceSub, Nat.reduceMul, upd_no, f1, f2, cl, g7, hnp]
    exact rej _ _ _ (by simp -implicitDefEqProofs only [go_sem, Nat.reduceLT, Nat.reduceBEq, Nat.reduceAdd, Nat.reduceEqDiff, Nat.reduceLeDiff, Nat.reduceSub, Nat.reduceMul]) (u1 _ _) fun hA => hnp (by rw [hA.2.1.1])
  have hnp' : p.np = qn M ^ e.ds e.r := by omega
  have z4 : (0 : Int).toNat = 0 := rfl
  have z5 : (0 : Int) ≤ 0 := Int.le_refl 0
  have z6 : (0 : Int) < (p.np : Int) := by omega
  have z7 : 0 < p.np := by omega
  by_cases hp0 : p.p 0 = 0
  case neg =>
    simp -implicitDefEqProofs only [go_sem, Nat.reduceLT, Nat.reduceBEq, Nat.reduceAdd, Nat.reduceEqDiff, Nat.reduceLeDiff, Nat.reduceSub, Nat.reduceMul, upd_no, f1, f2, cl, g7, ← hnp, z4, z5, z6, z7, Nat.zero_mul, gat_tab, hp0]
    exact rej _ _ _ (by simp -implicitDefEqProofs only [go_sem, Nat.reduceLT, Nat.reduceBEq, Nat.reduceAdd, Nat.reduceEqDiff, Nat.reduceLeDiff, Nat.reduceSub, Nat.reduceMul]) (u1 _ _) fun hA => hp0 hA.2.1.2
  simp -implicitDefEqProofs only [go_sem, Nat.reduceLT, Nat.reduceBEq, Nat.reduceAdd, Nat.reduceEqDiff, Nat.reduceLeDiff, Nat.reduceSub, Nat.reduceMul, upd_no, f1, f2, cl, g7, ← hnp, z4, z5, z6, z7, Nat.zero_mul, gat_tab, hp0]
  refine loop_rule (fun (s : Nat) E H' n' => n' = n + 2 ∧ H' (n + 1) = some p.cs ∧ (∀ b, b < n → H' b = H b) ∧ E 3 = .ptr (n + 1) 0 ∧ E 5 = .pp CL 0 ∧ E 44 = isl p.np p.p ∧ E 45 = .int .i64 (p.np : Nat) ∧ E 46 = .int .i64 (s : Nat) ∧ s ≤ p.np ∧ ∀ t, t < s → 0 ≤ p.p t ∧ p.p t ≤ 2147483648) (fun s => p.np - s) 0 ⟨rfl, by simp -implicitDefEqProofs only [go_sem, Nat.reduceLT, Nat.reduceBEq, Nat.reduceAdd, Nat.reduceEqDiff, Nat.reduceLeDiff, Nat.reduceSub, Nat.reduceMul], u1 _ _, rfl, rfl, rfl, rfl, rfl, by omega, fun t ht => by omega⟩ ?_
  rintro s E H' n' ⟨rfl, c1, ho, e3, e5, e44, e45, e46, hs, hrg⟩
  simp -implicitDefEqProofs only [go_sem, Nat.reduceLT, Nat.reduceBEq, Nat.reduceAdd, Nat.reduceEqDiff, Nat.reduceLeDiff, Nat.reduceSub, Nat.reduceMul, e45, e46]
  refine c_split (fun hc => ?_) (fun hc => ?_)
  · have hsN : s < p.np := by omega
    have hws := wrap64 (x := (s : Int) + 1) (by omega)
    by_cases h1 : p.p s < 0
    · simp -implicitDefEqProofs only [go_sem, Nat.reduceLT, Nat.reduceBEq, Nat.reduceAdd, Nat.reduceEqDiff, Nat.reduceLeDiff, Nat.reduceSub, Nat.reduceMul, e44, e46, hc, hsN, gat_tab, h1]
      exact rej _ _ _ (by simp -implicitDefEqProofs only [go_sem, Nat.reduceLT, Nat.reduceBEq, Nat.reduceAdd, Nat.reduceEqDiff, Nat.reduceLeDiff, Nat.reduceSub, Nat.reduceMul]) ho fun hA => by have := (hA.2.2.1 s hsN).1; omega
    by_cases h2 : 2147483648 < p.p s
    · simp -implicitDefEqProofs only [go_sem, Nat.reduceLT, Nat.reduceBEq, Nat.reduceAdd, Nat.reduceEqDiff, Nat.reduceLeDiff, Nat.reduceSub, Nat.reduceMul, e44, e46, hc, hsN, gat_tab, h1, h2]
      exact rej _ _ _ (by simp -implicitDefEqProofs only [go_sem, Nat.reduceLT, Nat.reduceBEq, Nat.reduceAdd, Nat.reduceEqDiff, Nat.reduceLeDiff, Nat.reduceSub, Nat.reduceMul]) ho fun hA => by have := (hA.2.2.1 s hsN).2; omega
    simp -implicitDefEqProofs only [go_sem, Nat.reduceLT, Nat.reduceBEq, Nat.reduceAdd, Nat.reduceEqDiff, Nat.reduceLeDiff, Nat.reduceSub, Nat.reduceMul, e44, e46, hc, hsN, gat_tab, h1, h2, hws]
    refine l_n ⟨s + 1, by omega, rfl, c1, ho, by simp -implicitDefEqProofs only [go_sem, Nat.reduceLT, Nat.reduceBEq, Nat.reduceAdd, Nat.reduceEqDiff, Nat.reduceLeDiff, Nat.reduceSub, Nat.reduceMul, e3], by simp -implicitDefEqProofs only [go_sem, Nat.reduceLT, Nat.reduceBEq, Nat.reduceAdd, Nat.reduceEqDiff, Nat.reduceLeDiff, Nat.reduceSub, Nat.reduceMul, e5], by simp -implicitDefEqProofs only [go_sem, Nat.reduceLT, Nat.reduceBEq, Nat.reduceAdd, Nat.reduceEqDiff, Nat.reduceLeDiff, Nat.reduceSub, Nat.reduceMul, e44], by simp -implicitDefEqProofs only [go_sem, Nat.reduceLT, Nat.reduceBEq, Nat.reduceAdd, Nat.reduceEqDiff, Nat.reduceLeDiff, Nat.reduceSub, Nat.reduceMul, e45], by simp -implicitDefEqProofs only [go_sem, Nat.reduceLT, Nat.reduceBEq, Nat.reduceAdd, Nat.reduceEqDiff, Nat.reduceLeDiff, Nat.reduceSub, Nat.reduceMul]; rfl, by omega, fun t ht => ?_⟩
    by_cases et : t = s
    · subst et; omega
    · exact hrg t (by omega)
  have : s = p.np := by omega
  subst this
  simp -implicitDefEqProofs only [go_sem, Nat.reduceLT, Nat.reduceBEq, Nat.reduceAdd, Nat.reduceEqDiff, Nat.reduceLeDiff, Nat.reduceSub, Nat.reduceMul, e5]
  refine call_of (sEd _ _) ?_
  generalize hII : qn M ^ e.r = I at *
  generalize hSS : qn M ^ e.ds e.r = S at *
  have hedg : e.edg M = .agg [.int .i64 (I : Nat), isl (S * I) (e.nxa M), isl (S * I) fun a => (e.owa M a : Nat)] := by rw [← hII, ← hSS]
  rw [hedg]
  have hI0 : ((I : Int) = 0) = False := eq_false (by omega)
  simp -implicitDefEqProofs only [go_sem, Nat.reduceLT, Nat.reduceBEq, Nat.reduceAdd, Nat.reduceEqDiff, Nat.reduceLeDiff, Nat.reduceSub, Nat.reduceMul]
  refine loop_rule (fun (a : Nat) E H' n' => n' = n + 3 ∧ H' (n + 1) = some p.cs ∧ H' (n + 2) = some [.int .i64 (I : Nat), isl (S * I) (e.nxa M), isl (S * I) fun a => (e.owa M a : Nat)] ∧ (∀ b, b < n → H' b = H b) ∧ E 3 = .ptr (n + 1) 0 ∧ E 9 = .ptr (n + 2) 0 ∧ E 60 = isl (S * I) (e.nxa M) ∧ E 61 = .int .i64 (S * I : Nat) ∧ E 62 = .int .i64 (a : Nat) ∧ a ≤ S * I ∧ ∀ t, t < a → ¬ e.Bad M p t) (fun a => S * I - a) 0 ?_ ?_
  · exact ⟨rfl, by simp -implicitDefEqProofs only [go_sem, Nat.reduceLT, Nat.reduceBEq, Nat.reduceAdd, Nat.reduceEqDiff, Nat.reduceLeDiff, Nat.reduceSub, Nat.reduceMul, c1], by simp -implicitDefEqProofs only [go_sem, Nat.reduceLT, Nat.reduceBEq, Nat.reduceAdd, Nat.reduceEqDiff, Nat.reduceLeDiff, Nat.reduceSub, Nat.reduceMul], fun b hb => by rw [upd_ne _ _ (by omega)]; exact ho b hb, by simp -implicitDefEqProofs only [go_sem, Nat.reduceLT, Nat.reduceBEq, Nat.reduceAdd, Nat.reduceEqDiff, Nat.reduceLeDiff, Nat.reduceSub, Nat.reduceMul, e3], rfl, rfl, rfl, rfl, by omega, fun t ht => by omega⟩
  clear hs hc e46 e45 e44 e5 e3 ho c1 E H'
  rintro a E H' n' ⟨rfl, c1, c2, ho, e3, e9, e60, e61, e62, ha, hbad⟩
  simp -implicitDefEqProofs only [go_sem, Nat.reduceLT, Nat.reduceBEq, Nat.reduceAdd, Nat.reduceEqDiff, Nat.reduceLeDiff, Nat.reduceSub, Nat.reduceMul, e61, e62]
  refine c_split (fun hc => ?_) (fun hc => ?_)
  · have haN : a < S * I := by omega
    have hwa := wrap64 (x := (a : Int) + 1) (by omega)
    have hni := Enc.nxa_in (e := e) h a
    rw [hSS] at hni
    obtain ⟨nx, hnx⟩ : ∃ nx : Nat, e.nxa M a = (nx : Int) := ⟨(e.nxa M a).toNat, by omega⟩
    have hnxl : nx < p.np := by omega
    have hnxI : ((nx : Nat) : Int) < (p.np : Int) := by omega
    have hnx0 := Int.natCast_nonneg nx
    have hrn := hrg nx hnxl
    have how := Enc.owa_le (e := e) (M := M) hB hr0 a
    have htd : IntKind.i64.wrap (Int.tdiv (a : Int) (I : Int)) = ((a / I : Nat) : Int) := by
      have h8 : a / I ≤ a := Nat.div_le_self _ _
      have h9 : ((a : Nat) : Int) / ((I : Nat) : Int) = ((a / I : Nat) : Int) := rfl
      rw [tdiv_nn (by omega), h9]
      generalize a / I = z at *
      exact wrap64 (by omega)
    have hsl : a / I < p.np := by rw [hnp']; exact Nat.div_lt_of_lt_mul (by rw [Nat.mul_comm]; exact haN)
    have hslI : ((a / I : Nat) : Int) < (p.np : Int) := by omega
    have hsl0 := Int.natCast_nonneg (a / I)
    have hwl := wrap64 (x := ((e.owa M a : Nat) : Int) + p.p nx) (by omega)
    have f3 : n + 1 < n + 3 := by omega
    have f4 : n + 2 < n + 3 := by omega
    have hB1 : e.Bad M p a ↔ (0 < a / I ∧ ((e.owa M a : Nat) : Int) + p.p nx < p.p (a / I)) ∨ (a / I = 0 ∧ 0 < a ∧ ((e.owa M a : Nat) : Int) + p.p nx < p.D) := by
      unfold Enc.Bad; rw [hII, hnx]; exact Iff.rfl
    have next : ¬ e.Bad M p a → ∀ t, t < a + 1 → ¬ e.Bad M p t := fun hb t ht => by
      by_cases et : t = a
      · subst et; exact hb
      · exact hbad t (by omega)
    have accn : e.Bad M p a → ¬ e.Acc M p := fun hb hA => hA.2.2.2 a (by rw [hSS, hII]; exact haN) hb
    by_cases h1 : (0 : Int) < ((a / I : Nat) : Int)
    · by_cases h2 : ((e.owa M a : Nat) : Int) + p.p nx < p.p (a / I)
      · simp -implicitDefEqProofs only [go_sem, Nat.reduceLT, Nat.reduceBEq, Nat.reduceAdd, Nat.reduceEqDiff, Nat.reduceLeDiff, Nat.reduceSub, Nat.reduceMul, e3, e9, e60, e62, c1, c2, f3, f4, hc, haN, gat_tab, hnx, hnx0, hnxI, hnxl, hI0, htd, hwl, hsl, hslI, hsl0, h1, h2]
        exact rej _ _ _ (by simp -implicitDefEqProofs only [go_sem, Nat.reduceLT, Nat.reduceBEq, Nat.reduceAdd, Nat.reduceEqDiff, Nat.reduceLeDiff, Nat.reduceSub, Nat.reduceMul]) ho (accn (hB1.2 (.inl ⟨by omega, h2⟩)))
      · have hz : ¬ ((a / I : Nat) : Int) = 0 := by omega
        simp -implicitDefEqProofs only [go_sem, Nat.reduceLT, Nat.reduceBEq, Nat.reduceAdd, Nat.reduceEqDiff, Nat.reduceLeDiff, Nat.reduceSub, Nat.reduceMul, e3, e9, e60, e62, c1, c2, f3, f4, hc, haN, gat_tab, hnx, hnx0, hnxI, hnxl, hI0, htd, hwl, hsl, hslI, hsl0, h1, h2, hz, hwa]
        exact l_n ⟨a + 1, by omega, rfl, c1, c2, ho, by simp -implicitDefEqProofs only [go_sem, Nat.reduceLT, Nat.reduceBEq, Nat.reduceAdd, Nat.reduceEqDiff, Nat.reduceLeDiff, Nat.reduceSub, Nat.reduceMul, e3], by simp -implicitDefEqProofs only [go_sem, Nat.reduceLT, Nat.reduceBEq, Nat.reduceAdd, Nat.reduceEqDiff, Nat.reduceLeDiff, Nat.reduceSub, Nat.reduceMul, e9], by simp -implicitDefEqProofs only [go_sem, Nat.reduceLT, Nat.reduceBEq, Nat.reduceAdd, Nat.reduceEqDiff, Nat.reduceLeDiff, Nat.reduceSub, Nat.reduceMul, e60], by simp -implicitDefEqProofs only [go_sem, Nat.reduceLT, Nat.reduceBEq, Nat.reduceAdd, Nat.reduceEqDiff, Nat.reduceLeDiff, Nat.reduceSub, Nat.reduceMul, e61], by simp -implicitDefEqProofs only [go_sem, Nat.reduceLT, Nat.reduceBEq, Nat.reduceAdd, Nat.reduceEqDiff, Nat.reduceLeDiff, Nat.reduceSub, Nat.reduceMul]; rfl, by omega, next fun hb => by rcases hB1.1 hb with hb | hb <;> omega⟩
    · have hz : ((a / I : Nat) : Int) = 0 := by omega
      by_cases h2 : (0 : Int) < (a : Int)
      · by_cases h3 : ((e.owa M a : Nat) : Int) + p.p nx < p.D
        · simp -implicitDefEqProofs only [go_sem, Nat.reduceLT, Nat.reduceBEq, Nat.reduceAdd, Nat.reduceEqDiff, Nat.reduceLeDiff, Nat.reduceSub, Nat.reduceMul, e3, e9, e60, e62, c1, c2, f3, f4, hc, haN, gat_tab, hnx, hnx0, hnxI, hnxl, hI0, htd, hwl, hsl, hslI, hsl0, h1, h2, h3, hz, Int.lt_irrefl]
          exact rej _ _ _ (by simp -implicitDefEqProofs only [go_sem, Nat.reduceLT, Nat.reduceBEq, Nat.reduceAdd, Nat.reduceEqDiff, Nat.reduceLeDiff, Nat.reduceSub, Nat.reduceMul]) ho (accn (hB1.2 (.inr ⟨by omega, by omega, h3⟩)))
        · simp -implicitDefEqProofs only [go_sem, Nat.reduceLT, Nat.reduceBEq, Nat.reduceAdd, Nat.reduceEqDiff, Nat.reduceLeDiff, Nat.reduceSub, Nat.reduceMul, e3, e9, e60, e62, c1, c2, f3, f4, hc, haN, gat_tab, hnx, hnx0, hnxI, hnxl, hI0, htd, hwl, hsl, hslI, hsl0, h1, h2, h3, hz, Int.lt_irrefl, hwa]
          exact l_n ⟨a + 1, by omega, rfl, c1, c2, ho, by simp -implicitDefEqProofs only [go_sem, Nat.reduceLT, Nat.reduceBEq, Nat.reduceAdd, Nat.reduceEqDiff, Nat.reduceLeDiff, Nat.reduceSub, Nat.reduceMul, e3], by simp -implicitDefEqProofs only [go_sem, Nat.reduceLT, Nat.reduceBEq, Nat.reduceAdd, Nat.reduceEqDiff, Nat.reduceLeDiff, Nat.reduceSub, Nat.reduceMul, e9], by simp -implicitDefEqProofs only [go_sem, Nat.reduceLT, Nat.reduceBEq, Nat.reduceAdd, Nat.reduceEqDiff, Nat.reduceLeDiff, Nat.reduceSub, Nat.reduceMul, e60], by simp -implicitDefEqProofs only [go_sem, Nat.reduceLT, Nat.reduceBEq, Nat.reduceAdd, Nat.reduceEqDiff, Nat.reduceLeDiff, Nat.reduceSub, Nat.reduceMul, e61], by simp -implicitDefEqProofs only [go_sem, Nat.reduceLT, Nat.reduceBEq, Nat.reduceAdd, Nat.reduceEqDiff, Nat.reduceLeDiff, Nat.reduceSub, Nat.reduceMul]; rfl, by omega, next fun hb => by rcases hB1.1 hb with hb | hb <;> omega⟩
      · simp -implicitDefEqProofs only [go_sem, Nat.reduceLT, Nat.reduceBEq, Nat.reduceAdd, Nat.reduceEqDiff, Nat.reduceLeDiff, Nat.reduceSub, Nat.reduceMul, e3, e9, e60, e62, c1, c2, f3, f4, hc, haN, gat_tab, hnx, hnx0, hnxI, hnxl, hI0, htd, hwl, hsl, hslI, hsl0, h1, h2, hz, Int.lt_irrefl, hwa]
        exact l_n ⟨a + 1, by omega, rfl, c1, c2, ho, by simp -implicitDefEqProofs only [go_sem, Nat.reduceLT, Nat.reduceBEq, Nat.reduceAdd, Nat.reduceEqDiff, Nat.reduceLeDiff, Nat.reduceSub, Nat.reduceMul, e3], by simp -implicitDefEqProofs only [go_sem, Nat.reduceLT, Nat.reduceBEq, Nat.reduceAdd, Nat.reduceEqDiff, Nat.reduceLeDiff, Nat.reduceSub, Nat.reduceMul, e9], by simp -implicitDefEqProofs only [go_sem, Nat.reduceLT, Nat.reduceBEq, Nat.reduceAdd, Nat.reduceEqDiff, Nat.reduceLeDiff, Nat.reduceSub, Nat.reduceMul, e60], by simp -implicitDefEqProofs only [go_sem, Nat.reduceLT, Nat.reduceBEq, Nat.reduceAdd, Nat.reduceEqDiff, Nat.reduceLeDiff, Nat.reduceSub, Nat.reduceMul, e61], by simp -implicitDefEqProofs only [go_sem, Nat.reduceLT, Nat.reduceBEq, Nat.reduceAdd, Nat.reduceEqDiff, Nat.reduceLeDiff, Nat.reduceSub, Nat.reduceMul]; rfl, by omega, next fun hb => by rcases hB1.1 hb with hb | hb <;> omega⟩
  · have : a = S * I := by omega
    subst this
    simp -implicitDefEqProofs only [go_sem, Nat.reduceLT, Nat.reduceBEq, Nat.reduceAdd, Nat.reduceEqDiff, Nat.reduceLeDiff, Nat.reduceSub, Nat.reduceMul]
    refine fin_ret rfl (by decide) ?_ ho
    simp -implicitDefEqProofs only [go_sem, Nat.reduceLT, Nat.reduceBEq, Nat.reduceAdd, Nat.reduceEqDiff, Nat.reduceLeDiff, Nat.reduceSub, Nat.reduceMul]
    exact fz_int (if_pos ⟨hRc, ⟨by rw [hSS]; exact hnp', hp0⟩, hrg, fun t ht => hbad t (by rw [hSS, hII] at ht; exact ht)⟩).symm
end
end Go.Proofs.Ytdpibcniodhinaa.Gh
/- What the reference accepts; the statement ConvProofs. -/
namespace Go.Proofs.Ytdpibcniodhinaa.Gh
open Go Go.RowKit
open Alg (CR Ps Dg Zm Mn El Cg sm pw Irr Prm)
set_option linter.unusedVariables false
set_option linter.unusedSimpArgs false

theorem vr_lit {K : Kr} {cs : List GV} {v : Value} (h : VR K (.lit cs) v) : VR K (.sl cs.length cs) v := by
  cases h with
  | lit B o _ us hS hc hv => exact .sl _ _ B o cs us (Nat.le_refl _) hS hc hv
section
variable {k : Nat} {M : Mn k}
theorem Enc.oval_nr (e : Enc) (f : Nat → Nat → Int) (T : Nat) : Nr (e.oval M f T) := by
  unfold oval
  split
  · exact .nil
  · exact (Pl.sl _ _ (pl_tab fun _ _ => pl_isl _ _)).nr
theorem sp_Weight1 {H : Heap} {n : Nat} (w : Nat) (f : Nat → Int) (hw : w ≤ 1000000) : Spec prog fid_ref20_Weight [.lit [isl w f]] H n (.int .i64 (wt w f : Nat)) H n := by
  have h1 := sp_Weight (H := H) (n := n) 1 1000000 (fun _ => w) (fun _ => f) (.inl rfl) (by omega) (by omega) fun _ _ => hw
  have h2 : wtm (fun _ => w) (fun _ => f) 1 = wt w f := by rw [wtm_succ]; show 0 + wt w f = _; omega
  rw [h2] at h1
  refine spec_arg (ys := [msg 1 (fun _ => w) fun _ => f]) rfl (fun K v j hj hv => ?_) h1
  rcases j with _ | j
  · exact vr_lit hv
  · simp at hj
set_option maxHeartbeats 8000000 in
theorem sp_Accept {H : Heap} {n : Nat} (e : Enc) (hB : e.Bnd) (h : Fi M) (hd : e.Des M) (hce : e.ce = 0) (p : Fp) (hT : p.T ≤ 60) : Spec prog fid_ref20_Accept [e.gv, p.gv] H n (.bool (decide (e.Acc M p))) H n := by
  generalize hR : decide (e.Acc M p) = R
  refine spec_ends hmix ok_ref20_Accept rfl fun hF => ?_
  show gw prog B_ref20_Accept _ (tl 124 _) H n
  have hr := hB.r
  have hq2 := qn_two M
  have hqo := hd.qo h
  have hok := Enc.ok hce
  have hr0 : 0 < e.r := by have := hok.2.1.1; omega
  have hw0 := hB.w 0 hr0
  have hmem := e.mem_le hB e.r (Nat.le_refl _)
  have hp := Enc.pow_tot h hd hce
  have hS1 : 1 ≤ qn M ^ e.ds e.r := Nat.pow_pos (by omega)
  have hI1 : 1 ≤ qn M ^ e.r := Nat.pow_pos (by omega)
  have u1 : ∀ x y b, b < n → upd (upd H n x) (n + 1) y b = H b := fun x y b hb => by rw [upd_ne _ _ (by omega), upd_ne _ _ (by omega)]
  have f1 : (n = n + 1) = False := eq_false (by omega)
  have f2 : n + 1 < n + 2 := by omega
  have f3 : n < n + 2 := by omega
  have rej : ∀ (E : Env) (H' : Heap) (n' : Nat), E 4 = .bool false → (∀ b, b < n → H' b = H b) → ¬ e.Acc M p → F_ref20_Accept.ends H n (.bool R) .ret (tl 124 E) H' n' := by
    intro E H' n' h4 ho hA
    refine fin_ret rfl (by decide) ?_ ho
    rw [h4]; exact fz_bool (hR.symm.trans (decide_eq_false hA)).symm
  simp -implicitDefEqProofs only [B_ref20_Accept, go_sem, Nat.reduceLT, Nat.reduceBEq, Nat.reduceAdd, Nat.reduceEqDiff, Nat.reduceLeDiff, Nat.reduceSub, Nat.reduceMul, upd_no, f1, f2, f3]
  refine mcall_of (.int _ _) (fun H1 n1 _ _ => sp_ref20_Steps e hB p.T p.l p.f (by omega)) ?_
  rw [hqo]
  by_cases hz : stE e.r p.l p.f (qn M : Nat) p.T = 0
  case neg =>
    simp -implicitDefEqProofs only [go_sem, Nat.reduceLT, Nat.reduceBEq, Nat.reduceAdd, Nat.reduceEqDiff, Nat.reduceLeDiff, Nat.reduceSub, Nat.reduceMul, hz]
    exact rej _ _ _ (by simp -implicitDefEqProofs only [go_sem, Nat.reduceLT, Nat.reduceBEq, Nat.reduceAdd, Nat.reduceEqDiff, Nat.reduceLeDiff, Nat.reduceSub, Nat.reduceMul]) (u1 _ _) fun hA => hz (stE_of hA.1.1)
  have hG := stE_ok hz
  simp -implicitDefEqProofs only [go_sem, Nat.reduceLT, Nat.reduceBEq, Nat.reduceAdd, Nat.reduceEqDiff, Nat.reduceLeDiff, Nat.reduceSub, Nat.reduceMul, hz, upd_no, f1, f2, f3]
  refine mcall_of (.int _ _) (fun H1 n1 _ _ => sp_Weight p.T 70 p.l p.f (.inl rfl) (by omega) (by omega) fun t ht => by rw [(hG t ht).1]; exact hr) ?_
  by_cases hw : wtm p.l p.f p.T = 0
  · have hw' : ((wtm p.l p.f p.T : Nat) : Int) = 0 := by omega
    simp -implicitDefEqProofs only [go_sem, Nat.reduceLT, Nat.reduceBEq, Nat.reduceAdd, Nat.reduceEqDiff, Nat.reduceLeDiff, Nat.reduceSub, Nat.reduceMul, hw']
    exact rej _ _ _ (by simp -implicitDefEqProofs only [go_sem, Nat.reduceLT, Nat.reduceBEq, Nat.reduceAdd, Nat.reduceEqDiff, Nat.reduceLeDiff, Nat.reduceSub, Nat.reduceMul]) (u1 _ _) fun hA => hA.1.2.1 hw
  have hw' : ¬ ((wtm p.l p.f p.T : Nat) : Int) = 0 := by omega
  simp -implicitDefEqProofs only [go_sem, Nat.reduceLT, Nat.reduceBEq, Nat.reduceAdd, Nat.reduceEqDiff, Nat.reduceLeDiff, Nat.reduceSub, Nat.reduceMul, hw', upd_no, f1, f2, f3]
  refine mcall_of (Pl.sl _ _ (pl_tab fun _ _ => pl_isl _ _)).nr (fun H1 n1 _ _ => sp_ref20_Terminate e hB p.T p.l p.f (by omega)) ?_
  have hz2 : stE e.r (tlen p.T e.r p.l) (tval p.T p.f) (qn M : Nat) (p.T + e.mem e.r) = 0 := stE_of fun t ht => by
    by_cases e1 : t < p.T
    · refine ⟨(if_pos e1).trans (hG t e1).1, fun i hi => ?_⟩
      rw [show tval p.T p.f t i = p.f t i from if_pos e1]; exact (hG t e1).2 i hi
    · refine ⟨if_neg e1, fun i hi => ?_⟩
      rw [show tval p.T p.f t i = 0 from if_neg e1]; omega
  simp -implicitDefEqProofs only [go_sem, Nat.reduceLT, Nat.reduceBEq, Nat.reduceAdd, Nat.reduceEqDiff, Nat.reduceLeDiff, Nat.reduceSub, Nat.reduceMul]
  refine mcall_of (e.oval_nr (M := M) _ _) (fun H1 n1 _ _ => sp_ref20_Encode e hB h hd hce (p.T + e.mem e.r) (tlen p.T e.r p.l) (tval p.T p.f) (by omega) hz2) ?_
  simp -implicitDefEqProofs only [go_sem, Nat.reduceLT, Nat.reduceBEq, Nat.reduceAdd, Nat.reduceEqDiff, Nat.reduceLeDiff, Nat.reduceSub, Nat.reduceMul]
  refine mcall_of (.int _ _) (fun H1 n1 _ _ => sp_Weight (p.T + e.mem e.r) 70 (fun _ => e.w 0) (e.yv M (tval p.T p.f)) (e.oval_rr _ _) (by omega) (by omega) fun _ _ => hw0) ?_
  by_cases hD : ((wtm (fun _ => e.w 0) (e.yv M (tval p.T p.f)) (p.T + e.mem e.r) : Nat) : Int) = p.D
  case neg =>
    simp -implicitDefEqProofs only [go_sem, Nat.reduceLT, Nat.reduceBEq, Nat.reduceAdd, Nat.reduceEqDiff, Nat.reduceLeDiff, Nat.reduceSub, Nat.reduceMul, upd_no, f1, f2, f3, hD]
    exact rej _ _ _ (by simp -implicitDefEqProofs only [go_sem, Nat.reduceLT, Nat.reduceBEq, Nat.reduceAdd, Nat.reduceEqDiff, Nat.reduceLeDiff, Nat.reduceSub, Nat.reduceMul]) (u1 _ _) fun hA => hD hA.1.2.2
  have hRc : e.Rch M p := ⟨hG, hw, hD⟩
  simp -implicitDefEqProofs only [go_sem, Nat.reduceLT, Nat.reduceBEq, Nat.reduceAdd, Nat.reduceEqDiff, Nat.reduceLeDiff, Nat.reduceSub, Nat.reduceMul, upd_no, f1, f2, f3, hD]
  refine mcall_of (.int _ _) (fun H1 n1 _ _ => sp_ref20_States e hB h hd hce) ?_
  generalize hII : qn M ^ e.r = I at *
  generalize hSS : qn M ^ e.ds e.r = S at *
  have hSI : S ≤ 65536 := by
    have : S * 1 ≤ S * I := Nat.mul_le_mul_left S hI1
    omega
  by_cases hnp : ((p.np : Nat) : Int) = ((S : Nat) : Int)
  case neg =>
    simp -implicitDefEqProofs only [go_sem, Nat.reduceLT, Nat.reduceBEq, Nat.reduceAdd, Nat.reduceEqDiff, Nat.reduceLeDiff, Nat.reduceSub, Nat.reduceMul, hnp]
    exact rej _ _ _ (by simp -implicitDefEqProofs only [go_sem, Nat.reduceLT, Nat.reduceBEq, Nat.reduceAdd, Nat.reduceEqDiff, Nat.reduceLeDiff, Nat.reduceSub, Nat.reduceMul]) (u1 _ _) fun hA => hnp (by rw [hA.2.1.1, hSS])
  have hnp' : p.np = S := by omega
  have z4 : (0 : Int).toNat = 0 := rfl
  have z5 : (0 : Int) ≤ 0 := Int.le_refl 0
  have z6 : (0 : Int) < (p.np : Int) := by omega
  have z7 : 0 < p.np := by omega
  by_cases hp0 : p.p 0 = 0
  case neg =>
    simp -implicitDefEqProofs only [go_sem, Nat.reduceLT, Nat.reduceBEq, Nat.reduceAdd, Nat.reduceEqDiff, Nat.reduceLeDiff, Nat.reduceSub, Nat.reduceMul, upd_no, f1, f2, f3, ← hnp, z4, z5, z6, z7, Nat.zero_mul, gat_tab, hp0]
    exact rej _ _ _ (by simp -implicitDefEqProofs only [go_sem, Nat.reduceLT, Nat.reduceBEq, Nat.reduceAdd, Nat.reduceEqDiff, Nat.reduceLeDiff, Nat.reduceSub, Nat.reduceMul]) (u1 _ _) fun hA => hp0 hA.2.1.2
  simp -implicitDefEqProofs only [go_sem, Nat.reduceLT, Nat.reduceBEq, Nat.reduceAdd, Nat.reduceEqDiff, Nat.reduceLeDiff, Nat.reduceSub, Nat.reduceMul, upd_no, f1, f2, f3, ← hnp, z4, z5, z6, z7, Nat.zero_mul, gat_tab, hp0]
  refine loop_rule (fun (s : Nat) E H' n' => n' = n + 2 ∧ H' n = some e.cs ∧ H' (n + 1) = some p.cs ∧ (∀ b, b < n → H' b = H b) ∧ E 2 = .ptr n 0 ∧ E 3 = .ptr (n + 1) 0 ∧ E 5 = .int .i64 (s : Nat) ∧ s ≤ p.np ∧ ∀ t, t < s → 0 ≤ p.p t ∧ p.p t ≤ 2147483648) (fun s => p.np - s) 0 ⟨rfl, by simp -implicitDefEqProofs only [go_sem, Nat.reduceLT, Nat.reduceBEq, Nat.reduceAdd, Nat.reduceEqDiff, Nat.reduceLeDiff, Nat.reduceSub, Nat.reduceMul, upd_no, f1], by simp -implicitDefEqProofs only [go_sem, Nat.reduceLT, Nat.reduceBEq, Nat.reduceAdd, Nat.reduceEqDiff, Nat.reduceLeDiff, Nat.reduceSub, Nat.reduceMul], u1 _ _, rfl, rfl, rfl, by omega, fun t ht => by omega⟩ ?_
  rintro s E H' n' ⟨rfl, c0, c1, ho, e2, e3, e5, hs, hrg⟩
  simp -implicitDefEqProofs only [go_sem, Nat.reduceLT, Nat.reduceBEq, Nat.reduceAdd, Nat.reduceEqDiff, Nat.reduceLeDiff, Nat.reduceSub, Nat.reduceMul, e3, e5, c1]
  refine c_split (fun hc => ?_) (fun hc => ?_)
  · have hsN : s < p.np := by omega
    have hws := wrap64 (x := (s : Int) + 1) (by omega)
    by_cases h1 : p.p s < 0
    · simp -implicitDefEqProofs only [go_sem, Nat.reduceLT, Nat.reduceBEq, Nat.reduceAdd, Nat.reduceEqDiff, Nat.reduceLeDiff, Nat.reduceSub, Nat.reduceMul, e3, e5, c1, hc, hsN, gat_tab, h1]
      exact rej _ _ _ (by simp -implicitDefEqProofs only [go_sem, Nat.reduceLT, Nat.reduceBEq, Nat.reduceAdd, Nat.reduceEqDiff, Nat.reduceLeDiff, Nat.reduceSub, Nat.reduceMul]) ho fun hA => by have := (hA.2.2.1 s hsN).1; omega
    by_cases h2 : 2147483648 < p.p s
    · simp -implicitDefEqProofs only [go_sem, Nat.reduceLT, Nat.reduceBEq, Nat.reduceAdd, Nat.reduceEqDiff, Nat.reduceLeDiff, Nat.reduceSub, Nat.reduceMul, e3, e5, c1, hc, hsN, gat_tab, h1, h2]
      exact rej _ _ _ (by simp -implicitDefEqProofs only [go_sem, Nat.reduceLT, Nat.reduceBEq, Nat.reduceAdd, Nat.reduceEqDiff, Nat.reduceLeDiff, Nat.reduceSub, Nat.reduceMul]) ho fun hA => by have := (hA.2.2.1 s hsN).2; omega
    simp -implicitDefEqProofs only [go_sem, Nat.reduceLT, Nat.reduceBEq, Nat.reduceAdd, Nat.reduceEqDiff, Nat.reduceLeDiff, Nat.reduceSub, Nat.reduceMul, e3, e5, c1, hc, hsN, gat_tab, h1, h2, hws]
    refine l_n ⟨s + 1, by omega, rfl, c0, c1, ho, by simp -implicitDefEqProofs only [go_sem, Nat.reduceLT, Nat.reduceBEq, Nat.reduceAdd, Nat.reduceEqDiff, Nat.reduceLeDiff, Nat.reduceSub, Nat.reduceMul, e2], by simp -implicitDefEqProofs only [go_sem, Nat.reduceLT, Nat.reduceBEq, Nat.reduceAdd, Nat.reduceEqDiff, Nat.reduceLeDiff, Nat.reduceSub, Nat.reduceMul, e3], by simp -implicitDefEqProofs only [go_sem, Nat.reduceLT, Nat.reduceBEq, Nat.reduceAdd, Nat.reduceEqDiff, Nat.reduceLeDiff, Nat.reduceSub, Nat.reduceMul]; rfl, by omega, fun t ht => ?_⟩
    by_cases et : t = s
    · subst et; omega
    · exact hrg t (by omega)
  have : s = p.np := by omega
  subst this
  simp -implicitDefEqProofs only [go_sem, Nat.reduceLT, Nat.reduceBEq, Nat.reduceAdd, Nat.reduceEqDiff, Nat.reduceLeDiff, Nat.reduceSub, Nat.reduceMul]
  refine loop_rule (fun (s : Nat) E H' n' => n' = n + 2 ∧ H' n = some e.cs ∧ H' (n + 1) = some p.cs ∧ (∀ b, b < n → H' b = H b) ∧ E 2 = .ptr n 0 ∧ E 3 = .ptr (n + 1) 0 ∧ E 6 = .int .i64 (s : Nat) ∧ s ≤ p.np ∧ ∀ a, a < s * I → ¬ e.Bad M p a) (fun s => p.np - s) 0 ⟨rfl, c0, c1, ho, by simp -implicitDefEqProofs only [go_sem, Nat.reduceLT, Nat.reduceBEq, Nat.reduceAdd, Nat.reduceEqDiff, Nat.reduceLeDiff, Nat.reduceSub, Nat.reduceMul, e2], by simp -implicitDefEqProofs only [go_sem, Nat.reduceLT, Nat.reduceBEq, Nat.reduceAdd, Nat.reduceEqDiff, Nat.reduceLeDiff, Nat.reduceSub, Nat.reduceMul, e3], by simp -implicitDefEqProofs only [go_sem, Nat.reduceLT, Nat.reduceBEq, Nat.reduceAdd, Nat.reduceEqDiff, Nat.reduceLeDiff, Nat.reduceSub, Nat.reduceMul]; rfl, by omega, fun t ht => by omega⟩ ?_
  clear hs hc e5 e3 e2 ho c1 c0 E H'
  rintro s E H' n' ⟨rfl, c0, c1, ho, e2, e3, e6, hs, hbad⟩
  simp -implicitDefEqProofs only [go_sem, Nat.reduceLT, Nat.reduceBEq, Nat.reduceAdd, Nat.reduceEqDiff, Nat.reduceLeDiff, Nat.reduceSub, Nat.reduceMul, e3, e6, c1]
  refine c_split (fun hc => ?_) (fun hc => ?_)
  · have hsN : s < p.np := by omega
    have hws := wrap64 (x := (s : Int) + 1) (by omega)
    simp -implicitDefEqProofs only [go_sem, Nat.reduceLT, Nat.reduceBEq, Nat.reduceAdd, Nat.reduceEqDiff, Nat.reduceLeDiff, Nat.reduceSub, Nat.reduceMul]
    refine loop_rule (fun (x : Nat) E H' n' => n' = n + 2 ∧ H' n = some e.cs ∧ H' (n + 1) = some p.cs ∧ (∀ b, b < n → H' b = H b) ∧ E 2 = .ptr n 0 ∧ E 3 = .ptr (n + 1) 0 ∧ E 6 = .int .i64 (s : Nat) ∧ E 7 = .int .i64 (x : Nat) ∧ x ≤ I ∧ ∀ a, a < s * I + x → ¬ e.Bad M p a) (fun x => I - x) 0 ⟨rfl, c0, c1, ho, by simp -implicitDefEqProofs only [go_sem, Nat.reduceLT, Nat.reduceBEq, Nat.reduceAdd, Nat.reduceEqDiff, Nat.reduceLeDiff, Nat.reduceSub, Nat.reduceMul, e2], by simp -implicitDefEqProofs only [go_sem, Nat.reduceLT, Nat.reduceBEq, Nat.reduceAdd, Nat.reduceEqDiff, Nat.reduceLeDiff, Nat.reduceSub, Nat.reduceMul, e3], by simp -implicitDefEqProofs only [go_sem, Nat.reduceLT, Nat.reduceBEq, Nat.reduceAdd, Nat.reduceEqDiff, Nat.reduceLeDiff, Nat.reduceSub, Nat.reduceMul, e6], by simp -implicitDefEqProofs only [go_sem, Nat.reduceLT, Nat.reduceBEq, Nat.reduceAdd, Nat.reduceEqDiff, Nat.reduceLeDiff, Nat.reduceSub, Nat.reduceMul]; rfl, by omega, hbad⟩ ?_
    clear hbad e6 e3 e2 ho c1 c0 E H'
    rintro x E H' n' ⟨rfl, c0, c1, ho, e2, e3, e6, e7, hx, hbad⟩
    simp -implicitDefEqProofs only [go_sem, Nat.reduceLT, Nat.reduceBEq, Nat.reduceAdd, Nat.reduceEqDiff, Nat.reduceLeDiff, Nat.reduceSub, Nat.reduceMul, e2, e7, c0]
    refine call_of (sp_ref20_Inputs e hB h hd hce) ?_
    rw [hII]
    simp -implicitDefEqProofs only [go_sem, Nat.reduceLT, Nat.reduceBEq, Nat.reduceAdd, Nat.reduceEqDiff, Nat.reduceLeDiff, Nat.reduceSub, Nat.reduceMul]
    refine c_split (fun hc' => ?_) (fun hc' => ?_)
    · have hxN : x < I := by omega
      have hIS : I ≤ 65536 := by
        have : 1 * I ≤ S * I := Nat.mul_le_mul_right I hS1
        omega
      have hwx := wrap64 (x := (x : Int) + 1) (by omega)
      have hni := Enc.nx_in (e := e) (st := ((s : Nat) : Int)) h (f := inp M x) fun i _ => inp_in x i
      rw [hSS] at hni
      have hnxa : e.nxa M (s * I + x) = e.nx (qn M : Nat) ((s : Nat) : Int) (inp M x) e.r 0 := by rw [Enc.nxa, hII, div_at hxN, mod_at hxN]
      have howa : e.owa M (s * I + x) = wt (e.w 0) (e.orw M s x) := by rw [Enc.owa, hII, div_at hxN, mod_at hxN]
      have sNx : ∀ (H : Heap) (n : Nat), Spec prog fid_ref20_Next [e.gv, .int .i64 (s : Nat), isl e.r (inp M x)] H n (.tup [.int .i64 (e.nx (qn M : Nat) ((s : Nat) : Int) (inp M x) e.r 0), isl (e.w 0) (e.orw M s x)]) H n := fun H n => sp_ref20_Next e hB h hd hce ((s : Nat) : Int) (inp M x) (by omega) (by omega) fun i _ => inp_in x i
      generalize e.nx (qn M : Nat) ((s : Nat) : Int) (inp M x) e.r 0 = nv at *
      obtain ⟨nx, hnx⟩ : ∃ nx : Nat, nv = (nx : Int) := ⟨nv.toNat, by omega⟩
      subst hnx
      have hnxl : nx < p.np := by omega
      have hnxI : ((nx : Nat) : Int) < (p.np : Int) := by omega
      have hnx0 := Int.natCast_nonneg nx
      have hrn := hrg nx hnxl
      have hwt := wt_le (e.w 0) (e.orw M s x)
      have hwl := wrap64 (x := ((wt (e.w 0) (e.orw M s x) : Nat) : Int) + p.p nx) (by omega)
      have hB1 : e.Bad M p (s * I + x) ↔ (0 < s ∧ ((wt (e.w 0) (e.orw M s x) : Nat) : Int) + p.p nx < p.p s) ∨ (s = 0 ∧ 0 < x ∧ ((wt (e.w 0) (e.orw M s x) : Nat) : Int) + p.p nx < p.D) := by
        unfold Enc.Bad; rw [hII, hnxa, howa, div_at hxN]
        refine or_congr Iff.rfl ⟨fun hh => ⟨hh.1, by have h1 := hh.1; subst h1; have := hh.2.1; omega, hh.2.2⟩, fun hh => ⟨hh.1, by have h1 := hh.1; subst h1; have := hh.2.1; omega, hh.2.2⟩⟩
      have next : ¬ e.Bad M p (s * I + x) → ∀ t, t < s * I + (x + 1) → ¬ e.Bad M p t := fun hb t ht => by
        by_cases et : t = s * I + x
        · subst et; exact hb
        · exact hbad t (by omega)
      have hlt : s * I + x < S * I := by
        have : (s + 1) * I ≤ S * I := Nat.mul_le_mul_right I (by omega)
        rw [Nat.succ_mul] at this; omega
      have accn : e.Bad M p (s * I + x) → ¬ e.Acc M p := fun hb hA => hA.2.2.2 (s * I + x) (by rw [hSS, hII]; exact hlt) hb
      simp -implicitDefEqProofs only [go_sem, Nat.reduceLT, Nat.reduceBEq, Nat.reduceAdd, Nat.reduceEqDiff, Nat.reduceLeDiff, Nat.reduceSub, Nat.reduceMul, e2, e6, e7, c0, f3]
      refine mcall_of (pl_isl _ _).nr (fun H1 n1 _ _ => sp_ref20_Input e hB h hd hr0 x (by omega)) ?_
      simp -implicitDefEqProofs only [go_sem, Nat.reduceLT, Nat.reduceBEq, Nat.reduceAdd, Nat.reduceEqDiff, Nat.reduceLeDiff, Nat.reduceSub, Nat.reduceMul]
      refine mcall_of (Pl.nr (.tup _ fun j hj => by
        rcases j with _ | _ | j
        · exact .int _ _
        · exact pl_isl _ _
        · simp at hj; omega)) (fun H1 n1 _ _ => sNx H1 n1) ?_
      simp -implicitDefEqProofs only [go_sem, Nat.reduceLT, Nat.reduceBEq, Nat.reduceAdd, Nat.reduceEqDiff, Nat.reduceLeDiff, Nat.reduceSub, Nat.reduceMul]
      refine mcall_of (.int _ _) (fun H1 n1 _ _ => sp_Weight1 (e.w 0) (e.orw M s x) (by omega)) ?_
      by_cases h1 : (0 : Int) < ((s : Nat) : Int)
      · by_cases h2 : ((wt (e.w 0) (e.orw M s x) : Nat) : Int) + p.p nx < p.p s
        · simp -implicitDefEqProofs only [go_sem, Nat.reduceLT, Nat.reduceBEq, Nat.reduceAdd, Nat.reduceEqDiff, Nat.reduceLeDiff, Nat.reduceSub, Nat.reduceMul, e3, e6, e7, c1, f2, hnx0, hnxI, hnxl, gat_tab, hwl, hc, hsN, h1, h2]
          exact rej _ _ _ (by simp -implicitDefEqProofs only [go_sem, Nat.reduceLT, Nat.reduceBEq, Nat.reduceAdd, Nat.reduceEqDiff, Nat.reduceLeDiff, Nat.reduceSub, Nat.reduceMul]) ho (accn (hB1.2 (.inl ⟨by omega, h2⟩)))
        · have hz : ¬ ((s : Nat) : Int) = 0 := by omega
          simp -implicitDefEqProofs only [go_sem, Nat.reduceLT, Nat.reduceBEq, Nat.reduceAdd, Nat.reduceEqDiff, Nat.reduceLeDiff, Nat.reduceSub, Nat.reduceMul, e3, e6, e7, c1, f2, hnx0, hnxI, hnxl, gat_tab, hwl, hc, hsN, h1, h2, hz, hwx]
          exact l_n ⟨x + 1, by omega, rfl, c0, c1, ho, by simp -implicitDefEqProofs only [go_sem, Nat.reduceLT, Nat.reduceBEq, Nat.reduceAdd, Nat.reduceEqDiff, Nat.reduceLeDiff, Nat.reduceSub, Nat.reduceMul, e2], by simp -implicitDefEqProofs only [go_sem, Nat.reduceLT, Nat.reduceBEq, Nat.reduceAdd, Nat.reduceEqDiff, Nat.reduceLeDiff, Nat.reduceSub, Nat.reduceMul, e3], by simp -implicitDefEqProofs only [go_sem, Nat.reduceLT, Nat.reduceBEq, Nat.reduceAdd, Nat.reduceEqDiff, Nat.reduceLeDiff, Nat.reduceSub, Nat.reduceMul, e6], by simp -implicitDefEqProofs only [go_sem, Nat.reduceLT, Nat.reduceBEq, Nat.reduceAdd, Nat.reduceEqDiff, Nat.reduceLeDiff, Nat.reduceSub, Nat.reduceMul]; rfl, by omega, next fun hb => by rcases hB1.1 hb with hb | hb <;> omega⟩
      · have hz : ((s : Nat) : Int) = 0 := by omega
        by_cases h2 : (0 : Int) < ((x : Nat) : Int)
        · by_cases h3 : ((wt (e.w 0) (e.orw M s x) : Nat) : Int) + p.p nx < p.D
          · simp -implicitDefEqProofs only [go_sem, Nat.reduceLT, Nat.reduceBEq, Nat.reduceAdd, Nat.reduceEqDiff, Nat.reduceLeDiff, Nat.reduceSub, Nat.reduceMul, e3, e6, e7, c1, f2, hnx0, hnxI, hnxl, gat_tab, hwl, hc, hsN, h1, h2, h3, hz, Int.lt_irrefl]
            exact rej _ _ _ (by simp -implicitDefEqProofs only [go_sem, Nat.reduceLT, Nat.reduceBEq, Nat.reduceAdd, Nat.reduceEqDiff, Nat.reduceLeDiff, Nat.reduceSub, Nat.reduceMul]) ho (accn (hB1.2 (.inr ⟨by omega, by omega, h3⟩)))
          · simp -implicitDefEqProofs only [go_sem, Nat.reduceLT, Nat.reduceBEq, Nat.reduceAdd, Nat.reduceEqDiff, Nat.reduceLeDiff, Nat.reduceSub, Nat.reduceMul, e3, e6, e7, c1, f2, hnx0, hnxI, hnxl, gat_tab, hwl, hc, hsN, h1, h2, h3, hz, Int.lt_irrefl, hwx]
            exact l_n ⟨x + 1, by omega, rfl, c0, c1, ho, by simp -implicitDefEqProofs only [go_sem, Nat.reduceLT, Nat.reduceBEq, Nat.reduceAdd, Nat.reduceEqDiff, Nat.reduceLeDiff, Nat.reduceSub, Nat.reduceMul, e2], by simp -implicitDefEqProofs only [go_sem, Nat.reduceLT, Nat.reduceBEq, Nat.reduceAdd, Nat.reduceEqDiff, Nat.reduceLeDiff, Nat.reduceSub, Nat.reduceMul, e3], by simp -implicitDefEqProofs only [go_sem, Nat.reduceLT, Nat.reduceBEq, Nat.reduceAdd, Nat.reduceEqDiff, Nat.reduceLeDiff, Nat.reduceSub, Nat.reduceMul, e6, hz], by simp -implicitDefEqProofs only [go_sem, Nat.reduceLT, Nat.reduceBEq, Nat.reduceAdd, Nat.reduceEqDiff, Nat.reduceLeDiff, Nat.reduceSub, Nat.reduceMul]; rfl, by omega, next fun hb => by rcases hB1.1 hb with hb | hb <;> omega⟩
        · simp -implicitDefEqProofs only [go_sem, Nat.reduceLT, Nat.reduceBEq, Nat.reduceAdd, Nat.reduceEqDiff, Nat.reduceLeDiff, Nat.reduceSub, Nat.reduceMul, e3, e6, e7, c1, f2, hnx0, hnxI, hnxl, gat_tab, hwl, hc, hsN, h1, h2, hz, Int.lt_irrefl, hwx]
          exact l_n ⟨x + 1, by omega, rfl, c0, c1, ho, by simp -implicitDefEqProofs only [go_sem, Nat.reduceLT, Nat.reduceBEq, Nat.reduceAdd, Nat.reduceEqDiff, Nat.reduceLeDiff, Nat.reduceSub, Nat.reduceMul, e2], by simp -implicitDefEqProofs only [go_sem, Nat.reduceLT, Nat.reduceBEq, Nat.reduceAdd, Nat.reduceEqDiff, Nat.reduceLeDiff, Nat.reduceSub, Nat.reduceMul, e3], by simp -implicitDefEqProofs only [go_sem, Nat.reduceLT, Nat.reduceBEq, Nat.reduceAdd, Nat.reduceEqDiff, Nat.reduceLeDiff, Nat.reduceSub, Nat.reduceMul, e6, hz], by simp -implicitDefEqProofs only [go_sem, Nat.reduceLT, Nat.reduceBEq, Nat.reduceAdd, Nat.reduceEqDiff, Nat.reduceLeDiff, Nat.reduceSub, Nat.reduceMul]; rfl, by omega, next fun hb => by rcases hB1.1 hb with hb | hb <;> omega⟩
    · have : x = I := by omega
      subst this
      simp -implicitDefEqProofs only [go_sem, Nat.reduceLT, Nat.reduceBEq, Nat.reduceAdd, Nat.reduceEqDiff, Nat.reduceLeDiff, Nat.reduceSub, Nat.reduceMul, e6, hws]
      exact l_n ⟨s + 1, by omega, rfl, c0, c1, ho, by simp -implicitDefEqProofs only [go_sem, Nat.reduceLT, Nat.reduceBEq, Nat.reduceAdd, Nat.reduceEqDiff, Nat.reduceLeDiff, Nat.reduceSub, Nat.reduceMul, e2], by simp -implicitDefEqProofs only [go_sem, Nat.reduceLT, Nat.reduceBEq, Nat.reduceAdd, Nat.reduceEqDiff, Nat.reduceLeDiff, Nat.reduceSub, Nat.reduceMul, e3], by simp -implicitDefEqProofs only [go_sem, Nat.reduceLT, Nat.reduceBEq, Nat.reduceAdd, Nat.reduceEqDiff, Nat.reduceLeDiff, Nat.reduceSub, Nat.reduceMul]; rfl, by omega, by rw [Nat.succ_mul]; exact hbad⟩
  · have : s = p.np := by omega
    subst this
    simp -implicitDefEqProofs only [go_sem, Nat.reduceLT, Nat.reduceBEq, Nat.reduceAdd, Nat.reduceEqDiff, Nat.reduceLeDiff, Nat.reduceSub, Nat.reduceMul]
    refine fin_ret rfl (by decide) ?_ ho
    simp -implicitDefEqProofs only [go_sem, Nat.reduceLT, Nat.reduceBEq, Nat.reduceAdd, Nat.reduceEqDiff, Nat.reduceLeDiff, Nat.reduceSub, Nat.reduceMul]
    refine fz_bool (Eq.trans (decide_eq_true ?_).symm hR)
    exact ⟨hRc, ⟨by rw [hSS]; exact hnp', hp0⟩, hrg, fun t ht => hbad t (by rw [hSS, hII, ← hnp'] at ht; exact ht)⟩
end
end Go.Proofs.Ytdpibcniodhinaa.Gh
/- The statement ConvProofs: the program's walk over a path accepts what the reference accepts. -/
namespace Go.Proofs.Ytdpibcniodhinaa.Gh
open Go Go.RowKit
open Alg (CR Ps Dg Zm Mn El Cg sm pw Irr Prm)
set_option linter.unusedVariables false
set_option linter.unusedSimpArgs false

set_option maxHeartbeats 8000000 in
theorem sp_ConvProofs {H : Heap} {n : Nat} (e : Enc) (p : Fp) : Spec prog fid_law20_ConvProofs [e.gv, p.gv] H n (.bool true) H n := by
  refine spec_ends hmix ok_law20_ConvProofs rfl fun hF => ?_
  show gw prog B_law20_ConvProofs _ (tl 57 _) H n
  have u1 : ∀ x y b, b < n → upd (upd H n x) (n + 1) y b = H b := fun x y b hb => by rw [upd_ne _ _ (by omega), upd_ne _ _ (by omega)]
  have f1 : (n = n + 1) = False := eq_false (by omega)
  have f2 : n + 1 < n + 2 := by omega
  have f3 : n < n + 2 := by omega
  simp -implicitDefEqProofs only [B_law20_ConvProofs, go_sem, Nat.reduceLT, Nat.reduceBEq, Nat.reduceAdd, Nat.reduceEqDiff, Nat.reduceLeDiff, Nat.reduceSub, Nat.reduceMul, upd_no, f1]
  refine call_of (sp_few e) ?_
  by_cases hb : e.Bnd ∧ e.gs e.r ≤ 3000
  case neg =>
    rw [decide_eq_false hb]
    simp -implicitDefEqProofs only [go_sem, Nat.reduceLT, Nat.reduceBEq, Nat.reduceAdd, Nat.reduceEqDiff, Nat.reduceLeDiff, Nat.reduceSub, Nat.reduceMul]
    refine call_of (sp_few e) ?_
    rw [decide_eq_false hb]
    simp -implicitDefEqProofs only [go_sem, Nat.reduceLT, Nat.reduceBEq, Nat.reduceAdd, Nat.reduceEqDiff, Nat.reduceLeDiff, Nat.reduceSub, Nat.reduceMul]
    exact fin_ret rfl (by decide) (fz_bool rfl) (u1 _ _)
  have hB := hb.1
  rw [decide_eq_true hb]
  simp -implicitDefEqProofs only [go_sem, Nat.reduceLT, Nat.reduceBEq, Nat.reduceAdd, Nat.reduceEqDiff, Nat.reduceLeDiff, Nat.reduceSub, Nat.reduceMul, upd_no, f1]
  refine call_of (sp_ref20_Check e hB) ?_
  by_cases hT : p.T ≤ 60
  case neg =>
    have hTI : (60 : Int) < (p.T : Nat) := by omega
    by_cases hce : e.ce = 0
    case neg =>
      simp -implicitDefEqProofs only [go_sem, Nat.reduceLT, Nat.reduceBEq, Nat.reduceAdd, Nat.reduceEqDiff, Nat.reduceLeDiff, Nat.reduceSub, Nat.reduceMul, hce]
      refine call_of (sp_few e) ?_
      rw [decide_eq_true hb]
      simp -implicitDefEqProofs only [go_sem, Nat.reduceLT, Nat.reduceBEq, Nat.reduceAdd, Nat.reduceEqDiff, Nat.reduceLeDiff, Nat.reduceSub, Nat.reduceMul, upd_no, f1, hTI]
      exact fin_ret rfl (by decide) (fz_bool rfl) (u1 _ _)
    obtain ⟨k, M, h, hd⟩ : ∃ (k : Nat) (M : Mn k) (_ : Fi M), e.Des M := by
      rcases e.cases with hh | hf
      · exact hh
      · exact absurd (Enc.ok hce).1 hf
    rw [hce]
    simp -implicitDefEqProofs only [go_sem, Nat.reduceLT, Nat.reduceBEq, Nat.reduceAdd, Nat.reduceEqDiff, Nat.reduceLeDiff, Nat.reduceSub, Nat.reduceMul]
    refine call_of (sp_ref20_Small e hB h hd hce 512) ?_
    by_cases hs : ((qn M ^ e.ds e.r * qn M ^ e.r : Nat) : Int) ≤ 512 ∧ e.w 0 ≤ 6
    case neg =>
      rw [decide_eq_false hs]
      simp -implicitDefEqProofs only [go_sem, Nat.reduceLT, Nat.reduceBEq, Nat.reduceAdd, Nat.reduceEqDiff, Nat.reduceLeDiff, Nat.reduceSub, Nat.reduceMul]
      exact fin_ret rfl (by decide) (fz_bool rfl) (u1 _ _)
    rw [decide_eq_true hs]
    simp -implicitDefEqProofs only [go_sem, Nat.reduceLT, Nat.reduceBEq, Nat.reduceAdd, Nat.reduceEqDiff, Nat.reduceLeDiff, Nat.reduceSub, Nat.reduceMul]
    refine call_of (sp_few e) ?_
    rw [decide_eq_true hb]
    simp -implicitDefEqProofs only [go_sem, Nat.reduceLT, Nat.reduceBEq, Nat.reduceAdd, Nat.reduceEqDiff, Nat.reduceLeDiff, Nat.reduceSub, Nat.reduceMul, upd_no, f1, hTI]
    exact fin_ret rfl (by decide) (fz_bool rfl) (u1 _ _)
  have hTI : ¬ (60 : Int) < (p.T : Nat) := by omega
  by_cases hce : e.ce = 0
  case neg =>
    have sCF : ∀ (H : Heap) (n : Nat), Spec prog fid_conv_CheckFree [e.gv, p.gv] H n (.int .i64 e.ce) H n := fun H n => by
      rcases e.cases with ⟨k, M, h, hd⟩ | hf
      · have := sp_CheckFree (H := H) (n := n) e hB h hd p hT
        rwa [if_neg hce] at this
      · have := sp_CheckFree_fail (H := H) (n := n) e hf p
        rwa [← Enc.ce_fail hf] at this
    generalize hc : e.ce = c at *
    simp -implicitDefEqProofs only [go_sem, Nat.reduceLT, Nat.reduceBEq, Nat.reduceAdd, Nat.reduceEqDiff, Nat.reduceLeDiff, Nat.reduceSub, Nat.reduceMul, hce]
    refine call_of (sp_few e) ?_
    rw [decide_eq_true hb]
    simp -implicitDefEqProofs only [go_sem, Nat.reduceLT, Nat.reduceBEq, Nat.reduceAdd, Nat.reduceEqDiff, Nat.reduceLeDiff, Nat.reduceSub, Nat.reduceMul, upd_no, f1, hTI]
    refine call_of (sCF _ _) ?_
    simp -implicitDefEqProofs only [go_sem, Nat.reduceLT, Nat.reduceBEq, Nat.reduceAdd, Nat.reduceEqDiff, Nat.reduceLeDiff, Nat.reduceSub, Nat.reduceMul, upd_no, f1]
    have sCk : ∀ (H : Heap) (n : Nat), Spec prog fid_ref20_Check [e.gv] H n (.int .i64 c) H n := fun H n => by rw [← hc]; exact sp_ref20_Check e hB
    refine call_of (sCk _ _) ?_
    simp -implicitDefEqProofs only [go_sem, Nat.reduceLT, Nat.reduceBEq, Nat.reduceAdd, Nat.reduceEqDiff, Nat.reduceLeDiff, Nat.reduceSub, Nat.reduceMul, hce]
    refine call_of (sCk _ _) ?_
    simp -implicitDefEqProofs only [go_sem, Nat.reduceLT, Nat.reduceBEq, Nat.reduceAdd, Nat.reduceEqDiff, Nat.reduceLeDiff, Nat.reduceSub, Nat.reduceMul]
    exact fin_ret rfl (by decide) (by simp -implicitDefEqProofs only [go_sem, Nat.reduceLT, Nat.reduceBEq, Nat.reduceAdd, Nat.reduceEqDiff, Nat.reduceLeDiff, Nat.reduceSub, Nat.reduceMul]; exact fz_bool (by simp)) (u1 _ _)
  obtain ⟨k, M, h, hd⟩ : ∃ (k : Nat) (M : Mn k) (_ : Fi M), e.Des M := by
    rcases e.cases with hh | hf
    · exact hh
    · exact absurd (Enc.ok hce).1 hf
  have sSm : ∀ (H : Heap) (n : Nat), Spec prog fid_ref20_Small [e.gv, .int .i64 512] H n (.bool (decide (((qn M ^ e.ds e.r * qn M ^ e.r : Nat) : Int) ≤ 512 ∧ e.w 0 ≤ 6))) H n := fun H n => sp_ref20_Small e hB h hd hce 512
  have sCk : ∀ (H : Heap) (n : Nat), Spec prog fid_ref20_Check [e.gv] H n (.int .i64 0) H n := fun H n => by rw [← hce]; exact sp_ref20_Check e hB
  rw [hce]
  simp -implicitDefEqProofs only [go_sem, Nat.reduceLT, Nat.reduceBEq, Nat.reduceAdd, Nat.reduceEqDiff, Nat.reduceLeDiff, Nat.reduceSub, Nat.reduceMul]
  refine call_of (sSm _ _) ?_
  generalize hsm : decide (((qn M ^ e.ds e.r * qn M ^ e.r : Nat) : Int) ≤ 512 ∧ e.w 0 ≤ 6) = sm at *
  cases sm
  · simp -implicitDefEqProofs only [go_sem, Nat.reduceLT, Nat.reduceBEq, Nat.reduceAdd, Nat.reduceEqDiff, Nat.reduceLeDiff, Nat.reduceSub, Nat.reduceMul]
    exact fin_ret rfl (by decide) (fz_bool rfl) (u1 _ _)
  simp -implicitDefEqProofs only [go_sem, Nat.reduceLT, Nat.reduceBEq, Nat.reduceAdd, Nat.reduceEqDiff, Nat.reduceLeDiff, Nat.reduceSub, Nat.reduceMul]
  refine call_of (sp_few e) ?_
  rw [decide_eq_true hb]
  simp -implicitDefEqProofs only [go_sem, Nat.reduceLT, Nat.reduceBEq, Nat.reduceAdd, Nat.reduceEqDiff, Nat.reduceLeDiff, Nat.reduceSub, Nat.reduceMul, upd_no, f1, hTI]
  have sCF : ∀ (H : Heap) (n : Nat), Spec prog fid_conv_CheckFree [e.gv, p.gv] H n (.int .i64 (if e.Acc M p then 0 else 13)) H n := fun H n => by
    have := sp_CheckFree (H := H) (n := n) e hB h hd p hT
    rwa [if_pos hce] at this
  refine call_of (sCF _ _) ?_
  simp -implicitDefEqProofs only [go_sem, Nat.reduceLT, Nat.reduceBEq, Nat.reduceAdd, Nat.reduceEqDiff, Nat.reduceLeDiff, Nat.reduceSub, Nat.reduceMul, upd_no, f1]
  refine call_of (sCk _ _) ?_
  simp -implicitDefEqProofs only [go_sem, Nat.reduceLT, Nat.reduceBEq, Nat.reduceAdd, Nat.reduceEqDiff, Nat.reduceLeDiff, Nat.reduceSub, Nat.reduceMul]
  refine call_of (sSm _ _) ?_
  by_cases hA : e.Acc M p
  · have sAc : ∀ (H : Heap) (n : Nat), Spec prog fid_ref20_Accept [e.gv, p.gv] H n (.bool true) H n := fun H n => by
      have := sp_Accept (H := H) (n := n) e hB h hd hce p hT
      rwa [decide_eq_true hA] at this
    rw [if_pos hA]
    simp -implicitDefEqProofs only [go_sem, Nat.reduceLT, Nat.reduceBEq, Nat.reduceAdd, Nat.reduceEqDiff, Nat.reduceLeDiff, Nat.reduceSub, Nat.reduceMul, upd_no, f1]
    refine call_of (sAc _ _) ?_
    simp -implicitDefEqProofs only [go_sem, Nat.reduceLT, Nat.reduceBEq, Nat.reduceAdd, Nat.reduceEqDiff, Nat.reduceLeDiff, Nat.reduceSub, Nat.reduceMul]
    exact fin_ret rfl (by decide) (fz_bool rfl) (u1 _ _)
  · have sAc : ∀ (H : Heap) (n : Nat), Spec prog fid_ref20_Accept [e.gv, p.gv] H n (.bool false) H n := fun H n => by
      have := sp_Accept (H := H) (n := n) e hB h hd hce p hT
      rwa [decide_eq_false hA] at this
    have h13 : ((13 : Int) = 0) = False := by simp
    rw [if_neg hA]
    simp -implicitDefEqProofs only [go_sem, Nat.reduceLT, Nat.reduceBEq, Nat.reduceAdd, Nat.reduceEqDiff, Nat.reduceLeDiff, Nat.reduceSub, Nat.reduceMul, upd_no, f1, h13]
    refine call_of (sAc _ _) ?_
    simp -implicitDefEqProofs only [go_sem, Nat.reduceLT, Nat.reduceBEq, Nat.reduceAdd, Nat.reduceEqDiff, Nat.reduceLeDiff, Nat.reduceSub, Nat.reduceMul]
    exact fin_ret rfl (by decide) (fz_bool rfl) (u1 _ _)
end Go.Proofs.Ytdpibcniodhinaa.Gh
/- A proof bounds the weight of every message: the plain law of ConvBounds; the first example's numbers. -/
namespace Go.Proofs.Ytdpibcniodhinaa.Gh
open Go Go.RowKit
open Alg (CR Ps Dg Zm Mn El Cg sm pw Irr Prm)
set_option linter.unusedVariables false
set_option linter.unusedSimpArgs false

theorem si_cong {n : Nat} {f g : Nat → Int} (h : ∀ i, i < n → f i = g i) : si n f = si n g := by
  induction n with
  | zero => rfl
  | succ n ih => rw [si, si, ih fun i hi => h i (by omega), h n (by omega)]
section
variable {k : Nat} {M : Mn k}
theorem Enc.X_cong (e : Enc) (q st : Int) {f g : Nat → Int} {i : Nat} (h : f i = g i) (d : Nat) : e.X q st f i d = e.X q st g i d := by unfold X; rw [h]
theorem Enc.nx_cong (e : Enc) (q st : Int) {f g : Nat → Int} (h : ∀ i, i < e.r → f i = g i) : e.nx q st f e.r 0 = e.nx q st g e.r 0 := by
  unfold nx
  rw [si_cong (f := fun i' => si (e.deg i') fun d' => e.X q st f i' d' * q ^ (e.ds i' + d')) (g := fun i' => si (e.deg i') fun d' => e.X q st g i' d' * q ^ (e.ds i' + d')) fun i hi => si_cong fun d _ => by rw [e.X_cong q st (h i hi)]]
  rfl
theorem Enc.so_cong (e : Enc) (st : Int) {f g : Nat → Int} (h : ∀ i, i < e.r → f i = g i) (j : Nat) : e.so M st f e.r 0 j = e.so M st g e.r 0 j := by
  unfold so
  rw [Alg.sm_zero, Alg.sm_zero, Alg.add_zero, Alg.add_zero]
  exact Alg.sm_congr fun i hi => Alg.sm_congr fun d _ => by unfold tm; rw [e.X_cong _ st (h i hi)]
theorem wt_cong {l : Nat} {f g : Nat → Int} (h : ∀ i, i < l → f i = g i) : wt l f = wt l g := by
  induction l with
  | zero => rfl
  | succ l ih => rw [wt_succ, wt_succ, ih fun i hi => h i (by omega), h l (by omega)]
/-- the number of an input -/
def inum (M : Mn k) (r : Nat) (f : Nat → Int) : Nat := (vs (qn M : Nat) r f).toNat
theorem inum_lt {r : Nat} {f : Nat → Int} (hf : ∀ i, i < r → 0 ≤ f i ∧ f i < (qn M : Nat)) : inum M r f < qn M ^ r := by
  have hq := qn_two M
  have h := vs_nn (p := (qn M : Nat)) (by omega) r hf
  have h2 := Int.natCast_pow (qn M) r
  unfold inum
  omega
theorem inum_inp {r : Nat} {f : Nat → Int} (hf : ∀ i, i < r → 0 ≤ f i ∧ f i < (qn M : Nat)) (i : Nat) (hi : i < r) : inp M (inum M r f) i = f i := by
  have hq := qn_two M
  have h := vs_nn (p := (qn M : Nat)) (by omega) r hf
  unfold inp inum
  rw [Int.toNat_of_nonneg h.1]
  exact dg_vs (by omega) r hf i hi
theorem inp_zero (i : Nat) : inp M 0 i = 0 := dg_of_zero _ _
theorem wtm_pos {l : Nat → Nat} {f : Nat → Nat → Int} : ∀ T, wtm l f T ≠ 0 → ∃ t, t < T ∧ ∃ i, i < l t ∧ f t i ≠ 0 := by
  intro T
  induction T with
  | zero => intro h; exact absurd rfl h
  | succ T ih =>
    intro h
    rw [wtm_succ] at h
    by_cases h1 : wtm l f T = 0
    · have h2 : wt (l T) (f T) ≠ 0 := by omega
      clear ih h h1
      have key : ∀ w, wt w (f T) ≠ 0 → ∃ i, i < w ∧ f T i ≠ 0 := by
        intro w
        induction w with
        | zero => intro h; exact absurd rfl h
        | succ w ih =>
          intro h
          by_cases h3 : f T w = 0
          · rw [wt_succ, if_pos h3, Nat.add_zero] at h
            obtain ⟨i, h4, h5⟩ := ih h
            exact ⟨i, by omega, h5⟩
          · exact ⟨w, by omega, h3⟩
      exact ⟨T, by omega, key _ h2⟩
    · obtain ⟨t, h2, h3⟩ := ih h1
      exact ⟨t, by omega, h3⟩
set_option maxHeartbeats 1000000 in
theorem Enc.acc_bound (e : Enc) (h : Fi M) (p : Fp) (hA : e.Acc M p) (T : Nat) (f : Nat → Nat → Int) (hin : ∀ t, t < T → ∀ i, i < e.r → 0 ≤ f t i ∧ f t i < (qn M : Nat)) (hne : ∃ t, t < T ∧ ∃ i, i < e.r ∧ f t i ≠ 0) : p.D ≤ (e.tw M T f : Nat) := by
  obtain ⟨_, ⟨hnp, hp0⟩, hrg, hbad⟩ := hA
  have hq := qn_two M
  have hq0 : (2 : Int) ≤ (qn M : Nat) := by omega
  have hg : ∀ u, u < T + e.mem e.r → ∀ i, i < e.r → 0 ≤ tval T f u i ∧ tval T f u i < (qn M : Nat) := by
    intro u _ i hi
    unfold tval
    by_cases h1 : u < T
    · rw [if_pos h1]; exact hin u h1 i hi
    · rw [if_neg h1]; omega
  have hS : ∀ t, t ≤ T + e.mem e.r → 0 ≤ e.S (qn M : Nat) (tval T f) t ∧ e.S (qn M : Nat) (tval T f) t < ((qn M ^ e.ds e.r : Nat) : Int) := by
    intro t ht
    cases t with
    | zero => exact ⟨Int.le_refl _, by have : 0 < qn M ^ e.ds e.r := Nat.pow_pos (by omega); show (0 : Int) < _; omega⟩
    | succ t => exact Enc.nx_in h (hg t (by omega))
  have hend : e.S (qn M : Nat) (tval T f) (T + e.mem e.r) = 0 := e.S_back hq0 T hg fun u h1 _ i _ => if_neg (by omega)
  have step : ∀ t, t < T + e.mem e.r → (((e.S (qn M : Nat) (tval T f) t = 0 ∧ ∀ u, u < t → ∀ i, i < e.r → tval T f u i = 0) ∨ p.D ≤ ((wtm (fun _ => e.w 0) (e.yv M (tval T f)) t : Nat) : Int) + p.p (e.S (qn M : Nat) (tval T f) t).toNat)) → ((e.S (qn M : Nat) (tval T f) (t + 1) = 0 ∧ ∀ u, u < t + 1 → ∀ i, i < e.r → tval T f u i = 0) ∨ p.D ≤ ((wtm (fun _ => e.w 0) (e.yv M (tval T f)) (t + 1) : Nat) : Int) + p.p (e.S (qn M : Nat) (tval T f) (t + 1)).toNat) := by
    intro t ht ih
    have hs := hS t (by omega)
    have hs1 := hS (t + 1) (by omega)
    have hx := inum_lt (hg t ht)
    have hinp := inum_inp (hg t ht)
    rw [wtm_succ]
    obtain ⟨s, hs2⟩ : ∃ s : Nat, e.S (qn M : Nat) (tval T f) t = (s : Int) := ⟨_, (Int.toNat_of_nonneg hs.1).symm⟩
    have hsl : s < qn M ^ e.ds e.r := by omega
    have hst : (e.S (qn M : Nat) (tval T f) t).toNat = s := by omega
    generalize hxx : inum M e.r (tval T f t) = x at *
    have hal : s * qn M ^ e.r + x < qn M ^ e.ds e.r * qn M ^ e.r := by
      have : (s + 1) * qn M ^ e.r ≤ qn M ^ e.ds e.r * qn M ^ e.r := Nat.mul_le_mul_right _ (by omega)
      rw [Nat.succ_mul] at this; omega
    have hb := hbad _ hal
    have hnx : e.nxa M (s * qn M ^ e.r + x) = e.S (qn M : Nat) (tval T f) (t + 1) := by
      rw [Enc.nxa, div_at hx, mod_at hx, Enc.S, hs2]
      exact e.nx_cong _ _ hinp
    have how : e.owa M (s * qn M ^ e.r + x) = wt (e.w 0) (e.yv M (tval T f) t) := by
      rw [Enc.owa, div_at hx, mod_at hx]
      refine wt_cong fun j _ => ?_
      rw [Enc.orw, Enc.yv, Enc.Y, hs2, e.so_cong _ hinp]
    rw [Enc.Bad, hnx, how, div_at hx] at hb
    have hr0 := (hrg (e.S (qn M : Nat) (tval T f) (t + 1)).toNat (by omega)).1
    rw [hst] at ih
    rcases ih with ⟨i1, i2⟩ | i1
    · have : s = 0 := by omega
      subst this
      by_cases hx0 : x = 0
      · subst hx0
        have hz : ∀ i, i < e.r → tval T f t i = 0 := fun i hi => by rw [← hinp i hi]; exact inp_zero i
        refine .inl ⟨?_, fun u hu i hi => ?_⟩
        · rw [Enc.S, i1, e.nx_cong _ _ hz]
          have hd : ∀ pos, Gh.dg (qn M : Nat) (0 : Int) pos = 0 := fun pos => dg_of_zero _ _
          have hX : ∀ i d, e.X (qn M : Nat) 0 (fun _ => 0) i d = 0 := fun i d => by
            unfold Enc.X
            by_cases h0 : d = 0
            · rw [if_pos h0]
            · rw [if_neg h0]; exact hd _
          have hsz : ∀ n, si n (fun _ => 0) = 0 := fun n => by
            induction n with
            | zero => rfl
            | succ n ih => rw [si, ih]; rfl
          unfold Enc.nx
          rw [si_cong (g := fun _ => 0) fun i _ => (si_cong (g := fun _ => 0) fun d _ => by rw [hX, Int.zero_mul]).trans (hsz _), hsz]
          rfl
        · by_cases eu : u = t
          · subst eu; exact hz i hi
          · exact i2 u (by omega) i hi
      · refine .inr ?_
        have : ¬ ((wt (e.w 0) (e.yv M (tval T f) t) : Nat) : Int) + p.p (e.S (qn M : Nat) (tval T f) (t + 1)).toNat < p.D := fun hh => hb (.inr ⟨rfl, by omega, hh⟩)
        omega
    · refine .inr ?_
      by_cases hs0 : s = 0
      · subst hs0
        rw [hp0] at i1
        omega
      · have : ¬ ((wt (e.w 0) (e.yv M (tval T f) t) : Nat) : Int) + p.p (e.S (qn M : Nat) (tval T f) (t + 1)).toNat < p.p s := fun hh => hb (.inl ⟨by omega, hh⟩)
        omega
  have all : ∀ t, t ≤ T + e.mem e.r → ((e.S (qn M : Nat) (tval T f) t = 0 ∧ ∀ u, u < t → ∀ i, i < e.r → tval T f u i = 0) ∨ p.D ≤ ((wtm (fun _ => e.w 0) (e.yv M (tval T f)) t : Nat) : Int) + p.p (e.S (qn M : Nat) (tval T f) t).toNat) := by
    intro t
    induction t with
    | zero => intro _; exact .inl ⟨rfl, fun u hu => by omega⟩
    | succ t ih => intro ht; exact step t (by omega) (ih (by omega))
  rcases all _ (Nat.le_refl _) with ⟨_, h2⟩ | h2
  · obtain ⟨t, h3, i, h4, h5⟩ := hne
    have := h2 t (by omega) i h4
    rw [show tval T f t i = f t i from if_pos h3] at this
    exact absurd this h5
  · rw [hend, show ((0 : Int).toNat) = 0 from rfl, hp0, Int.add_zero] at h2
    exact h2
end
end Go.Proofs.Ytdpibcniodhinaa.Gh
/- The first example's numbers; the statement ConvBounds. -/
namespace Go.Proofs.Ytdpibcniodhinaa.Gh
open Go Go.RowKit
open Alg (CR Ps Dg Zm Mn El Cg sm pw Irr Prm)
set_option linter.unusedVariables false
set_option linter.unusedSimpArgs false

theorem vr_lit2 {K : Kr} {a : List GV} {v : Value} (h : VR K (.lit [.lit a]) v) : VR K (.sl 1 [.sl a.length a]) v := by
  cases h with
  | lit B o _ us hS hc hv =>
    refine .sl _ _ B o _ us (Nat.le_refl _) hS hc fun j hj => ?_
    have : j = 0 := by simp at hj; omega
    subst this
    exact vr_lit (hv 0 hj)
/-- the example's proof, at a distance -/
def p4 (D : Int) : Fp := ⟨D, 1, fun _ => 1, fun _ _ => 1, 4, fun s => if s = 0 then 0 else if s = 1 then 3 else 2⟩
theorem vr_p4 {K : Kr} {D : Int} {v : Value} (h : VR K (.agg [.int .i64 D, .lit [.lit [.int .i64 1]], .lit [.int .i64 0, .int .i64 3, .int .i64 2, .int .i64 2]]) v) : VR K (p4 D).gv v := by
  cases h with
  | agg _ us hl hv =>
    refine .agg _ us hl fun j hj => ?_
    rcases j with _ | _ | _ | j
    · exact hv 0 (by show 0 < 3; decide)
    · exact vr_lit2 (hv 1 (by show 1 < 3; decide))
    · exact vr_lit (hv 2 (by show 2 < 3; decide))
    · have : j + 3 < 3 := hj
      omega
section
variable {k : Nat} {M : Mn k}
theorem one_one (hq : qn M = 2) : (1 : El M) + 1 = 0 := by
  have h1 := cn_lt ((1 : El M) + 1)
  rw [hq] at h1
  have h2 : cn ((1 : El M) + 1) = 0 ∨ cn ((1 : El M) + 1) = 1 := by omega
  rcases h2 with h2 | h2
  · exact cn_eq_zero.1 h2
  · have h3 : (1 : El M) + 1 = 1 := cn_inj (by rw [h2, cn_one])
    have h4 : (1 : El M) = 0 := Alg.add_left_cancel (a := (1 : El M)) (by rw [h3, Alg.add_zero])
    have h5 := cn_one (M := M)
    rw [h4, cn_zero] at h5
    omega
def o4 (st x : Int) (j : Nat) : Int := if j = 0 then (x + dg 2 st 1) % 2 else (x + dg 2 st 0 + dg 2 st 1) % 2
theorem e4_out (h : Fi M) (hq : qn M = 2) (st : Int) (inp : Nat → Int) (h0 : inp 0 = 0 ∨ inp 0 = 1) (j : Nat) : (cn (e4.so M st inp e4.r 0 j) : Int) = o4 st (inp 0) j := by
  have hone : ein M 1 = 1 := by have := ein_cn h.fc (1 : El M); rwa [cn_one] at this
  have hzero : ein M 0 = 0 := ein_zero h.fc
  have h11 := one_one hq
  have hd : ∀ i, dg 2 st i = 0 ∨ dg 2 st i = 1 := fun i => by
    have h1 := dg_lo (p := 2) (x := st) (by decide) i
    have h2 := dg_hi (p := 2) (x := st) (by decide) i
    omega
  have t0 : e4.tm M st inp j 0 0 = ein M (inp 0) * ein M (if j = 0 then 1 else 1) := rfl
  have t1 : e4.tm M st inp j 0 1 = ein M (dg (qn M : Nat) st 0) * ein M (if j = 0 then 0 else 1) := rfl
  have t2 : e4.tm M st inp j 0 2 = ein M (dg (qn M : Nat) st 1) * ein M (if j = 0 then 1 else 1) := rfl
  have hs : e4.so M st inp e4.r 0 j = e4.tm M st inp j 0 0 + e4.tm M st inp j 0 1 + e4.tm M st inp j 0 2 := by
    show sm 1 (fun i' => sm 3 (e4.tm M st inp j i')) + sm 0 _ = _
    rw [Alg.sm_zero, Alg.add_zero, Alg.sm_succ, Alg.sm_zero, Alg.zero_add, Alg.sm_succ, Alg.sm_succ, Alg.sm_succ, Alg.sm_zero, Alg.zero_add]
  rw [hs, t0, t1, t2, hq]
  unfold o4
  show ((cn (ein M (inp 0) * ein M (if j = 0 then 1 else 1) + ein M (dg 2 st 0) * ein M (if j = 0 then 0 else 1) + ein M (dg 2 st 1) * ein M (if j = 0 then 1 else 1)) : Nat) : Int) = _
  rcases h0 with e0 | e0 <;> rcases hd 0 with e1 | e1 <;> rcases hd 1 with e2 | e2 <;> by_cases hj : j = 0 <;>
    simp only [e0, e1, e2, hj, if_true, if_false, hone, hzero, Alg.mul_zero, Alg.zero_mul, Alg.mul_one, Alg.zero_add, Alg.add_zero, h11, cn_zero, cn_one] <;> rfl
theorem e4_yv (h : Fi M) (hq : qn M = 2) (g : Nat → Nat → Int) (hg : ∀ t, g t 0 = 0 ∨ g t 0 = 1) : e4.yv M g = fun t => o4 (e4.S 2 g t) (g t 0) := by
  funext t j
  rw [Enc.yv, Enc.Y, e4_out h hq _ _ (hg t), hq]; rfl
theorem p4_tw (h : Fi M) (hq : qn M = 2) : e4.tw M 1 (fun _ _ => 1) = 5 := by
  have hg : ∀ t, tval 1 (fun _ _ => (1 : Int)) t 0 = 0 ∨ tval 1 (fun _ _ => (1 : Int)) t 0 = 1 := fun t => by
    unfold tval
    by_cases h1 : t < 1
    · rw [if_pos h1]; exact .inr rfl
    · rw [if_neg h1]; exact .inl rfl
  unfold Enc.tw
  rw [e4_yv h hq _ hg]
  decide +kernel
theorem p4_bad (h : Fi M) (hq : qn M = 2) (a : Nat) : e4.Bad M (p4 5) a ↔ (0 < a / 2 ∧ ((wt 2 (o4 ((a / 2 : Nat) : Int) (dg 2 ((a % 2 : Nat) : Int) 0)) : Nat) : Int) + (p4 5).p (e4.nx 2 ((a / 2 : Nat) : Int) (dg 2 ((a % 2 : Nat) : Int)) 1 0).toNat < (p4 5).p (a / 2)) ∨ (a / 2 = 0 ∧ 0 < a ∧ ((wt 2 (o4 ((a / 2 : Nat) : Int) (dg 2 ((a % 2 : Nat) : Int) 0)) : Nat) : Int) + (p4 5).p (e4.nx 2 ((a / 2 : Nat) : Int) (dg 2 ((a % 2 : Nat) : Int)) 1 0).toNat < 5) := by
  have hI : qn M ^ e4.r = 2 := by rw [hq]; rfl
  have hinp : ∀ x : Nat, inp M x = dg 2 (x : Int) := fun x => by unfold inp; rw [hq]; rfl
  have hd : ∀ x : Int, dg 2 x 0 = 0 ∨ dg 2 x 0 = 1 := fun x => by
    have h1 := dg_lo (p := 2) (x := x) (by decide) 0
    have h2 := dg_hi (p := 2) (x := x) (by decide) 0
    omega
  have ho : ∀ s x : Nat, e4.orw M s x = o4 (s : Int) (dg 2 (x : Int) 0) := fun s x => by
    funext j
    rw [Enc.orw, hinp]
    exact e4_out h hq _ _ (hd _) j
  unfold Enc.Bad Enc.owa Enc.nxa
  rw [hI, ho, hinp, hq]
  exact Iff.rfl
theorem p4_acc (h : Fi M) (hq : qn M = 2) : e4.Acc M (p4 5) := by
  refine ⟨⟨fun t ht => ⟨rfl, fun i hi => ⟨by show (0 : Int) ≤ 1; decide, by rw [hq]; show (1 : Int) < 2; decide⟩⟩, by decide, ?_⟩, ⟨by rw [hq]; rfl, rfl⟩, ?_, fun a ha => ?_⟩
  · rw [show e4.tw M (p4 5).T (p4 5).f = 5 from p4_tw h hq]; rfl
  · have key : ∀ s, s < 4 → 0 ≤ (p4 5).p s ∧ (p4 5).p s ≤ 2147483648 := by decide
    exact key
  · rw [p4_bad h hq]
    have h8 : qn M ^ e4.ds e4.r * qn M ^ e4.r = 8 := by rw [hq]; rfl
    rw [h8] at ha
    revert a
    decide +kernel
theorem p4_rej (h : Fi M) (hq : qn M = 2) : ¬ e4.Acc M (p4 6) := fun hA => by
  have := hA.1.2.2
  rw [show e4.tw M (p4 6).T (p4 6).f = 5 from p4_tw h hq] at this
  exact absurd this (by decide)
end
theorem sp_CF4 {H : Heap} {n : Nat} (D r : Int) (hr : ∀ (k : Nat) (M : Mn k) (h : Fi M) (hq : qn M = 2), (if e4.Acc M (p4 D) then 0 else 13) = r) : Spec prog fid_conv_CheckFree [e4.gv, .agg [.int .i64 D, .lit [.lit [.int .i64 1]], .lit [.int .i64 0, .int .i64 3, .int .i64 2, .int .i64 2]]] H n (.int .i64 r) H n := by
  obtain ⟨k, M, h, hd, _⟩ := e4_fi
  have hq : qn M = 2 := by have h1 := hd.qo h; have h2 : qo e4.p e4.m = 2 := e4_qo; omega
  have h1 := sp_CheckFree (H := H) (n := n) e4 e4_bnd h hd (p4 D) (by show 1 ≤ 60; decide)
  rw [if_pos e4_ce, hr k M h hq] at h1
  refine spec_arg (ys := [e4.gv, (p4 D).gv]) rfl (fun K v j hj hv => ?_) h1
  rcases j with _ | _ | j
  · exact hv
  · exact vr_p4 hv
  · simp at hj; omega
theorem sp_CF5 {H : Heap} {n : Nat} : Spec prog fid_conv_CheckFree [e4.gv, .agg [.int .i64 5, .lit [.lit [.int .i64 1]], .lit [.int .i64 0, .int .i64 3, .int .i64 2, .int .i64 2]]] H n (.int .i64 0) H n := sp_CF4 5 0 fun _ _ h hq => if_pos (p4_acc h hq)
theorem sp_CF6 {H : Heap} {n : Nat} : Spec prog fid_conv_CheckFree [e4.gv, .agg [.int .i64 6, .lit [.lit [.int .i64 1]], .lit [.int .i64 0, .int .i64 3, .int .i64 2, .int .i64 2]]] H n (.int .i64 13) H n := sp_CF4 6 13 fun _ _ h hq => if_neg (p4_rej h hq)

theorem Enc.gv_nr (e : Enc) : Nr e.gv := Pl.nr (.agg _ fun j hj => by
  rcases j with _ | _ | _ | _ | j
  · exact .int _ _
  · exact .int _ _
  · exact pl_isl _ _
  · exact .sl _ _ (pl_tab fun _ _ => .sl _ _ (pl_tab fun _ _ => pl_isl _ _))
  · simp at hj; omega)
set_option maxHeartbeats 8000000 in
theorem sp_ConvBounds {H : Heap} {n : Nat} (e : Enc) (p : Fp) (T : Nat) (l : Nat → Nat) (f : Nat → Nat → Int) : Spec prog fid_law20_ConvBounds [e.gv, p.gv, msg T l f] H n (.bool true) H n := by
  refine spec_ends hmix ok_law20_ConvBounds rfl fun hF => ?_
  show gw prog B_law20_ConvBounds _ (tl 75 _) H n
  have u1 : ∀ x y z b, b < n → upd (upd (upd H n x) (n + 1) y) (n + 1 + 1) z b = H b := fun x y z b hb => by rw [upd_ne _ _ (by omega), upd_ne _ _ (by omega), upd_ne _ _ (by omega)]
  have f1 : (n = n + 1) = False := eq_false (by omega)
  have f2 : (n = n + 1 + 1) = False := eq_false (by omega)
  have f3 : (n + 1 = n + 1 + 1) = False := eq_false (by omega)
  have f4 : n + 1 + 1 < n + 1 + 1 + 1 := by omega
  have f5 : n + 1 < n + 1 + 1 + 1 := by omega
  have f6 : n < n + 1 + 1 + 1 := by omega
  simp -implicitDefEqProofs only [B_law20_ConvBounds, go_sem, Nat.reduceLT, Nat.reduceBEq, Nat.reduceAdd, Nat.reduceEqDiff, Nat.reduceLeDiff, Nat.reduceSub, Nat.reduceMul, upd_no, f1, f2, f3, f4, f5, f6]
  refine mcall_of e4.gv_nr (fun H1 n1 _ _ => sp_four) ?_
  simp -implicitDefEqProofs only [go_sem, Nat.reduceLT, Nat.reduceBEq, Nat.reduceAdd, Nat.reduceEqDiff, Nat.reduceLeDiff, Nat.reduceSub, Nat.reduceMul, upd_no, f1, f2, f3, f4, f5, f6]
  refine mcall_of (.int _ _) (fun H1 n1 _ _ => sp_CF5) ?_
  simp -implicitDefEqProofs only [go_sem, Nat.reduceLT, Nat.reduceBEq, Nat.reduceAdd, Nat.reduceEqDiff, Nat.reduceLeDiff, Nat.reduceSub, Nat.reduceMul, upd_no, f1, f2, f3, f4, f5, f6]
  refine mcall_of e4.gv_nr (fun H1 n1 _ _ => sp_four) ?_
  simp -implicitDefEqProofs only [go_sem, Nat.reduceLT, Nat.reduceBEq, Nat.reduceAdd, Nat.reduceEqDiff, Nat.reduceLeDiff, Nat.reduceSub, Nat.reduceMul, upd_no, f1, f2, f3, f4, f5, f6]
  refine call_of sp_CF6 ?_
  simp -implicitDefEqProofs only [go_sem, Nat.reduceLT, Nat.reduceBEq, Nat.reduceAdd, Nat.reduceEqDiff, Nat.reduceLeDiff, Nat.reduceSub, Nat.reduceMul, upd_no, f1, f2, f3, f4, f5, f6]
  refine call_of (sp_few e) ?_
  by_cases hb : e.Bnd ∧ e.gs e.r ≤ 3000
  case neg =>
    rw [decide_eq_false hb]
    simp -implicitDefEqProofs only [go_sem, Nat.reduceLT, Nat.reduceBEq, Nat.reduceAdd, Nat.reduceEqDiff, Nat.reduceLeDiff, Nat.reduceSub, Nat.reduceMul]
    exact fin_ret rfl (by decide) (fz_bool rfl) (u1 _ _ _)
  have hB := hb.1
  rw [decide_eq_true hb]
  by_cases hT : p.T ≤ 60
  case neg =>
    have hTI : (60 : Int) < (p.T : Nat) := by omega
    simp -implicitDefEqProofs only [go_sem, Nat.reduceLT, Nat.reduceBEq, Nat.reduceAdd, Nat.reduceEqDiff, Nat.reduceLeDiff, Nat.reduceSub, Nat.reduceMul, upd_no, f1, f2, f3, hTI]
    exact fin_ret rfl (by decide) (fz_bool rfl) (u1 _ _ _)
  have hTI : ¬ (60 : Int) < (p.T : Nat) := by omega
  by_cases hS : T ≤ 60
  case neg =>
    have hSI : (60 : Int) < (T : Nat) := by omega
    simp -implicitDefEqProofs only [go_sem, Nat.reduceLT, Nat.reduceBEq, Nat.reduceAdd, Nat.reduceEqDiff, Nat.reduceLeDiff, Nat.reduceSub, Nat.reduceMul, upd_no, f1, f2, f3, hTI, hSI]
    exact fin_ret rfl (by decide) (fz_bool rfl) (u1 _ _ _)
  have hSI : ¬ (60 : Int) < (T : Nat) := by omega
  simp -implicitDefEqProofs only [go_sem, Nat.reduceLT, Nat.reduceBEq, Nat.reduceAdd, Nat.reduceEqDiff, Nat.reduceLeDiff, Nat.reduceSub, Nat.reduceMul, upd_no, f1, f2, f3, hTI, hSI]
  refine call_of (sp_ref20_Check e hB) ?_
  by_cases hce : e.ce = 0
  case neg =>
    simp -implicitDefEqProofs only [go_sem, Nat.reduceLT, Nat.reduceBEq, Nat.reduceAdd, Nat.reduceEqDiff, Nat.reduceLeDiff, Nat.reduceSub, Nat.reduceMul, upd_no, f1, f2, f3, hce]
    exact fin_ret rfl (by decide) (fz_bool rfl) (u1 _ _ _)
  obtain ⟨k, M, h, hd⟩ : ∃ (k : Nat) (M : Mn k) (_ : Fi M), e.Des M := by
    rcases e.cases with hh | hf
    · exact hh
    · exact absurd (Enc.ok hce).1 hf
  have hqo := hd.qo h
  have hr := hB.r
  have hok := Enc.ok hce
  have hr0 : 0 < e.r := by have := hok.2.1.1; omega
  have hw0 := hB.w 0 hr0
  have hmem := e.mem_le hB e.r (Nat.le_refl _)
  rw [hce]
  simp -implicitDefEqProofs only [go_sem, Nat.reduceLT, Nat.reduceBEq, Nat.reduceAdd, Nat.reduceEqDiff, Nat.reduceLeDiff, Nat.reduceSub, Nat.reduceMul, upd_no, f1, f2, f3]
  refine call_of (sp_ref20_Small e hB h hd hce 4096) ?_
  by_cases hs : ((qn M ^ e.ds e.r * qn M ^ e.r : Nat) : Int) ≤ 4096 ∧ e.w 0 ≤ 6
  case neg =>
    rw [decide_eq_false hs]
    simp -implicitDefEqProofs only [go_sem, Nat.reduceLT, Nat.reduceBEq, Nat.reduceAdd, Nat.reduceEqDiff, Nat.reduceLeDiff, Nat.reduceSub, Nat.reduceMul, upd_no, f1, f2, f3]
    exact fin_ret rfl (by decide) (fz_bool rfl) (u1 _ _ _)
  rw [decide_eq_true hs]
  simp -implicitDefEqProofs only [go_sem, Nat.reduceLT, Nat.reduceBEq, Nat.reduceAdd, Nat.reduceEqDiff, Nat.reduceLeDiff, Nat.reduceSub, Nat.reduceMul, upd_no, f1, f2, f3]
  refine call_of (sp_ref20_Steps e hB T l f (by omega)) ?_
  rw [hqo]
  by_cases hz : stE e.r l f (qn M : Nat) T = 0
  case neg =>
    simp -implicitDefEqProofs only [go_sem, Nat.reduceLT, Nat.reduceBEq, Nat.reduceAdd, Nat.reduceEqDiff, Nat.reduceLeDiff, Nat.reduceSub, Nat.reduceMul, upd_no, f1, f2, f3, hz]
    exact fin_ret rfl (by decide) (fz_bool rfl) (u1 _ _ _)
  have hG := stE_ok hz
  rw [hz]
  simp -implicitDefEqProofs only [go_sem, Nat.reduceLT, Nat.reduceBEq, Nat.reduceAdd, Nat.reduceEqDiff, Nat.reduceLeDiff, Nat.reduceSub, Nat.reduceMul, upd_no, f1, f2, f3]
  refine call_of (sp_Weight T 70 l f (.inl rfl) (by omega) (by omega) fun t ht => by rw [(hG t ht).1]; exact hr) ?_
  by_cases hw : wtm l f T = 0
  · have hw' : ((wtm l f T : Nat) : Int) = 0 := by omega
    simp -implicitDefEqProofs only [go_sem, Nat.reduceLT, Nat.reduceBEq, Nat.reduceAdd, Nat.reduceEqDiff, Nat.reduceLeDiff, Nat.reduceSub, Nat.reduceMul, upd_no, f1, f2, f3, hw']
    exact fin_ret rfl (by decide) (fz_bool rfl) (u1 _ _ _)
  have hw' : ¬ ((wtm l f T : Nat) : Int) = 0 := by omega
  simp -implicitDefEqProofs only [go_sem, Nat.reduceLT, Nat.reduceBEq, Nat.reduceAdd, Nat.reduceEqDiff, Nat.reduceLeDiff, Nat.reduceSub, Nat.reduceMul, upd_no, f1, f2, f3, hw']
  refine call_of (sp_CheckFree e hB h hd p hT) ?_
  rw [if_pos hce]
  by_cases hA : e.Acc M p
  case neg =>
    have h13 : ((13 : Int) = 0) = False := by simp
    rw [if_neg hA]
    simp -implicitDefEqProofs only [go_sem, Nat.reduceLT, Nat.reduceBEq, Nat.reduceAdd, Nat.reduceEqDiff, Nat.reduceLeDiff, Nat.reduceSub, Nat.reduceMul, upd_no, f1, f2, f3, h13]
    exact fin_ret rfl (by decide) (fz_bool rfl) (u1 _ _ _)
  have hle := e.acc_bound h p hA T f (fun t ht => (hG t ht).2) (by
    obtain ⟨t, h1, i, h2, h3⟩ := wtm_pos T hw
    exact ⟨t, h1, i, by rw [(hG t h1).1] at h2; exact h2, h3⟩)
  rw [if_pos hA]
  simp -implicitDefEqProofs only [go_sem, Nat.reduceLT, Nat.reduceBEq, Nat.reduceAdd, Nat.reduceEqDiff, Nat.reduceLeDiff, Nat.reduceSub, Nat.reduceMul, upd_no, f1, f2, f3]
  refine mcall_of (Pl.sl _ _ (pl_tab fun _ _ => pl_isl _ _)).nr (fun H1 n1 _ _ => sp_ref20_Terminate e hB T l f (by omega)) ?_
  have hz2 : stE e.r (tlen T e.r l) (tval T f) (qn M : Nat) (T + e.mem e.r) = 0 := stE_of fun t ht => by
    by_cases e1 : t < T
    · refine ⟨(if_pos e1).trans (hG t e1).1, fun i hi => ?_⟩
      rw [show tval T f t i = f t i from if_pos e1]; exact (hG t e1).2 i hi
    · refine ⟨if_neg e1, fun i hi => ?_⟩
      have := qn_two M
      rw [show tval T f t i = 0 from if_neg e1]; omega
  simp -implicitDefEqProofs only [go_sem, Nat.reduceLT, Nat.reduceBEq, Nat.reduceAdd, Nat.reduceEqDiff, Nat.reduceLeDiff, Nat.reduceSub, Nat.reduceMul]
  refine mcall_of (e.oval_nr (M := M) _ _) (fun H1 n1 _ _ => sp_ref20_Encode e hB h hd hce (T + e.mem e.r) (tlen T e.r l) (tval T f) (by omega) hz2) ?_
  simp -implicitDefEqProofs only [go_sem, Nat.reduceLT, Nat.reduceBEq, Nat.reduceAdd, Nat.reduceEqDiff, Nat.reduceLeDiff, Nat.reduceSub, Nat.reduceMul]
  refine mcall_of (.int _ _) (fun H1 n1 _ _ => sp_Weight (T + e.mem e.r) 70 (fun _ => e.w 0) (e.yv M (tval T f)) (e.oval_rr _ _) (by omega) (by omega) fun _ _ => hw0) ?_
  have hle' : p.D ≤ ((wtm (fun _ => e.w 0) (e.yv M (tval T f)) (T + e.mem e.r) : Nat) : Int) := hle
  simp -implicitDefEqProofs only [go_sem, Nat.reduceLT, Nat.reduceBEq, Nat.reduceAdd, Nat.reduceEqDiff, Nat.reduceLeDiff, Nat.reduceSub, Nat.reduceMul, upd_no, f1, f2, f3, hle']
  exact fin_ret rfl (by decide) (fz_bool rfl) (u1 _ _ _)
end Go.Proofs.Ytdpibcniodhinaa.Gh
