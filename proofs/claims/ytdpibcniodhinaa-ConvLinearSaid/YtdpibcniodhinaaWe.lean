/- The reference's outputs of a message. -/
import Derived.Test.YtdpibcniodhinaaWd
namespace Go.Proofs.Ytdpibcniodhinaa.Gh
open Go Go.RowKit
open Alg (CR Ps Dg Zm Mn El Cg sm pw Irr Prm)
set_option linter.unusedVariables false
set_option linter.unusedSimpArgs false

theorem upf_upf {α : Type} (f : Nat → α) (i : Nat) (x y : α) : upf (upf f i x) i y = upf f i y := by
  funext j; simp only [upf]; split <;> rfl
section
variable {k : Nat} {M : Mn k}
set_option maxHeartbeats 4000000 in
theorem sp_ref20_Encode {H : Heap} {n : Nat} (e : Enc) (hB : e.Bnd) (h : Fi M) (hd : e.Des M) (hce : e.ce = 0) (T : Nat) (l : Nat → Nat) (f : Nat → Nat → Int) (hT : T ≤ 100000) (hz : stE e.r l f (qn M : Nat) T = 0) :
    Spec prog fid_ref20_Encode [e.gv, msg T l f] H n (e.oval M f T) H n := by
  refine spec_ends hmix ok_ref20_Encode rfl fun hF => ?_
  show gw prog B_ref20_Encode _ (tl 92 _) H n
  have hr := hB.r
  have hok := Enc.ok hce
  have hr0 : 0 < e.r := by have := hok.2.1.1; omega
  have hw0 := hB.w 0 hr0
  have hst := stE_ok hz
  have hfd : fgv e.p e.m (isl e.l e.mo) = fd M := Des.fd hd
  have sMul : ∀ (H3 : Heap) (n3 : Nat) (x y : Int), Spec prog fid_ref04_Mul [fgv e.p e.m (isl e.l e.mo), .int .i64 x, .int .i64 y] H3 n3 (.int .i64 (cd (ein M x * ein M y))) H3 n3 := fun H3 n3 x y => by rw [hfd]; exact sp_ref04_Mul h.fc x y
  have sAdd : ∀ (H3 : Heap) (n3 : Nat) (x y : Int), Spec prog fid_ref04_Add [fgv e.p e.m (isl e.l e.mo), .int .i64 x, .int .i64 y] H3 n3 (.int .i64 (cd (ein M x + ein M y))) H3 n3 := fun H3 n3 x y => by rw [hfd]; exact sp_ref04_Add h.fc x y
  have hz1 : (0 : Int) < (e.r : Int) := by omega
  have hz3 : (0 : Int).toNat = 0 := rfl
  have hz4 : (0 : Int) ≤ 0 := Int.le_refl 0
  simp -implicitDefEqProofs only [B_ref20_Encode, go_sem, Nat.reduceLT, Nat.reduceBEq, Nat.reduceAdd, Nat.reduceEqDiff, Nat.reduceLeDiff, Nat.reduceSub, Nat.reduceMul]
  refine loop_rule (fun (t : Nat) E H' n' => ∃ g bs, n + 1 ≤ n' ∧ H' n = some e.cs ∧ (∀ b, b < n → H' b = H b) ∧ Sl H' (n + 1) n' g t (fun u => .own (bs u) 0 (e.w 0)) ∧ (t = 0 → g = .nil) ∧ (∀ u, u < t → n + 1 ≤ bs u ∧ bs u < n' ∧ ¬ Own g (bs u) ∧ H' (bs u) = some (tab (e.w 0) (it fun j => (cn (e.so M (e.S (qn M : Nat) f u) (f u) e.r 0 j) : Nat)))) ∧ E 1 = msg T l f ∧ E 2 = .ptr n 0 ∧ E 5 = g ∧ E 6 = .int .i64 (t : Nat) ∧ t ≤ T) (fun t => T - t) 0 ⟨.nil, fun _ => 0, by omega, by simp -implicitDefEqProofs only [go_sem, Nat.reduceLT, Nat.reduceBEq, Nat.reduceAdd, Nat.reduceEqDiff, Nat.reduceLeDiff, Nat.reduceSub, Nat.reduceMul], fun b hb => upd_ne _ _ (by omega), .nil, fun _ => rfl, fun u hu => by omega, rfl, rfl, rfl, rfl, by omega⟩ ?_
  rintro t E H' n' ⟨g, bs, hn, h0, ho, sl, hg0, hrows, e1, e2, e5, e6, ht⟩
  simp -implicitDefEqProofs only [go_sem, Nat.reduceLT, Nat.reduceBEq, Nat.reduceAdd, Nat.reduceEqDiff, Nat.reduceLeDiff, Nat.reduceSub, Nat.reduceMul, e1, e6]
  refine c_split (fun hc => ?_) (fun hc => ?_)
  · have htN : t < T := by omega
    have hwt := wrap64 (x := (t : Int) + 1) (by omega)
    have f0 : (n = n') = False := eq_false (by omega)
    simp -implicitDefEqProofs only [go_sem, Nat.reduceLT, Nat.reduceBEq, Nat.reduceAdd, Nat.reduceEqDiff, Nat.reduceLeDiff, Nat.reduceSub, Nat.reduceMul, e2, h0, hz1, hr0, hz3, hz4, gat_tab, e.rw_at]
    repeat with_reducible refine And.intro (by omega) ?_
    refine loop_rule (fun (j : Nat) E H1 n1 => n1 = n' + 1 ∧ H1 n' = some (tab (e.w 0) (it (mix (fun j => (cn (e.ro M f t j e.r 0) : Nat)) (fun _ => 0) j))) ∧ (∀ c, c ≠ n' → H1 c = H' c) ∧ E 1 = msg T l f ∧ E 2 = .ptr n 0 ∧ E 5 = g ∧ E 6 = .int .i64 (t : Nat) ∧ E 7 = .own n' 0 (e.w 0) ∧ E 8 = .int .i64 (j : Nat) ∧ j ≤ e.w 0) (fun j => e.w 0 - j) 0 ?_ ?_
    · refine ⟨rfl, ?_, fun c hc => upd_ne _ _ hc, by simp -implicitDefEqProofs only [go_sem, Nat.reduceLT, Nat.reduceBEq, Nat.reduceAdd, Nat.reduceEqDiff, Nat.reduceLeDiff, Nat.reduceSub, Nat.reduceMul, e1], by simp -implicitDefEqProofs only [go_sem, Nat.reduceLT, Nat.reduceBEq, Nat.reduceAdd, Nat.reduceEqDiff, Nat.reduceLeDiff, Nat.reduceSub, Nat.reduceMul, e2], by simp -implicitDefEqProofs only [go_sem, Nat.reduceLT, Nat.reduceBEq, Nat.reduceAdd, Nat.reduceEqDiff, Nat.reduceLeDiff, Nat.reduceSub, Nat.reduceMul, e5], by simp -implicitDefEqProofs only [go_sem, Nat.reduceLT, Nat.reduceBEq, Nat.reduceAdd, Nat.reduceEqDiff, Nat.reduceLeDiff, Nat.reduceSub, Nat.reduceMul, e6], by simp -implicitDefEqProofs only [go_sem, Nat.reduceLT, Nat.reduceBEq, Nat.reduceAdd, Nat.reduceEqDiff, Nat.reduceLeDiff, Nat.reduceSub, Nat.reduceMul], rfl, by omega⟩
      simp -implicitDefEqProofs only [go_sem, Nat.reduceLT, Nat.reduceBEq, Nat.reduceAdd, Nat.reduceEqDiff, Nat.reduceLeDiff, Nat.reduceSub, Nat.reduceMul, tab_rep, mix_zero]; rfl
    clear e1 e2 e5 e6 E
    rintro j E H1 n1 ⟨rfl, hrow, hk, e1, e2, e5, e6, e7, e8, hj⟩
    simp -implicitDefEqProofs only [go_sem, Nat.reduceLT, Nat.reduceBEq, Nat.reduceAdd, Nat.reduceEqDiff, Nat.reduceLeDiff, Nat.reduceSub, Nat.reduceMul, e7, e8]
    refine c_split (fun hcj => ?_) (fun hcj => ?_)
    · have hjN : j < e.w 0 := by omega
      have hjI : ((j : Nat) : Int) < ((e.w 0 : Nat) : Int) := hcj
      have hwj := wrap64 (x := (j : Int) + 1) (by omega)
      simp -implicitDefEqProofs only [go_sem, Nat.reduceLT, Nat.reduceBEq, Nat.reduceAdd, Nat.reduceEqDiff, Nat.reduceLeDiff, Nat.reduceSub, Nat.reduceMul]
      refine loop_rule (fun (i : Nat) E H2 n2 => n2 = n' + 1 ∧ H2 n' = some (tab (e.w 0) (it (upf (mix (fun j => (cn (e.ro M f t j e.r 0) : Nat)) (fun _ => 0) j) j (cn (e.ro M f t j i 0) : Nat)))) ∧ (∀ c, c ≠ n' → H2 c = H' c) ∧ E 1 = msg T l f ∧ E 2 = .ptr n 0 ∧ E 5 = g ∧ E 6 = .int .i64 (t : Nat) ∧ E 7 = .own n' 0 (e.w 0) ∧ E 8 = .int .i64 (j : Nat) ∧ E 9 = .int .i64 (i : Nat) ∧ i ≤ e.r) (fun i => e.r - i) 0 ?_ ?_
      · refine ⟨rfl, ?_, hk, by simp -implicitDefEqProofs only [go_sem, Nat.reduceLT, Nat.reduceBEq, Nat.reduceAdd, Nat.reduceEqDiff, Nat.reduceLeDiff, Nat.reduceSub, Nat.reduceMul, e1], by simp -implicitDefEqProofs only [go_sem, Nat.reduceLT, Nat.reduceBEq, Nat.reduceAdd, Nat.reduceEqDiff, Nat.reduceLeDiff, Nat.reduceSub, Nat.reduceMul, e2], by simp -implicitDefEqProofs only [go_sem, Nat.reduceLT, Nat.reduceBEq, Nat.reduceAdd, Nat.reduceEqDiff, Nat.reduceLeDiff, Nat.reduceSub, Nat.reduceMul, e5], by simp -implicitDefEqProofs only [go_sem, Nat.reduceLT, Nat.reduceBEq, Nat.reduceAdd, Nat.reduceEqDiff, Nat.reduceLeDiff, Nat.reduceSub, Nat.reduceMul, e6], by simp -implicitDefEqProofs only [go_sem, Nat.reduceLT, Nat.reduceBEq, Nat.reduceAdd, Nat.reduceEqDiff, Nat.reduceLeDiff, Nat.reduceSub, Nat.reduceMul, e7], by simp -implicitDefEqProofs only [go_sem, Nat.reduceLT, Nat.reduceBEq, Nat.reduceAdd, Nat.reduceEqDiff, Nat.reduceLeDiff, Nat.reduceSub, Nat.reduceMul, e8], rfl, by omega⟩
        rw [hrow]
        refine congrArg some (tab_congr fun u hu => congrArg (GV.int .i64) ?_)
        by_cases eu : u = j
        · subst eu
          rw [upf_same, mix_at, e.ro_zero, cn_zero]; rfl
        · rw [upf_ne _ _ eu]
      clear hrow hk e1 e2 e5 e6 e7 e8 E H1
      rintro i E H2 n2 ⟨rfl, hrow, hk, e1, e2, e5, e6, e7, e8, e9, hi⟩
      have h0' : H2 n = some e.cs := by rw [hk n (by omega)]; exact h0
      simp -implicitDefEqProofs only [go_sem, Nat.reduceLT, Nat.reduceBEq, Nat.reduceAdd, Nat.reduceEqDiff, Nat.reduceLeDiff, Nat.reduceSub, Nat.reduceMul, e2, e9, h0']
      refine c_split (fun hci => ?_) (fun hci => ?_)
      · have hiN : i < e.r := by omega
        have hiI : ((i : Nat) : Int) < ((e.r : Nat) : Int) := hci
        have hwi := wrap64 (x := (i : Int) + 1) (by omega)
        have hwN : e.w i = e.w 0 := hok.2.1.2.2.2 i hiN
        have hnij := hB.n i j hiN (by omega)
        simp -implicitDefEqProofs only [go_sem, Nat.reduceLT, Nat.reduceBEq, Nat.reduceAdd, Nat.reduceEqDiff, Nat.reduceLeDiff, Nat.reduceSub, Nat.reduceMul]
        refine loop_rule (fun (d : Nat) E H3 n3 => n3 = n' + 1 ∧ H3 n' = some (tab (e.w 0) (it (upf (mix (fun j => (cn (e.ro M f t j e.r 0) : Nat)) (fun _ => 0) j) j (cn (e.ro M f t j i d) : Nat)))) ∧ (∀ c, c ≠ n' → H3 c = H' c) ∧ E 1 = msg T l f ∧ E 2 = .ptr n 0 ∧ E 5 = g ∧ E 6 = .int .i64 (t : Nat) ∧ E 7 = .own n' 0 (e.w 0) ∧ E 8 = .int .i64 (j : Nat) ∧ E 9 = .int .i64 (i : Nat) ∧ E 10 = .int .i64 (d : Nat) ∧ d ≤ min (t + 1) (e.n i j)) (fun d => min (t + 1) (e.n i j) - d) 0 ⟨rfl, hrow, hk, by simp -implicitDefEqProofs only [go_sem, Nat.reduceLT, Nat.reduceBEq, Nat.reduceAdd, Nat.reduceEqDiff, Nat.reduceLeDiff, Nat.reduceSub, Nat.reduceMul, e1], by simp -implicitDefEqProofs only [go_sem, Nat.reduceLT, Nat.reduceBEq, Nat.reduceAdd, Nat.reduceEqDiff, Nat.reduceLeDiff, Nat.reduceSub, Nat.reduceMul, e2], by simp -implicitDefEqProofs only [go_sem, Nat.reduceLT, Nat.reduceBEq, Nat.reduceAdd, Nat.reduceEqDiff, Nat.reduceLeDiff, Nat.reduceSub, Nat.reduceMul, e5], by simp -implicitDefEqProofs only [go_sem, Nat.reduceLT, Nat.reduceBEq, Nat.reduceAdd, Nat.reduceEqDiff, Nat.reduceLeDiff, Nat.reduceSub, Nat.reduceMul, e6], by simp -implicitDefEqProofs only [go_sem, Nat.reduceLT, Nat.reduceBEq, Nat.reduceAdd, Nat.reduceEqDiff, Nat.reduceLeDiff, Nat.reduceSub, Nat.reduceMul, e7], by simp -implicitDefEqProofs only [go_sem, Nat.reduceLT, Nat.reduceBEq, Nat.reduceAdd, Nat.reduceEqDiff, Nat.reduceLeDiff, Nat.reduceSub, Nat.reduceMul, e8], by simp -implicitDefEqProofs only [go_sem, Nat.reduceLT, Nat.reduceBEq, Nat.reduceAdd, Nat.reduceEqDiff, Nat.reduceLeDiff, Nat.reduceSub, Nat.reduceMul, e9], rfl, by omega⟩ ?_
        clear hrow hk h0' e1 e2 e5 e6 e7 e8 e9 E H2
        rintro d E H3 n3 ⟨rfl, hrow, hk, e1, e2, e5, e6, e7, e8, e9, e10, hdd⟩
        have h0' : H3 n = some e.cs := by rw [hk n (by omega)]; exact h0
        by_cases hcd : d < min (t + 1) (e.n i j)
        · have hdt : ((d : Nat) : Int) ≤ ((t : Nat) : Int) := by omega
          have hdn : ((d : Nat) : Int) < ((e.n i j : Nat) : Int) := by omega
          have hdN : d < e.n i j := by omega
          have htd : t - d < T := by omega
          have htdI : ((t - d : Nat) : Int) < ((T : Nat) : Int) := by omega
          have htd0 := Int.natCast_nonneg (t - d)
          have hws : IntKind.i64.wrap (((t : Nat) : Int) - ((d : Nat) : Int)) = ((t - d : Nat) : Int) := (wrap64 (by omega)).trans (by omega)
          have hlr := (hst (t - d) htd).1
          have hil : i < l (t - d) := by omega
          have hilI : ((i : Nat) : Int) < ((l (t - d) : Nat) : Int) := by omega
          have hwd := wrap64 (x := (d : Int) + 1) (by omega)
          have f1 : n < n' + 1 := by omega
          have f2 : n' < n' + 1 := by omega
          have hat : upf (mix (fun j => ((cn (e.ro M f t j e.r 0) : Nat) : Int)) (fun _ => 0) j) j ((cn (e.ro M f t j i d) : Nat) : Int) j = ((cn (e.ro M f t j i d) : Nat) : Int) := upf_same _ _ _
          simp -implicitDefEqProofs only [go_sem, Nat.reduceLT, Nat.reduceBEq, Nat.reduceAdd, Nat.reduceEqDiff, Nat.reduceLeDiff, Nat.reduceSub, Nat.reduceMul, e1, e2, e6, e7, e8, e9, e10, h0', hrow, hiI, hiN, hjI, hjN, hdt, hdn, hdN, gat_tab, e.rw_at, e.pl_at, hwN, msr_at, hws, htd, htdI, htd0, hil, hilI, f1, f2, hat]
          refine mcall_of (.int _ _) (fun H4 n4 _ _ => sMul H4 n4 _ _) ?_
          simp -implicitDefEqProofs only [go_sem, Nat.reduceLT, Nat.reduceBEq, Nat.reduceAdd, Nat.reduceEqDiff, Nat.reduceLeDiff, Nat.reduceSub, Nat.reduceMul]
          refine mcall_of (.int _ _) (fun H4 n4 _ _ => sAdd H4 n4 _ _) ?_
          have hval : cd (ein M ((cn (e.ro M f t j i d) : Nat) : Int) + ein M (cd (ein M (e.c i j d) * ein M (f (t - d) i)))) = ((cn (e.ro M f t j i (d + 1)) : Nat) : Int) := by
            rw [cd_cn (ein M (e.c i j d) * ein M (f (t - d) i)), ein_cn h.fc, ein_cn h.fc, cd_cn, e.ro_step]; rfl
          simp -implicitDefEqProofs only [go_sem, Nat.reduceLT, Nat.reduceBEq, Nat.reduceAdd, Nat.reduceEqDiff, Nat.reduceLeDiff, Nat.reduceSub, Nat.reduceMul, e10, hrow, hjI, hjN, hwd, hval, upf_upf]
          repeat with_reducible refine And.intro (by omega) ?_
          exact l_n ⟨d + 1, by omega, rfl, by simp -implicitDefEqProofs only [go_sem, Nat.reduceLT, Nat.reduceBEq, Nat.reduceAdd, Nat.reduceEqDiff, Nat.reduceLeDiff, Nat.reduceSub, Nat.reduceMul], fun c hc => by rw [upd_ne _ _ hc]; exact hk c hc, by simp -implicitDefEqProofs only [go_sem, Nat.reduceLT, Nat.reduceBEq, Nat.reduceAdd, Nat.reduceEqDiff, Nat.reduceLeDiff, Nat.reduceSub, Nat.reduceMul, e1], by simp -implicitDefEqProofs only [go_sem, Nat.reduceLT, Nat.reduceBEq, Nat.reduceAdd, Nat.reduceEqDiff, Nat.reduceLeDiff, Nat.reduceSub, Nat.reduceMul, e2], by simp -implicitDefEqProofs only [go_sem, Nat.reduceLT, Nat.reduceBEq, Nat.reduceAdd, Nat.reduceEqDiff, Nat.reduceLeDiff, Nat.reduceSub, Nat.reduceMul, e5], by simp -implicitDefEqProofs only [go_sem, Nat.reduceLT, Nat.reduceBEq, Nat.reduceAdd, Nat.reduceEqDiff, Nat.reduceLeDiff, Nat.reduceSub, Nat.reduceMul, e6], by simp -implicitDefEqProofs only [go_sem, Nat.reduceLT, Nat.reduceBEq, Nat.reduceAdd, Nat.reduceEqDiff, Nat.reduceLeDiff, Nat.reduceSub, Nat.reduceMul, e7], by simp -implicitDefEqProofs only [go_sem, Nat.reduceLT, Nat.reduceBEq, Nat.reduceAdd, Nat.reduceEqDiff, Nat.reduceLeDiff, Nat.reduceSub, Nat.reduceMul, e8], by simp -implicitDefEqProofs only [go_sem, Nat.reduceLT, Nat.reduceBEq, Nat.reduceAdd, Nat.reduceEqDiff, Nat.reduceLeDiff, Nat.reduceSub, Nat.reduceMul, e9], by simp -implicitDefEqProofs only [go_sem, Nat.reduceLT, Nat.reduceBEq, Nat.reduceAdd, Nat.reduceEqDiff, Nat.reduceLeDiff, Nat.reduceSub, Nat.reduceMul]; rfl, by omega⟩
        · have hdm : d = min (t + 1) (e.n i j) := by omega
          have hrow' : H3 n' = some (tab (e.w 0) (it (upf (mix (fun j => (cn (e.ro M f t j e.r 0) : Nat)) (fun _ => 0) j) j (cn (e.ro M f t j (i + 1) 0) : Nat)))) := by
            rw [e.ro_row, ← hdm]; exact hrow
          by_cases hdt : ((d : Nat) : Int) ≤ ((t : Nat) : Int)
          · have hdn : ¬ ((d : Nat) : Int) < ((e.n i j : Nat) : Int) := by omega
            simp -implicitDefEqProofs only [go_sem, Nat.reduceLT, Nat.reduceBEq, Nat.reduceAdd, Nat.reduceEqDiff, Nat.reduceLeDiff, Nat.reduceSub, Nat.reduceMul, e2, e6, e8, e9, e10, h0', hiI, hiN, hjI, hjN, hdt, hdn, gat_tab, e.rw_at, e.pl_at, hwN, hwi]
            exact l_n ⟨i + 1, by omega, rfl, hrow', hk, by simp -implicitDefEqProofs only [go_sem, Nat.reduceLT, Nat.reduceBEq, Nat.reduceAdd, Nat.reduceEqDiff, Nat.reduceLeDiff, Nat.reduceSub, Nat.reduceMul, e1], by simp -implicitDefEqProofs only [go_sem, Nat.reduceLT, Nat.reduceBEq, Nat.reduceAdd, Nat.reduceEqDiff, Nat.reduceLeDiff, Nat.reduceSub, Nat.reduceMul, e2], by simp -implicitDefEqProofs only [go_sem, Nat.reduceLT, Nat.reduceBEq, Nat.reduceAdd, Nat.reduceEqDiff, Nat.reduceLeDiff, Nat.reduceSub, Nat.reduceMul, e5], by simp -implicitDefEqProofs only [go_sem, Nat.reduceLT, Nat.reduceBEq, Nat.reduceAdd, Nat.reduceEqDiff, Nat.reduceLeDiff, Nat.reduceSub, Nat.reduceMul, e6], by simp -implicitDefEqProofs only [go_sem, Nat.reduceLT, Nat.reduceBEq, Nat.reduceAdd, Nat.reduceEqDiff, Nat.reduceLeDiff, Nat.reduceSub, Nat.reduceMul, e7], by simp -implicitDefEqProofs only [go_sem, Nat.reduceLT, Nat.reduceBEq, Nat.reduceAdd, Nat.reduceEqDiff, Nat.reduceLeDiff, Nat.reduceSub, Nat.reduceMul, e8], by simp -implicitDefEqProofs only [go_sem, Nat.reduceLT, Nat.reduceBEq, Nat.reduceAdd, Nat.reduceEqDiff, Nat.reduceLeDiff, Nat.reduceSub, Nat.reduceMul]; rfl, by omega⟩
          · simp -implicitDefEqProofs only [go_sem, Nat.reduceLT, Nat.reduceBEq, Nat.reduceAdd, Nat.reduceEqDiff, Nat.reduceLeDiff, Nat.reduceSub, Nat.reduceMul, e6, e9, e10, hdt, hwi]
            exact l_n ⟨i + 1, by omega, rfl, hrow', hk, by simp -implicitDefEqProofs only [go_sem, Nat.reduceLT, Nat.reduceBEq, Nat.reduceAdd, Nat.reduceEqDiff, Nat.reduceLeDiff, Nat.reduceSub, Nat.reduceMul, e1], by simp -implicitDefEqProofs only [go_sem, Nat.reduceLT, Nat.reduceBEq, Nat.reduceAdd, Nat.reduceEqDiff, Nat.reduceLeDiff, Nat.reduceSub, Nat.reduceMul, e2], by simp -implicitDefEqProofs only [go_sem, Nat.reduceLT, Nat.reduceBEq, Nat.reduceAdd, Nat.reduceEqDiff, Nat.reduceLeDiff, Nat.reduceSub, Nat.reduceMul, e5], by simp -implicitDefEqProofs only [go_sem, Nat.reduceLT, Nat.reduceBEq, Nat.reduceAdd, Nat.reduceEqDiff, Nat.reduceLeDiff, Nat.reduceSub, Nat.reduceMul, e6], by simp -implicitDefEqProofs only [go_sem, Nat.reduceLT, Nat.reduceBEq, Nat.reduceAdd, Nat.reduceEqDiff, Nat.reduceLeDiff, Nat.reduceSub, Nat.reduceMul, e7], by simp -implicitDefEqProofs only [go_sem, Nat.reduceLT, Nat.reduceBEq, Nat.reduceAdd, Nat.reduceEqDiff, Nat.reduceLeDiff, Nat.reduceSub, Nat.reduceMul, e8], by simp -implicitDefEqProofs only [go_sem, Nat.reduceLT, Nat.reduceBEq, Nat.reduceAdd, Nat.reduceEqDiff, Nat.reduceLeDiff, Nat.reduceSub, Nat.reduceMul]; rfl, by omega⟩
      · have hir : i = e.r := by omega
        subst hir
        rw [mix_step (fun j => ((cn (e.ro M f t j e.r 0) : Nat) : Int)) (fun _ => 0) j] at hrow
        simp -implicitDefEqProofs only [go_sem, Nat.reduceLT, Nat.reduceBEq, Nat.reduceAdd, Nat.reduceEqDiff, Nat.reduceLeDiff, Nat.reduceSub, Nat.reduceMul, e8, hwj]
        exact l_n ⟨j + 1, by omega, rfl, hrow, hk, by simp -implicitDefEqProofs only [go_sem, Nat.reduceLT, Nat.reduceBEq, Nat.reduceAdd, Nat.reduceEqDiff, Nat.reduceLeDiff, Nat.reduceSub, Nat.reduceMul, e1], by simp -implicitDefEqProofs only [go_sem, Nat.reduceLT, Nat.reduceBEq, Nat.reduceAdd, Nat.reduceEqDiff, Nat.reduceLeDiff, Nat.reduceSub, Nat.reduceMul, e2], by simp -implicitDefEqProofs only [go_sem, Nat.reduceLT, Nat.reduceBEq, Nat.reduceAdd, Nat.reduceEqDiff, Nat.reduceLeDiff, Nat.reduceSub, Nat.reduceMul, e5], by simp -implicitDefEqProofs only [go_sem, Nat.reduceLT, Nat.reduceBEq, Nat.reduceAdd, Nat.reduceEqDiff, Nat.reduceLeDiff, Nat.reduceSub, Nat.reduceMul, e6], by simp -implicitDefEqProofs only [go_sem, Nat.reduceLT, Nat.reduceBEq, Nat.reduceAdd, Nat.reduceEqDiff, Nat.reduceLeDiff, Nat.reduceSub, Nat.reduceMul, e7], by simp -implicitDefEqProofs only [go_sem, Nat.reduceLT, Nat.reduceBEq, Nat.reduceAdd, Nat.reduceEqDiff, Nat.reduceLeDiff, Nat.reduceSub, Nat.reduceMul]; rfl, by omega⟩
    · have hjw : j = e.w 0 := by omega
      subst hjw
      have hrow : H1 n' = some (tab (e.w 0) (it fun j => (cn (e.so M (e.S (qn M : Nat) f t) (f t) e.r 0 j) : Nat))) := by
        rw [hrow]
        refine congrArg some (tab_congr fun u hu => congrArg (GV.int .i64) ?_)
        rw [mix_lt _ _ hu]
        show ((cn (e.ro M f t u e.r 0) : Nat) : Int) = _
        rw [e.ro_so h.fc f t u (fun i hi => by rw [hok.2.1.2.2.2 i hi]; exact hu) fun v hv i hi => (hst v (by omega)).2 i hi]
      have sl0 : Sl H1 (n + 1) (n' + 1) g t (fun u => .own (upf bs t n' u) 0 (e.w 0)) := (sl.keep (fun c hc => hk c (by have := sl.lt hc; omega)) (by omega)).congr fun u hu => by rw [upf_ne _ _ (by omega)]
      simp -implicitDefEqProofs only [go_sem, Nat.reduceLT, Nat.reduceBEq, Nat.reduceAdd, Nat.reduceEqDiff, Nat.reduceLeDiff, Nat.reduceSub, Nat.reduceMul, e5, e7]
      have sl' : Sl (upd H1 (n' + 1) (some [GV.own n' 0 (e.w 0)])) (n + 1) (n' + 2) g t (fun u => .own (upf bs t n' u) 0 (e.w 0)) := sl0.keep (fun c hc => upd_ne _ _ (by have := sl.lt hc; omega)) (by omega)
      refine app_one sl' (by rw [upf_same]) rfl (by omega) fun H2 k1 k2 => ?_
      have keep : ∀ c, c < n' + 1 → ¬ Own g c → H2 c = H1 c := fun c hc hg => by rw [k2 c (by omega) hg, upd_ne _ _ (by omega)]
      simp -implicitDefEqProofs only [go_sem, Nat.reduceLT, Nat.reduceBEq, Nat.reduceAdd, Nat.reduceEqDiff, Nat.reduceLeDiff, Nat.reduceSub, Nat.reduceMul, e6, hwt]
      refine l_n ⟨t + 1, by omega, .own (n' + 2) 0 (t + 1), upf bs t n', by omega, ?_, fun b hb => ?_, .inr ⟨n' + 2, by omega, by omega, rfl, k1⟩, fun h => by omega, fun u hu => ?_, by simp -implicitDefEqProofs only [go_sem, Nat.reduceLT, Nat.reduceBEq, Nat.reduceAdd, Nat.reduceEqDiff, Nat.reduceLeDiff, Nat.reduceSub, Nat.reduceMul, e1], by simp -implicitDefEqProofs only [go_sem, Nat.reduceLT, Nat.reduceBEq, Nat.reduceAdd, Nat.reduceEqDiff, Nat.reduceLeDiff, Nat.reduceSub, Nat.reduceMul, e2], by simp -implicitDefEqProofs only [go_sem, Nat.reduceLT, Nat.reduceBEq, Nat.reduceAdd, Nat.reduceEqDiff, Nat.reduceLeDiff, Nat.reduceSub, Nat.reduceMul], by simp -implicitDefEqProofs only [go_sem, Nat.reduceLT, Nat.reduceBEq, Nat.reduceAdd, Nat.reduceEqDiff, Nat.reduceLeDiff, Nat.reduceSub, Nat.reduceMul]; rfl, by omega⟩
      · rw [keep n (by omega) fun hg => by have := sl.lt hg; omega, hk n (by omega)]; exact h0
      · rw [keep b (by omega) fun hg => by have := sl.lt hg; omega, hk b (by omega)]; exact ho b hb
      · by_cases eu : u = t
        · subst eu
          rw [upf_same]
          refine ⟨by omega, by omega, fun hg => by rw [own_own] at hg; omega, ?_⟩
          rw [keep n' (by omega) fun hg => by have := sl.lt hg; omega]; exact hrow
        · rw [upf_ne _ _ eu]
          obtain ⟨r1, r2, r3, r4⟩ := hrows u (by omega)
          refine ⟨r1, by omega, fun hg => by rw [own_own] at hg; omega, ?_⟩
          rw [keep _ (by omega) r3, hk _ (by omega)]; exact r4
  · have : t = T := by omega
    subst this
    simp -implicitDefEqProofs only [go_sem, Nat.reduceLT, Nat.reduceBEq, Nat.reduceAdd, Nat.reduceEqDiff, Nat.reduceLeDiff, Nat.reduceSub, Nat.reduceMul, e5]
    refine fin_ret rfl (by decide) ?_ ho
    simp -implicitDefEqProofs only [go_sem, Nat.reduceLT, Nat.reduceBEq, Nat.reduceAdd, Nat.reduceEqDiff, Nat.reduceLeDiff, Nat.reduceSub, Nat.reduceMul]
    by_cases h0 : t = 0
    · rw [hg0 h0, Enc.oval, if_pos h0]; exact .nil
    · obtain ⟨b, b1, b2, rfl, b3⟩ := sl.own (by omega)
      rw [Enc.oval, if_neg h0]
      refine .ownf b 0 t _ _ b3 (by omega) (fun i a c => by omega) (by rw [tab_len]; omega) tab_len fun u hu => ?_
      rw [Nat.zero_add, gat_tab hu, gat_tab hu]
      obtain ⟨r1, r2, r3, r4⟩ := hrows u hu
      exact fz_own_isl r4 (by omega)
end

theorem sp_SameRows {H : Heap} {n : Nat} (T : Nat) (l : Nat → Nat) (f : Nat → Nat → Int) (hT : T ≤ 1000000) (hl : ∀ t, t < T → l t ≤ 1000000) : Spec prog fid_ref09_SameRows [if T = 0 then .nil else msg T l f, if T = 0 then .nil else msg T l f] H n (.bool true) H n := by
  refine spec_ends hmix ok_ref09_SameRows rfl fun hF => ?_
  show gw prog B_ref09_SameRows _ (tl 27 _) H n
  by_cases h0 : T = 0
  · rw [if_pos h0]
    have h00 : ¬ (0 : Int) < 0 := by omega
    simp -implicitDefEqProofs only [B_ref09_SameRows, go_sem, Nat.reduceLT, Nat.reduceBEq, Nat.reduceAdd, Nat.reduceEqDiff, Nat.reduceLeDiff, Nat.reduceSub, Nat.reduceMul]
    refine loop_rule (fun (t : Nat) E H' n' => H' = H ∧ n' = n ∧ E 0 = .nil ∧ E 5 = .int .i64 0) (fun t => 0) 0 ⟨rfl, rfl, rfl, rfl⟩ ?_
    rintro t E H' n' ⟨rfl, rfl, e0, e5⟩
    simp -implicitDefEqProofs only [go_sem, Nat.reduceLT, Nat.reduceBEq, Nat.reduceAdd, Nat.reduceEqDiff, Nat.reduceLeDiff, Nat.reduceSub, Nat.reduceMul, e0, e5, Int.lt_irrefl]
    exact fin_ret rfl (by decide) (fz_bool rfl) fun _ _ => rfl
  · rw [if_neg h0]
    simp -implicitDefEqProofs only [B_ref09_SameRows, go_sem, Nat.reduceLT, Nat.reduceBEq, Nat.reduceAdd, Nat.reduceEqDiff, Nat.reduceLeDiff, Nat.reduceSub, Nat.reduceMul]
    refine loop_rule (fun (t : Nat) E H' n' => H' = H ∧ n' = n ∧ E 0 = msg T l f ∧ E 1 = msg T l f ∧ E 5 = .int .i64 (t : Nat) ∧ t ≤ T) (fun t => T - t) 0 ⟨rfl, rfl, rfl, rfl, rfl, by omega⟩ ?_
    rintro t E H' n' ⟨rfl, rfl, e0, e1, e5, ht⟩
    simp -implicitDefEqProofs only [go_sem, Nat.reduceLT, Nat.reduceBEq, Nat.reduceAdd, Nat.reduceEqDiff, Nat.reduceLeDiff, Nat.reduceSub, Nat.reduceMul, e0, e5]
    refine c_split (fun hc => ?_) (fun hc => ?_)
    · have htN : t < T := by omega
      have hwt := wrap64 (x := (t : Int) + 1) (by omega)
      have hS : decide (l t = l t ∧ ∀ i, i < l t → f t i = f t i) = true := decide_eq_true ⟨rfl, fun _ _ => rfl⟩
      simp -implicitDefEqProofs only [go_sem, Nat.reduceLT, Nat.reduceBEq, Nat.reduceAdd, Nat.reduceEqDiff, Nat.reduceLeDiff, Nat.reduceSub, Nat.reduceMul, e0, e1, e5, hc, htN, gat_tab, msr_at]
      refine call_of (sp_SameInts (l t) (l t) (f t) (f t) (hl t htN)) ?_
      rw [hS]
      simp -implicitDefEqProofs only [go_sem, Nat.reduceLT, Nat.reduceBEq, Nat.reduceAdd, Nat.reduceEqDiff, Nat.reduceLeDiff, Nat.reduceSub, Nat.reduceMul, e5, hwt]
      exact l_n ⟨t + 1, by omega, rfl, rfl, by simp -implicitDefEqProofs only [go_sem, Nat.reduceLT, Nat.reduceBEq, Nat.reduceAdd, Nat.reduceEqDiff, Nat.reduceLeDiff, Nat.reduceSub, Nat.reduceMul, e0], by simp -implicitDefEqProofs only [go_sem, Nat.reduceLT, Nat.reduceBEq, Nat.reduceAdd, Nat.reduceEqDiff, Nat.reduceLeDiff, Nat.reduceSub, Nat.reduceMul, e1], by simp -implicitDefEqProofs only [go_sem, Nat.reduceLT, Nat.reduceBEq, Nat.reduceAdd, Nat.reduceEqDiff, Nat.reduceLeDiff, Nat.reduceSub, Nat.reduceMul]; rfl, by omega⟩
    · simp -implicitDefEqProofs only [go_sem, Nat.reduceLT, Nat.reduceBEq, Nat.reduceAdd, Nat.reduceEqDiff, Nat.reduceLeDiff, Nat.reduceSub, Nat.reduceMul]
      exact fin_ret rfl (by decide) (fz_bool rfl) fun _ _ => rfl

theorem sp_ConvEncodes {H : Heap} {n : Nat} (e : Enc) (T : Nat) (l : Nat → Nat) (f : Nat → Nat → Int) : Spec prog fid_law20_ConvEncodes [e.gv, msg T l f] H n (.bool true) H n := by
  refine spec_ends hmix ok_law20_ConvEncodes rfl fun hF => ?_
  show gw prog B_law20_ConvEncodes _ (tl 48 _) H n
  have hu : ∀ x b, b < n → upd H n x b = H b := fun x b hb => upd_ne _ _ (by omega)
  simp -implicitDefEqProofs only [B_law20_ConvEncodes, go_sem, Nat.reduceLT, Nat.reduceBEq, Nat.reduceAdd, Nat.reduceEqDiff, Nat.reduceLeDiff, Nat.reduceSub, Nat.reduceMul]
  refine call_of (sp_few e) ?_
  by_cases hb : e.Bnd ∧ e.gs e.r ≤ 3000
  case neg =>
    simp -implicitDefEqProofs only [go_sem, Nat.reduceLT, Nat.reduceBEq, Nat.reduceAdd, Nat.reduceEqDiff, Nat.reduceLeDiff, Nat.reduceSub, Nat.reduceMul, hb]
    exact fin_ret rfl (by decide) (fz_bool rfl) (hu _)
  have hB := hb.1
  have hb' : decide (e.Bnd ∧ e.gs e.r ≤ 3000) = true := decide_eq_true hb
  rw [hb']
  by_cases hT : T ≤ 100
  case neg =>
    have hTI : (100 : Int) < (T : Nat) := by omega
    simp -implicitDefEqProofs only [go_sem, Nat.reduceLT, Nat.reduceBEq, Nat.reduceAdd, Nat.reduceEqDiff, Nat.reduceLeDiff, Nat.reduceSub, Nat.reduceMul, hTI]
    exact fin_ret rfl (by decide) (fz_bool rfl) (hu _)
  have hTI : ¬ (100 : Int) < (T : Nat) := by omega
  simp -implicitDefEqProofs only [go_sem, Nat.reduceLT, Nat.reduceBEq, Nat.reduceAdd, Nat.reduceEqDiff, Nat.reduceLeDiff, Nat.reduceSub, Nat.reduceMul, hTI]
  rcases e.cases with ⟨k, M, h, hd⟩ | hf
  case inr =>
    refine call_of (sp_conv_Encode_fail e hf T l f) ?_
    simp -implicitDefEqProofs only [go_sem, Nat.reduceLT, Nat.reduceBEq, Nat.reduceAdd, Nat.reduceEqDiff, Nat.reduceLeDiff, Nat.reduceSub, Nat.reduceMul]
    refine call_of (sp_ref20_Check e hB) ?_
    rw [Enc.ce_fail hf]
    have h10 : ((1 : Int) = 0) = False := by simp
    simp -implicitDefEqProofs only [go_sem, Nat.reduceLT, Nat.reduceBEq, Nat.reduceAdd, Nat.reduceEqDiff, Nat.reduceLeDiff, Nat.reduceSub, Nat.reduceMul, h10]
    exact fin_ret rfl (by decide) (fz_bool rfl) (hu _)
  have hqo := hd.qo h
  refine call_of (sp_conv_Encode e hB h hd T l f (by omega)) ?_
  by_cases hce : e.ce = 0
  case neg =>
    rw [if_neg hce]
    simp -implicitDefEqProofs only [go_sem, Nat.reduceLT, Nat.reduceBEq, Nat.reduceAdd, Nat.reduceEqDiff, Nat.reduceLeDiff, Nat.reduceSub, Nat.reduceMul]
    refine call_of (sp_ref20_Check e hB) ?_
    simp -implicitDefEqProofs only [go_sem, Nat.reduceLT, Nat.reduceBEq, Nat.reduceAdd, Nat.reduceEqDiff, Nat.reduceLeDiff, Nat.reduceSub, Nat.reduceMul, hce]
    exact fin_ret rfl (by decide) (fz_bool rfl) (hu _)
  have hok := Enc.ok hce
  have hw0 := hB.w 0 (by have := hok.2.1.1; omega)
  rw [if_pos hce]
  by_cases hz : stE e.r l f (qn M : Nat) T = 0
  · rw [if_pos hz]
    simp -implicitDefEqProofs only [go_sem, Nat.reduceLT, Nat.reduceBEq, Nat.reduceAdd, Nat.reduceEqDiff, Nat.reduceLeDiff, Nat.reduceSub, Nat.reduceMul]
    refine call_of (sp_ref20_Check e hB) ?_
    rw [hce]
    simp -implicitDefEqProofs only [go_sem, Nat.reduceLT, Nat.reduceBEq, Nat.reduceAdd, Nat.reduceEqDiff, Nat.reduceLeDiff, Nat.reduceSub, Nat.reduceMul]
    refine call_of (sp_ref20_Steps e hB T l f (by omega)) ?_
    rw [hqo, hz]
    simp -implicitDefEqProofs only [go_sem, Nat.reduceLT, Nat.reduceBEq, Nat.reduceAdd, Nat.reduceEqDiff, Nat.reduceLeDiff, Nat.reduceSub, Nat.reduceMul]
    refine call_of (sp_ref20_Encode e hB h hd hce T l f (by omega) hz) ?_
    simp -implicitDefEqProofs only [go_sem, Nat.reduceLT, Nat.reduceBEq, Nat.reduceAdd, Nat.reduceEqDiff, Nat.reduceLeDiff, Nat.reduceSub, Nat.reduceMul]
    refine call_of (sp_SameRows T (fun _ => e.w 0) (fun t j => (cn (e.so M (e.S (qn M : Nat) f t) (f t) e.r 0 j) : Nat)) (by omega) fun t ht => by omega) ?_
    simp -implicitDefEqProofs only [go_sem, Nat.reduceLT, Nat.reduceBEq, Nat.reduceAdd, Nat.reduceEqDiff, Nat.reduceLeDiff, Nat.reduceSub, Nat.reduceMul]
    exact fin_ret rfl (by decide) (fz_bool rfl) (hu _)
  · rw [if_neg hz]
    simp -implicitDefEqProofs only [go_sem, Nat.reduceLT, Nat.reduceBEq, Nat.reduceAdd, Nat.reduceEqDiff, Nat.reduceLeDiff, Nat.reduceSub, Nat.reduceMul]
    refine call_of (sp_ref20_Check e hB) ?_
    rw [hce]
    simp -implicitDefEqProofs only [go_sem, Nat.reduceLT, Nat.reduceBEq, Nat.reduceAdd, Nat.reduceEqDiff, Nat.reduceLeDiff, Nat.reduceSub, Nat.reduceMul]
    refine call_of (sp_ref20_Steps e hB T l f (by omega)) ?_
    rw [hqo]
    simp -implicitDefEqProofs only [go_sem, Nat.reduceLT, Nat.reduceBEq, Nat.reduceAdd, Nat.reduceEqDiff, Nat.reduceLeDiff, Nat.reduceSub, Nat.reduceMul, hz]
    exact fin_ret rfl (by decide) (fz_bool rfl) (hu _)
end Go.Proofs.Ytdpibcniodhinaa.Gh
/- The machine step by step against messages. -/
namespace Go.Proofs.Ytdpibcniodhinaa.Gh
open Go Go.RowKit
open Alg (CR Ps Dg Zm Mn El Cg sm pw Irr Prm)
set_option linter.unusedVariables false
set_option linter.unusedSimpArgs false

theorem Enc.mem_ge (e : Enc) : ∀ w i, i < w → e.deg i ≤ e.mem w := by
  intro w
  induction w with
  | zero => intro i h; omega
  | succ w ih =>
    intro i h
    rw [Enc.mem]
    by_cases e1 : i = w
    · subst e1; omega
    · have := ih i (by omega); omega
theorem Enc.mem_le (e : Enc) (h : e.Bnd) : ∀ w, w ≤ e.r → e.mem w ≤ 40 := by
  intro w
  induction w with
  | zero => intro _; exact Nat.zero_le _
  | succ w ih => intro hw; rw [Enc.mem]; have := ih (by omega); have := e.deg_le h (i := w) (by omega); omega
theorem Enc.pos_dec (e : Enc) : ∀ w pos, pos < e.ds w → ∃ i d, i < w ∧ d < e.deg i ∧ pos = e.ds i + d := by
  intro w
  induction w with
  | zero => intro pos h; exact absurd h (Nat.not_lt_zero _)
  | succ w ih =>
    intro pos h
    have h1 : e.ds (w + 1) = e.ds w + e.deg w := rfl
    by_cases h2 : pos < e.ds w
    · obtain ⟨i, d, a, b, c⟩ := ih pos h2
      exact ⟨i, d, by omega, b, c⟩
    · exact ⟨w, pos - e.ds w, by omega, by omega, by omega⟩
theorem Enc.S_back (e : Enc) {q : Int} {f : Nat → Nat → Int} (hq : 2 ≤ q) (T : Nat) (hin : ∀ u, u < T + e.mem e.r → ∀ i, i < e.r → 0 ≤ f u i ∧ f u i < q) (hz : ∀ u, T ≤ u → u < T + e.mem e.r → ∀ i, i < e.r → f u i = 0) : e.S q f (T + e.mem e.r) = 0 := by
  have hS := e.S_in hq _ hin
  rw [← vs_dg hq (e.ds e.r) hS.1 hS.2, vs_congr q (e.ds e.r) (g := fun _ => 0) fun pos hpos => ?_, vs_zero]
  obtain ⟨i, d, h1, h2, rfl⟩ := e.pos_dec e.r pos hpos
  have hm := e.mem_ge e.r i h1
  have h3 := e.X_S hq (T + e.mem e.r) hin i (d + 1) h1 (by omega)
  rw [X, if_neg (by omega), Nat.add_sub_cancel] at h3
  rw [h3]
  by_cases h4 : d + 1 ≤ T + e.mem e.r
  · rw [if_pos h4]; exact hz _ (by omega) (by omega) i h1
  · exact if_neg h4

theorem sp_ref20_Memory {H : Heap} {n : Nat} (e : Enc) (hB : e.Bnd) : Spec prog fid_ref20_Memory [e.gv] H n (.int .i64 (e.mem e.r : Nat)) H n := by
  refine spec_ends hmix ok_ref20_Memory rfl fun hF => ?_
  show gw prog B_ref20_Memory _ (tl 18 _) H n
  have hr := hB.r
  simp -implicitDefEqProofs only [B_ref20_Memory, go_sem, Nat.reduceLT, Nat.reduceBEq, Nat.reduceAdd, Nat.reduceEqDiff, Nat.reduceLeDiff, Nat.reduceSub, Nat.reduceMul]
  refine loop_rule (fun (i : Nat) E H' n' => n' = n + 1 ∧ H' n = some e.cs ∧ (∀ b, b < n → H' b = H b) ∧ E 1 = .ptr n 0 ∧ E 3 = .int .i64 (e.mem i : Nat) ∧ E 4 = .int .i64 (i : Nat) ∧ i ≤ e.r) (fun i => e.r - i) 0 ⟨rfl, by simp -implicitDefEqProofs only [go_sem, Nat.reduceLT, Nat.reduceBEq, Nat.reduceAdd, Nat.reduceEqDiff, Nat.reduceLeDiff, Nat.reduceSub, Nat.reduceMul], fun b hb => upd_ne _ _ (by omega), rfl, rfl, rfl, by omega⟩ ?_
  rintro i E H' n' ⟨rfl, h0, ho, e1, e3, e4, hi⟩
  simp -implicitDefEqProofs only [go_sem, Nat.reduceLT, Nat.reduceBEq, Nat.reduceAdd, Nat.reduceEqDiff, Nat.reduceLeDiff, Nat.reduceSub, Nat.reduceMul, e1, e4, h0]
  refine c_split (fun hc => ?_) (fun hc => ?_)
  · have hiN : i < e.r := by omega
    have hwi := wrap64 (x := (i : Int) + 1) (by omega)
    have hmm : (max ((e.mem i : Nat) : Int) ((e.deg i : Nat) : Int)) = ((e.mem (i + 1) : Nat) : Int) := by rw [Enc.mem]; omega
    simp -implicitDefEqProofs only [go_sem, Nat.reduceLT, Nat.reduceBEq, Nat.reduceAdd, Nat.reduceEqDiff, Nat.reduceLeDiff, Nat.reduceSub, Nat.reduceMul, e1, e3, e4, h0]
    refine call_of (sp_ref20_Degree e hB i hiN) ?_
    simp -implicitDefEqProofs only [go_sem, Nat.reduceLT, Nat.reduceBEq, Nat.reduceAdd, Nat.reduceEqDiff, Nat.reduceLeDiff, Nat.reduceSub, Nat.reduceMul, e4, hmm, hwi]
    exact l_n ⟨i + 1, by omega, rfl, h0, ho, by simp -implicitDefEqProofs only [go_sem, Nat.reduceLT, Nat.reduceBEq, Nat.reduceAdd, Nat.reduceEqDiff, Nat.reduceLeDiff, Nat.reduceSub, Nat.reduceMul, e1], by simp -implicitDefEqProofs only [go_sem, Nat.reduceLT, Nat.reduceBEq, Nat.reduceAdd, Nat.reduceEqDiff, Nat.reduceLeDiff, Nat.reduceSub, Nat.reduceMul], by simp -implicitDefEqProofs only [go_sem, Nat.reduceLT, Nat.reduceBEq, Nat.reduceAdd, Nat.reduceEqDiff, Nat.reduceLeDiff, Nat.reduceSub, Nat.reduceMul]; rfl, by omega⟩
  · have : i = e.r := by omega
    subst this
    simp -implicitDefEqProofs only [go_sem, Nat.reduceLT, Nat.reduceBEq, Nat.reduceAdd, Nat.reduceEqDiff, Nat.reduceLeDiff, Nat.reduceSub, Nat.reduceMul, e3]
    refine fin_ret rfl (by decide) ?_ ho
    simp -implicitDefEqProofs only [go_sem, Nat.reduceLT, Nat.reduceBEq, Nat.reduceAdd, Nat.reduceEqDiff, Nat.reduceLeDiff, Nat.reduceSub, Nat.reduceMul]; exact fz_int rfl

def tlen (T r : Nat) (l : Nat → Nat) : Nat → Nat := fun t => if t < T then l t else r
def tval (T : Nat) (f : Nat → Nat → Int) : Nat → Nat → Int := fun t i => if t < T then f t i else 0
set_option maxHeartbeats 4000000 in
theorem sp_ref20_Terminate {H : Heap} {n : Nat} (e : Enc) (hB : e.Bnd) (T : Nat) (l : Nat → Nat) (f : Nat → Nat → Int) (hT : T ≤ 1000) : Spec prog fid_ref20_Terminate [e.gv, msg T l f] H n (msg (T + e.mem e.r) (tlen T e.r l) (tval T f)) H n := by
  refine spec_ends hmix ok_ref20_Terminate rfl fun hF => ?_
  show gw prog B_ref20_Terminate _ (tl 24 _) H n
  have hr := hB.r
  have hm := e.mem_le hB e.r (Nat.le_refl _)
  simp -implicitDefEqProofs only [B_ref20_Terminate, go_sem, Nat.reduceLT, Nat.reduceBEq, Nat.reduceAdd, Nat.reduceEqDiff, Nat.reduceLeDiff, Nat.reduceSub, Nat.reduceMul]
  repeat with_reducible refine And.intro (by omega) ?_
  refine loop_rule (fun (i : Nat) E H' n' => ∃ (b : Nat) (bs : Nat → Nat), n + 1 ≤ n' ∧ H' n = some e.cs ∧ (∀ b, b < n → H' b = H b) ∧ n + 1 ≤ b ∧ b < n' ∧ H' b = some (tab (T + i) fun u => if u < T then isl (l u) (f u) else .own (bs u) 0 e.r) ∧ (∀ u, T ≤ u → u < T + i → n + 1 ≤ bs u ∧ bs u < n' ∧ bs u ≠ b ∧ H' (bs u) = some (tab e.r (it fun _ => 0))) ∧ E 2 = .ptr n 0 ∧ E 5 = .own b 0 (T + i) ∧ E 6 = .int .i64 (i : Nat) ∧ i ≤ e.mem e.r) (fun i => e.mem e.r - i) 0 ?_ ?_
  · refine ⟨n + 1, fun _ => 0, by omega, by simp -implicitDefEqProofs only [go_sem, Nat.reduceLT, Nat.reduceBEq, Nat.reduceAdd, Nat.reduceEqDiff, Nat.reduceLeDiff, Nat.reduceSub, Nat.reduceMul], fun b hb => by rw [upd_ne _ _ (by omega), upd_ne _ _ (by omega)], by omega, by omega, ?_, fun u h1 h2 => by omega, rfl, by simp -implicitDefEqProofs only [go_sem, Nat.reduceLT, Nat.reduceBEq, Nat.reduceAdd, Nat.reduceEqDiff, Nat.reduceLeDiff, Nat.reduceSub, Nat.reduceMul], by simp -implicitDefEqProofs only [go_sem, Nat.reduceLT, Nat.reduceBEq, Nat.reduceAdd, Nat.reduceEqDiff, Nat.reduceLeDiff, Nat.reduceSub, Nat.reduceMul]; rfl, by omega⟩
    rw [upd_same]
    refine congrArg some (tab_congr fun u hu => ?_)
    rw [if_pos (by omega)]; rfl
  rintro i E H' n' ⟨b, bs, hn, h0, ho, b1, b2, hb, hrows, e2, e5, e6, hi⟩
  simp -implicitDefEqProofs only [go_sem, Nat.reduceLT, Nat.reduceBEq, Nat.reduceAdd, Nat.reduceEqDiff, Nat.reduceLeDiff, Nat.reduceSub, Nat.reduceMul, e2, e6, h0]
  refine call_of (sp_ref20_Memory e hB) ?_
  simp -implicitDefEqProofs only [go_sem, Nat.reduceLT, Nat.reduceBEq, Nat.reduceAdd, Nat.reduceEqDiff, Nat.reduceLeDiff, Nat.reduceSub, Nat.reduceMul]
  refine c_split (fun hc => ?_) (fun hc => ?_)
  · have hwi := wrap64 (x := (i : Int) + 1) (by omega)
    have f1 : (n = n') = False := eq_false (by omega)
    simp -implicitDefEqProofs only [go_sem, Nat.reduceLT, Nat.reduceBEq, Nat.reduceAdd, Nat.reduceEqDiff, Nat.reduceLeDiff, Nat.reduceSub, Nat.reduceMul, e2, e5, h0]
    repeat with_reducible refine And.intro (by omega) ?_
    have sl : Sl (upd (upd H' n' (some (List.replicate e.r (GV.int .i64 0)))) (n' + 1) (some [GV.own n' 0 e.r])) (n + 1) (n' + 2) (.own b 0 (T + i)) (T + i) (fun u => if u < T then isl (l u) (f u) else .own (upf bs (T + i) n' u) 0 e.r) := by
      refine .inr ⟨b, b1, by omega, rfl, ?_⟩
      rw [upd_ne _ _ (by omega), upd_ne _ _ (by omega), hb]
      refine congrArg some (tab_congr fun u hu => ?_)
      by_cases h1 : u < T
      · rw [if_pos h1, if_pos h1]
      · rw [if_neg h1, if_neg h1, upf_ne _ _ (by omega)]
    refine app_one sl (by rw [if_neg (by omega), upf_same]) rfl (by omega) fun H2 k1 k2 => ?_
    have keep : ∀ c, c < n' → c ≠ b → H2 c = H' c := fun c hc hcb => by rw [k2 c (by omega) (fun hg => hcb (own_own.1 hg)), upd_ne _ _ (by omega), upd_ne _ _ (by omega)]
    simp -implicitDefEqProofs only [go_sem, Nat.reduceLT, Nat.reduceBEq, Nat.reduceAdd, Nat.reduceEqDiff, Nat.reduceLeDiff, Nat.reduceSub, Nat.reduceMul, e6, hwi]
    refine l_n ⟨i + 1, by omega, n' + 2, upf bs (T + i) n', by omega, ?_, fun c hc => ?_, by omega, by omega, k1, fun u h1 h2 => ?_, by simp -implicitDefEqProofs only [go_sem, Nat.reduceLT, Nat.reduceBEq, Nat.reduceAdd, Nat.reduceEqDiff, Nat.reduceLeDiff, Nat.reduceSub, Nat.reduceMul, e2], by simp -implicitDefEqProofs only [go_sem, Nat.reduceLT, Nat.reduceBEq, Nat.reduceAdd, Nat.reduceEqDiff, Nat.reduceLeDiff, Nat.reduceSub, Nat.reduceMul]; rfl, by simp -implicitDefEqProofs only [go_sem, Nat.reduceLT, Nat.reduceBEq, Nat.reduceAdd, Nat.reduceEqDiff, Nat.reduceLeDiff, Nat.reduceSub, Nat.reduceMul]; rfl, by omega⟩
    · rw [keep n (by omega) (by omega)]; exact h0
    · rw [keep c (by omega) (by omega)]; exact ho c hc
    · by_cases eu : u = T + i
      · subst eu
        rw [upf_same]
        refine ⟨by omega, by omega, by omega, ?_⟩
        rw [k2 n' (by omega) (fun hg => by have := own_own.1 hg; omega), upd_ne _ _ (by omega), upd_same, tab_rep]; rfl
      · rw [upf_ne _ _ eu]
        obtain ⟨r1, r2, r3, r4⟩ := hrows u h1 (by omega)
        exact ⟨r1, by omega, by omega, by rw [keep _ r2 r3]; exact r4⟩
  · have : i = e.mem e.r := by omega
    subst this
    simp -implicitDefEqProofs only [go_sem, Nat.reduceLT, Nat.reduceBEq, Nat.reduceAdd, Nat.reduceEqDiff, Nat.reduceLeDiff, Nat.reduceSub, Nat.reduceMul, e5]
    refine fin_ret rfl (by decide) ?_ ho
    simp -implicitDefEqProofs only [go_sem, Nat.reduceLT, Nat.reduceBEq, Nat.reduceAdd, Nat.reduceEqDiff, Nat.reduceLeDiff, Nat.reduceSub, Nat.reduceMul]
    refine .ownf b 0 (T + e.mem e.r) _ _ hb (by omega) (fun i a c => by omega) (by rw [tab_len]; omega) tab_len fun u hu => ?_
    rw [Nat.zero_add, gat_tab hu, gat_tab hu, msr_at]
    by_cases h1 : u < T
    · rw [if_pos h1, tlen, if_pos h1]
      have : isl (l u) (tval T f u) = isl (l u) (f u) := isl_congr fun j _ => if_pos h1
      rw [this]
      exact (pl_isl _ _).tr
    · rw [if_neg h1, tlen, if_neg h1]
      have : isl e.r (tval T f u) = isl e.r (fun _ => 0) := isl_congr fun j _ => if_neg h1
      rw [this]
      obtain ⟨r1, r2, r3, r4⟩ := hrows u (by omega) hu
      exact fz_own_isl r4 (by omega)

theorem sp_SameInts' {H : Heap} {n : Nat} {x y : GV} (a : Nat) (f g : Nat → Int) (ha : a ≤ 1000000) (hx : Rd H n x a f) (hy : Rd H n y a g) (hfg : ∀ i, i < a → f i = g i) : Spec prog fid_ref09_SameInts [x, y] H n (.bool true) H n := by
  refine spec_ends hmix ok_ref09_SameInts rfl fun hF => ?_
  show gw prog B_ref09_SameInts _ (tl 26 _) H n
  have hxl := hx.len
  have hyl := hy.len
  simp -implicitDefEqProofs only [B_ref09_SameInts, go_sem, Nat.reduceLT, Nat.reduceBEq, Nat.reduceAdd, Nat.reduceEqDiff, Nat.reduceLeDiff, Nat.reduceSub, Nat.reduceMul, hxl, hyl]
  refine loop_rule (fun (i : Nat) E H' n' => H' = H ∧ n' = n ∧ E 0 = x ∧ E 1 = y ∧ E 5 = .int .i64 (i : Nat) ∧ i ≤ a) (fun i => a - i) 0 ⟨rfl, rfl, rfl, rfl, rfl, by omega⟩ ?_
  rintro i E H' n' ⟨rfl, rfl, e0, e1, e5, hi⟩
  simp -implicitDefEqProofs only [go_sem, Nat.reduceLT, Nat.reduceBEq, Nat.reduceAdd, Nat.reduceEqDiff, Nat.reduceLeDiff, Nat.reduceSub, Nat.reduceMul, e0, e5, hxl]
  refine c_split (fun hc => ?_) (fun hc => ?_)
  · have hiN : i < a := by omega
    have hwi := wrap64 (x := (i : Int) + 1) (by omega)
    obtain ⟨pa, pa1, pa2, pa3⟩ := hx.idx i hiN
    obtain ⟨pb, pb1, pb2, pb3⟩ := hy.idx i hiN
    have pa4 := fun q => pa3 q H' n' (Nat.le_refl _) fun _ _ => rfl
    have pb4 := fun q => pb3 q H' n' (Nat.le_refl _) fun _ _ => rfl
    have hfi := hfg i hiN
    simp -implicitDefEqProofs only [go_sem, Nat.reduceLT, Nat.reduceBEq, Nat.reduceAdd, Nat.reduceEqDiff, Nat.reduceLeDiff, Nat.reduceSub, Nat.reduceMul, e0, e1, e5, pa1, pb1, pa4, pb4, hfi, hwi]
    exact l_n ⟨i + 1, by omega, rfl, rfl, by simp -implicitDefEqProofs only [go_sem, Nat.reduceLT, Nat.reduceBEq, Nat.reduceAdd, Nat.reduceEqDiff, Nat.reduceLeDiff, Nat.reduceSub, Nat.reduceMul, e0], by simp -implicitDefEqProofs only [go_sem, Nat.reduceLT, Nat.reduceBEq, Nat.reduceAdd, Nat.reduceEqDiff, Nat.reduceLeDiff, Nat.reduceSub, Nat.reduceMul, e1], by simp -implicitDefEqProofs only [go_sem, Nat.reduceLT, Nat.reduceBEq, Nat.reduceAdd, Nat.reduceEqDiff, Nat.reduceLeDiff, Nat.reduceSub, Nat.reduceMul]; rfl, by omega⟩
  · simp -implicitDefEqProofs only [go_sem, Nat.reduceLT, Nat.reduceBEq, Nat.reduceAdd, Nat.reduceEqDiff, Nat.reduceLeDiff, Nat.reduceSub, Nat.reduceMul]
    exact fin_ret rfl (by decide) (fz_bool rfl) fun _ _ => rfl
end Go.Proofs.Ytdpibcniodhinaa.Gh
/- The statement ConvMachine, over ghost values. -/
namespace Go.Proofs.Ytdpibcniodhinaa.Gh
open Go Go.RowKit
open Alg (CR Ps Dg Zm Mn El Cg sm pw Irr Prm)
set_option linter.unusedVariables false
set_option linter.unusedSimpArgs false

/-- the encoder of the chapter's first example -/
def e4 : Enc := ⟨2, 1, 0, fun _ => 0, 1, fun _ => 2, fun _ _ => 3, fun _ j d => if j = 0 then (if d = 1 then 0 else 1) else 1⟩
theorem sp_four {H : Heap} {n : Nat} : Spec prog fid_law20_four [] H n e4.gv H n := by
  refine spec_ends hmix ok_law20_four rfl fun hF => ?_
  show gw prog B_law20_four _ (tl 7 _) H n
  simp -implicitDefEqProofs only [B_law20_four, go_sem, Nat.reduceLT, Nat.reduceBEq, Nat.reduceAdd, Nat.reduceEqDiff, Nat.reduceLeDiff, Nat.reduceSub, Nat.reduceMul]
  refine fin_cell (b := n) (o := 0) rfl (by decide) (by simp -implicitDefEqProofs only [go_sem, Nat.reduceLT, Nat.reduceBEq, Nat.reduceAdd, Nat.reduceEqDiff, Nat.reduceLeDiff, Nat.reduceSub, Nat.reduceMul]) (by simp -implicitDefEqProofs only [go_sem, Nat.reduceLT, Nat.reduceBEq, Nat.reduceAdd, Nat.reduceEqDiff, Nat.reduceLeDiff, Nat.reduceSub, Nat.reduceMul]; rfl) (Nat.le_refl _) ?_ fun b hb => ?_
  · refine .agg _ _ rfl fun j hj => ?_
    rcases j with _ | _ | _ | _ | j
    · exact .int _ _
    · exact .int _ _
    · exact .nilsl
    · refine .ownf (n + 4) 0 1 _ _ (by simp -implicitDefEqProofs only [go_sem, Nat.reduceLT, Nat.reduceBEq, Nat.reduceAdd, Nat.reduceEqDiff, Nat.reduceLeDiff, Nat.reduceSub, Nat.reduceMul]; rfl) (by omega) (fun i a c => by omega) (Nat.le_refl _) rfl fun t ht => ?_
      have : t = 0 := by omega
      subst this
      refine .ownf (n + 3) 0 2 _ _ (by simp -implicitDefEqProofs only [go_sem, Nat.reduceLT, Nat.reduceBEq, Nat.reduceAdd, Nat.reduceEqDiff, Nat.reduceLeDiff, Nat.reduceSub, Nat.reduceMul]; rfl) (by omega) (fun i a c => by omega) (Nat.le_refl _) rfl fun u hu => ?_
      rcases u with _ | _ | u
      · exact .ownf (n + 1) 0 3 _ _ (by simp -implicitDefEqProofs only [go_sem, Nat.reduceLT, Nat.reduceBEq, Nat.reduceAdd, Nat.reduceEqDiff, Nat.reduceLeDiff, Nat.reduceSub, Nat.reduceMul]; rfl) (by omega) (fun i a c => by omega) (Nat.le_refl _) rfl fun v hv => by
          rcases v with _ | _ | _ | v
          · exact .int _ _
          · exact .int _ _
          · exact .int _ _
          · omega
      · exact .ownf (n + 2) 0 3 _ _ (by simp -implicitDefEqProofs only [go_sem, Nat.reduceLT, Nat.reduceBEq, Nat.reduceAdd, Nat.reduceEqDiff, Nat.reduceLeDiff, Nat.reduceSub, Nat.reduceMul]; rfl) (by omega) (fun i a c => by omega) (Nat.le_refl _) rfl fun v hv => by
          rcases v with _ | _ | _ | v
          · exact .int _ _
          · exact .int _ _
          · exact .int _ _
          · omega
      · omega
    · simp at hj; omega
  · simp only [upd, if_neg (show b ≠ n by omega), if_neg (show b ≠ n + 1 by omega), if_neg (show b ≠ n + 2 by omega), if_neg (show b ≠ n + 3 by omega), if_neg (show b ≠ n + 4 by omega)]
theorem e4_bnd : e4.Bnd := ⟨by decide, fun i _ => (by decide : (2 : Nat) ≤ 70), fun i j _ _ => (by decide : (3 : Nat) ≤ 40)⟩
theorem e4_deg (i : Nat) : e4.deg i = 2 := rfl
theorem e4_qo : qo 2 1 = 2 := by decide
theorem e4_fi : ∃ (k : Nat) (M : Mn k) (_ : Fi M), e4.Des M ∧ M.m = 1 := by
  have hs : Shp 2 1 0 (fun _ => 0) := ⟨by rw [e4_qo]; decide, ⟨by decide, fun d h1 h2 => by omega⟩, fun _ => rfl, fun h => absurd rfl h⟩
  obtain ⟨k, M, h1, h2, h3, h4, h5, h6⟩ := shp_M hs
  have hm : M.m = 1 := by omega
  exact ⟨k, M, ⟨h5, h6, fun d a q d1 d2 => by omega⟩, ⟨h1, h2, h3, h4⟩, hm⟩
theorem e4_ce : e4.ce = 0 := by
  obtain ⟨k, M, h, hd, _⟩ := e4_fi
  have hA := hd.fok h
  have hS : e4.Shp3 := ⟨by decide, by decide, by decide, fun i _ => rfl⟩
  have hqo : qo e4.p e4.m = 2 := e4_qo
  have hE : e4.El := by
    intro i j _ _ d _
    rw [hqo]
    show 0 ≤ (if j = 0 then (if d = 1 then (0 : Int) else 1) else 1) ∧ (if j = 0 then (if d = 1 then (0 : Int) else 1) else 1) < 2
    split
    · split <;> decide
    · decide
  have ht : e4.tot e4.r = 3 := rfl
  rw [Enc.ce, if_pos hA, if_pos hS, if_pos (show e4.w 0 ≤ 64 by decide), if_pos hE, hqo, ht, if_pos (by decide)]
theorem e4_so {k : Nat} {M : Mn k} (h : Fi M) (j : Nat) : e4.so M 0 (fun _ => 1) e4.r 0 j = 1 := by
  have hone : ein M 1 = 1 := by have := ein_cn h.fc (1 : El M); rwa [cn_one] at this
  have h0 : e4.tm M 0 (fun _ => 1) j 0 0 = 1 := by
    have hX : e4.X (qn M : Nat) 0 (fun _ => 1) 0 0 = 1 := rfl
    have hco : e4.co 0 j 0 = 1 := by
      have h1 : e4.co 0 j 0 = e4.c 0 j 0 := if_pos (show (0 : Nat) < 3 by decide)
      rw [h1]
      show (if j = 0 then (if (0 : Nat) = 1 then (0 : Int) else 1) else 1) = 1
      by_cases hj : j = 0
      · rw [if_pos hj]; rfl
      · rw [if_neg hj]
    rw [Enc.tm, hX, hco, hone, Alg.one_mul]
  have hs : ∀ d, e4.tm M 0 (fun _ => 1) j 0 (d + 1) = 0 := fun d => by
    apply e4.tm_zero h.fc
    rw [Enc.X, if_neg (by omega)]
    exact dg_of_zero _ _
  show sm 1 (fun i' => sm 3 (e4.tm M 0 (fun _ => 1) j i')) + sm 0 _ = 1
  rw [Alg.sm_zero, Alg.add_zero, Alg.sm_succ, Alg.sm_zero, Alg.zero_add, Alg.sm_succ, Alg.sm_succ, Alg.sm_succ, Alg.sm_zero, Alg.zero_add, h0, hs, hs, Alg.add_zero, Alg.add_zero]

set_option maxHeartbeats 4000000 in
theorem sp_ConvMachine {H : Heap} {n : Nat} (e : Enc) (T : Nat) (l : Nat → Nat) (f : Nat → Nat → Int) : Spec prog fid_law20_ConvMachine [e.gv, msg T l f] H n (.bool true) H n := by
  refine spec_ends hmix ok_law20_ConvMachine rfl fun hF => ?_
  show gw prog B_law20_ConvMachine _ (tl 100 _) H n
  have hu : ∀ x b, b < n → upd H n x b = H b := fun x b hb => upd_ne _ _ (by omega)
  simp -implicitDefEqProofs only [B_law20_ConvMachine, go_sem, Nat.reduceLT, Nat.reduceBEq, Nat.reduceAdd, Nat.reduceEqDiff, Nat.reduceLeDiff, Nat.reduceSub, Nat.reduceMul]
  refine call_of (sp_few e) ?_
  by_cases hb : e.Bnd ∧ e.gs e.r ≤ 3000
  case neg =>
    simp -implicitDefEqProofs only [go_sem, Nat.reduceLT, Nat.reduceBEq, Nat.reduceAdd, Nat.reduceEqDiff, Nat.reduceLeDiff, Nat.reduceSub, Nat.reduceMul, hb]
    exact fin_ret rfl (by decide) (fz_bool rfl) (hu _)
  have hB := hb.1
  have hb' : decide (e.Bnd ∧ e.gs e.r ≤ 3000) = true := decide_eq_true hb
  rw [hb']
  by_cases hT : T ≤ 100
  case neg =>
    have hTI : (100 : Int) < (T : Nat) := by omega
    simp -implicitDefEqProofs only [go_sem, Nat.reduceLT, Nat.reduceBEq, Nat.reduceAdd, Nat.reduceEqDiff, Nat.reduceLeDiff, Nat.reduceSub, Nat.reduceMul, hTI]
    exact fin_ret rfl (by decide) (fz_bool rfl) (hu _)
  have hTI : ¬ (100 : Int) < (T : Nat) := by omega
  simp -implicitDefEqProofs only [go_sem, Nat.reduceLT, Nat.reduceBEq, Nat.reduceAdd, Nat.reduceEqDiff, Nat.reduceLeDiff, Nat.reduceSub, Nat.reduceMul, hTI]
  refine call_of (sp_ref20_Check e hB) ?_
  by_cases hce : e.ce = 0
  case neg =>
    simp -implicitDefEqProofs only [go_sem, Nat.reduceLT, Nat.reduceBEq, Nat.reduceAdd, Nat.reduceEqDiff, Nat.reduceLeDiff, Nat.reduceSub, Nat.reduceMul, hce]
    exact fin_ret rfl (by decide) (fz_bool rfl) (hu _)
  obtain ⟨k, M, h, hd⟩ : ∃ (k : Nat) (M : Mn k) (_ : Fi M), e.Des M := by
    rcases e.cases with hh | hf
    · exact hh
    · exact absurd (Enc.ok hce).1 hf
  have hqo := hd.qo h
  have hq2 := qn_two M
  have hr := hB.r
  have hm := e.mem_le hB e.r (Nat.le_refl _)
  have hok := Enc.ok hce
  have hw0 := hB.w 0 (by have := hok.2.1.1; omega)
  rw [hce]
  simp -implicitDefEqProofs only [go_sem, Nat.reduceLT, Nat.reduceBEq, Nat.reduceAdd, Nat.reduceEqDiff, Nat.reduceLeDiff, Nat.reduceSub, Nat.reduceMul]
  refine call_of (sp_ref20_Steps e hB T l f (by omega)) ?_
  rw [hqo]
  by_cases hz : stE e.r l f (qn M : Nat) T = 0
  case neg =>
    simp -implicitDefEqProofs only [go_sem, Nat.reduceLT, Nat.reduceBEq, Nat.reduceAdd, Nat.reduceEqDiff, Nat.reduceLeDiff, Nat.reduceSub, Nat.reduceMul, hz]
    exact fin_ret rfl (by decide) (fz_bool rfl) (hu _)
  have hst := stE_ok hz
  rw [hz]
  simp -implicitDefEqProofs only [go_sem, Nat.reduceLT, Nat.reduceBEq, Nat.reduceAdd, Nat.reduceEqDiff, Nat.reduceLeDiff, Nat.reduceSub, Nat.reduceMul]
  refine call_of (sp_ref20_Terminate e hB T l f (by omega)) ?_
  simp -implicitDefEqProofs only [go_sem, Nat.reduceLT, Nat.reduceBEq, Nat.reduceAdd, Nat.reduceEqDiff, Nat.reduceLeDiff, Nat.reduceSub, Nat.reduceMul]
  have hin : ∀ u, ∀ i, i < e.r → 0 ≤ tval T f u i ∧ tval T f u i < (qn M : Nat) := by
    intro u i hi
    unfold tval
    by_cases h1 : u < T
    · rw [if_pos h1]; exact (hst u h1).2 i hi
    · rw [if_neg h1]; omega
  have hlenU : ∀ u, tlen T e.r l u = e.r := by
    intro u
    unfold tlen
    by_cases h1 : u < T
    · rw [if_pos h1]; exact (hst u h1).1
    · exact if_neg h1
  have hinE : ∀ u, inE e.r (tlen T e.r l u) (tval T f u) (qn M : Nat) = 0 := fun u => by rw [inE, if_pos (hlenU u), if_pos fun i hi => hin u i (by rw [hlenU] at hi; exact hi)]
  have hz' : ∀ u, stE e.r (tlen T e.r l) (tval T f) (qn M : Nat) u = 0 := by
    intro u
    induction u with
    | zero => rfl
    | succ u ih => rw [stE, if_pos ih]; exact hinE u
  have hS0 := e.S_back (q := (qn M : Nat)) (f := tval T f) (by omega) T (fun u _ => hin u) fun u h1 _ i _ => if_neg (by omega)
  have hnx := sp_conv_Encode (M := M) (H := upd H n (some e.cs)) (n := n + 1) e hB h hd (T + e.mem e.r) (tlen T e.r l) (tval T f) (by omega)
  rw [if_pos hce, if_pos (hz' _)] at hnx
  refine call_of hnx ?_
  have hTb : T + e.mem e.r ≤ 140 := by omega
  generalize T + e.mem e.r = T' at *
  have hol : hlen (e.oval M (tval T f) T') = some (.int .i64 (T' : Nat)) := by
    rw [Enc.oval]
    split
    · rename_i h0; rw [h0]; rfl
    · rfl
  simp -implicitDefEqProofs only [go_sem, Nat.reduceLT, Nat.reduceBEq, Nat.reduceAdd, Nat.reduceEqDiff, Nat.reduceLeDiff, Nat.reduceSub, Nat.reduceMul, hol]
  refine loop_rule (fun (t : Nat) E H' n' => n' = n + 1 ∧ H' n = some e.cs ∧ (∀ b, b < n → H' b = H b) ∧ E 2 = .ptr n 0 ∧ E 5 = msg T' (tlen T e.r l) (tval T f) ∧ E 6 = e.oval M (tval T f) T' ∧ E 8 = .int .i64 (e.S (qn M : Nat) (tval T f) t) ∧ E 9 = .int .i64 (t : Nat) ∧ t ≤ T') (fun t => T' - t) 0 ⟨rfl, by simp -implicitDefEqProofs only [go_sem, Nat.reduceLT, Nat.reduceBEq, Nat.reduceAdd, Nat.reduceEqDiff, Nat.reduceLeDiff, Nat.reduceSub, Nat.reduceMul], hu _, rfl, rfl, rfl, rfl, rfl, by omega⟩ ?_
  rintro t E H' n' ⟨rfl, h0, ho, e2, e5, e6, e8, e9, ht⟩
  simp -implicitDefEqProofs only [go_sem, Nat.reduceLT, Nat.reduceBEq, Nat.reduceAdd, Nat.reduceEqDiff, Nat.reduceLeDiff, Nat.reduceSub, Nat.reduceMul, e5, e9]
  refine c_split (fun hc => ?_) (fun hc => ?_)
  · have htN : t < T' := by omega
    have hwt := wrap64 (x := (t : Int) + 1) (by omega)
    have hSt := e.S_in (q := (qn M : Nat)) (f := tval T f) (by omega) t fun u _ => hin u
    have hP : ((qn M ^ e.ds e.r : Nat) : Int) = ((qn M : Nat) : Int) ^ e.ds e.r := Int.natCast_pow ..
    have hE0 : e.nxE (qn M ^ e.ds e.r : Nat) (e.S (qn M : Nat) (tval T f) t) (tlen T e.r l t) (tval T f t) = 0 := by
      rw [Enc.nxE, if_pos hce, if_pos ⟨hSt.1, by rw [hP]; exact hSt.2⟩, hqo]; exact hinE t
    have f0 : n < n + 1 := by omega
    have hov : e.oval M (tval T f) T' = .sl T' (tab T' (e.orow M (tval T f))) := by rw [Enc.oval, if_neg (by omega)]
    have hor : e.orow M (tval T f) t = isl (e.w 0) fun j => (cn (e.so M (e.S (qn M : Nat) (tval T f) t) (tval T f t) e.r 0 j) : Nat) := rfl
    simp -implicitDefEqProofs only [go_sem, Nat.reduceLT, Nat.reduceBEq, Nat.reduceAdd, Nat.reduceEqDiff, Nat.reduceLeDiff, Nat.reduceSub, Nat.reduceMul, e2, e5, e8, e9, h0, hc, htN, gat_tab, msr_at, f0]
    refine mcall_of (g := .tup [.int .i64 (e.nx (qn M : Nat) (e.S (qn M : Nat) (tval T f) t) (tval T f t) e.r 0), isl (e.w 0) fun j => (cn (e.so M (e.S (qn M : Nat) (tval T f) t) (tval T f t) e.r 0 j) : Nat), .int .i64 0]) ?_ (fun H1 n1 _ _ => ?_) ?_
    · refine (Pl.tup _ fun j hj => ?_).nr
      rcases j with _ | _ | _ | j
      · exact .int _ _
      · exact pl_isl _ _
      · exact .int _ _
      · simp at hj; omega
    · have := sp_conv_Next (M := M) (H := H1) (n := n1) e hB h hd (e.S (qn M : Nat) (tval T f) t) (tlen T e.r l t) (tval T f t)
      rw [if_pos hE0] at this
      exact this
    simp -implicitDefEqProofs only [go_sem, Nat.reduceLT, Nat.reduceBEq, Nat.reduceAdd, Nat.reduceEqDiff, Nat.reduceLeDiff, Nat.reduceSub, Nat.reduceMul, e6, e9, hov, hc, htN, gat_tab, hor]
    refine call_of (sp_SameInts (e.w 0) (e.w 0) _ _ (by omega)) ?_
    have hTr : decide (e.w 0 = e.w 0 ∧ ∀ j, j < e.w 0 → ((cn (e.so M (e.S (qn M : Nat) (tval T f) t) (tval T f t) e.r 0 j) : Nat) : Int) = ((cn (e.so M (e.S (qn M : Nat) (tval T f) t) (tval T f t) e.r 0 j) : Nat) : Int)) = true := decide_eq_true ⟨rfl, fun _ _ => rfl⟩
    rw [hTr]
    simp -implicitDefEqProofs only [go_sem, Nat.reduceLT, Nat.reduceBEq, Nat.reduceAdd, Nat.reduceEqDiff, Nat.reduceLeDiff, Nat.reduceSub, Nat.reduceMul, e9, hwt]
    exact l_n ⟨t + 1, by omega, rfl, h0, ho, by simp -implicitDefEqProofs only [go_sem, Nat.reduceLT, Nat.reduceBEq, Nat.reduceAdd, Nat.reduceEqDiff, Nat.reduceLeDiff, Nat.reduceSub, Nat.reduceMul, e2], by simp -implicitDefEqProofs only [go_sem, Nat.reduceLT, Nat.reduceBEq, Nat.reduceAdd, Nat.reduceEqDiff, Nat.reduceLeDiff, Nat.reduceSub, Nat.reduceMul, e5], by simp -implicitDefEqProofs only [go_sem, Nat.reduceLT, Nat.reduceBEq, Nat.reduceAdd, Nat.reduceEqDiff, Nat.reduceLeDiff, Nat.reduceSub, Nat.reduceMul, e6, hov], by simp -implicitDefEqProofs only [go_sem, Nat.reduceLT, Nat.reduceBEq, Nat.reduceAdd, Nat.reduceEqDiff, Nat.reduceLeDiff, Nat.reduceSub, Nat.reduceMul]; rfl, by simp -implicitDefEqProofs only [go_sem, Nat.reduceLT, Nat.reduceBEq, Nat.reduceAdd, Nat.reduceEqDiff, Nat.reduceLeDiff, Nat.reduceSub, Nat.reduceMul]; rfl, by omega⟩
  · have : t = T' := by omega
    subst this
    simp -implicitDefEqProofs only [go_sem, Nat.reduceLT, Nat.reduceBEq, Nat.reduceAdd, Nat.reduceEqDiff, Nat.reduceLeDiff, Nat.reduceSub, Nat.reduceMul]
    refine call_of sp_four ?_
    obtain ⟨k4, M4, h4, hd4, hm4⟩ := e4_fi
    have hE4 : e4.nxE (qn M4 ^ e4.ds e4.r : Nat) 0 1 (fun _ => 1) = 0 := by
      have hp : 0 < qn M4 ^ e4.ds e4.r := Nat.pow_pos (by have := qn_two M4; omega)
      rw [Enc.nxE, if_pos e4_ce, if_pos ⟨by omega, by omega⟩, inE, if_pos (show 1 = e4.r from rfl), if_pos fun i _ => ?_]
      have : qo e4.p e4.m = 2 := e4_qo
      rw [this]; decide
    have hone : tab 1 (it fun _ => 1) = [GV.int .i64 1] := rfl
    have hN := sp_conv_Next' (M := M4) (H := upd H' (n + 1) (some [GV.int .i64 1])) (n := n + 2) e4 e4_bnd h4 hd4 0 1 (fun _ => 1) (a := .own (n + 1) 0 1) (Rd.own (by omega) (by rw [upd_same, hone]))
    rw [if_pos hE4] at hN
    simp -implicitDefEqProofs only [go_sem, Nat.reduceLT, Nat.reduceBEq, Nat.reduceAdd, Nat.reduceEqDiff, Nat.reduceLeDiff, Nat.reduceSub, Nat.reduceMul]
    refine call_of hN ?_
    rw [hS0] at e8
    simp -implicitDefEqProofs only [go_sem, Nat.reduceLT, Nat.reduceBEq, Nat.reduceAdd, Nat.reduceEqDiff, Nat.reduceLeDiff, Nat.reduceSub, Nat.reduceMul, e8]
    refine call_of (sp_SameInts' (x := isl (e4.w 0) fun j => (cn (e4.so M4 0 (fun _ => 1) e4.r 0 j) : Nat)) 2 (fun j => (cn (e4.so M4 0 (fun _ => 1) e4.r 0 j) : Nat)) (fun _ => 1) (by omega) (Rd.sl _ _) (Rd.own (by omega) (by rw [upd_same]; rfl)) fun i _ => by rw [e4_so h4, cn_one]; rfl) ?_
    simp -implicitDefEqProofs only [go_sem, Nat.reduceLT, Nat.reduceBEq, Nat.reduceAdd, Nat.reduceEqDiff, Nat.reduceLeDiff, Nat.reduceSub, Nat.reduceMul]
    exact fin_ret rfl (by decide) (fz_bool rfl) fun b hb => by rw [upd_ne _ _ (by omega), upd_ne _ _ (by omega)]; exact ho b hb
end Go.Proofs.Ytdpibcniodhinaa.Gh
/- A slice of the call's own that is handed on for good: it is only read from then on. -/
namespace Go.Proofs.Ytdpibcniodhinaa.Gh
open Go Go.RowKit
set_option linter.unusedVariables false
set_option linter.unusedSimpArgs false

/-- the block b is only read from now on -/
def lay (K : Kr) (b : Nat) : Kr := ⟨K.σ, K.sz, upd K.H b none, K.lo, K.w, fun B => K.S B ∨ (0 < K.sz b ∧ B = K.σ b)⟩
section
variable {K : Kr} {b : Nat} {cs : List GV}
theorem lay_step (hb : b < K.lo) (hH : K.H b = some cs) : KStep K (lay K b) where
  os := rfl
  tape := rfl
  output := rfl
  size := Nat.le_refl _
  S B h := .inl h
  keep B h := rfl
  lo := Nat.le_refl _
  live x h1 h2 := ⟨rfl, rfl⟩
  dies x h1 h2 := by
    by_cases e : x = b
    · subst e; exact hb
    · have h2 : upd K.H b none x = none := h2
      rw [upd_ne _ _ e] at h2; exact absurd h2 h1
  dead x h1 h2 := by
    show upd K.H b none x = none
    by_cases e : x = b
    · subst e; exact upd_same _ _ _
    · rw [upd_ne _ _ e]; exact h2
theorem lay_sat (hs : Sat K) (hb : b < K.lo) (hH : K.H b = some cs) : Sat (lay K b) := by
  have hst := lay_step hb hH
  refine ⟨?_, ?_, ?_, ?_⟩
  · intro x cs' e
    have e : upd K.H b none x = some cs' := e
    by_cases hx : x = b
    · subst hx; rw [upd_same] at e; cases e
    · rw [upd_ne _ _ hx] at e; exact hs.len x cs' e
  · intro x cs' e hz
    have e : upd K.H b none x = some cs' := e
    by_cases hx : x = b
    · subst hx; rw [upd_same] at e; cases e
    · rw [upd_ne _ _ hx] at e
      obtain ⟨row, T, h1, h2, h3, h4⟩ := hs.blk x cs' e hz
      refine ⟨row, T, h1, h2, fun j hj => (h3 j hj).mono hst, fun h => ?_⟩
      rcases h with h | ⟨hz', h⟩
      · exact h4 h
      · exact hx (hs.inj x b (by rw [e]; simp) (by rw [hH]; simp) hz hz' h)
  · intro x y h1 h2 hz1 hz2 e
    have h1 : upd K.H b none x ≠ none := h1
    have h2 : upd K.H b none y ≠ none := h2
    have hx : x ≠ b := fun e => by subst e; rw [upd_same] at h1; exact h1 rfl
    have hy : y ≠ b := fun e => by subst e; rw [upd_same] at h2; exact h2 rfl
    rw [upd_ne _ _ hx] at h1
    rw [upd_ne _ _ hy] at h2
    exact hs.inj x y h1 h2 hz1 hz2 e
  · intro B h
    rcases h with h | ⟨hz, rfl⟩
    · exact hs.sS B h
    · obtain ⟨row, T, h1, _⟩ := hs.blk b cs hH hz
      exact (Array.getElem?_eq_some_iff.1 h1).1
theorem lay_VR (hs : Sat K) (hb : b < K.lo) (hH : K.H b = some cs) {m : Nat} (hl : cs.length = m) {v : Value} (h : VR K (.own b 0 m) v) : VR (lay K b) (.sl m cs) v := by
  have hst := lay_step hb hH
  have zero : ∀ (A : Option Addr) (c : Nat), m = 0 → VR (lay K b) (.sl m cs) (.slice A m c) := fun A c h0 => by
    have hc : cs = [] := List.length_eq_zero_iff.1 (by omega)
    subst hc
    exact .sl0 m c A (by omega)
  cases h with
  | own _ _ _ c h1 h2 h3 =>
    rcases Nat.eq_zero_or_pos m with h0 | h0
    · exact zero _ _ h0
    · have hz : 0 < K.sz b := by omega
      obtain ⟨row, T, r1, r2, r3, r4⟩ := hs.blk b cs hH hz
      refine .sl m c (K.σ b) 0 cs (fun j => vat row j) h3 (.inr ⟨hz, rfl⟩) (fun j hj => ?_) fun j hj => (r3 j hj).mono hst
      have hlen := hs.len b cs hH
      show K.w.cell? ⟨K.σ b, 0 + j, none⟩ = _
      unfold World.cell?
      rw [r1]
      have hj' : j < row.size := by omega
      simp [vat, Array.getD, hj']
  | own0 _ _ A h1 => exact zero _ _ rfl
  | owns _ _ _ B c h1 h2 h3 => rw [hH] at h1; cases h1
end
/-- a slice of the call's own is handed on, and never used again -/
theorem spec_frz {P : Program} {f : FuncId} {xs ys : List GV} {H H' : Heap} {n n' b m : Nat} {cs : List GV} {g : GV} (hb : b < n) (hH : H b = some cs) (hl : cs.length = m)
    (h : Spec P f (xs ++ .sl m cs :: ys) (upd H b none) n g H' n') : Spec P f (xs ++ .own b 0 m :: ys) H n g H' n' := by
  intro K vs e1 e2 hF hs hv
  subst e1 e2
  have hst := lay_step hb hH
  refine Calls.mono (h (lay K b) vs rfl rfl (fun x hx => ?_) (lay_sat hs hb hH) ⟨by rw [hv.1]; simp, fun j hj => ?_⟩) ?_
  · show upd K.H b none x = none
    rw [upd_ne _ _ (by omega)]; exact hF x hx
  · have hj' : j < (xs ++ GV.own b 0 m :: ys).length := by simpa using hj
    have h1 := hv.2 j hj'
    rcases Nat.lt_trichotomy j xs.length with e | e | e
    · have g1 : gat (xs ++ GV.own b 0 m :: ys) j = gat xs j := by simp [gat, List.getD_eq_getElem?_getD, List.getElem?_append, e]
      have g2 : gat (xs ++ GV.sl m cs :: ys) j = gat xs j := by simp [gat, List.getD_eq_getElem?_getD, List.getElem?_append, e]
      rw [g1] at h1; rw [g2]; exact h1.mono hst
    · subst e
      have g1 : gat (xs ++ GV.own b 0 m :: ys) xs.length = .own b 0 m := by simp [gat, List.getD_eq_getElem?_getD]
      have g2 : gat (xs ++ GV.sl m cs :: ys) xs.length = .sl m cs := by simp [gat, List.getD_eq_getElem?_getD]
      rw [g1] at h1; rw [g2]; exact lay_VR hs hb hH hl h1
    · obtain ⟨d, rfl⟩ : ∃ d, j = xs.length + (d + 1) := ⟨j - xs.length - 1, by omega⟩
      have g1 : gat (xs ++ GV.own b 0 m :: ys) (xs.length + (d + 1)) = gat ys d := by simp [gat, List.getD_eq_getElem?_getD, List.getElem?_append_right]
      have g2 : gat (xs ++ GV.sl m cs :: ys) (xs.length + (d + 1)) = gat ys d := by simp [gat, List.getD_eq_getElem?_getD, List.getElem?_append_right]
      rw [g1] at h1; rw [g2]; exact h1.mono hst
  · rintro e w' ⟨v, K', h1, h2, h3, h4, h5, h6, h7, h8⟩
    exact ⟨v, K', h1, h2, hst.trans h3, h4, h5, h6, h7, h8⟩
end Go.Proofs.Ytdpibcniodhinaa.Gh
/- More equations of the evaluator. -/
namespace Go.Proofs.Ytdpibcniodhinaa.Gh
open Go Go.RowKit
set_option linter.unusedVariables false
set_option linter.unusedSimpArgs false
section
variable {P : Program} {N n m n0 : Nat} {E : Env} {H H0 : Heap} {q : Km} {g v : GV} {x y : GX} {t : List GV}
def hmappp (q : Km) (bytes : Nat) : GV → Option (List GV) → Option (List GV) → Prop
  | .nil, some _, some ys => ys.length * bytes ≤ 140737488355328 ∧ q (.sl ys.length ys) none
  | .emp, some _, some ys => ys.length * bytes ≤ 140737488355328 ∧ q (.sl ys.length ys) none
  | .lit _, some cs, some ys => (cs.length + ys.length) * bytes ≤ 140737488355328 ∧ q (.sl (cs.length + ys.length) (cs ++ ys)) none
  | _, _, _ => False
theorem m_appendp (bytes : Nat) : gmop P H0 n0 t n q (.appendp bytes x y) = hmappp q bytes (gev t x) (gelems (below H0 n0) (gev t x)) (gelems (below H0 n0) (gev t y)) := by
  simp only [gmop]
  show (match gelems (below H0 n0) (gev t x), gelems (below H0 n0) (gev t y) with | some cs, some ys => _ | _, _ => False) = _
  generalize gelems (below H0 n0) (gev t x) = u; generalize gev t x = v; generalize gelems (below H0 n0) (gev t y) = w
  unfold hmappp
  cases u <;> cases w <;> cases v <;> rfl
theorem m_appp_nil (bytes : Nat) (ys zs : List GV) : hmappp q bytes .nil (some zs) (some ys) = (ys.length * bytes ≤ 140737488355328 ∧ q (.sl ys.length ys) none) := rfl
theorem m_appp_emp (bytes : Nat) (ys zs : List GV) : hmappp q bytes .emp (some zs) (some ys) = (ys.length * bytes ≤ 140737488355328 ∧ q (.sl ys.length ys) none) := rfl
theorem m_appp_lit (bytes : Nat) (cs zs ys : List GV) : hmappp q bytes (.lit cs) (some zs) (some ys) = ((zs.length + ys.length) * bytes ≤ 140737488355328 ∧ q (.sl (zs.length + ys.length) (zs ++ ys)) none) := rfl
def hmsp (q : Kn) (H : Heap) (n : Nat) (zv : GV) (bytes : Nat) : GV → GV → Prop
  | .int .i64 a, .int .i64 b => 0 ≤ a ∧ a = b ∧ a * bytes ≤ 281474976710656 ∧ 0 < bytes ∧ q (.sl a.toNat (List.replicate a.toNat zv)) H n
  | _, _ => False
theorem e_mslicep {q : Kn} (zv : GV) (bytes : Nat) : gop P t H n q (.mslicep zv bytes x y) = hmsp q H n zv bytes (gev t x) (gev t y) := by
  simp only [gop]; generalize gev t x = v; generalize gev t y = w; unfold hmsp
  cases v <;> cases w <;> first | rfl | (rename_i k1 a k2 b; cases k1 <;> cases k2 <;> rfl)
theorem e_msp_int {q : Kn} (zv : GV) (bytes : Nat) (a b : Int) : hmsp q H n zv bytes (.int .i64 a) (.int .i64 b) = (0 ≤ a ∧ a = b ∧ a * bytes ≤ 281474976710656 ∧ 0 < bytes ∧ q (.sl a.toNat (List.replicate a.toNat zv)) H n) := rfl
theorem e_aa_ptr (len size b o : Nat) (kd : IntKind) (i : Int) : haaddr len size (.ptr b o) (.int kd i) = if 0 ≤ i ∧ i < len then some (.ptr b (o + i.toNat * size)) else none := rfl
theorem e_aa_pp (len size o : Nat) (cs : List GV) (kd : IntKind) (i : Int) : haaddr len size (.pp cs o) (.int kd i) = if 0 ≤ i ∧ i < len then some (.pp cs (o + i.toNat * size)) else none := rfl
def hconv (kd : IntKind) : GV → Option GV
  | .int _ n => some (.int kd (kd.wrap n))
  | _ => none
theorem e_conv' {q : Kn} (kd : IntKind) : gop P t H n q (.conv kd x) = hopt q H n (hconv kd (gev t x)) := by
  rw [e_conv]; generalize gev t x = v; cases v <;> rfl
theorem e_conv_int (kd kd' : IntKind) (i : Int) : hconv kd (.int kd' i) = some (.int kd (kd.wrap i)) := rfl
end
/-- what stands for a value may be said in another way -/
theorem spec_arg {P : Program} {f : FuncId} {xs ys : List GV} {H H' : Heap} {n n' : Nat} {g : GV} (hlen : ys.length = xs.length) (hxy : ∀ K v j, j < xs.length → VR K (gat xs j) v → VR K (gat ys j) v) (h : Spec P f ys H n g H' n') : Spec P f xs H n g H' n' := by
  intro K vs e1 e2 hF hs hv
  exact h K vs e1 e2 hF hs ⟨by rw [hv.1, hlen], fun j hj => hxy K _ j (by omega) (hv.2 j (by omega))⟩
theorem vr_nil {K : Kr} {v : Value} (h : VR K .nil v) : VR K (.sl 0 []) v := by
  cases h; exact .sl0 0 0 none (Nat.le_refl _)
attribute [go_sem] m_appendp m_appp_nil m_appp_emp m_appp_lit e_mslicep e_msp_int e_aaddr e_aa_ptr e_aa_pp e_conv' e_conv_int
end Go.Proofs.Ytdpibcniodhinaa.Gh
/- Rows of the reference: a row plus a multiple of another, weights, sameness. -/
namespace Go.Proofs.Ytdpibcniodhinaa.Gh
open Go Go.RowKit
open Alg (CR Ps Dg Zm Mn El Cg sm pw Irr Prm)
set_option linter.unusedVariables false
set_option linter.unusedSimpArgs false

section
variable {k : Nat} {M : Mn k}
/-- f plus a times g -/
noncomputable def adf (M : Mn k) (a : Int) (f g : Nat → Int) : Nat → Int := fun i => if g i = 0 then f i else (cn (ein M (f i) + ein M a * ein M (g i)) : Nat)
theorem sp_AddTo {H : Heap} {n : Nat} (h : Fi M) {v u : GV} {l m : Nat} {f g : Nat → Int} (a : Int) (hv : Rd H n v l f) (hu : Rd H n u m g) (hlm : l ≤ m) (hl : l ≤ 1000000) :
    Spec prog fid_ref09_AddTo [fd M, v, .int .i64 a, u] H n (isl l (adf M a f g)) H n := by
  refine spec_ends hmix ok_ref09_AddTo rfl fun hF => ?_
  show gw prog B_ref09_AddTo _ (tl 49 _) H n
  have hvl := hv.len
  have hul := hu.len
  simp -implicitDefEqProofs only [B_ref09_AddTo, fd, go_sem, Nat.reduceLT, Nat.reduceBEq, Nat.reduceAdd, Nat.reduceEqDiff, Nat.reduceLeDiff, Nat.reduceSub, Nat.reduceMul, hvl]
  repeat with_reducible refine And.intro (by omega) ?_
  refine loop_rule (fun (i : Nat) E H' n' => n' = n + 2 ∧ H' n = some [.int .i64 ((k : Int) + 2), .int .i64 (M.m : Nat), fmod M] ∧ H' (n + 1) = some (tab l (it (mix (adf M a f g) (fun _ => 0) i))) ∧ (∀ b, b < n → H' b = H b) ∧ E 1 = v ∧ E 2 = .int .i64 a ∧ E 3 = u ∧ E 4 = .ptr n 0 ∧ E 9 = .own (n + 1) 0 l ∧ E 10 = .int .i64 (i : Nat) ∧ i ≤ l) (fun i => l - i) 0 ?_ ?_
  · exact ⟨rfl, by simp -implicitDefEqProofs only [go_sem, Nat.reduceLT, Nat.reduceBEq, Nat.reduceAdd, Nat.reduceEqDiff, Nat.reduceLeDiff, Nat.reduceSub, Nat.reduceMul], by simp -implicitDefEqProofs only [go_sem, Nat.reduceLT, Nat.reduceBEq, Nat.reduceAdd, Nat.reduceEqDiff, Nat.reduceLeDiff, Nat.reduceSub, Nat.reduceMul, tab_rep, mix_zero]; rfl, fun b hb => by rw [upd_ne _ _ (by omega), upd_ne _ _ (by omega)], rfl, rfl, rfl, rfl, rfl, rfl, by omega⟩
  rintro i E H' n' ⟨rfl, h0, h1, ho, e1, e2, e3, e4, e9, e10, hi⟩
  simp -implicitDefEqProofs only [go_sem, Nat.reduceLT, Nat.reduceBEq, Nat.reduceAdd, Nat.reduceEqDiff, Nat.reduceLeDiff, Nat.reduceSub, Nat.reduceMul, e1, e10, hvl]
  refine c_split (fun hc => ?_) (fun hc => ?_)
  · have hiN : i < l := by omega
    have hwi := wrap64 (x := (i : Int) + 1) (by omega)
    obtain ⟨pa, pa1, pa2, pa3⟩ := hv.idx i hiN
    obtain ⟨pb, pb1, pb2, pb3⟩ := hu.idx i (by omega)
    have pa4 := fun q => pa2 q H' H' (n + 2) ho
    simp -implicitDefEqProofs only [go_sem, Nat.reduceLT, Nat.reduceBEq, Nat.reduceAdd, Nat.reduceEqDiff, Nat.reduceLeDiff, Nat.reduceSub, Nat.reduceMul, e1, e9, e10, pa1, pa4, hc, hiN, h1]
    repeat with_reducible refine And.intro (by omega) ?_
    generalize hH1 : upd H' (n + 1) (some (tab l (it (upf (mix (adf M a f g) (fun _ => 0) i) i (f i))))) = H1
    have g0 : H1 n = some [.int .i64 ((k : Int) + 2), .int .i64 (M.m : Nat), fmod M] := by rw [← hH1, upd_ne _ _ (by omega), h0]
    have g1 : H1 (n + 1) = some (tab l (it (upf (mix (adf M a f g) (fun _ => 0) i) i (f i)))) := by rw [← hH1, upd_same]
    have go : ∀ b, b < n → H1 b = H b := fun b hb => by rw [← hH1, upd_ne _ _ (by omega), ho b hb]
    have pb4 := fun q => pb2 q H1 H1 (n + 2) go
    simp -implicitDefEqProofs only [go_sem, Nat.reduceLT, Nat.reduceBEq, Nat.reduceAdd, Nat.reduceEqDiff, Nat.reduceLeDiff, Nat.reduceSub, Nat.reduceMul, e3, e10, pb1, pb4]
    by_cases hz : g i = 0
    · have hst := mix_step (adf M a f g) (fun _ => 0) i
      have had : adf M a f g i = f i := if_pos hz
      rw [had] at hst
      simp -implicitDefEqProofs only [go_sem, Nat.reduceLT, Nat.reduceBEq, Nat.reduceAdd, Nat.reduceEqDiff, Nat.reduceLeDiff, Nat.reduceSub, Nat.reduceMul, hz, e10, hwi]
      refine l_n ⟨i + 1, by omega, rfl, g0, by rw [g1, hst], go, by simp -implicitDefEqProofs only [go_sem, Nat.reduceLT, Nat.reduceBEq, Nat.reduceAdd, Nat.reduceEqDiff, Nat.reduceLeDiff, Nat.reduceSub, Nat.reduceMul, e1], by simp -implicitDefEqProofs only [go_sem, Nat.reduceLT, Nat.reduceBEq, Nat.reduceAdd, Nat.reduceEqDiff, Nat.reduceLeDiff, Nat.reduceSub, Nat.reduceMul, e2], by simp -implicitDefEqProofs only [go_sem, Nat.reduceLT, Nat.reduceBEq, Nat.reduceAdd, Nat.reduceEqDiff, Nat.reduceLeDiff, Nat.reduceSub, Nat.reduceMul, e3], by simp -implicitDefEqProofs only [go_sem, Nat.reduceLT, Nat.reduceBEq, Nat.reduceAdd, Nat.reduceEqDiff, Nat.reduceLeDiff, Nat.reduceSub, Nat.reduceMul, e4], by simp -implicitDefEqProofs only [go_sem, Nat.reduceLT, Nat.reduceBEq, Nat.reduceAdd, Nat.reduceEqDiff, Nat.reduceLeDiff, Nat.reduceSub, Nat.reduceMul, e9], by simp -implicitDefEqProofs only [go_sem, Nat.reduceLT, Nat.reduceBEq, Nat.reduceAdd, Nat.reduceEqDiff, Nat.reduceLeDiff, Nat.reduceSub, Nat.reduceMul]; rfl, by omega⟩
    · have hst := mix_step (adf M a f g) (fun _ => 0) i
      have had : adf M a f g i = (cn (ein M (f i) + ein M a * ein M (g i)) : Nat) := if_neg hz
      have pa5 := fun q => pa3 q H1 (n + 2) (by omega) go
      have pb5 := fun q => pb3 q H1 (n + 2) (by omega) go
      simp -implicitDefEqProofs only [go_sem, Nat.reduceLT, Nat.reduceBEq, Nat.reduceAdd, Nat.reduceEqDiff, Nat.reduceLeDiff, Nat.reduceSub, Nat.reduceMul, hz, e1, e2, e3, e4, e9, e10, g0, pa1, pb1, pa5, pb5]
      refine mcall_of (.int _ _) (fun H1 n1 _ _ => sp_ref04_Mul h.fc _ _) ?_
      simp -implicitDefEqProofs only [go_sem, Nat.reduceLT, Nat.reduceBEq, Nat.reduceAdd, Nat.reduceEqDiff, Nat.reduceLeDiff, Nat.reduceSub, Nat.reduceMul]
      refine mcall_of (.int _ _) (fun H1 n1 _ _ => sp_ref04_Add h.fc _ _) ?_
      rw [cd_cn, cd_cn, ein_cn h.fc, ← had]
      simp -implicitDefEqProofs only [go_sem, Nat.reduceLT, Nat.reduceBEq, Nat.reduceAdd, Nat.reduceEqDiff, Nat.reduceLeDiff, Nat.reduceSub, Nat.reduceMul, hc, hiN, g1, upf_upf, hst, e10, hwi]
      repeat with_reducible refine And.intro (by omega) ?_
      refine l_n ⟨i + 1, by omega, rfl, by simp -implicitDefEqProofs only [go_sem, Nat.reduceLT, Nat.reduceBEq, Nat.reduceAdd, Nat.reduceEqDiff, Nat.reduceLeDiff, Nat.reduceSub, Nat.reduceMul, g0], by simp -implicitDefEqProofs only [go_sem, Nat.reduceLT, Nat.reduceBEq, Nat.reduceAdd, Nat.reduceEqDiff, Nat.reduceLeDiff, Nat.reduceSub, Nat.reduceMul], fun b hb => by rw [upd_ne _ _ (by omega)]; exact go b hb, by simp -implicitDefEqProofs only [go_sem, Nat.reduceLT, Nat.reduceBEq, Nat.reduceAdd, Nat.reduceEqDiff, Nat.reduceLeDiff, Nat.reduceSub, Nat.reduceMul, e1], by simp -implicitDefEqProofs only [go_sem, Nat.reduceLT, Nat.reduceBEq, Nat.reduceAdd, Nat.reduceEqDiff, Nat.reduceLeDiff, Nat.reduceSub, Nat.reduceMul, e2], by simp -implicitDefEqProofs only [go_sem, Nat.reduceLT, Nat.reduceBEq, Nat.reduceAdd, Nat.reduceEqDiff, Nat.reduceLeDiff, Nat.reduceSub, Nat.reduceMul, e3], by simp -implicitDefEqProofs only [go_sem, Nat.reduceLT, Nat.reduceBEq, Nat.reduceAdd, Nat.reduceEqDiff, Nat.reduceLeDiff, Nat.reduceSub, Nat.reduceMul, e4], by simp -implicitDefEqProofs only [go_sem, Nat.reduceLT, Nat.reduceBEq, Nat.reduceAdd, Nat.reduceEqDiff, Nat.reduceLeDiff, Nat.reduceSub, Nat.reduceMul, e9], by simp -implicitDefEqProofs only [go_sem, Nat.reduceLT, Nat.reduceBEq, Nat.reduceAdd, Nat.reduceEqDiff, Nat.reduceLeDiff, Nat.reduceSub, Nat.reduceMul]; rfl, by omega⟩
  · have : i = l := by omega
    subst this
    simp -implicitDefEqProofs only [go_sem, Nat.reduceLT, Nat.reduceBEq, Nat.reduceAdd, Nat.reduceEqDiff, Nat.reduceLeDiff, Nat.reduceSub, Nat.reduceMul, e9]
    refine fin_ret rfl (by decide) ?_ ho
    simp -implicitDefEqProofs only [go_sem, Nat.reduceLT, Nat.reduceBEq, Nat.reduceAdd, Nat.reduceEqDiff, Nat.reduceLeDiff, Nat.reduceSub, Nat.reduceMul]
    have hrow : H' (n + 1) = some (tab i (it (adf M a f g))) := by
      rw [h1]; exact congrArg some (tab_congr fun j hj => congrArg (GV.int .i64) (mix_lt _ _ hj))
    exact fz_own_isl hrow (by omega)
end
/-- how many entries are not 0 -/
def wt (l : Nat) (f : Nat → Int) : Nat := sumn (fun i => if f i = 0 then 0 else 1) l
def wtm (l : Nat → Nat) (f : Nat → Nat → Int) : Nat → Nat := sumn fun t => wt (l t) (f t)
theorem sumn_le1 {f : Nat → Nat} {c : Nat} : ∀ m, (∀ i, i < m → f i ≤ c) → sumn f m ≤ m * c := by
  intro m
  induction m with
  | zero => intro _; exact Nat.zero_le _
  | succ m ih => intro h; rw [sumn, Nat.succ_mul]; have := ih fun i hi => h i (by omega); have := h m (by omega); omega
theorem wt_le (l : Nat) (f : Nat → Int) : wt l f ≤ l := by
  have := sumn_le1 (c := 1) l (f := fun i => if f i = 0 then 0 else 1) fun i _ => by split <;> omega
  rw [wt]; omega
/-- rows that can be read, or nil -/
def Rr (x : GV) (T : Nat) (l : Nat → Nat) (f : Nat → Nat → Int) : Prop := x = msg T l f ∨ (x = .nil ∧ T = 0)
theorem Rr.len {x : GV} {T : Nat} {l : Nat → Nat} {f : Nat → Nat → Int} (h : Rr x T l f) : hlen x = some (.int .i64 (T : Nat)) := by
  rcases h with rfl | ⟨rfl, rfl⟩ <;> rfl
theorem Rr.sl {x : GV} {T : Nat} {l : Nat → Nat} {f : Nat → Nat → Int} (h : Rr x T l f) (h0 : 0 < T) : x = msg T l f := by
  rcases h with h | ⟨_, h⟩
  · exact h
  · omega
theorem sp_Weight {H : Heap} {n : Nat} {x : GV} (T L : Nat) (l : Nat → Nat) (f : Nat → Nat → Int) (hx : Rr x T l f) (hT : T ≤ 1000000) (hL : L ≤ 1000000) (hl : ∀ t, t < T → l t ≤ L) :
    Spec prog fid_ref20_Weight [x] H n (.int .i64 (wtm l f T : Nat)) H n := by
  refine spec_ends hmix ok_ref20_Weight rfl fun hF => ?_
  show gw prog B_ref20_Weight _ (tl 32 _) H n
  have hxl := hx.len
  have bd : ∀ t, t ≤ T → wtm l f t ≤ 1000000000000 := fun t ht => by
    have h1 := sumn_le1 (c := L) t (f := fun t => wt (l t) (f t)) fun i hi => by have := wt_le (l i) (f i); have := hl i (by omega); omega
    have h2 : t * L ≤ 1000000 * 1000000 := Nat.mul_le_mul (by omega) hL
    rw [wtm]; omega
  simp -implicitDefEqProofs only [B_ref20_Weight, go_sem, Nat.reduceLT, Nat.reduceBEq, Nat.reduceAdd, Nat.reduceEqDiff, Nat.reduceLeDiff, Nat.reduceSub, Nat.reduceMul]
  refine loop_rule (fun (t : Nat) E H' n' => H' = H ∧ n' = n ∧ E 0 = x ∧ E 3 = .int .i64 (wtm l f t : Nat) ∧ E 4 = .int .i64 (t : Nat) ∧ t ≤ T) (fun t => T - t) 0 ⟨rfl, rfl, rfl, rfl, rfl, by omega⟩ ?_
  rintro t E H' n' ⟨rfl, rfl, e0, e3, e4, ht⟩
  simp -implicitDefEqProofs only [go_sem, Nat.reduceLT, Nat.reduceBEq, Nat.reduceAdd, Nat.reduceEqDiff, Nat.reduceLeDiff, Nat.reduceSub, Nat.reduceMul, e0, e4, hxl]
  refine c_split (fun hc => ?_) (fun hc => ?_)
  · have htN : t < T := by omega
    have hwt := wrap64 (x := (t : Int) + 1) (by omega)
    have hxs := hx.sl (by omega)
    have hlt := hl t htN
    subst hxs
    simp -implicitDefEqProofs only [go_sem, Nat.reduceLT, Nat.reduceBEq, Nat.reduceAdd, Nat.reduceEqDiff, Nat.reduceLeDiff, Nat.reduceSub, Nat.reduceMul]
    refine loop_rule (fun (i : Nat) E H1 n1 => H1 = H' ∧ n1 = n' ∧ E 0 = msg T l f ∧ E 3 = .int .i64 (wtm l f t + wt i (f t) : Nat) ∧ E 4 = .int .i64 (t : Nat) ∧ E 5 = .int .i64 (i : Nat) ∧ i ≤ l t) (fun i => l t - i) 0 ⟨rfl, rfl, by simp -implicitDefEqProofs only [go_sem, Nat.reduceLT, Nat.reduceBEq, Nat.reduceAdd, Nat.reduceEqDiff, Nat.reduceLeDiff, Nat.reduceSub, Nat.reduceMul, e0], by simp -implicitDefEqProofs only [go_sem, Nat.reduceLT, Nat.reduceBEq, Nat.reduceAdd, Nat.reduceEqDiff, Nat.reduceLeDiff, Nat.reduceSub, Nat.reduceMul, e3]; rfl, by simp -implicitDefEqProofs only [go_sem, Nat.reduceLT, Nat.reduceBEq, Nat.reduceAdd, Nat.reduceEqDiff, Nat.reduceLeDiff, Nat.reduceSub, Nat.reduceMul, e4], by simp -implicitDefEqProofs only [go_sem, Nat.reduceLT, Nat.reduceBEq, Nat.reduceAdd, Nat.reduceEqDiff, Nat.reduceLeDiff, Nat.reduceSub, Nat.reduceMul]; rfl, by omega⟩ ?_
    clear e4 e3 e0 E
    rintro i E H1 n1 ⟨rfl, rfl, e0, e3, e4, e5, hi⟩
    have hms : msr l f t = isl (l t) (f t) := rfl
    simp -implicitDefEqProofs only [go_sem, Nat.reduceLT, Nat.reduceBEq, Nat.reduceAdd, Nat.reduceEqDiff, Nat.reduceLeDiff, Nat.reduceSub, Nat.reduceMul, e0, e4, e5, hc, htN, gat_tab, hms]
    refine c_split (fun hc' => ?_) (fun hc' => ?_)
    · have hiN : i < l t := by omega
      have hwi := wrap64 (x := (i : Int) + 1) (by omega)
      have hs : wt (i + 1) (f t) = wt i (f t) + if f t i = 0 then 0 else 1 := rfl
      by_cases hz : f t i = 0
      · rw [if_pos hz] at hs
        simp -implicitDefEqProofs only [go_sem, Nat.reduceLT, Nat.reduceBEq, Nat.reduceAdd, Nat.reduceEqDiff, Nat.reduceLeDiff, Nat.reduceSub, Nat.reduceMul, e0, e4, e5, hc, hc', htN, hiN, gat_tab, hms, hz, hwi]
        exact l_n ⟨i + 1, by omega, rfl, rfl, by simp -implicitDefEqProofs only [go_sem, Nat.reduceLT, Nat.reduceBEq, Nat.reduceAdd, Nat.reduceEqDiff, Nat.reduceLeDiff, Nat.reduceSub, Nat.reduceMul, e0], by simp -implicitDefEqProofs only [go_sem, Nat.reduceLT, Nat.reduceBEq, Nat.reduceAdd, Nat.reduceEqDiff, Nat.reduceLeDiff, Nat.reduceSub, Nat.reduceMul, e3]; rw [hs]; rfl, by simp -implicitDefEqProofs only [go_sem, Nat.reduceLT, Nat.reduceBEq, Nat.reduceAdd, Nat.reduceEqDiff, Nat.reduceLeDiff, Nat.reduceSub, Nat.reduceMul, e4], by simp -implicitDefEqProofs only [go_sem, Nat.reduceLT, Nat.reduceBEq, Nat.reduceAdd, Nat.reduceEqDiff, Nat.reduceLeDiff, Nat.reduceSub, Nat.reduceMul]; rfl, by omega⟩
      · rw [if_neg hz] at hs
        have h1 := bd t (by omega)
        have h2 := wt_le i (f t)
        have hw : IntKind.i64.wrap (((wtm l f t + wt i (f t) : Nat) : Int) + 1) = ((wtm l f t + wt (i + 1) (f t) : Nat) : Int) := (wrap64 (by omega)).trans (by omega)
        simp -implicitDefEqProofs only [go_sem, Nat.reduceLT, Nat.reduceBEq, Nat.reduceAdd, Nat.reduceEqDiff, Nat.reduceLeDiff, Nat.reduceSub, Nat.reduceMul, e0, e3, e4, e5, hc, hc', htN, hiN, gat_tab, hms, hz, hwi, hw]
        exact l_n ⟨i + 1, by omega, rfl, rfl, by simp -implicitDefEqProofs only [go_sem, Nat.reduceLT, Nat.reduceBEq, Nat.reduceAdd, Nat.reduceEqDiff, Nat.reduceLeDiff, Nat.reduceSub, Nat.reduceMul, e0], by simp -implicitDefEqProofs only [go_sem, Nat.reduceLT, Nat.reduceBEq, Nat.reduceAdd, Nat.reduceEqDiff, Nat.reduceLeDiff, Nat.reduceSub, Nat.reduceMul], by simp -implicitDefEqProofs only [go_sem, Nat.reduceLT, Nat.reduceBEq, Nat.reduceAdd, Nat.reduceEqDiff, Nat.reduceLeDiff, Nat.reduceSub, Nat.reduceMul, e4], by simp -implicitDefEqProofs only [go_sem, Nat.reduceLT, Nat.reduceBEq, Nat.reduceAdd, Nat.reduceEqDiff, Nat.reduceLeDiff, Nat.reduceSub, Nat.reduceMul]; rfl, by omega⟩
    · have : i = l t := by omega
      subst this
      simp -implicitDefEqProofs only [go_sem, Nat.reduceLT, Nat.reduceBEq, Nat.reduceAdd, Nat.reduceEqDiff, Nat.reduceLeDiff, Nat.reduceSub, Nat.reduceMul, e4, hwt]
      exact l_n ⟨t + 1, by omega, rfl, rfl, by simp -implicitDefEqProofs only [go_sem, Nat.reduceLT, Nat.reduceBEq, Nat.reduceAdd, Nat.reduceEqDiff, Nat.reduceLeDiff, Nat.reduceSub, Nat.reduceMul, e0], by simp -implicitDefEqProofs only [go_sem, Nat.reduceLT, Nat.reduceBEq, Nat.reduceAdd, Nat.reduceEqDiff, Nat.reduceLeDiff, Nat.reduceSub, Nat.reduceMul, e3]; rfl, by simp -implicitDefEqProofs only [go_sem, Nat.reduceLT, Nat.reduceBEq, Nat.reduceAdd, Nat.reduceEqDiff, Nat.reduceLeDiff, Nat.reduceSub, Nat.reduceMul]; rfl, by omega⟩
  · have : t = T := by omega
    subst this
    simp -implicitDefEqProofs only [go_sem, Nat.reduceLT, Nat.reduceBEq, Nat.reduceAdd, Nat.reduceEqDiff, Nat.reduceLeDiff, Nat.reduceSub, Nat.reduceMul, e3]
    exact fin_ret rfl (by decide) (by simp -implicitDefEqProofs only [go_sem, Nat.reduceLT, Nat.reduceBEq, Nat.reduceAdd, Nat.reduceEqDiff, Nat.reduceLeDiff, Nat.reduceSub, Nat.reduceMul]; exact fz_int rfl) fun _ _ => rfl
theorem sp_SameRows' {H : Heap} {n : Nat} {x y : GV} (T : Nat) (l : Nat → Nat) (f g : Nat → Nat → Int) (hx : Rr x T l f) (hy : Rr y T l g) (hT : T ≤ 1000000) (hl : ∀ t, t < T → l t ≤ 1000000) (hfg : ∀ t, t < T → ∀ i, i < l t → f t i = g t i) : Spec prog fid_ref09_SameRows [x, y] H n (.bool true) H n := by
  refine spec_ends hmix ok_ref09_SameRows rfl fun hF => ?_
  show gw prog B_ref09_SameRows _ (tl 27 _) H n
  have hxl := hx.len
  have hyl := hy.len
  simp -implicitDefEqProofs only [B_ref09_SameRows, go_sem, Nat.reduceLT, Nat.reduceBEq, Nat.reduceAdd, Nat.reduceEqDiff, Nat.reduceLeDiff, Nat.reduceSub, Nat.reduceMul, hxl, hyl]
  refine loop_rule (fun (t : Nat) E H' n' => H' = H ∧ n' = n ∧ E 0 = x ∧ E 1 = y ∧ E 5 = .int .i64 (t : Nat) ∧ t ≤ T) (fun t => T - t) 0 ⟨rfl, rfl, rfl, rfl, rfl, by omega⟩ ?_
  rintro t E H' n' ⟨rfl, rfl, e0, e1, e5, ht⟩
  simp -implicitDefEqProofs only [go_sem, Nat.reduceLT, Nat.reduceBEq, Nat.reduceAdd, Nat.reduceEqDiff, Nat.reduceLeDiff, Nat.reduceSub, Nat.reduceMul, e0, e5, hxl]
  refine c_split (fun hc => ?_) (fun hc => ?_)
  · have htN : t < T := by omega
    have hwt := wrap64 (x := (t : Int) + 1) (by omega)
    have hxs := hx.sl (by omega)
    have hys := hy.sl (by omega)
    subst hxs hys
    have hms : msr l f t = isl (l t) (f t) := rfl
    have hms' : msr l g t = isl (l t) (g t) := rfl
    simp -implicitDefEqProofs only [go_sem, Nat.reduceLT, Nat.reduceBEq, Nat.reduceAdd, Nat.reduceEqDiff, Nat.reduceLeDiff, Nat.reduceSub, Nat.reduceMul, e0, e1, e5, hc, htN, gat_tab, hms, hms']
    refine call_of (sp_SameInts (l t) (l t) (f t) (g t) (hl t htN)) ?_
    rw [decide_eq_true ⟨rfl, hfg t htN⟩]
    simp -implicitDefEqProofs only [go_sem, Nat.reduceLT, Nat.reduceBEq, Nat.reduceAdd, Nat.reduceEqDiff, Nat.reduceLeDiff, Nat.reduceSub, Nat.reduceMul, e5, hwt]
    exact l_n ⟨t + 1, by omega, rfl, rfl, by simp -implicitDefEqProofs only [go_sem, Nat.reduceLT, Nat.reduceBEq, Nat.reduceAdd, Nat.reduceEqDiff, Nat.reduceLeDiff, Nat.reduceSub, Nat.reduceMul, e0], by simp -implicitDefEqProofs only [go_sem, Nat.reduceLT, Nat.reduceBEq, Nat.reduceAdd, Nat.reduceEqDiff, Nat.reduceLeDiff, Nat.reduceSub, Nat.reduceMul, e1], by simp -implicitDefEqProofs only [go_sem, Nat.reduceLT, Nat.reduceBEq, Nat.reduceAdd, Nat.reduceEqDiff, Nat.reduceLeDiff, Nat.reduceSub, Nat.reduceMul]; rfl, by omega⟩
  · simp -implicitDefEqProofs only [go_sem, Nat.reduceLT, Nat.reduceBEq, Nat.reduceAdd, Nat.reduceEqDiff, Nat.reduceLeDiff, Nat.reduceSub, Nat.reduceMul]
    exact fin_ret rfl (by decide) (fz_bool rfl) fun _ _ => rfl
end Go.Proofs.Ytdpibcniodhinaa.Gh
/- The statement ConvLinear, over ghost values. -/
namespace Go.Proofs.Ytdpibcniodhinaa.Gh
open Go Go.RowKit
open Alg (CR Ps Dg Zm Mn El Cg sm pw Irr Prm)
set_option linter.unusedVariables false
set_option linter.unusedSimpArgs false

theorem stE_of {r : Nat} {l : Nat → Nat} {f : Nat → Nat → Int} {q : Int} : ∀ {T : Nat}, (∀ t, t < T → l t = r ∧ ∀ i, i < r → 0 ≤ f t i ∧ f t i < q) → stE r l f q T = 0 := by
  intro T
  induction T with
  | zero => intro _; rfl
  | succ T ih =>
    intro h
    rw [stE, if_pos (ih fun t ht => h t (by omega)), inE, if_pos (h T (by omega)).1, if_pos fun i hi => (h T (by omega)).2 i (by rw [← (h T (by omega)).1]; exact hi)]
theorem tab_cons {α : Type} (x : α) (m : Nat) (g : Nat → α) : x :: tab m g = tab (m + 1) fun j => if j = 0 then x else g (j - 1) := by
  apply List.ext_getElem
  · simp [tab]
  · intro i h1 h2
    cases i with
    | zero => simp [tab]
    | succ i => simp [tab]
/-- a slice that was grown is handed on, and never used again -/
theorem call_sl {f : FuncId} {q : Kn} {H : Heap} {lo n T : Nat} {gs x0 res : GV} {l : Nat → Nat} {F : Nat → Nat → Int} (hs : Sl H lo n gs T (msr l F)) (hsp : ∀ H n, Spec prog f [x0, msg T l F] H n res H n)
    (hq : ∀ H'', (∀ c, ¬ Own gs c → H'' c = H c) → q res H'' n) : hcall prog f [x0, gs] q H n := by
  rcases hs with ⟨rfl, rfl⟩ | ⟨b, h1, h2, rfl, h4⟩
  · refine call_of (spec_arg (ys := [x0, .sl 0 []]) rfl (fun K v j hj hv => ?_) (hsp H n)) (hq _ fun _ _ => rfl)
    rcases j with _ | _ | j
    · exact hv
    · exact vr_nil hv
    · simp at hj; omega
  · exact call_of (spec_frz (xs := [x0]) (ys := []) h2 h4 tab_len (hsp _ n)) (hq _ fun c hc => upd_ne _ _ fun e => hc (own_own.2 e))

section
variable {k : Nat} {M : Mn k}
/-- the outputs, as elements -/
noncomputable def Enc.Y (e : Enc) (M : Mn k) (f : Nat → Nat → Int) (t j : Nat) : Alg.El M := e.so M (e.S (qn M : Nat) f t) (f t) e.r 0 j
noncomputable def Enc.yv (e : Enc) (M : Mn k) (f : Nat → Nat → Int) (t j : Nat) : Int := (cn (e.Y M f t j) : Nat)
theorem Enc.oval_rr (e : Enc) (f : Nat → Nat → Int) (T : Nat) : Rr (e.oval M f T) T (fun _ => e.w 0) (e.yv M f) := by
  unfold oval
  by_cases h : T = 0
  · rw [if_pos h]; exact .inr ⟨rfl, h⟩
  · rw [if_neg h]; exact .inl rfl
theorem sp_Enc_ok {H : Heap} {n : Nat} (e : Enc) (hB : e.Bnd) (h : Fi M) (hd : e.Des M) (hce : e.ce = 0) (T : Nat) (l : Nat → Nat) (f : Nat → Nat → Int) (hT : T ≤ 100000) (hG : ∀ t, t < T → l t = e.r ∧ ∀ i, i < e.r → 0 ≤ f t i ∧ f t i < (qn M : Nat)) :
    Spec prog fid_conv_Encode [e.gv, msg T l f] H n (.tup [e.oval M f T, .int .i64 0]) H n := by
  have h1 := sp_conv_Encode (M := M) (H := H) (n := n) e hB h hd T l f hT
  rwa [if_pos hce, if_pos (stE_of hG)] at h1
theorem Enc.ro_lin (e : Enc) (f1 f2 f3 : Nat → Nat → Int) (A : Alg.El M) (t j : Nat) (h3 : ∀ u i, u ≤ t → i < e.r → ein M (f3 u i) = ein M (f1 u i) + A * ein M (f2 u i)) : e.ro M f3 t j e.r 0 = e.ro M f1 t j e.r 0 + A * e.ro M f2 t j e.r 0 := by
  unfold ro
  rw [Alg.sm_zero, Alg.sm_zero, Alg.sm_zero, Alg.add_zero, Alg.add_zero, Alg.add_zero, Alg.mul_sm, ← Alg.sm_add]
  refine Alg.sm_congr fun i hi => ?_
  rw [Alg.mul_sm, ← Alg.sm_add]
  refine Alg.sm_congr fun d hd => ?_
  unfold rt
  rw [h3 (t - d) i (by omega) hi, Alg.mul_add, Alg.mul_left_comm]
theorem Enc.Y_lin (e : Enc) (h : Fc M) (f1 f2 f3 : Nat → Nat → Int) (A : Alg.El M) (t j : Nat) (hw : ∀ i, i < e.r → j < e.w i) (g1 : ∀ u, u < t → ∀ i, i < e.r → 0 ≤ f1 u i ∧ f1 u i < (qn M : Nat)) (g2 : ∀ u, u < t → ∀ i, i < e.r → 0 ≤ f2 u i ∧ f2 u i < (qn M : Nat)) (g3 : ∀ u, u < t → ∀ i, i < e.r → 0 ≤ f3 u i ∧ f3 u i < (qn M : Nat))
    (h3 : ∀ u i, u ≤ t → i < e.r → ein M (f3 u i) = ein M (f1 u i) + A * ein M (f2 u i)) : e.Y M f3 t j = e.Y M f1 t j + A * e.Y M f2 t j := by
  unfold Y
  rw [← e.ro_so h f1 t j hw g1, ← e.ro_so h f2 t j hw g2, ← e.ro_so h f3 t j hw g3]
  exact e.ro_lin f1 f2 f3 A t j h3
/-- a message behind a step of zeros -/
def sh0 (f : Nat → Nat → Int) : Nat → Nat → Int := fun t i => if t = 0 then 0 else f (t - 1) i
theorem Enc.Y_sh0 (e : Enc) (h : Fc M) (f : Nat → Nat → Int) (j : Nat) (hw : ∀ i, i < e.r → j < e.w i) : e.Y M (sh0 f) 0 j = 0 := by
  unfold Y
  rw [← e.ro_so h (sh0 f) 0 j hw fun u hu => by omega]
  unfold ro
  rw [Alg.sm_zero, Alg.add_zero]
  refine Alg.sm_const_zero fun i hi => Alg.sm_const_zero fun d hd => ?_
  have hz : sh0 f (0 - d) i = 0 := if_pos (by omega)
  rw [rt, hz, ein_zero h, Alg.mul_zero]
theorem Enc.Y_sh (e : Enc) (h : Fc M) (f : Nat → Nat → Int) (t j : Nat) (hw : ∀ i, i < e.r → j < e.w i) (g : ∀ u, u < t → ∀ i, i < e.r → 0 ≤ f u i ∧ f u i < (qn M : Nat)) : e.Y M (sh0 f) (t + 1) j = e.Y M f t j := by
  have hq2 := qn_two M
  unfold Y
  rw [← e.ro_so h (sh0 f) (t + 1) j hw fun u hu i hi => ?_, ← e.ro_so h f t j hw g]
  · unfold ro
    rw [Alg.sm_zero, Alg.add_zero, Alg.sm_zero, Alg.add_zero]
    refine Alg.sm_congr fun i hi => ?_
    rw [Alg.sm_ext (m := min (t + 1) (e.n i j)) (by omega) fun d d1 d2 => ?_]
    · refine Alg.sm_congr fun d hd => ?_
      have hs : sh0 f (t + 1 - d) i = f (t - d) i := by
        rw [sh0, if_neg (by omega), show t + 1 - d - 1 = t - d by omega]
      rw [rt, rt, hs]
    · have hz : sh0 f (t + 1 - d) i = 0 := if_pos (by omega)
      rw [rt, hz, ein_zero h, Alg.mul_zero]
  · unfold sh0
    by_cases e0 : u = 0
    · rw [if_pos e0]; omega
    · rw [if_neg e0]; exact g (u - 1) (by omega) i hi
end

set_option maxHeartbeats 4000000 in
theorem sp_ConvLinear {H : Heap} {n : Nat} (e : Enc) (T : Nat) (l : Nat → Nat) (f : Nat → Nat → Int) (T' : Nat) (l' : Nat → Nat) (f' : Nat → Nat → Int) (a : Int) : Spec prog fid_law20_ConvLinear [e.gv, msg T l f, msg T' l' f', .int .i64 a] H n (.bool true) H n := by
  refine spec_ends hmix ok_law20_ConvLinear rfl fun hF => ?_
  show gw prog B_law20_ConvLinear _ (tl 212 _) H n
  have hu : ∀ x b, b < n → upd H n x b = H b := fun x b hb => upd_ne _ _ (by omega)
  simp -implicitDefEqProofs only [B_law20_ConvLinear, go_sem, Nat.reduceLT, Nat.reduceBEq, Nat.reduceAdd, Nat.reduceEqDiff, Nat.reduceLeDiff, Nat.reduceSub, Nat.reduceMul]
  refine call_of (sp_few e) ?_
  by_cases hb : e.Bnd ∧ e.gs e.r ≤ 3000
  case neg =>
    simp -implicitDefEqProofs only [go_sem, Nat.reduceLT, Nat.reduceBEq, Nat.reduceAdd, Nat.reduceEqDiff, Nat.reduceLeDiff, Nat.reduceSub, Nat.reduceMul, hb]
    exact fin_ret rfl (by decide) (fz_bool rfl) (hu _)
  have hB := hb.1
  have hb' : decide (e.Bnd ∧ e.gs e.r ≤ 3000) = true := decide_eq_true hb
  rw [hb']
  by_cases hT : T ≤ 60
  case neg =>
    have hTI : (60 : Int) < (T : Nat) := by omega
    simp -implicitDefEqProofs only [go_sem, Nat.reduceLT, Nat.reduceBEq, Nat.reduceAdd, Nat.reduceEqDiff, Nat.reduceLeDiff, Nat.reduceSub, Nat.reduceMul, hTI]
    exact fin_ret rfl (by decide) (fz_bool rfl) (hu _)
  have hTI : ¬ (60 : Int) < (T : Nat) := by omega
  by_cases hTT : T = T'
  case neg =>
    have hTTI : ¬ ((T : Int) = (T' : Int)) := by omega
    simp -implicitDefEqProofs only [go_sem, Nat.reduceLT, Nat.reduceBEq, Nat.reduceAdd, Nat.reduceEqDiff, Nat.reduceLeDiff, Nat.reduceSub, Nat.reduceMul, hTI, hTTI]
    exact fin_ret rfl (by decide) (fz_bool rfl) (hu _)
  subst hTT
  simp -implicitDefEqProofs only [go_sem, Nat.reduceLT, Nat.reduceBEq, Nat.reduceAdd, Nat.reduceEqDiff, Nat.reduceLeDiff, Nat.reduceSub, Nat.reduceMul, hTI]
  refine call_of (sp_ref20_Check e hB) ?_
  by_cases hce : e.ce = 0
  case neg =>
    simp -implicitDefEqProofs only [go_sem, Nat.reduceLT, Nat.reduceBEq, Nat.reduceAdd, Nat.reduceEqDiff, Nat.reduceLeDiff, Nat.reduceSub, Nat.reduceMul, hce]
    exact fin_ret rfl (by decide) (fz_bool rfl) (hu _)
  obtain ⟨k, M, h, hd⟩ : ∃ (k : Nat) (M : Mn k) (_ : Fi M), e.Des M := by
    rcases e.cases with hh | hf
    · exact hh
    · exact absurd (Enc.ok hce).1 hf
  have hqo := hd.qo h
  have hq2 := qn_two M
  have hr := hB.r
  have hok := Enc.ok hce
  have hr0 : 0 < e.r := by have := hok.2.1.1; omega
  have hw0 := hB.w 0 hr0
  have hww : ∀ j, j < e.w 0 → ∀ i, i < e.r → j < e.w i := fun j hj i hi => by rw [hok.2.1.2.2.2 i hi]; exact hj
  rw [hce]
  simp -implicitDefEqProofs only [go_sem, Nat.reduceLT, Nat.reduceBEq, Nat.reduceAdd, Nat.reduceEqDiff, Nat.reduceLeDiff, Nat.reduceSub, Nat.reduceMul]
  refine call_of (sp_ref20_Steps e hB T l f (by omega)) ?_
  rw [hqo]
  by_cases hz : stE e.r l f (qn M : Nat) T = 0
  case neg =>
    simp -implicitDefEqProofs only [go_sem, Nat.reduceLT, Nat.reduceBEq, Nat.reduceAdd, Nat.reduceEqDiff, Nat.reduceLeDiff, Nat.reduceSub, Nat.reduceMul, hz]
    exact fin_ret rfl (by decide) (fz_bool rfl) (hu _)
  have hst := stE_ok hz
  rw [hz]
  simp -implicitDefEqProofs only [go_sem, Nat.reduceLT, Nat.reduceBEq, Nat.reduceAdd, Nat.reduceEqDiff, Nat.reduceLeDiff, Nat.reduceSub, Nat.reduceMul]
  refine call_of (sp_ref20_Steps e hB T l' f' (by omega)) ?_
  rw [hqo]
  by_cases hz' : stE e.r l' f' (qn M : Nat) T = 0
  case neg =>
    simp -implicitDefEqProofs only [go_sem, Nat.reduceLT, Nat.reduceBEq, Nat.reduceAdd, Nat.reduceEqDiff, Nat.reduceLeDiff, Nat.reduceSub, Nat.reduceMul, hz']
    exact fin_ret rfl (by decide) (fz_bool rfl) (hu _)
  have hst' := stE_ok hz'
  rw [hz']
  simp -implicitDefEqProofs only [go_sem, Nat.reduceLT, Nat.reduceBEq, Nat.reduceAdd, Nat.reduceEqDiff, Nat.reduceLeDiff, Nat.reduceSub, Nat.reduceMul]
  have hfd : fgv e.p e.m (isl e.l e.mo) = fd M := Des.fd hd
  have hdp : qo e.p e.m = (qn M : Nat) := hqo
  generalize hA : inq (qn M : Nat) a = A
  have sIn : ∀ (H : Heap) (n : Nat), Spec prog fid_ref04_In [fgv e.p e.m (isl e.l e.mo), .int .i64 a] H n (.int .i64 A) H n := fun H n => by
    have := sp_ref04_In (H := H) (n := n) e.p e.m (isl e.l e.mo) rfl a
    rwa [hqo, hA] at this
  have sAdd : ∀ (H : Heap) (n t : Nat), t < T → Spec prog fid_ref09_AddTo [fgv e.p e.m (isl e.l e.mo), isl (l t) (f t), .int .i64 A, isl (l' t) (f' t)] H n (isl (l t) (adf M A (f t) (f' t))) H n := fun H n t ht => by
    rw [hfd]; exact sp_AddTo h A (.sl _ _) (.sl _ _) (by have := (hst t ht).1; have := (hst' t ht).1; omega) (by have := (hst t ht).1; omega)
  let g : Nat → Nat → Int := fun t => adf M A (f t) (f' t)
  refine loop_rule (fun (t : Nat) E H' n' => ∃ gs, n + 1 ≤ n' ∧ H' n = some e.cs ∧ (∀ b, b < n → H' b = H b) ∧ Sl H' (n + 1) n' gs t (msr l g) ∧ E 1 = msg T l f ∧ E 2 = msg T l' f' ∧ E 3 = .int .i64 a ∧ E 4 = .ptr n 0 ∧ E 9 = gs ∧ E 10 = .int .i64 (t : Nat) ∧ t ≤ T) (fun t => T - t) 0 ⟨.nil, by omega, by simp -implicitDefEqProofs only [go_sem, Nat.reduceLT, Nat.reduceBEq, Nat.reduceAdd, Nat.reduceEqDiff, Nat.reduceLeDiff, Nat.reduceSub, Nat.reduceMul], hu _, .nil, rfl, rfl, rfl, rfl, rfl, rfl, by omega⟩ ?_
  rintro t E H' n' ⟨gs, hn, c0, ho, sl, e1, e2, e3, e4, e9, e10, ht⟩
  simp -implicitDefEqProofs only [go_sem, Nat.reduceLT, Nat.reduceBEq, Nat.reduceAdd, Nat.reduceEqDiff, Nat.reduceLeDiff, Nat.reduceSub, Nat.reduceMul, e1, e10]
  refine c_split (fun hc => ?_) (fun hc => ?_)
  · have htN : t < T := by omega
    have hwt := wrap64 (x := (t : Int) + 1) (by omega)
    have f0 : n < n' := by omega
    have hms : msr l f t = isl (l t) (f t) := rfl
    have hms' : msr l' f' t = isl (l' t) (f' t) := rfl
    have hk := sl.cell
    simp -implicitDefEqProofs only [go_sem, Nat.reduceLT, Nat.reduceBEq, Nat.reduceAdd, Nat.reduceEqDiff, Nat.reduceLeDiff, Nat.reduceSub, Nat.reduceMul, e1, e2, e3, e4, e9, e10, c0, f0, hc, htN, gat_tab, hms, hms']
    refine mcall_of (.int _ _) (fun H1 n1 _ _ => sIn H1 n1) ?_
    simp -implicitDefEqProofs only [go_sem, Nat.reduceLT, Nat.reduceBEq, Nat.reduceAdd, Nat.reduceEqDiff, Nat.reduceLeDiff, Nat.reduceSub, Nat.reduceMul, e2, e10, hc, htN, gat_tab, hms']
    refine mcall_of (pl_isl _ _).nr (fun H1 n1 _ _ => sAdd H1 n1 t htN) ?_
    simp -implicitDefEqProofs only [go_sem, Nat.reduceLT, Nat.reduceBEq, Nat.reduceAdd, Nat.reduceEqDiff, Nat.reduceLeDiff, Nat.reduceSub, Nat.reduceMul]
    refine app_one sl rfl rfl (by omega) fun H2 a1 a2 => ?_
    simp -implicitDefEqProofs only [go_sem, Nat.reduceLT, Nat.reduceBEq, Nat.reduceAdd, Nat.reduceEqDiff, Nat.reduceLeDiff, Nat.reduceSub, Nat.reduceMul, e10, hwt]
    refine l_n ⟨t + 1, by omega, .own n' 0 (t + 1), by omega, ?_, fun b hb => ?_, .inr ⟨n', by omega, by omega, rfl, a1⟩, by simp -implicitDefEqProofs only [go_sem, Nat.reduceLT, Nat.reduceBEq, Nat.reduceAdd, Nat.reduceEqDiff, Nat.reduceLeDiff, Nat.reduceSub, Nat.reduceMul, e1], by simp -implicitDefEqProofs only [go_sem, Nat.reduceLT, Nat.reduceBEq, Nat.reduceAdd, Nat.reduceEqDiff, Nat.reduceLeDiff, Nat.reduceSub, Nat.reduceMul, e2], by simp -implicitDefEqProofs only [go_sem, Nat.reduceLT, Nat.reduceBEq, Nat.reduceAdd, Nat.reduceEqDiff, Nat.reduceLeDiff, Nat.reduceSub, Nat.reduceMul, e3], by simp -implicitDefEqProofs only [go_sem, Nat.reduceLT, Nat.reduceBEq, Nat.reduceAdd, Nat.reduceEqDiff, Nat.reduceLeDiff, Nat.reduceSub, Nat.reduceMul, e4], by simp -implicitDefEqProofs only [go_sem, Nat.reduceLT, Nat.reduceBEq, Nat.reduceAdd, Nat.reduceEqDiff, Nat.reduceLeDiff, Nat.reduceSub, Nat.reduceMul], by simp -implicitDefEqProofs only [go_sem, Nat.reduceLT, Nat.reduceBEq, Nat.reduceAdd, Nat.reduceEqDiff, Nat.reduceLeDiff, Nat.reduceSub, Nat.reduceMul]; rfl, by omega⟩
    · rw [a2 _ (by omega) fun h => by have := sl.lt h; omega, c0]
    · rw [a2 _ (by omega) fun h => by have := sl.lt h; omega, ho b hb]
  have : t = T := by omega
  subst this
  have f0 : n < n' := by omega
  have hG3 : ∀ u, u < t → l u = e.r ∧ ∀ i, i < e.r → 0 ≤ g u i ∧ g u i < (qn M : Nat) := fun u hu => by
    refine ⟨(hst u hu).1, fun i hi => ?_⟩
    show 0 ≤ adf M A (f u) (f' u) i ∧ adf M A (f u) (f' u) i < _
    unfold adf
    by_cases e0 : f' u i = 0
    · rw [if_pos e0]; exact (hst u hu).2 i hi
    · rw [if_neg e0]; have := cn_lt (ein M (f u i) + ein M A * ein M (f' u i)); omega
  have hG4 : ∀ u, u < t + 1 → (fun u => if u = 0 then e.r else l (u - 1)) u = e.r ∧ ∀ i, i < e.r → 0 ≤ sh0 f u i ∧ sh0 f u i < (qn M : Nat) := fun u hu => by
    unfold sh0
    by_cases e0 : u = 0
    · refine ⟨if_pos e0, fun i hi => ?_⟩
      rw [if_pos e0]; omega
    · refine ⟨(if_neg e0).trans (hst (u - 1) (by omega)).1, fun i hi => ?_⟩
      rw [if_neg e0]; exact (hst (u - 1) (by omega)).2 i hi
  simp -implicitDefEqProofs only [go_sem, Nat.reduceLT, Nat.reduceBEq, Nat.reduceAdd, Nat.reduceEqDiff, Nat.reduceLeDiff, Nat.reduceSub, Nat.reduceMul, e1, e4, c0]
  refine call_of (sp_Enc_ok (M := M) e hB h hd hce t l f (by omega) hst) ?_
  simp -implicitDefEqProofs only [go_sem, Nat.reduceLT, Nat.reduceBEq, Nat.reduceAdd, Nat.reduceEqDiff, Nat.reduceLeDiff, Nat.reduceSub, Nat.reduceMul, e2, e4, c0]
  refine call_of (sp_Enc_ok (M := M) e hB h hd hce t l' f' (by omega) hst') ?_
  simp -implicitDefEqProofs only [go_sem, Nat.reduceLT, Nat.reduceBEq, Nat.reduceAdd, Nat.reduceEqDiff, Nat.reduceLeDiff, Nat.reduceSub, Nat.reduceMul, e4, e9, c0]
  refine call_sl sl (fun H n => sp_Enc_ok (M := M) e hB h hd hce t l g (by omega) hG3) fun H2 hH2 => ?_
  have c2 : H2 n = some e.cs := by rw [hH2 _ fun h => by have := sl.lt h; omega, c0]
  have ho2 : ∀ b, b < n → H2 b = H b := fun b hb => by rw [hH2 _ fun h => by have := sl.lt h; omega, ho b hb]
  have hzl : (GV.sl e.r (List.replicate e.r (GV.int .i64 0))) = isl e.r fun _ => 0 := congrArg (GV.sl e.r) (tab_rep _)
  have hmv : GV.sl (1 + t) ((isl e.r fun _ => 0) :: tab t (msr l f)) = msg (t + 1) (fun u => if u = 0 then e.r else l (u - 1)) (sh0 f) := by
    rw [Nat.add_comm 1 t, tab_cons]
    refine congrArg (GV.sl (t + 1)) (tab_congr fun j hj => ?_)
    by_cases e0 : j = 0
    · subst e0
      rw [if_pos rfl]
      show isl e.r (fun _ => 0) = isl (if 0 = 0 then e.r else l (0 - 1)) (sh0 f 0)
      rw [if_pos rfl]; rfl
    · rw [if_neg e0]
      show isl (l (j - 1)) (f (j - 1)) = isl (if j = 0 then e.r else l (j - 1)) (sh0 f j)
      rw [if_neg e0]
      refine isl_congr fun i _ => ?_
      rw [sh0, if_neg e0]
  simp -implicitDefEqProofs only [go_sem, Nat.reduceLT, Nat.reduceBEq, Nat.reduceAdd, Nat.reduceEqDiff, Nat.reduceLeDiff, Nat.reduceSub, Nat.reduceMul, e1, e4, c2, f0]
  repeat with_reducible refine And.intro (by omega) ?_
  simp -implicitDefEqProofs only [go_sem, Nat.reduceLT, Nat.reduceBEq, Nat.reduceAdd, Nat.reduceEqDiff, Nat.reduceLeDiff, Nat.reduceSub, Nat.reduceMul, hzl]
  repeat with_reducible refine And.intro (by omega) ?_
  have sE4 : ∀ (H : Heap) (n : Nat), Spec prog fid_conv_Encode [e.gv, GV.sl (1 + t) ((isl e.r fun _ => 0) :: tab t (msr l f))] H n (.tup [e.oval M (sh0 f) (t + 1), .int .i64 0]) H n := fun H n => by
    rw [hmv]; exact sp_Enc_ok (M := M) e hB h hd hce (t + 1) _ (sh0 f) (by omega) hG4
  have hov : e.oval M (sh0 f) (t + 1) = msg (t + 1) (fun _ => e.w 0) (e.yv M (sh0 f)) := (e.oval_rr (sh0 f) (t + 1)).sl (by omega)
  rw [hov] at sE4
  refine mcall_of (Pl.nr (.tup _ fun j hj => by
    rcases j with _ | _ | j
    · exact .sl _ _ (pl_tab fun _ _ => pl_isl _ _)
    · exact .int _ _
    · simp at hj; omega)) (fun H1 n1 _ _ => sE4 H1 n1) ?_
  have rx := e.oval_rr (M := M) f t
  have ry := e.oval_rr (M := M) f' t
  have rz := e.oval_rr (M := M) g t
  have lx := rx.len
  have ly := ry.len
  have lz := rz.len
  have hw1 : IntKind.i64.wrap ((t : Int) + 1) = ((t + 1 : Nat) : Int) := (wrap64 (by omega)).trans (by omega)
  simp -implicitDefEqProofs only [go_sem, Nat.reduceLT, Nat.reduceBEq, Nat.reduceAdd, Nat.reduceEqDiff, Nat.reduceLeDiff, Nat.reduceSub, Nat.reduceMul, e1, lx, ly, lz, hw1]
  have hz1 : (0 : Int) < ((t + 1 : Nat) : Int) := by omega
  have hz2 : 0 < t + 1 := by omega
  have hz3 : (0 : Int) < (e.r : Int) := by omega
  have hz4 : (0 : Int).toNat = 0 := rfl
  have hz5 : (0 : Int) ≤ 0 := Int.le_refl 0
  have hz6 : (0 : Int) ≤ 1 := by decide
  have hz7 : 1 ≤ t + 1 := by omega
  have hz8 : (1 : Int).toNat = 1 := rfl
  have htk : (tab (t + 1) (msr (fun _ => e.w 0) (e.yv M (sh0 f)))).take 1 = tab 1 (msr (fun _ => e.w 0) (e.yv M (sh0 f))) := tab_take 1 (by omega)
  have htd : (tab (t + 1) (msr (fun _ => e.w 0) (e.yv M (sh0 f)))).drop 1 = tab t (msr (fun _ => e.w 0) fun u => e.yv M (sh0 f) (u + 1)) := by
    rw [tab_drop, Nat.add_sub_cancel]; exact tab_congr fun u _ => by rw [Nat.add_comm 1 u]; rfl
  have hR : msr (fun _ => e.w 0) (e.yv M (sh0 f)) 0 = isl (e.w 0) (e.yv M (sh0 f) 0) := rfl
  have hrw : e.rw 0 = .sl (e.w 0) (tab (e.w 0) (e.pl 0)) := rfl
  simp -implicitDefEqProofs only [go_sem, Nat.reduceLT, Nat.reduceBEq, Nat.reduceAdd, Nat.reduceEqDiff, Nat.reduceLeDiff, Nat.reduceSub, Nat.reduceMul, e4, c2, f0, hz1, hz2, hz3, hz4, hz5, hz6, hz7, hz8, htk, Nat.zero_mul, hr0, gat_tab, hR, hrw]
  refine mcall_of (.int _ _) (fun H1 n1 _ _ => sp_Weight 1 70 (fun _ => e.w 0) (e.yv M (sh0 f)) (.inl rfl) (by omega) (by omega) fun _ _ => hw0) ?_
  have hY0 : ∀ j, j < e.w 0 → e.yv M (sh0 f) 0 j = 0 := fun j hj => by rw [Enc.yv, e.Y_sh0 h.fc f j (hww j hj), cn_zero]; rfl
  have hW : wtm (fun _ => e.w 0) (e.yv M (sh0 f)) 1 = 0 := by
    have h1 := sumn_le1 (c := 0) (e.w 0) (f := fun i => if e.yv M (sh0 f) 0 i = 0 then 0 else 1) fun j hj => by rw [if_pos (hY0 j hj)]; exact Nat.le_refl _
    show sumn (fun t => wt (e.w 0) (e.yv M (sh0 f) t)) 1 = 0
    rw [sumn, sumn, wt]; omega
  rw [hW]
  have hnc : ((0 : Nat) : Int) = 0 := rfl
  have htt : (tab t (msr (fun _ => e.w 0) fun u => e.yv M (sh0 f) (u + 1))).take t = tab t (msr (fun _ => e.w 0) fun u => e.yv M (sh0 f) (u + 1)) := tab_take t (Nat.le_refl _)
  have hsub : t + 1 - 1 = t := Nat.add_sub_cancel ..
  have hz9 : (1 : Int) ≤ ((t + 1 : Nat) : Int) := by omega
  simp -implicitDefEqProofs only [go_sem, Nat.reduceLT, Nat.reduceBEq, Nat.reduceAdd, Nat.reduceEqDiff, Nat.reduceLeDiff, Nat.reduceSub, Nat.reduceMul, hnc, hz1, hz2, hz6, hz7, hz8, hz9, htd, htt, hsub]
  refine call_of (sp_SameRows' t (fun _ => e.w 0) (fun u => e.yv M (sh0 f) (u + 1)) (e.yv M f) (.inl rfl) rx (by omega) (fun _ _ => by omega) fun u hu j hj => ?_) ?_
  · rw [Enc.yv, Enc.yv, e.Y_sh h.fc f u j (hww j hj) fun v hv => (hst v (by omega)).2]
  simp -implicitDefEqProofs only [go_sem, Nat.reduceLT, Nat.reduceBEq, Nat.reduceAdd, Nat.reduceEqDiff, Nat.reduceLeDiff, Nat.reduceSub, Nat.reduceMul]
  have hgv : ∀ u i, u < t → i < e.r → ein M (g u i) = ein M (f u i) + ein M A * ein M (f' u i) := fun u i hu hi => by
    show ein M (adf M A (f u) (f' u) i) = _
    unfold adf
    by_cases e0 : f' u i = 0
    · rw [if_pos e0, e0, ein_zero h.fc, Alg.mul_zero, Alg.add_zero]
    · rw [if_neg e0, ein_cn h.fc]
  have hlin : ∀ u j, u < t → j < e.w 0 → e.yv M g u j = adf M A (e.yv M f u) (e.yv M f' u) j := fun u j hu hj => by
    have hY := e.Y_lin (M := M) h.fc f f' g (ein M A) u j (hww j hj) (fun v hv => (hst v (by omega)).2) (fun v hv => (hst' v (by omega)).2) (fun v hv => (hG3 v (by omega)).2) fun v i hv hi => hgv v i (by omega) hi
    unfold adf
    by_cases e0 : e.yv M f' u j = 0
    · have e1 : e.Y M f' u j = 0 := by
        have : cn (e.Y M f' u j) = 0 := by have h9 := e0; unfold Enc.yv at h9; omega
        exact cn_eq_zero.1 this
      rw [if_pos e0, Enc.yv, hY, e1, Alg.mul_zero, Alg.add_zero]; rfl
    · rw [if_neg e0, Enc.yv, hY, Enc.yv, Enc.yv, ein_cn h.fc, ein_cn h.fc]
  have sAd2 : ∀ (H : Heap) (n u : Nat), Spec prog fid_ref09_AddTo [fgv e.p e.m (isl e.l e.mo), isl (e.w 0) (e.yv M f u), .int .i64 A, isl (e.w 0) (e.yv M f' u)] H n (isl (e.w 0) (adf M A (e.yv M f u) (e.yv M f' u))) H n := fun H n u => by
    rw [hfd]; exact sp_AddTo h A (.sl _ _) (.sl _ _) (Nat.le_refl _) (by omega)
  refine loop_rule (fun (u : Nat) E H' n2 => H' n = some e.cs ∧ n < n2 ∧ (∀ b, b < n → H' b = H b) ∧ E 1 = msg t l f ∧ E 3 = .int .i64 a ∧ E 4 = .ptr n 0 ∧ E 11 = e.oval M f t ∧ E 13 = e.oval M f' t ∧ E 15 = e.oval M g t ∧ E 19 = .int .i64 (u : Nat) ∧ u ≤ t) (fun u => t - u) 0 ⟨c2, f0, ho2, by simp -implicitDefEqProofs only [go_sem, Nat.reduceLT, Nat.reduceBEq, Nat.reduceAdd, Nat.reduceEqDiff, Nat.reduceLeDiff, Nat.reduceSub, Nat.reduceMul, e1], by simp -implicitDefEqProofs only [go_sem, Nat.reduceLT, Nat.reduceBEq, Nat.reduceAdd, Nat.reduceEqDiff, Nat.reduceLeDiff, Nat.reduceSub, Nat.reduceMul, e3], by simp -implicitDefEqProofs only [go_sem, Nat.reduceLT, Nat.reduceBEq, Nat.reduceAdd, Nat.reduceEqDiff, Nat.reduceLeDiff, Nat.reduceSub, Nat.reduceMul, e4], rfl, rfl, rfl, rfl, by omega⟩ ?_
  clear hov sE4 hmv hzl f0 c2 ho2 hH2 H2 e10 e9 e4 e3 e2 e1 sl ho c0 hn gs n' H' E
  rintro u E H' n' ⟨c0, f0, ho, e1, e3, e4, e11, e13, e15, e19, hu'⟩
  simp -implicitDefEqProofs only [go_sem, Nat.reduceLT, Nat.reduceBEq, Nat.reduceAdd, Nat.reduceEqDiff, Nat.reduceLeDiff, Nat.reduceSub, Nat.reduceMul, e1, e19]
  refine c_split (fun hc => ?_) (fun hc => ?_)
  · have huN : u < t := by omega
    have hwu := wrap64 (x := (u : Int) + 1) (by omega)
    have sx := rx.sl (by omega)
    have sy := ry.sl (by omega)
    have sz := rz.sl (by omega)
    have hmx : msr (fun _ => e.w 0) (e.yv M f) u = isl (e.w 0) (e.yv M f u) := rfl
    have hmy : msr (fun _ => e.w 0) (e.yv M f') u = isl (e.w 0) (e.yv M f' u) := rfl
    have hmz : msr (fun _ => e.w 0) (e.yv M g) u = isl (e.w 0) (e.yv M g u) := rfl
    simp -implicitDefEqProofs only [go_sem, Nat.reduceLT, Nat.reduceBEq, Nat.reduceAdd, Nat.reduceEqDiff, Nat.reduceLeDiff, Nat.reduceSub, Nat.reduceMul, e3, e4, e11, e13, e15, e19, c0, f0, sx, sy, sz, hc, huN, gat_tab, hmx, hmy, hmz]
    refine mcall_of (.int _ _) (fun H1 n1 _ _ => sIn H1 n1) ?_
    simp -implicitDefEqProofs only [go_sem, Nat.reduceLT, Nat.reduceBEq, Nat.reduceAdd, Nat.reduceEqDiff, Nat.reduceLeDiff, Nat.reduceSub, Nat.reduceMul, e13, e19, sy, hc, huN, gat_tab, hmy]
    refine mcall_of (pl_isl _ _).nr (fun H1 n1 _ _ => sAd2 H1 n1 u) ?_
    simp -implicitDefEqProofs only [go_sem, Nat.reduceLT, Nat.reduceBEq, Nat.reduceAdd, Nat.reduceEqDiff, Nat.reduceLeDiff, Nat.reduceSub, Nat.reduceMul]
    refine call_of (sp_SameInts (e.w 0) (e.w 0) _ _ (by omega)) ?_
    rw [decide_eq_true ⟨rfl, fun j hj => hlin u j huN hj⟩]
    simp -implicitDefEqProofs only [go_sem, Nat.reduceLT, Nat.reduceBEq, Nat.reduceAdd, Nat.reduceEqDiff, Nat.reduceLeDiff, Nat.reduceSub, Nat.reduceMul, e19, hwu]
    exact l_n ⟨u + 1, by omega, c0, f0, ho, by simp -implicitDefEqProofs only [go_sem, Nat.reduceLT, Nat.reduceBEq, Nat.reduceAdd, Nat.reduceEqDiff, Nat.reduceLeDiff, Nat.reduceSub, Nat.reduceMul, e1], by simp -implicitDefEqProofs only [go_sem, Nat.reduceLT, Nat.reduceBEq, Nat.reduceAdd, Nat.reduceEqDiff, Nat.reduceLeDiff, Nat.reduceSub, Nat.reduceMul, e3], by simp -implicitDefEqProofs only [go_sem, Nat.reduceLT, Nat.reduceBEq, Nat.reduceAdd, Nat.reduceEqDiff, Nat.reduceLeDiff, Nat.reduceSub, Nat.reduceMul, e4], by simp -implicitDefEqProofs only [go_sem, Nat.reduceLT, Nat.reduceBEq, Nat.reduceAdd, Nat.reduceEqDiff, Nat.reduceLeDiff, Nat.reduceSub, Nat.reduceMul, e11, sx], by simp -implicitDefEqProofs only [go_sem, Nat.reduceLT, Nat.reduceBEq, Nat.reduceAdd, Nat.reduceEqDiff, Nat.reduceLeDiff, Nat.reduceSub, Nat.reduceMul, e13, sy], by simp -implicitDefEqProofs only [go_sem, Nat.reduceLT, Nat.reduceBEq, Nat.reduceAdd, Nat.reduceEqDiff, Nat.reduceLeDiff, Nat.reduceSub, Nat.reduceMul, e15, sz], by simp -implicitDefEqProofs only [go_sem, Nat.reduceLT, Nat.reduceBEq, Nat.reduceAdd, Nat.reduceEqDiff, Nat.reduceLeDiff, Nat.reduceSub, Nat.reduceMul]; rfl, by omega⟩
  · simp -implicitDefEqProofs only [go_sem, Nat.reduceLT, Nat.reduceBEq, Nat.reduceAdd, Nat.reduceEqDiff, Nat.reduceLeDiff, Nat.reduceSub, Nat.reduceMul]
    exact fin_ret rfl (by decide) (fz_bool rfl) ho
end Go.Proofs.Ytdpibcniodhinaa.Gh
