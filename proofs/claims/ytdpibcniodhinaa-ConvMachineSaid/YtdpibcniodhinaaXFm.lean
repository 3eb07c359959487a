/- Powers of a residue until they repeat, and primitive residues. -/
import Derived.Test.YtdpibcniodhinaaXFa
namespace Go.Proofs.Ytdpibcniodhinaa.Gh
open Go Go.RowKit
open Alg (CR Fd Ps Dg Zm Mn El Cg sm pw Irr Prm)
set_option linter.unusedVariables false
set_option linter.unusedSimpArgs false

theorem least {P : Nat → Prop} : ∀ (n : Nat), P n → ∃ m, P m ∧ m ≤ n ∧ ∀ i, i < m → ¬ P i := by
  intro n
  induction n using Nat.strongRecOn with
  | ind n ih =>
    intro h
    by_cases e : ∃ i, i < n ∧ P i
    · obtain ⟨i, h1, h2⟩ := e
      obtain ⟨m, a, b, c⟩ := ih i h1 h2
      exact ⟨m, a, by omega, c⟩
    · exact ⟨n, h, Nat.le_refl _, fun i hi hp => e ⟨i, hi, hp⟩⟩

section
variable {k : Nat} {M : Mn k}
/-- the order as a natural number -/
def qn (M : Mn k) : Nat := (k + 2) ^ M.m
theorem qq_qn (M : Mn k) : qq M = (qn M : Nat) := by
  show ((k : Int) + 2) ^ M.m = (((k + 2) ^ M.m : Nat) : Int)
  push_cast; rfl
theorem qn_two (M : Mn k) : 2 ≤ qn M := by
  have h1 := pow_mono (p := (k : Int) + 2) (by omega) (i := 1) (j := M.m) M.pos
  rw [Int.pow_succ, Int.pow_zero, Int.one_mul] at h1
  have h2 : qq M = ((k : Int) + 2) ^ M.m := rfl
  have := qq_qn M
  omega
theorem Fc.qn (h : Fc M) : qn M ≤ 256 := by have := h.q; rw [qq_qn] at this; omega
/-- the number of a residue -/
def cn (a : El M) : Nat := (cd a).toNat
theorem cn_cd (a : El M) : (cn a : Int) = cd a := Int.toNat_of_nonneg (cd_nn a).1
theorem cn_lt (a : El M) : cn a < qn M := by
  have h1 := (cd_nn a).2
  have h2 : qq M = ((k : Int) + 2) ^ M.m := rfl
  have h3 := qq_qn M
  have h4 := cn_cd a
  omega
theorem cn_inj {a b : El M} (h : cn a = cn b) : a = b := cd_inj (by rw [← cn_cd, ← cn_cd, h])
theorem cn_zero : cn (0 : El M) = 0 := by have := cn_cd (0 : El M); rw [cd_zero] at this; omega
theorem cn_one : cn (1 : El M) = 1 := by have := cn_cd (1 : El M); rw [cd_one] at this; omega
theorem cn_eq_zero {a : El M} : cn a = 0 ↔ a = 0 := ⟨fun h => cn_inj (by rw [h, cn_zero]), fun h => by rw [h, cn_zero]⟩
theorem el_cn (a : El M) : el M (cn a : Nat) = a := by rw [cn_cd, el_cd]
theorem cn_el {i : Nat} (h : i < qn M) : cn (el M (i : Nat)) = i := by
  have h2 : qq M = ((k : Int) + 2) ^ M.m := rfl
  have h3 := qq_qn M
  have := cd_el (M := M) (x := (i : Nat)) (by omega) (by omega)
  have h4 := cn_cd (el M (i : Nat))
  omega
theorem cd_cn (a : El M) : cd a = (cn a : Nat) := (cn_cd a).symm
theorem el1_ne : (1 : El M) ≠ 0 := fun e => by have := cn_one (M := M); rw [e, cn_zero] at this; omega
/-- the residues other than 0 -/
def nzE (M : Mn k) : List (El M) := (List.range (qn M - 1)).map fun i => el M ((i + 1 : Nat) : Int)
theorem nzE_len : (nzE M).length = qn M - 1 := by simp [nzE]
theorem nzE_mem (a : El M) (h : a ≠ 0) : a ∈ nzE M := by
  simp only [nzE, List.mem_map, List.mem_range]
  have h0 : cn a ≠ 0 := fun e => h (cn_eq_zero.1 e)
  refine ⟨cn a - 1, by have := cn_lt a; omega, ?_⟩
  rw [show cn a - 1 + 1 = cn a by omega, el_cn]
theorem nzE_nodup : (nzE M).Nodup := Alg.nodup_map_range fun i j h1 h2 e => by
  have := congrArg cn e
  rw [cn_el (by omega), cn_el (by omega)] at this
  omega
theorem nzE_ne : ∀ x ∈ nzE M, x ≠ 0 := by
  intro x hx e
  simp only [nzE, List.mem_map, List.mem_range] at hx
  obtain ⟨i, hi, rfl⟩ := hx
  have := congrArg cn e
  rw [cn_el (by omega), cn_zero] at this
  omega

/-- the powers end: with 0, or with one that was met -/
def Stop (x : El M) (L : Nat) : Prop := pw x L = 0 ∨ ∃ i, i < L ∧ pw x L = pw x i
theorem run_le {x : El M} {n : Nat} (h : ∀ i, 1 ≤ i → i < n → ¬ Stop x i) (hn : 0 < n) : ((List.range n).map fun i => pw x i).Nodup ∧ (∀ a ∈ (List.range n).map fun i => pw x i, a ∈ nzE M) ∧ n ≤ qn M - 1 := by
  classical
  have hz : ∀ i, i < n → pw x i ≠ 0 := by
    intro i hi
    cases i with
    | zero => exact el1_ne
    | succ i => exact fun e => h (i + 1) (by omega) hi (.inl e)
  have hnd : ((List.range n).map fun i => pw x i).Nodup := Alg.nodup_map_range fun i j h1 h2 e => h j (by omega) h2 (.inr ⟨i, h1, e.symm⟩)
  have hm : ∀ a ∈ (List.range n).map fun i => pw x i, a ∈ nzE M := by
    intro a ha
    simp only [List.mem_map, List.mem_range] at ha
    obtain ⟨i, hi, rfl⟩ := ha
    exact nzE_mem _ (hz i hi)
  have hl := Alg.nodup_le _ _ hnd hm
  rw [nzE_len] at hl
  simp at hl
  exact ⟨hnd, hm, hl⟩
theorem plen_ex (x : El M) : ∃ L, (1 ≤ L ∧ Stop x L) ∧ L ≤ qn M - 1 ∧ ∀ i, i < L → ¬ (1 ≤ i ∧ Stop x i) := by
  by_cases h : ∃ L, L ≤ qn M - 1 ∧ 1 ≤ L ∧ Stop x L
  · obtain ⟨L, h1, h2⟩ := h
    obtain ⟨m, a, b, c⟩ := least (P := fun L => 1 ≤ L ∧ Stop x L) L h2
    exact ⟨m, a, by omega, c⟩
  · exfalso
    have := (run_le (x := x) (n := qn M) (fun i h1 h2 hs => h ⟨i, by omega, h1, hs⟩) (by have := qn_two M; omega)).2.2
    have := qn_two M
    omega
/-- how many powers are listed -/
noncomputable def plen (x : El M) : Nat := Classical.choose (plen_ex x)
theorem plen_pos (x : El M) : 1 ≤ plen x := (Classical.choose_spec (plen_ex x)).1.1
theorem plen_stop (x : El M) : Stop x (plen x) := (Classical.choose_spec (plen_ex x)).1.2
theorem plen_le (x : El M) : plen x ≤ qn M - 1 := (Classical.choose_spec (plen_ex x)).2.1
theorem plen_run (x : El M) : ∀ i, 1 ≤ i → i < plen x → ¬ Stop x i := fun i h1 h2 h => (Classical.choose_spec (plen_ex x)).2.2 i h2 ⟨h1, h⟩
/-- a generator, as the program asks for it -/
def Gen (x : El M) : Prop := plen x = qn M - 1 ∧ pw x (qn M - 1) = 1
theorem gen_all {x : El M} (h : Gen x) (a : El M) (ha : a ≠ 0) : ∃ i, i < qn M - 1 ∧ pw x i = a := by
  classical
  have h2 := qn_two M
  obtain ⟨h3, h4, h5⟩ := run_le (x := x) (n := qn M - 1) (fun i h1 h2 => plen_run x i h1 (by rw [h.1]; exact h2)) (by omega)
  by_cases e : a ∈ (List.range (qn M - 1)).map fun i => pw x i
  · simp only [List.mem_map, List.mem_range] at e
    exact e
  · exfalso
    have := Alg.nodup_le (a :: (List.range (qn M - 1)).map fun i => pw x i) (nzE M) (List.nodup_cons.2 ⟨e, h3⟩) (by
      intro y hy
      rcases List.mem_cons.1 hy with rfl | hy
      · exact nzE_mem _ ha
      · exact h4 y hy)
    rw [nzE_len] at this
    simp at this
    omega
theorem gen_inj {x : El M} (h : Gen x) {i j : Nat} (hi : i < qn M - 1) (hj : j < qn M - 1) (e : pw x i = pw x j) : i = j := by
  rcases Nat.lt_trichotomy i j with h1 | h1 | h1
  · exact absurd (.inr ⟨i, h1, e.symm⟩) (plen_run x j (by omega) (by rw [h.1]; exact hj))
  · exact h1
  · exact absurd (.inr ⟨j, h1, e⟩) (plen_run x i (by omega) (by rw [h.1]; exact hi))
theorem gen_ne {x : El M} (h : Gen x) (i : Nat) (hi : i < qn M - 1) : pw x i ≠ 0 := by
  cases i with
  | zero => exact el1_ne
  | succ i => exact fun e => plen_run x (i + 1) (by omega) (by rw [h.1]; exact hi) (.inl e)
theorem gen_mod {x : El M} (h : Gen x) (i : Nat) : pw x i = pw x (i % (qn M - 1)) := by
  have e := Nat.div_add_mod i (qn M - 1)
  have : pw x i = pw x ((qn M - 1) * (i / (qn M - 1)) + i % (qn M - 1)) := by rw [e]
  rw [this, Alg.pw_add, Alg.pw_mul, h.2, Alg.one_pw, Alg.one_mul]
theorem gen_irr (hp : Prm ((k : Int) + 2)) : (∃ x : El M, x ≠ 0 ∧ Gen x) ↔ Irr M := by
  classical
  have hq2 := qn_two M
  constructor
  · rintro ⟨x, hx, hg⟩
    refine Alg.irr_of_inv fun a ha => ?_
    obtain ⟨i, hi, rfl⟩ := gen_all hg a ha
    refine ⟨pw x (qn M - 1 - i), ?_⟩
    rw [← Alg.pw_add, show i + (qn M - 1 - i) = qn M - 1 by omega]
    exact hg.2
  · intro hi
    letI : Alg.Fd (El M) := Alg.elFd hp hi
    obtain ⟨x, hx, ho⟩ := Alg.primitive_ex (nzE M) nzE_nodup nzE_mem nzE_ne
    rw [nzE_len] at ho
    refine ⟨x, hx, ?_, ho.2.1⟩
    have h1 := plen_le x
    have h2 := plen_pos x
    rcases plen_stop x with h | ⟨i, h3, h4⟩
    · exact absurd h (Alg.pw_ne_zero hx _)
    · have h5 : pw x (plen x - i) = 1 := by
        have : pw x (plen x) = pw x i * pw x (plen x - i) := by rw [← Alg.pw_add]; congr 1; omega
        rw [this] at h4
        exact Alg.mul_left_cancel (Alg.pw_ne_zero hx i) (by rw [Alg.mul_one]; exact h4)
      have := Nat.le_of_dvd (by omega) (ho.dvd h5)
      omega
theorem gnr_ex (h : ∃ x : El M, x ≠ 0 ∧ Gen x) : ∃ i, (1 ≤ i ∧ i < qn M ∧ Gen (el M (i : Nat))) ∧ ∀ j, j < i → ¬ (1 ≤ j ∧ j < qn M ∧ Gen (el M (j : Nat))) := by
  obtain ⟨x, hx, hg⟩ := h
  have h0 : cn x ≠ 0 := fun e => hx (cn_eq_zero.1 e)
  obtain ⟨m, a, b, c⟩ := least (P := fun i => 1 ≤ i ∧ i < qn M ∧ Gen (el M (i : Nat))) (cn x) ⟨by omega, cn_lt x, by rw [el_cn]; exact hg⟩
  exact ⟨m, a, c⟩
/-- the first generator, as a number -/
noncomputable def gi (h : ∃ x : El M, x ≠ 0 ∧ Gen x) : Nat := Classical.choose (gnr_ex h)
theorem gi_spec (h : ∃ x : El M, x ≠ 0 ∧ Gen x) : (1 ≤ gi h ∧ gi h < qn M ∧ Gen (el M (gi h : Nat))) ∧ ∀ j, j < gi h → ¬ (1 ≤ j ∧ j < qn M ∧ Gen (el M (j : Nat))) := Classical.choose_spec (gnr_ex h)
noncomputable def gnr (h : ∃ x : El M, x ≠ 0 ∧ Gen x) : El M := el M (gi h : Nat)
theorem gnr_gen (h : ∃ x : El M, x ≠ 0 ∧ Gen x) : Gen (gnr h) := (gi_spec h).1.2.2
/-- the exponents -/
theorem lg_ex (g a : El M) : ∃ i : Nat, (Gen g → a ≠ 0 → i < qn M - 1 ∧ pw g i = a) ∧ (a = 0 → i = 0) := by
  by_cases h0 : a = 0
  · exact ⟨0, fun _ h => absurd h0 h, fun _ => rfl⟩
  · by_cases hg : Gen g
    · obtain ⟨i, h1, h2⟩ := gen_all hg a h0
      exact ⟨i, fun _ _ => ⟨h1, h2⟩, fun h => absurd h h0⟩
    · exact ⟨0, fun h => absurd h hg, fun _ => rfl⟩
noncomputable def lg (g a : El M) : Nat := Classical.choose (lg_ex g a)
theorem lg_lt {g a : El M} (h : Gen g) (ha : a ≠ 0) : lg g a < qn M - 1 := ((Classical.choose_spec (lg_ex g a)).1 h ha).1
theorem lg_pw {g a : El M} (h : Gen g) (ha : a ≠ 0) : pw g (lg g a) = a := ((Classical.choose_spec (lg_ex g a)).1 h ha).2
theorem lg_zero (g : El M) : lg g 0 = 0 := (Classical.choose_spec (lg_ex g 0)).2 rfl
theorem lg_of {g : El M} (h : Gen g) {i : Nat} (hi : i < qn M - 1) : lg g (pw g i) = i :=
  gen_inj h (lg_lt h (gen_ne h i hi)) hi (lg_pw h (gen_ne h i hi))
theorem mul_lg {g a b : El M} (h : Gen g) (ha : a ≠ 0) (hb : b ≠ 0) : a * b = pw g ((lg g a + lg g b) % (qn M - 1)) := by
  rw [← gen_mod h, Alg.pw_add, lg_pw h ha, lg_pw h hb]
theorem inv_lg {g a : El M} (h : Gen g) (ha : a ≠ 0) : a * pw g ((qn M - 1 - lg g a) % (qn M - 1)) = 1 := by
  have hl := lg_lt h ha
  rw [← gen_mod h]
  have : a = pw g (lg g a) := (lg_pw h ha).symm
  have e : a * pw g (qn M - 1 - lg g a) = pw g (lg g a) * pw g (qn M - 1 - lg g a) := by rw [lg_pw h ha]
  rw [e, ← Alg.pw_add, show lg g a + (qn M - 1 - lg g a) = qn M - 1 by omega]
  exact h.2
end
end Go.Proofs.Ytdpibcniodhinaa.Gh
/- The program's powers of an element. -/
namespace Go.Proofs.Ytdpibcniodhinaa.Gh
open Go Go.RowKit
open Alg (CR Ps Dg Zm Mn El Cg sm pw Irr Prm)
set_option linter.unusedVariables false
set_option linter.unusedSimpArgs false

theorem upd_no {H : Heap} {b c : Nat} {x : Option (List GV)} (h : (c = b) = False) : upd H b x c = H c := if_neg (of_eq_false h)
theorem ne_no {a b : Nat} (h : a ≠ b) : (a = b) = False := eq_false h
section
variable {k : Nat} {M : Mn k}
theorem sp_mul {H : Heap} {n : Nat} (h : Fc M) (x y : El M) : Spec prog fid_field_multiply [fd M, .int .i64 (cn x : Nat), .int .i64 (cn y : Nat)] H n (.int .i64 (cn (x * y) : Nat)) H n := by
  have := sp_field_multiply (H := H) (n := n) h x y
  simpa only [cd_cn] using this
/-- what is marked as met -/
noncomputable def snb (x : El M) (i j : Nat) : Bool := (List.range i).any fun t => cn (pw x t) == j
theorem snb_iff {x : El M} {i j : Nat} : snb x i j = true ↔ ∃ t, t < i ∧ cn (pw x t) = j := by
  simp [snb]
noncomputable def sn (x : El M) (i : Nat) : Nat → GV := fun j => .bool (snb x i j)
theorem sn_step (x : El M) (i : Nat) : upf (sn x i) (cn (pw x i)) (.bool true) = sn x (i + 1) := by
  funext j
  simp only [upf, sn]
  by_cases h : j = cn (pw x i)
  · rw [if_pos h]
    exact congrArg GV.bool (snb_iff.2 ⟨i, by omega, h.symm⟩).symm
  · rw [if_neg h]
    refine congrArg GV.bool ?_
    rw [Bool.eq_iff_iff, snb_iff, snb_iff]
    constructor
    · rintro ⟨t, h1, h2⟩; exact ⟨t, by omega, h2⟩
    · rintro ⟨t, h1, h2⟩
      refine ⟨t, ?_, h2⟩
      by_cases e : t = i
      · subst e; exact absurd h2.symm h
      · omega
theorem sn_at (x : El M) (i j : Nat) : sn x i j = .bool (snb x i j) := rfl
/-- a row of powers -/
noncomputable def pws (x : El M) : Nat → Int := fun t => (cn (pw x t) : Nat)

theorem sp_field_powers {H : Heap} {n : Nat} (h : Fc M) (x : El M) : Spec prog fid_field_powers [fd M, .int .i64 (qn M : Nat), .int .i64 (cn x : Nat)] H n (.own n 0 (plen x)) (upd H n (some (tab (plen x) (it (pws x))))) (n + 1) := by
  refine spec_ends1 hmix ok_field_powers rfl fun hF => ?_
  show gw prog B_field_powers _ (tl 37 _) H n
  have hq2 := qn_two M
  have hq := h.qn
  have hm1 : (1 : Int) < (qn M : Int) := by omega
  have hm2 : 1 < qn M := by omega
  have h11 : (1 : Int).toNat = 1 := rfl
  have h01 : (0 : Int) ≤ 1 := by omega
  have hrep : tab (qn M) (upf (fun _ => GV.bool false) 1 (.bool true)) = tab (qn M) (sn x 1) := by
    rw [← sn_step x 0]
    have e1 : sn x 0 = fun _ => GV.bool false := by funext j; rfl
    have e2 : cn (pw x 0) = 1 := cn_one
    rw [e1, e2]
  simp -implicitDefEqProofs only [B_field_powers, fd, gev_t, gev_c, st_same, st_ne, mkE_nil, mkE_cons, e_nil, e_cons, e_kops, e_kops_none, e_some, e_mov, e_iaddr, e_iaddr_own, e_store, e_box, e_box_some, e_bslice, e_bs_some, e_mslice, e_ms_int, e_gc_int, e_gc_bool, e_gc_agg, w_region, w_seq, w_block, w_loop, s_n, Nat.reduceLT, Nat.reduceBEq, Int.toNat_natCast, List.length_cons, List.length_nil, setL_nil, setL_cons, e_store_ptr, e_stp, e_fill_nil, e_fill, e_hfl, upd_same, cell_bool, true_and, and_self, if_true, List.all_cons, List.all_nil, Bool.and_self, List.set_cons_zero, Nat.zero_add, Nat.mul_one, tab_len, tab_set, upd_upd, Nat.lt_add_one, ns2, Int.natCast_nonneg, ns12, Nat.le_refl, tab_rep, hm1, h11, h01, hrep]
  repeat with_reducible refine And.intro (by omega) ?_
  refine loop_rule (fun (i : Nat) E H' n' => ∃ b, n + 3 ≤ n' ∧ H' n = some [.int .i64 ((k : Int) + 2), .int .i64 (M.m : Nat), fmod M] ∧ H' (n + 2) = some (tab (qn M) (sn x i)) ∧ H' b = some (tab i (it (pws x))) ∧ (∀ b, b < n → H' b = H b) ∧ E 2 = .int .i64 (cn x : Nat) ∧ E 3 = .ptr n 0 ∧ E 7 = .own b 0 i ∧ E 8 = .own (n + 2) 0 (qn M) ∧ E 9 = .int .i64 (cn (pw x i) : Nat) ∧ n < b ∧ b ≠ n + 2 ∧ b < n' ∧ 1 ≤ i ∧ i ≤ plen x) (fun i => 256 - i) 1 ?_ ?_
  · refine ⟨n + 1, by omega, ?_, ?_, ?_, fun c hc => by rw [upd_ne _ _ (by omega), upd_ne _ _ (by omega), upd_ne _ _ (by omega)], rfl, rfl, rfl, rfl, ?_, by omega, by omega, by omega, by omega, plen_pos x⟩
    · simp -implicitDefEqProofs only [upd_same, upd_n1]
    · simp -implicitDefEqProofs only [upd_same]
    · simp -implicitDefEqProofs only [Nat.reduceBEq, upd_same, upd_lit]
      show some [GV.int .i64 1] = some [GV.int .i64 ((cn (1 : El M) : Nat) : Int)]
      rw [cn_one]; rfl
    · simp -implicitDefEqProofs only [st_same, Alg.pw_one]
  rintro i E H' n' ⟨b, hn, h0, h2, hb, ho, e2, e3, e7, e8, e9, b1, b2, b3, i1, i2⟩
  have hpl := plen_le x
  have hlt := cn_lt (pw x i)
  have hltI : ((cn (pw x i) : Nat) : Int) < (qn M : Int) := by omega
  have hnn := Int.natCast_nonneg (cn (pw x i))
  by_cases hi : i < plen x
  · have hst := plen_run x i i1 hi
    have hz : ((cn (pw x i) : Nat) : Int) ≠ 0 := fun e => hst (.inl (cn_eq_zero.1 (by omega)))
    have hz' : (((cn (pw x i) : Nat) : Int) = 0) = False := eq_false hz
    have hsn : snb x i (cn (pw x i)) = false := by
      rw [Bool.eq_false_iff]
      intro e
      obtain ⟨t, t1, t2⟩ := snb_iff.1 e
      exact hst (.inr ⟨t, t1, (cn_inj t2).symm⟩)
    have f1 : (n = n + 2) = False := by simp
    have f2 : (b = n + 2) = False := eq_false b2
    have f3 : (n' = n + 2) = False := eq_false (by omega)
    have f4 : (b = n') = False := eq_false (by omega)
    have f5 : (n + 2 = n') = False := eq_false (by omega)
    have f6 : (n = n') = False := eq_false (by omega)
    have f7 : (n = n' + 1) = False := eq_false (by omega)
    have f8 : (n = b) = False := eq_false (by omega)
    have f9 : (n + 2 = n' + 1) = False := eq_false (by omega)
    have f10 : (n + 2 = b) = False := eq_false (by omega)
    have f11 : (b = n' + 1) = False := eq_false (by omega)
    have f12 : (n' = b) = False := eq_false (by omega)
    have hs1 : tab i (it (pws x)) ++ [GV.int .i64 (cn (pw x i) : Nat)] = tab (i + 1) (it (pws x)) := tab_succ.symm
    simp -implicitDefEqProofs only [gev_t, gev_c, st_same, st_ne, e_nil, e_cons, e_kops, e_kops_none, e_guard, e_tt, e_some, e_mov, e_pick, e_pick_t, e_bin, e_un, e_not, e_neq, e_iaddr, e_iaddr_own, e_load, e_store, e_bslice, e_bs_some, e_append, e_call, e_gc_int, e_gc_bool, w_skip, w_region, w_seq, w_block, w_cond, s_n, b_n, c_t, Nat.reduceLT, Nat.reduceBEq, decide_false, Bool.not_false, Int.toNat_natCast, List.length_cons, List.length_nil, setL_nil, setL_cons, e_cell_ptr, e_cl1, e_clm, e_store_ptr, e_stp, e_app_own, e_appo, e_gel_own, e_hgel, e_fill_nil, e_fill, e_hfl, upd_same, cell_int, cell_bool, true_and, and_self, if_true, List.all_cons, List.all_nil, Bool.and_self, List.drop_zero, List.take_zero, List.take_succ_cons, List.set_cons_zero, Nat.zero_add, Nat.mul_one, List.map_cons, List.map_nil, tab_len, tab_set, ns2, ns12, Nat.le_refl, e2, e3, e7, e8, e9, h0, h2, hb, hz', hsn, hltI, hlt, hnn, gat_tab, sn_at, sn_step, upd_no, f1, f2, f4, f6, f7, f8, hs1]
    repeat with_reducible refine And.intro (by omega) ?_
    refine call_of (sp_mul h (pw x i) x) ?_
    simp -implicitDefEqProofs only [gev_t, st_same, e_nil, e_cons, e_kops, e_mov, Nat.reduceLT]
    refine l_n ⟨i + 1, by omega, n' + 1, by omega, ?_, ?_, ?_, fun c hc => ?_, ?_, ?_, ?_, ?_, ?_, by omega, by omega, by omega, by omega, by omega⟩
    · simp -implicitDefEqProofs only [h0, upd_no, f1, f6, f7, f8]
    · simp -implicitDefEqProofs only [upd_same, upd_no, f5, f9, f10]
    · simp -implicitDefEqProofs only [upd_same]
    · rw [upd_ne _ _ (by omega), upd_ne _ _ (by omega), upd_ne _ _ (by omega), upd_ne _ _ (by omega)]; exact ho c hc
    · simp -implicitDefEqProofs only [st_ne, Nat.reduceBEq, e2]
    · simp -implicitDefEqProofs only [st_ne, Nat.reduceBEq, e3]
    · simp -implicitDefEqProofs only [st_same, st_ne, Nat.reduceBEq]
    · simp -implicitDefEqProofs only [st_ne, Nat.reduceBEq, e8]
    · simp -implicitDefEqProofs only [st_same]; rfl
  · have hi : i = plen x := by omega
    subst hi
    have fin : ∀ (E : Env), E 6 = .own b 0 (plen x) → F_field_powers.ends1 H n (.own n 0 (plen x)) (tab (plen x) (it (pws x))) .ret (tl 37 E) H' n' := by
      intro E he
      exact fin_own rfl (by decide) he (by omega) hb trs_it ho
    rcases plen_stop x with hz | ⟨t, t1, t2⟩
    · have hz' : ((cn (pw x (plen x)) : Nat) : Int) = 0 := by rw [hz, cn_zero]; rfl
      simp -implicitDefEqProofs only [gev_t, gev_c, st_same, st_ne, e_nil, e_cons, e_kops, e_guard, e_tf, e_some, e_mov, e_pick, e_pick_f, e_bin, e_neq, w_region, w_seq, w_exit, w_ret, w_cond, s_n, s_x, b_x, c_f, l_x, Nat.reduceLT, Nat.reduceBEq, decide_true, Bool.not_true, if_true, Nat.lt_add_one, e7, e9, hz']
      exact fin _ (by simp -implicitDefEqProofs only [st_same])
    · have hsn : snb x (plen x) (cn (pw x (plen x))) = true := snb_iff.2 ⟨t, t1, by rw [t2]⟩
      by_cases hz : ((cn (pw x (plen x)) : Nat) : Int) = 0
      · simp -implicitDefEqProofs only [gev_t, gev_c, st_same, st_ne, e_nil, e_cons, e_kops, e_guard, e_tf, e_some, e_mov, e_pick, e_pick_f, e_bin, e_neq, w_region, w_seq, w_exit, w_ret, w_cond, s_n, s_x, b_x, c_f, l_x, Nat.reduceLT, Nat.reduceBEq, decide_true, Bool.not_true, if_true, Nat.lt_add_one, e7, e9, hz]
        exact fin _ (by simp -implicitDefEqProofs only [st_same])
      · simp -implicitDefEqProofs only [gev_t, gev_c, st_same, st_ne, e_nil, e_cons, e_kops, e_guard, e_tt, e_some, e_mov, e_pick, e_pick_t, e_bin, e_un, e_not, e_neq, e_iaddr, e_iaddr_own, e_load, w_region, w_seq, w_exit, w_ret, w_cond, s_n, s_x, b_x, c_f, l_x, Nat.reduceLT, Nat.reduceBEq, decide_false, Bool.not_true, Bool.not_false, Int.toNat_natCast, e_cell_ptr, e_cl1, true_and, and_self, if_true, Nat.zero_add, Nat.mul_one, tab_len, Nat.lt_add_one, e7, e8, e9, hz, h2, hltI, hlt, hnn, gat_tab, sn_at, hsn]
        exact fin _ (by simp -implicitDefEqProofs only [st_same])
end
end Go.Proofs.Ytdpibcniodhinaa.Gh
/- The program's search for a generator. -/
namespace Go.Proofs.Ytdpibcniodhinaa.Gh
open Go Go.RowKit
open Alg (CR Ps Dg Zm Mn El Cg sm pw Irr Prm)
set_option linter.unusedVariables false
set_option linter.unusedSimpArgs false

section
variable {k : Nat} {M : Mn k}
theorem generator_walk {H : Heap} {n : Nat} (h : Fc M) (Q : GPost)
    (hs : ∀ (x b n' : Nat) (E : Env) (H' : Heap), 1 ≤ x → x < qn M → Gen (el M (x : Nat)) → (∀ j : Nat, 1 ≤ j → j < x → ¬ Gen (el M (j : Nat))) → H' b = some (tab (qn M - 1) (it (pws (el M (x : Nat))))) → n ≤ b → (∀ c, c < n → H' c = H c) → E 4 = .own b 0 (qn M - 1) → Q .ret (tl 33 E) H' n')
    (hn : (∀ j : Nat, 1 ≤ j → j < qn M → ¬ Gen (el M (j : Nat))) → ∀ (n' : Nat) (E : Env) (H' : Heap), (∀ c, c < n → H' c = H c) → E 4 = .nil → Q .ret (tl 33 E) H' n') :
    gw prog B_field_generator Q (tl 33 (mkE 0 [fd M, .int .i64 (qn M : Nat)])) H n := by
  have hq2 := qn_two M
  have hq := h.qn
  simp -implicitDefEqProofs only [B_field_generator, fd, gev_t, gev_c, st_same, mkE_nil, mkE_cons, e_nil, e_cons, e_kops, e_mov, e_box, e_box_some, e_gc_agg, w_region, w_seq, w_block, w_loop, s_n, Nat.reduceLT, Nat.zero_add, ns2]
  refine loop_rule (fun (x : Nat) E H' n' => n + 1 ≤ n' ∧ H' n = some [.int .i64 ((k : Int) + 2), .int .i64 (M.m : Nat), fmod M] ∧ (∀ b, b < n → H' b = H b) ∧ E 1 = .int .i64 (qn M : Nat) ∧ E 2 = .ptr n 0 ∧ E 5 = .int .i64 x ∧ 1 ≤ x ∧ x ≤ qn M ∧ ∀ j : Nat, 1 ≤ j → j < x → ¬ Gen (el M (j : Nat))) (fun x => qn M - x) 1 ?_ ?_
  · refine ⟨by omega, ?_, fun c hc => by rw [upd_ne _ _ (by omega)], rfl, rfl, rfl, by omega, by omega, fun j h1 h2 => by omega⟩
    simp -implicitDefEqProofs only [upd_same]
  rintro x E H' n' ⟨hn', h0, ho, e1, e2, e5, x1, x2, hx⟩
  simp -implicitDefEqProofs only [gev_t, st_same, st_ne, e_nil, e_cons, e_kops, e_some, e_mov, e_bin, e_lss, w_region, w_seq, w_cond, s_n, Nat.reduceLT, Nat.reduceBEq, e1, e5]
  refine c_split (fun hlt => ?_) (fun hlt => ?_)
  · have hxq : x < qn M := by omega
    have hcx := cn_el (M := M) hxq
    simp -implicitDefEqProofs only [gev_t, st_same, st_ne, e_cons, e_kops, e_mov, e_load, e_call, w_skip, w_region, w_seq, w_block, s_n, Nat.reduceLT, Nat.reduceBEq, List.length_cons, List.length_nil, e_cell_ptr, e_clm, true_and, List.drop_zero, List.take_zero, List.take_succ_cons, Nat.zero_add, List.map_cons, List.map_nil, ns2, ns12, Nat.le_refl, e1, e2, e5, h0]
    repeat with_reducible refine And.intro (by omega) ?_
    have hpw := sp_field_powers (H := H') (n := n') h (el M (x : Nat))
    rw [hcx] at hpw
    refine call_of hpw ?_
    have hw1 : IntKind.i64.wrap ((qn M : Int) - 1) = ((qn M - 1 : Nat) : Int) := (wrap64 (by omega)).trans (by omega)
    have hw2 : IntKind.i64.wrap ((qn M : Int) - 2) = ((qn M - 2 : Nat) : Int) := (wrap64 (by omega)).trans (by omega)
    have hwx := wrap64 (x := (x : Int) + 1) (by omega)
    have f1 : (n = n') = False := eq_false (by omega)
    have next : ¬ Gen (el M (x : Nat)) → ∀ j : Nat, 1 ≤ j → j < x + 1 → ¬ Gen (el M (j : Nat)) := by
      intro hg j h1 h2
      by_cases e : j = x
      · subst e; exact hg
      · exact hx j h1 (by omega)
    by_cases hpl : plen (el M (x : Nat)) = qn M - 1
    · have i1 : ((qn M - 2 : Nat) : Int) < ((qn M - 1 : Nat) : Int) := by omega
      have i2 : qn M - 2 < qn M - 1 := by omega
      have i3 := Int.natCast_nonneg (qn M - 2)
      have i4 : n < n' + 1 := by omega
      have i5 : n' < n' + 1 := by omega
      simp -implicitDefEqProofs only [gev_t, gev_c, st_same, st_ne, e_nil, e_cons, e_kops, e_guard, e_tt, e_some, e_mov, e_bin, e_sub, e_eql, e_iaddr, e_iaddr_own, e_len, e_len_own, e_call, w_seq, w_draw, s_n, d_kdr, m_nil, m_cons, m_kmops, m_guard, m_tt, m_kpm, m_load, Nat.reduceLT, Nat.reduceBEq, decide_true, Int.toNat_natCast, List.length_cons, List.length_nil, upd_same, true_and, and_self, if_true, List.drop_zero, List.take_zero, List.take_succ_cons, Nat.zero_add, Nat.mul_one, List.map_cons, List.map_nil, tab_len, m_p_mov, m_p_bin, m_p_indexAddr, m_p_len, m_cell_ptr, m_cl1, m_clm, ns2, it_at, ns12, Nat.le_refl, e1, e2, e5, hpl, hw1, hw2, h0, upd_no, f1, i1, i2, i3, i4, i5, gat_tab]
      repeat with_reducible refine And.intro (by omega) ?_
      have hmu := sp_mul (H := upd H' n' (some (tab (qn M - 1) (it (pws (el M (x : Nat))))))) (n := n' + 1) h (pw (el M (x : Nat)) (qn M - 2)) (el M (x : Nat))
      rw [hcx] at hmu
      refine call_of hmu ?_
      have he : pw (el M (x : Nat)) (qn M - 2) * el M (x : Nat) = pw (el M (x : Nat)) (qn M - 1) := by rw [← Alg.pw_succ]; congr 1; omega
      rw [he]
      by_cases hg : pw (el M (x : Nat)) (qn M - 1) = 1
      · have hc1 : ((cn (pw (el M (x : Nat)) (qn M - 1)) : Nat) : Int) = 1 := by rw [hg, cn_one]; rfl
        simp -implicitDefEqProofs only [gev_t, gev_c, st_same, st_ne, e_nil, e_cons, e_kops, e_guard, e_tt, e_some, e_mov, e_pick, e_pick_t, e_bin, e_eql, w_region, w_seq, w_ret, w_cond, s_n, s_r, b_r, c_t, l_r, Nat.reduceLT, Nat.reduceBEq, decide_true, Nat.lt_add_one, hc1]
        exact hs x n' _ _ _ x1 hxq ⟨hpl, hg⟩ hx (by simp -implicitDefEqProofs only [upd_same]) (by omega) (fun c hc => by rw [upd_ne _ _ (by omega)]; exact ho c hc) (by simp -implicitDefEqProofs only [st_same])
      · have hc1 : (((cn (pw (el M (x : Nat)) (qn M - 1)) : Nat) : Int) = 1) = False := eq_false fun e => hg (cn_inj (by rw [cn_one]; omega))
        simp -implicitDefEqProofs only [gev_t, gev_c, st_same, st_ne, e_nil, e_cons, e_kops, e_guard, e_tt, e_some, e_mov, e_pick, e_pick_t, e_bin, e_add, e_eql, w_skip, w_region, w_cond, s_n, b_n, c_f, Nat.reduceLT, Nat.reduceBEq, decide_false, hc1, e5, hwx]
        exact l_n ⟨x + 1, by omega, by omega, by simp -implicitDefEqProofs only [upd_no, f1, h0], fun c hc => by rw [upd_ne _ _ (by omega)]; exact ho c hc, by simp -implicitDefEqProofs only [st_ne, Nat.reduceBEq, e1], by simp -implicitDefEqProofs only [st_ne, Nat.reduceBEq, e2], by simp -implicitDefEqProofs only [st_same]; rfl, by omega, by omega, next fun g => hg g.2⟩
    · have i1 : (((plen (el M (x : Nat)) : Nat) : Int) = ((qn M - 1 : Nat) : Int)) = False := eq_false (by omega)
      simp -implicitDefEqProofs only [gev_t, gev_c, st_same, st_ne, e_nil, e_cons, e_kops, e_guard, e_tf, e_some, e_mov, e_pick, e_pick_f, e_bin, e_add, e_sub, e_eql, e_len, e_len_own, w_skip, w_region, w_seq, w_cond, w_draw, s_n, b_n, c_f, d_kdr, m_nil, m_cons, m_kmops, m_guard, m_tf, m_kpm, Nat.reduceLT, Nat.reduceBEq, decide_false, m_p_mov, m_p_bin, m_p_len, e1, e5, hw1, i1, hwx]
      exact l_n ⟨x + 1, by omega, by omega, by simp -implicitDefEqProofs only [upd_no, f1, h0], fun c hc => by rw [upd_ne _ _ (by omega)]; exact ho c hc, by simp -implicitDefEqProofs only [st_ne, Nat.reduceBEq, e1], by simp -implicitDefEqProofs only [st_ne, Nat.reduceBEq, e2], by simp -implicitDefEqProofs only [st_same]; rfl, by omega, by omega, next fun g => hpl g.1⟩
  · simp -implicitDefEqProofs only [gev_c, e_nil, e_cons, e_kops, e_mov, w_region, w_seq, w_exit, w_ret, s_n, s_x, b_x, l_x, if_true]
    exact hn (fun j h1 h2 => hx j h1 (by omega)) _ _ _ ho (by simp -implicitDefEqProofs only [st_same])

theorem sp_field_generator {H : Heap} {n : Nat} (h : Fc M) (hg : ∃ x : El M, x ≠ 0 ∧ Gen x) : Spec prog fid_field_generator [fd M, .int .i64 (qn M : Nat)] H n (.own n 0 (qn M - 1)) (upd H n (some (tab (qn M - 1) (it (pws (gnr hg)))))) (n + 1) := by
  refine spec_ends1 hmix ok_field_generator rfl fun hF => ?_
  have hq2 := qn_two M
  refine generator_walk h _ ?_ ?_
  · intro x b n' E H' h1 h2 h3 h4 h5 h6 h7 h8
    have e : x = gi hg := by
      have hs := gi_spec hg
      rcases Nat.lt_trichotomy x (gi hg) with hl | hl | hl
      · exact absurd ⟨h1, h2, h3⟩ (hs.2 x hl)
      · exact hl
      · exact absurd hs.1.2.2 (h4 _ hs.1.1 hl)
    subst e
    exact fin_own rfl (by decide) h8 h6 h5 trs_it h7
  · intro hno
    have hs := gi_spec hg
    exact absurd hs.1.2.2 (hno _ hs.1.1 hs.1.2.1)
theorem sp_field_generator0 {H : Heap} {n : Nat} (h : Fc M) (hg : ¬ ∃ x : El M, x ≠ 0 ∧ Gen x) : Spec prog fid_field_generator [fd M, .int .i64 (qn M : Nat)] H n .nil H n := by
  refine spec_ends hmix ok_field_generator rfl fun hF => ?_
  have hq2 := qn_two M
  refine generator_walk h _ ?_ ?_
  · intro x b n' E H' h1 h2 h3 h4 h5 h6 h7 h8
    refine absurd ⟨el M (x : Nat), fun e => ?_, h3⟩ hg
    have := cn_el (M := M) h2
    rw [e, cn_zero] at this
    omega
  · intro hno n' E H' h7 h8
    exact fin_ret rfl (by decide) (by rw [h8]; exact .nil) h7
end
end Go.Proofs.Ytdpibcniodhinaa.Gh
/- Well-formed descriptions of fields. -/
namespace Go.Proofs.Ytdpibcniodhinaa.Gh
open Go Go.RowKit
open Alg (CR Ps Dg Zm Mn El Cg sm pw Irr Prm)
set_option linter.unusedVariables false
set_option linter.unusedSimpArgs false

/-- a description is well-formed -/
def Shp (p m : Int) (l : Nat) (mo : Nat → Int) : Prop := qo p m ≠ 0 ∧ isPr p ∧ (m = 1 → l = 0) ∧ (m ≠ 1 → (l : Int) = m ∧ ∀ j, j < l → 0 ≤ mo j ∧ mo j < p)
theorem qo_in {p m : Int} (h : qo p m ≠ 0) : 2 ≤ p ∧ p ≤ 256 ∧ 1 ≤ m ∧ m ≤ 8 ∧ p ^ m.toNat ≤ 256 ∧ qo p m = p ^ m.toNat := by
  unfold qo at h ⊢
  by_cases c : 2 ≤ p ∧ p ≤ 256 ∧ 1 ≤ m ∧ m ≤ 8 ∧ p ^ m.toNat ≤ 256
  · rw [if_pos c]; exact ⟨c.1, c.2.1, c.2.2.1, c.2.2.2.1, c.2.2.2.2, rfl⟩
  · rw [if_neg c] at h; exact absurd rfl h
noncomputable instance (p m : Int) (l : Nat) (mo : Nat → Int) : Decidable (Shp p m l mo) := Classical.propDecidable _

theorem sp_field_shape {H : Heap} {n : Nat} (p m : Int) (l : Nat) (mo : Nat → Int) : Spec prog fid_field_shape [fgv p m (isl l mo)] H n (.bool (decide (Shp p m l mo))) H n := by
  refine spec_ends hmix ok_field_shape rfl fun hF => ?_
  show gw prog B_field_shape _ (tl 46 _) H n
  have bad : ∀ (E : Env) (H' : Heap) (n' : Nat), (∀ b, b < n → H' b = H b) → E 2 = .bool false → ¬ Shp p m l mo → F_field_shape.ends H n (.bool (decide (Shp p m l mo))) .ret (tl 46 E) H' n' := by
    intro E H' n' ho h4 h
    refine fin_ret rfl (by decide) ?_ ho
    rw [h4]; exact fz_bool (decide_eq_false h).symm
  have good : ∀ (E : Env) (H' : Heap) (n' : Nat), (∀ b, b < n → H' b = H b) → E 2 = .bool true → Shp p m l mo → F_field_shape.ends H n (.bool (decide (Shp p m l mo))) .ret (tl 46 E) H' n' := by
    intro E H' n' ho h4 h
    refine fin_ret rfl (by decide) ?_ ho
    rw [h4]; exact fz_bool (decide_eq_true h).symm
  have hu : ∀ x b, b < n → upd H n x b = H b := fun x b hb => upd_ne _ _ (by omega)
  simp -implicitDefEqProofs only [B_field_shape, fgv, gev_t, gev_c, st_same, st_ne, mkE_nil, mkE_cons, e_nil, e_cons, e_kops, e_some, e_mov, e_faddr, e_faddr_ptr, e_load, e_box, e_box_some, e_call, e_gc_agg, w_region, w_seq, s_n, Nat.reduceLT, Nat.reduceBEq, List.length_cons, List.length_nil, e_cell_ptr, e_cl1, gat_0, gat_1, upd_same, true_and, Nat.add_zero, Nat.zero_add, List.map_cons, List.map_nil, ns2, ns12]
  refine call_of (sp_field_order p m) ?_
  by_cases hq : qo p m = 0
  · simp -implicitDefEqProofs only [gev_t, gev_c, st_same, st_ne, e_nil, e_cons, e_kops, e_guard, e_ft, e_some, e_mov, e_pick, e_pick_t, e_bin, e_eql, w_region, w_seq, w_ret, w_cond, s_n, s_r, c_t, Nat.reduceLT, Nat.reduceBEq, decide_true, hq]
    exact bad _ _ _ (hu _) rfl fun h => h.1 hq
  · obtain ⟨q1, q2, q3, q4, q5, q6⟩ := qo_in hq
    simp -implicitDefEqProofs only [gev_t, gev_c, st_same, st_ne, e_cons, e_kops, e_guard, e_ff, e_some, e_mov, e_bin, e_eql, e_faddr, e_faddr_ptr, e_load, e_call, Nat.reduceLT, Nat.reduceBEq, decide_false, List.length_cons, List.length_nil, e_cell_ptr, e_cl1, gat_0, upd_same, true_and, Nat.add_zero, Nat.zero_add, List.map_cons, List.map_nil, ns2, ns12, hq]
    refine call_of (sp_field_isPrime p (by omega)) ?_
    by_cases hp : isPr p
    · simp -implicitDefEqProofs only [gev_t, gev_c, st_same, st_ne, e_nil, e_cons, e_kops, e_guard, e_ff, e_some, e_pick, e_pick_f, e_bin, e_un, e_not, e_eql, e_faddr, e_faddr_ptr, e_load, w_skip, w_region, w_seq, w_cond, s_n, c_f, Nat.reduceLT, Nat.reduceBEq, decide_true, Bool.not_true, List.length_cons, List.length_nil, e_cell_ptr, e_cl1, gat_1, upd_same, true_and, Nat.zero_add, ns2, ns12, hp]
      by_cases hm : m = 1
      · subst hm
        simp -implicitDefEqProofs only [gev_t, gev_c, st_same, st_ne, e_nil, e_cons, e_kops, e_some, e_mov, e_bin, e_eql, e_faddr, e_faddr_ptr, e_len, e_len_sl, e_load, w_region, w_seq, w_ret, s_n, s_r, c_t, Nat.reduceLT, Nat.reduceBEq, decide_true, List.length_cons, List.length_nil, e_cell_ptr, e_cl1, gat_2, upd_same, true_and, Nat.zero_add, Nat.lt_add_one, ns2, ns12]
        by_cases hl : l = 0
        · subst hl
          refine good _ _ _ (hu _) rfl ⟨hq, hp, fun _ => rfl, fun h => absurd rfl h⟩
        · refine bad _ _ _ (hu _) ?_ fun h => hl (h.2.2.1 rfl)
          have : ¬ ((l : Int) = 0) := by omega
          simp -implicitDefEqProofs only [st_same, decide_false, this]
      · have hw0 : (l : Int) ≤ 140737488355328 ∨ True := .inr trivial
        by_cases hl : (l : Int) = m
        · subst hl
          simp -implicitDefEqProofs only [gev_t, gev_c, st_same, st_ne, e_nil, e_cons, e_kops, e_some, e_mov, e_bin, e_neq, e_faddr, e_faddr_ptr, e_len, e_len_sl, e_load, w_skip, w_region, w_seq, w_block, w_cond, w_loop, s_n, c_f, Nat.reduceLT, Nat.reduceBEq, decide_true, decide_false, Bool.not_true, List.length_cons, List.length_nil, e_cell_ptr, e_cl1, gat_1, gat_2, upd_same, true_and, Nat.zero_add, Nat.lt_add_one, ns2, ns12, hm]
          refine loop_rule (fun (j : Nat) E H' n' => n' = n + 1 ∧ H' n = some [.int .i64 p, .int .i64 (l : Nat), isl l mo] ∧ (∀ b, b < n → H' b = H b) ∧ E 1 = .ptr n 0 ∧ E 31 = isl l mo ∧ E 32 = .int .i64 (l : Nat) ∧ E 33 = .int .i64 (j : Nat) ∧ j ≤ l ∧ ∀ i, i < j → 0 ≤ mo i ∧ mo i < p) (fun j => l - j) 0 ?_ ?_
          · exact ⟨rfl, by simp -implicitDefEqProofs only [upd_same], hu _, rfl, rfl, rfl, rfl, by omega, fun i hi => by omega⟩
          rintro j E H' n' ⟨rfl, h0, ho, e1, e31, e32, e33, j1, j2⟩
          simp -implicitDefEqProofs only [gev_t, st_same, e_nil, e_cons, e_kops, e_some, e_bin, e_lss, w_region, w_seq, w_cond, s_n, Nat.reduceLT, e32, e33]
          refine c_split (fun hc => ?_) (fun hc => ?_)
          · have hjN : j < l := by omega
            have hwj := wrap64 (x := (j : Int) + 1) (by omega)
            by_cases hlo : mo j < 0
            · simp -implicitDefEqProofs only [gev_t, gev_c, st_same, st_ne, e_nil, e_cons, e_kops, e_guard, e_ft, e_some, e_mov, e_pick, e_pick_t, e_bin, e_lss, e_iaddr, e_iaddr_sl, e_load, e_cell_pp, w_skip, w_region, w_seq, w_block, w_ret, w_cond, s_n, s_r, b_r, c_t, l_r, Nat.reduceLT, Nat.reduceBEq, decide_true, Int.toNat_natCast, true_and, and_self, if_true, Nat.mul_one, tab_len, Int.natCast_nonneg, it_at, e31, e33, hc, hjN, gat_tab, hlo]
              exact bad _ _ _ ho (by simp -implicitDefEqProofs only [st_same]) fun h => by have := (h.2.2.2 hm).2 j hjN; omega
            · by_cases hhi : p ≤ mo j
              · simp -implicitDefEqProofs only [gev_t, gev_c, st_same, st_ne, e_nil, e_cons, e_kops, e_guard, e_ff, e_some, e_mov, e_pick, e_pick_f, e_bin, e_lss, e_geq, e_faddr, e_faddr_ptr, e_iaddr, e_iaddr_sl, e_load, e_cell_pp, w_skip, w_region, w_seq, w_block, w_ret, w_cond, s_n, s_r, b_r, c_t, l_r, Nat.reduceLT, Nat.reduceBEq, decide_true, decide_false, Int.toNat_natCast, List.length_cons, List.length_nil, e_cell_ptr, e_cl1, gat_0, true_and, and_self, if_true, Nat.add_zero, Nat.zero_add, Nat.mul_one, tab_len, ns2, Int.natCast_nonneg, it_at, ns12, e1, e31, e33, hc, hjN, gat_tab, h0, hlo, hhi]
                exact bad _ _ _ ho (by simp -implicitDefEqProofs only [st_same]) fun h => by have := (h.2.2.2 hm).2 j hjN; omega
              · simp -implicitDefEqProofs only [gev_t, gev_c, st_same, st_ne, e_nil, e_cons, e_kops, e_guard, e_ff, e_some, e_mov, e_pick, e_pick_f, e_bin, e_add, e_lss, e_geq, e_faddr, e_faddr_ptr, e_iaddr, e_iaddr_sl, e_load, e_cell_pp, w_skip, w_region, w_seq, w_block, w_cond, s_n, b_n, c_f, Nat.reduceLT, Nat.reduceBEq, decide_true, decide_false, Int.toNat_natCast, List.length_cons, List.length_nil, e_cell_ptr, e_cl1, gat_0, true_and, and_self, if_true, Nat.add_zero, Nat.zero_add, Nat.mul_one, tab_len, Nat.lt_add_one, ns2, Int.natCast_nonneg, it_at, ns12, e1, e31, e33, hc, hjN, gat_tab, h0, hlo, hhi, hwj]
                refine l_n ⟨j + 1, by omega, rfl, h0, ho, by simp -implicitDefEqProofs only [st_ne, Nat.reduceBEq, e1], by simp -implicitDefEqProofs only [st_ne, Nat.reduceBEq, e31], by simp -implicitDefEqProofs only [st_ne, Nat.reduceBEq, e32], by simp -implicitDefEqProofs only [st_same]; rfl, by omega, fun i hi => ?_⟩
                by_cases e : i = j
                · subst e; omega
                · exact j2 i (by omega)
          · simp -implicitDefEqProofs only [gev_c, e_nil, e_cons, e_kops, e_mov, w_region, w_seq, w_exit, w_ret, s_n, s_x, b_x, l_x, if_true]
            exact good _ _ _ ho (by simp -implicitDefEqProofs only [st_same]) ⟨hq, hp, fun h => absurd h hm, fun _ => ⟨rfl, fun i hi => j2 i (by omega)⟩⟩
        · simp -implicitDefEqProofs only [gev_t, gev_c, st_same, st_ne, e_nil, e_cons, e_kops, e_some, e_mov, e_bin, e_neq, e_faddr, e_faddr_ptr, e_len, e_len_sl, e_load, w_skip, w_region, w_seq, w_ret, w_cond, s_n, s_r, c_t, c_f, Nat.reduceLT, Nat.reduceBEq, decide_false, Bool.not_false, List.length_cons, List.length_nil, e_cell_ptr, e_cl1, gat_1, gat_2, upd_same, true_and, Nat.zero_add, Nat.lt_add_one, ns2, ns12, hm, hl]
          exact bad _ _ _ (hu _) (by simp -implicitDefEqProofs only [st_same]) fun h => hl (h.2.2.2 hm).1
    · simp -implicitDefEqProofs only [gev_t, gev_c, st_same, st_ne, e_nil, e_cons, e_kops, e_guard, e_ff, e_some, e_mov, e_pick, e_pick_f, e_un, e_not, w_region, w_seq, w_ret, w_cond, s_n, s_r, c_t, Nat.reduceLT, Nat.reduceBEq, decide_false, Bool.not_false, hp]
      exact bad _ _ _ (hu _) rfl fun h => hp h.2.1
end Go.Proofs.Ytdpibcniodhinaa.Gh
/- The field as the program makes it. -/
namespace Go.Proofs.Ytdpibcniodhinaa.Gh
open Go Go.RowKit
open Alg (CR Ps Dg Zm Mn El Cg sm pw Irr Prm)
set_option linter.unusedVariables false
set_option linter.unusedSimpArgs false

theorem fz_own_isl {H : Heap} {n b m : Nat} {f : Nat → Int} (h : H b = some (tab m (it f))) (hb : n ≤ b) : Fz H n (.own b 0 m) (isl m f) :=
  .ownf b 0 m _ _ h hb (fun i a c => by omega) (by rw [tab_len]; omega) tab_len fun j hj => by
    rw [Nat.zero_add, gat_tab hj]; exact .int _ _
section
variable {k : Nat} {M : Mn k}
/-- how many coefficients a description names -/
def mlen (M : Mn k) : Nat := if M.m = 1 then 0 else M.m
def mco (M : Mn k) : Nat → Int := fun i => (M.f.co i).v
theorem fmod_isl (M : Mn k) : fmod M = isl (mlen M) (mco M) := rfl
theorem Fc.mlen (h : Fc M) : mlen M ≤ 8 := by
  have := h.m8
  unfold Gh.mlen; split <;> omega
theorem fd_shp (h : Fc M) (hp : Prm ((k : Int) + 2)) : Shp ((k : Int) + 2) (M.m : Nat) (mlen M) (mco M) := by
  have h1 := h.qo
  have h2 := h.q2
  have hq : qo ((k : Int) + 2) (M.m : Nat) ≠ 0 := by rw [h1]; omega
  refine ⟨hq, ⟨by omega, hp⟩, fun e => if_pos (by omega), fun e => ⟨?_, fun j _ => ⟨(M.f.co j).lo, (M.f.co j).hi⟩⟩⟩
  have : mlen M = M.m := if_neg (by omega)
  rw [this]
/-- the field as the program keeps it -/
noncomputable def gfv (M : Mn k) (g : El M) : GV := .pp [.int .i64 ((k : Int) + 2), .int .i64 (M.m : Nat), fmod M, .int .i64 (qn M : Nat), isl (qn M - 1) (pws g), isl (qn M) fun v => (lg g (el M (v : Nat)) : Nat)] 0
/-- the exponents so far -/
noncomputable def lgi (g : El M) (i : Nat) : Nat → Int := fun v => if v ≠ 0 ∧ lg g (el M (v : Nat)) < i then (lg g (el M (v : Nat)) : Nat) else 0
theorem lgi_zero (g : El M) : lgi g 0 = fun _ => 0 := by funext v; exact if_neg (by omega)
theorem lgi_step {g : El M} (h : Gen g) {i : Nat} (hi : i < qn M - 1) : tab (qn M) (it (upf (lgi g i) (cn (pw g i)) i)) = tab (qn M) (it (lgi g (i + 1))) := by
  refine tab_congr fun v hv => congrArg (GV.int .i64) ?_
  simp only [upf, lgi]
  by_cases e : v = cn (pw g i)
  · subst e
    have h0 : cn (pw g i) ≠ 0 := fun e => gen_ne h i hi (cn_eq_zero.1 e)
    rw [if_pos rfl, el_cn, lg_of h hi, if_pos ⟨h0, by omega⟩]
  · rw [if_neg e]
    by_cases h0 : v = 0
    · rw [if_neg (by omega), if_neg (by omega)]
    · have hne : el M (v : Nat) ≠ 0 := fun e0 => by have := cn_el (M := M) hv; rw [e0, cn_zero] at this; omega
      have h1 : lg g (el M (v : Nat)) ≠ i := fun e1 => by
        apply e
        rw [← e1, lg_pw h hne, cn_el hv]
      by_cases h2 : lg g (el M (v : Nat)) < i
      · rw [if_pos ⟨h0, h2⟩, if_pos ⟨h0, by omega⟩]
      · rw [if_neg (by omega), if_neg (by omega)]
theorem lgi_all {g : El M} (h : Gen g) : tab (qn M) (it (lgi g (qn M - 1))) = tab (qn M) (it fun v => (lg g (el M (v : Nat)) : Nat)) := by
  refine tab_congr fun v hv => congrArg (GV.int .i64) ?_
  simp only [lgi]
  by_cases h0 : v = 0
  · subst h0
    have : el M ((0 : Nat) : Int) = 0 := el_zero
    rw [if_neg (by omega), this, lg_zero]; rfl
  · have hne : el M (v : Nat) ≠ 0 := fun e0 => by have := cn_el (M := M) hv; rw [e0, cn_zero] at this; omega
    rw [if_pos ⟨h0, lg_lt h hne⟩]

theorem Fc.qo' (h : Fc M) : Gh.qo ((k : Int) + 2) (M.m : Nat) = (Gh.qn M : Nat) := by rw [h.qo, qq_qn]
theorem sp_field_New_bad {H : Heap} {n : Nat} (p m : Int) (l : Nat) (mo : Nat → Int) (hs : ¬ Shp p m l mo) : Spec prog fid_field_New [fgv p m (isl l mo)] H n (.tup [.nilp, .int .i64 1]) H n := by
  refine spec_ends hmix ok_field_New rfl fun hF => ?_
  show gw prog B_field_New _ (tl 53 _) H n
  simp -implicitDefEqProofs only [B_field_New, fgv, gev_t, gev_c, st_same, st_ne, mkE_nil, mkE_cons, e_nil, e_cons, e_kops, e_mov, e_load, e_box, e_box_some, e_call, e_gc_agg, w_region, w_seq, s_n, Nat.reduceLT, Nat.reduceBEq, List.length_cons, List.length_nil, e_cell_ptr, e_clm, upd_same, true_and, List.drop_zero, List.take_zero, List.take_succ_cons, Nat.zero_add, List.map_cons, List.map_nil, ns2, ns12, Nat.le_refl]
  refine call_of (sp_field_shape p m l mo) ?_
  simp -implicitDefEqProofs only [gev_t, gev_c, st_same, e_nil, e_cons, e_kops, e_some, e_mov, e_un, e_not, w_region, w_seq, w_ret, w_cond, s_n, s_r, c_t, Nat.reduceLT, decide_false, Bool.not_false, hs]
  exact fin_ret2 rfl (by decide) (by decide) .nilp (.int _ _) fun b hb => upd_ne _ _ (by omega)
theorem sp_field_New_no {H : Heap} {n : Nat} (h : Fc M) (hp : Prm ((k : Int) + 2)) (hg : ¬ ∃ x : El M, x ≠ 0 ∧ Gen x) : Spec prog fid_field_New [fd M] H n (.tup [.nilp, .int .i64 1]) H n := by
  refine spec_ends hmix ok_field_New rfl fun hF => ?_
  show gw prog B_field_New _ (tl 53 _) H n
  have hs := fd_shp h hp
  simp -implicitDefEqProofs only [B_field_New, fd, fgv, gev_t, gev_c, st_same, st_ne, mkE_nil, mkE_cons, e_nil, e_cons, e_kops, e_mov, e_load, e_box, e_box_some, e_call, e_gc_agg, w_region, w_seq, s_n, Nat.reduceLT, Nat.reduceBEq, List.length_cons, List.length_nil, e_cell_ptr, e_clm, upd_same, true_and, List.drop_zero, List.take_zero, List.take_succ_cons, Nat.zero_add, List.map_cons, List.map_nil, ns2, ns12, Nat.le_refl]
  refine call_of (sp_field_shape _ _ (mlen M) (mco M)) ?_
  simp -implicitDefEqProofs only [gev_t, st_same, st_ne, e_nil, e_cons, e_kops, e_some, e_un, e_not, e_faddr, e_faddr_ptr, e_load, e_call, w_skip, w_region, w_seq, w_cond, s_n, c_f, Nat.reduceLT, Nat.reduceBEq, decide_true, Bool.not_true, List.length_cons, List.length_nil, e_cell_ptr, e_cl1, gat_0, gat_1, upd_same, true_and, Nat.add_zero, Nat.zero_add, List.map_cons, List.map_nil, ns2, ns12, hs]
  refine call_of (sp_field_order _ _) ?_
  simp -implicitDefEqProofs only [gev_t, st_same, st_ne, e_nil, e_cons, e_kops, e_mov, e_load, e_call, w_region, w_seq, s_n, Nat.reduceLT, Nat.reduceBEq, List.length_cons, List.length_nil, e_cell_ptr, e_clm, upd_same, true_and, List.drop_zero, List.take_zero, List.take_succ_cons, Nat.zero_add, List.map_cons, List.map_nil, ns2, ns12, Nat.le_refl, h.qo']
  refine call_of (sp_field_generator0 h hg) ?_
  simp -implicitDefEqProofs only [gev_t, gev_c, st_same, e_nil, e_cons, e_kops, e_some, e_mov, e_isnil, e_isnil_nil, w_region, w_seq, w_ret, w_cond, s_n, s_r, c_t, Nat.reduceLT, Bool.not_false]
  exact fin_ret2 rfl (by decide) (by decide) .nilp (.int _ _) fun b hb => upd_ne _ _ (by omega)
theorem sp_field_New_ok {H : Heap} {n : Nat} (h : Fc M) (hp : Prm ((k : Int) + 2)) (hg : ∃ x : El M, x ≠ 0 ∧ Gen x) : Spec prog fid_field_New [fd M] H n (.tup [gfv M (gnr hg), .int .i64 0]) H n := by
  refine spec_ends hmix ok_field_New rfl fun hF => ?_
  show gw prog B_field_New _ (tl 53 _) H n
  have hs := fd_shp h hp
  have hq2 := qn_two M
  have hq := h.qn
  have hml := h.mlen
  have hG := gnr_gen hg
  simp -implicitDefEqProofs only [B_field_New, fd, fgv, gev_t, gev_c, st_same, st_ne, mkE_nil, mkE_cons, e_nil, e_cons, e_kops, e_mov, e_load, e_box, e_box_some, e_call, e_gc_agg, w_region, w_seq, s_n, Nat.reduceLT, Nat.reduceBEq, List.length_cons, List.length_nil, e_cell_ptr, e_clm, upd_same, true_and, List.drop_zero, List.take_zero, List.take_succ_cons, Nat.zero_add, List.map_cons, List.map_nil, ns2, ns12, Nat.le_refl]
  refine call_of (sp_field_shape _ _ (mlen M) (mco M)) ?_
  simp -implicitDefEqProofs only [gev_t, st_same, st_ne, e_nil, e_cons, e_kops, e_some, e_un, e_not, e_faddr, e_faddr_ptr, e_load, e_call, w_skip, w_region, w_seq, w_cond, s_n, c_f, Nat.reduceLT, Nat.reduceBEq, decide_true, Bool.not_true, List.length_cons, List.length_nil, e_cell_ptr, e_cl1, gat_0, gat_1, upd_same, true_and, Nat.add_zero, Nat.zero_add, List.map_cons, List.map_nil, ns2, ns12, hs]
  refine call_of (sp_field_order _ _) ?_
  simp -implicitDefEqProofs only [gev_t, st_same, st_ne, e_nil, e_cons, e_kops, e_mov, e_load, e_call, w_region, w_seq, s_n, Nat.reduceLT, Nat.reduceBEq, List.length_cons, List.length_nil, e_cell_ptr, e_clm, upd_same, true_and, List.drop_zero, List.take_zero, List.take_succ_cons, Nat.zero_add, List.map_cons, List.map_nil, ns2, ns12, Nat.le_refl, h.qo']
  refine call_of (sp_field_generator h hg) ?_
  have hq0 : 0 < qn M - 1 := by omega
  generalize gnr hg = g at *
  simp -implicitDefEqProofs only [gev_t, gev_c, st_same, st_ne, e_nil, e_cons, e_kops, e_some, e_mov, e_faddr, e_faddr_ptr, e_len, e_len_own, e_isnil, e_isnil_own, e_box, e_box_some, e_empty, e_gc_int, e_gc_own, e_gc_agg, w_skip, w_region, w_seq, w_block, w_cond, w_loop, w_draw, s_n, c_f, d_kdr, m_nil, m_cons, m_kmops, m_kmopsn, m_kpm, m_load, m_mslice, m_ms_int, m_append, m_app_emp, Nat.reduceLT, Nat.reduceBEq, Nat.reduceLeDiff, Int.toNat_natCast, List.length_cons, List.length_nil, setL_nil, setL_cons, e_gel_sl, e_fill_nil, e_fill, e_hfl, gat_0, gat_1, gat_2, upd_same, upd_n1, true_and, and_self, if_true, List.set_cons_zero, List.set_cons_succ, Nat.add_zero, Nat.zero_add, e_map_some, tab_len, m_p_mov, m_p_fieldAddr, m_p_build, m_p_empty, m_cell_ptr, m_cl1, Nat.lt_add_one, ns2, Int.natCast_nonneg, ns12, ns13, ns14, ns15, Nat.le_refl, Nat.lt_add_right_iff_pos, e_build, hq0, fmod_isl]
  repeat with_reducible refine And.intro (by omega) ?_
  refine loop_rule (fun (i : Nat) E H' n' => n' = n + 5 ∧ H' (n + 1) = some (tab (qn M - 1) (it (pws g))) ∧ H' (n + 2) = some (tab (mlen M) (it (mco M))) ∧ H' (n + 3) = some (tab (qn M) (it (lgi g i))) ∧ H' (n + 4) = some [.int .i64 ((k : Int) + 2), .int .i64 (M.m : Nat), .own (n + 2) 0 (mlen M), .int .i64 (qn M : Nat), .own (n + 1) 0 (qn M - 1), .own (n + 3) 0 (qn M)] ∧ (∀ b, b < n → H' b = H b) ∧ E 6 = .ptr (n + 4) 0 ∧ E 37 = .own (n + 1) 0 (qn M - 1) ∧ E 38 = .int .i64 (qn M - 1 : Nat) ∧ E 39 = .int .i64 (i : Nat) ∧ i ≤ qn M - 1) (fun i => qn M - i) 0 ?_ ?_
  · refine ⟨rfl, ?_, ?_, ?_, ?_, fun c hc => ?_, rfl, rfl, rfl, rfl, by omega⟩
    · simp -implicitDefEqProofs only [Nat.reduceBEq, upd_same, upd_lit]
    · simp -implicitDefEqProofs only [Nat.reduceBEq, upd_same, upd_lit]
    · simp -implicitDefEqProofs only [Nat.reduceBEq, upd_same, upd_lit, tab_rep, lgi_zero]; rfl
    · simp -implicitDefEqProofs only [upd_same]
    · rw [upd_ne _ _ (by omega), upd_ne _ _ (by omega), upd_ne _ _ (by omega), upd_ne _ _ (by omega), upd_ne _ _ (by omega)]
  rintro i E H' n' ⟨rfl, h1, h2, h3, h4, ho, e6, e37, e38, e39, hi⟩
  simp -implicitDefEqProofs only [gev_t, st_same, e_nil, e_cons, e_kops, e_some, e_bin, e_lss, w_region, w_seq, w_cond, s_n, Nat.reduceLT, e38, e39]
  refine c_split (fun hc => ?_) (fun hc => ?_)
  · have hiN : i < qn M - 1 := by omega
    have hlt := cn_lt (pw g i)
    have hltI : ((cn (pw g i) : Nat) : Int) < (qn M : Int) := by omega
    have hnn := Int.natCast_nonneg (cn (pw g i))
    have hpw : pws g i = (cn (pw g i) : Nat) := rfl
    have hwi := wrap64 (x := (i : Int) + 1) (by omega)
    have hst := lgi_step hG hiN
    simp -implicitDefEqProofs only [gev_t, gev_c, st_same, st_ne, e_nil, e_cons, e_kops, e_kops_none, e_some, e_mov, e_bin, e_add, e_faddr, e_faddr_ptr, e_iaddr, e_iaddr_own, e_nilc, e_nilc_ptr, e_load, e_store, e_gc_int, w_skip, w_region, w_seq, w_block, s_n, b_n, Nat.reduceLT, Nat.reduceBEq, decide_true, Int.toNat_natCast, List.length_cons, List.length_nil, setL_nil, setL_cons, e_cell_ptr, e_cl1, e_store_ptr, e_stp, gat_5, cell_int, true_and, and_self, if_true, List.all_cons, List.all_nil, Bool.and_self, Nat.zero_add, Nat.mul_one, tab_len, tab_set, it_upf, Nat.lt_add_one, ns2, Int.natCast_nonneg, it_at, ns12, ns13, ns14, ns15, e6, e37, e39, h1, h3, h4, hiN, hc, gat_tab, hpw, hltI, hnn, hwi, hst]
    repeat with_reducible refine And.intro (by omega) ?_
    exact l_n ⟨i + 1, by omega, rfl, by simp -implicitDefEqProofs only [Nat.reduceBEq, upd_lit, h1], by simp -implicitDefEqProofs only [Nat.reduceBEq, upd_lit, h2], by simp -implicitDefEqProofs only [upd_same], by simp -implicitDefEqProofs only [Nat.reduceBEq, upd_lit, h4], fun b hb => by rw [upd_ne _ _ (by omega)]; exact ho b hb, by simp -implicitDefEqProofs only [st_ne, Nat.reduceBEq, e6], by simp -implicitDefEqProofs only [st_ne, Nat.reduceBEq, e37], by simp -implicitDefEqProofs only [st_ne, Nat.reduceBEq, e38], by simp -implicitDefEqProofs only [st_same]; rfl, by omega⟩
  · have : i = qn M - 1 := by omega
    subst this
    rw [lgi_all hG] at h3
    simp -implicitDefEqProofs only [gev_t, gev_c, st_same, st_ne, e_nil, e_cons, e_kops, e_mov, w_region, w_seq, w_exit, w_ret, s_n, s_x, b_x, l_x, Nat.reduceLT, Nat.reduceBEq, if_true, Nat.lt_add_one, e6]
    refine fin_ret2 rfl (by decide) (by decide) ?_ (.int _ _) ho
    simp -implicitDefEqProofs only [st_same, st_ne, Nat.reduceBEq]
    refine .ptrf (n + 4) 0 _ _ h4 (by omega) (fun i a c => by omega) (by simp) rfl fun j hj => ?_
    rcases j with _ | _ | _ | _ | _ | _ | j
    · exact .int _ _
    · exact .int _ _
    · exact fz_own_isl h2 (by omega)
    · exact .int _ _
    · exact fz_own_isl h1 (by omega)
    · exact fz_own_isl h3 (by omega)
    · simp at hj; omega
end
end Go.Proofs.Ytdpibcniodhinaa.Gh
/- The reference's division of polynomials. -/
namespace Go.Proofs.Ytdpibcniodhinaa.Gh
open Go Go.RowKit
open Alg (CR Ps Dg Zm Mn El Cg sm pw Irr Prm)
set_option linter.unusedVariables false
set_option linter.unusedSimpArgs false

section
variable {k : Nat} {M L : Mn k}
noncomputable instance (M L : Mn k) : Decidable (Cg L M.f 0) := Classical.propDecidable _
theorem mco_top (M : Mn k) : mco M M.m = 1 := by show (M.f.co M.m).v = 1; rw [M.top]; exact Zm.one_v
theorem trc_mco (M : Mn k) : trc (k := k) (mco M) (M.m + 1) = M.f := by
  apply Ps.ext'
  intro t
  show (if t < M.m + 1 then Zm.of (M.f.co t).v else 0) = _
  by_cases h : t < M.m + 1
  · rw [if_pos h, Zm.of_self]
  · rw [if_neg h, M.dg t (by omega)]
theorem cg_quot (h : Cg L M.f 0) : ∃ q, Dg q (M.m + 1 - L.m) ∧ M.f = q * L.f := by
  obtain ⟨n, q, hq, e⟩ := h
  rw [Alg.add_zero] at e
  obtain ⟨s, r, e2, hr, hs⟩ := Alg.divides_ex L.f L.m 1 L.dg (by rw [L.top, Alg.mul_one]) (M.m + 1) M.f M.dg
  have h3 : (q - s) * L.f = r := by
    rw [Alg.sub_mul, ← e, e2, Alg.add_comm, Alg.add_sub_cancel]
  have h4 : Dg (q - s) (n + (M.m + 1 - L.m)) := (hq.mono (by omega)).sub (hs.mono (by omega))
  have h5 := Alg.multiple_small L.f L.m 1 L.dg (by rw [L.top, Alg.mul_one]) _ (q - s) h4 (by rw [h3]; exact hr)
  have h6 := Alg.sub_eq_zero.1 h5
  subst h6
  exact ⟨_, hs, e⟩
theorem trc_eq_zero {c : Nat → Int} {m : Nat} (h : ∀ t, t < m → 0 ≤ c t ∧ c t < (k : Int) + 2) : trc (k := k) c m = 0 ↔ ∀ t, t < m → c t = 0 := by
  constructor
  · intro e t ht
    have h1 := congrArg (fun p : Ps (Zm k) => (p.co t).v) e
    have h2 : (if t < m then Zm.of (k := k) (c t) else 0).v = (0 : Zm k).v := h1
    rw [if_pos ht, of_v_small (h t ht).1 (h t ht).2] at h2
    exact h2
  · intro e
    apply Ps.ext'
    intro t
    show (if t < m then Zm.of (c t) else 0) = 0
    by_cases ht : t < m
    · rw [if_pos ht, e t ht]; rfl
    · rw [if_neg ht]
theorem trc_congr {c c' : Nat → Int} {m : Nat} (h : ∀ t, t < m → c t = c' t) : trc (k := k) c m = trc c' m := by
  apply Ps.ext'
  intro t
  show (if t < m then Zm.of (c t) else 0) = if t < m then Zm.of (c' t) else 0
  by_cases ht : t < m
  · rw [if_pos ht, if_pos ht, h t ht]
  · rw [if_neg ht, if_neg ht]

def divI (M L : Mn k) (n : Nat) (H : Heap) (c : Nat → Int) (E : Env) (H' : Heap) (n' : Nat) : Prop :=
  n' = n + 3 ∧ H' (n + 2) = some (tab (M.m + 1) (it c)) ∧ (∀ b, b < n → H' b = H b) ∧ E 0 = isl L.m (mco L) ∧ E 2 = .int .i64 ((k : Int) + 2) ∧ E 7 = .int .i64 (L.m : Nat) ∧ E 8 = .own (n + 2) 0 (M.m + 1) ∧ ∀ t, t < M.m + 1 → 0 ≤ c t ∧ c t < (k : Int) + 2

theorem sp_ref04_divides {H : Heap} {n : Nat} (h : Fc M) (hL : L.m ≤ M.m) : Spec prog fid_ref04_divides [isl L.m (mco L), isl M.m (mco M), .int .i64 ((k : Int) + 2)] H n (.bool (decide (Cg L M.f 0))) H n := by
  refine spec_ends hmix ok_ref04_divides rfl fun hF => ?_
  show gw prog B_ref04_divides _ (tl 78 _) H n
  have hp := h.p256
  have hm8 := h.m8
  have hL0 := L.pos
  have hne : ((k : Int) + 2 = 0) = False := by simp; omega
  have happ : tab M.m (it (mco M)) ++ [GV.int .i64 1] = tab (M.m + 1) (it (mco M)) := by
    rw [tab_succ]
    have : it (mco M) M.m = GV.int .i64 1 := congrArg (GV.int .i64) (mco_top M)
    rw [this]
  have f1 : (n = n + 1) = False := by simp
  have hwm : IntKind.i64.wrap (((M.m + 1 : Nat) : Int) - 1) = (M.m : Int) := (wrap64 (by omega)).trans (by omega)
  simp -implicitDefEqProofs only [B_ref04_divides, gev_t, gev_c, st_same, st_ne, mkE_nil, mkE_cons, e_nil, e_cons, e_kops, e_some, e_mov, e_bin, e_sub, e_len, e_len_sl, e_len_own, e_empty, e_bslice, e_bs_some, e_append, e_app_emp, e_gc_int, w_region, w_seq, w_block, w_loop, s_n, Nat.reduceLT, Nat.reduceBEq, List.length_cons, List.length_nil, setL_nil, setL_cons, e_app_own, e_appo, e_gel_sl, e_gel_own, e_hgel, e_fill_nil, e_fill, e_hfl, upd_same, cell_int, true_and, and_self, if_true, List.all_cons, List.all_nil, Bool.and_self, List.drop_zero, List.take_zero, List.take_succ_cons, List.set_cons_zero, Nat.zero_add, tab_len, ns2, ns12, Nat.le_refl, happ, upd_no, f1, hwm]
  repeat with_reducible refine And.intro (by omega) ?_
  refine loop_rule (fun (i : Nat) E H' n' => ∃ c, divI M L n H c E H' n' ∧ (∀ t, i ≤ t → t < M.m + 1 → c t = 0) ∧ Cg L M.f (trc c i) ∧ E 9 = .int .i64 ((i : Int) - 1) ∧ L.m ≤ i ∧ i ≤ M.m + 1) (fun i => i) (M.m + 1) ?_ ?_
  · refine ⟨mco M, ⟨rfl, ?_, fun c hc => ?_, rfl, rfl, rfl, rfl, fun t ht => ⟨(M.f.co t).lo, (M.f.co t).hi⟩⟩, fun t h1 h2 => by omega, by rw [trc_mco]; exact Cg.refl _, ?_, by omega, by omega⟩
    · simp -implicitDefEqProofs only [upd_same]
    · rw [upd_ne _ _ (by omega), upd_ne _ _ (by omega), upd_ne _ _ (by omega), upd_ne _ _ (by omega)]
    · simp -implicitDefEqProofs only [st_same]
      congr 1
      omega
  rintro i E H' n' ⟨c, ⟨rfl, h2, ho, e0, e2, e7, e8, hc⟩, hz, hS, e9, hi0, hi⟩
  simp -implicitDefEqProofs only [gev_t, st_same, st_ne, e_nil, e_cons, e_kops, e_some, e_mov, e_bin, e_geq, w_region, w_seq, w_cond, s_n, Nat.reduceLT, Nat.reduceBEq, e7, e9]
  refine c_split (fun hlt => ?_) (fun hlt => ?_)
  · obtain ⟨i, rfl⟩ : ∃ u, i = u + 1 := ⟨i - 1, by omega⟩
    have hi1 : ((i + 1 : Nat) : Int) - 1 = (i : Nat) := by omega
    rw [hi1] at e9 hlt
    have hiN : i < M.m + 1 := by omega
    have hiI : (i : Int) < ((M.m + 1 : Nat) : Int) := by omega
    simp -implicitDefEqProofs only [gev_t, gev_c, st_same, st_ne, e_nil, e_cons, e_kops, e_some, e_mov, e_iaddr, e_iaddr_own, e_load, w_skip, w_region, w_seq, w_block, w_loop, s_n, Nat.reduceLT, Nat.reduceBEq, Int.toNat_natCast, e_cell_ptr, e_cl1, true_and, and_self, if_true, Nat.zero_add, Nat.mul_one, tab_len, Int.natCast_nonneg, it_at, e8, e9, h2, hiN, hiI, gat_tab]
    repeat with_reducible refine And.intro (by omega) ?_
    refine loop_rule (fun (j : Nat) E H' n' => divI M L n H (rdc L c i j) E H' n' ∧ E 9 = .int .i64 i ∧ E 10 = .int .i64 (c i) ∧ E 11 = .int .i64 j ∧ j ≤ L.m) (fun j => L.m - j) 0 ?_ ?_
    · rw [rdc_zero]
      exact ⟨⟨rfl, h2, ho, by simp -implicitDefEqProofs only [st_ne, Nat.reduceBEq, e0], by simp -implicitDefEqProofs only [st_ne, Nat.reduceBEq, e2], by simp -implicitDefEqProofs only [st_ne, Nat.reduceBEq, e7], by simp -implicitDefEqProofs only [st_ne, Nat.reduceBEq, e8], hc⟩, by simp -implicitDefEqProofs only [st_ne, Nat.reduceBEq, e9], by simp -implicitDefEqProofs only [st_same, st_ne, Nat.reduceBEq], rfl, by omega⟩
    clear h2 ho e0 e2 e7 e8 e9 H' E
    rintro j E H' n' ⟨⟨rfl, h2, ho, e0, e2, e7, e8, hc'⟩, e9, e10, e11, hj⟩
    simp -implicitDefEqProofs only [gev_t, st_same, st_ne, e_nil, e_cons, e_kops, e_some, e_mov, e_bin, e_lss, w_region, w_seq, w_cond, s_n, Nat.reduceLT, Nat.reduceBEq, e7, e11]
    refine c_split (fun hlt' => ?_) (fun hlt' => ?_)
    · have hjN : j < L.m := by omega
      have hijN : i - L.m + j < M.m + 1 := by omega
      have hijI : ((i - L.m + j : Nat) : Int) < ((M.m + 1 : Nat) : Int) := by omega
      have hi0' := Int.natCast_nonneg (i - L.m + j)
      have hws : IntKind.i64.wrap ((i : Int) - (L.m : Int)) = ((i - L.m : Nat) : Int) := (wrap64 (by omega)).trans (by omega)
      have hwij : IntKind.i64.wrap (((i - L.m : Nat) : Int) + (j : Int)) = ((i - L.m + j : Nat) : Int) := (wrap64 (by omega)).trans (by omega)
      have hci := hc' i hiN
      have hcij := hc' (i - L.m + j) hijN
      have hf0 := (L.f.co j).lo
      have hf1 := (L.f.co j).hi
      have hst := rdc_step (M := L) c (i := i) (j := j) (by omega) hjN
      have hY : rdc L c i j i = c i := if_neg (by omega)
      rw [hY] at hci hst
      have hZ : mco L j = (L.f.co j).v := rfl
      generalize hX : rdc L c i j (i - L.m + j) = X at *
      generalize hYv : c i = Y at *
      generalize hZv : (L.f.co j).v = Z at *
      have hP0 : 0 ≤ ((k : Int) + 2 - Y) * Z := Int.mul_nonneg (by omega) hf0
      have hP1 : ((k : Int) + 2 - Y) * Z ≤ 256 * 256 := Int.mul_le_mul (by omega) (by omega) hf0 (by omega)
      have hwd := wrap64 (x := (k : Int) + 2 - Y) (by omega)
      have hwm := wrap64 (x := ((k : Int) + 2 - Y) * Z) (by omega)
      have hwa := wrap64 (x := X + ((k : Int) + 2 - Y) * Z) (by omega)
      have ht := tmod_nn (a := X + ((k : Int) + 2 - Y) * Z) (b := (k : Int) + 2) (by omega)
      have hwj := wrap64 (x := (j : Int) + 1) (by omega)
      have hiP := Int.natCast_nonneg i
      simp -implicitDefEqProofs only [gev_t, gev_c, st_same, st_ne, e_nil, e_cons, e_kops, e_kops_none, e_some, e_mov, e_bin, e_add, e_sub, e_mul, e_rem, e_iaddr, e_iaddr_own, e_iaddr_sl, e_store, e_gc_int, w_skip, w_region, w_seq, w_block, w_draw, s_n, b_n, d_kdr, m_nil, m_cons, m_kmops, m_kpm, m_load, m_cell_pp, Nat.reduceLT, Nat.reduceBEq, Nat.reduceLeDiff, decide_true, Int.toNat_natCast, List.length_cons, List.length_nil, setL_nil, setL_cons, e_store_ptr, e_stp, cell_int, true_and, and_self, if_true, if_false, List.all_cons, List.all_nil, Bool.and_self, Nat.zero_add, Nat.mul_one, tab_len, tab_set, it_upf, m_p_mov, m_p_bin, m_p_indexAddr, m_cell_ptr, m_cl1, Nat.lt_add_one, Int.natCast_nonneg, it_at, e0, e2, e7, e8, e9, e10, e11, h2, hlt', hjN, hijN, hijI, hi0', hws, hwij, gat_tab, hX, hZ, hwd, hwm, hwa, hne, ht, hwj]
      have hr0 : 0 ≤ (X + ((k : Int) + 2 - Y) * Z) % ((k : Int) + 2) := Int.emod_nonneg _ (by omega)
      have hr1 : (X + ((k : Int) + 2 - Y) * Z) % ((k : Int) + 2) < (k : Int) + 2 := Int.emod_lt_of_pos _ (by omega)
      have hc2 := upf_range hc' (i := i - L.m + j) hr0 hr1
      rw [hst] at hc2 ⊢
      repeat with_reducible refine And.intro (by omega) ?_
      exact l_n ⟨j + 1, by omega, ⟨rfl, by simp -implicitDefEqProofs only [upd_same], fun b hb => by rw [upd_ne _ _ (by omega)]; exact ho b hb, by simp -implicitDefEqProofs only [st_ne, Nat.reduceBEq, e0], by simp -implicitDefEqProofs only [st_ne, Nat.reduceBEq, e2], by simp -implicitDefEqProofs only [st_ne, Nat.reduceBEq, e7], by simp -implicitDefEqProofs only [st_ne, Nat.reduceBEq, e8], hc2⟩, by simp -implicitDefEqProofs only [st_ne, Nat.reduceBEq, e9], by simp -implicitDefEqProofs only [st_ne, Nat.reduceBEq, e10], by simp -implicitDefEqProofs only [st_same]; rfl, by omega⟩
    · have : j = L.m := by omega
      subst this
      have hwi := wrap64 (x := (i : Int) - 1) (by omega)
      simp -implicitDefEqProofs only [gev_t, gev_c, st_same, st_ne, e_nil, e_cons, e_kops, e_kops_none, e_some, e_mov, e_bin, e_sub, e_iaddr, e_iaddr_own, e_store, e_gc_int, w_region, w_seq, w_block, w_exit, w_loop, s_n, s_x, b_n, b_x, l_x, Nat.reduceLT, Nat.reduceBEq, Nat.reduceEqDiff, Nat.reduceLeDiff, Int.toNat_natCast, List.length_cons, List.length_nil, setL_nil, setL_cons, e_store_ptr, e_stp, cell_int, true_and, and_self, if_true, if_false, List.all_cons, List.all_nil, Bool.and_self, Nat.zero_add, Nat.mul_one, tab_len, tab_set, it_upf, Int.natCast_nonneg, e8, e9, h2, hiI, hwi]
      repeat with_reducible refine And.intro (by omega) ?_
      refine l_n ⟨i, by omega, upf (rdc L c i L.m) i 0, ⟨rfl, by simp -implicitDefEqProofs only [upd_same], fun b hb => by rw [upd_ne _ _ (by omega)]; exact ho b hb, by simp -implicitDefEqProofs only [st_ne, Nat.reduceBEq, e0], by simp -implicitDefEqProofs only [st_ne, Nat.reduceBEq, e2], by simp -implicitDefEqProofs only [st_ne, Nat.reduceBEq, e7], by simp -implicitDefEqProofs only [st_ne, Nat.reduceBEq, e8], upf_range hc' (by omega) (by omega)⟩, fun t t1 t2 => ?_, ?_, by simp -implicitDefEqProofs only [st_same], by omega, by omega⟩
      · by_cases e : t = i
        · subst e; exact upf_same _ _ _
        · rw [upf_ne _ _ e]
          have : rdc L c i L.m t = c t := if_neg (by omega)
          rw [this]; exact hz t (by omega) t2
      · refine hS.trans ?_
        have := rdc_cg (M := L) c (i := i) (by omega)
        rwa [trc_congr (c' := upf (rdc L c i L.m) i 0) fun t ht => (upf_ne _ _ (by omega)).symm] at this
  · have : i = L.m := by omega
    subst this
    have hiff : Cg L M.f 0 ↔ ∀ t, t < M.m + 1 → c t = 0 := by
      have h1 : Cg L M.f 0 ↔ trc (k := k) c L.m = 0 := by
        constructor
        · intro hh; exact Cg.eq (hS.symm.trans hh) (trc_dg _ _) (Dg.zero _)
        · intro hh; rwa [hh] at hS
      rw [h1, trc_eq_zero fun t ht => hc t (by omega)]
      constructor
      · intro hh t ht
        by_cases e : t < L.m
        · exact hh t e
        · exact hz t (by omega) ht
      · intro hh t ht; exact hh t (by omega)
    simp -implicitDefEqProofs only [gev_c, e_nil, e_cons, e_kops, e_mov, w_region, w_seq, w_block, w_exit, w_loop, s_n, s_x, b_x, l_x, if_true]
    refine loop_rule (fun (t : Nat) E H' n' => n' = n + 3 ∧ H' (n + 2) = some (tab (M.m + 1) (it c)) ∧ (∀ b, b < n → H' b = H b) ∧ E 8 = .own (n + 2) 0 (M.m + 1) ∧ E 12 = .int .i64 (t : Nat) ∧ t ≤ M.m + 1 ∧ ∀ u, u < t → c u = 0) (fun t => M.m + 1 - t) 0 ⟨rfl, h2, ho, by simp -implicitDefEqProofs only [st_ne, Nat.reduceBEq, e8], rfl, by omega, fun u hu => by omega⟩ ?_
    clear h2 ho e0 e2 e7 e8 e9 H' E
    rintro t E H' n' ⟨rfl, h2, ho, e8, e12, ht, hu⟩
    simp -implicitDefEqProofs only [gev_t, st_same, st_ne, e_nil, e_cons, e_kops, e_some, e_mov, e_bin, e_lss, e_len, e_len_own, w_region, w_seq, w_cond, s_n, Nat.reduceLT, Nat.reduceBEq, e8, e12]
    refine c_split (fun hlt' => ?_) (fun hlt' => ?_)
    · have htN : t < M.m + 1 := by omega
      have hwt := wrap64 (x := (t : Int) + 1) (by omega)
      by_cases e : c t = 0
      · simp -implicitDefEqProofs only [gev_t, gev_c, st_same, st_ne, e_nil, e_cons, e_kops, e_some, e_mov, e_bin, e_add, e_neq, e_iaddr, e_iaddr_own, e_load, w_skip, w_region, w_seq, w_block, w_cond, s_n, b_n, c_f, Nat.reduceLT, Nat.reduceBEq, decide_true, Bool.not_true, Int.toNat_natCast, e_cell_ptr, e_cl1, true_and, and_self, if_true, Nat.zero_add, Nat.mul_one, tab_len, Nat.lt_add_one, Int.natCast_nonneg, it_at, e8, e12, h2, hlt', htN, gat_tab, e, hwt]
        refine l_n ⟨t + 1, by omega, rfl, h2, ho, by simp -implicitDefEqProofs only [st_ne, Nat.reduceBEq, e8], by simp -implicitDefEqProofs only [st_same]; rfl, by omega, fun u h1 => ?_⟩
        by_cases e' : u = t
        · subst e'; exact e
        · exact hu u (by omega)
      · simp -implicitDefEqProofs only [gev_t, gev_c, st_same, st_ne, e_nil, e_cons, e_kops, e_some, e_mov, e_bin, e_neq, e_iaddr, e_iaddr_own, e_load, w_skip, w_region, w_seq, w_block, w_ret, w_cond, s_n, s_r, b_r, c_t, l_r, Nat.reduceLT, Nat.reduceBEq, decide_true, decide_false, Bool.not_false, Int.toNat_natCast, e_cell_ptr, e_cl1, true_and, and_self, if_true, Nat.zero_add, Nat.mul_one, tab_len, Nat.lt_add_one, Int.natCast_nonneg, it_at, e8, e12, h2, hlt', htN, gat_tab, e]
        refine fin_ret rfl (by decide) (fz_bool ?_) ho
        exact (decide_eq_false fun hh => e (hiff.1 hh t htN)).symm
    · simp -implicitDefEqProofs only [gev_c, e_nil, e_cons, e_kops, e_mov, w_region, w_seq, w_exit, w_ret, s_n, s_x, b_x, l_x, if_true]
      refine fin_ret rfl (by decide) (fz_bool ?_) ho
      exact (decide_eq_true (hiff.2 fun u h1 => hu u (by omega))).symm
end
end Go.Proofs.Ytdpibcniodhinaa.Gh
/- The reference's test of irreducibility, and of descriptions. -/
namespace Go.Proofs.Ytdpibcniodhinaa.Gh
open Go Go.RowKit
open Alg (CR Ps Dg Zm Mn El Cg sm pw Irr Prm)
set_option linter.unusedVariables false
set_option linter.unusedSimpArgs false

section
variable {k : Nat} {M : Mn k}
/-- the monic polynomial of a number -/
def mnv (k : Nat) (d : Nat) (hd : 0 < d) (v : Int) : Mn k where
  m := d
  f := ⟨fun t => if t < d then Zm.of (dg ((k : Int) + 2) v t) else if t = d then 1 else 0⟩
  dg := fun t ht => by show (if t < d then _ else if t = d then (1 : Zm k) else 0) = 0; rw [if_neg (by omega), if_neg (by omega)]
  top := by show (if d < d then _ else if d = d then (1 : Zm k) else 0) = 1; rw [if_neg (by omega), if_pos rfl]
  pos := hd
theorem mnv_isl (d : Nat) (hd : 0 < d) (v : Int) : isl d (dg ((k : Int) + 2) v) = isl (mnv k d hd v).m (mco (mnv k d hd v)) := by
  refine congrArg (GV.sl d) (tab_congr fun t ht => congrArg (GV.int .i64) ?_)
  show _ = (if t < d then Zm.of (dg ((k : Int) + 2) v t) else if t = d then (1 : Zm k) else 0).v
  rw [if_pos ht, of_v_small (dg_lo (by omega) t) (dg_hi (by omega) t)]
theorem mnv_all {d : Nat} (hd : 0 < d) {a : Ps (Zm k)} (ha : Dg a (d + 1)) (h1 : a.co d = 1) : ∃ v : Nat, v < (k + 2) ^ d ∧ (mnv k d hd (v : Nat)).f = a := by
  have hv := vs_nn (hp2 k) d (f := fun j => (a.co j).v) fun j _ => ⟨(a.co j).lo, (a.co j).hi⟩
  refine ⟨(vs ((k : Int) + 2) d fun j => (a.co j).v).toNat, ?_, ?_⟩
  · have : (((k + 2) ^ d : Nat) : Int) = ((k : Int) + 2) ^ d := by push_cast; rfl
    omega
  · rw [Int.toNat_of_nonneg hv.1]
    apply Ps.ext'
    intro t
    show (if t < d then Zm.of (dg ((k : Int) + 2) (vs ((k : Int) + 2) d fun j => (a.co j).v) t) else if t = d then (1 : Zm k) else 0) = a.co t
    by_cases ht : t < d
    · rw [if_pos ht, dg_vs (hp2 k) d (fun j _ => ⟨(a.co j).lo, (a.co j).hi⟩) t ht, Zm.of_self]
    · rw [if_neg ht]
      by_cases e : t = d
      · subst e; rw [if_pos rfl, h1]
      · rw [if_neg e, ha t (by omega)]
/-- no monic divisor of a degree d, by numbers -/
def NoDiv (M : Mn k) (d : Nat) (N : Nat) : Prop := ∀ (hd : 0 < d) (v : Nat), v < N → ¬ Cg (mnv k d hd (v : Nat)) M.f 0
theorem irr_iff : Irr M ↔ ∀ d, 1 ≤ d → 2 * d ≤ M.m → NoDiv M d ((k + 2) ^ d) := by
  constructor
  · intro h d h1 h2 hd v hv hc
    obtain ⟨q, hq, e⟩ := cg_quot hc
    exact h d _ q h1 h2 (mnv k d hd (v : Nat)).dg (mnv k d hd (v : Nat)).top hq e
  · intro h d a q h1 h2 ha ht hq e
    obtain ⟨v, hv, e2⟩ := mnv_all (by omega) ha ht
    refine h d h1 h2 (by omega) v hv ?_
    exact ⟨_, q, hq, by rw [e2, Alg.add_zero]; exact e⟩
noncomputable instance (M : Mn k) : Decidable (Irr M) := Classical.propDecidable _

theorem sp_ref04_irreducible {H : Heap} {n : Nat} (h : Fc M) : Spec prog fid_ref04_irreducible [isl M.m (mco M), .int .i64 ((k : Int) + 2)] H n (.bool (decide (Irr M))) H n := by
  refine spec_ends hmix ok_ref04_irreducible rfl fun hF => ?_
  show gw prog B_ref04_irreducible _ (tl 30 _) H n
  have hp := h.p256
  have hm8 := h.m8
  have hq := h.qn
  simp -implicitDefEqProofs only [B_ref04_irreducible, gev_c, mkE_nil, mkE_cons, e_nil, e_cons, e_kops, e_mov, w_region, w_seq, w_block, w_loop, s_n, Nat.zero_add, ns2]
  refine loop_rule (fun (d : Nat) E H' n' => H' = H ∧ n' = n ∧ E 0 = isl M.m (mco M) ∧ E 1 = .int .i64 ((k : Int) + 2) ∧ E 5 = .int .i64 ((k + 2) ^ (d - 1) : Nat) ∧ E 6 = .int .i64 (d : Nat) ∧ 1 ≤ d ∧ 2 * d ≤ M.m + 2 ∧ ∀ c, 1 ≤ c → c < d → NoDiv M c ((k + 2) ^ c)) (fun d => M.m + 2 - d) 1 ?_ ?_
  · exact ⟨rfl, rfl, rfl, rfl, rfl, rfl, by omega, by have := M.pos; omega, fun c h1 h2 => by omega⟩
  rintro d E H' n' ⟨rfl, rfl, e0, e1, e5, e6, d1, d2, hd⟩
  have hw1 := wrap64 (x := 2 * (d : Int)) (by omega)
  simp -implicitDefEqProofs only [gev_t, gev_c, st_same, st_ne, e_nil, e_cons, e_kops, e_some, e_mov, e_bin, e_mul, e_leq, e_len, e_len_sl, w_region, w_seq, w_cond, s_n, Nat.reduceLT, Nat.reduceBEq, e0, e6, hw1]
  refine c_split (fun hc => ?_) (fun hc => ?_)
  · have hd0 : 0 < d := by omega
    have hpd : (k + 2) ^ d ≤ qn M := Nat.pow_le_pow_right (by omega) (by omega)
    have hps : (k + 2) ^ d = (k + 2) ^ (d - 1) * (k + 2) := by rw [← Nat.pow_succ]; congr 1; omega
    have hmul : (((k + 2) ^ (d - 1) : Nat) : Int) * ((k : Int) + 2) = (((k + 2) ^ d : Nat) : Int) := by rw [hps]; push_cast; rfl
    have hw2 := wrap64 (x := (((k + 2) ^ d : Nat) : Int)) (by omega)
    simp -implicitDefEqProofs only [gev_t, gev_c, st_same, st_ne, e_nil, e_cons, e_kops, e_some, e_mov, e_bin, e_mul, w_skip, w_region, w_seq, w_block, w_loop, s_n, Nat.reduceLT, Nat.reduceBEq, e1, e5, hmul, hw2]
    refine loop_rule (fun (v : Nat) E H1 n1 => H1 = H' ∧ n1 = n' ∧ E 0 = isl M.m (mco M) ∧ E 1 = .int .i64 ((k : Int) + 2) ∧ E 5 = .int .i64 ((k + 2) ^ d : Nat) ∧ E 6 = .int .i64 (d : Nat) ∧ E 7 = .int .i64 (v : Nat) ∧ v ≤ (k + 2) ^ d ∧ NoDiv M d v) (fun v => (k + 2) ^ d - v) 0 ?_ ?_
    · exact ⟨rfl, rfl, by simp -implicitDefEqProofs only [st_ne, Nat.reduceBEq, e0], by simp -implicitDefEqProofs only [st_ne, Nat.reduceBEq, e1], by simp -implicitDefEqProofs only [st_same, st_ne, Nat.reduceBEq], by simp -implicitDefEqProofs only [st_ne, Nat.reduceBEq, e6], rfl, by omega, fun _ v hv => by omega⟩
    clear e0 e1 e5 e6 E
    rintro v E H1 n1 ⟨rfl, rfl, e0, e1, e5, e6, e7, hv, hN⟩
    simp -implicitDefEqProofs only [gev_t, st_same, st_ne, e_nil, e_cons, e_kops, e_some, e_mov, e_bin, e_lss, w_region, w_seq, w_cond, s_n, Nat.reduceLT, Nat.reduceBEq, e5, e7]
    refine c_split (fun hlt => ?_) (fun hlt => ?_)
    · have hvN : v < (k + 2) ^ d := by omega
      have hwv := wrap64 (x := (v : Int) + 1) (by omega)
      simp -implicitDefEqProofs only [gev_t, st_same, st_ne, e_cons, e_kops, e_mov, e_call, w_skip, w_region, w_seq, w_block, s_n, Nat.reduceLT, Nat.reduceBEq, List.map_cons, List.map_nil, e1, e6, e7]
      refine call_of ((sp_ref04_digits (v : Int) ((k : Int) + 2) d (by omega) (by omega) (by omega) (by omega)).frozen tab_len (pl_tab fun i _ => .int _ _)) ?_
      simp -implicitDefEqProofs only [gev_t, st_same, st_ne, e_cons, e_kops, e_mov, e_call, Nat.reduceLT, Nat.reduceBEq, List.map_cons, List.map_nil, e0, e1]
      have hdv := sp_ref04_divides (M := M) (L := mnv k d hd0 (v : Nat)) (H := H1) (n := n1) h (by show d ≤ M.m; omega)
      rw [← mnv_isl] at hdv
      refine call_of hdv ?_
      by_cases hg : Cg (mnv k d hd0 (v : Nat)) M.f 0
      · simp -implicitDefEqProofs only [gev_t, gev_c, st_same, e_nil, e_cons, e_kops, e_mov, w_region, w_seq, w_ret, w_cond, s_n, s_r, b_r, c_t, l_r, decide_true, Nat.lt_add_one, hg]
        refine fin_ret rfl (by decide) (fz_bool ?_) fun _ _ => rfl
        refine (decide_eq_false fun hi => ?_).symm
        exact irr_iff.1 hi d d1 (by omega) hd0 v hvN hg
      · simp -implicitDefEqProofs only [gev_t, gev_c, st_same, st_ne, e_nil, e_cons, e_kops, e_some, e_mov, e_bin, e_add, w_skip, w_region, w_cond, s_n, b_n, c_f, Nat.reduceLT, Nat.reduceBEq, decide_false, Nat.lt_add_one, hg, e7, hwv]
        refine l_n ⟨v + 1, by omega, rfl, rfl, by simp -implicitDefEqProofs only [st_ne, Nat.reduceBEq, e0], by simp -implicitDefEqProofs only [st_ne, Nat.reduceBEq, e1], by simp -implicitDefEqProofs only [st_ne, Nat.reduceBEq, e5], by simp -implicitDefEqProofs only [st_ne, Nat.reduceBEq, e6], by simp -implicitDefEqProofs only [st_same]; rfl, by omega, fun hd' u hu => ?_⟩
        by_cases e : u = v
        · subst e; exact hg
        · exact hN hd' u (by omega)
    · have : v = (k + 2) ^ d := by omega
      subst this
      have hwd := wrap64 (x := (d : Int) + 1) (by omega)
      simp -implicitDefEqProofs only [gev_t, gev_c, st_same, st_ne, e_nil, e_cons, e_kops, e_some, e_mov, e_bin, e_add, w_region, w_seq, w_exit, w_ret, s_n, s_x, b_n, b_x, l_x, Nat.reduceLT, Nat.reduceBEq, Nat.reduceEqDiff, if_true, if_false, e6, hwd]
      refine l_n ⟨d + 1, by omega, rfl, rfl, by simp -implicitDefEqProofs only [st_ne, Nat.reduceBEq, e0], by simp -implicitDefEqProofs only [st_ne, Nat.reduceBEq, e1], by simp -implicitDefEqProofs only [st_ne, Nat.reduceBEq, e5]; rfl, by simp -implicitDefEqProofs only [st_same]; rfl, by omega, by omega, fun c h1 h2 => ?_⟩
      by_cases e : c = d
      · subst e; exact hN
      · exact hd c h1 (by omega)
  · simp -implicitDefEqProofs only [gev_c, e_nil, e_cons, e_kops, e_mov, w_region, w_seq, w_exit, w_ret, s_n, s_x, b_x, l_x, if_true]
    refine fin_ret rfl (by decide) (fz_bool ?_) fun _ _ => rfl
    exact (decide_eq_true (irr_iff.2 fun c h1 h2 => hd c h1 (by omega))).symm
end
end Go.Proofs.Ytdpibcniodhinaa.Gh
/- Descriptions of fields: the program accepts just those that the reference accepts. -/
namespace Go.Proofs.Ytdpibcniodhinaa.Gh
open Go Go.RowKit
open Alg (CR Ps Dg Zm Mn El Cg sm pw Irr Prm)
set_option linter.unusedVariables false
set_option linter.unusedSimpArgs false

theorem isl_congr {m : Nat} {f g : Nat → Int} (h : ∀ j, j < m → f j = g j) : isl m f = isl m g :=
  congrArg (GV.sl m) (tab_congr fun t ht => congrArg (GV.int .i64) (h t ht))
theorem shp_M {p m : Int} {l : Nat} {mo : Nat → Int} (h : Shp p m l mo) : ∃ (k : Nat) (M : Mn k), p = (k : Int) + 2 ∧ m = (M.m : Nat) ∧ l = mlen M ∧ (∀ j, j < l → mo j = mco M j) ∧ Fc M ∧ Prm ((k : Int) + 2) := by
  obtain ⟨hq, hp, h1, h2⟩ := h
  obtain ⟨q1, q2, q3, q4, q5, q6⟩ := qo_in hq
  obtain ⟨k, rfl⟩ : ∃ k : Nat, p = (k : Int) + 2 := ⟨(p - 2).toNat, by omega⟩
  obtain ⟨m', rfl⟩ : ∃ m' : Nat, m = (m' : Int) := ⟨m.toNat, by omega⟩
  rw [Int.toNat_natCast] at q5 q6
  have hm0 : 0 < m' := by omega
  let M : Mn k := {
    m := m'
    f := ⟨fun t => if t < m' then (if m' = 1 then 0 else Zm.of (mo t)) else if t = m' then 1 else 0⟩
    dg := fun t ht => by show (if t < m' then (if m' = 1 then 0 else Zm.of (mo t)) else if t = m' then (1 : Zm k) else 0) = 0; rw [if_neg (by omega), if_neg (by omega)]
    top := by show (if m' < m' then (if m' = 1 then 0 else Zm.of (mo m')) else if m' = m' then (1 : Zm k) else 0) = 1; rw [if_neg (by omega), if_pos rfl]
    pos := hm0 }
  refine ⟨k, M, rfl, rfl, ?_, ?_, ⟨q5, by show m' ≤ 8; omega, fun e => ?_⟩, hp.2⟩
  · show l = if m' = 1 then 0 else m'
    by_cases e : m' = 1
    · rw [if_pos e]; exact h1 (by omega)
    · rw [if_neg e]; have := (h2 (by omega)).1; omega
  · intro j hj
    show mo j = (if j < m' then (if m' = 1 then 0 else Zm.of (mo j)) else if j = m' then (1 : Zm k) else 0).v
    by_cases e : m' = 1
    · have := h1 (by omega); omega
    · have h3 := h2 (by omega)
      have h4 := h3.2 j hj
      rw [if_pos (by omega), if_neg e, of_v_small h4.1 h4.2]
  · have e' : m' = 1 := e
    show (if 0 < m' then (if m' = 1 then 0 else Zm.of (mo 0)) else if 0 = m' then (1 : Zm k) else 0) = 0
    rw [if_pos hm0, if_pos e']
/-- a description is that of M -/
structure Des (p m : Int) (l : Nat) (mo : Nat → Int) {k : Nat} (M : Mn k) : Prop where
  hp : p = (k : Int) + 2
  hm : m = (M.m : Nat)
  hl : l = mlen M
  hmo : ∀ j, j < l → mo j = mco M j
theorem Des.fd {p m : Int} {l : Nat} {mo : Nat → Int} {k : Nat} {M : Mn k} (d : Des p m l mo M) : fgv p m (isl l mo) = fd M := by
  obtain ⟨rfl, rfl, rfl, h⟩ := d
  rw [isl_congr h]; rfl
theorem Des.shp {p m : Int} {l : Nat} {mo : Nat → Int} {k : Nat} {M : Mn k} (d : Des p m l mo M) (h : Fc M) (hp : Prm ((k : Int) + 2)) : Shp p m l mo := by
  obtain ⟨rfl, rfl, rfl, h4⟩ := d
  obtain ⟨a, b, c, e⟩ := fd_shp h hp
  refine ⟨a, b, c, fun hm => ⟨(e hm).1, fun j hj => ?_⟩⟩
  rw [h4 j hj]; exact (e hm).2 j hj
theorem des_inj {p m : Int} {l : Nat} {mo : Nat → Int} {k k' : Nat} {M : Mn k} {M' : Mn k'} (d : Des p m l mo M) (d' : Des p m l mo M') (h : Fc M) (h' : Fc M') (hi : Irr M) : Irr M' := by
  obtain ⟨p1, m1, l1, c1⟩ := d
  obtain ⟨p2, m2, l2, c2⟩ := d'
  have hk : k = k' := by omega
  subst hk
  have hm : M.m = M'.m := by omega
  have hf : M.f = M'.f := by
    apply Ps.ext'
    intro t
    rcases Nat.lt_trichotomy t M.m with ht | ht | ht
    · by_cases e : M.m = 1
      · have e' : M'.m = 1 := by omega
        have : t = 0 := by omega
        subst this
        rw [h.one e, h'.one e']
      · have : mlen M = M.m := if_neg e
        apply Zm.ext'
        exact (c1 t (by omega)).symm.trans (c2 t (by omega))
    · subst ht; rw [M.top, hm, M'.top]
    · rw [M.dg t (by omega), M'.dg t (by omega)]
  have : M = M' := by
    cases M; cases M'
    simp only at hm hf
    subst hm hf
    rfl
  rw [← this]; exact hi
/-- a description of a field -/
def Fok (p m : Int) (l : Nat) (mo : Nat → Int) : Prop := ∃ (k : Nat) (M : Mn k), Des p m l mo M ∧ Fc M ∧ Prm ((k : Int) + 2) ∧ Irr M
noncomputable instance (p m : Int) (l : Nat) (mo : Nat → Int) : Decidable (Fok p m l mo) := Classical.propDecidable _
theorem fok_of {p m : Int} {l : Nat} {mo : Nat → Int} {k : Nat} {M : Mn k} (d : Des p m l mo M) (h : Fc M) (hp : Prm ((k : Int) + 2)) : Fok p m l mo ↔ Irr M :=
  ⟨fun ⟨k', M', d', h', hp', hi⟩ => des_inj d' d h' h hi, fun hi => ⟨k, M, d, h, hp, hi⟩⟩

theorem sp_field_New_fail {H : Heap} {n : Nat} (p m : Int) (l : Nat) (mo : Nat → Int) (hs : ¬ Fok p m l mo) : Spec prog fid_field_New [fgv p m (isl l mo)] H n (.tup [.nilp, .int .i64 1]) H n := by
  by_cases h : Shp p m l mo
  · obtain ⟨k, M, h1, h2, h3, h4, h5, h6⟩ := shp_M h
    have d : Des p m l mo M := ⟨h1, h2, h3, h4⟩
    rw [d.fd]
    exact sp_field_New_no h5 h6 fun hg => hs ((fok_of d h5 h6).2 ((gen_irr h6).1 hg))
  · exact sp_field_New_bad p m l mo h
section
variable {k : Nat} {M : Mn k}
/-- a field: its description is within the bounds, and its polynomial irreducible -/
structure Fi (M : Mn k) : Prop where
  fc : Fc M
  prm : Prm ((k : Int) + 2)
  irr : Irr M
theorem Fi.gen (h : Fi M) : ∃ x : El M, x ≠ 0 ∧ Gen x := (gen_irr h.prm).2 h.irr
/-- the program's generator -/
noncomputable def Fi.g (h : Fi M) : El M := gnr h.gen
theorem Fi.gg (h : Fi M) : Gen h.g := gnr_gen h.gen
/-- the field as the program keeps it -/
noncomputable def Fi.gf (h : Fi M) : GV := gfv M h.g
theorem fok_cases (p m : Int) (l : Nat) (mo : Nat → Int) : (∃ (k : Nat) (M : Mn k) (_ : Fi M), Des p m l mo M) ∨ ¬ Fok p m l mo := by
  by_cases h : Fok p m l mo
  · obtain ⟨k, M, d, h1, h2, h3⟩ := h
    exact .inl ⟨k, M, ⟨h1, h2, h3⟩, d⟩
  · exact .inr h
theorem sp_field_New {H : Heap} {n : Nat} (h : Fi M) : Spec prog fid_field_New [fd M] H n (.tup [h.gf, .int .i64 0]) H n := sp_field_New_ok h.fc h.prm h.gen

theorem sp_ref04_Check' {H : Heap} {n : Nat} (p m : Int) (l : Nat) (mo : Nat → Int) : Spec prog fid_ref04_Check [fgv p m (isl l mo)] H n (.int .i64 (if Fok p m l mo then 0 else 1)) H n := by
  refine spec_ends hmix ok_ref04_Check rfl fun hF => ?_
  show gw prog B_ref04_Check _ (tl 54 _) H n
  have bad : ∀ (E : Env) (H' : Heap) (n' : Nat), (∀ b, b < n → H' b = H b) → E 2 = .int .i64 1 → ¬ Shp p m l mo → F_ref04_Check.ends H n (.int .i64 (if Fok p m l mo then 0 else 1)) .ret (tl 54 E) H' n' := by
    intro E H' n' ho h4 h
    refine fin_ret rfl (by decide) ?_ ho
    rw [h4]; exact fz_int (if_neg fun ⟨k, M, d, h1, h2, h3⟩ => h (d.shp h1 h2)).symm
  have hu : ∀ x b, b < n → upd H n x b = H b := fun x b hb => upd_ne _ _ (by omega)
  simp -implicitDefEqProofs only [B_ref04_Check, fgv, gev_t, gev_c, st_same, st_ne, mkE_nil, mkE_cons, e_nil, e_cons, e_kops, e_mov, e_load, e_box, e_box_some, e_call, e_gc_agg, w_region, w_seq, s_n, Nat.reduceLT, Nat.reduceBEq, List.length_cons, List.length_nil, e_cell_ptr, e_clm, upd_same, true_and, List.drop_zero, List.take_zero, List.take_succ_cons, Nat.zero_add, List.map_cons, List.map_nil, ns2, ns12, Nat.le_refl]
  refine call_of (sp_ref04_Order p m _ rfl) ?_
  by_cases hq : qo p m = 0
  · simp -implicitDefEqProofs only [gev_t, gev_c, st_same, st_ne, e_nil, e_cons, e_kops, e_guard, e_ft, e_some, e_mov, e_pick, e_pick_t, e_bin, e_eql, w_region, w_seq, w_ret, w_cond, s_n, s_r, c_t, Nat.reduceLT, Nat.reduceBEq, decide_true, hq]
    exact bad _ _ _ (hu _) rfl fun h => h.1 hq
  · obtain ⟨q1, q2, q3, q4, q5, q6⟩ := qo_in hq
    simp -implicitDefEqProofs only [gev_t, gev_c, st_same, st_ne, e_cons, e_kops, e_guard, e_ff, e_some, e_mov, e_bin, e_eql, e_faddr, e_faddr_ptr, e_load, e_call, Nat.reduceLT, Nat.reduceBEq, decide_false, List.length_cons, List.length_nil, e_cell_ptr, e_cl1, gat_0, upd_same, true_and, Nat.add_zero, Nat.zero_add, List.map_cons, List.map_nil, ns2, ns12, hq]
    refine call_of (sp_ref04_prime p (by omega) (by omega)) ?_
    by_cases hp : isPr p
    · simp -implicitDefEqProofs only [gev_t, gev_c, st_same, st_ne, e_nil, e_cons, e_kops, e_guard, e_ff, e_some, e_pick, e_pick_f, e_bin, e_un, e_not, e_eql, e_faddr, e_faddr_ptr, e_load, w_skip, w_region, w_seq, w_cond, s_n, c_f, Nat.reduceLT, Nat.reduceBEq, decide_true, Bool.not_true, List.length_cons, List.length_nil, e_cell_ptr, e_cl1, gat_1, upd_same, true_and, Nat.zero_add, ns2, ns12, hp]
      by_cases hm : m = 1
      · subst hm
        by_cases hl : l = 0
        · subst hl
          have h00 : ((0 : Nat) : Int) = 0 := rfl
          simp -implicitDefEqProofs only [gev_t, gev_c, st_same, st_ne, e_nil, e_cons, e_kops, e_some, e_mov, e_bin, e_neq, e_faddr, e_faddr_ptr, e_len, e_len_sl, e_load, w_skip, w_region, w_seq, w_ret, w_cond, s_n, s_r, c_t, c_f, Nat.reduceLT, Nat.reduceBEq, decide_true, Bool.not_true, List.length_cons, List.length_nil, e_cell_ptr, e_cl1, gat_2, upd_same, true_and, Nat.zero_add, Nat.lt_add_one, ns2, ns12, h00]
          refine fin_ret rfl (by decide) (fz_int (if_pos ?_).symm) (hu _)
          obtain ⟨k, M, h1, h2, h3, h4, h5, h6⟩ := shp_M (p := p) (m := 1) (l := 0) (mo := mo) ⟨hq, hp, fun _ => rfl, fun h => absurd rfl h⟩
          exact ⟨k, M, ⟨h1, h2, h3, h4⟩, h5, h6, fun d a q d1 d2 => by omega⟩
        · have : ¬ ((l : Int) = 0) := by omega
          simp -implicitDefEqProofs only [gev_t, gev_c, st_same, st_ne, e_nil, e_cons, e_kops, e_some, e_mov, e_bin, e_neq, e_faddr, e_faddr_ptr, e_len, e_len_sl, e_load, w_region, w_seq, w_ret, w_cond, s_n, s_r, c_t, Nat.reduceLT, Nat.reduceBEq, decide_true, decide_false, Bool.not_false, List.length_cons, List.length_nil, e_cell_ptr, e_cl1, gat_2, upd_same, true_and, Nat.zero_add, Nat.lt_add_one, ns2, ns12, this]
          exact bad _ _ _ (hu _) rfl fun h => hl (h.2.2.1 rfl)
      · by_cases hl : (l : Int) = m
        · subst hl
          simp -implicitDefEqProofs only [gev_t, gev_c, st_same, st_ne, e_nil, e_cons, e_kops, e_some, e_mov, e_bin, e_neq, e_faddr, e_faddr_ptr, e_len, e_len_sl, e_load, w_skip, w_region, w_seq, w_block, w_cond, w_loop, s_n, c_f, Nat.reduceLT, Nat.reduceBEq, decide_true, decide_false, Bool.not_true, List.length_cons, List.length_nil, e_cell_ptr, e_cl1, gat_1, gat_2, upd_same, true_and, Nat.zero_add, Nat.lt_add_one, ns2, ns12, hm]
          refine loop_rule (fun (j : Nat) E H' n' => n' = n + 1 ∧ H' n = some [.int .i64 p, .int .i64 (l : Nat), isl l mo] ∧ (∀ b, b < n → H' b = H b) ∧ E 1 = .ptr n 0 ∧ E 3 = .int .i64 (j : Nat) ∧ j ≤ l ∧ ∀ i, i < j → 0 ≤ mo i ∧ mo i < p) (fun j => l - j) 0 ?_ ?_
          · exact ⟨rfl, by simp -implicitDefEqProofs only [upd_same], hu _, rfl, rfl, by omega, fun i hi => by omega⟩
          rintro j E H' n' ⟨rfl, h0, ho, e1, e3, j1, j2⟩
          simp -implicitDefEqProofs only [gev_t, st_same, st_ne, e_nil, e_cons, e_kops, e_some, e_mov, e_bin, e_lss, e_faddr, e_faddr_ptr, e_load, w_region, w_seq, w_cond, s_n, Nat.reduceLT, Nat.reduceBEq, List.length_cons, List.length_nil, e_cell_ptr, e_cl1, gat_1, true_and, Nat.zero_add, ns2, ns12, e1, e3, h0]
          refine c_split (fun hc => ?_) (fun hc => ?_)
          · have hjN : j < l := by omega
            have hwj := wrap64 (x := (j : Int) + 1) (by omega)
            by_cases hlo : mo j < 0
            · simp -implicitDefEqProofs only [gev_t, gev_c, st_same, st_ne, e_nil, e_cons, e_kops, e_guard, e_ft, e_some, e_mov, e_pick, e_pick_t, e_bin, e_lss, e_faddr, e_faddr_ptr, e_iaddr, e_iaddr_sl, w_skip, w_region, w_seq, w_block, w_ret, w_cond, w_draw, s_n, s_r, b_r, c_t, l_r, d_kdr, m_nil, m_cons, m_kmops, m_guard, m_ft, m_kpm, m_load, m_cell_pp, Nat.reduceLT, Nat.reduceBEq, decide_true, Int.toNat_natCast, List.length_cons, List.length_nil, gat_2, true_and, and_self, if_true, Nat.zero_add, Nat.mul_one, tab_len, m_p_mov, m_p_bin, m_p_fieldAddr, m_p_indexAddr, m_cell_ptr, m_cl1, Nat.lt_add_one, ns2, Int.natCast_nonneg, it_at, ns12, e1, e3, hc, hjN, gat_tab, h0, hlo]
              exact bad _ _ _ ho (by simp -implicitDefEqProofs only [st_same]) fun h => by have := (h.2.2.2 hm).2 j hjN; omega
            · by_cases hhi : p ≤ mo j
              · simp -implicitDefEqProofs only [gev_t, gev_c, st_same, st_ne, e_nil, e_cons, e_kops, e_guard, e_ff, e_some, e_mov, e_pick, e_pick_f, e_bin, e_lss, e_geq, e_faddr, e_faddr_ptr, e_iaddr, e_iaddr_sl, w_skip, w_region, w_seq, w_block, w_ret, w_cond, w_draw, s_n, s_r, b_r, c_t, l_r, d_kdr, m_nil, m_cons, m_kmops, m_guard, m_ff, m_kpm, m_load, m_cell_pp, Nat.reduceLT, Nat.reduceBEq, decide_true, decide_false, Int.toNat_natCast, List.length_cons, List.length_nil, gat_0, gat_2, true_and, and_self, if_true, Nat.add_zero, Nat.zero_add, Nat.mul_one, tab_len, m_p_mov, m_p_bin, m_p_fieldAddr, m_p_indexAddr, m_cell_ptr, m_cl1, Nat.lt_add_one, ns2, Int.natCast_nonneg, it_at, ns12, e1, e3, hc, hjN, gat_tab, h0, hlo, hhi]
                exact bad _ _ _ ho (by simp -implicitDefEqProofs only [st_same]) fun h => by have := (h.2.2.2 hm).2 j hjN; omega
              · simp -implicitDefEqProofs only [gev_t, gev_c, st_same, st_ne, e_nil, e_cons, e_kops, e_guard, e_ff, e_some, e_mov, e_pick, e_pick_f, e_bin, e_add, e_lss, e_geq, e_faddr, e_faddr_ptr, e_iaddr, e_iaddr_sl, w_skip, w_region, w_seq, w_block, w_cond, w_draw, s_n, b_n, c_f, d_kdr, m_nil, m_cons, m_kmops, m_guard, m_ff, m_kpm, m_load, m_cell_pp, Nat.reduceLT, Nat.reduceBEq, decide_true, decide_false, Int.toNat_natCast, List.length_cons, List.length_nil, gat_0, gat_2, true_and, and_self, if_true, Nat.add_zero, Nat.zero_add, Nat.mul_one, tab_len, m_p_mov, m_p_bin, m_p_fieldAddr, m_p_indexAddr, m_cell_ptr, m_cl1, Nat.lt_add_one, ns2, Int.natCast_nonneg, it_at, ns12, e1, e3, hc, hjN, gat_tab, h0, hlo, hhi, hwj]
                refine l_n ⟨j + 1, by omega, rfl, h0, ho, by simp -implicitDefEqProofs only [st_ne, Nat.reduceBEq, e1], by simp -implicitDefEqProofs only [st_same]; rfl, by omega, fun i hi => ?_⟩
                by_cases e : i = j
                · subst e; omega
                · exact j2 i (by omega)
          · have hs : Shp p (l : Nat) l mo := ⟨hq, hp, fun h => absurd h hm, fun _ => ⟨rfl, fun i hi => j2 i (by omega)⟩⟩
            obtain ⟨k, M, h1, h2, h3, h4, h5, h6⟩ := shp_M hs
            have d : Des p (l : Nat) l mo M := ⟨h1, h2, h3, h4⟩
            have hM : l = M.m := by omega
            have hsl : isl l mo = isl M.m (mco M) := by rw [isl_congr h4, ← hM]
            simp -implicitDefEqProofs only [gev_t, st_same, st_ne, e_cons, e_kops, e_some, e_faddr, e_faddr_ptr, e_load, e_call, w_region, w_seq, w_exit, s_n, s_x, b_x, l_x, Nat.reduceLT, Nat.reduceBEq, List.length_cons, List.length_nil, e_cell_ptr, e_cl1, gat_0, gat_2, true_and, if_true, Nat.add_zero, Nat.zero_add, List.map_cons, List.map_nil, Nat.lt_add_one, ns2, ns12, e1, h0]
            rw [hsl, h1]
            refine call_of (sp_ref04_irreducible h5) ?_
            by_cases hi : Irr M
            · simp -implicitDefEqProofs only [gev_t, gev_c, st_same, e_nil, e_cons, e_kops, e_some, e_mov, e_un, e_not, w_skip, w_region, w_seq, w_ret, w_cond, s_n, c_f, Nat.reduceLT, decide_true, Bool.not_true, Nat.lt_add_one, hi]
              refine fin_ret rfl (by decide) (fz_int (if_pos ?_).symm) ho
              rw [← h1]
              exact (fok_of d h5 h6).2 hi
            · simp -implicitDefEqProofs only [gev_t, gev_c, st_same, e_nil, e_cons, e_kops, e_some, e_mov, e_un, e_not, w_region, w_seq, w_ret, w_cond, s_n, s_r, c_t, Nat.reduceLT, decide_false, Bool.not_false, Nat.lt_add_one, hi]
              refine fin_ret rfl (by decide) (fz_int (if_neg fun hf => hi ((fok_of d h5 h6).1 ?_)).symm) ho
              rw [← h1] at hf
              exact hf
        · simp -implicitDefEqProofs only [gev_t, gev_c, st_same, st_ne, e_nil, e_cons, e_kops, e_some, e_mov, e_bin, e_neq, e_faddr, e_faddr_ptr, e_len, e_len_sl, e_load, w_skip, w_region, w_seq, w_ret, w_cond, s_n, s_r, c_t, c_f, Nat.reduceLT, Nat.reduceBEq, decide_false, Bool.not_false, List.length_cons, List.length_nil, e_cell_ptr, e_cl1, gat_1, gat_2, upd_same, true_and, Nat.zero_add, Nat.lt_add_one, ns2, ns12, hm, hl]
          exact bad _ _ _ (hu _) (by simp -implicitDefEqProofs only [st_same]) fun h => hl (h.2.2.2 hm).1
    · simp -implicitDefEqProofs only [gev_t, gev_c, st_same, st_ne, e_nil, e_cons, e_kops, e_guard, e_ff, e_some, e_mov, e_pick, e_pick_f, e_un, e_not, w_region, w_seq, w_ret, w_cond, s_n, s_r, c_t, Nat.reduceLT, Nat.reduceBEq, decide_false, Bool.not_false, hp]
      exact bad _ _ _ (hu _) rfl fun h => hp h.2.1
theorem sp_ref04_Check_fail {H : Heap} {n : Nat} (p m : Int) (l : Nat) (mo : Nat → Int) (hs : ¬ Fok p m l mo) : Spec prog fid_ref04_Check [fgv p m (isl l mo)] H n (.int .i64 1) H n := by
  have := sp_ref04_Check' (H := H) (n := n) p m l mo
  rwa [if_neg hs] at this
theorem sp_ref04_Check {H : Heap} {n : Nat} (h : Fi M) : Spec prog fid_ref04_Check [fd M] H n (.int .i64 0) H n := by
  have := sp_ref04_Check' (H := H) (n := n) ((k : Int) + 2) (M.m : Nat) (mlen M) (mco M)
  rw [if_pos ⟨k, M, ⟨rfl, rfl, rfl, fun _ _ => rfl⟩, h.fc, h.prm, h.irr⟩] at this
  exact this
end
end Go.Proofs.Ytdpibcniodhinaa.Gh
