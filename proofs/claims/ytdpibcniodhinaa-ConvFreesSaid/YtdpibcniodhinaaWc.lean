/- Values of the program, elements of the reference. -/
import Derived.Test.YtdpibcniodhinaaProg
import Derived.Test.YtdpibcniodhinaaWb
namespace Go.Proofs.Ytdpibcniodhinaa.Gh
open Go Go.RowKit
set_option linter.unusedVariables false
set_option linter.unusedSimpArgs false

theorem sp_field_valueOf {H : Heap} {n : Nat} (p : Int) (b m m' : Nat) (f : Nat → Int) (hb : b < n) (hH : H b = some (tab m' (it f))) (hm : m ≤ m') (hp : 2 ≤ p) (hpm : p ^ m ≤ 1000000) (hmm : m ≤ 1000) (hf : ∀ j, j < m → 0 ≤ f j ∧ f j < p) :
    Spec prog fid_field_valueOf [.own b 0 m, .int .i64 p] H n (.int .i64 (vs p m f)) H n := by
  refine spec_ends hmix ok_field_valueOf rfl fun hF => ?_
  show gw prog B_field_valueOf _ (tl 23 _) H n
  simp -implicitDefEqProofs only [B_field_valueOf, go_sem, Nat.reduceLT, Nat.reduceBEq, Nat.reduceAdd, Nat.reduceEqDiff, Nat.reduceLeDiff, Nat.reduceSub, Nat.reduceMul]
  rw [wrap64 (by omega)]
  refine loop_rule (fun (i : Nat) E H' n' => H' = H ∧ n' = n ∧ E 0 = .own b 0 m ∧ E 1 = .int .i64 p ∧ E 5 = .int .i64 (vs p (m - i) fun j => f (i + j)) ∧ E 6 = .int .i64 ((i : Int) - 1) ∧ i ≤ m) (fun i => i) m ⟨rfl, rfl, rfl, rfl, by simp -implicitDefEqProofs only [go_sem, Nat.reduceLT, Nat.reduceBEq, Nat.reduceAdd, Nat.reduceEqDiff, Nat.reduceLeDiff, Nat.reduceSub, Nat.reduceMul, Nat.sub_self, vs], rfl, by omega⟩ ?_
  rintro i E H' n' ⟨rfl, rfl, e1, e2, e5, e6, hi⟩
  have hv : ∀ i, i ≤ m → 0 ≤ (vs p (m - i) fun j => f (i + j)) ∧ (vs p (m - i) fun j => f (i + j)) < p ^ m := fun i hi => by
    obtain ⟨a, b⟩ := vs_nn hp (m - i) (f := fun j => f (i + j)) fun j hj => hf _ (by omega)
    exact ⟨a, Int.lt_of_lt_of_le b (pow_mono (by omega) (by omega))⟩
  simp -implicitDefEqProofs only [go_sem, Nat.reduceLT, Nat.reduceBEq, Nat.reduceAdd, Nat.reduceEqDiff, Nat.reduceLeDiff, Nat.reduceSub, Nat.reduceMul, e6]
  refine c_split (fun h => ?_) (fun h => ?_)
  · obtain ⟨i, rfl⟩ : ∃ k, i = k + 1 := ⟨i - 1, by omega⟩
    have hq := hv (i + 1) hi
    have hq' := hv i (by omega)
    have hst := sp_value_step (p := p) (f := f) (m := m) (i := i) (by omega)
    generalize hx : (vs p (m - (i + 1)) fun j => f (i + 1 + j)) = x at *
    have hf1 := hf i (by omega)
    have hi1 : ((i + 1 : Nat) : Int) - 1 = (i : Nat) := by omega
    rw [hi1] at e6
    simp -implicitDefEqProofs only [go_sem, Nat.reduceLT, Nat.reduceBEq, Nat.reduceAdd, Nat.reduceEqDiff, Nat.reduceLeDiff, Nat.reduceSub, Nat.reduceMul, e1, e2, e5, e6]
    have hxp : 0 ≤ x * p := Int.mul_nonneg hq.1 (by omega)
    rw [if_pos (by omega), wrap64 (by omega)]
    simp -implicitDefEqProofs only [go_sem, Nat.reduceLT, Nat.reduceBEq, Nat.reduceAdd, Nat.reduceEqDiff, Nat.reduceLeDiff, Nat.reduceSub, Nat.reduceMul, hH]
    refine ⟨by omega, ?_⟩
    rw [gat_tab (by omega), it_at]
    simp -implicitDefEqProofs only [go_sem, Nat.reduceLT, Nat.reduceBEq, Nat.reduceAdd, Nat.reduceEqDiff, Nat.reduceLeDiff, Nat.reduceSub, Nat.reduceMul, e6]
    rw [wrap64 (by omega), wrap64 (by omega), ← hst]
    exact l_n ⟨i, by omega, rfl, rfl, by simp -implicitDefEqProofs only [go_sem, Nat.reduceLT, Nat.reduceBEq, Nat.reduceAdd, Nat.reduceEqDiff, Nat.reduceLeDiff, Nat.reduceSub, Nat.reduceMul, e1], by simp -implicitDefEqProofs only [go_sem, Nat.reduceLT, Nat.reduceBEq, Nat.reduceAdd, Nat.reduceEqDiff, Nat.reduceLeDiff, Nat.reduceSub, Nat.reduceMul, e2], by simp -implicitDefEqProofs only [go_sem, Nat.reduceLT, Nat.reduceBEq, Nat.reduceAdd, Nat.reduceEqDiff, Nat.reduceLeDiff, Nat.reduceSub, Nat.reduceMul], by simp -implicitDefEqProofs only [go_sem, Nat.reduceLT, Nat.reduceBEq, Nat.reduceAdd, Nat.reduceEqDiff, Nat.reduceLeDiff, Nat.reduceSub, Nat.reduceMul], by omega⟩
  · simp -implicitDefEqProofs only [go_sem, Nat.reduceLT, Nat.reduceBEq, Nat.reduceAdd, Nat.reduceEqDiff, Nat.reduceLeDiff, Nat.reduceSub, Nat.reduceMul, e5]
    have : i = 0 := by omega
    subst this
    refine fin_ret rfl (by decide) (fz_int ?_) fun _ _ => rfl
    rw [Nat.sub_zero]
    exact vs_congr p m fun j _ => by rw [Nat.zero_add]

/-- an element, or 0 -/
def inq (q x : Int) : Int := if 0 ≤ x ∧ x < q then x else 0
theorem inq_lo (q x : Int) : 0 ≤ inq q x := by unfold inq; split <;> omega
theorem inq_hi {q : Int} (h : 0 < q) (x : Int) : inq q x < q := by unfold inq; split <;> omega

abbrev fgv (p M : Int) (g : GV) : GV := .agg [.int .i64 p, .int .i64 M, g]
theorem sp_ref04_Is {H : Heap} {n : Nat} (p M : Int) (g : GV) (hg : isCell g = true) (x : Int) : Spec prog fid_ref04_Is [fgv p M g, .int .i64 x] H n (.bool (decide (0 ≤ x ∧ x < qo p M))) H n := by
  refine spec_ends hmix ok_ref04_Is rfl fun hF => ?_
  show gw prog B_ref04_Is _ (tl 13 _) H n
  have ho : ∀ c b, b < n → upd H n c b = H b := fun c b hb => upd_ne _ _ (by omega)
  by_cases h : 0 ≤ x
  · simp -implicitDefEqProofs only [B_ref04_Is, go_sem, Nat.reduceLT, Nat.reduceBEq, Nat.reduceAdd, Nat.reduceEqDiff, Nat.reduceLeDiff, Nat.reduceSub, Nat.reduceMul, h]
    refine call_of (sp_ref04_Order p M g hg) ?_
    simp -implicitDefEqProofs only [go_sem, Nat.reduceLT, Nat.reduceBEq, Nat.reduceAdd, Nat.reduceEqDiff, Nat.reduceLeDiff, Nat.reduceSub, Nat.reduceMul]
    refine fin_ret rfl (by decide) (fz_bool ?_) (ho _)
    exact decide_eq_decide.2 ⟨fun h' => h', fun h' => h'⟩
  · simp -implicitDefEqProofs only [B_ref04_Is, go_sem, Nat.reduceLT, Nat.reduceBEq, Nat.reduceAdd, Nat.reduceEqDiff, Nat.reduceLeDiff, Nat.reduceSub, Nat.reduceMul, h]
    refine fin_ret rfl (by decide) (fz_bool ?_) (ho _)
    exact (decide_eq_false fun h' => h'.1).symm
theorem sp_ref04_In {H : Heap} {n : Nat} (p M : Int) (g : GV) (hg : isCell g = true) (x : Int) : Spec prog fid_ref04_In [fgv p M g, .int .i64 x] H n (.int .i64 (inq (qo p M) x)) H n := by
  refine spec_ends hmix ok_ref04_In rfl fun hF => ?_
  show gw prog B_ref04_In _ (tl 9 _) H n
  have ho : ∀ c b, b < n → upd H n c b = H b := fun c b hb => upd_ne _ _ (by omega)
  simp -implicitDefEqProofs only [B_ref04_In, go_sem, Nat.reduceLT, Nat.reduceBEq, Nat.reduceAdd, Nat.reduceEqDiff, Nat.reduceLeDiff, Nat.reduceSub, Nat.reduceMul]
  refine call_of (sp_ref04_Is p M g hg x) ?_
  simp -implicitDefEqProofs only [go_sem, Nat.reduceLT, Nat.reduceBEq, Nat.reduceAdd, Nat.reduceEqDiff, Nat.reduceLeDiff, Nat.reduceSub, Nat.reduceMul]
  refine c_split (fun h => ?_) (fun h => ?_)
  · simp -implicitDefEqProofs only [go_sem, Nat.reduceLT, Nat.reduceBEq, Nat.reduceAdd, Nat.reduceEqDiff, Nat.reduceLeDiff, Nat.reduceSub, Nat.reduceMul]
    refine fin_ret rfl (by decide) (fz_int ?_) (ho _)
    rw [inq, if_pos h]
  · simp -implicitDefEqProofs only [go_sem, Nat.reduceLT, Nat.reduceBEq, Nat.reduceAdd, Nat.reduceEqDiff, Nat.reduceLeDiff, Nat.reduceSub, Nat.reduceMul]
    refine fin_ret rfl (by decide) (fz_int ?_) (ho _)
    rw [inq, if_neg h]
theorem qo_le (p M : Int) : 0 ≤ qo p M ∧ qo p M ≤ 256 := by
  unfold qo; split
  · rename_i h; exact ⟨Int.pow_nonneg (by omega), by omega⟩
  · omega
theorem sp_ref04_Digits {H : Heap} {n : Nat} (p : Int) (M : Nat) (g : GV) (hg : isCell g = true) (x : Int) (hp : 2 ≤ p) (hM : M ≤ 8) : Spec prog fid_ref04_Digits [fgv p M g, .int .i64 x] H n (.own n 0 M) (upd H n (some (tab M (it (dg p (inq (qo p M) x)))))) (n + 1) := by
  refine spec_ends1 hmix ok_ref04_Digits rfl fun hF => ?_
  show gw prog B_ref04_Digits _ (tl 13 _) H n
  have hq := qo_le p M
  have h0 := inq_lo (qo p M) x
  have h1 : inq (qo p M) x ≤ 256 := by unfold inq; split <;> omega
  simp -implicitDefEqProofs only [B_ref04_Digits, go_sem, Nat.reduceLT, Nat.reduceBEq, Nat.reduceAdd, Nat.reduceEqDiff, Nat.reduceLeDiff, Nat.reduceSub, Nat.reduceMul]
  refine mcall_of (.int _ _) (fun H' n' _ _ => sp_ref04_In p M g hg x) ?_
  simp -implicitDefEqProofs only [go_sem, Nat.reduceLT, Nat.reduceBEq, Nat.reduceAdd, Nat.reduceEqDiff, Nat.reduceLeDiff, Nat.reduceSub, Nat.reduceMul]
  refine call_of (sp_ref04_digits _ p M h0 (by omega) hp (by omega)) ?_
  simp -implicitDefEqProofs only [go_sem, Nat.reduceLT, Nat.reduceBEq, Nat.reduceAdd, Nat.reduceEqDiff, Nat.reduceLeDiff, Nat.reduceSub, Nat.reduceMul]
  exact fin_own rfl (by decide) (by simp -implicitDefEqProofs only [go_sem, Nat.reduceLT, Nat.reduceBEq, Nat.reduceAdd, Nat.reduceEqDiff, Nat.reduceLeDiff, Nat.reduceSub, Nat.reduceMul]) (by omega) (upd_same _ _ _) trs_it fun b hb => by rw [upd_ne _ _ (by omega), upd_ne _ _ (by omega)]
end Go.Proofs.Ytdpibcniodhinaa.Gh
/- Commutative rings, finite sums and power series: the algebra that the proofs of the field layer rest on. -/
namespace Go.Proofs.Ytdpibcniodhinaa.Alg

class CR (α : Type) extends Add α, Mul α, Neg α, Zero α, One α where
  add_comm' : ∀ a b : α, a + b = b + a
  add_assoc' : ∀ a b c : α, a + b + c = a + (b + c)
  zero_add' : ∀ a : α, 0 + a = a
  neg_add' : ∀ a : α, -a + a = 0
  mul_comm' : ∀ a b : α, a * b = b * a
  mul_assoc' : ∀ a b c : α, a * b * c = a * (b * c)
  one_mul' : ∀ a : α, 1 * a = a
  mul_add' : ∀ a b c : α, a * (b + c) = a * b + a * c

section
variable {α : Type} [CR α]

instance instSubCR : Sub α := ⟨fun a b => a + -b⟩
theorem sub_def (a b : α) : a - b = a + -b := rfl
theorem add_comm (a b : α) : a + b = b + a := CR.add_comm' a b
theorem add_assoc (a b c : α) : a + b + c = a + (b + c) := CR.add_assoc' a b c
theorem add_left_comm (a b c : α) : a + (b + c) = b + (a + c) := by rw [← add_assoc, add_comm a b, add_assoc]
theorem zero_add (a : α) : 0 + a = a := CR.zero_add' a
theorem add_zero (a : α) : a + 0 = a := by rw [add_comm, zero_add]
theorem neg_add (a : α) : -a + a = 0 := CR.neg_add' a
theorem add_neg (a : α) : a + -a = 0 := by rw [add_comm, neg_add]
theorem mul_comm (a b : α) : a * b = b * a := CR.mul_comm' a b
theorem mul_assoc (a b c : α) : a * b * c = a * (b * c) := CR.mul_assoc' a b c
theorem mul_left_comm (a b c : α) : a * (b * c) = b * (a * c) := by rw [← mul_assoc, mul_comm a b, mul_assoc]
theorem one_mul (a : α) : 1 * a = a := CR.one_mul' a
theorem mul_one (a : α) : a * 1 = a := by rw [mul_comm, one_mul]
theorem mul_add (a b c : α) : a * (b + c) = a * b + a * c := CR.mul_add' a b c
theorem add_mul (a b c : α) : (a + b) * c = a * c + b * c := by rw [mul_comm, mul_add, mul_comm c a, mul_comm c b]
theorem add_left_cancel {a b c : α} (h : a + b = a + c) : b = c := by
  have : -a + (a + b) = -a + (a + c) := by rw [h]
  rwa [← add_assoc, ← add_assoc, neg_add, zero_add, zero_add] at this
theorem mul_zero (a : α) : a * 0 = 0 := by
  have h : a * 0 + a * 0 = a * 0 + 0 := by rw [← mul_add, zero_add, add_zero]
  exact add_left_cancel h
theorem zero_mul (a : α) : 0 * a = 0 := by rw [mul_comm, mul_zero]
theorem neg_unique {a b : α} (h : a + b = 0) : b = -a := by
  apply add_left_cancel (a := a); rw [h, add_neg]
theorem neg_zero : -(0 : α) = 0 := (neg_unique (zero_add 0)).symm
theorem mul_neg (a b : α) : a * -b = -(a * b) := by
  apply neg_unique; rw [← mul_add, add_neg, mul_zero]
theorem neg_mul (a b : α) : -a * b = -(a * b) := by rw [mul_comm, mul_neg, mul_comm]
theorem neg_add_distrib (a b : α) : -(a + b) = -a + -b := by
  symm; apply neg_unique
  rw [add_assoc, add_left_comm b, ← add_assoc a, add_neg, zero_add, add_neg]
theorem sub_self (a : α) : a - a = 0 := add_neg a
theorem sub_add_cancel (a b : α) : a - b + b = a := by rw [sub_def, add_assoc, neg_add, add_zero]
theorem add_sub_cancel (a b : α) : a + b - b = a := by rw [sub_def, add_assoc, add_neg, add_zero]
theorem sub_eq_zero {a b : α} : a - b = 0 ↔ a = b := by
  constructor
  · intro h; rw [← sub_add_cancel a b, h, zero_add]
  · rintro rfl; exact sub_self a
theorem sub_zero (a : α) : a - 0 = a := by rw [sub_def, neg_zero, add_zero]
theorem mul_sub (a b c : α) : a * (b - c) = a * b - a * c := by rw [sub_def, mul_add, mul_neg]; rfl
theorem sub_mul (a b c : α) : (a - b) * c = a * c - b * c := by rw [mul_comm, mul_sub, mul_comm c a, mul_comm c b]
/-- the sum of f i over i < n -/
def sm (n : Nat) (f : Nat → α) : α := match n with
  | 0 => 0
  | n + 1 => sm n f + f n

theorem sm_zero (f : Nat → α) : sm 0 f = 0 := rfl
theorem sm_succ (n : Nat) (f : Nat → α) : sm (n + 1) f = sm n f + f n := rfl
theorem sm_congr {n : Nat} {f g : Nat → α} (h : ∀ i, i < n → f i = g i) : sm n f = sm n g := by
  induction n with
  | zero => rfl
  | succ n ih => rw [sm_succ, sm_succ, ih fun i hi => h i (by omega), h n (by omega)]
theorem sm_const_zero {n : Nat} {f : Nat → α} (h : ∀ i, i < n → f i = 0) : sm n f = 0 := by
  induction n with
  | zero => rfl
  | succ n ih => rw [sm_succ, ih fun i hi => h i (by omega), h n (by omega), add_zero]
theorem sm_add (n : Nat) (f g : Nat → α) : sm n (fun i => f i + g i) = sm n f + sm n g := by
  induction n with
  | zero => rw [sm_zero, sm_zero, sm_zero, add_zero]
  | succ n ih => rw [sm_succ, sm_succ, sm_succ, ih, add_assoc, add_assoc, add_left_comm (sm n g)]
theorem sm_neg (n : Nat) (f : Nat → α) : sm n (fun i => -f i) = -sm n f := by
  induction n with
  | zero => rw [sm_zero, sm_zero, neg_zero]
  | succ n ih => rw [sm_succ, sm_succ, ih, neg_add_distrib]
theorem mul_sm (n : Nat) (a : α) (f : Nat → α) : a * sm n f = sm n (fun i => a * f i) := by
  induction n with
  | zero => rw [sm_zero, sm_zero, mul_zero]
  | succ n ih => rw [sm_succ, sm_succ, mul_add, ih]
theorem sm_mul (n : Nat) (a : α) (f : Nat → α) : sm n f * a = sm n (fun i => f i * a) := by
  rw [mul_comm, mul_sm]; exact sm_congr fun i _ => mul_comm _ _
theorem sm_head (n : Nat) (f : Nat → α) : sm (n + 1) f = f 0 + sm n (fun i => f (i + 1)) := by
  induction n with
  | zero => rw [sm_succ, sm_zero, sm_zero, add_comm]
  | succ n ih => rw [sm_succ, ih, sm_succ, add_assoc]
theorem sm_split (m n : Nat) (f : Nat → α) : sm (m + n) f = sm m f + sm n (fun i => f (m + i)) := by
  induction n with
  | zero => rw [sm_zero, add_zero]; rfl
  | succ n ih => rw [← Nat.add_assoc, sm_succ, ih, sm_succ, add_assoc]
theorem sm_rev (n : Nat) (f : Nat → α) : sm n f = sm n (fun i => f (n - 1 - i)) := by
  induction n generalizing f with
  | zero => rfl
  | succ n ih =>
    rw [sm_head n (fun i => f (n + 1 - 1 - i)), sm_succ, ih, add_comm]
    congr 1
    apply sm_congr; intro i hi; congr 1; omega
theorem sm_single {n k : Nat} {f : Nat → α} (hk : k < n) (h : ∀ i, i < n → i ≠ k → f i = 0) : sm n f = f k := by
  induction n with
  | zero => omega
  | succ n ih =>
    rw [sm_succ]
    by_cases e : k = n
    · subst e; rw [sm_const_zero fun i hi => h i (by omega) (by omega), zero_add]
    · rw [ih (by omega) fun i hi => h i (by omega), h n (by omega) (by omega), add_zero]
theorem sm_ext {m n : Nat} {f : Nat → α} (hm : m ≤ n) (h : ∀ i, m ≤ i → i < n → f i = 0) : sm n f = sm m f := by
  obtain ⟨d, rfl⟩ : ∃ d, n = m + d := ⟨n - m, by omega⟩
  rw [sm_split, sm_const_zero (n := d) fun i hi => h (m + i) (by omega) (by omega), add_zero]
/-- the triangle, summed by rows or by columns -/
theorem sm_tri (n : Nat) (f : Nat → Nat → α) :
    sm n (fun i => sm (i + 1) (fun j => f i j)) = sm n (fun j => sm (n - j) (fun k => f (j + k) j)) := by
  induction n with
  | zero => rfl
  | succ n ih =>
    rw [sm_succ, ih, sm_succ n fun j => sm (n + 1 - j) fun k => f (j + k) j]
    have e1 : sm n (fun j => sm (n + 1 - j) fun k => f (j + k) j) = sm n (fun j => sm (n - j) (fun k => f (j + k) j) + f n j) := by
      apply sm_congr; intro j hj
      rw [show n + 1 - j = (n - j) + 1 from by omega, sm_succ]
      congr 2; omega
    have e2 : sm (n + 1 - n) (fun k => f (n + k) n) = f n n := by
      rw [show n + 1 - n = 1 from by omega, sm_succ, sm_zero, zero_add]; rfl
    rw [e1, e2, sm_add, sm_succ n fun j => f n j, add_assoc]

/-- the power of an element -/
def pw (a : α) : Nat → α
  | 0 => 1
  | n + 1 => pw a n * a
theorem pw_zero (a : α) : pw a 0 = 1 := rfl
theorem pw_succ (a : α) (n : Nat) : pw a (n + 1) = pw a n * a := rfl
theorem pw_one (a : α) : pw a 1 = a := one_mul a
theorem pw_add (a : α) (m n : Nat) : pw a (m + n) = pw a m * pw a n := by
  induction n with
  | zero => rw [pw_zero, mul_one]; rfl
  | succ n ih => rw [← Nat.add_assoc, pw_succ, ih, pw_succ, mul_assoc]
theorem pw_mul (a : α) (m n : Nat) : pw a (m * n) = pw (pw a m) n := by
  induction n with
  | zero => rfl
  | succ n ih => rw [Nat.mul_succ, pw_add, ih, pw_succ]
theorem mul_pw (a b : α) (n : Nat) : pw (a * b) n = pw a n * pw b n := by
  induction n with
  | zero => rw [pw_zero, pw_zero, pw_zero, one_mul]
  | succ n ih => rw [pw_succ, ih, pw_succ, pw_succ, mul_assoc, mul_assoc, mul_left_comm (pw b n)]
theorem one_pw (n : Nat) : pw (1 : α) n = 1 := by
  induction n with
  | zero => rfl
  | succ n ih => rw [pw_succ, ih, one_mul]
theorem zero_pw {n : Nat} (h : 0 < n) : pw (0 : α) n = 0 := by
  obtain ⟨k, rfl⟩ : ∃ k, n = k + 1 := ⟨n - 1, by omega⟩
  rw [pw_succ, mul_zero]
end

/-- power series -/
structure Ps (α : Type) where
  co : Nat → α

theorem Ps.ext' {α : Type} {a b : Ps α} (h : ∀ n, a.co n = b.co n) : a = b := by
  cases a; cases b; congr; exact funext h

section
variable {α : Type} [CR α]

def psMul (a b : Ps α) : Ps α := ⟨fun n => sm (n + 1) fun i => a.co i * b.co (n - i)⟩

theorem psMul_comm (a b : Ps α) : psMul a b = psMul b a := by
  apply Ps.ext'; intro n
  show sm (n + 1) _ = sm (n + 1) _
  rw [sm_rev]; apply sm_congr; intro i hi
  rw [mul_comm]; congr 2; omega

theorem psMul_assoc (a b c : Ps α) : psMul (psMul a b) c = psMul a (psMul b c) := by
  apply Ps.ext'; intro n
  show sm (n + 1) (fun i => sm (i + 1) (fun j => a.co j * b.co (i - j)) * c.co (n - i)) = sm (n + 1) (fun j => a.co j * sm (n - j + 1) (fun k => b.co k * c.co (n - j - k)))
  have e1 : sm (n + 1) (fun i => sm (i + 1) (fun j => a.co j * b.co (i - j)) * c.co (n - i)) = sm (n + 1) (fun i => sm (i + 1) (fun j => a.co j * b.co (i - j) * c.co (n - i))) :=
    sm_congr fun i _ => sm_mul _ _ _
  rw [e1, sm_tri (n + 1) fun i j => a.co j * b.co (i - j) * c.co (n - i)]
  apply sm_congr; intro j hj
  rw [mul_sm, show n + 1 - j = n - j + 1 from by omega]
  apply sm_congr; intro k hk
  rw [mul_assoc, show j + k - j = k from by omega, show n - (j + k) = n - j - k from by omega]

instance instCRPs : CR (Ps α) where
  add a b := ⟨fun n => a.co n + b.co n⟩
  mul := psMul
  neg a := ⟨fun n => -a.co n⟩
  zero := ⟨fun _ => 0⟩
  one := ⟨fun n => if n = 0 then 1 else 0⟩
  add_comm' a b := Ps.ext' fun n => add_comm _ _
  add_assoc' a b c := Ps.ext' fun n => add_assoc _ _ _
  zero_add' a := Ps.ext' fun n => zero_add _
  neg_add' a := Ps.ext' fun n => neg_add _
  mul_comm' := psMul_comm
  mul_assoc' := psMul_assoc
  one_mul' a := by
    apply Ps.ext'; intro n
    show sm (n + 1) (fun i => (if i = 0 then 1 else 0) * a.co (n - i)) = a.co n
    rw [sm_single (k := 0) (by omega) (by intro i _ h; rw [if_neg h, zero_mul]), if_pos rfl, one_mul]; rfl
  mul_add' a b c := by
    apply Ps.ext'; intro n
    show sm (n + 1) (fun i => a.co i * (b.co (n - i) + c.co (n - i))) = sm (n + 1) (fun i => a.co i * b.co (n - i)) + sm (n + 1) (fun i => a.co i * c.co (n - i))
    rw [← sm_add]; exact sm_congr fun i _ => mul_add _ _ _

theorem co_add (a b : Ps α) (n : Nat) : (a + b).co n = a.co n + b.co n := rfl
theorem co_neg (a : Ps α) (n : Nat) : (-a).co n = -a.co n := rfl
theorem co_sub (a b : Ps α) (n : Nat) : (a - b).co n = a.co n - b.co n := rfl
theorem co_zero (n : Nat) : (0 : Ps α).co n = 0 := rfl
theorem co_one (n : Nat) : (1 : Ps α).co n = if n = 0 then 1 else 0 := rfl
theorem co_mul (a b : Ps α) (n : Nat) : (a * b).co n = sm (n + 1) fun i => a.co i * b.co (n - i) := rfl

/-- the monomial a X^k -/
def mono (a : α) (k : Nat) : Ps α := ⟨fun n => if n = k then a else 0⟩
theorem co_mono (a : α) (k n : Nat) : (mono a k).co n = if n = k then a else 0 := rfl
theorem co_mono_mul (a : α) (k : Nat) (p : Ps α) (n : Nat) : (mono a k * p).co n = if k ≤ n then a * p.co (n - k) else 0 := by
  rw [co_mul]
  by_cases h : k ≤ n
  · rw [if_pos h, sm_single (k := k) (by omega) (by intro i _ hi; rw [co_mono, if_neg hi, zero_mul]), co_mono, if_pos rfl]
  · rw [if_neg h]; apply sm_const_zero; intro i hi; rw [co_mono, if_neg (by omega), zero_mul]

/-- p has a degree below n -/
def Dg (p : Ps α) (n : Nat) : Prop := ∀ i, n ≤ i → p.co i = 0
theorem Dg.mono {p : Ps α} {m n : Nat} (h : Dg p m) (hm : m ≤ n) : Dg p n := fun i hi => h i (by omega)
theorem Dg.zero (n : Nat) : Dg (0 : Ps α) n := fun _ _ => rfl
theorem Dg.add {p q : Ps α} {n : Nat} (h : Dg p n) (k : Dg q n) : Dg (p + q) n := fun i hi => by rw [co_add, h i hi, k i hi, add_zero]
theorem Dg.neg {p : Ps α} {n : Nat} (h : Dg p n) : Dg (-p) n := fun i hi => by rw [co_neg, h i hi, neg_zero]
theorem Dg.sub {p q : Ps α} {n : Nat} (h : Dg p n) (k : Dg q n) : Dg (p - q) n := h.add k.neg
theorem Dg.one : Dg (1 : Ps α) 1 := fun i hi => by rw [co_one, if_neg (by omega)]
theorem Dg.monom (a : α) (k : Nat) : Dg (Alg.mono a k) (k + 1) := fun i hi => by rw [co_mono, if_neg (by omega)]
theorem Dg.mul {p q : Ps α} {m n : Nat} (h : Dg p (m + 1)) (k : Dg q (n + 1)) : Dg (p * q) (m + n + 1) := by
  intro i hi; rw [co_mul]; apply sm_const_zero; intro j hj
  by_cases e : j ≤ m
  · rw [k (i - j) (by omega), mul_zero]
  · rw [h j (by omega), zero_mul]
theorem Dg.eq_zero {p : Ps α} (h : Dg p 0) : p = 0 := Ps.ext' fun n => h n (by omega)
theorem Dg.mul' {p q : Ps α} {m n k : Nat} (h : Dg p m) (g : Dg q n) (hk : m + n ≤ k + 1) : Dg (p * q) k := by
  rcases Nat.eq_zero_or_pos m with rfl | hm
  · rw [h.eq_zero, zero_mul]; exact Dg.zero k
  rcases Nat.eq_zero_or_pos n with rfl | hn
  · rw [g.eq_zero, mul_zero]; exact Dg.zero k
  obtain ⟨m, rfl⟩ : ∃ j, m = j + 1 := ⟨m - 1, by omega⟩
  obtain ⟨n, rfl⟩ : ∃ j, n = j + 1 := ⟨n - 1, by omega⟩
  exact (Dg.mul h g).mono (by omega)
/-- the coefficient of the highest power of a product -/
theorem co_mul_top {p q : Ps α} {m n : Nat} (h : Dg p (m + 1)) (k : Dg q (n + 1)) : (p * q).co (m + n) = p.co m * q.co n := by
  rw [co_mul, sm_single (k := m) (by omega)]
  · rw [show m + n - m = n from by omega]
  · intro i _ hi
    by_cases e : i < m
    · rw [k (m + n - i) (by omega), mul_zero]
    · rw [h i (by omega), zero_mul]

/-- division by a polynomial whose leading coefficient has the inverse u -/
theorem divides_ex (f : Ps α) (m : Nat) (u : α) (hf : Dg f (m + 1)) (hu : f.co m * u = 1) :
    ∀ (n : Nat) (p : Ps α), Dg p n → ∃ k r : Ps α, p = k * f + r ∧ Dg r m ∧ Dg k (n - m) := by
  intro n
  induction n with
  | zero => intro p hp; exact ⟨0, p, by rw [zero_mul, zero_add], hp.mono (by omega), Dg.zero _⟩
  | succ n ih =>
    intro p hp
    by_cases hn : n < m
    · exact ⟨0, p, by rw [zero_mul, zero_add], hp.mono (by omega), Dg.zero _⟩
    · have hm : m ≤ n := by omega
      have h1 : Dg (p - Alg.mono (p.co n * u) (n - m) * f) n := by
        intro i hi
        rw [co_sub, co_mono_mul, if_pos (by omega)]
        by_cases e : i = n
        · subst e; rw [show i - (i - m) = m from by omega, mul_assoc, mul_comm u, hu, mul_one, sub_self]
        · rw [hp i (by omega), hf (i - (n - m)) (by omega), mul_zero, sub_self]
      obtain ⟨k, r, e, hr, hk⟩ := ih _ h1
      refine ⟨k + Alg.mono (p.co n * u) (n - m), r, ?_, hr, ?_⟩
      · rw [add_mul, add_assoc, add_comm (Alg.mono _ _ * f), ← add_assoc, ← e, sub_add_cancel]
      · exact (hk.mono (by omega)).add ((Dg.monom _ _).mono (by omega))
/-- a multiple of f of a degree below that of f is 0 -/
theorem multiple_small (f : Ps α) (m : Nat) (u : α) (hf : Dg f (m + 1)) (hu : f.co m * u = 1) :
    ∀ (n : Nat) (k : Ps α), Dg k n → Dg (k * f) m → k = 0 := by
  intro n
  induction n with
  | zero => intro k hk _; exact hk.eq_zero
  | succ n ih =>
    intro k hk hm
    apply ih k _ hm
    intro i hi
    by_cases e : i = n
    · subst e
      have h := co_mul_top hk hf
      rw [hm (i + m) (by omega)] at h
      have : k.co i * f.co m * u = 0 := by rw [← h, zero_mul]
      rwa [mul_assoc, hu, mul_one] at this
    · exact hk i (by omega)
end
end Go.Proofs.Ytdpibcniodhinaa.Alg
/- Fields: values of polynomials, the bound on the number of roots, and that a finite field has a primitive element. -/
namespace Go.Proofs.Ytdpibcniodhinaa.Alg

class Fd (α : Type) extends CR α where
  inv : α → α
  mul_inv' : ∀ a : α, a ≠ 0 → a * inv a = 1
  one_ne_zero' : (1 : α) ≠ 0

section
variable {α : Type} [CR α]
/-- the value of the first n terms at x -/
def ev (n : Nat) (p : Ps α) (x : α) : α := sm n fun i => p.co i * pw x i
theorem ev_ext {p : Ps α} {m n : Nat} (h : Dg p m) (hm : m ≤ n) (x : α) : ev n p x = ev m p x :=
  sm_ext hm fun i hi _ => by rw [h i hi, zero_mul]
theorem ev_add (n : Nat) (p q : Ps α) (x : α) : ev n (p + q) x = ev n p x + ev n q x := by
  unfold ev; rw [← sm_add]; exact sm_congr fun i _ => by rw [co_add, add_mul]
theorem ev_neg (n : Nat) (p : Ps α) (x : α) : ev n (-p) x = -ev n p x := by
  unfold ev; rw [← sm_neg]; exact sm_congr fun i _ => by rw [co_neg, neg_mul]
theorem ev_sub (n : Nat) (p q : Ps α) (x : α) : ev n (p - q) x = ev n p x - ev n q x := by
  show ev n (p + -q) x = _; rw [ev_add, ev_neg]; rfl
theorem ev_mono {n k : Nat} (h : k < n) (a x : α) : ev n (Alg.mono a k) x = a * pw x k := by
  unfold ev; rw [sm_single h fun i _ hi => by rw [co_mono, if_neg hi, zero_mul], co_mono, if_pos rfl]
theorem ev_mul {p q : Ps α} {m n : Nat} (hp : Dg p m) (hq : Dg q n) (x : α) : ev (m + n) (p * q) x = ev m p x * ev n q x := by
  unfold ev
  have e1 : sm (m + n) (fun i => (p * q).co i * pw x i) = sm (m + n) (fun i => sm (i + 1) fun j => p.co j * q.co (i - j) * pw x i) :=
    sm_congr fun i _ => by rw [co_mul, sm_mul]
  rw [e1, sm_tri (m + n) fun i j => p.co j * q.co (i - j) * pw x i, sm_mul]
  rw [sm_ext (m := m) (by omega)]
  · apply sm_congr; intro j hj
    rw [mul_sm, sm_ext (m := n) (by omega)]
    · apply sm_congr; intro k _
      rw [show j + k - j = k from by omega, pw_add, mul_assoc, mul_assoc, mul_left_comm (q.co k)]
    · intro k hk _
      rw [show j + k - j = k from by omega, hq k hk, mul_zero, zero_mul]
  · intro j hj _
    apply sm_const_zero; intro k _
    rw [hp j hj, zero_mul, zero_mul]
/-- X - x -/
def lin (x : α) : Ps α := ⟨fun n => if n = 0 then -x else if n = 1 then 1 else 0⟩
theorem lin_dg (x : α) : Dg (lin x) 2 := fun i hi => by
  show (if i = 0 then -x else if i = 1 then 1 else 0) = 0
  rw [if_neg (by omega), if_neg (by omega)]
theorem lin_ev {n : Nat} (h : 2 ≤ n) (x y : α) : ev n (lin x) y = y - x := by
  rw [ev_ext (lin_dg x) h]
  show sm 2 _ = _
  rw [sm_succ, sm_succ, sm_zero, zero_add, pw_zero, pw_one]
  have e0 : (lin x).co 0 = -x := rfl
  have e1 : (lin x).co 1 = 1 := rfl
  rw [e0, e1, mul_one, one_mul, add_comm]; rfl
/-- a polynomial with the root x is a multiple of X - x -/
theorem root_factor {p : Ps α} {n : Nat} {x : α} (h : Dg p (n + 1)) (hx : ev (n + 1) p x = 0) : ∃ k, p = k * lin x ∧ Dg k n := by
  obtain ⟨k, r, e, hr, hk⟩ := divides_ex (lin x) 1 1 (lin_dg x) (by rw [mul_one]; rfl) (n + 1) p h
  have hk' : Dg k n := hk.mono (by omega)
  have h1 : ev (n + 2) p x = 0 := by rw [ev_ext h (by omega)]; exact hx
  have h2 : ev (n + 2) (k * lin x) x = 0 := by rw [ev_mul hk' (lin_dg x), lin_ev (by omega), sub_self, mul_zero]
  have h3 : ev (n + 2) r x = r.co 0 := by
    rw [ev_ext hr (by omega)]; show sm 1 _ = _; rw [sm_succ, sm_zero, zero_add, pw_zero, mul_one]
  have h4 : r.co 0 = 0 := by
    rw [← h3]; rw [e, ev_add, h2, zero_add] at h1; exact h1
  have hr0 : r = 0 := Ps.ext' fun i => by
    cases i with
    | zero => exact h4
    | succ i => exact hr (i + 1) (by omega)
  exact ⟨k, by rw [e, hr0, add_zero], hk'⟩
end

section
variable {α : Type} [Fd α]
theorem mul_inv {a : α} (h : a ≠ 0) : a * Fd.inv a = 1 := Fd.mul_inv' a h
theorem inv_mul {a : α} (h : a ≠ 0) : Fd.inv a * a = 1 := by rw [mul_comm, mul_inv h]
theorem one_ne_zero : (1 : α) ≠ 0 := Fd.one_ne_zero'
theorem mul_left_cancel {a b c : α} (h : a ≠ 0) (e : a * b = a * c) : b = c := by
  rw [← one_mul b, ← inv_mul h, mul_assoc, e, ← mul_assoc, inv_mul h, one_mul]
theorem mul_eq_zero {a b : α} (h : a ≠ 0) (e : a * b = 0) : b = 0 := mul_left_cancel h (by rw [e, mul_zero])
theorem mul_ne_zero {a b : α} (h : a ≠ 0) (k : b ≠ 0) : a * b ≠ 0 := fun e => k (mul_eq_zero h e)
theorem pw_ne_zero {a : α} (h : a ≠ 0) (n : Nat) : pw a n ≠ 0 := by
  induction n with
  | zero => exact one_ne_zero
  | succ n ih => rw [pw_succ]; exact mul_ne_zero ih h
/-- a polynomial other than 0 of a degree below n + 1 has at most n roots -/
theorem roots_le : ∀ (n : Nat) (p : Ps α) (l : List α), Dg p (n + 1) → l.Nodup → (∀ x ∈ l, ev (n + 1) p x = 0) → n < l.length → p = 0 := by
  intro n
  induction n with
  | zero =>
    intro p l hp hl hr hlen
    match l, hlen with
    | x :: t, _ =>
      have := hr x (by simp)
      have e : ev 1 p x = p.co 0 := by show sm 1 _ = _; rw [sm_succ, sm_zero, zero_add, pw_zero, mul_one]
      rw [e] at this
      exact Ps.ext' fun i => by
        cases i with
        | zero => exact this
        | succ i => exact hp (i + 1) (by omega)
  | succ n ih =>
    intro p l hp hl hr hlen
    match l, hl, hlen with
    | x :: t, hl, hlen =>
      obtain ⟨k, e, hk⟩ := root_factor hp (hr x (by simp))
      have hk0 : k = 0 := by
        apply ih k t hk (List.nodup_cons.1 hl).2
        · intro y hy
          have h1 : ev (n + 1 + 2) p y = 0 := by
            rw [ev_ext hp (by omega)]; exact hr y (by simp [hy])
          rw [e, ev_mul hk (lin_dg x), lin_ev (by omega), mul_comm] at h1
          apply mul_eq_zero _ h1
          intro e0
          have := sub_eq_zero.1 e0
          subst this
          exact (List.nodup_cons.1 hl).1 hy
        · simp at hlen; omega
      rw [e, hk0, zero_mul]

/-- n is the order of x -/
def Ord (x : α) (n : Nat) : Prop := 0 < n ∧ pw x n = 1 ∧ ∀ k, 0 < k → k < n → pw x k ≠ 1
theorem Ord.dvd {x : α} {n k : Nat} (h : Ord x n) (e : pw x k = 1) : n ∣ k := by
  obtain ⟨h0, h1, h2⟩ := h
  apply Nat.dvd_of_mod_eq_zero
  by_cases hz : k % n = 0
  · exact hz
  · exfalso
    apply h2 (k % n) (by omega) (Nat.mod_lt _ h0)
    have := Nat.div_add_mod k n
    rw [← this, pw_add, pw_mul, h1, one_pw, one_mul] at e
    exact e
theorem Ord.pw_dvd {x : α} {n k : Nat} (h : Ord x n) (e : n ∣ k) : pw x k = 1 := by
  obtain ⟨j, rfl⟩ := e; rw [pw_mul, h.2.1, one_pw]
theorem Ord.mk' {x : α} {n : Nat} (h0 : 0 < n) (h1 : pw x n = 1) (h : ∀ k, pw x k = 1 → n ∣ k) : Ord x n :=
  ⟨h0, h1, fun k hk hkn e => by have := Nat.le_of_dvd hk (h k e); omega⟩
theorem Ord.root {x : α} {n c : Nat} (h : Ord x n) (hc : c ∣ n) (hc0 : 0 < c) : Ord (pw x c) (n / c) := by
  obtain ⟨j, rfl⟩ := hc
  rw [Nat.mul_div_cancel_left _ hc0]
  have hj : 0 < j := Nat.pos_of_ne_zero fun e => by have := h.1; rw [e, Nat.mul_zero] at this; omega
  refine Ord.mk' hj (by rw [← pw_mul]; exact h.2.1) fun k e => ?_
  rw [← pw_mul] at e
  exact Nat.dvd_of_mul_dvd_mul_left hc0 (h.dvd e)
theorem Ord.mul {x y : α} {m n : Nat} (hx : Ord x m) (hy : Ord y n) (hc : Nat.Coprime m n) : Ord (x * y) (m * n) := by
  refine Ord.mk' (Nat.mul_pos hx.1 hy.1) ?_ fun k e => ?_
  · rw [mul_pw, pw_mul, hx.2.1, one_pw, one_mul, Nat.mul_comm, pw_mul, hy.2.1, one_pw]
  · apply Nat.Coprime.mul_dvd_of_dvd_of_dvd hc
    · have : pw x (k * n) = 1 := by
        have h : pw (pw (x * y) k) n = pw 1 n := by rw [e]
        rw [← pw_mul, one_pw, mul_pw, Nat.mul_comm k n, pw_mul y, hy.2.1, one_pw, mul_one, Nat.mul_comm n k] at h
        exact h
      exact hc.dvd_of_dvd_mul_right (hx.dvd this)
    · have : pw y (k * m) = 1 := by
        have h : pw (pw (x * y) k) m = pw 1 m := by rw [e]
        rw [← pw_mul, one_pw, mul_pw, Nat.mul_comm k m, pw_mul x, hx.2.1, one_pw, one_mul, Nat.mul_comm m k] at h
        exact h
      exact hc.symm.dvd_of_dvd_mul_right (hy.dvd this)
/-- two elements: some element's order is a multiple of both orders, or is greater -/
theorem Ord.greater {x y : α} {m n : Nat} (hx : Ord x m) (hy : Ord y n) (hn : ¬ n ∣ m) : ∃ (z : α) (k : Nat), Ord z k ∧ m < k := by
  -- the least divisor of n that does not divide m
  have hex : ∃ d, (d ∣ n ∧ ¬ d ∣ m) ∧ ∀ j, j < d → ¬ (j ∣ n ∧ ¬ j ∣ m) := by
    have : ∀ b d, d ≤ b → (d ∣ n ∧ ¬ d ∣ m) → ∃ d, (d ∣ n ∧ ¬ d ∣ m) ∧ ∀ j, j < d → ¬ (j ∣ n ∧ ¬ j ∣ m) := by
      intro b
      induction b with
      | zero => intro d hd h; exact ⟨d, h, fun j hj => by omega⟩
      | succ b ih =>
        intro d hd h
        by_cases hs : ∃ j, j < d ∧ (j ∣ n ∧ ¬ j ∣ m)
        · obtain ⟨j, hj, hh⟩ := hs; exact ih j (by omega) hh
        · exact ⟨d, h, fun j hj hh => hs ⟨j, hj, hh⟩⟩
    exact this n n (Nat.le_refl _) ⟨Nat.dvd_refl _, hn⟩
  obtain ⟨d, ⟨hdn, hdm⟩, hmin⟩ := hex
  have hd0 : 0 < d := Nat.pos_of_ne_zero fun e => by
    subst e; have := Nat.eq_zero_of_zero_dvd hdn; have := hy.1; omega
  have hm0 := hx.1
  let c := Nat.gcd d m
  have hc0 : 0 < c := Nat.gcd_pos_of_pos_left _ hd0
  have hcm : c ∣ m := Nat.gcd_dvd_right _ _
  have hcd : c ∣ d := Nat.gcd_dvd_left _ _
  have hcop : Nat.Coprime (m / c) d := by
    show Nat.gcd (m / c) d = 1
    generalize hh : Nat.gcd (m / c) d = h
    have h1 : h ∣ m / c := hh ▸ Nat.gcd_dvd_left _ _
    have h2 : h ∣ d := hh ▸ Nat.gcd_dvd_right _ _
    have h0 : 0 < h := hh ▸ Nat.gcd_pos_of_pos_right _ hd0
    by_cases e : h = 1
    · exact e
    · exfalso
      obtain ⟨t, rfl⟩ := h2
      have ht : t < h * t := by
        have : 0 < t := Nat.pos_of_ne_zero fun e => by subst e; simp at hd0
        calc t = 1 * t := (Nat.one_mul t).symm
          _ < h * t := Nat.mul_lt_mul_of_pos_right (by omega) this
      have htm : t ∣ m := by
        by_cases e : t ∣ m
        · exact e
        · exact absurd ⟨Nat.dvd_trans (Nat.dvd_mul_left t h) hdn, e⟩ (hmin t ht)
      have htc : t ∣ c := Nat.dvd_gcd (Nat.dvd_mul_left t h) htm
      apply hdm
      have : h * t ∣ (m / c) * c := Nat.mul_dvd_mul h1 htc
      rwa [Nat.div_mul_cancel hcm] at this
  refine ⟨pw x c * pw y (n / d), m / c * d, Ord.mul (hx.root hcm hc0) ?_ hcop, ?_⟩
  · have h := hy.root (c := n / d) (Nat.div_dvd_of_dvd hdn) (Nat.div_pos (Nat.le_of_dvd hy.1 hdn) hd0)
    rwa [Nat.div_div_self hdn (by have := hy.1; omega)] at h
  · have hlt : c < d := by
      rcases Nat.lt_or_ge c d with h | h
      · exact h
      · exfalso
        have : c = d := Nat.le_antisymm (Nat.le_of_dvd hd0 hcd) h
        exact hdm (this ▸ hcm)
    have hq : 0 < m / c := Nat.div_pos (Nat.le_of_dvd hm0 hcm) hc0
    calc m = m / c * c := (Nat.div_mul_cancel hcm).symm
      _ < m / c * d := Nat.mul_lt_mul_of_pos_left hlt hq

omit [Fd α] in
theorem nodup_map_range {n : Nat} {f : Nat → α} (h : ∀ i j, i < j → j < n → f i ≠ f j) : ((List.range n).map f).Nodup := by
  rw [List.nodup_iff_pairwise_ne, List.pairwise_map]
  apply List.Pairwise.imp_of_mem _ (List.pairwise_lt_range (n := n))
  intro i j _ hj hij
  exact h i j hij (by simpa using hj)
/-- a list without repetitions that lies in another is not longer -/
theorem nodup_le {β : Type} [DecidableEq β] : ∀ (l m : List β), l.Nodup → (∀ x ∈ l, x ∈ m) → l.length ≤ m.length := by
  intro l
  induction l with
  | nil => intro m _ _; simp
  | cons x t ih =>
    intro m hl hm
    have hx : x ∈ m := hm x (by simp)
    have h := ih (m.erase x) (List.nodup_cons.1 hl).2 (by
      intro y hy
      have hne : y ≠ x := fun e => (List.nodup_cons.1 hl).1 (e ▸ hy)
      exact (List.mem_erase_of_ne hne).2 (hm y (by simp [hy])))
    rw [List.length_erase_of_mem hx] at h
    have : 0 < m.length := List.length_pos_of_mem hx
    simp; omega

/-- in a finite field each element other than 0 has an order, and the list of the others is as long at least -/
theorem ord_ex [DecidableEq α] (l : List α) (hall : ∀ x : α, x ≠ 0 → x ∈ l) {x : α} (hx : x ≠ 0) : ∃ n, Ord x n ∧ n ≤ l.length := by
  -- some power between 1 and length is 1
  have hrep : ∃ k, 0 < k ∧ k ≤ l.length ∧ pw x k = 1 := by
    by_cases h : ∃ k, 0 < k ∧ k ≤ l.length ∧ pw x k = 1
    · exact h
    · exfalso
      have hnd : ((List.range (l.length + 1)).map fun i => pw x i).Nodup := by
        apply nodup_map_range
        intro i j hij hj e
        apply h
        refine ⟨j - i, by omega, by omega, ?_⟩
        have : pw x j = pw x i * pw x (j - i) := by rw [← pw_add]; congr 1; omega
        rw [this] at e
        exact (mul_left_cancel (pw_ne_zero hx i) (by rw [mul_one]; exact e)).symm
      have := nodup_le _ l hnd (by
        intro y hy
        obtain ⟨i, _, rfl⟩ := List.mem_map.1 hy
        exact hall _ (pw_ne_zero hx i))
      simp at this
      omega
  obtain ⟨k, hk0, hk, he⟩ := hrep
  have : ∀ b k, k ≤ b → 0 < k → k ≤ l.length → pw x k = 1 → ∃ n, Ord x n ∧ n ≤ l.length := by
    intro b
    induction b with
    | zero => intro k h1 h2; omega
    | succ b ih =>
      intro k h1 h2 h3 h4
      by_cases hs : ∃ j, 0 < j ∧ j < k ∧ pw x j = 1
      · obtain ⟨j, a, b, c⟩ := hs; exact ih j (by omega) a (by omega) c
      · exact ⟨k, ⟨h2, h4, fun j a b c => hs ⟨j, a, b, c⟩⟩, h3⟩
  exact this k k (Nat.le_refl _) hk0 hk he
/-- a finite field has a primitive element -/
theorem primitive_ex [DecidableEq α] (l : List α) (hl : l.Nodup) (hall : ∀ x : α, x ≠ 0 → x ∈ l) (hnz : ∀ x ∈ l, x ≠ 0) : ∃ x : α, x ≠ 0 ∧ Ord x l.length := by
  have key : ∀ (d : Nat) (x : α) (n : Nat), x ≠ 0 → Ord x n → n ≤ l.length → l.length - n ≤ d → ∃ x : α, x ≠ 0 ∧ Ord x l.length := by
    intro d
    induction d with
    | zero =>
      intro x n hx h h1 h2
      have : n = l.length := by omega
      exact ⟨x, hx, this ▸ h⟩
    | succ d ih =>
      intro x n hx h h1 h2
      by_cases e : n = l.length
      · exact ⟨x, hx, e ▸ h⟩
      · -- some element is no root of X^n - 1
        have hy : ∃ y ∈ l, pw y n ≠ 1 := by
          by_cases hy : ∃ y ∈ l, pw y n ≠ 1
          · exact hy
          · exfalso
            have h0 : Alg.mono (1 : α) n - 1 = 0 := by
              apply roots_le n _ l _ hl _ (by omega)
              · exact (Dg.monom _ _).sub (Dg.one.mono (by omega))
              · intro y hy'
                rw [ev_sub, ev_mono (by omega), one_mul]
                have : pw y n = 1 := by
                  by_cases e : pw y n = 1
                  · exact e
                  · exact absurd ⟨y, hy', e⟩ hy
                rw [this]
                have e1 : ev (n + 1) (1 : Ps α) y = 1 := by
                  rw [ev_ext Dg.one (by omega)]
                  show sm 1 _ = _
                  rw [sm_succ, sm_zero, zero_add, pw_zero, mul_one]; rfl
                rw [e1, sub_self]
            have h1 : (Alg.mono (1 : α) n - 1 : Ps α).co n = 0 := by rw [h0]; rfl
            rw [co_sub, co_mono, if_pos rfl, co_one, if_neg (by have := h.1; omega), sub_zero] at h1
            exact one_ne_zero h1
        obtain ⟨y, hyl, hy⟩ := hy
        obtain ⟨m, hm, hml⟩ := ord_ex l hall (hnz y hyl)
        have hnd : ¬ m ∣ n := fun hd => hy (hm.pw_dvd hd)
        obtain ⟨z, k, hz, hk⟩ := h.greater hm hnd
        have hz0 : z ≠ 0 := by
          intro e0
          have := hz.2.1
          rw [e0, zero_pw hz.1] at this
          exact one_ne_zero this.symm
        obtain ⟨k', hk', hkl⟩ := ord_ex l hall hz0
        have : k = k' := Nat.dvd_antisymm (hz.dvd hk'.2.1) (hk'.dvd hz.2.1)
        subst this
        exact ih z k hz0 hz hkl (by omega)
  have h1 : Ord (1 : α) 1 := ⟨by omega, pw_one 1, fun k a b => by omega⟩
  have hpos : 0 < l.length := List.length_pos_of_mem (hall 1 one_ne_zero)
  exact key l.length 1 1 one_ne_zero h1 hpos (by omega)
end
end Go.Proofs.Ytdpibcniodhinaa.Alg
/- Integers modulo a number, residues of polynomials modulo a monic polynomial, and that they are a field just if the polynomial is irreducible. -/
namespace Go.Proofs.Ytdpibcniodhinaa.Alg

/-- the integers modulo k + 2 -/
structure Zm (k : Nat) where
  v : Int
  lo : 0 ≤ v
  hi : v < k + 2
theorem Zm.ext' {k : Nat} {a b : Zm k} (h : a.v = b.v) : a = b := by
  cases a; cases b; simp only at h; subst h; rfl
def Zm.of {k : Nat} (x : Int) : Zm k := ⟨x % (k + 2), Int.emod_nonneg _ (by omega), Int.emod_lt_of_pos _ (by omega)⟩
theorem Zm.of_v {k : Nat} (x : Int) : (Zm.of (k := k) x).v = x % (k + 2) := rfl
theorem Zm.v_mod {k : Nat} (a : Zm k) : a.v % (k + 2) = a.v := Int.emod_eq_of_lt a.lo a.hi
theorem Zm.of_self {k : Nat} (a : Zm k) : Zm.of a.v = a := Zm.ext' a.v_mod
theorem Zm.of_eq {k : Nat} {x y : Int} (h : x % (k + 2) = y % (k + 2)) : Zm.of (k := k) x = Zm.of y := Zm.ext' h

theorem emod_mul_l (a b n : Int) : (a % n * b) % n = (a * b) % n := by rw [Int.mul_emod, Int.emod_emod_of_dvd _ (Int.dvd_refl n), ← Int.mul_emod]
theorem emod_mul_r (a b n : Int) : (a * (b % n)) % n = (a * b) % n := by rw [Int.mul_comm, emod_mul_l, Int.mul_comm]
instance instCRZm (k : Nat) : CR (Zm k) where
  add a b := Zm.of (a.v + b.v)
  mul a b := Zm.of (a.v * b.v)
  neg a := Zm.of (-a.v)
  zero := Zm.of 0
  one := Zm.of 1
  add_comm' a b := by apply Zm.of_eq; rw [Int.add_comm]
  add_assoc' a b c := by apply Zm.ext'; show ((a.v + b.v) % (k + 2) + c.v) % (k + 2) = (a.v + (b.v + c.v) % (k + 2)) % (k + 2); simp [Int.add_assoc]
  zero_add' a := by apply Zm.ext'; show (0 % (k + 2) + a.v) % (k + 2) = a.v; simp [a.v_mod]
  neg_add' a := by apply Zm.ext'; show (-a.v % (k + 2) + a.v) % (k + 2) = 0 % (k + 2); simp [Int.add_left_neg]
  mul_comm' a b := by apply Zm.of_eq; rw [Int.mul_comm]
  mul_assoc' a b c := by apply Zm.ext'; show ((a.v * b.v) % (k + 2) * c.v) % (k + 2) = (a.v * ((b.v * c.v) % (k + 2))) % (k + 2); rw [emod_mul_l, emod_mul_r, Int.mul_assoc]
  one_mul' a := by apply Zm.ext'; show (1 % (k + 2) * a.v) % (k + 2) = a.v; rw [emod_mul_l, Int.one_mul, a.v_mod]
  mul_add' a b c := by apply Zm.ext'; show (a.v * ((b.v + c.v) % (k + 2))) % (k + 2) = ((a.v * b.v) % (k + 2) + (a.v * c.v) % (k + 2)) % (k + 2); rw [emod_mul_r, Int.mul_add]; simp

theorem Zm.add_v {k : Nat} (a b : Zm k) : (a + b).v = (a.v + b.v) % (k + 2) := rfl
theorem Zm.mul_v {k : Nat} (a b : Zm k) : (a * b).v = (a.v * b.v) % (k + 2) := rfl
theorem Zm.neg_v {k : Nat} (a : Zm k) : (-a).v = (-a.v) % (k + 2) := rfl
theorem Zm.zero_v {k : Nat} : (0 : Zm k).v = 0 := rfl
theorem Zm.one_v {k : Nat} : (1 : Zm k).v = 1 := Int.emod_eq_of_lt (by omega) (by omega)
theorem Zm.of_add {k : Nat} (x y : Int) : Zm.of (k := k) (x + y) = Zm.of x + Zm.of y := by
  apply Zm.ext'; rw [Zm.add_v, Zm.of_v, Zm.of_v, Zm.of_v]; simp
theorem Zm.of_mul {k : Nat} (x y : Int) : Zm.of (k := k) (x * y) = Zm.of x * Zm.of y := by
  apply Zm.ext'; rw [Zm.mul_v, Zm.of_v, Zm.of_v, Zm.of_v, emod_mul_l, emod_mul_r]
theorem Zm.of_neg {k : Nat} (x : Int) : Zm.of (k := k) (-x) = -Zm.of x := by
  apply Zm.ext'; rw [Zm.neg_v, Zm.of_v, Zm.of_v]
  have h := Int.emod_add_mul_ediv x ((k : Int) + 2)
  rw [show -(x % ((k : Int) + 2)) = -x + ((k : Int) + 2) * (x / ((k : Int) + 2)) from by omega, Int.add_mul_emod_self_left]
theorem Zm.of_p {k : Nat} : Zm.of (k := k) (k + 2) = 0 := by apply Zm.ext'; rw [Zm.of_v, Int.emod_self]; rfl

/-- n is prime, as the document's reference asks it -/
def Prm (n : Int) : Prop := ∀ d : Int, 2 ≤ d → d < n → n % d ≠ 0

theorem zm_inv {k : Nat} (hp : Prm (k + 2)) : ∀ (n : Nat) (a : Int), a.toNat ≤ n → 0 < a → a < k + 2 → ∃ b : Int, (a * b) % (k + 2) = 1 := by
  intro n
  induction n with
  | zero => intro a h1 h2; omega
  | succ n ih =>
    intro a h1 h2 h3
    by_cases e : a = 1
    · exact ⟨1, by subst e; exact Int.emod_eq_of_lt (by omega) (by omega)⟩
    · have hr0 := Int.emod_nonneg ((k : Int) + 2) (b := a) (by omega)
      have hr1 := Int.emod_lt_of_pos ((k : Int) + 2) (b := a) h2
      have hr2 := hp a (by omega) h3
      obtain ⟨s, hs⟩ := ih (((k : Int) + 2) % a) (by omega) (by omega) (by omega)
      refine ⟨-((((k : Int) + 2) / a) * s), ?_⟩
      have hd := Int.emod_add_mul_ediv ((k : Int) + 2) a
      have : a * -((((k : Int) + 2) / a) * s) = (((k : Int) + 2) % a) * s + ((k : Int) + 2) * (-s) := by
        have h2 : (((k : Int) + 2) % a) = ((k : Int) + 2) - a * (((k : Int) + 2) / a) := by omega
        rw [h2, Int.sub_mul, Int.mul_neg, Int.mul_neg, Int.mul_assoc]; omega
      rw [this, Int.add_mul_emod_self_left]
      exact hs

theorem Zm.inv_ex {k : Nat} (hp : Prm (k + 2)) (a : Zm k) (h : a ≠ 0) : ∃ b : Zm k, a * b = 1 := by
  have h0 : a.v ≠ 0 := fun e => h (Zm.ext' (by rw [e]; rfl))
  have := a.lo
  obtain ⟨b, hb⟩ := zm_inv hp a.v.toNat a.v (Nat.le_refl _) (by omega) a.hi
  refine ⟨Zm.of b, Zm.ext' ?_⟩
  rw [Zm.mul_v, Zm.of_v, Zm.one_v, ← hb, emod_mul_r]

open Classical in
/-- the field of the integers modulo a prime -/
@[reducible] noncomputable def zmFd {k : Nat} (hp : Prm (k + 2)) : Fd (Zm k) where
  toCR := instCRZm k
  inv a := if h : a ≠ 0 then Classical.choose (Zm.inv_ex hp a h) else 0
  mul_inv' a h := by rw [dif_pos h]; exact Classical.choose_spec (Zm.inv_ex hp a h)
  one_ne_zero' := fun e => by
    have := congrArg Zm.v e
    rw [Zm.one_v, Zm.zero_v] at this
    omega

/-- a monic polynomial of a degree of at least 1 -/
structure Mn (k : Nat) where
  m : Nat
  f : Ps (Zm k)
  dg : Dg f (m + 1)
  top : f.co m = 1
  pos : 0 < m

/-- a residue -/
structure El {k : Nat} (M : Mn k) where
  p : Ps (Zm k)
  dg : Dg p M.m
theorem El.ext' {k : Nat} {M : Mn k} {a b : El M} (h : a.p = b.p) : a = b := by
  cases a; cases b; simp only at h; subst h; rfl

section
variable {k : Nat} (M : Mn k)
/-- p is r modulo the polynomial -/
def Cg (p r : Ps (Zm k)) : Prop := ∃ (n : Nat) (q : Ps (Zm k)), Dg q n ∧ p = q * M.f + r
variable {M}
theorem Cg.refl (p : Ps (Zm k)) : Cg M p p := ⟨0, 0, Dg.zero 0, by rw [zero_mul, zero_add]⟩
theorem Cg.symm {p r : Ps (Zm k)} (h : Cg M p r) : Cg M r p := by
  obtain ⟨n, q, hq, e⟩ := h
  exact ⟨n, -q, hq.neg, by rw [e, neg_mul, ← add_assoc, neg_add, zero_add]⟩
theorem Cg.trans {p r s : Ps (Zm k)} (h : Cg M p r) (g : Cg M r s) : Cg M p s := by
  obtain ⟨n, q, hq, e⟩ := h
  obtain ⟨n', q', hq', e'⟩ := g
  exact ⟨max n n', q + q', (hq.mono (Nat.le_max_left _ _)).add (hq'.mono (Nat.le_max_right _ _)), by rw [e, e', add_mul, add_assoc]⟩
theorem Cg.add {p r p' r' : Ps (Zm k)} (h : Cg M p r) (g : Cg M p' r') : Cg M (p + p') (r + r') := by
  obtain ⟨n, q, hq, e⟩ := h
  obtain ⟨n', q', hq', e'⟩ := g
  exact ⟨max n n', q + q', (hq.mono (Nat.le_max_left _ _)).add (hq'.mono (Nat.le_max_right _ _)), by
    rw [e, e', add_mul, add_assoc, add_assoc, add_left_comm r]⟩
theorem Cg.neg {p r : Ps (Zm k)} (h : Cg M p r) : Cg M (-p) (-r) := by
  obtain ⟨n, q, hq, e⟩ := h
  exact ⟨n, -q, hq.neg, by rw [e, neg_add_distrib, neg_mul]⟩
theorem Cg.mul_left {p r : Ps (Zm k)} {n : Nat} (s : Ps (Zm k)) (hs : Dg s n) (h : Cg M p r) : Cg M (s * p) (s * r) := by
  obtain ⟨n', q, hq, e⟩ := h
  exact ⟨n + n', s * q, Dg.mul' hs hq (by omega), by rw [e, mul_add, mul_assoc]⟩
theorem Cg.mul_right {p r : Ps (Zm k)} {n : Nat} (s : Ps (Zm k)) (hs : Dg s n) (h : Cg M p r) : Cg M (p * s) (r * s) := by
  rw [mul_comm p, mul_comm r]; exact h.mul_left s hs
/-- two residues that are equal modulo the polynomial are equal -/
theorem Cg.eq {p r : Ps (Zm k)} (h : Cg M p r) (hp : Dg p M.m) (hr : Dg r M.m) : p = r := by
  obtain ⟨n, q, hq, e⟩ := h
  have h1 : q * M.f = p - r := by rw [e, add_sub_cancel]
  have h0 : q = 0 := multiple_small M.f M.m 1 M.dg (by rw [M.top, mul_one]) n q hq (by rw [h1]; exact hp.sub hr)
  rw [e, h0, zero_mul, zero_add]
theorem rem_ex {n : Nat} (p : Ps (Zm k)) (hp : Dg p n) : ∃ r, Cg M p r ∧ Dg r M.m := by
  obtain ⟨q, r, e, hr, hq⟩ := divides_ex M.f M.m 1 M.dg (by rw [M.top, mul_one]) n p hp
  exact ⟨r, ⟨_, q, hq, e⟩, hr⟩
variable (M)
noncomputable def remOf {n : Nat} (p : Ps (Zm k)) (hp : Dg p n) : El M := ⟨Classical.choose (rem_ex (M := M) p hp), (Classical.choose_spec (rem_ex (M := M) p hp)).2⟩
theorem remOf_cg {n : Nat} (p : Ps (Zm k)) (hp : Dg p n) : Cg M p (remOf M p hp).p := (Classical.choose_spec (rem_ex (M := M) p hp)).1
variable {M}
theorem El.dvd (a b : El M) : Dg (a.p * b.p) (M.m + M.m) := Dg.mul' a.dg b.dg (by omega)

noncomputable instance instCREl : CR (El M) where
  add a b := ⟨a.p + b.p, a.dg.add b.dg⟩
  mul a b := remOf M (a.p * b.p) (El.dvd a b)
  neg a := ⟨-a.p, a.dg.neg⟩
  zero := ⟨0, Dg.zero _⟩
  one := ⟨1, Dg.one.mono M.pos⟩
  add_comm' a b := El.ext' (add_comm _ _)
  add_assoc' a b c := El.ext' (add_assoc _ _ _)
  zero_add' a := El.ext' (zero_add _)
  neg_add' a := El.ext' (neg_add _)
  mul_comm' a b := El.ext' (((remOf_cg M _ (El.dvd a b)).symm.trans (by rw [mul_comm]; exact remOf_cg M _ (El.dvd b a))).eq (remOf M _ _).dg (remOf M _ _).dg)
  mul_assoc' a b c := by
    apply El.ext'
    refine Cg.eq ?_ (remOf M _ _).dg (remOf M _ _).dg
    refine (remOf_cg M _ (El.dvd _ c)).symm.trans ?_
    refine Cg.trans ?_ (remOf_cg M _ (El.dvd a _))
    refine ((remOf_cg M _ (El.dvd a b)).mul_right c.p c.dg).symm.trans ?_
    rw [mul_assoc]
    exact (remOf_cg M _ (El.dvd b c)).mul_left a.p a.dg
  one_mul' a := by
    apply El.ext'
    refine Cg.eq ((remOf_cg M _ (El.dvd _ a)).symm.trans ?_) (remOf M _ _).dg a.dg
    show Cg M (1 * a.p) a.p
    rw [one_mul]; exact Cg.refl _
  mul_add' a b c := by
    apply El.ext'
    refine Cg.eq ?_ (remOf M _ _).dg ((remOf M _ _).dg.add (remOf M _ _).dg)
    refine (remOf_cg M _ (El.dvd a _)).symm.trans ?_
    refine Cg.trans ?_ ((remOf_cg M _ (El.dvd a b)).add (remOf_cg M _ (El.dvd a c)))
    show Cg M (a.p * (b.p + c.p)) _
    rw [mul_add]; exact Cg.refl _

theorem El.mul_cg (a b : El M) : Cg M (a.p * b.p) (a * b).p := remOf_cg M _ (El.dvd a b)
/-- what a product is -/
theorem El.mul_eq {a b c : El M} (h : Cg M (a.p * b.p) c.p) : a * b = c :=
  El.ext' (((El.mul_cg a b).symm.trans h).eq (a * b).dg c.dg)
theorem El.zero_p : (0 : El M).p = 0 := rfl
theorem El.one_p : (1 : El M).p = 1 := rfl

/-- the exact degree of a polynomial other than 0 -/
theorem exact_dg {α : Type} [CR α] : ∀ (n : Nat) (p : Ps α), Dg p n → p ≠ 0 → ∃ j, j < n ∧ Dg p (j + 1) ∧ p.co j ≠ 0 := by
  intro n
  induction n with
  | zero => intro p hp h; exact absurd hp.eq_zero h
  | succ n ih =>
    intro p hp h
    by_cases e : p.co n = 0
    · obtain ⟨j, h1, h2, h3⟩ := ih p (fun i hi => by
        by_cases e' : i = n
        · rw [e', e]
        · exact hp i (by omega)) h
      exact ⟨j, by omega, h2, h3⟩
    · exact ⟨n, by omega, hp, e⟩

variable (M)
/-- no monic divisor of a degree from 1 to half of the own one -/
def Irr : Prop := ∀ (d : Nat) (a q : Ps (Zm k)), 1 ≤ d → 2 * d ≤ M.m → Dg a (d + 1) → a.co d = 1 → Dg q (M.m + 1 - d) → M.f ≠ q * a
variable {M}

theorem Dg.smul {α : Type} [CR α] {p : Ps α} {n : Nat} (c : α) (h : Dg p n) : Dg (Alg.mono c 0 * p) n := fun i hi => by
  rw [co_mono_mul, if_pos (by omega), show i - 0 = i from rfl, h i hi, mul_zero]
theorem mono_mul_mono {α : Type} [CR α] (a b : α) : Alg.mono a 0 * Alg.mono b 0 = Alg.mono (a * b) 0 := by
  apply Ps.ext'; intro n
  rw [co_mono_mul, if_pos (by omega), co_mono, co_mono, show n - 0 = n from rfl]
  by_cases e : n = 0
  · rw [if_pos e, if_pos e]
  · rw [if_neg e, if_neg e, mul_zero]
theorem mono_one {α : Type} [CR α] : Alg.mono (1 : α) 0 = 1 := rfl

theorem inv_poly (hp : Prm (k + 2)) (hi : Irr M) : ∀ (b n : Nat) (a : Ps (Zm k)), n ≤ b → Dg a (n + 1) → a.co n ≠ 0 → n < M.m → ∃ (j : Nat) (s : Ps (Zm k)), Dg s j ∧ Cg M (a * s) 1 := by
  letI : Fd (Zm k) := zmFd hp
  intro b
  induction b with
  | zero =>
    intro n a hn ha h0 _
    have : n = 0 := by omega
    subst this
    refine ⟨1, Alg.mono (Fd.inv (a.co 0)) 0, Dg.monom _ _, ?_⟩
    have : a = Alg.mono (a.co 0) 0 := Ps.ext' fun i => by
      rw [co_mono]
      by_cases e : i = 0
      · rw [if_pos e, e]
      · rw [if_neg e, ha i (by omega)]
    have e2 : a * Alg.mono (Fd.inv (a.co 0)) 0 = 1 := by
      rw [mul_comm]; apply Ps.ext'; intro i
      rw [co_mono_mul, if_pos (by omega), show i - 0 = i from rfl, co_one]
      by_cases e : i = 0
      · rw [if_pos e, e]; exact inv_mul h0
      · rw [if_neg e, ha i (by omega), mul_zero]
    rw [e2]; exact Cg.refl _
  | succ b ih =>
    intro n a hn ha h0 hnm
    rcases Nat.eq_zero_or_pos n with hz | hpos
    · exact ih n a (by omega) ha h0 hnm
    obtain ⟨q, r, e, hr, hq⟩ := divides_ex a n (Fd.inv (a.co n)) ha (mul_inv h0) (M.m + 1) M.f M.dg
    have hr0 : r ≠ 0 := by
      intro er
      rw [er, add_zero] at e
      have hq' : Dg q ((M.m - n) + 1) := hq.mono (by omega)
      have htop : q.co (M.m - n) * a.co n = 1 := by
        have := co_mul_top hq' ha
        rw [← e, show M.m - n + n = M.m from by omega, M.top] at this
        exact this.symm
      by_cases h2 : 2 * n ≤ M.m
      · refine hi n (Alg.mono (Fd.inv (a.co n)) 0 * a) (Alg.mono (a.co n) 0 * q) hpos h2 (Dg.smul _ ha) ?_ (Dg.smul _ hq) ?_
        · rw [co_mono_mul, if_pos (by omega), show n - 0 = n from rfl]; exact inv_mul h0
        · rw [mul_assoc, mul_left_comm q, ← mul_assoc, mono_mul_mono, mul_inv h0, mono_one, one_mul]; exact e
      · have hq0 : q.co (M.m - n) ≠ 0 := fun e0 => by rw [e0, zero_mul] at htop; exact one_ne_zero htop.symm
        refine hi (M.m - n) (Alg.mono (a.co n) 0 * q) (Alg.mono (Fd.inv (a.co n)) 0 * a) (by omega) (by omega) (Dg.smul _ hq') ?_ ((Dg.smul _ ha).mono (by omega)) ?_
        · rw [co_mono_mul, if_pos (by omega), show M.m - n - 0 = M.m - n from rfl, mul_comm]; exact htop
        · rw [mul_assoc, mul_left_comm a, ← mul_assoc, mono_mul_mono, inv_mul h0, mono_one, one_mul, mul_comm]; exact e
    obtain ⟨j, hj, hrj, hrj0⟩ := exact_dg n r hr hr0
    obtain ⟨i, s, hs, hc⟩ := ih j r (by omega) hrj hrj0 (by omega)
    have hqs : Dg (q * s) (M.m + 1 - n + i) := Dg.mul' hq hs (by omega)
    refine ⟨_, -(q * s), hqs.neg, ?_⟩
    -- r s = 1 and f s = 0, so a (-(q s)) = r s - f s = 1
    have e1 : a * -(q * s) = (-s) * M.f + r * s := by
      rw [e, mul_neg, neg_mul, mul_add, neg_add_distrib, add_assoc, mul_comm s r, neg_add, add_zero, mul_left_comm a, mul_left_comm s q a, mul_comm s a]
    refine Cg.trans ⟨_, -s, hs.neg, e1⟩ hc

/-- residues modulo an irreducible polynomial have inverses -/
theorem El.inv_ex (hp : Prm (k + 2)) (hi : Irr M) (a : El M) (h : a ≠ 0) : ∃ b : El M, a * b = 1 := by
  have h0 : a.p ≠ 0 := fun e => h (El.ext' e)
  obtain ⟨n, hn, hd, h1⟩ := exact_dg M.m a.p a.dg h0
  obtain ⟨j, s, hs, hc⟩ := inv_poly hp hi n n a.p (Nat.le_refl _) hd h1 hn
  obtain ⟨r, hr, hrd⟩ := rem_ex (M := M) s hs
  refine ⟨⟨r, hrd⟩, El.mul_eq ?_⟩
  exact (hr.mul_left a.p a.dg).symm.trans hc
open Classical in
/-- the field of the residues modulo an irreducible polynomial -/
@[reducible] noncomputable def elFd (hp : Prm (k + 2)) (hi : Irr M) : Fd (El M) where
  toCR := instCREl
  inv a := if h : a ≠ 0 then Classical.choose (El.inv_ex hp hi a h) else 0
  mul_inv' a h := by rw [dif_pos h]; exact Classical.choose_spec (El.inv_ex hp hi a h)
  one_ne_zero' := fun e => by
    have h1 := congrArg (fun a : El M => (a.p.co 0).v) e
    simp only [El.one_p, El.zero_p] at h1
    rw [co_one, if_pos rfl, co_zero, Zm.one_v, Zm.zero_v] at h1
    omega
/-- if all residues other than 0 have inverses, the polynomial is irreducible -/
theorem irr_of_inv (h : ∀ a : El M, a ≠ 0 → ∃ b : El M, a * b = 1) : Irr M := by
  intro d a q h1 h2 ha htop hq e
  have hz : ∀ c : Zm k, c = 1 → c ≠ 0 := fun c hc e0 => by
    have := congrArg Zm.v (hc.symm.trans e0); rw [Zm.one_v, Zm.zero_v] at this; omega
  let A : El M := ⟨a, ha.mono (by omega)⟩
  let Q : El M := ⟨q, hq.mono (by omega)⟩
  have hA : A ≠ 0 := fun e0 => by
    have : a.co d = 0 := by have := congrArg (fun x : El M => x.p.co d) e0; exact this
    exact hz _ htop this
  have hAQ : A * Q = 0 := El.mul_eq ⟨1, 1, Dg.one, by
    show a * q = 1 * M.f + 0
    rw [one_mul, add_zero, e, mul_comm]⟩
  obtain ⟨b, hb⟩ := h A hA
  have hQ : Q = 0 := by
    rw [← one_mul Q, ← hb, mul_comm A b, mul_assoc, hAQ, mul_zero]
  have hq0 : q = 0 := congrArg El.p hQ
  rw [hq0, zero_mul] at e
  have := M.top
  rw [e, co_zero] at this
  exact hz _ rfl this.symm
end
end Go.Proofs.Ytdpibcniodhinaa.Alg
/- Numbers as residues: digits are coefficients. -/
namespace Go.Proofs.Ytdpibcniodhinaa.Gh
open Go Go.RowKit
open Alg (CR Fd Ps Dg Zm Mn El Cg sm pw)
set_option linter.unusedVariables false
set_option linter.unusedSimpArgs false

theorem dg_zero (p x : Int) : dg p x 0 = x % p := by rw [dg, Int.pow_zero, Int.ediv_one]
theorem dg_succ {p x : Int} (hp : 2 ≤ p) (j : Nat) : dg p x (j + 1) = dg p (x / p) j := by
  rw [dg, dg, Int.ediv_ediv_of_nonneg (by omega), Int.pow_succ, Int.mul_comm]
theorem dg_vs {p : Int} (hp : 2 ≤ p) : ∀ (m : Nat) {f : Nat → Int}, (∀ j, j < m → 0 ≤ f j ∧ f j < p) → ∀ i, i < m → dg p (vs p m f) i = f i := by
  intro m
  induction m with
  | zero => intro f _ i hi; omega
  | succ m ih =>
    intro f h i hi
    have h0 := h 0 (by omega)
    cases i with
    | zero => rw [dg_zero, vs, Int.add_mul_emod_self_left]; exact Int.emod_eq_of_lt h0.1 h0.2
    | succ i =>
      rw [dg_succ hp, vs, Int.add_mul_ediv_left _ _ (by omega), Int.ediv_eq_zero_of_lt h0.1 h0.2, Int.zero_add]
      exact ih (fun j hj => h (j + 1) (by omega)) i (by omega)
theorem vs_dg {p : Int} (hp : 2 ≤ p) : ∀ (m : Nat) {x : Int}, 0 ≤ x → x < p ^ m → vs p m (dg p x) = x := by
  intro m
  induction m with
  | zero => intro x h1 h2; rw [Int.pow_zero] at h2; rw [vs]; omega
  | succ m ih =>
    intro x h1 h2
    rw [vs, vs_congr p m fun j _ => dg_succ hp j, ih (Int.ediv_nonneg h1 (by omega)) (Int.ediv_lt_of_lt_mul (by omega) (by rwa [Int.pow_succ] at h2)), dg_zero]
    exact Int.emod_add_mul_ediv x p
section
variable {k : Nat} {M : Mn k}
def el (M : Mn k) (x : Int) : El M := ⟨⟨fun i => if i < M.m then Zm.of (dg (k + 2) x i) else 0⟩, fun i hi => by show (if i < M.m then _ else (0 : Zm k)) = 0; rw [if_neg (by omega)]⟩
def cd (a : El M) : Int := vs (k + 2) M.m fun i => (a.p.co i).v
theorem el_co {x : Int} {i : Nat} (h : i < M.m) : (el M x).p.co i = Zm.of (dg (k + 2) x i) := if_pos h
theorem hp2 (k : Nat) : (2 : Int) ≤ k + 2 := by omega
theorem cd_dg (a : El M) {i : Nat} (h : i < M.m) : dg (k + 2) (cd a) i = (a.p.co i).v := dg_vs (hp2 k) M.m (fun j _ => ⟨(a.p.co j).lo, (a.p.co j).hi⟩) i h
theorem cd_nn (a : El M) : 0 ≤ cd a ∧ cd a < ((k : Int) + 2) ^ M.m := vs_nn (hp2 k) M.m fun j _ => ⟨(a.p.co j).lo, (a.p.co j).hi⟩
theorem el_cd (a : El M) : el M (cd a) = a := by
  apply El.ext'
  apply Ps.ext'
  intro i
  by_cases h : i < M.m
  · rw [el_co h, cd_dg a h, Zm.of_self]
  · show (if i < M.m then _ else (0 : Zm k)) = _
    rw [if_neg h, a.dg i (by omega)]
theorem of_v_small {x : Int} (h0 : 0 ≤ x) (h1 : x < k + 2) : (Zm.of (k := k) x).v = x := Int.emod_eq_of_lt h0 h1
theorem cd_el {x : Int} (h0 : 0 ≤ x) (h1 : x < ((k : Int) + 2) ^ M.m) : cd (el M x) = x := by
  rw [cd, vs_congr _ M.m (g := dg (k + 2) x) fun j hj => by rw [el_co hj, of_v_small (dg_lo (hp2 k) j) (dg_hi (hp2 k) j)]]
  exact vs_dg (hp2 k) M.m h0 h1
theorem cd_inj {a b : El M} (h : cd a = cd b) : a = b := by rw [← el_cd a, h, el_cd]
theorem vs_zero (p : Int) : ∀ m, vs p m (fun _ => 0) = 0 := by
  intro m
  induction m with
  | zero => rfl
  | succ m ih => rw [vs, ih, Int.mul_zero]; rfl
theorem cd_zero : cd (0 : El M) = 0 := vs_zero _ _
theorem cd_one : cd (1 : El M) = 1 := by
  obtain ⟨m, hm⟩ : ∃ m, M.m = m + 1 := ⟨M.m - 1, by have := M.pos; omega⟩
  rw [cd, hm, vs, vs_congr _ m (g := fun _ => 0) fun j _ => ?_, vs_zero, Int.mul_zero]
  · show (Zm.v (if 0 = 0 then (1 : Zm k) else 0)) + 0 = 1
    rw [if_pos rfl, Zm.one_v]; rfl
  · show (Zm.v (if j + 1 = 0 then (1 : Zm k) else 0)) = 0
    rw [if_neg (by omega)]; rfl
theorem el_zero : el M 0 = 0 := by rw [← cd_zero (M := M), el_cd]
theorem cd_add (a b : El M) : cd (a + b) = vs (k + 2) M.m fun i => (dg (k + 2) (cd a) i + dg (k + 2) (cd b) i) % (k + 2) :=
  vs_congr _ _ fun j hj => by rw [cd_dg a hj, cd_dg b hj]; rfl
end
end Go.Proofs.Ytdpibcniodhinaa.Gh
/- The reference's sums. -/
namespace Go.Proofs.Ytdpibcniodhinaa.Gh
open Go Go.RowKit
open Alg (CR Fd Ps Dg Zm Mn El Cg sm pw)
set_option linter.unusedVariables false
set_option linter.unusedSimpArgs false

section
variable {k : Nat} {M : Mn k}
/-- the order -/
def qq (M : Mn k) : Int := ((k : Int) + 2) ^ M.m
/-- a description within the bounds -/
structure Fc (M : Mn k) : Prop where
  q : qq M ≤ 256
  m8 : M.m ≤ 8
  one : M.m = 1 → M.f.co 0 = 0
def fmod (M : Mn k) : GV := isl (if M.m = 1 then 0 else M.m) fun i => (M.f.co i).v
def fd (M : Mn k) : GV := fgv ((k : Int) + 2) (M.m : Nat) (fmod M)
theorem fmod_cell : isCell (fmod M) = true := rfl
theorem Fc.p256 (h : Fc M) : (k : Int) + 2 ≤ 256 := by
  have h1 := pow_mono (p := (k : Int) + 2) (by omega) (i := 1) (j := M.m) M.pos
  rw [Int.pow_succ, Int.pow_zero, Int.one_mul] at h1
  exact Int.le_trans h1 h.q
theorem Fc.qo (h : Fc M) : qo ((k : Int) + 2) (M.m : Nat) = qq M := by
  have := h.p256; have := h.m8; have := M.pos; have := h.q
  rw [Gh.qo, if_pos ⟨by omega, by omega, by omega, by omega, by rw [Int.toNat_natCast]; exact h.q⟩, Int.toNat_natCast]; rfl
theorem Fc.q2 (h : Fc M) : 2 ≤ qq M := by
  have h1 := pow_mono (p := (k : Int) + 2) (by omega) (i := 1) (j := M.m) M.pos
  rw [Int.pow_succ, Int.pow_zero, Int.one_mul] at h1
  have : qq M = ((k : Int) + 2) ^ M.m := rfl
  omega
def ein (M : Mn k) (x : Int) : El M := el M (inq (qq M) x)
theorem Fc.cd_ein (h : Fc M) (x : Int) : cd (ein M x) = inq (qq M) x := cd_el (inq_lo _ _) (inq_hi (by have := h.q2; omega) x)

theorem sp_ref04_Digits' {H : Heap} {n : Nat} (h : Fc M) (x : Int) : Spec prog fid_ref04_Digits [fd M, .int .i64 x] H n (.own n 0 M.m) (upd H n (some (tab M.m (it (dg ((k : Int) + 2) (cd (ein M x))))))) (n + 1) := by
  rw [h.cd_ein, ← h.qo]
  exact sp_ref04_Digits _ M.m _ fmod_cell x (by omega) h.m8
theorem sp_ref04_Value' {H : Heap} {n : Nat} (h : Fc M) (b m' : Nat) (f : Nat → Int) (hb : b < n) (hH : H b = some (tab m' (it f))) (hm : M.m ≤ m') (hf : ∀ j, j < M.m → 0 ≤ f j ∧ f j < (k : Int) + 2) :
    Spec prog fid_ref04_Value [fd M, .own b 0 M.m] H n (.int .i64 (vs ((k : Int) + 2) M.m f)) H n :=
  sp_ref04_Value _ _ _ fmod_cell b M.m m' f hb hH hm (by omega) (by have := h.q; show qq M ≤ 1000000; omega) (by have := h.m8; omega) hf

/-- the first i entries of one row, the others of another -/
def mix (g f : Nat → Int) (i : Nat) : Nat → Int := fun j => if j < i then g j else f j
theorem mix_step (g f : Nat → Int) (i : Nat) : upf (mix g f i) i (g i) = mix g f (i + 1) := by
  funext j
  simp only [upf, mix]
  by_cases h : j = i
  · subst h; rw [if_pos rfl, if_pos (by omega)]
  · rw [if_neg h]
    by_cases h2 : j < i
    · rw [if_pos h2, if_pos (by omega)]
    · rw [if_neg h2, if_neg (by omega)]
theorem mix_at (g f : Nat → Int) (i : Nat) : mix g f i i = f i := if_neg (by omega)
theorem mix_zero (g f : Nat → Int) : mix g f 0 = f := by funext j; exact if_neg (by omega)
theorem mix_lt (g f : Nat → Int) {i j : Nat} (h : j < i) : mix g f i j = g j := if_pos h

theorem sp_ref04_Add {H : Heap} {n : Nat} (h : Fc M) (x y : Int) : Spec prog fid_ref04_Add [fd M, .int .i64 x, .int .i64 y] H n (.int .i64 (cd (ein M x + ein M y))) H n := by
  refine spec_ends hmix ok_ref04_Add rfl fun hF => ?_
  show gw prog B_ref04_Add _ (tl 40 _) H n
  have hp := h.p256
  have hm8 := h.m8
  simp -implicitDefEqProofs only [B_ref04_Add, fd, go_sem, Nat.reduceLT, Nat.reduceBEq, Nat.reduceAdd, Nat.reduceEqDiff, Nat.reduceLeDiff, Nat.reduceSub, Nat.reduceMul]
  refine call_of (sp_ref04_Digits' h x) ?_
  simp -implicitDefEqProofs only [go_sem, Nat.reduceLT, Nat.reduceBEq, Nat.reduceAdd, Nat.reduceEqDiff, Nat.reduceLeDiff, Nat.reduceSub, Nat.reduceMul]
  refine call_of (sp_ref04_Digits' h y) ?_
  simp -implicitDefEqProofs only [go_sem, Nat.reduceLT, Nat.reduceBEq, Nat.reduceAdd, Nat.reduceEqDiff, Nat.reduceLeDiff, Nat.reduceSub, Nat.reduceMul]
  rw [cd_add]
  generalize cd (ein M x) = a
  generalize cd (ein M y) = b
  refine loop_rule (fun (i : Nat) E H' n' => n' = n + 3 ∧ H' n = some [.int .i64 ((k : Int) + 2), .int .i64 (M.m : Nat), fmod M] ∧ H' (n + 1) = some (tab M.m (it (mix (fun j => (dg ((k : Int) + 2) a j + dg ((k : Int) + 2) b j) % ((k : Int) + 2)) (dg ((k : Int) + 2) a) i))) ∧ H' (n + 2) = some (tab M.m (it (dg ((k : Int) + 2) b))) ∧ (∀ b, b < n → H' b = H b) ∧ E 3 = .ptr n 0 ∧ E 7 = .own (n + 1) 0 M.m ∧ E 8 = .own (n + 2) 0 M.m ∧ E 9 = .int .i64 i ∧ i ≤ M.m) (fun i => M.m - i) 0
    ⟨rfl, by simp -implicitDefEqProofs only [go_sem, Nat.reduceLT, Nat.reduceBEq, Nat.reduceAdd, Nat.reduceEqDiff, Nat.reduceLeDiff, Nat.reduceSub, Nat.reduceMul, fd], by simp -implicitDefEqProofs only [go_sem, Nat.reduceLT, Nat.reduceBEq, Nat.reduceAdd, Nat.reduceEqDiff, Nat.reduceLeDiff, Nat.reduceSub, Nat.reduceMul, mix_zero], by simp -implicitDefEqProofs only [go_sem, Nat.reduceLT, Nat.reduceBEq, Nat.reduceAdd, Nat.reduceEqDiff, Nat.reduceLeDiff, Nat.reduceSub, Nat.reduceMul], fun c hc => by rw [upd_ne _ _ (by omega), upd_ne _ _ (by omega), upd_ne _ _ (by omega)], rfl, rfl, rfl, rfl, by omega⟩ ?_
  rintro i E H' n' ⟨rfl, h0, h1, h2, ho, e3, e7, e8, e9, hi⟩
  have ha1 := dg_lo (p := (k : Int) + 2) (x := a) (by omega) i
  have ha2 := dg_hi (p := (k : Int) + 2) (x := a) (by omega) i
  have hb1 := dg_lo (p := (k : Int) + 2) (x := b) (by omega) i
  have hb2 := dg_hi (p := (k : Int) + 2) (x := b) (by omega) i
  simp -implicitDefEqProofs only [go_sem, Nat.reduceLT, Nat.reduceBEq, Nat.reduceAdd, Nat.reduceEqDiff, Nat.reduceLeDiff, Nat.reduceSub, Nat.reduceMul, e7, e9]
  refine c_split (fun hc => ?_) (fun hc => ?_)
  · have hiN : i < M.m := by omega
    have hw := wrap64 (x := dg ((k : Int) + 2) a i + dg ((k : Int) + 2) b i) (by omega)
    have hw2 := wrap64 (x := (i : Int) + 1) (by omega)
    have hne : ((k : Int) + 2 = 0) = False := by simp; omega
    have ht := tmod_nn (a := dg ((k : Int) + 2) a i + dg ((k : Int) + 2) b i) (b := (k : Int) + 2) (by omega)
    simp -implicitDefEqProofs only [go_sem, Nat.reduceLT, Nat.reduceBEq, Nat.reduceAdd, Nat.reduceEqDiff, Nat.reduceLeDiff, Nat.reduceSub, Nat.reduceMul, e3, e7, e8, e9, h0, h1, h2, hc, hiN, gat_tab, mix_at, hw, hw2, hne, ht]
    repeat with_reducible refine And.intro (by omega) ?_
    refine l_n ⟨i + 1, by omega, rfl, ?_⟩
    simp -implicitDefEqProofs only [go_sem, Nat.reduceLT, Nat.reduceBEq, Nat.reduceAdd, Nat.reduceEqDiff, Nat.reduceLeDiff, Nat.reduceSub, Nat.reduceMul, e3, e7, e8, h0, h1, h2]
    refine ⟨?_, fun c hc => by rw [upd_ne _ _ (by omega)]; exact ho c hc, rfl, by omega⟩
    exact congrArg some (congrArg (tab M.m) (congrArg it (mix_step (fun j => (dg ((k : Int) + 2) a j + dg ((k : Int) + 2) b j) % ((k : Int) + 2)) _ i)))
  · have : i = M.m := by omega
    subst this
    simp -implicitDefEqProofs only [go_sem, Nat.reduceLT, Nat.reduceBEq, Nat.reduceAdd, Nat.reduceEqDiff, Nat.reduceLeDiff, Nat.reduceSub, Nat.reduceMul, e3, e7, h0]
    refine call_of (sp_ref04_Value' h (n + 1) M.m _ (by omega) h1 (Nat.le_refl _) fun j hj => ?_) ?_
    · rw [mix_lt _ _ hj]
      exact ⟨Int.emod_nonneg _ (by omega), Int.emod_lt_of_pos _ (by omega)⟩
    · simp -implicitDefEqProofs only [go_sem, Nat.reduceLT, Nat.reduceBEq, Nat.reduceAdd, Nat.reduceEqDiff, Nat.reduceLeDiff, Nat.reduceSub, Nat.reduceMul]
      refine fin_ret rfl (by decide) (fz_int ?_) ho
      exact vs_congr _ _ fun j hj => mix_lt _ _ hj
end
end Go.Proofs.Ytdpibcniodhinaa.Gh
/- Products of residues by rows of coefficients: the plain laws. -/
namespace Go.Proofs.Ytdpibcniodhinaa.Gh
open Go Go.RowKit
open Alg (CR Fd Ps Dg Zm Mn El Cg sm pw sm_succ sm_congr sm_zero sm_ext sm_single sm_const_zero)
set_option linter.unusedVariables false
set_option linter.unusedSimpArgs false

section
variable {k : Nat} {M : Mn k}
/-- the sum of the products so far -/
def mS (m : Nat) (A B : Nat → Zm k) (i j t : Nat) : Zm k := sm i (fun i' => sm m fun j' => if i' + j' = t then A i' * B j' else 0) + sm j fun j' => if i + j' = t then A i * B j' else 0
theorem mS_zero (m : Nat) (A B : Nat → Zm k) (t : Nat) : mS m A B 0 0 t = 0 := Alg.add_zero _
theorem mS_step (m : Nat) (A B : Nat → Zm k) (i j t : Nat) : mS m A B i (j + 1) t = mS m A B i j t + if i + j = t then A i * B j else 0 := by
  simp only [mS, sm_succ, Alg.add_assoc]
theorem mS_row (m : Nat) (A B : Nat → Zm k) (i t : Nat) : mS m A B (i + 1) 0 t = mS m A B i m t := by
  simp only [mS, sm_succ, sm_zero, Alg.add_zero]
theorem mS_all {m : Nat} {A B : Ps (Zm k)} (hA : Dg A m) (hB : Dg B m) (t : Nat) : mS m A.co B.co m 0 t = (A * B).co t := by
  rw [Alg.co_mul]
  simp only [mS, sm_zero, Alg.add_zero]
  have inner : ∀ i', (sm m fun j' => if i' + j' = t then A.co i' * B.co j' else 0) = if i' ≤ t then A.co i' * B.co (t - i') else 0 := by
    intro i'
    by_cases h : i' ≤ t
    · rw [if_pos h]
      by_cases h2 : t - i' < m
      · rw [sm_single h2 fun j hj hne => if_neg (by omega), if_pos (by omega)]
      · rw [hB (t - i') (by omega), Alg.mul_zero]
        exact sm_const_zero fun j hj => if_neg (by omega)
    · rw [if_neg h]
      exact sm_const_zero fun j hj => if_neg (by omega)
  rw [sm_congr fun i' _ => inner i']
  have e1 : (sm (t + 1) fun i => A.co i * B.co (t - i)) = sm (t + 1) fun i => if i ≤ t then A.co i * B.co (t - i) else 0 := sm_congr fun i hi => by rw [if_pos (by omega)]
  rw [e1]
  rcases Nat.le_total m (t + 1) with h | h
  · refine (sm_ext h fun i h1 h2 => ?_).symm
    rw [if_pos (by omega), hA i h1, Alg.zero_mul]
  · exact sm_ext h fun i h1 h2 => if_neg (by omega)

/-- the coefficients below n -/
def trc (c : Nat → Int) (n : Nat) : Ps (Zm k) := ⟨fun t => if t < n then Zm.of (c t) else 0⟩
theorem trc_dg (c : Nat → Int) (n : Nat) : Dg (trc (k := k) c n) n := fun t ht => if_neg (by omega)
/-- one step of the reduction, up to its j-th coefficient -/
def rdc (M : Mn k) (c : Nat → Int) (i j : Nat) : Nat → Int := fun t => if i - M.m ≤ t ∧ t < i - M.m + j then (c t + ((k : Int) + 2 - c i) * (M.f.co (t - (i - M.m))).v) % ((k : Int) + 2) else c t
theorem rdc_zero (c : Nat → Int) (i : Nat) : rdc M c i 0 = c := by funext t; exact if_neg (by omega)
theorem rdc_step (c : Nat → Int) {i j : Nat} (hi : M.m ≤ i) (hj : j < M.m) : upf (rdc M c i j) (i - M.m + j) ((rdc M c i j (i - M.m + j) + ((k : Int) + 2 - rdc M c i j i) * (M.f.co j).v) % ((k : Int) + 2)) = rdc M c i (j + 1) := by
  have h1 : rdc M c i j i = c i := if_neg (by omega)
  have h2 : rdc M c i j (i - M.m + j) = c (i - M.m + j) := if_neg (by omega)
  rw [h1, h2]
  funext t
  simp only [upf, rdc]
  by_cases e : t = i - M.m + j
  · subst e; rw [if_pos rfl, if_pos (by omega), show i - M.m + j - (i - M.m) = j by omega]
  · rw [if_neg e]
    by_cases h3 : i - M.m ≤ t ∧ t < i - M.m + j
    · rw [if_pos h3, if_pos (by omega)]
    · rw [if_neg h3, if_neg (by omega)]
theorem rdc_cg (c : Nat → Int) {i : Nat} (hi : M.m ≤ i) : Cg M (trc c (i + 1)) (trc (rdc M c i M.m) i) := by
  refine ⟨i - M.m + 1, Alg.mono (Zm.of (c i)) (i - M.m), Dg.monom _ _, ?_⟩
  apply Ps.ext'
  intro t
  rw [Alg.co_add, Alg.co_mono_mul]
  show (if t < i + 1 then Zm.of (c t) else 0) = (if i - M.m ≤ t then Zm.of (c i) * M.f.co (t - (i - M.m)) else 0) + if t < i then Zm.of (rdc M c i M.m t) else 0
  by_cases h1 : t < i
  · rw [if_pos (by omega), if_pos h1]
    by_cases h2 : i - M.m ≤ t
    · rw [if_pos h2]
      have : rdc M c i M.m t = (c t + ((k : Int) + 2 - c i) * (M.f.co (t - (i - M.m))).v) % ((k : Int) + 2) := if_pos (by omega)
      rw [this]
      have e1 : Zm.of (k := k) ((c t + ((k : Int) + 2 - c i) * (M.f.co (t - (i - M.m))).v) % ((k : Int) + 2)) = Zm.of (c t + ((k : Int) + 2 - c i) * (M.f.co (t - (i - M.m))).v) := Zm.of_eq (Int.emod_emod_of_dvd _ (Int.dvd_refl _))
      rw [e1, Zm.of_add, Zm.of_mul, Zm.of_self, Int.sub_eq_add_neg, Zm.of_add, Zm.of_p, Alg.zero_add, Zm.of_neg, Alg.neg_mul, Alg.add_left_comm, Alg.add_neg, Alg.add_zero]
    · rw [if_neg h2, Alg.zero_add]
      have : rdc M c i M.m t = c t := if_neg (by omega)
      rw [this]
  · rw [if_neg h1, Alg.add_zero]
    by_cases h2 : t = i
    · subst h2
      rw [if_pos (by omega), if_pos (by omega), show t - (t - M.m) = M.m by omega, M.top, Alg.mul_one]
    · rw [if_neg (by omega)]
      by_cases h3 : i - M.m ≤ t
      · rw [if_pos h3, M.dg (t - (i - M.m)) (by omega), Alg.mul_zero]
      · rw [if_neg h3]
/-- what the product is, from the coefficients that are left -/
theorem cd_mul_of {a b : El M} {c : Nat → Int} (hc : ∀ t, t < M.m → 0 ≤ c t ∧ c t < (k : Int) + 2) (h : Cg M (a.p * b.p) (trc c M.m)) : vs ((k : Int) + 2) M.m c = cd (a * b) := by
  have e : a * b = ⟨trc c M.m, trc_dg c M.m⟩ := El.mul_eq h
  rw [e]
  refine vs_congr _ _ fun j hj => ?_
  show c j = (if j < M.m then Zm.of (c j) else (0 : Zm k)).v
  rw [if_pos hj, of_v_small (hc j hj).1 (hc j hj).2]
end
end Go.Proofs.Ytdpibcniodhinaa.Gh
/- The reference's product. -/
namespace Go.Proofs.Ytdpibcniodhinaa.Gh
open Go Go.RowKit
open Alg (CR Fd Ps Dg Zm Mn El Cg sm pw)
set_option linter.unusedVariables false
set_option linter.unusedSimpArgs false

section
variable {k : Nat} {M : Mn k}
def mulR (M : Mn k) (n : Nat) (H : Heap) (a b : Int) (c : Nat → Int) (E : Env) (H' : Heap) (n' : Nat) : Prop :=
  n' = n + 4 ∧ H' n = some [.int .i64 ((k : Int) + 2), .int .i64 (M.m : Nat), fmod M] ∧ H' (n + 1) = some (tab M.m (it (dg ((k : Int) + 2) a))) ∧ H' (n + 2) = some (tab M.m (it (dg ((k : Int) + 2) b))) ∧
  H' (n + 3) = some (tab (2 * M.m - 1) (it c)) ∧ (∀ b, b < n → H' b = H b) ∧ E 3 = .ptr n 0 ∧ E 7 = .own (n + 1) 0 M.m ∧ E 8 = .own (n + 2) 0 M.m ∧ E 9 = .own (n + 3) 0 (2 * M.m - 1) ∧ ∀ t, t < 2 * M.m - 1 → 0 ≤ c t ∧ c t < (k : Int) + 2

theorem upf_range {p : Int} {N : Nat} {c : Nat → Int} (h : ∀ t, t < N → 0 ≤ c t ∧ c t < p) {i : Nat} {x : Int} (h0 : 0 ≤ x) (h1 : x < p) : ∀ t, t < N → 0 ≤ upf c i x t ∧ upf c i x t < p := by
  intro t ht
  by_cases e : t = i
  · subst e; rw [upf_same]; exact ⟨h0, h1⟩
  · rw [upf_ne _ _ e]; exact h t ht

theorem sp_ref04_Mul {H : Heap} {n : Nat} (h : Fc M) (x y : Int) : Spec prog fid_ref04_Mul [fd M, .int .i64 x, .int .i64 y] H n (.int .i64 (cd (ein M x * ein M y))) H n := by
  refine spec_ends hmix ok_ref04_Mul rfl fun hF => ?_
  show gw prog B_ref04_Mul _ (tl 117 _) H n
  have hp := h.p256
  have hm8 := h.m8
  have hm0 := M.pos
  have hw1 := wrap64 (x := 2 * (M.m : Int)) (by omega)
  have hw2 : IntKind.i64.wrap (2 * (M.m : Int) - 1) = ((2 * M.m - 1 : Nat) : Int) := (wrap64 (by omega)).trans (by omega)
  have hne : ((k : Int) + 2 = 0) = False := by simp; omega
  simp -implicitDefEqProofs only [B_ref04_Mul, fd, go_sem, Nat.reduceLT, Nat.reduceBEq, Nat.reduceAdd, Nat.reduceEqDiff, Nat.reduceLeDiff, Nat.reduceSub, Nat.reduceMul]
  refine call_of (sp_ref04_Digits' h x) ?_
  simp -implicitDefEqProofs only [go_sem, Nat.reduceLT, Nat.reduceBEq, Nat.reduceAdd, Nat.reduceEqDiff, Nat.reduceLeDiff, Nat.reduceSub, Nat.reduceMul]
  refine call_of (sp_ref04_Digits' h y) ?_
  simp -implicitDefEqProofs only [go_sem, Nat.reduceLT, Nat.reduceBEq, Nat.reduceAdd, Nat.reduceEqDiff, Nat.reduceLeDiff, Nat.reduceSub, Nat.reduceMul, hw1, hw2]
  generalize ein M x = a'
  generalize ein M y = b'
  have hA : ∀ i, i < M.m → Zm.of (dg ((k : Int) + 2) (cd a') i) = a'.p.co i := fun i hi => by rw [cd_dg a' hi, Zm.of_self]
  have hB : ∀ i, i < M.m → Zm.of (dg ((k : Int) + 2) (cd b') i) = b'.p.co i := fun i hi => by rw [cd_dg b' hi, Zm.of_self]
  repeat with_reducible refine And.intro (by omega) ?_
  refine loop_rule (fun (i : Nat) E H' n' => ∃ c, mulR M n H (cd a') (cd b') c E H' n' ∧ (∀ t, t < 2 * M.m - 1 → Zm.of (c t) = mS M.m a'.p.co b'.p.co i 0 t) ∧ E 10 = .int .i64 i ∧ i ≤ M.m) (fun i => M.m - i) 0 ?_ ?_
  · refine ⟨fun _ => 0, ⟨rfl, ?_, ?_, ?_, ?_, fun c hc => by rw [upd_ne _ _ (by omega), upd_ne _ _ (by omega), upd_ne _ _ (by omega), upd_ne _ _ (by omega)], rfl, rfl, rfl, rfl, fun t ht => ⟨Int.le_refl 0, by show (0 : Int) < (k : Int) + 2; omega⟩⟩, fun t ht => by rw [mS_zero]; rfl, rfl, by omega⟩
    · simp -implicitDefEqProofs only [go_sem, Nat.reduceLT, Nat.reduceBEq, Nat.reduceAdd, Nat.reduceEqDiff, Nat.reduceLeDiff, Nat.reduceSub, Nat.reduceMul]
    · simp -implicitDefEqProofs only [go_sem, Nat.reduceLT, Nat.reduceBEq, Nat.reduceAdd, Nat.reduceEqDiff, Nat.reduceLeDiff, Nat.reduceSub, Nat.reduceMul]
    · simp -implicitDefEqProofs only [go_sem, Nat.reduceLT, Nat.reduceBEq, Nat.reduceAdd, Nat.reduceEqDiff, Nat.reduceLeDiff, Nat.reduceSub, Nat.reduceMul]
    · simp -implicitDefEqProofs only [go_sem, Nat.reduceLT, Nat.reduceBEq, Nat.reduceAdd, Nat.reduceEqDiff, Nat.reduceLeDiff, Nat.reduceSub, Nat.reduceMul, tab_rep]; rfl
  rintro i E H' n' ⟨c, ⟨rfl, h0, h1, h2, h3, ho, e3, e7, e8, e9, hc⟩, hS, e10, hi⟩
  simp -implicitDefEqProofs only [go_sem, Nat.reduceLT, Nat.reduceBEq, Nat.reduceAdd, Nat.reduceEqDiff, Nat.reduceLeDiff, Nat.reduceSub, Nat.reduceMul, e3, e10, h0]
  refine c_split (fun hlt => ?_) (fun hlt => ?_)
  · simp -implicitDefEqProofs only [go_sem, Nat.reduceLT, Nat.reduceBEq, Nat.reduceAdd, Nat.reduceEqDiff, Nat.reduceLeDiff, Nat.reduceSub, Nat.reduceMul]
    refine loop_rule (fun (j : Nat) E H' n' => ∃ c, mulR M n H (cd a') (cd b') c E H' n' ∧ (∀ t, t < 2 * M.m - 1 → Zm.of (c t) = mS M.m a'.p.co b'.p.co i j t) ∧ E 10 = .int .i64 i ∧ E 11 = .int .i64 j ∧ j ≤ M.m) (fun j => M.m - j) 0
      ⟨c, ⟨rfl, h0, h1, h2, h3, ho, by simp -implicitDefEqProofs only [go_sem, Nat.reduceLT, Nat.reduceBEq, Nat.reduceAdd, Nat.reduceEqDiff, Nat.reduceLeDiff, Nat.reduceSub, Nat.reduceMul, e3], by simp -implicitDefEqProofs only [go_sem, Nat.reduceLT, Nat.reduceBEq, Nat.reduceAdd, Nat.reduceEqDiff, Nat.reduceLeDiff, Nat.reduceSub, Nat.reduceMul, e7], by simp -implicitDefEqProofs only [go_sem, Nat.reduceLT, Nat.reduceBEq, Nat.reduceAdd, Nat.reduceEqDiff, Nat.reduceLeDiff, Nat.reduceSub, Nat.reduceMul, e8], by simp -implicitDefEqProofs only [go_sem, Nat.reduceLT, Nat.reduceBEq, Nat.reduceAdd, Nat.reduceEqDiff, Nat.reduceLeDiff, Nat.reduceSub, Nat.reduceMul, e9], hc⟩, hS, by simp -implicitDefEqProofs only [go_sem, Nat.reduceLT, Nat.reduceBEq, Nat.reduceAdd, Nat.reduceEqDiff, Nat.reduceLeDiff, Nat.reduceSub, Nat.reduceMul, e10], rfl, by omega⟩ ?_
    clear h0 h1 h2 h3 ho e3 e7 e8 e9 hc hS e10 c H' E
    rintro j E H' n' ⟨c, ⟨rfl, h0, h1, h2, h3, ho, e3, e7, e8, e9, hc⟩, hS, e10, e11, hj⟩
    simp -implicitDefEqProofs only [go_sem, Nat.reduceLT, Nat.reduceBEq, Nat.reduceAdd, Nat.reduceEqDiff, Nat.reduceLeDiff, Nat.reduceSub, Nat.reduceMul, e3, e11, h0]
    refine c_split (fun hlt' => ?_) (fun hlt' => ?_)
    · have hiN : i < M.m := by omega
      have hjN : j < M.m := by omega
      have hijN : i + j < 2 * M.m - 1 := by omega
      have hijI : ((i + j : Nat) : Int) < ((2 * M.m - 1 : Nat) : Int) := by omega
      have hi0 := Int.natCast_nonneg (i + j)
      have hwij : IntKind.i64.wrap ((i : Int) + (j : Int)) = ((i + j : Nat) : Int) := (wrap64 (by omega)).trans (by omega)
      have hA1 := dg_lo (p := (k : Int) + 2) (x := cd a') (by omega) i
      have hA2 := dg_hi (p := (k : Int) + 2) (x := cd a') (by omega) i
      have hB1 := dg_lo (p := (k : Int) + 2) (x := cd b') (by omega) j
      have hB2 := dg_hi (p := (k : Int) + 2) (x := cd b') (by omega) j
      have hAi := hA i hiN
      have hBj := hB j hjN
      generalize hAv : dg ((k : Int) + 2) (cd a') i = A at *
      generalize hBv : dg ((k : Int) + 2) (cd b') j = B at *
      have hAB0 : 0 ≤ A * B := Int.mul_nonneg hA1 hB1
      have hAB1 : A * B ≤ 256 * 256 := Int.mul_le_mul (by omega) (by omega) hB1 (by omega)
      have hcij := hc (i + j) hijN
      have hwm := wrap64 (x := A * B) (by omega)
      have hwa := wrap64 (x := c (i + j) + A * B) (by omega)
      have ht := tmod_nn (a := c (i + j) + A * B) (b := (k : Int) + 2) (by omega)
      have hwj := wrap64 (x := (j : Int) + 1) (by omega)
      simp -implicitDefEqProofs only [go_sem, Nat.reduceLT, Nat.reduceBEq, Nat.reduceAdd, Nat.reduceEqDiff, Nat.reduceLeDiff, Nat.reduceSub, Nat.reduceMul, e3, e7, e8, e9, e10, e11, h0, h1, h2, h3, hlt, hlt', hiN, hjN, hijN, hijI, hi0, hwij, gat_tab, hAv, hBv, hwm, hwa, hne, ht, hwj]
      have hr0 : 0 ≤ (c (i + j) + A * B) % ((k : Int) + 2) := Int.emod_nonneg _ (by omega)
      have hr1 : (c (i + j) + A * B) % ((k : Int) + 2) < (k : Int) + 2 := Int.emod_lt_of_pos _ (by omega)
      repeat with_reducible refine And.intro (by omega) ?_
      refine l_n ⟨j + 1, by omega, upf c (i + j) ((c (i + j) + A * B) % ((k : Int) + 2)), ⟨rfl, by simp -implicitDefEqProofs only [go_sem, Nat.reduceLT, Nat.reduceBEq, Nat.reduceAdd, Nat.reduceEqDiff, Nat.reduceLeDiff, Nat.reduceSub, Nat.reduceMul, h0], by simp -implicitDefEqProofs only [go_sem, Nat.reduceLT, Nat.reduceBEq, Nat.reduceAdd, Nat.reduceEqDiff, Nat.reduceLeDiff, Nat.reduceSub, Nat.reduceMul, h1], by simp -implicitDefEqProofs only [go_sem, Nat.reduceLT, Nat.reduceBEq, Nat.reduceAdd, Nat.reduceEqDiff, Nat.reduceLeDiff, Nat.reduceSub, Nat.reduceMul, h2], by simp -implicitDefEqProofs only [go_sem, Nat.reduceLT, Nat.reduceBEq, Nat.reduceAdd, Nat.reduceEqDiff, Nat.reduceLeDiff, Nat.reduceSub, Nat.reduceMul], fun b hb => by rw [upd_ne _ _ (by omega)]; exact ho b hb, by simp -implicitDefEqProofs only [go_sem, Nat.reduceLT, Nat.reduceBEq, Nat.reduceAdd, Nat.reduceEqDiff, Nat.reduceLeDiff, Nat.reduceSub, Nat.reduceMul, e3], by simp -implicitDefEqProofs only [go_sem, Nat.reduceLT, Nat.reduceBEq, Nat.reduceAdd, Nat.reduceEqDiff, Nat.reduceLeDiff, Nat.reduceSub, Nat.reduceMul, e7], by simp -implicitDefEqProofs only [go_sem, Nat.reduceLT, Nat.reduceBEq, Nat.reduceAdd, Nat.reduceEqDiff, Nat.reduceLeDiff, Nat.reduceSub, Nat.reduceMul, e8], by simp -implicitDefEqProofs only [go_sem, Nat.reduceLT, Nat.reduceBEq, Nat.reduceAdd, Nat.reduceEqDiff, Nat.reduceLeDiff, Nat.reduceSub, Nat.reduceMul, e9], upf_range hc hr0 hr1⟩, fun t ht => ?_, by simp -implicitDefEqProofs only [go_sem, Nat.reduceLT, Nat.reduceBEq, Nat.reduceAdd, Nat.reduceEqDiff, Nat.reduceLeDiff, Nat.reduceSub, Nat.reduceMul, e10], by simp -implicitDefEqProofs only [go_sem, Nat.reduceLT, Nat.reduceBEq, Nat.reduceAdd, Nat.reduceEqDiff, Nat.reduceLeDiff, Nat.reduceSub, Nat.reduceMul]; rfl, by omega⟩
      rw [mS_step]
      by_cases e : t = i + j
      · subst e
        rw [upf_same, if_pos rfl, ← hS _ hijN, ← hAi, ← hBj, ← Zm.of_mul, ← Zm.of_add]
        exact Zm.of_eq (Int.emod_emod_of_dvd _ (Int.dvd_refl _))
      · rw [upf_ne _ _ e, if_neg (by omega), Alg.add_zero]; exact hS t ht
    · have : j = M.m := by omega
      subst this
      have hwi := wrap64 (x := (i : Int) + 1) (by omega)
      simp -implicitDefEqProofs only [go_sem, Nat.reduceLT, Nat.reduceBEq, Nat.reduceAdd, Nat.reduceEqDiff, Nat.reduceLeDiff, Nat.reduceSub, Nat.reduceMul, e10, hwi]
      exact l_n ⟨i + 1, by omega, c, ⟨rfl, h0, h1, h2, h3, ho, by simp -implicitDefEqProofs only [go_sem, Nat.reduceLT, Nat.reduceBEq, Nat.reduceAdd, Nat.reduceEqDiff, Nat.reduceLeDiff, Nat.reduceSub, Nat.reduceMul, e3], by simp -implicitDefEqProofs only [go_sem, Nat.reduceLT, Nat.reduceBEq, Nat.reduceAdd, Nat.reduceEqDiff, Nat.reduceLeDiff, Nat.reduceSub, Nat.reduceMul, e7], by simp -implicitDefEqProofs only [go_sem, Nat.reduceLT, Nat.reduceBEq, Nat.reduceAdd, Nat.reduceEqDiff, Nat.reduceLeDiff, Nat.reduceSub, Nat.reduceMul, e8], by simp -implicitDefEqProofs only [go_sem, Nat.reduceLT, Nat.reduceBEq, Nat.reduceAdd, Nat.reduceEqDiff, Nat.reduceLeDiff, Nat.reduceSub, Nat.reduceMul, e9], hc⟩, fun t ht => by rw [mS_row]; exact hS t ht, by simp -implicitDefEqProofs only [go_sem, Nat.reduceLT, Nat.reduceBEq, Nat.reduceAdd, Nat.reduceEqDiff, Nat.reduceLeDiff, Nat.reduceSub, Nat.reduceMul]; rfl, by omega⟩
  · have : i = M.m := by omega
    subst this
    have hw3 : IntKind.i64.wrap (2 * (M.m : Int) - 2) = ((2 * M.m - 1 : Nat) : Int) - 1 := (wrap64 (by omega)).trans (by omega)
    simp -implicitDefEqProofs only [go_sem, Nat.reduceLT, Nat.reduceBEq, Nat.reduceAdd, Nat.reduceEqDiff, Nat.reduceLeDiff, Nat.reduceSub, Nat.reduceMul, e3, h0, hw1, hw3]
    have hS0 : Cg M (a'.p * b'.p) (trc c (2 * M.m - 1)) := by
      have : a'.p * b'.p = trc c (2 * M.m - 1) := by
        apply Ps.ext'
        intro t
        show _ = if t < 2 * M.m - 1 then Zm.of (c t) else 0
        by_cases ht : t < 2 * M.m - 1
        · rw [if_pos ht, hS t ht, mS_all a'.dg b'.dg]
        · rw [if_neg ht]; exact Dg.mul' a'.dg b'.dg (k := 2 * M.m - 1) (by omega) t (by omega)
      rw [this]; exact Cg.refl _
    refine loop_rule (fun (i : Nat) E H' n' => ∃ c, mulR M n H (cd a') (cd b') c E H' n' ∧ Cg M (a'.p * b'.p) (trc c i) ∧ E 12 = .int .i64 ((i : Int) - 1) ∧ M.m ≤ i ∧ i ≤ 2 * M.m - 1) (fun i => i) (2 * M.m - 1)
      ⟨c, ⟨rfl, h0, h1, h2, h3, ho, by simp -implicitDefEqProofs only [go_sem, Nat.reduceLT, Nat.reduceBEq, Nat.reduceAdd, Nat.reduceEqDiff, Nat.reduceLeDiff, Nat.reduceSub, Nat.reduceMul, e3], by simp -implicitDefEqProofs only [go_sem, Nat.reduceLT, Nat.reduceBEq, Nat.reduceAdd, Nat.reduceEqDiff, Nat.reduceLeDiff, Nat.reduceSub, Nat.reduceMul, e7], by simp -implicitDefEqProofs only [go_sem, Nat.reduceLT, Nat.reduceBEq, Nat.reduceAdd, Nat.reduceEqDiff, Nat.reduceLeDiff, Nat.reduceSub, Nat.reduceMul, e8], by simp -implicitDefEqProofs only [go_sem, Nat.reduceLT, Nat.reduceBEq, Nat.reduceAdd, Nat.reduceEqDiff, Nat.reduceLeDiff, Nat.reduceSub, Nat.reduceMul, e9], hc⟩, hS0, by simp -implicitDefEqProofs only [go_sem, Nat.reduceLT, Nat.reduceBEq, Nat.reduceAdd, Nat.reduceEqDiff, Nat.reduceLeDiff, Nat.reduceSub, Nat.reduceMul], by omega, by omega⟩ ?_
    clear h0 h1 h2 h3 ho e3 e7 e8 e9 hc hS e10 hS0 c H' E
    rintro i E H' n' ⟨c, ⟨rfl, h0, h1, h2, h3, ho, e3, e7, e8, e9, hc⟩, hS, e12, hi0, hi⟩
    simp -implicitDefEqProofs only [go_sem, Nat.reduceLT, Nat.reduceBEq, Nat.reduceAdd, Nat.reduceEqDiff, Nat.reduceLeDiff, Nat.reduceSub, Nat.reduceMul, e3, e12, h0]
    refine c_split (fun hlt => ?_) (fun hlt => ?_)
    · obtain ⟨i, rfl⟩ : ∃ u, i = u + 1 := ⟨i - 1, by omega⟩
      have hi1 : ((i + 1 : Nat) : Int) - 1 = (i : Nat) := by omega
      rw [hi1] at e12 hlt
      simp -implicitDefEqProofs only [go_sem, Nat.reduceLT, Nat.reduceBEq, Nat.reduceAdd, Nat.reduceEqDiff, Nat.reduceLeDiff, Nat.reduceSub, Nat.reduceMul]
      refine loop_rule (fun (j : Nat) E H' n' => mulR M n H (cd a') (cd b') (rdc M c i j) E H' n' ∧ E 12 = .int .i64 i ∧ E 13 = .int .i64 j ∧ j ≤ M.m) (fun j => M.m - j) 0 ?_ ?_
      · rw [rdc_zero]
        exact ⟨⟨rfl, h0, h1, h2, h3, ho, by simp -implicitDefEqProofs only [go_sem, Nat.reduceLT, Nat.reduceBEq, Nat.reduceAdd, Nat.reduceEqDiff, Nat.reduceLeDiff, Nat.reduceSub, Nat.reduceMul, e3], by simp -implicitDefEqProofs only [go_sem, Nat.reduceLT, Nat.reduceBEq, Nat.reduceAdd, Nat.reduceEqDiff, Nat.reduceLeDiff, Nat.reduceSub, Nat.reduceMul, e7], by simp -implicitDefEqProofs only [go_sem, Nat.reduceLT, Nat.reduceBEq, Nat.reduceAdd, Nat.reduceEqDiff, Nat.reduceLeDiff, Nat.reduceSub, Nat.reduceMul, e8], by simp -implicitDefEqProofs only [go_sem, Nat.reduceLT, Nat.reduceBEq, Nat.reduceAdd, Nat.reduceEqDiff, Nat.reduceLeDiff, Nat.reduceSub, Nat.reduceMul, e9], hc⟩, by simp -implicitDefEqProofs only [go_sem, Nat.reduceLT, Nat.reduceBEq, Nat.reduceAdd, Nat.reduceEqDiff, Nat.reduceLeDiff, Nat.reduceSub, Nat.reduceMul, e12], rfl, by omega⟩
      clear h0 h1 h2 h3 ho e3 e7 e8 e9 e12 H' E
      rintro j E H' n' ⟨⟨rfl, h0, h1, h2, h3, ho, e3, e7, e8, e9, hc'⟩, e12, e13, hj⟩
      simp -implicitDefEqProofs only [go_sem, Nat.reduceLT, Nat.reduceBEq, Nat.reduceAdd, Nat.reduceEqDiff, Nat.reduceLeDiff, Nat.reduceSub, Nat.reduceMul, e3, e13, h0]
      refine c_split (fun hlt' => ?_) (fun hlt' => ?_)
      · have hjN : j < M.m := by omega
        have hjI : (j : Int) < (M.m : Int) := by omega
        have hm1 : M.m ≠ 1 := by omega
        have hiN : i < 2 * M.m - 1 := by omega
        have hiI : (i : Int) < ((2 * M.m - 1 : Nat) : Int) := by omega
        have hijN : i - M.m + j < 2 * M.m - 1 := by omega
        have hijI : ((i - M.m + j : Nat) : Int) < ((2 * M.m - 1 : Nat) : Int) := by omega
        have hi0' := Int.natCast_nonneg (i - M.m + j)
        have hws : IntKind.i64.wrap ((i : Int) - (M.m : Int)) = ((i - M.m : Nat) : Int) := (wrap64 (by omega)).trans (by omega)
        have hwij : IntKind.i64.wrap (((i - M.m : Nat) : Int) + (j : Int)) = ((i - M.m + j : Nat) : Int) := (wrap64 (by omega)).trans (by omega)
        have hci := hc' i hiN
        have hcij := hc' (i - M.m + j) hijN
        have hf0 := (M.f.co j).lo
        have hf1 := (M.f.co j).hi
        have hmod : fmod M = isl M.m fun i => (M.f.co i).v := by rw [fmod, if_neg hm1]
        have hst := rdc_step (M := M) c (i := i) (j := j) (by omega) hjN
        generalize hX : rdc M c i j (i - M.m + j) = X at *
        generalize hY : rdc M c i j i = Y at *
        generalize hZ : (M.f.co j).v = Z at *
        have hP0 : 0 ≤ ((k : Int) + 2 - Y) * Z := Int.mul_nonneg (by omega) hf0
        have hP1 : ((k : Int) + 2 - Y) * Z ≤ 256 * 256 := Int.mul_le_mul (by omega) (by omega) hf0 (by omega)
        have hwd := wrap64 (x := (k : Int) + 2 - Y) (by omega)
        have hwm := wrap64 (x := ((k : Int) + 2 - Y) * Z) (by omega)
        have hwa := wrap64 (x := X + ((k : Int) + 2 - Y) * Z) (by omega)
        have ht := tmod_nn (a := X + ((k : Int) + 2 - Y) * Z) (b := (k : Int) + 2) (by omega)
        have hwj := wrap64 (x := (j : Int) + 1) (by omega)
        have hiP := Int.natCast_nonneg i
        simp -implicitDefEqProofs only [go_sem, Nat.reduceLT, Nat.reduceBEq, Nat.reduceAdd, Nat.reduceEqDiff, Nat.reduceLeDiff, Nat.reduceSub, Nat.reduceMul, e3, e7, e8, e9, e12, e13, h0, h1, h2, h3, hjI, hjN, hiN, hiI, hijN, hijI, hi0', hws, hwij, hmod, gat_tab, hX, hY, hZ, hwd, hwm, hwa, hne, ht, hwj]
        have hr0 : 0 ≤ (X + ((k : Int) + 2 - Y) * Z) % ((k : Int) + 2) := Int.emod_nonneg _ (by omega)
        have hr1 : (X + ((k : Int) + 2 - Y) * Z) % ((k : Int) + 2) < (k : Int) + 2 := Int.emod_lt_of_pos _ (by omega)
        have hc2 := upf_range hc' (i := i - M.m + j) hr0 hr1
        rw [hst] at hc2 ⊢
        repeat with_reducible refine And.intro (by omega) ?_
        exact l_n ⟨j + 1, by omega, ⟨rfl, by simp -implicitDefEqProofs only [go_sem, Nat.reduceLT, Nat.reduceBEq, Nat.reduceAdd, Nat.reduceEqDiff, Nat.reduceLeDiff, Nat.reduceSub, Nat.reduceMul, h0], by simp -implicitDefEqProofs only [go_sem, Nat.reduceLT, Nat.reduceBEq, Nat.reduceAdd, Nat.reduceEqDiff, Nat.reduceLeDiff, Nat.reduceSub, Nat.reduceMul, h1], by simp -implicitDefEqProofs only [go_sem, Nat.reduceLT, Nat.reduceBEq, Nat.reduceAdd, Nat.reduceEqDiff, Nat.reduceLeDiff, Nat.reduceSub, Nat.reduceMul, h2], by simp -implicitDefEqProofs only [go_sem, Nat.reduceLT, Nat.reduceBEq, Nat.reduceAdd, Nat.reduceEqDiff, Nat.reduceLeDiff, Nat.reduceSub, Nat.reduceMul], fun b hb => by rw [upd_ne _ _ (by omega)]; exact ho b hb, by simp -implicitDefEqProofs only [go_sem, Nat.reduceLT, Nat.reduceBEq, Nat.reduceAdd, Nat.reduceEqDiff, Nat.reduceLeDiff, Nat.reduceSub, Nat.reduceMul, e3], by simp -implicitDefEqProofs only [go_sem, Nat.reduceLT, Nat.reduceBEq, Nat.reduceAdd, Nat.reduceEqDiff, Nat.reduceLeDiff, Nat.reduceSub, Nat.reduceMul, e7], by simp -implicitDefEqProofs only [go_sem, Nat.reduceLT, Nat.reduceBEq, Nat.reduceAdd, Nat.reduceEqDiff, Nat.reduceLeDiff, Nat.reduceSub, Nat.reduceMul, e8], by simp -implicitDefEqProofs only [go_sem, Nat.reduceLT, Nat.reduceBEq, Nat.reduceAdd, Nat.reduceEqDiff, Nat.reduceLeDiff, Nat.reduceSub, Nat.reduceMul, e9], hc2⟩, by simp -implicitDefEqProofs only [go_sem, Nat.reduceLT, Nat.reduceBEq, Nat.reduceAdd, Nat.reduceEqDiff, Nat.reduceLeDiff, Nat.reduceSub, Nat.reduceMul, e12], by simp -implicitDefEqProofs only [go_sem, Nat.reduceLT, Nat.reduceBEq, Nat.reduceAdd, Nat.reduceEqDiff, Nat.reduceLeDiff, Nat.reduceSub, Nat.reduceMul]; rfl, by omega⟩
      · have : j = M.m := by omega
        subst this
        have hwi := wrap64 (x := (i : Int) - 1) (by omega)
        simp -implicitDefEqProofs only [go_sem, Nat.reduceLT, Nat.reduceBEq, Nat.reduceAdd, Nat.reduceEqDiff, Nat.reduceLeDiff, Nat.reduceSub, Nat.reduceMul, e12, hwi]
        exact l_n ⟨i, by omega, rdc M c i M.m, ⟨rfl, h0, h1, h2, h3, ho, by simp -implicitDefEqProofs only [go_sem, Nat.reduceLT, Nat.reduceBEq, Nat.reduceAdd, Nat.reduceEqDiff, Nat.reduceLeDiff, Nat.reduceSub, Nat.reduceMul, e3], by simp -implicitDefEqProofs only [go_sem, Nat.reduceLT, Nat.reduceBEq, Nat.reduceAdd, Nat.reduceEqDiff, Nat.reduceLeDiff, Nat.reduceSub, Nat.reduceMul, e7], by simp -implicitDefEqProofs only [go_sem, Nat.reduceLT, Nat.reduceBEq, Nat.reduceAdd, Nat.reduceEqDiff, Nat.reduceLeDiff, Nat.reduceSub, Nat.reduceMul, e8], by simp -implicitDefEqProofs only [go_sem, Nat.reduceLT, Nat.reduceBEq, Nat.reduceAdd, Nat.reduceEqDiff, Nat.reduceLeDiff, Nat.reduceSub, Nat.reduceMul, e9], hc'⟩, hS.trans (rdc_cg c (by omega)), by simp -implicitDefEqProofs only [go_sem, Nat.reduceLT, Nat.reduceBEq, Nat.reduceAdd, Nat.reduceEqDiff, Nat.reduceLeDiff, Nat.reduceSub, Nat.reduceMul], by omega, by omega⟩
    · have : i = M.m := by omega
      subst this
      have hle : (M.m : Int) ≤ ((2 * M.m - 1 : Nat) : Int) := by omega
      have hleN : M.m ≤ 2 * M.m - 1 := by omega
      have hiP := Int.natCast_nonneg M.m
      simp -implicitDefEqProofs only [go_sem, Nat.reduceLT, Nat.reduceBEq, Nat.reduceAdd, Nat.reduceEqDiff, Nat.reduceLeDiff, Nat.reduceSub, Nat.reduceMul, e3, e9, h0, h3, hleN]
      repeat with_reducible refine And.intro (by omega) ?_
      refine call_of (sp_ref04_Value' h (n + 3) (2 * M.m - 1) c (by omega) h3 (by omega) fun j hj => hc j (by omega)) ?_
      simp -implicitDefEqProofs only [go_sem, Nat.reduceLT, Nat.reduceBEq, Nat.reduceAdd, Nat.reduceEqDiff, Nat.reduceLeDiff, Nat.reduceSub, Nat.reduceMul]
      refine fin_ret rfl (by decide) (fz_int ?_) ho
      exact cd_mul_of (fun t ht => hc t (by omega)) hS
end
end Go.Proofs.Ytdpibcniodhinaa.Gh
/- Products of residues by Horner's rule: the plain law, and the program's product. -/
namespace Go.Proofs.Ytdpibcniodhinaa.Gh
open Go Go.RowKit
open Alg (CR Fd Ps Dg Zm Mn El Cg sm pw)
set_option linter.unusedVariables false
set_option linter.unusedSimpArgs false

section
variable {k : Nat} {M : Mn k}
/-- moved up by one -/
def shl (c : Nat → Int) : Nat → Int := fun t => if t = 0 then 0 else c (t - 1)
/-- one round of Horner's rule, up to its j-th coefficient -/
def hor (M : Mn k) (A : Nat → Int) (b : Int) (c : Nat → Int) (j : Nat) : Nat → Int := fun t => if t < j then (shl c t + ((k : Int) + 2 - c (M.m - 1)) * (M.f.co t).v + b * A t) % ((k : Int) + 2) else shl c t
theorem hor_zero (A : Nat → Int) (b : Int) (c : Nat → Int) : hor M A b c 0 = shl c := by funext t; exact if_neg (by omega)
theorem hor_at (A : Nat → Int) (b : Int) (c : Nat → Int) (j : Nat) : hor M A b c j j = shl c j := if_neg (by omega)
theorem hor_step (A : Nat → Int) (b : Int) (c : Nat → Int) (j : Nat) : upf (hor M A b c j) j ((shl c j + ((k : Int) + 2 - c (M.m - 1)) * (M.f.co j).v + b * A j) % ((k : Int) + 2)) = hor M A b c (j + 1) := by
  funext t
  simp only [upf, hor]
  by_cases e : t = j
  · subst e; rw [if_pos rfl, if_pos (by omega)]
  · rw [if_neg e]
    by_cases h3 : t < j
    · rw [if_pos h3, if_pos (by omega)]
    · rw [if_neg h3, if_neg (by omega)]
theorem hor_range {A : Nat → Int} {b : Int} {c : Nat → Int} (hc : ∀ t, t < M.m → 0 ≤ c t ∧ c t < (k : Int) + 2) (j : Nat) : ∀ t, t < M.m → 0 ≤ hor M A b c j t ∧ hor M A b c j t < (k : Int) + 2 := by
  intro t ht
  simp only [hor]
  split
  · exact ⟨Int.emod_nonneg _ (by omega), Int.emod_lt_of_pos _ (by omega)⟩
  · simp only [shl]
    split
    · omega
    · exact hc _ (by omega)
theorem hor_cg {A : Nat → Int} {a : El M} (hA : ∀ i, i < M.m → Zm.of (A i) = a.p.co i) {b : Int} {c : Nat → Int} {D : Ps (Zm k)} (h : Cg M (D * a.p) (trc c M.m)) : Cg M ((Alg.mono 1 1 * D + Alg.mono (Zm.of b) 0) * a.p) (trc (hor M A b c M.m) M.m) := by
  have h1 : Cg M (Alg.mono 1 1 * (D * a.p)) (Alg.mono 1 1 * trc c M.m) := h.mul_left _ (Dg.monom _ _)
  have h2 : Cg M (Alg.mono 1 1 * trc c M.m) (Alg.mono 1 1 * trc c M.m + -(Alg.mono (Zm.of (c (M.m - 1))) 0 * M.f)) := ⟨1, Alg.mono (Zm.of (c (M.m - 1))) 0, Dg.monom _ _, by
    rw [Alg.add_left_comm, Alg.add_neg, Alg.add_zero]⟩
  have h3 := ((h1.trans h2).add (Cg.refl (M := M) (Alg.mono (Zm.of b) 0 * a.p)))
  rw [Alg.add_mul, Alg.mul_assoc]
  refine h3.trans ?_
  have e : Alg.mono 1 1 * trc c M.m + -(Alg.mono (Zm.of (c (M.m - 1))) 0 * M.f) + Alg.mono (Zm.of b) 0 * a.p = trc (hor M A b c M.m) M.m := by
    apply Ps.ext'
    intro t
    rw [Alg.co_add, Alg.co_add, Alg.co_neg, Alg.co_mono_mul, Alg.co_mono_mul, Alg.co_mono_mul, if_pos (Nat.zero_le _), if_pos (Nat.zero_le _), Nat.sub_zero, Alg.one_mul]
    show (if 1 ≤ t then (if t - 1 < M.m then Zm.of (c (t - 1)) else 0) else 0) + _ + _ = if t < M.m then Zm.of (hor M A b c M.m t) else 0
    by_cases ht : t < M.m
    · rw [if_pos ht]
      have e1 : hor M A b c M.m t = (shl c t + ((k : Int) + 2 - c (M.m - 1)) * (M.f.co t).v + b * A t) % ((k : Int) + 2) := if_pos ht
      have e2 : Zm.of (k := k) ((shl c t + ((k : Int) + 2 - c (M.m - 1)) * (M.f.co t).v + b * A t) % ((k : Int) + 2)) = Zm.of (shl c t + ((k : Int) + 2 - c (M.m - 1)) * (M.f.co t).v + b * A t) := Zm.of_eq (Int.emod_emod_of_dvd _ (Int.dvd_refl _))
      rw [e1, e2, Zm.of_add, Zm.of_add, Zm.of_mul, Zm.of_mul, Zm.of_self, Int.sub_eq_add_neg, Zm.of_add, Zm.of_p, Alg.zero_add, Zm.of_neg, Alg.neg_mul, hA t ht]
      congr 2
      by_cases h0 : t = 0
      · subst h0; rfl
      · rw [if_pos (by omega), if_pos (by omega)]
        have : shl c t = c (t - 1) := if_neg h0
        rw [this]
    · rw [if_neg ht, a.dg t (by omega), Alg.mul_zero, Alg.add_zero, if_pos (by have := M.pos; omega)]
      by_cases h1 : t = M.m
      · subst h1
        rw [if_pos (by have := M.pos; omega), M.top, Alg.mul_one, Alg.add_neg]
      · rw [if_neg (by omega), M.dg t (by omega), Alg.mul_zero, Alg.zero_add, Alg.neg_zero]
  rw [e]; exact Cg.refl _
/-- the upper coefficients, moved down -/
def upper (b : El M) (i : Nat) : Ps (Zm k) := ⟨fun t => b.p.co (i + t)⟩
theorem upper_top (b : El M) : upper b M.m = 0 := Ps.ext' fun t => b.dg _ (by omega)
theorem upper_zero (b : El M) : upper b 0 = b.p := Ps.ext' fun t => by show b.p.co (0 + t) = _; rw [Nat.zero_add]
theorem upper_step (b : El M) (i : Nat) : upper b i = Alg.mono 1 1 * upper b (i + 1) + Alg.mono (b.p.co i) 0 := by
  apply Ps.ext'
  intro t
  rw [Alg.co_add, Alg.co_mono_mul, Alg.co_mono]
  show b.p.co (i + t) = (if 1 ≤ t then 1 * b.p.co (i + 1 + (t - 1)) else 0) + _
  by_cases h : t = 0
  · subst h; rw [if_neg (by omega), if_pos rfl, Alg.zero_add]; rfl
  · rw [if_pos (by omega), if_neg h, Alg.add_zero, Alg.one_mul, show i + 1 + (t - 1) = i + t by omega]
end
end Go.Proofs.Ytdpibcniodhinaa.Gh
/- The program's product of residues. -/
namespace Go.Proofs.Ytdpibcniodhinaa.Gh
open Go Go.RowKit
open Alg (CR Fd Ps Dg Zm Mn El Cg sm pw)
set_option linter.unusedVariables false
set_option linter.unusedSimpArgs false

section
variable {k : Nat} {M : Mn k}
def mulP (M : Mn k) (n : Nat) (H : Heap) (a b : Int) (c : Nat → Int) (E : Env) (H' : Heap) (n' : Nat) : Prop :=
  n' = n + 3 ∧ H' n = some [.int .i64 ((k : Int) + 2), .int .i64 (M.m : Nat), fmod M] ∧ H' (n + 1) = some (tab M.m (it (dg ((k : Int) + 2) b))) ∧
  H' (n + 2) = some (tab M.m (it c)) ∧ (∀ b, b < n → H' b = H b) ∧ E 3 = .ptr n 0 ∧ E 7 = isl M.m (dg ((k : Int) + 2) a) ∧ E 8 = .own (n + 1) 0 M.m ∧ E 9 = .own (n + 2) 0 M.m ∧ ∀ t, t < M.m → 0 ≤ c t ∧ c t < (k : Int) + 2

theorem sp_field_multiply {H : Heap} {n : Nat} (h : Fc M) (x y : El M) : Spec prog fid_field_multiply [fd M, .int .i64 (cd x), .int .i64 (cd y)] H n (.int .i64 (cd (x * y))) H n := by
  refine spec_ends hmix ok_field_multiply rfl fun hF => ?_
  show gw prog B_field_multiply _ (tl 97 _) H n
  have hp := h.p256
  have hm8 := h.m8
  have hm0 := M.pos
  have hmP := Int.natCast_nonneg M.m
  have hq := h.q
  have hx := cd_nn x
  have hy := cd_nn y
  have hqq : qq M = ((k : Int) + 2) ^ M.m := rfl
  have hne : ((k : Int) + 2 = 0) = False := by simp; omega
  have hwm := wrap64 (x := (M.m : Int) - 1) (by omega)
  simp -implicitDefEqProofs only [B_field_multiply, fd, go_sem, Nat.reduceLT, Nat.reduceBEq, Nat.reduceAdd, Nat.reduceEqDiff, Nat.reduceLeDiff, Nat.reduceSub, Nat.reduceMul]
  refine mcall_of (pl_isl _ _).nr (fun H' n' _ _ => (sp_field_digitsOf (cd x) ((k : Int) + 2) M.m hx.1 (by omega) (by omega) (by omega)).frozen tab_len (pl_tab fun i _ => .int _ _)) ?_
  simp -implicitDefEqProofs only [go_sem, Nat.reduceLT, Nat.reduceBEq, Nat.reduceAdd, Nat.reduceEqDiff, Nat.reduceLeDiff, Nat.reduceSub, Nat.reduceMul]
  refine call_of (sp_field_digitsOf (cd y) ((k : Int) + 2) M.m hy.1 (by omega) (by omega) (by omega)) ?_
  simp -implicitDefEqProofs only [go_sem, Nat.reduceLT, Nat.reduceBEq, Nat.reduceAdd, Nat.reduceEqDiff, Nat.reduceLeDiff, Nat.reduceSub, Nat.reduceMul, hmP, hwm]
  repeat with_reducible refine And.intro (by omega) ?_
  have hA : ∀ i, i < M.m → Zm.of (dg ((k : Int) + 2) (cd x) i) = x.p.co i := fun i hi => by rw [cd_dg x hi, Zm.of_self]
  have hB : ∀ i, i < M.m → Zm.of (dg ((k : Int) + 2) (cd y) i) = y.p.co i := fun i hi => by rw [cd_dg y hi, Zm.of_self]
  refine loop_rule (fun (i : Nat) E H' n' => ∃ c, mulP M n H (cd x) (cd y) c E H' n' ∧ Cg M (upper y i * x.p) (trc c M.m) ∧ E 10 = .int .i64 ((i : Int) - 1) ∧ i ≤ M.m) (fun i => i) M.m ?_ ?_
  · refine ⟨fun _ => 0, ⟨rfl, ?_, ?_, ?_, fun c hc => by rw [upd_ne _ _ (by omega), upd_ne _ _ (by omega), upd_ne _ _ (by omega)], rfl, rfl, rfl, rfl, fun t ht => ⟨Int.le_refl 0, by show (0 : Int) < (k : Int) + 2; omega⟩⟩, ?_, rfl, Nat.le_refl _⟩
    · simp -implicitDefEqProofs only [go_sem, Nat.reduceLT, Nat.reduceBEq, Nat.reduceAdd, Nat.reduceEqDiff, Nat.reduceLeDiff, Nat.reduceSub, Nat.reduceMul]
    · simp -implicitDefEqProofs only [go_sem, Nat.reduceLT, Nat.reduceBEq, Nat.reduceAdd, Nat.reduceEqDiff, Nat.reduceLeDiff, Nat.reduceSub, Nat.reduceMul]
    · simp -implicitDefEqProofs only [go_sem, Nat.reduceLT, Nat.reduceBEq, Nat.reduceAdd, Nat.reduceEqDiff, Nat.reduceLeDiff, Nat.reduceSub, Nat.reduceMul, tab_rep]; rfl
    · rw [upper_top, Alg.zero_mul]
      have : trc (k := k) (fun _ => 0) M.m = 0 := Ps.ext' fun t => by show (if t < M.m then Zm.of 0 else 0) = 0; split <;> rfl
      rw [this]; exact Cg.refl _
  rintro i E H' n' ⟨c, ⟨rfl, h0, h1, h2, ho, e3, e7, e8, e9, hc⟩, hS, e10, hi⟩
  simp -implicitDefEqProofs only [go_sem, Nat.reduceLT, Nat.reduceBEq, Nat.reduceAdd, Nat.reduceEqDiff, Nat.reduceLeDiff, Nat.reduceSub, Nat.reduceMul, e10]
  refine c_split (fun hlt => ?_) (fun hlt => ?_)
  · obtain ⟨i, rfl⟩ : ∃ u, i = u + 1 := ⟨i - 1, by omega⟩
    have hi1 : ((i + 1 : Nat) : Int) - 1 = (i : Nat) := by omega
    rw [hi1] at e10
    have hmm : (M.m : Int) - 1 = ((M.m - 1 : Nat) : Int) := by omega
    have hmm1 := Int.natCast_nonneg (M.m - 1)
    have hmm2 : ((M.m - 1 : Nat) : Int) < (M.m : Int) := by omega
    have hmm3 : M.m - 1 < M.m := by omega
    have hwm2 := wrap64 (x := ((M.m - 1 : Nat) : Int)) (by omega)
    have h01 : (0 : Int) ≤ 1 := by omega
    have h11 : (1 : Int).toNat = 1 := rfl
    have h00 : (0 : Int).toNat = 0 := rfl
    have h000 : (0 : Int) ≤ 0 := by omega
    have h1m : 1 ≤ M.m := by omega
    have hm1m : M.m - 1 ≤ M.m := by omega
    have hmin : min (M.m - 1) (M.m - 1) = M.m - 1 := Nat.min_self _
    have htk : (tab M.m (it c)).take (M.m - 1) = tab (M.m - 1) (it c) := tab_take _ hm1m
    have htk2 : (tab (M.m - 1) (it c)).take (M.m - 1) = tab (M.m - 1) (it c) := tab_take _ (Nat.le_refl _)
    have hset : tab M.m (upf (fun j => if 1 ≤ j ∧ j < 1 + (M.m - 1) then GV.int .i64 (c (j - 1)) else GV.int .i64 (c j)) 0 (.int .i64 0)) = tab M.m (it (hor M (dg ((k : Int) + 2) (cd x)) (dg ((k : Int) + 2) (cd y) i) c 0)) := tab_congr fun j hj => by
      rw [hor_zero]
      simp only [upf, it]
      by_cases hj0 : j = 0
      · subst hj0; rw [if_pos rfl]; rfl
      · rw [if_neg hj0, if_pos (by omega), shl, if_neg hj0]
    have hst := setL_tabs (m := M.m) (f := it c) (g := it c) (M.m - 1) 1 (by omega)
    have h0m : (0 : Int) < (M.m : Int) := by omega
    have hle1 : 1 + (M.m - 1) ≤ M.m := by omega
    have hle0 : 0 < M.m := hm0
    have hle2 : M.m - 1 ≤ M.m := by omega
    simp -implicitDefEqProofs only [go_sem, Nat.reduceLT, Nat.reduceBEq, Nat.reduceAdd, Nat.reduceEqDiff, Nat.reduceLeDiff, Nat.reduceSub, Nat.reduceMul, e3, e9, h0, h2, hwm2, h01, h11, h00, h000, hmm, hmm1, hmm2, hmm3, h1m, hm1m, hmin, htk, htk2, gat_tab, it_cell, hst, hset, h0m, hle1, hle0, hle2]
    repeat with_reducible refine And.intro (by omega) ?_
    refine loop_rule (fun (j : Nat) E H' n' => mulP M n H (cd x) (cd y) (hor M (dg ((k : Int) + 2) (cd x)) (dg ((k : Int) + 2) (cd y) i) c j) E H' n' ∧ E 10 = .int .i64 i ∧ E 11 = .int .i64 (c (M.m - 1)) ∧ E 53 = .int .i64 (M.m : Nat) ∧ E 54 = .int .i64 j ∧ j ≤ M.m) (fun j => M.m - j) 0 ?_ ?_
    · exact ⟨⟨rfl, by simp -implicitDefEqProofs only [go_sem, Nat.reduceLT, Nat.reduceBEq, Nat.reduceAdd, Nat.reduceEqDiff, Nat.reduceLeDiff, Nat.reduceSub, Nat.reduceMul, h0], by simp -implicitDefEqProofs only [go_sem, Nat.reduceLT, Nat.reduceBEq, Nat.reduceAdd, Nat.reduceEqDiff, Nat.reduceLeDiff, Nat.reduceSub, Nat.reduceMul, h1], by simp -implicitDefEqProofs only [go_sem, Nat.reduceLT, Nat.reduceBEq, Nat.reduceAdd, Nat.reduceEqDiff, Nat.reduceLeDiff, Nat.reduceSub, Nat.reduceMul], fun b hb => by rw [upd_ne _ _ (by omega)]; exact ho b hb, by simp -implicitDefEqProofs only [go_sem, Nat.reduceLT, Nat.reduceBEq, Nat.reduceAdd, Nat.reduceEqDiff, Nat.reduceLeDiff, Nat.reduceSub, Nat.reduceMul, e3], by simp -implicitDefEqProofs only [go_sem, Nat.reduceLT, Nat.reduceBEq, Nat.reduceAdd, Nat.reduceEqDiff, Nat.reduceLeDiff, Nat.reduceSub, Nat.reduceMul, e7], by simp -implicitDefEqProofs only [go_sem, Nat.reduceLT, Nat.reduceBEq, Nat.reduceAdd, Nat.reduceEqDiff, Nat.reduceLeDiff, Nat.reduceSub, Nat.reduceMul, e8], by simp -implicitDefEqProofs only [go_sem, Nat.reduceLT, Nat.reduceBEq, Nat.reduceAdd, Nat.reduceEqDiff, Nat.reduceLeDiff, Nat.reduceSub, Nat.reduceMul, e9], hor_range hc 0⟩, by simp -implicitDefEqProofs only [go_sem, Nat.reduceLT, Nat.reduceBEq, Nat.reduceAdd, Nat.reduceEqDiff, Nat.reduceLeDiff, Nat.reduceSub, Nat.reduceMul, e10], by simp -implicitDefEqProofs only [go_sem, Nat.reduceLT, Nat.reduceBEq, Nat.reduceAdd, Nat.reduceEqDiff, Nat.reduceLeDiff, Nat.reduceSub, Nat.reduceMul], by simp -implicitDefEqProofs only [go_sem, Nat.reduceLT, Nat.reduceBEq, Nat.reduceAdd, Nat.reduceEqDiff, Nat.reduceLeDiff, Nat.reduceSub, Nat.reduceMul], rfl, by omega⟩
    have hc0 := hc
    have htop := hc (M.m - 1) (by omega)
    clear h0 h1 h2 ho e3 e7 e8 e9 e10 E H' hset hst
    rintro j E H' n' ⟨⟨rfl, h0, h1, h2, ho, e3, e7, e8, e9, hc⟩, e10, e11, e53, e54, hj⟩
    simp -implicitDefEqProofs only [go_sem, Nat.reduceLT, Nat.reduceBEq, Nat.reduceAdd, Nat.reduceEqDiff, Nat.reduceLeDiff, Nat.reduceSub, Nat.reduceMul, e53, e54]
    refine c_split (fun hlt' => ?_) (fun hlt' => ?_)
    · simp -implicitDefEqProofs only [go_sem, Nat.reduceLT, Nat.reduceBEq, Nat.reduceAdd, Nat.reduceEqDiff, Nat.reduceLeDiff, Nat.reduceSub, Nat.reduceMul, e3, h0]
      have hiN : i < M.m := by omega
      have hjN : j < M.m := by omega
      have hjN1 : j + 1 ≤ M.m := hjN
      have hjI : (j : Int) < (M.m : Int) := by omega
      have hiI : (i : Int) < (M.m : Int) := by omega
      have hiP := Int.natCast_nonneg i
      have hjP := Int.natCast_nonneg j
      have hA1 := dg_lo (p := (k : Int) + 2) (x := cd x) (by omega) j
      have hA2 := dg_hi (p := (k : Int) + 2) (x := cd x) (by omega) j
      have hB1 := dg_lo (p := (k : Int) + 2) (x := cd y) (by omega) i
      have hB2 := dg_hi (p := (k : Int) + 2) (x := cd y) (by omega) i
      have hcj := hc j hjN
      have hf0 := (M.f.co j).lo
      have hf1 := (M.f.co j).hi
      have hst := hor_step (M := M) (dg ((k : Int) + 2) (cd x)) (dg ((k : Int) + 2) (cd y) i) c j
      have hcr := hor_range (A := dg ((k : Int) + 2) (cd x)) (b := dg ((k : Int) + 2) (cd y) i) hc0 (j + 1)
      have hX : hor M (dg ((k : Int) + 2) (cd x)) (dg ((k : Int) + 2) (cd y) i) c j j = shl c j := hor_at _ _ _ _
      rw [hX] at hcj
      generalize hAv : dg ((k : Int) + 2) (cd x) j = A at *
      generalize hBv : dg ((k : Int) + 2) (cd y) i = B at *
      generalize hZ : (M.f.co j).v = Z at *
      generalize hXv : shl c j = X at *
      generalize c (M.m - 1) = top at *
      have hP0 : 0 ≤ ((k : Int) + 2 - top) * Z := Int.mul_nonneg (by omega) hf0
      have hP1 : ((k : Int) + 2 - top) * Z ≤ 256 * 256 := Int.mul_le_mul (by omega) (by omega) hf0 (by omega)
      have hQ0 : 0 ≤ B * A := Int.mul_nonneg hB1 hA1
      have hQ1 : B * A ≤ 256 * 256 := Int.mul_le_mul (by omega) (by omega) hA1 (by omega)
      have hwd := wrap64 (x := (k : Int) + 2 - top) (by omega)
      have hw1 := wrap64 (x := ((k : Int) + 2 - top) * Z) (by omega)
      have hw2 := wrap64 (x := X + ((k : Int) + 2 - top) * Z) (by omega)
      have hw3 := wrap64 (x := B * A) (by omega)
      have hw4 := wrap64 (x := X + ((k : Int) + 2 - top) * Z + B * A) (by omega)
      have ht := tmod_nn (a := X + ((k : Int) + 2 - top) * Z + B * A) (b := (k : Int) + 2) (by omega)
      have hwj := wrap64 (x := (j : Int) + 1) (by omega)
      refine c_split (fun hm => ?_) (fun hm => ?_)
      · have hmod : fmod M = isl M.m fun i => (M.f.co i).v := by rw [fmod, if_neg (by omega)]
        simp -implicitDefEqProofs only [go_sem, Nat.reduceLT, Nat.reduceBEq, Nat.reduceAdd, Nat.reduceEqDiff, Nat.reduceLeDiff, Nat.reduceSub, Nat.reduceMul, e3, e7, e8, e9, e10, e11, e54, h0, h1, h2, hmod, hiN, hjN, hjI, hiI, gat_tab, hAv, hBv, hZ, hX, hXv, hwd, hw1, hw2, hw3, hw4, ht, hne, hwj, hst, hjN1]
        exact l_n ⟨j + 1, by omega, ⟨rfl, by simp -implicitDefEqProofs only [go_sem, Nat.reduceLT, Nat.reduceBEq, Nat.reduceAdd, Nat.reduceEqDiff, Nat.reduceLeDiff, Nat.reduceSub, Nat.reduceMul, h0, hmod], by simp -implicitDefEqProofs only [go_sem, Nat.reduceLT, Nat.reduceBEq, Nat.reduceAdd, Nat.reduceEqDiff, Nat.reduceLeDiff, Nat.reduceSub, Nat.reduceMul, h1], by simp -implicitDefEqProofs only [go_sem, Nat.reduceLT, Nat.reduceBEq, Nat.reduceAdd, Nat.reduceEqDiff, Nat.reduceLeDiff, Nat.reduceSub, Nat.reduceMul], fun b hb => by rw [upd_ne _ _ (by omega)]; exact ho b hb, by simp -implicitDefEqProofs only [go_sem, Nat.reduceLT, Nat.reduceBEq, Nat.reduceAdd, Nat.reduceEqDiff, Nat.reduceLeDiff, Nat.reduceSub, Nat.reduceMul, e3], by simp -implicitDefEqProofs only [go_sem, Nat.reduceLT, Nat.reduceBEq, Nat.reduceAdd, Nat.reduceEqDiff, Nat.reduceLeDiff, Nat.reduceSub, Nat.reduceMul, e7], by simp -implicitDefEqProofs only [go_sem, Nat.reduceLT, Nat.reduceBEq, Nat.reduceAdd, Nat.reduceEqDiff, Nat.reduceLeDiff, Nat.reduceSub, Nat.reduceMul, e8], by simp -implicitDefEqProofs only [go_sem, Nat.reduceLT, Nat.reduceBEq, Nat.reduceAdd, Nat.reduceEqDiff, Nat.reduceLeDiff, Nat.reduceSub, Nat.reduceMul, e9], hcr⟩, by simp -implicitDefEqProofs only [go_sem, Nat.reduceLT, Nat.reduceBEq, Nat.reduceAdd, Nat.reduceEqDiff, Nat.reduceLeDiff, Nat.reduceSub, Nat.reduceMul, e10], by simp -implicitDefEqProofs only [go_sem, Nat.reduceLT, Nat.reduceBEq, Nat.reduceAdd, Nat.reduceEqDiff, Nat.reduceLeDiff, Nat.reduceSub, Nat.reduceMul, e11], by simp -implicitDefEqProofs only [go_sem, Nat.reduceLT, Nat.reduceBEq, Nat.reduceAdd, Nat.reduceEqDiff, Nat.reduceLeDiff, Nat.reduceSub, Nat.reduceMul, e53], by simp -implicitDefEqProofs only [go_sem, Nat.reduceLT, Nat.reduceBEq, Nat.reduceAdd, Nat.reduceEqDiff, Nat.reduceLeDiff, Nat.reduceSub, Nat.reduceMul]; rfl, by omega⟩
      · have hm1 : M.m = 1 := by omega
        have hj0 : j = 0 := by omega
        have hZ0 : Z = 0 := by rw [← hZ, hj0, h.one hm1]; rfl
        subst hZ0
        simp -implicitDefEqProofs only [go_sem, Nat.reduceLT, Nat.reduceBEq, Nat.reduceAdd, Nat.reduceEqDiff, Nat.reduceLeDiff, Nat.reduceSub, Nat.reduceMul, e3, e7, e8, e9, e10, e11, e54, h0, h1, h2, hiN, hjN, hjI, hiI, gat_tab, hAv, hBv, hX, hXv, hwd, hw1, hw2, hw3, hw4, ht, hne, hwj, hst, hjN1]
        exact l_n ⟨j + 1, by omega, ⟨rfl, by simp -implicitDefEqProofs only [go_sem, Nat.reduceLT, Nat.reduceBEq, Nat.reduceAdd, Nat.reduceEqDiff, Nat.reduceLeDiff, Nat.reduceSub, Nat.reduceMul, h0], by simp -implicitDefEqProofs only [go_sem, Nat.reduceLT, Nat.reduceBEq, Nat.reduceAdd, Nat.reduceEqDiff, Nat.reduceLeDiff, Nat.reduceSub, Nat.reduceMul, h1], by simp -implicitDefEqProofs only [go_sem, Nat.reduceLT, Nat.reduceBEq, Nat.reduceAdd, Nat.reduceEqDiff, Nat.reduceLeDiff, Nat.reduceSub, Nat.reduceMul], fun b hb => by rw [upd_ne _ _ (by omega)]; exact ho b hb, by simp -implicitDefEqProofs only [go_sem, Nat.reduceLT, Nat.reduceBEq, Nat.reduceAdd, Nat.reduceEqDiff, Nat.reduceLeDiff, Nat.reduceSub, Nat.reduceMul, e3], by simp -implicitDefEqProofs only [go_sem, Nat.reduceLT, Nat.reduceBEq, Nat.reduceAdd, Nat.reduceEqDiff, Nat.reduceLeDiff, Nat.reduceSub, Nat.reduceMul, e7], by simp -implicitDefEqProofs only [go_sem, Nat.reduceLT, Nat.reduceBEq, Nat.reduceAdd, Nat.reduceEqDiff, Nat.reduceLeDiff, Nat.reduceSub, Nat.reduceMul, e8], by simp -implicitDefEqProofs only [go_sem, Nat.reduceLT, Nat.reduceBEq, Nat.reduceAdd, Nat.reduceEqDiff, Nat.reduceLeDiff, Nat.reduceSub, Nat.reduceMul, e9], hcr⟩, by simp -implicitDefEqProofs only [go_sem, Nat.reduceLT, Nat.reduceBEq, Nat.reduceAdd, Nat.reduceEqDiff, Nat.reduceLeDiff, Nat.reduceSub, Nat.reduceMul, e10], by simp -implicitDefEqProofs only [go_sem, Nat.reduceLT, Nat.reduceBEq, Nat.reduceAdd, Nat.reduceEqDiff, Nat.reduceLeDiff, Nat.reduceSub, Nat.reduceMul, e11], by simp -implicitDefEqProofs only [go_sem, Nat.reduceLT, Nat.reduceBEq, Nat.reduceAdd, Nat.reduceEqDiff, Nat.reduceLeDiff, Nat.reduceSub, Nat.reduceMul, e53], by simp -implicitDefEqProofs only [go_sem, Nat.reduceLT, Nat.reduceBEq, Nat.reduceAdd, Nat.reduceEqDiff, Nat.reduceLeDiff, Nat.reduceSub, Nat.reduceMul]; rfl, by omega⟩
    · have : j = M.m := by omega
      subst this
      have hwi := wrap64 (x := (i : Int) - 1) (by omega)
      simp -implicitDefEqProofs only [go_sem, Nat.reduceLT, Nat.reduceBEq, Nat.reduceAdd, Nat.reduceEqDiff, Nat.reduceLeDiff, Nat.reduceSub, Nat.reduceMul, e10, hwi]
      refine l_n ⟨i, by omega, _, ⟨rfl, h0, h1, h2, ho, by simp -implicitDefEqProofs only [go_sem, Nat.reduceLT, Nat.reduceBEq, Nat.reduceAdd, Nat.reduceEqDiff, Nat.reduceLeDiff, Nat.reduceSub, Nat.reduceMul, e3], by simp -implicitDefEqProofs only [go_sem, Nat.reduceLT, Nat.reduceBEq, Nat.reduceAdd, Nat.reduceEqDiff, Nat.reduceLeDiff, Nat.reduceSub, Nat.reduceMul, e7], by simp -implicitDefEqProofs only [go_sem, Nat.reduceLT, Nat.reduceBEq, Nat.reduceAdd, Nat.reduceEqDiff, Nat.reduceLeDiff, Nat.reduceSub, Nat.reduceMul, e8], by simp -implicitDefEqProofs only [go_sem, Nat.reduceLT, Nat.reduceBEq, Nat.reduceAdd, Nat.reduceEqDiff, Nat.reduceLeDiff, Nat.reduceSub, Nat.reduceMul, e9], hc⟩, ?_, by simp -implicitDefEqProofs only [go_sem, Nat.reduceLT, Nat.reduceBEq, Nat.reduceAdd, Nat.reduceEqDiff, Nat.reduceLeDiff, Nat.reduceSub, Nat.reduceMul], by omega⟩
      rw [upper_step, ← hB i (by omega)]
      exact hor_cg hA hS
  · have : i = 0 := by omega
    subst this
    simp -implicitDefEqProofs only [go_sem, Nat.reduceLT, Nat.reduceBEq, Nat.reduceAdd, Nat.reduceEqDiff, Nat.reduceLeDiff, Nat.reduceSub, Nat.reduceMul, e3, e9, h0]
    rw [upper_zero, Alg.mul_comm] at hS
    repeat with_reducible refine And.intro (by omega) ?_
    refine call_of (sp_field_valueOf ((k : Int) + 2) (n + 2) M.m M.m c (by omega) h2 (Nat.le_refl _) (by omega) (by omega) (by omega) hc) ?_
    simp -implicitDefEqProofs only [go_sem, Nat.reduceLT, Nat.reduceBEq, Nat.reduceAdd, Nat.reduceEqDiff, Nat.reduceLeDiff, Nat.reduceSub, Nat.reduceMul]
    exact fin_ret rfl (by decide) (fz_int (cd_mul_of hc hS)) ho
end
end Go.Proofs.Ytdpibcniodhinaa.Gh
/- Powers of a residue until they repeat, and primitive residues. -/
namespace Go.Proofs.Ytdpibcniodhinaa.Gh
open Go Go.RowKit
open Alg (CR Fd Ps Dg Zm Mn El Cg sm pw Irr Prm)
set_option linter.unusedVariables false
set_option linter.unusedSimpArgs false

theorem least {P : Nat → Prop} : ∀ (n : Nat), P n → ∃ m, P m ∧ m ≤ n ∧ ∀ i, i < m → ¬ P i := by
  intro n
  induction n using Nat.strongRecOn with
  | ind n ih =>
    intro h
    by_cases e : ∃ i, i < n ∧ P i
    · obtain ⟨i, h1, h2⟩ := e
      obtain ⟨m, a, b, c⟩ := ih i h1 h2
      exact ⟨m, a, by omega, c⟩
    · exact ⟨n, h, Nat.le_refl _, fun i hi hp => e ⟨i, hi, hp⟩⟩

section
variable {k : Nat} {M : Mn k}
/-- the order as a natural number -/
def qn (M : Mn k) : Nat := (k + 2) ^ M.m
theorem qq_qn (M : Mn k) : qq M = (qn M : Nat) := by
  show ((k : Int) + 2) ^ M.m = (((k + 2) ^ M.m : Nat) : Int)
  push_cast; rfl
theorem qn_two (M : Mn k) : 2 ≤ qn M := by
  have h1 := pow_mono (p := (k : Int) + 2) (by omega) (i := 1) (j := M.m) M.pos
  rw [Int.pow_succ, Int.pow_zero, Int.one_mul] at h1
  have h2 : qq M = ((k : Int) + 2) ^ M.m := rfl
  have := qq_qn M
  omega
theorem Fc.qn (h : Fc M) : qn M ≤ 256 := by have := h.q; rw [qq_qn] at this; omega
/-- the number of a residue -/
def cn (a : El M) : Nat := (cd a).toNat
theorem cn_cd (a : El M) : (cn a : Int) = cd a := Int.toNat_of_nonneg (cd_nn a).1
theorem cn_lt (a : El M) : cn a < qn M := by
  have h1 := (cd_nn a).2
  have h2 : qq M = ((k : Int) + 2) ^ M.m := rfl
  have h3 := qq_qn M
  have h4 := cn_cd a
  omega
theorem cn_inj {a b : El M} (h : cn a = cn b) : a = b := cd_inj (by rw [← cn_cd, ← cn_cd, h])
theorem cn_zero : cn (0 : El M) = 0 := by have := cn_cd (0 : El M); rw [cd_zero] at this; omega
theorem cn_one : cn (1 : El M) = 1 := by have := cn_cd (1 : El M); rw [cd_one] at this; omega
theorem cn_eq_zero {a : El M} : cn a = 0 ↔ a = 0 := ⟨fun h => cn_inj (by rw [h, cn_zero]), fun h => by rw [h, cn_zero]⟩
theorem el_cn (a : El M) : el M (cn a : Nat) = a := by rw [cn_cd, el_cd]
theorem cn_el {i : Nat} (h : i < qn M) : cn (el M (i : Nat)) = i := by
  have h2 : qq M = ((k : Int) + 2) ^ M.m := rfl
  have h3 := qq_qn M
  have := cd_el (M := M) (x := (i : Nat)) (by omega) (by omega)
  have h4 := cn_cd (el M (i : Nat))
  omega
theorem cd_cn (a : El M) : cd a = (cn a : Nat) := (cn_cd a).symm
theorem el1_ne : (1 : El M) ≠ 0 := fun e => by have := cn_one (M := M); rw [e, cn_zero] at this; omega
/-- the residues other than 0 -/
def nzE (M : Mn k) : List (El M) := (List.range (qn M - 1)).map fun i => el M ((i + 1 : Nat) : Int)
theorem nzE_len : (nzE M).length = qn M - 1 := by simp [nzE]
theorem nzE_mem (a : El M) (h : a ≠ 0) : a ∈ nzE M := by
  simp only [nzE, List.mem_map, List.mem_range]
  have h0 : cn a ≠ 0 := fun e => h (cn_eq_zero.1 e)
  refine ⟨cn a - 1, by have := cn_lt a; omega, ?_⟩
  rw [show cn a - 1 + 1 = cn a by omega, el_cn]
theorem nzE_nodup : (nzE M).Nodup := Alg.nodup_map_range fun i j h1 h2 e => by
  have := congrArg cn e
  rw [cn_el (by omega), cn_el (by omega)] at this
  omega
theorem nzE_ne : ∀ x ∈ nzE M, x ≠ 0 := by
  intro x hx e
  simp only [nzE, List.mem_map, List.mem_range] at hx
  obtain ⟨i, hi, rfl⟩ := hx
  have := congrArg cn e
  rw [cn_el (by omega), cn_zero] at this
  omega

/-- the powers end: with 0, or with one that was met -/
def Stop (x : El M) (L : Nat) : Prop := pw x L = 0 ∨ ∃ i, i < L ∧ pw x L = pw x i
theorem run_le {x : El M} {n : Nat} (h : ∀ i, 1 ≤ i → i < n → ¬ Stop x i) (hn : 0 < n) : ((List.range n).map fun i => pw x i).Nodup ∧ (∀ a ∈ (List.range n).map fun i => pw x i, a ∈ nzE M) ∧ n ≤ qn M - 1 := by
  classical
  have hz : ∀ i, i < n → pw x i ≠ 0 := by
    intro i hi
    cases i with
    | zero => exact el1_ne
    | succ i => exact fun e => h (i + 1) (by omega) hi (.inl e)
  have hnd : ((List.range n).map fun i => pw x i).Nodup := Alg.nodup_map_range fun i j h1 h2 e => h j (by omega) h2 (.inr ⟨i, h1, e.symm⟩)
  have hm : ∀ a ∈ (List.range n).map fun i => pw x i, a ∈ nzE M := by
    intro a ha
    simp only [List.mem_map, List.mem_range] at ha
    obtain ⟨i, hi, rfl⟩ := ha
    exact nzE_mem _ (hz i hi)
  have hl := Alg.nodup_le _ _ hnd hm
  rw [nzE_len] at hl
  simp at hl
  exact ⟨hnd, hm, hl⟩
theorem plen_ex (x : El M) : ∃ L, (1 ≤ L ∧ Stop x L) ∧ L ≤ qn M - 1 ∧ ∀ i, i < L → ¬ (1 ≤ i ∧ Stop x i) := by
  by_cases h : ∃ L, L ≤ qn M - 1 ∧ 1 ≤ L ∧ Stop x L
  · obtain ⟨L, h1, h2⟩ := h
    obtain ⟨m, a, b, c⟩ := least (P := fun L => 1 ≤ L ∧ Stop x L) L h2
    exact ⟨m, a, by omega, c⟩
  · exfalso
    have := (run_le (x := x) (n := qn M) (fun i h1 h2 hs => h ⟨i, by omega, h1, hs⟩) (by have := qn_two M; omega)).2.2
    have := qn_two M
    omega
/-- how many powers are listed -/
noncomputable def plen (x : El M) : Nat := Classical.choose (plen_ex x)
theorem plen_pos (x : El M) : 1 ≤ plen x := (Classical.choose_spec (plen_ex x)).1.1
theorem plen_stop (x : El M) : Stop x (plen x) := (Classical.choose_spec (plen_ex x)).1.2
theorem plen_le (x : El M) : plen x ≤ qn M - 1 := (Classical.choose_spec (plen_ex x)).2.1
theorem plen_run (x : El M) : ∀ i, 1 ≤ i → i < plen x → ¬ Stop x i := fun i h1 h2 h => (Classical.choose_spec (plen_ex x)).2.2 i h2 ⟨h1, h⟩
/-- a generator, as the program asks for it -/
def Gen (x : El M) : Prop := plen x = qn M - 1 ∧ pw x (qn M - 1) = 1
theorem gen_all {x : El M} (h : Gen x) (a : El M) (ha : a ≠ 0) : ∃ i, i < qn M - 1 ∧ pw x i = a := by
  classical
  have h2 := qn_two M
  obtain ⟨h3, h4, h5⟩ := run_le (x := x) (n := qn M - 1) (fun i h1 h2 => plen_run x i h1 (by rw [h.1]; exact h2)) (by omega)
  by_cases e : a ∈ (List.range (qn M - 1)).map fun i => pw x i
  · simp only [List.mem_map, List.mem_range] at e
    exact e
  · exfalso
    have := Alg.nodup_le (a :: (List.range (qn M - 1)).map fun i => pw x i) (nzE M) (List.nodup_cons.2 ⟨e, h3⟩) (by
      intro y hy
      rcases List.mem_cons.1 hy with rfl | hy
      · exact nzE_mem _ ha
      · exact h4 y hy)
    rw [nzE_len] at this
    simp at this
    omega
theorem gen_inj {x : El M} (h : Gen x) {i j : Nat} (hi : i < qn M - 1) (hj : j < qn M - 1) (e : pw x i = pw x j) : i = j := by
  rcases Nat.lt_trichotomy i j with h1 | h1 | h1
  · exact absurd (.inr ⟨i, h1, e.symm⟩) (plen_run x j (by omega) (by rw [h.1]; exact hj))
  · exact h1
  · exact absurd (.inr ⟨j, h1, e⟩) (plen_run x i (by omega) (by rw [h.1]; exact hi))
theorem gen_ne {x : El M} (h : Gen x) (i : Nat) (hi : i < qn M - 1) : pw x i ≠ 0 := by
  cases i with
  | zero => exact el1_ne
  | succ i => exact fun e => plen_run x (i + 1) (by omega) (by rw [h.1]; exact hi) (.inl e)
theorem gen_mod {x : El M} (h : Gen x) (i : Nat) : pw x i = pw x (i % (qn M - 1)) := by
  have e := Nat.div_add_mod i (qn M - 1)
  have : pw x i = pw x ((qn M - 1) * (i / (qn M - 1)) + i % (qn M - 1)) := by rw [e]
  rw [this, Alg.pw_add, Alg.pw_mul, h.2, Alg.one_pw, Alg.one_mul]
theorem gen_irr (hp : Prm ((k : Int) + 2)) : (∃ x : El M, x ≠ 0 ∧ Gen x) ↔ Irr M := by
  classical
  have hq2 := qn_two M
  constructor
  · rintro ⟨x, hx, hg⟩
    refine Alg.irr_of_inv fun a ha => ?_
    obtain ⟨i, hi, rfl⟩ := gen_all hg a ha
    refine ⟨pw x (qn M - 1 - i), ?_⟩
    rw [← Alg.pw_add, show i + (qn M - 1 - i) = qn M - 1 by omega]
    exact hg.2
  · intro hi
    letI : Alg.Fd (El M) := Alg.elFd hp hi
    obtain ⟨x, hx, ho⟩ := Alg.primitive_ex (nzE M) nzE_nodup nzE_mem nzE_ne
    rw [nzE_len] at ho
    refine ⟨x, hx, ?_, ho.2.1⟩
    have h1 := plen_le x
    have h2 := plen_pos x
    rcases plen_stop x with h | ⟨i, h3, h4⟩
    · exact absurd h (Alg.pw_ne_zero hx _)
    · have h5 : pw x (plen x - i) = 1 := by
        have : pw x (plen x) = pw x i * pw x (plen x - i) := by rw [← Alg.pw_add]; congr 1; omega
        rw [this] at h4
        exact Alg.mul_left_cancel (Alg.pw_ne_zero hx i) (by rw [Alg.mul_one]; exact h4)
      have := Nat.le_of_dvd (by omega) (ho.dvd h5)
      omega
theorem gnr_ex (h : ∃ x : El M, x ≠ 0 ∧ Gen x) : ∃ i, (1 ≤ i ∧ i < qn M ∧ Gen (el M (i : Nat))) ∧ ∀ j, j < i → ¬ (1 ≤ j ∧ j < qn M ∧ Gen (el M (j : Nat))) := by
  obtain ⟨x, hx, hg⟩ := h
  have h0 : cn x ≠ 0 := fun e => hx (cn_eq_zero.1 e)
  obtain ⟨m, a, b, c⟩ := least (P := fun i => 1 ≤ i ∧ i < qn M ∧ Gen (el M (i : Nat))) (cn x) ⟨by omega, cn_lt x, by rw [el_cn]; exact hg⟩
  exact ⟨m, a, c⟩
/-- the first generator, as a number -/
noncomputable def gi (h : ∃ x : El M, x ≠ 0 ∧ Gen x) : Nat := Classical.choose (gnr_ex h)
theorem gi_spec (h : ∃ x : El M, x ≠ 0 ∧ Gen x) : (1 ≤ gi h ∧ gi h < qn M ∧ Gen (el M (gi h : Nat))) ∧ ∀ j, j < gi h → ¬ (1 ≤ j ∧ j < qn M ∧ Gen (el M (j : Nat))) := Classical.choose_spec (gnr_ex h)
noncomputable def gnr (h : ∃ x : El M, x ≠ 0 ∧ Gen x) : El M := el M (gi h : Nat)
theorem gnr_gen (h : ∃ x : El M, x ≠ 0 ∧ Gen x) : Gen (gnr h) := (gi_spec h).1.2.2
/-- the exponents -/
theorem lg_ex (g a : El M) : ∃ i : Nat, (Gen g → a ≠ 0 → i < qn M - 1 ∧ pw g i = a) ∧ (a = 0 → i = 0) := by
  by_cases h0 : a = 0
  · exact ⟨0, fun _ h => absurd h0 h, fun _ => rfl⟩
  · by_cases hg : Gen g
    · obtain ⟨i, h1, h2⟩ := gen_all hg a h0
      exact ⟨i, fun _ _ => ⟨h1, h2⟩, fun h => absurd h h0⟩
    · exact ⟨0, fun h => absurd h hg, fun _ => rfl⟩
noncomputable def lg (g a : El M) : Nat := Classical.choose (lg_ex g a)
theorem lg_lt {g a : El M} (h : Gen g) (ha : a ≠ 0) : lg g a < qn M - 1 := ((Classical.choose_spec (lg_ex g a)).1 h ha).1
theorem lg_pw {g a : El M} (h : Gen g) (ha : a ≠ 0) : pw g (lg g a) = a := ((Classical.choose_spec (lg_ex g a)).1 h ha).2
theorem lg_zero (g : El M) : lg g 0 = 0 := (Classical.choose_spec (lg_ex g 0)).2 rfl
theorem lg_of {g : El M} (h : Gen g) {i : Nat} (hi : i < qn M - 1) : lg g (pw g i) = i :=
  gen_inj h (lg_lt h (gen_ne h i hi)) hi (lg_pw h (gen_ne h i hi))
theorem mul_lg {g a b : El M} (h : Gen g) (ha : a ≠ 0) (hb : b ≠ 0) : a * b = pw g ((lg g a + lg g b) % (qn M - 1)) := by
  rw [← gen_mod h, Alg.pw_add, lg_pw h ha, lg_pw h hb]
end
end Go.Proofs.Ytdpibcniodhinaa.Gh
/- The program's powers of an element. -/
namespace Go.Proofs.Ytdpibcniodhinaa.Gh
open Go Go.RowKit
open Alg (CR Ps Dg Zm Mn El Cg sm pw Irr Prm)
set_option linter.unusedVariables false
set_option linter.unusedSimpArgs false

theorem upd_no {H : Heap} {b c : Nat} {x : Option (List GV)} (h : (c = b) = False) : upd H b x c = H c := if_neg (of_eq_false h)
section
variable {k : Nat} {M : Mn k}
theorem sp_mul {H : Heap} {n : Nat} (h : Fc M) (x y : El M) : Spec prog fid_field_multiply [fd M, .int .i64 (cn x : Nat), .int .i64 (cn y : Nat)] H n (.int .i64 (cn (x * y) : Nat)) H n := by
  have := sp_field_multiply (H := H) (n := n) h x y
  simpa only [cd_cn] using this
/-- what is marked as met -/
noncomputable def snb (x : El M) (i j : Nat) : Bool := (List.range i).any fun t => cn (pw x t) == j
theorem snb_iff {x : El M} {i j : Nat} : snb x i j = true ↔ ∃ t, t < i ∧ cn (pw x t) = j := by
  simp [snb]
noncomputable def sn (x : El M) (i : Nat) : Nat → GV := fun j => .bool (snb x i j)
theorem sn_step (x : El M) (i : Nat) : upf (sn x i) (cn (pw x i)) (.bool true) = sn x (i + 1) := by
  funext j
  simp only [upf, sn]
  by_cases h : j = cn (pw x i)
  · rw [if_pos h]
    exact congrArg GV.bool (snb_iff.2 ⟨i, by omega, h.symm⟩).symm
  · rw [if_neg h]
    refine congrArg GV.bool ?_
    rw [Bool.eq_iff_iff, snb_iff, snb_iff]
    constructor
    · rintro ⟨t, h1, h2⟩; exact ⟨t, by omega, h2⟩
    · rintro ⟨t, h1, h2⟩
      refine ⟨t, ?_, h2⟩
      by_cases e : t = i
      · subst e; exact absurd h2.symm h
      · omega
theorem sn_at (x : El M) (i j : Nat) : sn x i j = .bool (snb x i j) := rfl
/-- a row of powers -/
noncomputable def pws (x : El M) : Nat → Int := fun t => (cn (pw x t) : Nat)

theorem sp_field_powers {H : Heap} {n : Nat} (h : Fc M) (x : El M) : Spec prog fid_field_powers [fd M, .int .i64 (qn M : Nat), .int .i64 (cn x : Nat)] H n (.own n 0 (plen x)) (upd H n (some (tab (plen x) (it (pws x))))) (n + 1) := by
  refine spec_ends1 hmix ok_field_powers rfl fun hF => ?_
  show gw prog B_field_powers _ (tl 37 _) H n
  have hq2 := qn_two M
  have hq := h.qn
  have hm1 : (1 : Int) < (qn M : Int) := by omega
  have hm2 : 1 < qn M := by omega
  have h11 : (1 : Int).toNat = 1 := rfl
  have h01 : (0 : Int) ≤ 1 := by omega
  have hrep : tab (qn M) (upf (fun _ => GV.bool false) 1 (.bool true)) = tab (qn M) (sn x 1) := by
    rw [← sn_step x 0]
    have e1 : sn x 0 = fun _ => GV.bool false := by funext j; rfl
    have e2 : cn (pw x 0) = 1 := cn_one
    rw [e1, e2]
  simp -implicitDefEqProofs only [B_field_powers, fd, go_sem, Nat.reduceLT, Nat.reduceBEq, Nat.reduceAdd, Nat.reduceEqDiff, Nat.reduceLeDiff, Nat.reduceSub, Nat.reduceMul, tab_rep, hm1, hm2, h11, h01, hrep]
  repeat with_reducible refine And.intro (by omega) ?_
  refine loop_rule (fun (i : Nat) E H' n' => ∃ b, n + 3 ≤ n' ∧ H' n = some [.int .i64 ((k : Int) + 2), .int .i64 (M.m : Nat), fmod M] ∧ H' (n + 2) = some (tab (qn M) (sn x i)) ∧ H' b = some (tab i (it (pws x))) ∧ (∀ b, b < n → H' b = H b) ∧ E 2 = .int .i64 (cn x : Nat) ∧ E 3 = .ptr n 0 ∧ E 7 = .own b 0 i ∧ E 8 = .own (n + 2) 0 (qn M) ∧ E 9 = .int .i64 (cn (pw x i) : Nat) ∧ n < b ∧ b ≠ n + 2 ∧ b < n' ∧ 1 ≤ i ∧ i ≤ plen x) (fun i => 256 - i) 1 ?_ ?_
  · refine ⟨n + 1, by omega, ?_, ?_, ?_, fun c hc => by rw [upd_ne _ _ (by omega), upd_ne _ _ (by omega), upd_ne _ _ (by omega)], rfl, rfl, rfl, rfl, ?_, by omega, by omega, by omega, by omega, plen_pos x⟩
    · simp -implicitDefEqProofs only [go_sem, Nat.reduceLT, Nat.reduceBEq, Nat.reduceAdd, Nat.reduceEqDiff, Nat.reduceLeDiff, Nat.reduceSub, Nat.reduceMul]
    · simp -implicitDefEqProofs only [go_sem, Nat.reduceLT, Nat.reduceBEq, Nat.reduceAdd, Nat.reduceEqDiff, Nat.reduceLeDiff, Nat.reduceSub, Nat.reduceMul]
    · simp -implicitDefEqProofs only [go_sem, Nat.reduceLT, Nat.reduceBEq, Nat.reduceAdd, Nat.reduceEqDiff, Nat.reduceLeDiff, Nat.reduceSub, Nat.reduceMul]
      show some [GV.int .i64 1] = some [GV.int .i64 ((cn (1 : El M) : Nat) : Int)]
      rw [cn_one]; rfl
    · simp -implicitDefEqProofs only [go_sem, Nat.reduceLT, Nat.reduceBEq, Nat.reduceAdd, Nat.reduceEqDiff, Nat.reduceLeDiff, Nat.reduceSub, Nat.reduceMul, Alg.pw_one]
  rintro i E H' n' ⟨b, hn, h0, h2, hb, ho, e2, e3, e7, e8, e9, b1, b2, b3, i1, i2⟩
  have hpl := plen_le x
  have hlt := cn_lt (pw x i)
  have hltI : ((cn (pw x i) : Nat) : Int) < (qn M : Int) := by omega
  have hnn := Int.natCast_nonneg (cn (pw x i))
  by_cases hi : i < plen x
  · have hst := plen_run x i i1 hi
    have hz : ((cn (pw x i) : Nat) : Int) ≠ 0 := fun e => hst (.inl (cn_eq_zero.1 (by omega)))
    have hz' : (((cn (pw x i) : Nat) : Int) = 0) = False := eq_false hz
    have hsn : snb x i (cn (pw x i)) = false := by
      rw [Bool.eq_false_iff]
      intro e
      obtain ⟨t, t1, t2⟩ := snb_iff.1 e
      exact hst (.inr ⟨t, t1, (cn_inj t2).symm⟩)
    have f1 : (n = n + 2) = False := by simp
    have f2 : (b = n + 2) = False := eq_false b2
    have f3 : (n' = n + 2) = False := eq_false (by omega)
    have f4 : (b = n') = False := eq_false (by omega)
    have f5 : (n + 2 = n') = False := eq_false (by omega)
    have f6 : (n = n') = False := eq_false (by omega)
    have f7 : (n = n' + 1) = False := eq_false (by omega)
    have f8 : (n = b) = False := eq_false (by omega)
    have f9 : (n + 2 = n' + 1) = False := eq_false (by omega)
    have f10 : (n + 2 = b) = False := eq_false (by omega)
    have f11 : (b = n' + 1) = False := eq_false (by omega)
    have f12 : (n' = b) = False := eq_false (by omega)
    have hs1 : tab i (it (pws x)) ++ [GV.int .i64 (cn (pw x i) : Nat)] = tab (i + 1) (it (pws x)) := tab_succ.symm
    simp -implicitDefEqProofs only [go_sem, Nat.reduceLT, Nat.reduceBEq, Nat.reduceAdd, Nat.reduceEqDiff, Nat.reduceLeDiff, Nat.reduceSub, Nat.reduceMul, e2, e3, e7, e8, e9, h0, h2, hb, hz', hsn, hltI, hlt, hnn, gat_tab, sn_at, sn_step, upd_no, f1, f2, f3, f4, f5, f6, f7, f8, f9, f10, f11, f12, hs1]
    repeat with_reducible refine And.intro (by omega) ?_
    refine call_of (sp_mul h (pw x i) x) ?_
    simp -implicitDefEqProofs only [go_sem, Nat.reduceLT, Nat.reduceBEq, Nat.reduceAdd, Nat.reduceEqDiff, Nat.reduceLeDiff, Nat.reduceSub, Nat.reduceMul]
    refine l_n ⟨i + 1, by omega, n' + 1, by omega, ?_, ?_, ?_, fun c hc => ?_, ?_, ?_, ?_, ?_, ?_, by omega, by omega, by omega, by omega, by omega⟩
    · simp -implicitDefEqProofs only [go_sem, Nat.reduceLT, Nat.reduceBEq, Nat.reduceAdd, Nat.reduceEqDiff, Nat.reduceLeDiff, Nat.reduceSub, Nat.reduceMul, h0, upd_no, f1, f2, f3, f4, f5, f6, f7, f8]
    · simp -implicitDefEqProofs only [go_sem, Nat.reduceLT, Nat.reduceBEq, Nat.reduceAdd, Nat.reduceEqDiff, Nat.reduceLeDiff, Nat.reduceSub, Nat.reduceMul, h0, upd_no, f1, f2, f3, f4, f5, f6, f7, f8, f9, f10]
    · simp -implicitDefEqProofs only [go_sem, Nat.reduceLT, Nat.reduceBEq, Nat.reduceAdd, Nat.reduceEqDiff, Nat.reduceLeDiff, Nat.reduceSub, Nat.reduceMul]
    · rw [upd_ne _ _ (by omega), upd_ne _ _ (by omega), upd_ne _ _ (by omega), upd_ne _ _ (by omega)]; exact ho c hc
    · simp -implicitDefEqProofs only [go_sem, Nat.reduceLT, Nat.reduceBEq, Nat.reduceAdd, Nat.reduceEqDiff, Nat.reduceLeDiff, Nat.reduceSub, Nat.reduceMul, e2]
    · simp -implicitDefEqProofs only [go_sem, Nat.reduceLT, Nat.reduceBEq, Nat.reduceAdd, Nat.reduceEqDiff, Nat.reduceLeDiff, Nat.reduceSub, Nat.reduceMul, e3]
    · simp -implicitDefEqProofs only [go_sem, Nat.reduceLT, Nat.reduceBEq, Nat.reduceAdd, Nat.reduceEqDiff, Nat.reduceLeDiff, Nat.reduceSub, Nat.reduceMul]
    · simp -implicitDefEqProofs only [go_sem, Nat.reduceLT, Nat.reduceBEq, Nat.reduceAdd, Nat.reduceEqDiff, Nat.reduceLeDiff, Nat.reduceSub, Nat.reduceMul, e8]
    · simp -implicitDefEqProofs only [go_sem, Nat.reduceLT, Nat.reduceBEq, Nat.reduceAdd, Nat.reduceEqDiff, Nat.reduceLeDiff, Nat.reduceSub, Nat.reduceMul]; rfl
  · have hi : i = plen x := by omega
    subst hi
    have fin : ∀ (E : Env), E 6 = .own b 0 (plen x) → F_field_powers.ends1 H n (.own n 0 (plen x)) (tab (plen x) (it (pws x))) .ret (tl 37 E) H' n' := by
      intro E he
      exact fin_own rfl (by decide) he (by omega) hb trs_it ho
    rcases plen_stop x with hz | ⟨t, t1, t2⟩
    · have hz' : ((cn (pw x (plen x)) : Nat) : Int) = 0 := by rw [hz, cn_zero]; rfl
      simp -implicitDefEqProofs only [go_sem, Nat.reduceLT, Nat.reduceBEq, Nat.reduceAdd, Nat.reduceEqDiff, Nat.reduceLeDiff, Nat.reduceSub, Nat.reduceMul, e2, e3, e7, e8, e9, hz']
      exact fin _ (by simp -implicitDefEqProofs only [go_sem, Nat.reduceLT, Nat.reduceBEq, Nat.reduceAdd, Nat.reduceEqDiff, Nat.reduceLeDiff, Nat.reduceSub, Nat.reduceMul, e7])
    · have hsn : snb x (plen x) (cn (pw x (plen x))) = true := snb_iff.2 ⟨t, t1, by rw [t2]⟩
      by_cases hz : ((cn (pw x (plen x)) : Nat) : Int) = 0
      · simp -implicitDefEqProofs only [go_sem, Nat.reduceLT, Nat.reduceBEq, Nat.reduceAdd, Nat.reduceEqDiff, Nat.reduceLeDiff, Nat.reduceSub, Nat.reduceMul, e2, e3, e7, e8, e9, hz]
        exact fin _ (by simp -implicitDefEqProofs only [go_sem, Nat.reduceLT, Nat.reduceBEq, Nat.reduceAdd, Nat.reduceEqDiff, Nat.reduceLeDiff, Nat.reduceSub, Nat.reduceMul, e7])
      · simp -implicitDefEqProofs only [go_sem, Nat.reduceLT, Nat.reduceBEq, Nat.reduceAdd, Nat.reduceEqDiff, Nat.reduceLeDiff, Nat.reduceSub, Nat.reduceMul, e2, e3, e7, e8, e9, hz, h2, hltI, hlt, hnn, gat_tab, sn_at, hsn]
        exact fin _ (by simp -implicitDefEqProofs only [go_sem, Nat.reduceLT, Nat.reduceBEq, Nat.reduceAdd, Nat.reduceEqDiff, Nat.reduceLeDiff, Nat.reduceSub, Nat.reduceMul, e7])
end
end Go.Proofs.Ytdpibcniodhinaa.Gh
/- The program's search for a generator. -/
namespace Go.Proofs.Ytdpibcniodhinaa.Gh
open Go Go.RowKit
open Alg (CR Ps Dg Zm Mn El Cg sm pw Irr Prm)
set_option linter.unusedVariables false
set_option linter.unusedSimpArgs false

section
variable {k : Nat} {M : Mn k}
theorem generator_walk {H : Heap} {n : Nat} (h : Fc M) (Q : GPost)
    (hs : ∀ (x b n' : Nat) (E : Env) (H' : Heap), 1 ≤ x → x < qn M → Gen (el M (x : Nat)) → (∀ j : Nat, 1 ≤ j → j < x → ¬ Gen (el M (j : Nat))) → H' b = some (tab (qn M - 1) (it (pws (el M (x : Nat))))) → n ≤ b → (∀ c, c < n → H' c = H c) → E 4 = .own b 0 (qn M - 1) → Q .ret (tl 33 E) H' n')
    (hn : (∀ j : Nat, 1 ≤ j → j < qn M → ¬ Gen (el M (j : Nat))) → ∀ (n' : Nat) (E : Env) (H' : Heap), (∀ c, c < n → H' c = H c) → E 4 = .nil → Q .ret (tl 33 E) H' n') :
    gw prog B_field_generator Q (tl 33 (mkE 0 [fd M, .int .i64 (qn M : Nat)])) H n := by
  have hq2 := qn_two M
  have hq := h.qn
  simp -implicitDefEqProofs only [B_field_generator, fd, go_sem, Nat.reduceLT, Nat.reduceBEq, Nat.reduceAdd, Nat.reduceEqDiff, Nat.reduceLeDiff, Nat.reduceSub, Nat.reduceMul]
  refine loop_rule (fun (x : Nat) E H' n' => n + 1 ≤ n' ∧ H' n = some [.int .i64 ((k : Int) + 2), .int .i64 (M.m : Nat), fmod M] ∧ (∀ b, b < n → H' b = H b) ∧ E 1 = .int .i64 (qn M : Nat) ∧ E 2 = .ptr n 0 ∧ E 5 = .int .i64 x ∧ 1 ≤ x ∧ x ≤ qn M ∧ ∀ j : Nat, 1 ≤ j → j < x → ¬ Gen (el M (j : Nat))) (fun x => qn M - x) 1 ?_ ?_
  · refine ⟨by omega, ?_, fun c hc => by rw [upd_ne _ _ (by omega)], rfl, rfl, rfl, by omega, by omega, fun j h1 h2 => by omega⟩
    simp -implicitDefEqProofs only [go_sem, Nat.reduceLT, Nat.reduceBEq, Nat.reduceAdd, Nat.reduceEqDiff, Nat.reduceLeDiff, Nat.reduceSub, Nat.reduceMul]
  rintro x E H' n' ⟨hn', h0, ho, e1, e2, e5, x1, x2, hx⟩
  simp -implicitDefEqProofs only [go_sem, Nat.reduceLT, Nat.reduceBEq, Nat.reduceAdd, Nat.reduceEqDiff, Nat.reduceLeDiff, Nat.reduceSub, Nat.reduceMul, e1, e5]
  refine c_split (fun hlt => ?_) (fun hlt => ?_)
  · have hxq : x < qn M := by omega
    have hcx := cn_el (M := M) hxq
    simp -implicitDefEqProofs only [go_sem, Nat.reduceLT, Nat.reduceBEq, Nat.reduceAdd, Nat.reduceEqDiff, Nat.reduceLeDiff, Nat.reduceSub, Nat.reduceMul, e1, e2, e5, h0]
    repeat with_reducible refine And.intro (by omega) ?_
    have hpw := sp_field_powers (H := H') (n := n') h (el M (x : Nat))
    rw [hcx] at hpw
    refine call_of hpw ?_
    have hw1 : IntKind.i64.wrap ((qn M : Int) - 1) = ((qn M - 1 : Nat) : Int) := (wrap64 (by omega)).trans (by omega)
    have hw2 : IntKind.i64.wrap ((qn M : Int) - 2) = ((qn M - 2 : Nat) : Int) := (wrap64 (by omega)).trans (by omega)
    have hwx := wrap64 (x := (x : Int) + 1) (by omega)
    have f1 : (n = n') = False := eq_false (by omega)
    have next : ¬ Gen (el M (x : Nat)) → ∀ j : Nat, 1 ≤ j → j < x + 1 → ¬ Gen (el M (j : Nat)) := by
      intro hg j h1 h2
      by_cases e : j = x
      · subst e; exact hg
      · exact hx j h1 (by omega)
    by_cases hpl : plen (el M (x : Nat)) = qn M - 1
    · have i1 : ((qn M - 2 : Nat) : Int) < ((qn M - 1 : Nat) : Int) := by omega
      have i2 : qn M - 2 < qn M - 1 := by omega
      have i3 := Int.natCast_nonneg (qn M - 2)
      have i4 : n < n' + 1 := by omega
      have i5 : n' < n' + 1 := by omega
      simp -implicitDefEqProofs only [go_sem, Nat.reduceLT, Nat.reduceBEq, Nat.reduceAdd, Nat.reduceEqDiff, Nat.reduceLeDiff, Nat.reduceSub, Nat.reduceMul, e1, e2, e5, hpl, hw1, hw2, h0, upd_no, f1, i1, i2, i3, i4, i5, gat_tab]
      repeat with_reducible refine And.intro (by omega) ?_
      have hmu := sp_mul (H := upd H' n' (some (tab (qn M - 1) (it (pws (el M (x : Nat))))))) (n := n' + 1) h (pw (el M (x : Nat)) (qn M - 2)) (el M (x : Nat))
      rw [hcx] at hmu
      refine call_of hmu ?_
      have he : pw (el M (x : Nat)) (qn M - 2) * el M (x : Nat) = pw (el M (x : Nat)) (qn M - 1) := by rw [← Alg.pw_succ]; congr 1; omega
      rw [he]
      by_cases hg : pw (el M (x : Nat)) (qn M - 1) = 1
      · have hc1 : ((cn (pw (el M (x : Nat)) (qn M - 1)) : Nat) : Int) = 1 := by rw [hg, cn_one]; rfl
        simp -implicitDefEqProofs only [go_sem, Nat.reduceLT, Nat.reduceBEq, Nat.reduceAdd, Nat.reduceEqDiff, Nat.reduceLeDiff, Nat.reduceSub, Nat.reduceMul, hc1]
        exact hs x n' _ _ _ x1 hxq ⟨hpl, hg⟩ hx (by simp -implicitDefEqProofs only [go_sem, Nat.reduceLT, Nat.reduceBEq, Nat.reduceAdd, Nat.reduceEqDiff, Nat.reduceLeDiff, Nat.reduceSub, Nat.reduceMul]) (by omega) (fun c hc => by rw [upd_ne _ _ (by omega)]; exact ho c hc) (by simp -implicitDefEqProofs only [go_sem, Nat.reduceLT, Nat.reduceBEq, Nat.reduceAdd, Nat.reduceEqDiff, Nat.reduceLeDiff, Nat.reduceSub, Nat.reduceMul])
      · have hc1 : (((cn (pw (el M (x : Nat)) (qn M - 1)) : Nat) : Int) = 1) = False := eq_false fun e => hg (cn_inj (by rw [cn_one]; omega))
        simp -implicitDefEqProofs only [go_sem, Nat.reduceLT, Nat.reduceBEq, Nat.reduceAdd, Nat.reduceEqDiff, Nat.reduceLeDiff, Nat.reduceSub, Nat.reduceMul, hc1, e5, hwx]
        exact l_n ⟨x + 1, by omega, by omega, by simp -implicitDefEqProofs only [go_sem, Nat.reduceLT, Nat.reduceBEq, Nat.reduceAdd, Nat.reduceEqDiff, Nat.reduceLeDiff, Nat.reduceSub, Nat.reduceMul, upd_no, f1, h0], fun c hc => by rw [upd_ne _ _ (by omega)]; exact ho c hc, by simp -implicitDefEqProofs only [go_sem, Nat.reduceLT, Nat.reduceBEq, Nat.reduceAdd, Nat.reduceEqDiff, Nat.reduceLeDiff, Nat.reduceSub, Nat.reduceMul, e1], by simp -implicitDefEqProofs only [go_sem, Nat.reduceLT, Nat.reduceBEq, Nat.reduceAdd, Nat.reduceEqDiff, Nat.reduceLeDiff, Nat.reduceSub, Nat.reduceMul, e2], by simp -implicitDefEqProofs only [go_sem, Nat.reduceLT, Nat.reduceBEq, Nat.reduceAdd, Nat.reduceEqDiff, Nat.reduceLeDiff, Nat.reduceSub, Nat.reduceMul]; rfl, by omega, by omega, next fun g => hg g.2⟩
    · have i1 : (((plen (el M (x : Nat)) : Nat) : Int) = ((qn M - 1 : Nat) : Int)) = False := eq_false (by omega)
      simp -implicitDefEqProofs only [go_sem, Nat.reduceLT, Nat.reduceBEq, Nat.reduceAdd, Nat.reduceEqDiff, Nat.reduceLeDiff, Nat.reduceSub, Nat.reduceMul, e1, e2, e5, hw1, i1, hwx]
      exact l_n ⟨x + 1, by omega, by omega, by simp -implicitDefEqProofs only [go_sem, Nat.reduceLT, Nat.reduceBEq, Nat.reduceAdd, Nat.reduceEqDiff, Nat.reduceLeDiff, Nat.reduceSub, Nat.reduceMul, upd_no, f1, h0], fun c hc => by rw [upd_ne _ _ (by omega)]; exact ho c hc, by simp -implicitDefEqProofs only [go_sem, Nat.reduceLT, Nat.reduceBEq, Nat.reduceAdd, Nat.reduceEqDiff, Nat.reduceLeDiff, Nat.reduceSub, Nat.reduceMul, e1], by simp -implicitDefEqProofs only [go_sem, Nat.reduceLT, Nat.reduceBEq, Nat.reduceAdd, Nat.reduceEqDiff, Nat.reduceLeDiff, Nat.reduceSub, Nat.reduceMul, e2], by simp -implicitDefEqProofs only [go_sem, Nat.reduceLT, Nat.reduceBEq, Nat.reduceAdd, Nat.reduceEqDiff, Nat.reduceLeDiff, Nat.reduceSub, Nat.reduceMul]; rfl, by omega, by omega, next fun g => hpl g.1⟩
  · simp -implicitDefEqProofs only [go_sem, Nat.reduceLT, Nat.reduceBEq, Nat.reduceAdd, Nat.reduceEqDiff, Nat.reduceLeDiff, Nat.reduceSub, Nat.reduceMul]
    exact hn (fun j h1 h2 => hx j h1 (by omega)) _ _ _ ho (by simp -implicitDefEqProofs only [go_sem, Nat.reduceLT, Nat.reduceBEq, Nat.reduceAdd, Nat.reduceEqDiff, Nat.reduceLeDiff, Nat.reduceSub, Nat.reduceMul])

theorem sp_field_generator {H : Heap} {n : Nat} (h : Fc M) (hg : ∃ x : El M, x ≠ 0 ∧ Gen x) : Spec prog fid_field_generator [fd M, .int .i64 (qn M : Nat)] H n (.own n 0 (qn M - 1)) (upd H n (some (tab (qn M - 1) (it (pws (gnr hg)))))) (n + 1) := by
  refine spec_ends1 hmix ok_field_generator rfl fun hF => ?_
  have hq2 := qn_two M
  refine generator_walk h _ ?_ ?_
  · intro x b n' E H' h1 h2 h3 h4 h5 h6 h7 h8
    have e : x = gi hg := by
      have hs := gi_spec hg
      rcases Nat.lt_trichotomy x (gi hg) with hl | hl | hl
      · exact absurd ⟨h1, h2, h3⟩ (hs.2 x hl)
      · exact hl
      · exact absurd hs.1.2.2 (h4 _ hs.1.1 hl)
    subst e
    exact fin_own rfl (by decide) h8 h6 h5 trs_it h7
  · intro hno
    have hs := gi_spec hg
    exact absurd hs.1.2.2 (hno _ hs.1.1 hs.1.2.1)
theorem sp_field_generator0 {H : Heap} {n : Nat} (h : Fc M) (hg : ¬ ∃ x : El M, x ≠ 0 ∧ Gen x) : Spec prog fid_field_generator [fd M, .int .i64 (qn M : Nat)] H n .nil H n := by
  refine spec_ends hmix ok_field_generator rfl fun hF => ?_
  have hq2 := qn_two M
  refine generator_walk h _ ?_ ?_
  · intro x b n' E H' h1 h2 h3 h4 h5 h6 h7 h8
    refine absurd ⟨el M (x : Nat), fun e => ?_, h3⟩ hg
    have := cn_el (M := M) h2
    rw [e, cn_zero] at this
    omega
  · intro hno n' E H' h7 h8
    exact fin_ret rfl (by decide) (by rw [h8]; exact .nil) h7
end
end Go.Proofs.Ytdpibcniodhinaa.Gh
/- Well-formed descriptions of fields. -/
namespace Go.Proofs.Ytdpibcniodhinaa.Gh
open Go Go.RowKit
open Alg (CR Ps Dg Zm Mn El Cg sm pw Irr Prm)
set_option linter.unusedVariables false
set_option linter.unusedSimpArgs false

/-- a description is well-formed -/
def Shp (p m : Int) (l : Nat) (mo : Nat → Int) : Prop := qo p m ≠ 0 ∧ isPr p ∧ (m = 1 → l = 0) ∧ (m ≠ 1 → (l : Int) = m ∧ ∀ j, j < l → 0 ≤ mo j ∧ mo j < p)
theorem qo_in {p m : Int} (h : qo p m ≠ 0) : 2 ≤ p ∧ p ≤ 256 ∧ 1 ≤ m ∧ m ≤ 8 ∧ p ^ m.toNat ≤ 256 ∧ qo p m = p ^ m.toNat := by
  unfold qo at h ⊢
  by_cases c : 2 ≤ p ∧ p ≤ 256 ∧ 1 ≤ m ∧ m ≤ 8 ∧ p ^ m.toNat ≤ 256
  · rw [if_pos c]; exact ⟨c.1, c.2.1, c.2.2.1, c.2.2.2.1, c.2.2.2.2, rfl⟩
  · rw [if_neg c] at h; exact absurd rfl h
noncomputable instance (p m : Int) (l : Nat) (mo : Nat → Int) : Decidable (Shp p m l mo) := Classical.propDecidable _

theorem sp_field_shape {H : Heap} {n : Nat} (p m : Int) (l : Nat) (mo : Nat → Int) : Spec prog fid_field_shape [fgv p m (isl l mo)] H n (.bool (decide (Shp p m l mo))) H n := by
  refine spec_ends hmix ok_field_shape rfl fun hF => ?_
  show gw prog B_field_shape _ (tl 46 _) H n
  have bad : ∀ (E : Env) (H' : Heap) (n' : Nat), (∀ b, b < n → H' b = H b) → E 2 = .bool false → ¬ Shp p m l mo → F_field_shape.ends H n (.bool (decide (Shp p m l mo))) .ret (tl 46 E) H' n' := by
    intro E H' n' ho h4 h
    refine fin_ret rfl (by decide) ?_ ho
    rw [h4]; exact fz_bool (decide_eq_false h).symm
  have good : ∀ (E : Env) (H' : Heap) (n' : Nat), (∀ b, b < n → H' b = H b) → E 2 = .bool true → Shp p m l mo → F_field_shape.ends H n (.bool (decide (Shp p m l mo))) .ret (tl 46 E) H' n' := by
    intro E H' n' ho h4 h
    refine fin_ret rfl (by decide) ?_ ho
    rw [h4]; exact fz_bool (decide_eq_true h).symm
  have hu : ∀ x b, b < n → upd H n x b = H b := fun x b hb => upd_ne _ _ (by omega)
  simp -implicitDefEqProofs only [B_field_shape, fgv, go_sem, Nat.reduceLT, Nat.reduceBEq, Nat.reduceAdd, Nat.reduceEqDiff, Nat.reduceLeDiff, Nat.reduceSub, Nat.reduceMul]
  refine call_of (sp_field_order p m) ?_
  by_cases hq : qo p m = 0
  · simp -implicitDefEqProofs only [go_sem, Nat.reduceLT, Nat.reduceBEq, Nat.reduceAdd, Nat.reduceEqDiff, Nat.reduceLeDiff, Nat.reduceSub, Nat.reduceMul, hq]
    exact bad _ _ _ (hu _) rfl fun h => h.1 hq
  · obtain ⟨q1, q2, q3, q4, q5, q6⟩ := qo_in hq
    simp -implicitDefEqProofs only [go_sem, Nat.reduceLT, Nat.reduceBEq, Nat.reduceAdd, Nat.reduceEqDiff, Nat.reduceLeDiff, Nat.reduceSub, Nat.reduceMul, hq]
    refine call_of (sp_field_isPrime p (by omega)) ?_
    by_cases hp : isPr p
    · simp -implicitDefEqProofs only [go_sem, Nat.reduceLT, Nat.reduceBEq, Nat.reduceAdd, Nat.reduceEqDiff, Nat.reduceLeDiff, Nat.reduceSub, Nat.reduceMul, hp]
      by_cases hm : m = 1
      · subst hm
        simp -implicitDefEqProofs only [go_sem, Nat.reduceLT, Nat.reduceBEq, Nat.reduceAdd, Nat.reduceEqDiff, Nat.reduceLeDiff, Nat.reduceSub, Nat.reduceMul]
        by_cases hl : l = 0
        · subst hl
          refine good _ _ _ (hu _) rfl ⟨hq, hp, fun _ => rfl, fun h => absurd rfl h⟩
        · refine bad _ _ _ (hu _) ?_ fun h => hl (h.2.2.1 rfl)
          have : ¬ ((l : Int) = 0) := by omega
          simp -implicitDefEqProofs only [go_sem, Nat.reduceLT, Nat.reduceBEq, Nat.reduceAdd, Nat.reduceEqDiff, Nat.reduceLeDiff, Nat.reduceSub, Nat.reduceMul, this]
      · have hw0 : (l : Int) ≤ 140737488355328 ∨ True := .inr trivial
        by_cases hl : (l : Int) = m
        · subst hl
          simp -implicitDefEqProofs only [go_sem, Nat.reduceLT, Nat.reduceBEq, Nat.reduceAdd, Nat.reduceEqDiff, Nat.reduceLeDiff, Nat.reduceSub, Nat.reduceMul, hm]
          refine loop_rule (fun (j : Nat) E H' n' => n' = n + 1 ∧ H' n = some [.int .i64 p, .int .i64 (l : Nat), isl l mo] ∧ (∀ b, b < n → H' b = H b) ∧ E 1 = .ptr n 0 ∧ E 31 = isl l mo ∧ E 32 = .int .i64 (l : Nat) ∧ E 33 = .int .i64 (j : Nat) ∧ j ≤ l ∧ ∀ i, i < j → 0 ≤ mo i ∧ mo i < p) (fun j => l - j) 0 ?_ ?_
          · exact ⟨rfl, by simp -implicitDefEqProofs only [go_sem, Nat.reduceLT, Nat.reduceBEq, Nat.reduceAdd, Nat.reduceEqDiff, Nat.reduceLeDiff, Nat.reduceSub, Nat.reduceMul], hu _, rfl, rfl, rfl, rfl, by omega, fun i hi => by omega⟩
          rintro j E H' n' ⟨rfl, h0, ho, e1, e31, e32, e33, j1, j2⟩
          simp -implicitDefEqProofs only [go_sem, Nat.reduceLT, Nat.reduceBEq, Nat.reduceAdd, Nat.reduceEqDiff, Nat.reduceLeDiff, Nat.reduceSub, Nat.reduceMul, e32, e33]
          refine c_split (fun hc => ?_) (fun hc => ?_)
          · have hjN : j < l := by omega
            have hwj := wrap64 (x := (j : Int) + 1) (by omega)
            by_cases hlo : mo j < 0
            · simp -implicitDefEqProofs only [go_sem, Nat.reduceLT, Nat.reduceBEq, Nat.reduceAdd, Nat.reduceEqDiff, Nat.reduceLeDiff, Nat.reduceSub, Nat.reduceMul, e1, e31, e32, e33, hc, hjN, gat_tab, h0, hlo]
              exact bad _ _ _ ho (by simp -implicitDefEqProofs only [go_sem, Nat.reduceLT, Nat.reduceBEq, Nat.reduceAdd, Nat.reduceEqDiff, Nat.reduceLeDiff, Nat.reduceSub, Nat.reduceMul]) fun h => by have := (h.2.2.2 hm).2 j hjN; omega
            · by_cases hhi : p ≤ mo j
              · simp -implicitDefEqProofs only [go_sem, Nat.reduceLT, Nat.reduceBEq, Nat.reduceAdd, Nat.reduceEqDiff, Nat.reduceLeDiff, Nat.reduceSub, Nat.reduceMul, e1, e31, e32, e33, hc, hjN, gat_tab, h0, hlo, hhi]
                exact bad _ _ _ ho (by simp -implicitDefEqProofs only [go_sem, Nat.reduceLT, Nat.reduceBEq, Nat.reduceAdd, Nat.reduceEqDiff, Nat.reduceLeDiff, Nat.reduceSub, Nat.reduceMul]) fun h => by have := (h.2.2.2 hm).2 j hjN; omega
              · simp -implicitDefEqProofs only [go_sem, Nat.reduceLT, Nat.reduceBEq, Nat.reduceAdd, Nat.reduceEqDiff, Nat.reduceLeDiff, Nat.reduceSub, Nat.reduceMul, e1, e31, e32, e33, hc, hjN, gat_tab, h0, hlo, hhi, hwj]
                refine l_n ⟨j + 1, by omega, rfl, h0, ho, by simp -implicitDefEqProofs only [go_sem, Nat.reduceLT, Nat.reduceBEq, Nat.reduceAdd, Nat.reduceEqDiff, Nat.reduceLeDiff, Nat.reduceSub, Nat.reduceMul, e1], by simp -implicitDefEqProofs only [go_sem, Nat.reduceLT, Nat.reduceBEq, Nat.reduceAdd, Nat.reduceEqDiff, Nat.reduceLeDiff, Nat.reduceSub, Nat.reduceMul, e31], by simp -implicitDefEqProofs only [go_sem, Nat.reduceLT, Nat.reduceBEq, Nat.reduceAdd, Nat.reduceEqDiff, Nat.reduceLeDiff, Nat.reduceSub, Nat.reduceMul, e32], by simp -implicitDefEqProofs only [go_sem, Nat.reduceLT, Nat.reduceBEq, Nat.reduceAdd, Nat.reduceEqDiff, Nat.reduceLeDiff, Nat.reduceSub, Nat.reduceMul]; rfl, by omega, fun i hi => ?_⟩
                by_cases e : i = j
                · subst e; omega
                · exact j2 i (by omega)
          · simp -implicitDefEqProofs only [go_sem, Nat.reduceLT, Nat.reduceBEq, Nat.reduceAdd, Nat.reduceEqDiff, Nat.reduceLeDiff, Nat.reduceSub, Nat.reduceMul]
            exact good _ _ _ ho (by simp -implicitDefEqProofs only [go_sem, Nat.reduceLT, Nat.reduceBEq, Nat.reduceAdd, Nat.reduceEqDiff, Nat.reduceLeDiff, Nat.reduceSub, Nat.reduceMul]) ⟨hq, hp, fun h => absurd h hm, fun _ => ⟨rfl, fun i hi => j2 i (by omega)⟩⟩
        · simp -implicitDefEqProofs only [go_sem, Nat.reduceLT, Nat.reduceBEq, Nat.reduceAdd, Nat.reduceEqDiff, Nat.reduceLeDiff, Nat.reduceSub, Nat.reduceMul, hm, hl]
          exact bad _ _ _ (hu _) (by simp -implicitDefEqProofs only [go_sem, Nat.reduceLT, Nat.reduceBEq, Nat.reduceAdd, Nat.reduceEqDiff, Nat.reduceLeDiff, Nat.reduceSub, Nat.reduceMul]) fun h => hl (h.2.2.2 hm).1
    · simp -implicitDefEqProofs only [go_sem, Nat.reduceLT, Nat.reduceBEq, Nat.reduceAdd, Nat.reduceEqDiff, Nat.reduceLeDiff, Nat.reduceSub, Nat.reduceMul, hp]
      exact bad _ _ _ (hu _) rfl fun h => hp h.2.1
end Go.Proofs.Ytdpibcniodhinaa.Gh
/- The field as the program makes it. -/
namespace Go.Proofs.Ytdpibcniodhinaa.Gh
open Go Go.RowKit
open Alg (CR Ps Dg Zm Mn El Cg sm pw Irr Prm)
set_option linter.unusedVariables false
set_option linter.unusedSimpArgs false

theorem fz_own_isl {H : Heap} {n b m : Nat} {f : Nat → Int} (h : H b = some (tab m (it f))) (hb : n ≤ b) : Fz H n (.own b 0 m) (isl m f) :=
  .ownf b 0 m _ _ h hb (fun i a c => by omega) (by rw [tab_len]; omega) tab_len fun j hj => by
    rw [Nat.zero_add, gat_tab hj]; exact .int _ _
section
variable {k : Nat} {M : Mn k}
/-- how many coefficients a description names -/
def mlen (M : Mn k) : Nat := if M.m = 1 then 0 else M.m
def mco (M : Mn k) : Nat → Int := fun i => (M.f.co i).v
theorem fmod_isl (M : Mn k) : fmod M = isl (mlen M) (mco M) := rfl
theorem Fc.mlen (h : Fc M) : mlen M ≤ 8 := by
  have := h.m8
  unfold Gh.mlen; split <;> omega
theorem fd_shp (h : Fc M) (hp : Prm ((k : Int) + 2)) : Shp ((k : Int) + 2) (M.m : Nat) (mlen M) (mco M) := by
  have h1 := h.qo
  have h2 := h.q2
  have hq : qo ((k : Int) + 2) (M.m : Nat) ≠ 0 := by rw [h1]; omega
  refine ⟨hq, ⟨by omega, hp⟩, fun e => if_pos (by omega), fun e => ⟨?_, fun j _ => ⟨(M.f.co j).lo, (M.f.co j).hi⟩⟩⟩
  have : mlen M = M.m := if_neg (by omega)
  rw [this]
/-- the field as the program keeps it -/
noncomputable def gfv (M : Mn k) (g : El M) : GV := .pp [.int .i64 ((k : Int) + 2), .int .i64 (M.m : Nat), fmod M, .int .i64 (qn M : Nat), isl (qn M - 1) (pws g), isl (qn M) fun v => (lg g (el M (v : Nat)) : Nat)] 0
/-- the exponents so far -/
noncomputable def lgi (g : El M) (i : Nat) : Nat → Int := fun v => if v ≠ 0 ∧ lg g (el M (v : Nat)) < i then (lg g (el M (v : Nat)) : Nat) else 0
theorem lgi_zero (g : El M) : lgi g 0 = fun _ => 0 := by funext v; exact if_neg (by omega)
theorem lgi_step {g : El M} (h : Gen g) {i : Nat} (hi : i < qn M - 1) : tab (qn M) (it (upf (lgi g i) (cn (pw g i)) i)) = tab (qn M) (it (lgi g (i + 1))) := by
  refine tab_congr fun v hv => congrArg (GV.int .i64) ?_
  simp only [upf, lgi]
  by_cases e : v = cn (pw g i)
  · subst e
    have h0 : cn (pw g i) ≠ 0 := fun e => gen_ne h i hi (cn_eq_zero.1 e)
    rw [if_pos rfl, el_cn, lg_of h hi, if_pos ⟨h0, by omega⟩]
  · rw [if_neg e]
    by_cases h0 : v = 0
    · rw [if_neg (by omega), if_neg (by omega)]
    · have hne : el M (v : Nat) ≠ 0 := fun e0 => by have := cn_el (M := M) hv; rw [e0, cn_zero] at this; omega
      have h1 : lg g (el M (v : Nat)) ≠ i := fun e1 => by
        apply e
        rw [← e1, lg_pw h hne, cn_el hv]
      by_cases h2 : lg g (el M (v : Nat)) < i
      · rw [if_pos ⟨h0, h2⟩, if_pos ⟨h0, by omega⟩]
      · rw [if_neg (by omega), if_neg (by omega)]
theorem lgi_all {g : El M} (h : Gen g) : tab (qn M) (it (lgi g (qn M - 1))) = tab (qn M) (it fun v => (lg g (el M (v : Nat)) : Nat)) := by
  refine tab_congr fun v hv => congrArg (GV.int .i64) ?_
  simp only [lgi]
  by_cases h0 : v = 0
  · subst h0
    have : el M ((0 : Nat) : Int) = 0 := el_zero
    rw [if_neg (by omega), this, lg_zero]; rfl
  · have hne : el M (v : Nat) ≠ 0 := fun e0 => by have := cn_el (M := M) hv; rw [e0, cn_zero] at this; omega
    rw [if_pos ⟨h0, lg_lt h hne⟩]

theorem Fc.qo' (h : Fc M) : Gh.qo ((k : Int) + 2) (M.m : Nat) = (Gh.qn M : Nat) := by rw [h.qo, qq_qn]
theorem sp_field_New_bad {H : Heap} {n : Nat} (p m : Int) (l : Nat) (mo : Nat → Int) (hs : ¬ Shp p m l mo) : Spec prog fid_field_New [fgv p m (isl l mo)] H n (.tup [.nilp, .int .i64 1]) H n := by
  refine spec_ends hmix ok_field_New rfl fun hF => ?_
  show gw prog B_field_New _ (tl 53 _) H n
  simp -implicitDefEqProofs only [B_field_New, fgv, go_sem, Nat.reduceLT, Nat.reduceBEq, Nat.reduceAdd, Nat.reduceEqDiff, Nat.reduceLeDiff, Nat.reduceSub, Nat.reduceMul]
  refine call_of (sp_field_shape p m l mo) ?_
  simp -implicitDefEqProofs only [go_sem, Nat.reduceLT, Nat.reduceBEq, Nat.reduceAdd, Nat.reduceEqDiff, Nat.reduceLeDiff, Nat.reduceSub, Nat.reduceMul, hs]
  exact fin_ret2 rfl (by decide) (by decide) .nilp (.int _ _) fun b hb => upd_ne _ _ (by omega)
theorem sp_field_New_no {H : Heap} {n : Nat} (h : Fc M) (hp : Prm ((k : Int) + 2)) (hg : ¬ ∃ x : El M, x ≠ 0 ∧ Gen x) : Spec prog fid_field_New [fd M] H n (.tup [.nilp, .int .i64 1]) H n := by
  refine spec_ends hmix ok_field_New rfl fun hF => ?_
  show gw prog B_field_New _ (tl 53 _) H n
  have hs := fd_shp h hp
  simp -implicitDefEqProofs only [B_field_New, fd, fgv, go_sem, Nat.reduceLT, Nat.reduceBEq, Nat.reduceAdd, Nat.reduceEqDiff, Nat.reduceLeDiff, Nat.reduceSub, Nat.reduceMul]
  refine call_of (sp_field_shape _ _ (mlen M) (mco M)) ?_
  simp -implicitDefEqProofs only [go_sem, Nat.reduceLT, Nat.reduceBEq, Nat.reduceAdd, Nat.reduceEqDiff, Nat.reduceLeDiff, Nat.reduceSub, Nat.reduceMul, hs]
  refine call_of (sp_field_order _ _) ?_
  simp -implicitDefEqProofs only [go_sem, Nat.reduceLT, Nat.reduceBEq, Nat.reduceAdd, Nat.reduceEqDiff, Nat.reduceLeDiff, Nat.reduceSub, Nat.reduceMul, h.qo']
  refine call_of (sp_field_generator0 h hg) ?_
  simp -implicitDefEqProofs only [go_sem, Nat.reduceLT, Nat.reduceBEq, Nat.reduceAdd, Nat.reduceEqDiff, Nat.reduceLeDiff, Nat.reduceSub, Nat.reduceMul]
  exact fin_ret2 rfl (by decide) (by decide) .nilp (.int _ _) fun b hb => upd_ne _ _ (by omega)
theorem sp_field_New_ok {H : Heap} {n : Nat} (h : Fc M) (hp : Prm ((k : Int) + 2)) (hg : ∃ x : El M, x ≠ 0 ∧ Gen x) : Spec prog fid_field_New [fd M] H n (.tup [gfv M (gnr hg), .int .i64 0]) H n := by
  refine spec_ends hmix ok_field_New rfl fun hF => ?_
  show gw prog B_field_New _ (tl 53 _) H n
  have hs := fd_shp h hp
  have hq2 := qn_two M
  have hq := h.qn
  have hml := h.mlen
  have hG := gnr_gen hg
  simp -implicitDefEqProofs only [B_field_New, fd, fgv, go_sem, Nat.reduceLT, Nat.reduceBEq, Nat.reduceAdd, Nat.reduceEqDiff, Nat.reduceLeDiff, Nat.reduceSub, Nat.reduceMul]
  refine call_of (sp_field_shape _ _ (mlen M) (mco M)) ?_
  simp -implicitDefEqProofs only [go_sem, Nat.reduceLT, Nat.reduceBEq, Nat.reduceAdd, Nat.reduceEqDiff, Nat.reduceLeDiff, Nat.reduceSub, Nat.reduceMul, hs]
  refine call_of (sp_field_order _ _) ?_
  simp -implicitDefEqProofs only [go_sem, Nat.reduceLT, Nat.reduceBEq, Nat.reduceAdd, Nat.reduceEqDiff, Nat.reduceLeDiff, Nat.reduceSub, Nat.reduceMul, h.qo']
  refine call_of (sp_field_generator h hg) ?_
  have hq0 : 0 < qn M - 1 := by omega
  generalize gnr hg = g at *
  simp -implicitDefEqProofs only [go_sem, Nat.reduceLT, Nat.reduceBEq, Nat.reduceAdd, Nat.reduceEqDiff, Nat.reduceLeDiff, Nat.reduceSub, Nat.reduceMul, hq0, fmod_isl]
  repeat with_reducible refine And.intro (by omega) ?_
  refine loop_rule (fun (i : Nat) E H' n' => n' = n + 5 ∧ H' (n + 1) = some (tab (qn M - 1) (it (pws g))) ∧ H' (n + 2) = some (tab (mlen M) (it (mco M))) ∧ H' (n + 3) = some (tab (qn M) (it (lgi g i))) ∧ H' (n + 4) = some [.int .i64 ((k : Int) + 2), .int .i64 (M.m : Nat), .own (n + 2) 0 (mlen M), .int .i64 (qn M : Nat), .own (n + 1) 0 (qn M - 1), .own (n + 3) 0 (qn M)] ∧ (∀ b, b < n → H' b = H b) ∧ E 6 = .ptr (n + 4) 0 ∧ E 37 = .own (n + 1) 0 (qn M - 1) ∧ E 38 = .int .i64 (qn M - 1 : Nat) ∧ E 39 = .int .i64 (i : Nat) ∧ i ≤ qn M - 1) (fun i => qn M - i) 0 ?_ ?_
  · refine ⟨rfl, ?_, ?_, ?_, ?_, fun c hc => ?_, rfl, rfl, rfl, rfl, by omega⟩
    · simp -implicitDefEqProofs only [go_sem, Nat.reduceLT, Nat.reduceBEq, Nat.reduceAdd, Nat.reduceEqDiff, Nat.reduceLeDiff, Nat.reduceSub, Nat.reduceMul]
    · simp -implicitDefEqProofs only [go_sem, Nat.reduceLT, Nat.reduceBEq, Nat.reduceAdd, Nat.reduceEqDiff, Nat.reduceLeDiff, Nat.reduceSub, Nat.reduceMul]
    · simp -implicitDefEqProofs only [go_sem, Nat.reduceLT, Nat.reduceBEq, Nat.reduceAdd, Nat.reduceEqDiff, Nat.reduceLeDiff, Nat.reduceSub, Nat.reduceMul, tab_rep, lgi_zero]; rfl
    · simp -implicitDefEqProofs only [go_sem, Nat.reduceLT, Nat.reduceBEq, Nat.reduceAdd, Nat.reduceEqDiff, Nat.reduceLeDiff, Nat.reduceSub, Nat.reduceMul]
    · rw [upd_ne _ _ (by omega), upd_ne _ _ (by omega), upd_ne _ _ (by omega), upd_ne _ _ (by omega), upd_ne _ _ (by omega)]
  rintro i E H' n' ⟨rfl, h1, h2, h3, h4, ho, e6, e37, e38, e39, hi⟩
  simp -implicitDefEqProofs only [go_sem, Nat.reduceLT, Nat.reduceBEq, Nat.reduceAdd, Nat.reduceEqDiff, Nat.reduceLeDiff, Nat.reduceSub, Nat.reduceMul, e38, e39]
  refine c_split (fun hc => ?_) (fun hc => ?_)
  · have hiN : i < qn M - 1 := by omega
    have hlt := cn_lt (pw g i)
    have hltI : ((cn (pw g i) : Nat) : Int) < (qn M : Int) := by omega
    have hnn := Int.natCast_nonneg (cn (pw g i))
    have hpw : pws g i = (cn (pw g i) : Nat) := rfl
    have hwi := wrap64 (x := (i : Int) + 1) (by omega)
    have hst := lgi_step hG hiN
    simp -implicitDefEqProofs only [go_sem, Nat.reduceLT, Nat.reduceBEq, Nat.reduceAdd, Nat.reduceEqDiff, Nat.reduceLeDiff, Nat.reduceSub, Nat.reduceMul, e6, e37, e38, e39, h1, h3, h4, hiN, hc, gat_tab, hpw, hlt, hltI, hnn, hwi, hst]
    repeat with_reducible refine And.intro (by omega) ?_
    exact l_n ⟨i + 1, by omega, rfl, by simp -implicitDefEqProofs only [go_sem, Nat.reduceLT, Nat.reduceBEq, Nat.reduceAdd, Nat.reduceEqDiff, Nat.reduceLeDiff, Nat.reduceSub, Nat.reduceMul, h1], by simp -implicitDefEqProofs only [go_sem, Nat.reduceLT, Nat.reduceBEq, Nat.reduceAdd, Nat.reduceEqDiff, Nat.reduceLeDiff, Nat.reduceSub, Nat.reduceMul, h2], by simp -implicitDefEqProofs only [go_sem, Nat.reduceLT, Nat.reduceBEq, Nat.reduceAdd, Nat.reduceEqDiff, Nat.reduceLeDiff, Nat.reduceSub, Nat.reduceMul], by simp -implicitDefEqProofs only [go_sem, Nat.reduceLT, Nat.reduceBEq, Nat.reduceAdd, Nat.reduceEqDiff, Nat.reduceLeDiff, Nat.reduceSub, Nat.reduceMul, h4], fun b hb => by rw [upd_ne _ _ (by omega)]; exact ho b hb, by simp -implicitDefEqProofs only [go_sem, Nat.reduceLT, Nat.reduceBEq, Nat.reduceAdd, Nat.reduceEqDiff, Nat.reduceLeDiff, Nat.reduceSub, Nat.reduceMul, e6], by simp -implicitDefEqProofs only [go_sem, Nat.reduceLT, Nat.reduceBEq, Nat.reduceAdd, Nat.reduceEqDiff, Nat.reduceLeDiff, Nat.reduceSub, Nat.reduceMul, e37], by simp -implicitDefEqProofs only [go_sem, Nat.reduceLT, Nat.reduceBEq, Nat.reduceAdd, Nat.reduceEqDiff, Nat.reduceLeDiff, Nat.reduceSub, Nat.reduceMul, e38], by simp -implicitDefEqProofs only [go_sem, Nat.reduceLT, Nat.reduceBEq, Nat.reduceAdd, Nat.reduceEqDiff, Nat.reduceLeDiff, Nat.reduceSub, Nat.reduceMul]; rfl, by omega⟩
  · have : i = qn M - 1 := by omega
    subst this
    rw [lgi_all hG] at h3
    simp -implicitDefEqProofs only [go_sem, Nat.reduceLT, Nat.reduceBEq, Nat.reduceAdd, Nat.reduceEqDiff, Nat.reduceLeDiff, Nat.reduceSub, Nat.reduceMul, e6]
    refine fin_ret2 rfl (by decide) (by decide) ?_ (.int _ _) ho
    simp -implicitDefEqProofs only [go_sem, Nat.reduceLT, Nat.reduceBEq, Nat.reduceAdd, Nat.reduceEqDiff, Nat.reduceLeDiff, Nat.reduceSub, Nat.reduceMul]
    refine .ptrf (n + 4) 0 _ _ h4 (by omega) (fun i a c => by omega) (by simp) rfl fun j hj => ?_
    rcases j with _ | _ | _ | _ | _ | _ | j
    · exact .int _ _
    · exact .int _ _
    · exact fz_own_isl h2 (by omega)
    · exact .int _ _
    · exact fz_own_isl h1 (by omega)
    · exact fz_own_isl h3 (by omega)
    · simp at hj; omega
end
end Go.Proofs.Ytdpibcniodhinaa.Gh
/- The reference's division of polynomials. -/
namespace Go.Proofs.Ytdpibcniodhinaa.Gh
open Go Go.RowKit
open Alg (CR Ps Dg Zm Mn El Cg sm pw Irr Prm)
set_option linter.unusedVariables false
set_option linter.unusedSimpArgs false

section
variable {k : Nat} {M L : Mn k}
noncomputable instance (M L : Mn k) : Decidable (Cg L M.f 0) := Classical.propDecidable _
theorem mco_top (M : Mn k) : mco M M.m = 1 := by show (M.f.co M.m).v = 1; rw [M.top]; exact Zm.one_v
theorem trc_mco (M : Mn k) : trc (k := k) (mco M) (M.m + 1) = M.f := by
  apply Ps.ext'
  intro t
  show (if t < M.m + 1 then Zm.of (M.f.co t).v else 0) = _
  by_cases h : t < M.m + 1
  · rw [if_pos h, Zm.of_self]
  · rw [if_neg h, M.dg t (by omega)]
theorem cg_quot (h : Cg L M.f 0) : ∃ q, Dg q (M.m + 1 - L.m) ∧ M.f = q * L.f := by
  obtain ⟨n, q, hq, e⟩ := h
  rw [Alg.add_zero] at e
  obtain ⟨s, r, e2, hr, hs⟩ := Alg.divides_ex L.f L.m 1 L.dg (by rw [L.top, Alg.mul_one]) (M.m + 1) M.f M.dg
  have h3 : (q - s) * L.f = r := by
    rw [Alg.sub_mul, ← e, e2, Alg.add_comm, Alg.add_sub_cancel]
  have h4 : Dg (q - s) (n + (M.m + 1 - L.m)) := (hq.mono (by omega)).sub (hs.mono (by omega))
  have h5 := Alg.multiple_small L.f L.m 1 L.dg (by rw [L.top, Alg.mul_one]) _ (q - s) h4 (by rw [h3]; exact hr)
  have h6 := Alg.sub_eq_zero.1 h5
  subst h6
  exact ⟨_, hs, e⟩
theorem trc_eq_zero {c : Nat → Int} {m : Nat} (h : ∀ t, t < m → 0 ≤ c t ∧ c t < (k : Int) + 2) : trc (k := k) c m = 0 ↔ ∀ t, t < m → c t = 0 := by
  constructor
  · intro e t ht
    have h1 := congrArg (fun p : Ps (Zm k) => (p.co t).v) e
    have h2 : (if t < m then Zm.of (k := k) (c t) else 0).v = (0 : Zm k).v := h1
    rw [if_pos ht, of_v_small (h t ht).1 (h t ht).2] at h2
    exact h2
  · intro e
    apply Ps.ext'
    intro t
    show (if t < m then Zm.of (c t) else 0) = 0
    by_cases ht : t < m
    · rw [if_pos ht, e t ht]; rfl
    · rw [if_neg ht]
theorem trc_congr {c c' : Nat → Int} {m : Nat} (h : ∀ t, t < m → c t = c' t) : trc (k := k) c m = trc c' m := by
  apply Ps.ext'
  intro t
  show (if t < m then Zm.of (c t) else 0) = if t < m then Zm.of (c' t) else 0
  by_cases ht : t < m
  · rw [if_pos ht, if_pos ht, h t ht]
  · rw [if_neg ht, if_neg ht]

def divI (M L : Mn k) (n : Nat) (H : Heap) (c : Nat → Int) (E : Env) (H' : Heap) (n' : Nat) : Prop :=
  n' = n + 3 ∧ H' (n + 2) = some (tab (M.m + 1) (it c)) ∧ (∀ b, b < n → H' b = H b) ∧ E 0 = isl L.m (mco L) ∧ E 2 = .int .i64 ((k : Int) + 2) ∧ E 7 = .int .i64 (L.m : Nat) ∧ E 8 = .own (n + 2) 0 (M.m + 1) ∧ ∀ t, t < M.m + 1 → 0 ≤ c t ∧ c t < (k : Int) + 2

theorem sp_ref04_divides {H : Heap} {n : Nat} (h : Fc M) (hL : L.m ≤ M.m) : Spec prog fid_ref04_divides [isl L.m (mco L), isl M.m (mco M), .int .i64 ((k : Int) + 2)] H n (.bool (decide (Cg L M.f 0))) H n := by
  refine spec_ends hmix ok_ref04_divides rfl fun hF => ?_
  show gw prog B_ref04_divides _ (tl 78 _) H n
  have hp := h.p256
  have hm8 := h.m8
  have hL0 := L.pos
  have hne : ((k : Int) + 2 = 0) = False := by simp; omega
  have happ : tab M.m (it (mco M)) ++ [GV.int .i64 1] = tab (M.m + 1) (it (mco M)) := by
    rw [tab_succ]
    have : it (mco M) M.m = GV.int .i64 1 := congrArg (GV.int .i64) (mco_top M)
    rw [this]
  have f1 : (n = n + 1) = False := by simp
  have hwm : IntKind.i64.wrap (((M.m + 1 : Nat) : Int) - 1) = (M.m : Int) := (wrap64 (by omega)).trans (by omega)
  simp -implicitDefEqProofs only [B_ref04_divides, go_sem, Nat.reduceLT, Nat.reduceBEq, Nat.reduceAdd, Nat.reduceEqDiff, Nat.reduceLeDiff, Nat.reduceSub, Nat.reduceMul, happ, upd_no, f1, hwm]
  repeat with_reducible refine And.intro (by omega) ?_
  refine loop_rule (fun (i : Nat) E H' n' => ∃ c, divI M L n H c E H' n' ∧ (∀ t, i ≤ t → t < M.m + 1 → c t = 0) ∧ Cg L M.f (trc c i) ∧ E 9 = .int .i64 ((i : Int) - 1) ∧ L.m ≤ i ∧ i ≤ M.m + 1) (fun i => i) (M.m + 1) ?_ ?_
  · refine ⟨mco M, ⟨rfl, ?_, fun c hc => ?_, rfl, rfl, rfl, rfl, fun t ht => ⟨(M.f.co t).lo, (M.f.co t).hi⟩⟩, fun t h1 h2 => by omega, by rw [trc_mco]; exact Cg.refl _, ?_, by omega, by omega⟩
    · simp -implicitDefEqProofs only [go_sem, Nat.reduceLT, Nat.reduceBEq, Nat.reduceAdd, Nat.reduceEqDiff, Nat.reduceLeDiff, Nat.reduceSub, Nat.reduceMul]
    · rw [upd_ne _ _ (by omega), upd_ne _ _ (by omega), upd_ne _ _ (by omega), upd_ne _ _ (by omega)]
    · simp -implicitDefEqProofs only [go_sem, Nat.reduceLT, Nat.reduceBEq, Nat.reduceAdd, Nat.reduceEqDiff, Nat.reduceLeDiff, Nat.reduceSub, Nat.reduceMul]
      congr 1
      omega
  rintro i E H' n' ⟨c, ⟨rfl, h2, ho, e0, e2, e7, e8, hc⟩, hz, hS, e9, hi0, hi⟩
  simp -implicitDefEqProofs only [go_sem, Nat.reduceLT, Nat.reduceBEq, Nat.reduceAdd, Nat.reduceEqDiff, Nat.reduceLeDiff, Nat.reduceSub, Nat.reduceMul, e7, e9]
  refine c_split (fun hlt => ?_) (fun hlt => ?_)
  · obtain ⟨i, rfl⟩ : ∃ u, i = u + 1 := ⟨i - 1, by omega⟩
    have hi1 : ((i + 1 : Nat) : Int) - 1 = (i : Nat) := by omega
    rw [hi1] at e9 hlt
    have hiN : i < M.m + 1 := by omega
    have hiI : (i : Int) < ((M.m + 1 : Nat) : Int) := by omega
    simp -implicitDefEqProofs only [go_sem, Nat.reduceLT, Nat.reduceBEq, Nat.reduceAdd, Nat.reduceEqDiff, Nat.reduceLeDiff, Nat.reduceSub, Nat.reduceMul, e8, e9, h2, hiN, hiI, gat_tab]
    repeat with_reducible refine And.intro (by omega) ?_
    refine loop_rule (fun (j : Nat) E H' n' => divI M L n H (rdc L c i j) E H' n' ∧ E 9 = .int .i64 i ∧ E 10 = .int .i64 (c i) ∧ E 11 = .int .i64 j ∧ j ≤ L.m) (fun j => L.m - j) 0 ?_ ?_
    · rw [rdc_zero]
      exact ⟨⟨rfl, h2, ho, by simp -implicitDefEqProofs only [go_sem, Nat.reduceLT, Nat.reduceBEq, Nat.reduceAdd, Nat.reduceEqDiff, Nat.reduceLeDiff, Nat.reduceSub, Nat.reduceMul, e0], by simp -implicitDefEqProofs only [go_sem, Nat.reduceLT, Nat.reduceBEq, Nat.reduceAdd, Nat.reduceEqDiff, Nat.reduceLeDiff, Nat.reduceSub, Nat.reduceMul, e2], by simp -implicitDefEqProofs only [go_sem, Nat.reduceLT, Nat.reduceBEq, Nat.reduceAdd, Nat.reduceEqDiff, Nat.reduceLeDiff, Nat.reduceSub, Nat.reduceMul, e7], by simp -implicitDefEqProofs only [go_sem, Nat.reduceLT, Nat.reduceBEq, Nat.reduceAdd, Nat.reduceEqDiff, Nat.reduceLeDiff, Nat.reduceSub, Nat.reduceMul, e8], hc⟩, by simp -implicitDefEqProofs only [go_sem, Nat.reduceLT, Nat.reduceBEq, Nat.reduceAdd, Nat.reduceEqDiff, Nat.reduceLeDiff, Nat.reduceSub, Nat.reduceMul, e9], by simp -implicitDefEqProofs only [go_sem, Nat.reduceLT, Nat.reduceBEq, Nat.reduceAdd, Nat.reduceEqDiff, Nat.reduceLeDiff, Nat.reduceSub, Nat.reduceMul], rfl, by omega⟩
    clear h2 ho e0 e2 e7 e8 e9 H' E
    rintro j E H' n' ⟨⟨rfl, h2, ho, e0, e2, e7, e8, hc'⟩, e9, e10, e11, hj⟩
    simp -implicitDefEqProofs only [go_sem, Nat.reduceLT, Nat.reduceBEq, Nat.reduceAdd, Nat.reduceEqDiff, Nat.reduceLeDiff, Nat.reduceSub, Nat.reduceMul, e7, e11]
    refine c_split (fun hlt' => ?_) (fun hlt' => ?_)
    · have hjN : j < L.m := by omega
      have hijN : i - L.m + j < M.m + 1 := by omega
      have hijI : ((i - L.m + j : Nat) : Int) < ((M.m + 1 : Nat) : Int) := by omega
      have hi0' := Int.natCast_nonneg (i - L.m + j)
      have hws : IntKind.i64.wrap ((i : Int) - (L.m : Int)) = ((i - L.m : Nat) : Int) := (wrap64 (by omega)).trans (by omega)
      have hwij : IntKind.i64.wrap (((i - L.m : Nat) : Int) + (j : Int)) = ((i - L.m + j : Nat) : Int) := (wrap64 (by omega)).trans (by omega)
      have hci := hc' i hiN
      have hcij := hc' (i - L.m + j) hijN
      have hf0 := (L.f.co j).lo
      have hf1 := (L.f.co j).hi
      have hst := rdc_step (M := L) c (i := i) (j := j) (by omega) hjN
      have hY : rdc L c i j i = c i := if_neg (by omega)
      rw [hY] at hci hst
      have hZ : mco L j = (L.f.co j).v := rfl
      generalize hX : rdc L c i j (i - L.m + j) = X at *
      generalize hYv : c i = Y at *
      generalize hZv : (L.f.co j).v = Z at *
      have hP0 : 0 ≤ ((k : Int) + 2 - Y) * Z := Int.mul_nonneg (by omega) hf0
      have hP1 : ((k : Int) + 2 - Y) * Z ≤ 256 * 256 := Int.mul_le_mul (by omega) (by omega) hf0 (by omega)
      have hwd := wrap64 (x := (k : Int) + 2 - Y) (by omega)
      have hwm := wrap64 (x := ((k : Int) + 2 - Y) * Z) (by omega)
      have hwa := wrap64 (x := X + ((k : Int) + 2 - Y) * Z) (by omega)
      have ht := tmod_nn (a := X + ((k : Int) + 2 - Y) * Z) (b := (k : Int) + 2) (by omega)
      have hwj := wrap64 (x := (j : Int) + 1) (by omega)
      have hiP := Int.natCast_nonneg i
      simp -implicitDefEqProofs only [go_sem, Nat.reduceLT, Nat.reduceBEq, Nat.reduceAdd, Nat.reduceEqDiff, Nat.reduceLeDiff, Nat.reduceSub, Nat.reduceMul, e0, e2, e7, e8, e9, e10, e11, h2, hlt', hjN, hijN, hijI, hi0', hws, hwij, gat_tab, hX, hZ, hwd, hwm, hwa, hne, ht, hwj]
      have hr0 : 0 ≤ (X + ((k : Int) + 2 - Y) * Z) % ((k : Int) + 2) := Int.emod_nonneg _ (by omega)
      have hr1 : (X + ((k : Int) + 2 - Y) * Z) % ((k : Int) + 2) < (k : Int) + 2 := Int.emod_lt_of_pos _ (by omega)
      have hc2 := upf_range hc' (i := i - L.m + j) hr0 hr1
      rw [hst] at hc2 ⊢
      repeat with_reducible refine And.intro (by omega) ?_
      exact l_n ⟨j + 1, by omega, ⟨rfl, by simp -implicitDefEqProofs only [go_sem, Nat.reduceLT, Nat.reduceBEq, Nat.reduceAdd, Nat.reduceEqDiff, Nat.reduceLeDiff, Nat.reduceSub, Nat.reduceMul], fun b hb => by rw [upd_ne _ _ (by omega)]; exact ho b hb, by simp -implicitDefEqProofs only [go_sem, Nat.reduceLT, Nat.reduceBEq, Nat.reduceAdd, Nat.reduceEqDiff, Nat.reduceLeDiff, Nat.reduceSub, Nat.reduceMul, e0], by simp -implicitDefEqProofs only [go_sem, Nat.reduceLT, Nat.reduceBEq, Nat.reduceAdd, Nat.reduceEqDiff, Nat.reduceLeDiff, Nat.reduceSub, Nat.reduceMul, e2], by simp -implicitDefEqProofs only [go_sem, Nat.reduceLT, Nat.reduceBEq, Nat.reduceAdd, Nat.reduceEqDiff, Nat.reduceLeDiff, Nat.reduceSub, Nat.reduceMul, e7], by simp -implicitDefEqProofs only [go_sem, Nat.reduceLT, Nat.reduceBEq, Nat.reduceAdd, Nat.reduceEqDiff, Nat.reduceLeDiff, Nat.reduceSub, Nat.reduceMul, e8], hc2⟩, by simp -implicitDefEqProofs only [go_sem, Nat.reduceLT, Nat.reduceBEq, Nat.reduceAdd, Nat.reduceEqDiff, Nat.reduceLeDiff, Nat.reduceSub, Nat.reduceMul, e9], by simp -implicitDefEqProofs only [go_sem, Nat.reduceLT, Nat.reduceBEq, Nat.reduceAdd, Nat.reduceEqDiff, Nat.reduceLeDiff, Nat.reduceSub, Nat.reduceMul, e10, hYv], by simp -implicitDefEqProofs only [go_sem, Nat.reduceLT, Nat.reduceBEq, Nat.reduceAdd, Nat.reduceEqDiff, Nat.reduceLeDiff, Nat.reduceSub, Nat.reduceMul]; rfl, by omega⟩
    · have : j = L.m := by omega
      subst this
      have hwi := wrap64 (x := (i : Int) - 1) (by omega)
      simp -implicitDefEqProofs only [go_sem, Nat.reduceLT, Nat.reduceBEq, Nat.reduceAdd, Nat.reduceEqDiff, Nat.reduceLeDiff, Nat.reduceSub, Nat.reduceMul, e8, e9, h2, hiN, hiI, hwi]
      repeat with_reducible refine And.intro (by omega) ?_
      refine l_n ⟨i, by omega, upf (rdc L c i L.m) i 0, ⟨rfl, by simp -implicitDefEqProofs only [go_sem, Nat.reduceLT, Nat.reduceBEq, Nat.reduceAdd, Nat.reduceEqDiff, Nat.reduceLeDiff, Nat.reduceSub, Nat.reduceMul], fun b hb => by rw [upd_ne _ _ (by omega)]; exact ho b hb, by simp -implicitDefEqProofs only [go_sem, Nat.reduceLT, Nat.reduceBEq, Nat.reduceAdd, Nat.reduceEqDiff, Nat.reduceLeDiff, Nat.reduceSub, Nat.reduceMul, e0], by simp -implicitDefEqProofs only [go_sem, Nat.reduceLT, Nat.reduceBEq, Nat.reduceAdd, Nat.reduceEqDiff, Nat.reduceLeDiff, Nat.reduceSub, Nat.reduceMul, e2], by simp -implicitDefEqProofs only [go_sem, Nat.reduceLT, Nat.reduceBEq, Nat.reduceAdd, Nat.reduceEqDiff, Nat.reduceLeDiff, Nat.reduceSub, Nat.reduceMul, e7], by simp -implicitDefEqProofs only [go_sem, Nat.reduceLT, Nat.reduceBEq, Nat.reduceAdd, Nat.reduceEqDiff, Nat.reduceLeDiff, Nat.reduceSub, Nat.reduceMul, e8], upf_range hc' (by omega) (by omega)⟩, fun t t1 t2 => ?_, ?_, by simp -implicitDefEqProofs only [go_sem, Nat.reduceLT, Nat.reduceBEq, Nat.reduceAdd, Nat.reduceEqDiff, Nat.reduceLeDiff, Nat.reduceSub, Nat.reduceMul], by omega, by omega⟩
      · by_cases e : t = i
        · subst e; exact upf_same _ _ _
        · rw [upf_ne _ _ e]
          have : rdc L c i L.m t = c t := if_neg (by omega)
          rw [this]; exact hz t (by omega) t2
      · refine hS.trans ?_
        have := rdc_cg (M := L) c (i := i) (by omega)
        rwa [trc_congr (c' := upf (rdc L c i L.m) i 0) fun t ht => (upf_ne _ _ (by omega)).symm] at this
  · have : i = L.m := by omega
    subst this
    have hiff : Cg L M.f 0 ↔ ∀ t, t < M.m + 1 → c t = 0 := by
      have h1 : Cg L M.f 0 ↔ trc (k := k) c L.m = 0 := by
        constructor
        · intro hh; exact Cg.eq (hS.symm.trans hh) (trc_dg _ _) (Dg.zero _)
        · intro hh; rwa [hh] at hS
      rw [h1, trc_eq_zero fun t ht => hc t (by omega)]
      constructor
      · intro hh t ht
        by_cases e : t < L.m
        · exact hh t e
        · exact hz t (by omega) ht
      · intro hh t ht; exact hh t (by omega)
    simp -implicitDefEqProofs only [go_sem, Nat.reduceLT, Nat.reduceBEq, Nat.reduceAdd, Nat.reduceEqDiff, Nat.reduceLeDiff, Nat.reduceSub, Nat.reduceMul]
    refine loop_rule (fun (t : Nat) E H' n' => n' = n + 3 ∧ H' (n + 2) = some (tab (M.m + 1) (it c)) ∧ (∀ b, b < n → H' b = H b) ∧ E 8 = .own (n + 2) 0 (M.m + 1) ∧ E 12 = .int .i64 (t : Nat) ∧ t ≤ M.m + 1 ∧ ∀ u, u < t → c u = 0) (fun t => M.m + 1 - t) 0 ⟨rfl, h2, ho, by simp -implicitDefEqProofs only [go_sem, Nat.reduceLT, Nat.reduceBEq, Nat.reduceAdd, Nat.reduceEqDiff, Nat.reduceLeDiff, Nat.reduceSub, Nat.reduceMul, e8], rfl, by omega, fun u hu => by omega⟩ ?_
    clear h2 ho e0 e2 e7 e8 e9 H' E
    rintro t E H' n' ⟨rfl, h2, ho, e8, e12, ht, hu⟩
    simp -implicitDefEqProofs only [go_sem, Nat.reduceLT, Nat.reduceBEq, Nat.reduceAdd, Nat.reduceEqDiff, Nat.reduceLeDiff, Nat.reduceSub, Nat.reduceMul, e8, e12]
    refine c_split (fun hlt' => ?_) (fun hlt' => ?_)
    · have htN : t < M.m + 1 := by omega
      have hwt := wrap64 (x := (t : Int) + 1) (by omega)
      by_cases e : c t = 0
      · simp -implicitDefEqProofs only [go_sem, Nat.reduceLT, Nat.reduceBEq, Nat.reduceAdd, Nat.reduceEqDiff, Nat.reduceLeDiff, Nat.reduceSub, Nat.reduceMul, e8, e12, h2, hlt', htN, gat_tab, e, hwt]
        refine l_n ⟨t + 1, by omega, rfl, h2, ho, by simp -implicitDefEqProofs only [go_sem, Nat.reduceLT, Nat.reduceBEq, Nat.reduceAdd, Nat.reduceEqDiff, Nat.reduceLeDiff, Nat.reduceSub, Nat.reduceMul, e8], by simp -implicitDefEqProofs only [go_sem, Nat.reduceLT, Nat.reduceBEq, Nat.reduceAdd, Nat.reduceEqDiff, Nat.reduceLeDiff, Nat.reduceSub, Nat.reduceMul]; rfl, by omega, fun u h1 => ?_⟩
        by_cases e' : u = t
        · subst e'; exact e
        · exact hu u (by omega)
      · simp -implicitDefEqProofs only [go_sem, Nat.reduceLT, Nat.reduceBEq, Nat.reduceAdd, Nat.reduceEqDiff, Nat.reduceLeDiff, Nat.reduceSub, Nat.reduceMul, e8, e12, h2, hlt', htN, gat_tab, e]
        refine fin_ret rfl (by decide) (fz_bool ?_) ho
        exact (decide_eq_false fun hh => e (hiff.1 hh t htN)).symm
    · simp -implicitDefEqProofs only [go_sem, Nat.reduceLT, Nat.reduceBEq, Nat.reduceAdd, Nat.reduceEqDiff, Nat.reduceLeDiff, Nat.reduceSub, Nat.reduceMul]
      refine fin_ret rfl (by decide) (fz_bool ?_) ho
      exact (decide_eq_true (hiff.2 fun u h1 => hu u (by omega))).symm
end
end Go.Proofs.Ytdpibcniodhinaa.Gh
/- The reference's test of irreducibility, and of descriptions. -/
namespace Go.Proofs.Ytdpibcniodhinaa.Gh
open Go Go.RowKit
open Alg (CR Ps Dg Zm Mn El Cg sm pw Irr Prm)
set_option linter.unusedVariables false
set_option linter.unusedSimpArgs false

section
variable {k : Nat} {M : Mn k}
/-- the monic polynomial of a number -/
def mnv (k : Nat) (d : Nat) (hd : 0 < d) (v : Int) : Mn k where
  m := d
  f := ⟨fun t => if t < d then Zm.of (dg ((k : Int) + 2) v t) else if t = d then 1 else 0⟩
  dg := fun t ht => by show (if t < d then _ else if t = d then (1 : Zm k) else 0) = 0; rw [if_neg (by omega), if_neg (by omega)]
  top := by show (if d < d then _ else if d = d then (1 : Zm k) else 0) = 1; rw [if_neg (by omega), if_pos rfl]
  pos := hd
theorem mnv_isl (d : Nat) (hd : 0 < d) (v : Int) : isl d (dg ((k : Int) + 2) v) = isl (mnv k d hd v).m (mco (mnv k d hd v)) := by
  refine congrArg (GV.sl d) (tab_congr fun t ht => congrArg (GV.int .i64) ?_)
  show _ = (if t < d then Zm.of (dg ((k : Int) + 2) v t) else if t = d then (1 : Zm k) else 0).v
  rw [if_pos ht, of_v_small (dg_lo (by omega) t) (dg_hi (by omega) t)]
theorem mnv_all {d : Nat} (hd : 0 < d) {a : Ps (Zm k)} (ha : Dg a (d + 1)) (h1 : a.co d = 1) : ∃ v : Nat, v < (k + 2) ^ d ∧ (mnv k d hd (v : Nat)).f = a := by
  have hv := vs_nn (hp2 k) d (f := fun j => (a.co j).v) fun j _ => ⟨(a.co j).lo, (a.co j).hi⟩
  refine ⟨(vs ((k : Int) + 2) d fun j => (a.co j).v).toNat, ?_, ?_⟩
  · have : (((k + 2) ^ d : Nat) : Int) = ((k : Int) + 2) ^ d := by push_cast; rfl
    omega
  · rw [Int.toNat_of_nonneg hv.1]
    apply Ps.ext'
    intro t
    show (if t < d then Zm.of (dg ((k : Int) + 2) (vs ((k : Int) + 2) d fun j => (a.co j).v) t) else if t = d then (1 : Zm k) else 0) = a.co t
    by_cases ht : t < d
    · rw [if_pos ht, dg_vs (hp2 k) d (fun j _ => ⟨(a.co j).lo, (a.co j).hi⟩) t ht, Zm.of_self]
    · rw [if_neg ht]
      by_cases e : t = d
      · subst e; rw [if_pos rfl, h1]
      · rw [if_neg e, ha t (by omega)]
/-- no monic divisor of a degree d, by numbers -/
def NoDiv (M : Mn k) (d : Nat) (N : Nat) : Prop := ∀ (hd : 0 < d) (v : Nat), v < N → ¬ Cg (mnv k d hd (v : Nat)) M.f 0
theorem irr_iff : Irr M ↔ ∀ d, 1 ≤ d → 2 * d ≤ M.m → NoDiv M d ((k + 2) ^ d) := by
  constructor
  · intro h d h1 h2 hd v hv hc
    obtain ⟨q, hq, e⟩ := cg_quot hc
    exact h d _ q h1 h2 (mnv k d hd (v : Nat)).dg (mnv k d hd (v : Nat)).top hq e
  · intro h d a q h1 h2 ha ht hq e
    obtain ⟨v, hv, e2⟩ := mnv_all (by omega) ha ht
    refine h d h1 h2 (by omega) v hv ?_
    exact ⟨_, q, hq, by rw [e2, Alg.add_zero]; exact e⟩
noncomputable instance (M : Mn k) : Decidable (Irr M) := Classical.propDecidable _

theorem sp_ref04_irreducible {H : Heap} {n : Nat} (h : Fc M) : Spec prog fid_ref04_irreducible [isl M.m (mco M), .int .i64 ((k : Int) + 2)] H n (.bool (decide (Irr M))) H n := by
  refine spec_ends hmix ok_ref04_irreducible rfl fun hF => ?_
  show gw prog B_ref04_irreducible _ (tl 30 _) H n
  have hp := h.p256
  have hm8 := h.m8
  have hq := h.qn
  simp -implicitDefEqProofs only [B_ref04_irreducible, go_sem, Nat.reduceLT, Nat.reduceBEq, Nat.reduceAdd, Nat.reduceEqDiff, Nat.reduceLeDiff, Nat.reduceSub, Nat.reduceMul]
  refine loop_rule (fun (d : Nat) E H' n' => H' = H ∧ n' = n ∧ E 0 = isl M.m (mco M) ∧ E 1 = .int .i64 ((k : Int) + 2) ∧ E 5 = .int .i64 ((k + 2) ^ (d - 1) : Nat) ∧ E 6 = .int .i64 (d : Nat) ∧ 1 ≤ d ∧ 2 * d ≤ M.m + 2 ∧ ∀ c, 1 ≤ c → c < d → NoDiv M c ((k + 2) ^ c)) (fun d => M.m + 2 - d) 1 ?_ ?_
  · exact ⟨rfl, rfl, rfl, rfl, rfl, rfl, by omega, by have := M.pos; omega, fun c h1 h2 => by omega⟩
  rintro d E H' n' ⟨rfl, rfl, e0, e1, e5, e6, d1, d2, hd⟩
  have hw1 := wrap64 (x := 2 * (d : Int)) (by omega)
  simp -implicitDefEqProofs only [go_sem, Nat.reduceLT, Nat.reduceBEq, Nat.reduceAdd, Nat.reduceEqDiff, Nat.reduceLeDiff, Nat.reduceSub, Nat.reduceMul, e0, e6, hw1]
  refine c_split (fun hc => ?_) (fun hc => ?_)
  · have hd0 : 0 < d := by omega
    have hpd : (k + 2) ^ d ≤ qn M := Nat.pow_le_pow_right (by omega) (by omega)
    have hps : (k + 2) ^ d = (k + 2) ^ (d - 1) * (k + 2) := by rw [← Nat.pow_succ]; congr 1; omega
    have hmul : (((k + 2) ^ (d - 1) : Nat) : Int) * ((k : Int) + 2) = (((k + 2) ^ d : Nat) : Int) := by rw [hps]; push_cast; rfl
    have hw2 := wrap64 (x := (((k + 2) ^ d : Nat) : Int)) (by omega)
    simp -implicitDefEqProofs only [go_sem, Nat.reduceLT, Nat.reduceBEq, Nat.reduceAdd, Nat.reduceEqDiff, Nat.reduceLeDiff, Nat.reduceSub, Nat.reduceMul, e1, e5, hmul, hw2]
    refine loop_rule (fun (v : Nat) E H1 n1 => H1 = H' ∧ n1 = n' ∧ E 0 = isl M.m (mco M) ∧ E 1 = .int .i64 ((k : Int) + 2) ∧ E 5 = .int .i64 ((k + 2) ^ d : Nat) ∧ E 6 = .int .i64 (d : Nat) ∧ E 7 = .int .i64 (v : Nat) ∧ v ≤ (k + 2) ^ d ∧ NoDiv M d v) (fun v => (k + 2) ^ d - v) 0 ?_ ?_
    · exact ⟨rfl, rfl, by simp -implicitDefEqProofs only [go_sem, Nat.reduceLT, Nat.reduceBEq, Nat.reduceAdd, Nat.reduceEqDiff, Nat.reduceLeDiff, Nat.reduceSub, Nat.reduceMul, e0], by simp -implicitDefEqProofs only [go_sem, Nat.reduceLT, Nat.reduceBEq, Nat.reduceAdd, Nat.reduceEqDiff, Nat.reduceLeDiff, Nat.reduceSub, Nat.reduceMul, e1], by simp -implicitDefEqProofs only [go_sem, Nat.reduceLT, Nat.reduceBEq, Nat.reduceAdd, Nat.reduceEqDiff, Nat.reduceLeDiff, Nat.reduceSub, Nat.reduceMul], by simp -implicitDefEqProofs only [go_sem, Nat.reduceLT, Nat.reduceBEq, Nat.reduceAdd, Nat.reduceEqDiff, Nat.reduceLeDiff, Nat.reduceSub, Nat.reduceMul, e6], rfl, by omega, fun _ v hv => by omega⟩
    clear e0 e1 e5 e6 E
    rintro v E H1 n1 ⟨rfl, rfl, e0, e1, e5, e6, e7, hv, hN⟩
    simp -implicitDefEqProofs only [go_sem, Nat.reduceLT, Nat.reduceBEq, Nat.reduceAdd, Nat.reduceEqDiff, Nat.reduceLeDiff, Nat.reduceSub, Nat.reduceMul, e5, e7]
    refine c_split (fun hlt => ?_) (fun hlt => ?_)
    · have hvN : v < (k + 2) ^ d := by omega
      have hwv := wrap64 (x := (v : Int) + 1) (by omega)
      simp -implicitDefEqProofs only [go_sem, Nat.reduceLT, Nat.reduceBEq, Nat.reduceAdd, Nat.reduceEqDiff, Nat.reduceLeDiff, Nat.reduceSub, Nat.reduceMul, e0, e1, e6, e7]
      refine call_of ((sp_ref04_digits (v : Int) ((k : Int) + 2) d (by omega) (by omega) (by omega) (by omega)).frozen tab_len (pl_tab fun i _ => .int _ _)) ?_
      simp -implicitDefEqProofs only [go_sem, Nat.reduceLT, Nat.reduceBEq, Nat.reduceAdd, Nat.reduceEqDiff, Nat.reduceLeDiff, Nat.reduceSub, Nat.reduceMul, e0, e1]
      have hdv := sp_ref04_divides (M := M) (L := mnv k d hd0 (v : Nat)) (H := H1) (n := n1) h (by show d ≤ M.m; omega)
      rw [← mnv_isl] at hdv
      refine call_of hdv ?_
      by_cases hg : Cg (mnv k d hd0 (v : Nat)) M.f 0
      · simp -implicitDefEqProofs only [go_sem, Nat.reduceLT, Nat.reduceBEq, Nat.reduceAdd, Nat.reduceEqDiff, Nat.reduceLeDiff, Nat.reduceSub, Nat.reduceMul, hg]
        refine fin_ret rfl (by decide) (fz_bool ?_) fun _ _ => rfl
        refine (decide_eq_false fun hi => ?_).symm
        exact irr_iff.1 hi d d1 (by omega) hd0 v hvN hg
      · simp -implicitDefEqProofs only [go_sem, Nat.reduceLT, Nat.reduceBEq, Nat.reduceAdd, Nat.reduceEqDiff, Nat.reduceLeDiff, Nat.reduceSub, Nat.reduceMul, hg, e7, hwv]
        refine l_n ⟨v + 1, by omega, rfl, rfl, by simp -implicitDefEqProofs only [go_sem, Nat.reduceLT, Nat.reduceBEq, Nat.reduceAdd, Nat.reduceEqDiff, Nat.reduceLeDiff, Nat.reduceSub, Nat.reduceMul, e0], by simp -implicitDefEqProofs only [go_sem, Nat.reduceLT, Nat.reduceBEq, Nat.reduceAdd, Nat.reduceEqDiff, Nat.reduceLeDiff, Nat.reduceSub, Nat.reduceMul, e1], by simp -implicitDefEqProofs only [go_sem, Nat.reduceLT, Nat.reduceBEq, Nat.reduceAdd, Nat.reduceEqDiff, Nat.reduceLeDiff, Nat.reduceSub, Nat.reduceMul, e5], by simp -implicitDefEqProofs only [go_sem, Nat.reduceLT, Nat.reduceBEq, Nat.reduceAdd, Nat.reduceEqDiff, Nat.reduceLeDiff, Nat.reduceSub, Nat.reduceMul, e6], by simp -implicitDefEqProofs only [go_sem, Nat.reduceLT, Nat.reduceBEq, Nat.reduceAdd, Nat.reduceEqDiff, Nat.reduceLeDiff, Nat.reduceSub, Nat.reduceMul]; rfl, by omega, fun hd' u hu => ?_⟩
        by_cases e : u = v
        · subst e; exact hg
        · exact hN hd' u (by omega)
    · have : v = (k + 2) ^ d := by omega
      subst this
      have hwd := wrap64 (x := (d : Int) + 1) (by omega)
      simp -implicitDefEqProofs only [go_sem, Nat.reduceLT, Nat.reduceBEq, Nat.reduceAdd, Nat.reduceEqDiff, Nat.reduceLeDiff, Nat.reduceSub, Nat.reduceMul, e6, hwd]
      refine l_n ⟨d + 1, by omega, rfl, rfl, by simp -implicitDefEqProofs only [go_sem, Nat.reduceLT, Nat.reduceBEq, Nat.reduceAdd, Nat.reduceEqDiff, Nat.reduceLeDiff, Nat.reduceSub, Nat.reduceMul, e0], by simp -implicitDefEqProofs only [go_sem, Nat.reduceLT, Nat.reduceBEq, Nat.reduceAdd, Nat.reduceEqDiff, Nat.reduceLeDiff, Nat.reduceSub, Nat.reduceMul, e1], by simp -implicitDefEqProofs only [go_sem, Nat.reduceLT, Nat.reduceBEq, Nat.reduceAdd, Nat.reduceEqDiff, Nat.reduceLeDiff, Nat.reduceSub, Nat.reduceMul, e5]; rfl, by simp -implicitDefEqProofs only [go_sem, Nat.reduceLT, Nat.reduceBEq, Nat.reduceAdd, Nat.reduceEqDiff, Nat.reduceLeDiff, Nat.reduceSub, Nat.reduceMul]; rfl, by omega, by omega, fun c h1 h2 => ?_⟩
      by_cases e : c = d
      · subst e; exact hN
      · exact hd c h1 (by omega)
  · simp -implicitDefEqProofs only [go_sem, Nat.reduceLT, Nat.reduceBEq, Nat.reduceAdd, Nat.reduceEqDiff, Nat.reduceLeDiff, Nat.reduceSub, Nat.reduceMul]
    refine fin_ret rfl (by decide) (fz_bool ?_) fun _ _ => rfl
    exact (decide_eq_true (irr_iff.2 fun c h1 h2 => hd c h1 (by omega))).symm
end
end Go.Proofs.Ytdpibcniodhinaa.Gh
/- Descriptions of fields: the program accepts just those that the reference accepts. -/
namespace Go.Proofs.Ytdpibcniodhinaa.Gh
open Go Go.RowKit
open Alg (CR Ps Dg Zm Mn El Cg sm pw Irr Prm)
set_option linter.unusedVariables false
set_option linter.unusedSimpArgs false

theorem isl_congr {m : Nat} {f g : Nat → Int} (h : ∀ j, j < m → f j = g j) : isl m f = isl m g :=
  congrArg (GV.sl m) (tab_congr fun t ht => congrArg (GV.int .i64) (h t ht))
theorem shp_M {p m : Int} {l : Nat} {mo : Nat → Int} (h : Shp p m l mo) : ∃ (k : Nat) (M : Mn k), p = (k : Int) + 2 ∧ m = (M.m : Nat) ∧ l = mlen M ∧ (∀ j, j < l → mo j = mco M j) ∧ Fc M ∧ Prm ((k : Int) + 2) := by
  obtain ⟨hq, hp, h1, h2⟩ := h
  obtain ⟨q1, q2, q3, q4, q5, q6⟩ := qo_in hq
  obtain ⟨k, rfl⟩ : ∃ k : Nat, p = (k : Int) + 2 := ⟨(p - 2).toNat, by omega⟩
  obtain ⟨m', rfl⟩ : ∃ m' : Nat, m = (m' : Int) := ⟨m.toNat, by omega⟩
  rw [Int.toNat_natCast] at q5 q6
  have hm0 : 0 < m' := by omega
  let M : Mn k := {
    m := m'
    f := ⟨fun t => if t < m' then (if m' = 1 then 0 else Zm.of (mo t)) else if t = m' then 1 else 0⟩
    dg := fun t ht => by show (if t < m' then (if m' = 1 then 0 else Zm.of (mo t)) else if t = m' then (1 : Zm k) else 0) = 0; rw [if_neg (by omega), if_neg (by omega)]
    top := by show (if m' < m' then (if m' = 1 then 0 else Zm.of (mo m')) else if m' = m' then (1 : Zm k) else 0) = 1; rw [if_neg (by omega), if_pos rfl]
    pos := hm0 }
  refine ⟨k, M, rfl, rfl, ?_, ?_, ⟨q5, by show m' ≤ 8; omega, fun e => ?_⟩, hp.2⟩
  · show l = if m' = 1 then 0 else m'
    by_cases e : m' = 1
    · rw [if_pos e]; exact h1 (by omega)
    · rw [if_neg e]; have := (h2 (by omega)).1; omega
  · intro j hj
    show mo j = (if j < m' then (if m' = 1 then 0 else Zm.of (mo j)) else if j = m' then (1 : Zm k) else 0).v
    by_cases e : m' = 1
    · have := h1 (by omega); omega
    · have h3 := h2 (by omega)
      have h4 := h3.2 j hj
      rw [if_pos (by omega), if_neg e, of_v_small h4.1 h4.2]
  · have e' : m' = 1 := e
    show (if 0 < m' then (if m' = 1 then 0 else Zm.of (mo 0)) else if 0 = m' then (1 : Zm k) else 0) = 0
    rw [if_pos hm0, if_pos e']
/-- a description is that of M -/
structure Des (p m : Int) (l : Nat) (mo : Nat → Int) {k : Nat} (M : Mn k) : Prop where
  hp : p = (k : Int) + 2
  hm : m = (M.m : Nat)
  hl : l = mlen M
  hmo : ∀ j, j < l → mo j = mco M j
theorem Des.fd {p m : Int} {l : Nat} {mo : Nat → Int} {k : Nat} {M : Mn k} (d : Des p m l mo M) : fgv p m (isl l mo) = fd M := by
  obtain ⟨rfl, rfl, rfl, h⟩ := d
  rw [isl_congr h]; rfl
theorem Des.shp {p m : Int} {l : Nat} {mo : Nat → Int} {k : Nat} {M : Mn k} (d : Des p m l mo M) (h : Fc M) (hp : Prm ((k : Int) + 2)) : Shp p m l mo := by
  obtain ⟨rfl, rfl, rfl, h4⟩ := d
  obtain ⟨a, b, c, e⟩ := fd_shp h hp
  refine ⟨a, b, c, fun hm => ⟨(e hm).1, fun j hj => ?_⟩⟩
  rw [h4 j hj]; exact (e hm).2 j hj
theorem des_inj {p m : Int} {l : Nat} {mo : Nat → Int} {k k' : Nat} {M : Mn k} {M' : Mn k'} (d : Des p m l mo M) (d' : Des p m l mo M') (h : Fc M) (h' : Fc M') (hi : Irr M) : Irr M' := by
  obtain ⟨p1, m1, l1, c1⟩ := d
  obtain ⟨p2, m2, l2, c2⟩ := d'
  have hk : k = k' := by omega
  subst hk
  have hm : M.m = M'.m := by omega
  have hf : M.f = M'.f := by
    apply Ps.ext'
    intro t
    rcases Nat.lt_trichotomy t M.m with ht | ht | ht
    · by_cases e : M.m = 1
      · have e' : M'.m = 1 := by omega
        have : t = 0 := by omega
        subst this
        rw [h.one e, h'.one e']
      · have : mlen M = M.m := if_neg e
        apply Zm.ext'
        exact (c1 t (by omega)).symm.trans (c2 t (by omega))
    · subst ht; rw [M.top, hm, M'.top]
    · rw [M.dg t (by omega), M'.dg t (by omega)]
  have : M = M' := by
    cases M; cases M'
    simp only at hm hf
    subst hm hf
    rfl
  rw [← this]; exact hi
/-- a description of a field -/
def Fok (p m : Int) (l : Nat) (mo : Nat → Int) : Prop := ∃ (k : Nat) (M : Mn k), Des p m l mo M ∧ Fc M ∧ Prm ((k : Int) + 2) ∧ Irr M
noncomputable instance (p m : Int) (l : Nat) (mo : Nat → Int) : Decidable (Fok p m l mo) := Classical.propDecidable _
theorem fok_of {p m : Int} {l : Nat} {mo : Nat → Int} {k : Nat} {M : Mn k} (d : Des p m l mo M) (h : Fc M) (hp : Prm ((k : Int) + 2)) : Fok p m l mo ↔ Irr M :=
  ⟨fun ⟨k', M', d', h', hp', hi⟩ => des_inj d' d h' h hi, fun hi => ⟨k, M, d, h, hp, hi⟩⟩

theorem sp_field_New_fail {H : Heap} {n : Nat} (p m : Int) (l : Nat) (mo : Nat → Int) (hs : ¬ Fok p m l mo) : Spec prog fid_field_New [fgv p m (isl l mo)] H n (.tup [.nilp, .int .i64 1]) H n := by
  by_cases h : Shp p m l mo
  · obtain ⟨k, M, h1, h2, h3, h4, h5, h6⟩ := shp_M h
    have d : Des p m l mo M := ⟨h1, h2, h3, h4⟩
    rw [d.fd]
    exact sp_field_New_no h5 h6 fun hg => hs ((fok_of d h5 h6).2 ((gen_irr h6).1 hg))
  · exact sp_field_New_bad p m l mo h
section
variable {k : Nat} {M : Mn k}
/-- a field: its description is within the bounds, and its polynomial irreducible -/
structure Fi (M : Mn k) : Prop where
  fc : Fc M
  prm : Prm ((k : Int) + 2)
  irr : Irr M
theorem Fi.gen (h : Fi M) : ∃ x : El M, x ≠ 0 ∧ Gen x := (gen_irr h.prm).2 h.irr
/-- the program's generator -/
noncomputable def Fi.g (h : Fi M) : El M := gnr h.gen
theorem Fi.gg (h : Fi M) : Gen h.g := gnr_gen h.gen
/-- the field as the program keeps it -/
noncomputable def Fi.gf (h : Fi M) : GV := gfv M h.g
theorem fok_cases (p m : Int) (l : Nat) (mo : Nat → Int) : (∃ (k : Nat) (M : Mn k) (_ : Fi M), Des p m l mo M) ∨ ¬ Fok p m l mo := by
  by_cases h : Fok p m l mo
  · obtain ⟨k, M, d, h1, h2, h3⟩ := h
    exact .inl ⟨k, M, ⟨h1, h2, h3⟩, d⟩
  · exact .inr h
theorem sp_field_New {H : Heap} {n : Nat} (h : Fi M) : Spec prog fid_field_New [fd M] H n (.tup [h.gf, .int .i64 0]) H n := sp_field_New_ok h.fc h.prm h.gen

theorem sp_ref04_Check' {H : Heap} {n : Nat} (p m : Int) (l : Nat) (mo : Nat → Int) : Spec prog fid_ref04_Check [fgv p m (isl l mo)] H n (.int .i64 (if Fok p m l mo then 0 else 1)) H n := by
  refine spec_ends hmix ok_ref04_Check rfl fun hF => ?_
  show gw prog B_ref04_Check _ (tl 54 _) H n
  have bad : ∀ (E : Env) (H' : Heap) (n' : Nat), (∀ b, b < n → H' b = H b) → E 2 = .int .i64 1 → ¬ Shp p m l mo → F_ref04_Check.ends H n (.int .i64 (if Fok p m l mo then 0 else 1)) .ret (tl 54 E) H' n' := by
    intro E H' n' ho h4 h
    refine fin_ret rfl (by decide) ?_ ho
    rw [h4]; exact fz_int (if_neg fun ⟨k, M, d, h1, h2, h3⟩ => h (d.shp h1 h2)).symm
  have hu : ∀ x b, b < n → upd H n x b = H b := fun x b hb => upd_ne _ _ (by omega)
  simp -implicitDefEqProofs only [B_ref04_Check, fgv, go_sem, Nat.reduceLT, Nat.reduceBEq, Nat.reduceAdd, Nat.reduceEqDiff, Nat.reduceLeDiff, Nat.reduceSub, Nat.reduceMul]
  refine call_of (sp_ref04_Order p m _ rfl) ?_
  by_cases hq : qo p m = 0
  · simp -implicitDefEqProofs only [go_sem, Nat.reduceLT, Nat.reduceBEq, Nat.reduceAdd, Nat.reduceEqDiff, Nat.reduceLeDiff, Nat.reduceSub, Nat.reduceMul, hq]
    exact bad _ _ _ (hu _) rfl fun h => h.1 hq
  · obtain ⟨q1, q2, q3, q4, q5, q6⟩ := qo_in hq
    simp -implicitDefEqProofs only [go_sem, Nat.reduceLT, Nat.reduceBEq, Nat.reduceAdd, Nat.reduceEqDiff, Nat.reduceLeDiff, Nat.reduceSub, Nat.reduceMul, hq]
    refine call_of (sp_ref04_prime p (by omega) (by omega)) ?_
    by_cases hp : isPr p
    · simp -implicitDefEqProofs only [go_sem, Nat.reduceLT, Nat.reduceBEq, Nat.reduceAdd, Nat.reduceEqDiff, Nat.reduceLeDiff, Nat.reduceSub, Nat.reduceMul, hp]
      by_cases hm : m = 1
      · subst hm
        by_cases hl : l = 0
        · subst hl
          have h00 : ((0 : Nat) : Int) = 0 := rfl
          simp -implicitDefEqProofs only [go_sem, Nat.reduceLT, Nat.reduceBEq, Nat.reduceAdd, Nat.reduceEqDiff, Nat.reduceLeDiff, Nat.reduceSub, Nat.reduceMul, h00]
          refine fin_ret rfl (by decide) (fz_int (if_pos ?_).symm) (hu _)
          obtain ⟨k, M, h1, h2, h3, h4, h5, h6⟩ := shp_M (p := p) (m := 1) (l := 0) (mo := mo) ⟨hq, hp, fun _ => rfl, fun h => absurd rfl h⟩
          exact ⟨k, M, ⟨h1, h2, h3, h4⟩, h5, h6, fun d a q d1 d2 => by omega⟩
        · have : ¬ ((l : Int) = 0) := by omega
          simp -implicitDefEqProofs only [go_sem, Nat.reduceLT, Nat.reduceBEq, Nat.reduceAdd, Nat.reduceEqDiff, Nat.reduceLeDiff, Nat.reduceSub, Nat.reduceMul, this]
          exact bad _ _ _ (hu _) rfl fun h => hl (h.2.2.1 rfl)
      · by_cases hl : (l : Int) = m
        · subst hl
          simp -implicitDefEqProofs only [go_sem, Nat.reduceLT, Nat.reduceBEq, Nat.reduceAdd, Nat.reduceEqDiff, Nat.reduceLeDiff, Nat.reduceSub, Nat.reduceMul, hm]
          refine loop_rule (fun (j : Nat) E H' n' => n' = n + 1 ∧ H' n = some [.int .i64 p, .int .i64 (l : Nat), isl l mo] ∧ (∀ b, b < n → H' b = H b) ∧ E 1 = .ptr n 0 ∧ E 3 = .int .i64 (j : Nat) ∧ j ≤ l ∧ ∀ i, i < j → 0 ≤ mo i ∧ mo i < p) (fun j => l - j) 0 ?_ ?_
          · exact ⟨rfl, by simp -implicitDefEqProofs only [go_sem, Nat.reduceLT, Nat.reduceBEq, Nat.reduceAdd, Nat.reduceEqDiff, Nat.reduceLeDiff, Nat.reduceSub, Nat.reduceMul], hu _, rfl, rfl, by omega, fun i hi => by omega⟩
          rintro j E H' n' ⟨rfl, h0, ho, e1, e3, j1, j2⟩
          simp -implicitDefEqProofs only [go_sem, Nat.reduceLT, Nat.reduceBEq, Nat.reduceAdd, Nat.reduceEqDiff, Nat.reduceLeDiff, Nat.reduceSub, Nat.reduceMul, e1, e3, h0]
          refine c_split (fun hc => ?_) (fun hc => ?_)
          · have hjN : j < l := by omega
            have hwj := wrap64 (x := (j : Int) + 1) (by omega)
            by_cases hlo : mo j < 0
            · simp -implicitDefEqProofs only [go_sem, Nat.reduceLT, Nat.reduceBEq, Nat.reduceAdd, Nat.reduceEqDiff, Nat.reduceLeDiff, Nat.reduceSub, Nat.reduceMul, e1, e3, hc, hjN, gat_tab, h0, hlo]
              exact bad _ _ _ ho (by simp -implicitDefEqProofs only [go_sem, Nat.reduceLT, Nat.reduceBEq, Nat.reduceAdd, Nat.reduceEqDiff, Nat.reduceLeDiff, Nat.reduceSub, Nat.reduceMul]) fun h => by have := (h.2.2.2 hm).2 j hjN; omega
            · by_cases hhi : p ≤ mo j
              · simp -implicitDefEqProofs only [go_sem, Nat.reduceLT, Nat.reduceBEq, Nat.reduceAdd, Nat.reduceEqDiff, Nat.reduceLeDiff, Nat.reduceSub, Nat.reduceMul, e1, e3, hc, hjN, gat_tab, h0, hlo, hhi]
                exact bad _ _ _ ho (by simp -implicitDefEqProofs only [go_sem, Nat.reduceLT, Nat.reduceBEq, Nat.reduceAdd, Nat.reduceEqDiff, Nat.reduceLeDiff, Nat.reduceSub, Nat.reduceMul]) fun h => by have := (h.2.2.2 hm).2 j hjN; omega
              · simp -implicitDefEqProofs only [go_sem, Nat.reduceLT, Nat.reduceBEq, Nat.reduceAdd, Nat.reduceEqDiff, Nat.reduceLeDiff, Nat.reduceSub, Nat.reduceMul, e1, e3, hc, hjN, gat_tab, h0, hlo, hhi, hwj]
                refine l_n ⟨j + 1, by omega, rfl, h0, ho, by simp -implicitDefEqProofs only [go_sem, Nat.reduceLT, Nat.reduceBEq, Nat.reduceAdd, Nat.reduceEqDiff, Nat.reduceLeDiff, Nat.reduceSub, Nat.reduceMul, e1], by simp -implicitDefEqProofs only [go_sem, Nat.reduceLT, Nat.reduceBEq, Nat.reduceAdd, Nat.reduceEqDiff, Nat.reduceLeDiff, Nat.reduceSub, Nat.reduceMul]; rfl, by omega, fun i hi => ?_⟩
                by_cases e : i = j
                · subst e; omega
                · exact j2 i (by omega)
          · have hs : Shp p (l : Nat) l mo := ⟨hq, hp, fun h => absurd h hm, fun _ => ⟨rfl, fun i hi => j2 i (by omega)⟩⟩
            obtain ⟨k, M, h1, h2, h3, h4, h5, h6⟩ := shp_M hs
            have d : Des p (l : Nat) l mo M := ⟨h1, h2, h3, h4⟩
            have hM : l = M.m := by omega
            have hsl : isl l mo = isl M.m (mco M) := by rw [isl_congr h4, ← hM]
            simp -implicitDefEqProofs only [go_sem, Nat.reduceLT, Nat.reduceBEq, Nat.reduceAdd, Nat.reduceEqDiff, Nat.reduceLeDiff, Nat.reduceSub, Nat.reduceMul, e1, h0]
            rw [hsl, h1]
            refine call_of (sp_ref04_irreducible h5) ?_
            by_cases hi : Irr M
            · simp -implicitDefEqProofs only [go_sem, Nat.reduceLT, Nat.reduceBEq, Nat.reduceAdd, Nat.reduceEqDiff, Nat.reduceLeDiff, Nat.reduceSub, Nat.reduceMul, hi]
              refine fin_ret rfl (by decide) (fz_int (if_pos ?_).symm) ho
              rw [← h1]
              exact (fok_of d h5 h6).2 hi
            · simp -implicitDefEqProofs only [go_sem, Nat.reduceLT, Nat.reduceBEq, Nat.reduceAdd, Nat.reduceEqDiff, Nat.reduceLeDiff, Nat.reduceSub, Nat.reduceMul, hi]
              refine fin_ret rfl (by decide) (fz_int (if_neg fun hf => hi ((fok_of d h5 h6).1 ?_)).symm) ho
              rw [← h1] at hf
              exact hf
        · simp -implicitDefEqProofs only [go_sem, Nat.reduceLT, Nat.reduceBEq, Nat.reduceAdd, Nat.reduceEqDiff, Nat.reduceLeDiff, Nat.reduceSub, Nat.reduceMul, hm, hl]
          exact bad _ _ _ (hu _) (by simp -implicitDefEqProofs only [go_sem, Nat.reduceLT, Nat.reduceBEq, Nat.reduceAdd, Nat.reduceEqDiff, Nat.reduceLeDiff, Nat.reduceSub, Nat.reduceMul]) fun h => hl (h.2.2.2 hm).1
    · simp -implicitDefEqProofs only [go_sem, Nat.reduceLT, Nat.reduceBEq, Nat.reduceAdd, Nat.reduceEqDiff, Nat.reduceLeDiff, Nat.reduceSub, Nat.reduceMul, hp]
      exact bad _ _ _ (hu _) rfl fun h => hp h.2.1
end
end Go.Proofs.Ytdpibcniodhinaa.Gh
/- Rows without the zeros at their end. -/
namespace Go.Proofs.Ytdpibcniodhinaa.Gh
open Go Go.RowKit
set_option linter.unusedVariables false
set_option linter.unusedSimpArgs false
/-- the length without the zeros at the end -/
def tn (f : Nat → Int) : Nat → Nat
  | 0 => 0
  | m + 1 => if f m = 0 then tn f m else m + 1
theorem tn_le (f : Nat → Int) : ∀ m, tn f m ≤ m := by
  intro m
  induction m with
  | zero => exact Nat.le_refl _
  | succ m ih => rw [tn]; split <;> omega
theorem tn_congr {f g : Nat → Int} : ∀ {m : Nat}, (∀ j, j < m → f j = g j) → tn f m = tn g m := by
  intro m
  induction m with
  | zero => intro _; rfl
  | succ m ih => intro h; rw [tn, tn, h m (by omega), ih fun j hj => h j (by omega)]
theorem tn_zero {f : Nat → Int} : ∀ (n j : Nat), tn f n ≤ j → j < n → f j = 0 := by
  intro n
  induction n with
  | zero => intro j h1 h2; omega
  | succ n ih =>
    intro j h1 h2
    rw [tn] at h1
    by_cases e : f n = 0
    · rw [if_pos e] at h1
      by_cases e' : j = n
      · subst e'; exact e
      · exact ih j h1 (by omega)
    · rw [if_neg e] at h1; omega
theorem upf_upf {α : Type} (f : Nat → α) (i : Nat) (x y : α) : upf (upf f i x) i y = upf f i y := by
  funext j; simp only [upf]; split <;> rfl
end Go.Proofs.Ytdpibcniodhinaa.Gh
/- The ghost code of some functions. -/
namespace Go.Proofs.Ytdpibcniodhinaa.Gh
open Go Go.RowKit
def B_poly_Canon : GCode :=
  (.seq (.region [⟨(some 4), .mov (.c (.nil)), none⟩])
  (.seq (.region [⟨(some 8), .mov (.t 1), none⟩,
    ⟨(some 9), .len (.t 8), none⟩,
    ⟨(some 10), .mslice (.int .i64 0) 8 (.t 9) (.t 9), none⟩,
    ⟨(some 5), .mov (.t 10), none⟩])
  (.seq (.seq (.region [⟨(some 11), .mov (.t 1), none⟩,
    ⟨(some 12), .len (.t 11), none⟩,
    ⟨(some 13), .mov (.c (.int .i64 0)), none⟩])
  (.block 0 (.loop (.seq (.region [⟨(some 14), .bin .lss (.t 13) (.t 12), none⟩])
  (.seq (.cond (.t 14)
  .skip
  (.exit 0))
  (.seq (.block 1 (.seq (.region [⟨(some 15), .mov (.t 13), none⟩,
    ⟨(some 16), .indexAddr 1 (.t 11) (.t 13), none⟩,
    ⟨(some 17), .load none (.t 16), none⟩,
    ⟨(some 6), .mov (.t 15), none⟩,
    ⟨(some 7), .mov (.t 17), none⟩])
  (.seq (.region [⟨(some 18), .mov (.t 0), none⟩,
    ⟨(some 19), .mov (.t 7), none⟩,
    ⟨(some 20), .call fid_field_GF_Is [(.t 18), (.t 19)], none⟩])
  (.cond (.t 20)
  (.region [⟨(some 21), .mov (.t 5), none⟩,
    ⟨(some 22), .mov (.t 6), none⟩,
    ⟨(some 23), .mov (.t 7), none⟩,
    ⟨(some 24), .indexAddr 1 (.t 21) (.t 22), none⟩,
    ⟨none, .store 1 (.t 24) (.t 23), none⟩])
  .skip))))
  (.region [⟨(some 25), .bin .add (.t 13) (.c (.int .i64 1)), none⟩,
    ⟨(some 13), .mov (.t 25), none⟩])))))))
  (.seq (.region [⟨(some 26), .mov (.t 5), none⟩,
    ⟨(some 27), .call fid_poly_trim [(.t 26)], none⟩,
    ⟨(some 4), .mov (.t 27), none⟩])
  .ret))))
def F_poly_Canon : GFun := ⟨2, 28, B_poly_Canon, [.t 4]⟩
theorem ok_poly_Canon : okFun Go.Proofs.Try.prog fid_poly_Canon F_poly_Canon = true := by kernel_rfl
def B_poly_trim : GCode :=
  (.seq (.region [⟨(some 2), .mov (.c (.nil)), none⟩])
  (.seq (.block 0 (.loop (.seq (.seq (.region [⟨(some 3), .mov (.t 0), none⟩,
    ⟨(some 4), .len (.t 3), none⟩,
    ⟨(some 5), .bin .gtr (.t 4) (.c (.int .i64 0)), none⟩,
    ⟨(some 6), .mov (.t 5), none⟩,
    ⟨(some 7), .mov (.t 0), (some (6, true))⟩,
    ⟨(some 8), .mov (.t 0), (some (6, true))⟩,
    ⟨(some 9), .len (.t 8), (some (6, true))⟩,
    ⟨(some 10), .bin .sub (.t 9) (.c (.int .i64 1)), (some (6, true))⟩,
    ⟨(some 11), .indexAddr 1 (.t 7) (.t 10), (some (6, true))⟩,
    ⟨(some 12), .load none (.t 11), (some (6, true))⟩,
    ⟨(some 13), .bin .eql (.t 12) (.c (.int .i64 0)), (some (6, true))⟩,
    ⟨(some 14), .pick (.t 6) (.t 13) (.c (.bool false)), none⟩])
  (.cond (.t 14)
  .skip
  (.exit 0)))
  (.block 1 (.region [⟨(some 15), .mov (.t 0), none⟩,
    ⟨(some 16), .mov (.t 0), none⟩,
    ⟨(some 17), .len (.t 16), none⟩,
    ⟨(some 18), .bin .sub (.t 17) (.c (.int .i64 1)), none⟩,
    ⟨(some 19), .slice (.t 15) none (some (.t 18)) none, none⟩,
    ⟨(some 0), .mov (.t 19), none⟩])))))
  (.seq (.region [⟨(some 20), .mov (.t 0), none⟩,
    ⟨(some 2), .mov (.t 20), none⟩])
  .ret)))
def F_poly_trim : GFun := ⟨1, 21, B_poly_trim, [.t 2]⟩
theorem ok_poly_trim : okFun Go.Proofs.Try.prog fid_poly_trim F_poly_trim = true := by kernel_rfl
end Go.Proofs.Ytdpibcniodhinaa.Gh
/- The ghost code of some functions. -/
namespace Go.Proofs.Ytdpibcniodhinaa.Gh
open Go Go.RowKit
def B_number_Exp : GCode :=
  (.seq (.region [⟨(some 6), .mov (.c (.int .i64 0)), none⟩,
    ⟨(some 7), .mov (.c (.int .i64 0)), none⟩])
  (.seq (.seq (.region [⟨(some 9), .mov (.t 0), none⟩,
    ⟨(some 10), .bin .lss (.t 9) (.c (.int .i64 0)), none⟩,
    ⟨(some 11), .mov (.t 10), none⟩,
    ⟨(some 12), .mov (.t 1), (some (11, false))⟩,
    ⟨(some 13), .bin .lss (.t 12) (.c (.int .i64 0)), (some (11, false))⟩,
    ⟨(some 14), .pick (.t 11) (.c (.bool true)) (.t 13), none⟩,
    ⟨(some 15), .mov (.t 14), none⟩,
    ⟨(some 16), .mov (.t 2), (some (15, false))⟩,
    ⟨(some 17), .bin .lss (.t 16) (.c (.int .i64 0)), (some (15, false))⟩,
    ⟨(some 18), .pick (.t 15) (.c (.bool true)) (.t 17), none⟩])
  (.cond (.t 18)
  (.seq (.region [⟨(some 6), .mov (.c (.int .i64 0)), none⟩,
    ⟨(some 7), .mov (.c (.int .i64 6)), none⟩])
  .ret)
  .skip))
  (.seq (.seq (.region [⟨(some 19), .mov (.t 0), none⟩,
    ⟨(some 20), .bin .eql (.t 19) (.c (.int .i64 0)), none⟩,
    ⟨(some 21), .mov (.t 20), none⟩,
    ⟨(some 22), .mov (.t 1), (some (21, true))⟩,
    ⟨(some 23), .bin .gtr (.t 22) (.c (.int .i64 0)), (some (21, true))⟩,
    ⟨(some 24), .pick (.t 21) (.t 23) (.c (.bool false)), none⟩])
  (.cond (.t 24)
  (.seq (.region [⟨(some 6), .mov (.c (.int .i64 0)), none⟩,
    ⟨(some 7), .mov (.c (.int .i64 0)), none⟩])
  .ret)
  .skip))
  (.seq (.seq (.region [⟨(some 25), .mov (.t 2), none⟩,
    ⟨(some 26), .bin .eql (.t 25) (.c (.int .i64 0)), none⟩])
  (.cond (.t 26)
  (.seq (.region [⟨(some 6), .mov (.c (.int .i64 0)), none⟩,
    ⟨(some 7), .mov (.c (.int .i64 8)), none⟩])
  .ret)
  .skip))
  (.seq (.region [⟨(some 8), .mov (.c (.int .i64 1)), none⟩])
  (.seq (.block 0 (.loop (.seq (.seq (.region [⟨(some 27), .mov (.t 1), none⟩,
    ⟨(some 28), .bin .gtr (.t 27) (.c (.int .i64 0)), none⟩,
    ⟨(some 29), .mov (.t 28), none⟩,
    ⟨(some 30), .mov (.t 0), (some (29, true))⟩,
    ⟨(some 31), .bin .gtr (.t 30) (.c (.int .i64 1)), (some (29, true))⟩,
    ⟨(some 32), .pick (.t 29) (.t 31) (.c (.bool false)), none⟩])
  (.cond (.t 32)
  .skip
  (.exit 0)))
  (.seq (.block 1 (.seq (.seq (.region [⟨(some 35), .mov (.t 8), none⟩,
    ⟨(some 36), .mov (.t 2), none⟩,
    ⟨(some 37), .mov (.t 0), none⟩,
    ⟨(some 38), .bin .quo (.t 36) (.t 37), none⟩,
    ⟨(some 39), .bin .gtr (.t 35) (.t 38), none⟩])
  (.cond (.t 39)
  (.seq (.region [⟨(some 6), .mov (.c (.int .i64 0)), none⟩,
    ⟨(some 7), .mov (.c (.int .i64 8)), none⟩])
  .ret)
  .skip))
  (.region [⟨(some 40), .mov (.t 8), none⟩,
    ⟨(some 41), .mov (.t 0), none⟩,
    ⟨(some 42), .bin .mul (.t 40) (.t 41), none⟩,
    ⟨(some 8), .mov (.t 42), none⟩])))
  (.region [⟨(some 33), .mov (.t 1), none⟩,
    ⟨(some 34), .bin .sub (.t 33) (.c (.int .i64 1)), none⟩,
    ⟨(some 1), .mov (.t 34), none⟩])))))
  (.seq (.region [⟨(some 43), .mov (.t 8), none⟩,
    ⟨(some 6), .mov (.t 43), none⟩,
    ⟨(some 7), .mov (.c (.int .i64 0)), none⟩])
  .ret)))))))
def F_number_Exp : GFun := ⟨3, 44, B_number_Exp, [.t 6, .t 7]⟩
theorem ok_number_Exp : okFun Go.Proofs.Try.prog fid_number_Exp F_number_Exp = true := by kernel_rfl
end Go.Proofs.Ytdpibcniodhinaa.Gh
/- The ghost code of some functions. -/
namespace Go.Proofs.Ytdpibcniodhinaa.Gh
open Go Go.RowKit
def B_ref09_Entries : GCode :=
  (.seq (.region [⟨(some 2), .box (.t 0), none⟩,
    ⟨(some 4), .mov (.c (.int .i64 0)), none⟩])
  (.seq (.seq (.region [⟨(some 5), .mov (.c (.int .i64 0)), none⟩])
  (.block 0 (.loop (.seq (.seq (.region [⟨(some 6), .mov (.t 5), none⟩,
    ⟨(some 7), .mov (.t 1), none⟩,
    ⟨(some 8), .len (.t 7), none⟩,
    ⟨(some 9), .bin .lss (.t 6) (.t 8), none⟩])
  (.cond (.t 9)
  .skip
  (.exit 0)))
  (.seq (.block 1 (.seq (.draw [0, 0, 0, 6, 14, 31, 63]
    [⟨(some 12), .load (some 3) (.t 2), none⟩,
    ⟨(some 13), .mov (.t 1), none⟩,
    ⟨(some 14), .mov (.t 5), none⟩,
    ⟨(some 15), .indexAddr 1 (.t 13) (.t 14), none⟩,
    ⟨(some 16), .load none (.t 15), none⟩]
    [⟨(some 17), .call fid_ref04_Is [(.t 12), (.t 16)], none⟩,
    ⟨(some 18), .un .not (.t 17), none⟩])
  (.cond (.t 18)
  (.seq (.region [⟨(some 4), .mov (.c (.int .i64 2)), none⟩])
  .ret)
  .skip)))
  (.region [⟨(some 10), .mov (.t 5), none⟩,
    ⟨(some 11), .bin .add (.t 10) (.c (.int .i64 1)), none⟩,
    ⟨(some 5), .mov (.t 11), none⟩]))))))
  (.seq (.region [⟨(some 4), .mov (.c (.int .i64 0)), none⟩])
  .ret)))
def F_ref09_Entries : GFun := ⟨2, 19, B_ref09_Entries, [.t 4]⟩
theorem ok_ref09_Entries : okFun Go.Proofs.Try.prog fid_ref09_Entries F_ref09_Entries = true := by kernel_rfl
end Go.Proofs.Ytdpibcniodhinaa.Gh
/- Methods of the field, and small functions of rows. -/
namespace Go.Proofs.Ytdpibcniodhinaa.Gh
open Go Go.RowKit
open Alg (CR Ps Dg Zm Mn El Cg sm pw Irr Prm)
set_option linter.unusedVariables false
set_option linter.unusedSimpArgs false

section
variable {k : Nat} {M : Mn k}
theorem sp_GF_Order {H : Heap} {n : Nat} (g : El M) : Spec prog fid_field_GF_Order [gfv M g] H n (.int .i64 (qn M : Nat)) H n := by
  refine spec_ends hmix ok_field_GF_Order rfl fun hF => ?_
  show gw prog B_field_GF_Order _ (tl 7 _) H n
  simp -implicitDefEqProofs only [B_field_GF_Order, gfv, go_sem, Nat.reduceLT, Nat.reduceBEq, Nat.reduceAdd, Nat.reduceEqDiff, Nat.reduceLeDiff, Nat.reduceSub, Nat.reduceMul]
  exact fin_ret rfl (by decide) (fz_int rfl) fun _ _ => rfl
theorem sp_GF_Is {H : Heap} {n : Nat} (g : El M) (x : Int) : Spec prog fid_field_GF_Is [gfv M g, .int .i64 x] H n (.bool (decide (0 ≤ x ∧ x < (qn M : Nat)))) H n := by
  refine spec_ends hmix ok_field_GF_Is rfl fun hF => ?_
  show gw prog B_field_GF_Is _ (tl 15 _) H n
  by_cases h : 0 ≤ x
  · simp -implicitDefEqProofs only [B_field_GF_Is, gfv, go_sem, Nat.reduceLT, Nat.reduceBEq, Nat.reduceAdd, Nat.reduceEqDiff, Nat.reduceLeDiff, Nat.reduceSub, Nat.reduceMul, h]
    refine fin_ret rfl (by decide) (fz_bool ?_) fun _ _ => rfl
    simp only [h, true_and]
  · simp -implicitDefEqProofs only [B_field_GF_Is, gfv, go_sem, Nat.reduceLT, Nat.reduceBEq, Nat.reduceAdd, Nat.reduceEqDiff, Nat.reduceLeDiff, Nat.reduceSub, Nat.reduceMul, h]
    refine fin_ret rfl (by decide) (fz_bool ?_) fun _ _ => rfl
    simp only [h, false_and]; rfl
theorem sp_GF_in {H : Heap} {n : Nat} (g : El M) (x : Int) : Spec prog fid_field_GF_in [gfv M g, .int .i64 x] H n (.int .i64 (inq (qn M : Nat) x)) H n := by
  refine spec_ends hmix ok_field_GF_in rfl fun hF => ?_
  show gw prog B_field_GF_in _ (tl 9 _) H n
  simp -implicitDefEqProofs only [B_field_GF_in, go_sem, Nat.reduceLT, Nat.reduceBEq, Nat.reduceAdd, Nat.reduceEqDiff, Nat.reduceLeDiff, Nat.reduceSub, Nat.reduceMul]
  refine call_of (sp_GF_Is g x) ?_
  simp -implicitDefEqProofs only [go_sem, Nat.reduceLT, Nat.reduceBEq, Nat.reduceAdd, Nat.reduceEqDiff, Nat.reduceLeDiff, Nat.reduceSub, Nat.reduceMul]
  refine c_split (fun hc => ?_) (fun hc => ?_)
  · simp -implicitDefEqProofs only [go_sem, Nat.reduceLT, Nat.reduceBEq, Nat.reduceAdd, Nat.reduceEqDiff, Nat.reduceLeDiff, Nat.reduceSub, Nat.reduceMul]
    exact fin_ret rfl (by decide) (fz_int (if_pos hc).symm) fun _ _ => rfl
  · simp -implicitDefEqProofs only [go_sem, Nat.reduceLT, Nat.reduceBEq, Nat.reduceAdd, Nat.reduceEqDiff, Nat.reduceLeDiff, Nat.reduceSub, Nat.reduceMul]
    exact fin_ret rfl (by decide) (fz_int (if_neg hc).symm) fun _ _ => rfl
end

theorem sp_trim {H : Heap} {n : Nat} (b m m' : Nat) (f : Nat → Int) (hb : b < n) (hH : H b = some (tab m' (it f))) (hm : m ≤ m') (hmm : m ≤ 1000000) : Spec prog fid_poly_trim [.own b 0 m] H n (.own b 0 (tn f m)) H n := by
  refine spec_ends hmix ok_poly_trim rfl fun hF => ?_
  show gw prog B_poly_trim _ (tl 21 _) H n
  simp -implicitDefEqProofs only [B_poly_trim, go_sem, Nat.reduceLT, Nat.reduceBEq, Nat.reduceAdd, Nat.reduceEqDiff, Nat.reduceLeDiff, Nat.reduceSub, Nat.reduceMul]
  refine loop_rule (fun (j : Nat) E H' n' => H' = H ∧ n' = n ∧ E 0 = .own b 0 j ∧ tn f j = tn f m ∧ j ≤ m) (fun j => j) m ⟨rfl, rfl, rfl, rfl, Nat.le_refl _⟩ ?_
  rintro j E H' n' ⟨rfl, rfl, e0, hj, hjm⟩
  have fin : ∀ (E : Env), E 2 = .own b 0 j → tn f j = j → F_poly_trim.ends H' n' (.own b 0 (tn f m)) .ret (tl 21 E) H' n' := by
    intro E he h2
    refine fin_ret rfl (by decide) ?_ fun _ _ => rfl
    rw [he, ← hj, h2]; exact .own b 0 j hb
  cases j with
  | zero =>
    have h0 : ((0 : Nat) : Int) = 0 := rfl
    simp -implicitDefEqProofs only [go_sem, Nat.reduceLT, Nat.reduceBEq, Nat.reduceAdd, Nat.reduceEqDiff, Nat.reduceLeDiff, Nat.reduceSub, Nat.reduceMul, e0, h0, Int.lt_irrefl, decide_false]
    exact fin _ (by simp -implicitDefEqProofs only [go_sem, Nat.reduceLT, Nat.reduceBEq, Nat.reduceAdd, Nat.reduceEqDiff, Nat.reduceLeDiff, Nat.reduceSub, Nat.reduceMul, e0]) rfl
  | succ j =>
    have h1 : (0 : Int) < ((j + 1 : Nat) : Int) := by omega
    have hw : IntKind.i64.wrap (((j + 1 : Nat) : Int) - 1) = (j : Int) := (wrap64 (by omega)).trans (by omega)
    have h2 : (j : Int) < ((j + 1 : Nat) : Int) := by omega
    have h3 : j < m' := by omega
    have h4 : j ≤ j + 1 := by omega
    by_cases hz : f j = 0
    · simp -implicitDefEqProofs only [go_sem, Nat.reduceLT, Nat.reduceBEq, Nat.reduceAdd, Nat.reduceEqDiff, Nat.reduceLeDiff, Nat.reduceSub, Nat.reduceMul, e0, h1, hw, h2, hH, h3, gat_tab, hz, h4]
      refine l_n ⟨j, by omega, rfl, rfl, by simp -implicitDefEqProofs only [go_sem, Nat.reduceLT, Nat.reduceBEq, Nat.reduceAdd, Nat.reduceEqDiff, Nat.reduceLeDiff, Nat.reduceSub, Nat.reduceMul], ?_, by omega⟩
      rw [← hj, tn, if_pos hz]
    · simp -implicitDefEqProofs only [go_sem, Nat.reduceLT, Nat.reduceBEq, Nat.reduceAdd, Nat.reduceEqDiff, Nat.reduceLeDiff, Nat.reduceSub, Nat.reduceMul, e0, h1, hw, h2, hH, h3, gat_tab, hz]
      exact fin _ (by simp -implicitDefEqProofs only [go_sem, Nat.reduceLT, Nat.reduceBEq, Nat.reduceAdd, Nat.reduceEqDiff, Nat.reduceLeDiff, Nat.reduceSub, Nat.reduceMul, e0]) (by rw [tn, if_neg hz])
section
variable {k : Nat} {M : Mn k}
theorem sp_Canon {H : Heap} {n : Nat} (g : El M) (m : Nat) (f : Nat → Int) (hm : m ≤ 1000000) (hq : qn M ≤ 256) : Spec prog fid_poly_Canon [gfv M g, isl m f] H n (.own n 0 (tn (fun i => inq (qn M : Nat) (f i)) m)) (upd H n (some (tab m (it fun i => inq (qn M : Nat) (f i))))) (n + 1) := by
  refine spec_ends1 hmix ok_poly_Canon rfl fun hF => ?_
  show gw prog B_poly_Canon _ (tl 28 _) H n
  simp -implicitDefEqProofs only [B_poly_Canon, go_sem, Nat.reduceLT, Nat.reduceBEq, Nat.reduceAdd, Nat.reduceEqDiff, Nat.reduceLeDiff, Nat.reduceSub, Nat.reduceMul]
  repeat with_reducible refine And.intro (by omega) ?_
  refine loop_rule (fun (i : Nat) E H' n' => n' = n + 1 ∧ H' n = some (tab m (it (mix (fun i => inq (qn M : Nat) (f i)) (fun _ => 0) i))) ∧ (∀ b, b < n → H' b = H b) ∧ E 0 = gfv M g ∧ E 5 = .own n 0 m ∧ E 11 = isl m f ∧ E 12 = .int .i64 (m : Nat) ∧ E 13 = .int .i64 (i : Nat) ∧ i ≤ m) (fun i => m - i) 0 ?_ ?_
  · exact ⟨rfl, by simp -implicitDefEqProofs only [go_sem, Nat.reduceLT, Nat.reduceBEq, Nat.reduceAdd, Nat.reduceEqDiff, Nat.reduceLeDiff, Nat.reduceSub, Nat.reduceMul, tab_rep, mix_zero]; rfl, fun c hc => by rw [upd_ne _ _ (by omega)], rfl, rfl, rfl, rfl, rfl, by omega⟩
  rintro i E H' n' ⟨rfl, h0, ho, e0, e5, e11, e12, e13, hi⟩
  simp -implicitDefEqProofs only [go_sem, Nat.reduceLT, Nat.reduceBEq, Nat.reduceAdd, Nat.reduceEqDiff, Nat.reduceLeDiff, Nat.reduceSub, Nat.reduceMul, e12, e13]
  refine c_split (fun hc => ?_) (fun hc => ?_)
  · have hiN : i < m := by omega
    have hwi := wrap64 (x := (i : Int) + 1) (by omega)
    simp -implicitDefEqProofs only [go_sem, Nat.reduceLT, Nat.reduceBEq, Nat.reduceAdd, Nat.reduceEqDiff, Nat.reduceLeDiff, Nat.reduceSub, Nat.reduceMul, e0, e11, e13, hc, hiN, gat_tab]
    refine call_of (sp_GF_Is g (f i)) ?_
    by_cases hx : 0 ≤ f i ∧ f i < (qn M : Nat)
    · have hst := mix_step (fun i => inq (qn M : Nat) (f i)) (fun _ => 0) i
      have hin : inq (qn M : Nat) (f i) = f i := if_pos hx
      simp only [hin] at hst
      simp -implicitDefEqProofs only [go_sem, Nat.reduceLT, Nat.reduceBEq, Nat.reduceAdd, Nat.reduceEqDiff, Nat.reduceLeDiff, Nat.reduceSub, Nat.reduceMul, hx, e5, e13, hc, hiN, h0, hwi, hst]
      repeat with_reducible refine And.intro (by omega) ?_
      exact l_n ⟨i + 1, by omega, rfl, by simp -implicitDefEqProofs only [go_sem, Nat.reduceLT, Nat.reduceBEq, Nat.reduceAdd, Nat.reduceEqDiff, Nat.reduceLeDiff, Nat.reduceSub, Nat.reduceMul], fun b hb => by rw [upd_ne _ _ (by omega)]; exact ho b hb, by simp -implicitDefEqProofs only [go_sem, Nat.reduceLT, Nat.reduceBEq, Nat.reduceAdd, Nat.reduceEqDiff, Nat.reduceLeDiff, Nat.reduceSub, Nat.reduceMul, e0], by simp -implicitDefEqProofs only [go_sem, Nat.reduceLT, Nat.reduceBEq, Nat.reduceAdd, Nat.reduceEqDiff, Nat.reduceLeDiff, Nat.reduceSub, Nat.reduceMul, e5], by simp -implicitDefEqProofs only [go_sem, Nat.reduceLT, Nat.reduceBEq, Nat.reduceAdd, Nat.reduceEqDiff, Nat.reduceLeDiff, Nat.reduceSub, Nat.reduceMul, e11], by simp -implicitDefEqProofs only [go_sem, Nat.reduceLT, Nat.reduceBEq, Nat.reduceAdd, Nat.reduceEqDiff, Nat.reduceLeDiff, Nat.reduceSub, Nat.reduceMul, e12], by simp -implicitDefEqProofs only [go_sem, Nat.reduceLT, Nat.reduceBEq, Nat.reduceAdd, Nat.reduceEqDiff, Nat.reduceLeDiff, Nat.reduceSub, Nat.reduceMul]; rfl, by omega⟩
    · have hst := mix_step (fun i => inq (qn M : Nat) (f i)) (fun _ => 0) i
      have hin : inq (qn M : Nat) (f i) = 0 := if_neg hx
      have hs2 : mix (fun i => inq (qn M : Nat) (f i)) (fun _ => 0) (i + 1) = mix (fun i => inq (qn M : Nat) (f i)) (fun _ => 0) i := by
        rw [← hst]
        funext t
        by_cases e : t = i
        · subst e; rw [upf_same, mix_at]; exact hin
        · rw [upf_ne _ _ e]
      simp -implicitDefEqProofs only [go_sem, Nat.reduceLT, Nat.reduceBEq, Nat.reduceAdd, Nat.reduceEqDiff, Nat.reduceLeDiff, Nat.reduceSub, Nat.reduceMul, hx, e13, hwi]
      exact l_n ⟨i + 1, by omega, rfl, by rw [hs2]; exact h0, ho, by simp -implicitDefEqProofs only [go_sem, Nat.reduceLT, Nat.reduceBEq, Nat.reduceAdd, Nat.reduceEqDiff, Nat.reduceLeDiff, Nat.reduceSub, Nat.reduceMul, e0], by simp -implicitDefEqProofs only [go_sem, Nat.reduceLT, Nat.reduceBEq, Nat.reduceAdd, Nat.reduceEqDiff, Nat.reduceLeDiff, Nat.reduceSub, Nat.reduceMul, e5], by simp -implicitDefEqProofs only [go_sem, Nat.reduceLT, Nat.reduceBEq, Nat.reduceAdd, Nat.reduceEqDiff, Nat.reduceLeDiff, Nat.reduceSub, Nat.reduceMul, e11], by simp -implicitDefEqProofs only [go_sem, Nat.reduceLT, Nat.reduceBEq, Nat.reduceAdd, Nat.reduceEqDiff, Nat.reduceLeDiff, Nat.reduceSub, Nat.reduceMul, e12], by simp -implicitDefEqProofs only [go_sem, Nat.reduceLT, Nat.reduceBEq, Nat.reduceAdd, Nat.reduceEqDiff, Nat.reduceLeDiff, Nat.reduceSub, Nat.reduceMul]; rfl, by omega⟩
  · have : i = m := by omega
    subst this
    simp -implicitDefEqProofs only [go_sem, Nat.reduceLT, Nat.reduceBEq, Nat.reduceAdd, Nat.reduceEqDiff, Nat.reduceLeDiff, Nat.reduceSub, Nat.reduceMul, e5]
    have hrow : H' n = some (tab i (it fun i => inq (qn M : Nat) (f i))) := by
      rw [h0]; exact congrArg some (tab_congr fun j hj => congrArg (GV.int .i64) (mix_lt _ _ hj))
    refine call_of (sp_trim n i i _ (by omega) hrow (Nat.le_refl _) hm) ?_
    simp -implicitDefEqProofs only [go_sem, Nat.reduceLT, Nat.reduceBEq, Nat.reduceAdd, Nat.reduceEqDiff, Nat.reduceLeDiff, Nat.reduceSub, Nat.reduceMul]
    exact fin_own rfl (by decide) (by simp -implicitDefEqProofs only [go_sem, Nat.reduceLT, Nat.reduceBEq, Nat.reduceAdd, Nat.reduceEqDiff, Nat.reduceLeDiff, Nat.reduceSub, Nat.reduceMul]) (Nat.le_refl _) hrow trs_it ho
end

theorem sp_Exp {H : Heap} {n : Nat} (q N : Int) (k : Nat) (hq : 2 ≤ q) (hq2 : q ≤ 256) (hk : k ≤ 1000000) (hN : 1 ≤ N) (hN2 : N ≤ 65536) : Spec prog fid_number_Exp [.int .i64 q, .int .i64 k, .int .i64 N] H n (.tup [.int .i64 (if q ^ k ≤ N then q ^ k else 0), .int .i64 (if q ^ k ≤ N then 0 else 8)]) H n := by
  refine spec_ends hmix ok_number_Exp rfl fun hF => ?_
  show gw prog B_number_Exp _ (tl 44 _) H n
  have h1 : ¬ (q < 0) := by omega
  have h2 : ¬ ((k : Int) < 0) := by omega
  have h3 : ¬ (N < 0) := by omega
  have h4 : ¬ (q = 0) := by omega
  have h5 : ¬ (N = 0) := by omega
  have h6 : 1 < q := by omega
  simp -implicitDefEqProofs only [B_number_Exp, go_sem, Nat.reduceLT, Nat.reduceBEq, Nat.reduceAdd, Nat.reduceEqDiff, Nat.reduceLeDiff, Nat.reduceSub, Nat.reduceMul, h1, h2, h3, h4, h5]
  refine loop_rule (fun (j : Nat) E H' n' => H' = H ∧ n' = n ∧ E 0 = .int .i64 q ∧ E 1 = .int .i64 ((k - j : Nat) : Int) ∧ E 2 = .int .i64 N ∧ E 8 = .int .i64 (q ^ j) ∧ j ≤ k ∧ q ^ j ≤ N) (fun j => k - j) 0 ⟨rfl, rfl, rfl, rfl, rfl, by simp -implicitDefEqProofs only [go_sem, Nat.reduceLT, Nat.reduceBEq, Nat.reduceAdd, Nat.reduceEqDiff, Nat.reduceLeDiff, Nat.reduceSub, Nat.reduceMul, Int.pow_zero], by omega, by rw [Int.pow_zero]; omega⟩ ?_
  rintro j E H' n' ⟨rfl, rfl, e0, e1, e2, e8, hj, hpj⟩
  by_cases hjk : j < k
  · have hpos : (0 : Int) < ((k - j : Nat) : Int) := by omega
    have hps : q ^ (j + 1) = q ^ j * q := Int.pow_succ q j
    have hp0 : 0 < q ^ j := Int.pow_pos (by omega)
    have hd : Int.tdiv N q = N / q := Int.tdiv_eq_ediv_of_nonneg (by omega)
    have hd0 : 0 ≤ N / q := Int.ediv_nonneg (by omega) (by omega)
    have hdl : N / q ≤ N := Int.ediv_le_self _ (by omega)
    have hwd := wrap64 (x := N / q) (by omega)
    have key : N / q < q ^ j ↔ N < q ^ (j + 1) := by rw [Int.ediv_lt_iff_lt_mul (by omega), hps]
    by_cases hb : N / q < q ^ j
    · have hbig : ¬ q ^ k ≤ N := by
        have h7 := key.1 hb
        have h8 := pow_mono (p := q) (by omega) (i := j + 1) (j := k) (by omega)
        omega
      simp -implicitDefEqProofs only [go_sem, Nat.reduceLT, Nat.reduceBEq, Nat.reduceAdd, Nat.reduceEqDiff, Nat.reduceLeDiff, Nat.reduceSub, Nat.reduceMul, e0, e1, e2, e8, hpos, h6, h4, hd, hwd, hb]
      exact fin_ret2 rfl (by decide) (by decide) (by simp -implicitDefEqProofs only [go_sem, Nat.reduceLT, Nat.reduceBEq, Nat.reduceAdd, Nat.reduceEqDiff, Nat.reduceLeDiff, Nat.reduceSub, Nat.reduceMul]; exact fz_int (if_neg hbig).symm) (by simp -implicitDefEqProofs only [go_sem, Nat.reduceLT, Nat.reduceBEq, Nat.reduceAdd, Nat.reduceEqDiff, Nat.reduceLeDiff, Nat.reduceSub, Nat.reduceMul]; exact fz_int (if_neg hbig).symm) fun _ _ => rfl
    · have hsm : q ^ (j + 1) ≤ N := by have := mt key.2 hb; omega
      have hp1 : 0 < q ^ (j + 1) := Int.pow_pos (by omega)
      have hwm := wrap64 (x := q ^ (j + 1)) (by omega)
      have hwk : IntKind.i64.wrap (((k - j : Nat) : Int) - 1) = ((k - (j + 1) : Nat) : Int) := (wrap64 (by omega)).trans (by omega)
      simp -implicitDefEqProofs only [go_sem, Nat.reduceLT, Nat.reduceBEq, Nat.reduceAdd, Nat.reduceEqDiff, Nat.reduceLeDiff, Nat.reduceSub, Nat.reduceMul, e0, e1, e2, e8, hpos, h6, h4, hd, hwd, hb, ← hps, hwm, hwk]
      exact l_n ⟨j + 1, by omega, rfl, rfl, by simp -implicitDefEqProofs only [go_sem, Nat.reduceLT, Nat.reduceBEq, Nat.reduceAdd, Nat.reduceEqDiff, Nat.reduceLeDiff, Nat.reduceSub, Nat.reduceMul, e0], by simp -implicitDefEqProofs only [go_sem, Nat.reduceLT, Nat.reduceBEq, Nat.reduceAdd, Nat.reduceEqDiff, Nat.reduceLeDiff, Nat.reduceSub, Nat.reduceMul], by simp -implicitDefEqProofs only [go_sem, Nat.reduceLT, Nat.reduceBEq, Nat.reduceAdd, Nat.reduceEqDiff, Nat.reduceLeDiff, Nat.reduceSub, Nat.reduceMul, e2], by simp -implicitDefEqProofs only [go_sem, Nat.reduceLT, Nat.reduceBEq, Nat.reduceAdd, Nat.reduceEqDiff, Nat.reduceLeDiff, Nat.reduceSub, Nat.reduceMul], by omega, hsm⟩
  · have : j = k := by omega
    subst this
    have hpos : ¬ (0 : Int) < ((j - j : Nat) : Int) := by omega
    simp -implicitDefEqProofs only [go_sem, Nat.reduceLT, Nat.reduceBEq, Nat.reduceAdd, Nat.reduceEqDiff, Nat.reduceLeDiff, Nat.reduceSub, Nat.reduceMul, e0, e1, e8, hpos]
    exact fin_ret2 rfl (by decide) (by decide) (by simp -implicitDefEqProofs only [go_sem, Nat.reduceLT, Nat.reduceBEq, Nat.reduceAdd, Nat.reduceEqDiff, Nat.reduceLeDiff, Nat.reduceSub, Nat.reduceMul]; exact fz_int (if_pos hpj).symm) (by simp -implicitDefEqProofs only [go_sem, Nat.reduceLT, Nat.reduceBEq, Nat.reduceAdd, Nat.reduceEqDiff, Nat.reduceLeDiff, Nat.reduceSub, Nat.reduceMul]; exact fz_int (if_pos hpj).symm) fun _ _ => rfl

end Go.Proofs.Ytdpibcniodhinaa.Gh
/- Sums and products, as the program computes them. -/
namespace Go.Proofs.Ytdpibcniodhinaa.Gh
open Go Go.RowKit
open Alg (CR Ps Dg Zm Mn El Cg sm pw Irr Prm)
set_option linter.unusedVariables false
set_option linter.unusedSimpArgs false

theorem vs_app (p : Int) : ∀ (i : Nat) (f : Nat → Int), vs p (i + 1) f = vs p i f + f i * p ^ i := by
  intro i
  induction i with
  | zero => intro f; rw [vs, vs, vs, Int.pow_zero]; omega
  | succ i ih =>
    intro f
    rw [vs, ih, vs, Int.mul_add, Int.pow_succ, Int.mul_comm (f (i + 1)) (p ^ i * p), Int.mul_comm (p ^ i) p, Int.mul_assoc, Int.mul_comm (p ^ i), Int.add_assoc]
theorem vs_tail (p : Int) {i m : Nat} {f : Nat → Int} (him : i ≤ m) (h : ∀ j, i ≤ j → j < m → f j = 0) : vs p m f = vs p i f := by
  induction m with
  | zero => have : i = 0 := by omega
            subst this; rfl
  | succ m ih =>
    by_cases e : i = m + 1
    · subst e; rfl
    · rw [vs_app, h m (by omega) (by omega), Int.zero_mul, Int.add_zero]
      exact ih (by omega) fun j h1 h2 => h j h1 (by omega)
theorem vs_xor : ∀ (m : Nat) (a b : Nat), a < 2 ^ m → b < 2 ^ m → vs 2 m (fun i => (dg 2 a i + dg 2 b i) % 2) = ((a ^^^ b : Nat) : Int) := by
  intro m
  induction m with
  | zero =>
    intro a b ha hb
    have ha : a = 0 := by simpa using ha
    have hb : b = 0 := by simpa using hb
    subst ha hb
    rfl
  | succ m ih =>
    intro a b ha hb
    rw [Nat.pow_succ] at ha hb
    have h1 := ih (a / 2) (b / 2) (by omega) (by omega)
    rw [vs, vs_congr 2 m (g := fun i => (dg 2 ((a / 2 : Nat) : Int) i + dg 2 ((b / 2 : Nat) : Int) i) % 2) fun j _ => by
      show (dg 2 (a : Int) (j + 1) + dg 2 (b : Int) (j + 1)) % 2 = _
      rw [dg_succ (by omega), dg_succ (by omega)]; rfl, h1, dg_zero, dg_zero]
    have h2 : (a ^^^ b) % 2 = (a + b) % 2 := by
      have h0 : (a ^^^ b) % 2 ^ 1 = a % 2 ^ 1 ^^^ b % 2 ^ 1 := Nat.xor_mod_two_pow
      rw [Nat.pow_one] at h0
      rw [h0]
      rcases Nat.mod_two_eq_zero_or_one a with h | h <;> rcases Nat.mod_two_eq_zero_or_one b with h' | h' <;> rw [h, h'] <;> simp <;> omega
    have h3 : (a ^^^ b) / 2 = a / 2 ^^^ b / 2 := Nat.xor_div_two
    omega
theorem ein_inq {k : Nat} {M : Mn k} (h : Fc M) (x : Int) : inq (qn M : Nat) x = (cn (ein M x) : Nat) := by
  rw [cn_cd, h.cd_ein, qq_qn]
theorem xor_wrap {a b : Nat} (ha : a < 256) (hb : b < 256) : IntKind.i64.wrap ((BitVec.ofInt 64 (a : Int) ^^^ BitVec.ofInt 64 (b : Int)).toNat : Int) = ((a ^^^ b : Nat) : Int) := by
  have hx : a ^^^ b < 2 ^ 8 := Nat.xor_lt_two_pow ha hb
  have e1 : BitVec.ofInt 64 (a : Int) = BitVec.ofNat 64 a := BitVec.ofInt_natCast ..
  have e2 : BitVec.ofInt 64 (b : Int) = BitVec.ofNat 64 b := BitVec.ofInt_natCast ..
  rw [e1, e2, BitVec.toNat_xor, BitVec.toNat_ofNat, BitVec.toNat_ofNat, Nat.mod_eq_of_lt (by omega), Nat.mod_eq_of_lt (by omega)]
  exact wrap64 (by omega)

section
variable {k : Nat} {M : Mn k}
theorem sp_GF_Mul {H : Heap} {n : Nat} (h : Fc M) (g : El M) (hg : Gen g) (x y : Int) : Spec prog fid_field_GF_Mul [gfv M g, .int .i64 x, .int .i64 y] H n (.int .i64 (cn (ein M x * ein M y) : Nat)) H n := by
  refine spec_ends hmix ok_field_GF_Mul rfl fun hF => ?_
  show gw prog B_field_GF_Mul _ (tl 46 _) H n
  have hq2 := qn_two M
  have hq := h.qn
  simp -implicitDefEqProofs only [B_field_GF_Mul, go_sem, Nat.reduceLT, Nat.reduceBEq, Nat.reduceAdd, Nat.reduceEqDiff, Nat.reduceLeDiff, Nat.reduceSub, Nat.reduceMul]
  refine call_of (sp_GF_in g x) ?_
  simp -implicitDefEqProofs only [go_sem, Nat.reduceLT, Nat.reduceBEq, Nat.reduceAdd, Nat.reduceEqDiff, Nat.reduceLeDiff, Nat.reduceSub, Nat.reduceMul]
  refine call_of (sp_GF_in g y) ?_
  rw [ein_inq h x, ein_inq h y]
  generalize ein M x = a
  generalize ein M y = b
  by_cases ha : a = 0
  · have ha' : ((cn a : Nat) : Int) = 0 := by rw [ha, cn_zero]; rfl
    simp -implicitDefEqProofs only [go_sem, Nat.reduceLT, Nat.reduceBEq, Nat.reduceAdd, Nat.reduceEqDiff, Nat.reduceLeDiff, Nat.reduceSub, Nat.reduceMul, ha']
    refine fin_ret rfl (by decide) ?_ fun _ _ => rfl
    simp -implicitDefEqProofs only [go_sem, Nat.reduceLT, Nat.reduceBEq, Nat.reduceAdd, Nat.reduceEqDiff, Nat.reduceLeDiff, Nat.reduceSub, Nat.reduceMul]
    exact fz_int (by rw [ha, Alg.zero_mul, cn_zero]; rfl)
  have ha' : (((cn a : Nat) : Int) = 0) = False := eq_false fun e => ha (cn_eq_zero.1 (by omega))
  by_cases hb : b = 0
  · have hb' : ((cn b : Nat) : Int) = 0 := by rw [hb, cn_zero]; rfl
    simp -implicitDefEqProofs only [go_sem, Nat.reduceLT, Nat.reduceBEq, Nat.reduceAdd, Nat.reduceEqDiff, Nat.reduceLeDiff, Nat.reduceSub, Nat.reduceMul, ha', hb']
    refine fin_ret rfl (by decide) ?_ fun _ _ => rfl
    simp -implicitDefEqProofs only [go_sem, Nat.reduceLT, Nat.reduceBEq, Nat.reduceAdd, Nat.reduceEqDiff, Nat.reduceLeDiff, Nat.reduceSub, Nat.reduceMul]
    exact fz_int (by rw [hb, Alg.mul_zero, cn_zero]; rfl)
  have hb' : (((cn b : Nat) : Int) = 0) = False := eq_false fun e => hb (cn_eq_zero.1 (by omega))
  have hal := cn_lt a
  have hbl := cn_lt b
  have haI : ((cn a : Nat) : Int) < (qn M : Nat) := by omega
  have hbI : ((cn b : Nat) : Int) < (qn M : Nat) := by omega
  have hla := lg_lt hg ha
  have hlb := lg_lt hg hb
  have ela : lg g (el M (cn a : Nat)) = lg g a := by rw [el_cn]
  have elb : lg g (el M (cn b : Nat)) = lg g b := by rw [el_cn]
  have hw1 : IntKind.i64.wrap (((lg g a : Nat) : Int) + ((lg g b : Nat) : Int)) = ((lg g a + lg g b : Nat) : Int) := (wrap64 (by omega)).trans (by omega)
  have hw2 : IntKind.i64.wrap (((qn M : Nat) : Int) - 1) = ((qn M - 1 : Nat) : Int) := (wrap64 (by omega)).trans (by omega)
  have hne : (((qn M - 1 : Nat) : Int) = 0) = False := eq_false (by omega)
  have htm : Int.tmod ((lg g a + lg g b : Nat) : Int) ((qn M - 1 : Nat) : Int) = (((lg g a + lg g b) % (qn M - 1) : Nat) : Int) := by rw [tmod_nn (by omega)]; rfl
  have hml : (lg g a + lg g b) % (qn M - 1) < qn M - 1 := Nat.mod_lt _ (by omega)
  have hmI : (((lg g a + lg g b) % (qn M - 1) : Nat) : Int) < ((qn M - 1 : Nat) : Int) := by omega
  have hm0 := Int.natCast_nonneg ((lg g a + lg g b) % (qn M - 1))
  simp -implicitDefEqProofs only [go_sem, Nat.reduceLT, Nat.reduceBEq, Nat.reduceAdd, Nat.reduceEqDiff, Nat.reduceLeDiff, Nat.reduceSub, Nat.reduceMul, gfv, ha', hb', hal, hbl, haI, hbI, gat_tab, ela, elb, hw1, hw2, hne, htm, hml, hmI, hm0]
  refine fin_ret rfl (by decide) ?_ fun _ _ => rfl
  simp -implicitDefEqProofs only [go_sem, Nat.reduceLT, Nat.reduceBEq, Nat.reduceAdd, Nat.reduceEqDiff, Nat.reduceLeDiff, Nat.reduceSub, Nat.reduceMul]
  exact fz_int (by rw [mul_lg hg ha hb]; rfl)

theorem sp_GF_Add {H : Heap} {n : Nat} (h : Fc M) (g : El M) (x y : Int) : Spec prog fid_field_GF_Add [gfv M g, .int .i64 x, .int .i64 y] H n (.int .i64 (cn (ein M x + ein M y) : Nat)) H n := by
  refine spec_ends hmix ok_field_GF_Add rfl fun hF => ?_
  show gw prog B_field_GF_Add _ (tl 77 _) H n
  have hq2 := qn_two M
  have hq := h.qn
  have hp := h.p256
  simp -implicitDefEqProofs only [B_field_GF_Add, go_sem, Nat.reduceLT, Nat.reduceBEq, Nat.reduceAdd, Nat.reduceEqDiff, Nat.reduceLeDiff, Nat.reduceSub, Nat.reduceMul]
  refine call_of (sp_GF_in g x) ?_
  simp -implicitDefEqProofs only [go_sem, Nat.reduceLT, Nat.reduceBEq, Nat.reduceAdd, Nat.reduceEqDiff, Nat.reduceLeDiff, Nat.reduceSub, Nat.reduceMul]
  refine call_of (sp_GF_in g y) ?_
  rw [ein_inq h x, ein_inq h y, cn_cd (ein M x + ein M y), cd_add, cd_cn (ein M x), cd_cn (ein M y)]
  have hal := cn_lt (ein M x)
  have hbl := cn_lt (ein M y)
  generalize cn (ein M x) = a at *
  generalize cn (ein M y) = b at *
  have hqp : (qn M : Int) = ((k : Int) + 2) ^ M.m := by rw [← qq_qn]; rfl
  by_cases hk : k = 0
  · subst hk
    have h2 : ((((0 : Nat) : Int) + 2 : Int) = 2) = True := eq_true rfl
    have hxr := xor_wrap (a := a) (b := b) (by omega) (by omega)
    simp -implicitDefEqProofs only [go_sem, Nat.reduceLT, Nat.reduceBEq, Nat.reduceAdd, Nat.reduceEqDiff, Nat.reduceLeDiff, Nat.reduceSub, Nat.reduceMul, gfv, h2]
    refine fin_ret rfl (by decide) ?_ fun _ _ => rfl
    simp -implicitDefEqProofs only [go_sem, Nat.reduceLT, Nat.reduceBEq, Nat.reduceAdd, Nat.reduceEqDiff, Nat.reduceLeDiff, Nat.reduceSub, Nat.reduceMul]
    have hqn : qn M = 2 ^ M.m := rfl
    rw [hqn] at hal hbl
    have e2 : (((0 : Nat) : Int) + 2 : Int) = 2 := rfl
    rw [e2]
    exact fz_int (hxr.trans (vs_xor M.m a b hal hbl).symm)
  have h2 : ((k : Int) + 2 = 2) = False := eq_false (by omega)
  have hne : ((k : Int) + 2 = 0) = False := eq_false (by omega)
  simp -implicitDefEqProofs only [go_sem, Nat.reduceLT, Nat.reduceBEq, Nat.reduceAdd, Nat.reduceEqDiff, Nat.reduceLeDiff, Nat.reduceSub, Nat.reduceMul, gfv, h2]
  have hpp : ∀ i, i ≤ M.m → 1 ≤ ((k : Int) + 2) ^ i ∧ ((k : Int) + 2) ^ i ≤ 256 := fun i hi => by
    have h1 := pow_mono (p := (k : Int) + 2) (by omega) hi
    have h0 := Int.pow_pos (n := (k : Int) + 2) (m := i) (by omega)
    omega
  have hS : ∀ j, 0 ≤ (dg ((k : Int) + 2) a j + dg ((k : Int) + 2) b j) % ((k : Int) + 2) ∧ (dg ((k : Int) + 2) a j + dg ((k : Int) + 2) b j) % ((k : Int) + 2) < (k : Int) + 2 := fun j => ⟨Int.emod_nonneg _ (by omega), Int.emod_lt_of_pos _ (by omega)⟩
  have hdiv : ∀ (c : Nat), (c : Int) < (qn M : Int) → ∀ i, 0 ≤ (c : Int) / ((k : Int) + 2) ^ i ∧ (c : Int) / ((k : Int) + 2) ^ i ≤ 256 := fun c hc i => by
    have h0 : 0 < ((k : Int) + 2) ^ i := Int.pow_pos (by omega)
    exact ⟨Int.ediv_nonneg (by omega) (by omega), Int.le_trans (Int.ediv_le_self _ (by omega)) (by omega)⟩
  have hz : ∀ (c : Nat), (c : Int) < (qn M : Int) → ∀ i, M.m ≤ i → (c : Int) / ((k : Int) + 2) ^ i = 0 := fun c hc i hi => by
    have := pow_mono (p := (k : Int) + 2) (by omega) hi
    exact Int.ediv_eq_zero_of_lt (by omega) (by omega)
  refine loop_rule (fun (i : Nat) E H' n' => H' = H ∧ n' = n ∧ E 0 = gfv M g ∧ E 1 = .int .i64 ((a : Int) / ((k : Int) + 2) ^ i) ∧ E 2 = .int .i64 ((b : Int) / ((k : Int) + 2) ^ i) ∧ E 7 = .int .i64 (vs ((k : Int) + 2) i fun j => (dg ((k : Int) + 2) a j + dg ((k : Int) + 2) b j) % ((k : Int) + 2)) ∧ E 8 = .int .i64 (((k : Int) + 2) ^ i) ∧ i ≤ M.m) (fun i => M.m - i) 0 ⟨rfl, rfl, rfl, by simp -implicitDefEqProofs only [go_sem, Nat.reduceLT, Nat.reduceBEq, Nat.reduceAdd, Nat.reduceEqDiff, Nat.reduceLeDiff, Nat.reduceSub, Nat.reduceMul, Int.pow_zero, Int.ediv_one], by simp -implicitDefEqProofs only [go_sem, Nat.reduceLT, Nat.reduceBEq, Nat.reduceAdd, Nat.reduceEqDiff, Nat.reduceLeDiff, Nat.reduceSub, Nat.reduceMul, Int.pow_zero, Int.ediv_one], rfl, by simp -implicitDefEqProofs only [go_sem, Nat.reduceLT, Nat.reduceBEq, Nat.reduceAdd, Nat.reduceEqDiff, Nat.reduceLeDiff, Nat.reduceSub, Nat.reduceMul, Int.pow_zero], by omega⟩ ?_
  rintro i E H' n' ⟨rfl, rfl, e0, e1, e2, e7, e8, hi⟩
  have hA := hdiv a (by omega) i
  have hB := hdiv b (by omega) i
  have hPi := hpp i hi
  have hV := vs_nn (p := (k : Int) + 2) (by omega) i fun j _ => hS j
  have hVs := vs_app ((k : Int) + 2) i fun j => (dg ((k : Int) + 2) a j + dg ((k : Int) + 2) b j) % ((k : Int) + 2)
  have hsA := dg_step (p := (k : Int) + 2) (x := a) (by omega) i
  have hsB := dg_step (p := (k : Int) + 2) (x := b) (by omega) i
  have hzA := hz a (by omega) i
  have hzB := hz b (by omega) i
  have hdA : dg ((k : Int) + 2) a i = (a : Int) / ((k : Int) + 2) ^ i % ((k : Int) + 2) := rfl
  have hdB : dg ((k : Int) + 2) b i = (b : Int) / ((k : Int) + 2) ^ i % ((k : Int) + 2) := rfl
  by_cases hc : 0 < (a : Int) / ((k : Int) + 2) ^ i ∨ 0 < (b : Int) / ((k : Int) + 2) ^ i
  · have him : i < M.m := by
      rcases Nat.lt_or_ge i M.m with h | h
      · exact h
      · have := hzA h; have := hzB h; omega
    have hP1 := hpp (i + 1) him
    have hA1 := hdiv a (by omega) (i + 1)
    have hB1 := hdiv b (by omega) (i + 1)
    have hps : ((k : Int) + 2) ^ (i + 1) = ((k : Int) + 2) ^ i * ((k : Int) + 2) := Int.pow_succ _ _
    have hr := hS i
    rw [hdA, hdB] at hr hVs
    generalize (a : Int) / ((k : Int) + 2) ^ i = A at *
    generalize (b : Int) / ((k : Int) + 2) ^ i = B at *
    generalize ((k : Int) + 2) ^ i = PL at *
    have hmA : 0 ≤ A % ((k : Int) + 2) ∧ A % ((k : Int) + 2) < (k : Int) + 2 := ⟨Int.emod_nonneg _ (by omega), Int.emod_lt_of_pos _ (by omega)⟩
    have hmB : 0 ≤ B % ((k : Int) + 2) ∧ B % ((k : Int) + 2) < (k : Int) + 2 := ⟨Int.emod_nonneg _ (by omega), Int.emod_lt_of_pos _ (by omega)⟩
    have t1 := tmod_nn (a := A) (b := (k : Int) + 2) (by omega)
    have t2 := tmod_nn (a := B) (b := (k : Int) + 2) (by omega)
    have w1 := wrap64 (x := A % ((k : Int) + 2) + B % ((k : Int) + 2)) (by omega)
    have t3 := tmod_nn (a := A % ((k : Int) + 2) + B % ((k : Int) + 2)) (b := (k : Int) + 2) (by omega)
    generalize (A % ((k : Int) + 2) + B % ((k : Int) + 2)) % ((k : Int) + 2) = r at *
    have hm0 : 0 ≤ r * PL := Int.mul_nonneg (by omega) (by omega)
    have hm1 : r * PL ≤ 256 * 256 := Int.mul_le_mul (by omega) (by omega) (by omega) (by omega)
    have w2 := wrap64 (x := r * PL) (by omega)
    have w3 : IntKind.i64.wrap ((vs ((k : Int) + 2) i fun j => (dg ((k : Int) + 2) a j + dg ((k : Int) + 2) b j) % ((k : Int) + 2)) + r * PL) = vs ((k : Int) + 2) (i + 1) fun j => (dg ((k : Int) + 2) a j + dg ((k : Int) + 2) b j) % ((k : Int) + 2) := (wrap64 (by omega)).trans hVs.symm
    have w4 : IntKind.i64.wrap (PL * ((k : Int) + 2)) = ((k : Int) + 2) ^ (i + 1) := (wrap64 (by omega)).trans hps.symm
    have w5 : IntKind.i64.wrap (A.tdiv ((k : Int) + 2)) = (a : Int) / ((k : Int) + 2) ^ (i + 1) := by rw [tdiv_nn (by omega), hsA]; exact wrap64 (by omega)
    have w6 : IntKind.i64.wrap (B.tdiv ((k : Int) + 2)) = (b : Int) / ((k : Int) + 2) ^ (i + 1) := by rw [tdiv_nn (by omega), hsB]; exact wrap64 (by omega)
    by_cases hA0 : 0 < A
    · simp -implicitDefEqProofs only [go_sem, Nat.reduceLT, Nat.reduceBEq, Nat.reduceAdd, Nat.reduceEqDiff, Nat.reduceLeDiff, Nat.reduceSub, Nat.reduceMul, gfv, e0, e1, e2, e7, e8, hA0, hne, t1, t2, t3, w1, w2, w3, w4, w5, w6]
      exact l_n ⟨i + 1, by omega, rfl, rfl, by simp -implicitDefEqProofs only [go_sem, Nat.reduceLT, Nat.reduceBEq, Nat.reduceAdd, Nat.reduceEqDiff, Nat.reduceLeDiff, Nat.reduceSub, Nat.reduceMul, e0, gfv], by simp -implicitDefEqProofs only [go_sem, Nat.reduceLT, Nat.reduceBEq, Nat.reduceAdd, Nat.reduceEqDiff, Nat.reduceLeDiff, Nat.reduceSub, Nat.reduceMul], by simp -implicitDefEqProofs only [go_sem, Nat.reduceLT, Nat.reduceBEq, Nat.reduceAdd, Nat.reduceEqDiff, Nat.reduceLeDiff, Nat.reduceSub, Nat.reduceMul], by simp -implicitDefEqProofs only [go_sem, Nat.reduceLT, Nat.reduceBEq, Nat.reduceAdd, Nat.reduceEqDiff, Nat.reduceLeDiff, Nat.reduceSub, Nat.reduceMul], by simp -implicitDefEqProofs only [go_sem, Nat.reduceLT, Nat.reduceBEq, Nat.reduceAdd, Nat.reduceEqDiff, Nat.reduceLeDiff, Nat.reduceSub, Nat.reduceMul], by omega⟩
    · have hB0 : 0 < B := by omega
      simp -implicitDefEqProofs only [go_sem, Nat.reduceLT, Nat.reduceBEq, Nat.reduceAdd, Nat.reduceEqDiff, Nat.reduceLeDiff, Nat.reduceSub, Nat.reduceMul, gfv, e0, e1, e2, e7, e8, hA0, hB0, hne, t1, t2, t3, w1, w2, w3, w4, w5, w6]
      exact l_n ⟨i + 1, by omega, rfl, rfl, by simp -implicitDefEqProofs only [go_sem, Nat.reduceLT, Nat.reduceBEq, Nat.reduceAdd, Nat.reduceEqDiff, Nat.reduceLeDiff, Nat.reduceSub, Nat.reduceMul, e0, gfv], by simp -implicitDefEqProofs only [go_sem, Nat.reduceLT, Nat.reduceBEq, Nat.reduceAdd, Nat.reduceEqDiff, Nat.reduceLeDiff, Nat.reduceSub, Nat.reduceMul], by simp -implicitDefEqProofs only [go_sem, Nat.reduceLT, Nat.reduceBEq, Nat.reduceAdd, Nat.reduceEqDiff, Nat.reduceLeDiff, Nat.reduceSub, Nat.reduceMul], by simp -implicitDefEqProofs only [go_sem, Nat.reduceLT, Nat.reduceBEq, Nat.reduceAdd, Nat.reduceEqDiff, Nat.reduceLeDiff, Nat.reduceSub, Nat.reduceMul], by simp -implicitDefEqProofs only [go_sem, Nat.reduceLT, Nat.reduceBEq, Nat.reduceAdd, Nat.reduceEqDiff, Nat.reduceLeDiff, Nat.reduceSub, Nat.reduceMul], by omega⟩
  · have hA0 : ¬ 0 < (a : Int) / ((k : Int) + 2) ^ i := fun h => hc (.inl h)
    have hB0 : ¬ 0 < (b : Int) / ((k : Int) + 2) ^ i := fun h => hc (.inr h)
    simp -implicitDefEqProofs only [go_sem, Nat.reduceLT, Nat.reduceBEq, Nat.reduceAdd, Nat.reduceEqDiff, Nat.reduceLeDiff, Nat.reduceSub, Nat.reduceMul, e0, e1, e2, e7, e8, hA0, hB0]
    refine fin_ret rfl (by decide) ?_ fun _ _ => rfl
    simp -implicitDefEqProofs only [go_sem, Nat.reduceLT, Nat.reduceBEq, Nat.reduceAdd, Nat.reduceEqDiff, Nat.reduceLeDiff, Nat.reduceSub, Nat.reduceMul]
    refine fz_int (vs_tail _ hi fun j h1 h2 => ?_).symm
    have hj : ∀ (c : Nat), (c : Int) / ((k : Int) + 2) ^ i = 0 → dg ((k : Int) + 2) c j = 0 := fun c hc => by
      have e1 : ((k : Int) + 2) ^ j = ((k : Int) + 2) ^ i * ((k : Int) + 2) ^ (j - i) := by rw [← Int.pow_add]; congr 1; omega
      rw [dg, e1, ← Int.ediv_ediv_of_nonneg (Int.pow_nonneg (by omega)), hc, Int.zero_ediv]; rfl
    rw [hj a (by omega), hj b (by omega)]; rfl
end
end Go.Proofs.Ytdpibcniodhinaa.Gh
