/- Commutative rings, finite sums and power series: the algebra that the proofs of the field layer rest on. -/
namespace Go.Proofs.Ytdpibcniodhinaa.Alg

class CR (α : Type) extends Add α, Mul α, Neg α, Zero α, One α where
  add_comm' : ∀ a b : α, a + b = b + a
  add_assoc' : ∀ a b c : α, a + b + c = a + (b + c)
  zero_add' : ∀ a : α, 0 + a = a
  neg_add' : ∀ a : α, -a + a = 0
  mul_comm' : ∀ a b : α, a * b = b * a
  mul_assoc' : ∀ a b c : α, a * b * c = a * (b * c)
  one_mul' : ∀ a : α, 1 * a = a
  mul_add' : ∀ a b c : α, a * (b + c) = a * b + a * c

section
variable {α : Type} [CR α]

instance instSubCR : Sub α := ⟨fun a b => a + -b⟩
theorem sub_def (a b : α) : a - b = a + -b := rfl
theorem add_comm (a b : α) : a + b = b + a := CR.add_comm' a b
theorem add_assoc (a b c : α) : a + b + c = a + (b + c) := CR.add_assoc' a b c
theorem add_left_comm (a b c : α) : a + (b + c) = b + (a + c) := by rw [← add_assoc, add_comm a b, add_assoc]
theorem zero_add (a : α) : 0 + a = a := CR.zero_add' a
theorem add_zero (a : α) : a + 0 = a := by rw [add_comm, zero_add]
theorem neg_add (a : α) : -a + a = 0 := CR.neg_add' a
theorem add_neg (a : α) : a + -a = 0 := by rw [add_comm, neg_add]
theorem mul_comm (a b : α) : a * b = b * a := CR.mul_comm' a b
theorem mul_assoc (a b c : α) : a * b * c = a * (b * c) := CR.mul_assoc' a b c
theorem mul_left_comm (a b c : α) : a * (b * c) = b * (a * c) := by rw [← mul_assoc, mul_comm a b, mul_assoc]
theorem one_mul (a : α) : 1 * a = a := CR.one_mul' a
theorem mul_one (a : α) : a * 1 = a := by rw [mul_comm, one_mul]
theorem mul_add (a b c : α) : a * (b + c) = a * b + a * c := CR.mul_add' a b c
theorem add_mul (a b c : α) : (a + b) * c = a * c + b * c := by rw [mul_comm, mul_add, mul_comm c a, mul_comm c b]
theorem add_left_cancel {a b c : α} (h : a + b = a + c) : b = c := by
  have : -a + (a + b) = -a + (a + c) := by rw [h]
  rwa [← add_assoc, ← add_assoc, neg_add, zero_add, zero_add] at this
theorem add_right_cancel {a b c : α} (h : b + a = c + a) : b = c := by
  rw [add_comm b, add_comm c] at h; exact add_left_cancel h
theorem mul_zero (a : α) : a * 0 = 0 := by
  have h : a * 0 + a * 0 = a * 0 + 0 := by rw [← mul_add, zero_add, add_zero]
  exact add_left_cancel h
theorem zero_mul (a : α) : 0 * a = 0 := by rw [mul_comm, mul_zero]
theorem neg_unique {a b : α} (h : a + b = 0) : b = -a := by
  apply add_left_cancel (a := a); rw [h, add_neg]
theorem neg_zero : -(0 : α) = 0 := (neg_unique (zero_add 0)).symm
theorem neg_neg (a : α) : - -a = a := (neg_unique (neg_add a)).symm
theorem mul_neg (a b : α) : a * -b = -(a * b) := by
  apply neg_unique; rw [← mul_add, add_neg, mul_zero]
theorem neg_mul (a b : α) : -a * b = -(a * b) := by rw [mul_comm, mul_neg, mul_comm]
theorem neg_add_distrib (a b : α) : -(a + b) = -a + -b := by
  symm; apply neg_unique
  rw [add_assoc, add_left_comm b, ← add_assoc a, add_neg, zero_add, add_neg]
theorem sub_self (a : α) : a - a = 0 := add_neg a
theorem sub_add_cancel (a b : α) : a - b + b = a := by rw [sub_def, add_assoc, neg_add, add_zero]
theorem add_sub_cancel (a b : α) : a + b - b = a := by rw [sub_def, add_assoc, add_neg, add_zero]
theorem sub_eq_zero {a b : α} : a - b = 0 ↔ a = b := by
  constructor
  · intro h; rw [← sub_add_cancel a b, h, zero_add]
  · rintro rfl; exact sub_self a
theorem sub_zero (a : α) : a - 0 = a := by rw [sub_def, neg_zero, add_zero]
theorem mul_sub (a b c : α) : a * (b - c) = a * b - a * c := by rw [sub_def, mul_add, mul_neg]; rfl
theorem sub_mul (a b c : α) : (a - b) * c = a * c - b * c := by rw [mul_comm, mul_sub, mul_comm c a, mul_comm c b]
theorem eq_sub_of_add {a b c : α} (h : a + b = c) : a = c - b := by rw [← h, add_sub_cancel]
theorem add_eq_of_eq_sub {a b c : α} (h : a = c - b) : a + b = c := by rw [h, sub_add_cancel]
theorem neg_sub (a b : α) : -(a - b) = b - a := by rw [sub_def, neg_add_distrib, neg_neg, add_comm]; rfl

/-- the sum of f i over i < n -/
def sm (n : Nat) (f : Nat → α) : α := match n with
  | 0 => 0
  | n + 1 => sm n f + f n

theorem sm_zero (f : Nat → α) : sm 0 f = 0 := rfl
theorem sm_succ (n : Nat) (f : Nat → α) : sm (n + 1) f = sm n f + f n := rfl
theorem sm_congr {n : Nat} {f g : Nat → α} (h : ∀ i, i < n → f i = g i) : sm n f = sm n g := by
  induction n with
  | zero => rfl
  | succ n ih => rw [sm_succ, sm_succ, ih fun i hi => h i (by omega), h n (by omega)]
theorem sm_const_zero {n : Nat} {f : Nat → α} (h : ∀ i, i < n → f i = 0) : sm n f = 0 := by
  induction n with
  | zero => rfl
  | succ n ih => rw [sm_succ, ih fun i hi => h i (by omega), h n (by omega), add_zero]
theorem sm_add (n : Nat) (f g : Nat → α) : sm n (fun i => f i + g i) = sm n f + sm n g := by
  induction n with
  | zero => rw [sm_zero, sm_zero, sm_zero, add_zero]
  | succ n ih => rw [sm_succ, sm_succ, sm_succ, ih, add_assoc, add_assoc, add_left_comm (sm n g)]
theorem sm_neg (n : Nat) (f : Nat → α) : sm n (fun i => -f i) = -sm n f := by
  induction n with
  | zero => rw [sm_zero, sm_zero, neg_zero]
  | succ n ih => rw [sm_succ, sm_succ, ih, neg_add_distrib]
theorem mul_sm (n : Nat) (a : α) (f : Nat → α) : a * sm n f = sm n (fun i => a * f i) := by
  induction n with
  | zero => rw [sm_zero, sm_zero, mul_zero]
  | succ n ih => rw [sm_succ, sm_succ, mul_add, ih]
theorem sm_mul (n : Nat) (a : α) (f : Nat → α) : sm n f * a = sm n (fun i => f i * a) := by
  rw [mul_comm, mul_sm]; exact sm_congr fun i _ => mul_comm _ _
theorem sm_head (n : Nat) (f : Nat → α) : sm (n + 1) f = f 0 + sm n (fun i => f (i + 1)) := by
  induction n with
  | zero => rw [sm_succ, sm_zero, sm_zero, add_comm]
  | succ n ih => rw [sm_succ, ih, sm_succ, add_assoc]
theorem sm_split (m n : Nat) (f : Nat → α) : sm (m + n) f = sm m f + sm n (fun i => f (m + i)) := by
  induction n with
  | zero => rw [sm_zero, add_zero]; rfl
  | succ n ih => rw [← Nat.add_assoc, sm_succ, ih, sm_succ, add_assoc]
theorem sm_rev (n : Nat) (f : Nat → α) : sm n f = sm n (fun i => f (n - 1 - i)) := by
  induction n generalizing f with
  | zero => rfl
  | succ n ih =>
    rw [sm_head n (fun i => f (n + 1 - 1 - i)), sm_succ, ih, add_comm]
    congr 1
    apply sm_congr; intro i hi; congr 1; omega
theorem sm_swap (m n : Nat) (f : Nat → Nat → α) : sm m (fun i => sm n (f i)) = sm n (fun j => sm m (fun i => f i j)) := by
  induction m with
  | zero => rw [sm_zero]; exact (sm_const_zero fun _ _ => rfl).symm
  | succ m ih => rw [sm_succ, ih, ← sm_add]; exact sm_congr fun j _ => (sm_succ m fun i => f i j).symm
theorem sm_single {n k : Nat} {f : Nat → α} (hk : k < n) (h : ∀ i, i < n → i ≠ k → f i = 0) : sm n f = f k := by
  induction n with
  | zero => omega
  | succ n ih =>
    rw [sm_succ]
    by_cases e : k = n
    · subst e; rw [sm_const_zero fun i hi => h i (by omega) (by omega), zero_add]
    · rw [ih (by omega) fun i hi => h i (by omega), h n (by omega) (by omega), add_zero]
theorem sm_ext {m n : Nat} {f : Nat → α} (hm : m ≤ n) (h : ∀ i, m ≤ i → i < n → f i = 0) : sm n f = sm m f := by
  obtain ⟨d, rfl⟩ : ∃ d, n = m + d := ⟨n - m, by omega⟩
  rw [sm_split, sm_const_zero (n := d) fun i hi => h (m + i) (by omega) (by omega), add_zero]
/-- the triangle, summed by rows or by columns -/
theorem sm_tri (n : Nat) (f : Nat → Nat → α) :
    sm n (fun i => sm (i + 1) (fun j => f i j)) = sm n (fun j => sm (n - j) (fun k => f (j + k) j)) := by
  induction n with
  | zero => rfl
  | succ n ih =>
    rw [sm_succ, ih, sm_succ n fun j => sm (n + 1 - j) fun k => f (j + k) j]
    have e1 : sm n (fun j => sm (n + 1 - j) fun k => f (j + k) j) = sm n (fun j => sm (n - j) (fun k => f (j + k) j) + f n j) := by
      apply sm_congr; intro j hj
      rw [show n + 1 - j = (n - j) + 1 from by omega, sm_succ]
      congr 2; omega
    have e2 : sm (n + 1 - n) (fun k => f (n + k) n) = f n n := by
      rw [show n + 1 - n = 1 from by omega, sm_succ, sm_zero, zero_add]; rfl
    rw [e1, e2, sm_add, sm_succ n fun j => f n j, add_assoc]

/-- the power of an element -/
def pw (a : α) : Nat → α
  | 0 => 1
  | n + 1 => pw a n * a
theorem pw_zero (a : α) : pw a 0 = 1 := rfl
theorem pw_succ (a : α) (n : Nat) : pw a (n + 1) = pw a n * a := rfl
theorem pw_one (a : α) : pw a 1 = a := one_mul a
theorem pw_add (a : α) (m n : Nat) : pw a (m + n) = pw a m * pw a n := by
  induction n with
  | zero => rw [pw_zero, mul_one]; rfl
  | succ n ih => rw [← Nat.add_assoc, pw_succ, ih, pw_succ, mul_assoc]
theorem pw_mul (a : α) (m n : Nat) : pw a (m * n) = pw (pw a m) n := by
  induction n with
  | zero => rfl
  | succ n ih => rw [Nat.mul_succ, pw_add, ih, pw_succ]
theorem mul_pw (a b : α) (n : Nat) : pw (a * b) n = pw a n * pw b n := by
  induction n with
  | zero => rw [pw_zero, pw_zero, pw_zero, one_mul]
  | succ n ih => rw [pw_succ, ih, pw_succ, pw_succ, mul_assoc, mul_assoc, mul_left_comm (pw b n)]
theorem one_pw (n : Nat) : pw (1 : α) n = 1 := by
  induction n with
  | zero => rfl
  | succ n ih => rw [pw_succ, ih, one_mul]
theorem zero_pw {n : Nat} (h : 0 < n) : pw (0 : α) n = 0 := by
  obtain ⟨k, rfl⟩ : ∃ k, n = k + 1 := ⟨n - 1, by omega⟩
  rw [pw_succ, mul_zero]
end

/-- power series -/
structure Ps (α : Type) where
  co : Nat → α

theorem Ps.ext' {α : Type} {a b : Ps α} (h : ∀ n, a.co n = b.co n) : a = b := by
  cases a; cases b; congr; exact funext h

section
variable {α : Type} [CR α]

def psMul (a b : Ps α) : Ps α := ⟨fun n => sm (n + 1) fun i => a.co i * b.co (n - i)⟩

theorem psMul_comm (a b : Ps α) : psMul a b = psMul b a := by
  apply Ps.ext'; intro n
  show sm (n + 1) _ = sm (n + 1) _
  rw [sm_rev]; apply sm_congr; intro i hi
  rw [mul_comm]; congr 2; omega

theorem psMul_assoc (a b c : Ps α) : psMul (psMul a b) c = psMul a (psMul b c) := by
  apply Ps.ext'; intro n
  show sm (n + 1) (fun i => sm (i + 1) (fun j => a.co j * b.co (i - j)) * c.co (n - i)) = sm (n + 1) (fun j => a.co j * sm (n - j + 1) (fun k => b.co k * c.co (n - j - k)))
  have e1 : sm (n + 1) (fun i => sm (i + 1) (fun j => a.co j * b.co (i - j)) * c.co (n - i)) = sm (n + 1) (fun i => sm (i + 1) (fun j => a.co j * b.co (i - j) * c.co (n - i))) :=
    sm_congr fun i _ => sm_mul _ _ _
  rw [e1, sm_tri (n + 1) fun i j => a.co j * b.co (i - j) * c.co (n - i)]
  apply sm_congr; intro j hj
  rw [mul_sm, show n + 1 - j = n - j + 1 from by omega]
  apply sm_congr; intro k hk
  rw [mul_assoc, show j + k - j = k from by omega, show n - (j + k) = n - j - k from by omega]

instance instCRPs : CR (Ps α) where
  add a b := ⟨fun n => a.co n + b.co n⟩
  mul := psMul
  neg a := ⟨fun n => -a.co n⟩
  zero := ⟨fun _ => 0⟩
  one := ⟨fun n => if n = 0 then 1 else 0⟩
  add_comm' a b := Ps.ext' fun n => add_comm _ _
  add_assoc' a b c := Ps.ext' fun n => add_assoc _ _ _
  zero_add' a := Ps.ext' fun n => zero_add _
  neg_add' a := Ps.ext' fun n => neg_add _
  mul_comm' := psMul_comm
  mul_assoc' := psMul_assoc
  one_mul' a := by
    apply Ps.ext'; intro n
    show sm (n + 1) (fun i => (if i = 0 then 1 else 0) * a.co (n - i)) = a.co n
    rw [sm_single (k := 0) (by omega) (by intro i _ h; rw [if_neg h, zero_mul]), if_pos rfl, one_mul]; rfl
  mul_add' a b c := by
    apply Ps.ext'; intro n
    show sm (n + 1) (fun i => a.co i * (b.co (n - i) + c.co (n - i))) = sm (n + 1) (fun i => a.co i * b.co (n - i)) + sm (n + 1) (fun i => a.co i * c.co (n - i))
    rw [← sm_add]; exact sm_congr fun i _ => mul_add _ _ _

theorem co_add (a b : Ps α) (n : Nat) : (a + b).co n = a.co n + b.co n := rfl
theorem co_neg (a : Ps α) (n : Nat) : (-a).co n = -a.co n := rfl
theorem co_sub (a b : Ps α) (n : Nat) : (a - b).co n = a.co n - b.co n := rfl
theorem co_zero (n : Nat) : (0 : Ps α).co n = 0 := rfl
theorem co_one (n : Nat) : (1 : Ps α).co n = if n = 0 then 1 else 0 := rfl
theorem co_mul (a b : Ps α) (n : Nat) : (a * b).co n = sm (n + 1) fun i => a.co i * b.co (n - i) := rfl

/-- the monomial a X^k -/
def mono (a : α) (k : Nat) : Ps α := ⟨fun n => if n = k then a else 0⟩
theorem co_mono (a : α) (k n : Nat) : (mono a k).co n = if n = k then a else 0 := rfl
theorem co_mono_mul (a : α) (k : Nat) (p : Ps α) (n : Nat) : (mono a k * p).co n = if k ≤ n then a * p.co (n - k) else 0 := by
  rw [co_mul]
  by_cases h : k ≤ n
  · rw [if_pos h, sm_single (k := k) (by omega) (by intro i _ hi; rw [co_mono, if_neg hi, zero_mul]), co_mono, if_pos rfl]
  · rw [if_neg h]; apply sm_const_zero; intro i hi; rw [co_mono, if_neg (by omega), zero_mul]

/-- p has a degree below n -/
def Dg (p : Ps α) (n : Nat) : Prop := ∀ i, n ≤ i → p.co i = 0
theorem Dg.mono {p : Ps α} {m n : Nat} (h : Dg p m) (hm : m ≤ n) : Dg p n := fun i hi => h i (by omega)
theorem Dg.zero (n : Nat) : Dg (0 : Ps α) n := fun _ _ => rfl
theorem Dg.add {p q : Ps α} {n : Nat} (h : Dg p n) (k : Dg q n) : Dg (p + q) n := fun i hi => by rw [co_add, h i hi, k i hi, add_zero]
theorem Dg.neg {p : Ps α} {n : Nat} (h : Dg p n) : Dg (-p) n := fun i hi => by rw [co_neg, h i hi, neg_zero]
theorem Dg.sub {p q : Ps α} {n : Nat} (h : Dg p n) (k : Dg q n) : Dg (p - q) n := h.add k.neg
theorem Dg.one : Dg (1 : Ps α) 1 := fun i hi => by rw [co_one, if_neg (by omega)]
theorem Dg.monom (a : α) (k : Nat) : Dg (Alg.mono a k) (k + 1) := fun i hi => by rw [co_mono, if_neg (by omega)]
theorem Dg.mul {p q : Ps α} {m n : Nat} (h : Dg p (m + 1)) (k : Dg q (n + 1)) : Dg (p * q) (m + n + 1) := by
  intro i hi; rw [co_mul]; apply sm_const_zero; intro j hj
  by_cases e : j ≤ m
  · rw [k (i - j) (by omega), mul_zero]
  · rw [h j (by omega), zero_mul]
theorem Dg.eq_zero {p : Ps α} (h : Dg p 0) : p = 0 := Ps.ext' fun n => h n (by omega)
theorem Dg.mul' {p q : Ps α} {m n k : Nat} (h : Dg p m) (g : Dg q n) (hk : m + n ≤ k + 1) : Dg (p * q) k := by
  rcases Nat.eq_zero_or_pos m with rfl | hm
  · rw [h.eq_zero, zero_mul]; exact Dg.zero k
  rcases Nat.eq_zero_or_pos n with rfl | hn
  · rw [g.eq_zero, mul_zero]; exact Dg.zero k
  obtain ⟨m, rfl⟩ : ∃ j, m = j + 1 := ⟨m - 1, by omega⟩
  obtain ⟨n, rfl⟩ : ∃ j, n = j + 1 := ⟨n - 1, by omega⟩
  exact (Dg.mul h g).mono (by omega)
/-- the coefficient of the highest power of a product -/
theorem co_mul_top {p q : Ps α} {m n : Nat} (h : Dg p (m + 1)) (k : Dg q (n + 1)) : (p * q).co (m + n) = p.co m * q.co n := by
  rw [co_mul, sm_single (k := m) (by omega)]
  · rw [show m + n - m = n from by omega]
  · intro i _ hi
    by_cases e : i < m
    · rw [k (m + n - i) (by omega), mul_zero]
    · rw [h i (by omega), zero_mul]

/-- division by a polynomial whose leading coefficient has the inverse u -/
theorem divides_ex (f : Ps α) (m : Nat) (u : α) (hf : Dg f (m + 1)) (hu : f.co m * u = 1) :
    ∀ (n : Nat) (p : Ps α), Dg p n → ∃ k r : Ps α, p = k * f + r ∧ Dg r m ∧ Dg k (n - m) := by
  intro n
  induction n with
  | zero => intro p hp; exact ⟨0, p, by rw [zero_mul, zero_add], hp.mono (by omega), Dg.zero _⟩
  | succ n ih =>
    intro p hp
    by_cases hn : n < m
    · exact ⟨0, p, by rw [zero_mul, zero_add], hp.mono (by omega), Dg.zero _⟩
    · have hm : m ≤ n := by omega
      have h1 : Dg (p - Alg.mono (p.co n * u) (n - m) * f) n := by
        intro i hi
        rw [co_sub, co_mono_mul, if_pos (by omega)]
        by_cases e : i = n
        · subst e; rw [show i - (i - m) = m from by omega, mul_assoc, mul_comm u, hu, mul_one, sub_self]
        · rw [hp i (by omega), hf (i - (n - m)) (by omega), mul_zero, sub_self]
      obtain ⟨k, r, e, hr, hk⟩ := ih _ h1
      refine ⟨k + Alg.mono (p.co n * u) (n - m), r, ?_, hr, ?_⟩
      · rw [add_mul, add_assoc, add_comm (Alg.mono _ _ * f), ← add_assoc, ← e, sub_add_cancel]
      · exact (hk.mono (by omega)).add ((Dg.monom _ _).mono (by omega))
/-- a multiple of f of a degree below that of f is 0 -/
theorem multiple_small (f : Ps α) (m : Nat) (u : α) (hf : Dg f (m + 1)) (hu : f.co m * u = 1) :
    ∀ (n : Nat) (k : Ps α), Dg k n → Dg (k * f) m → k = 0 := by
  intro n
  induction n with
  | zero => intro k hk _; exact hk.eq_zero
  | succ n ih =>
    intro k hk hm
    apply ih k _ hm
    intro i hi
    by_cases e : i = n
    · subst e
      have h := co_mul_top hk hf
      rw [hm (i + m) (by omega)] at h
      have : k.co i * f.co m * u = 0 := by rw [← h, zero_mul]
      rwa [mul_assoc, hu, mul_one] at this
    · exact hk i (by omega)
end
end Go.Proofs.Ytdpibcniodhinaa.Alg
/- Fields: values of polynomials, the bound on the number of roots, and that a finite field has a primitive element. -/
namespace Go.Proofs.Ytdpibcniodhinaa.Alg

class Fd (α : Type) extends CR α where
  inv : α → α
  mul_inv' : ∀ a : α, a ≠ 0 → a * inv a = 1
  one_ne_zero' : (1 : α) ≠ 0

section
variable {α : Type} [CR α]
/-- the value of the first n terms at x -/
def ev (n : Nat) (p : Ps α) (x : α) : α := sm n fun i => p.co i * pw x i
theorem ev_ext {p : Ps α} {m n : Nat} (h : Dg p m) (hm : m ≤ n) (x : α) : ev n p x = ev m p x :=
  sm_ext hm fun i hi _ => by rw [h i hi, zero_mul]
theorem ev_any {p : Ps α} {m n k : Nat} (h : Dg p k) (hm : k ≤ m) (hn : k ≤ n) (x : α) : ev m p x = ev n p x := by
  rw [ev_ext h hm, ev_ext h hn]
theorem ev_add (n : Nat) (p q : Ps α) (x : α) : ev n (p + q) x = ev n p x + ev n q x := by
  unfold ev; rw [← sm_add]; exact sm_congr fun i _ => by rw [co_add, add_mul]
theorem ev_neg (n : Nat) (p : Ps α) (x : α) : ev n (-p) x = -ev n p x := by
  unfold ev; rw [← sm_neg]; exact sm_congr fun i _ => by rw [co_neg, neg_mul]
theorem ev_sub (n : Nat) (p q : Ps α) (x : α) : ev n (p - q) x = ev n p x - ev n q x := by
  show ev n (p + -q) x = _; rw [ev_add, ev_neg]; rfl
theorem ev_zero (n : Nat) (x : α) : ev n (0 : Ps α) x = 0 := sm_const_zero fun i _ => by rw [co_zero, zero_mul]
theorem ev_mono {n k : Nat} (h : k < n) (a x : α) : ev n (Alg.mono a k) x = a * pw x k := by
  unfold ev; rw [sm_single h fun i _ hi => by rw [co_mono, if_neg hi, zero_mul], co_mono, if_pos rfl]
theorem ev_mul {p q : Ps α} {m n : Nat} (hp : Dg p m) (hq : Dg q n) (x : α) : ev (m + n) (p * q) x = ev m p x * ev n q x := by
  unfold ev
  have e1 : sm (m + n) (fun i => (p * q).co i * pw x i) = sm (m + n) (fun i => sm (i + 1) fun j => p.co j * q.co (i - j) * pw x i) :=
    sm_congr fun i _ => by rw [co_mul, sm_mul]
  rw [e1, sm_tri (m + n) fun i j => p.co j * q.co (i - j) * pw x i, sm_mul]
  rw [sm_ext (m := m) (by omega)]
  · apply sm_congr; intro j hj
    rw [mul_sm, sm_ext (m := n) (by omega)]
    · apply sm_congr; intro k _
      rw [show j + k - j = k from by omega, pw_add, mul_assoc, mul_assoc, mul_left_comm (q.co k)]
    · intro k hk _
      rw [show j + k - j = k from by omega, hq k hk, mul_zero, zero_mul]
  · intro j hj _
    apply sm_const_zero; intro k _
    rw [hp j hj, zero_mul, zero_mul]
/-- X - x -/
def lin (x : α) : Ps α := ⟨fun n => if n = 0 then -x else if n = 1 then 1 else 0⟩
theorem lin_dg (x : α) : Dg (lin x) 2 := fun i hi => by
  show (if i = 0 then -x else if i = 1 then 1 else 0) = 0
  rw [if_neg (by omega), if_neg (by omega)]
theorem lin_ev {n : Nat} (h : 2 ≤ n) (x y : α) : ev n (lin x) y = y - x := by
  rw [ev_ext (lin_dg x) h]
  show sm 2 _ = _
  rw [sm_succ, sm_succ, sm_zero, zero_add, pw_zero, pw_one]
  have e0 : (lin x).co 0 = -x := rfl
  have e1 : (lin x).co 1 = 1 := rfl
  rw [e0, e1, mul_one, one_mul, add_comm]; rfl
/-- a polynomial with the root x is a multiple of X - x -/
theorem root_factor {p : Ps α} {n : Nat} {x : α} (h : Dg p (n + 1)) (hx : ev (n + 1) p x = 0) : ∃ k, p = k * lin x ∧ Dg k n := by
  obtain ⟨k, r, e, hr, hk⟩ := divides_ex (lin x) 1 1 (lin_dg x) (by rw [mul_one]; rfl) (n + 1) p h
  have hk' : Dg k n := hk.mono (by omega)
  have h1 : ev (n + 2) p x = 0 := by rw [ev_ext h (by omega)]; exact hx
  have h2 : ev (n + 2) (k * lin x) x = 0 := by rw [ev_mul hk' (lin_dg x), lin_ev (by omega), sub_self, mul_zero]
  have h3 : ev (n + 2) r x = r.co 0 := by
    rw [ev_ext hr (by omega)]; show sm 1 _ = _; rw [sm_succ, sm_zero, zero_add, pw_zero, mul_one]
  have h4 : r.co 0 = 0 := by
    rw [← h3]; rw [e, ev_add, h2, zero_add] at h1; exact h1
  have hr0 : r = 0 := Ps.ext' fun i => by
    cases i with
    | zero => exact h4
    | succ i => exact hr (i + 1) (by omega)
  exact ⟨k, by rw [e, hr0, add_zero], hk'⟩
end

section
variable {α : Type} [Fd α]
theorem mul_inv {a : α} (h : a ≠ 0) : a * Fd.inv a = 1 := Fd.mul_inv' a h
theorem inv_mul {a : α} (h : a ≠ 0) : Fd.inv a * a = 1 := by rw [mul_comm, mul_inv h]
theorem one_ne_zero : (1 : α) ≠ 0 := Fd.one_ne_zero'
theorem inv_ne_zero {a : α} (h : a ≠ 0) : Fd.inv a ≠ 0 := fun e => one_ne_zero (α := α) (by rw [← mul_inv h, e, mul_zero])
theorem mul_left_cancel {a b c : α} (h : a ≠ 0) (e : a * b = a * c) : b = c := by
  rw [← one_mul b, ← inv_mul h, mul_assoc, e, ← mul_assoc, inv_mul h, one_mul]
theorem mul_eq_zero {a b : α} (h : a ≠ 0) (e : a * b = 0) : b = 0 := mul_left_cancel h (by rw [e, mul_zero])
theorem mul_ne_zero {a b : α} (h : a ≠ 0) (k : b ≠ 0) : a * b ≠ 0 := fun e => k (mul_eq_zero h e)
theorem inv_unique {a b : α} (e : a * b = 1) : b = Fd.inv a := by
  have h : a ≠ 0 := fun e0 => one_ne_zero (α := α) (by rw [← e, e0, zero_mul])
  apply mul_left_cancel h; rw [e, mul_inv h]
theorem inv_inv {a : α} (h : a ≠ 0) : Fd.inv (Fd.inv a) = a := (inv_unique (inv_mul h)).symm
theorem pw_ne_zero {a : α} (h : a ≠ 0) (n : Nat) : pw a n ≠ 0 := by
  induction n with
  | zero => exact one_ne_zero
  | succ n ih => rw [pw_succ]; exact mul_ne_zero ih h
theorem neg_ne_zero {a : α} (h : a ≠ 0) : -a ≠ 0 := fun e => h (by rw [← neg_neg a, e, neg_zero])

/-- a polynomial other than 0 of a degree below n + 1 has at most n roots -/
theorem roots_le : ∀ (n : Nat) (p : Ps α) (l : List α), Dg p (n + 1) → l.Nodup → (∀ x ∈ l, ev (n + 1) p x = 0) → n < l.length → p = 0 := by
  intro n
  induction n with
  | zero =>
    intro p l hp hl hr hlen
    match l, hlen with
    | x :: t, _ =>
      have := hr x (by simp)
      have e : ev 1 p x = p.co 0 := by show sm 1 _ = _; rw [sm_succ, sm_zero, zero_add, pw_zero, mul_one]
      rw [e] at this
      exact Ps.ext' fun i => by
        cases i with
        | zero => exact this
        | succ i => exact hp (i + 1) (by omega)
  | succ n ih =>
    intro p l hp hl hr hlen
    match l, hl, hlen with
    | x :: t, hl, hlen =>
      obtain ⟨k, e, hk⟩ := root_factor hp (hr x (by simp))
      have hk0 : k = 0 := by
        apply ih k t hk (List.nodup_cons.1 hl).2
        · intro y hy
          have h1 : ev (n + 1 + 2) p y = 0 := by
            rw [ev_ext hp (by omega)]; exact hr y (by simp [hy])
          rw [e, ev_mul hk (lin_dg x), lin_ev (by omega), mul_comm] at h1
          apply mul_eq_zero _ h1
          intro e0
          have := sub_eq_zero.1 e0
          subst this
          exact (List.nodup_cons.1 hl).1 hy
        · simp at hlen; omega
      rw [e, hk0, zero_mul]

/-- n is the order of x -/
def Ord (x : α) (n : Nat) : Prop := 0 < n ∧ pw x n = 1 ∧ ∀ k, 0 < k → k < n → pw x k ≠ 1
theorem Ord.dvd {x : α} {n k : Nat} (h : Ord x n) (e : pw x k = 1) : n ∣ k := by
  obtain ⟨h0, h1, h2⟩ := h
  apply Nat.dvd_of_mod_eq_zero
  by_cases hz : k % n = 0
  · exact hz
  · exfalso
    apply h2 (k % n) (by omega) (Nat.mod_lt _ h0)
    have := Nat.div_add_mod k n
    rw [← this, pw_add, pw_mul, h1, one_pw, one_mul] at e
    exact e
theorem Ord.pw_dvd {x : α} {n k : Nat} (h : Ord x n) (e : n ∣ k) : pw x k = 1 := by
  obtain ⟨j, rfl⟩ := e; rw [pw_mul, h.2.1, one_pw]
theorem Ord.mk' {x : α} {n : Nat} (h0 : 0 < n) (h1 : pw x n = 1) (h : ∀ k, pw x k = 1 → n ∣ k) : Ord x n :=
  ⟨h0, h1, fun k hk hkn e => by have := Nat.le_of_dvd hk (h k e); omega⟩
theorem Ord.root {x : α} {n c : Nat} (h : Ord x n) (hc : c ∣ n) (hc0 : 0 < c) : Ord (pw x c) (n / c) := by
  obtain ⟨j, rfl⟩ := hc
  rw [Nat.mul_div_cancel_left _ hc0]
  have hj : 0 < j := Nat.pos_of_ne_zero fun e => by have := h.1; rw [e, Nat.mul_zero] at this; omega
  refine Ord.mk' hj (by rw [← pw_mul]; exact h.2.1) fun k e => ?_
  rw [← pw_mul] at e
  exact Nat.dvd_of_mul_dvd_mul_left hc0 (h.dvd e)
theorem Ord.mul {x y : α} {m n : Nat} (hx : Ord x m) (hy : Ord y n) (hc : Nat.Coprime m n) : Ord (x * y) (m * n) := by
  refine Ord.mk' (Nat.mul_pos hx.1 hy.1) ?_ fun k e => ?_
  · rw [mul_pw, pw_mul, hx.2.1, one_pw, one_mul, Nat.mul_comm, pw_mul, hy.2.1, one_pw]
  · apply Nat.Coprime.mul_dvd_of_dvd_of_dvd hc
    · have : pw x (k * n) = 1 := by
        have h : pw (pw (x * y) k) n = pw 1 n := by rw [e]
        rw [← pw_mul, one_pw, mul_pw, Nat.mul_comm k n, pw_mul y, hy.2.1, one_pw, mul_one, Nat.mul_comm n k] at h
        exact h
      exact hc.dvd_of_dvd_mul_right (hx.dvd this)
    · have : pw y (k * m) = 1 := by
        have h : pw (pw (x * y) k) m = pw 1 m := by rw [e]
        rw [← pw_mul, one_pw, mul_pw, Nat.mul_comm k m, pw_mul x, hx.2.1, one_pw, one_mul, Nat.mul_comm m k] at h
        exact h
      exact hc.symm.dvd_of_dvd_mul_right (hy.dvd this)
/-- two elements: some element's order is a multiple of both orders, or is greater -/
theorem Ord.greater {x y : α} {m n : Nat} (hx : Ord x m) (hy : Ord y n) (hn : ¬ n ∣ m) : ∃ (z : α) (k : Nat), Ord z k ∧ m < k := by
  -- the least divisor of n that does not divide m
  have hex : ∃ d, (d ∣ n ∧ ¬ d ∣ m) ∧ ∀ j, j < d → ¬ (j ∣ n ∧ ¬ j ∣ m) := by
    have : ∀ b d, d ≤ b → (d ∣ n ∧ ¬ d ∣ m) → ∃ d, (d ∣ n ∧ ¬ d ∣ m) ∧ ∀ j, j < d → ¬ (j ∣ n ∧ ¬ j ∣ m) := by
      intro b
      induction b with
      | zero => intro d hd h; exact ⟨d, h, fun j hj => by omega⟩
      | succ b ih =>
        intro d hd h
        by_cases hs : ∃ j, j < d ∧ (j ∣ n ∧ ¬ j ∣ m)
        · obtain ⟨j, hj, hh⟩ := hs; exact ih j (by omega) hh
        · exact ⟨d, h, fun j hj hh => hs ⟨j, hj, hh⟩⟩
    exact this n n (Nat.le_refl _) ⟨Nat.dvd_refl _, hn⟩
  obtain ⟨d, ⟨hdn, hdm⟩, hmin⟩ := hex
  have hd0 : 0 < d := Nat.pos_of_ne_zero fun e => by
    subst e; have := Nat.eq_zero_of_zero_dvd hdn; have := hy.1; omega
  have hm0 := hx.1
  let c := Nat.gcd d m
  have hc0 : 0 < c := Nat.gcd_pos_of_pos_left _ hd0
  have hcm : c ∣ m := Nat.gcd_dvd_right _ _
  have hcd : c ∣ d := Nat.gcd_dvd_left _ _
  have hcop : Nat.Coprime (m / c) d := by
    show Nat.gcd (m / c) d = 1
    generalize hh : Nat.gcd (m / c) d = h
    have h1 : h ∣ m / c := hh ▸ Nat.gcd_dvd_left _ _
    have h2 : h ∣ d := hh ▸ Nat.gcd_dvd_right _ _
    have h0 : 0 < h := hh ▸ Nat.gcd_pos_of_pos_right _ hd0
    by_cases e : h = 1
    · exact e
    · exfalso
      obtain ⟨t, rfl⟩ := h2
      have ht : t < h * t := by
        have : 0 < t := Nat.pos_of_ne_zero fun e => by subst e; simp at hd0
        calc t = 1 * t := (Nat.one_mul t).symm
          _ < h * t := Nat.mul_lt_mul_of_pos_right (by omega) this
      have htm : t ∣ m := by
        by_cases e : t ∣ m
        · exact e
        · exact absurd ⟨Nat.dvd_trans (Nat.dvd_mul_left t h) hdn, e⟩ (hmin t ht)
      have htc : t ∣ c := Nat.dvd_gcd (Nat.dvd_mul_left t h) htm
      apply hdm
      have : h * t ∣ (m / c) * c := Nat.mul_dvd_mul h1 htc
      rwa [Nat.div_mul_cancel hcm] at this
  refine ⟨pw x c * pw y (n / d), m / c * d, Ord.mul (hx.root hcm hc0) ?_ hcop, ?_⟩
  · have h := hy.root (c := n / d) (Nat.div_dvd_of_dvd hdn) (Nat.div_pos (Nat.le_of_dvd hy.1 hdn) hd0)
    rwa [Nat.div_div_self hdn (by have := hy.1; omega)] at h
  · have hlt : c < d := by
      rcases Nat.lt_or_ge c d with h | h
      · exact h
      · exfalso
        have : c = d := Nat.le_antisymm (Nat.le_of_dvd hd0 hcd) h
        exact hdm (this ▸ hcm)
    have hq : 0 < m / c := Nat.div_pos (Nat.le_of_dvd hm0 hcm) hc0
    calc m = m / c * c := (Nat.div_mul_cancel hcm).symm
      _ < m / c * d := Nat.mul_lt_mul_of_pos_left hlt hq

omit [Fd α] in
theorem nodup_map_range {n : Nat} {f : Nat → α} (h : ∀ i j, i < j → j < n → f i ≠ f j) : ((List.range n).map f).Nodup := by
  rw [List.nodup_iff_pairwise_ne, List.pairwise_map]
  apply List.Pairwise.imp_of_mem _ (List.pairwise_lt_range (n := n))
  intro i j _ hj hij
  exact h i j hij (by simpa using hj)
/-- a list without repetitions that lies in another is not longer -/
theorem nodup_le {β : Type} [DecidableEq β] : ∀ (l m : List β), l.Nodup → (∀ x ∈ l, x ∈ m) → l.length ≤ m.length := by
  intro l
  induction l with
  | nil => intro m _ _; simp
  | cons x t ih =>
    intro m hl hm
    have hx : x ∈ m := hm x (by simp)
    have h := ih (m.erase x) (List.nodup_cons.1 hl).2 (by
      intro y hy
      have hne : y ≠ x := fun e => (List.nodup_cons.1 hl).1 (e ▸ hy)
      exact (List.mem_erase_of_ne hne).2 (hm y (by simp [hy])))
    rw [List.length_erase_of_mem hx] at h
    have : 0 < m.length := List.length_pos_of_mem hx
    simp; omega

/-- in a finite field each element other than 0 has an order, and the list of the others is as long at least -/
theorem ord_ex [DecidableEq α] (l : List α) (hall : ∀ x : α, x ≠ 0 → x ∈ l) {x : α} (hx : x ≠ 0) : ∃ n, Ord x n ∧ n ≤ l.length := by
  -- some power between 1 and length is 1
  have hrep : ∃ k, 0 < k ∧ k ≤ l.length ∧ pw x k = 1 := by
    by_cases h : ∃ k, 0 < k ∧ k ≤ l.length ∧ pw x k = 1
    · exact h
    · exfalso
      have hnd : ((List.range (l.length + 1)).map fun i => pw x i).Nodup := by
        apply nodup_map_range
        intro i j hij hj e
        apply h
        refine ⟨j - i, by omega, by omega, ?_⟩
        have : pw x j = pw x i * pw x (j - i) := by rw [← pw_add]; congr 1; omega
        rw [this] at e
        exact (mul_left_cancel (pw_ne_zero hx i) (by rw [mul_one]; exact e)).symm
      have := nodup_le _ l hnd (by
        intro y hy
        obtain ⟨i, _, rfl⟩ := List.mem_map.1 hy
        exact hall _ (pw_ne_zero hx i))
      simp at this
      omega
  obtain ⟨k, hk0, hk, he⟩ := hrep
  have : ∀ b k, k ≤ b → 0 < k → k ≤ l.length → pw x k = 1 → ∃ n, Ord x n ∧ n ≤ l.length := by
    intro b
    induction b with
    | zero => intro k h1 h2; omega
    | succ b ih =>
      intro k h1 h2 h3 h4
      by_cases hs : ∃ j, 0 < j ∧ j < k ∧ pw x j = 1
      · obtain ⟨j, a, b, c⟩ := hs; exact ih j (by omega) a (by omega) c
      · exact ⟨k, ⟨h2, h4, fun j a b c => hs ⟨j, a, b, c⟩⟩, h3⟩
  exact this k k (Nat.le_refl _) hk0 hk he
/-- a finite field has a primitive element -/
theorem primitive_ex [DecidableEq α] (l : List α) (hl : l.Nodup) (hall : ∀ x : α, x ≠ 0 → x ∈ l) (hnz : ∀ x ∈ l, x ≠ 0) : ∃ x : α, x ≠ 0 ∧ Ord x l.length := by
  have key : ∀ (d : Nat) (x : α) (n : Nat), x ≠ 0 → Ord x n → n ≤ l.length → l.length - n ≤ d → ∃ x : α, x ≠ 0 ∧ Ord x l.length := by
    intro d
    induction d with
    | zero =>
      intro x n hx h h1 h2
      have : n = l.length := by omega
      exact ⟨x, hx, this ▸ h⟩
    | succ d ih =>
      intro x n hx h h1 h2
      by_cases e : n = l.length
      · exact ⟨x, hx, e ▸ h⟩
      · -- some element is no root of X^n - 1
        have hy : ∃ y ∈ l, pw y n ≠ 1 := by
          by_cases hy : ∃ y ∈ l, pw y n ≠ 1
          · exact hy
          · exfalso
            have h0 : Alg.mono (1 : α) n - 1 = 0 := by
              apply roots_le n _ l _ hl _ (by omega)
              · exact (Dg.monom _ _).sub (Dg.one.mono (by omega))
              · intro y hy'
                rw [ev_sub, ev_mono (by omega), one_mul]
                have : pw y n = 1 := by
                  by_cases e : pw y n = 1
                  · exact e
                  · exact absurd ⟨y, hy', e⟩ hy
                rw [this]
                have e1 : ev (n + 1) (1 : Ps α) y = 1 := by
                  rw [ev_ext Dg.one (by omega)]
                  show sm 1 _ = _
                  rw [sm_succ, sm_zero, zero_add, pw_zero, mul_one]; rfl
                rw [e1, sub_self]
            have h1 : (Alg.mono (1 : α) n - 1 : Ps α).co n = 0 := by rw [h0]; rfl
            rw [co_sub, co_mono, if_pos rfl, co_one, if_neg (by have := h.1; omega), sub_zero] at h1
            exact one_ne_zero h1
        obtain ⟨y, hyl, hy⟩ := hy
        obtain ⟨m, hm, hml⟩ := ord_ex l hall (hnz y hyl)
        have hnd : ¬ m ∣ n := fun hd => hy (hm.pw_dvd hd)
        obtain ⟨z, k, hz, hk⟩ := h.greater hm hnd
        have hz0 : z ≠ 0 := by
          intro e0
          have := hz.2.1
          rw [e0, zero_pw hz.1] at this
          exact one_ne_zero this.symm
        obtain ⟨k', hk', hkl⟩ := ord_ex l hall hz0
        have : k = k' := Nat.dvd_antisymm (hz.dvd hk'.2.1) (hk'.dvd hz.2.1)
        subst this
        exact ih z k hz0 hz hkl (by omega)
  have h1 : Ord (1 : α) 1 := ⟨by omega, pw_one 1, fun k a b => by omega⟩
  have hpos : 0 < l.length := List.length_pos_of_mem (hall 1 one_ne_zero)
  exact key l.length 1 1 one_ne_zero h1 hpos (by omega)
end
end Go.Proofs.Ytdpibcniodhinaa.Alg
/- Integers modulo a number, residues of polynomials modulo a monic polynomial, and that they are a field just if the polynomial is irreducible. -/
namespace Go.Proofs.Ytdpibcniodhinaa.Alg

/-- the integers modulo k + 2 -/
structure Zm (k : Nat) where
  v : Int
  lo : 0 ≤ v
  hi : v < k + 2
theorem Zm.ext' {k : Nat} {a b : Zm k} (h : a.v = b.v) : a = b := by
  cases a; cases b; simp only at h; subst h; rfl
def Zm.of {k : Nat} (x : Int) : Zm k := ⟨x % (k + 2), Int.emod_nonneg _ (by omega), Int.emod_lt_of_pos _ (by omega)⟩
theorem Zm.of_v {k : Nat} (x : Int) : (Zm.of (k := k) x).v = x % (k + 2) := rfl
theorem Zm.v_mod {k : Nat} (a : Zm k) : a.v % (k + 2) = a.v := Int.emod_eq_of_lt a.lo a.hi
theorem Zm.of_self {k : Nat} (a : Zm k) : Zm.of a.v = a := Zm.ext' a.v_mod
theorem Zm.of_eq {k : Nat} {x y : Int} (h : x % (k + 2) = y % (k + 2)) : Zm.of (k := k) x = Zm.of y := Zm.ext' h

theorem emod_mul_l (a b n : Int) : (a % n * b) % n = (a * b) % n := by rw [Int.mul_emod, Int.emod_emod_of_dvd _ (Int.dvd_refl n), ← Int.mul_emod]
theorem emod_mul_r (a b n : Int) : (a * (b % n)) % n = (a * b) % n := by rw [Int.mul_comm, emod_mul_l, Int.mul_comm]
instance instCRZm (k : Nat) : CR (Zm k) where
  add a b := Zm.of (a.v + b.v)
  mul a b := Zm.of (a.v * b.v)
  neg a := Zm.of (-a.v)
  zero := Zm.of 0
  one := Zm.of 1
  add_comm' a b := by apply Zm.of_eq; rw [Int.add_comm]
  add_assoc' a b c := by apply Zm.ext'; show ((a.v + b.v) % (k + 2) + c.v) % (k + 2) = (a.v + (b.v + c.v) % (k + 2)) % (k + 2); simp [Int.add_assoc]
  zero_add' a := by apply Zm.ext'; show (0 % (k + 2) + a.v) % (k + 2) = a.v; simp [a.v_mod]
  neg_add' a := by apply Zm.ext'; show (-a.v % (k + 2) + a.v) % (k + 2) = 0 % (k + 2); simp [Int.add_left_neg]
  mul_comm' a b := by apply Zm.of_eq; rw [Int.mul_comm]
  mul_assoc' a b c := by apply Zm.ext'; show ((a.v * b.v) % (k + 2) * c.v) % (k + 2) = (a.v * ((b.v * c.v) % (k + 2))) % (k + 2); rw [emod_mul_l, emod_mul_r, Int.mul_assoc]
  one_mul' a := by apply Zm.ext'; show (1 % (k + 2) * a.v) % (k + 2) = a.v; rw [emod_mul_l, Int.one_mul, a.v_mod]
  mul_add' a b c := by apply Zm.ext'; show (a.v * ((b.v + c.v) % (k + 2))) % (k + 2) = ((a.v * b.v) % (k + 2) + (a.v * c.v) % (k + 2)) % (k + 2); rw [emod_mul_r, Int.mul_add]; simp

theorem Zm.add_v {k : Nat} (a b : Zm k) : (a + b).v = (a.v + b.v) % (k + 2) := rfl
theorem Zm.mul_v {k : Nat} (a b : Zm k) : (a * b).v = (a.v * b.v) % (k + 2) := rfl
theorem Zm.neg_v {k : Nat} (a : Zm k) : (-a).v = (-a.v) % (k + 2) := rfl
theorem Zm.zero_v {k : Nat} : (0 : Zm k).v = 0 := rfl
theorem Zm.one_v {k : Nat} : (1 : Zm k).v = 1 := Int.emod_eq_of_lt (by omega) (by omega)
theorem Zm.of_add {k : Nat} (x y : Int) : Zm.of (k := k) (x + y) = Zm.of x + Zm.of y := by
  apply Zm.ext'; rw [Zm.add_v, Zm.of_v, Zm.of_v, Zm.of_v]; simp
theorem Zm.of_mul {k : Nat} (x y : Int) : Zm.of (k := k) (x * y) = Zm.of x * Zm.of y := by
  apply Zm.ext'; rw [Zm.mul_v, Zm.of_v, Zm.of_v, Zm.of_v, emod_mul_l, emod_mul_r]
theorem Zm.of_neg {k : Nat} (x : Int) : Zm.of (k := k) (-x) = -Zm.of x := by
  apply Zm.ext'; rw [Zm.neg_v, Zm.of_v, Zm.of_v]
  have h := Int.emod_add_mul_ediv x ((k : Int) + 2)
  rw [show -(x % ((k : Int) + 2)) = -x + ((k : Int) + 2) * (x / ((k : Int) + 2)) from by omega, Int.add_mul_emod_self_left]
theorem Zm.of_zero {k : Nat} : Zm.of (k := k) 0 = 0 := rfl
theorem Zm.of_one {k : Nat} : Zm.of (k := k) 1 = 1 := rfl
theorem Zm.of_p {k : Nat} : Zm.of (k := k) (k + 2) = 0 := by apply Zm.ext'; rw [Zm.of_v, Int.emod_self]; rfl

/-- n is prime, as the document's reference asks it -/
def Prm (n : Int) : Prop := ∀ d : Int, 2 ≤ d → d < n → n % d ≠ 0

theorem zm_inv {k : Nat} (hp : Prm (k + 2)) : ∀ (n : Nat) (a : Int), a.toNat ≤ n → 0 < a → a < k + 2 → ∃ b : Int, (a * b) % (k + 2) = 1 := by
  intro n
  induction n with
  | zero => intro a h1 h2; omega
  | succ n ih =>
    intro a h1 h2 h3
    by_cases e : a = 1
    · exact ⟨1, by subst e; exact Int.emod_eq_of_lt (by omega) (by omega)⟩
    · have hr0 := Int.emod_nonneg ((k : Int) + 2) (b := a) (by omega)
      have hr1 := Int.emod_lt_of_pos ((k : Int) + 2) (b := a) h2
      have hr2 := hp a (by omega) h3
      obtain ⟨s, hs⟩ := ih (((k : Int) + 2) % a) (by omega) (by omega) (by omega)
      refine ⟨-((((k : Int) + 2) / a) * s), ?_⟩
      have hd := Int.emod_add_mul_ediv ((k : Int) + 2) a
      have : a * -((((k : Int) + 2) / a) * s) = (((k : Int) + 2) % a) * s + ((k : Int) + 2) * (-s) := by
        have h2 : (((k : Int) + 2) % a) = ((k : Int) + 2) - a * (((k : Int) + 2) / a) := by omega
        rw [h2, Int.sub_mul, Int.mul_neg, Int.mul_neg, Int.mul_assoc]; omega
      rw [this, Int.add_mul_emod_self_left]
      exact hs

theorem Zm.inv_ex {k : Nat} (hp : Prm (k + 2)) (a : Zm k) (h : a ≠ 0) : ∃ b : Zm k, a * b = 1 := by
  have h0 : a.v ≠ 0 := fun e => h (Zm.ext' (by rw [e]; rfl))
  have := a.lo
  obtain ⟨b, hb⟩ := zm_inv hp a.v.toNat a.v (Nat.le_refl _) (by omega) a.hi
  refine ⟨Zm.of b, Zm.ext' ?_⟩
  rw [Zm.mul_v, Zm.of_v, Zm.one_v, ← hb, emod_mul_r]

open Classical in
/-- the field of the integers modulo a prime -/
@[reducible] noncomputable def zmFd {k : Nat} (hp : Prm (k + 2)) : Fd (Zm k) where
  toCR := instCRZm k
  inv a := if h : a ≠ 0 then Classical.choose (Zm.inv_ex hp a h) else 0
  mul_inv' a h := by rw [dif_pos h]; exact Classical.choose_spec (Zm.inv_ex hp a h)
  one_ne_zero' := fun e => by
    have := congrArg Zm.v e
    rw [Zm.one_v, Zm.zero_v] at this
    omega

/-- a monic polynomial of a degree of at least 1 -/
structure Mn (k : Nat) where
  m : Nat
  f : Ps (Zm k)
  dg : Dg f (m + 1)
  top : f.co m = 1
  pos : 0 < m

/-- a residue -/
structure El {k : Nat} (M : Mn k) where
  p : Ps (Zm k)
  dg : Dg p M.m
theorem El.ext' {k : Nat} {M : Mn k} {a b : El M} (h : a.p = b.p) : a = b := by
  cases a; cases b; simp only at h; subst h; rfl

section
variable {k : Nat} (M : Mn k)
/-- p is r modulo the polynomial -/
def Cg (p r : Ps (Zm k)) : Prop := ∃ (n : Nat) (q : Ps (Zm k)), Dg q n ∧ p = q * M.f + r
variable {M}
theorem Cg.refl (p : Ps (Zm k)) : Cg M p p := ⟨0, 0, Dg.zero 0, by rw [zero_mul, zero_add]⟩
theorem Cg.symm {p r : Ps (Zm k)} (h : Cg M p r) : Cg M r p := by
  obtain ⟨n, q, hq, e⟩ := h
  exact ⟨n, -q, hq.neg, by rw [e, neg_mul, ← add_assoc, neg_add, zero_add]⟩
theorem Cg.trans {p r s : Ps (Zm k)} (h : Cg M p r) (g : Cg M r s) : Cg M p s := by
  obtain ⟨n, q, hq, e⟩ := h
  obtain ⟨n', q', hq', e'⟩ := g
  exact ⟨max n n', q + q', (hq.mono (Nat.le_max_left _ _)).add (hq'.mono (Nat.le_max_right _ _)), by rw [e, e', add_mul, add_assoc]⟩
theorem Cg.add {p r p' r' : Ps (Zm k)} (h : Cg M p r) (g : Cg M p' r') : Cg M (p + p') (r + r') := by
  obtain ⟨n, q, hq, e⟩ := h
  obtain ⟨n', q', hq', e'⟩ := g
  exact ⟨max n n', q + q', (hq.mono (Nat.le_max_left _ _)).add (hq'.mono (Nat.le_max_right _ _)), by
    rw [e, e', add_mul, add_assoc, add_assoc, add_left_comm r]⟩
theorem Cg.neg {p r : Ps (Zm k)} (h : Cg M p r) : Cg M (-p) (-r) := by
  obtain ⟨n, q, hq, e⟩ := h
  exact ⟨n, -q, hq.neg, by rw [e, neg_add_distrib, neg_mul]⟩
theorem Cg.mul_left {p r : Ps (Zm k)} {n : Nat} (s : Ps (Zm k)) (hs : Dg s n) (h : Cg M p r) : Cg M (s * p) (s * r) := by
  obtain ⟨n', q, hq, e⟩ := h
  exact ⟨n + n', s * q, Dg.mul' hs hq (by omega), by rw [e, mul_add, mul_assoc]⟩
theorem Cg.mul_right {p r : Ps (Zm k)} {n : Nat} (s : Ps (Zm k)) (hs : Dg s n) (h : Cg M p r) : Cg M (p * s) (r * s) := by
  rw [mul_comm p, mul_comm r]; exact h.mul_left s hs
/-- two residues that are equal modulo the polynomial are equal -/
theorem Cg.eq {p r : Ps (Zm k)} (h : Cg M p r) (hp : Dg p M.m) (hr : Dg r M.m) : p = r := by
  obtain ⟨n, q, hq, e⟩ := h
  have h1 : q * M.f = p - r := by rw [e, add_sub_cancel]
  have h0 : q = 0 := multiple_small M.f M.m 1 M.dg (by rw [M.top, mul_one]) n q hq (by rw [h1]; exact hp.sub hr)
  rw [e, h0, zero_mul, zero_add]
theorem rem_ex {n : Nat} (p : Ps (Zm k)) (hp : Dg p n) : ∃ r, Cg M p r ∧ Dg r M.m := by
  obtain ⟨q, r, e, hr, hq⟩ := divides_ex M.f M.m 1 M.dg (by rw [M.top, mul_one]) n p hp
  exact ⟨r, ⟨_, q, hq, e⟩, hr⟩
variable (M)
noncomputable def remOf {n : Nat} (p : Ps (Zm k)) (hp : Dg p n) : El M := ⟨Classical.choose (rem_ex (M := M) p hp), (Classical.choose_spec (rem_ex (M := M) p hp)).2⟩
theorem remOf_cg {n : Nat} (p : Ps (Zm k)) (hp : Dg p n) : Cg M p (remOf M p hp).p := (Classical.choose_spec (rem_ex (M := M) p hp)).1
variable {M}
theorem El.dvd (a b : El M) : Dg (a.p * b.p) (M.m + M.m) := Dg.mul' a.dg b.dg (by omega)

noncomputable instance instCREl : CR (El M) where
  add a b := ⟨a.p + b.p, a.dg.add b.dg⟩
  mul a b := remOf M (a.p * b.p) (El.dvd a b)
  neg a := ⟨-a.p, a.dg.neg⟩
  zero := ⟨0, Dg.zero _⟩
  one := ⟨1, Dg.one.mono M.pos⟩
  add_comm' a b := El.ext' (add_comm _ _)
  add_assoc' a b c := El.ext' (add_assoc _ _ _)
  zero_add' a := El.ext' (zero_add _)
  neg_add' a := El.ext' (neg_add _)
  mul_comm' a b := El.ext' (((remOf_cg M _ (El.dvd a b)).symm.trans (by rw [mul_comm]; exact remOf_cg M _ (El.dvd b a))).eq (remOf M _ _).dg (remOf M _ _).dg)
  mul_assoc' a b c := by
    apply El.ext'
    refine Cg.eq ?_ (remOf M _ _).dg (remOf M _ _).dg
    refine (remOf_cg M _ (El.dvd _ c)).symm.trans ?_
    refine Cg.trans ?_ (remOf_cg M _ (El.dvd a _))
    refine ((remOf_cg M _ (El.dvd a b)).mul_right c.p c.dg).symm.trans ?_
    rw [mul_assoc]
    exact (remOf_cg M _ (El.dvd b c)).mul_left a.p a.dg
  one_mul' a := by
    apply El.ext'
    refine Cg.eq ((remOf_cg M _ (El.dvd _ a)).symm.trans ?_) (remOf M _ _).dg a.dg
    show Cg M (1 * a.p) a.p
    rw [one_mul]; exact Cg.refl _
  mul_add' a b c := by
    apply El.ext'
    refine Cg.eq ?_ (remOf M _ _).dg ((remOf M _ _).dg.add (remOf M _ _).dg)
    refine (remOf_cg M _ (El.dvd a _)).symm.trans ?_
    refine Cg.trans ?_ ((remOf_cg M _ (El.dvd a b)).add (remOf_cg M _ (El.dvd a c)))
    show Cg M (a.p * (b.p + c.p)) _
    rw [mul_add]; exact Cg.refl _

theorem El.mul_cg (a b : El M) : Cg M (a.p * b.p) (a * b).p := remOf_cg M _ (El.dvd a b)
/-- what a product is -/
theorem El.mul_eq {a b c : El M} (h : Cg M (a.p * b.p) c.p) : a * b = c :=
  El.ext' (((El.mul_cg a b).symm.trans h).eq (a * b).dg c.dg)
theorem El.add_p (a b : El M) : (a + b).p = a.p + b.p := rfl
theorem El.neg_p (a : El M) : (-a).p = -a.p := rfl
theorem El.zero_p : (0 : El M).p = 0 := rfl
theorem El.one_p : (1 : El M).p = 1 := rfl

/-- the exact degree of a polynomial other than 0 -/
theorem exact_dg {α : Type} [CR α] : ∀ (n : Nat) (p : Ps α), Dg p n → p ≠ 0 → ∃ j, j < n ∧ Dg p (j + 1) ∧ p.co j ≠ 0 := by
  intro n
  induction n with
  | zero => intro p hp h; exact absurd hp.eq_zero h
  | succ n ih =>
    intro p hp h
    by_cases e : p.co n = 0
    · obtain ⟨j, h1, h2, h3⟩ := ih p (fun i hi => by
        by_cases e' : i = n
        · rw [e', e]
        · exact hp i (by omega)) h
      exact ⟨j, by omega, h2, h3⟩
    · exact ⟨n, by omega, hp, e⟩

variable (M)
/-- no monic divisor of a degree from 1 to half of the own one -/
def Irr : Prop := ∀ (d : Nat) (a q : Ps (Zm k)), 1 ≤ d → 2 * d ≤ M.m → Dg a (d + 1) → a.co d = 1 → Dg q (M.m + 1 - d) → M.f ≠ q * a
variable {M}

theorem Dg.smul {α : Type} [CR α] {p : Ps α} {n : Nat} (c : α) (h : Dg p n) : Dg (Alg.mono c 0 * p) n := fun i hi => by
  rw [co_mono_mul, if_pos (by omega), show i - 0 = i from rfl, h i hi, mul_zero]
theorem mono_mul_mono {α : Type} [CR α] (a b : α) : Alg.mono a 0 * Alg.mono b 0 = Alg.mono (a * b) 0 := by
  apply Ps.ext'; intro n
  rw [co_mono_mul, if_pos (by omega), co_mono, co_mono, show n - 0 = n from rfl]
  by_cases e : n = 0
  · rw [if_pos e, if_pos e]
  · rw [if_neg e, if_neg e, mul_zero]
theorem mono_one {α : Type} [CR α] : Alg.mono (1 : α) 0 = 1 := rfl

theorem inv_poly (hp : Prm (k + 2)) (hi : Irr M) : ∀ (b n : Nat) (a : Ps (Zm k)), n ≤ b → Dg a (n + 1) → a.co n ≠ 0 → n < M.m → ∃ (j : Nat) (s : Ps (Zm k)), Dg s j ∧ Cg M (a * s) 1 := by
  letI : Fd (Zm k) := zmFd hp
  intro b
  induction b with
  | zero =>
    intro n a hn ha h0 _
    have : n = 0 := by omega
    subst this
    refine ⟨1, Alg.mono (Fd.inv (a.co 0)) 0, Dg.monom _ _, ?_⟩
    have : a = Alg.mono (a.co 0) 0 := Ps.ext' fun i => by
      rw [co_mono]
      by_cases e : i = 0
      · rw [if_pos e, e]
      · rw [if_neg e, ha i (by omega)]
    have e2 : a * Alg.mono (Fd.inv (a.co 0)) 0 = 1 := by
      rw [mul_comm]; apply Ps.ext'; intro i
      rw [co_mono_mul, if_pos (by omega), show i - 0 = i from rfl, co_one]
      by_cases e : i = 0
      · rw [if_pos e, e]; exact inv_mul h0
      · rw [if_neg e, ha i (by omega), mul_zero]
    rw [e2]; exact Cg.refl _
  | succ b ih =>
    intro n a hn ha h0 hnm
    rcases Nat.eq_zero_or_pos n with hz | hpos
    · exact ih n a (by omega) ha h0 hnm
    obtain ⟨q, r, e, hr, hq⟩ := divides_ex a n (Fd.inv (a.co n)) ha (mul_inv h0) (M.m + 1) M.f M.dg
    have hr0 : r ≠ 0 := by
      intro er
      rw [er, add_zero] at e
      have hq' : Dg q ((M.m - n) + 1) := hq.mono (by omega)
      have htop : q.co (M.m - n) * a.co n = 1 := by
        have := co_mul_top hq' ha
        rw [← e, show M.m - n + n = M.m from by omega, M.top] at this
        exact this.symm
      by_cases h2 : 2 * n ≤ M.m
      · refine hi n (Alg.mono (Fd.inv (a.co n)) 0 * a) (Alg.mono (a.co n) 0 * q) hpos h2 (Dg.smul _ ha) ?_ (Dg.smul _ hq) ?_
        · rw [co_mono_mul, if_pos (by omega), show n - 0 = n from rfl]; exact inv_mul h0
        · rw [mul_assoc, mul_left_comm q, ← mul_assoc, mono_mul_mono, mul_inv h0, mono_one, one_mul]; exact e
      · have hq0 : q.co (M.m - n) ≠ 0 := fun e0 => by rw [e0, zero_mul] at htop; exact one_ne_zero htop.symm
        refine hi (M.m - n) (Alg.mono (a.co n) 0 * q) (Alg.mono (Fd.inv (a.co n)) 0 * a) (by omega) (by omega) (Dg.smul _ hq') ?_ ((Dg.smul _ ha).mono (by omega)) ?_
        · rw [co_mono_mul, if_pos (by omega), show M.m - n - 0 = M.m - n from rfl, mul_comm]; exact htop
        · rw [mul_assoc, mul_left_comm a, ← mul_assoc, mono_mul_mono, inv_mul h0, mono_one, one_mul, mul_comm]; exact e
    obtain ⟨j, hj, hrj, hrj0⟩ := exact_dg n r hr hr0
    obtain ⟨i, s, hs, hc⟩ := ih j r (by omega) hrj hrj0 (by omega)
    have hqs : Dg (q * s) (M.m + 1 - n + i) := Dg.mul' hq hs (by omega)
    refine ⟨_, -(q * s), hqs.neg, ?_⟩
    -- r s = 1 and f s = 0, so a (-(q s)) = r s - f s = 1
    have e1 : a * -(q * s) = (-s) * M.f + r * s := by
      rw [e, mul_neg, neg_mul, mul_add, neg_add_distrib, add_assoc, mul_comm s r, neg_add, add_zero, mul_left_comm a, mul_left_comm s q a, mul_comm s a]
    refine Cg.trans ⟨_, -s, hs.neg, e1⟩ hc

/-- residues modulo an irreducible polynomial have inverses -/
theorem El.inv_ex (hp : Prm (k + 2)) (hi : Irr M) (a : El M) (h : a ≠ 0) : ∃ b : El M, a * b = 1 := by
  have h0 : a.p ≠ 0 := fun e => h (El.ext' e)
  obtain ⟨n, hn, hd, h1⟩ := exact_dg M.m a.p a.dg h0
  obtain ⟨j, s, hs, hc⟩ := inv_poly hp hi n n a.p (Nat.le_refl _) hd h1 hn
  obtain ⟨r, hr, hrd⟩ := rem_ex (M := M) s hs
  refine ⟨⟨r, hrd⟩, El.mul_eq ?_⟩
  exact (hr.mul_left a.p a.dg).symm.trans hc
open Classical in
/-- the field of the residues modulo an irreducible polynomial -/
@[reducible] noncomputable def elFd (hp : Prm (k + 2)) (hi : Irr M) : Fd (El M) where
  toCR := instCREl
  inv a := if h : a ≠ 0 then Classical.choose (El.inv_ex hp hi a h) else 0
  mul_inv' a h := by rw [dif_pos h]; exact Classical.choose_spec (El.inv_ex hp hi a h)
  one_ne_zero' := fun e => by
    have h1 := congrArg (fun a : El M => (a.p.co 0).v) e
    simp only [El.one_p, El.zero_p] at h1
    rw [co_one, if_pos rfl, co_zero, Zm.one_v, Zm.zero_v] at h1
    omega
/-- if all residues other than 0 have inverses, the polynomial is irreducible -/
theorem irr_of_inv (h : ∀ a : El M, a ≠ 0 → ∃ b : El M, a * b = 1) : Irr M := by
  intro d a q h1 h2 ha htop hq e
  have hz : ∀ c : Zm k, c = 1 → c ≠ 0 := fun c hc e0 => by
    have := congrArg Zm.v (hc.symm.trans e0); rw [Zm.one_v, Zm.zero_v] at this; omega
  let A : El M := ⟨a, ha.mono (by omega)⟩
  let Q : El M := ⟨q, hq.mono (by omega)⟩
  have hA : A ≠ 0 := fun e0 => by
    have : a.co d = 0 := by have := congrArg (fun x : El M => x.p.co d) e0; exact this
    exact hz _ htop this
  have hAQ : A * Q = 0 := El.mul_eq ⟨1, 1, Dg.one, by
    show a * q = 1 * M.f + 0
    rw [one_mul, add_zero, e, mul_comm]⟩
  obtain ⟨b, hb⟩ := h A hA
  have hQ : Q = 0 := by
    rw [← one_mul Q, ← hb, mul_comm A b, mul_assoc, hAQ, mul_zero]
  have hq0 : q = 0 := congrArg El.p hQ
  rw [hq0, zero_mul] at e
  have := M.top
  rw [e, co_zero] at this
  exact hz _ rfl this.symm
end
end Go.Proofs.Ytdpibcniodhinaa.Alg
