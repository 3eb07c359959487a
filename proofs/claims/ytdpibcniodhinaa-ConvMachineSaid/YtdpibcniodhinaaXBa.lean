/- Ghost values for memory: what a value of the machine stands for, and that this outlives steps that write only to blocks of the call's own. -/
import Derived.Calls
import Derived.Orders
import Derived.Laws.World
import Derived.Below
import Derived.Laws.Sem
import Derived.WalkSpells
import Derived.Laws.IdiomCopy
import Derived.Laws.MakeOwn
import Derived.Laws.Append
import Derived.Laws.AppendOwn
import Derived.Test.YtdpibcniodhinaaXA
namespace Go.Proofs.Ytdpibcniodhinaa.Gh
open Go Go.RowKit
set_option linter.unusedVariables false

/-- what a value stands for: numbers; slices that are only read, with their cells; slices and addresses of own blocks -/
inductive GV where
  | int (k : IntKind) (n : Int)
  | bool (b : Bool)
  | nil
  | emp
  | lit (cs : List GV)
  | sl (n : Nat) (cs : List GV)
  | own (b o n : Nat)
  | ptr (b o : Nat)
  | pp (cs : List GV) (o : Nat)
  | nilp
  | agg (cs : List GV)
  | tup (vs : List GV)
  | fn (f : FuncId) (cap : List GV)
  | undef
instance : Inhabited GV := ⟨.undef⟩

/-- a world, which actual block is which own block, how great each is, what the own blocks hold, below which number names may be stale, and the blocks that are only read -/
structure Kr where
  σ : Nat → Nat
  sz : Nat → Nat
  H : Nat → Option (List GV)
  lo : Nat
  w : World
  S : Nat → Prop

abbrev gat (cs : List GV) (j : Nat) : GV := cs.getD j .undef
abbrev vat (us : Array Value) (j : Nat) : Value := us.getD j Go.undef

inductive VR (K : Kr) : GV → Value → Prop
  | int (k : IntKind) (n : Int) : VR K (.int k n) (.int k n)
  | bool (b : Bool) : VR K (.bool b) (.bool b)
  | nil : VR K .nil (.slice none 0 0)
  | emp (a : Addr) : VR K .emp (.slice (some a) 0 0)
  | lit (B o : Nat) (cs : List GV) (us : Nat → Value) : K.S B → (∀ j, j < cs.length → K.w.cell? ⟨B, o + j, none⟩ = some (us j)) → (∀ j, j < cs.length → VR K (gat cs j) (us j)) → VR K (.lit cs) (.slice (some ⟨B, o, none⟩) cs.length cs.length)
  | sl0 (n c : Nat) (A : Option Addr) : n ≤ c → VR K (.sl n []) (.slice A n c)
  | sl (n c B o : Nat) (cs : List GV) (us : Nat → Value) : n ≤ c → K.S B → (∀ j, j < cs.length → K.w.cell? ⟨B, o + j, none⟩ = some (us j)) → (∀ j, j < cs.length → VR K (gat cs j) (us j)) → VR K (.sl n cs) (.slice (some ⟨B, o, none⟩) n c)
  | own (b o n c : Nat) : K.H b ≠ none → o + c ≤ K.sz b → n ≤ c → VR K (.own b o n) (.slice (some ⟨K.σ b, o, none⟩) n c)
  | own0 (b o : Nat) (A : Option Addr) : (K.H b ≠ none ∨ b < K.lo) → VR K (.own b o 0) (.slice A 0 0)
  | owns (b o n B c : Nat) : K.H b = none → b < K.lo → n ≤ c → VR K (.own b o n) (.slice (some ⟨B, o, none⟩) n c)
  | ptr (b o : Nat) : K.H b ≠ none → VR K (.ptr b o) (.pointer (some ⟨K.σ b, o, none⟩))
  | ptrs (b o B : Nat) : K.H b = none → b < K.lo → VR K (.ptr b o) (.pointer (some ⟨B, o, none⟩))
  | pp (B p o : Nat) (cs : List GV) (us : Nat → Value) : K.S B → (∀ j, j < cs.length → K.w.cell? ⟨B, p + j, none⟩ = some (us j)) → (∀ j, j < cs.length → VR K (gat cs j) (us j)) → VR K (.pp cs o) (.pointer (some ⟨B, p + o, none⟩))
  | nilp : VR K .nilp (.pointer none)
  | agg (cs : List GV) (us : Array Value) : us.size = cs.length → (∀ j, j < cs.length → VR K (gat cs j) (vat us j)) → VR K (.agg cs) (.agg us)
  | tup (cs : List GV) (us : Array Value) : us.size = cs.length → (∀ j, j < cs.length → VR K (gat cs j) (vat us j)) → VR K (.tup cs) (.tuple us)
  | fn (f : FuncId) (cs : List GV) (us : Array Value) : us.size = cs.length → (∀ j, j < cs.length → VR K (gat cs j) (vat us j)) → VR K (.fn f cs) (.func (.func f) #[] us)
  | undef (v : Value) : VR K .undef v

/-- what a step keeps -/
structure KStep (K K' : Kr) : Prop where
  os : K'.w.os = K.w.os
  tape : K'.w.tape = K.w.tape
  output : K'.w.output = K.w.output
  size : K.w.heap.size ≤ K'.w.heap.size
  S : ∀ B, K.S B → K'.S B
  keep : ∀ B, K.S B → K'.w.heap[B]? = K.w.heap[B]?
  lo : K.lo ≤ K'.lo
  live : ∀ b, K.H b ≠ none → K'.H b ≠ none → K'.σ b = K.σ b ∧ K'.sz b = K.sz b
  dies : ∀ b, K.H b ≠ none → K'.H b = none → b < K'.lo
  dead : ∀ b, b < K.lo → K.H b = none → K'.H b = none

theorem KStep.refl (K : Kr) : KStep K K := ⟨rfl, rfl, rfl, Nat.le_refl _, fun _ h => h, fun _ _ => rfl, Nat.le_refl _, fun b _ _ => ⟨rfl, rfl⟩, fun b h e => absurd e h, fun _ _ h => h⟩
theorem KStep.trans {K1 K2 K3 : Kr} (h : KStep K1 K2) (g : KStep K2 K3) : KStep K1 K3 where
  os := g.os.trans h.os
  tape := g.tape.trans h.tape
  output := g.output.trans h.output
  size := Nat.le_trans h.size g.size
  S B hb := g.S B (h.S B hb)
  keep B hb := (g.keep B (h.S B hb)).trans (h.keep B hb)
  lo := Nat.le_trans h.lo g.lo
  live b h1 h3 := by
    have h2 : K2.H b ≠ none := fun e => h3 (g.dead b (h.dies b h1 e) e)
    obtain ⟨a1, a2⟩ := h.live b h1 h2
    obtain ⟨b1, b2⟩ := g.live b h2 h3
    exact ⟨b1.trans a1, b2.trans a2⟩
  dies b h1 h3 := by
    by_cases e : K2.H b = none
    · exact Nat.lt_of_lt_of_le (h.dies b h1 e) g.lo
    · exact g.dies b e h3
  dead b hb e := g.dead b (Nat.lt_of_lt_of_le hb h.lo) (h.dead b hb e)

theorem cell_keep {w w' : World} {B o : Nat} {v : Value} (h : w'.heap[B]? = w.heap[B]?) (hc : w.cell? ⟨B, o, none⟩ = some v) : w'.cell? ⟨B, o, none⟩ = some v := by
  unfold World.cell? at *
  rw [h]; exact hc

theorem VR.mono {K K' : Kr} (h : KStep K K') {g : GV} {v : Value} (r : VR K g v) : VR K' g v := by
  induction r with
  | int k n => exact .int k n
  | bool b => exact .bool b
  | nil => exact .nil
  | emp a => exact .emp a
  | lit B o cs us hS hc _ ih => exact .lit B o cs us (h.S B hS) (fun j hj => cell_keep (h.keep B hS) (hc j hj)) ih
  | sl0 n c A hn => exact .sl0 n c A hn
  | sl n c B o cs us hn hS hc _ ih => exact .sl n c B o cs us hn (h.S B hS) (fun j hj => cell_keep (h.keep B hS) (hc j hj)) ih
  | own b o n c hb hz hn =>
    by_cases e : K'.H b = none
    · exact .owns b o n _ _ e (h.dies b hb e) hn
    · obtain ⟨h1, h2⟩ := h.live b hb e
      rw [← h1]; exact .own b o n c e (by rw [h2]; exact hz) hn
  | own0 b o A hb =>
    refine .own0 b o A ?_
    rcases hb with hb | hb
    · by_cases e : K'.H b = none
      · exact .inr (h.dies b hb e)
      · exact .inl e
    · exact .inr (Nat.lt_of_lt_of_le hb h.lo)
  | owns b o n B c hb hl hn => exact .owns b o n B c (h.dead b hl hb) (Nat.lt_of_lt_of_le hl h.lo) hn
  | ptr b o hb =>
    by_cases e : K'.H b = none
    · exact .ptrs b o _ e (h.dies b hb e)
    · rw [← (h.live b hb e).1]; exact .ptr b o e
  | ptrs b o A hb hl => exact .ptrs b o A (h.dead b hl hb) (Nat.lt_of_lt_of_le hl h.lo)
  | pp B p o cs us hS hc _ ih => exact .pp B p o cs us (h.S B hS) (fun j hj => cell_keep (h.keep B hS) (hc j hj)) ih
  | nilp => exact .nilp
  | agg cs us hs _ ih => exact .agg cs us hs ih
  | tup cs us hs _ ih => exact .tup cs us hs ih
  | fn f cs us hs _ ih => exact .fn f cs us hs ih
  | undef v => exact .undef v

/-- what the own blocks hold lies in the world; they are apart from each other and from what is only read -/
structure Sat (K : Kr) : Prop where
  len : ∀ b cs, K.H b = some cs → cs.length ≤ K.sz b
  blk : ∀ b cs, K.H b = some cs → 0 < K.sz b → ∃ row T, K.w.heap[K.σ b]? = some (.cells row T (0, 0)) ∧ row.size = K.sz b ∧ (∀ j, j < cs.length → VR K (gat cs j) (vat row j)) ∧ ¬ K.S (K.σ b)
  inj : ∀ b b', K.H b ≠ none → K.H b' ≠ none → 0 < K.sz b → 0 < K.sz b' → K.σ b = K.σ b' → b = b'
  sS : ∀ B, K.S B → B < K.w.heap.size

def upd (H : Nat → Option (List GV)) (b : Nat) (c : Option (List GV)) : Nat → Option (List GV) := fun x => if x = b then c else H x
theorem upd_same (H : Nat → Option (List GV)) (b : Nat) (c : Option (List GV)) : upd H b c b = c := if_pos rfl
theorem upd_ne (H : Nat → Option (List GV)) {b x : Nat} (c : Option (List GV)) (h : x ≠ b) : upd H b c x = H x := if_neg h

def updN (f : Nat → Nat) (b v : Nat) : Nat → Nat := fun x => if x = b then v else f x
theorem updN_same (f : Nat → Nat) (b v : Nat) : updN f b v b = v := if_pos rfl
theorem updN_ne (f : Nat → Nat) {b x : Nat} (v : Nat) (h : x ≠ b) : updN f b v x = f x := if_neg h

/-- a draw -/
theorem drew_step (K : Kr) (n : Nat) : KStep K { K with w := { K.w with drawn := n } } :=
  ⟨rfl, rfl, rfl, Nat.le_refl _, fun _ h => h, fun _ _ => rfl, Nat.le_refl _, fun b _ _ => ⟨rfl, rfl⟩, fun b h e => absurd e h, fun _ _ h => h⟩
theorem drew_sat {K : Kr} (h : Sat K) (n : Nat) : Sat { K with w := { K.w with drawn := n } } :=
  ⟨h.len, fun b cs e hz => by
    obtain ⟨row, T, h1, h2, h3, h4⟩ := h.blk b cs e hz
    exact ⟨row, T, h1, h2, fun j hj => (h3 j hj).mono (drew_step K n), h4⟩, h.inj, h.sS⟩

/-- a new own block, named b -/
theorem new_step {K : Kr} (hs : Sat K) (b : Nat) (hb : K.H b = none) (hl : K.lo ≤ b) (lo' : Nat) (hlo : K.lo ≤ lo') (cs : List GV) (row : Array Value) (T : TypeId) :
    KStep K ⟨updN K.σ b K.w.heap.size, updN K.sz b row.size, upd K.H b (some cs), lo', K.w.alloc (.cells row T (0, 0)), K.S⟩ where
  os := rfl
  tape := rfl
  output := rfl
  size := by simp
  S _ h := h
  keep B h := Below.heap_alloc _ _ _ (hs.sS B h)
  lo := hlo
  live x h1 h2 := by
    have : x ≠ b := fun e => h1 (e ▸ hb)
    exact ⟨updN_ne _ _ this, updN_ne _ _ this⟩
  dies x h1 h2 := by
    have : x ≠ b := fun e => h1 (e ▸ hb)
    simp only [upd_ne _ _ this] at h2
    exact absurd h2 h1
  dead x h1 h2 := by
    have : x ≠ b := by omega
    simp only [upd_ne _ _ this]
    exact h2
theorem new_sat {K : Kr} (hs : Sat K) (b : Nat) (hb : K.H b = none) (hl : K.lo ≤ b) (lo' : Nat) (hlo : K.lo ≤ lo') (cs : List GV) (row : Array Value) (T : TypeId) (hlen : cs.length ≤ row.size)
    (hr : ∀ j, j < cs.length → VR K (gat cs j) (vat row j)) :
    Sat ⟨updN K.σ b K.w.heap.size, updN K.sz b row.size, upd K.H b (some cs), lo', K.w.alloc (.cells row T (0, 0)), K.S⟩ := by
  have hst := new_step hs b hb hl lo' hlo cs row T
  have hlt : ∀ x cs, K.H x = some cs → 0 < K.sz x → K.σ x < K.w.heap.size := by
    intro x cs e hz
    obtain ⟨row, T, h1, _⟩ := hs.blk x cs e hz
    exact (Array.getElem?_eq_some_iff.1 h1).1
  refine ⟨?_, ?_, ?_, ?_⟩
  · intro x cs' e
    by_cases hx : x = b
    · subst hx; simp only [upd_same, Option.some.injEq] at e; subst e; simp only [updN_same]; exact hlen
    · simp only [upd_ne _ _ hx] at e; simp only [updN_ne _ _ hx]; exact hs.len x cs' e
  · intro x cs' e hz
    by_cases hx : x = b
    · subst hx; simp only [upd_same, Option.some.injEq] at e; subst e
      simp only [updN_same]
      refine ⟨row, T, ?_, rfl, fun j hj => (hr j hj).mono hst, fun h => ?_⟩
      · show (K.w.heap.push _)[K.w.heap.size]? = _
        simp
      · exact absurd (hs.sS _ h) (by omega)
    · simp only [upd_ne _ _ hx] at e; simp only [updN_ne _ _ hx] at hz ⊢
      obtain ⟨row', T', h1, h2, h3, h4⟩ := hs.blk x cs' e hz
      refine ⟨row', T', ?_, h2, fun j hj => (h3 j hj).mono hst, h4⟩
      rw [← h1]; exact Below.heap_alloc _ _ _ (hlt x cs' e hz)
  · intro x y h1 h2 hz1 hz2 e
    by_cases hx : x = b
    · by_cases hy : y = b
      · rw [hx, hy]
      · exfalso
        subst hx
        simp only [upd_ne _ _ hy] at h2; simp only [updN_ne _ _ hy] at hz2
        simp only [updN_same, updN_ne _ _ hy] at e
        obtain ⟨cs', hcs⟩ := Option.ne_none_iff_exists'.1 h2
        have := hlt y cs' hcs hz2
        omega
    · by_cases hy : y = b
      · exfalso
        subst hy
        simp only [upd_ne _ _ hx] at h1; simp only [updN_ne _ _ hx] at hz1
        simp only [updN_same, updN_ne _ _ hx] at e
        obtain ⟨cs', hcs⟩ := Option.ne_none_iff_exists'.1 h1
        have := hlt x cs' hcs hz1
        omega
      · simp only [upd_ne _ _ hx] at h1; simp only [updN_ne _ _ hx] at hz1
        simp only [upd_ne _ _ hy] at h2; simp only [updN_ne _ _ hy] at hz2
        simp only [updN_ne _ _ hx, updN_ne _ _ hy] at e
        exact hs.inj x y h1 h2 hz1 hz2 e
  · intro B h
    have := hs.sS B h
    show B < (K.w.alloc _).heap.size
    simp; omega
end Go.Proofs.Ytdpibcniodhinaa.Gh
/- Steps on ghost memory: a store, a name let go, a block that is only read from now on. -/
namespace Go.Proofs.Ytdpibcniodhinaa.Gh
open Go Go.RowKit
set_option linter.unusedVariables false

theorem alive_lt {K : Kr} (hs : Sat K) {b : Nat} {cs : List GV} (e : K.H b = some cs) (hz : 0 < K.sz b) : K.σ b < K.w.heap.size := by
  obtain ⟨row, T, h1, _⟩ := hs.blk b cs e hz
  exact (Array.getElem?_eq_some_iff.1 h1).1

/-- a cell of an own block -/
theorem own_cell {K : Kr} (hs : Sat K) {b : Nat} {cs : List GV} (e : K.H b = some cs) {o : Nat} (ho : o < cs.length) :
    ∃ v, K.w.cell? ⟨K.σ b, o, none⟩ = some v ∧ VR K (gat cs o) v ∧ K.w.frozen? ⟨K.σ b, o, none⟩ = false := by
  have hlen := hs.len b cs e
  obtain ⟨row, T, h1, h2, h3, h4⟩ := hs.blk b cs e (by omega)
  refine ⟨vat row o, ?_, h3 o ho, ?_⟩
  · simp only [World.cell?, h1]
    have : o < row.size := by omega
    simp [vat, Array.getD, this]
  · simp only [World.frozen?, h1]; simp

theorem gat_set (cs : List GV) (o j : Nat) (g : GV) (h : o < cs.length) : gat (cs.set o g) j = if j = o then g else gat cs j := by
  simp only [gat, List.getD_eq_getElem?_getD, List.getElem?_set]
  by_cases e : o = j
  · subst e; simp [h]
  · simp [e, Ne.symm e]

theorem set_step {K : Kr} (hs : Sat K) {b : Nat} {cs : List GV} (e : K.H b = some cs) {o : Nat} (ho : o < cs.length) (g : GV) (v : Value) :
    KStep K { K with H := upd K.H b (some (cs.set o g)), w := K.w.setCell ⟨K.σ b, o, none⟩ v } where
  os := rfl
  tape := rfl
  output := rfl
  size := by simp
  S _ h := h
  keep B h := by
    have hlen := hs.len b cs e
    obtain ⟨row, T, h1, h2, h3, h4⟩ := hs.blk b cs e (by omega)
    exact Below.heap_setCell _ _ _ _ (fun e' => h4 (by have e2 : B = K.σ b := e'; rw [← e2]; exact h))
  lo := Nat.le_refl _
  live x h1 h2 := ⟨rfl, rfl⟩
  dies x h1 h2 := by
    by_cases hx : x = b
    · subst hx; simp only [upd_same] at h2; cases h2
    · simp only [upd_ne _ _ hx] at h2; exact absurd h2 h1
  dead x h1 h2 := by
    have : x ≠ b := fun e' => by rw [e', e] at h2; cases h2
    simp only [upd_ne _ _ this]; exact h2

theorem set_sat {K : Kr} (hs : Sat K) {b : Nat} {cs : List GV} (e : K.H b = some cs) {o : Nat} (ho : o < cs.length) {g : GV} {v : Value} (hr : VR K g v) :
    Sat { K with H := upd K.H b (some (cs.set o g)), w := K.w.setCell ⟨K.σ b, o, none⟩ v } := by
  have hst := set_step hs e ho g v
  have hlen := hs.len b cs e
  have hne : ∀ x, (upd K.H b (some (cs.set o g))) x ≠ none ↔ K.H x ≠ none := by
    intro x
    by_cases hx : x = b
    · subst hx; simp [upd_same, e]
    · rw [upd_ne _ _ hx]
  refine ⟨?_, ?_, ?_, ?_⟩
  · intro x cs' ex
    by_cases hx : x = b
    · subst hx; simp only [upd_same, Option.some.injEq] at ex; subst ex; simpa using hlen
    · simp only [upd_ne _ _ hx] at ex; exact hs.len x cs' ex
  · intro x cs' ex hz
    by_cases hx : x = b
    · subst hx; simp only [upd_same, Option.some.injEq] at ex; subst ex
      obtain ⟨row, T, h1, h2, h3, h4⟩ := hs.blk x cs e hz
      refine ⟨row.setIfInBounds o v, T, ?_, by simpa using h2, ?_, h4⟩
      · simp only [World.setCell, Array.getElem?_modify, h1]; simp
      · intro j hj
        have hj' : j < cs.length := by simpa using hj
        rw [gat_set _ _ _ _ ho]
        by_cases ej : j = o
        · subst ej; rw [if_pos rfl]
          have : vat (row.setIfInBounds j v) j = v := by
            have : j < row.size := by omega
            simp [vat, Array.getD, this]
          rw [this]; exact hr.mono hst
        · rw [if_neg ej]
          have : vat (row.setIfInBounds o v) j = vat row j := by
            have hjr : j < row.size := by omega
            simp [vat, Array.getD, hjr, Ne.symm ej]
          rw [this]; exact (h3 j hj').mono hst
    · simp only [upd_ne _ _ hx] at ex
      obtain ⟨row, T, h1, h2, h3, h4⟩ := hs.blk x cs' ex hz
      refine ⟨row, T, ?_, h2, fun j hj => (h3 j hj).mono hst, h4⟩
      rw [← h1]
      refine Below.heap_setCell _ _ _ _ (fun e' => hx ?_)
      exact hs.inj x b (by rw [ex]; simp) (by rw [e]; simp) hz (by omega) e'
  · intro x y h1 h2
    exact hs.inj x y ((hne x).1 h1) ((hne y).1 h2)
  · intro B h; have := hs.sS B h; show B < (K.w.setCell _ _).heap.size; simpa using this

/-- a higher bound on names -/
theorem lo_step (K : Kr) {lo' : Nat} (h : K.lo ≤ lo') : KStep K { K with lo := lo' } :=
  ⟨rfl, rfl, rfl, Nat.le_refl _, fun _ h => h, fun _ _ => rfl, h, fun b _ _ => ⟨rfl, rfl⟩, fun b h e => absurd e h, fun _ _ h => h⟩
theorem lo_sat {K : Kr} (hs : Sat K) {lo' : Nat} (h : K.lo ≤ lo') : Sat { K with lo := lo' } :=
  ⟨hs.len, fun b cs e hz => by
    obtain ⟨row, T, h1, h2, h3, h4⟩ := hs.blk b cs e hz
    exact ⟨row, T, h1, h2, fun j hj => (h3 j hj).mono (lo_step K h), h4⟩, hs.inj, hs.sS⟩

/-- names that are let go -/
theorem kill_step (K : Kr) (p : Nat → Bool) (h : ∀ b, p b = true → K.H b ≠ none → b < K.lo) : KStep K { K with H := fun x => if p x then none else K.H x } where
  os := rfl
  tape := rfl
  output := rfl
  size := Nat.le_refl _
  S _ h := h
  keep _ _ := rfl
  lo := Nat.le_refl _
  live _ _ _ := ⟨rfl, rfl⟩
  dies x h1 h2 := by
    by_cases e : p x = true
    · exact h x e h1
    · simp only [e, Bool.false_eq_true, if_false] at h2; exact absurd h2 h1
  dead x _ h2 := by
    by_cases e : p x = true
    · simp only [e, if_true]
    · simp only [e, Bool.false_eq_true, if_false]; exact h2
theorem kill_sat {K : Kr} (hs : Sat K) (p : Nat → Bool) (h : ∀ b, p b = true → K.H b ≠ none → b < K.lo) : Sat { K with H := fun x => if p x then none else K.H x } := by
  have hst := kill_step K p h
  have key : ∀ x cs, (if p x then none else K.H x) = some cs → K.H x = some cs := by
    intro x cs e
    by_cases e' : p x = true
    · rw [if_pos e'] at e; cases e
    · rw [if_neg e'] at e; exact e
  have key' : ∀ x, (if p x then none else K.H x) ≠ none → K.H x ≠ none := by
    intro x e
    obtain ⟨cs, hcs⟩ := Option.ne_none_iff_exists'.1 e
    rw [key x cs hcs]; simp
  refine ⟨fun b cs e => hs.len b cs (key b cs e), ?_, fun x y h1 h2 => hs.inj x y (key' x h1) (key' y h2), hs.sS⟩
  intro b cs e hz
  obtain ⟨row, T, h1, h2, h3, h4⟩ := hs.blk b cs (key b cs e) hz
  exact ⟨row, T, h1, h2, fun j hj => (h3 j hj).mono hst, h4⟩

/-- own blocks that are only read from now on -/
theorem freeze_step {K : Kr} (hs : Sat K) (b : Nat) (hb : b < K.lo) : KStep K { K with H := upd K.H b none, S := fun B => K.S B ∨ (K.H b ≠ none ∧ 0 < K.sz b ∧ B = K.σ b) } where
  os := rfl
  tape := rfl
  output := rfl
  size := Nat.le_refl _
  S _ h := .inl h
  keep _ _ := rfl
  lo := Nat.le_refl _
  live _ _ _ := ⟨rfl, rfl⟩
  dies x h1 h2 := by
    by_cases hx : x = b
    · rw [hx]; exact hb
    · simp only [upd_ne _ _ hx] at h2; exact absurd h2 h1
  dead x _ h2 := by
    by_cases hx : x = b
    · subst hx; exact upd_same _ _ _
    · simp only [upd_ne _ _ hx]; exact h2
theorem freeze_sat {K : Kr} (hs : Sat K) (b : Nat) (hb : b < K.lo) : Sat { K with H := upd K.H b none, S := fun B => K.S B ∨ (K.H b ≠ none ∧ 0 < K.sz b ∧ B = K.σ b) } := by
  have hst := freeze_step hs b hb
  have key : ∀ x cs, upd K.H b none x = some cs → x ≠ b ∧ K.H x = some cs := by
    intro x cs e
    by_cases hx : x = b
    · subst hx; rw [upd_same] at e; cases e
    · rw [upd_ne _ _ hx] at e; exact ⟨hx, e⟩
  have key' : ∀ x, upd K.H b none x ≠ none → x ≠ b ∧ K.H x ≠ none := by
    intro x e
    obtain ⟨cs, hcs⟩ := Option.ne_none_iff_exists'.1 e
    obtain ⟨h1, h2⟩ := key x cs hcs
    exact ⟨h1, by rw [h2]; simp⟩
  refine ⟨fun x cs e => hs.len x cs (key x cs e).2, ?_, fun x y h1 h2 => hs.inj x y (key' x h1).2 (key' y h2).2, ?_⟩
  · intro x cs e hz
    obtain ⟨hx, e⟩ := key x cs e
    obtain ⟨row, T, h1, h2, h3, h4⟩ := hs.blk x cs e hz
    refine ⟨row, T, h1, h2, fun j hj => (h3 j hj).mono hst, ?_⟩
    rintro (h | ⟨hb1, hb2, hb3⟩)
    · exact h4 h
    · exact hx (hs.inj x b (by rw [e]; simp) hb1 hz hb2 hb3)
  · rintro B (h | ⟨hb1, hb2, rfl⟩)
    · exact hs.sS B h
    · obtain ⟨cs, hcs⟩ := Option.ne_none_iff_exists'.1 hb1
      exact alive_lt hs hcs hb2

/-- an own slice as a slice that is only read -/
theorem freeze_sl {K : Kr} (hs : Sat K) {b o n : Nat} {cs : List GV} (e : K.H b = some cs) (hb : b < K.lo) (hn : o + n ≤ cs.length) {v : Value} (hv : VR K (.own b o n) v) :
    VR { K with H := upd K.H b none, S := fun B => K.S B ∨ (K.H b ≠ none ∧ 0 < K.sz b ∧ B = K.σ b) } (.sl n ((cs.drop o).take n)) v := by
  have hst := freeze_step hs b hb
  have hlen := hs.len b cs e
  cases hv with
  | own _ _ _ c h1 h2 h3 =>
    rcases Nat.eq_zero_or_pos n with h0 | h0
    · subst h0; simp only [List.take_zero]; exact .sl0 0 c _ (Nat.zero_le _)
    · obtain ⟨row, T, g1, g2, g3, g4⟩ := hs.blk b cs e (by omega)
      refine .sl n c _ _ _ (fun j => vat row (o + j)) h3 (.inr ⟨h1, by omega, rfl⟩) ?_ ?_
      · intro j hj
        have hj' : j < n := by simp at hj; omega
        simp only [World.cell?, g1]
        have : o + j < row.size := by omega
        simp [vat, Array.getD, this]
      · intro j hj
        have hj' : j < n := by simp at hj; omega
        have : gat ((cs.drop o).take n) j = gat cs (o + j) := by
          simp [gat, List.getD_eq_getElem?_getD, hj', List.getElem?_drop]
        rw [this]
        exact (g3 (o + j) (by omega)).mono hst
  | own0 _ _ A _ => simp only [List.take_zero]; exact .sl0 0 0 A (Nat.le_refl _)
  | owns _ _ _ _ _ h1 _ _ => rw [e] at h1; cases h1
end Go.Proofs.Ytdpibcniodhinaa.Gh
/- The ghost code: operations with their types resolved, what they do to ghost values and own blocks, and how they are read off the program's own code. -/
namespace Go.Proofs.Ytdpibcniodhinaa.Gh
open Go Go.RowKit
set_option linter.unusedVariables false

inductive GX where
  | t (i : Nat)
  | c (g : GV)

inductive GOp where
  | mov (x : GX)
  | pick (c a b : GX)
  | bin (op : BinOp) (x y : GX)
  | isnil (neg : Bool) (x : GX)
  | un (op : UnOp) (x : GX)
  | field (off : Nat) (n : Option Nat) (x : GX)
  | fieldAddr (off : Nat) (x : GX)
  | indexAddr (size : Nat) (x i : GX)
  | arrAddr (len size : Nat) (x i : GX)
  | nilCheck (x : GX)
  | extract (i : Nat) (x : GX)
  | len (x : GX)
  | mm (max : Bool) (x y : GX)
  | build (zero : List GV) (parts : List (Nat × Nat × GX))
  | slice (x : GX) (lo hi mx : Option GX)
  | conv (k : IntKind) (x : GX)
  | mkfn (f : FuncId) (caps : List GX)
  | load (n : Option Nat) (x : GX)
  | store (n : Nat) (x v : GX)
  | box (v : GX)
  | alloc (cs : List GV)
  | empty
  | bslice (n : Nat) (cells : List GV) (parts : List (Nat × Nat × GX))
  | blit (cells : List GV) (parts : List (Nat × Nat × GX))
  | mslicep (z : GV) (bytes : Nat) (l c : GX)
  | appendp (bytes : Nat) (s x : GX)
  | mslice (z : GV) (bytes : Nat) (l c : GX)
  | append (bytes : Nat) (s x : GX)
  | copy (d s : GX)
  | call (f : FuncId) (args : List GX)
  | callv (x : GX) (args : List GX)

structure GOper where
  dst : Option Nat
  op : GOp
  guard : Option (Nat × Bool) := none

inductive GCode where
  | skip
  | region (ops : List GOper)
  | draw (ms : List Nat) (pre tail : List GOper)
  | seq (a b : GCode)
  | cond (c : GX) (a b : GCode)
  | block (id : Nat) (a : GCode)
  | loop (a : GCode)
  | exit (id : Nat)
  | ret

abbrev Heap := Nat → Option (List GV)
def gev (t : List GV) : GX → GV
  | .t i => gat t i
  | .c g => g

/-- the cells of a value -/
def gcells : GV → Option (List GV)
  | .agg cs => some cs
  | .tup _ => none
  | .undef => none
  | g => some [g]
def isCell : GV → Bool
  | .agg _ => false
  | .tup _ => false
  | .undef => false
  | _ => true
def setL (cs : List GV) (o : Nat) : List GV → List GV
  | [] => cs
  | g :: gs => setL (cs.set o g) (o + 1) gs
def gfill (t : List GV) : List GV → List (Nat × Nat × GX) → Option (List GV)
  | cs, [] => some cs
  | cs, (off, size, x) :: rest =>
    match gcells (gev t x) with
    | none => none
    | some vs => if vs.length = size ∧ off + size ≤ cs.length then gfill t (setL cs off vs) rest else none

def gbin (op : BinOp) : GV → GV → Option GV
  | .int k a, .int k' b =>
    if k = k' then
      match op with
      | .add => some (.int k (k.wrap (a + b)))
      | .sub => some (.int k (k.wrap (a - b)))
      | .mul => some (.int k (k.wrap (a * b)))
      | .quo => if b = 0 then none else some (.int k (k.wrap (a.tdiv b)))
      | .rem => if b = 0 then none else some (.int k (a.tmod b))
      | .xor => some (.int k (k.wrap (BitVec.ofInt k.bits a ^^^ BitVec.ofInt k.bits b).toNat))
      | .and => some (.int k (k.wrap (BitVec.ofInt k.bits a &&& BitVec.ofInt k.bits b).toNat))
      | .or => some (.int k (k.wrap (BitVec.ofInt k.bits a ||| BitVec.ofInt k.bits b).toNat))
      | .eql => some (.bool (a == b))
      | .neq => some (.bool (a != b))
      | .lss => some (.bool (decide (a < b)))
      | .leq => some (.bool (decide (a ≤ b)))
      | .gtr => some (.bool (decide (a > b)))
      | .geq => some (.bool (decide (a ≥ b)))
      | _ => none
    else none
  | _, _ => none
def gint? : GV → Option Int
  | .int _ n => some n
  | _ => none
/-- a bound of a slice expression -/
def gbound (d : Nat) (t : List GV) : Option GX → Option Nat
  | none => some d
  | some x => match gev t x with
    | .int _ i => if 0 ≤ i then some i.toNat else none
    | _ => none

def gpure (t : List GV) : GOp → Option GV
  | .mov x => some (gev t x)
  | .pick c a b => match gev t c with
    | .bool true => some (gev t a)
    | .bool false => some (gev t b)
    | _ => none
  | .bin op x y => gbin op (gev t x) (gev t y)
  | .un op x => match op, gev t x with
    | .not, .bool b => some (.bool !b)
    | .neg, .int k n => some (.int k (k.wrap (0 - n)))
    | _, _ => none
  | .field off n x => match gev t x with
    | .agg cs => (match n with
      | none => if off < cs.length then some (gat cs off) else none
      | some m => if off + m ≤ cs.length then some (.agg ((cs.drop off).take m)) else none)
    | _ => none
  | .fieldAddr off x => match gev t x with
    | .ptr b o => some (.ptr b (o + off))
    | .pp cs o => some (.pp cs (o + off))
    | _ => none
  | .indexAddr size x i => match gev t x, gev t i with
    | .own b o n, .int _ i => if 0 ≤ i ∧ i < n then some (.ptr b (o + i.toNat * size)) else none
    | .sl n cs, .int _ i => if 0 ≤ i ∧ i < n ∧ i.toNat * size < cs.length then some (.pp cs (i.toNat * size)) else none
    | .lit cs, .int _ i => if 0 ≤ i ∧ i < cs.length ∧ size = 1 then some (.pp cs i.toNat) else none
    | _, _ => none
  | .arrAddr len size x i => match gev t x, gev t i with
    | .ptr b o, .int _ i => if 0 ≤ i ∧ i < len then some (.ptr b (o + i.toNat * size)) else none
    | .pp cs o, .int _ i => if 0 ≤ i ∧ i < len then some (.pp cs (o + i.toNat * size)) else none
    | _, _ => none
  | .nilCheck x => match gev t x with
    | .ptr b o => some (.ptr b o)
    | .pp cs o => some (.pp cs o)
    | _ => none
  | .extract i x => match gev t x with
    | .tup vs => if i < vs.length then some (gat vs i) else none
    | _ => none
  | .len x => match gev t x with
    | .nil => some (.int .i64 0)
    | .emp => some (.int .i64 0)
    | .lit cs => some (.int .i64 cs.length)
    | .sl n _ => some (.int .i64 n)
    | .own _ _ n => some (.int .i64 n)
    | _ => none
  | .mm mx x y => match gev t x, gev t y with
    | .int k a, .int _ b => some (.int k (if mx then (if b > a then b else a) else (if b < a then b else a)))
    | _, _ => none
  | .build zero parts => (gfill t zero parts).map .agg
  | .conv k x => match gev t x with
    | .int _ n => some (.int k (k.wrap n))
    | _ => none
  | .mkfn f caps => some (.fn f (caps.map (gev t)))
  | .isnil neg x => match gev t x with
    | .nil => some (.bool !neg)
    | .own _ _ n => if 0 < n then some (.bool neg) else none
    | .emp => some (.bool neg)
    | .lit _ => some (.bool neg)
    | _ => none
  | .slice x lo hi mx => match gev t x with
    | .nil => if gbound 0 t lo = some 0 ∧ gbound 0 t hi = some 0 ∧ gbound 0 t mx = some 0 then some .nil else none
    | .sl n cs => (match gbound 0 t lo, gbound n t hi, gbound n t mx with
      | some l, some h, some m => if l ≤ h ∧ h ≤ m ∧ m ≤ n ∧ cs.length = n then some (.sl (h - l) ((cs.drop l).take (h - l))) else none
      | _, _, _ => none)
    | .own b o n => (match gbound 0 t lo, gbound n t hi, gbound n t mx with
      | some l, some h, some m => if l ≤ h ∧ h ≤ m ∧ m ≤ n then some (.own b (o + l) (h - l)) else none
      | _, _, _ => none)
    | _ => none
  | _ => none

/-- nothing has a name from n on -/
def Fr (H : Heap) (n : Nat) : Prop := ∀ b, n ≤ b → H b = none
/-- the elements of a slice of one-celled elements -/
def gelems (H : Heap) : GV → Option (List GV)
  | .nil => some []
  | .emp => some []
  | .lit cs => some cs
  | .sl n cs => if cs.length = n then some cs else none
  | .own b o n => match H b with
    | some cs => if o + n ≤ cs.length then some ((cs.drop o).take n) else none
    | none => none
  | _ => none

/-- the arguments' values stand for the ghost values -/
def VRs (K : Kr) (gs : List GV) (vs : Array Value) : Prop := vs.size = gs.length ∧ ∀ j, j < gs.length → VR K (gat gs j) (vat vs j)

/-- a function with a Go body -/
def okFn (P : Program) (f : FuncId) : Bool := match P.funcs[f]? with
  | some fn => fn.body.isSome && !(fn.name == "runtime.NumGoroutine")
  | none => false
/-- THE CONTRACT OF A FUNCTION: called with what the ghost values stand for it returns what g stands for, and leaves the own blocks as H' says -/
def Spec (P : Program) (f : FuncId) (args : List GV) (H : Heap) (n : Nat) (g : GV) (H' : Heap) (n' : Nat) : Prop :=
  ∀ (K : Kr) (vs : Array Value), K.H = H → K.lo = n → Fr H n → Sat K → VRs K args vs →
    Calls P f vs K.w fun e w' => ∃ v K', e = .returned v ∧ K'.w = w' ∧ KStep K K' ∧ K'.H = H' ∧ K'.lo = n' ∧ Fr H' n' ∧ Sat K' ∧ VR K' g v

def put (t : List GV) (d : Option Nat) (g : GV) : List GV := match d with
  | none => t
  | some d => t.set d g

/-- a ghost operation: k is asked of what it yields and leaves -/
def gop (P : Program) (t : List GV) (H : Heap) (n : Nat) (k : GV → Heap → Nat → Prop) : GOp → Prop
  | .load none x => (match gev t x with
    | .ptr b o => (match H b with
      | some cs => o < cs.length ∧ k (gat cs o) H n
      | none => False)
    | .pp cs o => o < cs.length ∧ k (gat cs o) H n
    | _ => False)
  | .load (some m) x => (match gev t x with
    | .ptr b o => (match H b with
      | some cs => o + m ≤ cs.length ∧ k (.agg ((cs.drop o).take m)) H n
      | none => False)
    | .pp cs o => o + m ≤ cs.length ∧ k (.agg ((cs.drop o).take m)) H n
    | _ => False)
  | .store m x v => (match gev t x, gcells (gev t v) with
    | .ptr b o, some vs => (match H b with
      | some cs => vs.length = m ∧ vs.all isCell = true ∧ o + m ≤ cs.length ∧ k .undef (upd H b (some (setL cs o vs))) n
      | none => False)
    | _, _ => False)
  | .box v => (match gcells (gev t v) with
    | some vs => k (.ptr n 0) (upd H n (some vs)) (n + 1)
    | none => False)
  | .alloc cs => k (.ptr n 0) (upd H n (some cs)) (n + 1)
  | .empty => k .emp H n
  | .bslice m cells parts => (match gfill t cells parts with
    | some cs => m ≤ cs.length ∧ k (.own n 0 m) (upd H n (some cs)) (n + 1)
    | none => False)
  | .blit cells parts => (match gfill t cells parts with
    | some cs => k (.lit cs) H n
    | none => False)
  | .mslicep z bytes l c => (match gev t l, gev t c with
    | .int .i64 a, .int .i64 b => 0 ≤ a ∧ a = b ∧ a * bytes ≤ 281474976710656 ∧ 0 < bytes ∧ k (.sl a.toNat (List.replicate a.toNat z)) H n
    | _, _ => False)
  | .mslice z bytes l c => (match gev t l, gev t c with
    | .int .i64 a, .int .i64 b => 0 ≤ a ∧ a = b ∧ a * bytes ≤ 281474976710656 ∧ 0 < bytes ∧ k (.own n 0 a.toNat) (upd H n (some (List.replicate a.toNat z))) (n + 1)
    | _, _ => False)
  | .append bytes s x => (match gelems H (gev t x) with
    | none => False
    | some ys => (match gev t s with
      | .nil => ys.length * bytes ≤ 140737488355328 ∧ k (.own n 0 ys.length) (upd H n (some ys)) (n + 1)
      | .emp => ys.length * bytes ≤ 140737488355328 ∧ k (.own n 0 ys.length) (upd H n (some ys)) (n + 1)
      | .lit cs => ys ≠ [] ∧ (cs.length + ys.length) * bytes ≤ 140737488355328 ∧ k (.own n 0 (cs.length + ys.length)) (upd H n (some (cs ++ ys))) (n + 1)
      | .own b 0 m => (match H b with
        | some cs => cs.length = m ∧ ys.all isCell = true ∧ (m + ys.length) * bytes ≤ 140737488355328 ∧ k (.own n 0 (m + ys.length)) (upd (upd H b none) n (some (cs ++ ys))) (n + 1)
        | none => False)
      | _ => False))
  | .appendp bytes s x => (match gelems H (gev t s), gelems H (gev t x) with
    | some cs, some ys => (match gev t s with
      | .nil => ys.length * bytes ≤ 140737488355328 ∧ k (.sl ys.length ys) H n
      | .emp => ys.length * bytes ≤ 140737488355328 ∧ k (.sl ys.length ys) H n
      | .lit _ => (cs.length + ys.length) * bytes ≤ 140737488355328 ∧ k (.sl (cs.length + ys.length) (cs ++ ys)) H n
      | _ => False)
    | _, _ => False)
  | .copy d s => (match gev t d, gelems H (gev t s) with
    | .own b o m, some ys => (match H b with
      | some cs => o + m ≤ cs.length ∧ ys.all isCell = true ∧ k (.int .i64 (min ys.length m : Nat)) (upd H b (some (setL cs o (ys.take (min ys.length m))))) n
      | none => False)
    | _, _ => False)
  | .call f args => ∃ g H' n', Spec P f (args.map (gev t)) H n g H' n' ∧ k g H' n'
  | .callv x args => (match gev t x with
    | .fn f caps => ∃ g H' n', okFn P f = true ∧ Spec P f (args.map (gev t) ++ caps) H n g H' n' ∧ k g H' n'
    | _ => False)
  | op => (match gpure t op with
    | some g => k g H n
    | none => False)

/-- operations one behind the other -/
def gops (P : Program) : List GOper → (List GV → Heap → Nat → Prop) → List GV → Heap → Nat → Prop
  | [], k, t, H, n => k t H n
  | o :: rest, k, t, H, n => (match o.guard with
    | none => gop P t H n (fun g H' n' => gops P rest k (put t o.dst g) H' n') o.op
    | some (j, want) => (match gat t j with
      | .bool b => if b = want then gop P t H n (fun g H' n' => gops P rest k (put t o.dst g) H' n') o.op else gops P rest k (put t o.dst (.tup [])) H n
      | .tup [] => gops P rest k (put t o.dst (.tup [])) H n
      | _ => False))

/-- it leads to own blocks that are there, or whose names lie below n, alone -/
inductive Sc (H : Heap) (n : Nat) : GV → Prop
  | int (k : IntKind) (i : Int) : Sc H n (.int k i)
  | bool (b : Bool) : Sc H n (.bool b)
  | nil : Sc H n .nil
  | emp : Sc H n .emp
  | lit (cs : List GV) : (∀ j, j < cs.length → Sc H n (gat cs j)) → Sc H n (.lit cs)
  | sl (m : Nat) (cs : List GV) : (∀ j, j < cs.length → Sc H n (gat cs j)) → Sc H n (.sl m cs)
  | own (b o m : Nat) : H b ≠ none ∨ b < n → Sc H n (.own b o m)
  | ptr (b o : Nat) : H b ≠ none ∨ b < n → Sc H n (.ptr b o)
  | pp (cs : List GV) (o : Nat) : (∀ j, j < cs.length → Sc H n (gat cs j)) → Sc H n (.pp cs o)
  | nilp : Sc H n .nilp
  | agg (cs : List GV) : (∀ j, j < cs.length → Sc H n (gat cs j)) → Sc H n (.agg cs)
  | tup (cs : List GV) : (∀ j, j < cs.length → Sc H n (gat cs j)) → Sc H n (.tup cs)
  | fn (f : FuncId) (cs : List GV) : (∀ j, j < cs.length → Sc H n (gat cs j)) → Sc H n (.fn f cs)
  | undef : Sc H n .undef
/-- it leads to no own block -/
abbrev Nr (g : GV) : Prop := Sc (fun _ => none) 0 g

/-- a ghost operation of a region whose order is open: it reads what was there before the region (names below n0, as H0 has them), or makes a block of its own -/
def gmop (P : Program) (H0 : Heap) (n0 : Nat) (t : List GV) (n : Nat) (k : GV → Option (List GV) → Prop) : GOp → Prop
  | .load none x => (match gev t x with
    | .ptr b o => (match H0 b with
      | some cs => b < n0 ∧ o < cs.length ∧ k (gat cs o) none
      | none => False)
    | .pp cs o => o < cs.length ∧ k (gat cs o) none
    | _ => False)
  | .load (some m) x => (match gev t x with
    | .ptr b o => (match H0 b with
      | some cs => b < n0 ∧ o + m ≤ cs.length ∧ k (.agg ((cs.drop o).take m)) none
      | none => False)
    | .pp cs o => o + m ≤ cs.length ∧ k (.agg ((cs.drop o).take m)) none
    | _ => False)
  | .box v => (match gcells (gev t v) with
    | some vs => k (.ptr n 0) (some vs)
    | none => False)
  | .alloc cs => k (.ptr n 0) (some cs)
  | .empty => k .emp none
  | .bslice m cells parts => (match gfill t cells parts with
    | some cs => m ≤ cs.length ∧ k (.own n 0 m) (some cs)
    | none => False)
  | .blit cells parts => (match gfill t cells parts with
    | some cs => k (.lit cs) none
    | none => False)
  | .mslicep z bytes l c => (match gev t l, gev t c with
    | .int .i64 a, .int .i64 b => 0 ≤ a ∧ a = b ∧ a * bytes ≤ 281474976710656 ∧ 0 < bytes ∧ k (.sl a.toNat (List.replicate a.toNat z)) none
    | _, _ => False)
  | .mslice z bytes l c => (match gev t l, gev t c with
    | .int .i64 a, .int .i64 b => 0 ≤ a ∧ a = b ∧ a * bytes ≤ 281474976710656 ∧ 0 < bytes ∧ k (.own n 0 a.toNat) (some (List.replicate a.toNat z))
    | _, _ => False)
  | .call f args => ∃ g, Nr g ∧ (∀ H' n', (∀ b, b < n0 → H' b = H0 b) → n0 ≤ n' → Spec P f (args.map (gev t)) H' n' g H' n') ∧ k g none
  | .append bytes s x => (match gelems (fun b => if b < n0 then H0 b else none) (gev t x) with
    | none => False
    | some ys => (match gev t s with
      | .nil => ys.length * bytes ≤ 140737488355328 ∧ k (.own n 0 ys.length) (some ys)
      | .emp => ys.length * bytes ≤ 140737488355328 ∧ k (.own n 0 ys.length) (some ys)
      | _ => False))
  | .appendp bytes s x => (match gelems (fun b => if b < n0 then H0 b else none) (gev t s), gelems (fun b => if b < n0 then H0 b else none) (gev t x) with
    | some cs, some ys => (match gev t s with
      | .nil => ys.length * bytes ≤ 140737488355328 ∧ k (.sl ys.length ys) none
      | .emp => ys.length * bytes ≤ 140737488355328 ∧ k (.sl ys.length ys) none
      | .lit _ => (cs.length + ys.length) * bytes ≤ 140737488355328 ∧ k (.sl (cs.length + ys.length) (cs ++ ys)) none
      | _ => False)
    | _, _ => False)
  | .store _ _ _ => False
  | .copy _ _ => False
  | .callv _ _ => False
  | op => (match gpure t op with
    | some g => k g none
    | none => False)
def updo (H : Heap) (n : Nat) : Option (List GV) → Heap
  | none => H
  | some cs => upd H n (some cs)
def nxt (n : Nat) : Option (List GV) → Nat
  | none => n
  | some _ => n + 1
def gmops (P : Program) (H0 : Heap) (n0 : Nat) : List GOper → (List GV → Heap → Nat → Prop) → List GV → Heap → Nat → Prop
  | [], k, t, H, n => k t H n
  | o :: rest, k, t, H, n => (match o.guard with
    | none => gmop P H0 n0 t n (fun g new => gmops P H0 n0 rest k (put t o.dst g) (updo H n new) (nxt n new)) o.op
    | some (j, want) => (match gat t j with
      | .bool b => if b = want then gmop P H0 n0 t n (fun g new => gmops P H0 n0 rest k (put t o.dst g) (updo H n new) (nxt n new)) o.op else gmops P H0 n0 rest k (put t o.dst .undef) H n
      | _ => False))

inductive GExit where
  | normal
  | exit (id : Nat)
  | ret
abbrev GPost := GExit → List GV → Heap → Nat → Prop
def gloop (body : GPost → List GV → Heap → Nat → Prop) : Nat → GPost → List GV → Heap → Nat → Prop
  | 0, _, _, _, _ => False
  | k + 1, Q, t, H, n => body (fun e t' H' n' => match e with
    | .normal => gloop body k Q t' H' n'
    | e => Q e t' H' n') t H n
/-- the ghost code's weakest precondition -/
def gw (P : Program) : GCode → GPost → List GV → Heap → Nat → Prop
  | .skip, Q, t, H, n => Q .normal t H n
  | .region ops, Q, t, H, n => gops P ops (Q .normal) t H n
  | .draw _ pre tail, Q, t, H, n => gmops P H n pre (fun t' H' n' => gops P tail (Q .normal) t' H' n') t H n
  | .seq a b, Q, t, H, n => gw P a (fun e t' H' n' => match e with
    | .normal => gw P b Q t' H' n'
    | e => Q e t' H' n') t H n
  | .cond c a b, Q, t, H, n => (match gev t c with
    | .bool v => if v then gw P a Q t H n else gw P b Q t H n
    | _ => False)
  | .block id a, Q, t, H, n => gw P a (fun e t' H' n' => match e with
    | .exit id' => if id' = id then Q .normal t' H' n' else Q (.exit id') t' H' n'
    | e => Q e t' H' n') t H n
  | .loop a, Q, t, H, n => ∃ k, gloop (gw P a) k Q t H n
  | .exit id, Q, t, H, n => Q (.exit id) t H n
  | .ret, Q, t, H, n => Q .ret t H n
end Go.Proofs.Ytdpibcniodhinaa.Gh
/- The ghost code is held against the program's own code, and the operations that leave memory alone do what the ghost code says. -/
namespace Go.Proofs.Ytdpibcniodhinaa.Gh
open Go Go.RowKit
set_option linter.unusedVariables false

def sameV : Value → GV → Bool
  | .int k n, .int k' n' => k == k' && n == n'
  | .bool b, .bool b' => b == b'
  | .slice none 0 0, .nil => true
  | .pointer none, .nilp => true
  | _, _ => false
def sameC : Value → GV → Bool
  | .agg us, .agg cs => us.size == cs.length && (List.range cs.length).all fun j => sameV (vat us j) (gat cs j)
  | v, g => sameV v g
theorem sameV_VR (K : Kr) {v : Value} {g : GV} (h : sameV v g = true) : VR K g v := by
  unfold sameV at h
  split at h
  · simp only [Bool.and_eq_true, beq_iff_eq] at h; obtain ⟨rfl, rfl⟩ := h; exact .int _ _
  · simp only [beq_iff_eq] at h; subst h; exact .bool _
  · exact .nil
  · exact .nilp
  · cases h
theorem sameC_VR (K : Kr) {v : Value} {g : GV} (h : sameC v g = true) : VR K g v := by
  unfold sameC at h
  split at h
  · simp only [Bool.and_eq_true, beq_iff_eq, List.all_eq_true, List.mem_range] at h
    exact .agg _ _ h.1 fun j hj => sameV_VR K (h.2 j hj)
  · exact sameV_VR K h

def okX : Operand → GX → Bool
  | .tmp i, .t j => i == j
  | .const v, .c g => sameC v g
  | .func f, .c (.fn f' []) => f == f'
  | _, _ => false
def TR (K : Kr) (t : List GV) (tm : Array Value) : Prop := t.length = tm.size ∧ ∀ i, VR K (gat t i) (vat tm i)
theorem okX_VR {K : Kr} {t : List GV} {a : Act} (ht : TR K t a.tmps) {x : Operand} {g : GX} (h : okX x g = true) : VR K (gev t g) (a.eval x) := by
  unfold okX at h
  split at h
  · simp only [beq_iff_eq] at h; subst h; exact ht.2 _
  · exact sameC_VR K h
  · simp only [beq_iff_eq] at h; subst h; exact .fn _ [] #[] rfl (fun j hj => by simp at hj)
  · cases h
theorem TR.mono {K K' : Kr} (h : KStep K K') {t : List GV} {tm : Array Value} (r : TR K t tm) : TR K' t tm := ⟨r.1, fun i => (r.2 i).mono h⟩
theorem TR.put {K : Kr} {t : List GV} {a : Act} (r : TR K t a.tmps) {g : GV} {v : Value} (h : VR K g v) (d : Option Nat) : TR K (put t d g) (a.put d v).tmps := by
  cases d with
  | none => exact r
  | some d =>
    refine ⟨by simp [Gh.put, Act.put, r.1], fun i => ?_⟩
    simp only [Gh.put, Act.put, gat, vat, List.getD_eq_getElem?_getD, List.getElem?_set, Array.getD_eq_getD_getElem?, Array.getElem?_setIfInBounds]
    by_cases e : d = i
    · subst e
      by_cases hd : d < t.length
      · have hd' : d < a.tmps.size := by rw [← r.1]; exact hd
        simp [hd, hd', h]
      · have hd' : ¬ d < a.tmps.size := by rw [← r.1]; exact hd
        simp [hd, hd']; exact .undef _
    · simp only [e, if_false]
      have := r.2 i
      simpa [gat, vat, List.getD_eq_getElem?_getD, Array.getD_eq_getD_getElem?] using this

def isAggB (P : Program) (T : TypeId) : Option Bool := match P.underlying T with
  | some (.struct _) => some true
  | some (.array _ _) => some true
  | some _ => some false
  | none => none
/-- a type's count of cells, if it is a struct or an array; none, if it is of one cell -/
def shapeOf (P : Program) (T : TypeId) : Option (Option Nat) := match isAggB P T with
  | some true => (P.info? T).map fun i => some i.size
  | some false => some none
  | none => none
def sizeB (P : Program) (T : TypeId) : Option Nat := (P.info? T).map (·.size)
def bytesB (P : Program) (T : TypeId) : Option Nat := (P.info? T).map (·.bytes)
def zeroB (P : Program) (T : TypeId) : Option Value := (P.info? T).bind (·.zero)
def elemB (P : Program) (T : TypeId) : Option TypeId := match P.underlying T with
  | some (.slice e) => some e
  | _ => none
def arrB (P : Program) (T : TypeId) : Option (Nat × TypeId) := match P.underlying T with
  | some (.array n e) => some (n, e)
  | _ => none
def fieldB (P : Program) (T : TypeId) (f : Nat) : Option Field := match P.underlying T with
  | some (.struct fs) => fs[f]?
  | _ => none
def okXs : List Operand → List GX → Bool
  | [], [] => true
  | x :: xs, g :: gs => okX x g && okXs xs gs
  | _, _ => false
def okO : Option Operand → Option GX → Bool
  | none, none => true
  | some x, some g => okX x g
  | _, _ => false
def sameCs (us : Array Value) (cs : List GV) : Bool := us.size == cs.length && (List.range cs.length).all fun j => sameV (vat us j) (gat cs j)
def okParts (place : Nat → Option (Nat × Nat)) : List (Nat × Operand) → List (Nat × Nat × GX) → Bool
  | [], [] => true
  | (i, x) :: xs, (off, size, g) :: gs => place i == some (off, size) && okX x g && okParts place xs gs
  | _, _ => false
def repCells (zero : Array Value) (n : Nat) : Array Value := (Array.range n).map (zero[· % zero.size]!)

def okBuiltin (P : Program) (b : Builtin) (args : List Operand) (ts : List TypeId) (go : GOp) : Bool := match b with
  | .len => (match args, ts, go with
    | [x], [T], .len x' => (elemB P T).isSome && okX x x'
    | _, _, _ => false)
  | .max => (match args, go with
    | [x, y], .mm true x' y' => okX x x' && okX y y'
    | _, _ => false)
  | .min => (match args, go with
    | [x, y], .mm false x' y' => okX x x' && okX y y'
    | _, _ => false)
  | .append => (match args, ts, go with
    | [s, x], [T, T'], .append bytes s' x' => (match elemB P T with
      | some e => T == T' && bytesB P e == some bytes && !(bytes == 0) && sizeB P e == some 1 && (zeroB P e).any (·.cells.size == 1) && okX s s' && okX x x'
      | none => false)
    | [s, x], [T, T'], .appendp bytes s' x' => (match elemB P T with
      | some e => T == T' && bytesB P e == some bytes && !(bytes == 0) && sizeB P e == some 1 && (zeroB P e).any (·.cells.size == 1) && okX s s' && okX x x'
      | none => false)
    | _, _, _ => false)
  | .copy => (match args, ts, go with
    | [d, s], [T, _], .copy d' s' => (match elemB P T with
      | some e => sizeB P e == some 1 && okX d d' && okX s s'
      | none => false)
    | _, _, _ => false)
  | _ => false
def okCall (P : Program) (c : Call) (go : GOp) : Bool := match c.callee with
  | .builtin b => okBuiltin P b c.args.toList c.argTypes.toList go
  | .value (.func f) => (match go with
    | .call f' args' => f == f' && okXs c.args.toList args' && okFn P f
    | _ => false)
  | .value x => (match go with
    | .callv x' args' => okX x x' && okXs c.args.toList args'
    | _ => false)
  | _ => false
def okBin (P : Program) (op : BinOp) (T : TypeId) (x y : Operand) (go : GOp) : Bool := match go with
  | .bin op' x' y' => op == op' && okX x x' && okX y y' && !(op == .shl) && !(op == .shr)
  | .isnil neg x' => (if neg then op == .neq else op == .eql) && okX x x' && (elemB P T).isSome && (match y with
    | .const (.slice none 0 0) => true
    | _ => false)
  | _ => false
def okField (P : Program) (T : TypeId) (x : Operand) (f : Nat) (go : GOp) : Bool := match go with
  | .field off n x' => (match fieldB P T f with
    | some fd => fd.offset == off && shapeOf P fd.type == some n && okX x x'
    | none => false)
  | _ => false
def okFieldAddr (P : Program) (T : TypeId) (x : Operand) (f : Nat) (go : GOp) : Bool := match go with
  | .fieldAddr off x' => (match fieldB P T f with
    | some fd => fd.offset == off && (match sizeB P fd.type with | some s => !(s == 0) | none => false) && okX x x'
    | none => false)
  | _ => false
def okIndexAddr (P : Program) (T : TypeId) (x i : Operand) (go : GOp) : Bool := match go with
  | .indexAddr size x' i' => (match elemB P T with
    | some e => sizeB P e == some size && okX x x' && okX i i'
    | none => false)
  | .arrAddr len size x' i' => (match arrB P T with
    | some (m, e) => m == len && sizeB P e == some size && okX x x' && okX i i'
    | none => false)
  | _ => false
def okConv (P : Program) (src dst : TypeId) (x : Operand) (go : GOp) : Bool := match go with
  | .conv k x' => (match P.underlying src, P.underlying dst with
    | some (.int _), some (.int k') => k == k' && okX x x'
    | _, _ => false)
  | _ => false
def okMkfn (fn : Fn) (first caps : List Operand) (go : GOp) : Bool := match fn, first, go with
  | .func f, [], .mkfn f' caps' => f == f' && okXs caps caps'
  | _, _, _ => false
def okSlice (P : Program) (T : TypeId) (x : Operand) (lo hi mx : Option Operand) (go : GOp) : Bool := match go with
  | .slice x' lo' hi' mx' => (match elemB P T with
    | some e => sizeB P e == some 1 && okX x x' && okO lo lo' && okO hi hi' && okO mx mx' && (mx.isNone || hi.isSome)
    | none => false)
  | _ => false
def okBuild (P : Program) (T : TypeId) (parts : List (Nat × Operand)) (go : GOp) : Bool := match go with
  | .build zero parts' => (match P.underlying T, zeroB P T with
    | some (.struct fs), some z => sameCs z.cells zero && okParts (fun i => (fs[i]?).bind fun f => (sizeB P f.type).map fun s => (f.offset, s)) parts parts' && fs.all fun f => (sizeB P f.type).isSome
    | _, _ => false)
  | _ => false
def okBslice (P : Program) (T : TypeId) (n : Nat) (parts : List (Nat × Operand)) (go : GOp) : Bool := match elemB P T with
  | none => false
  | some e => (match go with
    | .bslice m cells parts' => (match sizeB P e, zeroB P e with
      | some s, some z => n == m && !(n * s > 2 ^ 24) && !(n * s == 0) && sameCs (repCells z.cells (n * s)) cells && okParts (fun i => some (i * s, s)) parts parts'
      | _, _ => false)
    | .blit cells parts' => (match sizeB P e, zeroB P e with
      | some s, some z => s == 1 && !(n > 2 ^ 24) && !(n == 0) && sameCs (repCells z.cells n) cells && okParts (fun i => some (i * s, s)) parts parts'
      | _, _ => false)
    | .empty => n == 0 && parts.isEmpty && (sizeB P e).isSome
    | _ => false)
def okMslice (P : Program) (T : TypeId) (l c : Operand) (go : GOp) : Bool := match elemB P T with
  | none => false
  | some e => (match bytesB P e, zeroB P e with
    | some b, some zv => (match go with
      | .mslice z bytes l' c' => b == bytes && sizeB P e == some 1 && sameCs zv.cells [z] && okX l l' && okX c c'
      | .mslicep z bytes l' c' => b == bytes && sizeB P e == some 1 && sameCs zv.cells [z] && okX l l' && okX c c'
      | _ => false)
    | _, _ => false)

/-- the ghost operation is the program's -/
def okOp (P : Program) (op : Op) (go : GOp) : Bool := match op with
  | .move x => (match go with | .mov y => okX x y | _ => false)
  | .assign x => (match go with | .mov y => okX x y | _ => false)
  | .pick c a b => (match go with | .pick c' a' b' => okX c c' && okX a a' && okX b b' | _ => false)
  | .binOp op T x y _ => okBin P op T x y go
  | .unOp op _ x => (match go with | .un op' x' => op == op' && okX x x' | _ => false)
  | .field T x f => okField P T x f go
  | .fieldAddr T x f => okFieldAddr P T x f go
  | .indexAddr T x i => okIndexAddr P T x i go
  | .nilCheck x => (match go with | .nilCheck x' => okX x x' | _ => false)
  | .extract x i => (match go with | .extract i' x' => i == i' && okX x x' | _ => false)
  | .call c => okCall P c go
  | .convert src dst x => okConv P src dst x go
  | .makeFunc fn first caps => okMkfn fn first.toList caps.toList go
  | .slice T x lo hi mx => okSlice P T x lo hi mx go
  | .build T parts => okBuild P T parts.toList go
  | .load T x => (match go with | .load n x' => shapeOf P T == some n && okX x x' && !(n == some 0) | _ => false)
  | .store T x v => (match go with | .store n x' v' => sizeB P T == some n && okX x x' && okX v v' | _ => false)
  | .box _ v => (match go with | .box v' => okX v v' | _ => false)
  | .alloc T => (match go with
    | .alloc cs => (match zeroB P T with
      | some z => sameCs z.cells cs
      | none => false)
    | _ => false)
  | .buildSlice T n parts => okBslice P T n parts.toList go
  | .makeSlice T l c => okMslice P T l c go
  | _ => false
end Go.Proofs.Ytdpibcniodhinaa.Gh
/- The operations that leave memory alone. -/
namespace Go.Proofs.Ytdpibcniodhinaa.Gh
open Go Go.RowKit
set_option linter.unusedVariables false

theorem VR.int_inv {K : Kr} {k : IntKind} {n : Int} {v : Value} (h : VR K (.int k n) v) : v = .int k n := by cases h; rfl
theorem VR.bool_inv {K : Kr} {b : Bool} {v : Value} (h : VR K (.bool b) v) : v = .bool b := by cases h; rfl
theorem VR.nil_inv {K : Kr} {v : Value} (h : VR K .nil v) : v = .slice none 0 0 := by cases h; rfl
theorem VR.emp_inv {K : Kr} {v : Value} (h : VR K .emp v) : ∃ a, v = .slice (some a) 0 0 := by cases h; exact ⟨_, rfl⟩
theorem VR.sl_inv {K : Kr} {n : Nat} {cs : List GV} {v : Value} (h : VR K (.sl n cs) v) : ∃ A c, v = .slice A n c ∧ n ≤ c := by
  cases h with
  | sl0 _ c A hn => exact ⟨A, c, rfl, hn⟩
  | sl _ c B o _ us hn => exact ⟨_, c, rfl, hn⟩
theorem VR.own_inv {K : Kr} {b o n : Nat} {v : Value} (h : VR K (.own b o n) v) : ∃ A c, v = .slice A n c ∧ n ≤ c ∧ (0 < n → A.isSome = true) := by
  cases h with
  | own _ _ _ c h1 h2 h3 => exact ⟨_, c, rfl, h3, fun _ => rfl⟩
  | own0 _ _ A _ => exact ⟨A, 0, rfl, Nat.le_refl _, fun h => by omega⟩
  | owns _ _ _ B c h1 h2 h3 => exact ⟨_, c, rfl, h3, fun _ => rfl⟩
theorem VR.lit_inv {K : Kr} {cs : List GV} {v : Value} (h : VR K (.lit cs) v) : ∃ ad, v = .slice (some ad) cs.length cs.length := by
  cases h with
  | lit B o _ us => exact ⟨_, rfl⟩
theorem VR.agg_inv {K : Kr} {cs : List GV} {v : Value} (h : VR K (.agg cs) v) : ∃ us, v = .agg us ∧ us.size = cs.length ∧ ∀ j, j < cs.length → VR K (gat cs j) (vat us j) := by
  cases h with
  | agg _ us h1 h2 => exact ⟨us, rfl, h1, h2⟩
theorem VR.tup_inv {K : Kr} {cs : List GV} {v : Value} (h : VR K (.tup cs) v) : ∃ us, v = .tuple us ∧ us.size = cs.length ∧ ∀ j, j < cs.length → VR K (gat cs j) (vat us j) := by
  cases h with
  | tup _ us h1 h2 => exact ⟨us, rfl, h1, h2⟩
theorem VR.fn_inv {K : Kr} {f : FuncId} {cs : List GV} {v : Value} (h : VR K (.fn f cs) v) : ∃ us, v = .func (.func f) #[] us ∧ us.size = cs.length ∧ ∀ j, j < cs.length → VR K (gat cs j) (vat us j) := by
  cases h with
  | fn _ _ us h1 h2 => exact ⟨us, rfl, h1, h2⟩
theorem add_plain (B o n : Nat) : (⟨B, o, none⟩ : Addr).add n = ⟨B, o + n, none⟩ := by
  unfold Addr.add; split <;> simp_all
theorem VR.ptr_inv {K : Kr} {b o : Nat} {v : Value} (h : VR K (.ptr b o) v) : ∃ B, v = .pointer (some ⟨B, o, none⟩) ∧ ∀ o', VR K (.ptr b o') (.pointer (some ⟨B, o', none⟩)) := by
  cases h with
  | ptr _ _ h1 => exact ⟨_, rfl, fun o' => .ptr _ _ h1⟩
  | ptrs _ _ B h1 h2 => exact ⟨B, rfl, fun o' => .ptrs _ _ B h1 h2⟩
theorem VR.pp_inv {K : Kr} {cs : List GV} {o : Nat} {v : Value} (h : VR K (.pp cs o) v) : ∃ B p, v = .pointer (some ⟨B, p + o, none⟩) ∧ ∀ o', VR K (.pp cs o') (.pointer (some ⟨B, p + o', none⟩)) := by
  cases h with
  | pp B p _ _ us h1 h2 h3 => exact ⟨B, p, rfl, fun o' => .pp B p o' _ us h1 h2 h3⟩
theorem VR.own_sc {K : Kr} {b o n : Nat} {v : Value} (h : VR K (.own b o n) v) : K.H b ≠ none ∨ b < K.lo := by
  cases h with
  | own _ _ _ _ h1 _ _ => exact .inl h1
  | own0 _ _ _ h1 => exact h1
  | owns _ _ _ _ _ _ h2 _ => exact .inr h2
/-- where an own slice's element stands -/
theorem VR.own_at {K : Kr} {b o n : Nat} {v : Value} (h : VR K (.own b o n) v) (hn : 0 < n) : ∃ B c, v = .slice (some ⟨B, o, none⟩) n c ∧ ∀ o', VR K (.ptr b o') (.pointer (some ⟨B, o', none⟩)) := by
  cases h with
  | own _ _ _ c h1 h2 h3 => exact ⟨_, c, rfl, fun o' => .ptr _ _ h1⟩
  | own0 _ _ A _ => omega
  | owns _ _ _ B c h1 h2 h3 => exact ⟨B, c, rfl, fun o' => .ptrs _ _ B h1 h2⟩
theorem VR.sl_at {K : Kr} {n : Nat} {cs : List GV} {v : Value} (h : VR K (.sl n cs) v) (hn : 0 < cs.length) : ∃ B o c, v = .slice (some ⟨B, o, none⟩) n c ∧ ∀ j, VR K (.pp cs j) (.pointer (some ⟨B, o + j, none⟩)) := by
  cases h with
  | sl0 _ c A _ => simp at hn
  | sl _ c B o _ us h1 h2 h3 h4 => exact ⟨B, o, c, rfl, fun j => .pp B o j _ us h2 h3 h4⟩
theorem VR.lit_at {K : Kr} {cs : List GV} {v : Value} (h : VR K (.lit cs) v) : ∃ B o, v = .slice (some ⟨B, o, none⟩) cs.length cs.length ∧ ∀ j, VR K (.pp cs j) (.pointer (some ⟨B, o + j, none⟩)) := by
  cases h with
  | lit B o _ us h1 h2 h3 => exact ⟨B, o, rfl, fun j => .pp B o j _ us h1 h2 h3⟩

/-- the cells of what a value stands for -/
theorem cells_VR {K : Kr} {g : GV} {v : Value} (h : VR K g v) {cs : List GV} (e : gcells g = some cs) : v.cells.size = cs.length ∧ ∀ j, j < cs.length → VR K (gat cs j) (vat v.cells j) := by
  have one : ∀ (u : Value), u.cells = #[u] → VR K g u → gcells g = some [g] → cs = [g] → u.cells.size = cs.length ∧ ∀ j, j < cs.length → VR K (gat cs j) (vat u.cells j) := by
    intro u hu hr _ ec
    subst ec; rw [hu]
    refine ⟨rfl, fun j hj => ?_⟩
    have : j = 0 := by simp at hj; exact hj
    subst this; exact hr
  cases h with
  | agg cs' us h1 h2 => simp only [gcells, Option.some.injEq] at e; subst e; exact ⟨h1, h2⟩
  | tup _ _ _ _ => cases e
  | undef _ => cases e
  | int k n => exact one _ rfl (.int k n) rfl (by simpa [gcells] using e.symm)
  | bool b => exact one _ rfl (.bool b) rfl (by simpa [gcells] using e.symm)
  | nil => exact one _ rfl .nil rfl (by simpa [gcells] using e.symm)
  | emp a => exact one _ rfl (.emp a) rfl (by simpa [gcells] using e.symm)
  | lit B o cs' us h1 h2 h3 => exact one _ rfl (.lit B o cs' us h1 h2 h3) rfl (by simpa [gcells] using e.symm)
  | sl0 n c A h1 => exact one _ rfl (.sl0 n c A h1) rfl (by simpa [gcells] using e.symm)
  | sl n c B o cs' us h1 h2 h3 h4 => exact one _ rfl (.sl n c B o cs' us h1 h2 h3 h4) rfl (by simpa [gcells] using e.symm)
  | own b o n c h1 h2 h3 => exact one _ rfl (.own b o n c h1 h2 h3) rfl (by simpa [gcells] using e.symm)
  | own0 b o A h1 => exact one _ rfl (.own0 b o A h1) rfl (by simpa [gcells] using e.symm)
  | owns b o n B c h1 h2 h3 => exact one _ rfl (.owns b o n B c h1 h2 h3) rfl (by simpa [gcells] using e.symm)
  | ptr b o h1 => exact one _ rfl (.ptr b o h1) rfl (by simpa [gcells] using e.symm)
  | ptrs b o B h1 h2 => exact one _ rfl (.ptrs b o B h1 h2) rfl (by simpa [gcells] using e.symm)
  | pp B p o cs' us h1 h2 h3 => exact one _ rfl (.pp B p o cs' us h1 h2 h3) rfl (by simpa [gcells] using e.symm)
  | nilp => exact one _ rfl .nilp rfl (by simpa [gcells] using e.symm)
  | fn f cs' us h1 h2 => exact one _ rfl (.fn f cs' us h1 h2) rfl (by simpa [gcells] using e.symm)

theorem sameCs_VR (K : Kr) {us : Array Value} {cs : List GV} (h : sameCs us cs = true) : us.size = cs.length ∧ ∀ j, j < cs.length → VR K (gat cs j) (vat us j) := by
  simp only [sameCs, Bool.and_eq_true, beq_iff_eq, List.all_eq_true, List.mem_range] at h
  exact ⟨h.1, fun j hj => sameV_VR K (h.2 j hj)⟩
theorem okXs_VR {K : Kr} {t : List GV} {a : Act} (ht : TR K t a.tmps) : ∀ {xs : List Operand} {gs : List GX}, okXs xs gs = true → VRs K (gs.map (gev t)) (xs.map a.eval).toArray := by
  intro xs
  induction xs with
  | nil => intro gs h; cases gs with
    | nil => exact ⟨rfl, fun j hj => by simp at hj⟩
    | cons g gs => cases h
  | cons x xs ih =>
    intro gs h
    cases gs with
    | nil => cases h
    | cons g gs =>
      simp only [okXs, Bool.and_eq_true] at h
      obtain ⟨h1, h2⟩ := ih h.2
      refine ⟨by simpa using h1, fun j hj => ?_⟩
      cases j with
      | zero => exact okX_VR ht h.1
      | succ j =>
        have := h2 j (by simpa using hj)
        simpa [gat, vat, List.getD_eq_getElem?_getD, Array.getD_eq_getD_getElem?] using this

/-- cells written one behind the other: the ghost list -/
theorem setL_length (cs : List GV) (o : Nat) (gs : List GV) : (setL cs o gs).length = cs.length := by
  induction gs generalizing cs o with
  | nil => rfl
  | cons g gs ih => simp [setL, ih]
theorem setL_gat (cs : List GV) (o : Nat) (gs : List GV) (j : Nat) (h : o + gs.length ≤ cs.length) : gat (setL cs o gs) j = if o ≤ j ∧ j < o + gs.length then gat gs (j - o) else gat cs j := by
  induction gs generalizing cs o with
  | nil => simp only [setL, List.length_nil]; rw [if_neg (by omega)]
  | cons g gs ih =>
    simp only [setL, List.length_cons] at h ⊢
    rw [ih (cs.set o g) (o + 1) (by simp; omega), gat_set _ _ _ _ (by omega)]
    by_cases h1 : j = o
    · subst h1; rw [if_neg (by omega), if_pos rfl, if_pos (by omega)]; simp [gat]
    · by_cases h2 : o ≤ j ∧ j < o + (gs.length + 1)
      · rw [if_pos (by omega), if_pos h2]
        have : j - o = (j - (o + 1)) + 1 := by omega
        rw [this]; simp [gat]
      · rw [if_neg (by omega), if_neg h1, if_neg h2]

theorem foldl_set_vat (us : List Value) (off k : Nat) (cells : Array Value) (h : off + k + us.length ≤ cells.size) (j : Nat) :
    let r := (us.zipIdx k).foldl (fun cs (c, i) => cs.setIfInBounds (off + i) c) cells
    r.size = cells.size ∧ vat r j = if off + k ≤ j ∧ j < off + k + us.length then us.getD (j - (off + k)) Go.undef else vat cells j := by
  induction us generalizing k cells with
  | nil => simp only [List.zipIdx_nil, List.foldl_nil, List.length_nil]; exact ⟨trivial, by rw [if_neg (by omega)]⟩
  | cons u us ih =>
    simp only [List.zipIdx_cons, List.foldl_cons, List.length_cons] at h ⊢
    have := ih (k + 1) (cells.setIfInBounds (off + k) u) (by simp; omega)
    simp only at this
    obtain ⟨h1, h2⟩ := this
    refine ⟨by rw [h1]; simp, ?_⟩
    rw [h2]
    by_cases e : j = off + k
    · subst e; rw [if_neg (by omega), if_pos (by omega)]
      have : off + k < cells.size := by omega
      simp [vat, Array.getD, this]
    · by_cases e2 : off + k ≤ j ∧ j < off + k + (us.length + 1)
      · rw [if_pos (by omega), if_pos e2]
        have : j - (off + k) = (j - (off + (k + 1))) + 1 := by omega
        rw [this]; simp
      · rw [if_neg (by omega), if_neg e2]
        by_cases hj : j < cells.size
        · simp [vat, Array.getD, hj, Ne.symm e]
        · simp [vat, Array.getD, hj]

/-- a struct's, an array's or a literal's cells, with its parts filled in -/
theorem fill_sound {K : Kr} {t : List GV} {a : Act} (ht : TR K t a.tmps) (place : Nat → Option (Nat × Nat)) : ∀ (parts : List (Nat × Operand)) (parts' : List (Nat × Nat × GX)), okParts place parts parts' = true →
    ∀ (cells : Array Value) (cs r : List GV), cells.size = cs.length → (∀ j, j < cs.length → VR K (gat cs j) (vat cells j)) → gfill t cs parts' = some r →
    ∃ out, Instr.fill place cells (parts.map fun (i, x) => (i, a.eval x)) = some out ∧ out.size = r.length ∧ ∀ j, j < r.length → VR K (gat r j) (vat out j) := by
  intro parts
  induction parts with
  | nil =>
    intro parts' h cells cs r hsz hr e
    cases parts' with
    | nil => simp only [gfill, Option.some.injEq] at e; subst e; exact ⟨cells, rfl, hsz, hr⟩
    | cons _ _ => cases h
  | cons p parts ih =>
    intro parts' h cells cs r hsz hr e
    obtain ⟨i, x⟩ := p
    cases parts' with
    | nil => cases h
    | cons q parts' =>
      obtain ⟨off, size, g⟩ := q
      simp only [okParts, Bool.and_eq_true, beq_iff_eq] at h
      obtain ⟨⟨h1, h2⟩, h3⟩ := h
      have hx := okX_VR ht h2
      simp only [gfill] at e
      cases hc : gcells (gev t g) with
      | none => rw [hc] at e; cases e
      | some vs =>
        rw [hc] at e; simp only at e
        by_cases hcond : vs.length = size ∧ off + size ≤ cs.length
        · rw [if_pos hcond] at e
          obtain ⟨hv1, hv2⟩ := cells_VR hx hc
          simp only [List.map_cons, Instr.fill, h1]
          rw [if_neg (by simp; omega)]
          have hf : ∀ j, _ := fun j => foldl_set_vat (a.eval x).cells.toList off 0 cells (by simp; omega) j
          have hz : (a.eval x).cells.zipIdx.foldl (fun cs (c, j) => cs.setIfInBounds (off + j) c) cells = ((a.eval x).cells.toList.zipIdx 0).foldl (fun cs (c, i) => cs.setIfInBounds (off + i) c) cells := by
            rw [← Array.foldl_toList]; simp
          rw [hz]
          refine ih parts' h3 _ (setL cs off vs) r (by rw [(hf 0).1, setL_length, hsz]) ?_ e
          intro j hj
          rw [setL_length] at hj
          rw [(hf j).2, setL_gat _ _ _ _ (by omega)]
          have hl : (a.eval x).cells.toList.length = vs.length := by simp [hv1]
          by_cases hin : off ≤ j ∧ j < off + vs.length
          · rw [if_pos hin, if_pos (by omega)]
            have := hv2 (j - off) (by omega)
            simpa [vat, Array.getD_eq_getD_getElem?, List.getD_eq_getElem?_getD] using this
          · rw [if_neg hin, if_neg (by omega)]
            exact hr j hj
        · rw [if_neg hcond] at e; cases e
end Go.Proofs.Ytdpibcniodhinaa.Gh
/- Each operation that leaves memory alone yields what the ghost operation says. -/
namespace Go.Proofs.Ytdpibcniodhinaa.Gh
open Go Go.RowKit
set_option linter.unusedVariables false
set_option linter.unusedSimpArgs false

theorem elemB_spec {P : Program} {T e : TypeId} (h : elemB P T = some e) : P.underlying T = some (.slice e) := by
  unfold elemB at h; split at h <;> simp_all
theorem arrB_spec {P : Program} {T e : TypeId} {n : Nat} (h : arrB P T = some (n, e)) : P.underlying T = some (.array n e) := by
  unfold arrB at h; split at h <;> simp_all
theorem sizeB_spec {P : Program} {T : TypeId} {s : Nat} (h : sizeB P T = some s) : ∃ i, P.info? T = some i ∧ i.size = s := by
  unfold sizeB at h; simpa using h
theorem bytesB_spec {P : Program} {T : TypeId} {s : Nat} (h : bytesB P T = some s) : ∃ i, P.info? T = some i ∧ i.bytes = s := by
  unfold bytesB at h; simpa using h
theorem zeroB_spec {P : Program} {T : TypeId} {z : Value} (h : zeroB P T = some z) : ∃ i, P.info? T = some i ∧ i.zero = some z := by
  unfold zeroB at h; simpa [Option.bind_eq_some_iff] using h
theorem fieldB_spec {P : Program} {T : TypeId} {f : Nat} {fd : Field} (h : fieldB P T f = some fd) : ∃ fs, P.underlying T = some (.struct fs) ∧ fs[f]? = some fd := by
  unfold fieldB at h; split at h
  · exact ⟨_, by assumption, h⟩
  · cases h
theorem run_underlying' {P : Program} {T : TypeId} {d : TypeDesc} (w : World) (h : P.underlying T = some d) : (underlying T).run P w = .ok d w := by
  simp [underlying, h]
theorem run_sizeOf' {P : Program} {T : TypeId} {s : Nat} (w : World) (h : sizeB P T = some s) : (sizeOf T).run P w = .ok s w := by
  obtain ⟨i, h1, h2⟩ := sizeB_spec h
  simp [sizeOf, typeInfo, h1, h2]
theorem run_zeroValue' {P : Program} {T : TypeId} {z : Value} (w : World) (h : zeroB P T = some z) : (zeroValue T).run P w = .ok z w := by
  obtain ⟨i, h1, h2⟩ := zeroB_spec h
  simp [zeroValue, typeInfo, h1, h2]
theorem shapeOf_agg {P : Program} {T : TypeId} {m : Nat} (h : shapeOf P T = some (some m)) (w : World) : (isAgg T).run P w = .ok true w ∧ (sizeOf T).run P w = .ok m w := by
  unfold shapeOf isAggB at h
  cases hu : P.underlying T with
  | none => rw [hu] at h; simp at h
  | some d =>
    cases d <;> rw [hu] at h <;> simp at h <;> (obtain ⟨i, h1, h2⟩ := h; simp [isAgg, underlying, hu, sizeOf, typeInfo, h1, h2])
theorem shapeOf_one {P : Program} {T : TypeId} (h : shapeOf P T = some none) (w : World) : (isAgg T).run P w = .ok false w := by
  unfold shapeOf isAggB at h
  cases hu : P.underlying T with
  | none => rw [hu] at h; simp at h
  | some d => cases d <;> rw [hu] at h <;> simp at h <;> simp [isAgg, underlying, hu]

def Pur (P : Program) (o : Oper) (a : Act) (K : Kr) (g : GV) : Prop := ∃ v, (∀ w, (execOp a.eval o).run P w = .ok (.value v) w) ∧ VR K g v

section
variable {P : Program} {K : Kr} {t : List GV} {a : Act} {g : GV}

theorem pur_mov (o : Oper) {x : Operand} {y : GX} (ho : o.op = .move x ∨ o.op = .assign x) (ht : TR K t a.tmps) (h : okX x y = true) (hg : gpure t (.mov y) = some g) : Pur P o a K g := by
  simp only [gpure, Option.some.injEq] at hg; subst hg
  refine ⟨a.eval x, fun w => ?_, okX_VR ht h⟩
  rcases ho with ho | ho <;> simp [execOp, ho]

theorem pur_pick (o : Oper) {c x y : Operand} {c' x' y' : GX} (ho : o.op = .pick c x y) (ht : TR K t a.tmps) (hc : okX c c' = true) (hx : okX x x' = true) (hy : okX y y' = true) (hg : gpure t (.pick c' x' y') = some g) : Pur P o a K g := by
  have h1 := okX_VR ht hc
  simp only [gpure] at hg
  split at hg
  · rename_i e; rw [e] at h1; simp only [Option.some.injEq] at hg; subst hg
    exact ⟨a.eval x, fun w => by simp [execOp, ho, h1.bool_inv, asBool], okX_VR ht hx⟩
  · rename_i e; rw [e] at h1; simp only [Option.some.injEq] at hg; subst hg
    exact ⟨a.eval y, fun w => by simp [execOp, ho, h1.bool_inv, asBool], okX_VR ht hy⟩
  · cases hg

theorem pur_bin (o : Oper) {op : BinOp} {T T' : TypeId} {x y : Operand} {x' y' : GX} (ho : o.op = .binOp op T x y T') (ht : TR K t a.tmps) (hx : okX x x' = true) (hy : okX y y' = true) (h1 : op ≠ .shl) (h2 : op ≠ .shr) (hg : gpure t (.bin op x' y') = some g) : Pur P o a K g := by
  have e1 := okX_VR ht hx
  have e2 := okX_VR ht hy
  simp only [gpure] at hg
  unfold gbin at hg
  split at hg
  · rename_i k m k' n g1 g2
    rw [g1] at e1; rw [g2] at e2
    have e1 := e1.int_inv
    have e2 := e2.int_inv
    split at hg
    · rename_i hk; subst hk
      cases op <;> simp only [] at hg <;> first
        | (exfalso; exact h1 rfl)
        | (exfalso; exact h2 rfl)
        | (split at hg
           · cases hg
           · rename_i hz
             simp only [Option.some.injEq] at hg; subst hg
             refine ⟨_, fun w => ?_, .int _ _⟩
             simp [execOp, ho, eqGuard, e1, e2, binOp, Op.intDiv, hz])
        | (simp only [Option.some.injEq] at hg; subst hg
           first
             | (refine ⟨_, fun w => ?_, .int _ _⟩; simp [execOp, ho, eqGuard, e1, e2, binOp, Op.intArith, Op.intBits]; done)
             | (refine ⟨_, fun w => ?_, .bool _⟩; simp [execOp, ho, eqGuard, e1, e2, binOp, Op.intCmp]; done))
        | (cases hg)
    · cases hg
  · cases hg

theorem pur_un (o : Oper) {op : UnOp} {T : TypeId} {x : Operand} {x' : GX} (ho : o.op = .unOp op T x) (ht : TR K t a.tmps) (hx : okX x x' = true) (hg : gpure t (.un op x') = some g) : Pur P o a K g := by
  have e1 := okX_VR ht hx
  simp only [gpure] at hg
  split at hg
  · rename_i g1; rw [g1] at e1; simp only [Option.some.injEq] at hg; subst hg
    exact ⟨_, fun w => by simp [execOp, ho, e1.bool_inv, Op.unary], .bool _⟩
  · rename_i g1; rw [g1] at e1; simp only [Option.some.injEq] at hg; subst hg
    exact ⟨_, fun w => by simp [execOp, ho, e1.int_inv, Op.unary, Op.intArith], .int _ _⟩
  · cases hg

theorem pur_field (o : Oper) {T : TypeId} {f off : Nat} {n : Option Nat} {x : Operand} {x' : GX} (ho : o.op = .field T x f) (ht : TR K t a.tmps) {fd : Field} (hf : fieldB P T f = some fd) (hoff : fd.offset = off) (hsh : shapeOf P fd.type = some n) (hx : okX x x' = true) (hg : gpure t (.field off n x') = some g) : Pur P o a K g := by
  have e1 := okX_VR ht hx
  obtain ⟨fs, hu, hfs⟩ := fieldB_spec hf
  simp only [gpure] at hg
  split at hg
  · rename_i cs g1
    rw [g1] at e1
    obtain ⟨us, hv, hsz, hr⟩ := e1.agg_inv
    split at hg
    · split at hg
      · rename_i hlt
        simp only [Option.some.injEq] at hg; subst hg
        refine ⟨vat us off, fun w => ?_, hr off hlt⟩
        have : off < us.size := by omega
        simp [execOp, ho, Instr.field, run_underlying' _ hu, hfs, asAgg, hv, hoff, part, shapeOf_one hsh, vat, Array.getD, this, Array.getElem?_eq_getElem this]
      · cases hg
    · rename_i m
      split at hg
      · rename_i hle
        simp only [Option.some.injEq] at hg; subst hg
        refine ⟨.agg (us.extract off (off + m)), fun w => ?_, .agg _ _ (by simp; omega) fun j hj => ?_⟩
        · simp [execOp, ho, Instr.field, run_underlying' _ hu, hfs, asAgg, hv, hoff, part, (shapeOf_agg hsh _).1, (shapeOf_agg hsh _).2]
        · have hj' : j < m := by simp at hj; omega
          have := hr (off + j) (by omega)
          have hlt : off + j < us.size := by omega
          have hmin : j < min (off + m) us.size - off := by omega
          simp only [gat, vat, List.getD_eq_getElem?_getD, Array.getD_eq_getD_getElem?, List.getElem?_take, List.getElem?_drop, Array.getElem?_extract] at this ⊢
          simpa [hj', hlt, hmin] using this
      · cases hg
  · cases hg

theorem pur_fieldAddr (o : Oper) {T : TypeId} {f off : Nat} {x : Operand} {x' : GX} (ho : o.op = .fieldAddr T x f) (ht : TR K t a.tmps) {fd : Field} (hf : fieldB P T f = some fd) (hoff : fd.offset = off) {s : Nat} (hs : sizeB P fd.type = some s) (hs0 : s ≠ 0) (hx : okX x x' = true) (hg : gpure t (.fieldAddr off x') = some g) : Pur P o a K g := by
  have e1 := okX_VR ht hx
  obtain ⟨fs, hu, hfs⟩ := fieldB_spec hf
  simp only [gpure] at hg
  split at hg
  · rename_i b p g1
    rw [g1] at e1; simp only [Option.some.injEq] at hg; subst hg
    obtain ⟨B, hv, hr⟩ := e1.ptr_inv
    exact ⟨_, fun w => by simp [execOp, ho, Instr.fieldAt, run_underlying' _ hu, hfs, Instr.sureAddr, hv, fieldPlace, run_sizeOf' _ hs, hs0, add_plain, hoff], hr _⟩
  · rename_i cs p g1
    rw [g1] at e1; simp only [Option.some.injEq] at hg; subst hg
    obtain ⟨B, q, hv, hr⟩ := e1.pp_inv
    exact ⟨_, fun w => by simp [execOp, ho, Instr.fieldAt, run_underlying' _ hu, hfs, Instr.sureAddr, hv, fieldPlace, run_sizeOf' _ hs, hs0, add_plain, hoff, Nat.add_assoc], hr _⟩
  · cases hg

theorem pur_indexAddr (o : Oper) {T e : TypeId} {size : Nat} {x i : Operand} {x' i' : GX} (ho : o.op = .indexAddr T x i) (ht : TR K t a.tmps) (he : elemB P T = some e) (hs : sizeB P e = some size) (hx : okX x x' = true) (hi : okX i i' = true) (hg : gpure t (.indexAddr size x' i') = some g) : Pur P o a K g := by
  have e1 := okX_VR ht hx
  have e2 := okX_VR ht hi
  have hu := elemB_spec he
  simp only [gpure] at hg
  split at hg
  · rename_i b p n k j g1 g2
    rw [g1] at e1; rw [g2] at e2
    split at hg
    · rename_i hc
      simp only [Option.some.injEq] at hg; subst hg
      obtain ⟨B, c, hv, hr⟩ := e1.own_at (by omega)
      exact ⟨_, fun w => by simp [execOp, ho, Instr.indexAt, e2.int_inv, asIntOf, run_underlying' _ hu, hv, hc.1, hc.2, run_sizeOf' _ hs, add_plain], hr _⟩
    · cases hg
  · rename_i n cs k j g1 g2
    rw [g1] at e1; rw [g2] at e2
    split at hg
    · rename_i hc
      simp only [Option.some.injEq] at hg; subst hg
      obtain ⟨B, q, c, hv, hr⟩ := e1.sl_at (by omega)
      exact ⟨_, fun w => by simp [execOp, ho, Instr.indexAt, e2.int_inv, asIntOf, run_underlying' _ hu, hv, hc.1, hc.2.1, run_sizeOf' _ hs, add_plain], hr _⟩
    · cases hg
  · rename_i cs k j g1 g2
    rw [g1] at e1; rw [g2] at e2
    split at hg
    · rename_i hc
      simp only [Option.some.injEq] at hg; subst hg
      obtain ⟨B, q, hv, hr⟩ := e1.lit_at
      have hs1 := hc.2.2
      exact ⟨_, fun w => by simp [execOp, ho, Instr.indexAt, e2.int_inv, asIntOf, run_underlying' _ hu, hv, hc.1, hc.2.1, run_sizeOf' _ hs, add_plain, hs1], hr _⟩
    · cases hg
  · cases hg

theorem pur_arrAddr (o : Oper) {T e : TypeId} {len size : Nat} {x i : Operand} {x' i' : GX} (ho : o.op = .indexAddr T x i) (ht : TR K t a.tmps) (he : arrB P T = some (len, e)) (hs : sizeB P e = some size) (hx : okX x x' = true) (hi : okX i i' = true) (hg : gpure t (.arrAddr len size x' i') = some g) : Pur P o a K g := by
  have e1 := okX_VR ht hx
  have e2 := okX_VR ht hi
  have hu := arrB_spec he
  simp only [gpure] at hg
  split at hg
  · rename_i b p k j g1 g2
    rw [g1] at e1; rw [g2] at e2
    split at hg
    · rename_i hc
      simp only [Option.some.injEq] at hg; subst hg
      obtain ⟨B, hv, hr⟩ := e1.ptr_inv
      exact ⟨_, fun w => by simp [execOp, ho, Instr.indexAt, e2.int_inv, asIntOf, run_underlying' _ hu, hv, hc.1, hc.2, run_sizeOf' _ hs, add_plain, Instr.sureAddr], hr _⟩
    · cases hg
  · rename_i cs p k j g1 g2
    rw [g1] at e1; rw [g2] at e2
    split at hg
    · rename_i hc
      simp only [Option.some.injEq] at hg; subst hg
      obtain ⟨B, q, hv, hr⟩ := e1.pp_inv
      exact ⟨_, fun w => by simp [execOp, ho, Instr.indexAt, e2.int_inv, asIntOf, run_underlying' _ hu, hv, hc.1, hc.2, run_sizeOf' _ hs, add_plain, Instr.sureAddr, Nat.add_assoc], hr _⟩
    · cases hg
  · cases hg

theorem pur_nilCheck (o : Oper) {x : Operand} {x' : GX} (ho : o.op = .nilCheck x) (ht : TR K t a.tmps) (hx : okX x x' = true) (hg : gpure t (.nilCheck x') = some g) : Pur P o a K g := by
  have e1 := okX_VR ht hx
  simp only [gpure] at hg
  split at hg
  · rename_i g1; rw [g1] at e1; simp only [Option.some.injEq] at hg; subst hg
    obtain ⟨B, hv, hr⟩ := e1.ptr_inv
    exact ⟨_, fun w => by simp [execOp, ho, hv]; rfl, by rw [hv] at e1; exact e1⟩
  · rename_i g1; rw [g1] at e1; simp only [Option.some.injEq] at hg; subst hg
    obtain ⟨B, q, hv, hr⟩ := e1.pp_inv
    exact ⟨_, fun w => by simp [execOp, ho, hv]; rfl, by rw [hv] at e1; exact e1⟩
  · cases hg

theorem pur_extract (o : Oper) {x : Operand} {i : Nat} {x' : GX} (ho : o.op = .extract x i) (ht : TR K t a.tmps) (hx : okX x x' = true) (hg : gpure t (.extract i x') = some g) : Pur P o a K g := by
  have e1 := okX_VR ht hx
  simp only [gpure] at hg
  split at hg
  · rename_i vs g1; rw [g1] at e1
    split at hg
    · rename_i hlt
      simp only [Option.some.injEq] at hg; subst hg
      obtain ⟨us, hv, hsz, hr⟩ := e1.tup_inv
      have : i < us.size := by omega
      exact ⟨vat us i, fun w => by simp [execOp, ho, hv, Instr.extract, vat, Array.getD, this, Array.getElem?_eq_getElem this], hr i hlt⟩
    · cases hg
  · cases hg

theorem pur_len (o : Oper) {x : Operand} {T : TypeId} {x' : GX} (ho : o.op = .call { callee := .builtin .len, args := #[x], argTypes := #[T] }) (ht : TR K t a.tmps) {e : TypeId} (he : elemB P T = some e) (hx : okX x x' = true) (hg : gpure t (.len x') = some g) : Pur P o a K g := by
  have e1 := okX_VR ht hx
  have hu := elemB_spec he
  simp only [gpure] at hg
  have key : ∀ (A : Option Addr) (n c : Nat), a.eval x = .slice A n c → ∀ w, (execOp a.eval o).run P w = .ok (.value (.int .i64 n)) w := by
    intro A n c hv w
    simp [execOp, ho, resolve, invoke, builtin, Builtin.len_, run_underlying' _ hu, hv, goInt]
  split at hg
  · rename_i g1; rw [g1] at e1; simp only [Option.some.injEq] at hg; subst hg
    exact ⟨_, key _ _ _ e1.nil_inv, .int _ _⟩
  · rename_i g1; rw [g1] at e1; simp only [Option.some.injEq] at hg; subst hg
    obtain ⟨ad, hv⟩ := e1.emp_inv
    exact ⟨_, key _ _ _ hv, .int _ _⟩
  · rename_i g1; rw [g1] at e1; simp only [Option.some.injEq] at hg; subst hg
    obtain ⟨ad, hv⟩ := e1.lit_inv
    exact ⟨_, key _ _ _ hv, .int _ _⟩
  · rename_i g1; rw [g1] at e1; simp only [Option.some.injEq] at hg; subst hg
    obtain ⟨A, c, hv, _⟩ := e1.sl_inv
    exact ⟨_, key _ _ _ hv, .int _ _⟩
  · rename_i g1; rw [g1] at e1; simp only [Option.some.injEq] at hg; subst hg
    obtain ⟨A, c, hv, _⟩ := e1.own_inv
    exact ⟨_, key _ _ _ hv, .int _ _⟩
  · cases hg

theorem pur_max (o : Oper) {x y : Operand} {x' y' : GX} {ts : Array TypeId} (ho : o.op = .call { callee := .builtin .max, args := #[x, y], argTypes := ts }) (ht : TR K t a.tmps) (hx : okX x x' = true) (hy : okX y y' = true) (hg : gpure t (.mm true x' y') = some g) : Pur P o a K g := by
  have e1 := okX_VR ht hx
  have e2 := okX_VR ht hy
  simp only [gpure] at hg
  split at hg
  · rename_i k m k' n g1 g2
    rw [g1] at e1; rw [g2] at e2; simp only [Option.some.injEq] at hg; subst hg
    exact ⟨_, fun w => by simp [execOp, ho, resolve, invoke, builtin, Builtin.max_, Builtin.max2, e1.int_inv, e2.int_inv], .int _ _⟩
  · cases hg
theorem pur_min (o : Oper) {x y : Operand} {x' y' : GX} {ts : Array TypeId} (ho : o.op = .call { callee := .builtin .min, args := #[x, y], argTypes := ts }) (ht : TR K t a.tmps) (hx : okX x x' = true) (hy : okX y y' = true) (hg : gpure t (.mm false x' y') = some g) : Pur P o a K g := by
  have e1 := okX_VR ht hx
  have e2 := okX_VR ht hy
  simp only [gpure] at hg
  split at hg
  · rename_i k m k' n g1 g2
    rw [g1] at e1; rw [g2] at e2; simp only [Option.some.injEq] at hg; subst hg
    exact ⟨_, fun w => by simp [execOp, ho, resolve, invoke, builtin, Builtin.min_, Builtin.min2, e1.int_inv, e2.int_inv], .int _ _⟩
  · cases hg

theorem pur_conv (o : Oper) {src dst : TypeId} {k k0 : IntKind} {x : Operand} {x' : GX} (ho : o.op = .convert src dst x) (ht : TR K t a.tmps) (h0 : P.underlying src = some (.int k0)) (h1 : P.underlying dst = some (.int k)) (hx : okX x x' = true) (hg : gpure t (.conv k x') = some g) : Pur P o a K g := by
  have e1 := okX_VR ht hx
  simp only [gpure] at hg
  split at hg
  · rename_i g1; rw [g1] at e1; simp only [Option.some.injEq] at hg; subst hg
    exact ⟨_, fun w => by simp [execOp, ho, convert, run_underlying' _ h0, run_underlying' _ h1, e1.int_inv, Conv.intToInt], .int _ _⟩
  · cases hg

theorem pur_mkfn (o : Oper) {f : FuncId} {caps : Array Operand} {caps' : List GX} (ho : o.op = .makeFunc (.func f) #[] caps) (ht : TR K t a.tmps) (hx : okXs caps.toList caps' = true) (hg : gpure t (.mkfn f caps') = some g) : Pur P o a K g := by
  simp only [gpure, Option.some.injEq] at hg; subst hg
  obtain ⟨h1, h2⟩ := okXs_VR ht hx
  refine ⟨.func (.func f) #[] (caps.map a.eval), fun w => by simp [execOp, ho, Instr.makeFunc], .fn _ _ _ (by simpa using h1) fun j hj => ?_⟩
  have := h2 j hj
  simpa using this

theorem pur_isnil (o : Oper) {T T' e : TypeId} {neg : Bool} {x : Operand} {x' : GX} (ho : o.op = .binOp (if neg then .neq else .eql) T x (.const (.slice none 0 0)) T') (ht : TR K t a.tmps) (he : elemB P T = some e) (hx : okX x x' = true) (hg : gpure t (.isnil neg x') = some g) : Pur P o a K g := by
  have e1 := okX_VR ht hx
  have hu := elemB_spec he
  have hc : a.eval (.const (.slice none 0 0)) = .slice none 0 0 := rfl
  simp only [gpure] at hg
  have key : ∀ (A : Option Addr) (n c : Nat), a.eval x = .slice A n c → ∀ w, (execOp a.eval o).run P w = .ok (.value (.bool (if neg then A.isSome else A.isNone))) w := by
    intro A n c hv w
    have h1 := Lib.run_eql_slice_nil (P := P) w T e A n c 0 0 hu
    have h2 := run_neq_slice_nil_any (P := P) w T e A n c 0 0 hu
    cases neg
    · simp only [Bool.false_eq_true, if_false] at ho ⊢
      simp only [execOp, ho, hc, hv, eqGuard]
      simp [h1]
    · simp only [if_true] at ho ⊢
      simp only [execOp, ho, hc, hv, eqGuard]
      simp [h2]
  split at hg
  · rename_i g1; rw [g1] at e1; simp only [Option.some.injEq] at hg; subst hg
    refine ⟨_, key _ _ _ e1.nil_inv, ?_⟩
    cases neg <;> exact .bool _
  · rename_i b p n g1; rw [g1] at e1
    split at hg
    · rename_i hn
      simp only [Option.some.injEq] at hg; subst hg
      obtain ⟨A, c, hv, _, hA⟩ := e1.own_inv
      refine ⟨_, key _ _ _ hv, ?_⟩
      have hA := hA hn
      cases A with
      | none => cases hA
      | some ad => cases neg <;> exact .bool _
    · cases hg
  · rename_i g1; rw [g1] at e1; simp only [Option.some.injEq] at hg; subst hg
    obtain ⟨ad, hv⟩ := e1.emp_inv
    refine ⟨_, key _ _ _ hv, ?_⟩
    cases neg <;> exact .bool _
  · rename_i g1; rw [g1] at e1; simp only [Option.some.injEq] at hg; subst hg
    obtain ⟨ad, hv⟩ := e1.lit_inv
    refine ⟨_, key _ _ _ hv, ?_⟩
    cases neg <;> exact .bool _
  · cases hg
end
end Go.Proofs.Ytdpibcniodhinaa.Gh
/- Slices of slices, struct values. -/
namespace Go.Proofs.Ytdpibcniodhinaa.Gh
open Go Go.RowKit
set_option linter.unusedVariables false
set_option linter.unusedSimpArgs false

def IsN (v : Value) (m : Nat) : Prop := ∃ k i, v = .int k i ∧ 0 ≤ i ∧ i.toNat = m
theorem run_sliceBound {P : Program} {v : Value} {m y : Nat} (h : IsN v m) (hy : m ≤ y) (code : BoundsCode) (w : World) : (Instr.sliceBound v y code).run P w = .ok m w := by
  obtain ⟨k, i, rfl, h0, h1⟩ := h
  have : i ≤ y := by omega
  simp [Instr.sliceBound, asIntOf, h0, this, h1]
theorem run_bounds {P : Program} (len cap : Nat) (lo hi mx : Option Value) (l h m : Nat)
    (hm : match mx with | none => m = cap | some v => IsN v m ∧ m ≤ cap)
    (hh : match hi with | none => mx = none ∧ h = len | some v => IsN v h ∧ h ≤ m)
    (hl : match lo with | none => l = 0 | some v => IsN v l ∧ l ≤ h) (w : World) :
    (Instr.sliceBounds true len cap lo hi mx).run P w = .ok (l, h, m) w := by
  cases mx with
  | none =>
    subst hm
    cases hi with
    | none =>
      obtain ⟨_, rfl⟩ := hh
      cases lo with
      | none => subst hl; simp [Instr.sliceBounds]
      | some v => simp [Instr.sliceBounds, run_sliceBound hl.1 hl.2]
    | some u =>
      cases lo with
      | none => subst hl; simp [Instr.sliceBounds, run_sliceBound hh.1 hh.2]
      | some v => simp [Instr.sliceBounds, run_sliceBound hh.1 hh.2, run_sliceBound hl.1 hl.2]
  | some x =>
    cases hi with
    | none => obtain ⟨e, _⟩ := hh; cases e
    | some u =>
      cases lo with
      | none => subst hl; simp [Instr.sliceBounds, run_sliceBound hm.1 hm.2, run_sliceBound hh.1 hh.2]
      | some v => simp [Instr.sliceBounds, run_sliceBound hm.1 hm.2, run_sliceBound hh.1 hh.2, run_sliceBound hl.1 hl.2]

section
variable {P : Program} {K : Kr} {t : List GV} {a : Act} {g : GV}
theorem gbound_IsN (ht : TR K t a.tmps) {x : Operand} {gx : GX} (hx : okX x gx = true) {d m : Nat} (h : gbound d t (some gx) = some m) : IsN (a.eval x) m := by
  have e := okX_VR ht hx
  simp only [gbound] at h
  split at h
  · rename_i k i g1
    rw [g1] at e
    split at h
    · simp only [Option.some.injEq] at h; exact ⟨k, i, e.int_inv, by assumption, h⟩
    · cases h
  · cases h

/-- the run of a slice expression on a slice of n elements of one cell -/
theorem run_slice (o : Oper) {T e : TypeId} {x : Operand} {lo hi mx : Option Operand} {lo' hi' mx' : Option GX} (ho : o.op = .slice T x lo hi mx) (ht : TR K t a.tmps) (he : elemB P T = some e) (hs : sizeB P e = some 1)
    (h1 : okO lo lo' = true) (h2 : okO hi hi' = true) (h3 : okO mx mx' = true) (h4 : (mx.isNone || hi.isSome) = true) {A : Option Addr} {n c l h m : Nat} (hv : a.eval x = .slice A n c) (hn : n ≤ c)
    (hl : gbound 0 t lo' = some l) (hh : gbound n t hi' = some h) (hm : gbound n t mx' = some m) (c1 : l ≤ h) (c2 : h ≤ m) (c3 : m ≤ n) :
    ∃ m', m' ≤ c ∧ h ≤ m' ∧ ∀ w, (execOp a.eval o).run P w = .ok (.value (.slice (if m' = l then A else A.map fun ad => ad.add l) (h - l) (m' - l))) w := by
  have hu := elemB_spec he
  refine ⟨if mx.isNone then c else m, by split <;> omega, by split <;> omega, fun w => ?_⟩
  have hb := run_bounds (P := P) n c (lo.map a.eval) (hi.map a.eval) (mx.map a.eval) l h (if mx.isNone then c else m) ?_ ?_ ?_ w
  · simp [execOp, ho, Instr.sliceAt, run_underlying' _ hu, Instr.slice, hv, hb, run_sizeOf' _ hs]
  · cases mx with
    | none => simp
    | some u =>
      cases mx' with
      | none => cases h3
      | some u' => exact ⟨gbound_IsN ht h3 hm, by simp; omega⟩
  · cases hi with
    | none =>
      cases hi' with
      | some _ => cases h2
      | none =>
        simp only [gbound, Option.some.injEq] at hh
        cases mx with
        | some _ => simp at h4
        | none => exact ⟨rfl, hh.symm⟩
    | some u =>
      cases hi' with
      | none => cases h2
      | some u' => exact ⟨gbound_IsN ht h2 hh, by split <;> omega⟩
  · cases lo with
    | none =>
      cases lo' with
      | some _ => cases h1
      | none => simp only [gbound, Option.some.injEq] at hl; exact hl.symm
    | some u =>
      cases lo' with
      | none => cases h1
      | some u' => exact ⟨gbound_IsN ht h1 hl, c1⟩

theorem pur_slice (o : Oper) {T e : TypeId} {x : Operand} {x' : GX} {lo hi mx : Option Operand} {lo' hi' mx' : Option GX} (ho : o.op = .slice T x lo hi mx) (ht : TR K t a.tmps) (he : elemB P T = some e) (hs : sizeB P e = some 1)
    (hx : okX x x' = true) (h1 : okO lo lo' = true) (h2 : okO hi hi' = true) (h3 : okO mx mx' = true) (h4 : (mx.isNone || hi.isSome) = true) (hg : gpure t (.slice x' lo' hi' mx') = some g) : Pur P o a K g := by
  have e1 := okX_VR ht hx
  simp only [gpure] at hg
  split at hg
  · rename_i g1; rw [g1] at e1
    split at hg
    · rename_i hc
      simp only [Option.some.injEq] at hg; subst hg
      obtain ⟨m', b1, b2, hr⟩ := run_slice o ho ht he hs h1 h2 h3 h4 e1.nil_inv (Nat.le_refl _) hc.1 hc.2.1 hc.2.2 (by omega) (by omega) (by omega)
      have : m' = 0 := by omega
      subst this
      exact ⟨_, hr, .nil⟩
    · cases hg
  · rename_i n cs g1; rw [g1] at e1
    split at hg
    · rename_i l h m hl hh hm
      split at hg
      · rename_i hc
        simp only [Option.some.injEq] at hg; subst hg
        obtain ⟨c1, c2, c3, c4⟩ := hc
        obtain ⟨A, c, hv, hn⟩ := e1.sl_inv
        obtain ⟨m', b1, b2, hr⟩ := run_slice o ho ht he hs h1 h2 h3 h4 hv hn hl hh hm c1 c2 c3
        refine ⟨_, hr, ?_⟩
        rcases Nat.eq_zero_or_pos (h - l) with h0 | h0
        · rw [h0]; simp only [List.take_zero]; exact .sl0 0 _ _ (Nat.zero_le _)
        · rw [hv] at e1
          have hne : ¬ m' = l := by omega
          rw [if_neg hne]
          cases e1 with
          | sl0 _ _ _ _ => simp at c4; omega
          | sl _ _ B p _ us q1 q2 q3 q4 =>
            simp only [Option.map_some, add_plain]
            refine .sl _ _ _ _ _ (fun j => us (l + j)) (by omega) q2 ?_ ?_
            · intro j hj
              have hj' : j < h - l := by simp at hj; omega
              have := q3 (l + j) (by omega)
              rwa [← Nat.add_assoc] at this
            · intro j hj
              have hj' : j < h - l := by simp at hj; omega
              have : gat ((cs.drop l).take (h - l)) j = gat cs (l + j) := by
                simp [gat, List.getD_eq_getElem?_getD, hj', List.getElem?_drop]
              rw [this]; exact q4 (l + j) (by omega)
      · cases hg
    · cases hg
  · rename_i b p n g1; rw [g1] at e1
    split at hg
    · rename_i l h m hl hh hm
      split at hg
      · rename_i hc
        simp only [Option.some.injEq] at hg; subst hg
        obtain ⟨c1, c2, c3⟩ := hc
        obtain ⟨A, c, hv, hn, _⟩ := e1.own_inv
        obtain ⟨m', b1, b2, hr⟩ := run_slice o ho ht he hs h1 h2 h3 h4 hv hn hl hh hm c1 c2 c3
        refine ⟨_, hr, ?_⟩
        by_cases hml : m' = l
        · have e1' : h - l = 0 := by omega
          have e2' : m' - l = 0 := by omega
          rw [e1', e2']; exact .own0 _ _ _ e1.own_sc
        · rw [if_neg hml]
          rw [hv] at e1
          cases e1 with
          | own _ _ _ _ q1 q2 q3 => simp only [Option.map_some, add_plain]; exact .own _ _ _ _ q1 (by omega) (by omega)
          | own0 _ _ _ _ => exfalso; omega
          | owns _ _ _ B _ q1 q2 q3 => simp only [Option.map_some, add_plain]; exact .owns _ _ _ B _ q1 q2 (by omega)
      · cases hg
    · cases hg
  · cases hg

theorem run_mapM_pure {P : Program} {α β : Type} (f : α → Sem β) (r : α → β) (w : World) : ∀ (xs : List α), (∀ x, x ∈ xs → (f x).run P w = .ok (r x) w) → (xs.mapM f).run P w = .ok (xs.map r) w := by
  intro xs
  induction xs with
  | nil => intro _; simp
  | cons x xs ih =>
    intro h
    rw [List.mapM_cons]
    simp [h x (by simp), ih fun y hy => h y (by simp [hy])]

theorem pur_build (o : Oper) {T : TypeId} {parts : Array (Nat × Operand)} {zero : List GV} {parts' : List (Nat × Nat × GX)} (ho : o.op = .build T parts) (ht : TR K t a.tmps) {fs : Array Field} {z : Value} (hu : P.underlying T = some (.struct fs)) (hz : zeroB P T = some z)
    (hc : sameCs z.cells zero = true) (hp : okParts (fun i => (fs[i]?).bind fun f => (sizeB P f.type).map fun s => (f.offset, s)) parts.toList parts' = true) (hf : (fs.all fun f => (sizeB P f.type).isSome) = true) (hg : gpure t (.build zero parts') = some g) : Pur P o a K g := by
  simp only [gpure, Option.map_eq_some_iff] at hg
  obtain ⟨r, hr, rfl⟩ := hg
  obtain ⟨s1, s2⟩ := sameCs_VR K hc
  obtain ⟨out, f1, f2, f3⟩ := fill_sound ht _ _ _ hp z.cells zero r s1 s2 hr
  refine ⟨.agg out, fun w => ?_, .agg _ _ f2 f3⟩
  let rr : Field → Nat × Nat := fun f => (f.offset, (sizeB P f.type).getD 0)
  have hsz : ∀ f, f ∈ fs.toList → sizeB P f.type = some ((sizeB P f.type).getD 0) := by
    intro f hmem
    have := Array.all_eq_true_iff_forall_mem.1 hf f (by simpa using hmem)
    cases h : sizeB P f.type with
    | none => rw [h] at this; cases this
    | some s => rfl
  have hm : (fs.mapM (m := Sem) fun f => do pure (f.offset, ← sizeOf f.type)).run P w = .ok (fs.map rr) w := by
    have h1 : (fs.toList.mapM (m := Sem) fun f : Field => Prod.mk f.offset <$> sizeOf f.type).run P w = .ok (fs.toList.map rr) w := by
      apply run_mapM_pure
      intro f hf'
      simp [run_sizeOf' _ (hsz f hf'), rr]
    rw [Array.mapM_eq_mapM_toList]
    simp only [bind_pure_comp, Sem.run_map]
    rw [h1]
    simp only [Result.andThen_ok]
    congr 1
    apply Array.ext'
    simp
  have hplace : (fun i : Nat => (fs.map rr)[i]?) = (fun i : Nat => (fs[i]?).bind fun f : Field => (sizeB P f.type).map fun s => (f.offset, s)) := by
    funext i
    rw [Array.getElem?_map]
    cases h : fs[i]? with
    | none => rfl
    | some f =>
      have hmem : f ∈ fs.toList := by
        have := Array.mem_of_getElem? h
        simpa using this
      obtain ⟨s, hs⟩ : ∃ s, sizeB P f.type = some s := ⟨_, hsz f hmem⟩
      simp only [Option.bind_some, Option.map_some, rr, hs, Option.getD_some]
  have f1' : Instr.fill (fun i : Nat => (fs.map rr)[i]?) z.cells (parts.toList.map fun (i, x) => (i, a.eval x)) = some out := by rw [hplace]; exact f1
  simp only [execOp, ho, Instr.build]
  simp only [bind_pure_comp, Sem.run_map, Sem.run_bind, run_zeroValue' _ hz, run_underlying' _ hu, Result.andThen_ok]
  simp only [bind_pure_comp] at hm
  simp [hm]
  have f2' : Instr.fill (fun x : Nat => Option.map rr fs[x]?) z.cells (parts.toList.map fun x => (x.fst, a.eval x.snd)) = some out := by
    have e : (fun x : Nat => Option.map rr fs[x]?) = fun i : Nat => (fs.map rr)[i]? := funext fun i => (Array.getElem?_map ..).symm
    rw [e]; exact f1'
  rw [f2']
  rfl
end
end Go.Proofs.Ytdpibcniodhinaa.Gh
/- More steps on ghost memory: many cells written, a block under another name, a new block that is only read. -/
namespace Go.Proofs.Ytdpibcniodhinaa.Gh
open Go Go.RowKit
set_option linter.unusedVariables false
set_option linter.unusedSimpArgs false

theorem setCells_heap (b : Nat) : ∀ (vs : List Value) (o : Nat) (w : World), (w.setCells b o vs).os = w.os ∧ (w.setCells b o vs).tape = w.tape ∧ (w.setCells b o vs).output = w.output ∧ (w.setCells b o vs).heap.size = w.heap.size ∧
    (∀ B, B ≠ b → (w.setCells b o vs).heap[B]? = w.heap[B]?) ∧
    ∀ row T fr, w.heap[b]? = some (.cells row T fr) → o + vs.length ≤ row.size → ∃ row', (w.setCells b o vs).heap[b]? = some (.cells row' T fr) ∧ row'.size = row.size ∧ ∀ j, vat row' j = if o ≤ j ∧ j < o + vs.length then vs.getD (j - o) Go.undef else vat row j := by
  intro vs
  induction vs with
  | nil =>
    intro o w
    refine ⟨rfl, rfl, rfl, rfl, fun _ _ => rfl, fun row T fr h _ => ⟨row, h, rfl, fun j => ?_⟩⟩
    rw [if_neg (by simp only [List.length_nil]; omega)]
  | cons v vs ih =>
    intro o w
    obtain ⟨h1, h2, h3, h4, h5, h6⟩ := ih (o + 1) (w.setCell ⟨b, o, none⟩ v)
    refine ⟨h1, h2, h3, by rw [World.setCells, h4]; simp, fun B hB => ?_, fun row T fr h hl => ?_⟩
    · rw [World.setCells, h5 B hB]; exact Below.heap_setCell _ _ _ _ hB
    · simp only [List.length_cons] at hl
      have hset : (w.setCell ⟨b, o, none⟩ v).heap[b]? = some (.cells (row.setIfInBounds o v) T fr) := by
        simp only [World.setCell, Array.getElem?_modify, h]; simp
      obtain ⟨row', g1, g2, g3⟩ := h6 _ T fr hset (by simp; omega)
      refine ⟨row', g1, by simpa using g2, fun j => ?_⟩
      rw [g3 j]
      simp only [List.length_cons]
      by_cases e : j = o
      · subst e; rw [if_neg (by omega), if_pos (by omega)]
        have : j < row.size := by omega
        simp [vat, Array.getD, this]
      · by_cases e2 : o ≤ j ∧ j < o + (vs.length + 1)
        · rw [if_pos (by omega), if_pos e2]
          have : j - o = (j - (o + 1)) + 1 := by omega
          rw [this]; simp
        · rw [if_neg (by omega), if_neg e2]
          by_cases hj : j < row.size
          · simp [vat, Array.getD, hj, Ne.symm e]
          · simp [vat, Array.getD, hj]

/-- an own block is written, and nothing else -/
theorem write_step {K : Kr} (hs : Sat K) {b : Nat} {cs : List GV} (e : K.H b = some cs) (hz : 0 < K.sz b) (cs' : List GV) {w' : World}
    (h1 : w'.os = K.w.os) (h2 : w'.tape = K.w.tape) (h3 : w'.output = K.w.output) (h4 : w'.heap.size = K.w.heap.size) (h5 : ∀ B, B ≠ K.σ b → w'.heap[B]? = K.w.heap[B]?) :
    KStep K { K with H := upd K.H b (some cs'), w := w' } where
  os := h1
  tape := h2
  output := h3
  size := by show K.w.heap.size ≤ w'.heap.size; omega
  S _ h := h
  keep B h := by
    obtain ⟨row, T, g1, g2, g3, g4⟩ := hs.blk b cs e hz
    exact h5 B (fun e' => g4 (e' ▸ h))
  lo := Nat.le_refl _
  live _ _ _ := ⟨rfl, rfl⟩
  dies x g1 g2 := by
    by_cases hx : x = b
    · subst hx; simp only [upd_same] at g2; cases g2
    · simp only [upd_ne _ _ hx] at g2; exact absurd g2 g1
  dead x g1 g2 := by
    have : x ≠ b := fun e' => by rw [e', e] at g2; cases g2
    simp only [upd_ne _ _ this]; exact g2
theorem write_sat {K : Kr} (hs : Sat K) {b : Nat} {cs : List GV} (e : K.H b = some cs) (hz : 0 < K.sz b) (cs' : List GV) {w' : World}
    (h1 : w'.os = K.w.os) (h2 : w'.tape = K.w.tape) (h3 : w'.output = K.w.output) (h4 : w'.heap.size = K.w.heap.size) (h5 : ∀ B, B ≠ K.σ b → w'.heap[B]? = K.w.heap[B]?)
    {row' : Array Value} {T : TypeId} (g1 : w'.heap[K.σ b]? = some (.cells row' T (0, 0))) (g2 : row'.size = K.sz b) (g3 : cs'.length ≤ K.sz b) (g4 : ∀ j, j < cs'.length → VR K (gat cs' j) (vat row' j)) :
    Sat { K with H := upd K.H b (some cs'), w := w' } := by
  have hst := write_step hs e hz cs' h1 h2 h3 h4 h5
  have hne : ∀ x, (upd K.H b (some cs')) x ≠ none → K.H x ≠ none := by
    intro x hx
    by_cases hxb : x = b
    · subst hxb; rw [e]; simp
    · rwa [upd_ne _ _ hxb] at hx
  refine ⟨?_, ?_, fun x y a1 a2 => hs.inj x y (hne x a1) (hne y a2), ?_⟩
  · intro x c ex
    by_cases hx : x = b
    · subst hx; simp only [upd_same, Option.some.injEq] at ex; subst ex; exact g3
    · simp only [upd_ne _ _ hx] at ex; exact hs.len x c ex
  · intro x c ex hzx
    by_cases hx : x = b
    · subst hx; simp only [upd_same, Option.some.injEq] at ex; subst ex
      obtain ⟨row, T', q1, q2, q3, q4⟩ := hs.blk x cs e hz
      exact ⟨row', T, g1, g2, fun j hj => (g4 j hj).mono hst, q4⟩
    · simp only [upd_ne _ _ hx] at ex
      obtain ⟨row, T', q1, q2, q3, q4⟩ := hs.blk x c ex hzx
      refine ⟨row, T', ?_, q2, fun j hj => (q3 j hj).mono hst, q4⟩
      show w'.heap[K.σ x]? = _
      rw [h5 _ (fun e' => hx (hs.inj x b (by rw [ex]; simp) (by rw [e]; simp) hzx hz e')), q1]
  · intro B h; have := hs.sS B h; show B < w'.heap.size; omega

/-- an own block goes on under another name -/
theorem rename_step {K : Kr} (hs : Sat K) {b : Nat} {cs : List GV} (e : K.H b = some cs) (hb : b < K.lo) {n : Nat} (hn : K.H n = none) (hnl : K.lo ≤ n) :
    KStep K { K with σ := updN K.σ n (K.σ b), sz := updN K.sz n (K.sz b), H := upd (upd K.H b none) n (some cs), lo := n + 1 } where
  os := rfl
  tape := rfl
  output := rfl
  size := Nat.le_refl _
  S _ h := h
  keep _ _ := rfl
  lo := by show K.lo ≤ n + 1; omega
  live x g1 g2 := by
    have : x ≠ n := fun e' => g1 (e' ▸ hn)
    exact ⟨updN_ne _ _ this, updN_ne _ _ this⟩
  dies x g1 g2 := by
    have hx : x ≠ n := fun e' => g1 (e' ▸ hn)
    by_cases hxb : x = b
    · subst hxb; show x < n + 1; omega
    · simp only [upd_ne _ _ hx, upd_ne _ _ hxb] at g2; exact absurd g2 g1
  dead x g1 g2 := by
    have hx : x ≠ n := by omega
    by_cases hxb : x = b
    · subst hxb; rw [e] at g2; cases g2
    · simp only [upd_ne _ _ hx, upd_ne _ _ hxb]; exact g2
theorem rename_sat {K : Kr} (hs : Sat K) {b : Nat} {cs : List GV} (e : K.H b = some cs) (hb : b < K.lo) {n : Nat} (hn : K.H n = none) (hnl : K.lo ≤ n) :
    Sat { K with σ := updN K.σ n (K.σ b), sz := updN K.sz n (K.sz b), H := upd (upd K.H b none) n (some cs), lo := n + 1 } := by
  have hst := rename_step hs e hb hn hnl
  have hbn : b ≠ n := by omega
  have key : ∀ x c, (upd (upd K.H b none) n (some cs)) x = some c → (x = n ∧ c = cs) ∨ (x ≠ n ∧ x ≠ b ∧ K.H x = some c) := by
    intro x c ex
    by_cases hx : x = n
    · subst hx; rw [upd_same] at ex; exact .inl ⟨rfl, by simpa using ex.symm⟩
    · rw [upd_ne _ _ hx] at ex
      by_cases hxb : x = b
      · subst hxb; rw [upd_same] at ex; cases ex
      · rw [upd_ne _ _ hxb] at ex; exact .inr ⟨hx, hxb, ex⟩
  refine ⟨?_, ?_, ?_, hs.sS⟩
  · intro x c ex
    rcases key x c ex with ⟨rfl, rfl⟩ | ⟨hx, _, ex⟩
    · simp only [updN_same]; exact hs.len b _ e
    · simp only [updN_ne _ _ hx]; exact hs.len x c ex
  · intro x c ex hz
    rcases key x c ex with ⟨rfl, rfl⟩ | ⟨hx, _, ex⟩
    · simp only [updN_same] at hz ⊢
      obtain ⟨row, T, q1, q2, q3, q4⟩ := hs.blk b _ e hz
      exact ⟨row, T, q1, q2, fun j hj => (q3 j hj).mono hst, q4⟩
    · simp only [updN_ne _ _ hx] at hz ⊢
      obtain ⟨row, T, q1, q2, q3, q4⟩ := hs.blk x c ex hz
      exact ⟨row, T, q1, q2, fun j hj => (q3 j hj).mono hst, q4⟩
  · intro x y h1 h2 hz1 hz2 he
    obtain ⟨c1, h1⟩ := Option.ne_none_iff_exists'.1 h1
    obtain ⟨c2, h2⟩ := Option.ne_none_iff_exists'.1 h2
    rcases key x c1 h1 with ⟨rfl, rfl⟩ | ⟨hx, hxb, ex⟩
    · rcases key y c2 h2 with ⟨rfl, rfl⟩ | ⟨hy, hyb, ey⟩
      · rfl
      · exfalso
        simp only [updN_same, updN_ne _ _ hy] at he hz1 hz2
        exact hyb (hs.inj b y (by rw [e]; simp) (by rw [ey]; simp) hz1 hz2 he).symm
    · rcases key y c2 h2 with ⟨rfl, rfl⟩ | ⟨hy, hyb, ey⟩
      · exfalso
        simp only [updN_same, updN_ne _ _ hx] at he hz1 hz2
        exact hxb (hs.inj x b (by rw [ex]; simp) (by rw [e]; simp) hz1 hz2 he)
      · simp only [updN_ne _ _ hx, updN_ne _ _ hy] at he hz1 hz2
        exact hs.inj x y (by rw [ex]; simp) (by rw [ey]; simp) hz1 hz2 he

/-- a new block that is only read -/
theorem newp_step {K : Kr} (hs : Sat K) (ob : Obj) : KStep K { K with w := K.w.alloc ob, S := fun B => K.S B ∨ B = K.w.heap.size } where
  os := rfl
  tape := rfl
  output := rfl
  size := by simp
  S _ h := .inl h
  keep B h := Below.heap_alloc _ _ _ (hs.sS B h)
  lo := Nat.le_refl _
  live _ _ _ := ⟨rfl, rfl⟩
  dies _ h e := absurd e h
  dead _ _ h := h
theorem newp_sat {K : Kr} (hs : Sat K) (ob : Obj) : Sat { K with w := K.w.alloc ob, S := fun B => K.S B ∨ B = K.w.heap.size } := by
  have hst := newp_step hs ob
  refine ⟨hs.len, ?_, hs.inj, ?_⟩
  · intro x c ex hz
    obtain ⟨row, T, q1, q2, q3, q4⟩ := hs.blk x c ex hz
    have hlt := alive_lt hs ex hz
    refine ⟨row, T, ?_, q2, fun j hj => (q3 j hj).mono hst, ?_⟩
    · rw [← q1]; exact Below.heap_alloc _ _ _ hlt
    · rintro (h | h)
      · exact q4 h
      · have h : K.σ x = K.w.heap.size := h
        omega
  · rintro B (h | rfl)
    · have := hs.sS B h; show B < (K.w.alloc ob).heap.size; simp; omega
    · show K.w.heap.size < (K.w.alloc ob).heap.size; simp
theorem newp_cells {K : Kr} (row : Array Value) (T : TypeId) {j : Nat} (h : j < row.size) : (K.w.alloc (.cells row T (0, 0))).cell? ⟨K.w.heap.size, 0 + j, none⟩ = some (vat row j) := by
  simp only [World.cell?, World.alloc]
  simp [h, vat, Array.getD]

/-- the run of a load of several cells -/
theorem run_loads {P : Program} (w : World) (B o m : Nat) (us : Nat → Value) (h : ∀ j, j < m → w.cell? ⟨B, o + j, none⟩ = some (us j)) : (loadCells ⟨B, o, none⟩ m).run P w = .ok ((List.range m).map us).toArray w :=
  run_loadCells w ⟨B, o, none⟩ m us fun j hj => by rw [add_plain]; exact h j hj

/-- the elements of a slice, cell by cell -/
theorem gelems_VR {K : Kr} (hs : Sat K) {H : Heap} (hH : ∀ b cs, H b = some cs → K.H b = some cs) {g : GV} {v : Value} (hv : VR K g v) {ys : List GV} (e : gelems H g = some ys) :
    ∃ A n c, v = .slice A n c ∧ n = ys.length ∧ n ≤ c ∧ (0 < n → ∃ B o, A = some ⟨B, o, none⟩ ∧ ∃ us : Nat → Value, (∀ j, j < n → K.w.cell? ⟨B, o + j, none⟩ = some (us j)) ∧ ∀ j, j < n → VR K (gat ys j) (us j)) := by
  cases g <;> simp only [gelems] at e
  case nil =>
    simp only [Option.some.injEq] at e; subst e
    exact ⟨_, _, _, hv.nil_inv, rfl, Nat.le_refl _, fun h => by omega⟩
  case emp =>
    simp only [Option.some.injEq] at e; subst e
    obtain ⟨ad, h⟩ := hv.emp_inv
    exact ⟨_, _, _, h, rfl, Nat.le_refl _, fun h => by omega⟩
  case lit cs =>
    simp only [Option.some.injEq] at e; subst e
    cases hv with
    | lit B o _ us h1 h2 h3 => exact ⟨_, _, _, rfl, rfl, Nat.le_refl _, fun _ => ⟨B, o, rfl, us, h2, h3⟩⟩
  case sl n cs =>
    split at e
    · rename_i hl
      simp only [Option.some.injEq] at e; subst e
      cases hv with
      | sl0 _ c A h1 => exact ⟨_, _, _, rfl, hl.symm, h1, fun h => by simp at hl; omega⟩
      | sl _ c B o _ us h1 h2 h3 h4 => exact ⟨_, _, _, rfl, hl.symm, h1, fun _ => ⟨B, o, rfl, us, fun j hj => h3 j (by omega), fun j hj => h4 j (by omega)⟩⟩
    · cases e
  case own b o n =>
    split at e
    · rename_i cs hb
      split at e
      · rename_i hle
        simp only [Option.some.injEq] at e; subst e
        have hlen : ((cs.drop o).take n).length = n := by simp; omega
        have hK := hH b cs hb
        cases hv with
        | own _ _ _ c h1 h2 h3 =>
          refine ⟨_, _, _, rfl, hlen.symm, h3, fun hn => ⟨_, _, rfl, ?_⟩⟩
          obtain ⟨row, T, q1, q2, q3, q4⟩ := hs.blk b cs hK (by omega)
          have hl := hs.len b cs hK
          refine ⟨fun j => vat row (o + j), fun j hj => ?_, fun j hj => ?_⟩
          · simp only [World.cell?, q1]
            have : o + j < row.size := by omega
            simp [vat, Array.getD, this]
          · have : gat ((cs.drop o).take n) j = gat cs (o + j) := by
              simp [gat, List.getD_eq_getElem?_getD, hj, List.getElem?_drop]
            rw [this]; exact q3 (o + j) (by omega)
        | own0 _ _ A _ => exact ⟨_, _, _, rfl, hlen.symm, Nat.le_refl _, fun h => by omega⟩
        | owns _ _ _ B c h1 h2 h3 => rw [hK] at h1; cases h1
      · cases e
    · cases e
  all_goals cases e

/-- the run that fetches a slice's cells -/
theorem run_first {P : Program} {w : World} {A : Option Addr} {n c : Nat} {ys : List GV} {K : Kr} (hn : n = ys.length) (h : 0 < n → ∃ B o, A = some ⟨B, o, none⟩ ∧ ∃ us : Nat → Value, (∀ j, j < n → w.cell? ⟨B, o + j, none⟩ = some (us j)) ∧ ∀ j, j < n → VR K (gat ys j) (us j)) (m : Nat) (hm : m ≤ n) :
    ∃ arr : Array Value, (Builtin.firstCells 1 m (.slice A n c)).run P w = .ok arr w ∧ arr.size = m ∧ ∀ j, j < m → VR K (gat ys j) (vat arr j) := by
  rcases Nat.eq_zero_or_pos n with h0 | h0
  · have : m = 0 := by omega
    subst this
    cases A with
    | none => exact ⟨#[], by simp [Builtin.firstCells], rfl, fun j hj => by omega⟩
    | some ad => exact ⟨#[], by simp [Builtin.firstCells, loadCells, loadCellsFrom], rfl, fun j hj => by omega⟩
  · obtain ⟨B, o, rfl, us, h1, h2⟩ := h h0
    refine ⟨((List.range m).map us).toArray, ?_, by simp, fun j hj => ?_⟩
    · simp only [Builtin.firstCells, Nat.mul_one]
      exact run_loads w B o m us fun j hj => h1 j (by omega)
    · have := h2 j (by omega)
      simpa [vat, Array.getD, hj] using this

/-- a value that stands for a ghost value of one cell is of one cell -/
theorem isCell_one {K : Kr} {g : GV} {v : Value} (h : VR K g v) (e : isCell g = true) : v.oneCell' = true := by
  cases h <;> first | rfl | cases e
end Go.Proofs.Ytdpibcniodhinaa.Gh
/- The runs of the operations that read memory or make blocks. -/
namespace Go.Proofs.Ytdpibcniodhinaa.Gh
open Go Go.RowKit
set_option linter.unusedVariables false
set_option linter.unusedSimpArgs false

section
variable {P : Program} {K : Kr} {t : List GV} {a : Act} {g : GV}

/-- where a ghost address leads: the cells that can be read there -/
def gread (H : Heap) : GV → Option (List GV × Nat)
  | .ptr b o => (H b).map fun cs => (cs, o)
  | .pp cs o => some (cs, o)
  | _ => none
theorem gread_VR (hs : Sat K) {H : Heap} (hH : ∀ b cs, H b = some cs → K.H b = some cs) {v : Value} (hv : VR K g v) {cs : List GV} {o : Nat} (e : gread H g = some (cs, o)) (m : Nat) (hm : o + m ≤ cs.length) (h0 : 0 < m) :
    ∃ B p, v = .pointer (some ⟨B, p, none⟩) ∧ ∃ us : Nat → Value, (∀ j, j < m → K.w.cell? ⟨B, p + j, none⟩ = some (us j)) ∧ ∀ j, j < m → VR K (gat cs (o + j)) (us j) := by
  cases g <;> simp only [gread] at e
  case ptr b q =>
    simp only [Option.map_eq_some_iff, Prod.mk.injEq] at e
    obtain ⟨cs', hb, rfl, rfl⟩ := e
    have hK := hH b cs' hb
    cases hv with
    | ptr _ _ h1 =>
      have hl := hs.len b cs' hK
      obtain ⟨row, T, q1, q2, q3, q4⟩ := hs.blk b cs' hK (by omega)
      refine ⟨_, _, rfl, fun j => vat row (q + j), fun j hj => ?_, fun j hj => q3 _ (by omega)⟩
      simp only [World.cell?, q1]
      have : q + j < row.size := by omega
      simp [vat, Array.getD, this]
    | ptrs _ _ B h1 h2 => rw [hK] at h1; cases h1
  case pp cs' q =>
    simp only [Option.some.injEq, Prod.mk.injEq] at e
    obtain ⟨rfl, rfl⟩ := e
    cases hv with
    | pp B p _ _ us h1 h2 h3 =>
      refine ⟨_, _, rfl, fun j => us (q + j), fun j hj => ?_, fun j hj => h3 _ (by omega)⟩
      rw [Nat.add_assoc]; exact h2 _ (by omega)
  all_goals cases e

theorem run_load1 (o : Oper) {T : TypeId} {x : Operand} {x' : GX} (ho : o.op = .load T x) (hs : Sat K) (ht : TR K t a.tmps) (hT : shapeOf P T = some none) (hx : okX x x' = true)
    {H : Heap} (hH : ∀ b cs, H b = some cs → K.H b = some cs) {cs : List GV} {p : Nat} (hr : gread H (gev t x') = some (cs, p)) (hp : p < cs.length) :
    ∃ v, (execOp a.eval o).run P K.w = .ok (.value v) K.w ∧ VR K (gat cs p) v := by
  obtain ⟨B, q, hv, us, h1, h2⟩ := gread_VR hs hH (okX_VR ht hx) hr 1 (by omega) (by omega)
  have h1 := h1 0 (by omega)
  have h2 := h2 0 (by omega)
  simp only [Nat.add_zero] at h1 h2
  exact ⟨us 0, by simp [execOp, ho, Instr.loadAt, Instr.sureAddr, hv, loadVar, shapeOf_one hT, h1], h2⟩
theorem run_loadm (o : Oper) {T : TypeId} {m : Nat} {x : Operand} {x' : GX} (ho : o.op = .load T x) (hs : Sat K) (ht : TR K t a.tmps) (hT : shapeOf P T = some (some m)) (hx : okX x x' = true)
    {H : Heap} (hH : ∀ b cs, H b = some cs → K.H b = some cs) {cs : List GV} {p : Nat} (hr : gread H (gev t x') = some (cs, p)) (hp : p + m ≤ cs.length) (hm : 0 < m) :
    ∃ v, (execOp a.eval o).run P K.w = .ok (.value v) K.w ∧ VR K (.agg ((cs.drop p).take m)) v := by
  obtain ⟨B, q, hv, us, h1, h2⟩ := gread_VR hs hH (okX_VR ht hx) hr m hp hm
  have hl := run_loads (P := P) K.w B q m us h1
  refine ⟨.agg ((List.range m).map us).toArray, by simp [execOp, ho, Instr.loadAt, Instr.sureAddr, hv, loadVar, (shapeOf_agg hT _).1, (shapeOf_agg hT _).2, hl], .agg _ _ (by simp; omega) fun j hj => ?_⟩
  have hj' : j < m := by simp at hj; omega
  have e1 : gat ((cs.drop p).take m) j = gat cs (p + j) := by simp [gat, List.getD_eq_getElem?_getD, hj', List.getElem?_drop]
  have e2 : vat ((List.range m).map us).toArray j = us j := by simp [vat, Array.getD, hj']
  rw [e1, e2]; exact h2 j hj'

/-- an operation that makes one block: its row, and the value -/
def Makes (P : Program) (o : Oper) (a : Act) (K : Kr) (w : World) (cs : List GV) (v : Value) : Prop :=
  ∃ row T, cs.length ≤ row.size ∧ (∀ j, j < cs.length → VR K (gat cs j) (vat row j)) ∧ (execOp a.eval o).run P K.w = .ok (.value v) (w.alloc (.cells row T (0, 0)))

theorem run_box (o : Oper) {T : TypeId} {x : Operand} {x' : GX} (ho : o.op = .box T x) (ht : TR K t a.tmps) (hx : okX x x' = true) {vs : List GV} (hc : gcells (gev t x') = some vs) :
    Makes P o a K K.w vs (.pointer (some ⟨K.w.heap.size, 0, none⟩)) := by
  obtain ⟨h1, h2⟩ := cells_VR (okX_VR ht hx) hc
  exact ⟨_, T, by omega, h2, by simp [execOp, ho, Instr.box, newVar, newRow]⟩
theorem run_alloc (o : Oper) {T : TypeId} {cs : List GV} (ho : o.op = .alloc T) {z : Value} (hz : zeroB P T = some z) (hc : sameCs z.cells cs = true) :
    Makes P o a K K.w cs (.pointer (some ⟨K.w.heap.size, 0, none⟩)) := by
  obtain ⟨h1, h2⟩ := sameCs_VR K hc
  exact ⟨_, T, by omega, h2, by simp [execOp, ho, Instr.alloc, run_zeroValue' _ hz, newVar, newRow]⟩
theorem run_bslice (o : Oper) {T e : TypeId} {n s : Nat} {parts : Array (Nat × Operand)} {cells : List GV} {parts' : List (Nat × Nat × GX)} (ho : o.op = .buildSlice T n parts) (ht : TR K t a.tmps) (he : elemB P T = some e) (hs : sizeB P e = some s) {z : Value} (hz : zeroB P e = some z)
    (h1 : ¬ n * s > 2 ^ 24) (h2 : n * s ≠ 0) (hc : sameCs (repCells z.cells (n * s)) cells = true) (hp : okParts (fun i => some (i * s, s)) parts.toList parts' = true) {cs : List GV} (hf : gfill t cells parts' = some cs) :
    ∃ row : Array Value, row.size = cs.length ∧ cs.length = n * s ∧ (∀ j, j < cs.length → VR K (gat cs j) (vat row j)) ∧ ∀ w, (execOp a.eval o).run P w = .ok (.value (.slice (some ⟨w.heap.size, 0, none⟩) n n)) (w.alloc (.cells row e (0, 0))) := by
  obtain ⟨s1, s2⟩ := sameCs_VR K hc
  obtain ⟨out, f1, f2, f3⟩ := fill_sound ht _ _ _ hp _ cells cs s1 s2 hf
  have hu := elemB_spec he
  have hfl : ∀ (l : List GV) (ps : List (Nat × Nat × GX)) (r : List GV), gfill t l ps = some r → r.length = l.length := by
    intro l ps
    induction ps generalizing l with
    | nil => intro r e; simp only [gfill, Option.some.injEq] at e; rw [e]
    | cons p ps ih =>
      intro r e
      obtain ⟨off, size, x⟩ := p
      simp only [gfill] at e
      split at e
      · cases e
      · split at e
        · rw [ih _ _ e, setL_length]
        · cases e
  refine ⟨out, f2, ?_, f3, fun w => ?_⟩
  · rw [hfl _ _ _ hf, ← s1]; simp [repCells]
  · have f1' : Instr.fill (fun i => some (i * s, s)) ((Array.range (n * s)).map (z.cells[· % z.cells.size]!)) (parts.toList.map fun x => (x.fst, a.eval x.snd)) = some out := f1
    simp only [execOp, ho, Instr.buildSlice]
    simp [run_underlying' _ hu, run_sizeOf' _ hs, h1, h2, run_zeroValue' _ hz, f1', newRow]

theorem rep_gat (z : GV) (n j : Nat) (h : j < n) : gat (List.replicate n z) j = z := by simp [gat, List.getD_eq_getElem?_getD, h]
theorem run_mslice (o : Oper) {T e : TypeId} {l c : Operand} {l' c' : GX} {bytes : Nat} {z : GV} (ho : o.op = .makeSlice T l c) (ht : TR K t a.tmps) (he : elemB P T = some e) (hb : bytesB P e = some bytes) {zv : Value} (hz : zeroB P e = some zv) (hs : sizeB P e = some 1) (hc : sameCs zv.cells [z] = true)
    (hl : okX l l' = true) (hc' : okX c c' = true) {i : Int} (e1 : gev t l' = .int .i64 i) (e2 : gev t c' = .int .i64 i) (h0 : 0 ≤ i) (hbd : i * bytes ≤ 281474976710656) (hb0 : 0 < bytes) :
    ∃ row : Array Value, row.size = i.toNat ∧ (∀ j, j < i.toNat → VR K z (vat row j)) ∧ ∀ w, (execOp a.eval o).run P w = .ok (.value (.slice (some ⟨w.heap.size, 0, none⟩) i.toNat i.toNat)) (w.alloc (.cells row e (0, 0))) := by
  have v1 := okX_VR ht hl
  have v2 := okX_VR ht hc'
  rw [e1] at v1; rw [e2] at v2
  have v1 := v1.int_inv
  have v2 := v2.int_inv
  obtain ⟨ib, i1, i2⟩ := bytesB_spec hb
  obtain ⟨iz, i3, i4⟩ := zeroB_spec hz
  obtain ⟨is, i5, i6⟩ := sizeB_spec hs
  rw [i1] at i3 i5; cases i3; cases i5
  obtain ⟨c1, c2⟩ := sameCs_VR K hc
  have hzc : zv.cells.size = 1 := c1
  have hle : i ≤ i * bytes := by
    have : (1 : Int) ≤ bytes := by omega
    calc i = i * 1 := by rw [Int.mul_one]
      _ ≤ i * bytes := Int.mul_le_mul_of_nonneg_left this h0
  have hbd' : (ib.bytes : Int) * i ≤ 281474976710656 := by rw [i2, Int.mul_comm]; exact hbd
  refine ⟨madeCells zv.cells i.toNat, size_madeCells _ _, fun j hj => ?_, fun w => ?_⟩
  · have h1 := c2 0 (by simp)
    have : vat (madeCells zv.cells i.toNat) j = vat zv.cells 0 := by
      simp [vat, madeCells, Array.getD, hj, hzc, Nat.mod_one]
    rw [this]; exact h1
  · have hr := run_make (P := P) w T e ib zv (elemB_spec he) i1 i4 .i64 .i64 i i h0 (Int.le_refl _) hbd' (by omega)
    rw [i6, Nat.mul_one] at hr
    simp [execOp, ho, v1, v2, hr]
end
end Go.Proofs.Ytdpibcniodhinaa.Gh
/- Stores, copy, append. -/
namespace Go.Proofs.Ytdpibcniodhinaa.Gh
open Go Go.RowKit
set_option linter.unusedVariables false
set_option linter.unusedSimpArgs false

section
variable {P : Program} {K : Kr} {t : List GV} {a : Act} {g : GV}

theorem VR.ptr_live {b p : Nat} {v : Value} (h : VR K (.ptr b p) v) {cs : List GV} (e : K.H b = some cs) : v = .pointer (some ⟨K.σ b, p, none⟩) := by
  cases h with
  | ptr _ _ h1 => rfl
  | ptrs _ _ B h1 h2 => rw [e] at h1; cases h1
theorem VR.own_live {b p m : Nat} {v : Value} (h : VR K (.own b p m) v) {cs : List GV} (e : K.H b = some cs) (hm : 0 < m) : ∃ c, v = .slice (some ⟨K.σ b, p, none⟩) m c ∧ m ≤ c ∧ p + c ≤ K.sz b := by
  cases h with
  | own _ _ _ c h1 h2 h3 => exact ⟨c, rfl, h3, h2⟩
  | own0 _ _ A _ => omega
  | owns _ _ _ B c h1 h2 h3 => rw [e] at h1; cases h1
/-- values written into an own block, one behind the other -/
theorem write_cells (hs : Sat K) {b : Nat} {cs : List GV} (e : K.H b = some cs) (hz : 0 < K.sz b) (o : Nat) (us : List Value) (cs' : List GV) (hle : o + us.length ≤ K.sz b) (hlen : cs'.length ≤ K.sz b)
    (hcs : ∀ j, j < cs'.length → if o ≤ j ∧ j < o + us.length then VR K (gat cs' j) (us.getD (j - o) Go.undef) else j < cs.length ∧ gat cs' j = gat cs j) :
    KStep K { K with H := upd K.H b (some cs'), w := K.w.setCells (K.σ b) o us } ∧ Sat { K with H := upd K.H b (some cs'), w := K.w.setCells (K.σ b) o us } := by
  obtain ⟨h1, h2, h3, h4, h5, h6⟩ := setCells_heap (K.σ b) us o K.w
  obtain ⟨row, T, q1, q2, q3, q4⟩ := hs.blk b cs e hz
  obtain ⟨row', r1, r2, r3⟩ := h6 row T (0, 0) q1 (by omega)
  refine ⟨write_step hs e hz cs' h1 h2 h3 h4 h5, write_sat hs e hz cs' h1 h2 h3 h4 h5 r1 (by omega) hlen fun j hj => ?_⟩
  rw [r3 j]
  have := hcs j hj
  by_cases hc : o ≤ j ∧ j < o + us.length
  · rw [if_pos hc] at this ⊢; exact this
  · rw [if_neg hc] at this ⊢
    rw [this.2]; exact q3 j this.1
theorem run_stores (hs : Sat K) {b : Nat} {cs : List GV} (e : K.H b = some cs) (o : Nat) (us : List Value) (hle : o + us.length ≤ K.sz b) (h1 : ∀ v ∈ us, v.oneCell' = true) :
    (storeCells ⟨K.σ b, o, none⟩ us).run P K.w = .ok () (K.w.setCells (K.σ b) o us) := by
  rcases us with _ | ⟨u, us⟩
  · rfl
  · simp only [List.length_cons] at hle
    obtain ⟨row, T, q1, q2, q3, q4⟩ := hs.blk b cs e (by omega)
    refine run_storeCells_cells (K.σ b) o (u :: us) 0 K.w (fun j hj => ?_) (fun j hj => ?_) h1
    · simp only [List.length_cons] at hj
      simp only [World.cell?, q1, Nat.add_zero]
      have : o + j < row.size := by omega
      simp [this]
    · simp only [World.frozen?, q1]; simp

theorem run_store' (o : Oper) {T : TypeId} {m : Nat} {x v : Operand} {x' v' : GX} (ho : o.op = .store T x v) (hs : Sat K) (ht : TR K t a.tmps) (hT : sizeB P T = some m) (hx : okX x x' = true) (hv : okX v v' = true)
    {b p : Nat} (g1 : gev t x' = .ptr b p) {cs : List GV} (e : K.H b = some cs) {vs : List GV} (hc : gcells (gev t v') = some vs) (hm : vs.length = m) (hall : vs.all isCell = true) (hle : p + m ≤ cs.length) :
    ∃ K', (execOp a.eval o).run P K.w = .ok .skip K'.w ∧ KStep K K' ∧ Sat K' ∧ K'.H = upd K.H b (some (setL cs p vs)) ∧ K'.lo = K.lo := by
  have hl := hs.len b cs e
  obtain ⟨c1, c2⟩ := cells_VR (okX_VR ht hv) hc
  have hx := okX_VR ht hx
  rw [g1] at hx
  have hptr : a.eval x = .pointer (some ⟨K.σ b, p, none⟩) := hx.ptr_live e
  have hone : ∀ u ∈ (a.eval v).cells.toList, u.oneCell' = true := by
    intro u hu
    obtain ⟨j, hj, rfl⟩ := List.getElem_of_mem hu
    have hj' : j < vs.length := by simp at hj; omega
    have := c2 j hj'
    have hc1 : isCell (gat vs j) = true := by
      have := List.all_eq_true.1 hall (gat vs j) (by simp [gat, List.getD_eq_getElem?_getD, hj'])
      exact this
    have := isCell_one this hc1
    have hj2 : j < (a.eval v).cells.size := by simpa using hj
    simpa [vat, Array.getD, hj2] using this
  have hsz : (a.eval v).cells.toList.length = m := by simp; omega
  have hr := run_stores (P := P) hs e p (a.eval v).cells.toList (by omega) hone
  have hrun : (execOp a.eval o).run P K.w = .ok .skip (K.w.setCells (K.σ b) p (a.eval v).cells.toList) := by
    have : (a.eval v).cells.size = m := by omega
    simp [execOp, ho, Instr.storeAt, Instr.sureAddr, hptr, storeVar, run_sizeOf' _ hT, this, hr]
  by_cases hz : 0 < K.sz b
  · obtain ⟨w1, w2⟩ := write_cells hs e hz p (a.eval v).cells.toList (setL cs p vs) (by omega) (by rw [setL_length]; exact hl) (fun j hj => by
      rw [setL_length] at hj
      rw [setL_gat _ _ _ _ (by omega)]
      by_cases hc : p ≤ j ∧ j < p + vs.length
      · rw [if_pos (by omega), if_pos hc]
        have := c2 (j - p) (by omega)
        simpa [vat, Array.getD_eq_getD_getElem?, List.getD_eq_getElem?_getD] using this
      · rw [if_neg (by omega), if_neg hc]; exact ⟨hj, rfl⟩)
    exact ⟨_, hrun, w1, w2, rfl, rfl⟩
  · -- nothing is written
    have hm0 : m = 0 := by omega
    have hvs : vs = [] := List.eq_nil_of_length_eq_zero (by omega)
    have hcl : (a.eval v).cells.toList = [] := List.eq_nil_of_length_eq_zero (by omega)
    refine ⟨K, by rw [hrun, hcl]; rfl, KStep.refl K, hs, ?_, rfl⟩
    subst hvs
    funext y
    by_cases hy : y = b
    · subst hy; rw [upd_same, e]; rfl
    · rw [upd_ne _ _ hy]

theorem run_copy' (o : Oper) {T T' e' : TypeId} {d s : Operand} {d' s' : GX} (ho : o.op = .call { callee := .builtin .copy, args := #[d, s], argTypes := #[T, T'] }) (hs : Sat K) (ht : TR K t a.tmps) (he : elemB P T = some e') (hsz : sizeB P e' = some 1) (hd : okX d d' = true) (hx : okX s s' = true)
    {b p m : Nat} (g1 : gev t d' = .own b p m) {cs : List GV} (e : K.H b = some cs) (hle : p + m ≤ cs.length) {ys : List GV} (hy : gelems K.H (gev t s') = some ys) (hall : ys.all isCell = true) :
    ∃ K', (execOp a.eval o).run P K.w = .ok (.value (.int .i64 (min ys.length m : Nat))) K'.w ∧ KStep K K' ∧ Sat K' ∧ K'.H = upd K.H b (some (setL cs p (ys.take (min ys.length m)))) ∧ K'.lo = K.lo := by
  have hl := hs.len b cs e
  have hu := elemB_spec he
  have v1 := okX_VR ht hd
  rw [g1] at v1
  obtain ⟨A, n, c, hv, hn, hnc, hcell⟩ := gelems_VR hs (fun _ _ h => h) (okX_VR ht hx) hy
  obtain ⟨arr, f1, f2, f3⟩ := run_first (P := P) (c := c) hn hcell (min ys.length m) (by omega)
  subst hn
  have hone : ∀ u ∈ arr.toList, u.oneCell' = true := by
    intro u hu
    obtain ⟨j, hj, rfl⟩ := List.getElem_of_mem hu
    have hj2 : j < arr.size := by simpa using hj
    have hj' : j < ys.length := by omega
    have := f3 j (by omega)
    have hc1 : isCell (gat ys j) = true := List.all_eq_true.1 hall (gat ys j) (by simp [gat, List.getD_eq_getElem?_getD, hj'])
    have := isCell_one this hc1
    simpa [vat, Array.getD, hj2] using this
  have hmin : Nat.min ys.length m = min ys.length m := rfl
  rcases Nat.eq_zero_or_pos (min ys.length m) with h0 | h0
  · -- nothing goes over
    have harr : arr.toList = [] := List.eq_nil_of_length_eq_zero (by rw [Array.length_toList]; omega)
    obtain ⟨A1, c1, hv1, _, _⟩ := v1.own_inv
    refine ⟨K, ?_, KStep.refl K, hs, ?_, rfl⟩
    · rw [h0] at f1
      cases A1 with
      | none => simp [execOp, ho, resolve, invoke, builtin, Builtin.copy_, run_underlying' _ hu, hv, hv1, Builtin.lenOf, run_sizeOf' _ hsz, hmin, h0, f1, goInt]
      | some ad => simp [execOp, ho, resolve, invoke, builtin, Builtin.copy_, run_underlying' _ hu, hv, hv1, Builtin.lenOf, run_sizeOf' _ hsz, hmin, h0, f1, harr, storeCells, goInt]
    · rw [h0]; simp only [List.take_zero, setL]
      funext y
      by_cases hy : y = b
      · subst hy; rw [upd_same, e]
      · rw [upd_ne _ _ hy]
  · obtain ⟨c1, hptr, _, _⟩ := v1.own_live e (by omega)
    have hr := run_stores (P := P) hs e p arr.toList (by simp; omega) hone
    have hz : 0 < K.sz b := by omega
    have hlt : (ys.take (min ys.length m)).length = min ys.length m := by simp
    obtain ⟨w1, w2⟩ := write_cells hs e hz p arr.toList (setL cs p (ys.take (min ys.length m))) (by simp; omega) (by rw [setL_length]; exact hl) (fun j hj => by
      rw [setL_length] at hj
      rw [setL_gat _ _ _ _ (by omega)]
      have hal : arr.toList.length = min ys.length m := by simp [f2]
      by_cases hc : p ≤ j ∧ j < p + min ys.length m
      · rw [if_pos (by omega), if_pos (by omega)]
        have := f3 (j - p) (by omega)
        have hjm : j - p < min ys.length m := by omega
        have e1 : gat (ys.take (min ys.length m)) (j - p) = gat ys (j - p) := by
          simp only [gat, List.getD_eq_getElem?_getD, List.getElem?_take]; rw [if_pos hjm]
        rw [e1]
        simpa [vat, Array.getD_eq_getD_getElem?, List.getD_eq_getElem?_getD] using this
      · rw [if_neg (by omega), if_neg (by omega)]; exact ⟨hj, rfl⟩)
    refine ⟨_, ?_, w1, w2, rfl, rfl⟩
    simp [execOp, ho, resolve, invoke, builtin, Builtin.copy_, run_underlying' _ hu, hv, hptr, Builtin.lenOf, run_sizeOf' _ hsz, hmin, f1, hr, goInt]
end
end Go.Proofs.Ytdpibcniodhinaa.Gh
