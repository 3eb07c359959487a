/- Ghost values for memory: what a value of the machine stands for, and that this outlives steps that write only to blocks of the call's own. -/
import Derived.Calls
import Derived.Orders
import Derived.Laws.World
import Derived.Below
import Derived.Laws.Sem
import Derived.WalkSpells
import Derived.Laws.IdiomCopy
import Derived.Laws.MakeOwn
import Derived.Laws.Append
import Derived.Laws.AppendOwn
namespace Go.Proofs.Ytdpibcniodhinaa.Gh
open Go Go.RowKit
set_option linter.unusedVariables false

/-- what a value stands for: numbers; slices that are only read, with their cells; slices and addresses of own blocks -/
inductive GV where
  | int (k : IntKind) (n : Int)
  | bool (b : Bool)
  | nil
  | emp
  | lit (cs : List GV)
  | sl (n : Nat) (cs : List GV)
  | own (b o n : Nat)
  | ptr (b o : Nat)
  | pp (cs : List GV) (o : Nat)
  | nilp
  | agg (cs : List GV)
  | tup (vs : List GV)
  | fn (f : FuncId) (cap : List GV)
  | undef
instance : Inhabited GV := ⟨.undef⟩

/-- a world, which actual block is which own block, how great each is, what the own blocks hold, below which number names may be stale, and the blocks that are only read -/
structure Kr where
  σ : Nat → Nat
  sz : Nat → Nat
  H : Nat → Option (List GV)
  lo : Nat
  w : World
  S : Nat → Prop

abbrev gat (cs : List GV) (j : Nat) : GV := cs.getD j .undef
abbrev vat (us : Array Value) (j : Nat) : Value := us.getD j Go.undef

inductive VR (K : Kr) : GV → Value → Prop
  | int (k : IntKind) (n : Int) : VR K (.int k n) (.int k n)
  | bool (b : Bool) : VR K (.bool b) (.bool b)
  | nil : VR K .nil (.slice none 0 0)
  | emp (a : Addr) : VR K .emp (.slice (some a) 0 0)
  | lit (B o : Nat) (cs : List GV) (us : Nat → Value) : K.S B → (∀ j, j < cs.length → K.w.cell? ⟨B, o + j, none⟩ = some (us j)) → (∀ j, j < cs.length → VR K (gat cs j) (us j)) → VR K (.lit cs) (.slice (some ⟨B, o, none⟩) cs.length cs.length)
  | sl0 (n c : Nat) (A : Option Addr) : n ≤ c → VR K (.sl n []) (.slice A n c)
  | sl (n c B o : Nat) (cs : List GV) (us : Nat → Value) : n ≤ c → K.S B → (∀ j, j < cs.length → K.w.cell? ⟨B, o + j, none⟩ = some (us j)) → (∀ j, j < cs.length → VR K (gat cs j) (us j)) → VR K (.sl n cs) (.slice (some ⟨B, o, none⟩) n c)
  | own (b o n c : Nat) : K.H b ≠ none → o + c ≤ K.sz b → n ≤ c → VR K (.own b o n) (.slice (some ⟨K.σ b, o, none⟩) n c)
  | own0 (b o : Nat) (A : Option Addr) : (K.H b ≠ none ∨ b < K.lo) → VR K (.own b o 0) (.slice A 0 0)
  | owns (b o n B c : Nat) : K.H b = none → b < K.lo → n ≤ c → VR K (.own b o n) (.slice (some ⟨B, o, none⟩) n c)
  | ptr (b o : Nat) : K.H b ≠ none → VR K (.ptr b o) (.pointer (some ⟨K.σ b, o, none⟩))
  | ptrs (b o B : Nat) : K.H b = none → b < K.lo → VR K (.ptr b o) (.pointer (some ⟨B, o, none⟩))
  | pp (B p o : Nat) (cs : List GV) (us : Nat → Value) : K.S B → (∀ j, j < cs.length → K.w.cell? ⟨B, p + j, none⟩ = some (us j)) → (∀ j, j < cs.length → VR K (gat cs j) (us j)) → VR K (.pp cs o) (.pointer (some ⟨B, p + o, none⟩))
  | nilp : VR K .nilp (.pointer none)
  | agg (cs : List GV) (us : Array Value) : us.size = cs.length → (∀ j, j < cs.length → VR K (gat cs j) (vat us j)) → VR K (.agg cs) (.agg us)
  | tup (cs : List GV) (us : Array Value) : us.size = cs.length → (∀ j, j < cs.length → VR K (gat cs j) (vat us j)) → VR K (.tup cs) (.tuple us)
  | fn (f : FuncId) (cs : List GV) (us : Array Value) : us.size = cs.length → (∀ j, j < cs.length → VR K (gat cs j) (vat us j)) → VR K (.fn f cs) (.func (.func f) #[] us)
  | undef (v : Value) : VR K .undef v

/-- what a step keeps -/
structure KStep (K K' : Kr) : Prop where
  os : K'.w.os = K.w.os
  tape : K'.w.tape = K.w.tape
  output : K'.w.output = K.w.output
  size : K.w.heap.size ≤ K'.w.heap.size
  S : ∀ B, K.S B → K'.S B
  keep : ∀ B, K.S B → K'.w.heap[B]? = K.w.heap[B]?
  lo : K.lo ≤ K'.lo
  live : ∀ b, K.H b ≠ none → K'.H b ≠ none → K'.σ b = K.σ b ∧ K'.sz b = K.sz b
  dies : ∀ b, K.H b ≠ none → K'.H b = none → b < K'.lo
  dead : ∀ b, b < K.lo → K.H b = none → K'.H b = none

theorem KStep.refl (K : Kr) : KStep K K := ⟨rfl, rfl, rfl, Nat.le_refl _, fun _ h => h, fun _ _ => rfl, Nat.le_refl _, fun b _ _ => ⟨rfl, rfl⟩, fun b h e => absurd e h, fun _ _ h => h⟩
theorem KStep.trans {K1 K2 K3 : Kr} (h : KStep K1 K2) (g : KStep K2 K3) : KStep K1 K3 where
  os := g.os.trans h.os
  tape := g.tape.trans h.tape
  output := g.output.trans h.output
  size := Nat.le_trans h.size g.size
  S B hb := g.S B (h.S B hb)
  keep B hb := (g.keep B (h.S B hb)).trans (h.keep B hb)
  lo := Nat.le_trans h.lo g.lo
  live b h1 h3 := by
    have h2 : K2.H b ≠ none := fun e => h3 (g.dead b (h.dies b h1 e) e)
    obtain ⟨a1, a2⟩ := h.live b h1 h2
    obtain ⟨b1, b2⟩ := g.live b h2 h3
    exact ⟨b1.trans a1, b2.trans a2⟩
  dies b h1 h3 := by
    by_cases e : K2.H b = none
    · exact Nat.lt_of_lt_of_le (h.dies b h1 e) g.lo
    · exact g.dies b e h3
  dead b hb e := g.dead b (Nat.lt_of_lt_of_le hb h.lo) (h.dead b hb e)

theorem cell_keep {w w' : World} {B o : Nat} {v : Value} (h : w'.heap[B]? = w.heap[B]?) (hc : w.cell? ⟨B, o, none⟩ = some v) : w'.cell? ⟨B, o, none⟩ = some v := by
  unfold World.cell? at *
  rw [h]; exact hc

theorem VR.mono {K K' : Kr} (h : KStep K K') {g : GV} {v : Value} (r : VR K g v) : VR K' g v := by
  induction r with
  | int k n => exact .int k n
  | bool b => exact .bool b
  | nil => exact .nil
  | emp a => exact .emp a
  | lit B o cs us hS hc _ ih => exact .lit B o cs us (h.S B hS) (fun j hj => cell_keep (h.keep B hS) (hc j hj)) ih
  | sl0 n c A hn => exact .sl0 n c A hn
  | sl n c B o cs us hn hS hc _ ih => exact .sl n c B o cs us hn (h.S B hS) (fun j hj => cell_keep (h.keep B hS) (hc j hj)) ih
  | own b o n c hb hz hn =>
    by_cases e : K'.H b = none
    · exact .owns b o n _ _ e (h.dies b hb e) hn
    · obtain ⟨h1, h2⟩ := h.live b hb e
      rw [← h1]; exact .own b o n c e (by rw [h2]; exact hz) hn
  | own0 b o A hb =>
    refine .own0 b o A ?_
    rcases hb with hb | hb
    · by_cases e : K'.H b = none
      · exact .inr (h.dies b hb e)
      · exact .inl e
    · exact .inr (Nat.lt_of_lt_of_le hb h.lo)
  | owns b o n B c hb hl hn => exact .owns b o n B c (h.dead b hl hb) (Nat.lt_of_lt_of_le hl h.lo) hn
  | ptr b o hb =>
    by_cases e : K'.H b = none
    · exact .ptrs b o _ e (h.dies b hb e)
    · rw [← (h.live b hb e).1]; exact .ptr b o e
  | ptrs b o A hb hl => exact .ptrs b o A (h.dead b hl hb) (Nat.lt_of_lt_of_le hl h.lo)
  | pp B p o cs us hS hc _ ih => exact .pp B p o cs us (h.S B hS) (fun j hj => cell_keep (h.keep B hS) (hc j hj)) ih
  | nilp => exact .nilp
  | agg cs us hs _ ih => exact .agg cs us hs ih
  | tup cs us hs _ ih => exact .tup cs us hs ih
  | fn f cs us hs _ ih => exact .fn f cs us hs ih
  | undef v => exact .undef v

/-- what the own blocks hold lies in the world; they are apart from each other and from what is only read -/
structure Sat (K : Kr) : Prop where
  len : ∀ b cs, K.H b = some cs → cs.length ≤ K.sz b
  blk : ∀ b cs, K.H b = some cs → 0 < K.sz b → ∃ row T, K.w.heap[K.σ b]? = some (.cells row T (0, 0)) ∧ row.size = K.sz b ∧ (∀ j, j < cs.length → VR K (gat cs j) (vat row j)) ∧ ¬ K.S (K.σ b)
  inj : ∀ b b', K.H b ≠ none → K.H b' ≠ none → 0 < K.sz b → 0 < K.sz b' → K.σ b = K.σ b' → b = b'
  sS : ∀ B, K.S B → B < K.w.heap.size

def upd (H : Nat → Option (List GV)) (b : Nat) (c : Option (List GV)) : Nat → Option (List GV) := fun x => if x = b then c else H x
theorem upd_same (H : Nat → Option (List GV)) (b : Nat) (c : Option (List GV)) : upd H b c b = c := if_pos rfl
theorem upd_ne (H : Nat → Option (List GV)) {b x : Nat} (c : Option (List GV)) (h : x ≠ b) : upd H b c x = H x := if_neg h

def updN (f : Nat → Nat) (b v : Nat) : Nat → Nat := fun x => if x = b then v else f x
theorem updN_same (f : Nat → Nat) (b v : Nat) : updN f b v b = v := if_pos rfl
theorem updN_ne (f : Nat → Nat) {b x : Nat} (v : Nat) (h : x ≠ b) : updN f b v x = f x := if_neg h

/-- a draw -/
theorem drew_step (K : Kr) (n : Nat) : KStep K { K with w := { K.w with drawn := n } } :=
  ⟨rfl, rfl, rfl, Nat.le_refl _, fun _ h => h, fun _ _ => rfl, Nat.le_refl _, fun b _ _ => ⟨rfl, rfl⟩, fun b h e => absurd e h, fun _ _ h => h⟩
theorem drew_sat {K : Kr} (h : Sat K) (n : Nat) : Sat { K with w := { K.w with drawn := n } } :=
  ⟨h.len, fun b cs e hz => by
    obtain ⟨row, T, h1, h2, h3, h4⟩ := h.blk b cs e hz
    exact ⟨row, T, h1, h2, fun j hj => (h3 j hj).mono (drew_step K n), h4⟩, h.inj, h.sS⟩

/-- a new own block, named b -/
theorem new_step {K : Kr} (hs : Sat K) (b : Nat) (hb : K.H b = none) (hl : K.lo ≤ b) (lo' : Nat) (hlo : K.lo ≤ lo') (cs : List GV) (row : Array Value) (T : TypeId) :
    KStep K ⟨updN K.σ b K.w.heap.size, updN K.sz b row.size, upd K.H b (some cs), lo', K.w.alloc (.cells row T (0, 0)), K.S⟩ where
  os := rfl
  tape := rfl
  output := rfl
  size := by simp
  S _ h := h
  keep B h := Below.heap_alloc _ _ _ (hs.sS B h)
  lo := hlo
  live x h1 h2 := by
    have : x ≠ b := fun e => h1 (e ▸ hb)
    exact ⟨updN_ne _ _ this, updN_ne _ _ this⟩
  dies x h1 h2 := by
    have : x ≠ b := fun e => h1 (e ▸ hb)
    simp only [upd_ne _ _ this] at h2
    exact absurd h2 h1
  dead x h1 h2 := by
    have : x ≠ b := by omega
    simp only [upd_ne _ _ this]
    exact h2
theorem new_sat {K : Kr} (hs : Sat K) (b : Nat) (hb : K.H b = none) (hl : K.lo ≤ b) (lo' : Nat) (hlo : K.lo ≤ lo') (cs : List GV) (row : Array Value) (T : TypeId) (hlen : cs.length ≤ row.size)
    (hr : ∀ j, j < cs.length → VR K (gat cs j) (vat row j)) :
    Sat ⟨updN K.σ b K.w.heap.size, updN K.sz b row.size, upd K.H b (some cs), lo', K.w.alloc (.cells row T (0, 0)), K.S⟩ := by
  have hst := new_step hs b hb hl lo' hlo cs row T
  have hlt : ∀ x cs, K.H x = some cs → 0 < K.sz x → K.σ x < K.w.heap.size := by
    intro x cs e hz
    obtain ⟨row, T, h1, _⟩ := hs.blk x cs e hz
    exact (Array.getElem?_eq_some_iff.1 h1).1
  refine ⟨?_, ?_, ?_, ?_⟩
  · intro x cs' e
    by_cases hx : x = b
    · subst hx; simp only [upd_same, Option.some.injEq] at e; subst e; simp only [updN_same]; exact hlen
    · simp only [upd_ne _ _ hx] at e; simp only [updN_ne _ _ hx]; exact hs.len x cs' e
  · intro x cs' e hz
    by_cases hx : x = b
    · subst hx; simp only [upd_same, Option.some.injEq] at e; subst e
      simp only [updN_same]
      refine ⟨row, T, ?_, rfl, fun j hj => (hr j hj).mono hst, fun h => ?_⟩
      · show (K.w.heap.push _)[K.w.heap.size]? = _
        simp
      · exact absurd (hs.sS _ h) (by omega)
    · simp only [upd_ne _ _ hx] at e; simp only [updN_ne _ _ hx] at hz ⊢
      obtain ⟨row', T', h1, h2, h3, h4⟩ := hs.blk x cs' e hz
      refine ⟨row', T', ?_, h2, fun j hj => (h3 j hj).mono hst, h4⟩
      rw [← h1]; exact Below.heap_alloc _ _ _ (hlt x cs' e hz)
  · intro x y h1 h2 hz1 hz2 e
    by_cases hx : x = b
    · by_cases hy : y = b
      · rw [hx, hy]
      · exfalso
        subst hx
        simp only [upd_ne _ _ hy] at h2; simp only [updN_ne _ _ hy] at hz2
        simp only [updN_same, updN_ne _ _ hy] at e
        obtain ⟨cs', hcs⟩ := Option.ne_none_iff_exists'.1 h2
        have := hlt y cs' hcs hz2
        omega
    · by_cases hy : y = b
      · exfalso
        subst hy
        simp only [upd_ne _ _ hx] at h1; simp only [updN_ne _ _ hx] at hz1
        simp only [updN_same, updN_ne _ _ hx] at e
        obtain ⟨cs', hcs⟩ := Option.ne_none_iff_exists'.1 h1
        have := hlt x cs' hcs hz1
        omega
      · simp only [upd_ne _ _ hx] at h1; simp only [updN_ne _ _ hx] at hz1
        simp only [upd_ne _ _ hy] at h2; simp only [updN_ne _ _ hy] at hz2
        simp only [updN_ne _ _ hx, updN_ne _ _ hy] at e
        exact hs.inj x y h1 h2 hz1 hz2 e
  · intro B h
    have := hs.sS B h
    show B < (K.w.alloc _).heap.size
    simp; omega
end Go.Proofs.Ytdpibcniodhinaa.Gh
/- Steps on ghost memory: a store, a name let go, a block that is only read from now on. -/
namespace Go.Proofs.Ytdpibcniodhinaa.Gh
open Go Go.RowKit
set_option linter.unusedVariables false

theorem alive_lt {K : Kr} (hs : Sat K) {b : Nat} {cs : List GV} (e : K.H b = some cs) (hz : 0 < K.sz b) : K.σ b < K.w.heap.size := by
  obtain ⟨row, T, h1, _⟩ := hs.blk b cs e hz
  exact (Array.getElem?_eq_some_iff.1 h1).1

theorem gat_set (cs : List GV) (o j : Nat) (g : GV) (h : o < cs.length) : gat (cs.set o g) j = if j = o then g else gat cs j := by
  simp only [gat, List.getD_eq_getElem?_getD, List.getElem?_set]
  by_cases e : o = j
  · subst e; simp [h]
  · simp [e, Ne.symm e]

/-- a higher bound on names -/
theorem lo_step (K : Kr) {lo' : Nat} (h : K.lo ≤ lo') : KStep K { K with lo := lo' } :=
  ⟨rfl, rfl, rfl, Nat.le_refl _, fun _ h => h, fun _ _ => rfl, h, fun b _ _ => ⟨rfl, rfl⟩, fun b h e => absurd e h, fun _ _ h => h⟩
theorem lo_sat {K : Kr} (hs : Sat K) {lo' : Nat} (h : K.lo ≤ lo') : Sat { K with lo := lo' } :=
  ⟨hs.len, fun b cs e hz => by
    obtain ⟨row, T, h1, h2, h3, h4⟩ := hs.blk b cs e hz
    exact ⟨row, T, h1, h2, fun j hj => (h3 j hj).mono (lo_step K h), h4⟩, hs.inj, hs.sS⟩

/-- names that are let go -/
theorem kill_step (K : Kr) (p : Nat → Bool) (h : ∀ b, p b = true → K.H b ≠ none → b < K.lo) : KStep K { K with H := fun x => if p x then none else K.H x } where
  os := rfl
  tape := rfl
  output := rfl
  size := Nat.le_refl _
  S _ h := h
  keep _ _ := rfl
  lo := Nat.le_refl _
  live _ _ _ := ⟨rfl, rfl⟩
  dies x h1 h2 := by
    by_cases e : p x = true
    · exact h x e h1
    · simp only [e, Bool.false_eq_true, if_false] at h2; exact absurd h2 h1
  dead x _ h2 := by
    by_cases e : p x = true
    · simp only [e, if_true]
    · simp only [e, Bool.false_eq_true, if_false]; exact h2
theorem kill_sat {K : Kr} (hs : Sat K) (p : Nat → Bool) (h : ∀ b, p b = true → K.H b ≠ none → b < K.lo) : Sat { K with H := fun x => if p x then none else K.H x } := by
  have hst := kill_step K p h
  have key : ∀ x cs, (if p x then none else K.H x) = some cs → K.H x = some cs := by
    intro x cs e
    by_cases e' : p x = true
    · rw [if_pos e'] at e; cases e
    · rw [if_neg e'] at e; exact e
  have key' : ∀ x, (if p x then none else K.H x) ≠ none → K.H x ≠ none := by
    intro x e
    obtain ⟨cs, hcs⟩ := Option.ne_none_iff_exists'.1 e
    rw [key x cs hcs]; simp
  refine ⟨fun b cs e => hs.len b cs (key b cs e), ?_, fun x y h1 h2 => hs.inj x y (key' x h1) (key' y h2), hs.sS⟩
  intro b cs e hz
  obtain ⟨row, T, h1, h2, h3, h4⟩ := hs.blk b cs (key b cs e) hz
  exact ⟨row, T, h1, h2, fun j hj => (h3 j hj).mono hst, h4⟩

end Go.Proofs.Ytdpibcniodhinaa.Gh
/- The ghost code: operations with their types resolved, what they do to ghost values and own blocks, and how they are read off the program's own code. -/
namespace Go.Proofs.Ytdpibcniodhinaa.Gh
open Go Go.RowKit
set_option linter.unusedVariables false

inductive GX where
  | t (i : Nat)
  | c (g : GV)

inductive GOp where
  | mov (x : GX)
  | pick (c a b : GX)
  | bin (op : BinOp) (x y : GX)
  | isnil (neg : Bool) (x : GX)
  | isnilu (neg : Bool) (x : GX)
  | un (op : UnOp) (x : GX)
  | field (off : Nat) (n : Option Nat) (x : GX)
  | fieldAddr (off : Nat) (x : GX)
  | indexAddr (size : Nat) (x i : GX)
  | arrAddr (len size : Nat) (x i : GX)
  | nilCheck (x : GX)
  | extract (i : Nat) (x : GX)
  | len (x : GX)
  | mm (max : Bool) (x y : GX)
  | build (zero : List GV) (parts : List (Nat × Nat × GX))
  | slice (x : GX) (lo hi mx : Option GX)
  | conv (k : IntKind) (x : GX)
  | mkfn (f : FuncId) (caps : List GX)
  | load (n : Option Nat) (x : GX)
  | store (n : Nat) (x v : GX)
  | box (v : GX)
  | alloc (cs : List GV)
  | empty
  | bslice (n : Nat) (cells : List GV) (parts : List (Nat × Nat × GX))
  | blit (cells : List GV) (parts : List (Nat × Nat × GX))
  | mslicep (z : GV) (bytes : Nat) (l c : GX)
  | appendp (bytes : Nat) (s x : GX)
  | mslice (z : GV) (bytes : Nat) (l c : GX)
  | append (bytes : Nat) (s x : GX)
  | copy (d s : GX)
  | call (f : FuncId) (args : List GX)
  | callv (x : GX) (args : List GX)

structure GOper where
  dst : Option Nat
  op : GOp
  guard : Option (Nat × Bool) := none

inductive GCode where
  | skip
  | region (ops : List GOper)
  | draw (ms : List Nat) (pre tail : List GOper)
  | seq (a b : GCode)
  | cond (c : GX) (a b : GCode)
  | block (id : Nat) (a : GCode)
  | loop (a : GCode)
  | exit (id : Nat)
  | ret

abbrev Heap := Nat → Option (List GV)
def gev (t : List GV) : GX → GV
  | .t i => gat t i
  | .c g => g

/-- the cells of a value -/
def gcells : GV → Option (List GV)
  | .agg cs => some cs
  | .tup _ => none
  | .undef => none
  | g => some [g]
def isCell : GV → Bool
  | .agg _ => false
  | .tup _ => false
  | .undef => false
  | _ => true
def setL (cs : List GV) (o : Nat) : List GV → List GV
  | [] => cs
  | g :: gs => setL (cs.set o g) (o + 1) gs
def gfill (t : List GV) : List GV → List (Nat × Nat × GX) → Option (List GV)
  | cs, [] => some cs
  | cs, (off, size, x) :: rest =>
    match gcells (gev t x) with
    | none => none
    | some vs => if vs.length = size ∧ off + size ≤ cs.length then gfill t (setL cs off vs) rest else none

def gbin (op : BinOp) : GV → GV → Option GV
  | .int k a, .int k' b =>
    if k = k' then
      match op with
      | .add => some (.int k (k.wrap (a + b)))
      | .sub => some (.int k (k.wrap (a - b)))
      | .mul => some (.int k (k.wrap (a * b)))
      | .quo => if b = 0 then none else some (.int k (k.wrap (a.tdiv b)))
      | .rem => if b = 0 then none else some (.int k (a.tmod b))
      | .xor => some (.int k (k.wrap (BitVec.ofInt k.bits a ^^^ BitVec.ofInt k.bits b).toNat))
      | .and => some (.int k (k.wrap (BitVec.ofInt k.bits a &&& BitVec.ofInt k.bits b).toNat))
      | .or => some (.int k (k.wrap (BitVec.ofInt k.bits a ||| BitVec.ofInt k.bits b).toNat))
      | .eql => some (.bool (a == b))
      | .neq => some (.bool (a != b))
      | .lss => some (.bool (decide (a < b)))
      | .leq => some (.bool (decide (a ≤ b)))
      | .gtr => some (.bool (decide (a > b)))
      | .geq => some (.bool (decide (a ≥ b)))
      | _ => none
    else none
  | _, _ => none
def gint? : GV → Option Int
  | .int _ n => some n
  | _ => none
/-- a bound of a slice expression -/
def gbound (d : Nat) (t : List GV) : Option GX → Option Nat
  | none => some d
  | some x => match gev t x with
    | .int _ i => if 0 ≤ i then some i.toNat else none
    | _ => none

def gpure (t : List GV) : GOp → Option GV
  | .mov x => some (gev t x)
  | .pick c a b => match gev t c with
    | .bool true => some (gev t a)
    | .bool false => some (gev t b)
    | _ => none
  | .bin op x y => gbin op (gev t x) (gev t y)
  | .un op x => match op, gev t x with
    | .not, .bool b => some (.bool !b)
    | .neg, .int k n => some (.int k (k.wrap (0 - n)))
    | _, _ => none
  | .field off n x => match gev t x with
    | .agg cs => (match n with
      | none => if off < cs.length then some (gat cs off) else none
      | some m => if off + m ≤ cs.length then some (.agg ((cs.drop off).take m)) else none)
    | _ => none
  | .fieldAddr off x => match gev t x with
    | .ptr b o => some (.ptr b (o + off))
    | .pp cs o => some (.pp cs (o + off))
    | _ => none
  | .indexAddr size x i => match gev t x, gev t i with
    | .own b o n, .int _ i => if 0 ≤ i ∧ i < n then some (.ptr b (o + i.toNat * size)) else none
    | .sl n cs, .int _ i => if 0 ≤ i ∧ i < n ∧ i.toNat * size < cs.length then some (.pp cs (i.toNat * size)) else none
    | .lit cs, .int _ i => if 0 ≤ i ∧ i < cs.length ∧ size = 1 then some (.pp cs i.toNat) else none
    | _, _ => none
  | .arrAddr len size x i => match gev t x, gev t i with
    | .ptr b o, .int _ i => if 0 ≤ i ∧ i < len then some (.ptr b (o + i.toNat * size)) else none
    | .pp cs o, .int _ i => if 0 ≤ i ∧ i < len then some (.pp cs (o + i.toNat * size)) else none
    | _, _ => none
  | .nilCheck x => match gev t x with
    | .ptr b o => some (.ptr b o)
    | .pp cs o => some (.pp cs o)
    | _ => none
  | .extract i x => match gev t x with
    | .tup vs => if i < vs.length then some (gat vs i) else none
    | _ => none
  | .len x => match gev t x with
    | .nil => some (.int .i64 0)
    | .emp => some (.int .i64 0)
    | .lit cs => some (.int .i64 cs.length)
    | .sl n _ => some (.int .i64 n)
    | .own _ _ n => some (.int .i64 n)
    | _ => none
  | .mm mx x y => match gev t x, gev t y with
    | .int k a, .int _ b => some (.int k (if mx then (if b > a then b else a) else (if b < a then b else a)))
    | _, _ => none
  | .build zero parts => (gfill t zero parts).map .agg
  | .conv k x => match gev t x with
    | .int _ n => some (.int k (k.wrap n))
    | _ => none
  | .mkfn f caps => some (.fn f (caps.map (gev t)))
  | .isnil neg x => match gev t x with
    | .nil => some (.bool !neg)
    | .own _ _ n => if 0 < n then some (.bool neg) else none
    | .emp => some (.bool neg)
    | .lit _ => some (.bool neg)
    | _ => none
  | .slice x lo hi mx => match gev t x with
    | .nil => if gbound 0 t lo = some 0 ∧ gbound 0 t hi = some 0 ∧ gbound 0 t mx = some 0 then some .nil else none
    | .sl n cs => (match gbound 0 t lo, gbound n t hi, gbound n t mx with
      | some l, some h, some m => if l ≤ h ∧ h ≤ m ∧ m ≤ n ∧ cs.length = n then some (.sl (h - l) ((cs.drop l).take (h - l))) else none
      | _, _, _ => none)
    | .own b o n => (match gbound 0 t lo, gbound n t hi, gbound n t mx with
      | some l, some h, some m => if l ≤ h ∧ h ≤ m ∧ m ≤ n then some (.own b (o + l) (h - l)) else none
      | _, _, _ => none)
    | _ => none
  | _ => none

/-- nothing has a name from n on -/
def Fr (H : Heap) (n : Nat) : Prop := ∀ b, n ≤ b → H b = none
/-- the elements of a slice of one-celled elements -/
def gelems (H : Heap) : GV → Option (List GV)
  | .nil => some []
  | .emp => some []
  | .lit cs => some cs
  | .sl n cs => if cs.length = n then some cs else none
  | .own b o n => match H b with
    | some cs => if o + n ≤ cs.length then some ((cs.drop o).take n) else none
    | none => none
  | _ => none

/-- the arguments' values stand for the ghost values -/
def VRs (K : Kr) (gs : List GV) (vs : Array Value) : Prop := vs.size = gs.length ∧ ∀ j, j < gs.length → VR K (gat gs j) (vat vs j)

/-- a function with a Go body -/
def okFn (P : Program) (f : FuncId) : Bool := match P.funcs[f]? with
  | some fn => fn.body.isSome && !(fn.name == "runtime.NumGoroutine")
  | none => false
/-- THE CONTRACT OF A FUNCTION: called with what the ghost values stand for it returns what g stands for, and leaves the own blocks as H' says -/
def Spec (P : Program) (f : FuncId) (args : List GV) (H : Heap) (n : Nat) (g : GV) (H' : Heap) (n' : Nat) : Prop :=
  ∀ (K : Kr) (vs : Array Value), K.H = H → K.lo = n → Fr H n → Sat K → VRs K args vs →
    Calls P f vs K.w fun e w' => ∃ v K', e = .returned v ∧ K'.w = w' ∧ KStep K K' ∧ K'.H = H' ∧ K'.lo = n' ∧ Fr H' n' ∧ Sat K' ∧ VR K' g v

/-- a contract with several ends -/
def SpecS (P : Program) (f : FuncId) (args : List GV) (H : Heap) (n : Nat) (G : GV → Heap → Nat → Prop) : Prop :=
  ∀ (K : Kr) (vs : Array Value), K.H = H → K.lo = n → Fr H n → Sat K → VRs K args vs →
    Calls P f vs K.w fun e w' => ∃ g H' n' v K', G g H' n' ∧ e = .returned v ∧ K'.w = w' ∧ KStep K K' ∧ K'.H = H' ∧ K'.lo = n' ∧ Fr H' n' ∧ Sat K' ∧ VR K' g v
theorem Spec.s {P : Program} {f : FuncId} {args : List GV} {H H' : Heap} {n n' : Nat} {g : GV} (h : Spec P f args H n g H' n') : SpecS P f args H n fun g1 H1 n1 => g1 = g ∧ H1 = H' ∧ n1 = n' := by
  intro K vs e1 e2 hF hs hv
  refine Calls.mono (h K vs e1 e2 hF hs hv) ?_
  rintro e w' ⟨v, K', h1⟩
  exact ⟨g, H', n', v, K', ⟨rfl, rfl, rfl⟩, h1⟩
def put (t : List GV) (d : Option Nat) (g : GV) : List GV := match d with
  | none => t
  | some d => t.set d g

/-- a ghost operation: k is asked of what it yields and leaves -/
def gop (P : Program) (t : List GV) (H : Heap) (n : Nat) (k : GV → Heap → Nat → Prop) : GOp → Prop
  | .isnilu neg x => (match gev t x with
    | .sl _ cs => (cs = [] → k (.bool !neg) H n) ∧ k (.bool neg) H n
    | _ => False)
  | .load none x => (match gev t x with
    | .ptr b o => (match H b with
      | some cs => o < cs.length ∧ k (gat cs o) H n
      | none => False)
    | .pp cs o => o < cs.length ∧ k (gat cs o) H n
    | _ => False)
  | .load (some m) x => (match gev t x with
    | .ptr b o => (match H b with
      | some cs => o + m ≤ cs.length ∧ k (.agg ((cs.drop o).take m)) H n
      | none => False)
    | .pp cs o => o + m ≤ cs.length ∧ k (.agg ((cs.drop o).take m)) H n
    | _ => False)
  | .store m x v => (match gev t x, gcells (gev t v) with
    | .ptr b o, some vs => (match H b with
      | some cs => vs.length = m ∧ vs.all isCell = true ∧ o + m ≤ cs.length ∧ k .undef (upd H b (some (setL cs o vs))) n
      | none => False)
    | _, _ => False)
  | .box v => (match gcells (gev t v) with
    | some vs => k (.ptr n 0) (upd H n (some vs)) (n + 1)
    | none => False)
  | .alloc cs => k (.ptr n 0) (upd H n (some cs)) (n + 1)
  | .empty => k .emp H n
  | .bslice m cells parts => (match gfill t cells parts with
    | some cs => m ≤ cs.length ∧ k (.own n 0 m) (upd H n (some cs)) (n + 1)
    | none => False)
  | .blit cells parts => (match gfill t cells parts with
    | some cs => k (.lit cs) H n
    | none => False)
  | .mslicep z bytes l c => (match gev t l, gev t c with
    | .int .i64 a, .int .i64 b => 0 ≤ a ∧ a = b ∧ a * bytes ≤ 281474976710656 ∧ 0 < bytes ∧ k (.sl a.toNat (List.replicate a.toNat z)) H n
    | _, _ => False)
  | .mslice z bytes l c => (match gev t l, gev t c with
    | .int .i64 a, .int .i64 b => 0 ≤ a ∧ a = b ∧ a * bytes ≤ 281474976710656 ∧ 0 < bytes ∧ k (.own n 0 a.toNat) (upd H n (some (List.replicate a.toNat z))) (n + 1)
    | _, _ => False)
  | .append bytes s x => (match gelems H (gev t x) with
    | none => False
    | some ys => (match gev t s with
      | .nil => ys.length * bytes ≤ 140737488355328 ∧ k (.own n 0 ys.length) (upd H n (some ys)) (n + 1)
      | .emp => ys.length * bytes ≤ 140737488355328 ∧ k (.own n 0 ys.length) (upd H n (some ys)) (n + 1)
      | .lit cs => ys ≠ [] ∧ (cs.length + ys.length) * bytes ≤ 140737488355328 ∧ k (.own n 0 (cs.length + ys.length)) (upd H n (some (cs ++ ys))) (n + 1)
      | .own b 0 m => (match H b with
        | some cs => cs.length = m ∧ ys.all isCell = true ∧ (m + ys.length) * bytes ≤ 140737488355328 ∧ k (.own n 0 (m + ys.length)) (upd (upd H b none) n (some (cs ++ ys))) (n + 1)
        | none => False)
      | _ => False))
  | .appendp bytes s x => (match gelems H (gev t s), gelems H (gev t x) with
    | some cs, some ys => (match gev t s with
      | .nil => ys.length * bytes ≤ 140737488355328 ∧ k (.sl ys.length ys) H n
      | .emp => ys.length * bytes ≤ 140737488355328 ∧ k (.sl ys.length ys) H n
      | .lit _ => (cs.length + ys.length) * bytes ≤ 140737488355328 ∧ k (.sl (cs.length + ys.length) (cs ++ ys)) H n
      | _ => False)
    | _, _ => False)
  | .copy d s => (match gev t d, gelems H (gev t s) with
    | .own b o m, some ys => (match H b with
      | some cs => o + m ≤ cs.length ∧ ys.all isCell = true ∧ k (.int .i64 (min ys.length m : Nat)) (upd H b (some (setL cs o (ys.take (min ys.length m))))) n
      | none => False)
    | _, _ => False)
  | .call f args => ∃ G, SpecS P f (args.map (gev t)) H n G ∧ ∀ g H' n', G g H' n' → k g H' n'
  | .callv x args => (match gev t x with
    | .fn f caps => ∃ G, okFn P f = true ∧ SpecS P f (args.map (gev t) ++ caps) H n G ∧ ∀ g H' n', G g H' n' → k g H' n'
    | _ => False)
  | op => (match gpure t op with
    | some g => k g H n
    | none => False)

/-- operations one behind the other -/
def gops (P : Program) : List GOper → (List GV → Heap → Nat → Prop) → List GV → Heap → Nat → Prop
  | [], k, t, H, n => k t H n
  | o :: rest, k, t, H, n => (match o.guard with
    | none => gop P t H n (fun g H' n' => gops P rest k (put t o.dst g) H' n') o.op
    | some (j, want) => (match gat t j with
      | .bool b => if b = want then gop P t H n (fun g H' n' => gops P rest k (put t o.dst g) H' n') o.op else gops P rest k (put t o.dst (.tup [])) H n
      | .tup [] => gops P rest k (put t o.dst (.tup [])) H n
      | _ => False))

/-- it leads to own blocks that are there, or whose names lie below n, alone -/
inductive Sc (H : Heap) (n : Nat) : GV → Prop
  | int (k : IntKind) (i : Int) : Sc H n (.int k i)
  | bool (b : Bool) : Sc H n (.bool b)
  | nil : Sc H n .nil
  | emp : Sc H n .emp
  | lit (cs : List GV) : (∀ j, j < cs.length → Sc H n (gat cs j)) → Sc H n (.lit cs)
  | sl (m : Nat) (cs : List GV) : (∀ j, j < cs.length → Sc H n (gat cs j)) → Sc H n (.sl m cs)
  | own (b o m : Nat) : H b ≠ none ∨ b < n → Sc H n (.own b o m)
  | ptr (b o : Nat) : H b ≠ none ∨ b < n → Sc H n (.ptr b o)
  | pp (cs : List GV) (o : Nat) : (∀ j, j < cs.length → Sc H n (gat cs j)) → Sc H n (.pp cs o)
  | nilp : Sc H n .nilp
  | agg (cs : List GV) : (∀ j, j < cs.length → Sc H n (gat cs j)) → Sc H n (.agg cs)
  | tup (cs : List GV) : (∀ j, j < cs.length → Sc H n (gat cs j)) → Sc H n (.tup cs)
  | fn (f : FuncId) (cs : List GV) : (∀ j, j < cs.length → Sc H n (gat cs j)) → Sc H n (.fn f cs)
  | undef : Sc H n .undef
/-- it leads to no own block -/
abbrev Nr (g : GV) : Prop := Sc (fun _ => none) 0 g

/-- a ghost operation of a region whose order is open: it reads what was there before the region (names below n0, as H0 has them), or makes a block of its own -/
def gmop (P : Program) (H0 : Heap) (n0 : Nat) (t : List GV) (n : Nat) (k : GV → Option (List GV) → Prop) : GOp → Prop
  | .isnilu _ _ => False
  | .load none x => (match gev t x with
    | .ptr b o => (match H0 b with
      | some cs => b < n0 ∧ o < cs.length ∧ k (gat cs o) none
      | none => False)
    | .pp cs o => o < cs.length ∧ k (gat cs o) none
    | _ => False)
  | .load (some m) x => (match gev t x with
    | .ptr b o => (match H0 b with
      | some cs => b < n0 ∧ o + m ≤ cs.length ∧ k (.agg ((cs.drop o).take m)) none
      | none => False)
    | .pp cs o => o + m ≤ cs.length ∧ k (.agg ((cs.drop o).take m)) none
    | _ => False)
  | .box v => (match gcells (gev t v) with
    | some vs => k (.ptr n 0) (some vs)
    | none => False)
  | .alloc cs => k (.ptr n 0) (some cs)
  | .empty => k .emp none
  | .bslice m cells parts => (match gfill t cells parts with
    | some cs => m ≤ cs.length ∧ k (.own n 0 m) (some cs)
    | none => False)
  | .blit cells parts => (match gfill t cells parts with
    | some cs => k (.lit cs) none
    | none => False)
  | .mslicep z bytes l c => (match gev t l, gev t c with
    | .int .i64 a, .int .i64 b => 0 ≤ a ∧ a = b ∧ a * bytes ≤ 281474976710656 ∧ 0 < bytes ∧ k (.sl a.toNat (List.replicate a.toNat z)) none
    | _, _ => False)
  | .mslice z bytes l c => (match gev t l, gev t c with
    | .int .i64 a, .int .i64 b => 0 ≤ a ∧ a = b ∧ a * bytes ≤ 281474976710656 ∧ 0 < bytes ∧ k (.own n 0 a.toNat) (some (List.replicate a.toNat z))
    | _, _ => False)
  | .call f args => ∃ g, Nr g ∧ (∀ H' n', (∀ b, b < n0 → H' b = H0 b) → n0 ≤ n' → Spec P f (args.map (gev t)) H' n' g H' n') ∧ k g none
  | .append bytes s x => (match gelems (fun b => if b < n0 then H0 b else none) (gev t x) with
    | none => False
    | some ys => (match gev t s with
      | .nil => ys.length * bytes ≤ 140737488355328 ∧ k (.own n 0 ys.length) (some ys)
      | .emp => ys.length * bytes ≤ 140737488355328 ∧ k (.own n 0 ys.length) (some ys)
      | _ => False))
  | .appendp bytes s x => (match gelems (fun b => if b < n0 then H0 b else none) (gev t s), gelems (fun b => if b < n0 then H0 b else none) (gev t x) with
    | some cs, some ys => (match gev t s with
      | .nil => ys.length * bytes ≤ 140737488355328 ∧ k (.sl ys.length ys) none
      | .emp => ys.length * bytes ≤ 140737488355328 ∧ k (.sl ys.length ys) none
      | .lit _ => (cs.length + ys.length) * bytes ≤ 140737488355328 ∧ k (.sl (cs.length + ys.length) (cs ++ ys)) none
      | _ => False)
    | _, _ => False)
  | .store _ _ _ => False
  | .copy _ _ => False
  | .callv _ _ => False
  | op => (match gpure t op with
    | some g => k g none
    | none => False)
def updo (H : Heap) (n : Nat) : Option (List GV) → Heap
  | none => H
  | some cs => upd H n (some cs)
def nxt (n : Nat) : Option (List GV) → Nat
  | none => n
  | some _ => n + 1
def gmops (P : Program) (H0 : Heap) (n0 : Nat) : List GOper → (List GV → Heap → Nat → Prop) → List GV → Heap → Nat → Prop
  | [], k, t, H, n => k t H n
  | o :: rest, k, t, H, n => (match o.guard with
    | none => gmop P H0 n0 t n (fun g new => gmops P H0 n0 rest k (put t o.dst g) (updo H n new) (nxt n new)) o.op
    | some (j, want) => (match gat t j with
      | .bool b => if b = want then gmop P H0 n0 t n (fun g new => gmops P H0 n0 rest k (put t o.dst g) (updo H n new) (nxt n new)) o.op else gmops P H0 n0 rest k (put t o.dst .undef) H n
      | _ => False))

inductive GExit where
  | normal
  | exit (id : Nat)
  | ret
abbrev GPost := GExit → List GV → Heap → Nat → Prop
def gloop (body : GPost → List GV → Heap → Nat → Prop) : Nat → GPost → List GV → Heap → Nat → Prop
  | 0, _, _, _, _ => False
  | k + 1, Q, t, H, n => body (fun e t' H' n' => match e with
    | .normal => gloop body k Q t' H' n'
    | e => Q e t' H' n') t H n
/-- the ghost code's weakest precondition -/
def gw (P : Program) : GCode → GPost → List GV → Heap → Nat → Prop
  | .skip, Q, t, H, n => Q .normal t H n
  | .region ops, Q, t, H, n => gops P ops (Q .normal) t H n
  | .draw _ pre tail, Q, t, H, n => gmops P H n pre (fun t' H' n' => gops P tail (Q .normal) t' H' n') t H n
  | .seq a b, Q, t, H, n => gw P a (fun e t' H' n' => match e with
    | .normal => gw P b Q t' H' n'
    | e => Q e t' H' n') t H n
  | .cond c a b, Q, t, H, n => (match gev t c with
    | .bool v => if v then gw P a Q t H n else gw P b Q t H n
    | _ => False)
  | .block id a, Q, t, H, n => gw P a (fun e t' H' n' => match e with
    | .exit id' => if id' = id then Q .normal t' H' n' else Q (.exit id') t' H' n'
    | e => Q e t' H' n') t H n
  | .loop a, Q, t, H, n => ∃ k, gloop (gw P a) k Q t H n
  | .exit id, Q, t, H, n => Q (.exit id) t H n
  | .ret, Q, t, H, n => Q .ret t H n
end Go.Proofs.Ytdpibcniodhinaa.Gh
/- The ghost code is held against the program's own code, and the operations that leave memory alone do what the ghost code says. -/
namespace Go.Proofs.Ytdpibcniodhinaa.Gh
open Go Go.RowKit
set_option linter.unusedVariables false

def sameV : Value → GV → Bool
  | .int k n, .int k' n' => k == k' && n == n'
  | .bool b, .bool b' => b == b'
  | .slice none 0 0, .nil => true
  | .pointer none, .nilp => true
  | _, _ => false
def sameC : Value → GV → Bool
  | .agg us, .agg cs => us.size == cs.length && (List.range cs.length).all fun j => sameV (vat us j) (gat cs j)
  | v, g => sameV v g
theorem sameV_VR (K : Kr) {v : Value} {g : GV} (h : sameV v g = true) : VR K g v := by
  unfold sameV at h
  split at h
  · simp only [Bool.and_eq_true, beq_iff_eq] at h; obtain ⟨rfl, rfl⟩ := h; exact .int _ _
  · simp only [beq_iff_eq] at h; subst h; exact .bool _
  · exact .nil
  · exact .nilp
  · cases h
theorem sameC_VR (K : Kr) {v : Value} {g : GV} (h : sameC v g = true) : VR K g v := by
  unfold sameC at h
  split at h
  · simp only [Bool.and_eq_true, beq_iff_eq, List.all_eq_true, List.mem_range] at h
    exact .agg _ _ h.1 fun j hj => sameV_VR K (h.2 j hj)
  · exact sameV_VR K h

def okX : Operand → GX → Bool
  | .tmp i, .t j => i == j
  | .const v, .c g => sameC v g
  | .func f, .c (.fn f' []) => f == f'
  | _, _ => false
def TR (K : Kr) (t : List GV) (tm : Array Value) : Prop := t.length = tm.size ∧ ∀ i, VR K (gat t i) (vat tm i)
theorem okX_VR {K : Kr} {t : List GV} {a : Act} (ht : TR K t a.tmps) {x : Operand} {g : GX} (h : okX x g = true) : VR K (gev t g) (a.eval x) := by
  unfold okX at h
  split at h
  · simp only [beq_iff_eq] at h; subst h; exact ht.2 _
  · exact sameC_VR K h
  · simp only [beq_iff_eq] at h; subst h; exact .fn _ [] #[] rfl (fun j hj => by simp at hj)
  · cases h
theorem TR.mono {K K' : Kr} (h : KStep K K') {t : List GV} {tm : Array Value} (r : TR K t tm) : TR K' t tm := ⟨r.1, fun i => (r.2 i).mono h⟩
theorem TR.put {K : Kr} {t : List GV} {a : Act} (r : TR K t a.tmps) {g : GV} {v : Value} (h : VR K g v) (d : Option Nat) : TR K (put t d g) (a.put d v).tmps := by
  cases d with
  | none => exact r
  | some d =>
    refine ⟨by simp [Gh.put, Act.put, r.1], fun i => ?_⟩
    simp only [Gh.put, Act.put, gat, vat, List.getD_eq_getElem?_getD, List.getElem?_set, Array.getD_eq_getD_getElem?, Array.getElem?_setIfInBounds]
    by_cases e : d = i
    · subst e
      by_cases hd : d < t.length
      · have hd' : d < a.tmps.size := by rw [← r.1]; exact hd
        simp [hd, hd', h]
      · have hd' : ¬ d < a.tmps.size := by rw [← r.1]; exact hd
        simp [hd, hd']; exact .undef _
    · simp only [e, if_false]
      have := r.2 i
      simpa [gat, vat, List.getD_eq_getElem?_getD, Array.getD_eq_getD_getElem?] using this

def isAggB (P : Program) (T : TypeId) : Option Bool := match P.underlying T with
  | some (.struct _) => some true
  | some (.array _ _) => some true
  | some _ => some false
  | none => none
/-- a type's count of cells, if it is a struct or an array; none, if it is of one cell -/
def shapeOf (P : Program) (T : TypeId) : Option (Option Nat) := match isAggB P T with
  | some true => (P.info? T).map fun i => some i.size
  | some false => some none
  | none => none
def sizeB (P : Program) (T : TypeId) : Option Nat := (P.info? T).map (·.size)
def bytesB (P : Program) (T : TypeId) : Option Nat := (P.info? T).map (·.bytes)
def zeroB (P : Program) (T : TypeId) : Option Value := (P.info? T).bind (·.zero)
def elemB (P : Program) (T : TypeId) : Option TypeId := match P.underlying T with
  | some (.slice e) => some e
  | _ => none
def arrB (P : Program) (T : TypeId) : Option (Nat × TypeId) := match P.underlying T with
  | some (.array n e) => some (n, e)
  | _ => none
def fieldB (P : Program) (T : TypeId) (f : Nat) : Option Field := match P.underlying T with
  | some (.struct fs) => fs[f]?
  | _ => none
def okXs : List Operand → List GX → Bool
  | [], [] => true
  | x :: xs, g :: gs => okX x g && okXs xs gs
  | _, _ => false
def okO : Option Operand → Option GX → Bool
  | none, none => true
  | some x, some g => okX x g
  | _, _ => false
def sameCs (us : Array Value) (cs : List GV) : Bool := us.size == cs.length && (List.range cs.length).all fun j => sameV (vat us j) (gat cs j)
def okParts (place : Nat → Option (Nat × Nat)) : List (Nat × Operand) → List (Nat × Nat × GX) → Bool
  | [], [] => true
  | (i, x) :: xs, (off, size, g) :: gs => place i == some (off, size) && okX x g && okParts place xs gs
  | _, _ => false
def repCells (zero : Array Value) (n : Nat) : Array Value := (Array.range n).map (zero[· % zero.size]!)

def okBuiltin (P : Program) (b : Builtin) (args : List Operand) (ts : List TypeId) (go : GOp) : Bool := match b with
  | .len => (match args, ts, go with
    | [x], [T], .len x' => (elemB P T).isSome && okX x x'
    | _, _, _ => false)
  | .max => (match args, go with
    | [x, y], .mm true x' y' => okX x x' && okX y y'
    | _, _ => false)
  | .min => (match args, go with
    | [x, y], .mm false x' y' => okX x x' && okX y y'
    | _, _ => false)
  | .append => (match args, ts, go with
    | [s, x], [T, T'], .append bytes s' x' => (match elemB P T with
      | some e => T == T' && bytesB P e == some bytes && !(bytes == 0) && sizeB P e == some 1 && (zeroB P e).any (·.cells.size == 1) && okX s s' && okX x x'
      | none => false)
    | [s, x], [T, T'], .appendp bytes s' x' => (match elemB P T with
      | some e => T == T' && bytesB P e == some bytes && !(bytes == 0) && sizeB P e == some 1 && (zeroB P e).any (·.cells.size == 1) && okX s s' && okX x x'
      | none => false)
    | _, _, _ => false)
  | .copy => (match args, ts, go with
    | [d, s], [T, _], .copy d' s' => (match elemB P T with
      | some e => sizeB P e == some 1 && okX d d' && okX s s'
      | none => false)
    | _, _, _ => false)
  | _ => false
def okCall (P : Program) (c : Call) (go : GOp) : Bool := match c.callee with
  | .builtin b => okBuiltin P b c.args.toList c.argTypes.toList go
  | .value (.func f) => (match go with
    | .call f' args' => f == f' && okXs c.args.toList args' && okFn P f
    | _ => false)
  | .value x => (match go with
    | .callv x' args' => okX x x' && okXs c.args.toList args'
    | _ => false)
  | _ => false
def okBin (P : Program) (op : BinOp) (T : TypeId) (x y : Operand) (go : GOp) : Bool := match go with
  | .bin op' x' y' => op == op' && okX x x' && okX y y' && !(op == .shl) && !(op == .shr)
  | .isnil neg x' => (if neg then op == .neq else op == .eql) && okX x x' && (elemB P T).isSome && (match y with
    | .const (.slice none 0 0) => true
    | _ => false)
  | .isnilu neg x' => (if neg then op == .neq else op == .eql) && okX x x' && (elemB P T).isSome && (match y with
    | .const (.slice none 0 0) => true
    | _ => false)
  | _ => false
def okField (P : Program) (T : TypeId) (x : Operand) (f : Nat) (go : GOp) : Bool := match go with
  | .field off n x' => (match fieldB P T f with
    | some fd => fd.offset == off && shapeOf P fd.type == some n && okX x x'
    | none => false)
  | _ => false
def okFieldAddr (P : Program) (T : TypeId) (x : Operand) (f : Nat) (go : GOp) : Bool := match go with
  | .fieldAddr off x' => (match fieldB P T f with
    | some fd => fd.offset == off && (match sizeB P fd.type with | some s => !(s == 0) | none => false) && okX x x'
    | none => false)
  | _ => false
def okIndexAddr (P : Program) (T : TypeId) (x i : Operand) (go : GOp) : Bool := match go with
  | .indexAddr size x' i' => (match elemB P T with
    | some e => sizeB P e == some size && okX x x' && okX i i'
    | none => false)
  | .arrAddr len size x' i' => (match arrB P T with
    | some (m, e) => m == len && sizeB P e == some size && okX x x' && okX i i'
    | none => false)
  | _ => false
def okConv (P : Program) (src dst : TypeId) (x : Operand) (go : GOp) : Bool := match go with
  | .conv k x' => (match P.underlying src, P.underlying dst with
    | some (.int _), some (.int k') => k == k' && okX x x'
    | _, _ => false)
  | _ => false
def okMkfn (fn : Fn) (first caps : List Operand) (go : GOp) : Bool := match fn, first, go with
  | .func f, [], .mkfn f' caps' => f == f' && okXs caps caps'
  | _, _, _ => false
def okSlice (P : Program) (T : TypeId) (x : Operand) (lo hi mx : Option Operand) (go : GOp) : Bool := match go with
  | .slice x' lo' hi' mx' => (match elemB P T with
    | some e => sizeB P e == some 1 && okX x x' && okO lo lo' && okO hi hi' && okO mx mx' && (mx.isNone || hi.isSome)
    | none => false)
  | _ => false
def okBuild (P : Program) (T : TypeId) (parts : List (Nat × Operand)) (go : GOp) : Bool := match go with
  | .build zero parts' => (match P.underlying T, zeroB P T with
    | some (.struct fs), some z => sameCs z.cells zero && okParts (fun i => (fs[i]?).bind fun f => (sizeB P f.type).map fun s => (f.offset, s)) parts parts' && fs.all fun f => (sizeB P f.type).isSome
    | _, _ => false)
  | _ => false
def okBslice (P : Program) (T : TypeId) (n : Nat) (parts : List (Nat × Operand)) (go : GOp) : Bool := match elemB P T with
  | none => false
  | some e => (match go with
    | .bslice m cells parts' => (match sizeB P e, zeroB P e with
      | some s, some z => n == m && !(n * s > 2 ^ 24) && !(n * s == 0) && sameCs (repCells z.cells (n * s)) cells && okParts (fun i => some (i * s, s)) parts parts'
      | _, _ => false)
    | .blit cells parts' => (match sizeB P e, zeroB P e with
      | some s, some z => s == 1 && !(n > 2 ^ 24) && !(n == 0) && sameCs (repCells z.cells n) cells && okParts (fun i => some (i * s, s)) parts parts'
      | _, _ => false)
    | .empty => n == 0 && parts.isEmpty && (sizeB P e).isSome
    | _ => false)
def okMslice (P : Program) (T : TypeId) (l c : Operand) (go : GOp) : Bool := match elemB P T with
  | none => false
  | some e => (match bytesB P e, zeroB P e with
    | some b, some zv => (match go with
      | .mslice z bytes l' c' => b == bytes && sizeB P e == some 1 && sameCs zv.cells [z] && okX l l' && okX c c'
      | .mslicep z bytes l' c' => b == bytes && sizeB P e == some 1 && sameCs zv.cells [z] && okX l l' && okX c c'
      | _ => false)
    | _, _ => false)

/-- the ghost operation is the program's -/
def okOp (P : Program) (op : Op) (go : GOp) : Bool := match op with
  | .move x => (match go with | .mov y => okX x y | _ => false)
  | .assign x => (match go with | .mov y => okX x y | _ => false)
  | .pick c a b => (match go with | .pick c' a' b' => okX c c' && okX a a' && okX b b' | _ => false)
  | .binOp op T x y _ => okBin P op T x y go
  | .unOp op _ x => (match go with | .un op' x' => op == op' && okX x x' | _ => false)
  | .field T x f => okField P T x f go
  | .fieldAddr T x f => okFieldAddr P T x f go
  | .indexAddr T x i => okIndexAddr P T x i go
  | .nilCheck x => (match go with | .nilCheck x' => okX x x' | _ => false)
  | .extract x i => (match go with | .extract i' x' => i == i' && okX x x' | _ => false)
  | .call c => okCall P c go
  | .convert src dst x => okConv P src dst x go
  | .makeFunc fn first caps => okMkfn fn first.toList caps.toList go
  | .slice T x lo hi mx => okSlice P T x lo hi mx go
  | .build T parts => okBuild P T parts.toList go
  | .load T x => (match go with | .load n x' => shapeOf P T == some n && okX x x' && !(n == some 0) | _ => false)
  | .store T x v => (match go with | .store n x' v' => sizeB P T == some n && okX x x' && okX v v' | _ => false)
  | .box _ v => (match go with | .box v' => okX v v' | _ => false)
  | .alloc T => (match go with
    | .alloc cs => (match zeroB P T with
      | some z => sameCs z.cells cs
      | none => false)
    | _ => false)
  | .buildSlice T n parts => okBslice P T n parts.toList go
  | .makeSlice T l c => okMslice P T l c go
  | _ => false
/-- a test for nil of a slice that is only read is one of the comparisons -/
theorem nu_bslice (P : Program) (T : TypeId) (n : Nat) (parts : List (Nat × Operand)) (neg : Bool) (x : GX) : okBslice P T n parts (.isnilu neg x) = false := by
  unfold okBslice; cases elemB P T <;> rfl
theorem nu_mslice (P : Program) (T : TypeId) (l c : Operand) (neg : Bool) (x : GX) : okMslice P T l c (.isnilu neg x) = false := by
  unfold okMslice
  cases elemB P T with
  | none => rfl
  | some e => simp only; cases bytesB P e <;> cases zeroB P e <;> rfl
theorem nu_mkfn (fn : Fn) (first caps : List Operand) (neg : Bool) (x : GX) : okMkfn fn first caps (.isnilu neg x) = false := by
  unfold okMkfn; split <;> first | rfl | (rename_i h; cases h)
theorem nu_builtin (P : Program) (b : Builtin) (args : List Operand) (ts : List TypeId) (neg : Bool) (x : GX) : okBuiltin P b args ts (.isnilu neg x) = false := by
  unfold okBuiltin
  split <;> first | rfl | (split <;> first | rfl | (rename_i h; cases h))
theorem nu_call (P : Program) (c : Call) (neg : Bool) (x : GX) : okCall P c (.isnilu neg x) = false := by
  unfold okCall
  split
  · exact nu_builtin _ _ _ _ _ _
  · rfl
  · rfl
  · rfl
end Go.Proofs.Ytdpibcniodhinaa.Gh
/- The operations that leave memory alone. -/
namespace Go.Proofs.Ytdpibcniodhinaa.Gh
open Go Go.RowKit
set_option linter.unusedVariables false

theorem VR.int_inv {K : Kr} {k : IntKind} {n : Int} {v : Value} (h : VR K (.int k n) v) : v = .int k n := by cases h; rfl
theorem VR.bool_inv {K : Kr} {b : Bool} {v : Value} (h : VR K (.bool b) v) : v = .bool b := by cases h; rfl
theorem VR.nil_inv {K : Kr} {v : Value} (h : VR K .nil v) : v = .slice none 0 0 := by cases h; rfl
theorem VR.emp_inv {K : Kr} {v : Value} (h : VR K .emp v) : ∃ a, v = .slice (some a) 0 0 := by cases h; exact ⟨_, rfl⟩
theorem VR.sl_inv {K : Kr} {n : Nat} {cs : List GV} {v : Value} (h : VR K (.sl n cs) v) : ∃ A c, v = .slice A n c ∧ n ≤ c := by
  cases h with
  | sl0 _ c A hn => exact ⟨A, c, rfl, hn⟩
  | sl _ c B o _ us hn => exact ⟨_, c, rfl, hn⟩
theorem VR.own_inv {K : Kr} {b o n : Nat} {v : Value} (h : VR K (.own b o n) v) : ∃ A c, v = .slice A n c ∧ n ≤ c ∧ (0 < n → A.isSome = true) := by
  cases h with
  | own _ _ _ c h1 h2 h3 => exact ⟨_, c, rfl, h3, fun _ => rfl⟩
  | own0 _ _ A _ => exact ⟨A, 0, rfl, Nat.le_refl _, fun h => by omega⟩
  | owns _ _ _ B c h1 h2 h3 => exact ⟨_, c, rfl, h3, fun _ => rfl⟩
theorem VR.lit_inv {K : Kr} {cs : List GV} {v : Value} (h : VR K (.lit cs) v) : ∃ ad, v = .slice (some ad) cs.length cs.length := by
  cases h with
  | lit B o _ us => exact ⟨_, rfl⟩
theorem VR.agg_inv {K : Kr} {cs : List GV} {v : Value} (h : VR K (.agg cs) v) : ∃ us, v = .agg us ∧ us.size = cs.length ∧ ∀ j, j < cs.length → VR K (gat cs j) (vat us j) := by
  cases h with
  | agg _ us h1 h2 => exact ⟨us, rfl, h1, h2⟩
theorem VR.tup_inv {K : Kr} {cs : List GV} {v : Value} (h : VR K (.tup cs) v) : ∃ us, v = .tuple us ∧ us.size = cs.length ∧ ∀ j, j < cs.length → VR K (gat cs j) (vat us j) := by
  cases h with
  | tup _ us h1 h2 => exact ⟨us, rfl, h1, h2⟩
theorem VR.fn_inv {K : Kr} {f : FuncId} {cs : List GV} {v : Value} (h : VR K (.fn f cs) v) : ∃ us, v = .func (.func f) #[] us ∧ us.size = cs.length ∧ ∀ j, j < cs.length → VR K (gat cs j) (vat us j) := by
  cases h with
  | fn _ _ us h1 h2 => exact ⟨us, rfl, h1, h2⟩
theorem add_plain (B o n : Nat) : (⟨B, o, none⟩ : Addr).add n = ⟨B, o + n, none⟩ := by
  unfold Addr.add; split <;> simp_all
theorem VR.ptr_inv {K : Kr} {b o : Nat} {v : Value} (h : VR K (.ptr b o) v) : ∃ B, v = .pointer (some ⟨B, o, none⟩) ∧ ∀ o', VR K (.ptr b o') (.pointer (some ⟨B, o', none⟩)) := by
  cases h with
  | ptr _ _ h1 => exact ⟨_, rfl, fun o' => .ptr _ _ h1⟩
  | ptrs _ _ B h1 h2 => exact ⟨B, rfl, fun o' => .ptrs _ _ B h1 h2⟩
theorem VR.pp_inv {K : Kr} {cs : List GV} {o : Nat} {v : Value} (h : VR K (.pp cs o) v) : ∃ B p, v = .pointer (some ⟨B, p + o, none⟩) ∧ ∀ o', VR K (.pp cs o') (.pointer (some ⟨B, p + o', none⟩)) := by
  cases h with
  | pp B p _ _ us h1 h2 h3 => exact ⟨B, p, rfl, fun o' => .pp B p o' _ us h1 h2 h3⟩
theorem VR.own_sc {K : Kr} {b o n : Nat} {v : Value} (h : VR K (.own b o n) v) : K.H b ≠ none ∨ b < K.lo := by
  cases h with
  | own _ _ _ _ h1 _ _ => exact .inl h1
  | own0 _ _ _ h1 => exact h1
  | owns _ _ _ _ _ _ h2 _ => exact .inr h2
/-- where an own slice's element stands -/
theorem VR.own_at {K : Kr} {b o n : Nat} {v : Value} (h : VR K (.own b o n) v) (hn : 0 < n) : ∃ B c, v = .slice (some ⟨B, o, none⟩) n c ∧ ∀ o', VR K (.ptr b o') (.pointer (some ⟨B, o', none⟩)) := by
  cases h with
  | own _ _ _ c h1 h2 h3 => exact ⟨_, c, rfl, fun o' => .ptr _ _ h1⟩
  | own0 _ _ A _ => omega
  | owns _ _ _ B c h1 h2 h3 => exact ⟨B, c, rfl, fun o' => .ptrs _ _ B h1 h2⟩
theorem VR.sl_at {K : Kr} {n : Nat} {cs : List GV} {v : Value} (h : VR K (.sl n cs) v) (hn : 0 < cs.length) : ∃ B o c, v = .slice (some ⟨B, o, none⟩) n c ∧ ∀ j, VR K (.pp cs j) (.pointer (some ⟨B, o + j, none⟩)) := by
  cases h with
  | sl0 _ c A _ => simp at hn
  | sl _ c B o _ us h1 h2 h3 h4 => exact ⟨B, o, c, rfl, fun j => .pp B o j _ us h2 h3 h4⟩
theorem VR.lit_at {K : Kr} {cs : List GV} {v : Value} (h : VR K (.lit cs) v) : ∃ B o, v = .slice (some ⟨B, o, none⟩) cs.length cs.length ∧ ∀ j, VR K (.pp cs j) (.pointer (some ⟨B, o + j, none⟩)) := by
  cases h with
  | lit B o _ us h1 h2 h3 => exact ⟨B, o, rfl, fun j => .pp B o j _ us h1 h2 h3⟩

/-- the cells of what a value stands for -/
theorem cells_VR {K : Kr} {g : GV} {v : Value} (h : VR K g v) {cs : List GV} (e : gcells g = some cs) : v.cells.size = cs.length ∧ ∀ j, j < cs.length → VR K (gat cs j) (vat v.cells j) := by
  have one : ∀ (u : Value), u.cells = #[u] → VR K g u → gcells g = some [g] → cs = [g] → u.cells.size = cs.length ∧ ∀ j, j < cs.length → VR K (gat cs j) (vat u.cells j) := by
    intro u hu hr _ ec
    subst ec; rw [hu]
    refine ⟨rfl, fun j hj => ?_⟩
    have : j = 0 := by simp at hj; exact hj
    subst this; exact hr
  cases h with
  | agg cs' us h1 h2 => simp only [gcells, Option.some.injEq] at e; subst e; exact ⟨h1, h2⟩
  | tup _ _ _ _ => cases e
  | undef _ => cases e
  | int k n => exact one _ rfl (.int k n) rfl (by simpa [gcells] using e.symm)
  | bool b => exact one _ rfl (.bool b) rfl (by simpa [gcells] using e.symm)
  | nil => exact one _ rfl .nil rfl (by simpa [gcells] using e.symm)
  | emp a => exact one _ rfl (.emp a) rfl (by simpa [gcells] using e.symm)
  | lit B o cs' us h1 h2 h3 => exact one _ rfl (.lit B o cs' us h1 h2 h3) rfl (by simpa [gcells] using e.symm)
  | sl0 n c A h1 => exact one _ rfl (.sl0 n c A h1) rfl (by simpa [gcells] using e.symm)
  | sl n c B o cs' us h1 h2 h3 h4 => exact one _ rfl (.sl n c B o cs' us h1 h2 h3 h4) rfl (by simpa [gcells] using e.symm)
  | own b o n c h1 h2 h3 => exact one _ rfl (.own b o n c h1 h2 h3) rfl (by simpa [gcells] using e.symm)
  | own0 b o A h1 => exact one _ rfl (.own0 b o A h1) rfl (by simpa [gcells] using e.symm)
  | owns b o n B c h1 h2 h3 => exact one _ rfl (.owns b o n B c h1 h2 h3) rfl (by simpa [gcells] using e.symm)
  | ptr b o h1 => exact one _ rfl (.ptr b o h1) rfl (by simpa [gcells] using e.symm)
  | ptrs b o B h1 h2 => exact one _ rfl (.ptrs b o B h1 h2) rfl (by simpa [gcells] using e.symm)
  | pp B p o cs' us h1 h2 h3 => exact one _ rfl (.pp B p o cs' us h1 h2 h3) rfl (by simpa [gcells] using e.symm)
  | nilp => exact one _ rfl .nilp rfl (by simpa [gcells] using e.symm)
  | fn f cs' us h1 h2 => exact one _ rfl (.fn f cs' us h1 h2) rfl (by simpa [gcells] using e.symm)

theorem sameCs_VR (K : Kr) {us : Array Value} {cs : List GV} (h : sameCs us cs = true) : us.size = cs.length ∧ ∀ j, j < cs.length → VR K (gat cs j) (vat us j) := by
  simp only [sameCs, Bool.and_eq_true, beq_iff_eq, List.all_eq_true, List.mem_range] at h
  exact ⟨h.1, fun j hj => sameV_VR K (h.2 j hj)⟩
theorem okXs_VR {K : Kr} {t : List GV} {a : Act} (ht : TR K t a.tmps) : ∀ {xs : List Operand} {gs : List GX}, okXs xs gs = true → VRs K (gs.map (gev t)) (xs.map a.eval).toArray := by
  intro xs
  induction xs with
  | nil => intro gs h; cases gs with
    | nil => exact ⟨rfl, fun j hj => by simp at hj⟩
    | cons g gs => cases h
  | cons x xs ih =>
    intro gs h
    cases gs with
    | nil => cases h
    | cons g gs =>
      simp only [okXs, Bool.and_eq_true] at h
      obtain ⟨h1, h2⟩ := ih h.2
      refine ⟨by simpa using h1, fun j hj => ?_⟩
      cases j with
      | zero => exact okX_VR ht h.1
      | succ j =>
        have := h2 j (by simpa using hj)
        simpa [gat, vat, List.getD_eq_getElem?_getD, Array.getD_eq_getD_getElem?] using this

/-- cells written one behind the other: the ghost list -/
theorem setL_length (cs : List GV) (o : Nat) (gs : List GV) : (setL cs o gs).length = cs.length := by
  induction gs generalizing cs o with
  | nil => rfl
  | cons g gs ih => simp [setL, ih]
theorem setL_gat (cs : List GV) (o : Nat) (gs : List GV) (j : Nat) (h : o + gs.length ≤ cs.length) : gat (setL cs o gs) j = if o ≤ j ∧ j < o + gs.length then gat gs (j - o) else gat cs j := by
  induction gs generalizing cs o with
  | nil => simp only [setL, List.length_nil]; rw [if_neg (by omega)]
  | cons g gs ih =>
    simp only [setL, List.length_cons] at h ⊢
    rw [ih (cs.set o g) (o + 1) (by simp; omega), gat_set _ _ _ _ (by omega)]
    by_cases h1 : j = o
    · subst h1; rw [if_neg (by omega), if_pos rfl, if_pos (by omega)]; simp [gat]
    · by_cases h2 : o ≤ j ∧ j < o + (gs.length + 1)
      · rw [if_pos (by omega), if_pos h2]
        have : j - o = (j - (o + 1)) + 1 := by omega
        rw [this]; simp [gat]
      · rw [if_neg (by omega), if_neg h1, if_neg h2]

theorem foldl_set_vat (us : List Value) (off k : Nat) (cells : Array Value) (h : off + k + us.length ≤ cells.size) (j : Nat) :
    let r := (us.zipIdx k).foldl (fun cs (c, i) => cs.setIfInBounds (off + i) c) cells
    r.size = cells.size ∧ vat r j = if off + k ≤ j ∧ j < off + k + us.length then us.getD (j - (off + k)) Go.undef else vat cells j := by
  induction us generalizing k cells with
  | nil => simp only [List.zipIdx_nil, List.foldl_nil, List.length_nil]; exact ⟨trivial, by rw [if_neg (by omega)]⟩
  | cons u us ih =>
    simp only [List.zipIdx_cons, List.foldl_cons, List.length_cons] at h ⊢
    have := ih (k + 1) (cells.setIfInBounds (off + k) u) (by simp; omega)
    simp only at this
    obtain ⟨h1, h2⟩ := this
    refine ⟨by rw [h1]; simp, ?_⟩
    rw [h2]
    by_cases e : j = off + k
    · subst e; rw [if_neg (by omega), if_pos (by omega)]
      have : off + k < cells.size := by omega
      simp [vat, Array.getD, this]
    · by_cases e2 : off + k ≤ j ∧ j < off + k + (us.length + 1)
      · rw [if_pos (by omega), if_pos e2]
        have : j - (off + k) = (j - (off + (k + 1))) + 1 := by omega
        rw [this]; simp
      · rw [if_neg (by omega), if_neg e2]
        by_cases hj : j < cells.size
        · simp [vat, Array.getD, hj, Ne.symm e]
        · simp [vat, Array.getD, hj]

/-- a struct's, an array's or a literal's cells, with its parts filled in -/
theorem fill_sound {K : Kr} {t : List GV} {a : Act} (ht : TR K t a.tmps) (place : Nat → Option (Nat × Nat)) : ∀ (parts : List (Nat × Operand)) (parts' : List (Nat × Nat × GX)), okParts place parts parts' = true →
    ∀ (cells : Array Value) (cs r : List GV), cells.size = cs.length → (∀ j, j < cs.length → VR K (gat cs j) (vat cells j)) → gfill t cs parts' = some r →
    ∃ out, Instr.fill place cells (parts.map fun (i, x) => (i, a.eval x)) = some out ∧ out.size = r.length ∧ ∀ j, j < r.length → VR K (gat r j) (vat out j) := by
  intro parts
  induction parts with
  | nil =>
    intro parts' h cells cs r hsz hr e
    cases parts' with
    | nil => simp only [gfill, Option.some.injEq] at e; subst e; exact ⟨cells, rfl, hsz, hr⟩
    | cons _ _ => cases h
  | cons p parts ih =>
    intro parts' h cells cs r hsz hr e
    obtain ⟨i, x⟩ := p
    cases parts' with
    | nil => cases h
    | cons q parts' =>
      obtain ⟨off, size, g⟩ := q
      simp only [okParts, Bool.and_eq_true, beq_iff_eq] at h
      obtain ⟨⟨h1, h2⟩, h3⟩ := h
      have hx := okX_VR ht h2
      simp only [gfill] at e
      cases hc : gcells (gev t g) with
      | none => rw [hc] at e; cases e
      | some vs =>
        rw [hc] at e; simp only at e
        by_cases hcond : vs.length = size ∧ off + size ≤ cs.length
        · rw [if_pos hcond] at e
          obtain ⟨hv1, hv2⟩ := cells_VR hx hc
          simp only [List.map_cons, Instr.fill, h1]
          rw [if_neg (by simp; omega)]
          have hf : ∀ j, _ := fun j => foldl_set_vat (a.eval x).cells.toList off 0 cells (by simp; omega) j
          have hz : (a.eval x).cells.zipIdx.foldl (fun cs (c, j) => cs.setIfInBounds (off + j) c) cells = ((a.eval x).cells.toList.zipIdx 0).foldl (fun cs (c, i) => cs.setIfInBounds (off + i) c) cells := by
            rw [← Array.foldl_toList]; simp
          rw [hz]
          refine ih parts' h3 _ (setL cs off vs) r (by rw [(hf 0).1, setL_length, hsz]) ?_ e
          intro j hj
          rw [setL_length] at hj
          rw [(hf j).2, setL_gat _ _ _ _ (by omega)]
          have hl : (a.eval x).cells.toList.length = vs.length := by simp [hv1]
          by_cases hin : off ≤ j ∧ j < off + vs.length
          · rw [if_pos hin, if_pos (by omega)]
            have := hv2 (j - off) (by omega)
            simpa [vat, Array.getD_eq_getD_getElem?, List.getD_eq_getElem?_getD] using this
          · rw [if_neg hin, if_neg (by omega)]
            exact hr j hj
        · rw [if_neg hcond] at e; cases e
end Go.Proofs.Ytdpibcniodhinaa.Gh
/- Each operation that leaves memory alone yields what the ghost operation says. -/
namespace Go.Proofs.Ytdpibcniodhinaa.Gh
open Go Go.RowKit
set_option linter.unusedVariables false
set_option linter.unusedSimpArgs false

theorem elemB_spec {P : Program} {T e : TypeId} (h : elemB P T = some e) : P.underlying T = some (.slice e) := by
  unfold elemB at h; split at h <;> simp_all
theorem arrB_spec {P : Program} {T e : TypeId} {n : Nat} (h : arrB P T = some (n, e)) : P.underlying T = some (.array n e) := by
  unfold arrB at h; split at h <;> simp_all
theorem sizeB_spec {P : Program} {T : TypeId} {s : Nat} (h : sizeB P T = some s) : ∃ i, P.info? T = some i ∧ i.size = s := by
  unfold sizeB at h; simpa using h
theorem bytesB_spec {P : Program} {T : TypeId} {s : Nat} (h : bytesB P T = some s) : ∃ i, P.info? T = some i ∧ i.bytes = s := by
  unfold bytesB at h; simpa using h
theorem zeroB_spec {P : Program} {T : TypeId} {z : Value} (h : zeroB P T = some z) : ∃ i, P.info? T = some i ∧ i.zero = some z := by
  unfold zeroB at h; simpa [Option.bind_eq_some_iff] using h
theorem fieldB_spec {P : Program} {T : TypeId} {f : Nat} {fd : Field} (h : fieldB P T f = some fd) : ∃ fs, P.underlying T = some (.struct fs) ∧ fs[f]? = some fd := by
  unfold fieldB at h; split at h
  · exact ⟨_, by assumption, h⟩
  · cases h
theorem run_underlying' {P : Program} {T : TypeId} {d : TypeDesc} (w : World) (h : P.underlying T = some d) : (underlying T).run P w = .ok d w := by
  simp [underlying, h]
theorem run_sizeOf' {P : Program} {T : TypeId} {s : Nat} (w : World) (h : sizeB P T = some s) : (sizeOf T).run P w = .ok s w := by
  obtain ⟨i, h1, h2⟩ := sizeB_spec h
  simp [sizeOf, typeInfo, h1, h2]
theorem run_zeroValue' {P : Program} {T : TypeId} {z : Value} (w : World) (h : zeroB P T = some z) : (zeroValue T).run P w = .ok z w := by
  obtain ⟨i, h1, h2⟩ := zeroB_spec h
  simp [zeroValue, typeInfo, h1, h2]
theorem shapeOf_agg {P : Program} {T : TypeId} {m : Nat} (h : shapeOf P T = some (some m)) (w : World) : (isAgg T).run P w = .ok true w ∧ (sizeOf T).run P w = .ok m w := by
  unfold shapeOf isAggB at h
  cases hu : P.underlying T with
  | none => rw [hu] at h; simp at h
  | some d =>
    cases d <;> rw [hu] at h <;> simp at h <;> (obtain ⟨i, h1, h2⟩ := h; simp [isAgg, underlying, hu, sizeOf, typeInfo, h1, h2])
theorem shapeOf_one {P : Program} {T : TypeId} (h : shapeOf P T = some none) (w : World) : (isAgg T).run P w = .ok false w := by
  unfold shapeOf isAggB at h
  cases hu : P.underlying T with
  | none => rw [hu] at h; simp at h
  | some d => cases d <;> rw [hu] at h <;> simp at h <;> simp [isAgg, underlying, hu]

def Pur (P : Program) (o : Oper) (a : Act) (K : Kr) (g : GV) : Prop := ∃ v, (∀ w, (execOp a.eval o).run P w = .ok (.value v) w) ∧ VR K g v

section
variable {P : Program} {K : Kr} {t : List GV} {a : Act} {g : GV}

theorem pur_mov (o : Oper) {x : Operand} {y : GX} (ho : o.op = .move x ∨ o.op = .assign x) (ht : TR K t a.tmps) (h : okX x y = true) (hg : gpure t (.mov y) = some g) : Pur P o a K g := by
  simp only [gpure, Option.some.injEq] at hg; subst hg
  refine ⟨a.eval x, fun w => ?_, okX_VR ht h⟩
  rcases ho with ho | ho <;> simp [execOp, ho]

theorem pur_pick (o : Oper) {c x y : Operand} {c' x' y' : GX} (ho : o.op = .pick c x y) (ht : TR K t a.tmps) (hc : okX c c' = true) (hx : okX x x' = true) (hy : okX y y' = true) (hg : gpure t (.pick c' x' y') = some g) : Pur P o a K g := by
  have h1 := okX_VR ht hc
  simp only [gpure] at hg
  split at hg
  · rename_i e; rw [e] at h1; simp only [Option.some.injEq] at hg; subst hg
    exact ⟨a.eval x, fun w => by simp [execOp, ho, h1.bool_inv, asBool], okX_VR ht hx⟩
  · rename_i e; rw [e] at h1; simp only [Option.some.injEq] at hg; subst hg
    exact ⟨a.eval y, fun w => by simp [execOp, ho, h1.bool_inv, asBool], okX_VR ht hy⟩
  · cases hg

theorem pur_bin (o : Oper) {op : BinOp} {T T' : TypeId} {x y : Operand} {x' y' : GX} (ho : o.op = .binOp op T x y T') (ht : TR K t a.tmps) (hx : okX x x' = true) (hy : okX y y' = true) (h1 : op ≠ .shl) (h2 : op ≠ .shr) (hg : gpure t (.bin op x' y') = some g) : Pur P o a K g := by
  have e1 := okX_VR ht hx
  have e2 := okX_VR ht hy
  simp only [gpure] at hg
  unfold gbin at hg
  split at hg
  · rename_i k m k' n g1 g2
    rw [g1] at e1; rw [g2] at e2
    have e1 := e1.int_inv
    have e2 := e2.int_inv
    split at hg
    · rename_i hk; subst hk
      cases op <;> simp only [] at hg <;> first
        | (exfalso; exact h1 rfl)
        | (exfalso; exact h2 rfl)
        | (split at hg
           · cases hg
           · rename_i hz
             simp only [Option.some.injEq] at hg; subst hg
             refine ⟨_, fun w => ?_, .int _ _⟩
             simp [execOp, ho, eqGuard, e1, e2, binOp, Op.intDiv, hz])
        | (simp only [Option.some.injEq] at hg; subst hg
           first
             | (refine ⟨_, fun w => ?_, .int _ _⟩; simp [execOp, ho, eqGuard, e1, e2, binOp, Op.intArith, Op.intBits]; done)
             | (refine ⟨_, fun w => ?_, .bool _⟩; simp [execOp, ho, eqGuard, e1, e2, binOp, Op.intCmp]; done))
        | (cases hg)
    · cases hg
  · cases hg

theorem pur_un (o : Oper) {op : UnOp} {T : TypeId} {x : Operand} {x' : GX} (ho : o.op = .unOp op T x) (ht : TR K t a.tmps) (hx : okX x x' = true) (hg : gpure t (.un op x') = some g) : Pur P o a K g := by
  have e1 := okX_VR ht hx
  simp only [gpure] at hg
  split at hg
  · rename_i g1; rw [g1] at e1; simp only [Option.some.injEq] at hg; subst hg
    exact ⟨_, fun w => by simp [execOp, ho, e1.bool_inv, Op.unary], .bool _⟩
  · rename_i g1; rw [g1] at e1; simp only [Option.some.injEq] at hg; subst hg
    exact ⟨_, fun w => by simp [execOp, ho, e1.int_inv, Op.unary, Op.intArith], .int _ _⟩
  · cases hg

theorem pur_field (o : Oper) {T : TypeId} {f off : Nat} {n : Option Nat} {x : Operand} {x' : GX} (ho : o.op = .field T x f) (ht : TR K t a.tmps) {fd : Field} (hf : fieldB P T f = some fd) (hoff : fd.offset = off) (hsh : shapeOf P fd.type = some n) (hx : okX x x' = true) (hg : gpure t (.field off n x') = some g) : Pur P o a K g := by
  have e1 := okX_VR ht hx
  obtain ⟨fs, hu, hfs⟩ := fieldB_spec hf
  simp only [gpure] at hg
  split at hg
  · rename_i cs g1
    rw [g1] at e1
    obtain ⟨us, hv, hsz, hr⟩ := e1.agg_inv
    split at hg
    · split at hg
      · rename_i hlt
        simp only [Option.some.injEq] at hg; subst hg
        refine ⟨vat us off, fun w => ?_, hr off hlt⟩
        have : off < us.size := by omega
        simp [execOp, ho, Instr.field, run_underlying' _ hu, hfs, asAgg, hv, hoff, part, shapeOf_one hsh, vat, Array.getD, this, Array.getElem?_eq_getElem this]
      · cases hg
    · rename_i m
      split at hg
      · rename_i hle
        simp only [Option.some.injEq] at hg; subst hg
        refine ⟨.agg (us.extract off (off + m)), fun w => ?_, .agg _ _ (by simp; omega) fun j hj => ?_⟩
        · simp [execOp, ho, Instr.field, run_underlying' _ hu, hfs, asAgg, hv, hoff, part, (shapeOf_agg hsh _).1, (shapeOf_agg hsh _).2]
        · have hj' : j < m := by simp at hj; omega
          have := hr (off + j) (by omega)
          have hlt : off + j < us.size := by omega
          have hmin : j < min (off + m) us.size - off := by omega
          simp only [gat, vat, List.getD_eq_getElem?_getD, Array.getD_eq_getD_getElem?, List.getElem?_take, List.getElem?_drop, Array.getElem?_extract] at this ⊢
          simpa [hj', hlt, hmin] using this
      · cases hg
  · cases hg

theorem pur_fieldAddr (o : Oper) {T : TypeId} {f off : Nat} {x : Operand} {x' : GX} (ho : o.op = .fieldAddr T x f) (ht : TR K t a.tmps) {fd : Field} (hf : fieldB P T f = some fd) (hoff : fd.offset = off) {s : Nat} (hs : sizeB P fd.type = some s) (hs0 : s ≠ 0) (hx : okX x x' = true) (hg : gpure t (.fieldAddr off x') = some g) : Pur P o a K g := by
  have e1 := okX_VR ht hx
  obtain ⟨fs, hu, hfs⟩ := fieldB_spec hf
  simp only [gpure] at hg
  split at hg
  · rename_i b p g1
    rw [g1] at e1; simp only [Option.some.injEq] at hg; subst hg
    obtain ⟨B, hv, hr⟩ := e1.ptr_inv
    exact ⟨_, fun w => by simp [execOp, ho, Instr.fieldAt, run_underlying' _ hu, hfs, Instr.sureAddr, hv, fieldPlace, run_sizeOf' _ hs, hs0, add_plain, hoff], hr _⟩
  · rename_i cs p g1
    rw [g1] at e1; simp only [Option.some.injEq] at hg; subst hg
    obtain ⟨B, q, hv, hr⟩ := e1.pp_inv
    exact ⟨_, fun w => by simp [execOp, ho, Instr.fieldAt, run_underlying' _ hu, hfs, Instr.sureAddr, hv, fieldPlace, run_sizeOf' _ hs, hs0, add_plain, hoff, Nat.add_assoc], hr _⟩
  · cases hg

theorem pur_indexAddr (o : Oper) {T e : TypeId} {size : Nat} {x i : Operand} {x' i' : GX} (ho : o.op = .indexAddr T x i) (ht : TR K t a.tmps) (he : elemB P T = some e) (hs : sizeB P e = some size) (hx : okX x x' = true) (hi : okX i i' = true) (hg : gpure t (.indexAddr size x' i') = some g) : Pur P o a K g := by
  have e1 := okX_VR ht hx
  have e2 := okX_VR ht hi
  have hu := elemB_spec he
  simp only [gpure] at hg
  split at hg
  · rename_i b p n k j g1 g2
    rw [g1] at e1; rw [g2] at e2
    split at hg
    · rename_i hc
      simp only [Option.some.injEq] at hg; subst hg
      obtain ⟨B, c, hv, hr⟩ := e1.own_at (by omega)
      exact ⟨_, fun w => by simp [execOp, ho, Instr.indexAt, e2.int_inv, asIntOf, run_underlying' _ hu, hv, hc.1, hc.2, run_sizeOf' _ hs, add_plain], hr _⟩
    · cases hg
  · rename_i n cs k j g1 g2
    rw [g1] at e1; rw [g2] at e2
    split at hg
    · rename_i hc
      simp only [Option.some.injEq] at hg; subst hg
      obtain ⟨B, q, c, hv, hr⟩ := e1.sl_at (by omega)
      exact ⟨_, fun w => by simp [execOp, ho, Instr.indexAt, e2.int_inv, asIntOf, run_underlying' _ hu, hv, hc.1, hc.2.1, run_sizeOf' _ hs, add_plain], hr _⟩
    · cases hg
  · rename_i cs k j g1 g2
    rw [g1] at e1; rw [g2] at e2
    split at hg
    · rename_i hc
      simp only [Option.some.injEq] at hg; subst hg
      obtain ⟨B, q, hv, hr⟩ := e1.lit_at
      have hs1 := hc.2.2
      exact ⟨_, fun w => by simp [execOp, ho, Instr.indexAt, e2.int_inv, asIntOf, run_underlying' _ hu, hv, hc.1, hc.2.1, run_sizeOf' _ hs, add_plain, hs1], hr _⟩
    · cases hg
  · cases hg

theorem pur_arrAddr (o : Oper) {T e : TypeId} {len size : Nat} {x i : Operand} {x' i' : GX} (ho : o.op = .indexAddr T x i) (ht : TR K t a.tmps) (he : arrB P T = some (len, e)) (hs : sizeB P e = some size) (hx : okX x x' = true) (hi : okX i i' = true) (hg : gpure t (.arrAddr len size x' i') = some g) : Pur P o a K g := by
  have e1 := okX_VR ht hx
  have e2 := okX_VR ht hi
  have hu := arrB_spec he
  simp only [gpure] at hg
  split at hg
  · rename_i b p k j g1 g2
    rw [g1] at e1; rw [g2] at e2
    split at hg
    · rename_i hc
      simp only [Option.some.injEq] at hg; subst hg
      obtain ⟨B, hv, hr⟩ := e1.ptr_inv
      exact ⟨_, fun w => by simp [execOp, ho, Instr.indexAt, e2.int_inv, asIntOf, run_underlying' _ hu, hv, hc.1, hc.2, run_sizeOf' _ hs, add_plain, Instr.sureAddr], hr _⟩
    · cases hg
  · rename_i cs p k j g1 g2
    rw [g1] at e1; rw [g2] at e2
    split at hg
    · rename_i hc
      simp only [Option.some.injEq] at hg; subst hg
      obtain ⟨B, q, hv, hr⟩ := e1.pp_inv
      exact ⟨_, fun w => by simp [execOp, ho, Instr.indexAt, e2.int_inv, asIntOf, run_underlying' _ hu, hv, hc.1, hc.2, run_sizeOf' _ hs, add_plain, Instr.sureAddr, Nat.add_assoc], hr _⟩
    · cases hg
  · cases hg

theorem pur_nilCheck (o : Oper) {x : Operand} {x' : GX} (ho : o.op = .nilCheck x) (ht : TR K t a.tmps) (hx : okX x x' = true) (hg : gpure t (.nilCheck x') = some g) : Pur P o a K g := by
  have e1 := okX_VR ht hx
  simp only [gpure] at hg
  split at hg
  · rename_i g1; rw [g1] at e1; simp only [Option.some.injEq] at hg; subst hg
    obtain ⟨B, hv, hr⟩ := e1.ptr_inv
    exact ⟨_, fun w => by simp [execOp, ho, hv]; rfl, by rw [hv] at e1; exact e1⟩
  · rename_i g1; rw [g1] at e1; simp only [Option.some.injEq] at hg; subst hg
    obtain ⟨B, q, hv, hr⟩ := e1.pp_inv
    exact ⟨_, fun w => by simp [execOp, ho, hv]; rfl, by rw [hv] at e1; exact e1⟩
  · cases hg

theorem pur_extract (o : Oper) {x : Operand} {i : Nat} {x' : GX} (ho : o.op = .extract x i) (ht : TR K t a.tmps) (hx : okX x x' = true) (hg : gpure t (.extract i x') = some g) : Pur P o a K g := by
  have e1 := okX_VR ht hx
  simp only [gpure] at hg
  split at hg
  · rename_i vs g1; rw [g1] at e1
    split at hg
    · rename_i hlt
      simp only [Option.some.injEq] at hg; subst hg
      obtain ⟨us, hv, hsz, hr⟩ := e1.tup_inv
      have : i < us.size := by omega
      exact ⟨vat us i, fun w => by simp [execOp, ho, hv, Instr.extract, vat, Array.getD, this, Array.getElem?_eq_getElem this], hr i hlt⟩
    · cases hg
  · cases hg

theorem pur_len (o : Oper) {x : Operand} {T : TypeId} {x' : GX} (ho : o.op = .call { callee := .builtin .len, args := #[x], argTypes := #[T] }) (ht : TR K t a.tmps) {e : TypeId} (he : elemB P T = some e) (hx : okX x x' = true) (hg : gpure t (.len x') = some g) : Pur P o a K g := by
  have e1 := okX_VR ht hx
  have hu := elemB_spec he
  simp only [gpure] at hg
  have key : ∀ (A : Option Addr) (n c : Nat), a.eval x = .slice A n c → ∀ w, (execOp a.eval o).run P w = .ok (.value (.int .i64 n)) w := by
    intro A n c hv w
    simp [execOp, ho, resolve, invoke, builtin, Builtin.len_, run_underlying' _ hu, hv, goInt]
  split at hg
  · rename_i g1; rw [g1] at e1; simp only [Option.some.injEq] at hg; subst hg
    exact ⟨_, key _ _ _ e1.nil_inv, .int _ _⟩
  · rename_i g1; rw [g1] at e1; simp only [Option.some.injEq] at hg; subst hg
    obtain ⟨ad, hv⟩ := e1.emp_inv
    exact ⟨_, key _ _ _ hv, .int _ _⟩
  · rename_i g1; rw [g1] at e1; simp only [Option.some.injEq] at hg; subst hg
    obtain ⟨ad, hv⟩ := e1.lit_inv
    exact ⟨_, key _ _ _ hv, .int _ _⟩
  · rename_i g1; rw [g1] at e1; simp only [Option.some.injEq] at hg; subst hg
    obtain ⟨A, c, hv, _⟩ := e1.sl_inv
    exact ⟨_, key _ _ _ hv, .int _ _⟩
  · rename_i g1; rw [g1] at e1; simp only [Option.some.injEq] at hg; subst hg
    obtain ⟨A, c, hv, _⟩ := e1.own_inv
    exact ⟨_, key _ _ _ hv, .int _ _⟩
  · cases hg

theorem pur_max (o : Oper) {x y : Operand} {x' y' : GX} {ts : Array TypeId} (ho : o.op = .call { callee := .builtin .max, args := #[x, y], argTypes := ts }) (ht : TR K t a.tmps) (hx : okX x x' = true) (hy : okX y y' = true) (hg : gpure t (.mm true x' y') = some g) : Pur P o a K g := by
  have e1 := okX_VR ht hx
  have e2 := okX_VR ht hy
  simp only [gpure] at hg
  split at hg
  · rename_i k m k' n g1 g2
    rw [g1] at e1; rw [g2] at e2; simp only [Option.some.injEq] at hg; subst hg
    exact ⟨_, fun w => by simp [execOp, ho, resolve, invoke, builtin, Builtin.max_, Builtin.max2, e1.int_inv, e2.int_inv], .int _ _⟩
  · cases hg
theorem pur_min (o : Oper) {x y : Operand} {x' y' : GX} {ts : Array TypeId} (ho : o.op = .call { callee := .builtin .min, args := #[x, y], argTypes := ts }) (ht : TR K t a.tmps) (hx : okX x x' = true) (hy : okX y y' = true) (hg : gpure t (.mm false x' y') = some g) : Pur P o a K g := by
  have e1 := okX_VR ht hx
  have e2 := okX_VR ht hy
  simp only [gpure] at hg
  split at hg
  · rename_i k m k' n g1 g2
    rw [g1] at e1; rw [g2] at e2; simp only [Option.some.injEq] at hg; subst hg
    exact ⟨_, fun w => by simp [execOp, ho, resolve, invoke, builtin, Builtin.min_, Builtin.min2, e1.int_inv, e2.int_inv], .int _ _⟩
  · cases hg

theorem pur_conv (o : Oper) {src dst : TypeId} {k k0 : IntKind} {x : Operand} {x' : GX} (ho : o.op = .convert src dst x) (ht : TR K t a.tmps) (h0 : P.underlying src = some (.int k0)) (h1 : P.underlying dst = some (.int k)) (hx : okX x x' = true) (hg : gpure t (.conv k x') = some g) : Pur P o a K g := by
  have e1 := okX_VR ht hx
  simp only [gpure] at hg
  split at hg
  · rename_i g1; rw [g1] at e1; simp only [Option.some.injEq] at hg; subst hg
    exact ⟨_, fun w => by simp [execOp, ho, convert, run_underlying' _ h0, run_underlying' _ h1, e1.int_inv, Conv.intToInt], .int _ _⟩
  · cases hg

theorem pur_mkfn (o : Oper) {f : FuncId} {caps : Array Operand} {caps' : List GX} (ho : o.op = .makeFunc (.func f) #[] caps) (ht : TR K t a.tmps) (hx : okXs caps.toList caps' = true) (hg : gpure t (.mkfn f caps') = some g) : Pur P o a K g := by
  simp only [gpure, Option.some.injEq] at hg; subst hg
  obtain ⟨h1, h2⟩ := okXs_VR ht hx
  refine ⟨.func (.func f) #[] (caps.map a.eval), fun w => by simp [execOp, ho, Instr.makeFunc], .fn _ _ _ (by simpa using h1) fun j hj => ?_⟩
  have := h2 j hj
  simpa using this

theorem pur_isnil (o : Oper) {T T' e : TypeId} {neg : Bool} {x : Operand} {x' : GX} (ho : o.op = .binOp (if neg then .neq else .eql) T x (.const (.slice none 0 0)) T') (ht : TR K t a.tmps) (he : elemB P T = some e) (hx : okX x x' = true) (hg : gpure t (.isnil neg x') = some g) : Pur P o a K g := by
  have e1 := okX_VR ht hx
  have hu := elemB_spec he
  have hc : a.eval (.const (.slice none 0 0)) = .slice none 0 0 := rfl
  simp only [gpure] at hg
  have key : ∀ (A : Option Addr) (n c : Nat), a.eval x = .slice A n c → ∀ w, (execOp a.eval o).run P w = .ok (.value (.bool (if neg then A.isSome else A.isNone))) w := by
    intro A n c hv w
    have h1 := Lib.run_eql_slice_nil (P := P) w T e A n c 0 0 hu
    have h2 := run_neq_slice_nil_any (P := P) w T e A n c 0 0 hu
    cases neg
    · simp only [Bool.false_eq_true, if_false] at ho ⊢
      simp only [execOp, ho, hc, hv, eqGuard]
      simp [h1]
    · simp only [if_true] at ho ⊢
      simp only [execOp, ho, hc, hv, eqGuard]
      simp [h2]
  split at hg
  · rename_i g1; rw [g1] at e1; simp only [Option.some.injEq] at hg; subst hg
    refine ⟨_, key _ _ _ e1.nil_inv, ?_⟩
    cases neg <;> exact .bool _
  · rename_i b p n g1; rw [g1] at e1
    split at hg
    · rename_i hn
      simp only [Option.some.injEq] at hg; subst hg
      obtain ⟨A, c, hv, _, hA⟩ := e1.own_inv
      refine ⟨_, key _ _ _ hv, ?_⟩
      have hA := hA hn
      cases A with
      | none => cases hA
      | some ad => cases neg <;> exact .bool _
    · cases hg
  · rename_i g1; rw [g1] at e1; simp only [Option.some.injEq] at hg; subst hg
    obtain ⟨ad, hv⟩ := e1.emp_inv
    refine ⟨_, key _ _ _ hv, ?_⟩
    cases neg <;> exact .bool _
  · rename_i g1; rw [g1] at e1; simp only [Option.some.injEq] at hg; subst hg
    obtain ⟨ad, hv⟩ := e1.lit_inv
    refine ⟨_, key _ _ _ hv, ?_⟩
    cases neg <;> exact .bool _
  · cases hg
theorem pur_isnilu (o : Oper) {T T' e : TypeId} {neg : Bool} {x : Operand} {x' : GX} {n : Nat} {cs : List GV} (ho : o.op = .binOp (if neg then .neq else .eql) T x (.const (.slice none 0 0)) T') (ht : TR K t a.tmps) (he : elemB P T = some e) (hx : okX x x' = true) (hg : gev t x' = .sl n cs) : Pur P o a K (.bool neg) ∨ (cs = [] ∧ Pur P o a K (.bool !neg)) := by
  have e1 := okX_VR ht hx
  have hu := elemB_spec he
  have hc : a.eval (.const (.slice none 0 0)) = .slice none 0 0 := rfl
  rw [hg] at e1
  have key : ∀ (A : Option Addr) (n c : Nat), a.eval x = .slice A n c → ∀ w, (execOp a.eval o).run P w = .ok (.value (.bool (if neg then A.isSome else A.isNone))) w := by
    intro A n c hv w
    have h1 := Lib.run_eql_slice_nil (P := P) w T e A n c 0 0 hu
    have h2 := run_neq_slice_nil_any (P := P) w T e A n c 0 0 hu
    cases neg
    · simp only [Bool.false_eq_true, if_false] at ho ⊢
      simp only [execOp, ho, hc, hv, eqGuard]
      simp [h1]
    · simp only [if_true] at ho ⊢
      simp only [execOp, ho, hc, hv, eqGuard]
      simp [h2]
  obtain ⟨A, c, hv, hA⟩ : ∃ A c, a.eval x = .slice A n c ∧ (A = none → cs = []) := by
    generalize a.eval x = v at e1
    cases e1 with
    | sl0 _ c A h => exact ⟨A, c, rfl, fun _ => rfl⟩
    | sl _ c B o' _ us h _ _ _ => exact ⟨_, c, rfl, fun h => by cases h⟩
  cases A with
  | none =>
    refine .inr ⟨hA rfl, _, key _ _ _ hv, ?_⟩
    cases neg <;> exact .bool _
  | some ad =>
    refine .inl ⟨_, key _ _ _ hv, ?_⟩
    cases neg <;> exact .bool _
end
end Go.Proofs.Ytdpibcniodhinaa.Gh
/- Slices of slices, struct values. -/
namespace Go.Proofs.Ytdpibcniodhinaa.Gh
open Go Go.RowKit
set_option linter.unusedVariables false
set_option linter.unusedSimpArgs false

def IsN (v : Value) (m : Nat) : Prop := ∃ k i, v = .int k i ∧ 0 ≤ i ∧ i.toNat = m
theorem run_sliceBound {P : Program} {v : Value} {m y : Nat} (h : IsN v m) (hy : m ≤ y) (code : BoundsCode) (w : World) : (Instr.sliceBound v y code).run P w = .ok m w := by
  obtain ⟨k, i, rfl, h0, h1⟩ := h
  have : i ≤ y := by omega
  simp [Instr.sliceBound, asIntOf, h0, this, h1]
theorem run_bounds {P : Program} (len cap : Nat) (lo hi mx : Option Value) (l h m : Nat)
    (hm : match mx with | none => m = cap | some v => IsN v m ∧ m ≤ cap)
    (hh : match hi with | none => mx = none ∧ h = len | some v => IsN v h ∧ h ≤ m)
    (hl : match lo with | none => l = 0 | some v => IsN v l ∧ l ≤ h) (w : World) :
    (Instr.sliceBounds true len cap lo hi mx).run P w = .ok (l, h, m) w := by
  cases mx with
  | none =>
    subst hm
    cases hi with
    | none =>
      obtain ⟨_, rfl⟩ := hh
      cases lo with
      | none => subst hl; simp [Instr.sliceBounds]
      | some v => simp [Instr.sliceBounds, run_sliceBound hl.1 hl.2]
    | some u =>
      cases lo with
      | none => subst hl; simp [Instr.sliceBounds, run_sliceBound hh.1 hh.2]
      | some v => simp [Instr.sliceBounds, run_sliceBound hh.1 hh.2, run_sliceBound hl.1 hl.2]
  | some x =>
    cases hi with
    | none => obtain ⟨e, _⟩ := hh; cases e
    | some u =>
      cases lo with
      | none => subst hl; simp [Instr.sliceBounds, run_sliceBound hm.1 hm.2, run_sliceBound hh.1 hh.2]
      | some v => simp [Instr.sliceBounds, run_sliceBound hm.1 hm.2, run_sliceBound hh.1 hh.2, run_sliceBound hl.1 hl.2]

section
variable {P : Program} {K : Kr} {t : List GV} {a : Act} {g : GV}
theorem gbound_IsN (ht : TR K t a.tmps) {x : Operand} {gx : GX} (hx : okX x gx = true) {d m : Nat} (h : gbound d t (some gx) = some m) : IsN (a.eval x) m := by
  have e := okX_VR ht hx
  simp only [gbound] at h
  split at h
  · rename_i k i g1
    rw [g1] at e
    split at h
    · simp only [Option.some.injEq] at h; exact ⟨k, i, e.int_inv, by assumption, h⟩
    · cases h
  · cases h

/-- the run of a slice expression on a slice of n elements of one cell -/
theorem run_slice (o : Oper) {T e : TypeId} {x : Operand} {lo hi mx : Option Operand} {lo' hi' mx' : Option GX} (ho : o.op = .slice T x lo hi mx) (ht : TR K t a.tmps) (he : elemB P T = some e) (hs : sizeB P e = some 1)
    (h1 : okO lo lo' = true) (h2 : okO hi hi' = true) (h3 : okO mx mx' = true) (h4 : (mx.isNone || hi.isSome) = true) {A : Option Addr} {n c l h m : Nat} (hv : a.eval x = .slice A n c) (hn : n ≤ c)
    (hl : gbound 0 t lo' = some l) (hh : gbound n t hi' = some h) (hm : gbound n t mx' = some m) (c1 : l ≤ h) (c2 : h ≤ m) (c3 : m ≤ n) :
    ∃ m', m' ≤ c ∧ h ≤ m' ∧ ∀ w, (execOp a.eval o).run P w = .ok (.value (.slice (if m' = l then A else A.map fun ad => ad.add l) (h - l) (m' - l))) w := by
  have hu := elemB_spec he
  refine ⟨if mx.isNone then c else m, by split <;> omega, by split <;> omega, fun w => ?_⟩
  have hb := run_bounds (P := P) n c (lo.map a.eval) (hi.map a.eval) (mx.map a.eval) l h (if mx.isNone then c else m) ?_ ?_ ?_ w
  · simp [execOp, ho, Instr.sliceAt, run_underlying' _ hu, Instr.slice, hv, hb, run_sizeOf' _ hs]
  · cases mx with
    | none => simp
    | some u =>
      cases mx' with
      | none => cases h3
      | some u' => exact ⟨gbound_IsN ht h3 hm, by simp; omega⟩
  · cases hi with
    | none =>
      cases hi' with
      | some _ => cases h2
      | none =>
        simp only [gbound, Option.some.injEq] at hh
        cases mx with
        | some _ => simp at h4
        | none => exact ⟨rfl, hh.symm⟩
    | some u =>
      cases hi' with
      | none => cases h2
      | some u' => exact ⟨gbound_IsN ht h2 hh, by split <;> omega⟩
  · cases lo with
    | none =>
      cases lo' with
      | some _ => cases h1
      | none => simp only [gbound, Option.some.injEq] at hl; exact hl.symm
    | some u =>
      cases lo' with
      | none => cases h1
      | some u' => exact ⟨gbound_IsN ht h1 hl, c1⟩

theorem pur_slice (o : Oper) {T e : TypeId} {x : Operand} {x' : GX} {lo hi mx : Option Operand} {lo' hi' mx' : Option GX} (ho : o.op = .slice T x lo hi mx) (ht : TR K t a.tmps) (he : elemB P T = some e) (hs : sizeB P e = some 1)
    (hx : okX x x' = true) (h1 : okO lo lo' = true) (h2 : okO hi hi' = true) (h3 : okO mx mx' = true) (h4 : (mx.isNone || hi.isSome) = true) (hg : gpure t (.slice x' lo' hi' mx') = some g) : Pur P o a K g := by
  have e1 := okX_VR ht hx
  simp only [gpure] at hg
  split at hg
  · rename_i g1; rw [g1] at e1
    split at hg
    · rename_i hc
      simp only [Option.some.injEq] at hg; subst hg
      obtain ⟨m', b1, b2, hr⟩ := run_slice o ho ht he hs h1 h2 h3 h4 e1.nil_inv (Nat.le_refl _) hc.1 hc.2.1 hc.2.2 (by omega) (by omega) (by omega)
      have : m' = 0 := by omega
      subst this
      exact ⟨_, hr, .nil⟩
    · cases hg
  · rename_i n cs g1; rw [g1] at e1
    split at hg
    · rename_i l h m hl hh hm
      split at hg
      · rename_i hc
        simp only [Option.some.injEq] at hg; subst hg
        obtain ⟨c1, c2, c3, c4⟩ := hc
        obtain ⟨A, c, hv, hn⟩ := e1.sl_inv
        obtain ⟨m', b1, b2, hr⟩ := run_slice o ho ht he hs h1 h2 h3 h4 hv hn hl hh hm c1 c2 c3
        refine ⟨_, hr, ?_⟩
        rcases Nat.eq_zero_or_pos (h - l) with h0 | h0
        · rw [h0]; simp only [List.take_zero]; exact .sl0 0 _ _ (Nat.zero_le _)
        · rw [hv] at e1
          have hne : ¬ m' = l := by omega
          rw [if_neg hne]
          cases e1 with
          | sl0 _ _ _ _ => simp at c4; omega
          | sl _ _ B p _ us q1 q2 q3 q4 =>
            simp only [Option.map_some, add_plain]
            refine .sl _ _ _ _ _ (fun j => us (l + j)) (by omega) q2 ?_ ?_
            · intro j hj
              have hj' : j < h - l := by simp at hj; omega
              have := q3 (l + j) (by omega)
              rwa [← Nat.add_assoc] at this
            · intro j hj
              have hj' : j < h - l := by simp at hj; omega
              have : gat ((cs.drop l).take (h - l)) j = gat cs (l + j) := by
                simp [gat, List.getD_eq_getElem?_getD, hj', List.getElem?_drop]
              rw [this]; exact q4 (l + j) (by omega)
      · cases hg
    · cases hg
  · rename_i b p n g1; rw [g1] at e1
    split at hg
    · rename_i l h m hl hh hm
      split at hg
      · rename_i hc
        simp only [Option.some.injEq] at hg; subst hg
        obtain ⟨c1, c2, c3⟩ := hc
        obtain ⟨A, c, hv, hn, _⟩ := e1.own_inv
        obtain ⟨m', b1, b2, hr⟩ := run_slice o ho ht he hs h1 h2 h3 h4 hv hn hl hh hm c1 c2 c3
        refine ⟨_, hr, ?_⟩
        by_cases hml : m' = l
        · have e1' : h - l = 0 := by omega
          have e2' : m' - l = 0 := by omega
          rw [e1', e2']; exact .own0 _ _ _ e1.own_sc
        · rw [if_neg hml]
          rw [hv] at e1
          cases e1 with
          | own _ _ _ _ q1 q2 q3 => simp only [Option.map_some, add_plain]; exact .own _ _ _ _ q1 (by omega) (by omega)
          | own0 _ _ _ _ => exfalso; omega
          | owns _ _ _ B _ q1 q2 q3 => simp only [Option.map_some, add_plain]; exact .owns _ _ _ B _ q1 q2 (by omega)
      · cases hg
    · cases hg
  · cases hg

theorem run_mapM_pure {P : Program} {α β : Type} (f : α → Sem β) (r : α → β) (w : World) : ∀ (xs : List α), (∀ x, x ∈ xs → (f x).run P w = .ok (r x) w) → (xs.mapM f).run P w = .ok (xs.map r) w := by
  intro xs
  induction xs with
  | nil => intro _; simp
  | cons x xs ih =>
    intro h
    rw [List.mapM_cons]
    simp [h x (by simp), ih fun y hy => h y (by simp [hy])]

theorem pur_build (o : Oper) {T : TypeId} {parts : Array (Nat × Operand)} {zero : List GV} {parts' : List (Nat × Nat × GX)} (ho : o.op = .build T parts) (ht : TR K t a.tmps) {fs : Array Field} {z : Value} (hu : P.underlying T = some (.struct fs)) (hz : zeroB P T = some z)
    (hc : sameCs z.cells zero = true) (hp : okParts (fun i => (fs[i]?).bind fun f => (sizeB P f.type).map fun s => (f.offset, s)) parts.toList parts' = true) (hf : (fs.all fun f => (sizeB P f.type).isSome) = true) (hg : gpure t (.build zero parts') = some g) : Pur P o a K g := by
  simp only [gpure, Option.map_eq_some_iff] at hg
  obtain ⟨r, hr, rfl⟩ := hg
  obtain ⟨s1, s2⟩ := sameCs_VR K hc
  obtain ⟨out, f1, f2, f3⟩ := fill_sound ht _ _ _ hp z.cells zero r s1 s2 hr
  refine ⟨.agg out, fun w => ?_, .agg _ _ f2 f3⟩
  let rr : Field → Nat × Nat := fun f => (f.offset, (sizeB P f.type).getD 0)
  have hsz : ∀ f, f ∈ fs.toList → sizeB P f.type = some ((sizeB P f.type).getD 0) := by
    intro f hmem
    have := Array.all_eq_true_iff_forall_mem.1 hf f (by simpa using hmem)
    cases h : sizeB P f.type with
    | none => rw [h] at this; cases this
    | some s => rfl
  have hm : (fs.mapM (m := Sem) fun f => do pure (f.offset, ← sizeOf f.type)).run P w = .ok (fs.map rr) w := by
    have h1 : (fs.toList.mapM (m := Sem) fun f : Field => Prod.mk f.offset <$> sizeOf f.type).run P w = .ok (fs.toList.map rr) w := by
      apply run_mapM_pure
      intro f hf'
      simp [run_sizeOf' _ (hsz f hf'), rr]
    rw [Array.mapM_eq_mapM_toList]
    simp only [bind_pure_comp, Sem.run_map]
    rw [h1]
    simp only [Result.andThen_ok]
    congr 1
    apply Array.ext'
    simp
  have hplace : (fun i : Nat => (fs.map rr)[i]?) = (fun i : Nat => (fs[i]?).bind fun f : Field => (sizeB P f.type).map fun s => (f.offset, s)) := by
    funext i
    rw [Array.getElem?_map]
    cases h : fs[i]? with
    | none => rfl
    | some f =>
      have hmem : f ∈ fs.toList := by
        have := Array.mem_of_getElem? h
        simpa using this
      obtain ⟨s, hs⟩ : ∃ s, sizeB P f.type = some s := ⟨_, hsz f hmem⟩
      simp only [Option.bind_some, Option.map_some, rr, hs, Option.getD_some]
  have f1' : Instr.fill (fun i : Nat => (fs.map rr)[i]?) z.cells (parts.toList.map fun (i, x) => (i, a.eval x)) = some out := by rw [hplace]; exact f1
  simp only [execOp, ho, Instr.build]
  simp only [bind_pure_comp, Sem.run_map, Sem.run_bind, run_zeroValue' _ hz, run_underlying' _ hu, Result.andThen_ok]
  simp only [bind_pure_comp] at hm
  simp [hm]
  have f2' : Instr.fill (fun x : Nat => Option.map rr fs[x]?) z.cells (parts.toList.map fun x => (x.fst, a.eval x.snd)) = some out := by
    have e : (fun x : Nat => Option.map rr fs[x]?) = fun i : Nat => (fs.map rr)[i]? := funext fun i => (Array.getElem?_map ..).symm
    rw [e]; exact f1'
  rw [f2']
  rfl
end
end Go.Proofs.Ytdpibcniodhinaa.Gh
/- More steps on ghost memory: many cells written, a block under another name, a new block that is only read. -/
namespace Go.Proofs.Ytdpibcniodhinaa.Gh
open Go Go.RowKit
set_option linter.unusedVariables false
set_option linter.unusedSimpArgs false

theorem setCells_heap (b : Nat) : ∀ (vs : List Value) (o : Nat) (w : World), (w.setCells b o vs).os = w.os ∧ (w.setCells b o vs).tape = w.tape ∧ (w.setCells b o vs).output = w.output ∧ (w.setCells b o vs).heap.size = w.heap.size ∧
    (∀ B, B ≠ b → (w.setCells b o vs).heap[B]? = w.heap[B]?) ∧
    ∀ row T fr, w.heap[b]? = some (.cells row T fr) → o + vs.length ≤ row.size → ∃ row', (w.setCells b o vs).heap[b]? = some (.cells row' T fr) ∧ row'.size = row.size ∧ ∀ j, vat row' j = if o ≤ j ∧ j < o + vs.length then vs.getD (j - o) Go.undef else vat row j := by
  intro vs
  induction vs with
  | nil =>
    intro o w
    refine ⟨rfl, rfl, rfl, rfl, fun _ _ => rfl, fun row T fr h _ => ⟨row, h, rfl, fun j => ?_⟩⟩
    rw [if_neg (by simp only [List.length_nil]; omega)]
  | cons v vs ih =>
    intro o w
    obtain ⟨h1, h2, h3, h4, h5, h6⟩ := ih (o + 1) (w.setCell ⟨b, o, none⟩ v)
    refine ⟨h1, h2, h3, by rw [World.setCells, h4]; simp, fun B hB => ?_, fun row T fr h hl => ?_⟩
    · rw [World.setCells, h5 B hB]; exact Below.heap_setCell _ _ _ _ hB
    · simp only [List.length_cons] at hl
      have hset : (w.setCell ⟨b, o, none⟩ v).heap[b]? = some (.cells (row.setIfInBounds o v) T fr) := by
        simp only [World.setCell, Array.getElem?_modify, h]; simp
      obtain ⟨row', g1, g2, g3⟩ := h6 _ T fr hset (by simp; omega)
      refine ⟨row', g1, by simpa using g2, fun j => ?_⟩
      rw [g3 j]
      simp only [List.length_cons]
      by_cases e : j = o
      · subst e; rw [if_neg (by omega), if_pos (by omega)]
        have : j < row.size := by omega
        simp [vat, Array.getD, this]
      · by_cases e2 : o ≤ j ∧ j < o + (vs.length + 1)
        · rw [if_pos (by omega), if_pos e2]
          have : j - o = (j - (o + 1)) + 1 := by omega
          rw [this]; simp
        · rw [if_neg (by omega), if_neg e2]
          by_cases hj : j < row.size
          · simp [vat, Array.getD, hj, Ne.symm e]
          · simp [vat, Array.getD, hj]

/-- an own block is written, and nothing else -/
theorem write_step {K : Kr} (hs : Sat K) {b : Nat} {cs : List GV} (e : K.H b = some cs) (hz : 0 < K.sz b) (cs' : List GV) {w' : World}
    (h1 : w'.os = K.w.os) (h2 : w'.tape = K.w.tape) (h3 : w'.output = K.w.output) (h4 : w'.heap.size = K.w.heap.size) (h5 : ∀ B, B ≠ K.σ b → w'.heap[B]? = K.w.heap[B]?) :
    KStep K { K with H := upd K.H b (some cs'), w := w' } where
  os := h1
  tape := h2
  output := h3
  size := by show K.w.heap.size ≤ w'.heap.size; omega
  S _ h := h
  keep B h := by
    obtain ⟨row, T, g1, g2, g3, g4⟩ := hs.blk b cs e hz
    exact h5 B (fun e' => g4 (e' ▸ h))
  lo := Nat.le_refl _
  live _ _ _ := ⟨rfl, rfl⟩
  dies x g1 g2 := by
    by_cases hx : x = b
    · subst hx; simp only [upd_same] at g2; cases g2
    · simp only [upd_ne _ _ hx] at g2; exact absurd g2 g1
  dead x g1 g2 := by
    have : x ≠ b := fun e' => by rw [e', e] at g2; cases g2
    simp only [upd_ne _ _ this]; exact g2
theorem write_sat {K : Kr} (hs : Sat K) {b : Nat} {cs : List GV} (e : K.H b = some cs) (hz : 0 < K.sz b) (cs' : List GV) {w' : World}
    (h1 : w'.os = K.w.os) (h2 : w'.tape = K.w.tape) (h3 : w'.output = K.w.output) (h4 : w'.heap.size = K.w.heap.size) (h5 : ∀ B, B ≠ K.σ b → w'.heap[B]? = K.w.heap[B]?)
    {row' : Array Value} {T : TypeId} (g1 : w'.heap[K.σ b]? = some (.cells row' T (0, 0))) (g2 : row'.size = K.sz b) (g3 : cs'.length ≤ K.sz b) (g4 : ∀ j, j < cs'.length → VR K (gat cs' j) (vat row' j)) :
    Sat { K with H := upd K.H b (some cs'), w := w' } := by
  have hst := write_step hs e hz cs' h1 h2 h3 h4 h5
  have hne : ∀ x, (upd K.H b (some cs')) x ≠ none → K.H x ≠ none := by
    intro x hx
    by_cases hxb : x = b
    · subst hxb; rw [e]; simp
    · rwa [upd_ne _ _ hxb] at hx
  refine ⟨?_, ?_, fun x y a1 a2 => hs.inj x y (hne x a1) (hne y a2), ?_⟩
  · intro x c ex
    by_cases hx : x = b
    · subst hx; simp only [upd_same, Option.some.injEq] at ex; subst ex; exact g3
    · simp only [upd_ne _ _ hx] at ex; exact hs.len x c ex
  · intro x c ex hzx
    by_cases hx : x = b
    · subst hx; simp only [upd_same, Option.some.injEq] at ex; subst ex
      obtain ⟨row, T', q1, q2, q3, q4⟩ := hs.blk x cs e hz
      exact ⟨row', T, g1, g2, fun j hj => (g4 j hj).mono hst, q4⟩
    · simp only [upd_ne _ _ hx] at ex
      obtain ⟨row, T', q1, q2, q3, q4⟩ := hs.blk x c ex hzx
      refine ⟨row, T', ?_, q2, fun j hj => (q3 j hj).mono hst, q4⟩
      show w'.heap[K.σ x]? = _
      rw [h5 _ (fun e' => hx (hs.inj x b (by rw [ex]; simp) (by rw [e]; simp) hzx hz e')), q1]
  · intro B h; have := hs.sS B h; show B < w'.heap.size; omega

/-- an own block goes on under another name -/
theorem rename_step {K : Kr} (hs : Sat K) {b : Nat} {cs : List GV} (e : K.H b = some cs) (hb : b < K.lo) {n : Nat} (hn : K.H n = none) (hnl : K.lo ≤ n) :
    KStep K { K with σ := updN K.σ n (K.σ b), sz := updN K.sz n (K.sz b), H := upd (upd K.H b none) n (some cs), lo := n + 1 } where
  os := rfl
  tape := rfl
  output := rfl
  size := Nat.le_refl _
  S _ h := h
  keep _ _ := rfl
  lo := by show K.lo ≤ n + 1; omega
  live x g1 g2 := by
    have : x ≠ n := fun e' => g1 (e' ▸ hn)
    exact ⟨updN_ne _ _ this, updN_ne _ _ this⟩
  dies x g1 g2 := by
    have hx : x ≠ n := fun e' => g1 (e' ▸ hn)
    by_cases hxb : x = b
    · subst hxb; show x < n + 1; omega
    · simp only [upd_ne _ _ hx, upd_ne _ _ hxb] at g2; exact absurd g2 g1
  dead x g1 g2 := by
    have hx : x ≠ n := by omega
    by_cases hxb : x = b
    · subst hxb; rw [e] at g2; cases g2
    · simp only [upd_ne _ _ hx, upd_ne _ _ hxb]; exact g2
theorem rename_sat {K : Kr} (hs : Sat K) {b : Nat} {cs : List GV} (e : K.H b = some cs) (hb : b < K.lo) {n : Nat} (hn : K.H n = none) (hnl : K.lo ≤ n) :
    Sat { K with σ := updN K.σ n (K.σ b), sz := updN K.sz n (K.sz b), H := upd (upd K.H b none) n (some cs), lo := n + 1 } := by
  have hst := rename_step hs e hb hn hnl
  have hbn : b ≠ n := by omega
  have key : ∀ x c, (upd (upd K.H b none) n (some cs)) x = some c → (x = n ∧ c = cs) ∨ (x ≠ n ∧ x ≠ b ∧ K.H x = some c) := by
    intro x c ex
    by_cases hx : x = n
    · subst hx; rw [upd_same] at ex; exact .inl ⟨rfl, by simpa using ex.symm⟩
    · rw [upd_ne _ _ hx] at ex
      by_cases hxb : x = b
      · subst hxb; rw [upd_same] at ex; cases ex
      · rw [upd_ne _ _ hxb] at ex; exact .inr ⟨hx, hxb, ex⟩
  refine ⟨?_, ?_, ?_, hs.sS⟩
  · intro x c ex
    rcases key x c ex with ⟨rfl, rfl⟩ | ⟨hx, _, ex⟩
    · simp only [updN_same]; exact hs.len b _ e
    · simp only [updN_ne _ _ hx]; exact hs.len x c ex
  · intro x c ex hz
    rcases key x c ex with ⟨rfl, rfl⟩ | ⟨hx, _, ex⟩
    · simp only [updN_same] at hz ⊢
      obtain ⟨row, T, q1, q2, q3, q4⟩ := hs.blk b _ e hz
      exact ⟨row, T, q1, q2, fun j hj => (q3 j hj).mono hst, q4⟩
    · simp only [updN_ne _ _ hx] at hz ⊢
      obtain ⟨row, T, q1, q2, q3, q4⟩ := hs.blk x c ex hz
      exact ⟨row, T, q1, q2, fun j hj => (q3 j hj).mono hst, q4⟩
  · intro x y h1 h2 hz1 hz2 he
    obtain ⟨c1, h1⟩ := Option.ne_none_iff_exists'.1 h1
    obtain ⟨c2, h2⟩ := Option.ne_none_iff_exists'.1 h2
    rcases key x c1 h1 with ⟨rfl, rfl⟩ | ⟨hx, hxb, ex⟩
    · rcases key y c2 h2 with ⟨rfl, rfl⟩ | ⟨hy, hyb, ey⟩
      · rfl
      · exfalso
        simp only [updN_same, updN_ne _ _ hy] at he hz1 hz2
        exact hyb (hs.inj b y (by rw [e]; simp) (by rw [ey]; simp) hz1 hz2 he).symm
    · rcases key y c2 h2 with ⟨rfl, rfl⟩ | ⟨hy, hyb, ey⟩
      · exfalso
        simp only [updN_same, updN_ne _ _ hx] at he hz1 hz2
        exact hxb (hs.inj x b (by rw [ex]; simp) (by rw [e]; simp) hz1 hz2 he)
      · simp only [updN_ne _ _ hx, updN_ne _ _ hy] at he hz1 hz2
        exact hs.inj x y (by rw [ex]; simp) (by rw [ey]; simp) hz1 hz2 he

/-- a new block that is only read -/
theorem newp_step {K : Kr} (hs : Sat K) (ob : Obj) : KStep K { K with w := K.w.alloc ob, S := fun B => K.S B ∨ B = K.w.heap.size } where
  os := rfl
  tape := rfl
  output := rfl
  size := by simp
  S _ h := .inl h
  keep B h := Below.heap_alloc _ _ _ (hs.sS B h)
  lo := Nat.le_refl _
  live _ _ _ := ⟨rfl, rfl⟩
  dies _ h e := absurd e h
  dead _ _ h := h
theorem newp_sat {K : Kr} (hs : Sat K) (ob : Obj) : Sat { K with w := K.w.alloc ob, S := fun B => K.S B ∨ B = K.w.heap.size } := by
  have hst := newp_step hs ob
  refine ⟨hs.len, ?_, hs.inj, ?_⟩
  · intro x c ex hz
    obtain ⟨row, T, q1, q2, q3, q4⟩ := hs.blk x c ex hz
    have hlt := alive_lt hs ex hz
    refine ⟨row, T, ?_, q2, fun j hj => (q3 j hj).mono hst, ?_⟩
    · rw [← q1]; exact Below.heap_alloc _ _ _ hlt
    · rintro (h | h)
      · exact q4 h
      · have h : K.σ x = K.w.heap.size := h
        omega
  · rintro B (h | rfl)
    · have := hs.sS B h; show B < (K.w.alloc ob).heap.size; simp; omega
    · show K.w.heap.size < (K.w.alloc ob).heap.size; simp
theorem newp_cells {K : Kr} (row : Array Value) (T : TypeId) {j : Nat} (h : j < row.size) : (K.w.alloc (.cells row T (0, 0))).cell? ⟨K.w.heap.size, 0 + j, none⟩ = some (vat row j) := by
  simp only [World.cell?, World.alloc]
  simp [h, vat, Array.getD]

/-- the run of a load of several cells -/
theorem run_loads {P : Program} (w : World) (B o m : Nat) (us : Nat → Value) (h : ∀ j, j < m → w.cell? ⟨B, o + j, none⟩ = some (us j)) : (loadCells ⟨B, o, none⟩ m).run P w = .ok ((List.range m).map us).toArray w :=
  run_loadCells w ⟨B, o, none⟩ m us fun j hj => by rw [add_plain]; exact h j hj

/-- the elements of a slice, cell by cell -/
theorem gelems_VR {K : Kr} (hs : Sat K) {H : Heap} (hH : ∀ b cs, H b = some cs → K.H b = some cs) {g : GV} {v : Value} (hv : VR K g v) {ys : List GV} (e : gelems H g = some ys) :
    ∃ A n c, v = .slice A n c ∧ n = ys.length ∧ n ≤ c ∧ (0 < n → ∃ B o, A = some ⟨B, o, none⟩ ∧ ∃ us : Nat → Value, (∀ j, j < n → K.w.cell? ⟨B, o + j, none⟩ = some (us j)) ∧ ∀ j, j < n → VR K (gat ys j) (us j)) := by
  cases g <;> simp only [gelems] at e
  case nil =>
    simp only [Option.some.injEq] at e; subst e
    exact ⟨_, _, _, hv.nil_inv, rfl, Nat.le_refl _, fun h => by omega⟩
  case emp =>
    simp only [Option.some.injEq] at e; subst e
    obtain ⟨ad, h⟩ := hv.emp_inv
    exact ⟨_, _, _, h, rfl, Nat.le_refl _, fun h => by omega⟩
  case lit cs =>
    simp only [Option.some.injEq] at e; subst e
    cases hv with
    | lit B o _ us h1 h2 h3 => exact ⟨_, _, _, rfl, rfl, Nat.le_refl _, fun _ => ⟨B, o, rfl, us, h2, h3⟩⟩
  case sl n cs =>
    split at e
    · rename_i hl
      simp only [Option.some.injEq] at e; subst e
      cases hv with
      | sl0 _ c A h1 => exact ⟨_, _, _, rfl, hl.symm, h1, fun h => by simp at hl; omega⟩
      | sl _ c B o _ us h1 h2 h3 h4 => exact ⟨_, _, _, rfl, hl.symm, h1, fun _ => ⟨B, o, rfl, us, fun j hj => h3 j (by omega), fun j hj => h4 j (by omega)⟩⟩
    · cases e
  case own b o n =>
    split at e
    · rename_i cs hb
      split at e
      · rename_i hle
        simp only [Option.some.injEq] at e; subst e
        have hlen : ((cs.drop o).take n).length = n := by simp; omega
        have hK := hH b cs hb
        cases hv with
        | own _ _ _ c h1 h2 h3 =>
          refine ⟨_, _, _, rfl, hlen.symm, h3, fun hn => ⟨_, _, rfl, ?_⟩⟩
          obtain ⟨row, T, q1, q2, q3, q4⟩ := hs.blk b cs hK (by omega)
          have hl := hs.len b cs hK
          refine ⟨fun j => vat row (o + j), fun j hj => ?_, fun j hj => ?_⟩
          · simp only [World.cell?, q1]
            have : o + j < row.size := by omega
            simp [vat, Array.getD, this]
          · have : gat ((cs.drop o).take n) j = gat cs (o + j) := by
              simp [gat, List.getD_eq_getElem?_getD, hj, List.getElem?_drop]
            rw [this]; exact q3 (o + j) (by omega)
        | own0 _ _ A _ => exact ⟨_, _, _, rfl, hlen.symm, Nat.le_refl _, fun h => by omega⟩
        | owns _ _ _ B c h1 h2 h3 => rw [hK] at h1; cases h1
      · cases e
    · cases e
  all_goals cases e

/-- the run that fetches a slice's cells -/
theorem run_first {P : Program} {w : World} {A : Option Addr} {n c : Nat} {ys : List GV} {K : Kr} (hn : n = ys.length) (h : 0 < n → ∃ B o, A = some ⟨B, o, none⟩ ∧ ∃ us : Nat → Value, (∀ j, j < n → w.cell? ⟨B, o + j, none⟩ = some (us j)) ∧ ∀ j, j < n → VR K (gat ys j) (us j)) (m : Nat) (hm : m ≤ n) :
    ∃ arr : Array Value, (Builtin.firstCells 1 m (.slice A n c)).run P w = .ok arr w ∧ arr.size = m ∧ ∀ j, j < m → VR K (gat ys j) (vat arr j) := by
  rcases Nat.eq_zero_or_pos n with h0 | h0
  · have : m = 0 := by omega
    subst this
    cases A with
    | none => exact ⟨#[], by simp [Builtin.firstCells], rfl, fun j hj => by omega⟩
    | some ad => exact ⟨#[], by simp [Builtin.firstCells, loadCells, loadCellsFrom], rfl, fun j hj => by omega⟩
  · obtain ⟨B, o, rfl, us, h1, h2⟩ := h h0
    refine ⟨((List.range m).map us).toArray, ?_, by simp, fun j hj => ?_⟩
    · simp only [Builtin.firstCells, Nat.mul_one]
      exact run_loads w B o m us fun j hj => h1 j (by omega)
    · have := h2 j (by omega)
      simpa [vat, Array.getD, hj] using this

/-- a value that stands for a ghost value of one cell is of one cell -/
theorem isCell_one {K : Kr} {g : GV} {v : Value} (h : VR K g v) (e : isCell g = true) : v.oneCell' = true := by
  cases h <;> first | rfl | cases e
end Go.Proofs.Ytdpibcniodhinaa.Gh
/- The runs of the operations that read memory or make blocks. -/
namespace Go.Proofs.Ytdpibcniodhinaa.Gh
open Go Go.RowKit
set_option linter.unusedVariables false
set_option linter.unusedSimpArgs false

section
variable {P : Program} {K : Kr} {t : List GV} {a : Act} {g : GV}

/-- where a ghost address leads: the cells that can be read there -/
def gread (H : Heap) : GV → Option (List GV × Nat)
  | .ptr b o => (H b).map fun cs => (cs, o)
  | .pp cs o => some (cs, o)
  | _ => none
theorem gread_VR (hs : Sat K) {H : Heap} (hH : ∀ b cs, H b = some cs → K.H b = some cs) {v : Value} (hv : VR K g v) {cs : List GV} {o : Nat} (e : gread H g = some (cs, o)) (m : Nat) (hm : o + m ≤ cs.length) (h0 : 0 < m) :
    ∃ B p, v = .pointer (some ⟨B, p, none⟩) ∧ ∃ us : Nat → Value, (∀ j, j < m → K.w.cell? ⟨B, p + j, none⟩ = some (us j)) ∧ ∀ j, j < m → VR K (gat cs (o + j)) (us j) := by
  cases g <;> simp only [gread] at e
  case ptr b q =>
    simp only [Option.map_eq_some_iff, Prod.mk.injEq] at e
    obtain ⟨cs', hb, rfl, rfl⟩ := e
    have hK := hH b cs' hb
    cases hv with
    | ptr _ _ h1 =>
      have hl := hs.len b cs' hK
      obtain ⟨row, T, q1, q2, q3, q4⟩ := hs.blk b cs' hK (by omega)
      refine ⟨_, _, rfl, fun j => vat row (q + j), fun j hj => ?_, fun j hj => q3 _ (by omega)⟩
      simp only [World.cell?, q1]
      have : q + j < row.size := by omega
      simp [vat, Array.getD, this]
    | ptrs _ _ B h1 h2 => rw [hK] at h1; cases h1
  case pp cs' q =>
    simp only [Option.some.injEq, Prod.mk.injEq] at e
    obtain ⟨rfl, rfl⟩ := e
    cases hv with
    | pp B p _ _ us h1 h2 h3 =>
      refine ⟨_, _, rfl, fun j => us (q + j), fun j hj => ?_, fun j hj => h3 _ (by omega)⟩
      rw [Nat.add_assoc]; exact h2 _ (by omega)
  all_goals cases e

theorem run_load1 (o : Oper) {T : TypeId} {x : Operand} {x' : GX} (ho : o.op = .load T x) (hs : Sat K) (ht : TR K t a.tmps) (hT : shapeOf P T = some none) (hx : okX x x' = true)
    {H : Heap} (hH : ∀ b cs, H b = some cs → K.H b = some cs) {cs : List GV} {p : Nat} (hr : gread H (gev t x') = some (cs, p)) (hp : p < cs.length) :
    ∃ v, (execOp a.eval o).run P K.w = .ok (.value v) K.w ∧ VR K (gat cs p) v := by
  obtain ⟨B, q, hv, us, h1, h2⟩ := gread_VR hs hH (okX_VR ht hx) hr 1 (by omega) (by omega)
  have h1 := h1 0 (by omega)
  have h2 := h2 0 (by omega)
  simp only [Nat.add_zero] at h1 h2
  exact ⟨us 0, by simp [execOp, ho, Instr.loadAt, Instr.sureAddr, hv, loadVar, shapeOf_one hT, h1], h2⟩
theorem run_loadm (o : Oper) {T : TypeId} {m : Nat} {x : Operand} {x' : GX} (ho : o.op = .load T x) (hs : Sat K) (ht : TR K t a.tmps) (hT : shapeOf P T = some (some m)) (hx : okX x x' = true)
    {H : Heap} (hH : ∀ b cs, H b = some cs → K.H b = some cs) {cs : List GV} {p : Nat} (hr : gread H (gev t x') = some (cs, p)) (hp : p + m ≤ cs.length) (hm : 0 < m) :
    ∃ v, (execOp a.eval o).run P K.w = .ok (.value v) K.w ∧ VR K (.agg ((cs.drop p).take m)) v := by
  obtain ⟨B, q, hv, us, h1, h2⟩ := gread_VR hs hH (okX_VR ht hx) hr m hp hm
  have hl := run_loads (P := P) K.w B q m us h1
  refine ⟨.agg ((List.range m).map us).toArray, by simp [execOp, ho, Instr.loadAt, Instr.sureAddr, hv, loadVar, (shapeOf_agg hT _).1, (shapeOf_agg hT _).2, hl], .agg _ _ (by simp; omega) fun j hj => ?_⟩
  have hj' : j < m := by simp at hj; omega
  have e1 : gat ((cs.drop p).take m) j = gat cs (p + j) := by simp [gat, List.getD_eq_getElem?_getD, hj', List.getElem?_drop]
  have e2 : vat ((List.range m).map us).toArray j = us j := by simp [vat, Array.getD, hj']
  rw [e1, e2]; exact h2 j hj'

/-- an operation that makes one block: its row, and the value -/
def Makes (P : Program) (o : Oper) (a : Act) (K : Kr) (w : World) (cs : List GV) (v : Value) : Prop :=
  ∃ row T, cs.length ≤ row.size ∧ (∀ j, j < cs.length → VR K (gat cs j) (vat row j)) ∧ (execOp a.eval o).run P K.w = .ok (.value v) (w.alloc (.cells row T (0, 0)))

theorem run_box (o : Oper) {T : TypeId} {x : Operand} {x' : GX} (ho : o.op = .box T x) (ht : TR K t a.tmps) (hx : okX x x' = true) {vs : List GV} (hc : gcells (gev t x') = some vs) :
    Makes P o a K K.w vs (.pointer (some ⟨K.w.heap.size, 0, none⟩)) := by
  obtain ⟨h1, h2⟩ := cells_VR (okX_VR ht hx) hc
  exact ⟨_, T, by omega, h2, by simp [execOp, ho, Instr.box, newVar, newRow]⟩
theorem run_alloc (o : Oper) {T : TypeId} {cs : List GV} (ho : o.op = .alloc T) {z : Value} (hz : zeroB P T = some z) (hc : sameCs z.cells cs = true) :
    Makes P o a K K.w cs (.pointer (some ⟨K.w.heap.size, 0, none⟩)) := by
  obtain ⟨h1, h2⟩ := sameCs_VR K hc
  exact ⟨_, T, by omega, h2, by simp [execOp, ho, Instr.alloc, run_zeroValue' _ hz, newVar, newRow]⟩
theorem run_bslice (o : Oper) {T e : TypeId} {n s : Nat} {parts : Array (Nat × Operand)} {cells : List GV} {parts' : List (Nat × Nat × GX)} (ho : o.op = .buildSlice T n parts) (ht : TR K t a.tmps) (he : elemB P T = some e) (hs : sizeB P e = some s) {z : Value} (hz : zeroB P e = some z)
    (h1 : ¬ n * s > 2 ^ 24) (h2 : n * s ≠ 0) (hc : sameCs (repCells z.cells (n * s)) cells = true) (hp : okParts (fun i => some (i * s, s)) parts.toList parts' = true) {cs : List GV} (hf : gfill t cells parts' = some cs) :
    ∃ row : Array Value, row.size = cs.length ∧ cs.length = n * s ∧ (∀ j, j < cs.length → VR K (gat cs j) (vat row j)) ∧ ∀ w, (execOp a.eval o).run P w = .ok (.value (.slice (some ⟨w.heap.size, 0, none⟩) n n)) (w.alloc (.cells row e (0, 0))) := by
  obtain ⟨s1, s2⟩ := sameCs_VR K hc
  obtain ⟨out, f1, f2, f3⟩ := fill_sound ht _ _ _ hp _ cells cs s1 s2 hf
  have hu := elemB_spec he
  have hfl : ∀ (l : List GV) (ps : List (Nat × Nat × GX)) (r : List GV), gfill t l ps = some r → r.length = l.length := by
    intro l ps
    induction ps generalizing l with
    | nil => intro r e; simp only [gfill, Option.some.injEq] at e; rw [e]
    | cons p ps ih =>
      intro r e
      obtain ⟨off, size, x⟩ := p
      simp only [gfill] at e
      split at e
      · cases e
      · split at e
        · rw [ih _ _ e, setL_length]
        · cases e
  refine ⟨out, f2, ?_, f3, fun w => ?_⟩
  · rw [hfl _ _ _ hf, ← s1]; simp [repCells]
  · have f1' : Instr.fill (fun i => some (i * s, s)) ((Array.range (n * s)).map (z.cells[· % z.cells.size]!)) (parts.toList.map fun x => (x.fst, a.eval x.snd)) = some out := f1
    simp only [execOp, ho, Instr.buildSlice]
    simp [run_underlying' _ hu, run_sizeOf' _ hs, h1, h2, run_zeroValue' _ hz, f1', newRow]

theorem rep_gat (z : GV) (n j : Nat) (h : j < n) : gat (List.replicate n z) j = z := by simp [gat, List.getD_eq_getElem?_getD, h]
theorem run_mslice (o : Oper) {T e : TypeId} {l c : Operand} {l' c' : GX} {bytes : Nat} {z : GV} (ho : o.op = .makeSlice T l c) (ht : TR K t a.tmps) (he : elemB P T = some e) (hb : bytesB P e = some bytes) {zv : Value} (hz : zeroB P e = some zv) (hs : sizeB P e = some 1) (hc : sameCs zv.cells [z] = true)
    (hl : okX l l' = true) (hc' : okX c c' = true) {i : Int} (e1 : gev t l' = .int .i64 i) (e2 : gev t c' = .int .i64 i) (h0 : 0 ≤ i) (hbd : i * bytes ≤ 281474976710656) (hb0 : 0 < bytes) :
    ∃ row : Array Value, row.size = i.toNat ∧ (∀ j, j < i.toNat → VR K z (vat row j)) ∧ ∀ w, (execOp a.eval o).run P w = .ok (.value (.slice (some ⟨w.heap.size, 0, none⟩) i.toNat i.toNat)) (w.alloc (.cells row e (0, 0))) := by
  have v1 := okX_VR ht hl
  have v2 := okX_VR ht hc'
  rw [e1] at v1; rw [e2] at v2
  have v1 := v1.int_inv
  have v2 := v2.int_inv
  obtain ⟨ib, i1, i2⟩ := bytesB_spec hb
  obtain ⟨iz, i3, i4⟩ := zeroB_spec hz
  obtain ⟨is, i5, i6⟩ := sizeB_spec hs
  rw [i1] at i3 i5; cases i3; cases i5
  obtain ⟨c1, c2⟩ := sameCs_VR K hc
  have hzc : zv.cells.size = 1 := c1
  have hle : i ≤ i * bytes := by
    have : (1 : Int) ≤ bytes := by omega
    calc i = i * 1 := by rw [Int.mul_one]
      _ ≤ i * bytes := Int.mul_le_mul_of_nonneg_left this h0
  have hbd' : (ib.bytes : Int) * i ≤ 281474976710656 := by rw [i2, Int.mul_comm]; exact hbd
  refine ⟨madeCells zv.cells i.toNat, size_madeCells _ _, fun j hj => ?_, fun w => ?_⟩
  · have h1 := c2 0 (by simp)
    have : vat (madeCells zv.cells i.toNat) j = vat zv.cells 0 := by
      simp [vat, madeCells, Array.getD, hj, hzc, Nat.mod_one]
    rw [this]; exact h1
  · have hr := run_make (P := P) w T e ib zv (elemB_spec he) i1 i4 .i64 .i64 i i h0 (Int.le_refl _) hbd' (by omega)
    rw [i6, Nat.mul_one] at hr
    simp [execOp, ho, v1, v2, hr]
end
end Go.Proofs.Ytdpibcniodhinaa.Gh
/- Stores, copy, append. -/
namespace Go.Proofs.Ytdpibcniodhinaa.Gh
open Go Go.RowKit
set_option linter.unusedVariables false
set_option linter.unusedSimpArgs false

section
variable {P : Program} {K : Kr} {t : List GV} {a : Act} {g : GV}

theorem VR.ptr_live {b p : Nat} {v : Value} (h : VR K (.ptr b p) v) {cs : List GV} (e : K.H b = some cs) : v = .pointer (some ⟨K.σ b, p, none⟩) := by
  cases h with
  | ptr _ _ h1 => rfl
  | ptrs _ _ B h1 h2 => rw [e] at h1; cases h1
theorem VR.own_live {b p m : Nat} {v : Value} (h : VR K (.own b p m) v) {cs : List GV} (e : K.H b = some cs) (hm : 0 < m) : ∃ c, v = .slice (some ⟨K.σ b, p, none⟩) m c ∧ m ≤ c ∧ p + c ≤ K.sz b := by
  cases h with
  | own _ _ _ c h1 h2 h3 => exact ⟨c, rfl, h3, h2⟩
  | own0 _ _ A _ => omega
  | owns _ _ _ B c h1 h2 h3 => rw [e] at h1; cases h1
/-- values written into an own block, one behind the other -/
theorem write_cells (hs : Sat K) {b : Nat} {cs : List GV} (e : K.H b = some cs) (hz : 0 < K.sz b) (o : Nat) (us : List Value) (cs' : List GV) (hle : o + us.length ≤ K.sz b) (hlen : cs'.length ≤ K.sz b)
    (hcs : ∀ j, j < cs'.length → if o ≤ j ∧ j < o + us.length then VR K (gat cs' j) (us.getD (j - o) Go.undef) else j < cs.length ∧ gat cs' j = gat cs j) :
    KStep K { K with H := upd K.H b (some cs'), w := K.w.setCells (K.σ b) o us } ∧ Sat { K with H := upd K.H b (some cs'), w := K.w.setCells (K.σ b) o us } := by
  obtain ⟨h1, h2, h3, h4, h5, h6⟩ := setCells_heap (K.σ b) us o K.w
  obtain ⟨row, T, q1, q2, q3, q4⟩ := hs.blk b cs e hz
  obtain ⟨row', r1, r2, r3⟩ := h6 row T (0, 0) q1 (by omega)
  refine ⟨write_step hs e hz cs' h1 h2 h3 h4 h5, write_sat hs e hz cs' h1 h2 h3 h4 h5 r1 (by omega) hlen fun j hj => ?_⟩
  rw [r3 j]
  have := hcs j hj
  by_cases hc : o ≤ j ∧ j < o + us.length
  · rw [if_pos hc] at this ⊢; exact this
  · rw [if_neg hc] at this ⊢
    rw [this.2]; exact q3 j this.1
theorem run_stores (hs : Sat K) {b : Nat} {cs : List GV} (e : K.H b = some cs) (o : Nat) (us : List Value) (hle : o + us.length ≤ K.sz b) (h1 : ∀ v ∈ us, v.oneCell' = true) :
    (storeCells ⟨K.σ b, o, none⟩ us).run P K.w = .ok () (K.w.setCells (K.σ b) o us) := by
  rcases us with _ | ⟨u, us⟩
  · rfl
  · simp only [List.length_cons] at hle
    obtain ⟨row, T, q1, q2, q3, q4⟩ := hs.blk b cs e (by omega)
    refine run_storeCells_cells (K.σ b) o (u :: us) 0 K.w (fun j hj => ?_) (fun j hj => ?_) h1
    · simp only [List.length_cons] at hj
      simp only [World.cell?, q1, Nat.add_zero]
      have : o + j < row.size := by omega
      simp [this]
    · simp only [World.frozen?, q1]; simp

theorem run_store' (o : Oper) {T : TypeId} {m : Nat} {x v : Operand} {x' v' : GX} (ho : o.op = .store T x v) (hs : Sat K) (ht : TR K t a.tmps) (hT : sizeB P T = some m) (hx : okX x x' = true) (hv : okX v v' = true)
    {b p : Nat} (g1 : gev t x' = .ptr b p) {cs : List GV} (e : K.H b = some cs) {vs : List GV} (hc : gcells (gev t v') = some vs) (hm : vs.length = m) (hall : vs.all isCell = true) (hle : p + m ≤ cs.length) :
    ∃ K', (execOp a.eval o).run P K.w = .ok .skip K'.w ∧ KStep K K' ∧ Sat K' ∧ K'.H = upd K.H b (some (setL cs p vs)) ∧ K'.lo = K.lo := by
  have hl := hs.len b cs e
  obtain ⟨c1, c2⟩ := cells_VR (okX_VR ht hv) hc
  have hx := okX_VR ht hx
  rw [g1] at hx
  have hptr : a.eval x = .pointer (some ⟨K.σ b, p, none⟩) := hx.ptr_live e
  have hone : ∀ u ∈ (a.eval v).cells.toList, u.oneCell' = true := by
    intro u hu
    obtain ⟨j, hj, rfl⟩ := List.getElem_of_mem hu
    have hj' : j < vs.length := by simp at hj; omega
    have := c2 j hj'
    have hc1 : isCell (gat vs j) = true := by
      have := List.all_eq_true.1 hall (gat vs j) (by simp [gat, List.getD_eq_getElem?_getD, hj'])
      exact this
    have := isCell_one this hc1
    have hj2 : j < (a.eval v).cells.size := by simpa using hj
    simpa [vat, Array.getD, hj2] using this
  have hsz : (a.eval v).cells.toList.length = m := by simp; omega
  have hr := run_stores (P := P) hs e p (a.eval v).cells.toList (by omega) hone
  have hrun : (execOp a.eval o).run P K.w = .ok .skip (K.w.setCells (K.σ b) p (a.eval v).cells.toList) := by
    have : (a.eval v).cells.size = m := by omega
    simp [execOp, ho, Instr.storeAt, Instr.sureAddr, hptr, storeVar, run_sizeOf' _ hT, this, hr]
  by_cases hz : 0 < K.sz b
  · obtain ⟨w1, w2⟩ := write_cells hs e hz p (a.eval v).cells.toList (setL cs p vs) (by omega) (by rw [setL_length]; exact hl) (fun j hj => by
      rw [setL_length] at hj
      rw [setL_gat _ _ _ _ (by omega)]
      by_cases hc : p ≤ j ∧ j < p + vs.length
      · rw [if_pos (by omega), if_pos hc]
        have := c2 (j - p) (by omega)
        simpa [vat, Array.getD_eq_getD_getElem?, List.getD_eq_getElem?_getD] using this
      · rw [if_neg (by omega), if_neg hc]; exact ⟨hj, rfl⟩)
    exact ⟨_, hrun, w1, w2, rfl, rfl⟩
  · -- nothing is written
    have hm0 : m = 0 := by omega
    have hvs : vs = [] := List.eq_nil_of_length_eq_zero (by omega)
    have hcl : (a.eval v).cells.toList = [] := List.eq_nil_of_length_eq_zero (by omega)
    refine ⟨K, by rw [hrun, hcl]; rfl, KStep.refl K, hs, ?_, rfl⟩
    subst hvs
    funext y
    by_cases hy : y = b
    · subst hy; rw [upd_same, e]; rfl
    · rw [upd_ne _ _ hy]

theorem run_copy' (o : Oper) {T T' e' : TypeId} {d s : Operand} {d' s' : GX} (ho : o.op = .call { callee := .builtin .copy, args := #[d, s], argTypes := #[T, T'] }) (hs : Sat K) (ht : TR K t a.tmps) (he : elemB P T = some e') (hsz : sizeB P e' = some 1) (hd : okX d d' = true) (hx : okX s s' = true)
    {b p m : Nat} (g1 : gev t d' = .own b p m) {cs : List GV} (e : K.H b = some cs) (hle : p + m ≤ cs.length) {ys : List GV} (hy : gelems K.H (gev t s') = some ys) (hall : ys.all isCell = true) :
    ∃ K', (execOp a.eval o).run P K.w = .ok (.value (.int .i64 (min ys.length m : Nat))) K'.w ∧ KStep K K' ∧ Sat K' ∧ K'.H = upd K.H b (some (setL cs p (ys.take (min ys.length m)))) ∧ K'.lo = K.lo := by
  have hl := hs.len b cs e
  have hu := elemB_spec he
  have v1 := okX_VR ht hd
  rw [g1] at v1
  obtain ⟨A, n, c, hv, hn, hnc, hcell⟩ := gelems_VR hs (fun _ _ h => h) (okX_VR ht hx) hy
  obtain ⟨arr, f1, f2, f3⟩ := run_first (P := P) (c := c) hn hcell (min ys.length m) (by omega)
  subst hn
  have hone : ∀ u ∈ arr.toList, u.oneCell' = true := by
    intro u hu
    obtain ⟨j, hj, rfl⟩ := List.getElem_of_mem hu
    have hj2 : j < arr.size := by simpa using hj
    have hj' : j < ys.length := by omega
    have := f3 j (by omega)
    have hc1 : isCell (gat ys j) = true := List.all_eq_true.1 hall (gat ys j) (by simp [gat, List.getD_eq_getElem?_getD, hj'])
    have := isCell_one this hc1
    simpa [vat, Array.getD, hj2] using this
  have hmin : Nat.min ys.length m = min ys.length m := rfl
  rcases Nat.eq_zero_or_pos (min ys.length m) with h0 | h0
  · -- nothing goes over
    have harr : arr.toList = [] := List.eq_nil_of_length_eq_zero (by rw [Array.length_toList]; omega)
    obtain ⟨A1, c1, hv1, _, _⟩ := v1.own_inv
    refine ⟨K, ?_, KStep.refl K, hs, ?_, rfl⟩
    · rw [h0] at f1
      cases A1 with
      | none => simp [execOp, ho, resolve, invoke, builtin, Builtin.copy_, run_underlying' _ hu, hv, hv1, Builtin.lenOf, run_sizeOf' _ hsz, hmin, h0, f1, goInt]
      | some ad => simp [execOp, ho, resolve, invoke, builtin, Builtin.copy_, run_underlying' _ hu, hv, hv1, Builtin.lenOf, run_sizeOf' _ hsz, hmin, h0, f1, harr, storeCells, goInt]
    · rw [h0]; simp only [List.take_zero, setL]
      funext y
      by_cases hy : y = b
      · subst hy; rw [upd_same, e]
      · rw [upd_ne _ _ hy]
  · obtain ⟨c1, hptr, _, _⟩ := v1.own_live e (by omega)
    have hr := run_stores (P := P) hs e p arr.toList (by simp; omega) hone
    have hz : 0 < K.sz b := by omega
    have hlt : (ys.take (min ys.length m)).length = min ys.length m := by simp
    obtain ⟨w1, w2⟩ := write_cells hs e hz p arr.toList (setL cs p (ys.take (min ys.length m))) (by simp; omega) (by rw [setL_length]; exact hl) (fun j hj => by
      rw [setL_length] at hj
      rw [setL_gat _ _ _ _ (by omega)]
      have hal : arr.toList.length = min ys.length m := by simp [f2]
      by_cases hc : p ≤ j ∧ j < p + min ys.length m
      · rw [if_pos (by omega), if_pos (by omega)]
        have := f3 (j - p) (by omega)
        have hjm : j - p < min ys.length m := by omega
        have e1 : gat (ys.take (min ys.length m)) (j - p) = gat ys (j - p) := by
          simp only [gat, List.getD_eq_getElem?_getD, List.getElem?_take]; rw [if_pos hjm]
        rw [e1]
        simpa [vat, Array.getD_eq_getD_getElem?, List.getD_eq_getElem?_getD] using this
      · rw [if_neg (by omega), if_neg (by omega)]; exact ⟨hj, rfl⟩)
    refine ⟨_, ?_, w1, w2, rfl, rfl⟩
    simp [execOp, ho, resolve, invoke, builtin, Builtin.copy_, run_underlying' _ hu, hv, hptr, Builtin.lenOf, run_sizeOf' _ hsz, hmin, f1, hr, goInt]
end
end Go.Proofs.Ytdpibcniodhinaa.Gh
/- append. -/
namespace Go.Proofs.Ytdpibcniodhinaa.Gh
open Go Go.RowKit
set_option linter.unusedVariables false
set_option linter.unusedSimpArgs false

section
variable {P : Program} {K : Kr} {t : List GV} {a : Act} {g : GV}

theorem run_grow (w : World) (T ty e : TypeId) (i : TypeInfo) (z : Value) (ht : P.underlying T = some (.slice e)) (hi : P.info? e = some i) (hz : i.zero = some z) (hsz : i.size = 1)
    (A X : Option Addr) (m c k c2 : Nat) (olds news : Array Value) (ho : (Builtin.firstCells 1 m (.slice A m c)).run P w.drew = .ok olds w.drew) (hn : (Builtin.firstCells 1 k (.slice X k c2)).run P w.drew = .ok news w.drew)
    (hg : c < m + k) (hb : (m + k) * i.bytes ≤ 140737488355328) (hb0 : 0 < i.bytes) :
    (Builtin.append_ #[T, T] ty #[.slice A m c, .slice X k c2]).run P w = .ok (.slice (some ⟨w.heap.size, 0, none⟩) (m + k) (grownCap w (m + k) c e)) (w.drew.alloc (.cells (olds ++ news ++ Builtin.zeroCells z.cells (grownCap w (m + k) c e - (m + k))) e)) := by
  have hle : m + k ≤ (m + k) * i.bytes := Nat.le_mul_of_pos_right _ hb0
  have hn' : ¬ (m + k ≤ c) := by omega
  have h63' : ¬ (9223372036854775807 < ((m : Int) + (k : Int))) := by omega
  have hfit := growslice_fits hg hb
  have h48' : ¬ (281474976710656 < Builtin.nextslicecap (m + k) c * i.bytes) := by omega
  simp [Builtin.append_, run_underlying ht, sizeOf, typeInfo, zeroValue, hi, hz, hsz, Builtin.lenOf, hn', h63', h48', Question.forced, ho, hn, newRow, grownCap]

theorem run_room (w : World) (T ty e : TypeId) (i : TypeInfo) (ht : P.underlying T = some (.slice e)) (hi : P.info? e = some i) (hsz : i.size = 1)
    (A X : Option Addr) (m c k c2 : Nat) (news : Array Value) (hn : (Builtin.firstCells 1 k (.slice X k c2)).run P w = .ok news w) (hg : m + k ≤ c) {w' : World}
    (hst : match A with | some ad => (storeCells (ad.add m) news.toList).run P w = .ok () w' | none => w' = w) :
    (Builtin.append_ #[T, T] ty #[.slice A m c, .slice X k c2]).run P w = .ok (.slice A (m + k) c) w' := by
  cases A with
  | none => subst hst; simp [Builtin.append_, run_underlying ht, sizeOf, typeInfo, hi, hsz, Builtin.lenOf, hg, hn]
  | some ad => simp [Builtin.append_, run_underlying ht, sizeOf, typeInfo, hi, hsz, Builtin.lenOf, hg, hn, hst]

theorem cat_gat (xs ys : List GV) (j : Nat) : gat (xs ++ ys) j = if j < xs.length then gat xs j else gat ys (j - xs.length) := by
  simp only [gat, List.getD_eq_getElem?_getD, List.getElem?_append]
  split <;> rfl
theorem cat_vat (xs ys : Array Value) (j : Nat) : vat (xs ++ ys) j = if j < xs.size then vat xs j else vat ys (j - xs.size) := by
  simp only [vat, Array.getD_eq_getD_getElem?, Array.getElem?_append]
  split <;> rfl

/-- a new own block named n, behind an order that was drawn or not -/
theorem fresh_block (hs : Sat K) {n lo' : Nat} (hn : K.H n = none) (hl : K.lo ≤ n) (hlo : K.lo ≤ lo') (d : Nat) (cs : List GV) (row : Array Value) (T : TypeId) (hlen : cs.length ≤ row.size) (hr : ∀ j, j < cs.length → VR K (gat cs j) (vat row j)) :
    ∃ K', K'.w = ({ K.w with drawn := d } : World).alloc (.cells row T (0, 0)) ∧ KStep K K' ∧ Sat K' ∧ K'.H = upd K.H n (some cs) ∧ K'.lo = lo' ∧ K'.σ n = K.w.heap.size ∧ K'.sz n = row.size := by
  have h1 := drew_step K d
  have h2 := drew_sat hs d
  have h3 := new_step h2 n hn hl lo' hlo cs row T
  have h4 := new_sat h2 n hn hl lo' hlo cs row T hlen (fun j hj => (hr j hj).mono h1)
  exact ⟨_, rfl, h1.trans h3, h4, rfl, rfl, updN_same _ _ _, updN_same _ _ _⟩

theorem run_append' (o : Oper) {T e : TypeId} {s x : Operand} {s' x' : GX} {bytes : Nat} (ho : o.op = .call { callee := .builtin .append, args := #[s, x], argTypes := #[T, T] }) (hs : Sat K) (ht : TR K t a.tmps) (he : elemB P T = some e) (hb : bytesB P e = some bytes) (hsz : sizeB P e = some 1) {z : Value} (hz : zeroB P e = some z) (hzc : z.cells.size = 1) (hb0 : 0 < bytes)
    (hs' : okX s s' = true) (hx : okX x x' = true) {H : Heap} (hH : ∀ b cs, H b = some cs → K.H b = some cs) {ys : List GV} (hy : gelems H (gev t x') = some ys) (hall : ys.all isCell = true)
    {b m : Nat} (g1 : gev t s' = .own b 0 m) {cs : List GV} (e1 : K.H b = some cs) (hm : cs.length = m) (hbd : (m + ys.length) * bytes ≤ 140737488355328) (hbl : b < K.lo) {n : Nat} (hn : K.H n = none) (hnl : K.lo ≤ n) :
    ∃ v K', (execOp a.eval o).run P K.w = .ok (.value v) K'.w ∧ KStep K K' ∧ Sat K' ∧ K'.H = upd (upd K.H b none) n (some (cs ++ ys)) ∧ K'.lo = n + 1 ∧ VR K' (.own n 0 (m + ys.length)) v := by
  obtain ⟨i, i1, i2⟩ := bytesB_spec hb
  obtain ⟨iz, i3, i4⟩ := zeroB_spec hz
  obtain ⟨is, i5, i6⟩ := sizeB_spec hsz
  rw [i1] at i3 i5; cases i3; cases i5
  have hu := elemB_spec he
  have hbn : b ≠ n := by omega
  have hl := hs.len b cs e1
  obtain ⟨X, k, c2, hv, hk, hkc, hcell⟩ := gelems_VR hs hH (okX_VR ht hx) hy
  subst hk
  have v1 := okX_VR ht hs'
  rw [g1] at v1
  obtain ⟨A, c, hsv, hmc, _⟩ := v1.own_inv
  have hexec : ∀ w, (execOp a.eval o).run P w = ((Builtin.append_ #[T, T] o.type #[.slice A m c, .slice X ys.length c2]).run P w).andThen fun v w' => .ok (.value v) w' := by
    intro w; simp [execOp, ho, resolve, invoke, builtin, hsv, hv]
  by_cases hroom : m + ys.length ≤ c
  · obtain ⟨arr, f1, f2, f3⟩ := run_first (P := P) (c := c2) (w := K.w) rfl hcell ys.length (Nat.le_refl _)
    rcases Nat.eq_zero_or_pos c with hc0 | hc0
    · -- nothing there, nothing to append
      subst hc0
      have hm0 : m = 0 := by omega
      have hy0 : ys = [] := List.eq_nil_of_length_eq_zero (by omega)
      subst hy0; subst hm0
      have hcs : cs = [] := List.eq_nil_of_length_eq_zero hm
      subst hcs
      have harr : arr.toList = [] := List.eq_nil_of_length_eq_zero (by rw [Array.length_toList]; simpa using f2)
      refine ⟨.slice A 0 0, _, ?_, rename_step hs e1 hbl hn hnl, rename_sat hs e1 hbl hn hnl, rfl, rfl, .own0 _ _ _ (.inr (Nat.lt_succ_self n))⟩
      rw [hexec, run_room (P := P) K.w T o.type e i hu i1 i6 A X 0 0 ([] : List GV).length c2 arr f1 (Nat.le_refl _) (w' := K.w) (by cases A <;> simp [harr, storeCells])]
      rfl
    · -- room: the spare cells are written
      have hA : A = some ⟨K.σ b, 0, none⟩ ∧ c ≤ K.sz b := by
        rw [hsv] at v1
        cases v1 with
        | own _ _ _ _ q1 q2 q3 => exact ⟨rfl, by omega⟩
        | own0 _ _ _ _ => omega
        | owns _ _ _ B _ q1 q2 q3 => rw [e1] at q1; cases q1
      obtain ⟨rfl, hcz⟩ := hA
      have hone : ∀ u ∈ arr.toList, u.oneCell' = true := by
        intro u hu'
        obtain ⟨j, hj, rfl⟩ := List.getElem_of_mem hu'
        have hj2 : j < arr.size := by simpa using hj
        have hj' : j < ys.length := by omega
        have hc1 : isCell (gat ys j) = true := List.all_eq_true.1 hall (gat ys j) (by simp [gat, List.getD_eq_getElem?_getD, hj'])
        have := isCell_one (f3 j hj') hc1
        simpa [vat, Array.getD, hj2] using this
      have hal : arr.toList.length = ys.length := by rw [Array.length_toList, f2]
      have hr := run_stores (P := P) hs e1 m arr.toList (by omega) hone
      obtain ⟨w1, w2⟩ := write_cells hs e1 (by omega) m arr.toList (cs ++ ys) (by omega) (by simp; omega) (fun j hj => by
        simp only [List.length_append] at hj
        rw [cat_gat]
        by_cases hc : m ≤ j ∧ j < m + arr.toList.length
        · rw [if_pos hc, if_neg (by omega)]
          have := f3 (j - m) (by omega)
          rw [hm]
          simpa [vat, Array.getD_eq_getD_getElem?, List.getD_eq_getElem?_getD] using this
        · rw [if_neg hc, if_pos (by omega)]; exact ⟨by omega, rfl⟩)
      have e2 : (upd K.H b (some (cs ++ ys))) b = some (cs ++ ys) := upd_same _ _ _
      have hn2 : (upd K.H b (some (cs ++ ys))) n = none := by rw [upd_ne _ _ (Ne.symm hbn)]; exact hn
      have w3 := rename_step w2 e2 hbl hn2 hnl
      have w4 := rename_sat w2 e2 hbl hn2 hnl
      have hHeq : upd (upd (upd K.H b (some (cs ++ ys))) b none) n (some (cs ++ ys)) = upd (upd K.H b none) n (some (cs ++ ys)) := by
        funext y
        by_cases hy : y = n
        · subst hy; rw [upd_same, upd_same]
        · rw [upd_ne _ _ hy, upd_ne _ _ hy]
          by_cases hyb : y = b
          · subst hyb; rw [upd_same, upd_same]
          · rw [upd_ne _ _ hyb, upd_ne _ _ hyb, upd_ne _ _ hyb]
      refine ⟨.slice (some ⟨K.σ b, 0, none⟩) (m + ys.length) c, _, ?_, w1.trans w3, w4, hHeq, rfl, ?_⟩
      · rw [hexec, run_room (P := P) K.w T o.type e i hu i1 i6 _ X m c ys.length c2 arr f1 hroom (w' := K.w.setCells (K.σ b) m arr.toList) (by show (storeCells ((⟨K.σ b, 0, none⟩ : Addr).add m) arr.toList).run P K.w = _; rw [add_plain, Nat.zero_add]; exact hr)]
        rfl
      · have hne : (upd (upd (upd K.H b (some (cs ++ ys))) b none) n (some (cs ++ ys))) n ≠ none := by rw [upd_same]; simp
        have := VR.own (K := { K with H := upd (upd (upd K.H b (some (cs ++ ys))) b none) n (some (cs ++ ys)), w := K.w.setCells (K.σ b) m arr.toList, σ := updN K.σ n (K.σ b), sz := updN K.sz n (K.sz b), lo := n + 1 }) n 0 (m + ys.length) c hne (by show 0 + c ≤ updN K.sz n (K.sz b) n; rw [updN_same]; omega) hroom
        simp only [updN_same] at this
        exact this
  · -- no room: a new block
    have hcell' := hcell
    obtain ⟨arr, f1, f2, f3⟩ := run_first (P := P) (c := c2) (w := K.w.drew) (A := X) (K := K) rfl (fun h => by
      obtain ⟨B, q, h1, us, h2, h3⟩ := hcell h
      exact ⟨B, q, h1, us, fun j hj => by rw [World.cell?_drew]; exact h2 j hj, h3⟩) ys.length (Nat.le_refl _)
    have hself : gelems (fun x => if x = b then some cs else none) (.own b 0 m) = some cs := by
      simp [gelems, hm]; rw [← hm]; simp
    obtain ⟨A', m', c', q1, q2, q3, q4⟩ := gelems_VR hs (fun x c h => by
      by_cases hx : x = b
      · subst hx; simp at h; subst h; exact e1
      · simp [hx] at h) v1 hself
    rw [hsv] at q1; cases q1
    obtain ⟨arr0, p1, p2, p3⟩ := run_first (P := P) (c := c) (w := K.w.drew) (A := A) (K := K) q2 (fun h => by
      obtain ⟨B, q, h1, us, h2, h3⟩ := q4 h
      exact ⟨B, q, h1, us, fun j hj => by rw [World.cell?_drew]; exact h2 j hj, h3⟩) m (Nat.le_refl _)
    have hrun := run_grow (P := P) K.w T o.type e i z hu i1 i4 i6 A X m c ys.length c2 arr0 arr p1 f1 (by omega) (by rw [i2]; exact hbd) (by omega)
    have hge := grownCap_ge K.w (m + ys.length) c e
    obtain ⟨K', k1, k2, k3, k4, k5, k6, k7⟩ := fresh_block hs hn hnl (lo' := n + 1) (by omega) (K.w.drawn + 1) (cs ++ ys) (arr0 ++ arr ++ Builtin.zeroCells z.cells (grownCap K.w (m + ys.length) c e - (m + ys.length))) e (by simp only [List.length_append, Array.size_append]; omega) (fun j hj => by
      simp only [List.length_append] at hj
      rw [cat_gat, cat_vat, cat_vat]
      by_cases hjm : j < cs.length
      · rw [if_pos hjm, if_pos (by simp only [Array.size_append]; omega), if_pos (by omega)]; exact p3 j (by omega)
      · rw [if_neg hjm, if_pos (by simp only [Array.size_append]; omega), if_neg (by omega)]
        have := f3 (j - cs.length) (by omega)
        rw [p2, ← hm]; exact this)
    have hkill := kill_step K' (fun x => x == b) (fun x hx _ => by simp at hx; omega)
    have hkill2 := kill_sat k3 (fun x => x == b) (fun x hx _ => by simp at hx; omega)
    have hHeq : (fun x => if (x == b) = true then none else K'.H x) = upd (upd K.H b none) n (some (cs ++ ys)) := by
      funext y
      rw [k4]
      by_cases hyb : y = b
      · subst hyb; rw [if_pos (by simp), upd_ne _ _ hbn, upd_same]
      · rw [if_neg (by simpa using hyb)]
        by_cases hy : y = n
        · subst hy; rw [upd_same, upd_same]
        · rw [upd_ne _ _ hy, upd_ne _ _ hy, upd_ne _ _ hyb]
    refine ⟨.slice (some ⟨K.w.heap.size, 0, none⟩) (m + ys.length) (grownCap K.w (m + ys.length) c e), _, ?_, k2.trans hkill, hkill2, hHeq, k5, ?_⟩
    · rw [hexec, hrun]
      show _ = Result.ok _ K'.w
      rw [k1]; rfl
    · have hne : (fun x => if (x == b) = true then none else K'.H x) n ≠ none := by
        rw [hHeq, upd_same]; simp
      have hz1 : grownCap K.w (m + ys.length) c e ≤ K'.sz n := by
        rw [k7]; simp only [Array.size_append, size_zeroCells, hzc, p2, f2]; omega
      · have := VR.own (K := { K' with H := fun x => if (x == b) = true then none else K'.H x }) n 0 (m + ys.length) (grownCap K.w (m + ys.length) c e) hne (by show 0 + _ ≤ K'.sz n; omega) hge
        rw [show ({ K' with H := fun x => if (x == b) = true then none else K'.H x } : Kr).σ n = K.w.heap.size from k6] at this
        exact this

theorem empty_name (hs : Sat K) {n lo' : Nat} (hn : K.H n = none) (hl : K.lo ≤ n) (hlo : K.lo ≤ lo') :
    KStep K { K with H := upd K.H n (some []), sz := updN K.sz n 0, lo := lo' } ∧ Sat { K with H := upd K.H n (some []), sz := updN K.sz n 0, lo := lo' } := by
  have hst : KStep K { K with H := upd K.H n (some []), sz := updN K.sz n 0, lo := lo' } := {
    os := rfl
    tape := rfl
    output := rfl
    size := Nat.le_refl _
    S := fun _ h => h
    keep := fun _ _ => rfl
    lo := hlo
    live := fun x h1 h2 => ⟨rfl, updN_ne _ _ (fun e' => h1 (e' ▸ hn))⟩
    dies := fun x h1 h2 => by
      have hx : x ≠ n := fun e' => h1 (e' ▸ hn)
      simp only [upd_ne _ _ hx] at h2; exact absurd h2 h1
    dead := fun x h1 h2 => by
      have hx : x ≠ n := by omega
      simp only [upd_ne _ _ hx]; exact h2 }
  have key : ∀ x c, upd K.H n (some []) x = some c → (x = n ∧ c = []) ∨ (x ≠ n ∧ K.H x = some c) := by
    intro x c ex
    by_cases hx : x = n
    · subst hx; rw [upd_same] at ex; exact .inl ⟨rfl, by simpa using ex.symm⟩
    · rw [upd_ne _ _ hx] at ex; exact .inr ⟨hx, ex⟩
  refine ⟨hst, ?_, ?_, ?_, hs.sS⟩
  · intro x c ex
    rcases key x c ex with ⟨rfl, rfl⟩ | ⟨hx, ex⟩
    · simp
    · simp only [updN_ne _ _ hx]; exact hs.len x c ex
  · intro x c ex hz
    rcases key x c ex with ⟨rfl, rfl⟩ | ⟨hx, ex⟩
    · simp only [updN_same] at hz; omega
    · simp only [updN_ne _ _ hx] at hz ⊢
      obtain ⟨row, T, q1, q2, q3, q4⟩ := hs.blk x c ex hz
      exact ⟨row, T, q1, q2, fun j hj => (q3 j hj).mono hst, q4⟩
  · intro x y h1 h2 hz1 hz2 he
    obtain ⟨c1, h1⟩ := Option.ne_none_iff_exists'.1 h1
    obtain ⟨c2, h2⟩ := Option.ne_none_iff_exists'.1 h2
    rcases key x c1 h1 with ⟨rfl, rfl⟩ | ⟨hx, ex⟩
    · simp only [updN_same] at hz1; omega
    · rcases key y c2 h2 with ⟨rfl, rfl⟩ | ⟨hy, ey⟩
      · simp only [updN_same] at hz2; omega
      · simp only [updN_ne _ _ hx, updN_ne _ _ hy] at hz1 hz2
        exact hs.inj x y (by rw [ex]; simp) (by rw [ey]; simp) hz1 hz2 he

/-- a slice whose capacity is its length -/
def exact? : GV → Option (List GV)
  | .nil => some []
  | .emp => some []
  | .lit cs => some cs
  | _ => none
theorem exact_VR {v : Value} (hv : VR K g v) {cs : List GV} (e : exact? g = some cs) : ∃ A, v = .slice A cs.length cs.length := by
  cases g <;> simp only [exact?, Option.some.injEq] at e
  case nil => subst e; exact ⟨_, hv.nil_inv⟩
  case emp => subst e; obtain ⟨ad, h⟩ := hv.emp_inv; exact ⟨_, h⟩
  case lit cs' => subst e; obtain ⟨ad, h⟩ := hv.lit_inv; exact ⟨_, h⟩
  all_goals cases e
theorem exact_elems {H : Heap} {cs : List GV} (e : exact? g = some cs) : gelems H g = some cs := by
  cases g <;> simp_all [exact?, gelems]

/-- append to a slice whose capacity is its length: the run, where something is appended -/
theorem run_append_exact (o : Oper) {T e : TypeId} {s x : Operand} {s' x' : GX} {bytes : Nat} (ho : o.op = .call { callee := .builtin .append, args := #[s, x], argTypes := #[T, T] }) (hs : Sat K) (ht : TR K t a.tmps) (he : elemB P T = some e) (hb : bytesB P e = some bytes) (hsz : sizeB P e = some 1) {z : Value} (hz : zeroB P e = some z) (hzc : z.cells.size = 1) (hb0 : 0 < bytes)
    (hs' : okX s s' = true) (hx : okX x x' = true) {H : Heap} (hH : ∀ b cs, H b = some cs → K.H b = some cs) {ys : List GV} (hy : gelems H (gev t x') = some ys) {cs : List GV} (hc : exact? (gev t s') = some cs) (hbd : (cs.length + ys.length) * bytes ≤ 140737488355328) :
    (ys = [] → (execOp a.eval o).run P K.w = .ok (.value (a.eval s)) K.w) ∧
    (ys ≠ [] → ∃ (row : Array Value) (c : Nat), cs.length + ys.length ≤ c ∧ row.size = c ∧ (∀ j, j < (cs ++ ys).length → VR K (gat (cs ++ ys) j) (vat row j)) ∧
      (execOp a.eval o).run P K.w = .ok (.value (.slice (some ⟨K.w.heap.size, 0, none⟩) (cs.length + ys.length) c)) (({ K.w with drawn := K.w.drawn + 1 } : World).alloc (.cells row e (0, 0)))) := by
  obtain ⟨i, i1, i2⟩ := bytesB_spec hb
  obtain ⟨iz, i3, i4⟩ := zeroB_spec hz
  obtain ⟨is, i5, i6⟩ := sizeB_spec hsz
  rw [i1] at i3 i5; cases i3; cases i5
  have hu := elemB_spec he
  obtain ⟨X, k, c2, hv, hk, hkc, hcell⟩ := gelems_VR hs hH (okX_VR ht hx) hy
  subst hk
  have v1 := okX_VR ht hs'
  obtain ⟨A, hsv⟩ := exact_VR v1 hc
  have hexec : ∀ w, (execOp a.eval o).run P w = ((Builtin.append_ #[T, T] o.type #[.slice A cs.length cs.length, .slice X ys.length c2]).run P w).andThen fun v w' => .ok (.value v) w' := by
    intro w; simp [execOp, ho, resolve, invoke, builtin, hsv, hv]
  constructor
  · intro hy0
    subst hy0
    obtain ⟨arr, f1, f2, f3⟩ := run_first (P := P) (c := c2) (w := K.w) (K := K) rfl hcell ([] : List GV).length (Nat.le_refl _)
    have harr : arr.toList = [] := List.eq_nil_of_length_eq_zero (by rw [Array.length_toList]; simpa using f2)
    rw [hexec, run_room (P := P) K.w T o.type e i hu i1 i6 A X cs.length cs.length ([] : List GV).length c2 arr f1 (Nat.le_refl _) (w' := K.w) (by cases A <;> simp [harr, storeCells])]
    rw [hsv]; rfl
  · intro hy0
    have hpos : 0 < ys.length := List.length_pos_iff.2 hy0
    obtain ⟨arr, f1, f2, f3⟩ := run_first (P := P) (c := c2) (w := K.w.drew) (A := X) (K := K) rfl (fun h => by
      obtain ⟨B, q, h1, us, h2, h3⟩ := hcell h
      exact ⟨B, q, h1, us, fun j hj => by rw [World.cell?_drew]; exact h2 j hj, h3⟩) ys.length (Nat.le_refl _)
    obtain ⟨A', m', c', q1, q2, q3, q4⟩ := gelems_VR hs (H := K.H) (fun _ _ h => h) v1 (exact_elems hc)
    rw [hsv] at q1; cases q1
    obtain ⟨arr0, p1, p2, p3⟩ := run_first (P := P) (c := cs.length) (w := K.w.drew) (A := A) (K := K) q2 (fun h => by
      obtain ⟨B, q, h1, us, h2, h3⟩ := q4 h
      exact ⟨B, q, h1, us, fun j hj => by rw [World.cell?_drew]; exact h2 j hj, h3⟩) cs.length (Nat.le_refl _)
    have hrun := run_grow (P := P) K.w T o.type e i z hu i1 i4 i6 A X cs.length cs.length ys.length c2 arr0 arr p1 f1 (by omega) (by rw [i2]; exact hbd) (by omega)
    have hge := grownCap_ge K.w (cs.length + ys.length) cs.length e
    refine ⟨_, grownCap K.w (cs.length + ys.length) cs.length e, hge, ?_, fun j hj => ?_, by rw [hexec, hrun]; rfl⟩
    · simp only [Array.size_append, size_zeroCells, hzc, p2, f2]; omega
    · simp only [List.length_append] at hj
      rw [cat_gat, cat_vat, cat_vat]
      by_cases hjm : j < cs.length
      · rw [if_pos hjm, if_pos (by simp only [Array.size_append]; omega), if_pos (by omega)]; exact p3 j (by omega)
      · rw [if_neg hjm, if_pos (by simp only [Array.size_append]; omega), if_neg (by omega)]
        have := f3 (j - cs.length) (by omega)
        rw [p2]; exact this
end
end Go.Proofs.Ytdpibcniodhinaa.Gh
/- Every operation that leaves memory alone, by its form. -/
namespace Go.Proofs.Ytdpibcniodhinaa.Gh
open Go Go.RowKit
set_option linter.unusedVariables false
set_option linter.unusedSimpArgs false

theorem arr1 {α : Type} {xs : Array α} {x : α} (h : xs.toList = [x]) : xs = #[x] := Array.toList_inj.1 h
theorem arr2 {α : Type} {xs : Array α} {x y : α} (h : xs.toList = [x, y]) : xs = #[x, y] := Array.toList_inj.1 h
theorem arr0 {α : Type} {xs : Array α} (h : xs.toList = []) : xs = #[] := Array.toList_inj.1 h

section
variable {P : Program} {K : Kr} {t : List GV} {a : Act} {g : GV}

theorem pure_builtin {o : Oper} {go : GOp} {b : Builtin} {args : Array Operand} {ts : Array TypeId} (hop : o.op = .call { callee := .builtin b, args := args, argTypes := ts }) (hok : okBuiltin P b args.toList ts.toList go = true) (ht : TR K t a.tmps) (hg : gpure t go = some g) : Pur P o a K g := by
  generalize ha : args.toList = al at hok
  generalize htt : ts.toList = tl at hok
  cases b <;> simp only [okBuiltin] at hok
  case len =>
    split at hok
    · rename_i x T x'
      rw [arr1 ha, arr1 htt] at hop
      simp only [Bool.and_eq_true] at hok
      obtain ⟨e, he⟩ := Option.isSome_iff_exists.1 hok.1
      exact pur_len o hop ht he hok.2 hg
    · cases hok
  case max =>
    split at hok
    · rw [arr2 ha] at hop
      simp only [Bool.and_eq_true] at hok
      exact pur_max o hop ht hok.1 hok.2 hg
    · cases hok
  case min =>
    split at hok
    · rw [arr2 ha] at hop
      simp only [Bool.and_eq_true] at hok
      exact pur_min o hop ht hok.1 hok.2 hg
    · cases hok
  case append =>
    split at hok
    · cases hg
    · cases hg
    · cases hok
  case copy =>
    split at hok
    · cases hg
    · cases hok
  all_goals cases hok

theorem pure_sound {o : Oper} {go : GOp} (hok : okOp P o.op go = true) (ht : TR K t a.tmps) (hg : gpure t go = some g) : Pur P o a K g := by
  cases hop : o.op <;> rw [hop] at hok <;> simp only [okOp] at hok
  case move x =>
    split at hok
    · exact pur_mov o (.inl hop) ht hok hg
    · cases hok
  case assign x =>
    split at hok
    · exact pur_mov o (.inr hop) ht hok hg
    · cases hok
  case pick c x y =>
    split at hok
    · simp only [Bool.and_eq_true] at hok
      exact pur_pick o hop ht hok.1.1 hok.1.2 hok.2 hg
    · cases hok
  case binOp op T x y T' =>
    unfold okBin at hok
    split at hok
    · simp only [Bool.and_eq_true, beq_iff_eq, Bool.not_eq_true', beq_eq_false_iff_ne] at hok
      obtain ⟨⟨⟨⟨rfl, h1⟩, h2⟩, h3⟩, h4⟩ := hok
      exact pur_bin o hop ht h1 h2 h3 h4 hg
    · rename_i neg x'
      simp only [Bool.and_eq_true] at hok
      obtain ⟨⟨⟨h1, h2⟩, h3⟩, h4⟩ := hok
      obtain ⟨e, he⟩ := Option.isSome_iff_exists.1 h3
      split at h4
      · refine pur_isnil o (neg := neg) (T := T) (T' := T') (x := x) ?_ ht he h2 hg
        rw [hop]
        cases neg <;> simp at h1 ⊢ <;> exact h1
      · cases h4
    · simp only [gpure] at hg; cases hg
    · cases hok
  case unOp op T x =>
    split at hok
    · simp only [Bool.and_eq_true, beq_iff_eq] at hok
      obtain ⟨rfl, h⟩ := hok
      exact pur_un o hop ht h hg
    · cases hok
  case field T x f =>
    unfold okField at hok
    split at hok
    · split at hok
      · rename_i fd hf
        simp only [Bool.and_eq_true, beq_iff_eq] at hok
        exact pur_field o hop ht hf hok.1.1 hok.1.2 hok.2 hg
      · cases hok
    · cases hok
  case fieldAddr T x f =>
    unfold okFieldAddr at hok
    split at hok
    · split at hok
      · rename_i fd hf
        simp only [Bool.and_eq_true, beq_iff_eq] at hok
        obtain ⟨⟨h1, h2⟩, h3⟩ := hok
        split at h2
        · rename_i s hs
          exact pur_fieldAddr o hop ht hf h1 hs (by simpa using h2) h3 hg
        · cases h2
      · cases hok
    · cases hok
  case indexAddr T x i =>
    unfold okIndexAddr at hok
    split at hok
    · split at hok
      · rename_i e he
        simp only [Bool.and_eq_true, beq_iff_eq] at hok
        exact pur_indexAddr o hop ht he hok.1.1 hok.1.2 hok.2 hg
      · cases hok
    · split at hok
      · rename_i m e he
        simp only [Bool.and_eq_true, beq_iff_eq] at hok
        obtain ⟨⟨⟨rfl, h1⟩, h2⟩, h3⟩ := hok
        exact pur_arrAddr o hop ht he h1 h2 h3 hg
      · cases hok
    · cases hok
  case nilCheck x =>
    split at hok
    · exact pur_nilCheck o hop ht hok hg
    · cases hok
  case extract x i =>
    split at hok
    · simp only [Bool.and_eq_true, beq_iff_eq] at hok
      obtain ⟨rfl, h⟩ := hok
      exact pur_extract o hop ht h hg
    · cases hok
  case call c =>
    obtain ⟨callee, args, ts⟩ := c
    simp only [okCall] at hok
    split at hok
    · exact pure_builtin hop hok ht hg
    · split at hok
      · cases hg
      · cases hok
    · split at hok
      · cases hg
      · cases hok
    · cases hok
  case convert src dst x =>
    unfold okConv at hok
    split at hok
    · split at hok
      · rename_i k0 k' h0 h1
        simp only [Bool.and_eq_true, beq_iff_eq] at hok
        obtain ⟨rfl, h⟩ := hok
        exact pur_conv o hop ht h0 h1 h hg
      · cases hok
    · cases hok
  case makeFunc fn first caps =>
    generalize hfi : first.toList = fl at hok
    unfold okMkfn at hok
    split at hok
    · rw [arr0 hfi] at hop
      simp only [Bool.and_eq_true, beq_iff_eq] at hok
      obtain ⟨rfl, h⟩ := hok
      exact pur_mkfn o hop ht h hg
    · cases hok
  case slice T x lo hi mx =>
    unfold okSlice at hok
    split at hok
    · split at hok
      · rename_i e he
        simp only [Bool.and_eq_true, beq_iff_eq] at hok
        obtain ⟨⟨⟨⟨⟨h1, h2⟩, h3⟩, h4⟩, h5⟩, h6⟩ := hok
        exact pur_slice o hop ht he h1 h2 h3 h4 h5 h6 hg
      · cases hok
    · cases hok
  case build T parts =>
    unfold okBuild at hok
    split at hok
    · split at hok
      · rename_i fs z hu hz
        simp only [Bool.and_eq_true] at hok
        exact pur_build o hop ht hu hz hok.1.1 hok.1.2 hok.2 hg
      · cases hok
    · cases hok
  case load T x =>
    split at hok
    · cases hg
    · cases hok
  case store T x v =>
    split at hok
    · cases hg
    · cases hok
  case box T v =>
    split at hok
    · cases hg
    · cases hok
  case alloc T =>
    split at hok
    · cases hg
    · cases hok
  case buildSlice T n parts =>
    unfold okBslice at hok
    split at hok
    · cases hok
    · split at hok
      · cases hg
      · cases hg
      · cases hg
      · cases hok
  case makeSlice T l c =>
    unfold okMslice at hok
    split at hok
    · cases hok
    · split at hok
      · split at hok
        · cases hg
        · cases hg
        · cases hok
      · cases hok
  all_goals cases hok
end
end Go.Proofs.Ytdpibcniodhinaa.Gh
/- What each operation leaves, in one form. -/
namespace Go.Proofs.Ytdpibcniodhinaa.Gh
open Go Go.RowKit
set_option linter.unusedVariables false
set_option linter.unusedSimpArgs false

section
variable {P : Program} {K : Kr} {t : List GV} {a : Act} {g : GV}

/-- the operation yields what g stands for; the own blocks are then as H' says -/
def Out (P : Program) (o : Oper) (a : Act) (K : Kr) (g : GV) (H' : Heap) (lo' : Nat) : Prop :=
  ∃ v K', (execOp a.eval o).run P K.w = .ok (.value v) K'.w ∧ KStep K K' ∧ Sat K' ∧ K'.H = H' ∧ K'.lo = lo' ∧ VR K' g v

theorem out_pure {o : Oper} (hs : Sat K) (h : Pur P o a K g) : Out P o a K g K.H K.lo := by
  obtain ⟨v, h1, h2⟩ := h
  exact ⟨v, K, h1 _, KStep.refl K, hs, rfl, rfl, h2⟩
theorem out_read {o : Oper} (hs : Sat K) {v : Value} (h1 : (execOp a.eval o).run P K.w = .ok (.value v) K.w) (h2 : VR K g v) : Out P o a K g K.H K.lo :=
  ⟨v, K, h1, KStep.refl K, hs, rfl, rfl, h2⟩
/-- an operation that makes an own block -/
theorem out_make {o : Oper} (hs : Sat K) {n lo' : Nat} (hn : K.H n = none) (hl : K.lo ≤ n) (hlo : K.lo ≤ lo') {cs : List GV} {row : Array Value} {T : TypeId} {d : Nat} {v : Value} (hlen : cs.length ≤ row.size) (hr : ∀ j, j < cs.length → VR K (gat cs j) (vat row j))
    (hrun : (execOp a.eval o).run P K.w = .ok (.value v) (({ K.w with drawn := d } : World).alloc (.cells row T (0, 0)))) (hv : ∀ K' : Kr, K'.H n = some cs → K'.σ n = K.w.heap.size → K'.sz n = row.size → VR K' g v) :
    Out P o a K g (upd K.H n (some cs)) lo' := by
  obtain ⟨K', k1, k2, k3, k4, k5, k6, k7⟩ := fresh_block hs hn hl hlo d cs row T hlen hr
  exact ⟨v, K', by rw [hrun, k1], k2, k3, k4, k5, hv K' (by rw [k4, upd_same]) k6 k7⟩
/-- an operation that makes a block that is only read -/
theorem out_makep {o : Oper} (hs : Sat K) {row : Array Value} {T : TypeId} {d : Nat} {v : Value} (hrun : (execOp a.eval o).run P K.w = .ok (.value v) (({ K.w with drawn := d } : World).alloc (.cells row T (0, 0))))
    (hv : ∀ K' : Kr, KStep K K' → K'.S K.w.heap.size → (∀ j, j < row.size → K'.w.cell? ⟨K.w.heap.size, 0 + j, none⟩ = some (vat row j)) → VR K' g v) : Out P o a K g K.H K.lo := by
  have h1 := drew_step K d
  have h2 := drew_sat hs d
  have h3 := newp_step h2 (.cells row T (0, 0))
  have h4 := newp_sat h2 (.cells row T (0, 0))
  exact ⟨v, _, hrun, h1.trans h3, h4, rfl, rfl, hv _ (h1.trans h3) (.inr rfl) fun j hj => newp_cells (K := { K with w := { K.w with drawn := d } }) row T hj⟩

theorem out_box {o : Oper} {T : TypeId} {x : Operand} {x' : GX} (ho : o.op = .box T x) (hs : Sat K) (ht : TR K t a.tmps) (hx : okX x x' = true) {vs : List GV} (hc : gcells (gev t x') = some vs) {n lo' : Nat} (hn : K.H n = none) (hl : K.lo ≤ n) (hlo : K.lo ≤ lo') : Out P o a K (.ptr n 0) (upd K.H n (some vs)) lo' := by
  obtain ⟨row, T', h1, h2, h3⟩ := run_box (P := P) o ho ht hx hc
  exact out_make hs hn hl hlo (d := K.w.drawn) h1 h2 h3 fun K' e1 e2 _ => by rw [← e2]; exact .ptr n 0 (by rw [e1]; simp)
theorem out_alloc {o : Oper} {T : TypeId} {cs : List GV} (ho : o.op = .alloc T) (hs : Sat K) {z : Value} (hz : zeroB P T = some z) (hc : sameCs z.cells cs = true) {n lo' : Nat} (hn : K.H n = none) (hl : K.lo ≤ n) (hlo : K.lo ≤ lo') : Out P o a K (.ptr n 0) (upd K.H n (some cs)) lo' := by
  obtain ⟨row, T', h1, h2, h3⟩ := run_alloc (P := P) (K := K) (a := a) o ho hz hc
  exact out_make hs hn hl hlo (d := K.w.drawn) h1 h2 h3 fun K' e1 e2 _ => by rw [← e2]; exact .ptr n 0 (by rw [e1]; simp)
theorem out_bslice {o : Oper} {T e : TypeId} {m : Nat} {parts : Array (Nat × Operand)} {cells : List GV} {parts' : List (Nat × Nat × GX)} (ho : o.op = .buildSlice T m parts) (hs : Sat K) (ht : TR K t a.tmps) (he : elemB P T = some e) (hok : okBslice P T m parts.toList (.bslice m cells parts') = true) {cs : List GV} (hf : gfill t cells parts' = some cs) {n lo' : Nat} (hn : K.H n = none) (hl : K.lo ≤ n) (hlo : K.lo ≤ lo') :
    Out P o a K (.own n 0 m) (upd K.H n (some cs)) lo' := by
  simp only [okBslice, he] at hok
  split at hok
  · rename_i s z h1 h2
    simp only [Bool.and_eq_true, Bool.not_eq_true', beq_eq_false_iff_ne, decide_eq_false_iff_not] at hok
    obtain ⟨⟨⟨⟨_, c1⟩, c2⟩, c3⟩, c4⟩ := hok
    obtain ⟨row, r1, r2, r3, r4⟩ := run_bslice (P := P) (K := K) o ho ht he h1 h2 c1 c2 c3 c4 hf
    have hs1 : 1 ≤ s := Nat.pos_of_ne_zero fun e' => by subst e'; exact c2 (Nat.mul_zero m)
    have hle : m ≤ m * s := Nat.le_mul_of_pos_right _ hs1
    exact out_make hs hn hl hlo (d := K.w.drawn) (by omega) r3 (r4 _) fun K' e1 e2 e3 => by rw [← e2]; exact .own n 0 m m (by rw [e1]; simp) (by omega) (Nat.le_refl _)
  · cases hok
theorem out_blit {o : Oper} {T e : TypeId} {m : Nat} {parts : Array (Nat × Operand)} {cells : List GV} {parts' : List (Nat × Nat × GX)} (ho : o.op = .buildSlice T m parts) (hs : Sat K) (ht : TR K t a.tmps) (he : elemB P T = some e) (hok : okBslice P T m parts.toList (.blit cells parts') = true) {cs : List GV} (hf : gfill t cells parts' = some cs) :
    Out P o a K (.lit cs) K.H K.lo := by
  simp only [okBslice, he] at hok
  split at hok
  · rename_i s z h1 h2
    simp only [Bool.and_eq_true, Bool.not_eq_true', beq_eq_false_iff_ne, decide_eq_false_iff_not, beq_iff_eq] at hok
    obtain ⟨⟨⟨⟨hs1, c1⟩, c2⟩, c3⟩, c4⟩ := hok
    subst hs1
    obtain ⟨row, r1, r2, r3, r4⟩ := run_bslice (P := P) (K := K) o ho ht he h1 h2 (by omega) (by omega) (by rw [Nat.mul_one]; exact c3) c4 hf
    have hm : m = cs.length := by omega
    subst hm
    exact out_makep hs (d := K.w.drawn) (r4 _) fun K' k1 k2 k3 => .lit _ 0 cs (fun j => vat row j) k2 (fun j hj => k3 j (by omega)) fun j hj => (r3 j hj).mono k1
  · cases hok
theorem out_empty {o : Oper} {T e : TypeId} {m : Nat} {parts : Array (Nat × Operand)} (ho : o.op = .buildSlice T m parts) (hs : Sat K) (he : elemB P T = some e) (hok : okBslice P T m parts.toList .empty = true) : Out P o a K .emp K.H K.lo := by
  simp only [okBslice, he, Bool.and_eq_true, beq_iff_eq, List.isEmpty_iff] at hok
  obtain ⟨⟨rfl, h1⟩, h2⟩ := hok
  obtain ⟨s, hsz⟩ := Option.isSome_iff_exists.1 h2
  have hu := elemB_spec he
  have hp := arr0 h1
  subst hp
  refine out_makep hs (row := #[]) (T := e) (d := K.w.drawn) (v := .slice (some ⟨K.w.heap.size, 0, none⟩) 0 0) ?_ fun K' _ _ _ => .emp _
  simp only [execOp, ho, Instr.buildSlice]
  simp [run_underlying' _ hu, run_sizeOf' _ hsz, Instr.fill, newRow]
  have e0 : Array.range 0 = #[] := Array.range_zero'
  rw [e0, Array.map_empty]
theorem out_mslice {o : Oper} {T e : TypeId} {l c : Operand} {l' c' : GX} {bytes : Nat} {z : GV} (ho : o.op = .makeSlice T l c) (hs : Sat K) (ht : TR K t a.tmps) (he : elemB P T = some e) (hok : okMslice P T l c (.mslice z bytes l' c') = true) {i : Int} (e1 : gev t l' = .int .i64 i) (e2 : gev t c' = .int .i64 i) (h0 : 0 ≤ i) (hbd : i * bytes ≤ 281474976710656) (hb0 : 0 < bytes) {n lo' : Nat} (hn : K.H n = none) (hl : K.lo ≤ n) (hlo : K.lo ≤ lo') :
    Out P o a K (.own n 0 i.toNat) (upd K.H n (some (List.replicate i.toNat z))) lo' := by
  simp only [okMslice, he] at hok
  split at hok
  · rename_i b zv h1 h2
    simp only [Bool.and_eq_true, beq_iff_eq] at hok
    obtain ⟨⟨⟨⟨rfl, c1⟩, c2⟩, c3⟩, c4⟩ := hok
    obtain ⟨row, r1, r2, r3⟩ := run_mslice (P := P) (K := K) o ho ht he h1 h2 c1 c2 c3 c4 e1 e2 h0 hbd hb0
    exact out_make hs hn hl hlo (d := K.w.drawn) (by simp; omega) (fun j hj => by
      have hj' : j < i.toNat := by simpa using hj
      rw [rep_gat _ _ _ hj']; exact r2 j hj') (r3 _) fun K' e1 e2 e3 => by rw [← e2]; exact .own n 0 _ _ (by rw [e1]; simp) (by omega) (Nat.le_refl _)
  · cases hok
theorem out_mslicep {o : Oper} {T e : TypeId} {l c : Operand} {l' c' : GX} {bytes : Nat} {z : GV} (ho : o.op = .makeSlice T l c) (hs : Sat K) (ht : TR K t a.tmps) (he : elemB P T = some e) (hok : okMslice P T l c (.mslicep z bytes l' c') = true) {i : Int} (e1 : gev t l' = .int .i64 i) (e2 : gev t c' = .int .i64 i) (h0 : 0 ≤ i) (hbd : i * bytes ≤ 281474976710656) (hb0 : 0 < bytes) :
    Out P o a K (.sl i.toNat (List.replicate i.toNat z)) K.H K.lo := by
  simp only [okMslice, he] at hok
  split at hok
  · rename_i b zv h1 h2
    simp only [Bool.and_eq_true, beq_iff_eq] at hok
    obtain ⟨⟨⟨⟨rfl, c1⟩, c2⟩, c3⟩, c4⟩ := hok
    obtain ⟨row, r1, r2, r3⟩ := run_mslice (P := P) (K := K) o ho ht he h1 h2 c1 c2 c3 c4 e1 e2 h0 hbd hb0
    exact out_makep hs (d := K.w.drawn) (r3 _) fun K' k1 k2 k3 => .sl _ _ _ 0 _ (fun j => vat row j) (Nat.le_refl _) k2 (fun j hj => k3 j (by simp at hj; omega)) fun j hj => by
      have hj' : j < i.toNat := by simpa using hj
      rw [rep_gat _ _ _ hj']; exact (r2 j hj').mono k1
  · cases hok

/-- what okBuiltin says of an append -/
theorem ok_append {ts : Array TypeId} {args : Array Operand} {bytes : Nat} {s' x' : GX} (h : okBuiltin P .append args.toList ts.toList (.append bytes s' x') = true ∨ okBuiltin P .append args.toList ts.toList (.appendp bytes s' x') = true) :
    ∃ s x T e z, args = #[s, x] ∧ ts = #[T, T] ∧ elemB P T = some e ∧ bytesB P e = some bytes ∧ 0 < bytes ∧ sizeB P e = some 1 ∧ zeroB P e = some z ∧ z.cells.size = 1 ∧ okX s s' = true ∧ okX x x' = true := by
  have key : ∀ (s x : Operand) (T T' e : TypeId), args.toList = [s, x] → ts.toList = [T, T'] → elemB P T = some e → (T == T' && bytesB P e == some bytes && !(bytes == 0) && sizeB P e == some 1 && (zeroB P e).any (·.cells.size == 1) && okX s s' && okX x x') = true →
      ∃ s x T e z, args = #[s, x] ∧ ts = #[T, T] ∧ elemB P T = some e ∧ bytesB P e = some bytes ∧ 0 < bytes ∧ sizeB P e = some 1 ∧ zeroB P e = some z ∧ z.cells.size = 1 ∧ okX s s' = true ∧ okX x x' = true := by
    intro s x T T' e h1 h2 h3 h4
    simp only [Bool.and_eq_true, beq_iff_eq, Bool.not_eq_true', beq_eq_false_iff_ne, Option.any_eq_true] at h4
    obtain ⟨⟨⟨⟨⟨⟨rfl, c2⟩, c3⟩, c4⟩, ⟨z, c5, c6⟩⟩, c7⟩, c8⟩ := h4
    exact ⟨s, x, T, e, z, arr2 h1, arr2 h2, h3, c2, Nat.pos_of_ne_zero c3, c4, c5, c6, c7, c8⟩
  generalize ha : args.toList = al at h key
  generalize htt : ts.toList = tl at h key
  rcases h with h | h
  · simp only [okBuiltin] at h
    split at h
    · rename_i s x T T' b s2 x2 heq
      injection heq with q1 q2 q3
      subst q1 q2 q3
      split at h
      · exact key s x T T' _ rfl rfl (by assumption) h
      · cases h
    · rename_i heq; cases heq
    · cases h
  · simp only [okBuiltin] at h
    split at h
    · rename_i heq; cases heq
    · rename_i s x T T' b s2 x2 heq
      injection heq with q1 q2 q3
      subst q1 q2 q3
      split at h
      · exact key s x T T' _ rfl rfl (by assumption) h
      · cases h
    · cases h

theorem out_append_exact {o : Oper} {T e : TypeId} {s x : Operand} {s' x' : GX} {bytes : Nat} (ho : o.op = .call { callee := .builtin .append, args := #[s, x], argTypes := #[T, T] }) (hs : Sat K) (ht : TR K t a.tmps) (he : elemB P T = some e) (hb : bytesB P e = some bytes) (hsz : sizeB P e = some 1) {z : Value} (hz : zeroB P e = some z) (hzc : z.cells.size = 1) (hb0 : 0 < bytes)
    (hs' : okX s s' = true) (hx : okX x x' = true) {H : Heap} (hH : ∀ b cs, H b = some cs → K.H b = some cs) {ys : List GV} (hy : gelems H (gev t x') = some ys) {cs : List GV} (hc : exact? (gev t s') = some cs) (hcy : cs = [] ∨ ys ≠ []) (hbd : (cs.length + ys.length) * bytes ≤ 140737488355328) {n lo' : Nat} (hn : K.H n = none) (hl : K.lo ≤ n) (hlo : K.lo ≤ lo') :
    Out P o a K (.own n 0 (cs.length + ys.length)) (upd K.H n (some (cs ++ ys))) lo' := by
  obtain ⟨r1, r2⟩ := run_append_exact (P := P) o ho hs ht he hb hsz hz hzc hb0 hs' hx hH hy hc hbd
  by_cases hy0 : ys = []
  · have hc0 : cs = [] := hcy.resolve_right fun h => h hy0
    subst hy0; subst hc0
    obtain ⟨A, hA⟩ := exact_VR (okX_VR ht hs') hc
    obtain ⟨e1, e2⟩ := empty_name hs hn hl hlo
    exact ⟨_, { K with H := upd K.H n (some []), sz := updN K.sz n 0, lo := lo' }, r1 rfl, e1, e2, rfl, rfl, by rw [hA]; exact .own0 _ _ _ (.inl (by show upd K.H n (some []) n ≠ none; rw [upd_same]; simp))⟩
  · obtain ⟨row, c, q1, q2, q3, q4⟩ := r2 hy0
    exact out_make hs hn hl hlo (by simp only [List.length_append]; omega) q3 q4 fun K' e1 e2 e3 => by rw [← e2]; exact .own n 0 _ c (by rw [e1]; simp) (by omega) q1
theorem out_appendp {o : Oper} {T e : TypeId} {s x : Operand} {s' x' : GX} {bytes : Nat} (ho : o.op = .call { callee := .builtin .append, args := #[s, x], argTypes := #[T, T] }) (hs : Sat K) (ht : TR K t a.tmps) (he : elemB P T = some e) (hb : bytesB P e = some bytes) (hsz : sizeB P e = some 1) {z : Value} (hz : zeroB P e = some z) (hzc : z.cells.size = 1) (hb0 : 0 < bytes)
    (hs' : okX s s' = true) (hx : okX x x' = true) {H : Heap} (hH : ∀ b cs, H b = some cs → K.H b = some cs) {ys : List GV} (hy : gelems H (gev t x') = some ys) {cs : List GV} (hc : exact? (gev t s') = some cs) (hbd : (cs.length + ys.length) * bytes ≤ 140737488355328) :
    Out P o a K (.sl (cs.length + ys.length) (cs ++ ys)) K.H K.lo := by
  obtain ⟨r1, r2⟩ := run_append_exact (P := P) o ho hs ht he hb hsz hz hzc hb0 hs' hx hH hy hc hbd
  by_cases hy0 : ys = []
  · subst hy0
    refine out_read hs (r1 rfl) ?_
    simp only [List.length_nil, Nat.add_zero, List.append_nil]
    have hv := okX_VR ht hs'
    generalize gev t s' = gs at hc hv
    generalize a.eval s = vv at hv
    cases gs <;> simp only [exact?, Option.some.injEq] at hc
    case nil => subst hc; rw [hv.nil_inv]; exact .sl0 _ _ _ (Nat.le_refl _)
    case emp => subst hc; obtain ⟨ad, h⟩ := hv.emp_inv; rw [h]; exact .sl0 _ _ _ (Nat.le_refl _)
    case lit cs' =>
      subst hc
      cases hv with
      | lit B p _ us h1 h2 h3 => exact .sl _ _ B p _ us (Nat.le_refl _) h1 h2 h3
    all_goals cases hc
  · obtain ⟨row, c, q1, q2, q3, q4⟩ := r2 hy0
    exact out_makep hs q4 fun K' k1 k2 k3 => .sl _ c _ 0 _ (fun j => vat row j) q1 k2 (fun j hj => k3 j (by simp only [List.length_append] at hj; omega)) fun j hj => (q3 j hj).mono k1
end
end Go.Proofs.Ytdpibcniodhinaa.Gh
/- Operations one behind the other do what the ghost operations say. -/
namespace Go.Proofs.Ytdpibcniodhinaa.Gh
open Go Go.RowKit
set_option linter.unusedVariables false
set_option linter.unusedSimpArgs false

theorem Fr.upd {H : Heap} {n : Nat} (h : Fr H n) (b : Nat) (c : Option (List GV)) {n' : Nat} (hb : b < n') (hn : n ≤ n') : Fr (upd H b c) n' := fun x hx => by
  rw [upd_ne _ _ (by omega)]; exact h x (by omega)

section
variable {P : Program} {K : Kr} {t : List GV} {a : Act} {next : Act → World → Prop} {Q : Exit → Act → World → Prop}

theorem Out.wp {o : Oper} {g : GV} {H' : Heap} {lo' : Nat} (h : Out P o a K g H' lo') (hnext : ∀ v K', KStep K K' → Sat K' → K'.H = H' → K'.lo = lo' → VR K' g v → next (a.put o.dst v) K'.w) : o.wp P a K.w next Q := by
  obtain ⟨v, K', h1, h2, h3, h4, h5, h6⟩ := h
  simp only [Oper.wp, h1, Oper.upon]
  exact hnext v K' h2 h3 h4 h5 h6

/-- a call of a Go function, by its contract -/
theorem call_wp {o : Oper} {f : FuncId} {vs : Array Value} {gs : List GV} {G : GV → Heap → Nat → Prop} (hrun : (execOp a.eval o).run P K.w = .ok (.enter f vs) K.w) (hs : Sat K) (hF : Fr K.H K.lo) (hv : VRs K gs vs) (hsp : SpecS P f gs K.H K.lo G)
    (hnext : ∀ g H' n' v K', G g H' n' → KStep K K' → Sat K' → Fr K'.H K'.lo → K'.H = H' → K'.lo = n' → VR K' g v → next (a.put o.dst v) K'.w) : o.wp P a K.w next Q := by
  simp only [Oper.wp, hrun, Oper.upon]
  refine (hsp K vs rfl rfl hF hs hv).mono ?_
  rintro e w' ⟨g, H', n', v, K', k0, rfl, rfl, k1, k2, k3, k4, k5, k6⟩
  exact hnext g H' n' v K' k0 k1 k5 (by rw [k2, k3]; exact k4) k2 k3 k6
theorem run_call {o : Oper} {f : FuncId} {args : Array Operand} {ts : Array TypeId} (ho : o.op = .call { callee := .value (.func f), args := args, argTypes := ts }) (hf : okFn P f = true) (w : World) :
    (execOp a.eval o).run P w = .ok (.enter f (args.map a.eval)) w := by
  unfold okFn at hf
  split at hf
  · rename_i fn hfn
    simp only [Bool.and_eq_true, Bool.not_eq_true', beq_eq_false_iff_ne] at hf
    have h1 : fn.body.isNone = false := by cases h : fn.body <;> simp_all
    have hev : a.eval (.func f) = .func (.func f) #[] #[] := rfl
    simp [execOp, ho, resolve, Deferred.ofValue, hev, invoke, callFunc, hfn, hf.2]
    intro hb; rw [hb] at h1; cases h1
  · cases hf
theorem run_callv {o : Oper} {f : FuncId} {x : Operand} {us : Array Value} {args : Array Operand} {ts : Array TypeId} (ho : o.op = .call { callee := .value x, args := args, argTypes := ts }) (hx : a.eval x = .func (.func f) #[] us) (hf : okFn P f = true) (w : World) :
    (execOp a.eval o).run P w = .ok (.enter f (args.map a.eval ++ us)) w := by
  unfold okFn at hf
  split at hf
  · rename_i fn hfn
    simp only [Bool.and_eq_true, Bool.not_eq_true', beq_eq_false_iff_ne] at hf
    have h1 : fn.body.isNone = false := by cases h : fn.body <;> simp_all
    simp [execOp, ho, resolve, Deferred.ofValue, hx, invoke, callFunc, hfn, hf.2]
    intro hb; rw [hb] at h1; cases h1
  · cases hf
theorem VRs.app {gs hs : List GV} {us vs : Array Value} (h1 : VRs K gs us) (h2 : VRs K hs vs) : VRs K (gs ++ hs) (us ++ vs) := by
  refine ⟨by simp [h1.1, h2.1], fun j hj => ?_⟩
  simp only [List.length_append] at hj
  rw [cat_gat, cat_vat]
  by_cases hjl : j < gs.length
  · rw [if_pos hjl, if_pos (by rw [h1.1]; exact hjl)]; exact h1.2 j hjl
  · rw [if_neg hjl, if_neg (by rw [h1.1]; exact hjl), h1.1]; exact h2.2 _ (by omega)

theorem map_arr {α β : Type} (f : α → β) (xs : Array α) : (xs.toList.map f).toArray = xs.map f := by apply Array.ext'; simp
theorem gread_ptr {H : Heap} {b o : Nat} {cs : List GV} (h : H b = some cs) : gread H (.ptr b o) = some (cs, o) := by simp [gread, h]

set_option maxHeartbeats 1000000 in
theorem gop_sound {o : Oper} {go : GOp} (hok : okOp P o.op go = true) (hs : Sat K) (hF : Fr K.H K.lo) (ht : TR K t a.tmps) {k : GV → Heap → Nat → Prop} (hk : gop P t K.H K.lo k go)
    (hnext : ∀ g v K', k g K'.H K'.lo → KStep K K' → Fr K'.H K'.lo → Sat K' → VR K' g v → next (a.put o.dst v) K'.w) : o.wp P a K.w next Q := by
  have pur : ∀ (h : (match gpure t go with | some g => k g K.H K.lo | none => False)), o.wp P a K.w next Q := by
    intro h
    split at h
    · rename_i g hg
      exact (out_pure hs (pure_sound hok ht hg)).wp fun v K' h1 h2 h3 h4 h5 => hnext g v K' (by rw [h3, h4]; exact h) h1 (by rw [h3, h4]; exact hF) h2 h5
    · exact h.elim
  have done : ∀ {g : GV} {H' : Heap} {lo' : Nat}, Out P o a K g H' lo' → k g H' lo' → Fr H' lo' → o.wp P a K.w next Q := by
    intro g H' lo' h1 h2 h3
    exact h1.wp fun v K' q1 q2 q3 q4 q5 => hnext g v K' (by rw [q3, q4]; exact h2) q1 (by rw [q3, q4]; exact h3) q2 q5
  have hn : K.H K.lo = none := hF _ (Nat.le_refl _)
  have blt : ∀ b cs, K.H b = some cs → b < K.lo := fun b cs e => by
    rcases Nat.lt_or_ge b K.lo with h | h
    · exact h
    · rw [hF b h] at e; cases e
  by_cases hnu : ∃ neg x', go = .isnilu neg x'
  · obtain ⟨neg, x', rfl⟩ := hnu
    simp only [gop] at hk
    split at hk
    · rename_i m cs hg
      cases hop : o.op with
      | binOp op T x y T' =>
        have hok' := hok
        rw [hop] at hok'; simp only [okOp, okBin, Bool.and_eq_true] at hok'
        obtain ⟨⟨⟨h1, h2⟩, h3⟩, h4⟩ := hok'
        obtain ⟨e, he⟩ := Option.isSome_iff_exists.1 h3
        split at h4
        · have hp := pur_isnilu (P := P) (K := K) (a := a) o (neg := neg) (T := T) (T' := T') (x := x) (by rw [hop]; cases neg <;> simp at h1 ⊢ <;> exact h1) ht he h2 hg
          rcases hp with hp | ⟨hcs, hp⟩
          · exact (out_pure hs hp).wp fun v K' q1 q2 q3 q4 q5 => hnext _ v K' (by rw [q3, q4]; exact hk.2) q1 (by rw [q3, q4]; exact hF) q2 q5
          · exact (out_pure hs hp).wp fun v K' q1 q2 q3 q4 q5 => hnext _ v K' (by rw [q3, q4]; exact hk.1 hcs) q1 (by rw [q3, q4]; exact hF) q2 q5
        · cases h4
      | buildSlice T m parts => rw [hop] at hok; simp only [okOp, nu_bslice] at hok; cases hok
      | makeSlice T l c => rw [hop] at hok; simp only [okOp, nu_mslice] at hok; cases hok
      | makeFunc fn first caps => rw [hop] at hok; simp only [okOp, nu_mkfn] at hok; cases hok
      | call c => rw [hop] at hok; simp only [okOp, nu_call] at hok; cases hok
      | _ => rw [hop] at hok; exact absurd hok Bool.false_ne_true
    · exact hk.elim
  cases hop : o.op with
  | load T x =>
    rw [hop] at hok; simp only [okOp] at hok
    split at hok
    · rename_i n x'
      simp only [Bool.and_eq_true, beq_iff_eq, Bool.not_eq_true', beq_eq_false_iff_ne] at hok
      obtain ⟨hok, hm0⟩ := hok
      cases n with
      | none =>
        simp only [gop] at hk
        split at hk
        · rename_i b p g1
          split at hk
          · rename_i cs hb
            obtain ⟨v, r1, r2⟩ := run_load1 (P := P) o hop hs ht hok.1 hok.2 (H := K.H) (fun _ _ h => h) (by rw [g1]; exact gread_ptr hb) hk.1
            exact done (out_read hs r1 r2) hk.2 hF
          · exact hk.elim
        · rename_i cs p g1
          obtain ⟨v, r1, r2⟩ := run_load1 (P := P) o hop hs ht hok.1 hok.2 (H := K.H) (fun _ _ h => h) (by rw [g1]; rfl) hk.1
          exact done (out_read hs r1 r2) hk.2 hF
        · exact hk.elim
      | some m =>
        have hm : 0 < m := Nat.pos_of_ne_zero fun e => hm0 (by rw [e])
        simp only [gop] at hk
        split at hk
        · rename_i b p g1
          split at hk
          · rename_i cs hb
            obtain ⟨v, r1, r2⟩ := run_loadm (P := P) o hop hs ht hok.1 hok.2 (H := K.H) (fun _ _ h => h) (by rw [g1]; exact gread_ptr hb) hk.1 hm
            exact done (out_read hs r1 r2) hk.2 hF
          · exact hk.elim
        · rename_i cs p g1
          obtain ⟨v, r1, r2⟩ := run_loadm (P := P) o hop hs ht hok.1 hok.2 (H := K.H) (fun _ _ h => h) (by rw [g1]; rfl) hk.1 hm
          exact done (out_read hs r1 r2) hk.2 hF
        · exact hk.elim
    · cases hok
  | store T x v =>
    rw [hop] at hok; simp only [okOp] at hok
    split at hok
    · rename_i n x' v'
      simp only [Bool.and_eq_true, beq_iff_eq] at hok
      simp only [gop] at hk
      split at hk
      · rename_i b p vs g1 hc
        split at hk
        · rename_i cs hb
          obtain ⟨c1, c2, c3, c4⟩ := hk
          obtain ⟨K', r1, r2, r3, r4, r5⟩ := run_store' (P := P) o hop hs ht hok.1.1 hok.1.2 hok.2 g1 hb hc c1 c2 c3
          simp only [Oper.wp, r1, Oper.upon]
          exact hnext .undef Go.undef K' (by rw [r4, r5]; exact c4) r2 (by rw [r4, r5]; exact hF.upd b _ (blt b cs hb) (Nat.le_refl _)) r3 (.undef _)
        · exact hk.elim
      · exact hk.elim
    · cases hok
  | box T x =>
    rw [hop] at hok; simp only [okOp] at hok
    split at hok
    · simp only [gop] at hk
      split at hk
      · rename_i vs hc
        exact done (out_box hop hs ht hok hc hn (Nat.le_refl _) (Nat.le_succ _)) hk (hF.upd _ _ (Nat.lt_succ_self _) (Nat.le_succ _))
      · exact hk.elim
    · cases hok
  | alloc T =>
    rw [hop] at hok; simp only [okOp] at hok
    split at hok
    · split at hok
      · rename_i z hz
        simp only [gop] at hk
        exact done (out_alloc hop hs hz hok hn (Nat.le_refl _) (Nat.le_succ _)) hk (hF.upd _ _ (Nat.lt_succ_self _) (Nat.le_succ _))
      · cases hok
    · cases hok
  | buildSlice T n parts =>
    rw [hop] at hok; simp only [okOp] at hok
    cases he : elemB P T with
    | none => simp only [okBslice, he] at hok; cases hok
    | some e =>
      cases go with
      | bslice m cells parts' =>
        have hnm : n = m := by
          simp only [okBslice, he] at hok
          split at hok
          · simp only [Bool.and_eq_true, beq_iff_eq] at hok; exact hok.1.1.1.1
          · cases hok
        subst hnm
        simp only [gop] at hk
        split at hk
        · rename_i cs hf
          exact done (out_bslice hop hs ht he hok hf hn (Nat.le_refl _) (Nat.le_succ _)) hk.2 (hF.upd _ _ (Nat.lt_succ_self _) (Nat.le_succ _))
        · exact hk.elim
      | blit cells parts' =>
        simp only [gop] at hk
        split at hk
        · rename_i cs hf
          exact done (out_blit hop hs ht he hok hf) hk hF
        · exact hk.elim
      | empty => simp only [gop] at hk; exact done (out_empty hop hs he hok) hk hF
      | _ => simp only [okBslice, he] at hok; cases hok
  | makeSlice T l c =>
    rw [hop] at hok; simp only [okOp] at hok
    cases he : elemB P T with
    | none => simp only [okMslice, he] at hok; cases hok
    | some e =>
      cases go with
      | mslice z bytes l' c' =>
        simp only [gop] at hk
        split at hk
        · rename_i i j g1 g2
          obtain ⟨c1, rfl, c3, c4, c5⟩ := hk
          exact done (out_mslice hop hs ht he hok g1 g2 c1 c3 c4 hn (Nat.le_refl _) (Nat.le_succ _)) c5 (hF.upd _ _ (Nat.lt_succ_self _) (Nat.le_succ _))
        · exact hk.elim
      | mslicep z bytes l' c' =>
        simp only [gop] at hk
        split at hk
        · rename_i i j g1 g2
          obtain ⟨c1, rfl, c3, c4, c5⟩ := hk
          exact done (out_mslicep hop hs ht he hok g1 g2 c1 c3 c4) c5 hF
        · exact hk.elim
      | _ =>
        simp only [okMslice, he] at hok
        split at hok <;> cases hok
  | call c =>
    obtain ⟨callee, args, ts⟩ := c
    have hok0 := hok
    rw [hop] at hok; simp only [okOp, okCall] at hok
    split at hok
    · rename_i b
      -- a builtin
      cases b
      case append =>
        cases go with
        | append bytes s' x' =>
          obtain ⟨s, x, T, e, z, rfl, rfl, he, hb, hb0, hsz, hz, hzc, hs', hx⟩ := ok_append (.inl hok)
          simp only [gop] at hk
          split at hk
          · exact hk.elim
          · rename_i ys hy
            split at hk
            · rename_i g1
              exact done (out_append_exact hop hs ht he hb hsz hz hzc hb0 hs' hx (fun _ _ h => h) hy (cs := []) (by rw [g1]; rfl) (.inl rfl) (by simpa using hk.1) hn (Nat.le_refl _) (Nat.le_succ _)) (by simpa using hk.2) (hF.upd _ _ (Nat.lt_succ_self _) (Nat.le_succ _))
            · rename_i g1
              exact done (out_append_exact hop hs ht he hb hsz hz hzc hb0 hs' hx (fun _ _ h => h) hy (cs := []) (by rw [g1]; rfl) (.inl rfl) (by simpa using hk.1) hn (Nat.le_refl _) (Nat.le_succ _)) (by simpa using hk.2) (hF.upd _ _ (Nat.lt_succ_self _) (Nat.le_succ _))
            · rename_i cs g1
              exact done (out_append_exact hop hs ht he hb hsz hz hzc hb0 hs' hx (fun _ _ h => h) hy (cs := cs) (by rw [g1]; rfl) (.inr hk.1) hk.2.1 hn (Nat.le_refl _) (Nat.le_succ _)) hk.2.2 (hF.upd _ _ (Nat.lt_succ_self _) (Nat.le_succ _))
            · rename_i b m g1
              split at hk
              · rename_i cs hb1
                obtain ⟨c1, c2, c3, c4⟩ := hk
                have hbl := blt b cs hb1
                obtain ⟨v, K', r1, r2, r3, r4, r5, r6⟩ := run_append' (P := P) o hop hs ht he hb hsz hz hzc hb0 hs' hx (fun _ _ h => h) hy c2 g1 hb1 c1 c3 hbl hn (Nat.le_refl _)
                exact done ⟨v, K', r1, r2, r3, r4, r5, r6⟩ c4 ((hF.upd b none hbl (Nat.le_refl _)).upd _ _ (Nat.lt_succ_self _) (Nat.le_succ _))
              · exact hk.elim
            · exact hk.elim
        | appendp bytes s' x' =>
          obtain ⟨s, x, T, e, z, rfl, rfl, he, hb, hb0, hsz, hz, hzc, hs', hx⟩ := ok_append (.inr hok)
          simp only [gop] at hk
          split at hk
          · rename_i cs ys hc hy
            split at hk
            · rename_i g1
              have := out_appendp hop hs ht he hb hsz hz hzc hb0 hs' hx (H := K.H) (fun _ _ h => h) hy (cs := []) (by rw [g1]; rfl) (by simpa using hk.1)
              exact done this (by simpa using hk.2) hF
            · rename_i g1
              have := out_appendp hop hs ht he hb hsz hz hzc hb0 hs' hx (H := K.H) (fun _ _ h => h) hy (cs := []) (by rw [g1]; rfl) (by simpa using hk.1)
              exact done this (by simpa using hk.2) hF
            · rename_i cs' g1
              have hcs : cs' = cs := by rw [g1] at hc; simpa [gelems] using hc
              subst hcs
              exact done (out_appendp hop hs ht he hb hsz hz hzc hb0 hs' hx (H := K.H) (fun _ _ h => h) hy (cs := cs') (by rw [g1]; rfl) hk.1) hk.2 hF
            · exact hk.elim
          · exact hk.elim
        | _ => simp only [okBuiltin] at hok; split at hok <;> simp_all
      case copy =>
        cases go with
        | copy d' s' =>
          generalize ha : args.toList = al at hok
          generalize htt : ts.toList = tl at hok
          simp only [okBuiltin] at hok
          split at hok
          · rename_i d s T T' d2 s2 heq
            injection heq with q1 q2
            subst q1 q2
            rw [arr2 ha, arr2 htt] at hop
            split at hok
            · rename_i e he
              simp only [Bool.and_eq_true, beq_iff_eq] at hok
              simp only [gop] at hk
              split at hk
              · rename_i b p m ys g1 hy
                split at hk
                · rename_i cs hb
                  obtain ⟨c1, c2, c3⟩ := hk
                  obtain ⟨K', r1, r2, r3, r4, r5⟩ := run_copy' (P := P) o hop hs ht he hok.1.1 hok.1.2 hok.2 g1 hb c1 hy c2
                  exact done ⟨_, K', r1, r2, r3, r4, r5, .int _ _⟩ c3 (hF.upd b _ (blt b cs hb) (Nat.le_refl _))
                · exact hk.elim
              · exact hk.elim
            · cases hok
          · cases hok
        | _ => simp only [okBuiltin] at hok; split at hok <;> simp_all
      case len =>
        cases go <;> first | exact pur hk | (simp only [okBuiltin] at hok; split at hok <;> simp_all)
      case max =>
        cases go <;> first | exact pur hk | (simp only [okBuiltin] at hok; split at hok <;> simp_all)
      case min =>
        cases go <;> first | exact pur hk | (simp only [okBuiltin] at hok; split at hok <;> simp_all)
      all_goals (simp only [okBuiltin] at hok; cases hok)
    · rename_i f
      split at hok
      · rename_i f' args'
        simp only [Bool.and_eq_true, beq_iff_eq] at hok
        obtain ⟨⟨rfl, h1⟩, h2⟩ := hok
        simp only [gop] at hk
        obtain ⟨G, hsp, hk⟩ := hk
        refine call_wp (run_call hop h2 _) hs hF (by rw [← map_arr]; exact okXs_VR ht h1) hsp fun g H' n' v K' q0 q1 q2 q3 q4 q5 q6 => hnext g v K' (by rw [q4, q5]; exact hk _ _ _ q0) q1 q3 q2 q6
      · cases hok
    · rename_i x
      split at hok
      · rename_i x' args'
        simp only [Bool.and_eq_true] at hok
        simp only [gop] at hk
        split at hk
        · rename_i f caps g1
          obtain ⟨G, hf, hsp, hk⟩ := hk
          have hx := okX_VR ht hok.1
          rw [g1] at hx
          obtain ⟨us, hv, hsz, hr⟩ := hx.fn_inv
          refine call_wp (run_callv hop hv hf _) hs hF ?_ hsp fun g H' n' v K' q0 q1 q2 q3 q4 q5 q6 => hnext g v K' (by rw [q4, q5]; exact hk _ _ _ q0) q1 q3 q2 q6
          have := okXs_VR ht hok.2
          exact VRs.app (by rw [← map_arr]; exact this) ⟨hsz, hr⟩
        · exact hk.elim
      · cases hok
    · cases hok
  | _ =>
    have hok1 := hok
    rw [hop] at hok1
    cases go <;> first
      | exact pur hk
      | exact absurd ⟨_, _, rfl⟩ hnu
      | (simp only [okOp, okBin, okField, okFieldAddr, okIndexAddr, okConv, okSlice, okBuild] at hok1; cases hok1)
      | (simp only [okOp, okMkfn] at hok1; split at hok1 <;> simp_all)
end
end Go.Proofs.Ytdpibcniodhinaa.Gh
/- The operations of a region whose order is open: each by itself, whenever its turn comes. -/
namespace Go.Proofs.Ytdpibcniodhinaa.Gh
open Go Go.RowKit
set_option linter.unusedVariables false
set_option linter.unusedSimpArgs false

theorem VR.sc {K : Kr} {g : GV} {v : Value} (h : VR K g v) : Sc K.H K.lo g := by
  induction h with
  | int k n => exact .int k n
  | bool b => exact .bool b
  | nil => exact .nil
  | emp a => exact .emp
  | lit B o cs us _ _ _ ih => exact .lit cs ih
  | sl0 n c A _ => exact .sl n [] fun j hj => by simp at hj
  | sl n c B o cs us _ _ _ _ ih => exact .sl n cs ih
  | own b o n c h1 _ _ => exact .own b o n (.inl h1)
  | own0 b o A h1 => exact .own b o 0 h1
  | owns b o n B c _ h2 _ => exact .own b o n (.inr h2)
  | ptr b o h1 => exact .ptr b o (.inl h1)
  | ptrs b o B _ h2 => exact .ptr b o (.inr h2)
  | pp B p o cs us _ _ _ ih => exact .pp cs o ih
  | nilp => exact .nilp
  | agg cs us _ _ ih => exact .agg cs ih
  | tup cs us _ _ ih => exact .tup cs ih
  | fn f cs us _ _ ih => exact .fn f cs ih
  | undef v => exact .undef
theorem Sc.mono {H H' : Heap} {n n' : Nat} {g : GV} (h : Sc H n g) (hm : ∀ b, H b ≠ none ∨ b < n → H' b ≠ none ∨ b < n') : Sc H' n' g := by
  induction h with
  | int k n => exact .int k n
  | bool b => exact .bool b
  | nil => exact .nil
  | emp => exact .emp
  | lit cs _ ih => exact .lit cs ih
  | sl m cs _ ih => exact .sl m cs ih
  | own b o m h => exact .own b o m (hm b h)
  | ptr b o h => exact .ptr b o (hm b h)
  | pp cs o _ ih => exact .pp cs o ih
  | nilp => exact .nilp
  | agg cs _ ih => exact .agg cs ih
  | tup cs _ ih => exact .tup cs ih
  | fn f cs _ ih => exact .fn f cs ih
  | undef => exact .undef
theorem Nr.sc {g : GV} (h : Nr g) (H : Heap) (n : Nat) : Sc H n g := Sc.mono h fun b hb => by
  rcases hb with hb | hb
  · exact absurd rfl hb
  · omega
/-- a lower bound on stale names serves for what is scoped -/
theorem VR.lower {K : Kr} {n : Nat} {g : GV} {v : Value} (h : VR K g v) (hs : Sc K.H n g) : VR { K with lo := n } g v := by
  induction h with
  | int k n => exact .int k n
  | bool b => exact .bool b
  | nil => exact .nil
  | emp a => exact .emp a
  | lit B o cs us h1 h2 _ ih => cases hs with | lit _ hs => exact .lit B o cs us h1 h2 fun j hj => ih j hj (hs j hj)
  | sl0 n c A h1 => exact .sl0 n c A h1
  | sl n c B o cs us h1 h2 h3 _ ih => cases hs with | sl _ _ hs => exact .sl n c B o cs us h1 h2 h3 fun j hj => ih j hj (hs j hj)
  | own b o n c h1 h2 h3 => exact .own b o n c h1 h2 h3
  | own0 b o A h1 => cases hs with | own _ _ _ hs => exact .own0 b o A hs
  | owns b o n B c h1 h2 h3 => cases hs with | own _ _ _ hs => exact .owns b o n B c h1 (hs.resolve_left fun h => h h1) h3
  | ptr b o h1 => exact .ptr b o h1
  | ptrs b o B h1 h2 => cases hs with | ptr _ _ hs => exact .ptrs b o B h1 (hs.resolve_left fun h => h h1)
  | pp B p o cs us h1 h2 _ ih => cases hs with | pp _ _ hs => exact .pp B p o cs us h1 h2 fun j hj => ih j hj (hs j hj)
  | nilp => exact .nilp
  | agg cs us h1 _ ih => cases hs with | agg _ hs => exact .agg cs us h1 fun j hj => ih j hj (hs j hj)
  | tup cs us h1 _ ih => cases hs with | tup _ hs => exact .tup cs us h1 fun j hj => ih j hj (hs j hj)
  | fn f cs us h1 _ ih => cases hs with | fn _ _ hs => exact .fn f cs us h1 fun j hj => ih j hj (hs j hj)
  | undef v => exact .undef v

section
variable {P : Program} {K : Kr} {t : List GV} {a : Act} {next : Act → World → Prop} {Q : Exit → Act → World → Prop}

theorem restr {H0 : Heap} {n0 : Nat} (h : ∀ b, b < n0 → K.H b = H0 b) : ∀ b cs, (fun b => if b < n0 then H0 b else none) b = some cs → K.H b = some cs := by
  intro b cs e
  by_cases hb : b < n0
  · simp only [hb, if_true] at e; rw [h b hb]; exact e
  · simp only [hb, if_false] at e; cases e

set_option maxHeartbeats 1000000 in
theorem gmop_sound {o : Oper} {go : GOp} {H0 : Heap} {n0 n : Nat} (hok : okOp P o.op go = true) (hs : Sat K) (hlo : K.lo = n0) (hH : ∀ b, b < n0 → K.H b = H0 b) {M : Nat} (hM : n0 ≤ M) (hF : Fr K.H M) (ht : TR K t a.tmps) {k : GV → Option (List GV) → Prop} (hn : ∀ g cs, k g (some cs) → K.H n = none) (hn0 : n0 ≤ n) (hk : gmop P H0 n0 t n k go)
    (hnext : ∀ g new v K', k g new → K'.H = updo K.H n new → K'.lo = n0 → KStep K K' → Sat K' → VR K' g v → next (a.put o.dst v) K'.w) : o.wp P a K.w next Q := by
  subst hlo
  have pur : ∀ (h : (match gpure t go with | some g => k g none | none => False)), o.wp P a K.w next Q := by
    intro h
    split at h
    · rename_i g hg
      exact (out_pure hs (pure_sound hok ht hg)).wp fun v K' h1 h2 h3 h4 h5 => hnext g none v K' h h3 h4 h1 h2 h5
    · exact h.elim
  have old : ∀ {g : GV}, Out P o a K g K.H K.lo → k g none → o.wp P a K.w next Q := by
    intro g h1 h2
    exact h1.wp fun v K' q1 q2 q3 q4 q5 => hnext g none v K' h2 q3 q4 q1 q2 q5
  have new : ∀ {g : GV} {cs : List GV}, Out P o a K g (upd K.H n (some cs)) K.lo → k g (some cs) → o.wp P a K.w next Q := by
    intro g cs h1 h2
    exact h1.wp fun v K' q1 q2 q3 q4 q5 => hnext g (some cs) v K' h2 q3 q4 q1 q2 q5
  have hsub : ∀ b cs, b < K.lo → H0 b = some cs → K.H b = some cs := fun b cs h e => by rw [hH b h]; exact e
  cases hop : o.op with
  | load T x =>
    rw [hop] at hok; simp only [okOp] at hok
    split at hok
    · rename_i m x'
      simp only [Bool.and_eq_true, beq_iff_eq, Bool.not_eq_true', beq_eq_false_iff_ne] at hok
      obtain ⟨hok, hm0⟩ := hok
      cases m with
      | none =>
        simp only [gmop] at hk
        split at hk
        · rename_i b p g1
          split at hk
          · rename_i cs hb
            obtain ⟨c1, c2, c3⟩ := hk
            obtain ⟨v, r1, r2⟩ := run_load1 (P := P) o hop hs ht hok.1 hok.2 (H := K.H) (fun _ _ h => h) (by rw [g1]; exact gread_ptr (hsub b cs c1 hb)) c2
            exact old (out_read hs r1 r2) c3
          · exact hk.elim
        · rename_i cs p g1
          obtain ⟨v, r1, r2⟩ := run_load1 (P := P) o hop hs ht hok.1 hok.2 (H := K.H) (fun _ _ h => h) (by rw [g1]; rfl) hk.1
          exact old (out_read hs r1 r2) hk.2
        · exact hk.elim
      | some m =>
        have hm : 0 < m := Nat.pos_of_ne_zero fun e => hm0 (by rw [e])
        simp only [gmop] at hk
        split at hk
        · rename_i b p g1
          split at hk
          · rename_i cs hb
            obtain ⟨c1, c2, c3⟩ := hk
            obtain ⟨v, r1, r2⟩ := run_loadm (P := P) o hop hs ht hok.1 hok.2 (H := K.H) (fun _ _ h => h) (by rw [g1]; exact gread_ptr (hsub b cs c1 hb)) c2 hm
            exact old (out_read hs r1 r2) c3
          · exact hk.elim
        · rename_i cs p g1
          obtain ⟨v, r1, r2⟩ := run_loadm (P := P) o hop hs ht hok.1 hok.2 (H := K.H) (fun _ _ h => h) (by rw [g1]; rfl) hk.1 hm
          exact old (out_read hs r1 r2) hk.2
        · exact hk.elim
    · cases hok
  | store T x v =>
    rw [hop] at hok; simp only [okOp] at hok
    split at hok
    · simp only [gmop] at hk
    · cases hok
  | box T x =>
    rw [hop] at hok; simp only [okOp] at hok
    split at hok
    · simp only [gmop] at hk
      split at hk
      · rename_i vs hc
        exact new (out_box hop hs ht hok hc (hn _ _ hk) hn0 (Nat.le_refl _)) hk
      · exact hk.elim
    · cases hok
  | alloc T =>
    rw [hop] at hok; simp only [okOp] at hok
    split at hok
    · split at hok
      · rename_i z hz
        simp only [gmop] at hk
        exact new (out_alloc hop hs hz hok (hn _ _ hk) hn0 (Nat.le_refl _)) hk
      · cases hok
    · cases hok
  | buildSlice T m parts =>
    rw [hop] at hok; simp only [okOp] at hok
    cases he : elemB P T with
    | none => simp only [okBslice, he] at hok; cases hok
    | some e =>
      cases go with
      | bslice m' cells parts' =>
        have hnm : m = m' := by
          simp only [okBslice, he] at hok
          split at hok
          · simp only [Bool.and_eq_true, beq_iff_eq] at hok; exact hok.1.1.1.1
          · cases hok
        subst hnm
        simp only [gmop] at hk
        split at hk
        · rename_i cs hf
          exact new (out_bslice hop hs ht he hok hf (hn _ _ hk.2) hn0 (Nat.le_refl _)) hk.2
        · exact hk.elim
      | blit cells parts' =>
        simp only [gmop] at hk
        split at hk
        · rename_i cs hf
          exact old (out_blit hop hs ht he hok hf) hk
        · exact hk.elim
      | empty => simp only [gmop] at hk; exact old (out_empty hop hs he hok) hk
      | _ => simp only [okBslice, he] at hok; cases hok
  | makeSlice T l c =>
    rw [hop] at hok; simp only [okOp] at hok
    cases he : elemB P T with
    | none => simp only [okMslice, he] at hok; cases hok
    | some e =>
      cases go with
      | mslice z bytes l' c' =>
        simp only [gmop] at hk
        split at hk
        · rename_i i j g1 g2
          obtain ⟨c1, rfl, c3, c4, c5⟩ := hk
          exact new (out_mslice hop hs ht he hok g1 g2 c1 c3 c4 (hn _ _ c5) hn0 (Nat.le_refl _)) c5
        · exact hk.elim
      | mslicep z bytes l' c' =>
        simp only [gmop] at hk
        split at hk
        · rename_i i j g1 g2
          obtain ⟨c1, rfl, c3, c4, c5⟩ := hk
          exact old (out_mslicep hop hs ht he hok g1 g2 c1 c3 c4) c5
        · exact hk.elim
      | _ =>
        simp only [okMslice, he] at hok
        split at hok <;> cases hok
  | call c =>
    obtain ⟨callee, args, ts⟩ := c
    rw [hop] at hok; simp only [okOp, okCall] at hok
    split at hok
    · rename_i b
      cases b
      case append =>
        cases go with
        | append bytes s' x' =>
          obtain ⟨s, x, T, e, z, rfl, rfl, he, hb, hb0, hsz, hz, hzc, hs', hx⟩ := ok_append (.inl hok)
          simp only [gmop] at hk
          split at hk
          · exact hk.elim
          · rename_i ys hy
            split at hk
            · rename_i g1
              exact new (out_append_exact hop hs ht he hb hsz hz hzc hb0 hs' hx (restr hH) hy (cs := []) (by rw [g1]; rfl) (.inl rfl) (by simpa using hk.1) (hn _ _ hk.2) hn0 (Nat.le_refl _)) (by simpa using hk.2)
            · rename_i g1
              exact new (out_append_exact hop hs ht he hb hsz hz hzc hb0 hs' hx (restr hH) hy (cs := []) (by rw [g1]; rfl) (.inl rfl) (by simpa using hk.1) (hn _ _ hk.2) hn0 (Nat.le_refl _)) (by simpa using hk.2)
            · exact hk.elim
        | appendp bytes s' x' =>
          obtain ⟨s, x, T, e, z, rfl, rfl, he, hb, hb0, hsz, hz, hzc, hs', hx⟩ := ok_append (.inr hok)
          simp only [gmop] at hk
          split at hk
          · rename_i cs ys hc hy
            split at hk
            · rename_i g1
              have := out_appendp hop hs ht he hb hsz hz hzc hb0 hs' hx (restr hH) hy (cs := []) (by rw [g1]; rfl) (by simpa using hk.1)
              exact old this (by simpa using hk.2)
            · rename_i g1
              have := out_appendp hop hs ht he hb hsz hz hzc hb0 hs' hx (restr hH) hy (cs := []) (by rw [g1]; rfl) (by simpa using hk.1)
              exact old this (by simpa using hk.2)
            · rename_i cs' g1
              have hcs : cs' = cs := by rw [g1] at hc; simpa [gelems] using hc
              subst hcs
              exact old (out_appendp hop hs ht he hb hsz hz hzc hb0 hs' hx (restr hH) hy (cs := cs') (by rw [g1]; rfl) hk.1) hk.2
            · exact hk.elim
          · exact hk.elim
        | _ => simp only [okBuiltin] at hok; split at hok <;> simp_all
      case copy =>
        cases go with
        | copy d' s' => simp only [gmop] at hk
        | _ => simp only [okBuiltin] at hok; split at hok <;> simp_all
      case len =>
        cases go <;> first | exact pur hk | (simp only [okBuiltin] at hok; split at hok <;> simp_all)
      case max =>
        cases go <;> first | exact pur hk | (simp only [okBuiltin] at hok; split at hok <;> simp_all)
      case min =>
        cases go <;> first | exact pur hk | (simp only [okBuiltin] at hok; split at hok <;> simp_all)
      all_goals (simp only [okBuiltin] at hok; cases hok)
    · rename_i f
      split at hok
      · rename_i f' args'
        simp only [Bool.and_eq_true, beq_iff_eq] at hok
        obtain ⟨⟨rfl, h1⟩, h2⟩ := hok
        simp only [gmop] at hk
        obtain ⟨g, hnr, hsp, hk⟩ := hk
        have hsp := hsp K.H M hH hM
        have hl1 := lo_step K hM
        have hl2 := lo_sat hs hM
        have hv : VRs { K with lo := M } (args'.map (gev t)) (args.map a.eval) := by
          have := okXs_VR ht h1
          rw [← map_arr]
          exact ⟨this.1, fun j hj => (this.2 j hj).mono hl1⟩
        simp only [Oper.wp, run_call hop h2, Oper.upon]
        refine (hsp { K with lo := M } (args.map a.eval) rfl rfl hF hl2 hv).mono ?_
        rintro e w' ⟨v, K', rfl, rfl, k1, k2, k3, k4, k5, k6⟩
        -- back to the old bound
        have hstep : KStep K { K' with lo := K.lo } := {
          os := k1.os
          tape := k1.tape
          output := k1.output
          size := k1.size
          S := k1.S
          keep := k1.keep
          lo := Nat.le_refl _
          live := k1.live
          dies := fun b q1 q2 => by
            have q2 : K'.H b = none := q2
            rw [k2] at q2; exact absurd q2 q1
          dead := fun b q1 q2 => by show K'.H b = none; rw [k2]; exact q2 }
        have hsat : Sat { K' with lo := K.lo } := ⟨k5.len, fun b cs e hz => by
          obtain ⟨row, T, q1, q2, q3, q4⟩ := k5.blk b cs e hz
          refine ⟨row, T, q1, q2, fun j hj => (q3 j hj).lower ?_, q4⟩
          rw [k2]
          have e' : K.H b = some cs := by rw [← k2]; exact e
          have hlen := hs.len b cs e'
          obtain ⟨row0, T0, p1, p2, p3, p4⟩ := hs.blk b cs e' (by omega)
          exact (p3 j hj).sc, k5.inj, k5.sS⟩
        exact hnext g none v { K' with lo := K.lo } hk k2 rfl hstep hsat (k6.lower (hnr.sc _ _))
      · cases hok
    · split at hok
      · simp only [gmop] at hk
      · cases hok
    · cases hok
  | _ =>
    have hok1 := hok
    rw [hop] at hok1
    cases go <;> first
      | exact pur hk
      | exact hk.elim
      | (simp only [okOp, okBin, okField, okFieldAddr, okIndexAddr, okConv, okSlice, okBuild] at hok1; cases hok1)
      | (simp only [okOp, okMkfn] at hok1; split at hok1 <;> simp_all)
end
end Go.Proofs.Ytdpibcniodhinaa.Gh
/- What a drawn region's operations yield in the order of the text; which slots an operation looks at. -/
namespace Go.Proofs.Ytdpibcniodhinaa.Gh
open Go Go.RowKit
set_option linter.unusedVariables false
set_option linter.unusedSimpArgs false

theorem gmop_split {P : Program} {H0 : Heap} {n0 n : Nat} {t : List GV} {k : GV → Option (List GV) → Prop} {go : GOp} (h : gmop P H0 n0 t n k go) : ∃ g w, gmop P H0 n0 t n (fun g' w' => g' = g ∧ w' = w) go ∧ k g w := by
  have pur : (match gpure t go with | some g => k g none | none => False) → ∃ g w, (match gpure t go with | some g' => g' = g ∧ none = w | none => False) ∧ k g w := by
    intro h
    split at h
    · rename_i g hg; exact ⟨g, none, ⟨rfl, rfl⟩, h⟩
    · exact h.elim
  cases go with
  | load m x =>
    cases m with
    | none =>
      simp only [gmop] at h ⊢
      split at h
      · split at h
        · exact ⟨_, _, ⟨h.1, h.2.1, rfl, rfl⟩, h.2.2⟩
        · exact h.elim
      · exact ⟨_, _, ⟨h.1, rfl, rfl⟩, h.2⟩
      · exact h.elim
    | some m =>
      simp only [gmop] at h ⊢
      split at h
      · split at h
        · exact ⟨_, _, ⟨h.1, h.2.1, rfl, rfl⟩, h.2.2⟩
        · exact h.elim
      · exact ⟨_, _, ⟨h.1, rfl, rfl⟩, h.2⟩
      · exact h.elim
  | box v =>
    simp only [gmop] at h ⊢
    split at h
    · exact ⟨_, _, ⟨rfl, rfl⟩, h⟩
    · exact h.elim
  | alloc cs => exact ⟨_, _, ⟨rfl, rfl⟩, h⟩
  | empty => exact ⟨_, _, ⟨rfl, rfl⟩, h⟩
  | bslice m cells parts =>
    simp only [gmop] at h ⊢
    split at h
    · exact ⟨_, _, ⟨h.1, rfl, rfl⟩, h.2⟩
    · exact h.elim
  | blit cells parts =>
    simp only [gmop] at h ⊢
    split at h
    · exact ⟨_, _, ⟨rfl, rfl⟩, h⟩
    · exact h.elim
  | mslicep z bytes l c =>
    simp only [gmop] at h ⊢
    split at h
    · exact ⟨_, _, ⟨h.1, h.2.1, h.2.2.1, h.2.2.2.1, rfl, rfl⟩, h.2.2.2.2⟩
    · exact h.elim
  | mslice z bytes l c =>
    simp only [gmop] at h ⊢
    split at h
    · exact ⟨_, _, ⟨h.1, h.2.1, h.2.2.1, h.2.2.2.1, rfl, rfl⟩, h.2.2.2.2⟩
    · exact h.elim
  | call f args =>
    simp only [gmop] at h ⊢
    obtain ⟨g, h1, h2, h3⟩ := h
    exact ⟨g, none, ⟨g, h1, h2, rfl, rfl⟩, h3⟩
  | append bytes s x =>
    simp only [gmop] at h ⊢
    split at h
    · exact h.elim
    · split at h
      · exact ⟨_, _, ⟨h.1, rfl, rfl⟩, h.2⟩
      · exact ⟨_, _, ⟨h.1, rfl, rfl⟩, h.2⟩
      · exact h.elim
  | appendp bytes s x =>
    simp only [gmop] at h ⊢
    split at h
    · split at h
      · exact ⟨_, _, ⟨h.1, rfl, rfl⟩, h.2⟩
      · exact ⟨_, _, ⟨h.1, rfl, rfl⟩, h.2⟩
      · exact ⟨_, _, ⟨h.1, rfl, rfl⟩, h.2⟩
      · exact h.elim
    · exact h.elim
  | store m x v => exact h.elim
  | copy d s => exact h.elim
  | callv x args => exact h.elim
  | _ => exact pur h

def gxT : GX → List Nat
  | .t i => [i]
  | .c _ => []
def gxO : Option GX → List Nat
  | none => []
  | some x => gxT x
def gopT : GOp → List Nat
  | .mov x => gxT x
  | .pick c a b => gxT c ++ gxT a ++ gxT b
  | .bin _ x y => gxT x ++ gxT y
  | .isnil _ x => gxT x
  | .isnilu _ x => gxT x
  | .un _ x => gxT x
  | .field _ _ x => gxT x
  | .fieldAddr _ x => gxT x
  | .indexAddr _ x i => gxT x ++ gxT i
  | .arrAddr _ _ x i => gxT x ++ gxT i
  | .nilCheck x => gxT x
  | .extract _ x => gxT x
  | .len x => gxT x
  | .mm _ x y => gxT x ++ gxT y
  | .build _ parts => parts.flatMap fun p => gxT p.2.2
  | .slice x lo hi mx => gxT x ++ gxO lo ++ gxO hi ++ gxO mx
  | .conv _ x => gxT x
  | .mkfn _ caps => caps.flatMap gxT
  | .load _ x => gxT x
  | .store _ x v => gxT x ++ gxT v
  | .box v => gxT v
  | .alloc _ => []
  | .empty => []
  | .bslice _ _ parts => parts.flatMap fun p => gxT p.2.2
  | .blit _ parts => parts.flatMap fun p => gxT p.2.2
  | .mslicep _ _ l c => gxT l ++ gxT c
  | .appendp _ s x => gxT s ++ gxT x
  | .mslice _ _ l c => gxT l ++ gxT c
  | .append _ s x => gxT s ++ gxT x
  | .copy d s => gxT d ++ gxT s
  | .call _ args => args.flatMap gxT
  | .callv x args => gxT x ++ args.flatMap gxT

section
variable {t t' : List GV}
theorem gev_congr {x : GX} (h : ∀ i, i ∈ gxT x → gat t i = gat t' i) : gev t x = gev t' x := by
  cases x with
  | t i => exact h i (by simp [gxT])
  | c g => rfl
theorem gfill_congr {parts : List (Nat × Nat × GX)} (h : ∀ i, i ∈ (parts.flatMap fun p => gxT p.2.2) → gat t i = gat t' i) : ∀ cs, gfill t cs parts = gfill t' cs parts := by
  induction parts with
  | nil => intro cs; rfl
  | cons p ps ih =>
    intro cs
    obtain ⟨off, size, x⟩ := p
    simp only [gfill]
    rw [gev_congr (t := t) (t' := t') (x := x) fun i hi => h i (by simp [hi])]
    have ih := ih fun i hi => h i (by simp only [List.flatMap_cons, List.mem_append]; exact .inr hi)
    split
    · rfl
    · split
      · exact ih _
      · rfl
theorem gmap_congr {xs : List GX} (h : ∀ i, i ∈ xs.flatMap gxT → gat t i = gat t' i) : xs.map (gev t) = xs.map (gev t') := by
  apply List.map_congr_left
  intro x hx
  exact gev_congr fun i hi => h i (by simp only [List.mem_flatMap]; exact ⟨x, hx, hi⟩)
theorem gbound_congr {x : Option GX} (h : ∀ i, i ∈ gxO x → gat t i = gat t' i) (d : Nat) : gbound d t x = gbound d t' x := by
  cases x with
  | none => rfl
  | some x => simp only [gbound]; rw [gev_congr (t := t) (t' := t') h]

theorem gpure_congr {go : GOp} (h : ∀ i, i ∈ gopT go → gat t i = gat t' i) : gpure t go = gpure t' go := by
  have one : ∀ x, (∀ i, i ∈ gxT x → i ∈ gopT go) → gev t x = gev t' x := fun x hx => gev_congr fun i hi => h i (hx i hi)
  cases go with
  | mov x => simp only [gpure]; rw [one x fun i hi => by simpa [gopT] using hi]
  | pick c a b => simp only [gpure]; rw [one c fun i hi => by simp [gopT, hi], one a fun i hi => by simp [gopT, hi], one b fun i hi => by simp [gopT, hi]]
  | bin op x y => simp only [gpure]; rw [one x fun i hi => by simp [gopT, hi], one y fun i hi => by simp [gopT, hi]]
  | isnil neg x => simp only [gpure]; rw [one x fun i hi => by simpa [gopT] using hi]
  | un op x => simp only [gpure]; rw [one x fun i hi => by simpa [gopT] using hi]
  | field off n x => simp only [gpure]; rw [one x fun i hi => by simpa [gopT] using hi]
  | fieldAddr off x => simp only [gpure]; rw [one x fun i hi => by simpa [gopT] using hi]
  | indexAddr size x i => simp only [gpure]; rw [one x fun i hi => by simp [gopT, hi], one i fun i hi => by simp [gopT, hi]]
  | arrAddr len size x i => simp only [gpure]; rw [one x fun i hi => by simp [gopT, hi], one i fun i hi => by simp [gopT, hi]]
  | nilCheck x => simp only [gpure]; rw [one x fun i hi => by simpa [gopT] using hi]
  | extract i x => simp only [gpure]; rw [one x fun i hi => by simpa [gopT] using hi]
  | len x => simp only [gpure]; rw [one x fun i hi => by simpa [gopT] using hi]
  | mm mx x y => simp only [gpure]; rw [one x fun i hi => by simp [gopT, hi], one y fun i hi => by simp [gopT, hi]]
  | build zero parts => simp only [gpure]; rw [gfill_congr (t := t) (t' := t') h]
  | slice x lo hi mx =>
    simp only [gpure]
    rw [one x fun i hi => by simp [gopT, hi], gbound_congr (t := t) (t' := t') (x := lo) fun i hi => h i (by simp [gopT, hi])]
    have e1 : ∀ d, gbound d t hi = gbound d t' hi := gbound_congr fun i hi => h i (by simp [gopT, hi])
    have e2 : ∀ d, gbound d t mx = gbound d t' mx := gbound_congr fun i hi => h i (by simp [gopT, hi])
    simp only [e1, e2]
  | conv k x => simp only [gpure]; rw [one x fun i hi => by simpa [gopT] using hi]
  | mkfn f caps => simp only [gpure]; rw [gmap_congr (t := t) (t' := t') h]
  | _ => rfl

theorem gmop_congr {P : Program} {H0 : Heap} {n0 n : Nat} {k : GV → Option (List GV) → Prop} {go : GOp} (h : ∀ i, i ∈ gopT go → gat t i = gat t' i) (hk : gmop P H0 n0 t n k go) : gmop P H0 n0 t' n k go := by
  have one : ∀ x, (∀ i, i ∈ gxT x → i ∈ gopT go) → gev t x = gev t' x := fun x hx => gev_congr fun i hi => h i (hx i hi)
  have pur := gpure_congr h
  cases go with
  | load m x => cases m <;> simp only [gmop] at hk ⊢ <;> (rw [one x fun i hi => by simpa [gopT] using hi] at hk; exact hk)
  | box v => simp only [gmop] at hk ⊢; rw [one v fun i hi => by simpa [gopT] using hi] at hk; exact hk
  | alloc cs => exact hk
  | empty => exact hk
  | bslice m cells parts => simp only [gmop] at hk ⊢; rw [gfill_congr (t := t) (t' := t') h] at hk; exact hk
  | blit cells parts => simp only [gmop] at hk ⊢; rw [gfill_congr (t := t) (t' := t') h] at hk; exact hk
  | mslicep z bytes l c => simp only [gmop] at hk ⊢; rw [one l fun i hi => by simp [gopT, hi], one c fun i hi => by simp [gopT, hi]] at hk; exact hk
  | mslice z bytes l c => simp only [gmop] at hk ⊢; rw [one l fun i hi => by simp [gopT, hi], one c fun i hi => by simp [gopT, hi]] at hk; exact hk
  | call f args => simp only [gmop] at hk ⊢; rw [gmap_congr (t := t) (t' := t') h] at hk; exact hk
  | append bytes s x => simp only [gmop] at hk ⊢; rw [one s fun i hi => by simp [gopT, hi], one x fun i hi => by simp [gopT, hi]] at hk; exact hk
  | appendp bytes s x => simp only [gmop] at hk ⊢; rw [one s fun i hi => by simp [gopT, hi], one x fun i hi => by simp [gopT, hi]] at hk; exact hk
  | store m x v => exact hk.elim
  | copy d s => exact hk.elim
  | callv x args => exact hk.elim
  | isnilu neg x => exact hk.elim
  | _ => simp only [gmop] at hk ⊢; rw [← pur]; exact hk
theorem gop_congr {P : Program} {H : Heap} {n : Nat} {k : GV → Heap → Nat → Prop} {go : GOp} (h : ∀ i, i ∈ gopT go → gat t i = gat t' i) (hk : gop P t H n k go) : gop P t' H n k go := by
  have one : ∀ x, (∀ i, i ∈ gxT x → i ∈ gopT go) → gev t x = gev t' x := fun x hx => gev_congr fun i hi => h i (hx i hi)
  have pur := gpure_congr h
  cases go with
  | isnilu neg x => simp only [gop] at hk ⊢; rw [one x fun i hi => by simpa [gopT] using hi] at hk; exact hk
  | load m x => cases m <;> simp only [gop] at hk ⊢ <;> (rw [one x fun i hi => by simpa [gopT] using hi] at hk; exact hk)
  | store m x v => simp only [gop] at hk ⊢; rw [one x fun i hi => by simp [gopT, hi], one v fun i hi => by simp [gopT, hi]] at hk; exact hk
  | box v => simp only [gop] at hk ⊢; rw [one v fun i hi => by simpa [gopT] using hi] at hk; exact hk
  | alloc cs => exact hk
  | empty => exact hk
  | bslice m cells parts => simp only [gop] at hk ⊢; rw [gfill_congr (t := t) (t' := t') h] at hk; exact hk
  | blit cells parts => simp only [gop] at hk ⊢; rw [gfill_congr (t := t) (t' := t') h] at hk; exact hk
  | mslicep z bytes l c => simp only [gop] at hk ⊢; rw [one l fun i hi => by simp [gopT, hi], one c fun i hi => by simp [gopT, hi]] at hk; exact hk
  | mslice z bytes l c => simp only [gop] at hk ⊢; rw [one l fun i hi => by simp [gopT, hi], one c fun i hi => by simp [gopT, hi]] at hk; exact hk
  | call f args => simp only [gop] at hk ⊢; rw [gmap_congr (t := t) (t' := t') h] at hk; exact hk
  | callv x args => simp only [gop] at hk ⊢; rw [one x fun i hi => by simp [gopT, hi], gmap_congr (t := t) (t' := t') fun i hi => h i (by simp only [gopT, List.mem_append]; exact .inr hi)] at hk; exact hk
  | append bytes s x => simp only [gop] at hk ⊢; rw [one s fun i hi => by simp [gopT, hi], one x fun i hi => by simp [gopT, hi]] at hk; exact hk
  | appendp bytes s x => simp only [gop] at hk ⊢; rw [one s fun i hi => by simp [gopT, hi], one x fun i hi => by simp [gopT, hi]] at hk; exact hk
  | copy d s => simp only [gop] at hk ⊢; rw [one d fun i hi => by simp [gopT, hi], one s fun i hi => by simp [gopT, hi]] at hk; exact hk
  | _ => simp only [gop] at hk ⊢; rw [← pur]; exact hk
end

/-- what the i-th operation of a drawn region yields in the text's order -/
def RecOK (P : Program) (H0 : Heap) (n0 : Nat) (o : GOper) (t : List GV) (n : Nat) (g : GV) (w : Option (List GV)) : Prop :=
  match o.guard with
  | none => gmop P H0 n0 t n (fun g' w' => g' = g ∧ w' = w) o.op
  | some (j, want) => ∃ b, gat t j = .bool b ∧ (b = want → gmop P H0 n0 t n (fun g' w' => g' = g ∧ w' = w) o.op) ∧ (b ≠ want → g = .undef ∧ w = none)

theorem gmops_chain {P : Program} {H0 : Heap} {n0 : Nat} {k : List GV → Heap → Nat → Prop} : ∀ (pre : List GOper) (t : List GV) (H : Heap) (n : Nat), gmops P H0 n0 pre k t H n →
    ∃ (T : Nat → List GV) (G : Nat → GV) (W : Nat → Option (List GV)) (NM : Nat → Nat) (Hs : Nat → Heap), T 0 = t ∧ NM 0 = n ∧ Hs 0 = H ∧
      (∀ i (hi : i < pre.length), RecOK P H0 n0 pre[i] (T i) (NM i) (G i) (W i) ∧ T (i + 1) = put (T i) pre[i].dst (G i) ∧ NM (i + 1) = nxt (NM i) (W i) ∧ Hs (i + 1) = updo (Hs i) (NM i) (W i)) ∧
      k (T pre.length) (Hs pre.length) (NM pre.length) := by
  intro pre
  induction pre with
  | nil => intro t H n h; exact ⟨fun _ => t, fun _ => .undef, fun _ => none, fun _ => n, fun _ => H, rfl, rfl, rfl, fun i hi => by simp at hi, h⟩
  | cons o rest ih =>
    intro t H n h
    have key : ∀ g w, RecOK P H0 n0 o t n g w → gmops P H0 n0 rest k (put t o.dst g) (updo H n w) (nxt n w) → ∃ (T : Nat → List GV) (G : Nat → GV) (W : Nat → Option (List GV)) (NM : Nat → Nat) (Hs : Nat → Heap), T 0 = t ∧ NM 0 = n ∧ Hs 0 = H ∧
        (∀ i (hi : i < (o :: rest).length), RecOK P H0 n0 (o :: rest)[i] (T i) (NM i) (G i) (W i) ∧ T (i + 1) = put (T i) (o :: rest)[i].dst (G i) ∧ NM (i + 1) = nxt (NM i) (W i) ∧ Hs (i + 1) = updo (Hs i) (NM i) (W i)) ∧
        k (T (o :: rest).length) (Hs (o :: rest).length) (NM (o :: rest).length) := by
      intro g w hr hrest
      obtain ⟨T, G, W, NM, Hs, h1, h2, h3, h4, h5⟩ := ih _ _ _ hrest
      refine ⟨fun i => match i with | 0 => t | i + 1 => T i, fun i => match i with | 0 => g | i + 1 => G i, fun i => match i with | 0 => w | i + 1 => W i, fun i => match i with | 0 => n | i + 1 => NM i, fun i => match i with | 0 => H | i + 1 => Hs i, rfl, rfl, rfl, ?_, h5⟩
      intro i hi
      cases i with
      | zero => exact ⟨hr, h1, h2, h3⟩
      | succ i => exact h4 i (by simpa using hi)
    simp only [gmops] at h
    split at h
    · rename_i hg
      obtain ⟨g, w, h1, h2⟩ := gmop_split h
      exact key g w (by simp only [RecOK, hg]; exact h1) h2
    · rename_i j want hg
      split at h
      · rename_i b hb
        split at h
        · rename_i hbw
          obtain ⟨g, w, h1, h2⟩ := gmop_split h
          exact key g w (by simp only [RecOK, hg]; exact ⟨b, hb, fun _ => h1, fun h => absurd hbw h⟩) h2
        · rename_i hbw
          exact key .undef none (by simp only [RecOK, hg]; exact ⟨b, hb, fun h => absurd h hbw, fun _ => ⟨trivial, trivial⟩⟩) h
      · exact h.elim
end Go.Proofs.Ytdpibcniodhinaa.Gh
/- A region whose order is open: in whatever order its operations come, the slots and the own blocks end as they do in the text's order. -/
namespace Go.Proofs.Ytdpibcniodhinaa.Gh
open Go Go.RowKit
set_option linter.unusedVariables false
set_option linter.unusedSimpArgs false

def okOper (P : Program) (ops : Array Oper) (o : Oper) (g : GOper) : Bool := o.dst == g.dst && okOp P o.op g.op && (match o.guard, g.guard with
  | none, none => true
  | some (j, w), some (tj, w') => w == w' && ((ops[j]?).bind (·.dst)) == some tj
  | _, _ => false)
def okOpers (P : Program) (ops : Array Oper) : List Nat → List GOper → Bool
  | [], [] => true
  | i :: is, g :: gs => (match ops[i]? with
    | some o => okOper P ops o g
    | none => false) && okOpers P ops is gs
  | _, _ => false

theorem wanted_of {ops : Array Oper} {o : Oper} {g : GOper} {P : Program} (h : okOper P ops o g = true) (tm : Array Value) :
    match g.guard with
    | none => Region.wanted o (yielded ops tm) = true
    | some (tj, w) => ∀ b, vat tm tj = .bool b → Region.wanted o (yielded ops tm) = (b == w) := by
  simp only [okOper, Bool.and_eq_true] at h
  obtain ⟨⟨_, _⟩, h⟩ := h
  cases hg : g.guard with
  | none =>
    rw [hg] at h
    cases ho : o.guard with
    | none => simp [Region.wanted, ho]
    | some p => rw [ho] at h; cases h
  | some q =>
    obtain ⟨tj, w⟩ := q
    rw [hg] at h
    cases ho : o.guard with
    | none => rw [ho] at h; cases h
    | some p =>
      obtain ⟨j, w'⟩ := p
      rw [ho] at h
      simp only [Bool.and_eq_true, beq_iff_eq] at h
      obtain ⟨rfl, hd⟩ := h
      intro b hb
      have htj : tm[tj]? = some (.bool b) := by
        by_cases hlt : tj < tm.size
        · simp only [vat, Array.getD, hlt, dif_pos] at hb
          rw [Array.getElem?_eq_getElem hlt]; simpa using hb
        · simp only [vat, Array.getD, hlt, dif_neg, not_false_eq_true] at hb; cases hb
      simp [Region.wanted, ho, yielded, hd, htj]

theorem unwanted_of {ops : Array Oper} {o : Oper} {g : GOper} {P : Program} (h : okOper P ops o g = true) {tm : Array Value} {tj : Nat} {w : Bool} (hg : g.guard = some (tj, w)) {us : Array Value} (hb : vat tm tj = .tuple us) : Region.wanted o (yielded ops tm) = false := by
  simp only [okOper, Bool.and_eq_true] at h
  obtain ⟨⟨_, _⟩, h⟩ := h
  rw [hg] at h
  cases ho : o.guard with
  | none => rw [ho] at h; cases h
  | some p =>
    obtain ⟨j, w'⟩ := p
    rw [ho] at h
    simp only [Bool.and_eq_true, beq_iff_eq] at h
    obtain ⟨rfl, hd⟩ := h
    have hy : yielded ops tm j = none := by
      unfold yielded
      rw [hd]
      by_cases hlt : tj < tm.size
      · simp only [vat, Array.getD, hlt, dif_pos] at hb
        have : tm[tj]? = some (.tuple us) := by rw [Array.getElem?_eq_getElem hlt]; simpa using hb
        simp [this]
      · simp [hlt]
    simp [Region.wanted, ho, hy]
theorem vr_skip (K : Kr) : VR K (.tup []) undef := .tup [] #[] rfl fun j hj => by simp at hj
theorem skip_vr {K : Kr} {v : Value} (h : VR K (.tup []) v) : ∃ us, v = .tuple us := by
  generalize hg : GV.tup [] = g at h
  cases h <;> first | (cases hg; exact ⟨_, rfl⟩) | cases hg
theorem okOper_dst {ops : Array Oper} {o : Oper} {g : GOper} {P : Program} (h : okOper P ops o g = true) : o.dst = g.dst := by
  simp only [okOper, Bool.and_eq_true, beq_iff_eq] at h; exact h.1.1
theorem okOper_op {ops : Array Oper} {o : Oper} {g : GOper} {P : Program} (h : okOper P ops o g = true) : okOp P o.op g.op = true := by
  simp only [okOper, Bool.and_eq_true, beq_iff_eq] at h; exact h.1.2
theorem put_defers' (a : Act) (d : Option Tmp) (v : Value) : (a.put d v).defers = a.defers := by cases d <;> rfl
theorem put_size (a : Act) (d : Option Tmp) (v : Value) : (a.put d v).tmps.size = a.tmps.size := by cases d <;> simp [Act.put]

section
variable {P : Program} {Q : Exit → Act → World → Prop}

/-- one operation, wherever it stands -/
theorem oper_step {ops : Array Oper} {i : Nat} {o : Oper} (hi : ops[i]? = some o) {g : GOper} (hok : okOper P ops o g = true) {rest : List GOper} {k : List GV → Heap → Nat → Prop} {K : Kr} {t : List GV} {a : Act} (hs : Sat K) (hF : Fr K.H K.lo) (ht : TR K t a.tmps) (hk : gops P (g :: rest) k t K.H K.lo) {next : Act → World → Prop}
    (hnext : ∀ t' K' a', gops P rest k t' K'.H K'.lo → KStep K K' → Fr K'.H K'.lo → Sat K' → TR K' t' a'.tmps → a'.defers = a.defers → next a' K'.w) : wpOp P ops Q i next a K.w := by
  have hd := okOper_dst hok
  have hop := okOper_op hok
  have hw := wanted_of hok a.tmps
  unfold wpOp
  rw [hi]
  simp only
  have run : gop P t K.H K.lo (fun g' H' n' => gops P rest k (put t g.dst g') H' n') g.op → o.wp P a K.w next Q ∨ (o.asks P a K.w ∧ LetsOut Q) := fun h =>
    .inl (gop_sound hop hs hF ht h fun g' v K' q1 q2 q3 q4 q5 => by
      rw [hd]
      exact hnext _ K' _ q1 q2 q3 q4 ((ht.mono q2).put q5 _) (put_defers' _ _ _))
  simp only [gops] at hk
  split at hk
  · rename_i hg
    rw [hg] at hw; simp only at hw
    rw [if_pos hw]
    exact run hk
  · rename_i j want hg
    rw [hg] at hw; simp only at hw
    split at hk
    · rename_i b hb
      have hv := ht.2 j
      rw [hb] at hv
      have hw := hw b hv.bool_inv
      split at hk
      · rename_i hbw
        rw [if_pos (by rw [hw, hbw]; simp)]
        exact run hk
      · rename_i hbw
        rw [if_neg (by rw [hw]; simpa using hbw), hd]
        exact hnext _ K _ hk (KStep.refl K) hF hs (ht.put (vr_skip K) _) (put_defers' _ _ _)
    · rename_i hb
      have hv := ht.2 j
      rw [hb] at hv
      obtain ⟨us, hus⟩ := skip_vr hv
      rw [if_neg (by rw [unwanted_of hok hg hus]; simp), hd]
      exact hnext _ K _ hk (KStep.refl K) hF hs (ht.put (vr_skip K) _) (put_defers' _ _ _)
    · exact hk.elim

theorem gops_sound {ops : Array Oper} {k : List GV → Heap → Nat → Prop} : ∀ (gl : List GOper) (l : List Nat) (K : Kr) (t : List GV) (a : Act), okOpers P ops l gl = true → Sat K → Fr K.H K.lo → TR K t a.tmps → gops P gl k t K.H K.lo →
    (∀ t' K' a', k t' K'.H K'.lo → KStep K K' → Fr K'.H K'.lo → Sat K' → TR K' t' a'.tmps → a'.defers = a.defers → Q .normal a' K'.w) → wpOps P ops Q l a K.w := by
  intro gl
  induction gl with
  | nil =>
    intro l K t a hok hs hF ht hk hQ
    cases l with
    | nil => exact hQ t K a hk (KStep.refl K) hF hs ht rfl
    | cons _ _ => cases hok
  | cons g gs ih =>
    intro l K t a hok hs hF ht hk hQ
    cases l with
    | nil => cases hok
    | cons i is =>
      simp only [okOpers, Bool.and_eq_true] at hok
      obtain ⟨h1, h2⟩ := hok
      split at h1
      · rename_i o ho
        rw [wpOps_cons]
        exact oper_step ho h1 hs hF ht hk fun t' K' a' q1 q2 q3 q4 q5 q6 =>
          ih is K' t' a' h2 q4 q3 q5 q1 fun t2 K2 a2 r1 r2 r3 r4 r5 r6 => hQ t2 K2 a2 r1 (q2.trans r2) r3 r4 r5 (r6.trans q6)
      · cases h1

/-- the slots that an operation looks at -/
def lookT (g : GOper) : List Nat := gopT g.op ++ (match g.guard with | none => [] | some (j, _) => [j])
def mbit (ms : List Nat) (i j : Nat) : Bool := (ms.getD i 0).testBit j
/-- is each j of an operation's mask one that comes before it? -/
def okMask (ops : Array Oper) (ms : List Nat) (i : Nat) : Bool := match ops[i]? with
  | none => false
  | some o => (o.after.toList.all fun e => !(Region.binds .any e) || decide (e.on < i)) && (List.range ops.size).all fun j => !(mbit ms i j) || (decide (j < i) && o.after.toList.any fun e => Region.binds .any e && (e.on == j || (decide (e.on < i) && mbit ms e.on j)))
def comp (ms : List Nat) (i k : Nat) : Bool := mbit ms i k || mbit ms k i
/-- the slot that a plain operation reads -/
def srcT : GOp → Option Nat
  | .mov (.t s) => some s
  | .extract _ (.t s) => some s
  | _ => none
/-- what it yields from this -/
def pv : GOp → GV → Option GV
  | .mov _, g => some g
  | .extract i _, .tup vs => if i < vs.length then some (gat vs i) else none
  | _, _ => none
/-- may this operation come ahead of the plain one at z? (n: how many operations the region has) -/
def okFree (ms : List Nat) (n : Nat) (pre : List GOper) (z : Nat) (g : Option GOper) : Bool := match pre[z]?, g with
  | some ⟨some d, op, none⟩, some g => (match srcT op with
    | some s => s != d && !((lookT g).contains d) && g.dst != some d && g.dst != some s && (List.range pre.length).all fun i => i == z || (match pre[i]? with
      | some o => o.dst != some d && (o.dst != some s || (decide (i < z) && (List.range' pre.length (n - pre.length)).all fun j => mbit ms j i))
      | none => true)
    | none => false)
  | _, _ => false
def okDraw (P : Program) (ops : Array Oper) (ms : List Nat) (pre tail : List GOper) : Bool :=
  okOpers P ops (List.range pre.length) pre && okOpers P ops (List.range' pre.length tail.length) tail && ops.size == pre.length + tail.length &&
  (List.range ops.size).all (okMask ops ms) && ms.all (fun m => decide (m < 2 ^ ops.size)) &&
  (List.range pre.length).all (fun i => (List.range pre.length).all fun k => i == k || (match (pre[i]?), (pre[k]?) with
    | some gi, some gk => (match gk.dst with
      | none => true
      | some d => (!((lookT gi).contains d) && !(gi.dst == some d)) || comp ms i k)
    | _, _ => false)) &&
  (List.range' pre.length tail.length).all (fun j => (List.range j).all fun i => mbit ms j i || okFree ms ops.size pre i tail[j - pre.length]?)
end
end Go.Proofs.Ytdpibcniodhinaa.Gh
/- A region whose order is open: the induction over all orders. -/
namespace Go.Proofs.Ytdpibcniodhinaa.Gh
open Go Go.RowKit
set_option linter.unusedVariables false
set_option linter.unusedSimpArgs false

theorem okOpers_at {P : Program} {ops : Array Oper} : ∀ (gl : List GOper) (l : List Nat), okOpers P ops l gl = true → l.length = gl.length ∧ ∀ i (h1 : i < l.length) (h2 : i < gl.length), ∃ o, ops[l[i]]? = some o ∧ okOper P ops o gl[i] = true := by
  intro gl
  induction gl with
  | nil => intro l h; cases l with
    | nil => exact ⟨rfl, fun i h1 _ => by simp at h1⟩
    | cons _ _ => cases h
  | cons g gs ih =>
    intro l h
    cases l with
    | nil => cases h
    | cons x xs =>
      simp only [okOpers, Bool.and_eq_true] at h
      obtain ⟨h1, h2⟩ := h
      obtain ⟨e1, e2⟩ := ih xs h2
      refine ⟨by simp [e1], fun i q1 q2 => ?_⟩
      cases i with
      | zero =>
        split at h1
        · rename_i o ho; exact ⟨o, ho, h1⟩
        · cases h1
      | succ i => exact e2 i (by simpa using q1) (by simpa using q2)

def pdst (pre : List GOper) (k : Nat) : Option Nat := (pre[k]?).bind (·.dst)
theorem pdst_at {pre : List GOper} {i : Nat} (h : i < pre.length) : pdst pre i = pre[i].dst := by simp [pdst, h]
theorem put_gat (t : List GV) (d : Option Nat) (g : GV) (j : Nat) (hj : j < t.length) : gat (put t d g) j = if d = some j then g else gat t j := by
  cases d with
  | none => simp [put]
  | some d =>
    simp only [put, Option.some.injEq]
    by_cases e : d = j
    · subst e; rw [gat_set _ _ _ _ hj, if_pos rfl]
    · rw [if_neg e]
      simp only [gat, List.getD_eq_getElem?_getD, List.getElem?_set]
      simp [e]
theorem put_vat (a : Act) (d : Option Nat) (v : Value) (j : Nat) (hj : j < a.tmps.size) : vat (a.put d v).tmps j = if d = some j then v else vat a.tmps j := by
  cases d with
  | none => simp [Act.put]
  | some d =>
    simp only [Act.put, Option.some.injEq]
    by_cases e : d = j
    · subst e; simp [vat, Array.getD, hj]
    · rw [if_neg e]; simp [vat, Array.getD, hj, e]
theorem put_len (t : List GV) (d : Option Nat) (g : GV) : (put t d g).length = t.length := by cases d <;> simp [put]

/-- the slots in the text's order: the last that wrote -/
theorem chain_slots {pre : List GOper} {t0 : List GV} {T : Nat → List GV} {G : Nat → GV} (h0 : T 0 = t0) (hstep : ∀ i (hi : i < pre.length), T (i + 1) = put (T i) pre[i].dst (G i)) :
    ∀ i, i ≤ pre.length → (T i).length = t0.length ∧ ∀ j, j < t0.length → (∃ k, k < i ∧ pdst pre k = some j ∧ (∀ k', k < k' → k' < i → pdst pre k' ≠ some j) ∧ gat (T i) j = G k) ∨ ((∀ k, k < i → pdst pre k ≠ some j) ∧ gat (T i) j = gat t0 j) := by
  intro i
  induction i with
  | zero => intro _; exact ⟨by rw [h0], fun j hj => .inr ⟨fun k hk => by omega, by rw [h0]⟩⟩
  | succ i ih =>
    intro hi
    obtain ⟨l, h⟩ := ih (by omega)
    have hd := pdst_at (pre := pre) (i := i) (by omega)
    refine ⟨by rw [hstep i (by omega), put_len, l], fun j hj => ?_⟩
    rw [hstep i (by omega), put_gat _ _ _ _ (by rw [l]; exact hj)]
    by_cases e : pre[i].dst = some j
    · rw [if_pos e]
      exact .inl ⟨i, by omega, by rw [hd]; exact e, fun k' a b => by omega, rfl⟩
    · rw [if_neg e]
      rcases h j hj with ⟨k, h1, h2, h3, h4⟩ | ⟨h1, h2⟩
      · exact .inl ⟨k, by omega, h2, fun k' a b => by
          by_cases ek : k' = i
          · subst ek; rw [hd]; exact e
          · exact h3 k' a (by omega), h4⟩
      · exact .inr ⟨fun k hk => by
          by_cases ek : k = i
          · subst ek; rw [hd]; exact e
          · exact h1 k (by omega), h2⟩
theorem chain_names {p : Nat} {W : Nat → Option (List GV)} {NM : Nat → Nat} (hstep : ∀ i, i < p → NM (i + 1) = nxt (NM i) (W i)) : ∀ i j, i ≤ j → j ≤ p → NM i ≤ NM j ∧ (i < j → W i ≠ none → NM i < NM j) := by
  intro i j hij
  induction j with
  | zero => intro _; have : i = 0 := by omega
            subst this; exact ⟨Nat.le_refl _, fun h => by omega⟩
  | succ j ih =>
    intro hj
    by_cases e : i = j + 1
    · subst e; exact ⟨Nat.le_refl _, fun h => by omega⟩
    · obtain ⟨h1, h2⟩ := ih (by omega) (by omega)
      rw [hstep j (by omega)]
      have hn : NM j ≤ nxt (NM j) (W j) := by cases W j <;> simp [nxt]
      refine ⟨by omega, fun _ hw => ?_⟩
      by_cases ej : i = j
      · subst ej
        cases h : W i with
        | none => exact absurd h hw
        | some cs => simp [nxt]
      · have := h2 (by omega) hw; omega
theorem chain_heaps {p : Nat} {H0 : Heap} {n0 : Nat} {W : Nat → Option (List GV)} {NM : Nat → Nat} {Hs : Nat → Heap} (hF : Fr H0 n0) (h0 : Hs 0 = H0) (hn : NM 0 = n0) (hstep : ∀ i, i < p → NM (i + 1) = nxt (NM i) (W i) ∧ Hs (i + 1) = updo (Hs i) (NM i) (W i)) :
    ∀ i, i ≤ p → (∀ b, b < n0 → Hs i b = H0 b) ∧ (∀ k cs, k < i → W k = some cs → Hs i (NM k) = some cs) ∧ ∀ b, n0 ≤ b → (∀ k, k < i → W k ≠ none → NM k ≠ b) → Hs i b = none := by
  intro i
  have hnames := chain_names (p := p) fun i hi => (hstep i hi).1
  induction i with
  | zero => intro _; rw [h0]; exact ⟨fun _ _ => rfl, fun k cs hk => by omega, fun b hb _ => hF b hb⟩
  | succ i ih =>
    intro hi
    obtain ⟨h1, h2, h3⟩ := ih (by omega)
    rw [(hstep i (by omega)).2]
    have hge : n0 ≤ NM i := by rw [← hn]; exact (hnames 0 i (by omega) (by omega)).1
    cases hw : W i with
    | none =>
      refine ⟨h1, fun k cs hk hk2 => ?_, fun b hb hall => h3 b hb fun k hk => hall k (by omega)⟩
      by_cases e : k = i
      · subst e; rw [hw] at hk2; cases hk2
      · exact h2 k cs (by omega) hk2
    | some cs0 =>
      refine ⟨fun b hb => ?_, fun k cs hk hk2 => ?_, fun b hb hall => ?_⟩
      · show upd (Hs i) (NM i) _ b = _
        rw [upd_ne _ _ (by omega)]; exact h1 b hb
      · show upd (Hs i) (NM i) _ (NM k) = _
        by_cases e : k = i
        · subst e; rw [upd_same, ← hw]; exact hk2
        · have := (hnames k i (by omega) (by omega)).2 (by omega) (by rw [hk2]; simp)
          rw [upd_ne _ _ (by omega)]; exact h2 k cs (by omega) hk2
      · show upd (Hs i) (NM i) _ b = _
        have := hall i (by omega) (by rw [hw]; simp)
        rw [upd_ne _ _ (Ne.symm this)]
        exact h3 b hb fun k hk => hall k (by omega)

/-- while a drawn region goes on: what holds when the operations with L have been done -/
structure Inv (pre : List GOper) (ops : Array Oper) (t0 : List GV) (G : Nat → GV) (W : Nat → Option (List GV)) (NM : Nat → Nat) (K0 : Kr) (a0 : Act) (L : Nat → Bool) (a : Act) (K : Kr) : Prop where
  sat : Sat K
  lo : K.lo = K0.lo
  step : KStep K0 K
  old : ∀ b, b < K0.lo → K.H b = K0.H b
  news : ∀ i cs, i < pre.length → L i = true → W i = some cs → K.H (NM i) = some cs
  non : ∀ b, K0.lo ≤ b → (∀ i, i < pre.length → L i = true → W i ≠ none → NM i ≠ b) → K.H b = none
  size : a.tmps.size = t0.length
  slots : ∀ j, j < t0.length → (∃ i, i < pre.length ∧ L i = true ∧ pdst pre i = some j ∧ (∀ k, k < pre.length → i < k → L k = true → pdst pre k ≠ some j) ∧ VR K (G i) (vat a.tmps j)) ∨ ((∀ i, i < pre.length → L i = true → pdst pre i ≠ some j) ∧ VR K (gat t0 j) (vat a.tmps j))
  defers : a.defers = a0.defers
  closed : ∀ i o, ops[i]? = some o → L i = true → ∀ e ∈ o.after, Region.binds .any e = true → L e.on = true

section
variable {P : Program} {ops : Array Oper} {ms : List Nat}
theorem mask_closed (hm : ∀ i, i < ops.size → okMask ops ms i = true) (hb : ∀ i j, mbit ms i j = true → j < ops.size) {L : Nat → Bool} (hL : ∀ i, L i = true → i < ops.size) (hc : ∀ i o, ops[i]? = some o → L i = true → ∀ e ∈ o.after, Region.binds .any e = true → L e.on = true) :
    ∀ n i, i ≤ n → i < ops.size → (∀ o, ops[i]? = some o → ∀ e ∈ o.after, Region.binds .any e = true → L e.on = true) → ∀ j, mbit ms i j = true → j < i ∧ L j = true := by
  intro n
  induction n with
  | zero =>
    intro i hi hsz hp j hj
    have := hm i hsz
    unfold okMask at this
    split at this
    · cases this
    · rename_i o ho
      simp only [Bool.and_eq_true, List.all_eq_true, List.mem_range] at this
      have := this.2 j (hb i j hj)
      rw [hj] at this
      simp only [Bool.not_true, Bool.false_or, Bool.and_eq_true, decide_eq_true_eq] at this
      omega
  | succ n ih =>
    intro i hi hsz hp j hj
    have := hm i hsz
    unfold okMask at this
    split at this
    · cases this
    · rename_i o ho
      simp only [Bool.and_eq_true, List.all_eq_true, List.mem_range] at this
      have := this.2 j (hb i j hj)
      rw [hj] at this
      simp only [Bool.not_true, Bool.false_or, Bool.and_eq_true, decide_eq_true_eq, List.any_eq_true, Bool.or_eq_true, beq_iff_eq] at this
      obtain ⟨hji, e, he, hbind, hor⟩ := this
      refine ⟨hji, ?_⟩
      have hLe := hp o ho e (by simpa using he) hbind
      rcases hor with hor | ⟨h1, h2⟩
      · rw [← hor]; exact hLe
      · exact (ih e.on (by omega) (hL _ hLe) (fun o' ho' => hc e.on o' ho' hLe) j h2).2
end
end Go.Proofs.Ytdpibcniodhinaa.Gh
