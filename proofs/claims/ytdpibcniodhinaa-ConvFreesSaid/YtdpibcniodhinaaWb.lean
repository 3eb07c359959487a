/- A region whose order is open ends as the ghost code says, in whatever order. -/
import Derived.LoopN
import Derived.Tactics
import Derived.Test.YtdpibcniodhinaaRows
import Derived.WalkKit
import Derived.ProofKit
import Derived.OpenShut
import Derived.Carry
import Derived.Test.YtdpibcniodhinaaProg
import Derived.Attr
import Derived.Test.YtdpibcniodhinaaWa
namespace Go.Proofs.Ytdpibcniodhinaa.Gh
open Go Go.RowKit
set_option linter.unusedVariables false
set_option linter.unusedSimpArgs false

/-- how many are still to come -/
def left (L : Nat → Bool) : Nat → Nat
  | 0 => 0
  | n + 1 => left L n + if L n then 0 else 1
theorem left_zero {L : Nat → Bool} : ∀ {n : Nat}, left L n = 0 → ∀ i, i < n → L i = true := by
  intro n
  induction n with
  | zero => intro _ i hi; omega
  | succ n ih =>
    intro h i hi
    simp only [left] at h
    by_cases e : i = n
    · subst e
      cases hl : L i with
      | true => rfl
      | false => rw [hl] at h; simp at h
    · exact ih (by omega) i (by omega)
theorem left_set {L L' : Nat → Bool} {i : Nat} (h0 : L i = false) (h1 : L' i = true) (h : ∀ j, j ≠ i → L' j = L j) : ∀ n, left L n = left L' n + if i < n then 1 else 0 := by
  intro n
  induction n with
  | zero => simp [left]
  | succ n ih =>
    simp only [left]
    by_cases e : n = i
    · subst e
      rw [ih, h0, h1, if_neg (Nat.lt_irrefl _), if_pos (Nat.lt_succ_self _)]; simp
    · rw [ih, h n e]
      generalize (if L n = true then 0 else 1) = z
      by_cases hlt : i < n
      · simp only [if_pos hlt, if_pos (show i < n + 1 by omega)]; omega
      · simp only [if_neg hlt, if_neg (show ¬ i < n + 1 by omega)]; omega

section
variable {P : Program} {ops : Array Oper} {ms : List Nat} {pre tail : List GOper} {k : List GV → Heap → Nat → Prop} {Q : Exit → Act → World → Prop}

/-- this operation may come ahead of the plain one at z -/
def Free (ms : List Nat) (n : Nat) (pre : List GOper) (z : Nat) (g : GOper) : Prop := ∃ d s op, pre[z]? = some ⟨some d, op, none⟩ ∧ srcT op = some s ∧ s ≠ d ∧ d ∉ lookT g ∧ g.dst ≠ some d ∧ g.dst ≠ some s ∧ (∀ i, i < pre.length → i ≠ z → pdst pre i ≠ some d) ∧ ∀ i, i < pre.length → i ≠ z → pdst pre i = some s → i < z ∧ ∀ j, pre.length ≤ j → j < n → mbit ms j i = true
theorem Free.lt {n : Nat} {pre : List GOper} {z : Nat} {g : GOper} (h : Free ms n pre z g) : z < pre.length := by
  obtain ⟨d, s, op, h, _⟩ := h
  exact (List.getElem?_eq_some_iff.1 h).1
theorem Free.of {n : Nat} {pre : List GOper} {z : Nat} {g : Option GOper} (h : okFree ms n pre z g = true) : ∃ g', g = some g' ∧ Free ms n pre z g' := by
  unfold okFree at h
  split at h
  · rename_i d op g' hz
    split at h
    · rename_i s hs
      simp only [Bool.and_eq_true, bne_iff_ne, Bool.not_eq_true', List.all_eq_true] at h
      obtain ⟨⟨⟨⟨h1, h2⟩, h3⟩, h4⟩, h5⟩ := h
      have key : ∀ i, i < pre.length → i ≠ z → pdst pre i ≠ some d ∧ (pdst pre i = some s → i < z ∧ ∀ j, pre.length ≤ j → j < n → mbit ms j i = true) := by
        intro i hi hne
        have := h5 i (List.mem_range.2 hi)
        rw [List.getElem?_eq_getElem hi] at this
        simp only [Bool.or_eq_true, beq_iff_eq, Bool.and_eq_true, bne_iff_ne, decide_eq_true_eq, List.all_eq_true] at this
        rw [pdst_at hi]
        rcases this with e | ⟨h6, h7⟩
        · exact absurd e hne
        · refine ⟨h6, fun he => ?_⟩
          rcases h7 with h7 | ⟨h7, h8⟩
          · exact absurd he h7
          · exact ⟨h7, fun j hj1 hj2 => h8 j (by simp [List.mem_range']; exact ⟨j - pre.length, by omega, by omega⟩)⟩
      exact ⟨g', rfl, d, s, op, hz, hs, h1, (fun hd => by rw [List.contains_iff_mem.2 hd] at h2; cases h2), h3, h4, fun i hi hne => (key i hi hne).1, fun i hi hne he => (key i hi hne).2 he⟩
    · cases h
  · cases h

structure Drawn (P : Program) (ops : Array Oper) (ms : List Nat) (pre tail : List GOper) : Prop where
  hpre : ∀ i (h : i < pre.length), ∃ o, ops[i]? = some o ∧ okOper P ops o pre[i] = true
  htail : ∀ i (h : i < tail.length), ∃ o, ops[pre.length + i]? = some o ∧ okOper P ops o tail[i] = true
  size : ops.size = pre.length + tail.length
  mask : ∀ i, i < ops.size → okMask ops ms i = true
  low : ∀ i j, mbit ms i j = true → j < ops.size
  pair : ∀ i k (hi : i < pre.length) (hk : k < pre.length), i ≠ k → ∀ d, pre[k].dst = some d → (d ∈ lookT pre[i] ∨ pre[i].dst = some d) → comp ms i k = true
  late : ∀ j, pre.length ≤ j → j < ops.size → ∀ i, i < j → mbit ms j i = true ∨ ∃ g, tail[j - pre.length]? = some g ∧ Free ms ops.size pre i g

theorem Drawn.of (h : okDraw P ops ms pre tail = true) : Drawn P ops ms pre tail := by
  simp only [okDraw, Bool.and_eq_true, beq_iff_eq] at h
  obtain ⟨⟨⟨⟨⟨⟨h1, h2⟩, h3⟩, h4⟩, h5⟩, h6⟩, h7⟩ := h
  obtain ⟨_, p2⟩ := okOpers_at _ _ h1
  obtain ⟨_, t2⟩ := okOpers_at _ _ h2
  refine ⟨fun i hi => ?_, fun i hi => ?_, h3, fun i hi => ?_, fun i j hij => ?_, fun i k hi hk hne d hd hor => ?_, fun j hj1 hj2 i hij => ?_⟩
  · obtain ⟨o, ho, hok⟩ := p2 i (by simpa using hi) hi
    exact ⟨o, by simpa using ho, hok⟩
  · obtain ⟨o, ho, hok⟩ := t2 i (by simpa using hi) hi
    exact ⟨o, by simpa using ho, hok⟩
  · exact List.all_eq_true.1 h4 i (by simpa using hi)
  · rcases Nat.lt_or_ge j ops.size with hlt | hge
    · exact hlt
    · exfalso
      unfold mbit at hij
      have hmi : ms.getD i 0 < 2 ^ ops.size := by
        rw [List.getD_eq_getElem?_getD]
        cases hq : ms[i]? with
        | none => simp; exact Nat.two_pow_pos _
        | some m =>
          have := List.all_eq_true.1 h5 m (List.mem_of_getElem? hq)
          simpa using this
      have hle : 2 ^ ops.size ≤ 2 ^ j := Nat.pow_le_pow_right (by omega) hge
      rw [Nat.testBit_lt_two_pow (by omega)] at hij
      cases hij
  · have := List.all_eq_true.1 (List.all_eq_true.1 h6 i (by simpa using hi)) k (by simpa using hk)
    simp only [Bool.or_eq_true, beq_iff_eq] at this
    rcases this with this | this
    · exact absurd this hne
    · rw [List.getElem?_eq_getElem hi, List.getElem?_eq_getElem hk] at this
      simp only [hd, Bool.or_eq_true, Bool.and_eq_true, Bool.not_eq_true', beq_eq_false_iff_ne] at this
      rcases this with ⟨h1, h2⟩ | h
      · rcases hor with hor | hor
        · rw [List.contains_iff_mem.2 hor] at h1; cases h1
        · exact absurd hor h2
      · exact h
  · have := List.all_eq_true.1 h7 j (by simp [List.mem_range']; exact ⟨j - pre.length, by omega, by omega⟩)
    have := List.all_eq_true.1 this i (by simpa using hij)
    simp only [Bool.or_eq_true] at this
    rcases this with this | hf
    · exact .inl this
    · exact .inr (Free.of hf)

/-- the slots, those with p left out -/
def mk (t : List GV) (p : Nat → Bool) : List GV := (List.range t.length).map fun j => if p j then .undef else gat t j
/-- those left out, taken from t -/
def unm (t t1 : List GV) (p : Nat → Bool) : List GV := (List.range t.length).map fun j => if p j then gat t j else gat t1 j
theorem mk_len (t : List GV) (p : Nat → Bool) : (mk t p).length = t.length := by simp [mk]
theorem unm_len (t t1 : List GV) (p : Nat → Bool) : (unm t t1 p).length = t.length := by simp [unm]
theorem gat_big {t : List GV} {j : Nat} (h : t.length ≤ j) : gat t j = .undef := by simp [gat, List.getD_eq_getElem?_getD, Nat.not_lt.2 h]
theorem gat_mk (t : List GV) (p : Nat → Bool) (j : Nat) : gat (mk t p) j = if p j then .undef else gat t j := by
  rcases Nat.lt_or_ge j t.length with h | h
  · simp [mk, gat, List.getD_eq_getElem?_getD, h]
  · rw [gat_big (by rw [mk_len]; exact h), gat_big h]; simp
theorem gat_unm (t t1 : List GV) (p : Nat → Bool) {j : Nat} (h : j < t.length) : gat (unm t t1 p) j = if p j then gat t j else gat t1 j := by
  simp [unm, gat, List.getD_eq_getElem?_getD, h]
theorem gat_ext {t t' : List GV} (hl : t.length = t'.length) (h : ∀ j, j < t.length → gat t j = gat t' j) : t = t' := by
  apply List.ext_getElem hl
  intro j h1 h2
  have := h j h1
  simpa [gat, List.getD_eq_getElem?_getD, h1, h2] using this
theorem gat_set_ne (t : List GV) {d j : Nat} (v : GV) (e : d ≠ j) : gat (t.set d v) j = gat t j := by simp [gat, List.getD_eq_getElem?_getD, List.getElem?_set_ne e]
theorem gat_set_eq (t : List GV) {d : Nat} (v : GV) (h : d < t.length) : gat (t.set d v) d = v := by simp [gat, List.getD_eq_getElem?_getD, h]
theorem gat_put (t : List GV) (d : Option Nat) (v : GV) {j : Nat} (h : d ≠ some j) : gat (put t d v) j = gat t j := by
  cases d with
  | none => rfl
  | some d => exact gat_set_ne _ _ fun e => h (by rw [e])
theorem TR.mk {K : Kr} {t : List GV} {tm : Array Value} (h : TR K t tm) (p : Nat → Bool) : TR K (Gh.mk t p) tm := by
  refine ⟨by rw [mk_len]; exact h.1, fun j => ?_⟩
  rw [gat_mk]
  split
  · exact .undef _
  · exact h.2 j
theorem put_mk (t : List GV) (p : Nat → Bool) (d : Option Nat) (g : GV) (h : ∀ j, d = some j → p j = false) : put (mk t p) d g = mk (put t d g) p := by
  refine gat_ext (by rw [put_len, mk_len, mk_len, put_len]) fun j hj => ?_
  rw [put_len, mk_len] at hj
  rw [put_gat _ _ _ _ (by rw [mk_len]; exact hj), gat_mk, gat_mk, put_gat _ _ _ _ hj]
  by_cases e : d = some j
  · rw [if_pos e, if_pos e, h j e]; rfl
  · rw [if_neg e, if_neg e]
theorem unm_mk (t t' : List GV) (p : Nat → Bool) (hl : t'.length = t.length) (h : ∀ j, p j = true → gat t' j = gat t j) : unm t (mk t' p) p = t' := by
  refine gat_ext (by rw [unm_len, hl]) fun j hj => ?_
  rw [unm_len] at hj
  rw [gat_unm _ _ _ hj, gat_mk]
  cases hp : p j
  · rfl
  · exact (h j hp).symm
/-- an operation that neither looks at the slots left out nor writes to them -/
theorem gops_mk {g : GOper} {rest : List GOper} {t : List GV} {H : Heap} {n : Nat} {p : Nat → Bool} (hd : ∀ j, j ∈ lookT g → p j = false) (h1 : ∀ j, g.dst = some j → p j = false) (hk : gops P (g :: rest) k t H n) :
    gops P [g] (fun t1 H1 n1 => t1 = mk (unm t t1 p) p ∧ (∀ j, g.dst ≠ some j → gat (unm t t1 p) j = gat t j) ∧ gops P rest k (unm t t1 p) H1 n1) (mk t p) H n := by
  have U : ∀ g', unm t (put (mk t p) g.dst g') p = put t g.dst g' := fun g' => by
    rw [put_mk _ _ _ _ h1]
    refine unm_mk _ _ _ (put_len _ _ _) fun j hj => gat_put _ _ _ fun e => ?_
    rw [h1 j e] at hj; cases hj
  have E : (fun g' H' n' => gops P [] (fun t1 H1 n1 => t1 = mk (unm t t1 p) p ∧ (∀ j, g.dst ≠ some j → gat (unm t t1 p) j = gat t j) ∧ gops P rest k (unm t t1 p) H1 n1) (put (mk t p) g.dst g') H' n') = fun g' H' n' => gops P rest k (put t g.dst g') H' n' := by
    funext g' H' n'
    show (put (mk t p) g.dst g' = mk (unm t (put (mk t p) g.dst g') p) p ∧ (∀ j, g.dst ≠ some j → gat (unm t (put (mk t p) g.dst g') p) j = gat t j) ∧ gops P rest k (unm t (put (mk t p) g.dst g') p) H' n') = _
    rw [U]
    refine propext ⟨fun h => h.2.2, fun h => ⟨put_mk _ _ _ _ h1, fun j hj => gat_put _ _ _ hj, h⟩⟩
  have look : ∀ i, i ∈ lookT g → gat t i = gat (mk t p) i := fun i hi => by rw [gat_mk, hd i hi]; rfl
  simp only [gops] at hk ⊢
  simp only [gops] at E
  split at hk
  · rename_i hg
    rw [E]
    exact gop_congr (fun i hi => look i (by simp [lookT, hi])) hk
  · rename_i j want hg
    have hj := look j (by simp [lookT, hg])
    rw [← hj]
    split at hk
    · rename_i b hb
      split at hk
      · rename_i hbw
        rw [if_pos hbw, E]
        exact gop_congr (fun i hi => look i (by simp [lookT, hi])) hk
      · rename_i hbw
        rw [if_neg hbw]
        have := congrFun (congrFun (congrFun E (.tup [])) H) n
        exact this.mpr hk
    · have := congrFun (congrFun (congrFun E (.tup [])) H) n
      exact this.mpr hk
    · exact hk.elim
/-- the plain operation, done late -/
theorem gops_plain {op : GOp} {t : List GV} {H : Heap} {n d s : Nat} {v : GV} (hs : srcT op = some s) (hp : pv op (gat t s) = some v) : gops P [⟨some d, op, none⟩] (fun t1 H1 n1 => t1 = t.set d v ∧ H1 = H ∧ n1 = n) t H n := by
  unfold srcT at hs
  split at hs
  · injection hs with hs; subst hs
    simp only [pv, Option.some.injEq] at hp
    show t.set d (gat t _) = t.set d v ∧ H = H ∧ n = n
    rw [hp]; exact ⟨rfl, rfl, rfl⟩
  · rename_i i s'
    injection hs with hs; subst hs
    have e2 : gev t (.t s') = gat t s' := rfl
    cases hg : gat t s' with
    | tup vs =>
      rw [hg] at hp e2
      simp only [pv] at hp
      split at hp
      · rename_i hlt
        injection hp with hp
        have e3 : gpure t (.extract i (.t s')) = some v := by
          simp only [gpure, e2]; rw [if_pos hlt, hp]
        show gop P t H n (fun g' H' n' => gops P [] (fun t1 H1 n1 => t1 = t.set d v ∧ H1 = H ∧ n1 = n) (put t (some d) g') H' n') (.extract i (.t s'))
        simp only [gop, e3]
        exact ⟨rfl, rfl, rfl⟩
      · cases hp
    | _ => rw [hg] at hp; simp only [pv] at hp; cases hp
  · cases hs
/-- what is known of a plain operation that is still to come -/
def Late (pre : List GOper) (t : List GV) (z : Nat) : Prop := ∃ d s op v, pre[z]? = some ⟨some d, op, none⟩ ∧ srcT op = some s ∧ s ≠ d ∧ pv op (gat t s) = some v ∧ (d < t.length → gat t d = v)
/-- the slots of these -/
def slotsU (pre : List GOper) (U : List Nat) (j : Nat) : Bool := U.any fun z => pdst pre z == some j
theorem slotsU_iff {pre : List GOper} {U : List Nat} {j : Nat} : slotsU pre U j = true ↔ ∃ z, z ∈ U ∧ pdst pre z = some j := by simp [slotsU]
theorem slotsU_false {pre : List GOper} {U : List Nat} {j : Nat} : slotsU pre U j = false ↔ ∀ z, z ∈ U → pdst pre z ≠ some j := by simp [slotsU]
theorem late_dst {pre : List GOper} {z d : Nat} {op : GOp} (h : pre[z]? = some ⟨some d, op, none⟩) : pdst pre z = some d := by simp [pdst, h]
theorem left_filter (L : Nat → Bool) : ∀ n, left L n = ((List.range n).filter fun i => !L i).length := by
  intro n
  induction n with
  | zero => rfl
  | succ n ih => rw [left, ih, List.range_succ, List.filter_append, List.length_append]; cases h : L n <;> simp [h]

theorem rec_plain {op : GOp} {t : List GV} {H0 : Heap} {n0 n d s : Nat} {g : GV} {w : Option (List GV)} (hs : srcT op = some s) (h : RecOK P H0 n0 ⟨some d, op, none⟩ t n g w) : pv op (gat t s) = some g ∧ w = none := by
  unfold srcT at hs
  split at hs
  · injection hs with hs; subst hs
    have h : gat t _ = g ∧ none = w := h
    exact ⟨congrArg some h.1, h.2.symm⟩
  · rename_i i s'
    injection hs with hs; subst hs
    unfold RecOK at h
    simp only [gmop, gpure] at h
    have e2 : gev t (.t s') = gat t s' := rfl
    rw [e2] at h
    cases hg : gat t s' with
    | tup vs =>
      rw [hg] at h
      dsimp only at h
      simp only [pv]
      by_cases hlt : i < vs.length
      · rw [if_pos hlt] at h ⊢
        exact ⟨congrArg some h.1, h.2.symm⟩
      · rw [if_neg hlt] at h; exact h.elim
    | _ => rw [hg] at h; exact h.elim
  · cases hs
variable (D : Drawn P ops ms pre tail)
include D

/-- the operations behind the open ones come in the text's order -/
theorem draw_tail {K0 : Kr} {a0 : Act} (hQ : ∀ t' K' a', k t' K'.H K'.lo → KStep K0 K' → Fr K'.H K'.lo → Sat K' → a'.defers = a0.defers → TR K' t' a'.tmps → Q .normal a' K'.w) :
    ∀ (fuel m : Nat) (listed : Array Bool) (K : Kr) (t : List GV) (a : Act), m ≤ tail.length → tail.length - m ≤ fuel → listed.size = ops.size → (∀ i, i < ops.size → listed.getD i false = decide (i < pre.length + m)) →
      gops P (tail.drop m) k t K.H K.lo → KStep K0 K → Sat K → Fr K.H K.lo → TR K t a.tmps → a.defers = a0.defers → wpAny P .any ops Q fuel listed a K.w := by
  have hsz := D.size
  have done : ∀ (m : Nat) (listed : Array Bool) (K : Kr) (t : List GV) (a : Act), m = tail.length → gops P (tail.drop m) k t K.H K.lo → KStep K0 K → Sat K → Fr K.H K.lo → TR K t a.tmps → a.defers = a0.defers → Q .normal a K.w := by
    intro m listed K t a hm hk q1 q2 q3 q4 q5
    rw [hm, List.drop_length] at hk
    exact hQ t K a hk q1 q3 q2 q5 q4
  have getT : ∀ (listed : Array Bool) (i : Nat), listed.size = ops.size → i < ops.size → listed.getD i true = listed.getD i false := by
    intro listed i h1 h2
    have : i < listed.size := by omega
    simp [Array.getD, this]
  intro fuel
  induction fuel with
  | zero =>
    intro m listed K t a hm hf hls hl hk q1 q2 q3 q4 q5
    have hmm : m = tail.length := by omega
    refine ⟨?_, done m listed K t a hmm hk q1 q2 q3 q4 q5⟩
    rw [List.eq_nil_iff_forall_not_mem]
    intro j hj
    rw [mem_ready] at hj
    obtain ⟨h0, o, ho, _⟩ := hj
    have hjs : j < ops.size := (Array.getElem?_eq_some_iff.1 ho).1
    rw [getT listed j hls hjs, hl j hjs] at h0
    simp at h0; omega
  | succ fuel ih =>
    intro m listed K t a hm hf hls hl hk q1 q2 q3 q4 q5
    by_cases hmm : m = tail.length
    · have hnone : Region.ready .any ops listed = [] := by
        rw [List.eq_nil_iff_forall_not_mem]
        intro j hj
        rw [mem_ready] at hj
        obtain ⟨h0, o, ho, _⟩ := hj
        have hjs : j < ops.size := (Array.getElem?_eq_some_iff.1 ho).1
        rw [getT listed j hls hjs, hl j hjs] at h0
        simp at h0; omega
      exact ⟨fun _ => done m listed K t a hmm hk q1 q2 q3 q4 q5, fun i hi => by rw [hnone] at hi; cases hi⟩
    · have hmlt : m < tail.length := by omega
      obtain ⟨o, ho, hok⟩ := D.htail m hmlt
      have hclosed : ∀ i o', ops[i]? = some o' → listed.getD i false = true → ∀ e ∈ o'.after, Region.binds .any e = true → listed.getD e.on false = true := by
        intro i o' ho' hli e he hb
        have his : i < ops.size := (Array.getElem?_eq_some_iff.1 ho').1
        have := D.mask i his
        unfold okMask at this
        rw [ho'] at this
        simp only [Bool.and_eq_true, List.all_eq_true] at this
        have := this.1 e (by simpa using he)
        rw [hb] at this
        simp at this
        rw [hl i his] at hli
        rw [hl e.on (by omega)]
        simp at hli ⊢; omega
      have only : ∀ i, i ∈ Region.ready .any ops listed → i = pre.length + m := by
        intro i hi
        rw [mem_ready] at hi
        obtain ⟨h0, o', ho', hall⟩ := hi
        have his : i < ops.size := (Array.getElem?_eq_some_iff.1 ho').1
        rw [getT listed i hls his, hl i his] at h0
        simp at h0
        rcases Nat.lt_or_ge (pre.length + m) i with hlt | hge
        · exfalso
          have hb : mbit ms i (pre.length + m) = true := by
            rcases D.late i (by omega) his (pre.length + m) hlt with hb | ⟨g', _, hfr⟩
            · exact hb
            · have := hfr.lt; omega
          have hL : ∀ i, listed.getD i false = true → i < ops.size := by
            intro i hi
            rcases Nat.lt_or_ge i listed.size with h | h
            · omega
            · simp [Array.getD, Nat.not_lt.2 h] at hi
          have := (mask_closed D.mask D.low (L := fun i => listed.getD i false) hL hclosed i i (Nat.le_refl _) his (fun o2 ho2 e he hbd => by rw [ho'] at ho2; cases ho2; exact hall e he hbd) _ hb).2
          have this : listed.getD (pre.length + m) false = true := this
          rw [hl _ (by omega)] at this
          simp at this
        · omega
      have isready : pre.length + m ∈ Region.ready .any ops listed := by
        rw [mem_ready]
        refine ⟨by rw [getT listed _ hls (by omega), hl _ (by omega)]; simp, o, ho, fun e he hb => ?_⟩
        have := D.mask (pre.length + m) (by omega)
        unfold okMask at this
        rw [ho] at this
        simp only [Bool.and_eq_true, List.all_eq_true] at this
        have := this.1 e (by simpa using he)
        rw [hb] at this
        simp at this
        rw [hl e.on (by omega)]
        simpa using this
      refine ⟨fun hnil => (by rw [hnil] at isready; cases isready), fun i hi => ?_⟩
      have hi := only i hi
      subst hi
      have hdrop : tail.drop m = tail[m] :: tail.drop (m + 1) := List.drop_eq_getElem_cons hmlt
      rw [hdrop] at hk
      refine oper_step ho hok q2 q3 q4 hk fun t' K' a' r1 r2 r3 r4 r5 r6 => ?_
      refine ih (m + 1) _ K' t' a' (by omega) (by omega) (by simpa using hls) ?_ r1 (q1.trans r2) r4 r3 r5 (r6.trans q5)
      intro j hj
      by_cases e : pre.length + m = j
      · subst e
        have : pre.length + m < listed.size := by omega
        simp [Array.getD, this]
      · rw [getD_set_ne false e, hl j hj]
        simp; omega

/-- all but some plain operations are done: what comes behind needs not wait for them -/
theorem draw_tailU {K0 : Kr} {a0 : Act} (hQ : ∀ t' K' a', k t' K'.H K'.lo → KStep K0 K' → Fr K'.H K'.lo → Sat K' → a'.defers = a0.defers → TR K' t' a'.tmps → Q .normal a' K'.w) :
    ∀ (fuel m : Nat) (listed : Array Bool) (K : Kr) (t : List GV) (a : Act) (U : List Nat), m ≤ tail.length → tail.length - m + U.length ≤ fuel → listed.size = ops.size → U.Nodup → (∀ z, z ∈ U → Late pre t z) →
      (∀ z z', z ∈ U → z' ∈ U → z ≠ z' → pdst pre z ≠ pdst pre z') → (∀ z s op d, z ∈ U → pre[z]? = some ⟨some d, op, none⟩ → srcT op = some s → slotsU pre U s = false) →
      (∀ i, i < ops.size → listed.getD i false = decide (i ∉ U ∧ i < pre.length + m)) →
      (∀ i o', ops[i]? = some o' → listed.getD i false = true → ∀ e ∈ o'.after, Region.binds .any e = true → listed.getD e.on false = true) → gops P (tail.drop m) k t K.H K.lo → KStep K0 K → Sat K → Fr K.H K.lo → TR K (mk t (slotsU pre U)) a.tmps → a.defers = a0.defers → wpAny P .any ops Q fuel listed a K.w := by
  have hsz := D.size
  have getT : ∀ (listed : Array Bool) (i : Nat), listed.size = ops.size → i < ops.size → listed.getD i true = listed.getD i false := by
    intro listed i h1 h2
    have : i < listed.size := by omega
    simp [Array.getD, this]
  intro fuel
  induction fuel with
  | zero =>
    intro m listed K t a U hm hf hls hnd hU hdd hss hl hclosed hk q1 q2 q3 q4 q5
    have hU0 : U = [] := List.length_eq_zero_iff.1 (by omega)
    subst hU0
    have e : mk t (slotsU pre []) = t := gat_ext (mk_len _ _) fun j _ => by rw [gat_mk]; rfl
    rw [e] at q4
    exact draw_tail D hQ 0 m listed K t a hm (by simpa using hf) hls (fun i hi => by rw [hl i hi]; simp) hk q1 q2 q3 q4 q5
  | succ fuel ih =>
    intro m listed K t a U hm hf hls hnd hU hdd hss hl hclosed hk q1 q2 q3 q4 q5
    by_cases hU0 : U = []
    · subst hU0
      have e : mk t (slotsU pre []) = t := gat_ext (mk_len _ _) fun j _ => by rw [gat_mk]; rfl
      rw [e] at q4
      exact draw_tail D hQ (fuel + 1) m listed K t a hm (by simpa using hf) hls (fun i hi => by rw [hl i hi]; simp) hk q1 q2 q3 q4 q5
    have hUlt : ∀ z, z ∈ U → z < pre.length := fun z hz => by
      obtain ⟨d, s, op, v, h, _⟩ := hU z hz
      exact (List.getElem?_eq_some_iff.1 h).1
    -- the first one that is still to come is ready
    have hne : Region.ready .any ops listed ≠ [] := by
      have hmin : ∃ z, z ∈ U ∧ ∀ z', z' ∈ U → z ≤ z' := by
        clear hk q4 q5 hl hss hdd hU hnd hf hUlt
        induction U with
        | nil => exact absurd rfl hU0
        | cons x U ihU =>
          by_cases e : U = []
          · subst e; exact ⟨x, by simp, fun z hz => by simp at hz; omega⟩
          · obtain ⟨z, h1, h2⟩ := ihU e
            by_cases hx : x ≤ z
            · exact ⟨x, by simp, fun z' hz' => by
                rcases List.mem_cons.1 hz' with rfl | h
                · exact Nat.le_refl _
                · have := h2 z' h; omega⟩
            · exact ⟨z, by simp [h1], fun z' hz' => by
                rcases List.mem_cons.1 hz' with rfl | h
                · omega
                · exact h2 z' h⟩
      obtain ⟨z, hz, hzm⟩ := hmin
      have hpl := hUlt z hz
      obtain ⟨o0, ho0, hok0⟩ := D.hpre z hpl
      have isready : z ∈ Region.ready .any ops listed := by
        rw [mem_ready]
        refine ⟨by rw [getT listed _ hls (by omega), hl _ (by omega)]; simp [hz], o0, ho0, fun e he hb => ?_⟩
        have := D.mask z (by omega)
        unfold okMask at this
        rw [ho0] at this
        simp only [Bool.and_eq_true, List.all_eq_true] at this
        have := this.1 e (by simpa using he)
        rw [hb] at this
        simp at this
        rw [hl _ (by omega)]
        exact decide_eq_true ⟨fun h => by have := hzm _ h; omega, by omega⟩
      intro hnil; rw [hnil] at isready; cases isready
    refine ⟨fun hnil => absurd hnil hne, fun i hi => ?_⟩
    rw [mem_ready] at hi
    obtain ⟨h0, o', ho', hall⟩ := hi
    have his : i < ops.size := (Array.getElem?_eq_some_iff.1 ho').1
    rw [getT listed i hls his, hl i his] at h0
    by_cases hiU : i ∈ U
    · -- a plain operation, late
      obtain ⟨d, s, op, v, hz, hop, hsd, hpv, hv⟩ := hU i hiU
      obtain ⟨o0, ho0, hok0⟩ := D.hpre i (hUlt i hiU)
      have hp0 : pre[i]'(hUlt i hiU) = ⟨some d, op, none⟩ := (List.getElem?_eq_some_iff.1 hz).2
      rw [hp0] at hok0
      have hsm : gat (mk t (slotsU pre U)) s = gat t s := by rw [gat_mk, hss i s op d hiU hz hop]; rfl
      refine oper_step ho0 hok0 q2 q3 q4 (gops_plain (d := d) hop (by rw [hsm]; exact hpv)) fun t' K' a' r1 r2 r3 r4 r5 r6 => ?_
      obtain ⟨r1, r7, r8⟩ := r1
      have hmem : ∀ z, z ∈ U.erase i ↔ z ≠ i ∧ z ∈ U := fun z => hnd.mem_erase_iff
      have hset : (mk t (slotsU pre U)).set d v = mk t (slotsU pre (U.erase i)) := by
        refine gat_ext (by rw [List.length_set, mk_len, mk_len]) fun j hj => ?_
        rw [List.length_set, mk_len] at hj
        by_cases e : d = j
        · subst e
          rw [gat_set_eq _ _ (by rw [mk_len]; exact hj), gat_mk]
          have : slotsU pre (U.erase i) d = false := slotsU_false.2 fun z hz' e' => by
            obtain ⟨h1, h2⟩ := (hmem z).1 hz'
            exact hdd z i h2 hiU h1 (by rw [e', late_dst hz])
          rw [this]; exact (hv hj).symm
        · rw [gat_set_ne _ _ e, gat_mk, gat_mk]
          have : slotsU pre U j = slotsU pre (U.erase i) j := by
            rw [Bool.eq_iff_iff, slotsU_iff, slotsU_iff]
            refine ⟨fun ⟨z, h1, h2⟩ => ⟨z, (hmem z).2 ⟨fun e' => ?_, h1⟩, h2⟩, fun ⟨z, h1, h2⟩ => ⟨z, ((hmem z).1 h1).2, h2⟩⟩
            subst e'; rw [late_dst hz] at h2; injection h2 with h2; exact e h2
          rw [this]
      subst r1
      rw [hset] at r5
      refine ih m _ K' t a' (U.erase i) hm ?_ (by simpa using hls) (hnd.erase i) (fun z hz' => hU z ((hmem z).1 hz').2) (fun z z' h1 h2 => hdd z z' ((hmem z).1 h1).2 ((hmem z').1 h2).2) (fun z s' op' d' h1 h2 h3 => ?_) ?_ ?_ (by rw [r7, r8]; exact hk) (q1.trans r2) r4 r3 r5 (r6.trans q5)
      · have := List.length_erase_of_mem hiU
        have hpos : 0 < U.length := List.length_pos_of_mem hiU
        omega
      · have := hss z s' op' d' ((hmem z).1 h1).2 h2 h3
        rw [slotsU_false] at this ⊢
        exact fun z' hz' => this z' ((hmem z').1 hz').2
      · intro j hj
        by_cases e : i = j
        · subst e
          have : i < listed.size := by omega
          have h1 : (listed.setIfInBounds i true).getD i false = true := by simp [Array.getD, this]
          rw [h1]; exact (decide_eq_true ⟨fun h => ((hmem i).1 h).1 rfl, by have := hUlt i hiU; omega⟩).symm
        · rw [getD_set_ne false e, hl j hj]
          exact decide_eq_decide.2 ⟨fun h => ⟨fun h' => h.1 ((hmem j).1 h').2, h.2⟩, fun h => ⟨fun h' => h.1 ((hmem j).2 ⟨Ne.symm e, h'⟩), h.2⟩⟩
      · intro q oq hoq hlq e he hb
        by_cases hqi : q = i
        · subst hqi
          rw [ho'] at hoq; cases hoq
          exact getD_set_true (hall e he hb)
        · have hlq : listed.getD q false = true := by rwa [getD_set_ne false (Ne.symm hqi)] at hlq
          exact getD_set_true (hclosed q oq hoq hlq e he hb)
    · -- the next one of the tail
      have h0 : pre.length + m ≤ i := by simpa [hiU] using h0
      have hL : ∀ i, listed.getD i false = true → i < ops.size := by
        intro i hi
        rcases Nat.lt_or_ge i listed.size with h | h
        · omega
        · simp [Array.getD, Nat.not_lt.2 h] at hi
      have hcl := mask_closed D.mask D.low (L := fun i => listed.getD i false) hL hclosed i i (Nat.le_refl _) his (fun o2 ho2 e he hbd => by rw [ho'] at ho2; cases ho2; exact hall e he hbd)
      have him : i = pre.length + m := by
        rcases Nat.lt_or_ge (pre.length + m) i with hlt | hge
        · exfalso
          rcases D.late i (by omega) his (pre.length + m) hlt with hb | ⟨g', _, hfr⟩
          · have hq : listed.getD (pre.length + m) false = true := (hcl _ hb).2
            rw [hl _ (by omega)] at hq; simp at hq
          · have := hfr.lt; omega
        · omega
      have hmlt : m < tail.length := by omega
      have hfree : ∀ z, z ∈ U → Free ms ops.size pre z tail[m] := fun z hz => by
        rcases D.late i (by omega) his z (by have := hUlt z hz; omega) with hb | ⟨g', hg', hf⟩
        · exfalso
          have hq : listed.getD z false = true := (hcl _ hb).2
          rw [hl z (by have := hUlt z hz; omega)] at hq; simp [hz] at hq
        · rw [him, Nat.add_sub_cancel_left, List.getElem?_eq_getElem hmlt] at hg'
          cases hg'; exact hf
      obtain ⟨o, ho, hok⟩ := D.htail m hmlt
      subst him
      have hdrop : tail.drop m = tail[m] :: tail.drop (m + 1) := List.drop_eq_getElem_cons hmlt
      rw [hdrop] at hk
      have hm1 : ∀ j, j ∈ lookT tail[m] → slotsU pre U j = false := fun j hj => slotsU_false.2 fun z hz e => by
        obtain ⟨d, s, op, p1, p2, p3, p4, _⟩ := hfree z hz
        rw [late_dst p1] at e; injection e with e; subst e
        exact p4 hj
      have hm2 : ∀ j, tail[m].dst = some j → slotsU pre U j = false := fun j hj => slotsU_false.2 fun z hz e => by
        obtain ⟨d, s, op, p1, p2, p3, p4, p5, _⟩ := hfree z hz
        rw [late_dst p1] at e; injection e with e; subst e
        exact p5 hj
      refine oper_step ho hok q2 q3 q4 (gops_mk hm1 hm2 hk) fun t' K' a' r1 r2 r3 r4 r5 r6 => ?_
      obtain ⟨r1, r7, r8⟩ := r1
      have hlen : (unm t t' (slotsU pre U)).length = t.length := unm_len _ _ _
      generalize unm t t' (slotsU pre U) = t2 at *
      subst r1
      refine ih (m + 1) _ K' t2 a' U (by omega) (by omega) (by simpa using hls) hnd (fun z hz => ?_) hdd hss ?_ ?_ r8 (q1.trans r2) r4 r3 r5 (r6.trans q5)
      · obtain ⟨d, s, op, v, p1, p2, p3, p4, p5⟩ := hU z hz
        obtain ⟨d', s', op', f1, f2, f3, f4, f5, f6, _⟩ := hfree z hz
        rw [p1] at f1; injection f1 with f1; injection f1 with f1 f1'; injection f1 with f1; subst f1 f1'
        rw [p2] at f2; injection f2 with f2; subst f2
        refine ⟨d, s, op, v, p1, p2, p3, by rw [r7 s f6]; exact p4, fun hd => ?_⟩
        rw [r7 d f5]; exact p5 (by rw [← hlen]; exact hd)
      · intro j hj
        by_cases e : pre.length + m = j
        · subst e
          have : pre.length + m < listed.size := by omega
          have h1 : (listed.setIfInBounds (pre.length + m) true).getD (pre.length + m) false = true := by simp [Array.getD, this]
          rw [h1]; exact (decide_eq_true ⟨hiU, by omega⟩).symm
        · rw [getD_set_ne false e, hl j hj]
          exact decide_eq_decide.2 ⟨fun h => ⟨h.1, by omega⟩, fun h => ⟨h.1, by omega⟩⟩
      · intro q oq hoq hlq e he hb
        by_cases hqi : q = pre.length + m
        · subst hqi
          rw [ho'] at hoq; cases hoq
          exact getD_set_true (hall e he hb)
        · have hlq : listed.getD q false = true := by rwa [getD_set_ne false (Ne.symm hqi)] at hlq
          exact getD_set_true (hclosed q oq hoq hlq e he hb)

/-- the open operations, in whatever order -/
theorem draw_pre {K0 : Kr} {a0 : Act} {t0 : List GV} {T : Nat → List GV} {G : Nat → GV} {W : Nat → Option (List GV)} {NM : Nat → Nat} {Hs : Nat → Heap} (hs0 : Sat K0) (hF0 : Fr K0.H K0.lo) (ht0 : TR K0 t0 a0.tmps)
    (hT0 : T 0 = t0) (hN0 : NM 0 = K0.lo) (hH0 : Hs 0 = K0.H)
    (hstep : ∀ i (hi : i < pre.length), RecOK P K0.H K0.lo pre[i] (T i) (NM i) (G i) (W i) ∧ T (i + 1) = put (T i) pre[i].dst (G i) ∧ NM (i + 1) = nxt (NM i) (W i) ∧ Hs (i + 1) = updo (Hs i) (NM i) (W i))
    (hk : gops P tail k (T pre.length) (Hs pre.length) (NM pre.length))
    (hQ : ∀ t' K' a', k t' K'.H K'.lo → KStep K0 K' → Fr K'.H K'.lo → Sat K' → a'.defers = a0.defers → TR K' t' a'.tmps → Q .normal a' K'.w) :
    ∀ (fuel : Nat) (listed : Array Bool) (a : Act) (K : Kr), left (fun i => listed.getD i false) ops.size ≤ fuel → listed.size = ops.size → (∀ i, pre.length ≤ i → i < ops.size → listed.getD i false = false) →
      Inv pre ops t0 G W NM K0 a0 (fun i => listed.getD i false) a K → wpAny P .any ops Q fuel listed a K.w := by
  have hsz := D.size
  have hnames := chain_names (p := pre.length) (W := W) (NM := NM) fun i hi => (hstep i hi).2.2.1
  have hslots := chain_slots hT0 fun i hi => (hstep i hi).2.1
  have hheaps := chain_heaps hF0 hH0 hN0 fun i hi => (hstep i hi).2.2
  have hge : ∀ i, i ≤ pre.length → K0.lo ≤ NM i := fun i hi => by rw [← hN0]; exact (hnames 0 i (by omega) hi).1
  have getT : ∀ (listed : Array Bool) (i : Nat), listed.size = ops.size → i < ops.size → listed.getD i true = listed.getD i false := by
    intro listed i h1 h2
    have : i < listed.size := by omega
    simp [Array.getD, this]
  have hLsz : ∀ (listed : Array Bool), listed.size = ops.size → ∀ i, listed.getD i false = true → i < ops.size := by
    intro listed h i hi
    rcases Nat.lt_or_ge i listed.size with h1 | h1
    · omega
    · simp [Array.getD, Nat.not_lt.2 h1] at hi
  -- all open ones done
  have fin : ∀ (fuel : Nat) (listed : Array Bool) (a : Act) (K : Kr), tail.length ≤ fuel → listed.size = ops.size → (∀ i, pre.length ≤ i → i < ops.size → listed.getD i false = false) → (∀ i, i < pre.length → listed.getD i false = true) →
      Inv pre ops t0 G W NM K0 a0 (fun i => listed.getD i false) a K → wpAny P .any ops Q fuel listed a K.w := by
    intro fuel listed a K hf hls h2 h3 I
    have hHeq : K.H = Hs pre.length := by
      obtain ⟨c1, c2, c3⟩ := hheaps pre.length (Nat.le_refl _)
      funext b
      rcases Nat.lt_or_ge b K0.lo with hb | hb
      · rw [I.old b hb, c1 b hb]
      · by_cases hex : ∃ i, i < pre.length ∧ W i ≠ none ∧ NM i = b
        · obtain ⟨i, hi, hw, rfl⟩ := hex
          obtain ⟨cs, hcs⟩ := Option.ne_none_iff_exists'.1 hw
          rw [I.news i cs hi (h3 i hi) hcs, c2 i cs hi hcs]
        · rw [I.non b hb fun i hi _ hw e => hex ⟨i, hi, hw, e⟩, c3 b hb fun i hi hw e => hex ⟨i, hi, hw, e⟩]
    have hTR : TR K (T pre.length) a.tmps := by
      obtain ⟨l, h⟩ := hslots pre.length (Nat.le_refl _)
      refine ⟨by rw [l, I.size], fun j => ?_⟩
      rcases Nat.lt_or_ge j t0.length with hj | hj
      · rcases h j hj with ⟨i, c1, c2, c3, c4⟩ | ⟨c1, c2⟩
        · rcases I.slots j hj with ⟨i', d1, d2, d3, d4, d5⟩ | ⟨d1, d2⟩
          · have : i = i' := by
              rcases Nat.lt_trichotomy i i' with h | h | h
              · exact absurd d3 (c3 i' h d1)
              · exact h
              · exact absurd c2 (d4 i c1 h (h3 i c1))
            subst this; rw [c4]; exact d5
          · exact absurd c2 (d1 i c1 (h3 i c1))
        · rcases I.slots j hj with ⟨i', d1, d2, d3, d4, d5⟩ | ⟨d1, d2⟩
          · exact absurd d3 (c1 i' d1)
          · rw [c2]; exact d2
      · have : gat (T pre.length) j = .undef := by simp [gat, List.getD_eq_getElem?_getD, l, Nat.not_lt.2 hj]
        rw [this]; exact .undef _
    have hlo : K.lo ≤ NM pre.length := by rw [I.lo]; exact hge _ (Nat.le_refl _)
    have hFr : Fr K.H (NM pre.length) := by
      intro b hb
      rw [hHeq]
      refine (hheaps pre.length (Nat.le_refl _)).2.2 b (by have := hge pre.length (Nat.le_refl _); omega) fun i hi hw e => ?_
      have := (hnames i pre.length (by omega) (Nat.le_refl _)).2 hi hw
      omega
    have := draw_tail D hQ fuel 0 listed { K with lo := NM pre.length } (T pre.length) a (Nat.zero_le _) (by omega) hls (fun i hi => by
      by_cases hip : i < pre.length
      · rw [h3 i hip]; simp [hip]
      · rw [h2 i (by omega) hi]; simp [hip]) (by rw [List.drop_zero]; show gops P tail k _ K.H (NM pre.length); rw [hHeq]; exact hk) (I.step.trans (lo_step K hlo)) (lo_sat I.sat hlo) hFr (hTR.mono (lo_step K hlo)) I.defers
    exact this
  -- all but some plain operations done
  have finU : ∀ (fuel : Nat) (listed : Array Bool) (a : Act) (K : Kr), left (fun i => listed.getD i false) ops.size ≤ fuel → listed.size = ops.size → (∀ i, pre.length ≤ i → i < ops.size → listed.getD i false = false) →
      (∀ z, z < pre.length → listed.getD z false = false → ∃ d s op, pre[z]? = some ⟨some d, op, none⟩ ∧ srcT op = some s ∧ s ≠ d ∧ (∀ i, i < pre.length → i ≠ z → pdst pre i ≠ some d) ∧ ∀ i, i < pre.length → i ≠ z → pdst pre i = some s → i < z ∧ listed.getD i false = true) →
      Inv pre ops t0 G W NM K0 a0 (fun i => listed.getD i false) a K → wpAny P .any ops Q fuel listed a K.w := by
    intro fuel listed a K hf hls h2 hz I
    let U : List Nat := (List.range pre.length).filter fun i => !listed.getD i false
    have hmem : ∀ z, z ∈ U ↔ z < pre.length ∧ listed.getD z false = false := fun z => by simp [U]
    have hnd : U.Nodup := List.Pairwise.filter _ List.nodup_range
    have keepT : ∀ (z b : Nat) (j : Nat), z + 1 ≤ b → b ≤ pre.length → (∀ i, z < i → i < pre.length → pdst pre i ≠ some j) → gat (T b) j = gat (T (z + 1)) j := by
      intro z b j hzb
      induction b with
      | zero => intro _ _; omega
      | succ b ihb =>
        intro hb hj
        by_cases e : b = z
        · subst e; rfl
        · rw [← ihb (by omega) (by omega) hj, (hstep b (by omega)).2.1]
          have hne := hj b (by omega) (by omega)
          rw [pdst_at (by omega)] at hne
          exact gat_put _ _ _ hne
    have hTl : ∀ b, b ≤ pre.length → (T b).length = t0.length := by
      intro b hb
      exact (hslots b hb).1
    have hLate : ∀ z, z ∈ U → Late pre (T pre.length) z := by
      intro z hzU
      obtain ⟨hpl, hl0⟩ := (hmem z).1 hzU
      obtain ⟨d, s, op, hz0, hop, hsd, hod, hos⟩ := hz z hpl hl0
      have hp0 : pre[z] = ⟨some d, op, none⟩ := (List.getElem?_eq_some_iff.1 hz0).2
      obtain ⟨hrec0, hT1, _, _⟩ := hstep z hpl
      rw [hp0] at hrec0 hT1
      obtain ⟨hpvz, hWz⟩ := rec_plain hop hrec0
      refine ⟨d, s, op, G z, hz0, hop, hsd, ?_, fun hd => ?_⟩
      · rw [keepT z pre.length s (by omega) (Nat.le_refl _) (fun i h1 h3 e => by have := (hos i h3 (by omega) e).1; omega), hT1]
        show pv op (gat ((T z).set d (G z)) s) = some (G z)
        rw [gat_set_ne _ _ (Ne.symm hsd)]; exact hpvz
      · rw [keepT z pre.length d (by omega) (Nat.le_refl _) (fun i h1 h3 => hod i h3 (by omega)), hT1]
        have hd' : d < (T z).length := by rw [hTl z (by omega)]; rw [hTl _ (Nat.le_refl _)] at hd; exact hd
        exact gat_set_eq _ _ hd'
    have hWU : ∀ z, z ∈ U → W z = none := by
      intro z hzU
      obtain ⟨hpl, hl0⟩ := (hmem z).1 hzU
      obtain ⟨d, s, op, hz0, hop, hsd, hod, hos⟩ := hz z hpl hl0
      have hp0 : pre[z] = ⟨some d, op, none⟩ := (List.getElem?_eq_some_iff.1 hz0).2
      obtain ⟨hrec0, _, _, _⟩ := hstep z hpl
      rw [hp0] at hrec0
      exact (rec_plain hop hrec0).2
    have hlisted : ∀ i, i < pre.length → i ∉ U → listed.getD i false = true := fun i hi hn => by
      cases h : listed.getD i false with
      | true => rfl
      | false => exact absurd ((hmem i).2 ⟨hi, h⟩) hn
    have hHeq : K.H = Hs pre.length := by
      obtain ⟨c1, c2, c3⟩ := hheaps pre.length (Nat.le_refl _)
      funext b
      rcases Nat.lt_or_ge b K0.lo with hb | hb
      · rw [I.old b hb, c1 b hb]
      · by_cases hex : ∃ i, i < pre.length ∧ W i ≠ none ∧ NM i = b
        · obtain ⟨i, hi, hw, rfl⟩ := hex
          have hi0 : i ∉ U := fun e => hw (hWU i e)
          obtain ⟨cs, hcs⟩ := Option.ne_none_iff_exists'.1 hw
          rw [I.news i cs hi (hlisted i hi hi0) hcs, c2 i cs hi hcs]
        · rw [I.non b hb fun i hi _ hw e => hex ⟨i, hi, hw, e⟩, c3 b hb fun i hi hw e => hex ⟨i, hi, hw, e⟩]
    have hTR : TR K (mk (T pre.length) (slotsU pre U)) a.tmps := by
      obtain ⟨l, h⟩ := hslots pre.length (Nat.le_refl _)
      refine ⟨by rw [mk_len, l, I.size], fun j => ?_⟩
      rw [gat_mk]
      cases hjU : slotsU pre U j with
      | true => exact .undef _
      | false =>
        have hjU := slotsU_false.1 hjU
        show VR K (gat (T pre.length) j) _
        rcases Nat.lt_or_ge j t0.length with hj | hj
        · rcases h j hj with ⟨i, c1, c2, c3, c4⟩ | ⟨c1, c2⟩
          · have hi0 : i ∉ U := fun e => hjU i e c2
            rcases I.slots j hj with ⟨i', d1, d2, d3, d4, d5⟩ | ⟨d1, d2⟩
            · have : i = i' := by
                rcases Nat.lt_trichotomy i i' with h | h | h
                · exact absurd d3 (c3 i' h d1)
                · exact h
                · exact absurd c2 (d4 i c1 h (hlisted i c1 hi0))
              subst this; rw [c4]; exact d5
            · exact absurd c2 (d1 i c1 (hlisted i c1 hi0))
          · rcases I.slots j hj with ⟨i', d1, d2, d3, d4, d5⟩ | ⟨d1, d2⟩
            · exact absurd d3 (c1 i' d1)
            · rw [c2]; exact d2
        · rw [gat_big (by rw [l]; exact hj)]; exact .undef _
    have hlo : K.lo ≤ NM pre.length := by rw [I.lo]; exact hge _ (Nat.le_refl _)
    have hFr : Fr K.H (NM pre.length) := by
      intro b hb
      rw [hHeq]
      refine (hheaps pre.length (Nat.le_refl _)).2.2 b (by have := hge pre.length (Nat.le_refl _); omega) fun i hi hw e => ?_
      have := (hnames i pre.length (by omega) (Nat.le_refl _)).2 hi hw
      omega
    have hfuel : tail.length - 0 + U.length ≤ fuel := by
      have key : ∀ n, n ≤ tail.length → left (fun i => listed.getD i false) (pre.length + n) = U.length + n := by
        intro n
        induction n with
        | zero => intro _; rw [Nat.add_zero, left_filter]; rfl
        | succ n ihn =>
          intro hn
          rw [← Nat.add_assoc]
          simp only [left]
          rw [ihn (by omega)]; simp [h2 (pre.length + n) (by omega) (by omega)]; omega
      have := key tail.length (Nat.le_refl _)
      rw [← hsz] at this
      omega
    refine draw_tailU D hQ fuel 0 listed { K with lo := NM pre.length } (T pre.length) a U (Nat.zero_le _) hfuel hls hnd hLate (fun z z' h1 h3 hne e => ?_) (fun z s op d h1 h3 h4 => ?_) (fun i hi => ?_) I.closed (by rw [List.drop_zero]; show gops P tail k _ K.H (NM pre.length); rw [hHeq]; exact hk) (I.step.trans (lo_step K hlo)) (lo_sat I.sat hlo) hFr (hTR.mono (lo_step K hlo)) I.defers
    · obtain ⟨p1, p2⟩ := (hmem z).1 h1
      obtain ⟨p3, p4⟩ := (hmem z').1 h3
      obtain ⟨d, s, op, e1, _, _, e4, _⟩ := hz z p1 p2
      exact e4 z' p3 (Ne.symm hne) (by rw [← e, late_dst e1])
    · obtain ⟨p1, p2⟩ := (hmem z).1 h1
      obtain ⟨d', s', op', e1, e2, e3, e4, e5⟩ := hz z p1 p2
      rw [h3] at e1; injection e1 with e1; injection e1 with e1 e1'; injection e1 with e1; subst e1 e1'
      rw [h4] at e2; injection e2 with e2; subst e2
      refine slotsU_false.2 fun z' hz' e => ?_
      obtain ⟨p3, p4⟩ := (hmem z').1 hz'
      by_cases hzz : z' = z
      · subst hzz; rw [late_dst h3] at e; injection e with e; exact e3 e.symm
      · have := (e5 z' p3 hzz e).2
        rw [p4] at this; cases this
    · by_cases hip : i < pre.length
      · by_cases hiU : i ∈ U
        · rw [((hmem i).1 hiU).2]; simp [hiU]
        · rw [hlisted i hip hiU]; simp [hiU, hip]
      · rw [h2 i (by omega) hi]; simp [hip]
  intro fuel
  induction fuel with
  | zero =>
    intro listed a K hf hls h2 I
    have hall := left_zero (Nat.le_zero.1 hf)
    have ht : tail.length = 0 := by
      rcases Nat.eq_zero_or_pos tail.length with h | h
      · exact h
      · have h1 := hall pre.length (by omega)
        have h1 : listed.getD pre.length false = true := h1
        rw [h2 pre.length (Nat.le_refl _) (by omega)] at h1; cases h1
    exact fin 0 listed a K (by omega) hls h2 (fun i hi => hall i (by omega)) I
  | succ fuel ih =>
    intro listed a K hf hls h2 I
    by_cases hdone : ∀ i, i < pre.length → listed.getD i false = true
    · refine fin (fuel + 1) listed a K ?_ hls h2 hdone I
      -- what is left is the tail
      have key : ∀ n, n ≤ tail.length → left (fun i => listed.getD i false) (pre.length + n) = n := by
        intro n
        induction n with
        | zero =>
          intro _
          have : ∀ q, q ≤ pre.length → left (fun i => listed.getD i false) q = 0 := by
            intro q
            induction q with
            | zero => intro _; rfl
            | succ q ihq => intro hq; simp only [left]; rw [ihq (by omega)]; simp [hdone q (by omega)]
          exact this _ (Nat.le_refl _)
        | succ n ihn =>
          intro hn
          rw [← Nat.add_assoc]
          simp only [left]
          rw [ihn (by omega)]; simp [h2 (pre.length + n) (by omega) (by omega)]
      have := key tail.length (Nat.le_refl _)
      rw [← hsz] at this
      omega
    · have hclosed : ∀ i o', ops[i]? = some o' → listed.getD i false = true → ∀ e ∈ o'.after, Region.binds .any e = true → listed.getD e.on false = true := I.closed
      by_cases hz : ∀ z, z < pre.length → listed.getD z false = false → ∃ d s op, pre[z]? = some ⟨some d, op, none⟩ ∧ srcT op = some s ∧ s ≠ d ∧ (∀ i, i < pre.length → i ≠ z → pdst pre i ≠ some d) ∧ ∀ i, i < pre.length → i ≠ z → pdst pre i = some s → i < z ∧ listed.getD i false = true
      · exact finU (fuel + 1) listed a K hf hls h2 hz I
      -- some operation is ready
      have hne : Region.ready .any ops listed ≠ [] := by
        have hmin : ∃ i, i < ops.size ∧ listed.getD i false = false ∧ ∀ j, j < i → listed.getD j false = true := by
          have hex : ∃ i, i < pre.length ∧ listed.getD i false = false := by
            by_cases h : ∃ i, i < pre.length ∧ listed.getD i false = false
            · exact h
            · exfalso; apply hdone; intro i hi
              cases hl : listed.getD i false with
              | true => rfl
              | false => exact absurd ⟨i, hi, hl⟩ h
          have : ∀ n i, i ≤ n → i < ops.size → listed.getD i false = false → ∃ i, i < ops.size ∧ listed.getD i false = false ∧ ∀ j, j < i → listed.getD j false = true := by
            intro n
            induction n with
            | zero => intro i h1 h2 h3; exact ⟨i, h2, h3, fun j hj => by omega⟩
            | succ n ihn =>
              intro i h1 h2 h3
              by_cases h : ∃ j, j < i ∧ listed.getD j false = false
              · obtain ⟨j, hj, hl⟩ := h; exact ihn j (by omega) (by omega) hl
              · refine ⟨i, h2, h3, fun j hj => ?_⟩
                cases hl : listed.getD j false with
                | true => rfl
                | false => exact absurd ⟨j, hj, hl⟩ h
          obtain ⟨i, hi, hl⟩ := hex
          exact this i i (Nat.le_refl _) (by omega) hl
        obtain ⟨i, hi, hl, hall⟩ := hmin
        have hmem : i ∈ Region.ready .any ops listed := by
          rw [mem_ready]
          refine ⟨by rw [getT listed i hls hi]; exact hl, ops[i], by simp [hi], fun e he hb => ?_⟩
          have := D.mask i hi
          unfold okMask at this
          rw [Array.getElem?_eq_getElem hi] at this
          simp only [Bool.and_eq_true, List.all_eq_true] at this
          have := this.1 e (by simpa using he)
          rw [hb] at this
          simp at this
          exact hall _ this
        intro hnil; rw [hnil] at hmem; cases hmem
      refine ⟨fun h => absurd h hne, fun i hi => ?_⟩
      rw [mem_ready] at hi
      obtain ⟨h0, o, ho, hpred⟩ := hi
      have his : i < ops.size := (Array.getElem?_eq_some_iff.1 ho).1
      rw [getT listed i hls his] at h0
      have hclo := mask_closed D.mask D.low (L := fun i => listed.getD i false) (hLsz listed hls) hclosed i i (Nat.le_refl _) his (fun o2 ho2 e he hb => by rw [ho] at ho2; cases ho2; exact hpred e he hb)
      -- it is one of the open ones
      have hip : i < pre.length := by
        rcases Nat.lt_or_ge i pre.length with h | h
        · exact h
        · exfalso
          refine hz fun z hzp hlz => ?_
          rcases D.late i h his z (by omega) with hb | ⟨g', _, d, s, op, f0, f1, f2, f3, f4, f5, f6, f7⟩
          · have := (hclo z hb).2
            have this : listed.getD z false = true := this
            rw [hlz] at this; cases this
          · exact ⟨d, s, op, f0, f1, f2, f6, fun q hq hqz e => ⟨(f7 q hq hqz e).1, (hclo q ((f7 q hq hqz e).2 i h his)).2⟩⟩
      obtain ⟨o', ho', hok⟩ := D.hpre i hip
      rw [ho] at ho'; cases ho'
      obtain ⟨hrec, _, _, _⟩ := hstep i hip
      have hd := okOper_dst hok
      have hop := okOper_op hok
      have hw := wanted_of hok a.tmps
      -- a writer of a slot that is looked at, or written, here
      have hcmp : ∀ q, q < pre.length → q ≠ i → ∀ d, pdst pre q = some d → (d ∈ lookT pre[i] ∨ pre[i].dst = some d) → (listed.getD q false = true → q < i) ∧ (q < i → listed.getD q false = true) := by
        intro q hq hqi d hdq hor
        rw [pdst_at hq] at hdq
        have := D.pair i q hip hq (Ne.symm hqi) d hdq hor
        simp only [comp, Bool.or_eq_true] at this
        rcases this with h | h
        · obtain ⟨c1, c2⟩ := hclo q h
          exact ⟨fun _ => c1, fun _ => c2⟩
        · -- i comes before q
          constructor
          · intro hl
            exfalso
            have hqs : q < ops.size := by omega
            have := (mask_closed D.mask D.low (L := fun i => listed.getD i false) (hLsz listed hls) hclosed q q (Nat.le_refl _) hqs (fun o2 ho2 e he hb => hclosed q o2 ho2 hl e he hb) i h).2
            have this : listed.getD i false = true := this
            rw [h0] at this; cases this
          · intro hlt
            exfalso
            -- i < q by the mask
            have := D.mask q (by omega)
            unfold okMask at this
            split at this
            · cases this
            · simp only [Bool.and_eq_true, List.all_eq_true, List.mem_range] at this
              have := this.2 i his
              rw [h] at this
              simp only [Bool.not_true, Bool.false_or, Bool.and_eq_true, decide_eq_true_eq] at this
              omega
      -- the slots it looks at are as in the text's order
      have hlook : ∀ j, j ∈ lookT pre[i] → VR K (gat (T i) j) (vat a.tmps j) := by
        intro j hj
        obtain ⟨l, h⟩ := hslots i (by omega)
        rcases Nat.lt_or_ge j t0.length with hjl | hjl
        · rcases h j hjl with ⟨q, c1, c2, c3, c4⟩ | ⟨c1, c2⟩
          · rcases I.slots j hjl with ⟨q', d1, d2, d3, d4, d5⟩ | ⟨d1, d2⟩
            · have hq'i : q' ≠ i := fun e => by rw [e] at d2; have d2 : listed.getD i false = true := d2; rw [h0] at d2; cases d2
              have hlt := (hcmp q' d1 hq'i j d3 (.inl hj)).1 d2
              have : q = q' := by
                rcases Nat.lt_trichotomy q q' with h | h | h
                · exact absurd d3 (c3 q' h hlt)
                · exact h
                · exact absurd c2 (d4 q (by omega) h ((hcmp q (by omega) (by omega) j c2 (.inl hj)).2 c1))
              subst this; rw [c4]; exact d5
            · exact absurd c2 (d1 q (by omega) ((hcmp q (by omega) (by omega) j c2 (.inl hj)).2 c1))
          · rcases I.slots j hjl with ⟨q', d1, d2, d3, d4, d5⟩ | ⟨d1, d2⟩
            · have hq'i : q' ≠ i := fun e => by rw [e] at d2; have d2 : listed.getD i false = true := d2; rw [h0] at d2; cases d2
              exact absurd d3 (c1 q' ((hcmp q' d1 hq'i j d3 (.inl hj)).1 d2))
            · rw [c2]; exact d2
        · have : gat (T i) j = .undef := by simp [gat, List.getD_eq_getElem?_getD, l, Nat.not_lt.2 hjl]
          rw [this]; exact .undef _
      -- what follows it
      have after : ∀ (v : Value) (K' : Kr), K'.H = updo K.H (NM i) (W i) → K'.lo = K0.lo → KStep K K' → Sat K' → VR K' (G i) v → wpAny P .any ops Q fuel (listed.setIfInBounds i true) (a.put o.dst v) K'.w := by
        intro v K' e1 e2 e3 e4 e5
        have hLi : ∀ j, j ≠ i → (listed.setIfInBounds i true).getD j false = listed.getD j false := fun j hj => getD_set_ne false (Ne.symm hj)
        have hLs : (listed.setIfInBounds i true).getD i false = true := by
          have : i < listed.size := by omega
          simp [Array.getD, this]
        have hNMne : ∀ q, q < pre.length → listed.getD q false = true → W q ≠ none → W i ≠ none → NM q ≠ NM i := by
          intro q hq hl hwq hwi e
          have hqi : q ≠ i := fun e => by rw [e] at hl; rw [h0] at hl; cases hl
          rcases Nat.lt_or_ge q i with h | h
          · have := (hnames q i (by omega) (by omega)).2 h hwq; omega
          · have := (hnames i q (by omega) (by omega)).2 (by omega) hwi; omega
        refine ih _ _ K' ?_ (by simpa using hls) (fun j hj1 hj2 => by rw [hLi j (by omega)]; exact h2 j hj1 hj2) ?_
        · have := left_set (L := fun i => listed.getD i false) (L' := fun j => (listed.setIfInBounds i true).getD j false) (i := i) h0 hLs hLi ops.size
          rw [if_pos his] at this
          omega
        · refine ⟨e4, e2, I.step.trans e3, fun b hb => ?_, fun q cs hq hl hwq => ?_, fun b hb hall => ?_, ?_, fun j hj => ?_, ?_, fun q oq hoq hl e he hb => ?_⟩
          · rw [e1]
            cases hwi : W i with
            | none => exact I.old b hb
            | some cs => show upd K.H (NM i) _ b = _; rw [upd_ne _ _ (by have := hge i (by omega); omega)]; exact I.old b hb
          · rw [e1]
            by_cases hqi : q = i
            · subst hqi; rw [hwq]; exact upd_same _ _ _
            · have hl : listed.getD q false = true := by have hl : (listed.setIfInBounds i true).getD q false = true := hl; rwa [hLi q hqi] at hl
              cases hwi : W i with
              | none => exact I.news q cs hq hl hwq
              | some cs' => show upd K.H (NM i) _ _ = _; rw [upd_ne _ _ (hNMne q hq hl (by rw [hwq]; simp) (by rw [hwi]; simp))]; exact I.news q cs hq hl hwq
          · rw [e1]
            have hold : K.H b = none := I.non b hb fun q hq hl hwq => hall q hq (by
              show (listed.setIfInBounds i true).getD q false = true
              by_cases hqi : q = i
              · subst hqi; exact hLs
              · rw [hLi q hqi]; exact hl) hwq
            cases hwi : W i with
            | none => exact hold
            | some cs' =>
              have := hall i hip hLs (by rw [hwi]; simp)
              show upd K.H (NM i) _ b = _
              rw [upd_ne _ _ (Ne.symm this)]; exact hold
          · rw [put_size]; exact I.size
          · rw [hd, put_vat _ _ _ _ (by rw [I.size]; exact hj)]
            by_cases hdj : pre[i].dst = some j
            · rw [if_pos hdj]
              refine .inl ⟨i, hip, hLs, by rw [pdst_at hip]; exact hdj, fun q hq hiq hl hqd => ?_, e5⟩
              have hqi : q ≠ i := by omega
              have hl : listed.getD q false = true := by have hl : (listed.setIfInBounds i true).getD q false = true := hl; rwa [hLi q hqi] at hl
              have := (hcmp q hq hqi j hqd (.inr hdj)).1 hl
              omega
            · rw [if_neg hdj]
              rcases I.slots j hj with ⟨q, c1, c2, c3, c4, c5⟩ | ⟨c1, c2⟩
              · have hqi : q ≠ i := fun e => by rw [e] at c2; have c2 : listed.getD i false = true := c2; rw [h0] at c2; cases c2
                refine .inl ⟨q, c1, by show (listed.setIfInBounds i true).getD q false = true; rw [hLi q hqi]; exact c2, c3, fun r hr hqr hl => ?_, c5.mono e3⟩
                by_cases hri : r = i
                · subst hri; rw [pdst_at hip]; exact hdj
                · exact c4 r hr hqr (by have hl : (listed.setIfInBounds i true).getD r false = true := hl; rwa [hLi r hri] at hl)
              · refine .inr ⟨fun r hr hl => ?_, c2.mono e3⟩
                by_cases hri : r = i
                · subst hri; rw [pdst_at hip]; exact hdj
                · exact c1 r hr (by have hl : (listed.setIfInBounds i true).getD r false = true := hl; rwa [hLi r hri] at hl)
          · rw [put_defers']; exact I.defers
          · show (listed.setIfInBounds i true).getD e.on false = true
            by_cases hqi : q = i
            · subst hqi
              rw [ho] at hoq; cases hoq
              exact getD_set_true (hpred e he hb)
            · have hl : listed.getD q false = true := by have hl : (listed.setIfInBounds i true).getD q false = true := hl; rwa [hLi q hqi] at hl
              exact getD_set_true (hclosed q oq hoq hl e he hb)
      -- the slots it looks at, and no others
      let tm : List GV := (List.range t0.length).map fun j => if j ∈ lookT pre[i] then gat (T i) j else .undef
      have htm : ∀ j, j ∈ lookT pre[i] → gat (T i) j = gat tm j := by
        intro j hj
        rcases Nat.lt_or_ge j t0.length with hjl | hjl
        · simp [tm, gat, List.getD_eq_getElem?_getD, hjl, hj]
        · have hl := (hslots i (by omega)).1
          simp [tm, gat, List.getD_eq_getElem?_getD, hl, Nat.not_lt.2 hjl]
      have hTRm : TR K tm a.tmps := by
        refine ⟨by simp [tm, I.size], fun j => ?_⟩
        by_cases hj : j ∈ lookT pre[i]
        · rw [← htm j hj]; exact hlook j hj
        · have : gat tm j = .undef := by
            rcases Nat.lt_or_ge j t0.length with hjl | hjl
            · simp [tm, gat, List.getD_eq_getElem?_getD, hjl, hj]
            · simp [tm, gat, List.getD_eq_getElem?_getD, Nat.not_lt.2 hjl]
          rw [this]; exact .undef _
      have run : gmop P K0.H K0.lo (T i) (NM i) (fun g' w' => g' = G i ∧ w' = W i) pre[i].op → o.wp P a K.w (wpAny P .any ops Q fuel (listed.setIfInBounds i true)) Q := by
        intro hg
        have hg := gmop_congr (t' := tm) (fun j hj => htm j (by simp [lookT, hj])) hg
        have hFrM : Fr K.H (NM pre.length) := by
          intro b hb
          refine I.non b (by have := hge pre.length (Nat.le_refl _); omega) fun q hq hl hwq e => ?_
          have := (hnames q pre.length (by omega) (Nat.le_refl _)).2 hq hwq
          omega
        refine gmop_sound hop I.sat I.lo I.old (hge pre.length (Nat.le_refl _)) hFrM hTRm (fun g cs hgc => ?_) (hge i (by omega)) hg fun g new v K' q1 q2 q3 q4 q5 q6 => ?_
        · refine I.non _ (hge i (by omega)) fun q hq hl hwq e => ?_
          have hqi : q ≠ i := fun e => by rw [e] at hl; have hl : listed.getD i false = true := hl; rw [h0] at hl; cases hl
          rcases Nat.lt_or_ge q i with h | h
          · have := (hnames q i (by omega) (by omega)).2 h hwq; omega
          · have := (hnames i q (by omega) (by omega)).2 (by omega) (by rw [← hgc.2]; simp); omega
        · obtain ⟨rfl, rfl⟩ := q1
          exact after v K' q2 q3 q4 q5 q6
      unfold wpOp
      rw [ho]
      simp only
      unfold RecOK at hrec
      split at hrec
      · rename_i hg
        rw [hg] at hw; simp only at hw
        rw [if_pos hw]
        exact .inl (run hrec)
      · rename_i j want hg
        rw [hg] at hw; simp only at hw
        obtain ⟨b, hb, h1, h3⟩ := hrec
        have hv := hlook j (by simp [lookT, hg])
        rw [hb] at hv
        have hw := hw b hv.bool_inv
        by_cases hbw : b = want
        · rw [if_pos (by rw [hw, hbw]; simp)]
          exact .inl (run (h1 hbw))
        · rw [if_neg (by rw [hw]; simpa using hbw)]
          obtain ⟨r1, r2⟩ := h3 hbw
          have := after Go.undef K (by rw [r2]; rfl) I.lo (KStep.refl K) I.sat (by rw [r1]; exact .undef _)
          exact this
end
end Go.Proofs.Ytdpibcniodhinaa.Gh
/- The ghost code's weakest precondition is the code's, and what a function's ghost body says is the function's contract. -/
namespace Go.Proofs.Ytdpibcniodhinaa.Gh
open Go Go.RowKit
set_option linter.unusedVariables false
set_option linter.unusedSimpArgs false

theorem getD_rep (n i : Nat) : (Array.replicate n false).getD i false = false := by
  by_cases h : i < n
  · simp [Array.getD, h]
  · simp [Array.getD, h]
theorem left_le (L : Nat → Bool) : ∀ n, left L n ≤ n := by
  intro n
  induction n with
  | zero => exact Nat.le_refl _
  | succ n ih => simp only [left]; split <;> omega

theorem drew_inv {pre : List GOper} {ops : Array Oper} {t0 : List GV} {G : Nat → GV} {W : Nat → Option (List GV)} {NM : Nat → Nat} {K0 : Kr} {a0 : Act} {K : Kr} (hs : Sat K) (e1 : K.lo = K0.lo) (e2 : K.H = K0.H) (e3 : KStep K0 K) (hF : Fr K0.H K0.lo) (ht : TR K t0 a0.tmps) :
    Inv pre ops t0 G W NM K0 a0 (fun i => (Array.replicate ops.size false).getD i false) a0 K where
  sat := hs
  lo := e1
  step := e3
  old b _ := by rw [e2]
  news i cs _ hl _ := by simp only [getD_rep] at hl; cases hl
  non b hb _ := by rw [e2]; exact hF b hb
  size := ht.1.symm
  slots j hj := .inr ⟨fun i _ hl => (by simp only [getD_rep] at hl; cases hl), ht.2 j⟩
  defers := rfl
  closed i o _ hl := by simp only [getD_rep] at hl; cases hl

section
variable {P : Program} {Q : Exit → Act → World → Prop}
theorem draw_sound (hm : P.follows .mixedOrders = true) {id : Nat} {ops : Array Oper} {ms : List Nat} {pre tail : List GOper} (hok : okDraw P ops ms pre tail = true) {K : Kr} {t : List GV} {a : Act} (hs : Sat K) (hF : Fr K.H K.lo) (ht : TR K t a.tmps) {k : List GV → Heap → Nat → Prop}
    (hk : gmops P K.H K.lo pre (fun t' H' n' => gops P tail k t' H' n') t K.H K.lo)
    (hQ : ∀ t' K' a', k t' K'.H K'.lo → KStep K K' → Fr K'.H K'.lo → Sat K' → TR K' t' a'.tmps → a'.defers = a.defers → Q .normal a' K'.w) : (Code.region id ops true).wp P Q a K.w := by
  have D := Drawn.of hok
  obtain ⟨T, G, W, NM, Hs, h1, h2, h3, h4, h5⟩ := gmops_chain pre t K.H K.lo hk
  refine wp_region_any hm ?_
  exact draw_pre D (K0 := K) (a0 := a) (t0 := t) hs hF ht h1 h2 h3 h4 h5 (fun t' K' a' q1 q2 q3 q4 q5 q6 => hQ t' K' a' q1 q2 q3 q4 q6 q5) ops.size (Array.replicate ops.size false) a { K with w := { K.w with drawn := K.w.drawn + 1 } }
    (left_le _ _) (by simp) (fun i _ _ => getD_rep _ _)
    (drew_inv (drew_sat hs _) rfl rfl (drew_step K _) hF (ht.mono (drew_step K _)))

def okCode (P : Program) : Code → GCode → Bool
  | .skip, .skip => true
  | .region _ ops false, .region gl => okOpers P ops (List.range ops.size) gl
  | .region _ ops true, .draw ms pre tail => okDraw P ops ms pre tail
  | .seq x y, .seq a b => okCode P x a && okCode P y b
  | .cond c x y, .cond g a b => okX c g && okCode P x a && okCode P y b
  | .block id x, .block id' a => id == id' && okCode P x a
  | .loop x, .loop a => okCode P x a
  | .exit id, .exit id' => id == id'
  | .ret, .ret => true
  | _, _ => false
def up : GExit → Exit
  | .normal => .normal
  | .exit id => .exit id
  | .ret => .ret

theorem gw_sound (hm : P.follows .mixedOrders = true) : ∀ (g : GCode) (c : Code) (Q : Exit → Act → World → Prop) (G : GPost) (K : Kr) (t : List GV) (a : Act), okCode P c g = true → Sat K → Fr K.H K.lo → TR K t a.tmps → gw P g G t K.H K.lo →
    (∀ e t' K' a', G e t' K'.H K'.lo → KStep K K' → Fr K'.H K'.lo → Sat K' → TR K' t' a'.tmps → a'.defers = a.defers → Q (up e) a' K'.w) → c.wp P Q a K.w := by
  intro g
  induction g with
  | skip =>
    intro c Q G K t a hok hs hF ht hg hQ
    cases c <;> simp only [okCode, Bool.false_eq_true] at hok
    exact wp_skip (hQ .normal t K a hg (KStep.refl K) hF hs ht rfl)
  | region gl =>
    intro c Q G K t a hok hs hF ht hg hQ
    cases c <;> try simp only [okCode, Bool.false_eq_true] at hok
    rename_i id ops b
    cases b with
    | true => simp only [okCode, Bool.false_eq_true] at hok
    | false =>
      simp only [okCode] at hok
      exact wp_region (gops_sound gl _ K t a hok hs hF ht hg fun t' K' a' q1 q2 q3 q4 q5 q6 => hQ .normal t' K' a' q1 q2 q3 q4 q5 q6)
  | draw ms pre tail =>
    intro c Q G K t a hok hs hF ht hg hQ
    cases c <;> try simp only [okCode, Bool.false_eq_true] at hok
    rename_i id ops b
    cases b with
    | false => simp only [okCode, Bool.false_eq_true] at hok
    | true =>
      simp only [okCode] at hok
      exact draw_sound hm hok hs hF ht hg fun t' K' a' q1 q2 q3 q4 q5 q6 => hQ .normal t' K' a' q1 q2 q3 q4 q5 q6
  | seq x y ihx ihy =>
    intro c Q G K t a hok hs hF ht hg hQ
    cases c <;> simp only [okCode, Bool.false_eq_true, Bool.and_eq_true] at hok
    refine wp_seq (ihx _ _ _ K t a hok.1 hs hF ht hg fun e t' K' a' q1 q2 q3 q4 q5 q6 => ?_)
    cases e with
    | normal => exact ihy _ _ _ K' t' a' hok.2 q4 q3 q5 q1 fun e2 t2 K2 a2 r1 r2 r3 r4 r5 r6 => hQ e2 t2 K2 a2 r1 (q2.trans r2) r3 r4 r5 (r6.trans q6)
    | exit id => exact hQ (.exit id) t' K' a' q1 q2 q3 q4 q5 q6
    | ret => exact hQ .ret t' K' a' q1 q2 q3 q4 q5 q6
  | cond x y z ihy ihz =>
    intro c Q G K t a hok hs hF ht hg hQ
    cases c <;> simp only [okCode, Bool.false_eq_true, Bool.and_eq_true] at hok
    simp only [gw] at hg
    split at hg
    · rename_i v hv
      have hb := okX_VR ht hok.1.1
      rw [hv] at hb
      refine wp_cond hb.bool_inv ?_
      cases v with
      | true => exact ihy _ _ _ K t a hok.1.2 hs hF ht hg hQ
      | false => exact ihz _ _ _ K t a hok.2 hs hF ht hg hQ
    · exact hg.elim
  | block id x ih =>
    intro c Q G K t a hok hs hF ht hg hQ
    cases c <;> simp only [okCode, Bool.false_eq_true, Bool.and_eq_true, beq_iff_eq] at hok
    obtain ⟨rfl, hok⟩ := hok
    refine wp_block (ih _ _ _ K t a hok hs hF ht hg fun e t' K' a' q1 q2 q3 q4 q5 q6 => ?_)
    cases e with
    | normal => exact hQ .normal t' K' a' q1 q2 q3 q4 q5 q6
    | exit id' =>
      simp only [up, Exit.inBlock]
      split
      · rename_i h
        simp only [if_pos h] at q1
        exact hQ .normal t' K' a' q1 q2 q3 q4 q5 q6
      · rename_i h
        simp only [if_neg h] at q1
        exact hQ (.exit id') t' K' a' q1 q2 q3 q4 q5 q6
    | ret => exact hQ .ret t' K' a' q1 q2 q3 q4 q5 q6
  | loop x ih =>
    intro c Q G K t a hok hs hF ht hg hQ
    cases c <;> simp only [okCode, Bool.false_eq_true] at hok
    rename_i x'
    obtain ⟨k, hg⟩ := hg
    refine wp_loop_rounds k ?_
    induction k generalizing K t a with
    | zero => exact hg.elim
    | succ k ihk =>
      rw [rounds_succ]
      refine ih _ _ _ K t a hok hs hF ht hg fun e t' K' a' q1 q2 q3 q4 q5 q6 => ?_
      cases e with
      | normal => exact ihk K' t' a' q4 q3 q5 (fun e2 t2 K2 a2 r1 r2 r3 r4 r5 r6 => hQ e2 t2 K2 a2 r1 (q2.trans r2) r3 r4 r5 (r6.trans q6)) q1
      | exit id => exact hQ (.exit id) t' K' a' q1 q2 q3 q4 q5 q6
      | ret => exact hQ .ret t' K' a' q1 q2 q3 q4 q5 q6
  | exit id =>
    intro c Q G K t a hok hs hF ht hg hQ
    cases c <;> simp only [okCode, Bool.false_eq_true, beq_iff_eq] at hok
    subst hok
    exact wp_exit (hQ (.exit _) t K a hg (KStep.refl K) hF hs ht rfl)
  | ret =>
    intro c Q G K t a hok hs hF ht hg hQ
    cases c <;> simp only [okCode, Bool.false_eq_true] at hok
    exact wp_ret (hQ .ret t K a hg (KStep.refl K) hF hs ht rfl)

/-- where a result lies -/
inductive GRes where
  | t (i : Nat)
  | cell (i : Nat) (m : Option Nat)
def okRes (P : Program) : List ResultVar → List GRes → Bool
  | [], [] => true
  | .tmp t :: rs, .t i :: gs => t == i && okRes P rs gs
  | .cell a T :: rs, .cell i m :: gs => a == i && shapeOf P T == some m && !(m == some 0) && okRes P rs gs
  | _, _ => false
def gread1 (H : Heap) (m : Option Nat) (g : GV) : Option GV := match g with
  | .ptr b o => (match H b with
    | some cs => (match m with
      | none => if o < cs.length then some (gat cs o) else none
      | some m => if o + m ≤ cs.length then some (.agg ((cs.drop o).take m)) else none)
    | none => none)
  | _ => none
def gres (t : List GV) (H : Heap) : GRes → Option GV
  | .t i => some (gat t i)
  | .cell i m => gread1 H m (gat t i)
def gress (t : List GV) (H : Heap) : List GRes → Option (List GV)
  | [] => some []
  | r :: rs => match gres t H r, gress t H rs with
    | some g, some gs => some (g :: gs)
    | _, _ => none
def gretv (t : List GV) (H : Heap) (rs : List GRes) : Option GV := match gress t H rs with
  | some [g] => some g
  | some gs => some (.tup gs)
  | none => none

def getRes (tmps : Array Value) : ResultVar → Sem Value := fun r => match r with
  | .tmp t => pure (tmps.getD t undef)
  | .cell a t => do loadVar t (← asAddr (tmps.getD a undef))

theorem run_res {K : Kr} {t : List GV} {a : Act} (hs : Sat K) (ht : TR K t a.tmps) : ∀ (rs : List ResultVar) (gr : List GRes) (gs : List GV), okRes P rs gr = true → gress t K.H gr = some gs →
    ∃ vs : List Value, (rs.mapM (getRes a.tmps)).run P K.w = .ok vs K.w ∧ vs.length = gs.length ∧ ∀ j, j < gs.length → VR K (gat gs j) (vs.getD j Go.undef) := by
  intro rs
  induction rs with
  | nil =>
    intro gr gs hok hg
    cases gr with
    | nil => simp only [gress, Option.some.injEq] at hg; subst hg; exact ⟨[], by simp, rfl, fun j hj => by simp at hj⟩
    | cons _ _ => simp [okRes] at hok
  | cons r rs ih =>
    intro gr gs hok hg
    cases gr with
    | nil => cases r <;> simp [okRes] at hok
    | cons g0 gr =>
      have one : ∀ g, gres t K.H g0 = some g → okRes P rs gr = true ∧ ∃ v, (getRes a.tmps r).run P K.w = .ok v K.w ∧ VR K g v := by
        intro g hg1
        cases r with
        | tmp i =>
          cases g0 with
          | cell _ _ => simp [okRes] at hok
          | t i' =>
            simp only [okRes, Bool.and_eq_true, beq_iff_eq] at hok
            obtain ⟨rfl, hok⟩ := hok
            simp only [gres, Option.some.injEq] at hg1; subst hg1
            exact ⟨hok, _, by simp [getRes], ht.2 i⟩
        | cell ad T =>
          cases g0 with
          | t _ => simp [okRes] at hok
          | cell i' m =>
            simp only [okRes, Bool.and_eq_true, beq_iff_eq, Bool.not_eq_true', beq_eq_false_iff_ne] at hok
            obtain ⟨⟨⟨rfl, hT⟩, hm⟩, hok⟩ := hok
            refine ⟨hok, ?_⟩
            simp only [gres, gread1] at hg1
            split at hg1
            · rename_i b o he
              split at hg1
              · rename_i cs hb
                have hv := ht.2 ad
                rw [he] at hv
                have hr : gread K.H (.ptr b o) = some (cs, o) := gread_ptr hb
                cases m with
                | none =>
                  simp only at hg1
                  split at hg1
                  · rename_i hlt
                    simp only [Option.some.injEq] at hg1; subst hg1
                    obtain ⟨B, q, hv, us, h1, h2⟩ := gread_VR hs (fun _ _ h => h) hv hr 1 (by omega) (by omega)
                    have h1 := h1 0 (by omega)
                    have h2 := h2 0 (by omega)
                    simp only [Nat.add_zero] at h1 h2
                    have hv' : a.tmps.getD ad undef = _ := hv
                    exact ⟨us 0, by simp only [getRes, hv']; simp [asAddr, loadVar, shapeOf_one hT, h1], h2⟩
                  · cases hg1
                | some m =>
                  simp only at hg1
                  split at hg1
                  · rename_i hle
                    simp only [Option.some.injEq] at hg1; subst hg1
                    have hm0 : 0 < m := Nat.pos_of_ne_zero fun e => hm (by rw [e])
                    obtain ⟨B, q, hv, us, h1, h2⟩ := gread_VR hs (fun _ _ h => h) hv hr m hle hm0
                    have hl := run_loads (P := P) K.w B q m us h1
                    have hv' : a.tmps.getD ad undef = _ := hv
                    refine ⟨.agg ((List.range m).map us).toArray, by simp only [getRes, hv']; simp [asAddr, loadVar, (shapeOf_agg hT _).1, (shapeOf_agg hT _).2, hl], .agg _ _ (by simp; omega) fun j hj => ?_⟩
                    have hj' : j < m := by simp at hj; omega
                    have e1 : gat ((cs.drop o).take m) j = gat cs (o + j) := by simp [gat, List.getD_eq_getElem?_getD, hj', List.getElem?_drop]
                    have e2 : vat ((List.range m).map us).toArray j = us j := by simp [vat, Array.getD, hj']
                    rw [e1, e2]; exact h2 j hj'
                  · cases hg1
              · cases hg1
            · cases hg1
      simp only [gress] at hg
      split at hg
      · rename_i g gs' h1 h2
        simp only [Option.some.injEq] at hg; subst hg
        obtain ⟨hok', v, hr, hv⟩ := one g h1
        obtain ⟨vs, r1, r2, r3⟩ := ih gr gs' hok' h2
        refine ⟨v :: vs, by simp [List.mapM_cons, hr, r1], by simp [r2], fun j hj => ?_⟩
        cases j with
        | zero => exact hv
        | succ j => exact r3 j (by simpa using hj)
      · cases hg

theorem results_sound {fn : Func} {K : Kr} {t : List GV} {a : Act} (hs : Sat K) (ht : TR K t a.tmps) {gr : List GRes} (hok : okRes P fn.results.toList gr = true) {g : GV} (hg : gretv t K.H gr = some g) :
    ∃ v, (results fn a.tmps).run P K.w = .ok v K.w ∧ VR K g v := by
  unfold gretv at hg
  have fin : ∀ gs, gress t K.H gr = some gs → ∃ vs : List Value, (fn.results.mapM (getRes a.tmps)).run P K.w = .ok vs.toArray K.w ∧ vs.length = gs.length ∧ ∀ j, j < gs.length → VR K (gat gs j) (vs.getD j Go.undef) := by
    intro gs h
    obtain ⟨vs, r1, r2, r3⟩ := run_res (P := P) hs ht _ _ _ hok h
    refine ⟨vs, ?_, r2, r3⟩
    rw [Array.mapM_eq_mapM_toList]
    simp [r1]
  have hres : results fn a.tmps = (fn.results.mapM (getRes a.tmps) >>= fun vs => pure (if h : vs.size = 1 then vs[0] else .tuple vs)) := rfl
  split at hg
  · rename_i g' h
    simp only [Option.some.injEq] at hg; subst hg
    obtain ⟨vs, r1, r2, r3⟩ := fin _ h
    match vs, r2 with
    | [v], _ =>
      refine ⟨v, ?_, r3 0 (by simp)⟩
      rw [hres]; simp [r1]
  · rename_i gs hne h
    simp only [Option.some.injEq] at hg; subst hg
    obtain ⟨vs, r1, r2, r3⟩ := fin _ h
    have hl : vs.length ≠ 1 := by
      intro e
      rw [e] at r2
      match gs, r2 with
      | [g'], _ => exact hne g' rfl
    refine ⟨.tuple vs.toArray, ?_, .tup _ _ (by simp [r2]) fun j hj => ?_⟩
    · rw [hres]; simp [r1, hl]
    · have := r3 j hj
      simpa [vat, Array.getD, List.getD_eq_getElem?_getD, show j < vs.length by omega] using this
  · cases hg

/-- a function's ghost body -/
structure GFun where
  np : Nat
  nt : Nat
  body : GCode
  res : List GRes
def okFun (P : Program) (f : FuncId) (g : GFun) : Bool := match P.funcs[f]? with
  | some fn => (match fn.body with
    | some c => okCode P c g.body && okRes P fn.results.toList g.res && fn.ntmps == g.nt && decide (g.np ≤ g.nt)
    | none => false)
  | none => false

/-- what a function's ghost body leaves -/
def GFun.post (F : GFun) (g : GV) (H' : Heap) (n' : Nat) : GPost := fun e t H n => match e with
  | .exit _ => False
  | _ => gretv t H F.res = some g ∧ H = H' ∧ n = n'

theorem VRs.tr {K : Kr} {gs : List GV} {vs : Array Value} (h : VRs K gs vs) (k : Nat) : TR K (gs ++ List.replicate k .undef) (vs ++ Array.replicate k undef) := by
  refine ⟨by simp [h.1], fun i => ?_⟩
  rcases Nat.lt_or_ge i gs.length with hi | hi
  · have := h.2 i hi
    have hi' : i < vs.size := by rw [h.1]; exact hi
    have e1 : gat (gs ++ List.replicate k .undef) i = gat gs i := by simp [gat, List.getD_eq_getElem?_getD, List.getElem?_append, hi]
    have e2 : vat (vs ++ Array.replicate k undef) i = vat vs i := by simp [vat, Array.getD_eq_getD_getElem?, Array.getElem?_append, hi']
    rw [e1, e2]; exact this
  · have e1 : gat (gs ++ List.replicate k .undef) i = .undef := by
      simp only [gat, List.getD_eq_getElem?_getD, List.getElem?_append, Nat.not_lt.2 hi, if_false, List.getElem?_replicate]
      split <;> rfl
    rw [e1]; exact .undef _

end
end Go.Proofs.Ytdpibcniodhinaa.Gh
/- The ghost code's equations over slots as a function: what a proof of a contract is evaluated by. -/
namespace Go.Proofs.Ytdpibcniodhinaa.Gh
open Go Go.RowKit
set_option linter.unusedVariables false
set_option linter.unusedSimpArgs false

abbrev Env := Nat → GV
abbrev Kn := GV → Heap → Nat → Prop
def tl (N : Nat) (E : Env) : List GV := (List.range N).map E
def st (E : Env) (d : Nat) (g : GV) : Env := fun j => if j = d then g else E j
def sto (E : Env) : Option Nat → GV → Env
  | none, _ => E
  | some d, g => st E d g
theorem st_same (E : Env) (d : Nat) (g : GV) : st E d g d = g := if_pos rfl
theorem st_ne (E : Env) (d : Nat) (g : GV) {j : Nat} (h : (j == d) = false) : st E d g j = E j := if_neg (by simpa using h)
def mkE : Nat → List GV → Env
  | _, [] => fun _ => .undef
  | i, g :: gs => st (mkE (i + 1) gs) i g
theorem mkE_nil (i : Nat) : mkE i [] = fun _ => .undef := rfl
theorem mkE_cons (i : Nat) (g : GV) (gs : List GV) : mkE i (g :: gs) = st (mkE (i + 1) gs) i g := rfl

theorem gat_tl {N : Nat} {E : Env} {j : Nat} (h : j < N) : gat (tl N E) j = E j := by simp [gat, tl, List.getD_eq_getElem?_getD, h]
theorem put_tl (N : Nat) (E : Env) (d : Option Nat) (g : GV) : put (tl N E) d g = tl N (sto E d g) := by
  cases d with
  | none => rfl
  | some d =>
    apply List.ext_getElem
    · simp [put, tl]
    · intro i h1 h2
      simp only [tl, List.length_map, List.length_range] at h2
      simp only [put, tl, sto, st, List.getElem_set, List.getElem_map, List.getElem_range]
      by_cases e : d = i
      · simp [e]
      · simp [e, Ne.symm e]
theorem mkE_at : ∀ (gs : List GV) (i j : Nat), mkE i gs (i + j) = gat gs j := by
  intro gs
  induction gs with
  | nil => intro i j; rfl
  | cons g gs ih =>
    intro i j
    cases j with
    | zero => exact st_same _ _ _
    | succ j =>
      rw [mkE_cons, st_ne _ _ _ (by simp)]
      rw [show i + (j + 1) = i + 1 + j from by omega, ih]
      rfl
theorem args_tl {args : List GV} {np nt : Nat} (h : args.length = np) (hle : np ≤ nt) : args ++ List.replicate (nt - np) .undef = tl nt (mkE 0 args) := by
  apply List.ext_getElem
  · simp [tl]; omega
  · intro i h1 h2
    simp only [tl, List.getElem_map, List.getElem_range]
    have := mkE_at args 0 i
    rw [Nat.zero_add] at this
    rw [this]
    by_cases hi : i < args.length
    · simp [List.getElem_append, hi, gat, List.getD_eq_getElem?_getD]
    · simp [List.getElem_append, hi, gat, List.getD_eq_getElem?_getD]

theorem gev_t {N : Nat} {E : Env} {j : Nat} (h : j < N) : gev (tl N E) (.t j) = E j := gat_tl h
theorem gev_c (t : List GV) (g : GV) : gev t (.c g) = g := rfl

section
variable {P : Program} {N n m : Nat} {E : Env} {H : Heap} {k : List GV → Heap → Nat → Prop} {q : Kn} {Q : GPost} {d : Option Nat} {g v : GV} {op : GOp} {rest : List GOper} {x y z : GX} {t : List GV}

def kops (P : Program) (rest : List GOper) (k : List GV → Heap → Nat → Prop) (N : Nat) (E : Env) (d : Option Nat) : Kn := fun g H n => gops P rest k (tl N (sto E d g)) H n
theorem e_nil : gops P [] k t H n = k t H n := rfl
theorem e_cons : gops P (⟨d, op, none⟩ :: rest) k (tl N E) H n = gop P (tl N E) H n (kops P rest k N E d) op := by
  simp only [gops, put_tl]
  rfl
theorem e_kops (i : Nat) : kops P rest k N E (some i) g H n = gops P rest k (tl N (st E i g)) H n := rfl
theorem e_kops_none : kops P rest k N E none g H n = gops P rest k (tl N E) H n := rfl
def hgd (P : Program) (rest : List GOper) (k : List GV → Heap → Nat → Prop) (N : Nat) (E : Env) (H : Heap) (n : Nat) (d : Option Nat) (op : GOp) (w : Bool) : GV → Prop
  | .bool b => if b = w then gop P (tl N E) H n (kops P rest k N E d) op else kops P rest k N E d (.tup []) H n
  | .tup [] => kops P rest k N E d (.tup []) H n
  | _ => False
theorem e_guard {j : Nat} {w : Bool} (h : j < N) : gops P (⟨d, op, some (j, w)⟩ :: rest) k (tl N E) H n = hgd P rest k N E H n d op w (E j) := by
  have h' := h
  simp only [gops, gat_tl h', put_tl]
  unfold hgd
  split
  · rename_i b hb; rw [hb]; rfl
  · rename_i hb; rw [hb]; rfl
  · rename_i hb hb2
    split
    · rename_i b hb'; exact absurd hb' (hb b)
    · rename_i hb'; exact absurd hb' hb2
    · rfl
theorem e_tt : hgd P rest k N E H n d op true (.bool true) = gop P (tl N E) H n (kops P rest k N E d) op := rfl
theorem e_ff : hgd P rest k N E H n d op false (.bool false) = gop P (tl N E) H n (kops P rest k N E d) op := rfl
theorem e_tf : hgd P rest k N E H n d op true (.bool false) = kops P rest k N E d (.tup []) H n := rfl
theorem e_tu (w : Bool) : hgd P rest k N E H n d op w (.tup []) = kops P rest k N E d (.tup []) H n := rfl
theorem e_ft : hgd P rest k N E H n d op false (.bool true) = kops P rest k N E d (.tup []) H n := rfl

/-- the operations -/
def hopt (q : Kn) (H : Heap) (n : Nat) : Option GV → Prop
  | some g => q g H n
  | none => False
theorem e_some : hopt q H n (some g) = q g H n := rfl
theorem e_pure (h : ∀ k : Kn, gop P t H n k op = (match gpure t op with | some g => k g H n | none => False)) {o : Option GV} (e : gpure t op = o) : gop P t H n q op = hopt q H n o := by
  rw [h, e]; cases o <;> rfl
theorem e_mov : gop P t H n q (.mov x) = q (gev t x) H n := rfl
def hpick : GV → GV → GV → Option GV
  | .bool true, a, _ => some a
  | .bool false, _, b => some b
  | _, _, _ => none
theorem e_pick : gop P t H n q (.pick x y z) = hopt q H n (hpick (gev t x) (gev t y) (gev t z)) := by
  refine e_pure (fun _ => rfl) ?_
  simp only [gpure]; unfold hpick; split <;> simp_all
theorem e_pick_t (a b : GV) : hpick (.bool true) a b = some a := rfl
theorem e_pick_f (a b : GV) : hpick (.bool false) a b = some b := rfl
theorem e_bin (o : BinOp) : gop P t H n q (.bin o x y) = hopt q H n (gbin o (gev t x) (gev t y)) := e_pure (fun _ => rfl) rfl
def hun : UnOp → GV → Option GV
  | .not, .bool b => some (.bool !b)
  | .neg, .int k n => some (.int k (k.wrap (0 - n)))
  | _, _ => none
theorem e_un (o : UnOp) : gop P t H n q (.un o x) = hopt q H n (hun o (gev t x)) := by
  refine e_pure (fun _ => rfl) ?_
  simp only [gpure]; unfold hun; split <;> simp_all
theorem e_not (b : Bool) : hun .not (.bool b) = some (.bool !b) := rfl
theorem e_neg (k : IntKind) (i : Int) : hun .neg (.int k i) = some (.int k (k.wrap (0 - i))) := rfl

theorem e_add (k : IntKind) (a b : Int) : gbin .add (.int k a) (.int k b) = some (.int k (k.wrap (a + b))) := by simp [gbin]
theorem e_sub (k : IntKind) (a b : Int) : gbin .sub (.int k a) (.int k b) = some (.int k (k.wrap (a - b))) := by simp [gbin]
theorem e_mul (k : IntKind) (a b : Int) : gbin .mul (.int k a) (.int k b) = some (.int k (k.wrap (a * b))) := by simp [gbin]
theorem e_quo (k : IntKind) (a b : Int) : gbin .quo (.int k a) (.int k b) = if b = 0 then none else some (.int k (k.wrap (a.tdiv b))) := by simp [gbin]
theorem e_rem (k : IntKind) (a b : Int) : gbin .rem (.int k a) (.int k b) = if b = 0 then none else some (.int k (a.tmod b)) := by simp [gbin]
theorem e_xor (k : IntKind) (a b : Int) : gbin .xor (.int k a) (.int k b) = some (.int k (k.wrap (BitVec.ofInt k.bits a ^^^ BitVec.ofInt k.bits b).toNat)) := by simp [gbin]
theorem e_and (k : IntKind) (a b : Int) : gbin .and (.int k a) (.int k b) = some (.int k (k.wrap (BitVec.ofInt k.bits a &&& BitVec.ofInt k.bits b).toNat)) := by simp [gbin]
theorem e_or (k : IntKind) (a b : Int) : gbin .or (.int k a) (.int k b) = some (.int k (k.wrap (BitVec.ofInt k.bits a ||| BitVec.ofInt k.bits b).toNat)) := by simp [gbin]
theorem e_eql (k : IntKind) (a b : Int) : gbin .eql (.int k a) (.int k b) = some (.bool (decide (a = b))) := by
  simp only [gbin, if_true]; congr 2
theorem e_neq (k : IntKind) (a b : Int) : gbin .neq (.int k a) (.int k b) = some (.bool (!decide (a = b))) := by
  simp only [gbin, if_true]; congr 2
theorem e_lss (k : IntKind) (a b : Int) : gbin .lss (.int k a) (.int k b) = some (.bool (decide (a < b))) := by simp [gbin]
theorem e_leq (k : IntKind) (a b : Int) : gbin .leq (.int k a) (.int k b) = some (.bool (decide (a ≤ b))) := by simp [gbin]
theorem e_gtr (k : IntKind) (a b : Int) : gbin .gtr (.int k a) (.int k b) = some (.bool (decide (b < a))) := by simp [gbin]
theorem e_geq (k : IntKind) (a b : Int) : gbin .geq (.int k a) (.int k b) = some (.bool (decide (b ≤ a))) := by simp [gbin]

def hfield (off : Nat) : Option Nat → GV → Option GV
  | none, .agg cs => if off < cs.length then some (gat cs off) else none
  | some m, .agg cs => if off + m ≤ cs.length then some (.agg ((cs.drop off).take m)) else none
  | _, _ => none
theorem e_field (off : Nat) (m : Option Nat) : gop P t H n q (.field off m x) = hopt q H n (hfield off m (gev t x)) := by
  refine e_pure (fun _ => rfl) ?_
  simp only [gpure]; generalize gev t x = v
  cases v <;> cases m <;> rfl
theorem e_field1 (off : Nat) (cs : List GV) : hfield off none (.agg cs) = if off < cs.length then some (gat cs off) else none := rfl
theorem e_fieldm (off m : Nat) (cs : List GV) : hfield off (some m) (.agg cs) = if off + m ≤ cs.length then some (.agg ((cs.drop off).take m)) else none := rfl
def hfaddr (off : Nat) : GV → Option GV
  | .ptr b o => some (.ptr b (o + off))
  | .pp cs o => some (.pp cs (o + off))
  | _ => none
theorem e_faddr (off : Nat) : gop P t H n q (.fieldAddr off x) = hopt q H n (hfaddr off (gev t x)) := by
  refine e_pure (fun _ => rfl) ?_
  simp only [gpure]; generalize gev t x = v; cases v <;> rfl
theorem e_faddr_ptr (off b o : Nat) : hfaddr off (.ptr b o) = some (.ptr b (o + off)) := rfl
theorem e_faddr_pp (off : Nat) (cs : List GV) (o : Nat) : hfaddr off (.pp cs o) = some (.pp cs (o + off)) := rfl
def hiaddr (size : Nat) : GV → GV → Option GV
  | .own b o n, .int _ i => if 0 ≤ i ∧ i < n then some (.ptr b (o + i.toNat * size)) else none
  | .sl n cs, .int _ i => if 0 ≤ i ∧ i < n ∧ i.toNat * size < cs.length then some (.pp cs (i.toNat * size)) else none
  | .lit cs, .int _ i => if 0 ≤ i ∧ i < cs.length ∧ size = 1 then some (.pp cs i.toNat) else none
  | _, _ => none
theorem e_iaddr (size : Nat) : gop P t H n q (.indexAddr size x y) = hopt q H n (hiaddr size (gev t x) (gev t y)) := by
  refine e_pure (fun _ => rfl) ?_
  simp only [gpure]; unfold hiaddr; split <;> simp_all
theorem e_iaddr_own (size b o l : Nat) (i : Int) (kd : IntKind) : hiaddr size (.own b o l) (.int kd i) = if 0 ≤ i ∧ i < l then some (.ptr b (o + i.toNat * size)) else none := rfl
theorem e_iaddr_sl (size l : Nat) (cs : List GV) (i : Int) (kd : IntKind) : hiaddr size (.sl l cs) (.int kd i) = if 0 ≤ i ∧ i < l ∧ i.toNat * size < cs.length then some (.pp cs (i.toNat * size)) else none := rfl
theorem e_iaddr_lit (size : Nat) (cs : List GV) (i : Int) (kd : IntKind) : hiaddr size (.lit cs) (.int kd i) = if 0 ≤ i ∧ i < cs.length ∧ size = 1 then some (.pp cs i.toNat) else none := rfl
def haaddr (len size : Nat) : GV → GV → Option GV
  | .ptr b o, .int _ i => if 0 ≤ i ∧ i < len then some (.ptr b (o + i.toNat * size)) else none
  | .pp cs o, .int _ i => if 0 ≤ i ∧ i < len then some (.pp cs (o + i.toNat * size)) else none
  | _, _ => none
theorem e_aaddr (len size : Nat) : gop P t H n q (.arrAddr len size x y) = hopt q H n (haaddr len size (gev t x) (gev t y)) := by
  refine e_pure (fun _ => rfl) ?_
  simp only [gpure]; unfold haaddr; split <;> simp_all
def hnilc : GV → Option GV
  | .ptr b o => some (.ptr b o)
  | .pp cs o => some (.pp cs o)
  | _ => none
theorem e_nilc : gop P t H n q (.nilCheck x) = hopt q H n (hnilc (gev t x)) := by
  refine e_pure (fun _ => rfl) ?_
  simp only [gpure]; generalize gev t x = v; cases v <;> rfl
theorem e_nilc_ptr (b o : Nat) : hnilc (.ptr b o) = some (.ptr b o) := rfl
theorem e_nilc_pp (cs : List GV) (o : Nat) : hnilc (.pp cs o) = some (.pp cs o) := rfl
def hext (i : Nat) : GV → Option GV
  | .tup vs => if i < vs.length then some (gat vs i) else none
  | _ => none
theorem e_ext (i : Nat) : gop P t H n q (.extract i x) = hopt q H n (hext i (gev t x)) := by
  refine e_pure (fun _ => rfl) ?_
  simp only [gpure]; generalize gev t x = v; cases v <;> rfl
theorem e_ext0 (a : GV) (l : List GV) : hext 0 (.tup (a :: l)) = some a := by simp [hext, gat]
theorem e_ext1 (a b : GV) (l : List GV) : hext 1 (.tup (a :: b :: l)) = some b := by simp [hext, gat]
theorem e_ext2 (a b c : GV) (l : List GV) : hext 2 (.tup (a :: b :: c :: l)) = some c := by simp [hext, gat]
def hlen : GV → Option GV
  | .nil => some (.int .i64 0)
  | .emp => some (.int .i64 0)
  | .lit cs => some (.int .i64 cs.length)
  | .sl n _ => some (.int .i64 n)
  | .own _ _ n => some (.int .i64 n)
  | _ => none
theorem e_len : gop P t H n q (.len x) = hopt q H n (hlen (gev t x)) := by
  refine e_pure (fun _ => rfl) ?_
  simp only [gpure]; generalize gev t x = v; cases v <;> rfl
theorem e_len_nil : hlen .nil = some (.int .i64 0) := rfl
theorem e_len_emp : hlen .emp = some (.int .i64 0) := rfl
theorem e_len_lit (cs : List GV) : hlen (.lit cs) = some (.int .i64 cs.length) := rfl
theorem e_len_sl (l : Nat) (cs : List GV) : hlen (.sl l cs) = some (.int .i64 l) := rfl
theorem e_len_own (b o l : Nat) : hlen (.own b o l) = some (.int .i64 l) := rfl
def hmm (mx : Bool) : GV → GV → Option GV
  | .int k a, .int _ b => some (.int k (if mx then (if b > a then b else a) else (if b < a then b else a)))
  | _, _ => none
theorem e_mm (mx : Bool) : gop P t H n q (.mm mx x y) = hopt q H n (hmm mx (gev t x) (gev t y)) := by
  refine e_pure (fun _ => rfl) ?_
  simp only [gpure]; unfold hmm; split <;> simp_all
theorem e_max (kd kd' : IntKind) (a b : Int) : hmm true (.int kd a) (.int kd' b) = some (.int kd (max a b)) := by
  simp only [hmm, if_true, Option.some.injEq, GV.int.injEq, true_and]; split <;> omega
theorem e_min (kd kd' : IntKind) (a b : Int) : hmm false (.int kd a) (.int kd' b) = some (.int kd (min a b)) := by
  simp only [hmm, Bool.false_eq_true, if_false, Option.some.injEq, GV.int.injEq, true_and]; split <;> omega
theorem e_build (zero : List GV) (parts : List (Nat × Nat × GX)) : gop P t H n q (.build zero parts) = hopt q H n ((gfill t zero parts).map .agg) := e_pure (fun _ => rfl) rfl
theorem e_map_some (cs : List GV) : (some cs).map GV.agg = some (.agg cs) := rfl
theorem e_conv (kd : IntKind) : gop P t H n q (.conv kd x) = hopt q H n (match gev t x with | .int _ n => some (.int kd (kd.wrap n)) | _ => none) := e_pure (fun _ => rfl) rfl
def hisnil (neg : Bool) : GV → Option GV
  | .nil => some (.bool !neg)
  | .own _ _ n => if 0 < n then some (.bool neg) else none
  | .emp => some (.bool neg)
  | .lit _ => some (.bool neg)
  | _ => none
theorem e_isnil (neg : Bool) : gop P t H n q (.isnil neg x) = hopt q H n (hisnil neg (gev t x)) := by
  refine e_pure (fun _ => rfl) ?_
  simp only [gpure]; generalize gev t x = v; cases v <;> rfl
theorem e_isnil_nil (neg : Bool) : hisnil neg .nil = some (.bool !neg) := rfl
theorem e_isnil_emp (neg : Bool) : hisnil neg .emp = some (.bool neg) := rfl
theorem e_isnil_lit (neg : Bool) (cs : List GV) : hisnil neg (.lit cs) = some (.bool neg) := rfl
theorem e_isnil_own (neg : Bool) (b o l : Nat) : hisnil neg (.own b o l) = if 0 < l then some (.bool neg) else none := rfl
def hbd : GV → Option Nat
  | .int _ i => if 0 ≤ i then some i.toNat else none
  | _ => none
def gbd (t : List GV) : Option GX → Nat → Option Nat
  | none, d => some d
  | some x, _ => hbd (gev t x)
def hso (b o n : Nat) : Option Nat → Option Nat → Option Nat → Option GV
  | some l, some h, some m => if l ≤ h ∧ h ≤ m ∧ m ≤ n then some (.own b (o + l) (h - l)) else none
  | _, _, _ => none
def hss (n : Nat) (cs : List GV) : Option Nat → Option Nat → Option Nat → Option GV
  | some l, some h, some m => if l ≤ h ∧ h ≤ m ∧ m ≤ n ∧ cs.length = n then some (.sl (h - l) ((cs.drop l).take (h - l))) else none
  | _, _, _ => none
def hsn : Option Nat → Option Nat → Option Nat → Option GV
  | some l, some h, some m => if l = 0 ∧ h = 0 ∧ m = 0 then some .nil else none
  | _, _, _ => none
def hsl : GV → (Nat → Option Nat) → (Nat → Option Nat) → (Nat → Option Nat) → Option GV
  | .nil, l, h, m => hsn (l 0) (h 0) (m 0)
  | .sl n cs, l, h, m => hss n cs (l 0) (h n) (m n)
  | .own b o n, l, h, m => hso b o n (l 0) (h n) (m n)
  | _, _, _, _ => none
theorem gbd_eq (d : Nat) (t : List GV) (o : Option GX) : gbound d t o = gbd t o d := by
  cases o with
  | none => rfl
  | some x => simp only [gbound, gbd]; generalize gev t x = v; cases v <;> rfl
theorem e_slice (lo hi mx : Option GX) : gop P t H n q (.slice x lo hi mx) = hopt q H n (hsl (gev t x) (gbd t lo) (gbd t hi) (gbd t mx)) := by
  refine e_pure (fun _ => rfl) ?_
  simp only [gpure, gbd_eq]
  generalize gev t x = v
  cases v with
  | nil =>
    simp only [hsl]
    generalize gbd t lo 0 = a; generalize gbd t hi 0 = b; generalize gbd t mx 0 = c
    cases a <;> cases b <;> cases c <;> simp [hsn]
  | sl l cs =>
    simp only [hsl]
    generalize gbd t lo 0 = a; generalize gbd t hi l = b; generalize gbd t mx l = c
    cases a <;> cases b <;> cases c <;> rfl
  | own b o l =>
    simp only [hsl]
    generalize gbd t lo 0 = a; generalize gbd t hi l = b; generalize gbd t mx l = c
    cases a <;> cases b <;> cases c <;> rfl
  | _ => rfl
theorem e_bd_none (t : List GV) (d : Nat) : gbd t none d = some d := rfl
theorem e_bd_some (t : List GV) (d : Nat) : gbd t (some x) d = hbd (gev t x) := rfl
theorem e_hbd (kd : IntKind) (i : Int) : hbd (.int kd i) = if 0 ≤ i then some i.toNat else none := rfl
theorem e_sl_nil (l h m : Nat → Option Nat) : hsl .nil l h m = hsn (l 0) (h 0) (m 0) := rfl
theorem e_sl_sl (l h m : Nat → Option Nat) (c : Nat) (cs : List GV) : hsl (.sl c cs) l h m = hss c cs (l 0) (h c) (m c) := rfl
theorem e_sl_own (l h m : Nat → Option Nat) (b o c : Nat) : hsl (.own b o c) l h m = hso b o c (l 0) (h c) (m c) := rfl
theorem e_hso (b o c l h m : Nat) : hso b o c (some l) (some h) (some m) = if l ≤ h ∧ h ≤ m ∧ m ≤ c then some (.own b (o + l) (h - l)) else none := rfl
theorem e_hss (c : Nat) (cs : List GV) (l h m : Nat) : hss c cs (some l) (some h) (some m) = if l ≤ h ∧ h ≤ m ∧ m ≤ c ∧ cs.length = c then some (.sl (h - l) ((cs.drop l).take (h - l))) else none := rfl
theorem e_hsn (l h m : Nat) : hsn (some l) (some h) (some m) = if l = 0 ∧ h = 0 ∧ m = 0 then some .nil else none := rfl

/-- reading, writing, making -/
def hcell (q : Kn) (Hr H : Heap) (n : Nat) (mo : Option Nat) : GV → Prop
  | .ptr b o => (match Hr b with
    | some cs => (match mo with
      | none => o < cs.length ∧ q (gat cs o) H n
      | some m => o + m ≤ cs.length ∧ q (.agg ((cs.drop o).take m)) H n)
    | none => False)
  | .pp cs o => (match mo with
      | none => o < cs.length ∧ q (gat cs o) H n
      | some m => o + m ≤ cs.length ∧ q (.agg ((cs.drop o).take m)) H n)
  | _ => False
theorem e_load (mo : Option Nat) : gop P t H n q (.load mo x) = hcell q H H n mo (gev t x) := by
  cases mo <;> (simp only [gop]; generalize gev t x = v; cases v <;> rfl)
def hcl (q : Kn) (H : Heap) (n : Nat) (mo : Option Nat) (o : Nat) : Option (List GV) → Prop
  | some cs => (match mo with
      | none => o < cs.length ∧ q (gat cs o) H n
      | some m => o + m ≤ cs.length ∧ q (.agg ((cs.drop o).take m)) H n)
  | none => False
theorem e_cell_ptr {Hr : Heap} (mo : Option Nat) (b o : Nat) : hcell q Hr H n mo (.ptr b o) = hcl q H n mo o (Hr b) := by
  simp only [hcell]; generalize Hr b = c; cases c <;> rfl
theorem e_cl1 (o : Nat) (cs : List GV) : hcl q H n none o (some cs) = (o < cs.length ∧ q (gat cs o) H n) := rfl
theorem e_clm (o m : Nat) (cs : List GV) : hcl q H n (some m) o (some cs) = (o + m ≤ cs.length ∧ q (.agg ((cs.drop o).take m)) H n) := rfl
theorem e_cell_pp {Hr : Heap} (cs : List GV) (o : Nat) : hcell q Hr H n none (.pp cs o) = (o < cs.length ∧ q (gat cs o) H n) := rfl
theorem e_cells_pp {Hr : Heap} (cs : List GV) (o m : Nat) : hcell q Hr H n (some m) (.pp cs o) = (o + m ≤ cs.length ∧ q (.agg ((cs.drop o).take m)) H n) := rfl
def hstore (q : Kn) (H : Heap) (n m : Nat) : GV → Option (List GV) → Prop
  | .ptr b o, some vs => (match H b with
    | some cs => vs.length = m ∧ vs.all isCell = true ∧ o + m ≤ cs.length ∧ q .undef (upd H b (some (setL cs o vs))) n
    | none => False)
  | _, _ => False
theorem e_store : gop P t H n q (.store m x y) = hstore q H n m (gev t x) (gcells (gev t y)) := by
  simp only [gop]; generalize gev t x = v; generalize gcells (gev t y) = w
  unfold hstore; cases v <;> cases w <;> rfl
def hstp (q : Kn) (H : Heap) (n m b o : Nat) (vs : List GV) : Option (List GV) → Prop
  | some cs => vs.length = m ∧ vs.all isCell = true ∧ o + m ≤ cs.length ∧ q .undef (upd H b (some (setL cs o vs))) n
  | none => False
theorem e_store_ptr (b o : Nat) (vs : List GV) : hstore q H n m (.ptr b o) (some vs) = hstp q H n m b o vs (H b) := by
  simp only [hstore]; generalize H b = c; cases c <;> rfl
theorem e_stp (b o : Nat) (vs cs : List GV) : hstp q H n m b o vs (some cs) = (vs.length = m ∧ vs.all isCell = true ∧ o + m ≤ cs.length ∧ q .undef (upd H b (some (setL cs o vs))) n) := rfl
def hbox (q : Kn) (H : Heap) (n : Nat) : Option (List GV) → Prop
  | some vs => q (.ptr n 0) (upd H n (some vs)) (n + 1)
  | none => False
theorem e_box : gop P t H n q (.box x) = hbox q H n (gcells (gev t x)) := by
  simp only [gop]; generalize gcells (gev t x) = w; cases w <;> rfl
theorem e_box_some (vs : List GV) : hbox q H n (some vs) = q (.ptr n 0) (upd H n (some vs)) (n + 1) := rfl
theorem e_alloc (cs : List GV) : gop P t H n q (.alloc cs) = q (.ptr n 0) (upd H n (some cs)) (n + 1) := rfl
theorem e_empty : gop P t H n q .empty = q .emp H n := rfl
def hbs (q : Kn) (H : Heap) (n m : Nat) : Option (List GV) → Prop
  | some cs => m ≤ cs.length ∧ q (.own n 0 m) (upd H n (some cs)) (n + 1)
  | none => False
theorem e_bslice (cells : List GV) (parts : List (Nat × Nat × GX)) : gop P t H n q (.bslice m cells parts) = hbs q H n m (gfill t cells parts) := by
  simp only [gop]; generalize gfill t cells parts = w; cases w <;> rfl
theorem e_bs_some (cs : List GV) : hbs q H n m (some cs) = (m ≤ cs.length ∧ q (.own n 0 m) (upd H n (some cs)) (n + 1)) := rfl
def hbl (q : Kn) (H : Heap) (n : Nat) : Option (List GV) → Prop
  | some cs => q (.lit cs) H n
  | none => False
theorem e_blit (cells : List GV) (parts : List (Nat × Nat × GX)) : gop P t H n q (.blit cells parts) = hbl q H n (gfill t cells parts) := by
  simp only [gop]; generalize gfill t cells parts = w; cases w <;> rfl
theorem e_bl_some (cs : List GV) : hbl q H n (some cs) = q (.lit cs) H n := rfl
def hms (q : Kn) (H : Heap) (n : Nat) (zv : GV) (bytes : Nat) : GV → GV → Prop
  | .int .i64 a, .int .i64 b => 0 ≤ a ∧ a = b ∧ a * bytes ≤ 281474976710656 ∧ 0 < bytes ∧ q (.own n 0 a.toNat) (upd H n (some (List.replicate a.toNat zv))) (n + 1)
  | _, _ => False
theorem e_mslice (zv : GV) (bytes : Nat) : gop P t H n q (.mslice zv bytes x y) = hms q H n zv bytes (gev t x) (gev t y) := by
  simp only [gop]; generalize gev t x = v; generalize gev t y = w; unfold hms
  cases v <;> cases w <;> first | rfl | (rename_i k1 a k2 b; cases k1 <;> cases k2 <;> rfl)
theorem e_ms_int (zv : GV) (bytes : Nat) (a b : Int) : hms q H n zv bytes (.int .i64 a) (.int .i64 b) = (0 ≤ a ∧ a = b ∧ a * bytes ≤ 281474976710656 ∧ 0 < bytes ∧ q (.own n 0 a.toNat) (upd H n (some (List.replicate a.toNat zv))) (n + 1)) := rfl
def happ (q : Kn) (H : Heap) (n bytes : Nat) : GV → Option (List GV) → Prop
  | .nil, some ys => ys.length * bytes ≤ 140737488355328 ∧ q (.own n 0 ys.length) (upd H n (some ys)) (n + 1)
  | .emp, some ys => ys.length * bytes ≤ 140737488355328 ∧ q (.own n 0 ys.length) (upd H n (some ys)) (n + 1)
  | .lit cs, some ys => ys ≠ [] ∧ (cs.length + ys.length) * bytes ≤ 140737488355328 ∧ q (.own n 0 (cs.length + ys.length)) (upd H n (some (cs ++ ys))) (n + 1)
  | .own b 0 m, some ys => (match H b with
        | some cs => cs.length = m ∧ ys.all isCell = true ∧ (m + ys.length) * bytes ≤ 140737488355328 ∧ q (.own n 0 (m + ys.length)) (upd (upd H b none) n (some (cs ++ ys))) (n + 1)
        | none => False)
  | _, _ => False
theorem e_append (bytes : Nat) : gop P t H n q (.append bytes x y) = happ q H n bytes (gev t x) (gelems H (gev t y)) := by
  simp only [gop]; generalize gev t x = v; generalize gelems H (gev t y) = w
  unfold happ
  cases w <;> cases v <;> first | rfl | (rename_i b o l; cases o <;> rfl)
theorem e_app_nil (bytes : Nat) (ys : List GV) : happ q H n bytes .nil (some ys) = (ys.length * bytes ≤ 140737488355328 ∧ q (.own n 0 ys.length) (upd H n (some ys)) (n + 1)) := rfl
theorem e_app_emp (bytes : Nat) (ys : List GV) : happ q H n bytes .emp (some ys) = (ys.length * bytes ≤ 140737488355328 ∧ q (.own n 0 ys.length) (upd H n (some ys)) (n + 1)) := rfl
def happo (q : Kn) (H : Heap) (n bytes b m : Nat) (ys : List GV) : Option (List GV) → Prop
  | some cs => cs.length = m ∧ ys.all isCell = true ∧ (m + ys.length) * bytes ≤ 140737488355328 ∧ q (.own n 0 (m + ys.length)) (upd (upd H b none) n (some (cs ++ ys))) (n + 1)
  | none => False
theorem e_app_own (bytes b : Nat) (ys : List GV) : happ q H n bytes (.own b 0 m) (some ys) = happo q H n bytes b m ys (H b) := by
  simp only [happ]; generalize H b = c; cases c <;> rfl
theorem e_appo (bytes b : Nat) (ys cs : List GV) : happo q H n bytes b m ys (some cs) = (cs.length = m ∧ ys.all isCell = true ∧ (m + ys.length) * bytes ≤ 140737488355328 ∧ q (.own n 0 (m + ys.length)) (upd (upd H b none) n (some (cs ++ ys))) (n + 1)) := rfl
theorem e_app_lit (bytes : Nat) (cs ys : List GV) : happ q H n bytes (.lit cs) (some ys) = (ys ≠ [] ∧ (cs.length + ys.length) * bytes ≤ 140737488355328 ∧ q (.own n 0 (cs.length + ys.length)) (upd H n (some (cs ++ ys))) (n + 1)) := rfl
def happp (q : Kn) (H : Heap) (n bytes : Nat) : GV → Option (List GV) → Option (List GV) → Prop
  | .nil, some _, some ys => ys.length * bytes ≤ 140737488355328 ∧ q (.sl ys.length ys) H n
  | .emp, some _, some ys => ys.length * bytes ≤ 140737488355328 ∧ q (.sl ys.length ys) H n
  | .lit _, some cs, some ys => (cs.length + ys.length) * bytes ≤ 140737488355328 ∧ q (.sl (cs.length + ys.length) (cs ++ ys)) H n
  | _, _, _ => False
theorem e_appendp (bytes : Nat) : gop P t H n q (.appendp bytes x y) = happp q H n bytes (gev t x) (gelems H (gev t x)) (gelems H (gev t y)) := by
  simp only [gop]; generalize gelems H (gev t x) = u; generalize gev t x = v; generalize gelems H (gev t y) = w
  unfold happp
  cases u <;> cases w <;> cases v <;> rfl
theorem e_appp_nil (bytes : Nat) (ys zs : List GV) : happp q H n bytes .nil (some zs) (some ys) = (ys.length * bytes ≤ 140737488355328 ∧ q (.sl ys.length ys) H n) := rfl
theorem e_appp_emp (bytes : Nat) (ys zs : List GV) : happp q H n bytes .emp (some zs) (some ys) = (ys.length * bytes ≤ 140737488355328 ∧ q (.sl ys.length ys) H n) := rfl
theorem e_appp_lit (bytes : Nat) (cs zs ys : List GV) : happp q H n bytes (.lit cs) (some zs) (some ys) = ((zs.length + ys.length) * bytes ≤ 140737488355328 ∧ q (.sl (zs.length + ys.length) (zs ++ ys)) H n) := rfl
def hcopy (q : Kn) (H : Heap) (n : Nat) : GV → Option (List GV) → Prop
  | .own b o m, some ys => (match H b with
      | some cs => o + m ≤ cs.length ∧ ys.all isCell = true ∧ q (.int .i64 (min ys.length m : Nat)) (upd H b (some (setL cs o (ys.take (min ys.length m))))) n
      | none => False)
  | _, _ => False
theorem e_copy : gop P t H n q (.copy x y) = hcopy q H n (gev t x) (gelems H (gev t y)) := by
  simp only [gop]; generalize gev t x = v; generalize gelems H (gev t y) = w; unfold hcopy; cases v <;> cases w <;> rfl
def hcpo (q : Kn) (H : Heap) (n b o m : Nat) (ys : List GV) : Option (List GV) → Prop
  | some cs => o + m ≤ cs.length ∧ ys.all isCell = true ∧ q (.int .i64 (min ys.length m : Nat)) (upd H b (some (setL cs o (ys.take (min ys.length m))))) n
  | none => False
theorem e_copy_own (b o : Nat) (ys : List GV) : hcopy q H n (.own b o m) (some ys) = hcpo q H n b o m ys (H b) := by
  simp only [hcopy]; generalize H b = c; cases c <;> rfl
theorem e_cpo (b o : Nat) (cs ys : List GV) : hcpo q H n b o m ys (some cs) = (o + m ≤ cs.length ∧ ys.all isCell = true ∧ q (.int .i64 (min ys.length m : Nat)) (upd H b (some (setL cs o (ys.take (min ys.length m))))) n) := rfl
def hcall (P : Program) (f : FuncId) (args : List GV) (q : Kn) (H : Heap) (n : Nat) : Prop := ∃ G, SpecS P f args H n G ∧ ∀ g H' n', G g H' n' → q g H' n'
theorem e_call (f : FuncId) (args : List GX) : gop P t H n q (.call f args) = hcall P f (args.map (gev t)) q H n := rfl
theorem call_of {f : FuncId} {args : List GV} {H' : Heap} {n' : Nat} (hs : Spec P f args H n g H' n') (hq : q g H' n') : hcall P f args q H n := ⟨_, hs.s, fun _ _ _ h => by obtain ⟨rfl, rfl, rfl⟩ := h; exact hq⟩
theorem call_ofS {f : FuncId} {args : List GV} {G : GV → Heap → Nat → Prop} (hs : SpecS P f args H n G) (hq : ∀ g H' n', G g H' n' → q g H' n') : hcall P f args q H n := ⟨G, hs, hq⟩
def hgel (o m : Nat) : Option (List GV) → Option (List GV)
  | some cs => if o + m ≤ cs.length then some ((cs.drop o).take m) else none
  | none => none
theorem e_gel_nil : gelems H .nil = some [] := rfl
theorem e_gel_emp : gelems H .emp = some [] := rfl
theorem e_gel_lit (cs : List GV) : gelems H (.lit cs) = some cs := rfl
theorem e_gel_sl (m : Nat) (cs : List GV) : gelems H (.sl m cs) = if cs.length = m then some cs else none := rfl
theorem e_gel_own (b o m : Nat) : gelems H (.own b o m) = hgel o m (H b) := by
  simp only [gelems]; generalize H b = c; cases c <;> rfl
theorem e_hgel (o m : Nat) (cs : List GV) : hgel o m (some cs) = if o + m ≤ cs.length then some ((cs.drop o).take m) else none := rfl
def hfl (t : List GV) (cs : List GV) (off size : Nat) (rest : List (Nat × Nat × GX)) : Option (List GV) → Option (List GV)
  | some vs => if vs.length = size ∧ off + size ≤ cs.length then gfill t (setL cs off vs) rest else none
  | none => none
theorem e_fill_nil (cs : List GV) : gfill t cs [] = some cs := rfl
theorem e_fill (cs : List GV) (off size : Nat) (rest : List (Nat × Nat × GX)) : gfill t cs ((off, size, x) :: rest) = hfl t cs off size rest (gcells (gev t x)) := by
  simp only [gfill]; generalize gcells (gev t x) = c; cases c <;> rfl
theorem e_hfl (cs vs : List GV) (off size : Nat) (rest : List (Nat × Nat × GX)) : hfl t cs off size rest (some vs) = if vs.length = size ∧ off + size ≤ cs.length then gfill t (setL cs off vs) rest else none := rfl
theorem gat_0 (a : GV) (l : List GV) : gat (a :: l) 0 = a := rfl
theorem gat_1 (a b : GV) (l : List GV) : gat (a :: b :: l) 1 = b := rfl
theorem gat_2 (a b c : GV) (l : List GV) : gat (a :: b :: c :: l) 2 = c := rfl
theorem gat_3 (a b c d : GV) (l : List GV) : gat (a :: b :: c :: d :: l) 3 = d := rfl
theorem gat_4 (a b c d e : GV) (l : List GV) : gat (a :: b :: c :: d :: e :: l) 4 = e := rfl
theorem gat_5 (a b c d e f : GV) (l : List GV) : gat (a :: b :: c :: d :: e :: f :: l) 5 = f := rfl
theorem gat_6 (a b c d e f g : GV) (l : List GV) : gat (a :: b :: c :: d :: e :: f :: g :: l) 6 = g := rfl
theorem gat_7 (a b c d e f g h : GV) (l : List GV) : gat (a :: b :: c :: d :: e :: f :: g :: h :: l) 7 = h := rfl
theorem gat_8 (a b c d e f g h i : GV) (l : List GV) : gat (a :: b :: c :: d :: e :: f :: g :: h :: i :: l) 8 = i := rfl
theorem gat_9 (a b c d e f g h i j : GV) (l : List GV) : gat (a :: b :: c :: d :: e :: f :: g :: h :: i :: j :: l) 9 = j := rfl
theorem gat_10 (a b c d e f g h i j k : GV) (l : List GV) : gat (a :: b :: c :: d :: e :: f :: g :: h :: i :: j :: k :: l) 10 = k := rfl
theorem gat_11 (a b c d e f g h i j k m : GV) (l : List GV) : gat (a :: b :: c :: d :: e :: f :: g :: h :: i :: j :: k :: m :: l) 11 = m := rfl
theorem upd_n1 (c : Option (List GV)) (i : Nat) : upd H (n + (i + 1)) c n = H n := upd_ne _ _ (by omega)
theorem upd_1n (c : Option (List GV)) (i : Nat) : upd H n c (n + (i + 1)) = H (n + (i + 1)) := upd_ne _ _ (by omega)
theorem ns12 : n + 1 + 2 = n + 3 := by omega
theorem ns13 : n + 1 + 3 = n + 4 := by omega
theorem ns14 : n + 1 + 4 = n + 5 := by omega
theorem ns15 : n + 1 + 5 = n + 6 := by omega
theorem ns22 : n + 2 + 2 = n + 4 := by omega
theorem ns23 : n + 2 + 3 = n + 5 := by omega
theorem ns24 : n + 2 + 4 = n + 6 := by omega
theorem ns25 : n + 2 + 5 = n + 7 := by omega
theorem ns32 : n + 3 + 2 = n + 5 := by omega
theorem ns33 : n + 3 + 3 = n + 6 := by omega
theorem ns34 : n + 3 + 4 = n + 7 := by omega
theorem ns35 : n + 3 + 5 = n + 8 := by omega
theorem ns42 : n + 4 + 2 = n + 6 := by omega
theorem ns43 : n + 4 + 3 = n + 7 := by omega
theorem ns44 : n + 4 + 4 = n + 8 := by omega
theorem ns45 : n + 4 + 5 = n + 9 := by omega
theorem ns52 : n + 5 + 2 = n + 7 := by omega
theorem ns53 : n + 5 + 3 = n + 8 := by omega
theorem ns54 : n + 5 + 4 = n + 9 := by omega
theorem ns55 : n + 5 + 5 = n + 10 := by omega
theorem ns2 : n + 1 + 1 = n + 2 := rfl
theorem ns3 : n + 2 + 1 = n + 3 := rfl
theorem ns4 : n + 3 + 1 = n + 4 := rfl
theorem ns5 : n + 4 + 1 = n + 5 := rfl
theorem ns6 : n + 5 + 1 = n + 6 := rfl
theorem ns7 : n + 6 + 1 = n + 7 := rfl
theorem upd_lit (c : Option (List GV)) {a b : Nat} (h : (b == a) = false) : upd H (n + a) c (n + b) = H (n + b) := upd_ne _ _ (by
  have : b ≠ a := by simpa using h
  omega)
theorem cell_int (k : IntKind) (i : Int) : isCell (.int k i) = true := rfl
theorem cell_bool (b : Bool) : isCell (.bool b) = true := rfl
theorem cell_sl (l : Nat) (cs : List GV) : isCell (.sl l cs) = true := rfl
theorem cell_own (b o l : Nat) : isCell (.own b o l) = true := rfl
theorem cell_nil : isCell .nil = true := rfl
theorem cell_emp : isCell .emp = true := rfl
theorem cell_lit (cs : List GV) : isCell (.lit cs) = true := rfl
theorem cell_ptr (b o : Nat) : isCell (.ptr b o) = true := rfl
theorem cell_pp (cs : List GV) (o : Nat) : isCell (.pp cs o) = true := rfl
theorem cell_nilp : isCell .nilp = true := rfl
theorem e_gc_int (kd : IntKind) (i : Int) : gcells (.int kd i) = some [.int kd i] := rfl
theorem e_gc_bool (b : Bool) : gcells (.bool b) = some [.bool b] := rfl
theorem e_gc_nil : gcells .nil = some [.nil] := rfl
theorem e_gc_emp : gcells .emp = some [.emp] := rfl
theorem e_gc_lit (cs : List GV) : gcells (.lit cs) = some [.lit cs] := rfl
theorem e_gc_sl (l : Nat) (cs : List GV) : gcells (.sl l cs) = some [.sl l cs] := rfl
theorem e_gc_own (b o l : Nat) : gcells (.own b o l) = some [.own b o l] := rfl
theorem e_gc_ptr (b o : Nat) : gcells (.ptr b o) = some [.ptr b o] := rfl
theorem e_gc_pp (cs : List GV) (o : Nat) : gcells (.pp cs o) = some [.pp cs o] := rfl
theorem e_gc_nilp : gcells .nilp = some [.nilp] := rfl
theorem e_gc_fn (f : FuncId) (cs : List GV) : gcells (.fn f cs) = some [.fn f cs] := rfl
theorem e_gc_agg (cs : List GV) : gcells (.agg cs) = some cs := rfl
end
end Go.Proofs.Ytdpibcniodhinaa.Gh
/- What a function leaves may be told anew: blocks that nobody needs are forgotten, blocks that nobody writes to any more are read-only, the others get the next names. -/
namespace Go.Proofs.Ytdpibcniodhinaa.Gh
open Go Go.RowKit
set_option linter.unusedVariables false
set_option linter.unusedSimpArgs false

inductive Tr (H : Heap) (n n' : Nat) (κ : Nat → Nat) : GV → GV → Prop
  | int (k : IntKind) (i : Int) : Tr H n n' κ (.int k i) (.int k i)
  | bool (b : Bool) : Tr H n n' κ (.bool b) (.bool b)
  | nil : Tr H n n' κ .nil .nil
  | nilsl : Tr H n n' κ .nil (.sl 0 [])
  | emp : Tr H n n' κ .emp .emp
  | nilp : Tr H n n' κ .nilp .nilp
  | undef (g : GV) : Tr H n n' κ g .undef
  | lit (cs cs' : List GV) : cs'.length = cs.length → (∀ j, j < cs.length → Tr H n n' κ (gat cs j) (gat cs' j)) → Tr H n n' κ (.lit cs) (.lit cs')
  | sl (m : Nat) (cs cs' : List GV) : cs'.length = cs.length → (∀ j, j < cs.length → Tr H n n' κ (gat cs j) (gat cs' j)) → Tr H n n' κ (.sl m cs) (.sl m cs')
  | pp (cs cs' : List GV) (o : Nat) : cs'.length = cs.length → (∀ j, j < cs.length → Tr H n n' κ (gat cs j) (gat cs' j)) → Tr H n n' κ (.pp cs o) (.pp cs' o)
  | agg (cs cs' : List GV) : cs'.length = cs.length → (∀ j, j < cs.length → Tr H n n' κ (gat cs j) (gat cs' j)) → Tr H n n' κ (.agg cs) (.agg cs')
  | tup (cs cs' : List GV) : cs'.length = cs.length → (∀ j, j < cs.length → Tr H n n' κ (gat cs j) (gat cs' j)) → Tr H n n' κ (.tup cs) (.tup cs')
  | fn (f : FuncId) (cs cs' : List GV) : cs'.length = cs.length → (∀ j, j < cs.length → Tr H n n' κ (gat cs j) (gat cs' j)) → Tr H n n' κ (.fn f cs) (.fn f cs')
  | own (b o m : Nat) : b < n → Tr H n n' κ (.own b o m) (.own b o m)
  | ownk (i o m : Nat) : n ≤ i → i < n' → H (κ i) ≠ none → Tr H n n' κ (.own (κ i) o m) (.own i o m)
  | ownf (b o m : Nat) (cs cs' : List GV) : H b = some cs → n ≤ b → (∀ i, n ≤ i → i < n' → κ i ≠ b) → o + m ≤ cs.length → cs'.length = m → (∀ j, j < m → Tr H n n' κ (gat cs (o + j)) (gat cs' j)) → Tr H n n' κ (.own b o m) (.sl m cs')
  | ptr (b o : Nat) : b < n → Tr H n n' κ (.ptr b o) (.ptr b o)
  | ptrk (i o : Nat) : n ≤ i → i < n' → H (κ i) ≠ none → Tr H n n' κ (.ptr (κ i) o) (.ptr i o)
  | ptrf (b o : Nat) (cs cs' : List GV) : H b = some cs → n ≤ b → (∀ i, n ≤ i → i < n' → κ i ≠ b) → 0 < cs.length → cs'.length = cs.length → (∀ j, j < cs.length → Tr H n n' κ (gat cs j) (gat cs' j)) → Tr H n n' κ (.ptr b o) (.pp cs' o)

def Trs (H : Heap) (n n' : Nat) (κ : Nat → Nat) (cs cs' : List GV) : Prop := cs'.length = cs.length ∧ ∀ j, j < cs.length → Tr H n n' κ (gat cs j) (gat cs' j)

/-- what leads to old names alone stays as it is -/
theorem Sc.tr {H0 H : Heap} {n n' : Nat} {κ : Nat → Nat} (hF : Fr H0 n) {g : GV} (h : Sc H0 n g) : Tr H n n' κ g g := by
  have low : ∀ b, H0 b ≠ none ∨ b < n → b < n := by
    intro b hb
    rcases hb with hb | hb
    · rcases Nat.lt_or_ge b n with h | h
      · exact h
      · exact absurd (hF b h) hb
    · exact hb
  induction h with
  | int k i => exact .int k i
  | bool b => exact .bool b
  | nil => exact .nil
  | emp => exact .emp
  | lit cs _ ih => exact .lit cs cs rfl ih
  | sl m cs _ ih => exact .sl m cs cs rfl ih
  | own b o m hb => exact .own b o m (low b hb)
  | ptr b o hb => exact .ptr b o (low b hb)
  | pp cs o _ ih => exact .pp cs cs o rfl ih
  | nilp => exact .nilp
  | agg cs _ ih => exact .agg cs cs rfl ih
  | tup cs _ ih => exact .tup cs cs rfl ih
  | fn f cs _ ih => exact .fn f cs cs rfl ih
  | undef => exact .undef _

/-- the new telling -/
structure Told (H : Heap) (n n' : Nat) (κ : Nat → Nat) (H' : Heap) : Prop where
  le : n ≤ n'
  old : ∀ b, b < n → (H b = none → H' b = none) ∧ ∀ cs, H b = some cs → ∃ cs', H' b = some cs' ∧ Trs H n n' κ cs cs'
  new : ∀ i, n ≤ i → i < n' → ∃ cs cs', H (κ i) = some cs ∧ n ≤ κ i ∧ H' i = some cs' ∧ Trs H n n' κ cs cs'
  inj : ∀ i j, n ≤ i → i < n' → n ≤ j → j < n' → κ i = κ j → i = j
  fr : Fr H' n'

def told (K : Kr) (n n' : Nat) (κ : Nat → Nat) (H' : Heap) : Kr where
  σ b := if b < n then K.σ b else K.σ (κ b)
  sz b := if b < n then K.sz b else K.sz (κ b)
  H := H'
  lo := n'
  w := K.w
  S B := K.S B ∨ ∃ b, n ≤ b ∧ K.H b ≠ none ∧ 0 < K.sz b ∧ (∀ i, n ≤ i → i < n' → κ i ≠ b) ∧ B = K.σ b

section
variable {K : Kr} {n n' : Nat} {κ : Nat → Nat} {H' : Heap}
theorem told_VR (hs : Sat K) (T : Told K.H n n' κ H') {g g' : GV} (t : Tr K.H n n' κ g g') : ∀ {v : Value}, VR K g v → VR (told K n n' κ H') g' v := by
  have live : ∀ b, b < n → K.H b ≠ none → H' b ≠ none := by
    intro b hb h
    obtain ⟨cs, hc⟩ := Option.ne_none_iff_exists'.1 h
    obtain ⟨cs', h1, _⟩ := (T.old b hb).2 cs hc
    rw [h1]; simp
  have livek : ∀ i, n ≤ i → i < n' → H' i ≠ none := by
    intro i h1 h2
    obtain ⟨cs, cs', _, _, h, _⟩ := T.new i h1 h2
    rw [h]; simp
  have hσ : ∀ b, b < n → (told K n n' κ H').σ b = K.σ b := fun b hb => if_pos hb
  have hz : ∀ b, b < n → (told K n n' κ H').sz b = K.sz b := fun b hb => if_pos hb
  have hσk : ∀ b, n ≤ b → (told K n n' κ H').σ b = K.σ (κ b) := fun b hb => if_neg (by omega)
  have hzk : ∀ b, n ≤ b → (told K n n' κ H').sz b = K.sz (κ b) := fun b hb => if_neg (by omega)
  induction t with
  | int k i => intro v h; cases h; exact .int k i
  | bool b => intro v h; cases h; exact .bool b
  | nil => intro v h; cases h; exact .nil
  | nilsl => intro v h; cases h; exact .sl0 0 0 none (Nat.le_refl _)
  | emp => intro v h; cases h; exact .emp _
  | nilp => intro v h; cases h; exact .nilp
  | undef g => intro v h; exact .undef v
  | lit cs cs' hl _ ih =>
    intro v h
    cases h with
    | lit B o _ us h1 h2 h3 => rw [← hl]; exact .lit B o cs' us (.inl h1) (fun j hj => h2 j (by omega)) fun j hj => ih j (by omega) (h3 j (by omega))
  | sl m cs cs' hl _ ih =>
    intro v h
    cases h with
    | sl0 _ c A h1 =>
      have : cs' = [] := by simpa using hl
      subst this; exact .sl0 _ _ _ h1
    | sl _ c B o _ us h0 h1 h2 h3 => exact .sl m c B o cs' us h0 (.inl h1) (fun j hj => h2 j (by omega)) fun j hj => ih j (by omega) (h3 j (by omega))
  | pp cs cs' o hl _ ih =>
    intro v h
    cases h with
    | pp B p _ _ us h1 h2 h3 => exact .pp B p o cs' us (.inl h1) (fun j hj => h2 j (by omega)) fun j hj => ih j (by omega) (h3 j (by omega))
  | agg cs cs' hl _ ih =>
    intro v h
    cases h with
    | agg _ us h1 h3 => exact .agg cs' us (by omega) fun j hj => ih j (by omega) (h3 j (by omega))
  | tup cs cs' hl _ ih =>
    intro v h
    cases h with
    | tup _ us h1 h3 => exact .tup cs' us (by omega) fun j hj => ih j (by omega) (h3 j (by omega))
  | fn f cs cs' hl _ ih =>
    intro v h
    cases h with
    | fn _ _ us h1 h3 => exact .fn f cs' us (by omega) fun j hj => ih j (by omega) (h3 j (by omega))
  | own b o m hb =>
    intro v h
    cases h with
    | own _ _ _ c h1 h2 h3 => rw [← hσ b hb]; exact .own b o m c (live b hb h1) (by rw [hz b hb]; exact h2) h3
    | own0 _ _ A h1 => exact .own0 b o A (.inr (show b < n' by have := T.le; omega))
    | owns _ _ _ B c h1 h2 h3 => exact .owns b o m B c ((T.old b hb).1 h1) (show b < n' by have := T.le; omega) h3
  | ownk i o m h1 h2 hne =>
    intro v h
    cases h with
    | own _ _ _ c g1 g2 g3 => rw [← hσk i h1]; exact .own i o m c (livek i h1 h2) (by rw [hzk i h1]; exact g2) g3
    | own0 _ _ A g1 => exact .own0 i o A (.inl (livek i h1 h2))
    | owns _ _ _ B c g1 _ _ => exact absurd g1 hne
  | ownf b o m cs cs' hb hn hk hle hl _ ih =>
    intro v h
    cases h with
    | own _ _ _ c g1 g2 g3 =>
      rcases Nat.eq_zero_or_pos m with h0 | h0
      · subst h0
        have : cs' = [] := by simpa using hl
        subst this; exact .sl0 _ _ _ g3
      · have hz := hs.len b cs hb
        obtain ⟨row, T', q1, q2, q3, q4⟩ := hs.blk b cs hb (by omega)
        refine .sl m c _ o cs' (fun j => vat row (o + j)) g3 (.inr ⟨b, hn, by rw [hb]; simp, by omega, hk, rfl⟩) (fun j hj => ?_) fun j hj => ih j (by omega) (q3 _ (by omega))
        show K.w.cell? _ = _
        simp only [World.cell?, q1]
        have : o + j < row.size := by omega
        simp [vat, Array.getD, this]
    | own0 _ _ A g1 =>
      have : cs' = [] := by simpa using hl
      subst this; exact .sl0 _ _ _ (Nat.le_refl _)
    | owns _ _ _ B c g1 _ _ => rw [hb] at g1; cases g1
  | ptr b o hb =>
    intro v h
    cases h with
    | ptr _ _ h1 => rw [← hσ b hb]; exact .ptr b o (live b hb h1)
    | ptrs _ _ B h1 h2 => exact .ptrs b o B ((T.old b hb).1 h1) (show b < n' by have := T.le; omega)
  | ptrk i o h1 h2 hne =>
    intro v h
    cases h with
    | ptr _ _ g1 => rw [← hσk i h1]; exact .ptr i o (livek i h1 h2)
    | ptrs _ _ B g1 g2 => exact absurd g1 hne
  | ptrf b o cs cs' hb hn hk hpos hl _ ih =>
    intro v h
    cases h with
    | ptr _ _ g1 =>
      have hz := hs.len b cs hb
      obtain ⟨row, T', q1, q2, q3, q4⟩ := hs.blk b cs hb (by omega)
      have := VR.pp (K := told K n n' κ H') (K.σ b) 0 o cs' (fun j => vat row j) (.inr ⟨b, hn, g1, by omega, hk, rfl⟩) (fun j hj => ?_) fun j hj => ih j (by omega) (q3 _ (by omega))
      · rwa [Nat.zero_add] at this
      · show K.w.cell? _ = _
        simp only [World.cell?, q1]
        have : j < row.size := by omega
        simp [vat, Array.getD, this]
    | ptrs _ _ B g1 g2 => rw [hb] at g1; cases g1

theorem told_step {K0 : Kr} (h : KStep K0 K) (hlo : K0.lo = n) (hF : Fr K0.H n) (T : Told K.H n n' κ H') : KStep K0 (told K n n' κ H') where
  os := h.os
  tape := h.tape
  output := h.output
  size := h.size
  S B hb := .inl (h.S B hb)
  keep := h.keep
  lo := by rw [hlo]; exact T.le
  live b h1 h2 := by
    have hb : b < n := by
      rcases Nat.lt_or_ge b n with h | h
      · exact h
      · exact absurd (hF b h) h1
    have h3 : K.H b ≠ none := fun e => h2 ((T.old b hb).1 e)
    obtain ⟨a1, a2⟩ := h.live b h1 h3
    exact ⟨(if_pos hb).trans a1, (if_pos hb).trans a2⟩
  dies b h1 _ := by
    have hb : b < n := by
      rcases Nat.lt_or_ge b n with h | h
      · exact h
      · exact absurd (hF b h) h1
    exact Nat.lt_of_lt_of_le hb T.le
  dead b hb e := by
    rw [hlo] at hb
    exact (T.old b hb).1 (h.dead b (by rw [hlo]; exact hb) e)

theorem told_sat (hs : Sat K) (T : Told K.H n n' κ H') : Sat (told K n n' κ H') := by
  have hσ : ∀ b, b < n → (told K n n' κ H').σ b = K.σ b := fun b hb => if_pos hb
  have hz : ∀ b, b < n → (told K n n' κ H').sz b = K.sz b := fun b hb => if_pos hb
  have hσk : ∀ b, n ≤ b → (told K n n' κ H').σ b = K.σ (κ b) := fun b hb => if_neg (by omega)
  have hzk : ∀ b, n ≤ b → (told K n n' κ H').sz b = K.sz (κ b) := fun b hb => if_neg (by omega)
  -- each block comes from one
  have src : ∀ b cs', H' b = some cs' → ∃ c cs, K.H c = some cs ∧ Trs K.H n n' κ cs cs' ∧ (told K n n' κ H').σ b = K.σ c ∧ (told K n n' κ H').sz b = K.sz c ∧ ((b < n ∧ c = b) ∨ (n ≤ b ∧ b < n' ∧ c = κ b ∧ n ≤ κ b)) := by
    intro b cs' e
    rcases Nat.lt_or_ge b n with hb | hb
    · cases hc : K.H b with
      | none => rw [(T.old b hb).1 hc] at e; cases e
      | some cs =>
        obtain ⟨cs2, h1, h2⟩ := (T.old b hb).2 cs hc
        rw [h1] at e; simp only [Option.some.injEq] at e; subst e
        exact ⟨b, cs, hc, h2, hσ b hb, hz b hb, .inl ⟨hb, rfl⟩⟩
    · rcases Nat.lt_or_ge b n' with hb' | hb'
      · obtain ⟨cs, cs2, h1, h2, h3, h4⟩ := T.new b hb hb'
        rw [h3] at e; simp only [Option.some.injEq] at e; subst e
        exact ⟨κ b, cs, h1, h4, hσk b hb, hzk b hb, .inr ⟨hb, hb', rfl, h2⟩⟩
      · rw [T.fr b hb'] at e; cases e
  refine ⟨fun b cs' e => ?_, fun b cs' e hz0 => ?_, fun b b' h1 h2 hz1 hz2 e => ?_, fun B hB => ?_⟩
  · obtain ⟨c, cs, h1, h2, h3, h4, _⟩ := src b cs' e
    rw [h4, h2.1]; exact hs.len c cs h1
  · obtain ⟨c, cs, h1, h2, h3, h4, h5⟩ := src b cs' e
    rw [h4] at hz0
    obtain ⟨row, T', q1, q2, q3, q4⟩ := hs.blk c cs h1 hz0
    refine ⟨row, T', by rw [h3]; exact q1, by rw [h4]; exact q2, fun j hj => told_VR hs T (h2.2 j (by have := h2.1; omega)) (q3 j (by have := h2.1; omega)), ?_⟩
    rw [h3]
    rintro (hS | ⟨b2, g1, g2, g3, g4, g5⟩)
    · exact q4 hS
    · have := hs.inj c b2 (by rw [h1]; simp) g2 hz0 g3 g5
      subst this
      rcases h5 with ⟨h6, h7⟩ | ⟨h6, h7, h8, h9⟩
      · omega
      · exact g4 b h6 h7 h8.symm
  · obtain ⟨c1, e1⟩ := Option.ne_none_iff_exists'.1 h1
    obtain ⟨c2, e2⟩ := Option.ne_none_iff_exists'.1 h2
    obtain ⟨c, cs, p1, p2, p3, p4, p5⟩ := src b c1 e1
    obtain ⟨c', cs2, r1, r2, r3, r4, r5⟩ := src b' c2 e2
    rw [p4] at hz1; rw [r4] at hz2; rw [p3, r3] at e
    have := hs.inj c c' (by rw [p1]; simp) (by rw [r1]; simp) hz1 hz2 e
    subst this
    rcases p5 with ⟨h6, h7⟩ | ⟨h6, h7, h8, h9⟩
    · rcases r5 with ⟨g6, g7⟩ | ⟨g6, g7, g8, g9⟩
      · omega
      · omega
    · rcases r5 with ⟨g6, g7⟩ | ⟨g6, g7, g8, g9⟩
      · omega
      · exact T.inj b b' h6 h7 g6 g7 (by rw [← h8, ← g8])
  · rcases hB with hS | ⟨b, g1, g2, g3, g4, g5⟩
    · exact hs.sS B hS
    · obtain ⟨cs, e⟩ := Option.ne_none_iff_exists'.1 g2
      rw [g5]; exact alive_lt hs e g3
end

/-- what a body leaves, told anew -/
def GFun.told (F : GFun) (H : Heap) (n : Nat) (g : GV) (H' : Heap) (n' : Nat) : GPost := fun e t H1 n1 => match e with
  | .exit _ => False
  | _ => ∃ g1 κ, gretv t H1 F.res = some g1 ∧ Tr H1 n n' κ g1 g ∧ n ≤ n' ∧ Fr H' n' ∧ (∀ i j, n ≤ i → i < n' → n ≤ j → j < n' → κ i = κ j → i = j) ∧
      (∀ b, b < n → (H1 b = H b ∧ H' b = H b) ∨ ((H1 b = none ∧ H' b = none) ∨ ∃ cs cs', H1 b = some cs ∧ H' b = some cs' ∧ Trs H1 n n' κ cs cs')) ∧
      (∀ i, n ≤ i → i < n' → ∃ cs cs', H1 (κ i) = some cs ∧ n ≤ κ i ∧ H' i = some cs' ∧ Trs H1 n n' κ cs cs')

theorem spec_told {P : Program} (hm : P.follows .mixedOrders = true) {f : FuncId} {F : GFun} (hok : okFun P f F = true) {args : List GV} (ha : args.length = F.np) {H : Heap} {n : Nat} {g : GV} {H' : Heap} {n' : Nat}
    (hg : Fr H n → gw P F.body (F.told H n g H' n') (tl F.nt (mkE 0 args)) H n) : Spec P f args H n g H' n' := by
  intro K vs e1 e2 hF hs hv
  subst e1 e2
  have hg := hg hF
  unfold okFun at hok
  split at hok
  · rename_i fn hfn
    split at hok
    · rename_i c hc
      simp only [Bool.and_eq_true, beq_iff_eq, decide_eq_true_eq] at hok
      obtain ⟨⟨⟨h1, h2⟩, h3⟩, h4⟩ := hok
      rw [← args_tl ha h4] at hg
      refine calls_of_wp hfn hc ?_
      rw [h3, show vs.size = F.np from by rw [hv.1, ha]]
      refine gw_sound hm F.body c _ _ K _ _ h1 hs hF (by have := hv.tr (F.nt - F.np); exact this) hg fun e t' K' a' q1 q2 q3 q4 q5 q6 => ?_
      have fin : (∃ g1 κ, gretv t' K'.H F.res = some g1 ∧ Tr K'.H K.lo n' κ g1 g ∧ K.lo ≤ n' ∧ Fr H' n' ∧ (∀ i j, K.lo ≤ i → i < n' → K.lo ≤ j → j < n' → κ i = κ j → i = j) ∧
          (∀ b, b < K.lo → (K'.H b = K.H b ∧ H' b = K.H b) ∨ ((K'.H b = none ∧ H' b = none) ∨ ∃ cs cs', K'.H b = some cs ∧ H' b = some cs' ∧ Trs K'.H K.lo n' κ cs cs')) ∧
          (∀ i, K.lo ≤ i → i < n' → ∃ cs cs', K'.H (κ i) = some cs ∧ K.lo ≤ κ i ∧ H' i = some cs' ∧ Trs K'.H K.lo n' κ cs cs')) →
          a'.defers = [] ∧ ∃ v, (results fn a'.tmps).run P K'.w = .ok v K'.w ∧ ∃ v1 K1, Ending.returned v = .returned v1 ∧ K1.w = K'.w ∧ KStep K K1 ∧ K1.H = H' ∧ K1.lo = n' ∧ Fr H' n' ∧ Sat K1 ∧ VR K1 g v1 := by
        rintro ⟨g1, κ, p1, p2, p3, p4, p5, p6, p7⟩
        obtain ⟨v, r1, r2⟩ := results_sound q4 q5 h2 p1
        have T : Told K'.H K.lo n' κ H' := by
          refine ⟨p3, fun b hb => ?_, p7, p5, p4⟩
          rcases p6 b hb with ⟨z1, z2⟩ | ⟨z1, z2⟩ | ⟨cs, cs', z1, z2, z3⟩
          · refine ⟨fun e => by rw [z2, ← z1]; exact e, fun cs e => ⟨cs, by rw [z2, ← z1]; exact e, rfl, fun j hj => ?_⟩⟩
            rw [z1] at e
            have hz := hs.len b cs e
            obtain ⟨row, T', y1, y2, y3, y4⟩ := hs.blk b cs e (by omega)
            exact (y3 j hj).sc.tr hF
          · exact ⟨fun _ => z2, fun cs e => by rw [z1] at e; cases e⟩
          · exact ⟨fun e => (by rw [z1] at e; cases e), fun cs2 e => by
              rw [z1] at e; simp only [Option.some.injEq] at e; subst e
              exact ⟨cs', z2, z3⟩⟩
        exact ⟨q6, v, r1, v, Gh.told K' K.lo n' κ H', rfl, rfl, told_step q2 rfl hF T, rfl, rfl, p4, told_sat q4 T, told_VR q4 T p2 r2⟩
      cases e with
      | normal => exact fin q1
      | ret => exact fin q1
      | exit id => exact q1.elim
    · cases hok
  · cases hok
/-- .. with several ends -/
theorem spec_toldS {P : Program} (hm : P.follows .mixedOrders = true) {f : FuncId} {F : GFun} (hok : okFun P f F = true) {args : List GV} (ha : args.length = F.np) {H : Heap} {n : Nat} {G : GV → Heap → Nat → Prop}
    (hg : Fr H n → gw P F.body (fun e t H1 n1 => ∃ g H' n', G g H' n' ∧ F.told H n g H' n' e t H1 n1) (tl F.nt (mkE 0 args)) H n) : SpecS P f args H n G := by
  intro K vs e1 e2 hF hs hv
  subst e1 e2
  have hg := hg hF
  unfold okFun at hok
  split at hok
  · rename_i fn hfn
    split at hok
    · rename_i c hc
      simp only [Bool.and_eq_true, beq_iff_eq, decide_eq_true_eq] at hok
      obtain ⟨⟨⟨h1, h2⟩, h3⟩, h4⟩ := hok
      rw [← args_tl ha h4] at hg
      refine calls_of_wp hfn hc ?_
      rw [h3, show vs.size = F.np from by rw [hv.1, ha]]
      refine gw_sound hm F.body c _ _ K _ _ h1 hs hF (by have := hv.tr (F.nt - F.np); exact this) hg fun e t' K' a' q1 q2 q3 q4 q5 q6 => ?_
      obtain ⟨g, H', n', q0, q1⟩ := q1
      have fin : (∃ g1 κ, gretv t' K'.H F.res = some g1 ∧ Tr K'.H K.lo n' κ g1 g ∧ K.lo ≤ n' ∧ Fr H' n' ∧ (∀ i j, K.lo ≤ i → i < n' → K.lo ≤ j → j < n' → κ i = κ j → i = j) ∧
          (∀ b, b < K.lo → (K'.H b = K.H b ∧ H' b = K.H b) ∨ ((K'.H b = none ∧ H' b = none) ∨ ∃ cs cs', K'.H b = some cs ∧ H' b = some cs' ∧ Trs K'.H K.lo n' κ cs cs')) ∧
          (∀ i, K.lo ≤ i → i < n' → ∃ cs cs', K'.H (κ i) = some cs ∧ K.lo ≤ κ i ∧ H' i = some cs' ∧ Trs K'.H K.lo n' κ cs cs')) →
          a'.defers = [] ∧ ∃ v, (results fn a'.tmps).run P K'.w = .ok v K'.w ∧ ∃ g H' n' v1 K1, G g H' n' ∧ Ending.returned v = .returned v1 ∧ K1.w = K'.w ∧ KStep K K1 ∧ K1.H = H' ∧ K1.lo = n' ∧ Fr H' n' ∧ Sat K1 ∧ VR K1 g v1 := by
        rintro ⟨g1, κ, p1, p2, p3, p4, p5, p6, p7⟩
        obtain ⟨v, r1, r2⟩ := results_sound q4 q5 h2 p1
        have T : Told K'.H K.lo n' κ H' := by
          refine ⟨p3, fun b hb => ?_, p7, p5, p4⟩
          rcases p6 b hb with ⟨z1, z2⟩ | ⟨z1, z2⟩ | ⟨cs, cs', z1, z2, z3⟩
          · refine ⟨fun e => by rw [z2, ← z1]; exact e, fun cs e => ⟨cs, by rw [z2, ← z1]; exact e, rfl, fun j hj => ?_⟩⟩
            rw [z1] at e
            have hz := hs.len b cs e
            obtain ⟨row, T', y1, y2, y3, y4⟩ := hs.blk b cs e (by omega)
            exact (y3 j hj).sc.tr hF
          · exact ⟨fun _ => z2, fun cs e => by rw [z1] at e; cases e⟩
          · exact ⟨fun e => (by rw [z1] at e; cases e), fun cs2 e => by
              rw [z1] at e; simp only [Option.some.injEq] at e; subst e
              exact ⟨cs', z2, z3⟩⟩
        exact ⟨q6, v, r1, g, H', n', v, Gh.told K' K.lo n' κ H', q0, rfl, rfl, told_step q2 rfl hF T, rfl, rfl, p4, told_sat q4 T, told_VR q4 T p2 r2⟩
      cases e with
      | normal => exact fin q1
      | ret => exact fin q1
      | exit id => exact q1.elim
    · cases hok
  · cases hok
end Go.Proofs.Ytdpibcniodhinaa.Gh
/- The equations of the ghost code's control, the rule of loops, and the forms of a contract. -/
namespace Go.Proofs.Ytdpibcniodhinaa.Gh
open Go Go.RowKit
set_option linter.unusedVariables false
set_option linter.unusedSimpArgs false

section
variable {P : Program} {N n m n0 : Nat} {E : Env} {H H0 : Heap} {k : List GV → Heap → Nat → Prop} {q : Kn} {Q : GPost} {d : Option Nat} {g v : GV} {op : GOp} {rest : List GOper} {x y z : GX} {t : List GV} {a b : GCode}

def kseq (P : Program) (b : GCode) (Q : GPost) : GPost := fun e t' H' n' => match e with
  | .normal => gw P b Q t' H' n'
  | e => Q e t' H' n'
def kblk (id : Nat) (Q : GPost) : GPost := fun e t' H' n' => match e with
  | .exit id' => if id' = id then Q .normal t' H' n' else Q (.exit id') t' H' n'
  | e => Q e t' H' n'
theorem w_skip : gw P .skip Q t H n = Q .normal t H n := rfl
theorem w_region (ops : List GOper) : gw P (.region ops) Q t H n = gops P ops (Q .normal) t H n := rfl
theorem w_seq : gw P (.seq a b) Q t H n = gw P a (kseq P b Q) t H n := rfl
theorem w_block (id : Nat) : gw P (.block id a) Q t H n = gw P a (kblk id Q) t H n := rfl
theorem w_exit (id : Nat) : gw P (.exit id) Q t H n = Q (.exit id) t H n := rfl
theorem w_ret : gw P .ret Q t H n = Q .ret t H n := rfl
theorem s_n : kseq P b Q .normal t H n = gw P b Q t H n := rfl
theorem s_x (id : Nat) : kseq P b Q (.exit id) t H n = Q (.exit id) t H n := rfl
theorem s_r : kseq P b Q .ret t H n = Q .ret t H n := rfl
theorem b_n (id : Nat) : kblk id Q .normal t H n = Q .normal t H n := rfl
theorem b_x (id id' : Nat) : kblk id Q (.exit id') t H n = if id' = id then Q .normal t H n else Q (.exit id') t H n := rfl
theorem b_r (id : Nat) : kblk id Q .ret t H n = Q .ret t H n := rfl
def hcond (P : Program) (a b : GCode) (Q : GPost) (t : List GV) (H : Heap) (n : Nat) : GV → Prop
  | .bool v => if v then gw P a Q t H n else gw P b Q t H n
  | _ => False
theorem w_cond : gw P (.cond x a b) Q t H n = hcond P a b Q t H n (gev t x) := by
  simp only [gw]; generalize gev t x = v; cases v <;> rfl
theorem c_t : hcond P a b Q t H n (.bool true) = gw P a Q t H n := rfl
theorem c_f : hcond P a b Q t H n (.bool false) = gw P b Q t H n := rfl
theorem c_split {p : Prop} {_ : Decidable p} (ht : p → gw P a Q t H n) (hf : ¬ p → gw P b Q t H n) : hcond P a b Q t H n (.bool (decide p)) := by
  by_cases h : p
  · simp only [h, decide_true, c_t]; exact ht h
  · simp only [h, decide_false, c_f]; exact hf h
def hloop (P : Program) (B : GCode) (Q : GPost) (t : List GV) (H : Heap) (n : Nat) : Prop := ∃ k, gloop (gw P B) k Q t H n
theorem w_loop : gw P (.loop a) Q t H n = hloop P a Q t H n := rfl

/-- behind a round of a loop: the invariant, or the loop is left -/
def kloop (N : Nat) (J : Env → Heap → Nat → Prop) (Q : GPost) : GPost := fun e t H n => match e with
  | .normal => ∃ E, t = tl N E ∧ J E H n
  | e => Q e t H n
theorem l_n {J : Env → Heap → Nat → Prop} (h : J E H n) : kloop N J Q .normal (tl N E) H n := ⟨E, rfl, h⟩
theorem l_x {J : Env → Heap → Nat → Prop} (id : Nat) : kloop N J Q (.exit id) t H n = Q (.exit id) t H n := rfl
theorem l_r {J : Env → Heap → Nat → Prop} : kloop N J Q .ret t H n = Q .ret t H n := rfl

theorem gops_mono {gl : List GOper} : ∀ {k k' : List GV → Heap → Nat → Prop} {t : List GV} {H : Heap} {n : Nat}, (∀ t H n, k t H n → k' t H n) → gops P gl k t H n → gops P gl k' t H n := by
  have gop_mono : ∀ {q q' : Kn} {t : List GV} {H : Heap} {n : Nat} {op : GOp}, (∀ g H n, q g H n → q' g H n) → gop P t H n q op → gop P t H n q' op := by
    intro q q' t H n op hq h
    have pur : (match gpure t op with | some g => q g H n | none => False) → (match gpure t op with | some g => q' g H n | none => False) := by
      intro h
      split at h
      · exact hq _ _ _ h
      · exact h.elim
    cases op with
    | isnilu neg x =>
      simp only [gop] at h ⊢
      split at h
      · exact ⟨fun e => hq _ _ _ (h.1 e), hq _ _ _ h.2⟩
      · exact h.elim
    | load mo x =>
      rw [e_load] at h ⊢
      unfold hcell at h ⊢
      split at h
      · split at h
        · cases mo <;> exact ⟨h.1, hq _ _ _ h.2⟩
        · exact h.elim
      · cases mo <;> exact ⟨h.1, hq _ _ _ h.2⟩
      · exact h.elim
    | store m x v =>
      rw [e_store] at h ⊢
      unfold hstore at h ⊢
      split at h
      · split at h
        · exact ⟨h.1, h.2.1, h.2.2.1, hq _ _ _ h.2.2.2⟩
        · exact h.elim
      · exact h.elim
    | box v =>
      rw [e_box] at h ⊢
      unfold hbox at h ⊢
      split at h
      · exact hq _ _ _ h
      · exact h.elim
    | alloc cs => exact hq _ _ _ h
    | empty => exact hq _ _ _ h
    | bslice m cells parts =>
      rw [e_bslice] at h ⊢
      unfold hbs at h ⊢
      split at h
      · exact ⟨h.1, hq _ _ _ h.2⟩
      · exact h.elim
    | blit cells parts =>
      rw [e_blit] at h ⊢
      unfold hbl at h ⊢
      split at h
      · exact hq _ _ _ h
      · exact h.elim
    | mslicep z bytes l c =>
      simp only [gop] at h ⊢
      split at h
      · exact ⟨h.1, h.2.1, h.2.2.1, h.2.2.2.1, hq _ _ _ h.2.2.2.2⟩
      · exact h.elim
    | mslice z bytes l c =>
      simp only [gop] at h ⊢
      split at h
      · exact ⟨h.1, h.2.1, h.2.2.1, h.2.2.2.1, hq _ _ _ h.2.2.2.2⟩
      · exact h.elim
    | append bytes s x =>
      simp only [gop] at h ⊢
      split at h
      · exact h.elim
      · split at h
        · exact ⟨h.1, hq _ _ _ h.2⟩
        · exact ⟨h.1, hq _ _ _ h.2⟩
        · exact ⟨h.1, h.2.1, hq _ _ _ h.2.2⟩
        · split at h
          · exact ⟨h.1, h.2.1, h.2.2.1, hq _ _ _ h.2.2.2⟩
          · exact h.elim
        · exact h.elim
    | appendp bytes s x =>
      simp only [gop] at h ⊢
      split at h
      · split at h
        · exact ⟨h.1, hq _ _ _ h.2⟩
        · exact ⟨h.1, hq _ _ _ h.2⟩
        · exact ⟨h.1, hq _ _ _ h.2⟩
        · exact h.elim
      · exact h.elim
    | copy d s =>
      simp only [gop] at h ⊢
      split at h
      · split at h
        · exact ⟨h.1, h.2.1, hq _ _ _ h.2.2⟩
        · exact h.elim
      · exact h.elim
    | call f args =>
      obtain ⟨G, h1, h2⟩ := h
      exact ⟨G, h1, fun g H' n' e => hq _ _ _ (h2 _ _ _ e)⟩
    | callv x args =>
      simp only [gop] at h ⊢
      split at h
      · obtain ⟨G, h0, h1, h2⟩ := h
        exact ⟨G, h0, h1, fun g H' n' e => hq _ _ _ (h2 _ _ _ e)⟩
      · exact h.elim
    | _ => exact pur h
  induction gl with
  | nil => intro k k' t H n hk h; exact hk _ _ _ h
  | cons o gl ih =>
    intro k k' t H n hk h
    simp only [gops] at h ⊢
    split at h
    · rename_i hg; exact gop_mono (fun g H n h => ih hk h) h
    · split at h
      · split at h
        · rename_i hb; rw [if_pos hb]; exact gop_mono (fun g H n h => ih hk h) h
        · rename_i hb; rw [if_neg hb]; exact ih hk h
      · exact ih hk h
      · exact h.elim

theorem gmops_mono {gl : List GOper} : ∀ {k k' : List GV → Heap → Nat → Prop} {t : List GV} {H : Heap} {n : Nat}, (∀ t H n, k t H n → k' t H n) → gmops P H0 n0 gl k t H n → gmops P H0 n0 gl k' t H n := by
  have mono : ∀ {q q' : GV → Option (List GV) → Prop} {t : List GV} {n : Nat} {op : GOp}, (∀ g w, q g w → q' g w) → gmop P H0 n0 t n q op → gmop P H0 n0 t n q' op := by
    intro q q' t n op hq h
    obtain ⟨g, w, h1, h2⟩ := gmop_split h
    have h3 := hq _ _ h2
    have pur : (match gpure t op with | some g' => g' = g ∧ none = w | none => False) → (match gpure t op with | some g => q' g none | none => False) := by
      intro h
      split at h
      · obtain ⟨rfl, rfl⟩ := h; exact h3
      · exact h.elim
    cases op with
    | load mo x =>
      cases mo <;> simp only [gmop] at h1 ⊢
      · split at h1
        · split at h1
          · obtain ⟨a, b, rfl, rfl⟩ := h1; exact ⟨a, b, h3⟩
          · exact h1.elim
        · obtain ⟨a, rfl, rfl⟩ := h1; exact ⟨a, h3⟩
        · exact h1.elim
      · split at h1
        · split at h1
          · obtain ⟨a, b, rfl, rfl⟩ := h1; exact ⟨a, b, h3⟩
          · exact h1.elim
        · obtain ⟨a, rfl, rfl⟩ := h1; exact ⟨a, h3⟩
        · exact h1.elim
    | box v =>
      simp only [gmop] at h1 ⊢
      split at h1
      · obtain ⟨rfl, rfl⟩ := h1; exact h3
      · exact h1.elim
    | alloc cs => obtain ⟨rfl, rfl⟩ := h1; exact h3
    | empty => obtain ⟨rfl, rfl⟩ := h1; exact h3
    | bslice m cells parts =>
      simp only [gmop] at h1 ⊢
      split at h1
      · obtain ⟨a, rfl, rfl⟩ := h1; exact ⟨a, h3⟩
      · exact h1.elim
    | blit cells parts =>
      simp only [gmop] at h1 ⊢
      split at h1
      · obtain ⟨rfl, rfl⟩ := h1; exact h3
      · exact h1.elim
    | mslicep z bytes l c =>
      simp only [gmop] at h1 ⊢
      split at h1
      · obtain ⟨a, b, c, d, rfl, rfl⟩ := h1; exact ⟨a, b, c, d, h3⟩
      · exact h1.elim
    | mslice z bytes l c =>
      simp only [gmop] at h1 ⊢
      split at h1
      · obtain ⟨a, b, c, d, rfl, rfl⟩ := h1; exact ⟨a, b, c, d, h3⟩
      · exact h1.elim
    | call f args =>
      obtain ⟨g', a, b, rfl, rfl⟩ := h1; exact ⟨g', a, b, h3⟩
    | append bytes s x =>
      simp only [gmop] at h1 ⊢
      split at h1
      · exact h1.elim
      · split at h1
        · obtain ⟨a, rfl, rfl⟩ := h1; exact ⟨a, h3⟩
        · obtain ⟨a, rfl, rfl⟩ := h1; exact ⟨a, h3⟩
        · exact h1.elim
    | appendp bytes s x =>
      simp only [gmop] at h1 ⊢
      split at h1
      · split at h1
        · obtain ⟨a, rfl, rfl⟩ := h1; exact ⟨a, h3⟩
        · obtain ⟨a, rfl, rfl⟩ := h1; exact ⟨a, h3⟩
        · obtain ⟨a, rfl, rfl⟩ := h1; exact ⟨a, h3⟩
        · exact h1.elim
      · exact h1.elim
    | isnilu neg x => exact h1.elim
    | store m x v => exact h1.elim
    | copy d s => exact h1.elim
    | callv x args => exact h1.elim
    | _ => exact pur h1
  induction gl with
  | nil => intro k k' t H n hk h; exact hk _ _ _ h
  | cons o gl ih =>
    intro k k' t H n hk h
    simp only [gmops] at h ⊢
    split at h
    · rename_i hg; exact mono (fun g w h => ih hk h) h
    · split at h
      · split at h
        · rename_i hb; rw [if_pos hb]; exact mono (fun g w h => ih hk h) h
        · rename_i hb; rw [if_neg hb]; exact ih hk h
      · exact h.elim

theorem gw_mono : ∀ (c : GCode) {Q Q' : GPost} {t : List GV} {H : Heap} {n : Nat}, (∀ e t H n, Q e t H n → Q' e t H n) → gw P c Q t H n → gw P c Q' t H n := by
  intro c
  induction c with
  | skip => intro Q Q' t H n hq h; exact hq _ _ _ _ h
  | region ops => intro Q Q' t H n hq h; exact gops_mono (hq _) h
  | draw ms pre tail => intro Q Q' t H n hq h; exact gmops_mono (fun t H n h => gops_mono (hq _) h) h
  | seq a b iha ihb =>
    intro Q Q' t H n hq h
    refine iha (fun e t H n h => ?_) h
    cases e with
    | normal => exact ihb hq h
    | exit id => exact hq _ _ _ _ h
    | ret => exact hq _ _ _ _ h
  | cond x a b iha ihb =>
    intro Q Q' t H n hq h
    rw [w_cond] at h ⊢
    unfold hcond at h ⊢
    split at h
    · rename_i v hv
      cases v with
      | true => exact iha hq h
      | false => exact ihb hq h
    · exact h.elim
  | block id a ih =>
    intro Q Q' t H n hq h
    refine ih (fun e t H n h => ?_) h
    cases e with
    | normal => exact hq _ _ _ _ h
    | exit id' =>
      simp only at h ⊢
      split at h
      · rename_i e; simp only [e, if_true]; exact hq _ _ _ _ h
      · rename_i e; simp only [e, if_false]; exact hq _ _ _ _ h
    | ret => exact hq _ _ _ _ h
  | loop a ih =>
    intro Q Q' t H n hq h
    obtain ⟨k, h⟩ := h
    refine ⟨k, ?_⟩
    induction k generalizing t H n with
    | zero => exact h.elim
    | succ k ihk =>
      refine ih (fun e t H n h => ?_) h
      cases e with
      | normal => exact ihk h
      | exit id => exact hq _ _ _ _ h
      | ret => exact hq _ _ _ _ h
  | exit id => intro Q Q' t H n hq h; exact hq _ _ _ _ h
  | ret => intro Q Q' t H n hq h; exact hq _ _ _ _ h

/-- the rule of loops: an invariant over a counter of one's own, and a measure that falls -/
theorem loop_rule {α : Type} (I : α → Env → Heap → Nat → Prop) (μ : α → Nat) (a0 : α) {B : GCode} (h0 : I a0 E H n)
    (step : ∀ a E H n, I a E H n → gw P B (kloop N (fun E' H' n' => ∃ a', μ a' < μ a ∧ I a' E' H' n') Q) (tl N E) H n) : hloop P B Q (tl N E) H n := by
  have key : ∀ (j : Nat) (a : α) (E : Env) (H : Heap) (n : Nat), μ a < j → I a E H n → gloop (gw P B) j Q (tl N E) H n := by
    intro j
    induction j with
    | zero => intro a E H n hj; omega
    | succ j ih =>
      intro a E H n hj hI
      refine gw_mono B (fun e t H n h => ?_) (step a E H n hI)
      cases e with
      | normal =>
        obtain ⟨E', rfl, a', hlt, hI'⟩ := h
        exact ih a' E' H n (by omega) hI'
      | exit id => exact h
      | ret => exact h
  exact ⟨_, key _ a0 E H n (Nat.lt_succ_self _) h0⟩
end
end Go.Proofs.Ytdpibcniodhinaa.Gh
/- The equations of regions whose order is open, and the forms of a contract. -/
namespace Go.Proofs.Ytdpibcniodhinaa.Gh
open Go Go.RowKit
set_option linter.unusedVariables false
set_option linter.unusedSimpArgs false

abbrev Km := GV → Option (List GV) → Prop
section
variable {P : Program} {N n m n0 : Nat} {E : Env} {H H0 : Heap} {k : List GV → Heap → Nat → Prop} {q : Km} {Q : GPost} {d : Option Nat} {g v : GV} {op : GOp} {rest tail pre : List GOper} {x y z : GX} {t : List GV} {a b : GCode}

def kdr (P : Program) (tail : List GOper) (Q : GPost) : List GV → Heap → Nat → Prop := fun t' H' n' => gops P tail (Q .normal) t' H' n'
theorem w_draw (ms : List Nat) : gw P (.draw ms pre tail) Q t H n = gmops P H n pre (kdr P tail Q) t H n := rfl
theorem d_kdr : kdr P tail Q t H n = gops P tail (Q .normal) t H n := rfl
def kmops (P : Program) (H0 : Heap) (n0 : Nat) (rest : List GOper) (k : List GV → Heap → Nat → Prop) (N : Nat) (E : Env) (d : Option Nat) (H : Heap) (n : Nat) : Km := fun g w => gmops P H0 n0 rest k (tl N (sto E d g)) (updo H n w) (nxt n w)
theorem m_nil : gmops P H0 n0 [] k t H n = k t H n := rfl
theorem m_cons : gmops P H0 n0 (⟨d, op, none⟩ :: rest) k (tl N E) H n = gmop P H0 n0 (tl N E) n (kmops P H0 n0 rest k N E d H n) op := by
  simp only [gmops, put_tl]
  rfl
theorem m_kmops (i : Nat) : kmops P H0 n0 rest k N E (some i) H n g none = gmops P H0 n0 rest k (tl N (st E i g)) H n := rfl
theorem m_kmopsn (i : Nat) (cs : List GV) : kmops P H0 n0 rest k N E (some i) H n g (some cs) = gmops P H0 n0 rest k (tl N (st E i g)) (upd H n (some cs)) (n + 1) := rfl
theorem m_kmops0 : kmops P H0 n0 rest k N E none H n g none = gmops P H0 n0 rest k (tl N E) H n := rfl
def hmgd (P : Program) (H0 : Heap) (n0 : Nat) (rest : List GOper) (k : List GV → Heap → Nat → Prop) (N : Nat) (E : Env) (H : Heap) (n : Nat) (d : Option Nat) (op : GOp) (w : Bool) : GV → Prop
  | .bool b => if b = w then gmop P H0 n0 (tl N E) n (kmops P H0 n0 rest k N E d H n) op else kmops P H0 n0 rest k N E d H n .undef none
  | _ => False
theorem m_guard {j : Nat} {w : Bool} (h : j < N) : gmops P H0 n0 (⟨d, op, some (j, w)⟩ :: rest) k (tl N E) H n = hmgd P H0 n0 rest k N E H n d op w (E j) := by
  have h' := h
  simp only [gmops, gat_tl h', put_tl]
  unfold hmgd
  split
  · rename_i b hb; rw [hb]; rfl
  · rename_i hb
    split
    · rename_i b hb'; exact absurd hb' (hb b)
    · rfl
theorem m_tt : hmgd P H0 n0 rest k N E H n d op true (.bool true) = gmop P H0 n0 (tl N E) n (kmops P H0 n0 rest k N E d H n) op := rfl
theorem m_ff : hmgd P H0 n0 rest k N E H n d op false (.bool false) = gmop P H0 n0 (tl N E) n (kmops P H0 n0 rest k N E d H n) op := rfl
theorem m_tf : hmgd P H0 n0 rest k N E H n d op true (.bool false) = kmops P H0 n0 rest k N E d H n .undef none := rfl
theorem m_ft : hmgd P H0 n0 rest k N E H n d op false (.bool true) = kmops P H0 n0 rest k N E d H n .undef none := rfl
def kpm (q : Km) : Kn := fun g _ _ => q g none
theorem m_kpm : kpm q g H n = q g none := rfl
def kpn (q : Km) (cs : List GV) : Kn := fun g _ _ => q g (some cs)

def purB : GOp → Bool
  | .mov _ => true
  | .pick _ _ _ => true
  | .bin _ _ _ => true
  | .isnil _ _ => true
  | .un _ _ => true
  | .field _ _ _ => true
  | .fieldAddr _ _ => true
  | .indexAddr _ _ _ => true
  | .arrAddr _ _ _ _ => true
  | .nilCheck _ => true
  | .extract _ _ => true
  | .len _ => true
  | .mm _ _ _ => true
  | .build _ _ => true
  | .slice _ _ _ _ => true
  | .conv _ _ => true
  | .mkfn _ _ => true
  | .empty => true
  | .blit _ _ => true
  | .mslicep _ _ _ _ => true
  | _ => false
theorem m_p_mov (x : GX) : gmop P H0 n0 t n q (.mov x) = gop P t H0 n0 (kpm q) (.mov x) := rfl
theorem m_p_pick (x y z : GX) : gmop P H0 n0 t n q (.pick x y z) = gop P t H0 n0 (kpm q) (.pick x y z) := rfl
theorem m_p_bin (o : BinOp) (x y : GX) : gmop P H0 n0 t n q (.bin o x y) = gop P t H0 n0 (kpm q) (.bin o x y) := rfl
theorem m_p_isnil (b : Bool) (x : GX) : gmop P H0 n0 t n q (.isnil b x) = gop P t H0 n0 (kpm q) (.isnil b x) := rfl
theorem m_p_un (o : UnOp) (x : GX) : gmop P H0 n0 t n q (.un o x) = gop P t H0 n0 (kpm q) (.un o x) := rfl
theorem m_p_field (o : Nat) (m : Option Nat) (x : GX) : gmop P H0 n0 t n q (.field o m x) = gop P t H0 n0 (kpm q) (.field o m x) := rfl
theorem m_p_fieldAddr (o : Nat) (x : GX) : gmop P H0 n0 t n q (.fieldAddr o x) = gop P t H0 n0 (kpm q) (.fieldAddr o x) := rfl
theorem m_p_indexAddr (s : Nat) (x y : GX) : gmop P H0 n0 t n q (.indexAddr s x y) = gop P t H0 n0 (kpm q) (.indexAddr s x y) := rfl
theorem m_p_arrAddr (l s : Nat) (x y : GX) : gmop P H0 n0 t n q (.arrAddr l s x y) = gop P t H0 n0 (kpm q) (.arrAddr l s x y) := rfl
theorem m_p_nilCheck (x : GX) : gmop P H0 n0 t n q (.nilCheck x) = gop P t H0 n0 (kpm q) (.nilCheck x) := rfl
theorem m_p_extract (i : Nat) (x : GX) : gmop P H0 n0 t n q (.extract i x) = gop P t H0 n0 (kpm q) (.extract i x) := rfl
theorem m_p_len (x : GX) : gmop P H0 n0 t n q (.len x) = gop P t H0 n0 (kpm q) (.len x) := rfl
theorem m_p_mm (b : Bool) (x y : GX) : gmop P H0 n0 t n q (.mm b x y) = gop P t H0 n0 (kpm q) (.mm b x y) := rfl
theorem m_p_build (z : List GV) (l : List (Nat × Nat × GX)) : gmop P H0 n0 t n q (.build z l) = gop P t H0 n0 (kpm q) (.build z l) := rfl
theorem m_p_slice (x : GX) (a b c : Option GX) : gmop P H0 n0 t n q (.slice x a b c) = gop P t H0 n0 (kpm q) (.slice x a b c) := rfl
theorem m_p_conv (k : IntKind) (x : GX) : gmop P H0 n0 t n q (.conv k x) = gop P t H0 n0 (kpm q) (.conv k x) := rfl
theorem m_p_mkfn (f : FuncId) (c : List GX) : gmop P H0 n0 t n q (.mkfn f c) = gop P t H0 n0 (kpm q) (.mkfn f c) := rfl
theorem m_p_empty  : gmop P H0 n0 t n q (.empty ) = gop P t H0 n0 (kpm q) (.empty ) := rfl
theorem m_p_blit (c : List GV) (l : List (Nat × Nat × GX)) : gmop P H0 n0 t n q (.blit c l) = gop P t H0 n0 (kpm q) (.blit c l) := rfl
theorem m_p_mslicep (z : GV) (b : Nat) (l c : GX) : gmop P H0 n0 t n q (.mslicep z b l c) = gop P t H0 n0 (kpm q) (.mslicep z b l c) := rfl

def hmcell (q : Km) (H : Heap) (n0 : Nat) (mo : Option Nat) : GV → Prop
  | .ptr b o => (match H b with
    | some cs => (match mo with
      | none => b < n0 ∧ o < cs.length ∧ q (gat cs o) none
      | some m => b < n0 ∧ o + m ≤ cs.length ∧ q (.agg ((cs.drop o).take m)) none)
    | none => False)
  | .pp cs o => (match mo with
      | none => o < cs.length ∧ q (gat cs o) none
      | some m => o + m ≤ cs.length ∧ q (.agg ((cs.drop o).take m)) none)
  | _ => False
theorem m_load (mo : Option Nat) : gmop P H0 n0 t n q (.load mo x) = hmcell q H0 n0 mo (gev t x) := by
  cases mo <;> (simp only [gmop]; generalize gev t x = v; cases v <;> rfl)
def hmcl (q : Km) (n0 : Nat) (mo : Option Nat) (b o : Nat) : Option (List GV) → Prop
  | some cs => (match mo with
      | none => b < n0 ∧ o < cs.length ∧ q (gat cs o) none
      | some m => b < n0 ∧ o + m ≤ cs.length ∧ q (.agg ((cs.drop o).take m)) none)
  | none => False
theorem m_cell_ptr (mo : Option Nat) (b o : Nat) : hmcell q H n0 mo (.ptr b o) = hmcl q n0 mo b o (H b) := by
  simp only [hmcell]; generalize H b = c; cases c <;> rfl
theorem m_cl1 (b o : Nat) (cs : List GV) : hmcl q n0 none b o (some cs) = (b < n0 ∧ o < cs.length ∧ q (gat cs o) none) := rfl
theorem m_clm (b o m : Nat) (cs : List GV) : hmcl q n0 (some m) b o (some cs) = (b < n0 ∧ o + m ≤ cs.length ∧ q (.agg ((cs.drop o).take m)) none) := rfl
theorem m_cell_pp (cs : List GV) (o : Nat) : hmcell q H n0 none (.pp cs o) = (o < cs.length ∧ q (gat cs o) none) := rfl
theorem m_cells_pp (cs : List GV) (o m : Nat) : hmcell q H n0 (some m) (.pp cs o) = (o + m ≤ cs.length ∧ q (.agg ((cs.drop o).take m)) none) := rfl
def hmbox (q : Km) : Nat → Option (List GV) → Prop
  | n, some vs => q (.ptr n 0) (some vs)
  | _, none => False
theorem m_box : gmop P H0 n0 t n q (.box x) = hmbox q n (gcells (gev t x)) := by
  simp only [gmop]; generalize gcells (gev t x) = w; cases w <;> rfl
theorem m_box_some (vs : List GV) : hmbox q n (some vs) = q (.ptr n 0) (some vs) := rfl
theorem m_alloc (cs : List GV) : gmop P H0 n0 t n q (.alloc cs) = q (.ptr n 0) (some cs) := rfl
def hmbs (q : Km) (n m : Nat) : Option (List GV) → Prop
  | some cs => m ≤ cs.length ∧ q (.own n 0 m) (some cs)
  | none => False
theorem m_bslice (cells : List GV) (parts : List (Nat × Nat × GX)) : gmop P H0 n0 t n q (.bslice m cells parts) = hmbs q n m (gfill t cells parts) := by
  simp only [gmop]; generalize gfill t cells parts = w; cases w <;> rfl
theorem m_bs_some (cs : List GV) : hmbs q n m (some cs) = (m ≤ cs.length ∧ q (.own n 0 m) (some cs)) := rfl
def hmms (q : Km) (n : Nat) (zv : GV) (bytes : Nat) : GV → GV → Prop
  | .int .i64 a, .int .i64 b => 0 ≤ a ∧ a = b ∧ a * bytes ≤ 281474976710656 ∧ 0 < bytes ∧ q (.own n 0 a.toNat) (some (List.replicate a.toNat zv))
  | _, _ => False
theorem m_mslice (zv : GV) (bytes : Nat) : gmop P H0 n0 t n q (.mslice zv bytes x y) = hmms q n zv bytes (gev t x) (gev t y) := by
  simp only [gmop]; generalize gev t x = v; generalize gev t y = w; unfold hmms
  cases v <;> cases w <;> first | rfl | (rename_i k1 a k2 b; cases k1 <;> cases k2 <;> rfl)
theorem m_ms_int (zv : GV) (bytes : Nat) (a b : Int) : hmms q n zv bytes (.int .i64 a) (.int .i64 b) = (0 ≤ a ∧ a = b ∧ a * bytes ≤ 281474976710656 ∧ 0 < bytes ∧ q (.own n 0 a.toNat) (some (List.replicate a.toNat zv))) := rfl
def hmapp (q : Km) (n bytes : Nat) : GV → Option (List GV) → Prop
  | .nil, some ys => ys.length * bytes ≤ 140737488355328 ∧ q (.own n 0 ys.length) (some ys)
  | .emp, some ys => ys.length * bytes ≤ 140737488355328 ∧ q (.own n 0 ys.length) (some ys)
  | _, _ => False
def below (H : Heap) (n0 : Nat) : Heap := fun b => if b < n0 then H b else none
theorem m_append (bytes : Nat) : gmop P H0 n0 t n q (.append bytes x y) = hmapp q n bytes (gev t x) (gelems (below H0 n0) (gev t y)) := by
  simp only [gmop]
  show (match gelems (below H0 n0) (gev t y) with | none => False | some ys => _) = _
  generalize gev t x = v; generalize gelems (below H0 n0) (gev t y) = w
  unfold hmapp
  cases w <;> cases v <;> rfl
theorem m_app_nil (bytes : Nat) (ys : List GV) : hmapp q n bytes .nil (some ys) = (ys.length * bytes ≤ 140737488355328 ∧ q (.own n 0 ys.length) (some ys)) := rfl
theorem m_app_emp (bytes : Nat) (ys : List GV) : hmapp q n bytes .emp (some ys) = (ys.length * bytes ≤ 140737488355328 ∧ q (.own n 0 ys.length) (some ys)) := rfl
def hmcall (P : Program) (H0 : Heap) (n0 : Nat) (f : FuncId) (args : List GV) (q : Km) : Prop := ∃ g, Nr g ∧ (∀ H' n', (∀ b, b < n0 → H' b = H0 b) → n0 ≤ n' → Spec P f args H' n' g H' n') ∧ q g none
theorem m_call (f : FuncId) (args : List GX) : gmop P H0 n0 t n q (.call f args) = hmcall P H0 n0 f (args.map (gev t)) q := rfl
theorem mcall_of {f : FuncId} {args : List GV} (hn : Nr g) (hs : ∀ H' n', (∀ b, b < n0 → H' b = H0 b) → n0 ≤ n' → Spec P f args H' n' g H' n') (hq : q g none) : hmcall P H0 n0 f args q := ⟨g, hn, hs, hq⟩
end

/-- read-only of what is left: nothing new stays -/
abbrev Fz (H : Heap) (n : Nat) : GV → GV → Prop := Tr H n n id
def GFun.ends (F : GFun) (H : Heap) (n : Nat) (g : GV) : GPost := fun e t H1 n1 => match e with
  | .exit _ => False
  | _ => (∃ g1, gretv t H1 F.res = some g1 ∧ Fz H1 n g1 g ∧ ∀ b, b < n → H1 b = H b) ∧ n1 = n1
def GFun.ends1 (F : GFun) (H : Heap) (n : Nat) (g : GV) (cs' : List GV) : GPost := fun e t H1 n1 => match e with
  | .exit _ => False
  | _ => ∃ g1 b cs, gretv t H1 F.res = some g1 ∧ Tr H1 n (n + 1) (fun _ => b) g1 g ∧ n ≤ b ∧ H1 b = some cs ∧ Trs H1 n (n + 1) (fun _ => b) cs cs' ∧ (∀ b, b < n → H1 b = H b) ∧ n1 = n1

section
variable {P : Program} {f : FuncId} {F : GFun} {args : List GV} {H : Heap} {n : Nat} {g : GV}
theorem spec_ends (hm : P.follows .mixedOrders = true) (hok : okFun P f F = true) (ha : args.length = F.np) (hg : Fr H n → gw P F.body (F.ends H n g) (tl F.nt (mkE 0 args)) H n) : Spec P f args H n g H n := by
  intro K vs e1 e2 hF
  refine spec_told hm hok ha (fun hF => gw_mono _ (fun e t H1 n1 h => ?_) (hg hF)) K vs e1 e2 hF
  have key : (∃ g1, gretv t H1 F.res = some g1 ∧ Fz H1 n g1 g ∧ ∀ b, b < n → H1 b = H b) ∧ n1 = n1 → ∃ g1 κ, gretv t H1 F.res = some g1 ∧ Tr H1 n n κ g1 g ∧ n ≤ n ∧ Fr H n ∧ (∀ i j, n ≤ i → i < n → n ≤ j → j < n → κ i = κ j → i = j) ∧
      (∀ b, b < n → (H1 b = H b ∧ H b = H b) ∨ ((H1 b = none ∧ H b = none) ∨ ∃ cs cs', H1 b = some cs ∧ H b = some cs' ∧ Trs H1 n n κ cs cs')) ∧
      (∀ i, n ≤ i → i < n → ∃ cs cs', H1 (κ i) = some cs ∧ n ≤ κ i ∧ H i = some cs' ∧ Trs H1 n n κ cs cs') := by
    rintro ⟨⟨g1, h1, h2, h3⟩, _⟩
    exact ⟨g1, id, h1, h2, Nat.le_refl _, hF, fun i j a b => by omega, fun b hb => .inl ⟨h3 b hb, rfl⟩, fun i a b => by omega⟩
  cases e with
  | normal => exact key h
  | ret => exact key h
  | exit id => exact h
theorem spec_ends1 (hm : P.follows .mixedOrders = true) (hok : okFun P f F = true) (ha : args.length = F.np) {cs : List GV} (hg : Fr H n → gw P F.body (F.ends1 H n g cs) (tl F.nt (mkE 0 args)) H n) : Spec P f args H n g (upd H n (some cs)) (n + 1) := by
  intro K vs e1 e2 hF
  refine spec_told hm hok ha (fun hF => gw_mono _ (fun e t H1 n1 h => ?_) (hg hF)) K vs e1 e2 hF
  have key : (∃ g1 b cs0, gretv t H1 F.res = some g1 ∧ Tr H1 n (n + 1) (fun _ => b) g1 g ∧ n ≤ b ∧ H1 b = some cs0 ∧ Trs H1 n (n + 1) (fun _ => b) cs0 cs ∧ (∀ b, b < n → H1 b = H b) ∧ n1 = n1) →
      ∃ g1 κ, gretv t H1 F.res = some g1 ∧ Tr H1 n (n + 1) κ g1 g ∧ n ≤ n + 1 ∧ Fr (upd H n (some cs)) (n + 1) ∧ (∀ i j, n ≤ i → i < n + 1 → n ≤ j → j < n + 1 → κ i = κ j → i = j) ∧
      (∀ b, b < n → (H1 b = H b ∧ upd H n (some cs) b = H b) ∨ ((H1 b = none ∧ upd H n (some cs) b = none) ∨ ∃ cs1 cs', H1 b = some cs1 ∧ upd H n (some cs) b = some cs' ∧ Trs H1 n (n + 1) κ cs1 cs')) ∧
      (∀ i, n ≤ i → i < n + 1 → ∃ cs1 cs', H1 (κ i) = some cs1 ∧ n ≤ κ i ∧ upd H n (some cs) i = some cs' ∧ Trs H1 n (n + 1) κ cs1 cs') := by
    rintro ⟨g1, b, cs0, h1, h2, h3, h4, h5, h6, _⟩
    refine ⟨g1, fun _ => b, h1, h2, Nat.le_succ _, fun x hx => ?_, fun i j a b c d _ => by omega, fun b hb => .inl ⟨h6 b hb, upd_ne _ _ (by omega)⟩, fun i a b => ?_⟩
    · rw [upd_ne _ _ (by omega)]; exact hF x (by omega)
    · have : i = n := by omega
      subst this
      exact ⟨cs0, cs, h4, h3, upd_same _ _ _, h5⟩
  cases e with
  | normal => exact key h
  | ret => exact key h
  | exit id => exact h
/-- the ends of a body -/
theorem fin_ret {H1 : Heap} {n1 N i : Nat} {E : Env} (hr : F.res = [.t i]) (hi : i < N) (hz : Fz H1 n (E i) g) (ho : ∀ b, b < n → H1 b = H b) : F.ends H n g .ret (tl N E) H1 n1 :=
  ⟨⟨E i, by rw [hr]; simp only [gretv, gress, gres, gat_tl hi], hz, ho⟩, rfl⟩
theorem fin_cell {H1 : Heap} {n1 N i m b o : Nat} {E : Env} {cs : List GV} (hr : F.res = [.cell i (some m)]) (hi : i < N) (he : E i = .ptr b o) (hc : H1 b = some cs) (hl : o + m ≤ cs.length) (hz : Fz H1 n (.agg ((cs.drop o).take m)) g) (ho : ∀ b, b < n → H1 b = H b) : F.ends H n g .ret (tl N E) H1 n1 :=
  ⟨⟨_, by rw [hr]; simp only [gretv, gress, gres, gat_tl hi, he, gread1, hc, if_pos hl], hz, ho⟩, rfl⟩
theorem fin_ret2 {H1 : Heap} {n1 N i j : Nat} {E : Env} {g' : GV} (hr : F.res = [.t i, .t j]) (hi : i < N) (hj : j < N) (hz : Fz H1 n (E i) g) (hz' : Fz H1 n (E j) g') (ho : ∀ b, b < n → H1 b = H b) : F.ends H n (.tup [g, g']) .ret (tl N E) H1 n1 :=
  ⟨⟨.tup [E i, E j], by rw [hr]; simp only [gretv, gress, gres, gat_tl hi, gat_tl hj], .tup _ _ rfl fun k hk => by
    match k, hk with
    | 0, _ => exact hz
    | 1, _ => exact hz', ho⟩, rfl⟩
theorem fz_int {H1 : Heap} {k : IntKind} {i j : Int} (h : i = j) : Fz H1 n (.int k i) (.int k j) := by subst h; exact Tr.int _ _
theorem fz_bool {H1 : Heap} {i j : Bool} (h : i = j) : Fz H1 n (.bool i) (.bool j) := by subst h; exact Tr.bool _
theorem wrap64 {x : Int} (h : -9223372036854775808 ≤ x ∧ x < 9223372036854775808) : IntKind.i64.wrap x = x := by
  simp [IntKind.wrap, IntKind.bits, IntKind.signed]
  omega
end
end Go.Proofs.Ytdpibcniodhinaa.Gh
/- Slices as tables, and contracts told anew. -/
namespace Go.Proofs.Ytdpibcniodhinaa.Gh
open Go Go.RowKit
set_option linter.unusedVariables false
set_option linter.unusedSimpArgs false

def tab {α : Type} (m : Nat) (f : Nat → α) : List α := (List.range m).map f
section
variable {α β : Type} {m n : Nat} {f g : Nat → α}
theorem tab_len : (tab m f).length = m := by simp [tab]
theorem tab_congr (h : ∀ i, i < m → f i = g i) : tab m f = tab m g := by
  apply List.ext_getElem
  · simp [tab]
  · intro i h1 h2
    simp [tab] at h1 ⊢
    exact h i h1
theorem gat_tab {f : Nat → GV} {i : Nat} (h : i < m) : gat (tab m f) i = f i := by simp [gat, tab, List.getD_eq_getElem?_getD, h]
theorem tab_rep (x : α) : List.replicate m x = tab m fun _ => x := by
  apply List.ext_getElem
  · simp [tab]
  · intro i h1 h2; simp [tab]
def upf (f : Nat → α) (i : Nat) (x : α) : Nat → α := fun j => if j = i then x else f j
theorem upf_same (f : Nat → α) (i : Nat) (x : α) : upf f i x i = x := if_pos rfl
theorem upf_ne (f : Nat → α) {i j : Nat} (x : α) (h : j ≠ i) : upf f i x j = f j := if_neg h
theorem tab_set (i : Nat) (x : α) : (tab m f).set i x = tab m (upf f i x) := by
  apply List.ext_getElem
  · simp [tab]
  · intro j h1 h2
    simp only [tab, List.length_map, List.length_range, List.length_set] at h1 h2
    simp only [tab, List.getElem_set, List.getElem_map, List.getElem_range, upf]
    by_cases e : i = j
    · simp [e]
    · simp [e, Ne.symm e]
theorem setL_nil (cs : List GV) (i : Nat) : setL cs i [] = cs := rfl
theorem setL_cons (cs : List GV) (i : Nat) (x : GV) (xs : List GV) : setL cs i (x :: xs) = setL (cs.set i x) (i + 1) xs := rfl
theorem setL_tabs {f g : Nat → GV} : ∀ (k o : Nat), o + k ≤ m → setL (tab m f) o (tab k g) = tab m fun j => if o ≤ j ∧ j < o + k then g (j - o) else f j := by
  have key : ∀ (ys : List GV) (f : Nat → GV) (o : Nat), setL (tab m f) o ys = tab m fun j => if o ≤ j ∧ j < o + ys.length then gat ys (j - o) else f j := by
    intro ys
    induction ys with
    | nil => intro f o; rw [setL_nil]; refine tab_congr fun i _ => ?_; rw [if_neg (by simp)]
    | cons y ys ih =>
      intro f o
      rw [setL_cons, tab_set, ih]
      refine tab_congr fun i _ => ?_
      simp only [List.length_cons]
      by_cases h1 : i = o
      · subst h1
        rw [if_neg (by omega), if_pos (by omega), upf_same, Nat.sub_self]; rfl
      · by_cases h2 : o + 1 ≤ i ∧ i < o + 1 + ys.length
        · rw [if_pos h2, if_pos (by omega)]
          have : i - o = (i - (o + 1)) + 1 := by omega
          rw [this]; rfl
        · rw [if_neg h2, if_neg (by omega), upf_ne _ _ h1]
  intro k o _
  rw [key]
  refine tab_congr fun i _ => ?_
  rw [tab_len]
  split
  · rename_i h; rw [gat_tab (by omega)]
  · rfl
theorem tab_take (k : Nat) (h : k ≤ m) : (tab m f).take k = tab k f := by
  apply List.ext_getElem
  · simp [tab]; omega
  · intro i h1 h2; simp [tab]
theorem tab_succ : tab (m + 1) f = tab m f ++ [f m] := by simp [tab, List.range_succ]
theorem tab_all {f : Nat → α} (p : α → Bool) (h : ∀ i, i < m → p (f i) = true) : (tab m f).all p = true := by
  simp only [tab, List.all_map, List.all_eq_true, List.mem_range, Function.comp]
  exact h
end

theorem upd_upd (H : Heap) (b : Nat) (c c' : Option (List GV)) : upd (upd H b c) b c' = upd H b c' := by
  funext x; simp only [upd]; split <;> rfl
/-- a row of integers -/
def it (f : Nat → Int) : Nat → GV := fun i => .int .i64 (f i)
abbrev isl (m : Nat) (f : Nat → Int) : GV := .sl m (tab m (it f))
theorem it_at (f : Nat → Int) (i : Nat) : it f i = .int .i64 (f i) := rfl
theorem it_upf (f : Nat → Int) (i : Nat) (x : Int) : upf (it f) i (.int .i64 x) = it (upf f i x) := by
  funext j; simp only [upf, it]; split <;> rfl
theorem it_cell (m : Nat) (f : Nat → Int) : (tab m (it f)).all isCell = true := tab_all _ fun i _ => rfl

/-- values that are the same wherever they stand -/
inductive Pl : GV → Prop
  | int (k : IntKind) (i : Int) : Pl (.int k i)
  | bool (b : Bool) : Pl (.bool b)
  | nil : Pl .nil
  | nilp : Pl .nilp
  | emp : Pl .emp
  | sl (m : Nat) (cs : List GV) : (∀ j, j < cs.length → Pl (gat cs j)) → Pl (.sl m cs)
  | pp (cs : List GV) (o : Nat) : (∀ j, j < cs.length → Pl (gat cs j)) → Pl (.pp cs o)
  | agg (cs : List GV) : (∀ j, j < cs.length → Pl (gat cs j)) → Pl (.agg cs)
  | tup (cs : List GV) : (∀ j, j < cs.length → Pl (gat cs j)) → Pl (.tup cs)
theorem Pl.tr {H : Heap} {n n' : Nat} {κ : Nat → Nat} {g : GV} (h : Pl g) : Tr H n n' κ g g := by
  induction h with
  | int k i => exact .int k i
  | bool b => exact .bool b
  | nil => exact .nil
  | nilp => exact .nilp
  | emp => exact .emp
  | sl m cs _ ih => exact .sl m cs cs rfl ih
  | pp cs o _ ih => exact .pp cs cs o rfl ih
  | agg cs _ ih => exact .agg cs cs rfl ih
  | tup cs _ ih => exact .tup cs cs rfl ih
theorem Pl.nr {g : GV} (h : Pl g) : Nr g := by
  induction h with
  | int k i => exact .int k i
  | bool b => exact .bool b
  | nil => exact .nil
  | nilp => exact .nilp
  | emp => exact .emp
  | sl m cs _ ih => exact .sl m cs ih
  | pp cs o _ ih => exact .pp cs o ih
  | agg cs _ ih => exact .agg cs ih
  | tup cs _ ih => exact .tup cs ih
theorem pl_tab {m : Nat} {f : Nat → GV} (h : ∀ i, i < m → Pl (f i)) : ∀ j, j < (tab m f).length → Pl (gat (tab m f) j) := by
  intro j hj
  rw [tab_len] at hj
  rw [gat_tab hj]; exact h j hj
theorem pl_isl (m : Nat) (f : Nat → Int) : Pl (isl m f) := .sl _ _ (pl_tab fun i _ => .int _ _)
theorem trs_pl {H : Heap} {n n' : Nat} {κ : Nat → Nat} {m : Nat} {f : Nat → GV} (h : ∀ i, i < m → Pl (f i)) : Trs H n n' κ (tab m f) (tab m f) := ⟨rfl, fun j hj => (pl_tab h j hj).tr⟩
theorem trs_it {H : Heap} {n n' : Nat} {κ : Nat → Nat} {m : Nat} {f : Nat → Int} : Trs H n n' κ (tab m (it f)) (tab m (it f)) := trs_pl fun i _ => .int _ _

section
variable {P : Program} {f : FuncId} {F : GFun} {args : List GV} {H H1 : Heap} {n n1 : Nat} {g g1 : GV}
/-- what a call leaves, told anew: nothing new is kept -/
theorem Spec.ends (h : Spec P f args H n g1 H1 n1) (ho : ∀ b, b < n → H1 b = H b) (hz : Fz H1 n g1 g) : Spec P f args H n g H n := by
  intro K vs e1 e2 hF hs hv
  refine Calls.mono (h K vs e1 e2 hF hs hv) ?_
  rintro e w' ⟨v, K', q1, q2, q3, q4, q5, q6, q7, q8⟩
  subst e1 e2
  have T : Told K'.H K.lo K.lo id K.H := by
    refine ⟨Nat.le_refl _, fun b hb => ?_, fun i a b => by omega, fun i j a b => by omega, hF⟩
    rw [q4, ho b hb]
    refine ⟨id, fun cs e => ⟨cs, e, rfl, fun j hj => ?_⟩⟩
    have hz := hs.len b cs e
    obtain ⟨row, T', y1, y2, y3, y4⟩ := hs.blk b cs e (by omega)
    exact (y3 j hj).sc.tr hF
  exact ⟨v, told K' K.lo K.lo id K.H, q1, q2, told_step q3 rfl hF T, rfl, rfl, hF, told_sat q7 T, told_VR q7 T (by rw [q4]; exact hz) q8⟩
/-- a row that is made and returned, read-only -/
theorem Spec.frozen {m : Nat} {cs : List GV} (h : Spec P f args H n (.own n 0 m) (upd H n (some cs)) (n + 1)) (hl : cs.length = m) (hp : ∀ j, j < cs.length → Pl (gat cs j)) : Spec P f args H n (.sl m cs) H n :=
  h.ends (fun b hb => upd_ne _ _ (by omega)) (.ownf n 0 m cs cs (upd_same _ _ _) (Nat.le_refl _) (fun i a b => by omega) (by omega) hl fun j hj => by rw [Nat.zero_add]; exact (hp j (by omega)).tr)
/-- the body returns a row that it made -/
theorem fin_own {N i m b : Nat} {E : Env} {cs cs' : List GV} (hr : F.res = [.t i]) (hi : i < N) (he : E i = .own b 0 m) (hb : n ≤ b) (hc : H1 b = some cs) (ht : Trs H1 n (n + 1) (fun _ => b) cs cs') (ho : ∀ b, b < n → H1 b = H b) : F.ends1 H n (.own n 0 m) cs' .ret (tl N E) H1 n1 :=
  ⟨.own b 0 m, b, cs, by rw [hr]; simp only [gretv, gress, gres, gat_tl hi, he], .ownk (κ := fun _ => b) n 0 m (Nat.le_refl _) (Nat.lt_succ_self _) (by rw [hc]; simp), hb, hc, ht, ho, rfl⟩
end
end Go.Proofs.Ytdpibcniodhinaa.Gh
/- From inputs to ghost values, and from ghost contracts to calls. -/
namespace Go.Proofs.Ytdpibcniodhinaa.Gh
open Go Go.RowKit Go.ChangeShapes
set_option linter.unusedVariables false
set_option linter.unusedSimpArgs false

/-- each cell of this type that can be read stands for a ghost value -/
def RdC {α : Type} (P : Program) (t : TypeId) (G : α → GV) : Prop := ∀ {Hh : Type} {enc : TypeId × Value → Hh} {fuel : Nat} {c : Value} {x : DataW Hh × List MemPlace} (K : Kr), DataW.trod enc P K.w 0 (fun _ => true) true fuel t [c] = some x → (∀ B, B < K.w.heap.size → K.S B) → ∃ a, VR K (G a) c
theorem RdC.int {P : Program} {t : TypeId} (ht : P.underlying t = some (.int .i64)) : RdC P t fun z : Int => .int .i64 z := by
  intro Hh enc fuel c x K h _
  cases fuel with
  | zero => simp [DataW.trod] at h
  | succ n =>
    unfold DataW.trod at h
    rw [ht] at h
    cases c <;> simp at h
    rename_i k z
    obtain ⟨⟨rfl, _⟩, _⟩ := h
    exact ⟨z, .int _ _⟩
theorem cell_plain {w : World} {a : Addr} {v : Value} (h : w.cell? a = some v) : a.spot = none ∧ a.block < w.heap.size := by
  unfold World.cell? at h
  split at h
  · rename_i c t f hb
    split at h
    · cases h
    · rename_i hs
      refine ⟨by cases hsp : a.spot with
        | none => rfl
        | some _ => rw [hsp] at hs; simp at hs, (Array.getElem?_eq_some_iff.1 hb).1⟩
  · cases h
theorem RdC.slice {P : Program} {t e : TypeId} {α : Type} [Inhabited α] {G : α → GV} (ht : P.underlying t = some (.slice e)) (hc : P.cellsOf e = 1) (he : RdC P e G) : RdC P t fun p : Nat × (Nat → α) => .sl p.1 (tab p.1 fun i => G (p.2 i)) := by
  intro Hh enc fuel c x K h hS
  rcases DataW.trod_slice ht h with ⟨h0, _⟩ | ⟨a, len, cap, elems, rest, n, _, h0, _, hb, hl, hm, hlen, hel, _, _⟩
  · injection h0 with h0
    subst h0
    exact ⟨(0, fun _ => default), .sl0 0 0 none (Nat.le_refl _)⟩
  · injection h0 with h0
    subst h0
    have each : ∀ i, ∃ y : Value × α, i < len → K.w.cell? (a.add i) = some y.1 ∧ VR K (G y.2) y.1 := by
      intro i
      by_cases hi : i < len
      · have h1 := hel i hi
        have hy : elems[i]? = some elems[i] := List.getElem?_eq_getElem (by omega)
        rw [hy, hc, Nat.mul_one] at h1
        obtain ⟨cs, h2, h3⟩ := Option.bind_eq_some_iff.1 h1
        obtain ⟨_, h4, h5⟩ := World.cells?_some h2
        match cs, h4 with
        | [u], _ =>
          have h6 := h5 0 (by omega)
          obtain ⟨g, hg⟩ := he K h3 hS
          exact ⟨(u, g), fun _ => ⟨by simpa [Addr.add] using h6, hg⟩⟩
      · exact ⟨(Go.undef, default), fun h => absurd h hi⟩
    obtain ⟨y, hy⟩ := Classical.axiomOfChoice each
    refine ⟨(len, fun i => (y i).2), ?_⟩
    rcases Nat.eq_zero_or_pos len with h0 | h0
    · subst h0
      exact .sl0 0 cap (some a) (by omega)
    · have hc0 := (hy 0 h0).1
      have ha : a.add 0 = a := rfl
      rw [ha] at hc0
      obtain ⟨hsp, hbl⟩ := cell_plain hc0
      obtain ⟨B, o, sp⟩ := a
      have hsp : sp = none := hsp
      subst hsp
      have hadd : ∀ j, Addr.add ⟨B, o, none⟩ j = ⟨B, o + j, none⟩ := by
        intro j
        unfold Addr.add
        split
        · rename_i e; subst e; rfl
        · rfl
      refine .sl len cap B o _ (fun j => (y j).1) hl (hS B hbl) (fun j hj => ?_) fun j hj => ?_
      · rw [tab_len] at hj
        rw [← hadd]; exact (hy j hj).1
      · rw [tab_len] at hj
        rw [gat_tab hj]; exact (hy j hj).2

theorem agg_of_okWide {P : Program} {W : World} {r : Reach} {b : Nat} {t : TypeId} {v : Value} {fs : Array Field} (ht : P.underlying t = some (.struct fs)) (h : Value.okWide P W r b t v) : ∃ cs, v = .agg cs ∧ cs.size = P.cellsOf t := by
  unfold Value.okWide at h
  rw [ht] at h
  obtain ⟨cs, h1, h2, _⟩ := h
  exact ⟨cs, h1, h2⟩
abbrev gI : Int → GV := fun z => .int .i64 z
abbrev gI1 : Nat × (Nat → Int) → GV := fun p => .sl p.1 (tab p.1 fun i => gI (p.2 i))
abbrev gI2 : Nat × (Nat → Nat × (Nat → Int)) → GV := fun p => .sl p.1 (tab p.1 fun i => gI1 (p.2 i))
abbrev gI3 : Nat × (Nat → Nat × (Nat → Nat × (Nat → Int))) → GV := fun p => .sl p.1 (tab p.1 fun i => gI2 (p.2 i))
/-- the ghost of the world in which a call begins -/
def k0 (W : World) : Kr := ⟨id, fun _ => 0, fun _ => none, 0, W, fun B => B < W.heap.size⟩
theorem sat0 (W : World) : Sat (k0 W) := ⟨fun b cs e => (by cases e), fun b cs e => (by cases e), fun b b' e => absurd rfl e, fun B h => h⟩
theorem run_law {P : Program} {f : FuncId} {args : List GV} {vs : Array Value} {W : World} (hs : ∀ H n, Spec P f args H n (.bool true) H n) (hv : VRs (k0 W) args vs) :
    Calls P f vs W fun e w' => e = .returned (.bool true) ∧ Below W.heap.size W w' := by
  refine Calls.mono (hs (fun _ => none) 0 (k0 W) vs rfl rfl (fun _ _ => rfl) (sat0 W) hv) ?_
  rintro e w' ⟨v, K', h1, h2, h3, _, _, _, _, h8⟩
  have hb := h8.bool_inv
  subst h1 h2 hb
  exact ⟨rfl, ⟨h3.os, h3.tape, h3.output, h3.size, fun B hB => h3.keep B hB⟩⟩
/-- arguments read as they read before -/
theorem trodAll_stays {H : Type} {enc : TypeId × Value → H} {P : Program} (hl : laidOutB P = true) {W W' : World} (hB : Below W.heap.size W W') {sp : Nat → Bool} : ∀ {ts : List TypeId} {vs : List Value} {ds : List (DataW H)} {ps : List MemPlace},
    (∀ t ∈ ts, P.readableRec t = true ∧ t < P.types.size) → DataW.TrodAll enc P W 0 (fun _ => true) true ts vs ds ps → (∀ p ∈ ps, p.block < W.heap.size ∧ sp p.block = true) → DataW.TrodAll enc P W' 0 sp true ts vs ds ps := by
  intro ts
  induction ts with
  | nil => intro vs ds ps _ h _; cases vs <;> cases ds <;> exact h
  | cons t ts ih =>
    intro vs ds ps hr h hp
    match vs, ds, h with
    | v :: vs, d :: ds, ⟨p, q, h1, h2, h3⟩ =>
      subst h3
      have ht := hr t (by simp)
      refine ⟨p, q, ?_, ih (fun t' h' => hr t' (by simp [h'])) h2 (fun x hx => hp x (by simp [hx])), rfl⟩
      exact WideElems.Trod_stays hl ht.1 ht.2 h1 (fun x hx => hB.same (hp x (by simp [hx])).1) fun x hx => (hp x (by simp [hx])).2
end Go.Proofs.Ytdpibcniodhinaa.Gh
/- From inputs to ghost values: structs and arrays. -/
namespace Go.Proofs.Ytdpibcniodhinaa.Gh
open Go Go.RowKit Go.ChangeShapes Go.WideShapes Go.ChangeAt
set_option linter.unusedVariables false
set_option linter.unusedSimpArgs false

/-- cells of this type that can be read stand for ghost values -/
structure RdL {α : Type} (P : Program) (t : TypeId) (G : α → List GV) : Prop where
  out : ∀ {Hh : Type} {enc : TypeId × Value → Hh} {fuel : Nat} {cs : List Value} {x : DataW Hh × List MemPlace} (K : Kr), DataW.trod enc P K.w 0 (fun _ => true) true fuel t cs = some x → cs.length = P.cellsOf t → (∀ B, B < K.w.heap.size → K.S B) →
  ∃ a, (G a).length = cs.length ∧ ∀ j, j < cs.length → VR K (gat (G a) j) (cs.getD j Go.undef)
theorem RdL.cell {α : Type} {P : Program} {t : TypeId} {G : α → GV} (h : RdC P t G) (hc : P.cellsOf t = 1) : RdL P t fun a => [G a] := by
  constructor
  intro Hh enc fuel cs x K ht hl hS
  rw [hc] at hl
  match cs, hl with
  | [c], _ =>
    obtain ⟨a, ha⟩ := h K ht hS
    refine ⟨a, rfl, fun j hj => ?_⟩
    have : j = 0 := by simp at hj; omega
    subst this; exact ha
/-- the fields fs, whose cells begin at o, m of them -/
structure RdF {α : Type} (P : Program) (fs : List Field) (o m : Nat) (G : α → List GV) : Prop where
  out : ∀ {Hh : Type} {enc : TypeId × Value → Hh} {n : Nat} {cs : List Value} (K : Kr), (∀ f ∈ fs, ∃ y, DataW.trod enc P K.w 0 (fun _ => true) true n f.type ((cs.drop f.offset).take (P.cellsOf f.type)) = some y) → o + m ≤ cs.length → (∀ B, B < K.w.heap.size → K.S B) →
  ∃ a, (G a).length = m ∧ ∀ j, j < m → VR K (gat (G a) j) (cs.getD (o + j) Go.undef)
theorem RdF.nil {P : Program} {o : Nat} : RdF P [] o 0 fun _ : Unit => [] := by
  constructor
  intro Hh enc n cs K _ _ _
  exact ⟨(), rfl, fun j hj => by omega⟩
theorem RdF.cons {α β : Type} {P : Program} {f : Field} {fs : List Field} {o c m : Nat} {G : α → List GV} {G' : β → List GV} (ho : f.offset = o) (hc : P.cellsOf f.type = c) (h : RdL P f.type G) (h' : RdF P fs (o + c) m G') : RdF P (f :: fs) o (c + m) fun p : α × β => G p.1 ++ G' p.2 := by
  constructor
  intro Hh enc n cs K hf hl hS
  subst ho hc
  obtain ⟨y, hy⟩ := hf f (by simp)
  have hl1 : ((cs.drop f.offset).take (P.cellsOf f.type)).length = P.cellsOf f.type := by simp; omega
  obtain ⟨a, h1, h2⟩ := h.out K hy hl1 hS
  obtain ⟨b, h3, h4⟩ := h'.out K (fun g hg => hf g (by simp [hg])) (by omega) hS
  rw [hl1] at h1 h2
  refine ⟨(a, b), by simp [h1, h3], fun j hj => ?_⟩
  by_cases e : j < P.cellsOf f.type
  · have h5 := h2 j e
    have e1 : gat (G a ++ G' b) j = gat (G a) j := by simp [gat, List.getD_eq_getElem?_getD, List.getElem?_append, h1, e]
    have e2 : ((cs.drop f.offset).take (P.cellsOf f.type)).getD j Go.undef = cs.getD (f.offset + j) Go.undef := by simp [List.getD_eq_getElem?_getD, e, List.getElem?_drop]
    rw [e2] at h5
    rw [e1]; exact h5
  · have h5 := h4 (j - P.cellsOf f.type) (by omega)
    have e1 : gat (G a ++ G' b) j = gat (G' b) (j - P.cellsOf f.type) := by simp [gat, List.getD_eq_getElem?_getD, List.getElem?_append, h1, e]
    have e2 : f.offset + P.cellsOf f.type + (j - P.cellsOf f.type) = f.offset + j := by omega
    rw [e2] at h5
    rw [e1]; exact h5
theorem RdL.struct {α : Type} {P : Program} {t : TypeId} {fs : Array Field} {m : Nat} {G : α → List GV} (ht : P.underlying t = some (.struct fs)) (hm : P.cellsOf t = m) (h : RdF P fs.toList 0 m G) : RdL P t G := by
  constructor
  intro Hh enc fuel cs x K hd hl hS
  obtain ⟨xs, n, _, _, _, hlen, hf⟩ := DataW.trod_struct ht hd
  have hlm : cs.length = m := hl.trans hm
  obtain ⟨a, h1, h2⟩ := h.out (enc := enc) (n := n) (cs := cs) K (fun f hm' => by
    obtain ⟨i, hi, rfl⟩ := List.getElem_of_mem hm'
    have h3 := hf i fs.toList[i] (by simp)
    have h4 : i < xs.length := by rw [hlen]; simpa using hi
    exact ⟨xs[i], by rw [h3, List.getElem?_eq_getElem h4]⟩) (by omega) hS
  refine ⟨a, by rw [h1, hlm], fun j hj => ?_⟩
  have h3 := h2 j (by omega)
  rwa [Nat.zero_add] at h3
theorem rd_agg {α : Type} {P : Program} {t : TypeId} {G : α → List GV} (hr : RdL P t G) {H : Type} {enc : TypeId × Value → H} {W : World} {v : Value} {d : DataW H} {p : List MemPlace} (hv : ∃ cs, v = .agg cs ∧ cs.size = P.cellsOf t) (hd : DataW.Trod enc P W 0 (fun _ => true) true t v d p) : ∃ a, VR (k0 W) (.agg (G a)) v := by
  obtain ⟨cs, rfl, hsz⟩ := hv
  obtain ⟨fuel, h⟩ := hd
  have h : DataW.trod enc P W 0 (fun _ => true) true fuel t cs.toList = some (d, p) := h
  obtain ⟨a, h1, h2⟩ := hr.out (k0 W) h (by simpa using hsz) fun B hB => hB
  refine ⟨a, .agg _ _ (by simpa using h1.symm) fun j hj => ?_⟩
  have hj' : j < cs.toList.length := by omega
  have h3 := h2 j hj'
  have e : vat cs j = cs.toList.getD j Go.undef := by
    have hj2 : j < cs.size := by simpa using hj'
    simp [vat, Array.getD, List.getD_eq_getElem?_getD, hj2]
  rw [e]; exact h3
end Go.Proofs.Ytdpibcniodhinaa.Gh
/- How the arguments of the seat's laws are read. -/
namespace Go.Proofs.Ytdpibcniodhinaa.Gh
open Go Go.RowKit Go.ChangeShapes Go.WideShapes Go.ChangeAt
set_option linter.unusedVariables false
set_option linter.unusedSimpArgs false
theorem own_knob : ownKnob Try.prog.godebug = none := by kernel_rfl
theorem laid_out : laidOutB Try.prog = true := by kernel_rfl
theorem cells3 : Try.prog.cellsOf 3 = 1 := by kernel_rfl
theorem rd3 : RdC Try.prog 3 gI := RdC.int Try.underlying3
theorem cells22 : Try.prog.cellsOf 22 = 1 := by kernel_rfl
theorem rd22 : RdC Try.prog 22 gI1 := RdC.slice Try.underlying22 cells3 rd3
theorem cells24 : Try.prog.cellsOf 24 = 3 := by kernel_rfl
abbrev gL24 : (Int × Int × (Nat × (Nat → Int)) × Unit) → List GV := fun a => [gI a.1] ++ ([gI a.2.1] ++ ([gI1 a.2.2.1] ++ ([])))
set_option maxRecDepth 100000 in
theorem rl24 : RdL Try.prog 24 gL24 := RdL.struct (m := 1 + (1 + (1 + (0)))) Try.underlying24 cells24 (RdF.cons (G := fun a : Int => [gI a]) (G' := fun a : (Int × (Nat × (Nat → Int)) × Unit) => [gI a.1] ++ ([gI1 a.2.1] ++ ([]))) rfl cells3 (RdL.cell rd3 cells3) (RdF.cons (G := fun a : Int => [gI a]) (G' := fun a : ((Nat × (Nat → Int)) × Unit) => [gI1 a.1] ++ ([])) rfl cells3 (RdL.cell rd3 cells3) (RdF.cons (G := fun a : (Nat × (Nat → Int)) => [gI1 a]) (G' := fun a : (Unit) => []) rfl cells22 (RdL.cell rd22 cells22) (RdF.nil))))
theorem cells42 : Try.prog.cellsOf 42 = 1 := by kernel_rfl
theorem rd42 : RdC Try.prog 42 gI2 := RdC.slice Try.underlying42 cells22 rd22
theorem cells25 : Try.prog.cellsOf 25 = 1 := by kernel_rfl
theorem rd25 : RdC Try.prog 25 gI3 := RdC.slice Try.underlying25 cells42 rd42
theorem cells27 : Try.prog.cellsOf 27 = 4 := by kernel_rfl
abbrev gL27 : ((Int × Int × (Nat × (Nat → Int)) × Unit) × (Nat × (Nat → Nat × (Nat → Nat × (Nat → Int)))) × Unit) → List GV := fun a => gL24 a.1 ++ ([gI3 a.2.1] ++ ([]))
set_option maxRecDepth 100000 in
theorem rl27 : RdL Try.prog 27 gL27 := RdL.struct (m := 3 + (1 + (0))) Try.underlying27 cells27 (RdF.cons (G := gL24) (G' := fun a : ((Nat × (Nat → Nat × (Nat → Nat × (Nat → Int)))) × Unit) => [gI3 a.1] ++ ([])) rfl cells24 rl24 (RdF.cons (G := fun a : (Nat × (Nat → Nat × (Nat → Nat × (Nat → Int)))) => [gI3 a]) (G' := fun a : (Unit) => []) rfl cells25 (RdL.cell rd25 cells25) (RdF.nil)))
abbrev gL55 : (Int × (Nat × (Nat → Nat × (Nat → Int))) × (Nat × (Nat → Int)) × Unit) → List GV := fun a => [gI a.1] ++ ([gI2 a.2.1] ++ ([gI1 a.2.2.1] ++ ([])))
end Go.Proofs.Ytdpibcniodhinaa.Gh
/- The numbers of the functions. -/
namespace Go.Proofs.Ytdpibcniodhinaa.Gh
abbrev fid_conv_Free : Nat := 30
abbrev fid_conv_build : Nat := 35
abbrev fid_conv_coefficient : Nat := 63
abbrev fid_conv_digits : Nat := 66
abbrev fid_conv_machine_edges : Nat := 48
abbrev fid_conv_machine_path : Nat := 49
abbrev fid_conv_machine_step : Nat := 41
abbrev fid_field_GF_Add : Nat := 61
abbrev fid_field_GF_Is : Nat := 56
abbrev fid_field_GF_Mul : Nat := 62
abbrev fid_field_GF_Order : Nat := 55
abbrev fid_field_GF_in : Nat := 75
abbrev fid_field_New : Nat := 54
abbrev fid_field_digitsOf : Nat := 79
abbrev fid_field_generator : Nat := 71
abbrev fid_field_isPrime : Nat := 76
abbrev fid_field_multiply : Nat := 78
abbrev fid_field_order : Nat := 70
abbrev fid_field_powers : Nat := 77
abbrev fid_field_shape : Nat := 69
abbrev fid_field_valueOf : Nat := 80
abbrev fid_law20_ConvFrees : Nat := 8
abbrev fid_law20_few : Nat := 11
abbrev fid_number_Exp : Nat := 58
abbrev fid_poly_Canon : Nat := 57
abbrev fid_poly_trim : Nat := 72
abbrev fid_ref04_Add : Nat := 42
abbrev fid_ref04_Check : Nat := 36
abbrev fid_ref04_Digits : Nat := 64
abbrev fid_ref04_Dot : Nat := 43
abbrev fid_ref04_In : Nat := 26
abbrev fid_ref04_Is : Nat := 46
abbrev fid_ref04_Mul : Nat := 45
abbrev fid_ref04_Order : Nat := 39
abbrev fid_ref04_Value : Nat := 65
abbrev fid_ref04_digits : Nat := 74
abbrev fid_ref04_divides : Nat := 73
abbrev fid_ref04_irreducible : Nat := 60
abbrev fid_ref04_prime : Nat := 59
abbrev fid_ref09_Entries : Nat := 37
abbrev fid_ref20_Accept : Nat := 33
abbrev fid_ref20_Check : Nat := 13
abbrev fid_ref20_Degree : Nat := 38
abbrev fid_ref20_Encode : Nat := 24
abbrev fid_ref20_Free : Nat := 32
abbrev fid_ref20_Input : Nat := 52
abbrev fid_ref20_Inputs : Nat := 50
abbrev fid_ref20_Least : Nat := 51
abbrev fid_ref20_List : Nat := 19
abbrev fid_ref20_Memory : Nat := 47
abbrev fid_ref20_Next : Nat := 20
abbrev fid_ref20_Small : Nat := 31
abbrev fid_ref20_States : Nat := 18
abbrev fid_ref20_Steps : Nat := 22
abbrev fid_ref20_Terminate : Nat := 28
abbrev fid_ref20_Weight : Nat := 27
end Go.Proofs.Ytdpibcniodhinaa.Gh
/- The seat's program. -/
namespace Go.Proofs.Ytdpibcniodhinaa.Gh
open Go Go.RowKit
theorem hmix : Go.Proofs.Try.prog.follows .mixedOrders = true := by kernel_rfl
noncomputable abbrev prog : Program := Go.Proofs.Try.prog
end Go.Proofs.Ytdpibcniodhinaa.Gh
/- The equations of the evaluator, tagged. -/
namespace Go.Proofs.Ytdpibcniodhinaa.Gh
open Go Go.RowKit
attribute [go_sem] gev_t gev_c st_same st_ne mkE_nil mkE_cons e_nil e_cons e_kops e_kops_none e_guard e_tt e_ff e_tf e_tu e_ft e_some e_mov e_pick e_pick_t e_pick_f e_bin e_un e_not e_neg e_add e_sub e_mul e_quo e_rem e_xor e_and e_or e_eql e_neq e_lss e_leq e_gtr e_geq e_field e_field1 e_fieldm e_faddr e_faddr_ptr e_faddr_pp e_iaddr e_iaddr_own e_iaddr_sl e_iaddr_lit e_nilc e_nilc_ptr e_nilc_pp e_ext e_ext0 e_ext1 e_ext2 e_len e_len_nil e_len_emp e_len_lit e_len_sl e_len_own e_mm e_max e_min e_isnil e_isnil_nil e_isnil_emp e_isnil_lit e_isnil_own e_load e_cell_pp e_cells_pp e_store e_box e_box_some e_alloc e_empty e_bslice e_bs_some e_blit e_bl_some e_mslice e_ms_int e_append e_app_nil e_app_emp e_appendp e_appp_nil e_appp_emp e_appp_lit e_copy e_call e_gc_int e_gc_bool e_gc_nil e_gc_emp e_gc_lit e_gc_sl e_gc_own e_gc_ptr e_gc_pp e_gc_nilp e_gc_fn e_gc_agg w_skip w_region w_seq w_block w_exit w_ret w_cond w_loop w_draw s_n s_x s_r b_n b_x b_r c_t c_f l_x l_r d_kdr m_nil m_cons m_kmops m_kmopsn m_kmops0 m_guard m_tt m_ff m_tf m_ft m_kpm m_load m_cell_pp m_cells_pp m_box m_box_some m_alloc m_bslice m_bs_some m_mslice m_ms_int m_append m_app_nil m_app_emp m_call decide_true decide_false Bool.not_true Bool.not_false Int.toNat_natCast List.length_cons List.length_nil setL_nil setL_cons e_cell_ptr e_cl1 e_clm e_store_ptr e_stp e_app_own e_appo e_app_lit e_copy_own e_cpo e_gel_nil e_gel_emp e_gel_lit e_gel_sl e_gel_own e_hgel e_fill_nil e_fill e_hfl gat_0 gat_1 gat_2 gat_3 gat_4 gat_5 gat_6 gat_7 gat_8 gat_9 gat_10 gat_11 upd_same upd_n1 upd_1n cell_int cell_bool cell_sl cell_own cell_nil cell_emp cell_lit cell_ptr cell_pp cell_nilp true_and and_true and_self if_true if_false List.all_cons List.all_nil Bool.and_true Bool.and_self Bool.true_and List.drop_zero List.take_zero List.take_succ_cons List.drop_succ_cons List.set_cons_zero List.set_cons_succ Nat.add_zero Nat.zero_add Nat.mul_one List.map_cons List.map_nil e_map_some tab_len tab_set it_upf upd_upd Int.mul_one m_p_mov m_p_pick m_p_bin m_p_isnil m_p_un m_p_field m_p_fieldAddr m_p_indexAddr m_p_arrAddr m_p_nilCheck m_p_extract m_p_len m_p_mm m_p_build m_p_slice m_p_conv m_p_mkfn m_p_empty m_p_blit m_p_mslicep m_cell_ptr m_cl1 m_clm Nat.lt_add_one ns2 ns3 ns4 ns5 ns6 ns7 upd_lit Int.natCast_nonneg it_at ns12 ns13 ns14 ns15 ns22 ns23 ns24 ns25 ns32 ns33 ns34 ns35 ns42 ns43 ns44 ns45 ns52 ns53 ns54 ns55 e_slice e_bd_none e_bd_some e_hbd e_sl_nil e_sl_sl e_sl_own e_hso e_hss e_hsn Nat.sub_zero Nat.zero_le Nat.le_refl Nat.add_lt_add_iff_left Nat.lt_add_right_iff_pos e_build
end Go.Proofs.Ytdpibcniodhinaa.Gh
/- The ghost code of some functions. -/
namespace Go.Proofs.Ytdpibcniodhinaa.Gh
open Go Go.RowKit
def B_ref04_Add : GCode :=
  (.seq (.region [⟨(some 3), .box (.t 0), none⟩,
    ⟨(some 6), .mov (.c (.int .i64 0)), none⟩])
  (.seq (.region [⟨(some 10), .load (some 3) (.t 3), none⟩,
    ⟨(some 11), .mov (.t 1), none⟩,
    ⟨(some 12), .call fid_ref04_Digits [(.t 10), (.t 11)], none⟩,
    ⟨(some 7), .mov (.t 12), none⟩])
  (.seq (.region [⟨(some 13), .load (some 3) (.t 3), none⟩,
    ⟨(some 14), .mov (.t 2), none⟩,
    ⟨(some 15), .call fid_ref04_Digits [(.t 13), (.t 14)], none⟩,
    ⟨(some 8), .mov (.t 15), none⟩])
  (.seq (.seq (.region [⟨(some 9), .mov (.c (.int .i64 0)), none⟩])
  (.block 0 (.loop (.seq (.seq (.region [⟨(some 16), .mov (.t 9), none⟩,
    ⟨(some 17), .mov (.t 7), none⟩,
    ⟨(some 18), .len (.t 17), none⟩,
    ⟨(some 19), .bin .lss (.t 16) (.t 18), none⟩])
  (.cond (.t 19)
  .skip
  (.exit 0)))
  (.seq (.block 1 (.draw [0, 0, 0, 0, 12, 28, 0, 0, 192, 448, 1020, 0, 2048, 8188, 16383, 32767]
    [⟨(some 22), .mov (.t 7), none⟩,
    ⟨(some 23), .mov (.t 9), none⟩,
    ⟨(some 24), .mov (.t 7), none⟩,
    ⟨(some 25), .mov (.t 9), none⟩,
    ⟨(some 26), .indexAddr 1 (.t 24) (.t 25), none⟩,
    ⟨(some 27), .load none (.t 26), none⟩,
    ⟨(some 28), .mov (.t 8), none⟩,
    ⟨(some 29), .mov (.t 9), none⟩,
    ⟨(some 30), .indexAddr 1 (.t 28) (.t 29), none⟩,
    ⟨(some 31), .load none (.t 30), none⟩,
    ⟨(some 32), .bin .add (.t 27) (.t 31), none⟩,
    ⟨(some 33), .fieldAddr 0 (.t 3), none⟩,
    ⟨(some 34), .load none (.t 33), none⟩,
    ⟨(some 35), .bin .rem (.t 32) (.t 34), none⟩]
    [⟨(some 36), .indexAddr 1 (.t 22) (.t 23), none⟩,
    ⟨none, .store 1 (.t 36) (.t 35), none⟩]))
  (.region [⟨(some 20), .mov (.t 9), none⟩,
    ⟨(some 21), .bin .add (.t 20) (.c (.int .i64 1)), none⟩,
    ⟨(some 9), .mov (.t 21), none⟩]))))))
  (.seq (.region [⟨(some 37), .load (some 3) (.t 3), none⟩,
    ⟨(some 38), .mov (.t 7), none⟩,
    ⟨(some 39), .call fid_ref04_Value [(.t 37), (.t 38)], none⟩,
    ⟨(some 6), .mov (.t 39), none⟩])
  .ret)))))
def F_ref04_Add : GFun := ⟨3, 40, B_ref04_Add, [.t 6]⟩
theorem ok_ref04_Add : okFun Go.Proofs.Try.prog fid_ref04_Add F_ref04_Add = true := by kernel_rfl
def B_ref04_Check : GCode :=
  (.seq (.region [⟨(some 1), .box (.t 0), none⟩,
    ⟨(some 2), .mov (.c (.int .i64 0)), none⟩])
  (.seq (.seq (.region [⟨(some 4), .load (some 3) (.t 1), none⟩,
    ⟨(some 5), .call fid_ref04_Order [(.t 4)], none⟩,
    ⟨(some 6), .bin .eql (.t 5) (.c (.int .i64 0)), none⟩,
    ⟨(some 7), .mov (.t 6), none⟩,
    ⟨(some 8), .fieldAddr 0 (.t 1), (some (7, false))⟩,
    ⟨(some 9), .load none (.t 8), (some (7, false))⟩,
    ⟨(some 10), .call fid_ref04_prime [(.t 9)], (some (7, false))⟩,
    ⟨(some 11), .un .not (.t 10), (some (7, false))⟩,
    ⟨(some 12), .pick (.t 7) (.c (.bool true)) (.t 11), none⟩])
  (.cond (.t 12)
  (.seq (.region [⟨(some 2), .mov (.c (.int .i64 1)), none⟩])
  .ret)
  .skip))
  (.seq (.seq (.region [⟨(some 13), .fieldAddr 1 (.t 1), none⟩,
    ⟨(some 14), .load none (.t 13), none⟩,
    ⟨(some 15), .bin .eql (.t 14) (.c (.int .i64 1)), none⟩])
  (.cond (.t 15)
  (.seq (.seq (.region [⟨(some 16), .fieldAddr 2 (.t 1), none⟩,
    ⟨(some 17), .load none (.t 16), none⟩,
    ⟨(some 18), .len (.t 17), none⟩,
    ⟨(some 19), .bin .neq (.t 18) (.c (.int .i64 0)), none⟩])
  (.cond (.t 19)
  (.seq (.region [⟨(some 2), .mov (.c (.int .i64 1)), none⟩])
  .ret)
  .skip))
  (.seq (.region [⟨(some 2), .mov (.c (.int .i64 0)), none⟩])
  .ret))
  .skip))
  (.seq (.seq (.region [⟨(some 20), .fieldAddr 2 (.t 1), none⟩,
    ⟨(some 21), .load none (.t 20), none⟩,
    ⟨(some 22), .len (.t 21), none⟩,
    ⟨(some 23), .fieldAddr 1 (.t 1), none⟩,
    ⟨(some 24), .load none (.t 23), none⟩,
    ⟨(some 25), .bin .neq (.t 22) (.t 24), none⟩])
  (.cond (.t 25)
  (.seq (.region [⟨(some 2), .mov (.c (.int .i64 1)), none⟩])
  .ret)
  .skip))
  (.seq (.seq (.region [⟨(some 3), .mov (.c (.int .i64 0)), none⟩])
  (.block 0 (.loop (.seq (.seq (.region [⟨(some 26), .mov (.t 3), none⟩,
    ⟨(some 27), .fieldAddr 1 (.t 1), none⟩,
    ⟨(some 28), .load none (.t 27), none⟩,
    ⟨(some 29), .bin .lss (.t 26) (.t 28), none⟩])
  (.cond (.t 29)
  .skip
  (.exit 0)))
  (.seq (.block 1 (.seq (.draw [0, 1, 0, 7, 15, 31, 63, 127, 255, 127, 1023, 2047, 127, 4223, 16383, 32767]
    [⟨(some 32), .fieldAddr 2 (.t 1), none⟩,
    ⟨(some 33), .load none (.t 32), none⟩,
    ⟨(some 34), .mov (.t 3), none⟩,
    ⟨(some 35), .indexAddr 1 (.t 33) (.t 34), none⟩,
    ⟨(some 36), .load none (.t 35), none⟩,
    ⟨(some 37), .bin .lss (.t 36) (.c (.int .i64 0)), none⟩,
    ⟨(some 38), .mov (.t 37), none⟩,
    ⟨(some 39), .fieldAddr 2 (.t 1), (some (38, false))⟩,
    ⟨(some 40), .load none (.t 39), (some (38, false))⟩,
    ⟨(some 41), .mov (.t 3), (some (38, false))⟩,
    ⟨(some 42), .indexAddr 1 (.t 40) (.t 41), (some (38, false))⟩,
    ⟨(some 43), .load none (.t 42), (some (38, false))⟩,
    ⟨(some 44), .fieldAddr 0 (.t 1), (some (38, false))⟩,
    ⟨(some 45), .load none (.t 44), (some (38, false))⟩]
    [⟨(some 46), .bin .geq (.t 43) (.t 45), (some (38, false))⟩,
    ⟨(some 47), .pick (.t 38) (.c (.bool true)) (.t 46), none⟩])
  (.cond (.t 47)
  (.seq (.region [⟨(some 2), .mov (.c (.int .i64 1)), none⟩])
  .ret)
  .skip)))
  (.region [⟨(some 30), .mov (.t 3), none⟩,
    ⟨(some 31), .bin .add (.t 30) (.c (.int .i64 1)), none⟩,
    ⟨(some 3), .mov (.t 31), none⟩]))))))
  (.seq (.seq (.region [⟨(some 48), .fieldAddr 2 (.t 1), none⟩,
    ⟨(some 49), .load none (.t 48), none⟩,
    ⟨(some 50), .fieldAddr 0 (.t 1), none⟩,
    ⟨(some 51), .load none (.t 50), none⟩,
    ⟨(some 52), .call fid_ref04_irreducible [(.t 49), (.t 51)], none⟩,
    ⟨(some 53), .un .not (.t 52), none⟩])
  (.cond (.t 53)
  (.seq (.region [⟨(some 2), .mov (.c (.int .i64 1)), none⟩])
  .ret)
  .skip))
  (.seq (.region [⟨(some 2), .mov (.c (.int .i64 0)), none⟩])
  .ret)))))))
def F_ref04_Check : GFun := ⟨1, 54, B_ref04_Check, [.t 2]⟩
theorem ok_ref04_Check : okFun Go.Proofs.Try.prog fid_ref04_Check F_ref04_Check = true := by kernel_rfl
def B_ref04_Digits : GCode :=
  (.seq (.region [⟨(some 2), .box (.t 0), none⟩,
    ⟨(some 4), .mov (.c (.nil)), none⟩])
  (.seq (.draw [0, 0, 3, 0, 8, 0, 32, 127, 255]
    [⟨(some 5), .load (some 3) (.t 2), none⟩,
    ⟨(some 6), .mov (.t 1), none⟩,
    ⟨(some 7), .call fid_ref04_In [(.t 5), (.t 6)], none⟩,
    ⟨(some 8), .fieldAddr 0 (.t 2), none⟩,
    ⟨(some 9), .load none (.t 8), none⟩,
    ⟨(some 10), .fieldAddr 1 (.t 2), none⟩,
    ⟨(some 11), .load none (.t 10), none⟩]
    [⟨(some 12), .call fid_ref04_digits [(.t 7), (.t 9), (.t 11)], none⟩,
    ⟨(some 4), .mov (.t 12), none⟩])
  .ret))
def F_ref04_Digits : GFun := ⟨2, 13, B_ref04_Digits, [.t 4]⟩
theorem ok_ref04_Digits : okFun Go.Proofs.Try.prog fid_ref04_Digits F_ref04_Digits = true := by kernel_rfl
def B_ref04_Dot : GCode :=
  (.seq (.region [⟨(some 3), .box (.t 0), none⟩,
    ⟨(some 6), .mov (.c (.int .i64 0)), none⟩])
  (.seq (.region [⟨(some 7), .mov (.c (.int .i64 0)), none⟩])
  (.seq (.seq (.region [⟨(some 8), .mov (.c (.int .i64 0)), none⟩])
  (.block 0 (.loop (.seq (.seq (.region [⟨(some 9), .mov (.t 8), none⟩,
    ⟨(some 10), .mov (.t 1), none⟩,
    ⟨(some 11), .len (.t 10), none⟩,
    ⟨(some 12), .bin .lss (.t 9) (.t 11), none⟩,
    ⟨(some 13), .mov (.t 12), none⟩,
    ⟨(some 14), .mov (.t 8), (some (13, true))⟩,
    ⟨(some 15), .mov (.t 2), (some (13, true))⟩,
    ⟨(some 16), .len (.t 15), (some (13, true))⟩,
    ⟨(some 17), .bin .lss (.t 14) (.t 16), (some (13, true))⟩,
    ⟨(some 18), .pick (.t 13) (.t 17) (.c (.bool false)), none⟩])
  (.cond (.t 18)
  .skip
  (.exit 0)))
  (.seq (.block 1 (.draw [0, 0, 0, 0, 0, 24, 56, 0, 0, 384, 896, 2044, 4095, 8191]
    [⟨(some 21), .load (some 3) (.t 3), none⟩,
    ⟨(some 22), .mov (.t 7), none⟩,
    ⟨(some 23), .load (some 3) (.t 3), none⟩,
    ⟨(some 24), .mov (.t 1), none⟩,
    ⟨(some 25), .mov (.t 8), none⟩,
    ⟨(some 26), .indexAddr 1 (.t 24) (.t 25), none⟩,
    ⟨(some 27), .load none (.t 26), none⟩,
    ⟨(some 28), .mov (.t 2), none⟩,
    ⟨(some 29), .mov (.t 8), none⟩,
    ⟨(some 30), .indexAddr 1 (.t 28) (.t 29), none⟩,
    ⟨(some 31), .load none (.t 30), none⟩,
    ⟨(some 32), .call fid_ref04_Mul [(.t 23), (.t 27), (.t 31)], none⟩]
    [⟨(some 33), .call fid_ref04_Add [(.t 21), (.t 22), (.t 32)], none⟩,
    ⟨(some 7), .mov (.t 33), none⟩]))
  (.region [⟨(some 19), .mov (.t 8), none⟩,
    ⟨(some 20), .bin .add (.t 19) (.c (.int .i64 1)), none⟩,
    ⟨(some 8), .mov (.t 20), none⟩]))))))
  (.seq (.region [⟨(some 34), .mov (.t 7), none⟩,
    ⟨(some 6), .mov (.t 34), none⟩])
  .ret))))
def F_ref04_Dot : GFun := ⟨3, 35, B_ref04_Dot, [.t 6]⟩
theorem ok_ref04_Dot : okFun Go.Proofs.Try.prog fid_ref04_Dot F_ref04_Dot = true := by kernel_rfl
def B_ref04_In : GCode :=
  (.seq (.region [⟨(some 2), .box (.t 0), none⟩,
    ⟨(some 4), .mov (.c (.int .i64 0)), none⟩])
  (.seq (.seq (.region [⟨(some 5), .load (some 3) (.t 2), none⟩,
    ⟨(some 6), .mov (.t 1), none⟩,
    ⟨(some 7), .call fid_ref04_Is [(.t 5), (.t 6)], none⟩])
  (.cond (.t 7)
  (.seq (.region [⟨(some 8), .mov (.t 1), none⟩,
    ⟨(some 4), .mov (.t 8), none⟩])
  .ret)
  .skip))
  (.seq (.region [⟨(some 4), .mov (.c (.int .i64 0)), none⟩])
  .ret)))
def F_ref04_In : GFun := ⟨2, 9, B_ref04_In, [.t 4]⟩
theorem ok_ref04_In : okFun Go.Proofs.Try.prog fid_ref04_In F_ref04_In = true := by kernel_rfl
def B_ref04_Is : GCode :=
  (.seq (.region [⟨(some 2), .box (.t 0), none⟩,
    ⟨(some 4), .mov (.c (.bool false)), none⟩])
  (.seq (.region [⟨(some 5), .mov (.t 1), none⟩,
    ⟨(some 6), .bin .geq (.t 5) (.c (.int .i64 0)), none⟩,
    ⟨(some 7), .mov (.t 6), none⟩,
    ⟨(some 8), .mov (.t 1), (some (7, true))⟩,
    ⟨(some 9), .load (some 3) (.t 2), (some (7, true))⟩,
    ⟨(some 10), .call fid_ref04_Order [(.t 9)], (some (7, true))⟩,
    ⟨(some 11), .bin .lss (.t 8) (.t 10), (some (7, true))⟩,
    ⟨(some 12), .pick (.t 7) (.t 11) (.c (.bool false)), none⟩,
    ⟨(some 4), .mov (.t 12), none⟩])
  .ret))
def F_ref04_Is : GFun := ⟨2, 13, B_ref04_Is, [.t 4]⟩
theorem ok_ref04_Is : okFun Go.Proofs.Try.prog fid_ref04_Is F_ref04_Is = true := by kernel_rfl
def B_ref04_Mul : GCode :=
  (.seq (.region [⟨(some 3), .box (.t 0), none⟩,
    ⟨(some 6), .mov (.c (.int .i64 0)), none⟩])
  (.seq (.region [⟨(some 14), .load (some 3) (.t 3), none⟩,
    ⟨(some 15), .mov (.t 1), none⟩,
    ⟨(some 16), .call fid_ref04_Digits [(.t 14), (.t 15)], none⟩,
    ⟨(some 7), .mov (.t 16), none⟩])
  (.seq (.region [⟨(some 17), .load (some 3) (.t 3), none⟩,
    ⟨(some 18), .mov (.t 2), none⟩,
    ⟨(some 19), .call fid_ref04_Digits [(.t 17), (.t 18)], none⟩,
    ⟨(some 8), .mov (.t 19), none⟩])
  (.seq (.region [⟨(some 20), .fieldAddr 1 (.t 3), none⟩,
    ⟨(some 21), .load none (.t 20), none⟩,
    ⟨(some 22), .bin .mul (.c (.int .i64 2)) (.t 21), none⟩,
    ⟨(some 23), .bin .sub (.t 22) (.c (.int .i64 1)), none⟩,
    ⟨(some 24), .mslice (.int .i64 0) 8 (.t 23) (.t 23), none⟩,
    ⟨(some 9), .mov (.t 24), none⟩])
  (.seq (.seq (.region [⟨(some 10), .mov (.c (.int .i64 0)), none⟩])
  (.block 0 (.loop (.seq (.seq (.region [⟨(some 25), .mov (.t 10), none⟩,
    ⟨(some 26), .fieldAddr 1 (.t 3), none⟩,
    ⟨(some 27), .load none (.t 26), none⟩,
    ⟨(some 28), .bin .lss (.t 25) (.t 27), none⟩])
  (.cond (.t 28)
  .skip
  (.exit 0)))
  (.seq (.block 1 (.seq (.region [⟨(some 11), .mov (.c (.int .i64 0)), none⟩])
  (.block 2 (.loop (.seq (.seq (.region [⟨(some 31), .mov (.t 11), none⟩,
    ⟨(some 32), .fieldAddr 1 (.t 3), none⟩,
    ⟨(some 33), .load none (.t 32), none⟩,
    ⟨(some 34), .bin .lss (.t 31) (.t 33), none⟩])
  (.cond (.t 34)
  .skip
  (.exit 2)))
  (.seq (.block 3 (.draw [0, 0, 0, 6, 0, 0, 0, 96, 240, 496, 0, 0, 3072, 7168, 0, 0, 49152, 114688, 261120, 524272, 0, 1048576, 4194288, 8388607, 16777215]
    [⟨(some 37), .mov (.t 9), none⟩,
    ⟨(some 38), .mov (.t 10), none⟩,
    ⟨(some 39), .mov (.t 11), none⟩,
    ⟨(some 40), .bin .add (.t 38) (.t 39), none⟩,
    ⟨(some 41), .mov (.t 9), none⟩,
    ⟨(some 42), .mov (.t 10), none⟩,
    ⟨(some 43), .mov (.t 11), none⟩,
    ⟨(some 44), .bin .add (.t 42) (.t 43), none⟩,
    ⟨(some 45), .indexAddr 1 (.t 41) (.t 44), none⟩,
    ⟨(some 46), .load none (.t 45), none⟩,
    ⟨(some 47), .mov (.t 7), none⟩,
    ⟨(some 48), .mov (.t 10), none⟩,
    ⟨(some 49), .indexAddr 1 (.t 47) (.t 48), none⟩,
    ⟨(some 50), .load none (.t 49), none⟩,
    ⟨(some 51), .mov (.t 8), none⟩,
    ⟨(some 52), .mov (.t 11), none⟩,
    ⟨(some 53), .indexAddr 1 (.t 51) (.t 52), none⟩,
    ⟨(some 54), .load none (.t 53), none⟩,
    ⟨(some 55), .bin .mul (.t 50) (.t 54), none⟩,
    ⟨(some 56), .bin .add (.t 46) (.t 55), none⟩,
    ⟨(some 57), .fieldAddr 0 (.t 3), none⟩,
    ⟨(some 58), .load none (.t 57), none⟩,
    ⟨(some 59), .bin .rem (.t 56) (.t 58), none⟩]
    [⟨(some 60), .indexAddr 1 (.t 37) (.t 40), none⟩,
    ⟨none, .store 1 (.t 60) (.t 59), none⟩]))
  (.region [⟨(some 35), .mov (.t 11), none⟩,
    ⟨(some 36), .bin .add (.t 35) (.c (.int .i64 1)), none⟩,
    ⟨(some 11), .mov (.t 36), none⟩])))))))
  (.region [⟨(some 29), .mov (.t 10), none⟩,
    ⟨(some 30), .bin .add (.t 29) (.c (.int .i64 1)), none⟩,
    ⟨(some 10), .mov (.t 30), none⟩]))))))
  (.seq (.seq (.region [⟨(some 61), .fieldAddr 1 (.t 3), none⟩,
    ⟨(some 62), .load none (.t 61), none⟩,
    ⟨(some 63), .bin .mul (.c (.int .i64 2)) (.t 62), none⟩,
    ⟨(some 64), .bin .sub (.t 63) (.c (.int .i64 2)), none⟩,
    ⟨(some 12), .mov (.t 64), none⟩])
  (.block 4 (.loop (.seq (.seq (.region [⟨(some 65), .mov (.t 12), none⟩,
    ⟨(some 66), .fieldAddr 1 (.t 3), none⟩,
    ⟨(some 67), .load none (.t 66), none⟩,
    ⟨(some 68), .bin .geq (.t 65) (.t 67), none⟩])
  (.cond (.t 68)
  .skip
  (.exit 4)))
  (.seq (.block 5 (.seq (.region [⟨(some 13), .mov (.c (.int .i64 0)), none⟩])
  (.block 6 (.loop (.seq (.seq (.region [⟨(some 71), .mov (.t 13), none⟩,
    ⟨(some 72), .fieldAddr 1 (.t 3), none⟩,
    ⟨(some 73), .load none (.t 72), none⟩,
    ⟨(some 74), .bin .lss (.t 71) (.t 73), none⟩])
  (.cond (.t 74)
  .skip
  (.exit 6)))
  (.seq (.block 7 (.draw [0, 0, 0, 4, 14, 0, 62, 0, 0, 0, 512, 1792, 0, 7936, 16256, 32640, 0, 65536, 0, 0, 786432, 1835008, 4128768, 0, 8388608, 0, 58720256, 125829120, 268369920, 536870784, 0, 1073741824, 4294967168, 8589934591, 17179869183]
    [⟨(some 77), .mov (.t 9), none⟩,
    ⟨(some 78), .mov (.t 12), none⟩,
    ⟨(some 79), .fieldAddr 1 (.t 3), none⟩,
    ⟨(some 80), .load none (.t 79), none⟩,
    ⟨(some 81), .bin .sub (.t 78) (.t 80), none⟩,
    ⟨(some 82), .mov (.t 13), none⟩,
    ⟨(some 83), .bin .add (.t 81) (.t 82), none⟩,
    ⟨(some 84), .mov (.t 9), none⟩,
    ⟨(some 85), .mov (.t 12), none⟩,
    ⟨(some 86), .fieldAddr 1 (.t 3), none⟩,
    ⟨(some 87), .load none (.t 86), none⟩,
    ⟨(some 88), .bin .sub (.t 85) (.t 87), none⟩,
    ⟨(some 89), .mov (.t 13), none⟩,
    ⟨(some 90), .bin .add (.t 88) (.t 89), none⟩,
    ⟨(some 91), .indexAddr 1 (.t 84) (.t 90), none⟩,
    ⟨(some 92), .load none (.t 91), none⟩,
    ⟨(some 93), .fieldAddr 0 (.t 3), none⟩,
    ⟨(some 94), .load none (.t 93), none⟩,
    ⟨(some 95), .mov (.t 9), none⟩,
    ⟨(some 96), .mov (.t 12), none⟩,
    ⟨(some 97), .indexAddr 1 (.t 95) (.t 96), none⟩,
    ⟨(some 98), .load none (.t 97), none⟩,
    ⟨(some 99), .bin .sub (.t 94) (.t 98), none⟩,
    ⟨(some 100), .fieldAddr 2 (.t 3), none⟩,
    ⟨(some 101), .load none (.t 100), none⟩,
    ⟨(some 102), .mov (.t 13), none⟩,
    ⟨(some 103), .indexAddr 1 (.t 101) (.t 102), none⟩,
    ⟨(some 104), .load none (.t 103), none⟩,
    ⟨(some 105), .bin .mul (.t 99) (.t 104), none⟩,
    ⟨(some 106), .bin .add (.t 92) (.t 105), none⟩,
    ⟨(some 107), .fieldAddr 0 (.t 3), none⟩,
    ⟨(some 108), .load none (.t 107), none⟩,
    ⟨(some 109), .bin .rem (.t 106) (.t 108), none⟩]
    [⟨(some 110), .indexAddr 1 (.t 77) (.t 83), none⟩,
    ⟨none, .store 1 (.t 110) (.t 109), none⟩]))
  (.region [⟨(some 75), .mov (.t 13), none⟩,
    ⟨(some 76), .bin .add (.t 75) (.c (.int .i64 1)), none⟩,
    ⟨(some 13), .mov (.t 76), none⟩])))))))
  (.region [⟨(some 69), .mov (.t 12), none⟩,
    ⟨(some 70), .bin .sub (.t 69) (.c (.int .i64 1)), none⟩,
    ⟨(some 12), .mov (.t 70), none⟩]))))))
  (.seq (.draw [0, 0, 0, 4, 14, 31, 63]
    [⟨(some 111), .load (some 3) (.t 3), none⟩,
    ⟨(some 112), .mov (.t 9), none⟩,
    ⟨(some 113), .fieldAddr 1 (.t 3), none⟩,
    ⟨(some 114), .load none (.t 113), none⟩,
    ⟨(some 115), .slice (.t 112) none (some (.t 114)) none, none⟩]
    [⟨(some 116), .call fid_ref04_Value [(.t 111), (.t 115)], none⟩,
    ⟨(some 6), .mov (.t 116), none⟩])
  .ret)))))))
def F_ref04_Mul : GFun := ⟨3, 117, B_ref04_Mul, [.t 6]⟩
theorem ok_ref04_Mul : okFun Go.Proofs.Try.prog fid_ref04_Mul F_ref04_Mul = true := by kernel_rfl
def B_ref04_Order : GCode :=
  (.seq (.region [⟨(some 1), .box (.t 0), none⟩,
    ⟨(some 2), .mov (.c (.int .i64 0)), none⟩])
  (.seq (.seq (.region [⟨(some 5), .fieldAddr 0 (.t 1), none⟩,
    ⟨(some 6), .load none (.t 5), none⟩,
    ⟨(some 7), .bin .lss (.t 6) (.c (.int .i64 2)), none⟩,
    ⟨(some 8), .mov (.t 7), none⟩,
    ⟨(some 9), .fieldAddr 1 (.t 1), (some (8, false))⟩,
    ⟨(some 10), .load none (.t 9), (some (8, false))⟩,
    ⟨(some 11), .bin .lss (.t 10) (.c (.int .i64 1)), (some (8, false))⟩,
    ⟨(some 12), .pick (.t 8) (.c (.bool true)) (.t 11), none⟩,
    ⟨(some 13), .mov (.t 12), none⟩,
    ⟨(some 14), .fieldAddr 1 (.t 1), (some (13, false))⟩,
    ⟨(some 15), .load none (.t 14), (some (13, false))⟩,
    ⟨(some 16), .bin .gtr (.t 15) (.c (.int .i64 8)), (some (13, false))⟩,
    ⟨(some 17), .pick (.t 13) (.c (.bool true)) (.t 16), none⟩])
  (.cond (.t 17)
  (.seq (.region [⟨(some 2), .mov (.c (.int .i64 0)), none⟩])
  .ret)
  .skip))
  (.seq (.region [⟨(some 3), .mov (.c (.int .i64 1)), none⟩])
  (.seq (.seq (.region [⟨(some 4), .mov (.c (.int .i64 0)), none⟩])
  (.block 0 (.loop (.seq (.seq (.region [⟨(some 18), .mov (.t 4), none⟩,
    ⟨(some 19), .fieldAddr 1 (.t 1), none⟩,
    ⟨(some 20), .load none (.t 19), none⟩,
    ⟨(some 21), .bin .lss (.t 18) (.t 20), none⟩])
  (.cond (.t 21)
  .skip
  (.exit 0)))
  (.seq (.block 1 (.seq (.seq (.region [⟨(some 24), .mov (.t 3), none⟩,
    ⟨(some 25), .fieldAddr 0 (.t 1), none⟩,
    ⟨(some 26), .load none (.t 25), none⟩,
    ⟨(some 27), .bin .quo (.c (.int .i64 256)) (.t 26), none⟩,
    ⟨(some 28), .bin .gtr (.t 24) (.t 27), none⟩])
  (.cond (.t 28)
  (.seq (.region [⟨(some 2), .mov (.c (.int .i64 0)), none⟩])
  .ret)
  .skip))
  (.region [⟨(some 29), .mov (.t 3), none⟩,
    ⟨(some 30), .fieldAddr 0 (.t 1), none⟩,
    ⟨(some 31), .load none (.t 30), none⟩,
    ⟨(some 32), .bin .mul (.t 29) (.t 31), none⟩,
    ⟨(some 3), .mov (.t 32), none⟩])))
  (.region [⟨(some 22), .mov (.t 4), none⟩,
    ⟨(some 23), .bin .add (.t 22) (.c (.int .i64 1)), none⟩,
    ⟨(some 4), .mov (.t 23), none⟩]))))))
  (.seq (.region [⟨(some 33), .mov (.t 3), none⟩,
    ⟨(some 2), .mov (.t 33), none⟩])
  .ret)))))
def F_ref04_Order : GFun := ⟨1, 34, B_ref04_Order, [.t 2]⟩
theorem ok_ref04_Order : okFun Go.Proofs.Try.prog fid_ref04_Order F_ref04_Order = true := by kernel_rfl
def B_ref04_Value : GCode :=
  (.seq (.region [⟨(some 2), .box (.t 0), none⟩,
    ⟨(some 4), .mov (.c (.int .i64 0)), none⟩])
  (.seq (.region [⟨(some 5), .mov (.c (.int .i64 0)), none⟩])
  (.seq (.seq (.region [⟨(some 7), .mov (.t 1), none⟩,
    ⟨(some 8), .len (.t 7), none⟩,
    ⟨(some 9), .bin .sub (.t 8) (.c (.int .i64 1)), none⟩,
    ⟨(some 6), .mov (.t 9), none⟩])
  (.block 0 (.loop (.seq (.seq (.region [⟨(some 10), .mov (.t 6), none⟩,
    ⟨(some 11), .bin .geq (.t 10) (.c (.int .i64 0)), none⟩])
  (.cond (.t 11)
  .skip
  (.exit 0)))
  (.seq (.block 1 (.draw [0, 0, 2, 7, 0, 0, 48, 112, 255, 511]
    [⟨(some 14), .mov (.t 5), none⟩,
    ⟨(some 15), .fieldAddr 0 (.t 2), none⟩,
    ⟨(some 16), .load none (.t 15), none⟩,
    ⟨(some 17), .bin .mul (.t 14) (.t 16), none⟩,
    ⟨(some 18), .mov (.t 1), none⟩,
    ⟨(some 19), .mov (.t 6), none⟩,
    ⟨(some 20), .indexAddr 1 (.t 18) (.t 19), none⟩,
    ⟨(some 21), .load none (.t 20), none⟩]
    [⟨(some 22), .bin .add (.t 17) (.t 21), none⟩,
    ⟨(some 5), .mov (.t 22), none⟩]))
  (.region [⟨(some 12), .mov (.t 6), none⟩,
    ⟨(some 13), .bin .sub (.t 12) (.c (.int .i64 1)), none⟩,
    ⟨(some 6), .mov (.t 13), none⟩]))))))
  (.seq (.region [⟨(some 23), .mov (.t 5), none⟩,
    ⟨(some 4), .mov (.t 23), none⟩])
  .ret))))
def F_ref04_Value : GFun := ⟨2, 24, B_ref04_Value, [.t 4]⟩
theorem ok_ref04_Value : okFun Go.Proofs.Try.prog fid_ref04_Value F_ref04_Value = true := by kernel_rfl
def B_ref04_digits : GCode :=
  (.seq (.region [⟨(some 6), .mov (.c (.nil)), none⟩])
  (.seq (.region [⟨(some 9), .mov (.t 2), none⟩,
    ⟨(some 10), .mslice (.int .i64 0) 8 (.t 9) (.t 9), none⟩,
    ⟨(some 7), .mov (.t 10), none⟩])
  (.seq (.seq (.region [⟨(some 8), .mov (.c (.int .i64 0)), none⟩])
  (.block 0 (.loop (.seq (.seq (.region [⟨(some 11), .mov (.t 8), none⟩,
    ⟨(some 12), .mov (.t 2), none⟩,
    ⟨(some 13), .bin .lss (.t 11) (.t 12), none⟩])
  (.cond (.t 13)
  .skip
  (.exit 0)))
  (.seq (.block 1 (.seq (.region [⟨(some 16), .mov (.t 7), none⟩,
    ⟨(some 17), .mov (.t 8), none⟩,
    ⟨(some 18), .mov (.t 0), none⟩,
    ⟨(some 19), .mov (.t 1), none⟩,
    ⟨(some 20), .bin .rem (.t 18) (.t 19), none⟩,
    ⟨(some 21), .indexAddr 1 (.t 16) (.t 17), none⟩,
    ⟨none, .store 1 (.t 21) (.t 20), none⟩])
  (.region [⟨(some 22), .mov (.t 0), none⟩,
    ⟨(some 23), .mov (.t 1), none⟩,
    ⟨(some 24), .bin .quo (.t 22) (.t 23), none⟩,
    ⟨(some 0), .mov (.t 24), none⟩])))
  (.region [⟨(some 14), .mov (.t 8), none⟩,
    ⟨(some 15), .bin .add (.t 14) (.c (.int .i64 1)), none⟩,
    ⟨(some 8), .mov (.t 15), none⟩]))))))
  (.seq (.region [⟨(some 25), .mov (.t 7), none⟩,
    ⟨(some 6), .mov (.t 25), none⟩])
  .ret))))
def F_ref04_digits : GFun := ⟨3, 26, B_ref04_digits, [.t 6]⟩
theorem ok_ref04_digits : okFun Go.Proofs.Try.prog fid_ref04_digits F_ref04_digits = true := by kernel_rfl
def B_ref04_divides : GCode :=
  (.seq (.region [⟨(some 6), .mov (.c (.bool false)), none⟩])
  (.seq (.region [⟨(some 13), .mov (.t 0), none⟩,
    ⟨(some 14), .len (.t 13), none⟩,
    ⟨(some 7), .mov (.t 14), none⟩])
  (.seq (.region [⟨(some 15), .empty, none⟩,
    ⟨(some 16), .mov (.t 1), none⟩,
    ⟨(some 17), .append 8 (.t 15) (.t 16), none⟩,
    ⟨(some 8), .mov (.t 17), none⟩])
  (.seq (.region [⟨(some 18), .mov (.t 8), none⟩,
    ⟨(some 19), .bslice 1 [.int .i64 0] [(0, 1, (.c (.int .i64 1)))], none⟩,
    ⟨(some 20), .append 8 (.t 18) (.t 19), none⟩,
    ⟨(some 8), .mov (.t 20), none⟩])
  (.seq (.seq (.region [⟨(some 21), .mov (.t 8), none⟩,
    ⟨(some 22), .len (.t 21), none⟩,
    ⟨(some 23), .bin .sub (.t 22) (.c (.int .i64 1)), none⟩,
    ⟨(some 9), .mov (.t 23), none⟩])
  (.block 0 (.loop (.seq (.seq (.region [⟨(some 24), .mov (.t 9), none⟩,
    ⟨(some 25), .mov (.t 7), none⟩,
    ⟨(some 26), .bin .geq (.t 24) (.t 25), none⟩])
  (.cond (.t 26)
  .skip
  (.exit 0)))
  (.seq (.block 1 (.seq (.region [⟨(some 29), .mov (.t 8), none⟩,
    ⟨(some 30), .mov (.t 9), none⟩,
    ⟨(some 31), .indexAddr 1 (.t 29) (.t 30), none⟩,
    ⟨(some 32), .load none (.t 31), none⟩,
    ⟨(some 10), .mov (.t 32), none⟩])
  (.seq (.seq (.region [⟨(some 11), .mov (.c (.int .i64 0)), none⟩])
  (.block 2 (.loop (.seq (.seq (.region [⟨(some 33), .mov (.t 11), none⟩,
    ⟨(some 34), .mov (.t 7), none⟩,
    ⟨(some 35), .bin .lss (.t 33) (.t 34), none⟩])
  (.cond (.t 35)
  .skip
  (.exit 2)))
  (.seq (.block 3 (.draw [0, 0, 0, 6, 0, 30, 0, 0, 0, 384, 0, 1920, 4032, 8128, 0, 0, 49152, 0, 0, 393216, 917504, 2080768, 4194240, 0, 16777152, 33554431, 67108863]
    [⟨(some 38), .mov (.t 8), none⟩,
    ⟨(some 39), .mov (.t 9), none⟩,
    ⟨(some 40), .mov (.t 7), none⟩,
    ⟨(some 41), .bin .sub (.t 39) (.t 40), none⟩,
    ⟨(some 42), .mov (.t 11), none⟩,
    ⟨(some 43), .bin .add (.t 41) (.t 42), none⟩,
    ⟨(some 44), .mov (.t 8), none⟩,
    ⟨(some 45), .mov (.t 9), none⟩,
    ⟨(some 46), .mov (.t 7), none⟩,
    ⟨(some 47), .bin .sub (.t 45) (.t 46), none⟩,
    ⟨(some 48), .mov (.t 11), none⟩,
    ⟨(some 49), .bin .add (.t 47) (.t 48), none⟩,
    ⟨(some 50), .indexAddr 1 (.t 44) (.t 49), none⟩,
    ⟨(some 51), .load none (.t 50), none⟩,
    ⟨(some 52), .mov (.t 2), none⟩,
    ⟨(some 53), .mov (.t 10), none⟩,
    ⟨(some 54), .bin .sub (.t 52) (.t 53), none⟩,
    ⟨(some 55), .mov (.t 0), none⟩,
    ⟨(some 56), .mov (.t 11), none⟩,
    ⟨(some 57), .indexAddr 1 (.t 55) (.t 56), none⟩,
    ⟨(some 58), .load none (.t 57), none⟩,
    ⟨(some 59), .bin .mul (.t 54) (.t 58), none⟩,
    ⟨(some 60), .bin .add (.t 51) (.t 59), none⟩,
    ⟨(some 61), .mov (.t 2), none⟩,
    ⟨(some 62), .bin .rem (.t 60) (.t 61), none⟩]
    [⟨(some 63), .indexAddr 1 (.t 38) (.t 43), none⟩,
    ⟨none, .store 1 (.t 63) (.t 62), none⟩]))
  (.region [⟨(some 36), .mov (.t 11), none⟩,
    ⟨(some 37), .bin .add (.t 36) (.c (.int .i64 1)), none⟩,
    ⟨(some 11), .mov (.t 37), none⟩]))))))
  (.region [⟨(some 64), .mov (.t 8), none⟩,
    ⟨(some 65), .mov (.t 9), none⟩,
    ⟨(some 66), .indexAddr 1 (.t 64) (.t 65), none⟩,
    ⟨none, .store 1 (.t 66) (.c (.int .i64 0)), none⟩]))))
  (.region [⟨(some 27), .mov (.t 9), none⟩,
    ⟨(some 28), .bin .sub (.t 27) (.c (.int .i64 1)), none⟩,
    ⟨(some 9), .mov (.t 28), none⟩]))))))
  (.seq (.seq (.region [⟨(some 12), .mov (.c (.int .i64 0)), none⟩])
  (.block 4 (.loop (.seq (.seq (.region [⟨(some 67), .mov (.t 12), none⟩,
    ⟨(some 68), .mov (.t 8), none⟩,
    ⟨(some 69), .len (.t 68), none⟩,
    ⟨(some 70), .bin .lss (.t 67) (.t 69), none⟩])
  (.cond (.t 70)
  .skip
  (.exit 4)))
  (.seq (.block 5 (.seq (.region [⟨(some 73), .mov (.t 8), none⟩,
    ⟨(some 74), .mov (.t 12), none⟩,
    ⟨(some 75), .indexAddr 1 (.t 73) (.t 74), none⟩,
    ⟨(some 76), .load none (.t 75), none⟩,
    ⟨(some 77), .bin .neq (.t 76) (.c (.int .i64 0)), none⟩])
  (.cond (.t 77)
  (.seq (.region [⟨(some 6), .mov (.c (.bool false)), none⟩])
  .ret)
  .skip)))
  (.region [⟨(some 71), .mov (.t 12), none⟩,
    ⟨(some 72), .bin .add (.t 71) (.c (.int .i64 1)), none⟩,
    ⟨(some 12), .mov (.t 72), none⟩]))))))
  (.seq (.region [⟨(some 6), .mov (.c (.bool true)), none⟩])
  .ret)))))))
def F_ref04_divides : GFun := ⟨3, 78, B_ref04_divides, [.t 6]⟩
theorem ok_ref04_divides : okFun Go.Proofs.Try.prog fid_ref04_divides F_ref04_divides = true := by kernel_rfl
def B_ref04_irreducible : GCode :=
  (.seq (.region [⟨(some 4), .mov (.c (.bool false)), none⟩])
  (.seq (.region [⟨(some 5), .mov (.c (.int .i64 1)), none⟩])
  (.seq (.seq (.region [⟨(some 6), .mov (.c (.int .i64 1)), none⟩])
  (.block 0 (.loop (.seq (.seq (.region [⟨(some 8), .mov (.t 6), none⟩,
    ⟨(some 9), .bin .mul (.c (.int .i64 2)) (.t 8), none⟩,
    ⟨(some 10), .mov (.t 0), none⟩,
    ⟨(some 11), .len (.t 10), none⟩,
    ⟨(some 12), .bin .leq (.t 9) (.t 11), none⟩])
  (.cond (.t 12)
  .skip
  (.exit 0)))
  (.seq (.block 1 (.seq (.region [⟨(some 15), .mov (.t 5), none⟩,
    ⟨(some 16), .mov (.t 1), none⟩,
    ⟨(some 17), .bin .mul (.t 15) (.t 16), none⟩,
    ⟨(some 5), .mov (.t 17), none⟩])
  (.seq (.region [⟨(some 7), .mov (.c (.int .i64 0)), none⟩])
  (.block 2 (.loop (.seq (.seq (.region [⟨(some 18), .mov (.t 7), none⟩,
    ⟨(some 19), .mov (.t 5), none⟩,
    ⟨(some 20), .bin .lss (.t 18) (.t 19), none⟩])
  (.cond (.t 20)
  .skip
  (.exit 2)))
  (.seq (.block 3 (.seq (.region [⟨(some 23), .mov (.t 7), none⟩,
    ⟨(some 24), .mov (.t 1), none⟩,
    ⟨(some 25), .mov (.t 6), none⟩,
    ⟨(some 26), .call fid_ref04_digits [(.t 23), (.t 24), (.t 25)], none⟩,
    ⟨(some 27), .mov (.t 0), none⟩,
    ⟨(some 28), .mov (.t 1), none⟩,
    ⟨(some 29), .call fid_ref04_divides [(.t 26), (.t 27), (.t 28)], none⟩])
  (.cond (.t 29)
  (.seq (.region [⟨(some 4), .mov (.c (.bool false)), none⟩])
  .ret)
  .skip)))
  (.region [⟨(some 21), .mov (.t 7), none⟩,
    ⟨(some 22), .bin .add (.t 21) (.c (.int .i64 1)), none⟩,
    ⟨(some 7), .mov (.t 22), none⟩]))))))))
  (.region [⟨(some 13), .mov (.t 6), none⟩,
    ⟨(some 14), .bin .add (.t 13) (.c (.int .i64 1)), none⟩,
    ⟨(some 6), .mov (.t 14), none⟩]))))))
  (.seq (.region [⟨(some 4), .mov (.c (.bool true)), none⟩])
  .ret))))
def F_ref04_irreducible : GFun := ⟨2, 30, B_ref04_irreducible, [.t 4]⟩
theorem ok_ref04_irreducible : okFun Go.Proofs.Try.prog fid_ref04_irreducible F_ref04_irreducible = true := by kernel_rfl
def B_ref04_prime : GCode :=
  (.seq (.region [⟨(some 2), .mov (.c (.bool false)), none⟩])
  (.seq (.seq (.region [⟨(some 3), .mov (.c (.int .i64 2)), none⟩])
  (.block 0 (.loop (.seq (.seq (.region [⟨(some 4), .mov (.t 3), none⟩,
    ⟨(some 5), .mov (.t 0), none⟩,
    ⟨(some 6), .bin .lss (.t 4) (.t 5), none⟩])
  (.cond (.t 6)
  .skip
  (.exit 0)))
  (.seq (.block 1 (.seq (.region [⟨(some 9), .mov (.t 0), none⟩,
    ⟨(some 10), .mov (.t 3), none⟩,
    ⟨(some 11), .bin .rem (.t 9) (.t 10), none⟩,
    ⟨(some 12), .bin .eql (.t 11) (.c (.int .i64 0)), none⟩])
  (.cond (.t 12)
  (.seq (.region [⟨(some 2), .mov (.c (.bool false)), none⟩])
  .ret)
  .skip)))
  (.region [⟨(some 7), .mov (.t 3), none⟩,
    ⟨(some 8), .bin .add (.t 7) (.c (.int .i64 1)), none⟩,
    ⟨(some 3), .mov (.t 8), none⟩]))))))
  (.seq (.region [⟨(some 2), .mov (.c (.bool true)), none⟩])
  .ret)))
def F_ref04_prime : GFun := ⟨1, 13, B_ref04_prime, [.t 2]⟩
theorem ok_ref04_prime : okFun Go.Proofs.Try.prog fid_ref04_prime F_ref04_prime = true := by kernel_rfl
end Go.Proofs.Ytdpibcniodhinaa.Gh
/- The ghost code of some functions. -/
namespace Go.Proofs.Ytdpibcniodhinaa.Gh
open Go Go.RowKit
def B_field_GF_Add : GCode :=
  (.seq (.region [⟨(some 6), .mov (.c (.int .i64 0)), none⟩])
  (.seq (.region [⟨(some 9), .mov (.t 0), none⟩,
    ⟨(some 10), .mov (.t 1), none⟩,
    ⟨(some 11), .call fid_field_GF_in [(.t 9), (.t 10)], none⟩,
    ⟨(some 12), .mov (.t 0), none⟩,
    ⟨(some 13), .mov (.t 2), none⟩,
    ⟨(some 14), .call fid_field_GF_in [(.t 12), (.t 13)], none⟩,
    ⟨(some 1), .mov (.t 11), none⟩,
    ⟨(some 2), .mov (.t 14), none⟩])
  (.seq (.seq (.region [⟨(some 15), .mov (.t 0), none⟩,
    ⟨(some 16), .nilCheck (.t 15), none⟩,
    ⟨(some 17), .fieldAddr 0 (.t 16), none⟩,
    ⟨(some 18), .fieldAddr 0 (.t 17), none⟩,
    ⟨(some 19), .load none (.t 18), none⟩,
    ⟨(some 20), .bin .eql (.t 19) (.c (.int .i64 2)), none⟩])
  (.cond (.t 20)
  (.seq (.region [⟨(some 21), .mov (.t 1), none⟩,
    ⟨(some 22), .mov (.t 2), none⟩,
    ⟨(some 23), .bin .xor (.t 21) (.t 22), none⟩,
    ⟨(some 6), .mov (.t 23), none⟩])
  .ret)
  .skip))
  (.seq (.region [⟨(some 7), .mov (.c (.int .i64 0)), none⟩,
    ⟨(some 8), .mov (.c (.int .i64 1)), none⟩])
  (.seq (.block 0 (.loop (.seq (.seq (.region [⟨(some 24), .mov (.t 1), none⟩,
    ⟨(some 25), .bin .gtr (.t 24) (.c (.int .i64 0)), none⟩,
    ⟨(some 26), .mov (.t 25), none⟩,
    ⟨(some 27), .mov (.t 2), (some (26, false))⟩,
    ⟨(some 28), .bin .gtr (.t 27) (.c (.int .i64 0)), (some (26, false))⟩,
    ⟨(some 29), .pick (.t 26) (.c (.bool true)) (.t 28), none⟩])
  (.cond (.t 29)
  .skip
  (.exit 0)))
  (.block 1 (.seq (.draw [0, 0, 0, 4, 12, 28, 60, 126, 0, 0, 512, 1536, 3584, 7680, 16128, 32766, 0, 65536, 196608, 458752, 983040, 2097150, 0, 8388606, 16777215, 33554431]
    [⟨(some 30), .mov (.t 7), none⟩,
    ⟨(some 31), .mov (.t 1), none⟩,
    ⟨(some 32), .mov (.t 0), none⟩,
    ⟨(some 33), .nilCheck (.t 32), none⟩,
    ⟨(some 34), .fieldAddr 0 (.t 33), none⟩,
    ⟨(some 35), .fieldAddr 0 (.t 34), none⟩,
    ⟨(some 36), .load none (.t 35), none⟩,
    ⟨(some 37), .bin .rem (.t 31) (.t 36), none⟩,
    ⟨(some 38), .mov (.t 2), none⟩,
    ⟨(some 39), .mov (.t 0), none⟩,
    ⟨(some 40), .nilCheck (.t 39), none⟩,
    ⟨(some 41), .fieldAddr 0 (.t 40), none⟩,
    ⟨(some 42), .fieldAddr 0 (.t 41), none⟩,
    ⟨(some 43), .load none (.t 42), none⟩,
    ⟨(some 44), .bin .rem (.t 38) (.t 43), none⟩,
    ⟨(some 45), .bin .add (.t 37) (.t 44), none⟩,
    ⟨(some 46), .mov (.t 0), none⟩,
    ⟨(some 47), .nilCheck (.t 46), none⟩,
    ⟨(some 48), .fieldAddr 0 (.t 47), none⟩,
    ⟨(some 49), .fieldAddr 0 (.t 48), none⟩,
    ⟨(some 50), .load none (.t 49), none⟩,
    ⟨(some 51), .bin .rem (.t 45) (.t 50), none⟩,
    ⟨(some 52), .mov (.t 8), none⟩,
    ⟨(some 53), .bin .mul (.t 51) (.t 52), none⟩]
    [⟨(some 54), .bin .add (.t 30) (.t 53), none⟩,
    ⟨(some 7), .mov (.t 54), none⟩])
  (.seq (.region [⟨(some 55), .mov (.t 8), none⟩,
    ⟨(some 56), .mov (.t 0), none⟩,
    ⟨(some 57), .nilCheck (.t 56), none⟩,
    ⟨(some 58), .fieldAddr 0 (.t 57), none⟩,
    ⟨(some 59), .fieldAddr 0 (.t 58), none⟩,
    ⟨(some 60), .load none (.t 59), none⟩,
    ⟨(some 61), .bin .mul (.t 55) (.t 60), none⟩,
    ⟨(some 8), .mov (.t 61), none⟩])
  (.seq (.region [⟨(some 62), .mov (.t 1), none⟩,
    ⟨(some 63), .mov (.t 0), none⟩,
    ⟨(some 64), .nilCheck (.t 63), none⟩,
    ⟨(some 65), .fieldAddr 0 (.t 64), none⟩,
    ⟨(some 66), .fieldAddr 0 (.t 65), none⟩,
    ⟨(some 67), .load none (.t 66), none⟩,
    ⟨(some 68), .bin .quo (.t 62) (.t 67), none⟩,
    ⟨(some 1), .mov (.t 68), none⟩])
  (.region [⟨(some 69), .mov (.t 2), none⟩,
    ⟨(some 70), .mov (.t 0), none⟩,
    ⟨(some 71), .nilCheck (.t 70), none⟩,
    ⟨(some 72), .fieldAddr 0 (.t 71), none⟩,
    ⟨(some 73), .fieldAddr 0 (.t 72), none⟩,
    ⟨(some 74), .load none (.t 73), none⟩,
    ⟨(some 75), .bin .quo (.t 69) (.t 74), none⟩,
    ⟨(some 2), .mov (.t 75), none⟩]))))))))
  (.seq (.region [⟨(some 76), .mov (.t 7), none⟩,
    ⟨(some 6), .mov (.t 76), none⟩])
  .ret))))))
def F_field_GF_Add : GFun := ⟨3, 77, B_field_GF_Add, [.t 6]⟩
theorem ok_field_GF_Add : okFun Go.Proofs.Try.prog fid_field_GF_Add F_field_GF_Add = true := by kernel_rfl
def B_field_GF_Is : GCode :=
  (.seq (.region [⟨(some 4), .mov (.c (.bool false)), none⟩])
  (.seq (.region [⟨(some 5), .mov (.t 1), none⟩,
    ⟨(some 6), .bin .geq (.t 5) (.c (.int .i64 0)), none⟩,
    ⟨(some 7), .mov (.t 6), none⟩,
    ⟨(some 8), .mov (.t 1), (some (7, true))⟩,
    ⟨(some 9), .mov (.t 0), (some (7, true))⟩,
    ⟨(some 10), .nilCheck (.t 9), (some (7, true))⟩,
    ⟨(some 11), .fieldAddr 3 (.t 10), (some (7, true))⟩,
    ⟨(some 12), .load none (.t 11), (some (7, true))⟩,
    ⟨(some 13), .bin .lss (.t 8) (.t 12), (some (7, true))⟩,
    ⟨(some 14), .pick (.t 7) (.t 13) (.c (.bool false)), none⟩,
    ⟨(some 4), .mov (.t 14), none⟩])
  .ret))
def F_field_GF_Is : GFun := ⟨2, 15, B_field_GF_Is, [.t 4]⟩
theorem ok_field_GF_Is : okFun Go.Proofs.Try.prog fid_field_GF_Is F_field_GF_Is = true := by kernel_rfl
def B_field_GF_Mul : GCode :=
  (.seq (.region [⟨(some 6), .mov (.c (.int .i64 0)), none⟩])
  (.seq (.region [⟨(some 7), .mov (.t 0), none⟩,
    ⟨(some 8), .mov (.t 1), none⟩,
    ⟨(some 9), .call fid_field_GF_in [(.t 7), (.t 8)], none⟩,
    ⟨(some 10), .mov (.t 0), none⟩,
    ⟨(some 11), .mov (.t 2), none⟩,
    ⟨(some 12), .call fid_field_GF_in [(.t 10), (.t 11)], none⟩,
    ⟨(some 1), .mov (.t 9), none⟩,
    ⟨(some 2), .mov (.t 12), none⟩])
  (.seq (.seq (.region [⟨(some 13), .mov (.t 1), none⟩,
    ⟨(some 14), .bin .eql (.t 13) (.c (.int .i64 0)), none⟩,
    ⟨(some 15), .mov (.t 14), none⟩,
    ⟨(some 16), .mov (.t 2), (some (15, false))⟩,
    ⟨(some 17), .bin .eql (.t 16) (.c (.int .i64 0)), (some (15, false))⟩,
    ⟨(some 18), .pick (.t 15) (.c (.bool true)) (.t 17), none⟩])
  (.cond (.t 18)
  (.seq (.region [⟨(some 6), .mov (.c (.int .i64 0)), none⟩])
  .ret)
  .skip))
  (.seq (.draw [0, 1, 3, 7, 0, 16, 48, 112, 0, 496, 1008, 0, 2048, 6144, 14336, 0, 63488, 129024, 262128, 0, 524288, 1572864, 3670016, 7864320, 16777200, 33554431, 67108863, 134217727]
    [⟨(some 19), .mov (.t 0), none⟩,
    ⟨(some 20), .nilCheck (.t 19), none⟩,
    ⟨(some 21), .fieldAddr 4 (.t 20), none⟩,
    ⟨(some 22), .load none (.t 21), none⟩,
    ⟨(some 23), .mov (.t 0), none⟩,
    ⟨(some 24), .nilCheck (.t 23), none⟩,
    ⟨(some 25), .fieldAddr 5 (.t 24), none⟩,
    ⟨(some 26), .load none (.t 25), none⟩,
    ⟨(some 27), .mov (.t 1), none⟩,
    ⟨(some 28), .indexAddr 1 (.t 26) (.t 27), none⟩,
    ⟨(some 29), .load none (.t 28), none⟩,
    ⟨(some 30), .mov (.t 0), none⟩,
    ⟨(some 31), .nilCheck (.t 30), none⟩,
    ⟨(some 32), .fieldAddr 5 (.t 31), none⟩,
    ⟨(some 33), .load none (.t 32), none⟩,
    ⟨(some 34), .mov (.t 2), none⟩,
    ⟨(some 35), .indexAddr 1 (.t 33) (.t 34), none⟩,
    ⟨(some 36), .load none (.t 35), none⟩,
    ⟨(some 37), .bin .add (.t 29) (.t 36), none⟩,
    ⟨(some 38), .mov (.t 0), none⟩,
    ⟨(some 39), .nilCheck (.t 38), none⟩,
    ⟨(some 40), .fieldAddr 3 (.t 39), none⟩,
    ⟨(some 41), .load none (.t 40), none⟩,
    ⟨(some 42), .bin .sub (.t 41) (.c (.int .i64 1)), none⟩,
    ⟨(some 43), .bin .rem (.t 37) (.t 42), none⟩]
    [⟨(some 44), .indexAddr 1 (.t 22) (.t 43), none⟩,
    ⟨(some 45), .load none (.t 44), none⟩,
    ⟨(some 6), .mov (.t 45), none⟩])
  .ret))))
def F_field_GF_Mul : GFun := ⟨3, 46, B_field_GF_Mul, [.t 6]⟩
theorem ok_field_GF_Mul : okFun Go.Proofs.Try.prog fid_field_GF_Mul F_field_GF_Mul = true := by kernel_rfl
def B_field_GF_Order : GCode :=
  (.seq (.region [⟨(some 2), .mov (.c (.int .i64 0)), none⟩])
  (.seq (.region [⟨(some 3), .mov (.t 0), none⟩,
    ⟨(some 4), .nilCheck (.t 3), none⟩,
    ⟨(some 5), .fieldAddr 3 (.t 4), none⟩,
    ⟨(some 6), .load none (.t 5), none⟩,
    ⟨(some 2), .mov (.t 6), none⟩])
  .ret))
def F_field_GF_Order : GFun := ⟨1, 7, B_field_GF_Order, [.t 2]⟩
theorem ok_field_GF_Order : okFun Go.Proofs.Try.prog fid_field_GF_Order F_field_GF_Order = true := by kernel_rfl
def B_field_GF_in : GCode :=
  (.seq (.region [⟨(some 4), .mov (.c (.int .i64 0)), none⟩])
  (.seq (.seq (.region [⟨(some 5), .mov (.t 0), none⟩,
    ⟨(some 6), .mov (.t 1), none⟩,
    ⟨(some 7), .call fid_field_GF_Is [(.t 5), (.t 6)], none⟩])
  (.cond (.t 7)
  (.seq (.region [⟨(some 8), .mov (.t 1), none⟩,
    ⟨(some 4), .mov (.t 8), none⟩])
  .ret)
  .skip))
  (.seq (.region [⟨(some 4), .mov (.c (.int .i64 0)), none⟩])
  .ret)))
def F_field_GF_in : GFun := ⟨2, 9, B_field_GF_in, [.t 4]⟩
theorem ok_field_GF_in : okFun Go.Proofs.Try.prog fid_field_GF_in F_field_GF_in = true := by kernel_rfl
def B_field_New : GCode :=
  (.seq (.region [⟨(some 1), .box (.t 0), none⟩,
    ⟨(some 2), .mov (.c (.nilp)), none⟩,
    ⟨(some 3), .mov (.c (.int .i64 0)), none⟩])
  (.seq (.seq (.region [⟨(some 9), .load (some 3) (.t 1), none⟩,
    ⟨(some 10), .call fid_field_shape [(.t 9)], none⟩,
    ⟨(some 11), .un .not (.t 10), none⟩])
  (.cond (.t 11)
  (.seq (.region [⟨(some 2), .mov (.c (.nilp)), none⟩,
    ⟨(some 3), .mov (.c (.int .i64 1)), none⟩])
  .ret)
  .skip))
  (.seq (.region [⟨(some 12), .fieldAddr 0 (.t 1), none⟩,
    ⟨(some 13), .load none (.t 12), none⟩,
    ⟨(some 14), .fieldAddr 1 (.t 1), none⟩,
    ⟨(some 15), .load none (.t 14), none⟩,
    ⟨(some 16), .call fid_field_order [(.t 13), (.t 15)], none⟩,
    ⟨(some 4), .mov (.t 16), none⟩])
  (.seq (.region [⟨(some 17), .load (some 3) (.t 1), none⟩,
    ⟨(some 18), .mov (.t 4), none⟩,
    ⟨(some 19), .call fid_field_generator [(.t 17), (.t 18)], none⟩,
    ⟨(some 5), .mov (.t 19), none⟩])
  (.seq (.seq (.region [⟨(some 20), .mov (.t 5), none⟩,
    ⟨(some 21), .isnil false (.t 20), none⟩])
  (.cond (.t 21)
  (.seq (.region [⟨(some 2), .mov (.c (.nilp)), none⟩,
    ⟨(some 3), .mov (.c (.int .i64 1)), none⟩])
  .ret)
  .skip))
  (.seq (.draw [0, 1, 0, 4, 0, 0, 32, 112, 255, 0, 0, 0, 2048, 8191, 16383, 32767]
    [⟨(some 22), .fieldAddr 0 (.t 1), none⟩,
    ⟨(some 23), .load none (.t 22), none⟩,
    ⟨(some 24), .fieldAddr 1 (.t 1), none⟩,
    ⟨(some 25), .load none (.t 24), none⟩,
    ⟨(some 26), .empty, none⟩,
    ⟨(some 27), .fieldAddr 2 (.t 1), none⟩,
    ⟨(some 28), .load none (.t 27), none⟩,
    ⟨(some 29), .append 8 (.t 26) (.t 28), none⟩,
    ⟨(some 30), .build [.int .i64 0, .int .i64 0, .nil] [(0, 1, (.t 23)), (1, 1, (.t 25)), (2, 1, (.t 29))], none⟩,
    ⟨(some 31), .mov (.t 4), none⟩,
    ⟨(some 32), .mov (.t 5), none⟩,
    ⟨(some 33), .mov (.t 4), none⟩,
    ⟨(some 34), .mslice (.int .i64 0) 8 (.t 33) (.t 33), none⟩]
    [⟨(some 35), .build [.int .i64 0, .int .i64 0, .nil, .int .i64 0, .nil, .nil] [(0, 3, (.t 30)), (3, 1, (.t 31)), (4, 1, (.t 32)), (5, 1, (.t 34))], none⟩,
    ⟨(some 36), .box (.t 35), none⟩,
    ⟨(some 6), .mov (.t 36), none⟩])
  (.seq (.seq (.region [⟨(some 37), .mov (.t 5), none⟩,
    ⟨(some 38), .len (.t 37), none⟩,
    ⟨(some 39), .mov (.c (.int .i64 0)), none⟩])
  (.block 0 (.loop (.seq (.region [⟨(some 40), .bin .lss (.t 39) (.t 38), none⟩])
  (.seq (.cond (.t 40)
  .skip
  (.exit 0))
  (.seq (.block 1 (.seq (.region [⟨(some 41), .mov (.t 39), none⟩,
    ⟨(some 42), .indexAddr 1 (.t 37) (.t 39), none⟩,
    ⟨(some 43), .load none (.t 42), none⟩,
    ⟨(some 7), .mov (.t 41), none⟩,
    ⟨(some 8), .mov (.t 43), none⟩])
  (.region [⟨(some 44), .mov (.t 6), none⟩,
    ⟨(some 45), .nilCheck (.t 44), none⟩,
    ⟨(some 46), .fieldAddr 5 (.t 45), none⟩,
    ⟨(some 47), .load none (.t 46), none⟩,
    ⟨(some 48), .mov (.t 8), none⟩,
    ⟨(some 49), .mov (.t 7), none⟩,
    ⟨(some 50), .indexAddr 1 (.t 47) (.t 48), none⟩,
    ⟨none, .store 1 (.t 50) (.t 49), none⟩])))
  (.region [⟨(some 51), .bin .add (.t 39) (.c (.int .i64 1)), none⟩,
    ⟨(some 39), .mov (.t 51), none⟩])))))))
  (.seq (.region [⟨(some 52), .mov (.t 6), none⟩,
    ⟨(some 2), .mov (.t 52), none⟩,
    ⟨(some 3), .mov (.c (.int .i64 0)), none⟩])
  .ret))))))))
def F_field_New : GFun := ⟨1, 53, B_field_New, [.t 2, .t 3]⟩
theorem ok_field_New : okFun Go.Proofs.Try.prog fid_field_New F_field_New = true := by kernel_rfl
def B_field_digitsOf : GCode :=
  (.seq (.region [⟨(some 6), .mov (.c (.nil)), none⟩])
  (.seq (.region [⟨(some 9), .mov (.t 2), none⟩,
    ⟨(some 10), .mslice (.int .i64 0) 8 (.t 9) (.t 9), none⟩,
    ⟨(some 7), .mov (.t 10), none⟩])
  (.seq (.seq (.region [⟨(some 11), .mov (.t 7), none⟩,
    ⟨(some 12), .len (.t 11), none⟩,
    ⟨(some 13), .mov (.c (.int .i64 0)), none⟩])
  (.block 0 (.loop (.seq (.region [⟨(some 14), .bin .lss (.t 13) (.t 12), none⟩])
  (.seq (.cond (.t 14)
  .skip
  (.exit 0))
  (.seq (.block 1 (.seq (.region [⟨(some 15), .mov (.t 13), none⟩,
    ⟨(some 8), .mov (.t 15), none⟩])
  (.seq (.region [⟨(some 16), .mov (.t 7), none⟩,
    ⟨(some 17), .mov (.t 8), none⟩,
    ⟨(some 18), .mov (.t 0), none⟩,
    ⟨(some 19), .mov (.t 1), none⟩,
    ⟨(some 20), .bin .rem (.t 18) (.t 19), none⟩,
    ⟨(some 21), .indexAddr 1 (.t 16) (.t 17), none⟩,
    ⟨none, .store 1 (.t 21) (.t 20), none⟩])
  (.region [⟨(some 22), .mov (.t 0), none⟩,
    ⟨(some 23), .mov (.t 1), none⟩,
    ⟨(some 24), .bin .quo (.t 22) (.t 23), none⟩,
    ⟨(some 0), .mov (.t 24), none⟩]))))
  (.region [⟨(some 25), .bin .add (.t 13) (.c (.int .i64 1)), none⟩,
    ⟨(some 13), .mov (.t 25), none⟩])))))))
  (.seq (.region [⟨(some 26), .mov (.t 7), none⟩,
    ⟨(some 6), .mov (.t 26), none⟩])
  .ret))))
def F_field_digitsOf : GFun := ⟨3, 27, B_field_digitsOf, [.t 6]⟩
theorem ok_field_digitsOf : okFun Go.Proofs.Try.prog fid_field_digitsOf F_field_digitsOf = true := by kernel_rfl
def B_field_generator : GCode :=
  (.seq (.region [⟨(some 2), .box (.t 0), none⟩,
    ⟨(some 4), .mov (.c (.nil)), none⟩])
  (.seq (.seq (.region [⟨(some 5), .mov (.c (.int .i64 1)), none⟩])
  (.block 0 (.loop (.seq (.seq (.region [⟨(some 7), .mov (.t 5), none⟩,
    ⟨(some 8), .mov (.t 1), none⟩,
    ⟨(some 9), .bin .lss (.t 7) (.t 8), none⟩])
  (.cond (.t 9)
  .skip
  (.exit 0)))
  (.seq (.block 1 (.seq (.region [⟨(some 12), .load (some 3) (.t 2), none⟩,
    ⟨(some 13), .mov (.t 1), none⟩,
    ⟨(some 14), .mov (.t 5), none⟩,
    ⟨(some 15), .call fid_field_powers [(.t 12), (.t 13), (.t 14)], none⟩,
    ⟨(some 6), .mov (.t 15), none⟩])
  (.seq (.draw [0, 1, 0, 4, 15, 31, 63, 63, 63, 319, 959, 1983, 63, 8191, 16383, 32767]
    [⟨(some 16), .mov (.t 6), none⟩,
    ⟨(some 17), .len (.t 16), none⟩,
    ⟨(some 18), .mov (.t 1), none⟩,
    ⟨(some 19), .bin .sub (.t 18) (.c (.int .i64 1)), none⟩,
    ⟨(some 20), .bin .eql (.t 17) (.t 19), none⟩,
    ⟨(some 21), .mov (.t 20), none⟩,
    ⟨(some 22), .load (some 3) (.t 2), (some (21, true))⟩,
    ⟨(some 23), .mov (.t 6), (some (21, true))⟩,
    ⟨(some 24), .mov (.t 1), (some (21, true))⟩,
    ⟨(some 25), .bin .sub (.t 24) (.c (.int .i64 2)), (some (21, true))⟩,
    ⟨(some 26), .indexAddr 1 (.t 23) (.t 25), (some (21, true))⟩,
    ⟨(some 27), .load none (.t 26), (some (21, true))⟩,
    ⟨(some 28), .mov (.t 5), (some (21, true))⟩]
    [⟨(some 29), .call fid_field_multiply [(.t 22), (.t 27), (.t 28)], (some (21, true))⟩,
    ⟨(some 30), .bin .eql (.t 29) (.c (.int .i64 1)), (some (21, true))⟩,
    ⟨(some 31), .pick (.t 21) (.t 30) (.c (.bool false)), none⟩])
  (.cond (.t 31)
  (.seq (.region [⟨(some 32), .mov (.t 6), none⟩,
    ⟨(some 4), .mov (.t 32), none⟩])
  .ret)
  .skip))))
  (.region [⟨(some 10), .mov (.t 5), none⟩,
    ⟨(some 11), .bin .add (.t 10) (.c (.int .i64 1)), none⟩,
    ⟨(some 5), .mov (.t 11), none⟩]))))))
  (.seq (.region [⟨(some 4), .mov (.c (.nil)), none⟩])
  .ret)))
def F_field_generator : GFun := ⟨2, 33, B_field_generator, [.t 4]⟩
theorem ok_field_generator : okFun Go.Proofs.Try.prog fid_field_generator F_field_generator = true := by kernel_rfl
def B_field_isPrime : GCode :=
  (.seq (.region [⟨(some 2), .mov (.c (.bool false)), none⟩])
  (.seq (.seq (.region [⟨(some 3), .mov (.c (.int .i64 2)), none⟩])
  (.block 0 (.loop (.seq (.seq (.region [⟨(some 4), .mov (.t 3), none⟩,
    ⟨(some 5), .mov (.t 3), none⟩,
    ⟨(some 6), .bin .mul (.t 4) (.t 5), none⟩,
    ⟨(some 7), .mov (.t 0), none⟩,
    ⟨(some 8), .bin .leq (.t 6) (.t 7), none⟩])
  (.cond (.t 8)
  .skip
  (.exit 0)))
  (.seq (.block 1 (.seq (.region [⟨(some 11), .mov (.t 0), none⟩,
    ⟨(some 12), .mov (.t 3), none⟩,
    ⟨(some 13), .bin .rem (.t 11) (.t 12), none⟩,
    ⟨(some 14), .bin .eql (.t 13) (.c (.int .i64 0)), none⟩])
  (.cond (.t 14)
  (.seq (.region [⟨(some 2), .mov (.c (.bool false)), none⟩])
  .ret)
  .skip)))
  (.region [⟨(some 9), .mov (.t 3), none⟩,
    ⟨(some 10), .bin .add (.t 9) (.c (.int .i64 1)), none⟩,
    ⟨(some 3), .mov (.t 10), none⟩]))))))
  (.seq (.region [⟨(some 15), .mov (.t 0), none⟩,
    ⟨(some 16), .bin .geq (.t 15) (.c (.int .i64 2)), none⟩,
    ⟨(some 2), .mov (.t 16), none⟩])
  .ret)))
def F_field_isPrime : GFun := ⟨1, 17, B_field_isPrime, [.t 2]⟩
theorem ok_field_isPrime : okFun Go.Proofs.Try.prog fid_field_isPrime F_field_isPrime = true := by kernel_rfl
def B_field_multiply : GCode :=
  (.seq (.region [⟨(some 3), .box (.t 0), none⟩,
    ⟨(some 6), .mov (.c (.int .i64 0)), none⟩])
  (.seq (.draw [0, 0, 2, 0, 8, 31, 0, 0, 128, 0, 512, 2047, 4095, 8191]
    [⟨(some 14), .mov (.t 1), none⟩,
    ⟨(some 15), .fieldAddr 0 (.t 3), none⟩,
    ⟨(some 16), .load none (.t 15), none⟩,
    ⟨(some 17), .fieldAddr 1 (.t 3), none⟩,
    ⟨(some 18), .load none (.t 17), none⟩,
    ⟨(some 19), .call fid_field_digitsOf [(.t 14), (.t 16), (.t 18)], none⟩,
    ⟨(some 20), .mov (.t 2), none⟩,
    ⟨(some 21), .fieldAddr 0 (.t 3), none⟩,
    ⟨(some 22), .load none (.t 21), none⟩,
    ⟨(some 23), .fieldAddr 1 (.t 3), none⟩,
    ⟨(some 24), .load none (.t 23), none⟩]
    [⟨(some 25), .call fid_field_digitsOf [(.t 20), (.t 22), (.t 24)], none⟩,
    ⟨(some 7), .mov (.t 19), none⟩,
    ⟨(some 8), .mov (.t 25), none⟩])
  (.seq (.region [⟨(some 26), .fieldAddr 1 (.t 3), none⟩,
    ⟨(some 27), .load none (.t 26), none⟩,
    ⟨(some 28), .mslice (.int .i64 0) 8 (.t 27) (.t 27), none⟩,
    ⟨(some 9), .mov (.t 28), none⟩])
  (.seq (.seq (.region [⟨(some 29), .fieldAddr 1 (.t 3), none⟩,
    ⟨(some 30), .load none (.t 29), none⟩,
    ⟨(some 31), .bin .sub (.t 30) (.c (.int .i64 1)), none⟩,
    ⟨(some 10), .mov (.t 31), none⟩])
  (.block 0 (.loop (.seq (.seq (.region [⟨(some 32), .mov (.t 10), none⟩,
    ⟨(some 33), .bin .geq (.t 32) (.c (.int .i64 0)), none⟩])
  (.cond (.t 33)
  .skip
  (.exit 0)))
  (.seq (.block 1 (.seq (.region [⟨(some 36), .mov (.t 9), none⟩,
    ⟨(some 37), .fieldAddr 1 (.t 3), none⟩,
    ⟨(some 38), .load none (.t 37), none⟩,
    ⟨(some 39), .bin .sub (.t 38) (.c (.int .i64 1)), none⟩,
    ⟨(some 40), .indexAddr 1 (.t 36) (.t 39), none⟩,
    ⟨(some 41), .load none (.t 40), none⟩,
    ⟨(some 11), .mov (.t 41), none⟩])
  (.seq (.draw [0, 1, 0, 0, 8, 24, 60, 127]
    [⟨(some 42), .mov (.t 9), none⟩,
    ⟨(some 43), .slice (.t 42) (some (.c (.int .i64 1))) none none, none⟩,
    ⟨(some 44), .mov (.t 9), none⟩,
    ⟨(some 45), .fieldAddr 1 (.t 3), none⟩,
    ⟨(some 46), .load none (.t 45), none⟩,
    ⟨(some 47), .bin .sub (.t 46) (.c (.int .i64 1)), none⟩,
    ⟨(some 48), .slice (.t 44) none (some (.t 47)) none, none⟩]
    [⟨(some 49), .copy (.t 43) (.t 48), none⟩])
  (.seq (.region [⟨(some 50), .mov (.t 9), none⟩,
    ⟨(some 51), .indexAddr 1 (.t 50) (.c (.int .i64 0)), none⟩,
    ⟨none, .store 1 (.t 51) (.c (.int .i64 0)), none⟩])
  (.seq (.region [⟨(some 52), .mov (.t 9), none⟩,
    ⟨(some 53), .len (.t 52), none⟩,
    ⟨(some 54), .mov (.c (.int .i64 0)), none⟩])
  (.block 2 (.loop (.seq (.region [⟨(some 55), .bin .lss (.t 54) (.t 53), none⟩])
  (.seq (.cond (.t 55)
  .skip
  (.exit 2))
  (.seq (.block 3 (.seq (.region [⟨(some 56), .mov (.t 54), none⟩,
    ⟨(some 12), .mov (.t 56), none⟩])
  (.seq (.region [⟨(some 13), .mov (.c (.int .i64 0)), none⟩])
  (.seq (.seq (.region [⟨(some 57), .fieldAddr 1 (.t 3), none⟩,
    ⟨(some 58), .load none (.t 57), none⟩,
    ⟨(some 59), .bin .gtr (.t 58) (.c (.int .i64 1)), none⟩])
  (.cond (.t 59)
  (.region [⟨(some 60), .fieldAddr 2 (.t 3), none⟩,
    ⟨(some 61), .load none (.t 60), none⟩,
    ⟨(some 62), .mov (.t 12), none⟩,
    ⟨(some 63), .indexAddr 1 (.t 61) (.t 62), none⟩,
    ⟨(some 64), .load none (.t 63), none⟩,
    ⟨(some 13), .mov (.t 64), none⟩])
  .skip))
  (.draw [0, 0, 0, 0, 12, 28, 0, 64, 0, 448, 0, 1984, 4092, 0, 0, 24576, 57344, 0, 0, 393216, 917504, 2088960, 4194300, 0, 8388608, 33554428, 67108863, 134217727]
    [⟨(some 65), .mov (.t 9), none⟩,
    ⟨(some 66), .mov (.t 12), none⟩,
    ⟨(some 67), .mov (.t 9), none⟩,
    ⟨(some 68), .mov (.t 12), none⟩,
    ⟨(some 69), .indexAddr 1 (.t 67) (.t 68), none⟩,
    ⟨(some 70), .load none (.t 69), none⟩,
    ⟨(some 71), .fieldAddr 0 (.t 3), none⟩,
    ⟨(some 72), .load none (.t 71), none⟩,
    ⟨(some 73), .mov (.t 11), none⟩,
    ⟨(some 74), .bin .sub (.t 72) (.t 73), none⟩,
    ⟨(some 75), .mov (.t 13), none⟩,
    ⟨(some 76), .bin .mul (.t 74) (.t 75), none⟩,
    ⟨(some 77), .bin .add (.t 70) (.t 76), none⟩,
    ⟨(some 78), .mov (.t 8), none⟩,
    ⟨(some 79), .mov (.t 10), none⟩,
    ⟨(some 80), .indexAddr 1 (.t 78) (.t 79), none⟩,
    ⟨(some 81), .load none (.t 80), none⟩,
    ⟨(some 82), .mov (.t 7), none⟩,
    ⟨(some 83), .mov (.t 12), none⟩,
    ⟨(some 84), .indexAddr 1 (.t 82) (.t 83), none⟩,
    ⟨(some 85), .load none (.t 84), none⟩,
    ⟨(some 86), .bin .mul (.t 81) (.t 85), none⟩,
    ⟨(some 87), .bin .add (.t 77) (.t 86), none⟩,
    ⟨(some 88), .fieldAddr 0 (.t 3), none⟩,
    ⟨(some 89), .load none (.t 88), none⟩,
    ⟨(some 90), .bin .rem (.t 87) (.t 89), none⟩]
    [⟨(some 91), .indexAddr 1 (.t 65) (.t 66), none⟩,
    ⟨none, .store 1 (.t 91) (.t 90), none⟩])))))
  (.region [⟨(some 92), .bin .add (.t 54) (.c (.int .i64 1)), none⟩,
    ⟨(some 54), .mov (.t 92), none⟩])))))))))))
  (.region [⟨(some 34), .mov (.t 10), none⟩,
    ⟨(some 35), .bin .sub (.t 34) (.c (.int .i64 1)), none⟩,
    ⟨(some 10), .mov (.t 35), none⟩]))))))
  (.seq (.region [⟨(some 93), .mov (.t 9), none⟩,
    ⟨(some 94), .fieldAddr 0 (.t 3), none⟩,
    ⟨(some 95), .load none (.t 94), none⟩,
    ⟨(some 96), .call fid_field_valueOf [(.t 93), (.t 95)], none⟩,
    ⟨(some 6), .mov (.t 96), none⟩])
  .ret)))))
def F_field_multiply : GFun := ⟨3, 97, B_field_multiply, [.t 6]⟩
theorem ok_field_multiply : okFun Go.Proofs.Try.prog fid_field_multiply F_field_multiply = true := by kernel_rfl
def B_field_order : GCode :=
  (.seq (.region [⟨(some 4), .mov (.c (.int .i64 0)), none⟩])
  (.seq (.seq (.region [⟨(some 6), .mov (.t 0), none⟩,
    ⟨(some 7), .bin .lss (.t 6) (.c (.int .i64 2)), none⟩,
    ⟨(some 8), .mov (.t 7), none⟩,
    ⟨(some 9), .mov (.t 0), (some (8, false))⟩,
    ⟨(some 10), .bin .gtr (.t 9) (.c (.int .i64 256)), (some (8, false))⟩,
    ⟨(some 11), .pick (.t 8) (.c (.bool true)) (.t 10), none⟩,
    ⟨(some 12), .mov (.t 11), none⟩,
    ⟨(some 13), .mov (.t 1), (some (12, false))⟩,
    ⟨(some 14), .bin .lss (.t 13) (.c (.int .i64 1)), (some (12, false))⟩,
    ⟨(some 15), .pick (.t 12) (.c (.bool true)) (.t 14), none⟩,
    ⟨(some 16), .mov (.t 15), none⟩,
    ⟨(some 17), .mov (.t 1), (some (16, false))⟩,
    ⟨(some 18), .bin .gtr (.t 17) (.c (.int .i64 8)), (some (16, false))⟩,
    ⟨(some 19), .pick (.t 16) (.c (.bool true)) (.t 18), none⟩])
  (.cond (.t 19)
  (.seq (.region [⟨(some 4), .mov (.c (.int .i64 0)), none⟩])
  .ret)
  .skip))
  (.seq (.region [⟨(some 5), .mov (.c (.int .i64 1)), none⟩])
  (.seq (.seq (.region [⟨(some 20), .mov (.t 1), none⟩,
    ⟨(some 21), .mov (.c (.int .i64 0)), none⟩])
  (.block 0 (.loop (.seq (.region [⟨(some 22), .bin .lss (.t 21) (.t 20), none⟩])
  (.seq (.cond (.t 22)
  .skip
  (.exit 0))
  (.seq (.block 1 (.seq (.region [⟨(some 23), .mov (.t 5), none⟩,
    ⟨(some 24), .mov (.t 0), none⟩,
    ⟨(some 25), .bin .mul (.t 23) (.t 24), none⟩,
    ⟨(some 5), .mov (.t 25), none⟩])
  (.seq (.region [⟨(some 26), .mov (.t 5), none⟩,
    ⟨(some 27), .bin .gtr (.t 26) (.c (.int .i64 256)), none⟩])
  (.cond (.t 27)
  (.seq (.region [⟨(some 4), .mov (.c (.int .i64 0)), none⟩])
  .ret)
  .skip))))
  (.region [⟨(some 28), .bin .add (.t 21) (.c (.int .i64 1)), none⟩,
    ⟨(some 21), .mov (.t 28), none⟩])))))))
  (.seq (.region [⟨(some 29), .mov (.t 5), none⟩,
    ⟨(some 4), .mov (.t 29), none⟩])
  .ret)))))
def F_field_order : GFun := ⟨2, 30, B_field_order, [.t 4]⟩
theorem ok_field_order : okFun Go.Proofs.Try.prog fid_field_order F_field_order = true := by kernel_rfl
def B_field_powers : GCode :=
  (.seq (.region [⟨(some 3), .box (.t 0), none⟩,
    ⟨(some 6), .mov (.c (.nil)), none⟩])
  (.seq (.region [⟨(some 10), .bslice 1 [.int .i64 0] [(0, 1, (.c (.int .i64 1)))], none⟩,
    ⟨(some 7), .mov (.t 10), none⟩])
  (.seq (.region [⟨(some 11), .mov (.t 1), none⟩,
    ⟨(some 12), .mslice (.bool false) 1 (.t 11) (.t 11), none⟩,
    ⟨(some 8), .mov (.t 12), none⟩])
  (.seq (.region [⟨(some 13), .mov (.t 8), none⟩,
    ⟨(some 14), .indexAddr 1 (.t 13) (.c (.int .i64 1)), none⟩,
    ⟨none, .store 1 (.t 14) (.c (.bool true)), none⟩])
  (.seq (.seq (.region [⟨(some 15), .mov (.t 2), none⟩,
    ⟨(some 9), .mov (.t 15), none⟩])
  (.block 0 (.loop (.seq (.seq (.region [⟨(some 16), .mov (.t 9), none⟩,
    ⟨(some 17), .bin .neq (.t 16) (.c (.int .i64 0)), none⟩,
    ⟨(some 18), .mov (.t 17), none⟩,
    ⟨(some 19), .mov (.t 8), (some (18, true))⟩,
    ⟨(some 20), .mov (.t 9), (some (18, true))⟩,
    ⟨(some 21), .indexAddr 1 (.t 19) (.t 20), (some (18, true))⟩,
    ⟨(some 22), .load none (.t 21), (some (18, true))⟩,
    ⟨(some 23), .un .not (.t 22), (some (18, true))⟩,
    ⟨(some 24), .pick (.t 18) (.t 23) (.c (.bool false)), none⟩])
  (.cond (.t 24)
  .skip
  (.exit 0)))
  (.seq (.block 1 (.seq (.region [⟨(some 29), .mov (.t 8), none⟩,
    ⟨(some 30), .mov (.t 9), none⟩,
    ⟨(some 31), .indexAddr 1 (.t 29) (.t 30), none⟩,
    ⟨none, .store 1 (.t 31) (.c (.bool true)), none⟩])
  (.region [⟨(some 32), .mov (.t 7), none⟩,
    ⟨(some 33), .mov (.t 9), none⟩,
    ⟨(some 34), .bslice 1 [.int .i64 0] [(0, 1, (.t 33))], none⟩,
    ⟨(some 35), .append 8 (.t 32) (.t 34), none⟩,
    ⟨(some 7), .mov (.t 35), none⟩])))
  (.region [⟨(some 25), .load (some 3) (.t 3), none⟩,
    ⟨(some 26), .mov (.t 9), none⟩,
    ⟨(some 27), .mov (.t 2), none⟩,
    ⟨(some 28), .call fid_field_multiply [(.t 25), (.t 26), (.t 27)], none⟩,
    ⟨(some 9), .mov (.t 28), none⟩]))))))
  (.seq (.region [⟨(some 36), .mov (.t 7), none⟩,
    ⟨(some 6), .mov (.t 36), none⟩])
  .ret))))))
def F_field_powers : GFun := ⟨3, 37, B_field_powers, [.t 6]⟩
theorem ok_field_powers : okFun Go.Proofs.Try.prog fid_field_powers F_field_powers = true := by kernel_rfl
def B_field_shape : GCode :=
  (.seq (.region [⟨(some 1), .box (.t 0), none⟩,
    ⟨(some 2), .mov (.c (.bool false)), none⟩])
  (.seq (.seq (.region [⟨(some 5), .fieldAddr 0 (.t 1), none⟩,
    ⟨(some 6), .load none (.t 5), none⟩,
    ⟨(some 7), .fieldAddr 1 (.t 1), none⟩,
    ⟨(some 8), .load none (.t 7), none⟩,
    ⟨(some 9), .call fid_field_order [(.t 6), (.t 8)], none⟩,
    ⟨(some 10), .bin .eql (.t 9) (.c (.int .i64 0)), none⟩,
    ⟨(some 11), .mov (.t 10), none⟩,
    ⟨(some 12), .fieldAddr 0 (.t 1), (some (11, false))⟩,
    ⟨(some 13), .load none (.t 12), (some (11, false))⟩,
    ⟨(some 14), .call fid_field_isPrime [(.t 13)], (some (11, false))⟩,
    ⟨(some 15), .un .not (.t 14), (some (11, false))⟩,
    ⟨(some 16), .pick (.t 11) (.c (.bool true)) (.t 15), none⟩])
  (.cond (.t 16)
  (.seq (.region [⟨(some 2), .mov (.c (.bool false)), none⟩])
  .ret)
  .skip))
  (.seq (.seq (.region [⟨(some 17), .fieldAddr 1 (.t 1), none⟩,
    ⟨(some 18), .load none (.t 17), none⟩,
    ⟨(some 19), .bin .eql (.t 18) (.c (.int .i64 1)), none⟩])
  (.cond (.t 19)
  (.seq (.region [⟨(some 20), .fieldAddr 2 (.t 1), none⟩,
    ⟨(some 21), .load none (.t 20), none⟩,
    ⟨(some 22), .len (.t 21), none⟩,
    ⟨(some 23), .bin .eql (.t 22) (.c (.int .i64 0)), none⟩,
    ⟨(some 2), .mov (.t 23), none⟩])
  .ret)
  .skip))
  (.seq (.seq (.region [⟨(some 24), .fieldAddr 2 (.t 1), none⟩,
    ⟨(some 25), .load none (.t 24), none⟩,
    ⟨(some 26), .len (.t 25), none⟩,
    ⟨(some 27), .fieldAddr 1 (.t 1), none⟩,
    ⟨(some 28), .load none (.t 27), none⟩,
    ⟨(some 29), .bin .neq (.t 26) (.t 28), none⟩])
  (.cond (.t 29)
  (.seq (.region [⟨(some 2), .mov (.c (.bool false)), none⟩])
  .ret)
  .skip))
  (.seq (.seq (.region [⟨(some 30), .fieldAddr 2 (.t 1), none⟩,
    ⟨(some 31), .load none (.t 30), none⟩,
    ⟨(some 32), .len (.t 31), none⟩,
    ⟨(some 33), .mov (.c (.int .i64 0)), none⟩])
  (.block 0 (.loop (.seq (.region [⟨(some 34), .bin .lss (.t 33) (.t 32), none⟩])
  (.seq (.cond (.t 34)
  .skip
  (.exit 0))
  (.seq (.block 1 (.seq (.region [⟨(some 35), .indexAddr 1 (.t 31) (.t 33), none⟩,
    ⟨(some 36), .load none (.t 35), none⟩,
    ⟨(some 4), .mov (.t 36), none⟩])
  (.seq (.region [⟨(some 37), .mov (.t 4), none⟩,
    ⟨(some 38), .bin .lss (.t 37) (.c (.int .i64 0)), none⟩,
    ⟨(some 39), .mov (.t 38), none⟩,
    ⟨(some 40), .mov (.t 4), (some (39, false))⟩,
    ⟨(some 41), .fieldAddr 0 (.t 1), (some (39, false))⟩,
    ⟨(some 42), .load none (.t 41), (some (39, false))⟩,
    ⟨(some 43), .bin .geq (.t 40) (.t 42), (some (39, false))⟩,
    ⟨(some 44), .pick (.t 39) (.c (.bool true)) (.t 43), none⟩])
  (.cond (.t 44)
  (.seq (.region [⟨(some 2), .mov (.c (.bool false)), none⟩])
  .ret)
  .skip))))
  (.region [⟨(some 45), .bin .add (.t 33) (.c (.int .i64 1)), none⟩,
    ⟨(some 33), .mov (.t 45), none⟩])))))))
  (.seq (.region [⟨(some 2), .mov (.c (.bool true)), none⟩])
  .ret))))))
def F_field_shape : GFun := ⟨1, 46, B_field_shape, [.t 2]⟩
theorem ok_field_shape : okFun Go.Proofs.Try.prog fid_field_shape F_field_shape = true := by kernel_rfl
def B_field_valueOf : GCode :=
  (.seq (.region [⟨(some 4), .mov (.c (.int .i64 0)), none⟩])
  (.seq (.region [⟨(some 5), .mov (.c (.int .i64 0)), none⟩])
  (.seq (.seq (.region [⟨(some 7), .mov (.t 0), none⟩,
    ⟨(some 8), .len (.t 7), none⟩,
    ⟨(some 9), .bin .sub (.t 8) (.c (.int .i64 1)), none⟩,
    ⟨(some 6), .mov (.t 9), none⟩])
  (.block 0 (.loop (.seq (.seq (.region [⟨(some 10), .mov (.t 6), none⟩,
    ⟨(some 11), .bin .geq (.t 10) (.c (.int .i64 0)), none⟩])
  (.cond (.t 11)
  .skip
  (.exit 0)))
  (.seq (.block 1 (.region [⟨(some 14), .mov (.t 5), none⟩,
    ⟨(some 15), .mov (.t 1), none⟩,
    ⟨(some 16), .bin .mul (.t 14) (.t 15), none⟩,
    ⟨(some 17), .mov (.t 0), none⟩,
    ⟨(some 18), .mov (.t 6), none⟩,
    ⟨(some 19), .indexAddr 1 (.t 17) (.t 18), none⟩,
    ⟨(some 20), .load none (.t 19), none⟩,
    ⟨(some 21), .bin .add (.t 16) (.t 20), none⟩,
    ⟨(some 5), .mov (.t 21), none⟩]))
  (.region [⟨(some 12), .mov (.t 6), none⟩,
    ⟨(some 13), .bin .sub (.t 12) (.c (.int .i64 1)), none⟩,
    ⟨(some 6), .mov (.t 13), none⟩]))))))
  (.seq (.region [⟨(some 22), .mov (.t 5), none⟩,
    ⟨(some 4), .mov (.t 22), none⟩])
  .ret))))
def F_field_valueOf : GFun := ⟨2, 23, B_field_valueOf, [.t 4]⟩
theorem ok_field_valueOf : okFun Go.Proofs.Try.prog fid_field_valueOf F_field_valueOf = true := by kernel_rfl
end Go.Proofs.Ytdpibcniodhinaa.Gh
/- The field's order, primes and digits: what the program and the reference compute. -/
namespace Go.Proofs.Ytdpibcniodhinaa.Gh
open Go Go.RowKit
set_option linter.unusedVariables false
set_option linter.unusedSimpArgs false

/-- the order of a description, or 0 -/
def qo (p m : Int) : Int := if 2 ≤ p ∧ p ≤ 256 ∧ 1 ≤ m ∧ m ≤ 8 ∧ p ^ m.toNat ≤ 256 then p ^ m.toNat else 0
theorem pow_mono {p : Int} (hp : 1 ≤ p) : ∀ {i j : Nat}, i ≤ j → p ^ i ≤ p ^ j := by
  intro i j h
  induction j with
  | zero => have : i = 0 := by omega
            subst this; exact Int.le_refl _
  | succ j ih =>
    by_cases e : i = j + 1
    · subst e; exact Int.le_refl _
    · have h1 := ih (by omega)
      have h2 : 0 ≤ p ^ j := Int.pow_nonneg (by omega)
      rw [Int.pow_succ]
      have : p ^ j * 1 ≤ p ^ j * p := Int.mul_le_mul_of_nonneg_left hp h2
      omega

theorem sp_field_order {H : Heap} {n : Nat} (p m : Int) : Spec prog fid_field_order [.int .i64 p, .int .i64 m] H n (.int .i64 (qo p m)) H n := by
  refine spec_ends hmix ok_field_order rfl fun hF => ?_
  show gw prog B_field_order _ (tl 30 _) H n
  have bad : ∀ E : Env, E 4 = .int .i64 0 → ¬ (2 ≤ p ∧ p ≤ 256 ∧ 1 ≤ m ∧ m ≤ 8 ∧ p ^ m.toNat ≤ 256) → F_field_order.ends H n (.int .i64 (qo p m)) .ret (tl 30 E) H n := by
    intro E h4 h
    refine fin_ret rfl (by decide) ?_ fun _ _ => rfl
    rw [h4]; exact fz_int (if_neg h).symm
  by_cases h1 : p < 2
  · simp -implicitDefEqProofs only [B_field_order, go_sem, Nat.reduceLT, Nat.reduceBEq, Nat.reduceAdd, Nat.reduceEqDiff, Nat.reduceLeDiff, Nat.reduceSub, Nat.reduceMul, h1]
    exact bad _ rfl (by omega)
  by_cases h2 : 256 < p
  · simp -implicitDefEqProofs only [B_field_order, go_sem, Nat.reduceLT, Nat.reduceBEq, Nat.reduceAdd, Nat.reduceEqDiff, Nat.reduceLeDiff, Nat.reduceSub, Nat.reduceMul, h1, h2]
    exact bad _ rfl (by omega)
  by_cases h3 : m < 1
  · simp -implicitDefEqProofs only [B_field_order, go_sem, Nat.reduceLT, Nat.reduceBEq, Nat.reduceAdd, Nat.reduceEqDiff, Nat.reduceLeDiff, Nat.reduceSub, Nat.reduceMul, h1, h2, h3]
    exact bad _ rfl (by omega)
  by_cases h4 : 8 < m
  · simp -implicitDefEqProofs only [B_field_order, go_sem, Nat.reduceLT, Nat.reduceBEq, Nat.reduceAdd, Nat.reduceEqDiff, Nat.reduceLeDiff, Nat.reduceSub, Nat.reduceMul, h1, h2, h3, h4]
    exact bad _ rfl (by omega)
  simp -implicitDefEqProofs only [B_field_order, go_sem, Nat.reduceLT, Nat.reduceBEq, Nat.reduceAdd, Nat.reduceEqDiff, Nat.reduceLeDiff, Nat.reduceSub, Nat.reduceMul, h1, h2, h3, h4]
  refine loop_rule (fun i E H' n' => H' = H ∧ n' = n ∧ E 0 = .int .i64 p ∧ E 20 = .int .i64 m ∧ E 21 = .int .i64 (i : Nat) ∧ E 5 = .int .i64 (p ^ i) ∧ (i : Int) ≤ m ∧ p ^ i ≤ 256) (fun i => 8 - i) 0 ⟨rfl, rfl, rfl, rfl, rfl, by simp -implicitDefEqProofs only [go_sem, Nat.reduceLT, Nat.reduceBEq, Nat.reduceAdd, Nat.reduceEqDiff, Nat.reduceLeDiff, Nat.reduceSub, Nat.reduceMul, Int.pow_zero], by omega, by rw [Int.pow_zero]; omega⟩ ?_
  rintro i E H' n' ⟨rfl, rfl, e0, e20, e21, e5, hi, hq⟩
  have hpos : 0 ≤ p ^ i := Int.pow_nonneg (by omega)
  simp -implicitDefEqProofs only [go_sem, Nat.reduceLT, Nat.reduceBEq, Nat.reduceAdd, Nat.reduceEqDiff, Nat.reduceLeDiff, Nat.reduceSub, Nat.reduceMul, e20, e21]
  refine c_split (fun h => ?_) (fun h => ?_)
  · simp -implicitDefEqProofs only [go_sem, Nat.reduceLT, Nat.reduceBEq, Nat.reduceAdd, Nat.reduceEqDiff, Nat.reduceLeDiff, Nat.reduceSub, Nat.reduceMul, e0, e5]
    have hb : p ^ i * p ≤ 256 * 256 := Int.mul_le_mul hq (by omega) (by omega) (by omega)
    have hb0 : 0 ≤ p ^ i * p := Int.mul_nonneg hpos (by omega)
    have hps : p ^ (i + 1) = p ^ i * p := Int.pow_succ p i
    rw [wrap64 (by omega), ← hps]
    refine c_split (fun h' => ?_) (fun h' => ?_)
    · simp -implicitDefEqProofs only [go_sem, Nat.reduceLT, Nat.reduceBEq, Nat.reduceAdd, Nat.reduceEqDiff, Nat.reduceLeDiff, Nat.reduceSub, Nat.reduceMul]
      refine bad _ rfl fun hh => ?_
      have := pow_mono (p := p) (by omega) (i := i + 1) (j := m.toNat) (by omega)
      omega
    · simp -implicitDefEqProofs only [go_sem, Nat.reduceLT, Nat.reduceBEq, Nat.reduceAdd, Nat.reduceEqDiff, Nat.reduceLeDiff, Nat.reduceSub, Nat.reduceMul, e21]
      rw [wrap64 (by omega)]
      exact l_n ⟨i + 1, by omega, rfl, rfl, by simp -implicitDefEqProofs only [go_sem, Nat.reduceLT, Nat.reduceBEq, Nat.reduceAdd, Nat.reduceEqDiff, Nat.reduceLeDiff, Nat.reduceSub, Nat.reduceMul, e0], by simp -implicitDefEqProofs only [go_sem, Nat.reduceLT, Nat.reduceBEq, Nat.reduceAdd, Nat.reduceEqDiff, Nat.reduceLeDiff, Nat.reduceSub, Nat.reduceMul, e20], by simp -implicitDefEqProofs only [go_sem, Nat.reduceLT, Nat.reduceBEq, Nat.reduceAdd, Nat.reduceEqDiff, Nat.reduceLeDiff, Nat.reduceSub, Nat.reduceMul]; norm_cast, by simp -implicitDefEqProofs only [go_sem, Nat.reduceLT, Nat.reduceBEq, Nat.reduceAdd, Nat.reduceEqDiff, Nat.reduceLeDiff, Nat.reduceSub, Nat.reduceMul], by omega, by omega⟩
  · simp -implicitDefEqProofs only [go_sem, Nat.reduceLT, Nat.reduceBEq, Nat.reduceAdd, Nat.reduceEqDiff, Nat.reduceLeDiff, Nat.reduceSub, Nat.reduceMul, e5]
    refine fin_ret rfl (by decide) ?_ fun _ _ => rfl
    simp -implicitDefEqProofs only [go_sem, Nat.reduceLT, Nat.reduceBEq, Nat.reduceAdd, Nat.reduceEqDiff, Nat.reduceLeDiff, Nat.reduceSub, Nat.reduceMul]
    have : m.toNat = i := by omega
    exact fz_int (by rw [qo, this, if_pos (by omega)])
theorem sp_ref04_Order {H : Heap} {n : Nat} (p m : Int) (g : GV) (hg : isCell g = true) : Spec prog fid_ref04_Order [.agg [.int .i64 p, .int .i64 m, g]] H n (.int .i64 (qo p m)) H n := by
  refine spec_ends hmix ok_ref04_Order rfl fun hF => ?_
  show gw prog B_ref04_Order _ (tl 34 _) H n
  have bad : ∀ (E : Env) (H1 : Heap) (n1 : Nat), E 2 = .int .i64 0 → ¬ (2 ≤ p ∧ p ≤ 256 ∧ 1 ≤ m ∧ m ≤ 8 ∧ p ^ m.toNat ≤ 256) → (∀ b, b < n → H1 b = H b) → F_ref04_Order.ends H n (.int .i64 (qo p m)) .ret (tl 34 E) H1 n1 := by
    intro E H1 n1 h4 h ho
    refine fin_ret rfl (by decide) ?_ ho
    rw [h4]; exact fz_int (if_neg h).symm
  have ho : ∀ c b, b < n → upd H n c b = H b := fun c b hb => upd_ne _ _ (by omega)
  by_cases h1 : p < 2
  · simp -implicitDefEqProofs only [B_ref04_Order, go_sem, Nat.reduceLT, Nat.reduceBEq, Nat.reduceAdd, Nat.reduceEqDiff, Nat.reduceLeDiff, Nat.reduceSub, Nat.reduceMul, h1]
    exact bad _ _ _ rfl (by omega) (ho _)
  by_cases h3 : m < 1
  · simp -implicitDefEqProofs only [B_ref04_Order, go_sem, Nat.reduceLT, Nat.reduceBEq, Nat.reduceAdd, Nat.reduceEqDiff, Nat.reduceLeDiff, Nat.reduceSub, Nat.reduceMul, h1, h3]
    exact bad _ _ _ rfl (by omega) (ho _)
  by_cases h4 : 8 < m
  · simp -implicitDefEqProofs only [B_ref04_Order, go_sem, Nat.reduceLT, Nat.reduceBEq, Nat.reduceAdd, Nat.reduceEqDiff, Nat.reduceLeDiff, Nat.reduceSub, Nat.reduceMul, h1, h3, h4]
    exact bad _ _ _ rfl (by omega) (ho _)
  simp -implicitDefEqProofs only [B_ref04_Order, go_sem, Nat.reduceLT, Nat.reduceBEq, Nat.reduceAdd, Nat.reduceEqDiff, Nat.reduceLeDiff, Nat.reduceSub, Nat.reduceMul, h1, h3, h4]
  refine loop_rule (fun i E H' n' => H' = upd H n (some [.int .i64 p, .int .i64 m, g]) ∧ n' = n + 1 ∧ E 1 = .ptr n 0 ∧ E 4 = .int .i64 (i : Nat) ∧ E 3 = .int .i64 (p ^ i) ∧ (i : Int) ≤ m ∧ p ^ i ≤ 256) (fun i => 8 - i) 0 ⟨rfl, rfl, rfl, rfl, by simp -implicitDefEqProofs only [go_sem, Nat.reduceLT, Nat.reduceBEq, Nat.reduceAdd, Nat.reduceEqDiff, Nat.reduceLeDiff, Nat.reduceSub, Nat.reduceMul, Int.pow_zero], by omega, by rw [Int.pow_zero]; omega⟩ ?_
  rintro i E H' n' ⟨rfl, rfl, e1, e4, e3, hi, hq⟩
  have hpos : 0 < p ^ i := Int.pow_pos (by omega)
  simp -implicitDefEqProofs only [go_sem, Nat.reduceLT, Nat.reduceBEq, Nat.reduceAdd, Nat.reduceEqDiff, Nat.reduceLeDiff, Nat.reduceSub, Nat.reduceMul, e1, e4]
  refine c_split (fun h => ?_) (fun h => ?_)
  · simp -implicitDefEqProofs only [go_sem, Nat.reduceLT, Nat.reduceBEq, Nat.reduceAdd, Nat.reduceEqDiff, Nat.reduceLeDiff, Nat.reduceSub, Nat.reduceMul, e1, e3]
    rw [if_neg (by omega)]
    have hd : Int.tdiv 256 p = 256 / p := Int.tdiv_eq_ediv_of_nonneg (by omega)
    have hd0 : 0 ≤ 256 / p := Int.ediv_nonneg (by omega) (by omega)
    have hd1 : 256 / p ≤ 256 := Int.ediv_le_self _ (by omega)
    have hps : p ^ (i + 1) = p ^ i * p := Int.pow_succ p i
    simp -implicitDefEqProofs only [go_sem, Nat.reduceLT, Nat.reduceBEq, Nat.reduceAdd, Nat.reduceEqDiff, Nat.reduceLeDiff, Nat.reduceSub, Nat.reduceMul, hd]
    rw [wrap64 (by omega)]
    have key : 256 / p < p ^ i ↔ 256 < p ^ (i + 1) := by rw [Int.ediv_lt_iff_lt_mul (by omega), hps]
    refine c_split (fun h' => ?_) (fun h' => ?_)
    · simp -implicitDefEqProofs only [go_sem, Nat.reduceLT, Nat.reduceBEq, Nat.reduceAdd, Nat.reduceEqDiff, Nat.reduceLeDiff, Nat.reduceSub, Nat.reduceMul]
      refine bad _ _ _ rfl (fun hh => ?_) (ho _)
      have := pow_mono (p := p) (by omega) (i := i + 1) (j := m.toNat) (by omega)
      have := key.1 h'
      omega
    · have h'' : ¬ 256 < p ^ (i + 1) := fun hh => h' (key.2 hh)
      have hnn : 0 ≤ p ^ (i + 1) := Int.pow_nonneg (by omega)
      simp -implicitDefEqProofs only [go_sem, Nat.reduceLT, Nat.reduceBEq, Nat.reduceAdd, Nat.reduceEqDiff, Nat.reduceLeDiff, Nat.reduceSub, Nat.reduceMul, e1, e4, e3]
      rw [wrap64 (by omega), ← hps, wrap64 (by omega)]
      exact l_n ⟨i + 1, by omega, rfl, rfl, by simp -implicitDefEqProofs only [go_sem, Nat.reduceLT, Nat.reduceBEq, Nat.reduceAdd, Nat.reduceEqDiff, Nat.reduceLeDiff, Nat.reduceSub, Nat.reduceMul, e1], by simp -implicitDefEqProofs only [go_sem, Nat.reduceLT, Nat.reduceBEq, Nat.reduceAdd, Nat.reduceEqDiff, Nat.reduceLeDiff, Nat.reduceSub, Nat.reduceMul]; norm_cast, by simp -implicitDefEqProofs only [go_sem, Nat.reduceLT, Nat.reduceBEq, Nat.reduceAdd, Nat.reduceEqDiff, Nat.reduceLeDiff, Nat.reduceSub, Nat.reduceMul], by omega, by omega⟩
  · simp -implicitDefEqProofs only [go_sem, Nat.reduceLT, Nat.reduceBEq, Nat.reduceAdd, Nat.reduceEqDiff, Nat.reduceLeDiff, Nat.reduceSub, Nat.reduceMul, e3]
    refine fin_ret rfl (by decide) ?_ (ho _)
    simp -implicitDefEqProofs only [go_sem, Nat.reduceLT, Nat.reduceBEq, Nat.reduceAdd, Nat.reduceEqDiff, Nat.reduceLeDiff, Nat.reduceSub, Nat.reduceMul]
    have : m.toNat = i := by omega
    have h1i := pow_mono (p := p) (by omega) (i := 1) (j := i) (by omega)
    rw [Int.pow_succ, Int.pow_zero, Int.one_mul] at h1i
    exact fz_int (by rw [qo, this, if_pos (by omega)])
end Go.Proofs.Ytdpibcniodhinaa.Gh
/- Primes, digits and values: what the program and the reference compute. -/
namespace Go.Proofs.Ytdpibcniodhinaa.Gh
open Go Go.RowKit
set_option linter.unusedVariables false
set_option linter.unusedSimpArgs false

def isPr (p : Int) : Prop := 2 ≤ p ∧ ∀ d : Int, 2 ≤ d → d < p → p % d ≠ 0
noncomputable instance (p : Int) : Decidable (isPr p) := Classical.propDecidable _

theorem tmod_nn {a b : Int} (h : 0 ≤ a) : a.tmod b = a % b := Int.tmod_eq_emod_of_nonneg h
theorem tdiv_nn {a b : Int} (h : 0 ≤ a) : a.tdiv b = a / b := Int.tdiv_eq_ediv_of_nonneg h

theorem sp_ref04_prime {H : Heap} {n : Nat} (p : Int) (hp : 2 ≤ p) (hp2 : p ≤ 1000000) : Spec prog fid_ref04_prime [.int .i64 p] H n (.bool (decide (isPr p))) H n := by
  refine spec_ends hmix ok_ref04_prime rfl fun hF => ?_
  show gw prog B_ref04_prime _ (tl 13 _) H n
  simp -implicitDefEqProofs only [B_ref04_prime, go_sem, Nat.reduceLT, Nat.reduceBEq, Nat.reduceAdd, Nat.reduceEqDiff, Nat.reduceLeDiff, Nat.reduceSub, Nat.reduceMul]
  refine loop_rule (fun (d : Nat) E H' n' => H' = H ∧ n' = n ∧ E 0 = .int .i64 p ∧ E 3 = .int .i64 d ∧ 2 ≤ (d : Int) ∧ (d : Int) ≤ p ∧ ∀ c : Int, 2 ≤ c → c < d → p % c ≠ 0) (fun d => p.toNat - d) 2 ⟨rfl, rfl, rfl, rfl, by omega, by omega, fun c h1 h2 => by omega⟩ ?_
  rintro d E H' n' ⟨rfl, rfl, h0, h3, h4, h5, h6⟩
  simp -implicitDefEqProofs only [go_sem, Nat.reduceLT, Nat.reduceBEq, Nat.reduceAdd, Nat.reduceEqDiff, Nat.reduceLeDiff, Nat.reduceSub, Nat.reduceMul, h0, h3]
  refine c_split (fun h => ?_) (fun h => ?_)
  · simp -implicitDefEqProofs only [go_sem, Nat.reduceLT, Nat.reduceBEq, Nat.reduceAdd, Nat.reduceEqDiff, Nat.reduceLeDiff, Nat.reduceSub, Nat.reduceMul, h0, h3]
    rw [if_neg (by omega), tmod_nn (by omega)]
    simp -implicitDefEqProofs only [go_sem, Nat.reduceLT, Nat.reduceBEq, Nat.reduceAdd, Nat.reduceEqDiff, Nat.reduceLeDiff, Nat.reduceSub, Nat.reduceMul]
    refine c_split (fun h => ?_) (fun h => ?_)
    · simp -implicitDefEqProofs only [go_sem, Nat.reduceLT, Nat.reduceBEq, Nat.reduceAdd, Nat.reduceEqDiff, Nat.reduceLeDiff, Nat.reduceSub, Nat.reduceMul]
      refine fin_ret rfl (by decide) (fz_bool ?_) fun _ _ => rfl
      exact (decide_eq_false fun hh => hh.2 d (by omega) (by omega) h).symm
    · simp -implicitDefEqProofs only [go_sem, Nat.reduceLT, Nat.reduceBEq, Nat.reduceAdd, Nat.reduceEqDiff, Nat.reduceLeDiff, Nat.reduceSub, Nat.reduceMul, h3]
      rw [wrap64 (by omega)]
      refine l_n ⟨d + 1, by omega, rfl, rfl, by simp -implicitDefEqProofs only [go_sem, Nat.reduceLT, Nat.reduceBEq, Nat.reduceAdd, Nat.reduceEqDiff, Nat.reduceLeDiff, Nat.reduceSub, Nat.reduceMul, h0], by simp -implicitDefEqProofs only [go_sem, Nat.reduceLT, Nat.reduceBEq, Nat.reduceAdd, Nat.reduceEqDiff, Nat.reduceLeDiff, Nat.reduceSub, Nat.reduceMul]; norm_cast, by omega, by omega, fun c c1 c2 => ?_⟩
      by_cases e : c = d
      · subst e; exact h
      · exact h6 c c1 (by omega)
  · simp -implicitDefEqProofs only [go_sem, Nat.reduceLT, Nat.reduceBEq, Nat.reduceAdd, Nat.reduceEqDiff, Nat.reduceLeDiff, Nat.reduceSub, Nat.reduceMul]
    refine fin_ret rfl (by decide) (fz_bool ?_) fun _ _ => rfl
    exact (decide_eq_true ⟨hp, fun c c1 c2 => h6 c c1 (by omega)⟩).symm

theorem sp_field_isPrime {H : Heap} {n : Nat} (p : Int) (hp2 : p ≤ 1000000) : Spec prog fid_field_isPrime [.int .i64 p] H n (.bool (decide (isPr p))) H n := by
  refine spec_ends hmix ok_field_isPrime rfl fun hF => ?_
  show gw prog B_field_isPrime _ (tl 17 _) H n
  simp -implicitDefEqProofs only [B_field_isPrime, go_sem, Nat.reduceLT, Nat.reduceBEq, Nat.reduceAdd, Nat.reduceEqDiff, Nat.reduceLeDiff, Nat.reduceSub, Nat.reduceMul]
  refine loop_rule (fun (d : Nat) E H' n' => H' = H ∧ n' = n ∧ E 0 = .int .i64 p ∧ E 3 = .int .i64 d ∧ 2 ≤ (d : Int) ∧ (d : Int) ≤ 1001 ∧ ∀ c : Int, 2 ≤ c → c < d → p % c ≠ 0 ∨ p < 2) (fun d => 1001 - d) 2 ⟨rfl, rfl, rfl, rfl, by omega, by omega, fun c h1 h2 => by omega⟩ ?_
  rintro d E H' n' ⟨rfl, rfl, h0, h3, h4, h5, h6⟩
  simp -implicitDefEqProofs only [go_sem, Nat.reduceLT, Nat.reduceBEq, Nat.reduceAdd, Nat.reduceEqDiff, Nat.reduceLeDiff, Nat.reduceSub, Nat.reduceMul, h0, h3]
  have hdd : 0 ≤ (d : Int) * d := Int.mul_nonneg (by omega) (by omega)
  have hdd2 : (d : Int) * d ≤ 1001 * 1001 := Int.mul_le_mul h5 h5 (by omega) (by omega)
  have hdd3 : (d : Int) * 2 ≤ d * d := Int.mul_le_mul_of_nonneg_left h4 (by omega)
  rw [wrap64 (by omega)]
  refine c_split (fun h => ?_) (fun h => ?_)
  · simp -implicitDefEqProofs only [go_sem, Nat.reduceLT, Nat.reduceBEq, Nat.reduceAdd, Nat.reduceEqDiff, Nat.reduceLeDiff, Nat.reduceSub, Nat.reduceMul, h0, h3]
    have hp4 : 4 ≤ p := by omega
    rw [if_neg (by omega), tmod_nn (by omega)]
    simp -implicitDefEqProofs only [go_sem, Nat.reduceLT, Nat.reduceBEq, Nat.reduceAdd, Nat.reduceEqDiff, Nat.reduceLeDiff, Nat.reduceSub, Nat.reduceMul]
    have hd1000 : (d : Int) ≤ 1000 := by
      rcases Int.lt_or_le (1000 : Int) d with h' | h'
      · have : (1001 : Int) * 1001 ≤ d * d := Int.mul_le_mul (by omega) (by omega) (by omega) (by omega)
        omega
      · exact h'
    refine c_split (fun h' => ?_) (fun h' => ?_)
    · simp -implicitDefEqProofs only [go_sem, Nat.reduceLT, Nat.reduceBEq, Nat.reduceAdd, Nat.reduceEqDiff, Nat.reduceLeDiff, Nat.reduceSub, Nat.reduceMul]
      refine fin_ret rfl (by decide) (fz_bool ?_) fun _ _ => rfl
      exact (decide_eq_false fun hh => hh.2 d (by omega) (by omega) h').symm
    · simp -implicitDefEqProofs only [go_sem, Nat.reduceLT, Nat.reduceBEq, Nat.reduceAdd, Nat.reduceEqDiff, Nat.reduceLeDiff, Nat.reduceSub, Nat.reduceMul, h3]
      rw [wrap64 (by omega)]
      refine l_n ⟨d + 1, by omega, rfl, rfl, by simp -implicitDefEqProofs only [go_sem, Nat.reduceLT, Nat.reduceBEq, Nat.reduceAdd, Nat.reduceEqDiff, Nat.reduceLeDiff, Nat.reduceSub, Nat.reduceMul, h0], by simp -implicitDefEqProofs only [go_sem, Nat.reduceLT, Nat.reduceBEq, Nat.reduceAdd, Nat.reduceEqDiff, Nat.reduceLeDiff, Nat.reduceSub, Nat.reduceMul]; norm_cast, by omega, by omega, fun c c1 c2 => ?_⟩
      by_cases e : c = d
      · subst e; exact .inl h'
      · exact h6 c c1 (by omega)
  · simp -implicitDefEqProofs only [go_sem, Nat.reduceLT, Nat.reduceBEq, Nat.reduceAdd, Nat.reduceEqDiff, Nat.reduceLeDiff, Nat.reduceSub, Nat.reduceMul, h0]
    refine fin_ret rfl (by decide) (fz_bool ?_) fun _ _ => rfl
    refine decide_eq_decide.2 ⟨fun h2 => ⟨h2, fun c c1 c2 e => ?_⟩, fun hh => hh.1⟩
    -- a divisor c, or its cofactor, lies below d
    have hc := Int.emod_add_mul_ediv p c
    rw [e, Int.zero_add] at hc
    rcases Int.lt_or_le c d with hcd | hcd
    · rcases h6 c c1 hcd with h | h
      · exact h e
      · omega
    · generalize p / c = y at hc
      have hy0 : 0 < y := by
        rcases Int.lt_or_le 0 y with hy | hy
        · exact hy
        · have : c * y ≤ 0 := Int.mul_nonpos_of_nonneg_of_nonpos (by omega) hy
          omega
      have hy1 : y ≠ 1 := fun e1 => by rw [e1, Int.mul_one] at hc; omega
      have hyd : y < d := by
        rcases Int.lt_or_le y d with hy | hy
        · exact hy
        · have : (d : Int) * d ≤ c * y := Int.mul_le_mul hcd hy (by omega) (by omega)
          omega
      rcases h6 y (by omega) hyd with h | h
      · apply h; rw [← hc]; exact Int.mul_emod_left c y
      · omega
end Go.Proofs.Ytdpibcniodhinaa.Gh
/- Digits and values: what the program and the reference compute. -/
namespace Go.Proofs.Ytdpibcniodhinaa.Gh
open Go Go.RowKit
set_option linter.unusedVariables false
set_option linter.unusedSimpArgs false

/-- the j-th digit -/
def dg (p x : Int) (j : Nat) : Int := x / p ^ j % p
theorem dg_lo {p x : Int} (hp : 2 ≤ p) (j : Nat) : 0 ≤ dg p x j := Int.emod_nonneg _ (by omega)
theorem dg_hi {p x : Int} (hp : 2 ≤ p) (j : Nat) : dg p x j < p := Int.emod_lt_of_pos _ (by omega)
theorem dg_step {p x : Int} (hp : 2 ≤ p) (i : Nat) : x / p ^ i / p = x / p ^ (i + 1) := by
  rw [Int.ediv_ediv_of_nonneg (Int.pow_nonneg (by omega)), Int.pow_succ]
/-- the first i digits, and zeros -/
def dgi (p x : Int) (i : Nat) : Nat → Int := fun j => if j < i then dg p x j else 0
theorem dgi_step (p x : Int) (i : Nat) : upf (dgi p x i) i (x / p ^ i % p) = dgi p x (i + 1) := by
  funext j
  simp only [upf, dgi]
  by_cases h : j = i
  · subst h; rw [if_pos rfl, if_pos (by omega)]; rfl
  · rw [if_neg h]
    by_cases h2 : j < i
    · rw [if_pos h2, if_pos (by omega)]
    · rw [if_neg h2, if_neg (by omega)]
theorem dgi_zero (p x : Int) (m : Nat) : tab m (it (dgi p x 0)) = List.replicate m (.int .i64 0) := by
  rw [tab_rep]; exact tab_congr fun i _ => rfl
theorem dgi_all (p x : Int) (m : Nat) : tab m (it (dgi p x m)) = tab m (it (dg p x)) := tab_congr fun i h => by
  show GV.int _ _ = GV.int _ _
  rw [dgi, if_pos h]

theorem sp_ref04_digits {H : Heap} {n : Nat} (x p : Int) (m : Nat) (hx : 0 ≤ x) (hx2 : x ≤ 1000000000000) (hp : 2 ≤ p) (hm : m ≤ 1000000) :
    Spec prog fid_ref04_digits [.int .i64 x, .int .i64 p, .int .i64 m] H n (.own n 0 m) (upd H n (some (tab m (it (dg p x))))) (n + 1) := by
  refine spec_ends1 hmix ok_ref04_digits rfl fun hF => ?_
  show gw prog B_ref04_digits _ (tl 26 _) H n
  simp -implicitDefEqProofs only [B_ref04_digits, go_sem, Nat.reduceLT, Nat.reduceBEq, Nat.reduceAdd, Nat.reduceEqDiff, Nat.reduceLeDiff, Nat.reduceSub, Nat.reduceMul]
  repeat with_reducible refine And.intro (by omega) ?_
  rw [← dgi_zero p x]
  refine loop_rule (fun (i : Nat) E H' n' => H' = upd H n (some (tab m (it (dgi p x i)))) ∧ n' = n + 1 ∧ E 0 = .int .i64 (x / p ^ i) ∧ E 1 = .int .i64 p ∧ E 2 = .int .i64 m ∧ E 7 = .own n 0 m ∧ E 8 = .int .i64 i ∧ i ≤ m) (fun i => m - i) 0 ⟨rfl, rfl, by simp -implicitDefEqProofs only [go_sem, Nat.reduceLT, Nat.reduceBEq, Nat.reduceAdd, Nat.reduceEqDiff, Nat.reduceLeDiff, Nat.reduceSub, Nat.reduceMul, Int.pow_zero, Int.ediv_one], rfl, rfl, rfl, rfl, by omega⟩ ?_
  rintro i E H' n' ⟨rfl, rfl, e0, e1, e2, e7, e8, hi⟩
  have hxi : 0 ≤ x / p ^ i := Int.ediv_nonneg hx (Int.pow_nonneg (by omega))
  have hxi2 : x / p ^ i ≤ x := Int.ediv_le_self _ hx
  have hxi3 : 0 ≤ x / p ^ i / p := Int.ediv_nonneg hxi (by omega)
  have hxi4 : x / p ^ i / p ≤ x / p ^ i := Int.ediv_le_self _ hxi
  simp -implicitDefEqProofs only [go_sem, Nat.reduceLT, Nat.reduceBEq, Nat.reduceAdd, Nat.reduceEqDiff, Nat.reduceLeDiff, Nat.reduceSub, Nat.reduceMul, e8, e2]
  refine c_split (fun h => ?_) (fun h => ?_)
  · simp -implicitDefEqProofs only [go_sem, Nat.reduceLT, Nat.reduceBEq, Nat.reduceAdd, Nat.reduceEqDiff, Nat.reduceLeDiff, Nat.reduceSub, Nat.reduceMul, e0, e1, e7, e8]
    rw [if_neg (by omega), tmod_nn hxi]
    simp -implicitDefEqProofs only [go_sem, Nat.reduceLT, Nat.reduceBEq, Nat.reduceAdd, Nat.reduceEqDiff, Nat.reduceLeDiff, Nat.reduceSub, Nat.reduceMul]
    rw [if_pos (by omega)]
    simp -implicitDefEqProofs only [go_sem, Nat.reduceLT, Nat.reduceBEq, Nat.reduceAdd, Nat.reduceEqDiff, Nat.reduceLeDiff, Nat.reduceSub, Nat.reduceMul]
    repeat with_reducible refine And.intro (by omega) ?_
    simp -implicitDefEqProofs only [go_sem, Nat.reduceLT, Nat.reduceBEq, Nat.reduceAdd, Nat.reduceEqDiff, Nat.reduceLeDiff, Nat.reduceSub, Nat.reduceMul, e0, e1]
    rw [if_neg (by omega), tdiv_nn hxi]
    simp -implicitDefEqProofs only [go_sem, Nat.reduceLT, Nat.reduceBEq, Nat.reduceAdd, Nat.reduceEqDiff, Nat.reduceLeDiff, Nat.reduceSub, Nat.reduceMul, e8]
    rw [wrap64 (by omega), wrap64 (by omega), dgi_step]
    exact l_n ⟨i + 1, by omega, rfl, rfl, by simp -implicitDefEqProofs only [go_sem, Nat.reduceLT, Nat.reduceBEq, Nat.reduceAdd, Nat.reduceEqDiff, Nat.reduceLeDiff, Nat.reduceSub, Nat.reduceMul]; rw [dg_step hp], by simp -implicitDefEqProofs only [go_sem, Nat.reduceLT, Nat.reduceBEq, Nat.reduceAdd, Nat.reduceEqDiff, Nat.reduceLeDiff, Nat.reduceSub, Nat.reduceMul, e1], by simp -implicitDefEqProofs only [go_sem, Nat.reduceLT, Nat.reduceBEq, Nat.reduceAdd, Nat.reduceEqDiff, Nat.reduceLeDiff, Nat.reduceSub, Nat.reduceMul, e2], by simp -implicitDefEqProofs only [go_sem, Nat.reduceLT, Nat.reduceBEq, Nat.reduceAdd, Nat.reduceEqDiff, Nat.reduceLeDiff, Nat.reduceSub, Nat.reduceMul, e7], by simp -implicitDefEqProofs only [go_sem, Nat.reduceLT, Nat.reduceBEq, Nat.reduceAdd, Nat.reduceEqDiff, Nat.reduceLeDiff, Nat.reduceSub, Nat.reduceMul]; norm_cast, by omega⟩
  · simp -implicitDefEqProofs only [go_sem, Nat.reduceLT, Nat.reduceBEq, Nat.reduceAdd, Nat.reduceEqDiff, Nat.reduceLeDiff, Nat.reduceSub, Nat.reduceMul, e7]
    have : i = m := by omega
    subst this
    refine fin_own rfl (by decide) (by simp -implicitDefEqProofs only [go_sem, Nat.reduceLT, Nat.reduceBEq, Nat.reduceAdd, Nat.reduceEqDiff, Nat.reduceLeDiff, Nat.reduceSub, Nat.reduceMul]) (Nat.le_refl _) (upd_same _ _ _) ?_ fun b hb => upd_ne _ _ (by omega)
    rw [dgi_all]; exact trs_it
theorem sp_field_digitsOf {H : Heap} {n : Nat} (x p : Int) (m : Nat) (hx : 0 ≤ x) (hx2 : x ≤ 1000000000000) (hp : 2 ≤ p) (hm : m ≤ 1000000) :
    Spec prog fid_field_digitsOf [.int .i64 x, .int .i64 p, .int .i64 m] H n (.own n 0 m) (upd H n (some (tab m (it (dg p x))))) (n + 1) := by
  refine spec_ends1 hmix ok_field_digitsOf rfl fun hF => ?_
  show gw prog B_field_digitsOf _ (tl 27 _) H n
  simp -implicitDefEqProofs only [B_field_digitsOf, go_sem, Nat.reduceLT, Nat.reduceBEq, Nat.reduceAdd, Nat.reduceEqDiff, Nat.reduceLeDiff, Nat.reduceSub, Nat.reduceMul]
  repeat with_reducible refine And.intro (by omega) ?_
  rw [← dgi_zero p x]
  refine loop_rule (fun (i : Nat) E H' n' => H' = upd H n (some (tab m (it (dgi p x i)))) ∧ n' = n + 1 ∧ E 0 = .int .i64 (x / p ^ i) ∧ E 1 = .int .i64 p ∧ E 12 = .int .i64 m ∧ E 7 = .own n 0 m ∧ E 13 = .int .i64 i ∧ i ≤ m) (fun i => m - i) 0 ⟨rfl, rfl, by simp -implicitDefEqProofs only [go_sem, Nat.reduceLT, Nat.reduceBEq, Nat.reduceAdd, Nat.reduceEqDiff, Nat.reduceLeDiff, Nat.reduceSub, Nat.reduceMul, Int.pow_zero, Int.ediv_one], rfl, rfl, rfl, rfl, by omega⟩ ?_
  rintro i E H' n' ⟨rfl, rfl, e0, e1, e12, e7, e13, hi⟩
  have hxi : 0 ≤ x / p ^ i := Int.ediv_nonneg hx (Int.pow_nonneg (by omega))
  have hxi2 : x / p ^ i ≤ x := Int.ediv_le_self _ hx
  have hxi3 : 0 ≤ x / p ^ i / p := Int.ediv_nonneg hxi (by omega)
  have hxi4 : x / p ^ i / p ≤ x / p ^ i := Int.ediv_le_self _ hxi
  simp -implicitDefEqProofs only [go_sem, Nat.reduceLT, Nat.reduceBEq, Nat.reduceAdd, Nat.reduceEqDiff, Nat.reduceLeDiff, Nat.reduceSub, Nat.reduceMul, e12, e13]
  refine c_split (fun h => ?_) (fun h => ?_)
  · simp -implicitDefEqProofs only [go_sem, Nat.reduceLT, Nat.reduceBEq, Nat.reduceAdd, Nat.reduceEqDiff, Nat.reduceLeDiff, Nat.reduceSub, Nat.reduceMul, e0, e1, e7, e13]
    rw [if_neg (by omega), tmod_nn hxi]
    simp -implicitDefEqProofs only [go_sem, Nat.reduceLT, Nat.reduceBEq, Nat.reduceAdd, Nat.reduceEqDiff, Nat.reduceLeDiff, Nat.reduceSub, Nat.reduceMul]
    rw [if_pos (by omega)]
    simp -implicitDefEqProofs only [go_sem, Nat.reduceLT, Nat.reduceBEq, Nat.reduceAdd, Nat.reduceEqDiff, Nat.reduceLeDiff, Nat.reduceSub, Nat.reduceMul]
    repeat with_reducible refine And.intro (by omega) ?_
    simp -implicitDefEqProofs only [go_sem, Nat.reduceLT, Nat.reduceBEq, Nat.reduceAdd, Nat.reduceEqDiff, Nat.reduceLeDiff, Nat.reduceSub, Nat.reduceMul, e0, e1]
    rw [if_neg (by omega), tdiv_nn hxi]
    simp -implicitDefEqProofs only [go_sem, Nat.reduceLT, Nat.reduceBEq, Nat.reduceAdd, Nat.reduceEqDiff, Nat.reduceLeDiff, Nat.reduceSub, Nat.reduceMul, e13]
    rw [wrap64 (by omega), wrap64 (by omega), dgi_step]
    exact l_n ⟨i + 1, by omega, rfl, rfl, by simp -implicitDefEqProofs only [go_sem, Nat.reduceLT, Nat.reduceBEq, Nat.reduceAdd, Nat.reduceEqDiff, Nat.reduceLeDiff, Nat.reduceSub, Nat.reduceMul]; rw [dg_step hp], by simp -implicitDefEqProofs only [go_sem, Nat.reduceLT, Nat.reduceBEq, Nat.reduceAdd, Nat.reduceEqDiff, Nat.reduceLeDiff, Nat.reduceSub, Nat.reduceMul, e1], by simp -implicitDefEqProofs only [go_sem, Nat.reduceLT, Nat.reduceBEq, Nat.reduceAdd, Nat.reduceEqDiff, Nat.reduceLeDiff, Nat.reduceSub, Nat.reduceMul, e12], by simp -implicitDefEqProofs only [go_sem, Nat.reduceLT, Nat.reduceBEq, Nat.reduceAdd, Nat.reduceEqDiff, Nat.reduceLeDiff, Nat.reduceSub, Nat.reduceMul, e7], by simp -implicitDefEqProofs only [go_sem, Nat.reduceLT, Nat.reduceBEq, Nat.reduceAdd, Nat.reduceEqDiff, Nat.reduceLeDiff, Nat.reduceSub, Nat.reduceMul]; norm_cast, by omega⟩
  · simp -implicitDefEqProofs only [go_sem, Nat.reduceLT, Nat.reduceBEq, Nat.reduceAdd, Nat.reduceEqDiff, Nat.reduceLeDiff, Nat.reduceSub, Nat.reduceMul, e7]
    have : i = m := by omega
    subst this
    refine fin_own rfl (by decide) (by simp -implicitDefEqProofs only [go_sem, Nat.reduceLT, Nat.reduceBEq, Nat.reduceAdd, Nat.reduceEqDiff, Nat.reduceLeDiff, Nat.reduceSub, Nat.reduceMul]) (Nat.le_refl _) (upd_same _ _ _) ?_ fun b hb => upd_ne _ _ (by omega)
    rw [dgi_all]; exact trs_it
end Go.Proofs.Ytdpibcniodhinaa.Gh
/- Values, elements: what the program and the reference compute. -/
namespace Go.Proofs.Ytdpibcniodhinaa.Gh
open Go Go.RowKit
set_option linter.unusedVariables false
set_option linter.unusedSimpArgs false

/-- the number with the digits f 0, .., f (k - 1) -/
def vs (p : Int) : Nat → (Nat → Int) → Int
  | 0, _ => 0
  | k + 1, f => f 0 + p * vs p k fun j => f (j + 1)
theorem vs_congr (p : Int) : ∀ (k : Nat) {f g : Nat → Int}, (∀ j, j < k → f j = g j) → vs p k f = vs p k g := by
  intro k
  induction k with
  | zero => intro f g _; rfl
  | succ k ih => intro f g h; simp only [vs]; rw [h 0 (by omega), ih fun j hj => h (j + 1) (by omega)]
theorem vs_nn {p : Int} (hp : 2 ≤ p) : ∀ (k : Nat) {f : Nat → Int}, (∀ j, j < k → 0 ≤ f j ∧ f j < p) → 0 ≤ vs p k f ∧ vs p k f < p ^ k := by
  intro k
  induction k with
  | zero => intro f _; exact ⟨Int.le_refl _, by rw [Int.pow_zero]; exact Int.one_pos⟩
  | succ k ih =>
    intro f h
    obtain ⟨h1, h2⟩ := ih (f := fun j => f (j + 1)) fun j hj => h (j + 1) (by omega)
    obtain ⟨h3, h4⟩ := h 0 (by omega)
    simp only [vs]
    have h5 : 0 ≤ p * vs p k fun j => f (j + 1) := Int.mul_nonneg (by omega) h1
    have h6 : p * (vs p k fun j => f (j + 1)) ≤ p * (p ^ k - 1) := Int.mul_le_mul_of_nonneg_left (by omega) (by omega)
    have h7 : p ^ (k + 1) = p * p ^ k := by rw [Int.pow_succ, Int.mul_comm]
    rw [Int.mul_sub, Int.mul_one, ← h7] at h6
    exact ⟨by omega, by omega⟩

theorem sp_value_step {p : Int} {f : Nat → Int} {m i : Nat} (h : i < m) : vs p (m - i) (fun j => f (i + j)) = vs p (m - (i + 1)) (fun j => f (i + 1 + j)) * p + f i := by
  have : m - i = (m - (i + 1)) + 1 := by omega
  rw [this]
  simp only [vs]
  rw [Int.add_comm, Int.mul_comm, vs_congr p _ fun j _ => by rw [show i + (j + 1) = i + 1 + j by omega]]
  rfl

theorem sp_ref04_Value {H : Heap} {n : Nat} (p M : Int) (g : GV) (hg : isCell g = true) (b m m' : Nat) (f : Nat → Int) (hb : b < n) (hH : H b = some (tab m' (it f))) (hm : m ≤ m') (hp : 2 ≤ p) (hpm : p ^ m ≤ 1000000) (hmm : m ≤ 1000) (hf : ∀ j, j < m → 0 ≤ f j ∧ f j < p) :
    Spec prog fid_ref04_Value [.agg [.int .i64 p, .int .i64 M, g], .own b 0 m] H n (.int .i64 (vs p m f)) H n := by
  refine spec_ends hmix ok_ref04_Value rfl fun hF => ?_
  show gw prog B_ref04_Value _ (tl 24 _) H n
  simp -implicitDefEqProofs only [B_ref04_Value, go_sem, Nat.reduceLT, Nat.reduceBEq, Nat.reduceAdd, Nat.reduceEqDiff, Nat.reduceLeDiff, Nat.reduceSub, Nat.reduceMul]
  have ho : ∀ c b, b < n → upd H n c b = H b := fun c b hb => upd_ne _ _ (by omega)
  rw [wrap64 (by omega)]
  refine loop_rule (fun (i : Nat) E H' n' => H' = upd H n (some [.int .i64 p, .int .i64 M, g]) ∧ n' = n + 1 ∧ E 1 = .own b 0 m ∧ E 2 = .ptr n 0 ∧ E 5 = .int .i64 (vs p (m - i) fun j => f (i + j)) ∧ E 6 = .int .i64 ((i : Int) - 1) ∧ i ≤ m) (fun i => i) m ⟨rfl, rfl, rfl, rfl, by simp -implicitDefEqProofs only [go_sem, Nat.reduceLT, Nat.reduceBEq, Nat.reduceAdd, Nat.reduceEqDiff, Nat.reduceLeDiff, Nat.reduceSub, Nat.reduceMul, Nat.sub_self, vs], rfl, by omega⟩ ?_
  rintro i E H' n' ⟨rfl, rfl, e1, e2, e5, e6, hi⟩
  have hv : ∀ i, i ≤ m → 0 ≤ (vs p (m - i) fun j => f (i + j)) ∧ (vs p (m - i) fun j => f (i + j)) < p ^ m := fun i hi => by
    obtain ⟨a, b⟩ := vs_nn hp (m - i) (f := fun j => f (i + j)) fun j hj => hf _ (by omega)
    exact ⟨a, Int.lt_of_lt_of_le b (pow_mono (by omega) (by omega))⟩
  simp -implicitDefEqProofs only [go_sem, Nat.reduceLT, Nat.reduceBEq, Nat.reduceAdd, Nat.reduceEqDiff, Nat.reduceLeDiff, Nat.reduceSub, Nat.reduceMul, e6]
  refine c_split (fun h => ?_) (fun h => ?_)
  · obtain ⟨i, rfl⟩ : ∃ k, i = k + 1 := ⟨i - 1, by omega⟩
    have hq := hv (i + 1) hi
    have hq' := hv i (by omega)
    have hst := sp_value_step (p := p) (f := f) (m := m) (i := i) (by omega)
    generalize hx : (vs p (m - (i + 1)) fun j => f (i + 1 + j)) = x at *
    have hf1 := hf i (by omega)
    have hi1 : ((i + 1 : Nat) : Int) - 1 = (i : Nat) := by omega
    rw [hi1] at e6
    simp -implicitDefEqProofs only [go_sem, Nat.reduceLT, Nat.reduceBEq, Nat.reduceAdd, Nat.reduceEqDiff, Nat.reduceLeDiff, Nat.reduceSub, Nat.reduceMul, e1, e2, e5, e6]
    have hxp : 0 ≤ x * p := Int.mul_nonneg hq.1 (by omega)
    rw [if_pos (by omega), wrap64 (by omega)]
    simp -implicitDefEqProofs only [go_sem, Nat.reduceLT, Nat.reduceBEq, Nat.reduceAdd, Nat.reduceEqDiff, Nat.reduceLeDiff, Nat.reduceSub, Nat.reduceMul, upd_ne H _ (show b ≠ n by omega), hH]
    refine ⟨by omega, by omega, ?_⟩
    rw [gat_tab (by omega), it_at]
    simp -implicitDefEqProofs only [go_sem, Nat.reduceLT, Nat.reduceBEq, Nat.reduceAdd, Nat.reduceEqDiff, Nat.reduceLeDiff, Nat.reduceSub, Nat.reduceMul, e6]
    rw [wrap64 (by omega), wrap64 (by omega), ← hst]
    exact l_n ⟨i, by omega, rfl, rfl, by simp -implicitDefEqProofs only [go_sem, Nat.reduceLT, Nat.reduceBEq, Nat.reduceAdd, Nat.reduceEqDiff, Nat.reduceLeDiff, Nat.reduceSub, Nat.reduceMul, e1], by simp -implicitDefEqProofs only [go_sem, Nat.reduceLT, Nat.reduceBEq, Nat.reduceAdd, Nat.reduceEqDiff, Nat.reduceLeDiff, Nat.reduceSub, Nat.reduceMul, e2], by simp -implicitDefEqProofs only [go_sem, Nat.reduceLT, Nat.reduceBEq, Nat.reduceAdd, Nat.reduceEqDiff, Nat.reduceLeDiff, Nat.reduceSub, Nat.reduceMul], by simp -implicitDefEqProofs only [go_sem, Nat.reduceLT, Nat.reduceBEq, Nat.reduceAdd, Nat.reduceEqDiff, Nat.reduceLeDiff, Nat.reduceSub, Nat.reduceMul], by omega⟩
  · simp -implicitDefEqProofs only [go_sem, Nat.reduceLT, Nat.reduceBEq, Nat.reduceAdd, Nat.reduceEqDiff, Nat.reduceLeDiff, Nat.reduceSub, Nat.reduceMul, e5]
    have : i = 0 := by omega
    subst this
    refine fin_ret rfl (by decide) (fz_int ?_) (ho _)
    rw [Nat.sub_zero]
    exact vs_congr p m fun j _ => by rw [Nat.zero_add]
end Go.Proofs.Ytdpibcniodhinaa.Gh
