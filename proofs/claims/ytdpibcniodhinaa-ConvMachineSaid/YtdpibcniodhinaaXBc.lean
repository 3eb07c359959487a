/- The ghost code's equations over slots as a function: what a proof of a contract is evaluated by. -/
import Derived.Test.YtdpibcniodhinaaXBb
namespace Go.Proofs.Ytdpibcniodhinaa.Gh
open Go Go.RowKit
set_option linter.unusedVariables false
set_option linter.unusedSimpArgs false

abbrev Env := Nat → GV
abbrev Kn := GV → Heap → Nat → Prop
def tl (N : Nat) (E : Env) : List GV := (List.range N).map E
def st (E : Env) (d : Nat) (g : GV) : Env := fun j => if j = d then g else E j
def sto (E : Env) : Option Nat → GV → Env
  | none, _ => E
  | some d, g => st E d g
theorem st_same (E : Env) (d : Nat) (g : GV) : st E d g d = g := if_pos rfl
theorem st_ne (E : Env) (d : Nat) (g : GV) {j : Nat} (h : (j == d) = false) : st E d g j = E j := if_neg (by simpa using h)
def mkE : Nat → List GV → Env
  | _, [] => fun _ => .undef
  | i, g :: gs => st (mkE (i + 1) gs) i g
theorem mkE_nil (i : Nat) : mkE i [] = fun _ => .undef := rfl
theorem mkE_cons (i : Nat) (g : GV) (gs : List GV) : mkE i (g :: gs) = st (mkE (i + 1) gs) i g := rfl

theorem gat_tl {N : Nat} {E : Env} {j : Nat} (h : j < N) : gat (tl N E) j = E j := by simp [gat, tl, List.getD_eq_getElem?_getD, h]
theorem put_tl (N : Nat) (E : Env) (d : Option Nat) (g : GV) : put (tl N E) d g = tl N (sto E d g) := by
  cases d with
  | none => rfl
  | some d =>
    apply List.ext_getElem
    · simp [put, tl]
    · intro i h1 h2
      simp only [tl, List.length_map, List.length_range] at h2
      simp only [put, tl, sto, st, List.getElem_set, List.getElem_map, List.getElem_range]
      by_cases e : d = i
      · simp [e]
      · simp [e, Ne.symm e]
theorem mkE_at : ∀ (gs : List GV) (i j : Nat), mkE i gs (i + j) = gat gs j := by
  intro gs
  induction gs with
  | nil => intro i j; rfl
  | cons g gs ih =>
    intro i j
    cases j with
    | zero => exact st_same _ _ _
    | succ j =>
      rw [mkE_cons, st_ne _ _ _ (by simp)]
      rw [show i + (j + 1) = i + 1 + j from by omega, ih]
      rfl
theorem args_tl {args : List GV} {np nt : Nat} (h : args.length = np) (hle : np ≤ nt) : args ++ List.replicate (nt - np) .undef = tl nt (mkE 0 args) := by
  apply List.ext_getElem
  · simp [tl]; omega
  · intro i h1 h2
    simp only [tl, List.getElem_map, List.getElem_range]
    have := mkE_at args 0 i
    rw [Nat.zero_add] at this
    rw [this]
    by_cases hi : i < args.length
    · simp [List.getElem_append, hi, gat, List.getD_eq_getElem?_getD]
    · simp [List.getElem_append, hi, gat, List.getD_eq_getElem?_getD]

theorem gev_t {N : Nat} {E : Env} {j : Nat} (h : j < N) : gev (tl N E) (.t j) = E j := gat_tl h
theorem gev_c (t : List GV) (g : GV) : gev t (.c g) = g := rfl

section
variable {P : Program} {N n m : Nat} {E : Env} {H : Heap} {k : List GV → Heap → Nat → Prop} {q : Kn} {Q : GPost} {d : Option Nat} {g v : GV} {op : GOp} {rest : List GOper} {x y z : GX} {t : List GV}

def kops (P : Program) (rest : List GOper) (k : List GV → Heap → Nat → Prop) (N : Nat) (E : Env) (d : Option Nat) : Kn := fun g H n => gops P rest k (tl N (sto E d g)) H n
theorem e_nil : gops P [] k t H n = k t H n := rfl
theorem e_cons : gops P (⟨d, op, none⟩ :: rest) k (tl N E) H n = gop P (tl N E) H n (kops P rest k N E d) op := by
  simp only [gops, put_tl]
  rfl
theorem e_kops (i : Nat) : kops P rest k N E (some i) g H n = gops P rest k (tl N (st E i g)) H n := rfl
theorem e_kops_none : kops P rest k N E none g H n = gops P rest k (tl N E) H n := rfl
def hgd (P : Program) (rest : List GOper) (k : List GV → Heap → Nat → Prop) (N : Nat) (E : Env) (H : Heap) (n : Nat) (d : Option Nat) (op : GOp) (w : Bool) : GV → Prop
  | .bool b => if b = w then gop P (tl N E) H n (kops P rest k N E d) op else kops P rest k N E d (.tup []) H n
  | .tup [] => kops P rest k N E d (.tup []) H n
  | _ => False
theorem e_guard {j : Nat} {w : Bool} (h : j < N) : gops P (⟨d, op, some (j, w)⟩ :: rest) k (tl N E) H n = hgd P rest k N E H n d op w (E j) := by
  have h' := h
  simp only [gops, gat_tl h', put_tl]
  unfold hgd
  split
  · rename_i b hb; rw [hb]; rfl
  · rename_i hb; rw [hb]; rfl
  · rename_i hb hb2
    split
    · rename_i b hb'; exact absurd hb' (hb b)
    · rename_i hb'; exact absurd hb' hb2
    · rfl
theorem e_tt : hgd P rest k N E H n d op true (.bool true) = gop P (tl N E) H n (kops P rest k N E d) op := rfl
theorem e_ff : hgd P rest k N E H n d op false (.bool false) = gop P (tl N E) H n (kops P rest k N E d) op := rfl
theorem e_tf : hgd P rest k N E H n d op true (.bool false) = kops P rest k N E d (.tup []) H n := rfl
theorem e_tu (w : Bool) : hgd P rest k N E H n d op w (.tup []) = kops P rest k N E d (.tup []) H n := rfl
theorem e_ft : hgd P rest k N E H n d op false (.bool true) = kops P rest k N E d (.tup []) H n := rfl

/-- the operations -/
def hopt (q : Kn) (H : Heap) (n : Nat) : Option GV → Prop
  | some g => q g H n
  | none => False
theorem e_some : hopt q H n (some g) = q g H n := rfl
theorem e_pure (h : ∀ k : Kn, gop P t H n k op = (match gpure t op with | some g => k g H n | none => False)) {o : Option GV} (e : gpure t op = o) : gop P t H n q op = hopt q H n o := by
  rw [h, e]; cases o <;> rfl
theorem e_mov : gop P t H n q (.mov x) = q (gev t x) H n := rfl
def hpick : GV → GV → GV → Option GV
  | .bool true, a, _ => some a
  | .bool false, _, b => some b
  | _, _, _ => none
theorem e_pick : gop P t H n q (.pick x y z) = hopt q H n (hpick (gev t x) (gev t y) (gev t z)) := by
  refine e_pure (fun _ => rfl) ?_
  simp only [gpure]; unfold hpick; split <;> simp_all
theorem e_pick_t (a b : GV) : hpick (.bool true) a b = some a := rfl
theorem e_pick_f (a b : GV) : hpick (.bool false) a b = some b := rfl
theorem e_bin (o : BinOp) : gop P t H n q (.bin o x y) = hopt q H n (gbin o (gev t x) (gev t y)) := e_pure (fun _ => rfl) rfl
def hun : UnOp → GV → Option GV
  | .not, .bool b => some (.bool !b)
  | .neg, .int k n => some (.int k (k.wrap (0 - n)))
  | _, _ => none
theorem e_un (o : UnOp) : gop P t H n q (.un o x) = hopt q H n (hun o (gev t x)) := by
  refine e_pure (fun _ => rfl) ?_
  simp only [gpure]; unfold hun; split <;> simp_all
theorem e_not (b : Bool) : hun .not (.bool b) = some (.bool !b) := rfl
theorem e_neg (k : IntKind) (i : Int) : hun .neg (.int k i) = some (.int k (k.wrap (0 - i))) := rfl

theorem e_add (k : IntKind) (a b : Int) : gbin .add (.int k a) (.int k b) = some (.int k (k.wrap (a + b))) := by simp [gbin]
theorem e_sub (k : IntKind) (a b : Int) : gbin .sub (.int k a) (.int k b) = some (.int k (k.wrap (a - b))) := by simp [gbin]
theorem e_mul (k : IntKind) (a b : Int) : gbin .mul (.int k a) (.int k b) = some (.int k (k.wrap (a * b))) := by simp [gbin]
theorem e_quo (k : IntKind) (a b : Int) : gbin .quo (.int k a) (.int k b) = if b = 0 then none else some (.int k (k.wrap (a.tdiv b))) := by simp [gbin]
theorem e_rem (k : IntKind) (a b : Int) : gbin .rem (.int k a) (.int k b) = if b = 0 then none else some (.int k (a.tmod b)) := by simp [gbin]
theorem e_xor (k : IntKind) (a b : Int) : gbin .xor (.int k a) (.int k b) = some (.int k (k.wrap (BitVec.ofInt k.bits a ^^^ BitVec.ofInt k.bits b).toNat)) := by simp [gbin]
theorem e_and (k : IntKind) (a b : Int) : gbin .and (.int k a) (.int k b) = some (.int k (k.wrap (BitVec.ofInt k.bits a &&& BitVec.ofInt k.bits b).toNat)) := by simp [gbin]
theorem e_or (k : IntKind) (a b : Int) : gbin .or (.int k a) (.int k b) = some (.int k (k.wrap (BitVec.ofInt k.bits a ||| BitVec.ofInt k.bits b).toNat)) := by simp [gbin]
theorem e_eql (k : IntKind) (a b : Int) : gbin .eql (.int k a) (.int k b) = some (.bool (decide (a = b))) := by
  simp only [gbin, if_true]; congr 2
theorem e_neq (k : IntKind) (a b : Int) : gbin .neq (.int k a) (.int k b) = some (.bool (!decide (a = b))) := by
  simp only [gbin, if_true]; congr 2
theorem e_lss (k : IntKind) (a b : Int) : gbin .lss (.int k a) (.int k b) = some (.bool (decide (a < b))) := by simp [gbin]
theorem e_leq (k : IntKind) (a b : Int) : gbin .leq (.int k a) (.int k b) = some (.bool (decide (a ≤ b))) := by simp [gbin]
theorem e_gtr (k : IntKind) (a b : Int) : gbin .gtr (.int k a) (.int k b) = some (.bool (decide (b < a))) := by simp [gbin]
theorem e_geq (k : IntKind) (a b : Int) : gbin .geq (.int k a) (.int k b) = some (.bool (decide (b ≤ a))) := by simp [gbin]

def hfield (off : Nat) : Option Nat → GV → Option GV
  | none, .agg cs => if off < cs.length then some (gat cs off) else none
  | some m, .agg cs => if off + m ≤ cs.length then some (.agg ((cs.drop off).take m)) else none
  | _, _ => none
theorem e_field (off : Nat) (m : Option Nat) : gop P t H n q (.field off m x) = hopt q H n (hfield off m (gev t x)) := by
  refine e_pure (fun _ => rfl) ?_
  simp only [gpure]; generalize gev t x = v
  cases v <;> cases m <;> rfl
theorem e_field1 (off : Nat) (cs : List GV) : hfield off none (.agg cs) = if off < cs.length then some (gat cs off) else none := rfl
theorem e_fieldm (off m : Nat) (cs : List GV) : hfield off (some m) (.agg cs) = if off + m ≤ cs.length then some (.agg ((cs.drop off).take m)) else none := rfl
def hfaddr (off : Nat) : GV → Option GV
  | .ptr b o => some (.ptr b (o + off))
  | .pp cs o => some (.pp cs (o + off))
  | _ => none
theorem e_faddr (off : Nat) : gop P t H n q (.fieldAddr off x) = hopt q H n (hfaddr off (gev t x)) := by
  refine e_pure (fun _ => rfl) ?_
  simp only [gpure]; generalize gev t x = v; cases v <;> rfl
theorem e_faddr_ptr (off b o : Nat) : hfaddr off (.ptr b o) = some (.ptr b (o + off)) := rfl
theorem e_faddr_pp (off : Nat) (cs : List GV) (o : Nat) : hfaddr off (.pp cs o) = some (.pp cs (o + off)) := rfl
def hiaddr (size : Nat) : GV → GV → Option GV
  | .own b o n, .int _ i => if 0 ≤ i ∧ i < n then some (.ptr b (o + i.toNat * size)) else none
  | .sl n cs, .int _ i => if 0 ≤ i ∧ i < n ∧ i.toNat * size < cs.length then some (.pp cs (i.toNat * size)) else none
  | .lit cs, .int _ i => if 0 ≤ i ∧ i < cs.length ∧ size = 1 then some (.pp cs i.toNat) else none
  | _, _ => none
theorem e_iaddr (size : Nat) : gop P t H n q (.indexAddr size x y) = hopt q H n (hiaddr size (gev t x) (gev t y)) := by
  refine e_pure (fun _ => rfl) ?_
  simp only [gpure]; unfold hiaddr; split <;> simp_all
theorem e_iaddr_own (size b o l : Nat) (i : Int) (kd : IntKind) : hiaddr size (.own b o l) (.int kd i) = if 0 ≤ i ∧ i < l then some (.ptr b (o + i.toNat * size)) else none := rfl
theorem e_iaddr_sl (size l : Nat) (cs : List GV) (i : Int) (kd : IntKind) : hiaddr size (.sl l cs) (.int kd i) = if 0 ≤ i ∧ i < l ∧ i.toNat * size < cs.length then some (.pp cs (i.toNat * size)) else none := rfl
theorem e_iaddr_lit (size : Nat) (cs : List GV) (i : Int) (kd : IntKind) : hiaddr size (.lit cs) (.int kd i) = if 0 ≤ i ∧ i < cs.length ∧ size = 1 then some (.pp cs i.toNat) else none := rfl
def haaddr (len size : Nat) : GV → GV → Option GV
  | .ptr b o, .int _ i => if 0 ≤ i ∧ i < len then some (.ptr b (o + i.toNat * size)) else none
  | .pp cs o, .int _ i => if 0 ≤ i ∧ i < len then some (.pp cs (o + i.toNat * size)) else none
  | _, _ => none
theorem e_aaddr (len size : Nat) : gop P t H n q (.arrAddr len size x y) = hopt q H n (haaddr len size (gev t x) (gev t y)) := by
  refine e_pure (fun _ => rfl) ?_
  simp only [gpure]; unfold haaddr; split <;> simp_all
def hnilc : GV → Option GV
  | .ptr b o => some (.ptr b o)
  | .pp cs o => some (.pp cs o)
  | _ => none
theorem e_nilc : gop P t H n q (.nilCheck x) = hopt q H n (hnilc (gev t x)) := by
  refine e_pure (fun _ => rfl) ?_
  simp only [gpure]; generalize gev t x = v; cases v <;> rfl
theorem e_nilc_ptr (b o : Nat) : hnilc (.ptr b o) = some (.ptr b o) := rfl
theorem e_nilc_pp (cs : List GV) (o : Nat) : hnilc (.pp cs o) = some (.pp cs o) := rfl
def hext (i : Nat) : GV → Option GV
  | .tup vs => if i < vs.length then some (gat vs i) else none
  | _ => none
theorem e_ext (i : Nat) : gop P t H n q (.extract i x) = hopt q H n (hext i (gev t x)) := by
  refine e_pure (fun _ => rfl) ?_
  simp only [gpure]; generalize gev t x = v; cases v <;> rfl
theorem e_ext0 (a : GV) (l : List GV) : hext 0 (.tup (a :: l)) = some a := by simp [hext, gat]
theorem e_ext1 (a b : GV) (l : List GV) : hext 1 (.tup (a :: b :: l)) = some b := by simp [hext, gat]
theorem e_ext2 (a b c : GV) (l : List GV) : hext 2 (.tup (a :: b :: c :: l)) = some c := by simp [hext, gat]
def hlen : GV → Option GV
  | .nil => some (.int .i64 0)
  | .emp => some (.int .i64 0)
  | .lit cs => some (.int .i64 cs.length)
  | .sl n _ => some (.int .i64 n)
  | .own _ _ n => some (.int .i64 n)
  | _ => none
theorem e_len : gop P t H n q (.len x) = hopt q H n (hlen (gev t x)) := by
  refine e_pure (fun _ => rfl) ?_
  simp only [gpure]; generalize gev t x = v; cases v <;> rfl
theorem e_len_nil : hlen .nil = some (.int .i64 0) := rfl
theorem e_len_emp : hlen .emp = some (.int .i64 0) := rfl
theorem e_len_lit (cs : List GV) : hlen (.lit cs) = some (.int .i64 cs.length) := rfl
theorem e_len_sl (l : Nat) (cs : List GV) : hlen (.sl l cs) = some (.int .i64 l) := rfl
theorem e_len_own (b o l : Nat) : hlen (.own b o l) = some (.int .i64 l) := rfl
def hmm (mx : Bool) : GV → GV → Option GV
  | .int k a, .int _ b => some (.int k (if mx then (if b > a then b else a) else (if b < a then b else a)))
  | _, _ => none
theorem e_mm (mx : Bool) : gop P t H n q (.mm mx x y) = hopt q H n (hmm mx (gev t x) (gev t y)) := by
  refine e_pure (fun _ => rfl) ?_
  simp only [gpure]; unfold hmm; split <;> simp_all
theorem e_max (kd kd' : IntKind) (a b : Int) : hmm true (.int kd a) (.int kd' b) = some (.int kd (max a b)) := by
  simp only [hmm, if_true, Option.some.injEq, GV.int.injEq, true_and]; split <;> omega
theorem e_min (kd kd' : IntKind) (a b : Int) : hmm false (.int kd a) (.int kd' b) = some (.int kd (min a b)) := by
  simp only [hmm, Bool.false_eq_true, if_false, Option.some.injEq, GV.int.injEq, true_and]; split <;> omega
theorem e_build (zero : List GV) (parts : List (Nat × Nat × GX)) : gop P t H n q (.build zero parts) = hopt q H n ((gfill t zero parts).map .agg) := e_pure (fun _ => rfl) rfl
theorem e_map_some (cs : List GV) : (some cs).map GV.agg = some (.agg cs) := rfl
theorem e_conv (kd : IntKind) : gop P t H n q (.conv kd x) = hopt q H n (match gev t x with | .int _ n => some (.int kd (kd.wrap n)) | _ => none) := e_pure (fun _ => rfl) rfl
theorem e_mkfn (f : FuncId) (caps : List GX) : gop P t H n q (.mkfn f caps) = q (.fn f (caps.map (gev t))) H n := rfl
def hisnil (neg : Bool) : GV → Option GV
  | .nil => some (.bool !neg)
  | .own _ _ n => if 0 < n then some (.bool neg) else none
  | .emp => some (.bool neg)
  | .lit _ => some (.bool neg)
  | _ => none
theorem e_isnil (neg : Bool) : gop P t H n q (.isnil neg x) = hopt q H n (hisnil neg (gev t x)) := by
  refine e_pure (fun _ => rfl) ?_
  simp only [gpure]; generalize gev t x = v; cases v <;> rfl
theorem e_isnil_nil (neg : Bool) : hisnil neg .nil = some (.bool !neg) := rfl
theorem e_isnil_emp (neg : Bool) : hisnil neg .emp = some (.bool neg) := rfl
theorem e_isnil_lit (neg : Bool) (cs : List GV) : hisnil neg (.lit cs) = some (.bool neg) := rfl
theorem e_isnil_own (neg : Bool) (b o l : Nat) : hisnil neg (.own b o l) = if 0 < l then some (.bool neg) else none := rfl
def hbd : GV → Option Nat
  | .int _ i => if 0 ≤ i then some i.toNat else none
  | _ => none
def gbd (t : List GV) : Option GX → Nat → Option Nat
  | none, d => some d
  | some x, _ => hbd (gev t x)
def hso (b o n : Nat) : Option Nat → Option Nat → Option Nat → Option GV
  | some l, some h, some m => if l ≤ h ∧ h ≤ m ∧ m ≤ n then some (.own b (o + l) (h - l)) else none
  | _, _, _ => none
def hss (n : Nat) (cs : List GV) : Option Nat → Option Nat → Option Nat → Option GV
  | some l, some h, some m => if l ≤ h ∧ h ≤ m ∧ m ≤ n ∧ cs.length = n then some (.sl (h - l) ((cs.drop l).take (h - l))) else none
  | _, _, _ => none
def hsn : Option Nat → Option Nat → Option Nat → Option GV
  | some l, some h, some m => if l = 0 ∧ h = 0 ∧ m = 0 then some .nil else none
  | _, _, _ => none
def hsl : GV → (Nat → Option Nat) → (Nat → Option Nat) → (Nat → Option Nat) → Option GV
  | .nil, l, h, m => hsn (l 0) (h 0) (m 0)
  | .sl n cs, l, h, m => hss n cs (l 0) (h n) (m n)
  | .own b o n, l, h, m => hso b o n (l 0) (h n) (m n)
  | _, _, _, _ => none
theorem gbd_eq (d : Nat) (t : List GV) (o : Option GX) : gbound d t o = gbd t o d := by
  cases o with
  | none => rfl
  | some x => simp only [gbound, gbd]; generalize gev t x = v; cases v <;> rfl
theorem e_slice (lo hi mx : Option GX) : gop P t H n q (.slice x lo hi mx) = hopt q H n (hsl (gev t x) (gbd t lo) (gbd t hi) (gbd t mx)) := by
  refine e_pure (fun _ => rfl) ?_
  simp only [gpure, gbd_eq]
  generalize gev t x = v
  cases v with
  | nil =>
    simp only [hsl]
    generalize gbd t lo 0 = a; generalize gbd t hi 0 = b; generalize gbd t mx 0 = c
    cases a <;> cases b <;> cases c <;> simp [hsn]
  | sl l cs =>
    simp only [hsl]
    generalize gbd t lo 0 = a; generalize gbd t hi l = b; generalize gbd t mx l = c
    cases a <;> cases b <;> cases c <;> rfl
  | own b o l =>
    simp only [hsl]
    generalize gbd t lo 0 = a; generalize gbd t hi l = b; generalize gbd t mx l = c
    cases a <;> cases b <;> cases c <;> rfl
  | _ => rfl
theorem e_bd_none (t : List GV) (d : Nat) : gbd t none d = some d := rfl
theorem e_bd_some (t : List GV) (d : Nat) : gbd t (some x) d = hbd (gev t x) := rfl
theorem e_hbd (kd : IntKind) (i : Int) : hbd (.int kd i) = if 0 ≤ i then some i.toNat else none := rfl
theorem e_sl_nil (l h m : Nat → Option Nat) : hsl .nil l h m = hsn (l 0) (h 0) (m 0) := rfl
theorem e_sl_sl (l h m : Nat → Option Nat) (c : Nat) (cs : List GV) : hsl (.sl c cs) l h m = hss c cs (l 0) (h c) (m c) := rfl
theorem e_sl_own (l h m : Nat → Option Nat) (b o c : Nat) : hsl (.own b o c) l h m = hso b o c (l 0) (h c) (m c) := rfl
theorem e_hso (b o c l h m : Nat) : hso b o c (some l) (some h) (some m) = if l ≤ h ∧ h ≤ m ∧ m ≤ c then some (.own b (o + l) (h - l)) else none := rfl
theorem e_hss (c : Nat) (cs : List GV) (l h m : Nat) : hss c cs (some l) (some h) (some m) = if l ≤ h ∧ h ≤ m ∧ m ≤ c ∧ cs.length = c then some (.sl (h - l) ((cs.drop l).take (h - l))) else none := rfl
theorem e_hsn (l h m : Nat) : hsn (some l) (some h) (some m) = if l = 0 ∧ h = 0 ∧ m = 0 then some .nil else none := rfl

/-- reading, writing, making -/
def hcell (q : Kn) (Hr H : Heap) (n : Nat) (mo : Option Nat) : GV → Prop
  | .ptr b o => (match Hr b with
    | some cs => (match mo with
      | none => o < cs.length ∧ q (gat cs o) H n
      | some m => o + m ≤ cs.length ∧ q (.agg ((cs.drop o).take m)) H n)
    | none => False)
  | .pp cs o => (match mo with
      | none => o < cs.length ∧ q (gat cs o) H n
      | some m => o + m ≤ cs.length ∧ q (.agg ((cs.drop o).take m)) H n)
  | _ => False
theorem e_load (mo : Option Nat) : gop P t H n q (.load mo x) = hcell q H H n mo (gev t x) := by
  cases mo <;> (simp only [gop]; generalize gev t x = v; cases v <;> rfl)
def hcl (q : Kn) (H : Heap) (n : Nat) (mo : Option Nat) (o : Nat) : Option (List GV) → Prop
  | some cs => (match mo with
      | none => o < cs.length ∧ q (gat cs o) H n
      | some m => o + m ≤ cs.length ∧ q (.agg ((cs.drop o).take m)) H n)
  | none => False
theorem e_cell_ptr {Hr : Heap} (mo : Option Nat) (b o : Nat) : hcell q Hr H n mo (.ptr b o) = hcl q H n mo o (Hr b) := by
  simp only [hcell]; generalize Hr b = c; cases c <;> rfl
theorem e_cl1 (o : Nat) (cs : List GV) : hcl q H n none o (some cs) = (o < cs.length ∧ q (gat cs o) H n) := rfl
theorem e_clm (o m : Nat) (cs : List GV) : hcl q H n (some m) o (some cs) = (o + m ≤ cs.length ∧ q (.agg ((cs.drop o).take m)) H n) := rfl
theorem e_cell_pp {Hr : Heap} (cs : List GV) (o : Nat) : hcell q Hr H n none (.pp cs o) = (o < cs.length ∧ q (gat cs o) H n) := rfl
theorem e_cells_pp {Hr : Heap} (cs : List GV) (o m : Nat) : hcell q Hr H n (some m) (.pp cs o) = (o + m ≤ cs.length ∧ q (.agg ((cs.drop o).take m)) H n) := rfl
def hstore (q : Kn) (H : Heap) (n m : Nat) : GV → Option (List GV) → Prop
  | .ptr b o, some vs => (match H b with
    | some cs => vs.length = m ∧ vs.all isCell = true ∧ o + m ≤ cs.length ∧ q .undef (upd H b (some (setL cs o vs))) n
    | none => False)
  | _, _ => False
theorem e_store : gop P t H n q (.store m x y) = hstore q H n m (gev t x) (gcells (gev t y)) := by
  simp only [gop]; generalize gev t x = v; generalize gcells (gev t y) = w
  unfold hstore; cases v <;> cases w <;> rfl
def hstp (q : Kn) (H : Heap) (n m b o : Nat) (vs : List GV) : Option (List GV) → Prop
  | some cs => vs.length = m ∧ vs.all isCell = true ∧ o + m ≤ cs.length ∧ q .undef (upd H b (some (setL cs o vs))) n
  | none => False
theorem e_store_ptr (b o : Nat) (vs : List GV) : hstore q H n m (.ptr b o) (some vs) = hstp q H n m b o vs (H b) := by
  simp only [hstore]; generalize H b = c; cases c <;> rfl
theorem e_stp (b o : Nat) (vs cs : List GV) : hstp q H n m b o vs (some cs) = (vs.length = m ∧ vs.all isCell = true ∧ o + m ≤ cs.length ∧ q .undef (upd H b (some (setL cs o vs))) n) := rfl
def hbox (q : Kn) (H : Heap) (n : Nat) : Option (List GV) → Prop
  | some vs => q (.ptr n 0) (upd H n (some vs)) (n + 1)
  | none => False
theorem e_box : gop P t H n q (.box x) = hbox q H n (gcells (gev t x)) := by
  simp only [gop]; generalize gcells (gev t x) = w; cases w <;> rfl
theorem e_box_some (vs : List GV) : hbox q H n (some vs) = q (.ptr n 0) (upd H n (some vs)) (n + 1) := rfl
theorem e_alloc (cs : List GV) : gop P t H n q (.alloc cs) = q (.ptr n 0) (upd H n (some cs)) (n + 1) := rfl
theorem e_empty : gop P t H n q .empty = q .emp H n := rfl
def hbs (q : Kn) (H : Heap) (n m : Nat) : Option (List GV) → Prop
  | some cs => m ≤ cs.length ∧ q (.own n 0 m) (upd H n (some cs)) (n + 1)
  | none => False
theorem e_bslice (cells : List GV) (parts : List (Nat × Nat × GX)) : gop P t H n q (.bslice m cells parts) = hbs q H n m (gfill t cells parts) := by
  simp only [gop]; generalize gfill t cells parts = w; cases w <;> rfl
theorem e_bs_some (cs : List GV) : hbs q H n m (some cs) = (m ≤ cs.length ∧ q (.own n 0 m) (upd H n (some cs)) (n + 1)) := rfl
def hbl (q : Kn) (H : Heap) (n : Nat) : Option (List GV) → Prop
  | some cs => q (.lit cs) H n
  | none => False
theorem e_blit (cells : List GV) (parts : List (Nat × Nat × GX)) : gop P t H n q (.blit cells parts) = hbl q H n (gfill t cells parts) := by
  simp only [gop]; generalize gfill t cells parts = w; cases w <;> rfl
theorem e_bl_some (cs : List GV) : hbl q H n (some cs) = q (.lit cs) H n := rfl
def hms (q : Kn) (H : Heap) (n : Nat) (zv : GV) (bytes : Nat) : GV → GV → Prop
  | .int .i64 a, .int .i64 b => 0 ≤ a ∧ a = b ∧ a * bytes ≤ 281474976710656 ∧ 0 < bytes ∧ q (.own n 0 a.toNat) (upd H n (some (List.replicate a.toNat zv))) (n + 1)
  | _, _ => False
theorem e_mslice (zv : GV) (bytes : Nat) : gop P t H n q (.mslice zv bytes x y) = hms q H n zv bytes (gev t x) (gev t y) := by
  simp only [gop]; generalize gev t x = v; generalize gev t y = w; unfold hms
  cases v <;> cases w <;> first | rfl | (rename_i k1 a k2 b; cases k1 <;> cases k2 <;> rfl)
theorem e_ms_int (zv : GV) (bytes : Nat) (a b : Int) : hms q H n zv bytes (.int .i64 a) (.int .i64 b) = (0 ≤ a ∧ a = b ∧ a * bytes ≤ 281474976710656 ∧ 0 < bytes ∧ q (.own n 0 a.toNat) (upd H n (some (List.replicate a.toNat zv))) (n + 1)) := rfl
def happ (q : Kn) (H : Heap) (n bytes : Nat) : GV → Option (List GV) → Prop
  | .nil, some ys => ys.length * bytes ≤ 140737488355328 ∧ q (.own n 0 ys.length) (upd H n (some ys)) (n + 1)
  | .emp, some ys => ys.length * bytes ≤ 140737488355328 ∧ q (.own n 0 ys.length) (upd H n (some ys)) (n + 1)
  | .lit cs, some ys => ys ≠ [] ∧ (cs.length + ys.length) * bytes ≤ 140737488355328 ∧ q (.own n 0 (cs.length + ys.length)) (upd H n (some (cs ++ ys))) (n + 1)
  | .own b 0 m, some ys => (match H b with
        | some cs => cs.length = m ∧ ys.all isCell = true ∧ (m + ys.length) * bytes ≤ 140737488355328 ∧ q (.own n 0 (m + ys.length)) (upd (upd H b none) n (some (cs ++ ys))) (n + 1)
        | none => False)
  | _, _ => False
theorem e_append (bytes : Nat) : gop P t H n q (.append bytes x y) = happ q H n bytes (gev t x) (gelems H (gev t y)) := by
  simp only [gop]; generalize gev t x = v; generalize gelems H (gev t y) = w
  unfold happ
  cases w <;> cases v <;> first | rfl | (rename_i b o l; cases o <;> rfl)
theorem e_app_nil (bytes : Nat) (ys : List GV) : happ q H n bytes .nil (some ys) = (ys.length * bytes ≤ 140737488355328 ∧ q (.own n 0 ys.length) (upd H n (some ys)) (n + 1)) := rfl
theorem e_app_emp (bytes : Nat) (ys : List GV) : happ q H n bytes .emp (some ys) = (ys.length * bytes ≤ 140737488355328 ∧ q (.own n 0 ys.length) (upd H n (some ys)) (n + 1)) := rfl
def happo (q : Kn) (H : Heap) (n bytes b m : Nat) (ys : List GV) : Option (List GV) → Prop
  | some cs => cs.length = m ∧ ys.all isCell = true ∧ (m + ys.length) * bytes ≤ 140737488355328 ∧ q (.own n 0 (m + ys.length)) (upd (upd H b none) n (some (cs ++ ys))) (n + 1)
  | none => False
theorem e_app_own (bytes b : Nat) (ys : List GV) : happ q H n bytes (.own b 0 m) (some ys) = happo q H n bytes b m ys (H b) := by
  simp only [happ]; generalize H b = c; cases c <;> rfl
theorem e_appo (bytes b : Nat) (ys cs : List GV) : happo q H n bytes b m ys (some cs) = (cs.length = m ∧ ys.all isCell = true ∧ (m + ys.length) * bytes ≤ 140737488355328 ∧ q (.own n 0 (m + ys.length)) (upd (upd H b none) n (some (cs ++ ys))) (n + 1)) := rfl
theorem e_app_lit (bytes : Nat) (cs ys : List GV) : happ q H n bytes (.lit cs) (some ys) = (ys ≠ [] ∧ (cs.length + ys.length) * bytes ≤ 140737488355328 ∧ q (.own n 0 (cs.length + ys.length)) (upd H n (some (cs ++ ys))) (n + 1)) := rfl
def happp (q : Kn) (H : Heap) (n bytes : Nat) : GV → Option (List GV) → Option (List GV) → Prop
  | .nil, some _, some ys => ys.length * bytes ≤ 140737488355328 ∧ q (.sl ys.length ys) H n
  | .emp, some _, some ys => ys.length * bytes ≤ 140737488355328 ∧ q (.sl ys.length ys) H n
  | .lit _, some cs, some ys => (cs.length + ys.length) * bytes ≤ 140737488355328 ∧ q (.sl (cs.length + ys.length) (cs ++ ys)) H n
  | _, _, _ => False
theorem e_appendp (bytes : Nat) : gop P t H n q (.appendp bytes x y) = happp q H n bytes (gev t x) (gelems H (gev t x)) (gelems H (gev t y)) := by
  simp only [gop]; generalize gelems H (gev t x) = u; generalize gev t x = v; generalize gelems H (gev t y) = w
  unfold happp
  cases u <;> cases w <;> cases v <;> rfl
theorem e_appp_nil (bytes : Nat) (ys zs : List GV) : happp q H n bytes .nil (some zs) (some ys) = (ys.length * bytes ≤ 140737488355328 ∧ q (.sl ys.length ys) H n) := rfl
theorem e_appp_emp (bytes : Nat) (ys zs : List GV) : happp q H n bytes .emp (some zs) (some ys) = (ys.length * bytes ≤ 140737488355328 ∧ q (.sl ys.length ys) H n) := rfl
theorem e_appp_lit (bytes : Nat) (cs zs ys : List GV) : happp q H n bytes (.lit cs) (some zs) (some ys) = ((zs.length + ys.length) * bytes ≤ 140737488355328 ∧ q (.sl (zs.length + ys.length) (zs ++ ys)) H n) := rfl
def hcopy (q : Kn) (H : Heap) (n : Nat) : GV → Option (List GV) → Prop
  | .own b o m, some ys => (match H b with
      | some cs => o + m ≤ cs.length ∧ ys.all isCell = true ∧ q (.int .i64 (min ys.length m : Nat)) (upd H b (some (setL cs o (ys.take (min ys.length m))))) n
      | none => False)
  | _, _ => False
theorem e_copy : gop P t H n q (.copy x y) = hcopy q H n (gev t x) (gelems H (gev t y)) := by
  simp only [gop]; generalize gev t x = v; generalize gelems H (gev t y) = w; unfold hcopy; cases v <;> cases w <;> rfl
def hcpo (q : Kn) (H : Heap) (n b o m : Nat) (ys : List GV) : Option (List GV) → Prop
  | some cs => o + m ≤ cs.length ∧ ys.all isCell = true ∧ q (.int .i64 (min ys.length m : Nat)) (upd H b (some (setL cs o (ys.take (min ys.length m))))) n
  | none => False
theorem e_copy_own (b o : Nat) (ys : List GV) : hcopy q H n (.own b o m) (some ys) = hcpo q H n b o m ys (H b) := by
  simp only [hcopy]; generalize H b = c; cases c <;> rfl
theorem e_cpo (b o : Nat) (cs ys : List GV) : hcpo q H n b o m ys (some cs) = (o + m ≤ cs.length ∧ ys.all isCell = true ∧ q (.int .i64 (min ys.length m : Nat)) (upd H b (some (setL cs o (ys.take (min ys.length m))))) n) := rfl
def hcall (P : Program) (f : FuncId) (args : List GV) (q : Kn) (H : Heap) (n : Nat) : Prop := ∃ g H' n', Spec P f args H n g H' n' ∧ q g H' n'
theorem e_call (f : FuncId) (args : List GX) : gop P t H n q (.call f args) = hcall P f (args.map (gev t)) q H n := rfl
theorem call_of {f : FuncId} {args : List GV} {H' : Heap} {n' : Nat} (hs : Spec P f args H n g H' n') (hq : q g H' n') : hcall P f args q H n := ⟨g, H', n', hs, hq⟩
theorem e_callv {f : FuncId} {caps : List GV} (args : List GX) (h : gev t x = .fn f caps) (hf : okFn P f = true) : gop P t H n q (.callv x args) = hcall P f (args.map (gev t) ++ caps) q H n := by
  simp only [gop, h, hf, hcall, true_and]
def hgel (o m : Nat) : Option (List GV) → Option (List GV)
  | some cs => if o + m ≤ cs.length then some ((cs.drop o).take m) else none
  | none => none
theorem e_gel_nil : gelems H .nil = some [] := rfl
theorem e_gel_emp : gelems H .emp = some [] := rfl
theorem e_gel_lit (cs : List GV) : gelems H (.lit cs) = some cs := rfl
theorem e_gel_sl (m : Nat) (cs : List GV) : gelems H (.sl m cs) = if cs.length = m then some cs else none := rfl
theorem e_gel_own (b o m : Nat) : gelems H (.own b o m) = hgel o m (H b) := by
  simp only [gelems]; generalize H b = c; cases c <;> rfl
theorem e_hgel (o m : Nat) (cs : List GV) : hgel o m (some cs) = if o + m ≤ cs.length then some ((cs.drop o).take m) else none := rfl
def hfl (t : List GV) (cs : List GV) (off size : Nat) (rest : List (Nat × Nat × GX)) : Option (List GV) → Option (List GV)
  | some vs => if vs.length = size ∧ off + size ≤ cs.length then gfill t (setL cs off vs) rest else none
  | none => none
theorem e_fill_nil (cs : List GV) : gfill t cs [] = some cs := rfl
theorem e_fill (cs : List GV) (off size : Nat) (rest : List (Nat × Nat × GX)) : gfill t cs ((off, size, x) :: rest) = hfl t cs off size rest (gcells (gev t x)) := by
  simp only [gfill]; generalize gcells (gev t x) = c; cases c <;> rfl
theorem e_hfl (cs vs : List GV) (off size : Nat) (rest : List (Nat × Nat × GX)) : hfl t cs off size rest (some vs) = if vs.length = size ∧ off + size ≤ cs.length then gfill t (setL cs off vs) rest else none := rfl
theorem gat_0 (a : GV) (l : List GV) : gat (a :: l) 0 = a := rfl
theorem gat_1 (a b : GV) (l : List GV) : gat (a :: b :: l) 1 = b := rfl
theorem gat_2 (a b c : GV) (l : List GV) : gat (a :: b :: c :: l) 2 = c := rfl
theorem gat_3 (a b c d : GV) (l : List GV) : gat (a :: b :: c :: d :: l) 3 = d := rfl
theorem gat_4 (a b c d e : GV) (l : List GV) : gat (a :: b :: c :: d :: e :: l) 4 = e := rfl
theorem gat_5 (a b c d e f : GV) (l : List GV) : gat (a :: b :: c :: d :: e :: f :: l) 5 = f := rfl
theorem gat_6 (a b c d e f g : GV) (l : List GV) : gat (a :: b :: c :: d :: e :: f :: g :: l) 6 = g := rfl
theorem gat_7 (a b c d e f g h : GV) (l : List GV) : gat (a :: b :: c :: d :: e :: f :: g :: h :: l) 7 = h := rfl
theorem gat_8 (a b c d e f g h i : GV) (l : List GV) : gat (a :: b :: c :: d :: e :: f :: g :: h :: i :: l) 8 = i := rfl
theorem gat_9 (a b c d e f g h i j : GV) (l : List GV) : gat (a :: b :: c :: d :: e :: f :: g :: h :: i :: j :: l) 9 = j := rfl
theorem gat_10 (a b c d e f g h i j k : GV) (l : List GV) : gat (a :: b :: c :: d :: e :: f :: g :: h :: i :: j :: k :: l) 10 = k := rfl
theorem gat_11 (a b c d e f g h i j k m : GV) (l : List GV) : gat (a :: b :: c :: d :: e :: f :: g :: h :: i :: j :: k :: m :: l) 11 = m := rfl
theorem upd_n1 (c : Option (List GV)) (i : Nat) : upd H (n + (i + 1)) c n = H n := upd_ne _ _ (by omega)
theorem upd_1n (c : Option (List GV)) (i : Nat) : upd H n c (n + (i + 1)) = H (n + (i + 1)) := upd_ne _ _ (by omega)
theorem ns12 : n + 1 + 2 = n + 3 := by omega
theorem ns13 : n + 1 + 3 = n + 4 := by omega
theorem ns14 : n + 1 + 4 = n + 5 := by omega
theorem ns15 : n + 1 + 5 = n + 6 := by omega
theorem ns22 : n + 2 + 2 = n + 4 := by omega
theorem ns23 : n + 2 + 3 = n + 5 := by omega
theorem ns24 : n + 2 + 4 = n + 6 := by omega
theorem ns25 : n + 2 + 5 = n + 7 := by omega
theorem ns32 : n + 3 + 2 = n + 5 := by omega
theorem ns33 : n + 3 + 3 = n + 6 := by omega
theorem ns34 : n + 3 + 4 = n + 7 := by omega
theorem ns35 : n + 3 + 5 = n + 8 := by omega
theorem ns42 : n + 4 + 2 = n + 6 := by omega
theorem ns43 : n + 4 + 3 = n + 7 := by omega
theorem ns44 : n + 4 + 4 = n + 8 := by omega
theorem ns45 : n + 4 + 5 = n + 9 := by omega
theorem ns52 : n + 5 + 2 = n + 7 := by omega
theorem ns53 : n + 5 + 3 = n + 8 := by omega
theorem ns54 : n + 5 + 4 = n + 9 := by omega
theorem ns55 : n + 5 + 5 = n + 10 := by omega
theorem ns2 : n + 1 + 1 = n + 2 := rfl
theorem ns3 : n + 2 + 1 = n + 3 := rfl
theorem ns4 : n + 3 + 1 = n + 4 := rfl
theorem ns5 : n + 4 + 1 = n + 5 := rfl
theorem ns6 : n + 5 + 1 = n + 6 := rfl
theorem ns7 : n + 6 + 1 = n + 7 := rfl
theorem upd_lit (c : Option (List GV)) {a b : Nat} (h : (b == a) = false) : upd H (n + a) c (n + b) = H (n + b) := upd_ne _ _ (by
  have : b ≠ a := by simpa using h
  omega)
theorem upd_lt (c : Option (List GV)) {b : Nat} (h : b < n) : upd H n c b = H b := upd_ne _ _ (by omega)
theorem cell_int (k : IntKind) (i : Int) : isCell (.int k i) = true := rfl
theorem cell_bool (b : Bool) : isCell (.bool b) = true := rfl
theorem cell_sl (l : Nat) (cs : List GV) : isCell (.sl l cs) = true := rfl
theorem cell_own (b o l : Nat) : isCell (.own b o l) = true := rfl
theorem cell_nil : isCell .nil = true := rfl
theorem cell_emp : isCell .emp = true := rfl
theorem cell_lit (cs : List GV) : isCell (.lit cs) = true := rfl
theorem cell_ptr (b o : Nat) : isCell (.ptr b o) = true := rfl
theorem cell_pp (cs : List GV) (o : Nat) : isCell (.pp cs o) = true := rfl
theorem cell_nilp : isCell .nilp = true := rfl
theorem e_gc_int (kd : IntKind) (i : Int) : gcells (.int kd i) = some [.int kd i] := rfl
theorem e_gc_bool (b : Bool) : gcells (.bool b) = some [.bool b] := rfl
theorem e_gc_nil : gcells .nil = some [.nil] := rfl
theorem e_gc_emp : gcells .emp = some [.emp] := rfl
theorem e_gc_lit (cs : List GV) : gcells (.lit cs) = some [.lit cs] := rfl
theorem e_gc_sl (l : Nat) (cs : List GV) : gcells (.sl l cs) = some [.sl l cs] := rfl
theorem e_gc_own (b o l : Nat) : gcells (.own b o l) = some [.own b o l] := rfl
theorem e_gc_ptr (b o : Nat) : gcells (.ptr b o) = some [.ptr b o] := rfl
theorem e_gc_pp (cs : List GV) (o : Nat) : gcells (.pp cs o) = some [.pp cs o] := rfl
theorem e_gc_nilp : gcells .nilp = some [.nilp] := rfl
theorem e_gc_fn (f : FuncId) (cs : List GV) : gcells (.fn f cs) = some [.fn f cs] := rfl
theorem e_gc_agg (cs : List GV) : gcells (.agg cs) = some cs := rfl
end
end Go.Proofs.Ytdpibcniodhinaa.Gh
/- What a function leaves may be told anew: blocks that nobody needs are forgotten, blocks that nobody writes to any more are read-only, the others get the next names. -/
namespace Go.Proofs.Ytdpibcniodhinaa.Gh
open Go Go.RowKit
set_option linter.unusedVariables false
set_option linter.unusedSimpArgs false

inductive Tr (H : Heap) (n n' : Nat) (κ : Nat → Nat) : GV → GV → Prop
  | int (k : IntKind) (i : Int) : Tr H n n' κ (.int k i) (.int k i)
  | bool (b : Bool) : Tr H n n' κ (.bool b) (.bool b)
  | nil : Tr H n n' κ .nil .nil
  | nilsl : Tr H n n' κ .nil (.sl 0 [])
  | emp : Tr H n n' κ .emp .emp
  | nilp : Tr H n n' κ .nilp .nilp
  | undef (g : GV) : Tr H n n' κ g .undef
  | lit (cs cs' : List GV) : cs'.length = cs.length → (∀ j, j < cs.length → Tr H n n' κ (gat cs j) (gat cs' j)) → Tr H n n' κ (.lit cs) (.lit cs')
  | sl (m : Nat) (cs cs' : List GV) : cs'.length = cs.length → (∀ j, j < cs.length → Tr H n n' κ (gat cs j) (gat cs' j)) → Tr H n n' κ (.sl m cs) (.sl m cs')
  | pp (cs cs' : List GV) (o : Nat) : cs'.length = cs.length → (∀ j, j < cs.length → Tr H n n' κ (gat cs j) (gat cs' j)) → Tr H n n' κ (.pp cs o) (.pp cs' o)
  | agg (cs cs' : List GV) : cs'.length = cs.length → (∀ j, j < cs.length → Tr H n n' κ (gat cs j) (gat cs' j)) → Tr H n n' κ (.agg cs) (.agg cs')
  | tup (cs cs' : List GV) : cs'.length = cs.length → (∀ j, j < cs.length → Tr H n n' κ (gat cs j) (gat cs' j)) → Tr H n n' κ (.tup cs) (.tup cs')
  | fn (f : FuncId) (cs cs' : List GV) : cs'.length = cs.length → (∀ j, j < cs.length → Tr H n n' κ (gat cs j) (gat cs' j)) → Tr H n n' κ (.fn f cs) (.fn f cs')
  | own (b o m : Nat) : b < n → Tr H n n' κ (.own b o m) (.own b o m)
  | ownk (i o m : Nat) : n ≤ i → i < n' → H (κ i) ≠ none → Tr H n n' κ (.own (κ i) o m) (.own i o m)
  | ownf (b o m : Nat) (cs cs' : List GV) : H b = some cs → n ≤ b → (∀ i, n ≤ i → i < n' → κ i ≠ b) → o + m ≤ cs.length → cs'.length = m → (∀ j, j < m → Tr H n n' κ (gat cs (o + j)) (gat cs' j)) → Tr H n n' κ (.own b o m) (.sl m cs')
  | ptr (b o : Nat) : b < n → Tr H n n' κ (.ptr b o) (.ptr b o)
  | ptrk (i o : Nat) : n ≤ i → i < n' → H (κ i) ≠ none → Tr H n n' κ (.ptr (κ i) o) (.ptr i o)
  | ptrf (b o : Nat) (cs cs' : List GV) : H b = some cs → n ≤ b → (∀ i, n ≤ i → i < n' → κ i ≠ b) → 0 < cs.length → cs'.length = cs.length → (∀ j, j < cs.length → Tr H n n' κ (gat cs j) (gat cs' j)) → Tr H n n' κ (.ptr b o) (.pp cs' o)

def Trs (H : Heap) (n n' : Nat) (κ : Nat → Nat) (cs cs' : List GV) : Prop := cs'.length = cs.length ∧ ∀ j, j < cs.length → Tr H n n' κ (gat cs j) (gat cs' j)

/-- what leads to old names alone stays as it is -/
theorem Sc.tr {H0 H : Heap} {n n' : Nat} {κ : Nat → Nat} (hF : Fr H0 n) {g : GV} (h : Sc H0 n g) : Tr H n n' κ g g := by
  have low : ∀ b, H0 b ≠ none ∨ b < n → b < n := by
    intro b hb
    rcases hb with hb | hb
    · rcases Nat.lt_or_ge b n with h | h
      · exact h
      · exact absurd (hF b h) hb
    · exact hb
  induction h with
  | int k i => exact .int k i
  | bool b => exact .bool b
  | nil => exact .nil
  | emp => exact .emp
  | lit cs _ ih => exact .lit cs cs rfl ih
  | sl m cs _ ih => exact .sl m cs cs rfl ih
  | own b o m hb => exact .own b o m (low b hb)
  | ptr b o hb => exact .ptr b o (low b hb)
  | pp cs o _ ih => exact .pp cs cs o rfl ih
  | nilp => exact .nilp
  | agg cs _ ih => exact .agg cs cs rfl ih
  | tup cs _ ih => exact .tup cs cs rfl ih
  | fn f cs _ ih => exact .fn f cs cs rfl ih
  | undef => exact .undef _

/-- the new telling -/
structure Told (H : Heap) (n n' : Nat) (κ : Nat → Nat) (H' : Heap) : Prop where
  le : n ≤ n'
  old : ∀ b, b < n → (H b = none → H' b = none) ∧ ∀ cs, H b = some cs → ∃ cs', H' b = some cs' ∧ Trs H n n' κ cs cs'
  new : ∀ i, n ≤ i → i < n' → ∃ cs cs', H (κ i) = some cs ∧ n ≤ κ i ∧ H' i = some cs' ∧ Trs H n n' κ cs cs'
  inj : ∀ i j, n ≤ i → i < n' → n ≤ j → j < n' → κ i = κ j → i = j
  fr : Fr H' n'

def told (K : Kr) (n n' : Nat) (κ : Nat → Nat) (H' : Heap) : Kr where
  σ b := if b < n then K.σ b else K.σ (κ b)
  sz b := if b < n then K.sz b else K.sz (κ b)
  H := H'
  lo := n'
  w := K.w
  S B := K.S B ∨ ∃ b, n ≤ b ∧ K.H b ≠ none ∧ 0 < K.sz b ∧ (∀ i, n ≤ i → i < n' → κ i ≠ b) ∧ B = K.σ b

section
variable {K : Kr} {n n' : Nat} {κ : Nat → Nat} {H' : Heap}
theorem told_VR (hs : Sat K) (T : Told K.H n n' κ H') {g g' : GV} (t : Tr K.H n n' κ g g') : ∀ {v : Value}, VR K g v → VR (told K n n' κ H') g' v := by
  have live : ∀ b, b < n → K.H b ≠ none → H' b ≠ none := by
    intro b hb h
    obtain ⟨cs, hc⟩ := Option.ne_none_iff_exists'.1 h
    obtain ⟨cs', h1, _⟩ := (T.old b hb).2 cs hc
    rw [h1]; simp
  have livek : ∀ i, n ≤ i → i < n' → H' i ≠ none := by
    intro i h1 h2
    obtain ⟨cs, cs', _, _, h, _⟩ := T.new i h1 h2
    rw [h]; simp
  have hσ : ∀ b, b < n → (told K n n' κ H').σ b = K.σ b := fun b hb => if_pos hb
  have hz : ∀ b, b < n → (told K n n' κ H').sz b = K.sz b := fun b hb => if_pos hb
  have hσk : ∀ b, n ≤ b → (told K n n' κ H').σ b = K.σ (κ b) := fun b hb => if_neg (by omega)
  have hzk : ∀ b, n ≤ b → (told K n n' κ H').sz b = K.sz (κ b) := fun b hb => if_neg (by omega)
  induction t with
  | int k i => intro v h; cases h; exact .int k i
  | bool b => intro v h; cases h; exact .bool b
  | nil => intro v h; cases h; exact .nil
  | nilsl => intro v h; cases h; exact .sl0 0 0 none (Nat.le_refl _)
  | emp => intro v h; cases h; exact .emp _
  | nilp => intro v h; cases h; exact .nilp
  | undef g => intro v h; exact .undef v
  | lit cs cs' hl _ ih =>
    intro v h
    cases h with
    | lit B o _ us h1 h2 h3 => rw [← hl]; exact .lit B o cs' us (.inl h1) (fun j hj => h2 j (by omega)) fun j hj => ih j (by omega) (h3 j (by omega))
  | sl m cs cs' hl _ ih =>
    intro v h
    cases h with
    | sl0 _ c A h1 =>
      have : cs' = [] := by simpa using hl
      subst this; exact .sl0 _ _ _ h1
    | sl _ c B o _ us h0 h1 h2 h3 => exact .sl m c B o cs' us h0 (.inl h1) (fun j hj => h2 j (by omega)) fun j hj => ih j (by omega) (h3 j (by omega))
  | pp cs cs' o hl _ ih =>
    intro v h
    cases h with
    | pp B p _ _ us h1 h2 h3 => exact .pp B p o cs' us (.inl h1) (fun j hj => h2 j (by omega)) fun j hj => ih j (by omega) (h3 j (by omega))
  | agg cs cs' hl _ ih =>
    intro v h
    cases h with
    | agg _ us h1 h3 => exact .agg cs' us (by omega) fun j hj => ih j (by omega) (h3 j (by omega))
  | tup cs cs' hl _ ih =>
    intro v h
    cases h with
    | tup _ us h1 h3 => exact .tup cs' us (by omega) fun j hj => ih j (by omega) (h3 j (by omega))
  | fn f cs cs' hl _ ih =>
    intro v h
    cases h with
    | fn _ _ us h1 h3 => exact .fn f cs' us (by omega) fun j hj => ih j (by omega) (h3 j (by omega))
  | own b o m hb =>
    intro v h
    cases h with
    | own _ _ _ c h1 h2 h3 => rw [← hσ b hb]; exact .own b o m c (live b hb h1) (by rw [hz b hb]; exact h2) h3
    | own0 _ _ A h1 => exact .own0 b o A (.inr (show b < n' by have := T.le; omega))
    | owns _ _ _ B c h1 h2 h3 => exact .owns b o m B c ((T.old b hb).1 h1) (show b < n' by have := T.le; omega) h3
  | ownk i o m h1 h2 hne =>
    intro v h
    cases h with
    | own _ _ _ c g1 g2 g3 => rw [← hσk i h1]; exact .own i o m c (livek i h1 h2) (by rw [hzk i h1]; exact g2) g3
    | own0 _ _ A g1 => exact .own0 i o A (.inl (livek i h1 h2))
    | owns _ _ _ B c g1 _ _ => exact absurd g1 hne
  | ownf b o m cs cs' hb hn hk hle hl _ ih =>
    intro v h
    cases h with
    | own _ _ _ c g1 g2 g3 =>
      rcases Nat.eq_zero_or_pos m with h0 | h0
      · subst h0
        have : cs' = [] := by simpa using hl
        subst this; exact .sl0 _ _ _ g3
      · have hz := hs.len b cs hb
        obtain ⟨row, T', q1, q2, q3, q4⟩ := hs.blk b cs hb (by omega)
        refine .sl m c _ o cs' (fun j => vat row (o + j)) g3 (.inr ⟨b, hn, by rw [hb]; simp, by omega, hk, rfl⟩) (fun j hj => ?_) fun j hj => ih j (by omega) (q3 _ (by omega))
        show K.w.cell? _ = _
        simp only [World.cell?, q1]
        have : o + j < row.size := by omega
        simp [vat, Array.getD, this]
    | own0 _ _ A g1 =>
      have : cs' = [] := by simpa using hl
      subst this; exact .sl0 _ _ _ (Nat.le_refl _)
    | owns _ _ _ B c g1 _ _ => rw [hb] at g1; cases g1
  | ptr b o hb =>
    intro v h
    cases h with
    | ptr _ _ h1 => rw [← hσ b hb]; exact .ptr b o (live b hb h1)
    | ptrs _ _ B h1 h2 => exact .ptrs b o B ((T.old b hb).1 h1) (show b < n' by have := T.le; omega)
  | ptrk i o h1 h2 hne =>
    intro v h
    cases h with
    | ptr _ _ g1 => rw [← hσk i h1]; exact .ptr i o (livek i h1 h2)
    | ptrs _ _ B g1 g2 => exact absurd g1 hne
  | ptrf b o cs cs' hb hn hk hpos hl _ ih =>
    intro v h
    cases h with
    | ptr _ _ g1 =>
      have hz := hs.len b cs hb
      obtain ⟨row, T', q1, q2, q3, q4⟩ := hs.blk b cs hb (by omega)
      have := VR.pp (K := told K n n' κ H') (K.σ b) 0 o cs' (fun j => vat row j) (.inr ⟨b, hn, g1, by omega, hk, rfl⟩) (fun j hj => ?_) fun j hj => ih j (by omega) (q3 _ (by omega))
      · rwa [Nat.zero_add] at this
      · show K.w.cell? _ = _
        simp only [World.cell?, q1]
        have : j < row.size := by omega
        simp [vat, Array.getD, this]
    | ptrs _ _ B g1 g2 => rw [hb] at g1; cases g1

theorem told_step {K0 : Kr} (h : KStep K0 K) (hlo : K0.lo = n) (hF : Fr K0.H n) (T : Told K.H n n' κ H') : KStep K0 (told K n n' κ H') where
  os := h.os
  tape := h.tape
  output := h.output
  size := h.size
  S B hb := .inl (h.S B hb)
  keep := h.keep
  lo := by rw [hlo]; exact T.le
  live b h1 h2 := by
    have hb : b < n := by
      rcases Nat.lt_or_ge b n with h | h
      · exact h
      · exact absurd (hF b h) h1
    have h3 : K.H b ≠ none := fun e => h2 ((T.old b hb).1 e)
    obtain ⟨a1, a2⟩ := h.live b h1 h3
    exact ⟨(if_pos hb).trans a1, (if_pos hb).trans a2⟩
  dies b h1 _ := by
    have hb : b < n := by
      rcases Nat.lt_or_ge b n with h | h
      · exact h
      · exact absurd (hF b h) h1
    exact Nat.lt_of_lt_of_le hb T.le
  dead b hb e := by
    rw [hlo] at hb
    exact (T.old b hb).1 (h.dead b (by rw [hlo]; exact hb) e)

theorem told_sat (hs : Sat K) (T : Told K.H n n' κ H') : Sat (told K n n' κ H') := by
  have hσ : ∀ b, b < n → (told K n n' κ H').σ b = K.σ b := fun b hb => if_pos hb
  have hz : ∀ b, b < n → (told K n n' κ H').sz b = K.sz b := fun b hb => if_pos hb
  have hσk : ∀ b, n ≤ b → (told K n n' κ H').σ b = K.σ (κ b) := fun b hb => if_neg (by omega)
  have hzk : ∀ b, n ≤ b → (told K n n' κ H').sz b = K.sz (κ b) := fun b hb => if_neg (by omega)
  -- each block comes from one
  have src : ∀ b cs', H' b = some cs' → ∃ c cs, K.H c = some cs ∧ Trs K.H n n' κ cs cs' ∧ (told K n n' κ H').σ b = K.σ c ∧ (told K n n' κ H').sz b = K.sz c ∧ ((b < n ∧ c = b) ∨ (n ≤ b ∧ b < n' ∧ c = κ b ∧ n ≤ κ b)) := by
    intro b cs' e
    rcases Nat.lt_or_ge b n with hb | hb
    · cases hc : K.H b with
      | none => rw [(T.old b hb).1 hc] at e; cases e
      | some cs =>
        obtain ⟨cs2, h1, h2⟩ := (T.old b hb).2 cs hc
        rw [h1] at e; simp only [Option.some.injEq] at e; subst e
        exact ⟨b, cs, hc, h2, hσ b hb, hz b hb, .inl ⟨hb, rfl⟩⟩
    · rcases Nat.lt_or_ge b n' with hb' | hb'
      · obtain ⟨cs, cs2, h1, h2, h3, h4⟩ := T.new b hb hb'
        rw [h3] at e; simp only [Option.some.injEq] at e; subst e
        exact ⟨κ b, cs, h1, h4, hσk b hb, hzk b hb, .inr ⟨hb, hb', rfl, h2⟩⟩
      · rw [T.fr b hb'] at e; cases e
  refine ⟨fun b cs' e => ?_, fun b cs' e hz0 => ?_, fun b b' h1 h2 hz1 hz2 e => ?_, fun B hB => ?_⟩
  · obtain ⟨c, cs, h1, h2, h3, h4, _⟩ := src b cs' e
    rw [h4, h2.1]; exact hs.len c cs h1
  · obtain ⟨c, cs, h1, h2, h3, h4, h5⟩ := src b cs' e
    rw [h4] at hz0
    obtain ⟨row, T', q1, q2, q3, q4⟩ := hs.blk c cs h1 hz0
    refine ⟨row, T', by rw [h3]; exact q1, by rw [h4]; exact q2, fun j hj => told_VR hs T (h2.2 j (by have := h2.1; omega)) (q3 j (by have := h2.1; omega)), ?_⟩
    rw [h3]
    rintro (hS | ⟨b2, g1, g2, g3, g4, g5⟩)
    · exact q4 hS
    · have := hs.inj c b2 (by rw [h1]; simp) g2 hz0 g3 g5
      subst this
      rcases h5 with ⟨h6, h7⟩ | ⟨h6, h7, h8, h9⟩
      · omega
      · exact g4 b h6 h7 h8.symm
  · obtain ⟨c1, e1⟩ := Option.ne_none_iff_exists'.1 h1
    obtain ⟨c2, e2⟩ := Option.ne_none_iff_exists'.1 h2
    obtain ⟨c, cs, p1, p2, p3, p4, p5⟩ := src b c1 e1
    obtain ⟨c', cs2, r1, r2, r3, r4, r5⟩ := src b' c2 e2
    rw [p4] at hz1; rw [r4] at hz2; rw [p3, r3] at e
    have := hs.inj c c' (by rw [p1]; simp) (by rw [r1]; simp) hz1 hz2 e
    subst this
    rcases p5 with ⟨h6, h7⟩ | ⟨h6, h7, h8, h9⟩
    · rcases r5 with ⟨g6, g7⟩ | ⟨g6, g7, g8, g9⟩
      · omega
      · omega
    · rcases r5 with ⟨g6, g7⟩ | ⟨g6, g7, g8, g9⟩
      · omega
      · exact T.inj b b' h6 h7 g6 g7 (by rw [← h8, ← g8])
  · rcases hB with hS | ⟨b, g1, g2, g3, g4, g5⟩
    · exact hs.sS B hS
    · obtain ⟨cs, e⟩ := Option.ne_none_iff_exists'.1 g2
      rw [g5]; exact alive_lt hs e g3
end

/-- what a body leaves, told anew -/
def GFun.told (F : GFun) (H : Heap) (n : Nat) (g : GV) (H' : Heap) (n' : Nat) : GPost := fun e t H1 n1 => match e with
  | .exit _ => False
  | _ => ∃ g1 κ, gretv t H1 F.res = some g1 ∧ Tr H1 n n' κ g1 g ∧ n ≤ n' ∧ Fr H' n' ∧ (∀ i j, n ≤ i → i < n' → n ≤ j → j < n' → κ i = κ j → i = j) ∧
      (∀ b, b < n → (H1 b = H b ∧ H' b = H b) ∨ ((H1 b = none ∧ H' b = none) ∨ ∃ cs cs', H1 b = some cs ∧ H' b = some cs' ∧ Trs H1 n n' κ cs cs')) ∧
      (∀ i, n ≤ i → i < n' → ∃ cs cs', H1 (κ i) = some cs ∧ n ≤ κ i ∧ H' i = some cs' ∧ Trs H1 n n' κ cs cs')

theorem spec_told {P : Program} (hm : P.follows .mixedOrders = true) {f : FuncId} {F : GFun} (hok : okFun P f F = true) {args : List GV} (ha : args.length = F.np) {H : Heap} {n : Nat} {g : GV} {H' : Heap} {n' : Nat}
    (hg : Fr H n → gw P F.body (F.told H n g H' n') (tl F.nt (mkE 0 args)) H n) : Spec P f args H n g H' n' := by
  intro K vs e1 e2 hF hs hv
  subst e1 e2
  have hg := hg hF
  unfold okFun at hok
  split at hok
  · rename_i fn hfn
    split at hok
    · rename_i c hc
      simp only [Bool.and_eq_true, beq_iff_eq, decide_eq_true_eq] at hok
      obtain ⟨⟨⟨h1, h2⟩, h3⟩, h4⟩ := hok
      rw [← args_tl ha h4] at hg
      refine calls_of_wp hfn hc ?_
      rw [h3, show vs.size = F.np from by rw [hv.1, ha]]
      refine gw_sound hm F.body c _ _ K _ _ h1 hs hF (by have := hv.tr (F.nt - F.np); exact this) hg fun e t' K' a' q1 q2 q3 q4 q5 q6 => ?_
      have fin : (∃ g1 κ, gretv t' K'.H F.res = some g1 ∧ Tr K'.H K.lo n' κ g1 g ∧ K.lo ≤ n' ∧ Fr H' n' ∧ (∀ i j, K.lo ≤ i → i < n' → K.lo ≤ j → j < n' → κ i = κ j → i = j) ∧
          (∀ b, b < K.lo → (K'.H b = K.H b ∧ H' b = K.H b) ∨ ((K'.H b = none ∧ H' b = none) ∨ ∃ cs cs', K'.H b = some cs ∧ H' b = some cs' ∧ Trs K'.H K.lo n' κ cs cs')) ∧
          (∀ i, K.lo ≤ i → i < n' → ∃ cs cs', K'.H (κ i) = some cs ∧ K.lo ≤ κ i ∧ H' i = some cs' ∧ Trs K'.H K.lo n' κ cs cs')) →
          a'.defers = [] ∧ ∃ v, (results fn a'.tmps).run P K'.w = .ok v K'.w ∧ ∃ v1 K1, Ending.returned v = .returned v1 ∧ K1.w = K'.w ∧ KStep K K1 ∧ K1.H = H' ∧ K1.lo = n' ∧ Fr H' n' ∧ Sat K1 ∧ VR K1 g v1 := by
        rintro ⟨g1, κ, p1, p2, p3, p4, p5, p6, p7⟩
        obtain ⟨v, r1, r2⟩ := results_sound q4 q5 h2 p1
        have T : Told K'.H K.lo n' κ H' := by
          refine ⟨p3, fun b hb => ?_, p7, p5, p4⟩
          rcases p6 b hb with ⟨z1, z2⟩ | ⟨z1, z2⟩ | ⟨cs, cs', z1, z2, z3⟩
          · refine ⟨fun e => by rw [z2, ← z1]; exact e, fun cs e => ⟨cs, by rw [z2, ← z1]; exact e, rfl, fun j hj => ?_⟩⟩
            rw [z1] at e
            have hz := hs.len b cs e
            obtain ⟨row, T', y1, y2, y3, y4⟩ := hs.blk b cs e (by omega)
            exact (y3 j hj).sc.tr hF
          · exact ⟨fun _ => z2, fun cs e => by rw [z1] at e; cases e⟩
          · exact ⟨fun e => (by rw [z1] at e; cases e), fun cs2 e => by
              rw [z1] at e; simp only [Option.some.injEq] at e; subst e
              exact ⟨cs', z2, z3⟩⟩
        exact ⟨q6, v, r1, v, Gh.told K' K.lo n' κ H', rfl, rfl, told_step q2 rfl hF T, rfl, rfl, p4, told_sat q4 T, told_VR q4 T p2 r2⟩
      cases e with
      | normal => exact fin q1
      | ret => exact fin q1
      | exit id => exact q1.elim
    · cases hok
  · cases hok
end Go.Proofs.Ytdpibcniodhinaa.Gh
/- The equations of the ghost code's control, the rule of loops, and the forms of a contract. -/
namespace Go.Proofs.Ytdpibcniodhinaa.Gh
open Go Go.RowKit
set_option linter.unusedVariables false
set_option linter.unusedSimpArgs false

section
variable {P : Program} {N n m n0 : Nat} {E : Env} {H H0 : Heap} {k : List GV → Heap → Nat → Prop} {q : Kn} {Q : GPost} {d : Option Nat} {g v : GV} {op : GOp} {rest : List GOper} {x y z : GX} {t : List GV} {a b : GCode}

def kseq (P : Program) (b : GCode) (Q : GPost) : GPost := fun e t' H' n' => match e with
  | .normal => gw P b Q t' H' n'
  | e => Q e t' H' n'
def kblk (id : Nat) (Q : GPost) : GPost := fun e t' H' n' => match e with
  | .exit id' => if id' = id then Q .normal t' H' n' else Q (.exit id') t' H' n'
  | e => Q e t' H' n'
theorem w_skip : gw P .skip Q t H n = Q .normal t H n := rfl
theorem w_region (ops : List GOper) : gw P (.region ops) Q t H n = gops P ops (Q .normal) t H n := rfl
theorem w_seq : gw P (.seq a b) Q t H n = gw P a (kseq P b Q) t H n := rfl
theorem w_block (id : Nat) : gw P (.block id a) Q t H n = gw P a (kblk id Q) t H n := rfl
theorem w_exit (id : Nat) : gw P (.exit id) Q t H n = Q (.exit id) t H n := rfl
theorem w_ret : gw P .ret Q t H n = Q .ret t H n := rfl
theorem s_n : kseq P b Q .normal t H n = gw P b Q t H n := rfl
theorem s_x (id : Nat) : kseq P b Q (.exit id) t H n = Q (.exit id) t H n := rfl
theorem s_r : kseq P b Q .ret t H n = Q .ret t H n := rfl
theorem b_n (id : Nat) : kblk id Q .normal t H n = Q .normal t H n := rfl
theorem b_x (id id' : Nat) : kblk id Q (.exit id') t H n = if id' = id then Q .normal t H n else Q (.exit id') t H n := rfl
theorem b_r (id : Nat) : kblk id Q .ret t H n = Q .ret t H n := rfl
def hcond (P : Program) (a b : GCode) (Q : GPost) (t : List GV) (H : Heap) (n : Nat) : GV → Prop
  | .bool v => if v then gw P a Q t H n else gw P b Q t H n
  | _ => False
theorem w_cond : gw P (.cond x a b) Q t H n = hcond P a b Q t H n (gev t x) := by
  simp only [gw]; generalize gev t x = v; cases v <;> rfl
theorem c_t : hcond P a b Q t H n (.bool true) = gw P a Q t H n := rfl
theorem c_f : hcond P a b Q t H n (.bool false) = gw P b Q t H n := rfl
theorem c_split {p : Prop} {_ : Decidable p} (ht : p → gw P a Q t H n) (hf : ¬ p → gw P b Q t H n) : hcond P a b Q t H n (.bool (decide p)) := by
  by_cases h : p
  · simp only [h, decide_true, c_t]; exact ht h
  · simp only [h, decide_false, c_f]; exact hf h
theorem c_splitn {p : Prop} {_ : Decidable p} (ht : ¬ p → gw P a Q t H n) (hf : p → gw P b Q t H n) : hcond P a b Q t H n (.bool (!decide p)) := by
  by_cases h : p
  · simp only [h, decide_true, Bool.not_true, c_f]; exact hf h
  · simp only [h, decide_false, Bool.not_false, c_t]; exact ht h
theorem c_splitb {p : Bool} (ht : p = true → gw P a Q t H n) (hf : p = false → gw P b Q t H n) : hcond P a b Q t H n (.bool p) := by
  cases p with
  | true => exact ht rfl
  | false => exact hf rfl
theorem g_f {p : Prop} {_ : Decidable p} (hp : p → kops P rest k N E d (.tup []) H n) (hn : ¬ p → gop P (tl N E) H n (kops P rest k N E d) op) : hgd P rest k N E H n d op false (.bool (decide p)) := by
  by_cases h : p
  · simp only [h, decide_true, e_ft]; exact hp h
  · simp only [h, decide_false, e_ff]; exact hn h
theorem g_t {p : Prop} {_ : Decidable p} (hp : p → gop P (tl N E) H n (kops P rest k N E d) op) (hn : ¬ p → kops P rest k N E d (.tup []) H n) : hgd P rest k N E H n d op true (.bool (decide p)) := by
  by_cases h : p
  · simp only [h, decide_true, e_tt]; exact hp h
  · simp only [h, decide_false, e_tf]; exact hn h
def hloop (P : Program) (B : GCode) (Q : GPost) (t : List GV) (H : Heap) (n : Nat) : Prop := ∃ k, gloop (gw P B) k Q t H n
theorem w_loop : gw P (.loop a) Q t H n = hloop P a Q t H n := rfl

/-- behind a round of a loop: the invariant, or the loop is left -/
def kloop (N : Nat) (J : Env → Heap → Nat → Prop) (Q : GPost) : GPost := fun e t H n => match e with
  | .normal => ∃ E, t = tl N E ∧ J E H n
  | e => Q e t H n
theorem l_n {J : Env → Heap → Nat → Prop} (h : J E H n) : kloop N J Q .normal (tl N E) H n := ⟨E, rfl, h⟩
theorem l_x {J : Env → Heap → Nat → Prop} (id : Nat) : kloop N J Q (.exit id) t H n = Q (.exit id) t H n := rfl
theorem l_r {J : Env → Heap → Nat → Prop} : kloop N J Q .ret t H n = Q .ret t H n := rfl

theorem gops_mono {gl : List GOper} : ∀ {k k' : List GV → Heap → Nat → Prop} {t : List GV} {H : Heap} {n : Nat}, (∀ t H n, k t H n → k' t H n) → gops P gl k t H n → gops P gl k' t H n := by
  have gop_mono : ∀ {q q' : Kn} {t : List GV} {H : Heap} {n : Nat} {op : GOp}, (∀ g H n, q g H n → q' g H n) → gop P t H n q op → gop P t H n q' op := by
    intro q q' t H n op hq h
    have pur : (match gpure t op with | some g => q g H n | none => False) → (match gpure t op with | some g => q' g H n | none => False) := by
      intro h
      split at h
      · exact hq _ _ _ h
      · exact h.elim
    cases op with
    | load mo x =>
      rw [e_load] at h ⊢
      unfold hcell at h ⊢
      split at h
      · split at h
        · cases mo <;> exact ⟨h.1, hq _ _ _ h.2⟩
        · exact h.elim
      · cases mo <;> exact ⟨h.1, hq _ _ _ h.2⟩
      · exact h.elim
    | store m x v =>
      rw [e_store] at h ⊢
      unfold hstore at h ⊢
      split at h
      · split at h
        · exact ⟨h.1, h.2.1, h.2.2.1, hq _ _ _ h.2.2.2⟩
        · exact h.elim
      · exact h.elim
    | box v =>
      rw [e_box] at h ⊢
      unfold hbox at h ⊢
      split at h
      · exact hq _ _ _ h
      · exact h.elim
    | alloc cs => exact hq _ _ _ h
    | empty => exact hq _ _ _ h
    | bslice m cells parts =>
      rw [e_bslice] at h ⊢
      unfold hbs at h ⊢
      split at h
      · exact ⟨h.1, hq _ _ _ h.2⟩
      · exact h.elim
    | blit cells parts =>
      rw [e_blit] at h ⊢
      unfold hbl at h ⊢
      split at h
      · exact hq _ _ _ h
      · exact h.elim
    | mslicep z bytes l c =>
      simp only [gop] at h ⊢
      split at h
      · exact ⟨h.1, h.2.1, h.2.2.1, h.2.2.2.1, hq _ _ _ h.2.2.2.2⟩
      · exact h.elim
    | mslice z bytes l c =>
      simp only [gop] at h ⊢
      split at h
      · exact ⟨h.1, h.2.1, h.2.2.1, h.2.2.2.1, hq _ _ _ h.2.2.2.2⟩
      · exact h.elim
    | append bytes s x =>
      simp only [gop] at h ⊢
      split at h
      · exact h.elim
      · split at h
        · exact ⟨h.1, hq _ _ _ h.2⟩
        · exact ⟨h.1, hq _ _ _ h.2⟩
        · exact ⟨h.1, h.2.1, hq _ _ _ h.2.2⟩
        · split at h
          · exact ⟨h.1, h.2.1, h.2.2.1, hq _ _ _ h.2.2.2⟩
          · exact h.elim
        · exact h.elim
    | appendp bytes s x =>
      simp only [gop] at h ⊢
      split at h
      · split at h
        · exact ⟨h.1, hq _ _ _ h.2⟩
        · exact ⟨h.1, hq _ _ _ h.2⟩
        · exact ⟨h.1, hq _ _ _ h.2⟩
        · exact h.elim
      · exact h.elim
    | copy d s =>
      simp only [gop] at h ⊢
      split at h
      · split at h
        · exact ⟨h.1, h.2.1, hq _ _ _ h.2.2⟩
        · exact h.elim
      · exact h.elim
    | call f args =>
      obtain ⟨g, H', n', h1, h2⟩ := h
      exact ⟨g, H', n', h1, hq _ _ _ h2⟩
    | callv x args =>
      simp only [gop] at h ⊢
      split at h
      · obtain ⟨g, H', n', h0, h1, h2⟩ := h
        exact ⟨g, H', n', h0, h1, hq _ _ _ h2⟩
      · exact h.elim
    | _ => exact pur h
  induction gl with
  | nil => intro k k' t H n hk h; exact hk _ _ _ h
  | cons o gl ih =>
    intro k k' t H n hk h
    simp only [gops] at h ⊢
    split at h
    · rename_i hg; exact gop_mono (fun g H n h => ih hk h) h
    · split at h
      · split at h
        · rename_i hb; rw [if_pos hb]; exact gop_mono (fun g H n h => ih hk h) h
        · rename_i hb; rw [if_neg hb]; exact ih hk h
      · exact ih hk h
      · exact h.elim

theorem gmops_mono {gl : List GOper} : ∀ {k k' : List GV → Heap → Nat → Prop} {t : List GV} {H : Heap} {n : Nat}, (∀ t H n, k t H n → k' t H n) → gmops P H0 n0 gl k t H n → gmops P H0 n0 gl k' t H n := by
  have mono : ∀ {q q' : GV → Option (List GV) → Prop} {t : List GV} {n : Nat} {op : GOp}, (∀ g w, q g w → q' g w) → gmop P H0 n0 t n q op → gmop P H0 n0 t n q' op := by
    intro q q' t n op hq h
    obtain ⟨g, w, h1, h2⟩ := gmop_split h
    have h3 := hq _ _ h2
    have pur : (match gpure t op with | some g' => g' = g ∧ none = w | none => False) → (match gpure t op with | some g => q' g none | none => False) := by
      intro h
      split at h
      · obtain ⟨rfl, rfl⟩ := h; exact h3
      · exact h.elim
    cases op with
    | load mo x =>
      cases mo <;> simp only [gmop] at h1 ⊢
      · split at h1
        · split at h1
          · obtain ⟨a, b, rfl, rfl⟩ := h1; exact ⟨a, b, h3⟩
          · exact h1.elim
        · obtain ⟨a, rfl, rfl⟩ := h1; exact ⟨a, h3⟩
        · exact h1.elim
      · split at h1
        · split at h1
          · obtain ⟨a, b, rfl, rfl⟩ := h1; exact ⟨a, b, h3⟩
          · exact h1.elim
        · obtain ⟨a, rfl, rfl⟩ := h1; exact ⟨a, h3⟩
        · exact h1.elim
    | box v =>
      simp only [gmop] at h1 ⊢
      split at h1
      · obtain ⟨rfl, rfl⟩ := h1; exact h3
      · exact h1.elim
    | alloc cs => obtain ⟨rfl, rfl⟩ := h1; exact h3
    | empty => obtain ⟨rfl, rfl⟩ := h1; exact h3
    | bslice m cells parts =>
      simp only [gmop] at h1 ⊢
      split at h1
      · obtain ⟨a, rfl, rfl⟩ := h1; exact ⟨a, h3⟩
      · exact h1.elim
    | blit cells parts =>
      simp only [gmop] at h1 ⊢
      split at h1
      · obtain ⟨rfl, rfl⟩ := h1; exact h3
      · exact h1.elim
    | mslicep z bytes l c =>
      simp only [gmop] at h1 ⊢
      split at h1
      · obtain ⟨a, b, c, d, rfl, rfl⟩ := h1; exact ⟨a, b, c, d, h3⟩
      · exact h1.elim
    | mslice z bytes l c =>
      simp only [gmop] at h1 ⊢
      split at h1
      · obtain ⟨a, b, c, d, rfl, rfl⟩ := h1; exact ⟨a, b, c, d, h3⟩
      · exact h1.elim
    | call f args =>
      obtain ⟨g', a, b, rfl, rfl⟩ := h1; exact ⟨g', a, b, h3⟩
    | append bytes s x =>
      simp only [gmop] at h1 ⊢
      split at h1
      · exact h1.elim
      · split at h1
        · obtain ⟨a, rfl, rfl⟩ := h1; exact ⟨a, h3⟩
        · obtain ⟨a, rfl, rfl⟩ := h1; exact ⟨a, h3⟩
        · exact h1.elim
    | appendp bytes s x =>
      simp only [gmop] at h1 ⊢
      split at h1
      · split at h1
        · obtain ⟨a, rfl, rfl⟩ := h1; exact ⟨a, h3⟩
        · obtain ⟨a, rfl, rfl⟩ := h1; exact ⟨a, h3⟩
        · obtain ⟨a, rfl, rfl⟩ := h1; exact ⟨a, h3⟩
        · exact h1.elim
      · exact h1.elim
    | store m x v => exact h1.elim
    | copy d s => exact h1.elim
    | callv x args => exact h1.elim
    | _ => exact pur h1
  induction gl with
  | nil => intro k k' t H n hk h; exact hk _ _ _ h
  | cons o gl ih =>
    intro k k' t H n hk h
    simp only [gmops] at h ⊢
    split at h
    · rename_i hg; exact mono (fun g w h => ih hk h) h
    · split at h
      · split at h
        · rename_i hb; rw [if_pos hb]; exact mono (fun g w h => ih hk h) h
        · rename_i hb; rw [if_neg hb]; exact ih hk h
      · exact h.elim

theorem gw_mono : ∀ (c : GCode) {Q Q' : GPost} {t : List GV} {H : Heap} {n : Nat}, (∀ e t H n, Q e t H n → Q' e t H n) → gw P c Q t H n → gw P c Q' t H n := by
  intro c
  induction c with
  | skip => intro Q Q' t H n hq h; exact hq _ _ _ _ h
  | region ops => intro Q Q' t H n hq h; exact gops_mono (hq _) h
  | draw ms pre tail => intro Q Q' t H n hq h; exact gmops_mono (fun t H n h => gops_mono (hq _) h) h
  | seq a b iha ihb =>
    intro Q Q' t H n hq h
    refine iha (fun e t H n h => ?_) h
    cases e with
    | normal => exact ihb hq h
    | exit id => exact hq _ _ _ _ h
    | ret => exact hq _ _ _ _ h
  | cond x a b iha ihb =>
    intro Q Q' t H n hq h
    rw [w_cond] at h ⊢
    unfold hcond at h ⊢
    split at h
    · rename_i v hv
      cases v with
      | true => exact iha hq h
      | false => exact ihb hq h
    · exact h.elim
  | block id a ih =>
    intro Q Q' t H n hq h
    refine ih (fun e t H n h => ?_) h
    cases e with
    | normal => exact hq _ _ _ _ h
    | exit id' =>
      simp only at h ⊢
      split at h
      · rename_i e; simp only [e, if_true]; exact hq _ _ _ _ h
      · rename_i e; simp only [e, if_false]; exact hq _ _ _ _ h
    | ret => exact hq _ _ _ _ h
  | loop a ih =>
    intro Q Q' t H n hq h
    obtain ⟨k, h⟩ := h
    refine ⟨k, ?_⟩
    induction k generalizing t H n with
    | zero => exact h.elim
    | succ k ihk =>
      refine ih (fun e t H n h => ?_) h
      cases e with
      | normal => exact ihk h
      | exit id => exact hq _ _ _ _ h
      | ret => exact hq _ _ _ _ h
  | exit id => intro Q Q' t H n hq h; exact hq _ _ _ _ h
  | ret => intro Q Q' t H n hq h; exact hq _ _ _ _ h

/-- the rule of loops: an invariant over a counter of one's own, and a measure that falls -/
theorem loop_rule {α : Type} (I : α → Env → Heap → Nat → Prop) (μ : α → Nat) (a0 : α) {B : GCode} (h0 : I a0 E H n)
    (step : ∀ a E H n, I a E H n → gw P B (kloop N (fun E' H' n' => ∃ a', μ a' < μ a ∧ I a' E' H' n') Q) (tl N E) H n) : hloop P B Q (tl N E) H n := by
  have key : ∀ (j : Nat) (a : α) (E : Env) (H : Heap) (n : Nat), μ a < j → I a E H n → gloop (gw P B) j Q (tl N E) H n := by
    intro j
    induction j with
    | zero => intro a E H n hj; omega
    | succ j ih =>
      intro a E H n hj hI
      refine gw_mono B (fun e t H n h => ?_) (step a E H n hI)
      cases e with
      | normal =>
        obtain ⟨E', rfl, a', hlt, hI'⟩ := h
        exact ih a' E' H n (by omega) hI'
      | exit id => exact h
      | ret => exact h
  exact ⟨_, key _ a0 E H n (Nat.lt_succ_self _) h0⟩
end
end Go.Proofs.Ytdpibcniodhinaa.Gh
/- The equations of regions whose order is open, and the forms of a contract. -/
namespace Go.Proofs.Ytdpibcniodhinaa.Gh
open Go Go.RowKit
set_option linter.unusedVariables false
set_option linter.unusedSimpArgs false

abbrev Km := GV → Option (List GV) → Prop
section
variable {P : Program} {N n m n0 : Nat} {E : Env} {H H0 : Heap} {k : List GV → Heap → Nat → Prop} {q : Km} {Q : GPost} {d : Option Nat} {g v : GV} {op : GOp} {rest tail pre : List GOper} {x y z : GX} {t : List GV} {a b : GCode}

def kdr (P : Program) (tail : List GOper) (Q : GPost) : List GV → Heap → Nat → Prop := fun t' H' n' => gops P tail (Q .normal) t' H' n'
theorem w_draw (ms : List Nat) : gw P (.draw ms pre tail) Q t H n = gmops P H n pre (kdr P tail Q) t H n := rfl
theorem d_kdr : kdr P tail Q t H n = gops P tail (Q .normal) t H n := rfl
def kmops (P : Program) (H0 : Heap) (n0 : Nat) (rest : List GOper) (k : List GV → Heap → Nat → Prop) (N : Nat) (E : Env) (d : Option Nat) (H : Heap) (n : Nat) : Km := fun g w => gmops P H0 n0 rest k (tl N (sto E d g)) (updo H n w) (nxt n w)
theorem m_nil : gmops P H0 n0 [] k t H n = k t H n := rfl
theorem m_cons : gmops P H0 n0 (⟨d, op, none⟩ :: rest) k (tl N E) H n = gmop P H0 n0 (tl N E) n (kmops P H0 n0 rest k N E d H n) op := by
  simp only [gmops, put_tl]
  rfl
theorem m_kmops (i : Nat) : kmops P H0 n0 rest k N E (some i) H n g none = gmops P H0 n0 rest k (tl N (st E i g)) H n := rfl
theorem m_kmopsn (i : Nat) (cs : List GV) : kmops P H0 n0 rest k N E (some i) H n g (some cs) = gmops P H0 n0 rest k (tl N (st E i g)) (upd H n (some cs)) (n + 1) := rfl
theorem m_kmops0 : kmops P H0 n0 rest k N E none H n g none = gmops P H0 n0 rest k (tl N E) H n := rfl
def hmgd (P : Program) (H0 : Heap) (n0 : Nat) (rest : List GOper) (k : List GV → Heap → Nat → Prop) (N : Nat) (E : Env) (H : Heap) (n : Nat) (d : Option Nat) (op : GOp) (w : Bool) : GV → Prop
  | .bool b => if b = w then gmop P H0 n0 (tl N E) n (kmops P H0 n0 rest k N E d H n) op else kmops P H0 n0 rest k N E d H n .undef none
  | _ => False
theorem m_guard {j : Nat} {w : Bool} (h : j < N) : gmops P H0 n0 (⟨d, op, some (j, w)⟩ :: rest) k (tl N E) H n = hmgd P H0 n0 rest k N E H n d op w (E j) := by
  have h' := h
  simp only [gmops, gat_tl h', put_tl]
  unfold hmgd
  split
  · rename_i b hb; rw [hb]; rfl
  · rename_i hb
    split
    · rename_i b hb'; exact absurd hb' (hb b)
    · rfl
theorem m_tt : hmgd P H0 n0 rest k N E H n d op true (.bool true) = gmop P H0 n0 (tl N E) n (kmops P H0 n0 rest k N E d H n) op := rfl
theorem m_ff : hmgd P H0 n0 rest k N E H n d op false (.bool false) = gmop P H0 n0 (tl N E) n (kmops P H0 n0 rest k N E d H n) op := rfl
theorem m_tf : hmgd P H0 n0 rest k N E H n d op true (.bool false) = kmops P H0 n0 rest k N E d H n .undef none := rfl
theorem m_ft : hmgd P H0 n0 rest k N E H n d op false (.bool true) = kmops P H0 n0 rest k N E d H n .undef none := rfl
def kpm (q : Km) : Kn := fun g _ _ => q g none
theorem m_kpm : kpm q g H n = q g none := rfl
def kpn (q : Km) (cs : List GV) : Kn := fun g _ _ => q g (some cs)

def purB : GOp → Bool
  | .mov _ => true
  | .pick _ _ _ => true
  | .bin _ _ _ => true
  | .isnil _ _ => true
  | .un _ _ => true
  | .field _ _ _ => true
  | .fieldAddr _ _ => true
  | .indexAddr _ _ _ => true
  | .arrAddr _ _ _ _ => true
  | .nilCheck _ => true
  | .extract _ _ => true
  | .len _ => true
  | .mm _ _ _ => true
  | .build _ _ => true
  | .slice _ _ _ _ => true
  | .conv _ _ => true
  | .mkfn _ _ => true
  | .empty => true
  | .blit _ _ => true
  | .mslicep _ _ _ _ => true
  | _ => false
/-- an operation that leaves the own blocks alone is the same wherever it stands -/
theorem m_pure (h : purB op = true) : gmop P H0 n0 t n q op = gop P t H0 n0 (kpm q) op := by
  cases op with
  | load mo x => cases h
  | _ => first | rfl | cases h

theorem m_p_mov (x : GX) : gmop P H0 n0 t n q (.mov x) = gop P t H0 n0 (kpm q) (.mov x) := rfl
theorem m_p_pick (x y z : GX) : gmop P H0 n0 t n q (.pick x y z) = gop P t H0 n0 (kpm q) (.pick x y z) := rfl
theorem m_p_bin (o : BinOp) (x y : GX) : gmop P H0 n0 t n q (.bin o x y) = gop P t H0 n0 (kpm q) (.bin o x y) := rfl
theorem m_p_isnil (b : Bool) (x : GX) : gmop P H0 n0 t n q (.isnil b x) = gop P t H0 n0 (kpm q) (.isnil b x) := rfl
theorem m_p_un (o : UnOp) (x : GX) : gmop P H0 n0 t n q (.un o x) = gop P t H0 n0 (kpm q) (.un o x) := rfl
theorem m_p_field (o : Nat) (m : Option Nat) (x : GX) : gmop P H0 n0 t n q (.field o m x) = gop P t H0 n0 (kpm q) (.field o m x) := rfl
theorem m_p_fieldAddr (o : Nat) (x : GX) : gmop P H0 n0 t n q (.fieldAddr o x) = gop P t H0 n0 (kpm q) (.fieldAddr o x) := rfl
theorem m_p_indexAddr (s : Nat) (x y : GX) : gmop P H0 n0 t n q (.indexAddr s x y) = gop P t H0 n0 (kpm q) (.indexAddr s x y) := rfl
theorem m_p_arrAddr (l s : Nat) (x y : GX) : gmop P H0 n0 t n q (.arrAddr l s x y) = gop P t H0 n0 (kpm q) (.arrAddr l s x y) := rfl
theorem m_p_nilCheck (x : GX) : gmop P H0 n0 t n q (.nilCheck x) = gop P t H0 n0 (kpm q) (.nilCheck x) := rfl
theorem m_p_extract (i : Nat) (x : GX) : gmop P H0 n0 t n q (.extract i x) = gop P t H0 n0 (kpm q) (.extract i x) := rfl
theorem m_p_len (x : GX) : gmop P H0 n0 t n q (.len x) = gop P t H0 n0 (kpm q) (.len x) := rfl
theorem m_p_mm (b : Bool) (x y : GX) : gmop P H0 n0 t n q (.mm b x y) = gop P t H0 n0 (kpm q) (.mm b x y) := rfl
theorem m_p_build (z : List GV) (l : List (Nat × Nat × GX)) : gmop P H0 n0 t n q (.build z l) = gop P t H0 n0 (kpm q) (.build z l) := rfl
theorem m_p_slice (x : GX) (a b c : Option GX) : gmop P H0 n0 t n q (.slice x a b c) = gop P t H0 n0 (kpm q) (.slice x a b c) := rfl
theorem m_p_conv (k : IntKind) (x : GX) : gmop P H0 n0 t n q (.conv k x) = gop P t H0 n0 (kpm q) (.conv k x) := rfl
theorem m_p_mkfn (f : FuncId) (c : List GX) : gmop P H0 n0 t n q (.mkfn f c) = gop P t H0 n0 (kpm q) (.mkfn f c) := rfl
theorem m_p_empty  : gmop P H0 n0 t n q (.empty ) = gop P t H0 n0 (kpm q) (.empty ) := rfl
theorem m_p_blit (c : List GV) (l : List (Nat × Nat × GX)) : gmop P H0 n0 t n q (.blit c l) = gop P t H0 n0 (kpm q) (.blit c l) := rfl
theorem m_p_mslicep (z : GV) (b : Nat) (l c : GX) : gmop P H0 n0 t n q (.mslicep z b l c) = gop P t H0 n0 (kpm q) (.mslicep z b l c) := rfl

def hmcell (q : Km) (H : Heap) (n0 : Nat) (mo : Option Nat) : GV → Prop
  | .ptr b o => (match H b with
    | some cs => (match mo with
      | none => b < n0 ∧ o < cs.length ∧ q (gat cs o) none
      | some m => b < n0 ∧ o + m ≤ cs.length ∧ q (.agg ((cs.drop o).take m)) none)
    | none => False)
  | .pp cs o => (match mo with
      | none => o < cs.length ∧ q (gat cs o) none
      | some m => o + m ≤ cs.length ∧ q (.agg ((cs.drop o).take m)) none)
  | _ => False
theorem m_load (mo : Option Nat) : gmop P H0 n0 t n q (.load mo x) = hmcell q H0 n0 mo (gev t x) := by
  cases mo <;> (simp only [gmop]; generalize gev t x = v; cases v <;> rfl)
def hmcl (q : Km) (n0 : Nat) (mo : Option Nat) (b o : Nat) : Option (List GV) → Prop
  | some cs => (match mo with
      | none => b < n0 ∧ o < cs.length ∧ q (gat cs o) none
      | some m => b < n0 ∧ o + m ≤ cs.length ∧ q (.agg ((cs.drop o).take m)) none)
  | none => False
theorem m_cell_ptr (mo : Option Nat) (b o : Nat) : hmcell q H n0 mo (.ptr b o) = hmcl q n0 mo b o (H b) := by
  simp only [hmcell]; generalize H b = c; cases c <;> rfl
theorem m_cl1 (b o : Nat) (cs : List GV) : hmcl q n0 none b o (some cs) = (b < n0 ∧ o < cs.length ∧ q (gat cs o) none) := rfl
theorem m_clm (b o m : Nat) (cs : List GV) : hmcl q n0 (some m) b o (some cs) = (b < n0 ∧ o + m ≤ cs.length ∧ q (.agg ((cs.drop o).take m)) none) := rfl
theorem m_cell_pp (cs : List GV) (o : Nat) : hmcell q H n0 none (.pp cs o) = (o < cs.length ∧ q (gat cs o) none) := rfl
theorem m_cells_pp (cs : List GV) (o m : Nat) : hmcell q H n0 (some m) (.pp cs o) = (o + m ≤ cs.length ∧ q (.agg ((cs.drop o).take m)) none) := rfl
def hmbox (q : Km) : Nat → Option (List GV) → Prop
  | n, some vs => q (.ptr n 0) (some vs)
  | _, none => False
theorem m_box : gmop P H0 n0 t n q (.box x) = hmbox q n (gcells (gev t x)) := by
  simp only [gmop]; generalize gcells (gev t x) = w; cases w <;> rfl
theorem m_box_some (vs : List GV) : hmbox q n (some vs) = q (.ptr n 0) (some vs) := rfl
theorem m_alloc (cs : List GV) : gmop P H0 n0 t n q (.alloc cs) = q (.ptr n 0) (some cs) := rfl
def hmbs (q : Km) (n m : Nat) : Option (List GV) → Prop
  | some cs => m ≤ cs.length ∧ q (.own n 0 m) (some cs)
  | none => False
theorem m_bslice (cells : List GV) (parts : List (Nat × Nat × GX)) : gmop P H0 n0 t n q (.bslice m cells parts) = hmbs q n m (gfill t cells parts) := by
  simp only [gmop]; generalize gfill t cells parts = w; cases w <;> rfl
theorem m_bs_some (cs : List GV) : hmbs q n m (some cs) = (m ≤ cs.length ∧ q (.own n 0 m) (some cs)) := rfl
def hmms (q : Km) (n : Nat) (zv : GV) (bytes : Nat) : GV → GV → Prop
  | .int .i64 a, .int .i64 b => 0 ≤ a ∧ a = b ∧ a * bytes ≤ 281474976710656 ∧ 0 < bytes ∧ q (.own n 0 a.toNat) (some (List.replicate a.toNat zv))
  | _, _ => False
theorem m_mslice (zv : GV) (bytes : Nat) : gmop P H0 n0 t n q (.mslice zv bytes x y) = hmms q n zv bytes (gev t x) (gev t y) := by
  simp only [gmop]; generalize gev t x = v; generalize gev t y = w; unfold hmms
  cases v <;> cases w <;> first | rfl | (rename_i k1 a k2 b; cases k1 <;> cases k2 <;> rfl)
theorem m_ms_int (zv : GV) (bytes : Nat) (a b : Int) : hmms q n zv bytes (.int .i64 a) (.int .i64 b) = (0 ≤ a ∧ a = b ∧ a * bytes ≤ 281474976710656 ∧ 0 < bytes ∧ q (.own n 0 a.toNat) (some (List.replicate a.toNat zv))) := rfl
def hmapp (q : Km) (n bytes : Nat) : GV → Option (List GV) → Prop
  | .nil, some ys => ys.length * bytes ≤ 140737488355328 ∧ q (.own n 0 ys.length) (some ys)
  | .emp, some ys => ys.length * bytes ≤ 140737488355328 ∧ q (.own n 0 ys.length) (some ys)
  | _, _ => False
def below (H : Heap) (n0 : Nat) : Heap := fun b => if b < n0 then H b else none
theorem m_append (bytes : Nat) : gmop P H0 n0 t n q (.append bytes x y) = hmapp q n bytes (gev t x) (gelems (below H0 n0) (gev t y)) := by
  simp only [gmop]
  show (match gelems (below H0 n0) (gev t y) with | none => False | some ys => _) = _
  generalize gev t x = v; generalize gelems (below H0 n0) (gev t y) = w
  unfold hmapp
  cases w <;> cases v <;> rfl
theorem m_app_nil (bytes : Nat) (ys : List GV) : hmapp q n bytes .nil (some ys) = (ys.length * bytes ≤ 140737488355328 ∧ q (.own n 0 ys.length) (some ys)) := rfl
theorem m_app_emp (bytes : Nat) (ys : List GV) : hmapp q n bytes .emp (some ys) = (ys.length * bytes ≤ 140737488355328 ∧ q (.own n 0 ys.length) (some ys)) := rfl
def hmcall (P : Program) (H0 : Heap) (n0 : Nat) (f : FuncId) (args : List GV) (q : Km) : Prop := ∃ g, Nr g ∧ (∀ H' n', (∀ b, b < n0 → H' b = H0 b) → n0 ≤ n' → Spec P f args H' n' g H' n') ∧ q g none
theorem m_call (f : FuncId) (args : List GX) : gmop P H0 n0 t n q (.call f args) = hmcall P H0 n0 f (args.map (gev t)) q := rfl
theorem mcall_of {f : FuncId} {args : List GV} (hn : Nr g) (hs : ∀ H' n', (∀ b, b < n0 → H' b = H0 b) → n0 ≤ n' → Spec P f args H' n' g H' n') (hq : q g none) : hmcall P H0 n0 f args q := ⟨g, hn, hs, hq⟩
end

/-- read-only of what is left: nothing new stays -/
abbrev Fz (H : Heap) (n : Nat) : GV → GV → Prop := Tr H n n id
def GFun.ends (F : GFun) (H : Heap) (n : Nat) (g : GV) : GPost := fun e t H1 n1 => match e with
  | .exit _ => False
  | _ => (∃ g1, gretv t H1 F.res = some g1 ∧ Fz H1 n g1 g ∧ ∀ b, b < n → H1 b = H b) ∧ n1 = n1
def GFun.ends1 (F : GFun) (H : Heap) (n : Nat) (g : GV) (cs' : List GV) : GPost := fun e t H1 n1 => match e with
  | .exit _ => False
  | _ => ∃ g1 b cs, gretv t H1 F.res = some g1 ∧ Tr H1 n (n + 1) (fun _ => b) g1 g ∧ n ≤ b ∧ H1 b = some cs ∧ Trs H1 n (n + 1) (fun _ => b) cs cs' ∧ (∀ b, b < n → H1 b = H b) ∧ n1 = n1

section
variable {P : Program} {f : FuncId} {F : GFun} {args : List GV} {H : Heap} {n : Nat} {g : GV}
theorem spec_ends (hm : P.follows .mixedOrders = true) (hok : okFun P f F = true) (ha : args.length = F.np) (hg : Fr H n → gw P F.body (F.ends H n g) (tl F.nt (mkE 0 args)) H n) : Spec P f args H n g H n := by
  intro K vs e1 e2 hF
  refine spec_told hm hok ha (fun hF => gw_mono _ (fun e t H1 n1 h => ?_) (hg hF)) K vs e1 e2 hF
  have key : (∃ g1, gretv t H1 F.res = some g1 ∧ Fz H1 n g1 g ∧ ∀ b, b < n → H1 b = H b) ∧ n1 = n1 → ∃ g1 κ, gretv t H1 F.res = some g1 ∧ Tr H1 n n κ g1 g ∧ n ≤ n ∧ Fr H n ∧ (∀ i j, n ≤ i → i < n → n ≤ j → j < n → κ i = κ j → i = j) ∧
      (∀ b, b < n → (H1 b = H b ∧ H b = H b) ∨ ((H1 b = none ∧ H b = none) ∨ ∃ cs cs', H1 b = some cs ∧ H b = some cs' ∧ Trs H1 n n κ cs cs')) ∧
      (∀ i, n ≤ i → i < n → ∃ cs cs', H1 (κ i) = some cs ∧ n ≤ κ i ∧ H i = some cs' ∧ Trs H1 n n κ cs cs') := by
    rintro ⟨⟨g1, h1, h2, h3⟩, _⟩
    exact ⟨g1, id, h1, h2, Nat.le_refl _, hF, fun i j a b => by omega, fun b hb => .inl ⟨h3 b hb, rfl⟩, fun i a b => by omega⟩
  cases e with
  | normal => exact key h
  | ret => exact key h
  | exit id => exact h
theorem spec_ends1 (hm : P.follows .mixedOrders = true) (hok : okFun P f F = true) (ha : args.length = F.np) {cs : List GV} (hg : Fr H n → gw P F.body (F.ends1 H n g cs) (tl F.nt (mkE 0 args)) H n) : Spec P f args H n g (upd H n (some cs)) (n + 1) := by
  intro K vs e1 e2 hF
  refine spec_told hm hok ha (fun hF => gw_mono _ (fun e t H1 n1 h => ?_) (hg hF)) K vs e1 e2 hF
  have key : (∃ g1 b cs0, gretv t H1 F.res = some g1 ∧ Tr H1 n (n + 1) (fun _ => b) g1 g ∧ n ≤ b ∧ H1 b = some cs0 ∧ Trs H1 n (n + 1) (fun _ => b) cs0 cs ∧ (∀ b, b < n → H1 b = H b) ∧ n1 = n1) →
      ∃ g1 κ, gretv t H1 F.res = some g1 ∧ Tr H1 n (n + 1) κ g1 g ∧ n ≤ n + 1 ∧ Fr (upd H n (some cs)) (n + 1) ∧ (∀ i j, n ≤ i → i < n + 1 → n ≤ j → j < n + 1 → κ i = κ j → i = j) ∧
      (∀ b, b < n → (H1 b = H b ∧ upd H n (some cs) b = H b) ∨ ((H1 b = none ∧ upd H n (some cs) b = none) ∨ ∃ cs1 cs', H1 b = some cs1 ∧ upd H n (some cs) b = some cs' ∧ Trs H1 n (n + 1) κ cs1 cs')) ∧
      (∀ i, n ≤ i → i < n + 1 → ∃ cs1 cs', H1 (κ i) = some cs1 ∧ n ≤ κ i ∧ upd H n (some cs) i = some cs' ∧ Trs H1 n (n + 1) κ cs1 cs') := by
    rintro ⟨g1, b, cs0, h1, h2, h3, h4, h5, h6, _⟩
    refine ⟨g1, fun _ => b, h1, h2, Nat.le_succ _, fun x hx => ?_, fun i j a b c d _ => by omega, fun b hb => .inl ⟨h6 b hb, upd_ne _ _ (by omega)⟩, fun i a b => ?_⟩
    · rw [upd_ne _ _ (by omega)]; exact hF x (by omega)
    · have : i = n := by omega
      subst this
      exact ⟨cs0, cs, h4, h3, upd_same _ _ _, h5⟩
  cases e with
  | normal => exact key h
  | ret => exact key h
  | exit id => exact h
/-- the ends of a body -/
theorem fin_ret {H1 : Heap} {n1 N i : Nat} {E : Env} (hr : F.res = [.t i]) (hi : i < N) (hz : Fz H1 n (E i) g) (ho : ∀ b, b < n → H1 b = H b) : F.ends H n g .ret (tl N E) H1 n1 :=
  ⟨⟨E i, by rw [hr]; simp only [gretv, gress, gres, gat_tl hi], hz, ho⟩, rfl⟩
theorem fin_cell {H1 : Heap} {n1 N i m b o : Nat} {E : Env} {cs : List GV} (hr : F.res = [.cell i (some m)]) (hi : i < N) (he : E i = .ptr b o) (hc : H1 b = some cs) (hl : o + m ≤ cs.length) (hz : Fz H1 n (.agg ((cs.drop o).take m)) g) (ho : ∀ b, b < n → H1 b = H b) : F.ends H n g .ret (tl N E) H1 n1 :=
  ⟨⟨_, by rw [hr]; simp only [gretv, gress, gres, gat_tl hi, he, gread1, hc, if_pos hl], hz, ho⟩, rfl⟩
theorem fin_ret2 {H1 : Heap} {n1 N i j : Nat} {E : Env} {g' : GV} (hr : F.res = [.t i, .t j]) (hi : i < N) (hj : j < N) (hz : Fz H1 n (E i) g) (hz' : Fz H1 n (E j) g') (ho : ∀ b, b < n → H1 b = H b) : F.ends H n (.tup [g, g']) .ret (tl N E) H1 n1 :=
  ⟨⟨.tup [E i, E j], by rw [hr]; simp only [gretv, gress, gres, gat_tl hi, gat_tl hj], .tup _ _ rfl fun k hk => by
    match k, hk with
    | 0, _ => exact hz
    | 1, _ => exact hz', ho⟩, rfl⟩
theorem fin_ret3 {H1 : Heap} {n1 N i j k : Nat} {E : Env} {g' g'' : GV} (hr : F.res = [.t i, .t j, .t k]) (hi : i < N) (hj : j < N) (hk : k < N) (hz : Fz H1 n (E i) g) (hz' : Fz H1 n (E j) g') (hz'' : Fz H1 n (E k) g'') (ho : ∀ b, b < n → H1 b = H b) : F.ends H n (.tup [g, g', g'']) .ret (tl N E) H1 n1 :=
  ⟨⟨.tup [E i, E j, E k], by rw [hr]; simp only [gretv, gress, gres, gat_tl hi, gat_tl hj, gat_tl hk], .tup _ _ rfl fun k hk => by
    match k, hk with
    | 0, _ => exact hz
    | 1, _ => exact hz'
    | 2, _ => exact hz'', ho⟩, rfl⟩
theorem fz_int {H1 : Heap} {k : IntKind} {i j : Int} (h : i = j) : Fz H1 n (.int k i) (.int k j) := by subst h; exact Tr.int _ _
theorem fz_bool {H1 : Heap} {i j : Bool} (h : i = j) : Fz H1 n (.bool i) (.bool j) := by subst h; exact Tr.bool _
theorem wrap64 {x : Int} (h : -9223372036854775808 ≤ x ∧ x < 9223372036854775808) : IntKind.i64.wrap x = x := by
  simp [IntKind.wrap, IntKind.bits, IntKind.signed]
  omega
end
end Go.Proofs.Ytdpibcniodhinaa.Gh
