/- The numbers of the functions. -/
import Derived.Test.YtdpibcniodhinaaProg
import Derived.Test.YtdpibcniodhinaaXBc
namespace Go.Proofs.Ytdpibcniodhinaa.Gh
abbrev fid__internal_abi_Kind_String : Nat := 96
abbrev fid__internal_runtime_maps_unhashableTypeError_Error : Nat := 94
abbrev fid__internal_runtime_maps_unhashableTypeError_RuntimeError : Nat := 95
abbrev fid__runtime_boundsError_Error : Nat := 81
abbrev fid__runtime_boundsError_RuntimeError : Nat := 82
abbrev fid__runtime_errorAddressString_Error : Nat := 87
abbrev fid__runtime_errorAddressString_RuntimeError : Nat := 88
abbrev fid__runtime_errorString_Error : Nat := 83
abbrev fid__runtime_errorString_RuntimeError : Nat := 84
abbrev fid__runtime_plainError_Error : Nat := 85
abbrev fid__runtime_plainError_RuntimeError : Nat := 86
abbrev fid_conv_Check : Nat := 14
abbrev fid_conv_CheckFree : Nat := 34
abbrev fid_conv_Degrees : Nat := 12
abbrev fid_conv_Encode : Nat := 21
abbrev fid_conv_Free : Nat := 30
abbrev fid_conv_Next : Nat := 17
abbrev fid_conv_build : Nat := 35
abbrev fid_conv_coefficient : Nat := 63
abbrev fid_conv_digits : Nat := 66
abbrev fid_conv_machine_edges : Nat := 48
abbrev fid_conv_machine_encode : Nat := 44
abbrev fid_conv_machine_input : Nat := 40
abbrev fid_conv_machine_path : Nat := 49
abbrev fid_conv_machine_reaches : Nat := 53
abbrev fid_conv_machine_step : Nat := 41
abbrev fid_conv_weight : Nat := 68
abbrev fid_field_GF_Add : Nat := 61
abbrev fid_field_GF_Is : Nat := 56
abbrev fid_field_GF_Mul : Nat := 62
abbrev fid_field_GF_Order : Nat := 55
abbrev fid_field_GF_in : Nat := 75
abbrev fid_field_New : Nat := 54
abbrev fid_field_digitsOf : Nat := 79
abbrev fid_field_generator : Nat := 71
abbrev fid_field_isPrime : Nat := 76
abbrev fid_field_multiply : Nat := 78
abbrev fid_field_order : Nat := 70
abbrev fid_field_powers : Nat := 77
abbrev fid_field_shape : Nat := 69
abbrev fid_field_valueOf : Nat := 80
abbrev fid_gosem_cut : Nat := 1
abbrev fid_gosem_cut_init : Nat := 2
abbrev fid_internal_abi_Type_Align : Nat := 93
abbrev fid_law20_ConvBounds : Nat := 10
abbrev fid_law20_ConvChecks : Nat := 3
abbrev fid_law20_ConvEncodes : Nat := 5
abbrev fid_law20_ConvFrees : Nat := 8
abbrev fid_law20_ConvLinear : Nat := 6
abbrev fid_law20_ConvMachine : Nat := 7
abbrev fid_law20_ConvNext : Nat := 4
abbrev fid_law20_ConvProofs : Nat := 9
abbrev fid_law20_few : Nat := 11
abbrev fid_law20_four : Nat := 29
abbrev fid_main_main : Nat := 0
abbrev fid_number_Exp : Nat := 58
abbrev fid_poly_Canon : Nat := 57
abbrev fid_poly_trim : Nat := 72
abbrev fid_ref04_Add : Nat := 42
abbrev fid_ref04_Check : Nat := 36
abbrev fid_ref04_Digits : Nat := 64
abbrev fid_ref04_Dot : Nat := 43
abbrev fid_ref04_In : Nat := 26
abbrev fid_ref04_Is : Nat := 46
abbrev fid_ref04_Mul : Nat := 45
abbrev fid_ref04_Order : Nat := 39
abbrev fid_ref04_Value : Nat := 65
abbrev fid_ref04_digits : Nat := 74
abbrev fid_ref04_divides : Nat := 73
abbrev fid_ref04_irreducible : Nat := 60
abbrev fid_ref04_prime : Nat := 59
abbrev fid_ref09_AddTo : Nat := 25
abbrev fid_ref09_Entries : Nat := 37
abbrev fid_ref09_SameInts : Nat := 15
abbrev fid_ref09_SameRows : Nat := 23
abbrev fid_ref20_Accept : Nat := 33
abbrev fid_ref20_Check : Nat := 13
abbrev fid_ref20_Degree : Nat := 38
abbrev fid_ref20_Degrees : Nat := 16
abbrev fid_ref20_Encode : Nat := 24
abbrev fid_ref20_Free : Nat := 32
abbrev fid_ref20_Input : Nat := 52
abbrev fid_ref20_Inputs : Nat := 50
abbrev fid_ref20_Least : Nat := 51
abbrev fid_ref20_List : Nat := 19
abbrev fid_ref20_Memory : Nat := 47
abbrev fid_ref20_Next : Nat := 20
abbrev fid_ref20_Small : Nat := 31
abbrev fid_ref20_States : Nat := 18
abbrev fid_ref20_Steps : Nat := 22
abbrev fid_ref20_Terminate : Nat := 28
abbrev fid_ref20_Weight : Nat := 27
abbrev fid_runtime_PanicNilError_Error : Nat := 91
abbrev fid_runtime_PanicNilError_RuntimeError : Nat := 92
abbrev fid_runtime_TypeAssertionError_Error : Nat := 89
abbrev fid_runtime_TypeAssertionError_RuntimeError : Nat := 90
abbrev fid_slices_Clone2 : Nat := 67
end Go.Proofs.Ytdpibcniodhinaa.Gh
/- The seat's program. -/
namespace Go.Proofs.Ytdpibcniodhinaa.Gh
open Go Go.RowKit
theorem hmix : Go.Proofs.Try.prog.follows .mixedOrders = true := by kernel_rfl
noncomputable abbrev prog : Program := Go.Proofs.Try.prog
end Go.Proofs.Ytdpibcniodhinaa.Gh
/- Slices as tables, and contracts told anew. -/
namespace Go.Proofs.Ytdpibcniodhinaa.Gh
open Go Go.RowKit
set_option linter.unusedVariables false
set_option linter.unusedSimpArgs false

def tab {α : Type} (m : Nat) (f : Nat → α) : List α := (List.range m).map f
section
variable {α β : Type} {m n : Nat} {f g : Nat → α}
theorem tab_len : (tab m f).length = m := by simp [tab]
theorem tab_congr (h : ∀ i, i < m → f i = g i) : tab m f = tab m g := by
  apply List.ext_getElem
  · simp [tab]
  · intro i h1 h2
    simp [tab] at h1 ⊢
    exact h i h1
theorem tab_inj (h : tab m f = tab n g) : m = n ∧ ∀ i, i < m → f i = g i := by
  have hl : m = n := by have := congrArg List.length h; rwa [tab_len, tab_len] at this
  subst hl
  refine ⟨rfl, fun i hi => ?_⟩
  have h1 : (tab m f)[i]? = (tab m g)[i]? := by rw [h]
  simpa [tab, hi] using h1
theorem tab_get? (i : Nat) (h : i < m) : (tab m f)[i]? = some (f i) := by simp [tab, h]
theorem gat_tab {f : Nat → GV} {i : Nat} (h : i < m) : gat (tab m f) i = f i := by simp [gat, tab, List.getD_eq_getElem?_getD, h]
theorem tab_map (h : α → β) : (tab m f).map h = tab m fun i => h (f i) := by simp [tab]
theorem tab_rep (x : α) : List.replicate m x = tab m fun _ => x := by
  apply List.ext_getElem
  · simp [tab]
  · intro i h1 h2; simp [tab]
def upf (f : Nat → α) (i : Nat) (x : α) : Nat → α := fun j => if j = i then x else f j
theorem upf_same (f : Nat → α) (i : Nat) (x : α) : upf f i x i = x := if_pos rfl
theorem upf_ne (f : Nat → α) {i j : Nat} (x : α) (h : j ≠ i) : upf f i x j = f j := if_neg h
theorem tab_set (i : Nat) (x : α) : (tab m f).set i x = tab m (upf f i x) := by
  apply List.ext_getElem
  · simp [tab]
  · intro j h1 h2
    simp only [tab, List.length_map, List.length_range, List.length_set] at h1 h2
    simp only [tab, List.getElem_set, List.getElem_map, List.getElem_range, upf]
    by_cases e : i = j
    · simp [e]
    · simp [e, Ne.symm e]
theorem setL_tab {f : Nat → GV} (i : Nat) (x : GV) : setL (tab m f) i [x] = tab m (upf f i x) := tab_set i x
theorem setL_nil (cs : List GV) (i : Nat) : setL cs i [] = cs := rfl
theorem setL_cons (cs : List GV) (i : Nat) (x : GV) (xs : List GV) : setL cs i (x :: xs) = setL (cs.set i x) (i + 1) xs := rfl
theorem setL_tabs {f g : Nat → GV} : ∀ (k o : Nat), o + k ≤ m → setL (tab m f) o (tab k g) = tab m fun j => if o ≤ j ∧ j < o + k then g (j - o) else f j := by
  have key : ∀ (ys : List GV) (f : Nat → GV) (o : Nat), setL (tab m f) o ys = tab m fun j => if o ≤ j ∧ j < o + ys.length then gat ys (j - o) else f j := by
    intro ys
    induction ys with
    | nil => intro f o; rw [setL_nil]; refine tab_congr fun i _ => ?_; rw [if_neg (by simp)]
    | cons y ys ih =>
      intro f o
      rw [setL_cons, tab_set, ih]
      refine tab_congr fun i _ => ?_
      simp only [List.length_cons]
      by_cases h1 : i = o
      · subst h1
        rw [if_neg (by omega), if_pos (by omega), upf_same, Nat.sub_self]; rfl
      · by_cases h2 : o + 1 ≤ i ∧ i < o + 1 + ys.length
        · rw [if_pos h2, if_pos (by omega)]
          have : i - o = (i - (o + 1)) + 1 := by omega
          rw [this]; rfl
        · rw [if_neg h2, if_neg (by omega), upf_ne _ _ h1]
  intro k o _
  rw [key]
  refine tab_congr fun i _ => ?_
  rw [tab_len]
  split
  · rename_i h; rw [gat_tab (by omega)]
  · rfl
theorem tab_take (k : Nat) (h : k ≤ m) : (tab m f).take k = tab k f := by
  apply List.ext_getElem
  · simp [tab]; omega
  · intro i h1 h2; simp [tab]
theorem tab_drop (k : Nat) : (tab m f).drop k = tab (m - k) fun i => f (k + i) := by
  apply List.ext_getElem
  · simp [tab]
  · intro i h1 h2; simp [tab]
theorem tab_app : tab m f ++ tab n g = tab (m + n) fun i => if i < m then f i else g (i - m) := by
  apply List.ext_getElem
  · simp [tab]
  · intro i h1 h2
    simp only [tab, List.length_map, List.length_range] at h2
    by_cases hi : i < m
    · simp [tab, List.getElem_append, hi]
    · simp [tab, List.getElem_append, hi]
theorem tab_one (x : α) : [x] = tab 1 fun _ => x := rfl
theorem tab_zero : tab 0 f = [] := rfl
theorem tab_succ : tab (m + 1) f = tab m f ++ [f m] := by simp [tab, List.range_succ]
theorem tab_of (l : List α) (d : α) : l = tab l.length fun i => l.getD i d := by
  apply List.ext_getElem
  · simp [tab]
  · intro i h1 h2; simp [tab, List.getD_eq_getElem?_getD, h1]
theorem tab_all {f : Nat → α} (p : α → Bool) (h : ∀ i, i < m → p (f i) = true) : (tab m f).all p = true := by
  simp only [tab, List.all_map, List.all_eq_true, List.mem_range, Function.comp]
  exact h
end

theorem upd_upd (H : Heap) (b : Nat) (c c' : Option (List GV)) : upd (upd H b c) b c' = upd H b c' := by
  funext x; simp only [upd]; split <;> rfl
/-- a row of integers -/
def it (f : Nat → Int) : Nat → GV := fun i => .int .i64 (f i)
abbrev isl (m : Nat) (f : Nat → Int) : GV := .sl m (tab m (it f))
theorem it_at (f : Nat → Int) (i : Nat) : it f i = .int .i64 (f i) := rfl
theorem it_upf (f : Nat → Int) (i : Nat) (x : Int) : upf (it f) i (.int .i64 x) = it (upf f i x) := by
  funext j; simp only [upf, it]; split <;> rfl
theorem it_cell (m : Nat) (f : Nat → Int) : (tab m (it f)).all isCell = true := tab_all _ fun i _ => rfl

/-- values that are the same wherever they stand -/
inductive Pl : GV → Prop
  | int (k : IntKind) (i : Int) : Pl (.int k i)
  | bool (b : Bool) : Pl (.bool b)
  | nil : Pl .nil
  | nilp : Pl .nilp
  | emp : Pl .emp
  | sl (m : Nat) (cs : List GV) : (∀ j, j < cs.length → Pl (gat cs j)) → Pl (.sl m cs)
  | pp (cs : List GV) (o : Nat) : (∀ j, j < cs.length → Pl (gat cs j)) → Pl (.pp cs o)
  | agg (cs : List GV) : (∀ j, j < cs.length → Pl (gat cs j)) → Pl (.agg cs)
  | tup (cs : List GV) : (∀ j, j < cs.length → Pl (gat cs j)) → Pl (.tup cs)
theorem Pl.tr {H : Heap} {n n' : Nat} {κ : Nat → Nat} {g : GV} (h : Pl g) : Tr H n n' κ g g := by
  induction h with
  | int k i => exact .int k i
  | bool b => exact .bool b
  | nil => exact .nil
  | nilp => exact .nilp
  | emp => exact .emp
  | sl m cs _ ih => exact .sl m cs cs rfl ih
  | pp cs o _ ih => exact .pp cs cs o rfl ih
  | agg cs _ ih => exact .agg cs cs rfl ih
  | tup cs _ ih => exact .tup cs cs rfl ih
theorem Pl.nr {g : GV} (h : Pl g) : Nr g := by
  induction h with
  | int k i => exact .int k i
  | bool b => exact .bool b
  | nil => exact .nil
  | nilp => exact .nilp
  | emp => exact .emp
  | sl m cs _ ih => exact .sl m cs ih
  | pp cs o _ ih => exact .pp cs o ih
  | agg cs _ ih => exact .agg cs ih
  | tup cs _ ih => exact .tup cs ih
theorem pl_tab {m : Nat} {f : Nat → GV} (h : ∀ i, i < m → Pl (f i)) : ∀ j, j < (tab m f).length → Pl (gat (tab m f) j) := by
  intro j hj
  rw [tab_len] at hj
  rw [gat_tab hj]; exact h j hj
theorem pl_isl (m : Nat) (f : Nat → Int) : Pl (isl m f) := .sl _ _ (pl_tab fun i _ => .int _ _)
theorem trs_pl {H : Heap} {n n' : Nat} {κ : Nat → Nat} {m : Nat} {f : Nat → GV} (h : ∀ i, i < m → Pl (f i)) : Trs H n n' κ (tab m f) (tab m f) := ⟨rfl, fun j hj => (pl_tab h j hj).tr⟩
theorem trs_it {H : Heap} {n n' : Nat} {κ : Nat → Nat} {m : Nat} {f : Nat → Int} : Trs H n n' κ (tab m (it f)) (tab m (it f)) := trs_pl fun i _ => .int _ _

section
variable {P : Program} {f : FuncId} {F : GFun} {args : List GV} {H H1 : Heap} {n n1 : Nat} {g g1 : GV}
/-- what a call leaves, told anew: nothing new is kept -/
theorem Spec.ends (h : Spec P f args H n g1 H1 n1) (ho : ∀ b, b < n → H1 b = H b) (hz : Fz H1 n g1 g) : Spec P f args H n g H n := by
  intro K vs e1 e2 hF hs hv
  refine Calls.mono (h K vs e1 e2 hF hs hv) ?_
  rintro e w' ⟨v, K', q1, q2, q3, q4, q5, q6, q7, q8⟩
  subst e1 e2
  have T : Told K'.H K.lo K.lo id K.H := by
    refine ⟨Nat.le_refl _, fun b hb => ?_, fun i a b => by omega, fun i j a b => by omega, hF⟩
    rw [q4, ho b hb]
    refine ⟨id, fun cs e => ⟨cs, e, rfl, fun j hj => ?_⟩⟩
    have hz := hs.len b cs e
    obtain ⟨row, T', y1, y2, y3, y4⟩ := hs.blk b cs e (by omega)
    exact (y3 j hj).sc.tr hF
  exact ⟨v, told K' K.lo K.lo id K.H, q1, q2, told_step q3 rfl hF T, rfl, rfl, hF, told_sat q7 T, told_VR q7 T (by rw [q4]; exact hz) q8⟩
/-- a row that is made and returned, read-only -/
theorem Spec.frozen {m : Nat} {cs : List GV} (h : Spec P f args H n (.own n 0 m) (upd H n (some cs)) (n + 1)) (hl : cs.length = m) (hp : ∀ j, j < cs.length → Pl (gat cs j)) : Spec P f args H n (.sl m cs) H n :=
  h.ends (fun b hb => upd_ne _ _ (by omega)) (.ownf n 0 m cs cs (upd_same _ _ _) (Nat.le_refl _) (fun i a b => by omega) (by omega) hl fun j hj => by rw [Nat.zero_add]; exact (hp j (by omega)).tr)
/-- the body returns a row that it made -/
theorem fin_own {N i m b : Nat} {E : Env} {cs cs' : List GV} (hr : F.res = [.t i]) (hi : i < N) (he : E i = .own b 0 m) (hb : n ≤ b) (hc : H1 b = some cs) (ht : Trs H1 n (n + 1) (fun _ => b) cs cs') (ho : ∀ b, b < n → H1 b = H b) : F.ends1 H n (.own n 0 m) cs' .ret (tl N E) H1 n1 :=
  ⟨.own b 0 m, b, cs, by rw [hr]; simp only [gretv, gress, gres, gat_tl hi, he], .ownk (κ := fun _ => b) n 0 m (Nat.le_refl _) (Nat.lt_succ_self _) (by rw [hc]; simp), hb, hc, ht, ho, rfl⟩
end
end Go.Proofs.Ytdpibcniodhinaa.Gh
/- The ghost code of some functions. -/
namespace Go.Proofs.Ytdpibcniodhinaa.Gh
open Go Go.RowKit
def B_field_order : GCode :=
  (.seq (.region [⟨(some 4), .mov (.c (.int .i64 0)), none⟩])
  (.seq (.seq (.region [⟨(some 6), .mov (.t 0), none⟩,
    ⟨(some 7), .bin .lss (.t 6) (.c (.int .i64 2)), none⟩,
    ⟨(some 8), .mov (.t 7), none⟩,
    ⟨(some 9), .mov (.t 0), (some (8, false))⟩,
    ⟨(some 10), .bin .gtr (.t 9) (.c (.int .i64 256)), (some (8, false))⟩,
    ⟨(some 11), .pick (.t 8) (.c (.bool true)) (.t 10), none⟩,
    ⟨(some 12), .mov (.t 11), none⟩,
    ⟨(some 13), .mov (.t 1), (some (12, false))⟩,
    ⟨(some 14), .bin .lss (.t 13) (.c (.int .i64 1)), (some (12, false))⟩,
    ⟨(some 15), .pick (.t 12) (.c (.bool true)) (.t 14), none⟩,
    ⟨(some 16), .mov (.t 15), none⟩,
    ⟨(some 17), .mov (.t 1), (some (16, false))⟩,
    ⟨(some 18), .bin .gtr (.t 17) (.c (.int .i64 8)), (some (16, false))⟩,
    ⟨(some 19), .pick (.t 16) (.c (.bool true)) (.t 18), none⟩])
  (.cond (.t 19)
  (.seq (.region [⟨(some 4), .mov (.c (.int .i64 0)), none⟩])
  .ret)
  .skip))
  (.seq (.region [⟨(some 5), .mov (.c (.int .i64 1)), none⟩])
  (.seq (.seq (.region [⟨(some 20), .mov (.t 1), none⟩,
    ⟨(some 21), .mov (.c (.int .i64 0)), none⟩])
  (.block 0 (.loop (.seq (.region [⟨(some 22), .bin .lss (.t 21) (.t 20), none⟩])
  (.seq (.cond (.t 22)
  .skip
  (.exit 0))
  (.seq (.block 1 (.seq (.region [⟨(some 23), .mov (.t 5), none⟩,
    ⟨(some 24), .mov (.t 0), none⟩,
    ⟨(some 25), .bin .mul (.t 23) (.t 24), none⟩,
    ⟨(some 5), .mov (.t 25), none⟩])
  (.seq (.region [⟨(some 26), .mov (.t 5), none⟩,
    ⟨(some 27), .bin .gtr (.t 26) (.c (.int .i64 256)), none⟩])
  (.cond (.t 27)
  (.seq (.region [⟨(some 4), .mov (.c (.int .i64 0)), none⟩])
  .ret)
  .skip))))
  (.region [⟨(some 28), .bin .add (.t 21) (.c (.int .i64 1)), none⟩,
    ⟨(some 21), .mov (.t 28), none⟩])))))))
  (.seq (.region [⟨(some 29), .mov (.t 5), none⟩,
    ⟨(some 4), .mov (.t 29), none⟩])
  .ret)))))
def F_field_order : GFun := ⟨2, 30, B_field_order, [.t 4]⟩
theorem ok_field_order : okFun Go.Proofs.Try.prog fid_field_order F_field_order = true := by kernel_rfl
def B_field_isPrime : GCode :=
  (.seq (.region [⟨(some 2), .mov (.c (.bool false)), none⟩])
  (.seq (.seq (.region [⟨(some 3), .mov (.c (.int .i64 2)), none⟩])
  (.block 0 (.loop (.seq (.seq (.region [⟨(some 4), .mov (.t 3), none⟩,
    ⟨(some 5), .mov (.t 3), none⟩,
    ⟨(some 6), .bin .mul (.t 4) (.t 5), none⟩,
    ⟨(some 7), .mov (.t 0), none⟩,
    ⟨(some 8), .bin .leq (.t 6) (.t 7), none⟩])
  (.cond (.t 8)
  .skip
  (.exit 0)))
  (.seq (.block 1 (.seq (.region [⟨(some 11), .mov (.t 0), none⟩,
    ⟨(some 12), .mov (.t 3), none⟩,
    ⟨(some 13), .bin .rem (.t 11) (.t 12), none⟩,
    ⟨(some 14), .bin .eql (.t 13) (.c (.int .i64 0)), none⟩])
  (.cond (.t 14)
  (.seq (.region [⟨(some 2), .mov (.c (.bool false)), none⟩])
  .ret)
  .skip)))
  (.region [⟨(some 9), .mov (.t 3), none⟩,
    ⟨(some 10), .bin .add (.t 9) (.c (.int .i64 1)), none⟩,
    ⟨(some 3), .mov (.t 10), none⟩]))))))
  (.seq (.region [⟨(some 15), .mov (.t 0), none⟩,
    ⟨(some 16), .bin .geq (.t 15) (.c (.int .i64 2)), none⟩,
    ⟨(some 2), .mov (.t 16), none⟩])
  .ret)))
def F_field_isPrime : GFun := ⟨1, 17, B_field_isPrime, [.t 2]⟩
theorem ok_field_isPrime : okFun Go.Proofs.Try.prog fid_field_isPrime F_field_isPrime = true := by kernel_rfl
def B_field_digitsOf : GCode :=
  (.seq (.region [⟨(some 6), .mov (.c (.nil)), none⟩])
  (.seq (.region [⟨(some 9), .mov (.t 2), none⟩,
    ⟨(some 10), .mslice (.int .i64 0) 8 (.t 9) (.t 9), none⟩,
    ⟨(some 7), .mov (.t 10), none⟩])
  (.seq (.seq (.region [⟨(some 11), .mov (.t 7), none⟩,
    ⟨(some 12), .len (.t 11), none⟩,
    ⟨(some 13), .mov (.c (.int .i64 0)), none⟩])
  (.block 0 (.loop (.seq (.region [⟨(some 14), .bin .lss (.t 13) (.t 12), none⟩])
  (.seq (.cond (.t 14)
  .skip
  (.exit 0))
  (.seq (.block 1 (.seq (.region [⟨(some 15), .mov (.t 13), none⟩,
    ⟨(some 8), .mov (.t 15), none⟩])
  (.seq (.region [⟨(some 16), .mov (.t 7), none⟩,
    ⟨(some 17), .mov (.t 8), none⟩,
    ⟨(some 18), .mov (.t 0), none⟩,
    ⟨(some 19), .mov (.t 1), none⟩,
    ⟨(some 20), .bin .rem (.t 18) (.t 19), none⟩,
    ⟨(some 21), .indexAddr 1 (.t 16) (.t 17), none⟩,
    ⟨none, .store 1 (.t 21) (.t 20), none⟩])
  (.region [⟨(some 22), .mov (.t 0), none⟩,
    ⟨(some 23), .mov (.t 1), none⟩,
    ⟨(some 24), .bin .quo (.t 22) (.t 23), none⟩,
    ⟨(some 0), .mov (.t 24), none⟩]))))
  (.region [⟨(some 25), .bin .add (.t 13) (.c (.int .i64 1)), none⟩,
    ⟨(some 13), .mov (.t 25), none⟩])))))))
  (.seq (.region [⟨(some 26), .mov (.t 7), none⟩,
    ⟨(some 6), .mov (.t 26), none⟩])
  .ret))))
def F_field_digitsOf : GFun := ⟨3, 27, B_field_digitsOf, [.t 6]⟩
theorem ok_field_digitsOf : okFun Go.Proofs.Try.prog fid_field_digitsOf F_field_digitsOf = true := by kernel_rfl
def B_field_valueOf : GCode :=
  (.seq (.region [⟨(some 4), .mov (.c (.int .i64 0)), none⟩])
  (.seq (.region [⟨(some 5), .mov (.c (.int .i64 0)), none⟩])
  (.seq (.seq (.region [⟨(some 7), .mov (.t 0), none⟩,
    ⟨(some 8), .len (.t 7), none⟩,
    ⟨(some 9), .bin .sub (.t 8) (.c (.int .i64 1)), none⟩,
    ⟨(some 6), .mov (.t 9), none⟩])
  (.block 0 (.loop (.seq (.seq (.region [⟨(some 10), .mov (.t 6), none⟩,
    ⟨(some 11), .bin .geq (.t 10) (.c (.int .i64 0)), none⟩])
  (.cond (.t 11)
  .skip
  (.exit 0)))
  (.seq (.block 1 (.region [⟨(some 14), .mov (.t 5), none⟩,
    ⟨(some 15), .mov (.t 1), none⟩,
    ⟨(some 16), .bin .mul (.t 14) (.t 15), none⟩,
    ⟨(some 17), .mov (.t 0), none⟩,
    ⟨(some 18), .mov (.t 6), none⟩,
    ⟨(some 19), .indexAddr 1 (.t 17) (.t 18), none⟩,
    ⟨(some 20), .load none (.t 19), none⟩,
    ⟨(some 21), .bin .add (.t 16) (.t 20), none⟩,
    ⟨(some 5), .mov (.t 21), none⟩]))
  (.region [⟨(some 12), .mov (.t 6), none⟩,
    ⟨(some 13), .bin .sub (.t 12) (.c (.int .i64 1)), none⟩,
    ⟨(some 6), .mov (.t 13), none⟩]))))))
  (.seq (.region [⟨(some 22), .mov (.t 5), none⟩,
    ⟨(some 4), .mov (.t 22), none⟩])
  .ret))))
def F_field_valueOf : GFun := ⟨2, 23, B_field_valueOf, [.t 4]⟩
theorem ok_field_valueOf : okFun Go.Proofs.Try.prog fid_field_valueOf F_field_valueOf = true := by kernel_rfl
def B_field_multiply : GCode :=
  (.seq (.region [⟨(some 3), .box (.t 0), none⟩,
    ⟨(some 6), .mov (.c (.int .i64 0)), none⟩])
  (.seq (.draw [0, 0, 2, 0, 8, 31, 0, 0, 128, 0, 512, 2047, 4095, 8191]
    [⟨(some 14), .mov (.t 1), none⟩,
    ⟨(some 15), .fieldAddr 0 (.t 3), none⟩,
    ⟨(some 16), .load none (.t 15), none⟩,
    ⟨(some 17), .fieldAddr 1 (.t 3), none⟩,
    ⟨(some 18), .load none (.t 17), none⟩,
    ⟨(some 19), .call fid_field_digitsOf [(.t 14), (.t 16), (.t 18)], none⟩,
    ⟨(some 20), .mov (.t 2), none⟩,
    ⟨(some 21), .fieldAddr 0 (.t 3), none⟩,
    ⟨(some 22), .load none (.t 21), none⟩,
    ⟨(some 23), .fieldAddr 1 (.t 3), none⟩,
    ⟨(some 24), .load none (.t 23), none⟩]
    [⟨(some 25), .call fid_field_digitsOf [(.t 20), (.t 22), (.t 24)], none⟩,
    ⟨(some 7), .mov (.t 19), none⟩,
    ⟨(some 8), .mov (.t 25), none⟩])
  (.seq (.region [⟨(some 26), .fieldAddr 1 (.t 3), none⟩,
    ⟨(some 27), .load none (.t 26), none⟩,
    ⟨(some 28), .mslice (.int .i64 0) 8 (.t 27) (.t 27), none⟩,
    ⟨(some 9), .mov (.t 28), none⟩])
  (.seq (.seq (.region [⟨(some 29), .fieldAddr 1 (.t 3), none⟩,
    ⟨(some 30), .load none (.t 29), none⟩,
    ⟨(some 31), .bin .sub (.t 30) (.c (.int .i64 1)), none⟩,
    ⟨(some 10), .mov (.t 31), none⟩])
  (.block 0 (.loop (.seq (.seq (.region [⟨(some 32), .mov (.t 10), none⟩,
    ⟨(some 33), .bin .geq (.t 32) (.c (.int .i64 0)), none⟩])
  (.cond (.t 33)
  .skip
  (.exit 0)))
  (.seq (.block 1 (.seq (.region [⟨(some 36), .mov (.t 9), none⟩,
    ⟨(some 37), .fieldAddr 1 (.t 3), none⟩,
    ⟨(some 38), .load none (.t 37), none⟩,
    ⟨(some 39), .bin .sub (.t 38) (.c (.int .i64 1)), none⟩,
    ⟨(some 40), .indexAddr 1 (.t 36) (.t 39), none⟩,
    ⟨(some 41), .load none (.t 40), none⟩,
    ⟨(some 11), .mov (.t 41), none⟩])
  (.seq (.draw [0, 1, 0, 0, 8, 24, 60, 127]
    [⟨(some 42), .mov (.t 9), none⟩,
    ⟨(some 43), .slice (.t 42) (some (.c (.int .i64 1))) none none, none⟩,
    ⟨(some 44), .mov (.t 9), none⟩,
    ⟨(some 45), .fieldAddr 1 (.t 3), none⟩,
    ⟨(some 46), .load none (.t 45), none⟩,
    ⟨(some 47), .bin .sub (.t 46) (.c (.int .i64 1)), none⟩,
    ⟨(some 48), .slice (.t 44) none (some (.t 47)) none, none⟩]
    [⟨(some 49), .copy (.t 43) (.t 48), none⟩])
  (.seq (.region [⟨(some 50), .mov (.t 9), none⟩,
    ⟨(some 51), .indexAddr 1 (.t 50) (.c (.int .i64 0)), none⟩,
    ⟨none, .store 1 (.t 51) (.c (.int .i64 0)), none⟩])
  (.seq (.region [⟨(some 52), .mov (.t 9), none⟩,
    ⟨(some 53), .len (.t 52), none⟩,
    ⟨(some 54), .mov (.c (.int .i64 0)), none⟩])
  (.block 2 (.loop (.seq (.region [⟨(some 55), .bin .lss (.t 54) (.t 53), none⟩])
  (.seq (.cond (.t 55)
  .skip
  (.exit 2))
  (.seq (.block 3 (.seq (.region [⟨(some 56), .mov (.t 54), none⟩,
    ⟨(some 12), .mov (.t 56), none⟩])
  (.seq (.region [⟨(some 13), .mov (.c (.int .i64 0)), none⟩])
  (.seq (.seq (.region [⟨(some 57), .fieldAddr 1 (.t 3), none⟩,
    ⟨(some 58), .load none (.t 57), none⟩,
    ⟨(some 59), .bin .gtr (.t 58) (.c (.int .i64 1)), none⟩])
  (.cond (.t 59)
  (.region [⟨(some 60), .fieldAddr 2 (.t 3), none⟩,
    ⟨(some 61), .load none (.t 60), none⟩,
    ⟨(some 62), .mov (.t 12), none⟩,
    ⟨(some 63), .indexAddr 1 (.t 61) (.t 62), none⟩,
    ⟨(some 64), .load none (.t 63), none⟩,
    ⟨(some 13), .mov (.t 64), none⟩])
  .skip))
  (.draw [0, 0, 0, 0, 12, 28, 0, 64, 0, 448, 0, 1984, 4092, 0, 0, 24576, 57344, 0, 0, 393216, 917504, 2088960, 4194300, 0, 8388608, 33554428, 67108863, 134217727]
    [⟨(some 65), .mov (.t 9), none⟩,
    ⟨(some 66), .mov (.t 12), none⟩,
    ⟨(some 67), .mov (.t 9), none⟩,
    ⟨(some 68), .mov (.t 12), none⟩,
    ⟨(some 69), .indexAddr 1 (.t 67) (.t 68), none⟩,
    ⟨(some 70), .load none (.t 69), none⟩,
    ⟨(some 71), .fieldAddr 0 (.t 3), none⟩,
    ⟨(some 72), .load none (.t 71), none⟩,
    ⟨(some 73), .mov (.t 11), none⟩,
    ⟨(some 74), .bin .sub (.t 72) (.t 73), none⟩,
    ⟨(some 75), .mov (.t 13), none⟩,
    ⟨(some 76), .bin .mul (.t 74) (.t 75), none⟩,
    ⟨(some 77), .bin .add (.t 70) (.t 76), none⟩,
    ⟨(some 78), .mov (.t 8), none⟩,
    ⟨(some 79), .mov (.t 10), none⟩,
    ⟨(some 80), .indexAddr 1 (.t 78) (.t 79), none⟩,
    ⟨(some 81), .load none (.t 80), none⟩,
    ⟨(some 82), .mov (.t 7), none⟩,
    ⟨(some 83), .mov (.t 12), none⟩,
    ⟨(some 84), .indexAddr 1 (.t 82) (.t 83), none⟩,
    ⟨(some 85), .load none (.t 84), none⟩,
    ⟨(some 86), .bin .mul (.t 81) (.t 85), none⟩,
    ⟨(some 87), .bin .add (.t 77) (.t 86), none⟩,
    ⟨(some 88), .fieldAddr 0 (.t 3), none⟩,
    ⟨(some 89), .load none (.t 88), none⟩,
    ⟨(some 90), .bin .rem (.t 87) (.t 89), none⟩]
    [⟨(some 91), .indexAddr 1 (.t 65) (.t 66), none⟩,
    ⟨none, .store 1 (.t 91) (.t 90), none⟩])))))
  (.region [⟨(some 92), .bin .add (.t 54) (.c (.int .i64 1)), none⟩,
    ⟨(some 54), .mov (.t 92), none⟩])))))))))))
  (.region [⟨(some 34), .mov (.t 10), none⟩,
    ⟨(some 35), .bin .sub (.t 34) (.c (.int .i64 1)), none⟩,
    ⟨(some 10), .mov (.t 35), none⟩]))))))
  (.seq (.region [⟨(some 93), .mov (.t 9), none⟩,
    ⟨(some 94), .fieldAddr 0 (.t 3), none⟩,
    ⟨(some 95), .load none (.t 94), none⟩,
    ⟨(some 96), .call fid_field_valueOf [(.t 93), (.t 95)], none⟩,
    ⟨(some 6), .mov (.t 96), none⟩])
  .ret)))))
def F_field_multiply : GFun := ⟨3, 97, B_field_multiply, [.t 6]⟩
theorem ok_field_multiply : okFun Go.Proofs.Try.prog fid_field_multiply F_field_multiply = true := by kernel_rfl
def B_field_powers : GCode :=
  (.seq (.region [⟨(some 3), .box (.t 0), none⟩,
    ⟨(some 6), .mov (.c (.nil)), none⟩])
  (.seq (.region [⟨(some 10), .bslice 1 [.int .i64 0] [(0, 1, (.c (.int .i64 1)))], none⟩,
    ⟨(some 7), .mov (.t 10), none⟩])
  (.seq (.region [⟨(some 11), .mov (.t 1), none⟩,
    ⟨(some 12), .mslice (.bool false) 1 (.t 11) (.t 11), none⟩,
    ⟨(some 8), .mov (.t 12), none⟩])
  (.seq (.region [⟨(some 13), .mov (.t 8), none⟩,
    ⟨(some 14), .indexAddr 1 (.t 13) (.c (.int .i64 1)), none⟩,
    ⟨none, .store 1 (.t 14) (.c (.bool true)), none⟩])
  (.seq (.seq (.region [⟨(some 15), .mov (.t 2), none⟩,
    ⟨(some 9), .mov (.t 15), none⟩])
  (.block 0 (.loop (.seq (.seq (.region [⟨(some 16), .mov (.t 9), none⟩,
    ⟨(some 17), .bin .neq (.t 16) (.c (.int .i64 0)), none⟩,
    ⟨(some 18), .mov (.t 17), none⟩,
    ⟨(some 19), .mov (.t 8), (some (18, true))⟩,
    ⟨(some 20), .mov (.t 9), (some (18, true))⟩,
    ⟨(some 21), .indexAddr 1 (.t 19) (.t 20), (some (18, true))⟩,
    ⟨(some 22), .load none (.t 21), (some (18, true))⟩,
    ⟨(some 23), .un .not (.t 22), (some (18, true))⟩,
    ⟨(some 24), .pick (.t 18) (.t 23) (.c (.bool false)), none⟩])
  (.cond (.t 24)
  .skip
  (.exit 0)))
  (.seq (.block 1 (.seq (.region [⟨(some 29), .mov (.t 8), none⟩,
    ⟨(some 30), .mov (.t 9), none⟩,
    ⟨(some 31), .indexAddr 1 (.t 29) (.t 30), none⟩,
    ⟨none, .store 1 (.t 31) (.c (.bool true)), none⟩])
  (.region [⟨(some 32), .mov (.t 7), none⟩,
    ⟨(some 33), .mov (.t 9), none⟩,
    ⟨(some 34), .bslice 1 [.int .i64 0] [(0, 1, (.t 33))], none⟩,
    ⟨(some 35), .append 8 (.t 32) (.t 34), none⟩,
    ⟨(some 7), .mov (.t 35), none⟩])))
  (.region [⟨(some 25), .load (some 3) (.t 3), none⟩,
    ⟨(some 26), .mov (.t 9), none⟩,
    ⟨(some 27), .mov (.t 2), none⟩,
    ⟨(some 28), .call fid_field_multiply [(.t 25), (.t 26), (.t 27)], none⟩,
    ⟨(some 9), .mov (.t 28), none⟩]))))))
  (.seq (.region [⟨(some 36), .mov (.t 7), none⟩,
    ⟨(some 6), .mov (.t 36), none⟩])
  .ret))))))
def F_field_powers : GFun := ⟨3, 37, B_field_powers, [.t 6]⟩
theorem ok_field_powers : okFun Go.Proofs.Try.prog fid_field_powers F_field_powers = true := by kernel_rfl
def B_field_generator : GCode :=
  (.seq (.region [⟨(some 2), .box (.t 0), none⟩,
    ⟨(some 4), .mov (.c (.nil)), none⟩])
  (.seq (.seq (.region [⟨(some 5), .mov (.c (.int .i64 1)), none⟩])
  (.block 0 (.loop (.seq (.seq (.region [⟨(some 7), .mov (.t 5), none⟩,
    ⟨(some 8), .mov (.t 1), none⟩,
    ⟨(some 9), .bin .lss (.t 7) (.t 8), none⟩])
  (.cond (.t 9)
  .skip
  (.exit 0)))
  (.seq (.block 1 (.seq (.region [⟨(some 12), .load (some 3) (.t 2), none⟩,
    ⟨(some 13), .mov (.t 1), none⟩,
    ⟨(some 14), .mov (.t 5), none⟩,
    ⟨(some 15), .call fid_field_powers [(.t 12), (.t 13), (.t 14)], none⟩,
    ⟨(some 6), .mov (.t 15), none⟩])
  (.seq (.draw [0, 1, 0, 4, 15, 31, 63, 63, 63, 319, 959, 1983, 63, 8191, 16383, 32767]
    [⟨(some 16), .mov (.t 6), none⟩,
    ⟨(some 17), .len (.t 16), none⟩,
    ⟨(some 18), .mov (.t 1), none⟩,
    ⟨(some 19), .bin .sub (.t 18) (.c (.int .i64 1)), none⟩,
    ⟨(some 20), .bin .eql (.t 17) (.t 19), none⟩,
    ⟨(some 21), .mov (.t 20), none⟩,
    ⟨(some 22), .load (some 3) (.t 2), (some (21, true))⟩,
    ⟨(some 23), .mov (.t 6), (some (21, true))⟩,
    ⟨(some 24), .mov (.t 1), (some (21, true))⟩,
    ⟨(some 25), .bin .sub (.t 24) (.c (.int .i64 2)), (some (21, true))⟩,
    ⟨(some 26), .indexAddr 1 (.t 23) (.t 25), (some (21, true))⟩,
    ⟨(some 27), .load none (.t 26), (some (21, true))⟩,
    ⟨(some 28), .mov (.t 5), (some (21, true))⟩]
    [⟨(some 29), .call fid_field_multiply [(.t 22), (.t 27), (.t 28)], (some (21, true))⟩,
    ⟨(some 30), .bin .eql (.t 29) (.c (.int .i64 1)), (some (21, true))⟩,
    ⟨(some 31), .pick (.t 21) (.t 30) (.c (.bool false)), none⟩])
  (.cond (.t 31)
  (.seq (.region [⟨(some 32), .mov (.t 6), none⟩,
    ⟨(some 4), .mov (.t 32), none⟩])
  .ret)
  .skip))))
  (.region [⟨(some 10), .mov (.t 5), none⟩,
    ⟨(some 11), .bin .add (.t 10) (.c (.int .i64 1)), none⟩,
    ⟨(some 5), .mov (.t 11), none⟩]))))))
  (.seq (.region [⟨(some 4), .mov (.c (.nil)), none⟩])
  .ret)))
def F_field_generator : GFun := ⟨2, 33, B_field_generator, [.t 4]⟩
theorem ok_field_generator : okFun Go.Proofs.Try.prog fid_field_generator F_field_generator = true := by kernel_rfl
def B_field_shape : GCode :=
  (.seq (.region [⟨(some 1), .box (.t 0), none⟩,
    ⟨(some 2), .mov (.c (.bool false)), none⟩])
  (.seq (.seq (.region [⟨(some 5), .fieldAddr 0 (.t 1), none⟩,
    ⟨(some 6), .load none (.t 5), none⟩,
    ⟨(some 7), .fieldAddr 1 (.t 1), none⟩,
    ⟨(some 8), .load none (.t 7), none⟩,
    ⟨(some 9), .call fid_field_order [(.t 6), (.t 8)], none⟩,
    ⟨(some 10), .bin .eql (.t 9) (.c (.int .i64 0)), none⟩,
    ⟨(some 11), .mov (.t 10), none⟩,
    ⟨(some 12), .fieldAddr 0 (.t 1), (some (11, false))⟩,
    ⟨(some 13), .load none (.t 12), (some (11, false))⟩,
    ⟨(some 14), .call fid_field_isPrime [(.t 13)], (some (11, false))⟩,
    ⟨(some 15), .un .not (.t 14), (some (11, false))⟩,
    ⟨(some 16), .pick (.t 11) (.c (.bool true)) (.t 15), none⟩])
  (.cond (.t 16)
  (.seq (.region [⟨(some 2), .mov (.c (.bool false)), none⟩])
  .ret)
  .skip))
  (.seq (.seq (.region [⟨(some 17), .fieldAddr 1 (.t 1), none⟩,
    ⟨(some 18), .load none (.t 17), none⟩,
    ⟨(some 19), .bin .eql (.t 18) (.c (.int .i64 1)), none⟩])
  (.cond (.t 19)
  (.seq (.region [⟨(some 20), .fieldAddr 2 (.t 1), none⟩,
    ⟨(some 21), .load none (.t 20), none⟩,
    ⟨(some 22), .len (.t 21), none⟩,
    ⟨(some 23), .bin .eql (.t 22) (.c (.int .i64 0)), none⟩,
    ⟨(some 2), .mov (.t 23), none⟩])
  .ret)
  .skip))
  (.seq (.seq (.region [⟨(some 24), .fieldAddr 2 (.t 1), none⟩,
    ⟨(some 25), .load none (.t 24), none⟩,
    ⟨(some 26), .len (.t 25), none⟩,
    ⟨(some 27), .fieldAddr 1 (.t 1), none⟩,
    ⟨(some 28), .load none (.t 27), none⟩,
    ⟨(some 29), .bin .neq (.t 26) (.t 28), none⟩])
  (.cond (.t 29)
  (.seq (.region [⟨(some 2), .mov (.c (.bool false)), none⟩])
  .ret)
  .skip))
  (.seq (.seq (.region [⟨(some 30), .fieldAddr 2 (.t 1), none⟩,
    ⟨(some 31), .load none (.t 30), none⟩,
    ⟨(some 32), .len (.t 31), none⟩,
    ⟨(some 33), .mov (.c (.int .i64 0)), none⟩])
  (.block 0 (.loop (.seq (.region [⟨(some 34), .bin .lss (.t 33) (.t 32), none⟩])
  (.seq (.cond (.t 34)
  .skip
  (.exit 0))
  (.seq (.block 1 (.seq (.region [⟨(some 35), .indexAddr 1 (.t 31) (.t 33), none⟩,
    ⟨(some 36), .load none (.t 35), none⟩,
    ⟨(some 4), .mov (.t 36), none⟩])
  (.seq (.region [⟨(some 37), .mov (.t 4), none⟩,
    ⟨(some 38), .bin .lss (.t 37) (.c (.int .i64 0)), none⟩,
    ⟨(some 39), .mov (.t 38), none⟩,
    ⟨(some 40), .mov (.t 4), (some (39, false))⟩,
    ⟨(some 41), .fieldAddr 0 (.t 1), (some (39, false))⟩,
    ⟨(some 42), .load none (.t 41), (some (39, false))⟩,
    ⟨(some 43), .bin .geq (.t 40) (.t 42), (some (39, false))⟩,
    ⟨(some 44), .pick (.t 39) (.c (.bool true)) (.t 43), none⟩])
  (.cond (.t 44)
  (.seq (.region [⟨(some 2), .mov (.c (.bool false)), none⟩])
  .ret)
  .skip))))
  (.region [⟨(some 45), .bin .add (.t 33) (.c (.int .i64 1)), none⟩,
    ⟨(some 33), .mov (.t 45), none⟩])))))))
  (.seq (.region [⟨(some 2), .mov (.c (.bool true)), none⟩])
  .ret))))))
def F_field_shape : GFun := ⟨1, 46, B_field_shape, [.t 2]⟩
theorem ok_field_shape : okFun Go.Proofs.Try.prog fid_field_shape F_field_shape = true := by kernel_rfl
def B_field_New : GCode :=
  (.seq (.region [⟨(some 1), .box (.t 0), none⟩,
    ⟨(some 2), .mov (.c (.nilp)), none⟩,
    ⟨(some 3), .mov (.c (.int .i64 0)), none⟩])
  (.seq (.seq (.region [⟨(some 9), .load (some 3) (.t 1), none⟩,
    ⟨(some 10), .call fid_field_shape [(.t 9)], none⟩,
    ⟨(some 11), .un .not (.t 10), none⟩])
  (.cond (.t 11)
  (.seq (.region [⟨(some 2), .mov (.c (.nilp)), none⟩,
    ⟨(some 3), .mov (.c (.int .i64 1)), none⟩])
  .ret)
  .skip))
  (.seq (.region [⟨(some 12), .fieldAddr 0 (.t 1), none⟩,
    ⟨(some 13), .load none (.t 12), none⟩,
    ⟨(some 14), .fieldAddr 1 (.t 1), none⟩,
    ⟨(some 15), .load none (.t 14), none⟩,
    ⟨(some 16), .call fid_field_order [(.t 13), (.t 15)], none⟩,
    ⟨(some 4), .mov (.t 16), none⟩])
  (.seq (.region [⟨(some 17), .load (some 3) (.t 1), none⟩,
    ⟨(some 18), .mov (.t 4), none⟩,
    ⟨(some 19), .call fid_field_generator [(.t 17), (.t 18)], none⟩,
    ⟨(some 5), .mov (.t 19), none⟩])
  (.seq (.seq (.region [⟨(some 20), .mov (.t 5), none⟩,
    ⟨(some 21), .isnil false (.t 20), none⟩])
  (.cond (.t 21)
  (.seq (.region [⟨(some 2), .mov (.c (.nilp)), none⟩,
    ⟨(some 3), .mov (.c (.int .i64 1)), none⟩])
  .ret)
  .skip))
  (.seq (.draw [0, 1, 0, 4, 0, 0, 32, 112, 255, 0, 0, 0, 2048, 8191, 16383, 32767]
    [⟨(some 22), .fieldAddr 0 (.t 1), none⟩,
    ⟨(some 23), .load none (.t 22), none⟩,
    ⟨(some 24), .fieldAddr 1 (.t 1), none⟩,
    ⟨(some 25), .load none (.t 24), none⟩,
    ⟨(some 26), .empty, none⟩,
    ⟨(some 27), .fieldAddr 2 (.t 1), none⟩,
    ⟨(some 28), .load none (.t 27), none⟩,
    ⟨(some 29), .append 8 (.t 26) (.t 28), none⟩,
    ⟨(some 30), .build [.int .i64 0, .int .i64 0, .nil] [(0, 1, (.t 23)), (1, 1, (.t 25)), (2, 1, (.t 29))], none⟩,
    ⟨(some 31), .mov (.t 4), none⟩,
    ⟨(some 32), .mov (.t 5), none⟩,
    ⟨(some 33), .mov (.t 4), none⟩,
    ⟨(some 34), .mslice (.int .i64 0) 8 (.t 33) (.t 33), none⟩]
    [⟨(some 35), .build [.int .i64 0, .int .i64 0, .nil, .int .i64 0, .nil, .nil] [(0, 3, (.t 30)), (3, 1, (.t 31)), (4, 1, (.t 32)), (5, 1, (.t 34))], none⟩,
    ⟨(some 36), .box (.t 35), none⟩,
    ⟨(some 6), .mov (.t 36), none⟩])
  (.seq (.seq (.region [⟨(some 37), .mov (.t 5), none⟩,
    ⟨(some 38), .len (.t 37), none⟩,
    ⟨(some 39), .mov (.c (.int .i64 0)), none⟩])
  (.block 0 (.loop (.seq (.region [⟨(some 40), .bin .lss (.t 39) (.t 38), none⟩])
  (.seq (.cond (.t 40)
  .skip
  (.exit 0))
  (.seq (.block 1 (.seq (.region [⟨(some 41), .mov (.t 39), none⟩,
    ⟨(some 42), .indexAddr 1 (.t 37) (.t 39), none⟩,
    ⟨(some 43), .load none (.t 42), none⟩,
    ⟨(some 7), .mov (.t 41), none⟩,
    ⟨(some 8), .mov (.t 43), none⟩])
  (.region [⟨(some 44), .mov (.t 6), none⟩,
    ⟨(some 45), .nilCheck (.t 44), none⟩,
    ⟨(some 46), .fieldAddr 5 (.t 45), none⟩,
    ⟨(some 47), .load none (.t 46), none⟩,
    ⟨(some 48), .mov (.t 8), none⟩,
    ⟨(some 49), .mov (.t 7), none⟩,
    ⟨(some 50), .indexAddr 1 (.t 47) (.t 48), none⟩,
    ⟨none, .store 1 (.t 50) (.t 49), none⟩])))
  (.region [⟨(some 51), .bin .add (.t 39) (.c (.int .i64 1)), none⟩,
    ⟨(some 39), .mov (.t 51), none⟩])))))))
  (.seq (.region [⟨(some 52), .mov (.t 6), none⟩,
    ⟨(some 2), .mov (.t 52), none⟩,
    ⟨(some 3), .mov (.c (.int .i64 0)), none⟩])
  .ret))))))))
def F_field_New : GFun := ⟨1, 53, B_field_New, [.t 2, .t 3]⟩
theorem ok_field_New : okFun Go.Proofs.Try.prog fid_field_New F_field_New = true := by kernel_rfl
def B_field_GF_Order : GCode :=
  (.seq (.region [⟨(some 2), .mov (.c (.int .i64 0)), none⟩])
  (.seq (.region [⟨(some 3), .mov (.t 0), none⟩,
    ⟨(some 4), .nilCheck (.t 3), none⟩,
    ⟨(some 5), .fieldAddr 3 (.t 4), none⟩,
    ⟨(some 6), .load none (.t 5), none⟩,
    ⟨(some 2), .mov (.t 6), none⟩])
  .ret))
def F_field_GF_Order : GFun := ⟨1, 7, B_field_GF_Order, [.t 2]⟩
theorem ok_field_GF_Order : okFun Go.Proofs.Try.prog fid_field_GF_Order F_field_GF_Order = true := by kernel_rfl
def B_field_GF_Is : GCode :=
  (.seq (.region [⟨(some 4), .mov (.c (.bool false)), none⟩])
  (.seq (.region [⟨(some 5), .mov (.t 1), none⟩,
    ⟨(some 6), .bin .geq (.t 5) (.c (.int .i64 0)), none⟩,
    ⟨(some 7), .mov (.t 6), none⟩,
    ⟨(some 8), .mov (.t 1), (some (7, true))⟩,
    ⟨(some 9), .mov (.t 0), (some (7, true))⟩,
    ⟨(some 10), .nilCheck (.t 9), (some (7, true))⟩,
    ⟨(some 11), .fieldAddr 3 (.t 10), (some (7, true))⟩,
    ⟨(some 12), .load none (.t 11), (some (7, true))⟩,
    ⟨(some 13), .bin .lss (.t 8) (.t 12), (some (7, true))⟩,
    ⟨(some 14), .pick (.t 7) (.t 13) (.c (.bool false)), none⟩,
    ⟨(some 4), .mov (.t 14), none⟩])
  .ret))
def F_field_GF_Is : GFun := ⟨2, 15, B_field_GF_Is, [.t 4]⟩
theorem ok_field_GF_Is : okFun Go.Proofs.Try.prog fid_field_GF_Is F_field_GF_Is = true := by kernel_rfl
def B_field_GF_in : GCode :=
  (.seq (.region [⟨(some 4), .mov (.c (.int .i64 0)), none⟩])
  (.seq (.seq (.region [⟨(some 5), .mov (.t 0), none⟩,
    ⟨(some 6), .mov (.t 1), none⟩,
    ⟨(some 7), .call fid_field_GF_Is [(.t 5), (.t 6)], none⟩])
  (.cond (.t 7)
  (.seq (.region [⟨(some 8), .mov (.t 1), none⟩,
    ⟨(some 4), .mov (.t 8), none⟩])
  .ret)
  .skip))
  (.seq (.region [⟨(some 4), .mov (.c (.int .i64 0)), none⟩])
  .ret)))
def F_field_GF_in : GFun := ⟨2, 9, B_field_GF_in, [.t 4]⟩
theorem ok_field_GF_in : okFun Go.Proofs.Try.prog fid_field_GF_in F_field_GF_in = true := by kernel_rfl
def B_field_GF_Add : GCode :=
  (.seq (.region [⟨(some 6), .mov (.c (.int .i64 0)), none⟩])
  (.seq (.region [⟨(some 9), .mov (.t 0), none⟩,
    ⟨(some 10), .mov (.t 1), none⟩,
    ⟨(some 11), .call fid_field_GF_in [(.t 9), (.t 10)], none⟩,
    ⟨(some 12), .mov (.t 0), none⟩,
    ⟨(some 13), .mov (.t 2), none⟩,
    ⟨(some 14), .call fid_field_GF_in [(.t 12), (.t 13)], none⟩,
    ⟨(some 1), .mov (.t 11), none⟩,
    ⟨(some 2), .mov (.t 14), none⟩])
  (.seq (.seq (.region [⟨(some 15), .mov (.t 0), none⟩,
    ⟨(some 16), .nilCheck (.t 15), none⟩,
    ⟨(some 17), .fieldAddr 0 (.t 16), none⟩,
    ⟨(some 18), .fieldAddr 0 (.t 17), none⟩,
    ⟨(some 19), .load none (.t 18), none⟩,
    ⟨(some 20), .bin .eql (.t 19) (.c (.int .i64 2)), none⟩])
  (.cond (.t 20)
  (.seq (.region [⟨(some 21), .mov (.t 1), none⟩,
    ⟨(some 22), .mov (.t 2), none⟩,
    ⟨(some 23), .bin .xor (.t 21) (.t 22), none⟩,
    ⟨(some 6), .mov (.t 23), none⟩])
  .ret)
  .skip))
  (.seq (.region [⟨(some 7), .mov (.c (.int .i64 0)), none⟩,
    ⟨(some 8), .mov (.c (.int .i64 1)), none⟩])
  (.seq (.block 0 (.loop (.seq (.seq (.region [⟨(some 24), .mov (.t 1), none⟩,
    ⟨(some 25), .bin .gtr (.t 24) (.c (.int .i64 0)), none⟩,
    ⟨(some 26), .mov (.t 25), none⟩,
    ⟨(some 27), .mov (.t 2), (some (26, false))⟩,
    ⟨(some 28), .bin .gtr (.t 27) (.c (.int .i64 0)), (some (26, false))⟩,
    ⟨(some 29), .pick (.t 26) (.c (.bool true)) (.t 28), none⟩])
  (.cond (.t 29)
  .skip
  (.exit 0)))
  (.block 1 (.seq (.draw [0, 0, 0, 4, 12, 28, 60, 126, 0, 0, 512, 1536, 3584, 7680, 16128, 32766, 0, 65536, 196608, 458752, 983040, 2097150, 0, 8388606, 16777215, 33554431]
    [⟨(some 30), .mov (.t 7), none⟩,
    ⟨(some 31), .mov (.t 1), none⟩,
    ⟨(some 32), .mov (.t 0), none⟩,
    ⟨(some 33), .nilCheck (.t 32), none⟩,
    ⟨(some 34), .fieldAddr 0 (.t 33), none⟩,
    ⟨(some 35), .fieldAddr 0 (.t 34), none⟩,
    ⟨(some 36), .load none (.t 35), none⟩,
    ⟨(some 37), .bin .rem (.t 31) (.t 36), none⟩,
    ⟨(some 38), .mov (.t 2), none⟩,
    ⟨(some 39), .mov (.t 0), none⟩,
    ⟨(some 40), .nilCheck (.t 39), none⟩,
    ⟨(some 41), .fieldAddr 0 (.t 40), none⟩,
    ⟨(some 42), .fieldAddr 0 (.t 41), none⟩,
    ⟨(some 43), .load none (.t 42), none⟩,
    ⟨(some 44), .bin .rem (.t 38) (.t 43), none⟩,
    ⟨(some 45), .bin .add (.t 37) (.t 44), none⟩,
    ⟨(some 46), .mov (.t 0), none⟩,
    ⟨(some 47), .nilCheck (.t 46), none⟩,
    ⟨(some 48), .fieldAddr 0 (.t 47), none⟩,
    ⟨(some 49), .fieldAddr 0 (.t 48), none⟩,
    ⟨(some 50), .load none (.t 49), none⟩,
    ⟨(some 51), .bin .rem (.t 45) (.t 50), none⟩,
    ⟨(some 52), .mov (.t 8), none⟩,
    ⟨(some 53), .bin .mul (.t 51) (.t 52), none⟩]
    [⟨(some 54), .bin .add (.t 30) (.t 53), none⟩,
    ⟨(some 7), .mov (.t 54), none⟩])
  (.seq (.region [⟨(some 55), .mov (.t 8), none⟩,
    ⟨(some 56), .mov (.t 0), none⟩,
    ⟨(some 57), .nilCheck (.t 56), none⟩,
    ⟨(some 58), .fieldAddr 0 (.t 57), none⟩,
    ⟨(some 59), .fieldAddr 0 (.t 58), none⟩,
    ⟨(some 60), .load none (.t 59), none⟩,
    ⟨(some 61), .bin .mul (.t 55) (.t 60), none⟩,
    ⟨(some 8), .mov (.t 61), none⟩])
  (.seq (.region [⟨(some 62), .mov (.t 1), none⟩,
    ⟨(some 63), .mov (.t 0), none⟩,
    ⟨(some 64), .nilCheck (.t 63), none⟩,
    ⟨(some 65), .fieldAddr 0 (.t 64), none⟩,
    ⟨(some 66), .fieldAddr 0 (.t 65), none⟩,
    ⟨(some 67), .load none (.t 66), none⟩,
    ⟨(some 68), .bin .quo (.t 62) (.t 67), none⟩,
    ⟨(some 1), .mov (.t 68), none⟩])
  (.region [⟨(some 69), .mov (.t 2), none⟩,
    ⟨(some 70), .mov (.t 0), none⟩,
    ⟨(some 71), .nilCheck (.t 70), none⟩,
    ⟨(some 72), .fieldAddr 0 (.t 71), none⟩,
    ⟨(some 73), .fieldAddr 0 (.t 72), none⟩,
    ⟨(some 74), .load none (.t 73), none⟩,
    ⟨(some 75), .bin .quo (.t 69) (.t 74), none⟩,
    ⟨(some 2), .mov (.t 75), none⟩]))))))))
  (.seq (.region [⟨(some 76), .mov (.t 7), none⟩,
    ⟨(some 6), .mov (.t 76), none⟩])
  .ret))))))
def F_field_GF_Add : GFun := ⟨3, 77, B_field_GF_Add, [.t 6]⟩
theorem ok_field_GF_Add : okFun Go.Proofs.Try.prog fid_field_GF_Add F_field_GF_Add = true := by kernel_rfl
def B_field_GF_Mul : GCode :=
  (.seq (.region [⟨(some 6), .mov (.c (.int .i64 0)), none⟩])
  (.seq (.region [⟨(some 7), .mov (.t 0), none⟩,
    ⟨(some 8), .mov (.t 1), none⟩,
    ⟨(some 9), .call fid_field_GF_in [(.t 7), (.t 8)], none⟩,
    ⟨(some 10), .mov (.t 0), none⟩,
    ⟨(some 11), .mov (.t 2), none⟩,
    ⟨(some 12), .call fid_field_GF_in [(.t 10), (.t 11)], none⟩,
    ⟨(some 1), .mov (.t 9), none⟩,
    ⟨(some 2), .mov (.t 12), none⟩])
  (.seq (.seq (.region [⟨(some 13), .mov (.t 1), none⟩,
    ⟨(some 14), .bin .eql (.t 13) (.c (.int .i64 0)), none⟩,
    ⟨(some 15), .mov (.t 14), none⟩,
    ⟨(some 16), .mov (.t 2), (some (15, false))⟩,
    ⟨(some 17), .bin .eql (.t 16) (.c (.int .i64 0)), (some (15, false))⟩,
    ⟨(some 18), .pick (.t 15) (.c (.bool true)) (.t 17), none⟩])
  (.cond (.t 18)
  (.seq (.region [⟨(some 6), .mov (.c (.int .i64 0)), none⟩])
  .ret)
  .skip))
  (.seq (.draw [0, 1, 3, 7, 0, 16, 48, 112, 0, 496, 1008, 0, 2048, 6144, 14336, 0, 63488, 129024, 262128, 0, 524288, 1572864, 3670016, 7864320, 16777200, 33554431, 67108863, 134217727]
    [⟨(some 19), .mov (.t 0), none⟩,
    ⟨(some 20), .nilCheck (.t 19), none⟩,
    ⟨(some 21), .fieldAddr 4 (.t 20), none⟩,
    ⟨(some 22), .load none (.t 21), none⟩,
    ⟨(some 23), .mov (.t 0), none⟩,
    ⟨(some 24), .nilCheck (.t 23), none⟩,
    ⟨(some 25), .fieldAddr 5 (.t 24), none⟩,
    ⟨(some 26), .load none (.t 25), none⟩,
    ⟨(some 27), .mov (.t 1), none⟩,
    ⟨(some 28), .indexAddr 1 (.t 26) (.t 27), none⟩,
    ⟨(some 29), .load none (.t 28), none⟩,
    ⟨(some 30), .mov (.t 0), none⟩,
    ⟨(some 31), .nilCheck (.t 30), none⟩,
    ⟨(some 32), .fieldAddr 5 (.t 31), none⟩,
    ⟨(some 33), .load none (.t 32), none⟩,
    ⟨(some 34), .mov (.t 2), none⟩,
    ⟨(some 35), .indexAddr 1 (.t 33) (.t 34), none⟩,
    ⟨(some 36), .load none (.t 35), none⟩,
    ⟨(some 37), .bin .add (.t 29) (.t 36), none⟩,
    ⟨(some 38), .mov (.t 0), none⟩,
    ⟨(some 39), .nilCheck (.t 38), none⟩,
    ⟨(some 40), .fieldAddr 3 (.t 39), none⟩,
    ⟨(some 41), .load none (.t 40), none⟩,
    ⟨(some 42), .bin .sub (.t 41) (.c (.int .i64 1)), none⟩,
    ⟨(some 43), .bin .rem (.t 37) (.t 42), none⟩]
    [⟨(some 44), .indexAddr 1 (.t 22) (.t 43), none⟩,
    ⟨(some 45), .load none (.t 44), none⟩,
    ⟨(some 6), .mov (.t 45), none⟩])
  .ret))))
def F_field_GF_Mul : GFun := ⟨3, 46, B_field_GF_Mul, [.t 6]⟩
theorem ok_field_GF_Mul : okFun Go.Proofs.Try.prog fid_field_GF_Mul F_field_GF_Mul = true := by kernel_rfl
def B_poly_Canon : GCode :=
  (.seq (.region [⟨(some 4), .mov (.c (.nil)), none⟩])
  (.seq (.region [⟨(some 8), .mov (.t 1), none⟩,
    ⟨(some 9), .len (.t 8), none⟩,
    ⟨(some 10), .mslice (.int .i64 0) 8 (.t 9) (.t 9), none⟩,
    ⟨(some 5), .mov (.t 10), none⟩])
  (.seq (.seq (.region [⟨(some 11), .mov (.t 1), none⟩,
    ⟨(some 12), .len (.t 11), none⟩,
    ⟨(some 13), .mov (.c (.int .i64 0)), none⟩])
  (.block 0 (.loop (.seq (.region [⟨(some 14), .bin .lss (.t 13) (.t 12), none⟩])
  (.seq (.cond (.t 14)
  .skip
  (.exit 0))
  (.seq (.block 1 (.seq (.region [⟨(some 15), .mov (.t 13), none⟩,
    ⟨(some 16), .indexAddr 1 (.t 11) (.t 13), none⟩,
    ⟨(some 17), .load none (.t 16), none⟩,
    ⟨(some 6), .mov (.t 15), none⟩,
    ⟨(some 7), .mov (.t 17), none⟩])
  (.seq (.region [⟨(some 18), .mov (.t 0), none⟩,
    ⟨(some 19), .mov (.t 7), none⟩,
    ⟨(some 20), .call fid_field_GF_Is [(.t 18), (.t 19)], none⟩])
  (.cond (.t 20)
  (.region [⟨(some 21), .mov (.t 5), none⟩,
    ⟨(some 22), .mov (.t 6), none⟩,
    ⟨(some 23), .mov (.t 7), none⟩,
    ⟨(some 24), .indexAddr 1 (.t 21) (.t 22), none⟩,
    ⟨none, .store 1 (.t 24) (.t 23), none⟩])
  .skip))))
  (.region [⟨(some 25), .bin .add (.t 13) (.c (.int .i64 1)), none⟩,
    ⟨(some 13), .mov (.t 25), none⟩])))))))
  (.seq (.region [⟨(some 26), .mov (.t 5), none⟩,
    ⟨(some 27), .call fid_poly_trim [(.t 26)], none⟩,
    ⟨(some 4), .mov (.t 27), none⟩])
  .ret))))
def F_poly_Canon : GFun := ⟨2, 28, B_poly_Canon, [.t 4]⟩
theorem ok_poly_Canon : okFun Go.Proofs.Try.prog fid_poly_Canon F_poly_Canon = true := by kernel_rfl
def B_poly_trim : GCode :=
  (.seq (.region [⟨(some 2), .mov (.c (.nil)), none⟩])
  (.seq (.block 0 (.loop (.seq (.seq (.region [⟨(some 3), .mov (.t 0), none⟩,
    ⟨(some 4), .len (.t 3), none⟩,
    ⟨(some 5), .bin .gtr (.t 4) (.c (.int .i64 0)), none⟩,
    ⟨(some 6), .mov (.t 5), none⟩,
    ⟨(some 7), .mov (.t 0), (some (6, true))⟩,
    ⟨(some 8), .mov (.t 0), (some (6, true))⟩,
    ⟨(some 9), .len (.t 8), (some (6, true))⟩,
    ⟨(some 10), .bin .sub (.t 9) (.c (.int .i64 1)), (some (6, true))⟩,
    ⟨(some 11), .indexAddr 1 (.t 7) (.t 10), (some (6, true))⟩,
    ⟨(some 12), .load none (.t 11), (some (6, true))⟩,
    ⟨(some 13), .bin .eql (.t 12) (.c (.int .i64 0)), (some (6, true))⟩,
    ⟨(some 14), .pick (.t 6) (.t 13) (.c (.bool false)), none⟩])
  (.cond (.t 14)
  .skip
  (.exit 0)))
  (.block 1 (.region [⟨(some 15), .mov (.t 0), none⟩,
    ⟨(some 16), .mov (.t 0), none⟩,
    ⟨(some 17), .len (.t 16), none⟩,
    ⟨(some 18), .bin .sub (.t 17) (.c (.int .i64 1)), none⟩,
    ⟨(some 19), .slice (.t 15) none (some (.t 18)) none, none⟩,
    ⟨(some 0), .mov (.t 19), none⟩])))))
  (.seq (.region [⟨(some 20), .mov (.t 0), none⟩,
    ⟨(some 2), .mov (.t 20), none⟩])
  .ret)))
def F_poly_trim : GFun := ⟨1, 21, B_poly_trim, [.t 2]⟩
theorem ok_poly_trim : okFun Go.Proofs.Try.prog fid_poly_trim F_poly_trim = true := by kernel_rfl
def B_number_Exp : GCode :=
  (.seq (.region [⟨(some 6), .mov (.c (.int .i64 0)), none⟩,
    ⟨(some 7), .mov (.c (.int .i64 0)), none⟩])
  (.seq (.seq (.region [⟨(some 9), .mov (.t 0), none⟩,
    ⟨(some 10), .bin .lss (.t 9) (.c (.int .i64 0)), none⟩,
    ⟨(some 11), .mov (.t 10), none⟩,
    ⟨(some 12), .mov (.t 1), (some (11, false))⟩,
    ⟨(some 13), .bin .lss (.t 12) (.c (.int .i64 0)), (some (11, false))⟩,
    ⟨(some 14), .pick (.t 11) (.c (.bool true)) (.t 13), none⟩,
    ⟨(some 15), .mov (.t 14), none⟩,
    ⟨(some 16), .mov (.t 2), (some (15, false))⟩,
    ⟨(some 17), .bin .lss (.t 16) (.c (.int .i64 0)), (some (15, false))⟩,
    ⟨(some 18), .pick (.t 15) (.c (.bool true)) (.t 17), none⟩])
  (.cond (.t 18)
  (.seq (.region [⟨(some 6), .mov (.c (.int .i64 0)), none⟩,
    ⟨(some 7), .mov (.c (.int .i64 6)), none⟩])
  .ret)
  .skip))
  (.seq (.seq (.region [⟨(some 19), .mov (.t 0), none⟩,
    ⟨(some 20), .bin .eql (.t 19) (.c (.int .i64 0)), none⟩,
    ⟨(some 21), .mov (.t 20), none⟩,
    ⟨(some 22), .mov (.t 1), (some (21, true))⟩,
    ⟨(some 23), .bin .gtr (.t 22) (.c (.int .i64 0)), (some (21, true))⟩,
    ⟨(some 24), .pick (.t 21) (.t 23) (.c (.bool false)), none⟩])
  (.cond (.t 24)
  (.seq (.region [⟨(some 6), .mov (.c (.int .i64 0)), none⟩,
    ⟨(some 7), .mov (.c (.int .i64 0)), none⟩])
  .ret)
  .skip))
  (.seq (.seq (.region [⟨(some 25), .mov (.t 2), none⟩,
    ⟨(some 26), .bin .eql (.t 25) (.c (.int .i64 0)), none⟩])
  (.cond (.t 26)
  (.seq (.region [⟨(some 6), .mov (.c (.int .i64 0)), none⟩,
    ⟨(some 7), .mov (.c (.int .i64 8)), none⟩])
  .ret)
  .skip))
  (.seq (.region [⟨(some 8), .mov (.c (.int .i64 1)), none⟩])
  (.seq (.block 0 (.loop (.seq (.seq (.region [⟨(some 27), .mov (.t 1), none⟩,
    ⟨(some 28), .bin .gtr (.t 27) (.c (.int .i64 0)), none⟩,
    ⟨(some 29), .mov (.t 28), none⟩,
    ⟨(some 30), .mov (.t 0), (some (29, true))⟩,
    ⟨(some 31), .bin .gtr (.t 30) (.c (.int .i64 1)), (some (29, true))⟩,
    ⟨(some 32), .pick (.t 29) (.t 31) (.c (.bool false)), none⟩])
  (.cond (.t 32)
  .skip
  (.exit 0)))
  (.seq (.block 1 (.seq (.seq (.region [⟨(some 35), .mov (.t 8), none⟩,
    ⟨(some 36), .mov (.t 2), none⟩,
    ⟨(some 37), .mov (.t 0), none⟩,
    ⟨(some 38), .bin .quo (.t 36) (.t 37), none⟩,
    ⟨(some 39), .bin .gtr (.t 35) (.t 38), none⟩])
  (.cond (.t 39)
  (.seq (.region [⟨(some 6), .mov (.c (.int .i64 0)), none⟩,
    ⟨(some 7), .mov (.c (.int .i64 8)), none⟩])
  .ret)
  .skip))
  (.region [⟨(some 40), .mov (.t 8), none⟩,
    ⟨(some 41), .mov (.t 0), none⟩,
    ⟨(some 42), .bin .mul (.t 40) (.t 41), none⟩,
    ⟨(some 8), .mov (.t 42), none⟩])))
  (.region [⟨(some 33), .mov (.t 1), none⟩,
    ⟨(some 34), .bin .sub (.t 33) (.c (.int .i64 1)), none⟩,
    ⟨(some 1), .mov (.t 34), none⟩])))))
  (.seq (.region [⟨(some 43), .mov (.t 8), none⟩,
    ⟨(some 6), .mov (.t 43), none⟩,
    ⟨(some 7), .mov (.c (.int .i64 0)), none⟩])
  .ret)))))))
def F_number_Exp : GFun := ⟨3, 44, B_number_Exp, [.t 6, .t 7]⟩
theorem ok_number_Exp : okFun Go.Proofs.Try.prog fid_number_Exp F_number_Exp = true := by kernel_rfl
def B_ref04_Order : GCode :=
  (.seq (.region [⟨(some 1), .box (.t 0), none⟩,
    ⟨(some 2), .mov (.c (.int .i64 0)), none⟩])
  (.seq (.seq (.region [⟨(some 5), .fieldAddr 0 (.t 1), none⟩,
    ⟨(some 6), .load none (.t 5), none⟩,
    ⟨(some 7), .bin .lss (.t 6) (.c (.int .i64 2)), none⟩,
    ⟨(some 8), .mov (.t 7), none⟩,
    ⟨(some 9), .fieldAddr 1 (.t 1), (some (8, false))⟩,
    ⟨(some 10), .load none (.t 9), (some (8, false))⟩,
    ⟨(some 11), .bin .lss (.t 10) (.c (.int .i64 1)), (some (8, false))⟩,
    ⟨(some 12), .pick (.t 8) (.c (.bool true)) (.t 11), none⟩,
    ⟨(some 13), .mov (.t 12), none⟩,
    ⟨(some 14), .fieldAddr 1 (.t 1), (some (13, false))⟩,
    ⟨(some 15), .load none (.t 14), (some (13, false))⟩,
    ⟨(some 16), .bin .gtr (.t 15) (.c (.int .i64 8)), (some (13, false))⟩,
    ⟨(some 17), .pick (.t 13) (.c (.bool true)) (.t 16), none⟩])
  (.cond (.t 17)
  (.seq (.region [⟨(some 2), .mov (.c (.int .i64 0)), none⟩])
  .ret)
  .skip))
  (.seq (.region [⟨(some 3), .mov (.c (.int .i64 1)), none⟩])
  (.seq (.seq (.region [⟨(some 4), .mov (.c (.int .i64 0)), none⟩])
  (.block 0 (.loop (.seq (.seq (.region [⟨(some 18), .mov (.t 4), none⟩,
    ⟨(some 19), .fieldAddr 1 (.t 1), none⟩,
    ⟨(some 20), .load none (.t 19), none⟩,
    ⟨(some 21), .bin .lss (.t 18) (.t 20), none⟩])
  (.cond (.t 21)
  .skip
  (.exit 0)))
  (.seq (.block 1 (.seq (.seq (.region [⟨(some 24), .mov (.t 3), none⟩,
    ⟨(some 25), .fieldAddr 0 (.t 1), none⟩,
    ⟨(some 26), .load none (.t 25), none⟩,
    ⟨(some 27), .bin .quo (.c (.int .i64 256)) (.t 26), none⟩,
    ⟨(some 28), .bin .gtr (.t 24) (.t 27), none⟩])
  (.cond (.t 28)
  (.seq (.region [⟨(some 2), .mov (.c (.int .i64 0)), none⟩])
  .ret)
  .skip))
  (.region [⟨(some 29), .mov (.t 3), none⟩,
    ⟨(some 30), .fieldAddr 0 (.t 1), none⟩,
    ⟨(some 31), .load none (.t 30), none⟩,
    ⟨(some 32), .bin .mul (.t 29) (.t 31), none⟩,
    ⟨(some 3), .mov (.t 32), none⟩])))
  (.region [⟨(some 22), .mov (.t 4), none⟩,
    ⟨(some 23), .bin .add (.t 22) (.c (.int .i64 1)), none⟩,
    ⟨(some 4), .mov (.t 23), none⟩]))))))
  (.seq (.region [⟨(some 33), .mov (.t 3), none⟩,
    ⟨(some 2), .mov (.t 33), none⟩])
  .ret)))))
def F_ref04_Order : GFun := ⟨1, 34, B_ref04_Order, [.t 2]⟩
theorem ok_ref04_Order : okFun Go.Proofs.Try.prog fid_ref04_Order F_ref04_Order = true := by kernel_rfl
def B_ref04_prime : GCode :=
  (.seq (.region [⟨(some 2), .mov (.c (.bool false)), none⟩])
  (.seq (.seq (.region [⟨(some 3), .mov (.c (.int .i64 2)), none⟩])
  (.block 0 (.loop (.seq (.seq (.region [⟨(some 4), .mov (.t 3), none⟩,
    ⟨(some 5), .mov (.t 0), none⟩,
    ⟨(some 6), .bin .lss (.t 4) (.t 5), none⟩])
  (.cond (.t 6)
  .skip
  (.exit 0)))
  (.seq (.block 1 (.seq (.region [⟨(some 9), .mov (.t 0), none⟩,
    ⟨(some 10), .mov (.t 3), none⟩,
    ⟨(some 11), .bin .rem (.t 9) (.t 10), none⟩,
    ⟨(some 12), .bin .eql (.t 11) (.c (.int .i64 0)), none⟩])
  (.cond (.t 12)
  (.seq (.region [⟨(some 2), .mov (.c (.bool false)), none⟩])
  .ret)
  .skip)))
  (.region [⟨(some 7), .mov (.t 3), none⟩,
    ⟨(some 8), .bin .add (.t 7) (.c (.int .i64 1)), none⟩,
    ⟨(some 3), .mov (.t 8), none⟩]))))))
  (.seq (.region [⟨(some 2), .mov (.c (.bool true)), none⟩])
  .ret)))
def F_ref04_prime : GFun := ⟨1, 13, B_ref04_prime, [.t 2]⟩
theorem ok_ref04_prime : okFun Go.Proofs.Try.prog fid_ref04_prime F_ref04_prime = true := by kernel_rfl
def B_ref04_digits : GCode :=
  (.seq (.region [⟨(some 6), .mov (.c (.nil)), none⟩])
  (.seq (.region [⟨(some 9), .mov (.t 2), none⟩,
    ⟨(some 10), .mslice (.int .i64 0) 8 (.t 9) (.t 9), none⟩,
    ⟨(some 7), .mov (.t 10), none⟩])
  (.seq (.seq (.region [⟨(some 8), .mov (.c (.int .i64 0)), none⟩])
  (.block 0 (.loop (.seq (.seq (.region [⟨(some 11), .mov (.t 8), none⟩,
    ⟨(some 12), .mov (.t 2), none⟩,
    ⟨(some 13), .bin .lss (.t 11) (.t 12), none⟩])
  (.cond (.t 13)
  .skip
  (.exit 0)))
  (.seq (.block 1 (.seq (.region [⟨(some 16), .mov (.t 7), none⟩,
    ⟨(some 17), .mov (.t 8), none⟩,
    ⟨(some 18), .mov (.t 0), none⟩,
    ⟨(some 19), .mov (.t 1), none⟩,
    ⟨(some 20), .bin .rem (.t 18) (.t 19), none⟩,
    ⟨(some 21), .indexAddr 1 (.t 16) (.t 17), none⟩,
    ⟨none, .store 1 (.t 21) (.t 20), none⟩])
  (.region [⟨(some 22), .mov (.t 0), none⟩,
    ⟨(some 23), .mov (.t 1), none⟩,
    ⟨(some 24), .bin .quo (.t 22) (.t 23), none⟩,
    ⟨(some 0), .mov (.t 24), none⟩])))
  (.region [⟨(some 14), .mov (.t 8), none⟩,
    ⟨(some 15), .bin .add (.t 14) (.c (.int .i64 1)), none⟩,
    ⟨(some 8), .mov (.t 15), none⟩]))))))
  (.seq (.region [⟨(some 25), .mov (.t 7), none⟩,
    ⟨(some 6), .mov (.t 25), none⟩])
  .ret))))
def F_ref04_digits : GFun := ⟨3, 26, B_ref04_digits, [.t 6]⟩
theorem ok_ref04_digits : okFun Go.Proofs.Try.prog fid_ref04_digits F_ref04_digits = true := by kernel_rfl
def B_ref04_Value : GCode :=
  (.seq (.region [⟨(some 2), .box (.t 0), none⟩,
    ⟨(some 4), .mov (.c (.int .i64 0)), none⟩])
  (.seq (.region [⟨(some 5), .mov (.c (.int .i64 0)), none⟩])
  (.seq (.seq (.region [⟨(some 7), .mov (.t 1), none⟩,
    ⟨(some 8), .len (.t 7), none⟩,
    ⟨(some 9), .bin .sub (.t 8) (.c (.int .i64 1)), none⟩,
    ⟨(some 6), .mov (.t 9), none⟩])
  (.block 0 (.loop (.seq (.seq (.region [⟨(some 10), .mov (.t 6), none⟩,
    ⟨(some 11), .bin .geq (.t 10) (.c (.int .i64 0)), none⟩])
  (.cond (.t 11)
  .skip
  (.exit 0)))
  (.seq (.block 1 (.draw [0, 0, 2, 7, 0, 0, 48, 112, 255, 511]
    [⟨(some 14), .mov (.t 5), none⟩,
    ⟨(some 15), .fieldAddr 0 (.t 2), none⟩,
    ⟨(some 16), .load none (.t 15), none⟩,
    ⟨(some 17), .bin .mul (.t 14) (.t 16), none⟩,
    ⟨(some 18), .mov (.t 1), none⟩,
    ⟨(some 19), .mov (.t 6), none⟩,
    ⟨(some 20), .indexAddr 1 (.t 18) (.t 19), none⟩,
    ⟨(some 21), .load none (.t 20), none⟩]
    [⟨(some 22), .bin .add (.t 17) (.t 21), none⟩,
    ⟨(some 5), .mov (.t 22), none⟩]))
  (.region [⟨(some 12), .mov (.t 6), none⟩,
    ⟨(some 13), .bin .sub (.t 12) (.c (.int .i64 1)), none⟩,
    ⟨(some 6), .mov (.t 13), none⟩]))))))
  (.seq (.region [⟨(some 23), .mov (.t 5), none⟩,
    ⟨(some 4), .mov (.t 23), none⟩])
  .ret))))
def F_ref04_Value : GFun := ⟨2, 24, B_ref04_Value, [.t 4]⟩
theorem ok_ref04_Value : okFun Go.Proofs.Try.prog fid_ref04_Value F_ref04_Value = true := by kernel_rfl
def B_ref04_Is : GCode :=
  (.seq (.region [⟨(some 2), .box (.t 0), none⟩,
    ⟨(some 4), .mov (.c (.bool false)), none⟩])
  (.seq (.region [⟨(some 5), .mov (.t 1), none⟩,
    ⟨(some 6), .bin .geq (.t 5) (.c (.int .i64 0)), none⟩,
    ⟨(some 7), .mov (.t 6), none⟩,
    ⟨(some 8), .mov (.t 1), (some (7, true))⟩,
    ⟨(some 9), .load (some 3) (.t 2), (some (7, true))⟩,
    ⟨(some 10), .call fid_ref04_Order [(.t 9)], (some (7, true))⟩,
    ⟨(some 11), .bin .lss (.t 8) (.t 10), (some (7, true))⟩,
    ⟨(some 12), .pick (.t 7) (.t 11) (.c (.bool false)), none⟩,
    ⟨(some 4), .mov (.t 12), none⟩])
  .ret))
def F_ref04_Is : GFun := ⟨2, 13, B_ref04_Is, [.t 4]⟩
theorem ok_ref04_Is : okFun Go.Proofs.Try.prog fid_ref04_Is F_ref04_Is = true := by kernel_rfl
def B_ref04_In : GCode :=
  (.seq (.region [⟨(some 2), .box (.t 0), none⟩,
    ⟨(some 4), .mov (.c (.int .i64 0)), none⟩])
  (.seq (.seq (.region [⟨(some 5), .load (some 3) (.t 2), none⟩,
    ⟨(some 6), .mov (.t 1), none⟩,
    ⟨(some 7), .call fid_ref04_Is [(.t 5), (.t 6)], none⟩])
  (.cond (.t 7)
  (.seq (.region [⟨(some 8), .mov (.t 1), none⟩,
    ⟨(some 4), .mov (.t 8), none⟩])
  .ret)
  .skip))
  (.seq (.region [⟨(some 4), .mov (.c (.int .i64 0)), none⟩])
  .ret)))
def F_ref04_In : GFun := ⟨2, 9, B_ref04_In, [.t 4]⟩
theorem ok_ref04_In : okFun Go.Proofs.Try.prog fid_ref04_In F_ref04_In = true := by kernel_rfl
def B_ref04_Digits : GCode :=
  (.seq (.region [⟨(some 2), .box (.t 0), none⟩,
    ⟨(some 4), .mov (.c (.nil)), none⟩])
  (.seq (.draw [0, 0, 3, 0, 8, 0, 32, 127, 255]
    [⟨(some 5), .load (some 3) (.t 2), none⟩,
    ⟨(some 6), .mov (.t 1), none⟩,
    ⟨(some 7), .call fid_ref04_In [(.t 5), (.t 6)], none⟩,
    ⟨(some 8), .fieldAddr 0 (.t 2), none⟩,
    ⟨(some 9), .load none (.t 8), none⟩,
    ⟨(some 10), .fieldAddr 1 (.t 2), none⟩,
    ⟨(some 11), .load none (.t 10), none⟩]
    [⟨(some 12), .call fid_ref04_digits [(.t 7), (.t 9), (.t 11)], none⟩,
    ⟨(some 4), .mov (.t 12), none⟩])
  .ret))
def F_ref04_Digits : GFun := ⟨2, 13, B_ref04_Digits, [.t 4]⟩
theorem ok_ref04_Digits : okFun Go.Proofs.Try.prog fid_ref04_Digits F_ref04_Digits = true := by kernel_rfl
def B_ref04_Add : GCode :=
  (.seq (.region [⟨(some 3), .box (.t 0), none⟩,
    ⟨(some 6), .mov (.c (.int .i64 0)), none⟩])
  (.seq (.region [⟨(some 10), .load (some 3) (.t 3), none⟩,
    ⟨(some 11), .mov (.t 1), none⟩,
    ⟨(some 12), .call fid_ref04_Digits [(.t 10), (.t 11)], none⟩,
    ⟨(some 7), .mov (.t 12), none⟩])
  (.seq (.region [⟨(some 13), .load (some 3) (.t 3), none⟩,
    ⟨(some 14), .mov (.t 2), none⟩,
    ⟨(some 15), .call fid_ref04_Digits [(.t 13), (.t 14)], none⟩,
    ⟨(some 8), .mov (.t 15), none⟩])
  (.seq (.seq (.region [⟨(some 9), .mov (.c (.int .i64 0)), none⟩])
  (.block 0 (.loop (.seq (.seq (.region [⟨(some 16), .mov (.t 9), none⟩,
    ⟨(some 17), .mov (.t 7), none⟩,
    ⟨(some 18), .len (.t 17), none⟩,
    ⟨(some 19), .bin .lss (.t 16) (.t 18), none⟩])
  (.cond (.t 19)
  .skip
  (.exit 0)))
  (.seq (.block 1 (.draw [0, 0, 0, 0, 12, 28, 0, 0, 192, 448, 1020, 0, 2048, 8188, 16383, 32767]
    [⟨(some 22), .mov (.t 7), none⟩,
    ⟨(some 23), .mov (.t 9), none⟩,
    ⟨(some 24), .mov (.t 7), none⟩,
    ⟨(some 25), .mov (.t 9), none⟩,
    ⟨(some 26), .indexAddr 1 (.t 24) (.t 25), none⟩,
    ⟨(some 27), .load none (.t 26), none⟩,
    ⟨(some 28), .mov (.t 8), none⟩,
    ⟨(some 29), .mov (.t 9), none⟩,
    ⟨(some 30), .indexAddr 1 (.t 28) (.t 29), none⟩,
    ⟨(some 31), .load none (.t 30), none⟩,
    ⟨(some 32), .bin .add (.t 27) (.t 31), none⟩,
    ⟨(some 33), .fieldAddr 0 (.t 3), none⟩,
    ⟨(some 34), .load none (.t 33), none⟩,
    ⟨(some 35), .bin .rem (.t 32) (.t 34), none⟩]
    [⟨(some 36), .indexAddr 1 (.t 22) (.t 23), none⟩,
    ⟨none, .store 1 (.t 36) (.t 35), none⟩]))
  (.region [⟨(some 20), .mov (.t 9), none⟩,
    ⟨(some 21), .bin .add (.t 20) (.c (.int .i64 1)), none⟩,
    ⟨(some 9), .mov (.t 21), none⟩]))))))
  (.seq (.region [⟨(some 37), .load (some 3) (.t 3), none⟩,
    ⟨(some 38), .mov (.t 7), none⟩,
    ⟨(some 39), .call fid_ref04_Value [(.t 37), (.t 38)], none⟩,
    ⟨(some 6), .mov (.t 39), none⟩])
  .ret)))))
def F_ref04_Add : GFun := ⟨3, 40, B_ref04_Add, [.t 6]⟩
theorem ok_ref04_Add : okFun Go.Proofs.Try.prog fid_ref04_Add F_ref04_Add = true := by kernel_rfl
def B_ref04_Mul : GCode :=
  (.seq (.region [⟨(some 3), .box (.t 0), none⟩,
    ⟨(some 6), .mov (.c (.int .i64 0)), none⟩])
  (.seq (.region [⟨(some 14), .load (some 3) (.t 3), none⟩,
    ⟨(some 15), .mov (.t 1), none⟩,
    ⟨(some 16), .call fid_ref04_Digits [(.t 14), (.t 15)], none⟩,
    ⟨(some 7), .mov (.t 16), none⟩])
  (.seq (.region [⟨(some 17), .load (some 3) (.t 3), none⟩,
    ⟨(some 18), .mov (.t 2), none⟩,
    ⟨(some 19), .call fid_ref04_Digits [(.t 17), (.t 18)], none⟩,
    ⟨(some 8), .mov (.t 19), none⟩])
  (.seq (.region [⟨(some 20), .fieldAddr 1 (.t 3), none⟩,
    ⟨(some 21), .load none (.t 20), none⟩,
    ⟨(some 22), .bin .mul (.c (.int .i64 2)) (.t 21), none⟩,
    ⟨(some 23), .bin .sub (.t 22) (.c (.int .i64 1)), none⟩,
    ⟨(some 24), .mslice (.int .i64 0) 8 (.t 23) (.t 23), none⟩,
    ⟨(some 9), .mov (.t 24), none⟩])
  (.seq (.seq (.region [⟨(some 10), .mov (.c (.int .i64 0)), none⟩])
  (.block 0 (.loop (.seq (.seq (.region [⟨(some 25), .mov (.t 10), none⟩,
    ⟨(some 26), .fieldAddr 1 (.t 3), none⟩,
    ⟨(some 27), .load none (.t 26), none⟩,
    ⟨(some 28), .bin .lss (.t 25) (.t 27), none⟩])
  (.cond (.t 28)
  .skip
  (.exit 0)))
  (.seq (.block 1 (.seq (.region [⟨(some 11), .mov (.c (.int .i64 0)), none⟩])
  (.block 2 (.loop (.seq (.seq (.region [⟨(some 31), .mov (.t 11), none⟩,
    ⟨(some 32), .fieldAddr 1 (.t 3), none⟩,
    ⟨(some 33), .load none (.t 32), none⟩,
    ⟨(some 34), .bin .lss (.t 31) (.t 33), none⟩])
  (.cond (.t 34)
  .skip
  (.exit 2)))
  (.seq (.block 3 (.draw [0, 0, 0, 6, 0, 0, 0, 96, 240, 496, 0, 0, 3072, 7168, 0, 0, 49152, 114688, 261120, 524272, 0, 1048576, 4194288, 8388607, 16777215]
    [⟨(some 37), .mov (.t 9), none⟩,
    ⟨(some 38), .mov (.t 10), none⟩,
    ⟨(some 39), .mov (.t 11), none⟩,
    ⟨(some 40), .bin .add (.t 38) (.t 39), none⟩,
    ⟨(some 41), .mov (.t 9), none⟩,
    ⟨(some 42), .mov (.t 10), none⟩,
    ⟨(some 43), .mov (.t 11), none⟩,
    ⟨(some 44), .bin .add (.t 42) (.t 43), none⟩,
    ⟨(some 45), .indexAddr 1 (.t 41) (.t 44), none⟩,
    ⟨(some 46), .load none (.t 45), none⟩,
    ⟨(some 47), .mov (.t 7), none⟩,
    ⟨(some 48), .mov (.t 10), none⟩,
    ⟨(some 49), .indexAddr 1 (.t 47) (.t 48), none⟩,
    ⟨(some 50), .load none (.t 49), none⟩,
    ⟨(some 51), .mov (.t 8), none⟩,
    ⟨(some 52), .mov (.t 11), none⟩,
    ⟨(some 53), .indexAddr 1 (.t 51) (.t 52), none⟩,
    ⟨(some 54), .load none (.t 53), none⟩,
    ⟨(some 55), .bin .mul (.t 50) (.t 54), none⟩,
    ⟨(some 56), .bin .add (.t 46) (.t 55), none⟩,
    ⟨(some 57), .fieldAddr 0 (.t 3), none⟩,
    ⟨(some 58), .load none (.t 57), none⟩,
    ⟨(some 59), .bin .rem (.t 56) (.t 58), none⟩]
    [⟨(some 60), .indexAddr 1 (.t 37) (.t 40), none⟩,
    ⟨none, .store 1 (.t 60) (.t 59), none⟩]))
  (.region [⟨(some 35), .mov (.t 11), none⟩,
    ⟨(some 36), .bin .add (.t 35) (.c (.int .i64 1)), none⟩,
    ⟨(some 11), .mov (.t 36), none⟩])))))))
  (.region [⟨(some 29), .mov (.t 10), none⟩,
    ⟨(some 30), .bin .add (.t 29) (.c (.int .i64 1)), none⟩,
    ⟨(some 10), .mov (.t 30), none⟩]))))))
  (.seq (.seq (.region [⟨(some 61), .fieldAddr 1 (.t 3), none⟩,
    ⟨(some 62), .load none (.t 61), none⟩,
    ⟨(some 63), .bin .mul (.c (.int .i64 2)) (.t 62), none⟩,
    ⟨(some 64), .bin .sub (.t 63) (.c (.int .i64 2)), none⟩,
    ⟨(some 12), .mov (.t 64), none⟩])
  (.block 4 (.loop (.seq (.seq (.region [⟨(some 65), .mov (.t 12), none⟩,
    ⟨(some 66), .fieldAddr 1 (.t 3), none⟩,
    ⟨(some 67), .load none (.t 66), none⟩,
    ⟨(some 68), .bin .geq (.t 65) (.t 67), none⟩])
  (.cond (.t 68)
  .skip
  (.exit 4)))
  (.seq (.block 5 (.seq (.region [⟨(some 13), .mov (.c (.int .i64 0)), none⟩])
  (.block 6 (.loop (.seq (.seq (.region [⟨(some 71), .mov (.t 13), none⟩,
    ⟨(some 72), .fieldAddr 1 (.t 3), none⟩,
    ⟨(some 73), .load none (.t 72), none⟩,
    ⟨(some 74), .bin .lss (.t 71) (.t 73), none⟩])
  (.cond (.t 74)
  .skip
  (.exit 6)))
  (.seq (.block 7 (.draw [0, 0, 0, 4, 14, 0, 62, 0, 0, 0, 512, 1792, 0, 7936, 16256, 32640, 0, 65536, 0, 0, 786432, 1835008, 4128768, 0, 8388608, 0, 58720256, 125829120, 268369920, 536870784, 0, 1073741824, 4294967168, 8589934591, 17179869183]
    [⟨(some 77), .mov (.t 9), none⟩,
    ⟨(some 78), .mov (.t 12), none⟩,
    ⟨(some 79), .fieldAddr 1 (.t 3), none⟩,
    ⟨(some 80), .load none (.t 79), none⟩,
    ⟨(some 81), .bin .sub (.t 78) (.t 80), none⟩,
    ⟨(some 82), .mov (.t 13), none⟩,
    ⟨(some 83), .bin .add (.t 81) (.t 82), none⟩,
    ⟨(some 84), .mov (.t 9), none⟩,
    ⟨(some 85), .mov (.t 12), none⟩,
    ⟨(some 86), .fieldAddr 1 (.t 3), none⟩,
    ⟨(some 87), .load none (.t 86), none⟩,
    ⟨(some 88), .bin .sub (.t 85) (.t 87), none⟩,
    ⟨(some 89), .mov (.t 13), none⟩,
    ⟨(some 90), .bin .add (.t 88) (.t 89), none⟩,
    ⟨(some 91), .indexAddr 1 (.t 84) (.t 90), none⟩,
    ⟨(some 92), .load none (.t 91), none⟩,
    ⟨(some 93), .fieldAddr 0 (.t 3), none⟩,
    ⟨(some 94), .load none (.t 93), none⟩,
    ⟨(some 95), .mov (.t 9), none⟩,
    ⟨(some 96), .mov (.t 12), none⟩,
    ⟨(some 97), .indexAddr 1 (.t 95) (.t 96), none⟩,
    ⟨(some 98), .load none (.t 97), none⟩,
    ⟨(some 99), .bin .sub (.t 94) (.t 98), none⟩,
    ⟨(some 100), .fieldAddr 2 (.t 3), none⟩,
    ⟨(some 101), .load none (.t 100), none⟩,
    ⟨(some 102), .mov (.t 13), none⟩,
    ⟨(some 103), .indexAddr 1 (.t 101) (.t 102), none⟩,
    ⟨(some 104), .load none (.t 103), none⟩,
    ⟨(some 105), .bin .mul (.t 99) (.t 104), none⟩,
    ⟨(some 106), .bin .add (.t 92) (.t 105), none⟩,
    ⟨(some 107), .fieldAddr 0 (.t 3), none⟩,
    ⟨(some 108), .load none (.t 107), none⟩,
    ⟨(some 109), .bin .rem (.t 106) (.t 108), none⟩]
    [⟨(some 110), .indexAddr 1 (.t 77) (.t 83), none⟩,
    ⟨none, .store 1 (.t 110) (.t 109), none⟩]))
  (.region [⟨(some 75), .mov (.t 13), none⟩,
    ⟨(some 76), .bin .add (.t 75) (.c (.int .i64 1)), none⟩,
    ⟨(some 13), .mov (.t 76), none⟩])))))))
  (.region [⟨(some 69), .mov (.t 12), none⟩,
    ⟨(some 70), .bin .sub (.t 69) (.c (.int .i64 1)), none⟩,
    ⟨(some 12), .mov (.t 70), none⟩]))))))
  (.seq (.draw [0, 0, 0, 4, 14, 31, 63]
    [⟨(some 111), .load (some 3) (.t 3), none⟩,
    ⟨(some 112), .mov (.t 9), none⟩,
    ⟨(some 113), .fieldAddr 1 (.t 3), none⟩,
    ⟨(some 114), .load none (.t 113), none⟩,
    ⟨(some 115), .slice (.t 112) none (some (.t 114)) none, none⟩]
    [⟨(some 116), .call fid_ref04_Value [(.t 111), (.t 115)], none⟩,
    ⟨(some 6), .mov (.t 116), none⟩])
  .ret)))))))
def F_ref04_Mul : GFun := ⟨3, 117, B_ref04_Mul, [.t 6]⟩
theorem ok_ref04_Mul : okFun Go.Proofs.Try.prog fid_ref04_Mul F_ref04_Mul = true := by kernel_rfl
def B_ref04_Dot : GCode :=
  (.seq (.region [⟨(some 3), .box (.t 0), none⟩,
    ⟨(some 6), .mov (.c (.int .i64 0)), none⟩])
  (.seq (.region [⟨(some 7), .mov (.c (.int .i64 0)), none⟩])
  (.seq (.seq (.region [⟨(some 8), .mov (.c (.int .i64 0)), none⟩])
  (.block 0 (.loop (.seq (.seq (.region [⟨(some 9), .mov (.t 8), none⟩,
    ⟨(some 10), .mov (.t 1), none⟩,
    ⟨(some 11), .len (.t 10), none⟩,
    ⟨(some 12), .bin .lss (.t 9) (.t 11), none⟩,
    ⟨(some 13), .mov (.t 12), none⟩,
    ⟨(some 14), .mov (.t 8), (some (13, true))⟩,
    ⟨(some 15), .mov (.t 2), (some (13, true))⟩,
    ⟨(some 16), .len (.t 15), (some (13, true))⟩,
    ⟨(some 17), .bin .lss (.t 14) (.t 16), (some (13, true))⟩,
    ⟨(some 18), .pick (.t 13) (.t 17) (.c (.bool false)), none⟩])
  (.cond (.t 18)
  .skip
  (.exit 0)))
  (.seq (.block 1 (.draw [0, 0, 0, 0, 0, 24, 56, 0, 0, 384, 896, 2044, 4095, 8191]
    [⟨(some 21), .load (some 3) (.t 3), none⟩,
    ⟨(some 22), .mov (.t 7), none⟩,
    ⟨(some 23), .load (some 3) (.t 3), none⟩,
    ⟨(some 24), .mov (.t 1), none⟩,
    ⟨(some 25), .mov (.t 8), none⟩,
    ⟨(some 26), .indexAddr 1 (.t 24) (.t 25), none⟩,
    ⟨(some 27), .load none (.t 26), none⟩,
    ⟨(some 28), .mov (.t 2), none⟩,
    ⟨(some 29), .mov (.t 8), none⟩,
    ⟨(some 30), .indexAddr 1 (.t 28) (.t 29), none⟩,
    ⟨(some 31), .load none (.t 30), none⟩,
    ⟨(some 32), .call fid_ref04_Mul [(.t 23), (.t 27), (.t 31)], none⟩]
    [⟨(some 33), .call fid_ref04_Add [(.t 21), (.t 22), (.t 32)], none⟩,
    ⟨(some 7), .mov (.t 33), none⟩]))
  (.region [⟨(some 19), .mov (.t 8), none⟩,
    ⟨(some 20), .bin .add (.t 19) (.c (.int .i64 1)), none⟩,
    ⟨(some 8), .mov (.t 20), none⟩]))))))
  (.seq (.region [⟨(some 34), .mov (.t 7), none⟩,
    ⟨(some 6), .mov (.t 34), none⟩])
  .ret))))
def F_ref04_Dot : GFun := ⟨3, 35, B_ref04_Dot, [.t 6]⟩
theorem ok_ref04_Dot : okFun Go.Proofs.Try.prog fid_ref04_Dot F_ref04_Dot = true := by kernel_rfl
def B_ref04_divides : GCode :=
  (.seq (.region [⟨(some 6), .mov (.c (.bool false)), none⟩])
  (.seq (.region [⟨(some 13), .mov (.t 0), none⟩,
    ⟨(some 14), .len (.t 13), none⟩,
    ⟨(some 7), .mov (.t 14), none⟩])
  (.seq (.region [⟨(some 15), .empty, none⟩,
    ⟨(some 16), .mov (.t 1), none⟩,
    ⟨(some 17), .append 8 (.t 15) (.t 16), none⟩,
    ⟨(some 8), .mov (.t 17), none⟩])
  (.seq (.region [⟨(some 18), .mov (.t 8), none⟩,
    ⟨(some 19), .bslice 1 [.int .i64 0] [(0, 1, (.c (.int .i64 1)))], none⟩,
    ⟨(some 20), .append 8 (.t 18) (.t 19), none⟩,
    ⟨(some 8), .mov (.t 20), none⟩])
  (.seq (.seq (.region [⟨(some 21), .mov (.t 8), none⟩,
    ⟨(some 22), .len (.t 21), none⟩,
    ⟨(some 23), .bin .sub (.t 22) (.c (.int .i64 1)), none⟩,
    ⟨(some 9), .mov (.t 23), none⟩])
  (.block 0 (.loop (.seq (.seq (.region [⟨(some 24), .mov (.t 9), none⟩,
    ⟨(some 25), .mov (.t 7), none⟩,
    ⟨(some 26), .bin .geq (.t 24) (.t 25), none⟩])
  (.cond (.t 26)
  .skip
  (.exit 0)))
  (.seq (.block 1 (.seq (.region [⟨(some 29), .mov (.t 8), none⟩,
    ⟨(some 30), .mov (.t 9), none⟩,
    ⟨(some 31), .indexAddr 1 (.t 29) (.t 30), none⟩,
    ⟨(some 32), .load none (.t 31), none⟩,
    ⟨(some 10), .mov (.t 32), none⟩])
  (.seq (.seq (.region [⟨(some 11), .mov (.c (.int .i64 0)), none⟩])
  (.block 2 (.loop (.seq (.seq (.region [⟨(some 33), .mov (.t 11), none⟩,
    ⟨(some 34), .mov (.t 7), none⟩,
    ⟨(some 35), .bin .lss (.t 33) (.t 34), none⟩])
  (.cond (.t 35)
  .skip
  (.exit 2)))
  (.seq (.block 3 (.draw [0, 0, 0, 6, 0, 30, 0, 0, 0, 384, 0, 1920, 4032, 8128, 0, 0, 49152, 0, 0, 393216, 917504, 2080768, 4194240, 0, 16777152, 33554431, 67108863]
    [⟨(some 38), .mov (.t 8), none⟩,
    ⟨(some 39), .mov (.t 9), none⟩,
    ⟨(some 40), .mov (.t 7), none⟩,
    ⟨(some 41), .bin .sub (.t 39) (.t 40), none⟩,
    ⟨(some 42), .mov (.t 11), none⟩,
    ⟨(some 43), .bin .add (.t 41) (.t 42), none⟩,
    ⟨(some 44), .mov (.t 8), none⟩,
    ⟨(some 45), .mov (.t 9), none⟩,
    ⟨(some 46), .mov (.t 7), none⟩,
    ⟨(some 47), .bin .sub (.t 45) (.t 46), none⟩,
    ⟨(some 48), .mov (.t 11), none⟩,
    ⟨(some 49), .bin .add (.t 47) (.t 48), none⟩,
    ⟨(some 50), .indexAddr 1 (.t 44) (.t 49), none⟩,
    ⟨(some 51), .load none (.t 50), none⟩,
    ⟨(some 52), .mov (.t 2), none⟩,
    ⟨(some 53), .mov (.t 10), none⟩,
    ⟨(some 54), .bin .sub (.t 52) (.t 53), none⟩,
    ⟨(some 55), .mov (.t 0), none⟩,
    ⟨(some 56), .mov (.t 11), none⟩,
    ⟨(some 57), .indexAddr 1 (.t 55) (.t 56), none⟩,
    ⟨(some 58), .load none (.t 57), none⟩,
    ⟨(some 59), .bin .mul (.t 54) (.t 58), none⟩,
    ⟨(some 60), .bin .add (.t 51) (.t 59), none⟩,
    ⟨(some 61), .mov (.t 2), none⟩,
    ⟨(some 62), .bin .rem (.t 60) (.t 61), none⟩]
    [⟨(some 63), .indexAddr 1 (.t 38) (.t 43), none⟩,
    ⟨none, .store 1 (.t 63) (.t 62), none⟩]))
  (.region [⟨(some 36), .mov (.t 11), none⟩,
    ⟨(some 37), .bin .add (.t 36) (.c (.int .i64 1)), none⟩,
    ⟨(some 11), .mov (.t 37), none⟩]))))))
  (.region [⟨(some 64), .mov (.t 8), none⟩,
    ⟨(some 65), .mov (.t 9), none⟩,
    ⟨(some 66), .indexAddr 1 (.t 64) (.t 65), none⟩,
    ⟨none, .store 1 (.t 66) (.c (.int .i64 0)), none⟩]))))
  (.region [⟨(some 27), .mov (.t 9), none⟩,
    ⟨(some 28), .bin .sub (.t 27) (.c (.int .i64 1)), none⟩,
    ⟨(some 9), .mov (.t 28), none⟩]))))))
  (.seq (.seq (.region [⟨(some 12), .mov (.c (.int .i64 0)), none⟩])
  (.block 4 (.loop (.seq (.seq (.region [⟨(some 67), .mov (.t 12), none⟩,
    ⟨(some 68), .mov (.t 8), none⟩,
    ⟨(some 69), .len (.t 68), none⟩,
    ⟨(some 70), .bin .lss (.t 67) (.t 69), none⟩])
  (.cond (.t 70)
  .skip
  (.exit 4)))
  (.seq (.block 5 (.seq (.region [⟨(some 73), .mov (.t 8), none⟩,
    ⟨(some 74), .mov (.t 12), none⟩,
    ⟨(some 75), .indexAddr 1 (.t 73) (.t 74), none⟩,
    ⟨(some 76), .load none (.t 75), none⟩,
    ⟨(some 77), .bin .neq (.t 76) (.c (.int .i64 0)), none⟩])
  (.cond (.t 77)
  (.seq (.region [⟨(some 6), .mov (.c (.bool false)), none⟩])
  .ret)
  .skip)))
  (.region [⟨(some 71), .mov (.t 12), none⟩,
    ⟨(some 72), .bin .add (.t 71) (.c (.int .i64 1)), none⟩,
    ⟨(some 12), .mov (.t 72), none⟩]))))))
  (.seq (.region [⟨(some 6), .mov (.c (.bool true)), none⟩])
  .ret)))))))
def F_ref04_divides : GFun := ⟨3, 78, B_ref04_divides, [.t 6]⟩
theorem ok_ref04_divides : okFun Go.Proofs.Try.prog fid_ref04_divides F_ref04_divides = true := by kernel_rfl
def B_ref04_irreducible : GCode :=
  (.seq (.region [⟨(some 4), .mov (.c (.bool false)), none⟩])
  (.seq (.region [⟨(some 5), .mov (.c (.int .i64 1)), none⟩])
  (.seq (.seq (.region [⟨(some 6), .mov (.c (.int .i64 1)), none⟩])
  (.block 0 (.loop (.seq (.seq (.region [⟨(some 8), .mov (.t 6), none⟩,
    ⟨(some 9), .bin .mul (.c (.int .i64 2)) (.t 8), none⟩,
    ⟨(some 10), .mov (.t 0), none⟩,
    ⟨(some 11), .len (.t 10), none⟩,
    ⟨(some 12), .bin .leq (.t 9) (.t 11), none⟩])
  (.cond (.t 12)
  .skip
  (.exit 0)))
  (.seq (.block 1 (.seq (.region [⟨(some 15), .mov (.t 5), none⟩,
    ⟨(some 16), .mov (.t 1), none⟩,
    ⟨(some 17), .bin .mul (.t 15) (.t 16), none⟩,
    ⟨(some 5), .mov (.t 17), none⟩])
  (.seq (.region [⟨(some 7), .mov (.c (.int .i64 0)), none⟩])
  (.block 2 (.loop (.seq (.seq (.region [⟨(some 18), .mov (.t 7), none⟩,
    ⟨(some 19), .mov (.t 5), none⟩,
    ⟨(some 20), .bin .lss (.t 18) (.t 19), none⟩])
  (.cond (.t 20)
  .skip
  (.exit 2)))
  (.seq (.block 3 (.seq (.region [⟨(some 23), .mov (.t 7), none⟩,
    ⟨(some 24), .mov (.t 1), none⟩,
    ⟨(some 25), .mov (.t 6), none⟩,
    ⟨(some 26), .call fid_ref04_digits [(.t 23), (.t 24), (.t 25)], none⟩,
    ⟨(some 27), .mov (.t 0), none⟩,
    ⟨(some 28), .mov (.t 1), none⟩,
    ⟨(some 29), .call fid_ref04_divides [(.t 26), (.t 27), (.t 28)], none⟩])
  (.cond (.t 29)
  (.seq (.region [⟨(some 4), .mov (.c (.bool false)), none⟩])
  .ret)
  .skip)))
  (.region [⟨(some 21), .mov (.t 7), none⟩,
    ⟨(some 22), .bin .add (.t 21) (.c (.int .i64 1)), none⟩,
    ⟨(some 7), .mov (.t 22), none⟩]))))))))
  (.region [⟨(some 13), .mov (.t 6), none⟩,
    ⟨(some 14), .bin .add (.t 13) (.c (.int .i64 1)), none⟩,
    ⟨(some 6), .mov (.t 14), none⟩]))))))
  (.seq (.region [⟨(some 4), .mov (.c (.bool true)), none⟩])
  .ret))))
def F_ref04_irreducible : GFun := ⟨2, 30, B_ref04_irreducible, [.t 4]⟩
theorem ok_ref04_irreducible : okFun Go.Proofs.Try.prog fid_ref04_irreducible F_ref04_irreducible = true := by kernel_rfl
def B_ref04_Check : GCode :=
  (.seq (.region [⟨(some 1), .box (.t 0), none⟩,
    ⟨(some 2), .mov (.c (.int .i64 0)), none⟩])
  (.seq (.seq (.region [⟨(some 4), .load (some 3) (.t 1), none⟩,
    ⟨(some 5), .call fid_ref04_Order [(.t 4)], none⟩,
    ⟨(some 6), .bin .eql (.t 5) (.c (.int .i64 0)), none⟩,
    ⟨(some 7), .mov (.t 6), none⟩,
    ⟨(some 8), .fieldAddr 0 (.t 1), (some (7, false))⟩,
    ⟨(some 9), .load none (.t 8), (some (7, false))⟩,
    ⟨(some 10), .call fid_ref04_prime [(.t 9)], (some (7, false))⟩,
    ⟨(some 11), .un .not (.t 10), (some (7, false))⟩,
    ⟨(some 12), .pick (.t 7) (.c (.bool true)) (.t 11), none⟩])
  (.cond (.t 12)
  (.seq (.region [⟨(some 2), .mov (.c (.int .i64 1)), none⟩])
  .ret)
  .skip))
  (.seq (.seq (.region [⟨(some 13), .fieldAddr 1 (.t 1), none⟩,
    ⟨(some 14), .load none (.t 13), none⟩,
    ⟨(some 15), .bin .eql (.t 14) (.c (.int .i64 1)), none⟩])
  (.cond (.t 15)
  (.seq (.seq (.region [⟨(some 16), .fieldAddr 2 (.t 1), none⟩,
    ⟨(some 17), .load none (.t 16), none⟩,
    ⟨(some 18), .len (.t 17), none⟩,
    ⟨(some 19), .bin .neq (.t 18) (.c (.int .i64 0)), none⟩])
  (.cond (.t 19)
  (.seq (.region [⟨(some 2), .mov (.c (.int .i64 1)), none⟩])
  .ret)
  .skip))
  (.seq (.region [⟨(some 2), .mov (.c (.int .i64 0)), none⟩])
  .ret))
  .skip))
  (.seq (.seq (.region [⟨(some 20), .fieldAddr 2 (.t 1), none⟩,
    ⟨(some 21), .load none (.t 20), none⟩,
    ⟨(some 22), .len (.t 21), none⟩,
    ⟨(some 23), .fieldAddr 1 (.t 1), none⟩,
    ⟨(some 24), .load none (.t 23), none⟩,
    ⟨(some 25), .bin .neq (.t 22) (.t 24), none⟩])
  (.cond (.t 25)
  (.seq (.region [⟨(some 2), .mov (.c (.int .i64 1)), none⟩])
  .ret)
  .skip))
  (.seq (.seq (.region [⟨(some 3), .mov (.c (.int .i64 0)), none⟩])
  (.block 0 (.loop (.seq (.seq (.region [⟨(some 26), .mov (.t 3), none⟩,
    ⟨(some 27), .fieldAddr 1 (.t 1), none⟩,
    ⟨(some 28), .load none (.t 27), none⟩,
    ⟨(some 29), .bin .lss (.t 26) (.t 28), none⟩])
  (.cond (.t 29)
  .skip
  (.exit 0)))
  (.seq (.block 1 (.seq (.draw [0, 1, 0, 7, 15, 31, 63, 127, 255, 127, 1023, 2047, 127, 4223, 16383, 32767]
    [⟨(some 32), .fieldAddr 2 (.t 1), none⟩,
    ⟨(some 33), .load none (.t 32), none⟩,
    ⟨(some 34), .mov (.t 3), none⟩,
    ⟨(some 35), .indexAddr 1 (.t 33) (.t 34), none⟩,
    ⟨(some 36), .load none (.t 35), none⟩,
    ⟨(some 37), .bin .lss (.t 36) (.c (.int .i64 0)), none⟩,
    ⟨(some 38), .mov (.t 37), none⟩,
    ⟨(some 39), .fieldAddr 2 (.t 1), (some (38, false))⟩,
    ⟨(some 40), .load none (.t 39), (some (38, false))⟩,
    ⟨(some 41), .mov (.t 3), (some (38, false))⟩,
    ⟨(some 42), .indexAddr 1 (.t 40) (.t 41), (some (38, false))⟩,
    ⟨(some 43), .load none (.t 42), (some (38, false))⟩,
    ⟨(some 44), .fieldAddr 0 (.t 1), (some (38, false))⟩,
    ⟨(some 45), .load none (.t 44), (some (38, false))⟩]
    [⟨(some 46), .bin .geq (.t 43) (.t 45), (some (38, false))⟩,
    ⟨(some 47), .pick (.t 38) (.c (.bool true)) (.t 46), none⟩])
  (.cond (.t 47)
  (.seq (.region [⟨(some 2), .mov (.c (.int .i64 1)), none⟩])
  .ret)
  .skip)))
  (.region [⟨(some 30), .mov (.t 3), none⟩,
    ⟨(some 31), .bin .add (.t 30) (.c (.int .i64 1)), none⟩,
    ⟨(some 3), .mov (.t 31), none⟩]))))))
  (.seq (.seq (.region [⟨(some 48), .fieldAddr 2 (.t 1), none⟩,
    ⟨(some 49), .load none (.t 48), none⟩,
    ⟨(some 50), .fieldAddr 0 (.t 1), none⟩,
    ⟨(some 51), .load none (.t 50), none⟩,
    ⟨(some 52), .call fid_ref04_irreducible [(.t 49), (.t 51)], none⟩,
    ⟨(some 53), .un .not (.t 52), none⟩])
  (.cond (.t 53)
  (.seq (.region [⟨(some 2), .mov (.c (.int .i64 1)), none⟩])
  .ret)
  .skip))
  (.seq (.region [⟨(some 2), .mov (.c (.int .i64 0)), none⟩])
  .ret)))))))
def F_ref04_Check : GFun := ⟨1, 54, B_ref04_Check, [.t 2]⟩
theorem ok_ref04_Check : okFun Go.Proofs.Try.prog fid_ref04_Check F_ref04_Check = true := by kernel_rfl
def B_ref09_SameInts : GCode :=
  (.seq (.region [⟨(some 4), .mov (.c (.bool false)), none⟩])
  (.seq (.seq (.region [⟨(some 6), .mov (.t 0), none⟩,
    ⟨(some 7), .len (.t 6), none⟩,
    ⟨(some 8), .mov (.t 1), none⟩,
    ⟨(some 9), .len (.t 8), none⟩,
    ⟨(some 10), .bin .neq (.t 7) (.t 9), none⟩])
  (.cond (.t 10)
  (.seq (.region [⟨(some 4), .mov (.c (.bool false)), none⟩])
  .ret)
  .skip))
  (.seq (.seq (.region [⟨(some 5), .mov (.c (.int .i64 0)), none⟩])
  (.block 0 (.loop (.seq (.seq (.region [⟨(some 11), .mov (.t 5), none⟩,
    ⟨(some 12), .mov (.t 0), none⟩,
    ⟨(some 13), .len (.t 12), none⟩,
    ⟨(some 14), .bin .lss (.t 11) (.t 13), none⟩])
  (.cond (.t 14)
  .skip
  (.exit 0)))
  (.seq (.block 1 (.seq (.draw [0, 0, 3, 7, 0, 0, 48, 112, 255]
    [⟨(some 17), .mov (.t 0), none⟩,
    ⟨(some 18), .mov (.t 5), none⟩,
    ⟨(some 19), .indexAddr 1 (.t 17) (.t 18), none⟩,
    ⟨(some 20), .load none (.t 19), none⟩,
    ⟨(some 21), .mov (.t 1), none⟩,
    ⟨(some 22), .mov (.t 5), none⟩,
    ⟨(some 23), .indexAddr 1 (.t 21) (.t 22), none⟩,
    ⟨(some 24), .load none (.t 23), none⟩]
    [⟨(some 25), .bin .neq (.t 20) (.t 24), none⟩])
  (.cond (.t 25)
  (.seq (.region [⟨(some 4), .mov (.c (.bool false)), none⟩])
  .ret)
  .skip)))
  (.region [⟨(some 15), .mov (.t 5), none⟩,
    ⟨(some 16), .bin .add (.t 15) (.c (.int .i64 1)), none⟩,
    ⟨(some 5), .mov (.t 16), none⟩]))))))
  (.seq (.region [⟨(some 4), .mov (.c (.bool true)), none⟩])
  .ret))))
def F_ref09_SameInts : GFun := ⟨2, 26, B_ref09_SameInts, [.t 4]⟩
theorem ok_ref09_SameInts : okFun Go.Proofs.Try.prog fid_ref09_SameInts F_ref09_SameInts = true := by kernel_rfl
def B_ref09_SameRows : GCode :=
  (.seq (.region [⟨(some 4), .mov (.c (.bool false)), none⟩])
  (.seq (.seq (.region [⟨(some 6), .mov (.t 0), none⟩,
    ⟨(some 7), .len (.t 6), none⟩,
    ⟨(some 8), .mov (.t 1), none⟩,
    ⟨(some 9), .len (.t 8), none⟩,
    ⟨(some 10), .bin .neq (.t 7) (.t 9), none⟩])
  (.cond (.t 10)
  (.seq (.region [⟨(some 4), .mov (.c (.bool false)), none⟩])
  .ret)
  .skip))
  (.seq (.seq (.region [⟨(some 5), .mov (.c (.int .i64 0)), none⟩])
  (.block 0 (.loop (.seq (.seq (.region [⟨(some 11), .mov (.t 5), none⟩,
    ⟨(some 12), .mov (.t 0), none⟩,
    ⟨(some 13), .len (.t 12), none⟩,
    ⟨(some 14), .bin .lss (.t 11) (.t 13), none⟩])
  (.cond (.t 14)
  .skip
  (.exit 0)))
  (.seq (.block 1 (.seq (.draw [0, 0, 3, 7, 0, 0, 48, 112, 255, 511]
    [⟨(some 17), .mov (.t 0), none⟩,
    ⟨(some 18), .mov (.t 5), none⟩,
    ⟨(some 19), .indexAddr 1 (.t 17) (.t 18), none⟩,
    ⟨(some 20), .load none (.t 19), none⟩,
    ⟨(some 21), .mov (.t 1), none⟩,
    ⟨(some 22), .mov (.t 5), none⟩,
    ⟨(some 23), .indexAddr 1 (.t 21) (.t 22), none⟩,
    ⟨(some 24), .load none (.t 23), none⟩]
    [⟨(some 25), .call fid_ref09_SameInts [(.t 20), (.t 24)], none⟩,
    ⟨(some 26), .un .not (.t 25), none⟩])
  (.cond (.t 26)
  (.seq (.region [⟨(some 4), .mov (.c (.bool false)), none⟩])
  .ret)
  .skip)))
  (.region [⟨(some 15), .mov (.t 5), none⟩,
    ⟨(some 16), .bin .add (.t 15) (.c (.int .i64 1)), none⟩,
    ⟨(some 5), .mov (.t 16), none⟩]))))))
  (.seq (.region [⟨(some 4), .mov (.c (.bool true)), none⟩])
  .ret))))
def F_ref09_SameRows : GFun := ⟨2, 27, B_ref09_SameRows, [.t 4]⟩
theorem ok_ref09_SameRows : okFun Go.Proofs.Try.prog fid_ref09_SameRows F_ref09_SameRows = true := by kernel_rfl
def B_ref09_Entries : GCode :=
  (.seq (.region [⟨(some 2), .box (.t 0), none⟩,
    ⟨(some 4), .mov (.c (.int .i64 0)), none⟩])
  (.seq (.seq (.region [⟨(some 5), .mov (.c (.int .i64 0)), none⟩])
  (.block 0 (.loop (.seq (.seq (.region [⟨(some 6), .mov (.t 5), none⟩,
    ⟨(some 7), .mov (.t 1), none⟩,
    ⟨(some 8), .len (.t 7), none⟩,
    ⟨(some 9), .bin .lss (.t 6) (.t 8), none⟩])
  (.cond (.t 9)
  .skip
  (.exit 0)))
  (.seq (.block 1 (.seq (.draw [0, 0, 0, 6, 14, 31, 63]
    [⟨(some 12), .load (some 3) (.t 2), none⟩,
    ⟨(some 13), .mov (.t 1), none⟩,
    ⟨(some 14), .mov (.t 5), none⟩,
    ⟨(some 15), .indexAddr 1 (.t 13) (.t 14), none⟩,
    ⟨(some 16), .load none (.t 15), none⟩]
    [⟨(some 17), .call fid_ref04_Is [(.t 12), (.t 16)], none⟩,
    ⟨(some 18), .un .not (.t 17), none⟩])
  (.cond (.t 18)
  (.seq (.region [⟨(some 4), .mov (.c (.int .i64 2)), none⟩])
  .ret)
  .skip)))
  (.region [⟨(some 10), .mov (.t 5), none⟩,
    ⟨(some 11), .bin .add (.t 10) (.c (.int .i64 1)), none⟩,
    ⟨(some 5), .mov (.t 11), none⟩]))))))
  (.seq (.region [⟨(some 4), .mov (.c (.int .i64 0)), none⟩])
  .ret)))
def F_ref09_Entries : GFun := ⟨2, 19, B_ref09_Entries, [.t 4]⟩
theorem ok_ref09_Entries : okFun Go.Proofs.Try.prog fid_ref09_Entries F_ref09_Entries = true := by kernel_rfl
def B_ref20_Degree : GCode :=
  (.seq (.region [⟨(some 2), .box (.t 0), none⟩,
    ⟨(some 4), .mov (.c (.int .i64 0)), none⟩])
  (.seq (.region [⟨(some 5), .mov (.c (.int .i64 0)), none⟩])
  (.seq (.seq (.region [⟨(some 6), .mov (.c (.int .i64 0)), none⟩])
  (.block 0 (.loop (.seq (.seq (.region [⟨(some 8), .mov (.t 6), none⟩,
    ⟨(some 9), .fieldAddr 3 (.t 2), none⟩,
    ⟨(some 10), .load none (.t 9), none⟩,
    ⟨(some 11), .mov (.t 1), none⟩,
    ⟨(some 12), .indexAddr 1 (.t 10) (.t 11), none⟩,
    ⟨(some 13), .load none (.t 12), none⟩,
    ⟨(some 14), .len (.t 13), none⟩,
    ⟨(some 15), .bin .lss (.t 8) (.t 14), none⟩])
  (.cond (.t 15)
  .skip
  (.exit 0)))
  (.seq (.block 1 (.seq (.region [⟨(some 7), .mov (.c (.int .i64 0)), none⟩])
  (.block 2 (.loop (.seq (.seq (.region [⟨(some 18), .mov (.t 7), none⟩,
    ⟨(some 19), .fieldAddr 3 (.t 2), none⟩,
    ⟨(some 20), .load none (.t 19), none⟩,
    ⟨(some 21), .mov (.t 1), none⟩,
    ⟨(some 22), .indexAddr 1 (.t 20) (.t 21), none⟩,
    ⟨(some 23), .load none (.t 22), none⟩,
    ⟨(some 24), .mov (.t 6), none⟩,
    ⟨(some 25), .indexAddr 1 (.t 23) (.t 24), none⟩,
    ⟨(some 26), .load none (.t 25), none⟩,
    ⟨(some 27), .len (.t 26), none⟩,
    ⟨(some 28), .bin .lss (.t 18) (.t 27), none⟩])
  (.cond (.t 28)
  .skip
  (.exit 2)))
  (.seq (.block 3 (.seq (.region [⟨(some 31), .fieldAddr 3 (.t 2), none⟩,
    ⟨(some 32), .load none (.t 31), none⟩,
    ⟨(some 33), .mov (.t 1), none⟩,
    ⟨(some 34), .indexAddr 1 (.t 32) (.t 33), none⟩,
    ⟨(some 35), .load none (.t 34), none⟩,
    ⟨(some 36), .mov (.t 6), none⟩,
    ⟨(some 37), .indexAddr 1 (.t 35) (.t 36), none⟩,
    ⟨(some 38), .load none (.t 37), none⟩,
    ⟨(some 39), .mov (.t 7), none⟩,
    ⟨(some 40), .indexAddr 1 (.t 38) (.t 39), none⟩,
    ⟨(some 41), .load none (.t 40), none⟩,
    ⟨(some 42), .bin .neq (.t 41) (.c (.int .i64 0)), none⟩])
  (.cond (.t 42)
  (.region [⟨(some 43), .mov (.t 5), none⟩,
    ⟨(some 44), .mov (.t 7), none⟩,
    ⟨(some 45), .mm true (.t 43) (.t 44), none⟩,
    ⟨(some 5), .mov (.t 45), none⟩])
  .skip)))
  (.region [⟨(some 29), .mov (.t 7), none⟩,
    ⟨(some 30), .bin .add (.t 29) (.c (.int .i64 1)), none⟩,
    ⟨(some 7), .mov (.t 30), none⟩])))))))
  (.region [⟨(some 16), .mov (.t 6), none⟩,
    ⟨(some 17), .bin .add (.t 16) (.c (.int .i64 1)), none⟩,
    ⟨(some 6), .mov (.t 17), none⟩]))))))
  (.seq (.region [⟨(some 46), .mov (.t 5), none⟩,
    ⟨(some 4), .mov (.t 46), none⟩])
  .ret))))
def F_ref20_Degree : GFun := ⟨2, 47, B_ref20_Degree, [.t 4]⟩
theorem ok_ref20_Degree : okFun Go.Proofs.Try.prog fid_ref20_Degree F_ref20_Degree = true := by kernel_rfl
def B_ref20_Degrees : GCode :=
  (.seq (.region [⟨(some 1), .box (.t 0), none⟩,
    ⟨(some 2), .mov (.c (.nil)), none⟩])
  (.seq (.region [⟨(some 3), .mov (.c (.nil)), none⟩])
  (.seq (.seq (.region [⟨(some 4), .mov (.c (.int .i64 0)), none⟩])
  (.block 0 (.loop (.seq (.seq (.region [⟨(some 5), .mov (.t 4), none⟩,
    ⟨(some 6), .fieldAddr 3 (.t 1), none⟩,
    ⟨(some 7), .load none (.t 6), none⟩,
    ⟨(some 8), .len (.t 7), none⟩,
    ⟨(some 9), .bin .lss (.t 5) (.t 8), none⟩])
  (.cond (.t 9)
  .skip
  (.exit 0)))
  (.seq (.block 1 (.region [⟨(some 12), .mov (.t 3), none⟩,
    ⟨(some 13), .load (some 4) (.t 1), none⟩,
    ⟨(some 14), .mov (.t 4), none⟩,
    ⟨(some 15), .call fid_ref20_Degree [(.t 13), (.t 14)], none⟩,
    ⟨(some 16), .bslice 1 [.int .i64 0] [(0, 1, (.t 15))], none⟩,
    ⟨(some 17), .append 8 (.t 12) (.t 16), none⟩,
    ⟨(some 3), .mov (.t 17), none⟩]))
  (.region [⟨(some 10), .mov (.t 4), none⟩,
    ⟨(some 11), .bin .add (.t 10) (.c (.int .i64 1)), none⟩,
    ⟨(some 4), .mov (.t 11), none⟩]))))))
  (.seq (.region [⟨(some 18), .mov (.t 3), none⟩,
    ⟨(some 2), .mov (.t 18), none⟩])
  .ret))))
def F_ref20_Degrees : GFun := ⟨1, 19, B_ref20_Degrees, [.t 2]⟩
theorem ok_ref20_Degrees : okFun Go.Proofs.Try.prog fid_ref20_Degrees F_ref20_Degrees = true := by kernel_rfl
def B_ref20_Check : GCode :=
  (.seq (.region [⟨(some 1), .box (.t 0), none⟩,
    ⟨(some 2), .mov (.c (.int .i64 0)), none⟩])
  (.seq (.seq (.region [⟨(some 9), .fieldAddr 0 (.t 1), none⟩,
    ⟨(some 10), .load (some 3) (.t 9), none⟩,
    ⟨(some 11), .call fid_ref04_Check [(.t 10)], none⟩,
    ⟨(some 12), .bin .neq (.t 11) (.c (.int .i64 0)), none⟩])
  (.cond (.t 12)
  (.seq (.region [⟨(some 2), .mov (.c (.int .i64 1)), none⟩])
  .ret)
  .skip))
  (.seq (.seq (.region [⟨(some 13), .fieldAddr 3 (.t 1), none⟩,
    ⟨(some 14), .load none (.t 13), none⟩,
    ⟨(some 15), .len (.t 14), none⟩,
    ⟨(some 16), .bin .eql (.t 15) (.c (.int .i64 0)), none⟩,
    ⟨(some 17), .mov (.t 16), none⟩,
    ⟨(some 18), .fieldAddr 3 (.t 1), (some (17, false))⟩,
    ⟨(some 19), .load none (.t 18), (some (17, false))⟩,
    ⟨(some 20), .indexAddr 1 (.t 19) (.c (.int .i64 0)), (some (17, false))⟩,
    ⟨(some 21), .load none (.t 20), (some (17, false))⟩,
    ⟨(some 22), .len (.t 21), (some (17, false))⟩,
    ⟨(some 23), .bin .eql (.t 22) (.c (.int .i64 0)), (some (17, false))⟩,
    ⟨(some 24), .pick (.t 17) (.c (.bool true)) (.t 23), none⟩])
  (.cond (.t 24)
  (.seq (.region [⟨(some 2), .mov (.c (.int .i64 3)), none⟩])
  .ret)
  .skip))
  (.seq (.seq (.region [⟨(some 3), .mov (.c (.int .i64 0)), none⟩])
  (.block 0 (.loop (.seq (.seq (.region [⟨(some 25), .mov (.t 3), none⟩,
    ⟨(some 26), .fieldAddr 3 (.t 1), none⟩,
    ⟨(some 27), .load none (.t 26), none⟩,
    ⟨(some 28), .len (.t 27), none⟩,
    ⟨(some 29), .bin .lss (.t 25) (.t 28), none⟩])
  (.cond (.t 29)
  .skip
  (.exit 0)))
  (.seq (.block 1 (.seq (.draw [0, 1, 0, 7, 15, 31, 0, 64, 192, 448, 960, 2047]
    [⟨(some 32), .fieldAddr 3 (.t 1), none⟩,
    ⟨(some 33), .load none (.t 32), none⟩,
    ⟨(some 34), .mov (.t 3), none⟩,
    ⟨(some 35), .indexAddr 1 (.t 33) (.t 34), none⟩,
    ⟨(some 36), .load none (.t 35), none⟩,
    ⟨(some 37), .len (.t 36), none⟩,
    ⟨(some 38), .fieldAddr 3 (.t 1), none⟩,
    ⟨(some 39), .load none (.t 38), none⟩,
    ⟨(some 40), .indexAddr 1 (.t 39) (.c (.int .i64 0)), none⟩,
    ⟨(some 41), .load none (.t 40), none⟩,
    ⟨(some 42), .len (.t 41), none⟩]
    [⟨(some 43), .bin .neq (.t 37) (.t 42), none⟩])
  (.cond (.t 43)
  (.seq (.region [⟨(some 2), .mov (.c (.int .i64 3)), none⟩])
  .ret)
  .skip)))
  (.region [⟨(some 30), .mov (.t 3), none⟩,
    ⟨(some 31), .bin .add (.t 30) (.c (.int .i64 1)), none⟩,
    ⟨(some 3), .mov (.t 31), none⟩]))))))
  (.seq (.seq (.draw [0, 1, 3, 0, 8, 24, 56, 120, 255]
    [⟨(some 44), .fieldAddr 3 (.t 1), none⟩,
    ⟨(some 45), .load none (.t 44), none⟩,
    ⟨(some 46), .len (.t 45), none⟩,
    ⟨(some 47), .fieldAddr 3 (.t 1), none⟩,
    ⟨(some 48), .load none (.t 47), none⟩,
    ⟨(some 49), .indexAddr 1 (.t 48) (.c (.int .i64 0)), none⟩,
    ⟨(some 50), .load none (.t 49), none⟩,
    ⟨(some 51), .len (.t 50), none⟩]
    [⟨(some 52), .bin .gtr (.t 46) (.t 51), none⟩])
  (.cond (.t 52)
  (.seq (.region [⟨(some 2), .mov (.c (.int .i64 3)), none⟩])
  .ret)
  .skip))
  (.seq (.seq (.region [⟨(some 53), .fieldAddr 3 (.t 1), none⟩,
    ⟨(some 54), .load none (.t 53), none⟩,
    ⟨(some 55), .indexAddr 1 (.t 54) (.c (.int .i64 0)), none⟩,
    ⟨(some 56), .load none (.t 55), none⟩,
    ⟨(some 57), .len (.t 56), none⟩,
    ⟨(some 58), .bin .gtr (.t 57) (.c (.int .i64 64)), none⟩])
  (.cond (.t 58)
  (.seq (.region [⟨(some 2), .mov (.c (.int .i64 4)), none⟩])
  .ret)
  .skip))
  (.seq (.region [⟨(some 4), .mov (.c (.int .i64 1)), none⟩])
  (.seq (.seq (.region [⟨(some 5), .mov (.c (.int .i64 0)), none⟩])
  (.block 2 (.loop (.seq (.seq (.region [⟨(some 59), .mov (.t 5), none⟩,
    ⟨(some 60), .fieldAddr 3 (.t 1), none⟩,
    ⟨(some 61), .load none (.t 60), none⟩,
    ⟨(some 62), .len (.t 61), none⟩,
    ⟨(some 63), .bin .lss (.t 59) (.t 62), none⟩])
  (.cond (.t 63)
  .skip
  (.exit 2)))
  (.seq (.block 3 (.seq (.region [⟨(some 6), .mov (.c (.int .i64 0)), none⟩])
  (.block 4 (.loop (.seq (.seq (.region [⟨(some 66), .mov (.t 6), none⟩,
    ⟨(some 67), .fieldAddr 3 (.t 1), none⟩,
    ⟨(some 68), .load none (.t 67), none⟩,
    ⟨(some 69), .mov (.t 5), none⟩,
    ⟨(some 70), .indexAddr 1 (.t 68) (.t 69), none⟩,
    ⟨(some 71), .load none (.t 70), none⟩,
    ⟨(some 72), .len (.t 71), none⟩,
    ⟨(some 73), .bin .lss (.t 66) (.t 72), none⟩])
  (.cond (.t 73)
  .skip
  (.exit 4)))
  (.seq (.block 5 (.seq (.draw [0, 1, 0, 4, 0, 28, 60, 0, 252, 508, 1023, 2047]
    [⟨(some 76), .fieldAddr 0 (.t 1), none⟩,
    ⟨(some 77), .load (some 3) (.t 76), none⟩,
    ⟨(some 78), .fieldAddr 3 (.t 1), none⟩,
    ⟨(some 79), .load none (.t 78), none⟩,
    ⟨(some 80), .mov (.t 5), none⟩,
    ⟨(some 81), .indexAddr 1 (.t 79) (.t 80), none⟩,
    ⟨(some 82), .load none (.t 81), none⟩,
    ⟨(some 83), .mov (.t 6), none⟩,
    ⟨(some 84), .indexAddr 1 (.t 82) (.t 83), none⟩,
    ⟨(some 85), .load none (.t 84), none⟩]
    [⟨(some 86), .call fid_ref09_Entries [(.t 77), (.t 85)], none⟩,
    ⟨(some 87), .bin .neq (.t 86) (.c (.int .i64 0)), none⟩])
  (.cond (.t 87)
  (.seq (.region [⟨(some 2), .mov (.c (.int .i64 2)), none⟩])
  .ret)
  .skip)))
  (.region [⟨(some 74), .mov (.t 6), none⟩,
    ⟨(some 75), .bin .add (.t 74) (.c (.int .i64 1)), none⟩,
    ⟨(some 6), .mov (.t 75), none⟩])))))))
  (.region [⟨(some 64), .mov (.t 5), none⟩,
    ⟨(some 65), .bin .add (.t 64) (.c (.int .i64 1)), none⟩,
    ⟨(some 5), .mov (.t 65), none⟩]))))))
  (.seq (.seq (.region [⟨(some 7), .mov (.c (.int .i64 0)), none⟩])
  (.block 6 (.loop (.seq (.seq (.region [⟨(some 88), .mov (.t 7), none⟩,
    ⟨(some 89), .fieldAddr 3 (.t 1), none⟩,
    ⟨(some 90), .load none (.t 89), none⟩,
    ⟨(some 91), .len (.t 90), none⟩,
    ⟨(some 92), .bin .lss (.t 88) (.t 91), none⟩])
  (.cond (.t 92)
  .skip
  (.exit 6)))
  (.seq (.block 7 (.seq (.region [⟨(some 8), .mov (.c (.int .i64 0)), none⟩])
  (.block 8 (.loop (.seq (.seq (.region [⟨(some 95), .mov (.t 8), none⟩,
    ⟨(some 96), .load (some 4) (.t 1), none⟩,
    ⟨(some 97), .mov (.t 7), none⟩,
    ⟨(some 98), .call fid_ref20_Degree [(.t 96), (.t 97)], none⟩,
    ⟨(some 99), .bin .leq (.t 95) (.t 98), none⟩])
  (.cond (.t 99)
  .skip
  (.exit 8)))
  (.seq (.block 9 (.seq (.region [⟨(some 102), .mov (.t 4), none⟩,
    ⟨(some 103), .fieldAddr 0 (.t 1), none⟩,
    ⟨(some 104), .load (some 3) (.t 103), none⟩,
    ⟨(some 105), .call fid_ref04_Order [(.t 104)], none⟩,
    ⟨(some 106), .bin .mul (.t 102) (.t 105), none⟩,
    ⟨(some 4), .mov (.t 106), none⟩])
  (.seq (.region [⟨(some 107), .mov (.t 4), none⟩,
    ⟨(some 108), .bin .gtr (.t 107) (.c (.int .i64 65536)), none⟩])
  (.cond (.t 108)
  (.seq (.region [⟨(some 2), .mov (.c (.int .i64 8)), none⟩])
  .ret)
  .skip))))
  (.region [⟨(some 100), .mov (.t 8), none⟩,
    ⟨(some 101), .bin .add (.t 100) (.c (.int .i64 1)), none⟩,
    ⟨(some 8), .mov (.t 101), none⟩])))))))
  (.region [⟨(some 93), .mov (.t 7), none⟩,
    ⟨(some 94), .bin .add (.t 93) (.c (.int .i64 1)), none⟩,
    ⟨(some 7), .mov (.t 94), none⟩]))))))
  (.seq (.region [⟨(some 2), .mov (.c (.int .i64 0)), none⟩])
  .ret))))))))))
def F_ref20_Check : GFun := ⟨1, 109, B_ref20_Check, [.t 2]⟩
theorem ok_ref20_Check : okFun Go.Proofs.Try.prog fid_ref20_Check F_ref20_Check = true := by kernel_rfl
def B_ref20_Next : GCode :=
  (.seq (.region [⟨(some 3), .box (.t 0), none⟩,
    ⟨(some 6), .mov (.c (.int .i64 0)), none⟩,
    ⟨(some 7), .mov (.c (.nil)), none⟩])
  (.seq (.region [⟨(some 17), .fieldAddr 0 (.t 3), none⟩,
    ⟨(some 18), .load (some 3) (.t 17), none⟩,
    ⟨(some 19), .call fid_ref04_Order [(.t 18)], none⟩,
    ⟨(some 8), .mov (.t 19), none⟩])
  (.seq (.region [⟨(some 9), .mov (.c (.int .i64 0)), none⟩])
  (.seq (.region [⟨(some 10), .mov (.c (.int .i64 1)), none⟩])
  (.seq (.region [⟨(some 20), .fieldAddr 3 (.t 3), none⟩,
    ⟨(some 21), .load none (.t 20), none⟩,
    ⟨(some 22), .indexAddr 1 (.t 21) (.c (.int .i64 0)), none⟩,
    ⟨(some 23), .load none (.t 22), none⟩,
    ⟨(some 24), .len (.t 23), none⟩,
    ⟨(some 25), .mslice (.int .i64 0) 8 (.t 24) (.t 24), none⟩,
    ⟨(some 11), .mov (.t 25), none⟩])
  (.seq (.seq (.region [⟨(some 12), .mov (.c (.int .i64 0)), none⟩])
  (.block 0 (.loop (.seq (.seq (.region [⟨(some 26), .mov (.t 12), none⟩,
    ⟨(some 27), .fieldAddr 3 (.t 3), none⟩,
    ⟨(some 28), .load none (.t 27), none⟩,
    ⟨(some 29), .len (.t 28), none⟩,
    ⟨(some 30), .bin .lss (.t 26) (.t 29), none⟩])
  (.cond (.t 30)
  .skip
  (.exit 0)))
  (.seq (.block 1 (.seq (.region [⟨(some 33), .mov (.t 2), none⟩,
    ⟨(some 34), .mov (.t 12), none⟩,
    ⟨(some 35), .indexAddr 1 (.t 33) (.t 34), none⟩,
    ⟨(some 36), .load none (.t 35), none⟩,
    ⟨(some 37), .bslice 1 [.int .i64 0] [(0, 1, (.t 36))], none⟩,
    ⟨(some 13), .mov (.t 37), none⟩])
  (.seq (.seq (.region [⟨(some 14), .mov (.c (.int .i64 0)), none⟩])
  (.block 2 (.loop (.seq (.seq (.region [⟨(some 38), .mov (.t 14), none⟩,
    ⟨(some 39), .load (some 4) (.t 3), none⟩,
    ⟨(some 40), .mov (.t 12), none⟩,
    ⟨(some 41), .call fid_ref20_Degree [(.t 39), (.t 40)], none⟩,
    ⟨(some 42), .bin .lss (.t 38) (.t 41), none⟩])
  (.cond (.t 42)
  .skip
  (.exit 2)))
  (.seq (.block 3 (.seq (.region [⟨(some 45), .mov (.t 13), none⟩,
    ⟨(some 46), .mov (.t 1), none⟩,
    ⟨(some 47), .mov (.t 8), none⟩,
    ⟨(some 48), .bin .rem (.t 46) (.t 47), none⟩,
    ⟨(some 49), .bslice 1 [.int .i64 0] [(0, 1, (.t 48))], none⟩,
    ⟨(some 50), .append 8 (.t 45) (.t 49), none⟩,
    ⟨(some 13), .mov (.t 50), none⟩])
  (.region [⟨(some 51), .mov (.t 1), none⟩,
    ⟨(some 52), .mov (.t 8), none⟩,
    ⟨(some 53), .bin .quo (.t 51) (.t 52), none⟩,
    ⟨(some 1), .mov (.t 53), none⟩])))
  (.region [⟨(some 43), .mov (.t 14), none⟩,
    ⟨(some 44), .bin .add (.t 43) (.c (.int .i64 1)), none⟩,
    ⟨(some 14), .mov (.t 44), none⟩]))))))
  (.seq (.seq (.region [⟨(some 15), .mov (.c (.int .i64 0)), none⟩])
  (.block 4 (.loop (.seq (.seq (.region [⟨(some 54), .mov (.t 15), none⟩,
    ⟨(some 55), .load (some 4) (.t 3), none⟩,
    ⟨(some 56), .mov (.t 12), none⟩,
    ⟨(some 57), .call fid_ref20_Degree [(.t 55), (.t 56)], none⟩,
    ⟨(some 58), .bin .lss (.t 54) (.t 57), none⟩])
  (.cond (.t 58)
  .skip
  (.exit 4)))
  (.seq (.block 5 (.seq (.region [⟨(some 61), .mov (.t 9), none⟩,
    ⟨(some 62), .mov (.t 13), none⟩,
    ⟨(some 63), .mov (.t 15), none⟩,
    ⟨(some 64), .indexAddr 1 (.t 62) (.t 63), none⟩,
    ⟨(some 65), .load none (.t 64), none⟩,
    ⟨(some 66), .mov (.t 10), none⟩,
    ⟨(some 67), .bin .mul (.t 65) (.t 66), none⟩,
    ⟨(some 68), .bin .add (.t 61) (.t 67), none⟩,
    ⟨(some 9), .mov (.t 68), none⟩])
  (.region [⟨(some 69), .mov (.t 10), none⟩,
    ⟨(some 70), .mov (.t 8), none⟩,
    ⟨(some 71), .bin .mul (.t 69) (.t 70), none⟩,
    ⟨(some 10), .mov (.t 71), none⟩])))
  (.region [⟨(some 59), .mov (.t 15), none⟩,
    ⟨(some 60), .bin .add (.t 59) (.c (.int .i64 1)), none⟩,
    ⟨(some 15), .mov (.t 60), none⟩]))))))
  (.seq (.region [⟨(some 16), .mov (.c (.int .i64 0)), none⟩])
  (.block 6 (.loop (.seq (.seq (.region [⟨(some 72), .mov (.t 16), none⟩,
    ⟨(some 73), .mov (.t 11), none⟩,
    ⟨(some 74), .len (.t 73), none⟩,
    ⟨(some 75), .bin .lss (.t 72) (.t 74), none⟩])
  (.cond (.t 75)
  .skip
  (.exit 6)))
  (.seq (.block 7 (.draw [0, 0, 0, 4, 0, 0, 48, 112, 0, 256, 0, 0, 2048, 0, 14336, 30720, 0, 129024, 260096, 524032, 1048572, 2097151, 4194303]
    [⟨(some 78), .mov (.t 11), none⟩,
    ⟨(some 79), .mov (.t 16), none⟩,
    ⟨(some 80), .fieldAddr 0 (.t 3), none⟩,
    ⟨(some 81), .load (some 3) (.t 80), none⟩,
    ⟨(some 82), .mov (.t 11), none⟩,
    ⟨(some 83), .mov (.t 16), none⟩,
    ⟨(some 84), .indexAddr 1 (.t 82) (.t 83), none⟩,
    ⟨(some 85), .load none (.t 84), none⟩,
    ⟨(some 86), .fieldAddr 0 (.t 3), none⟩,
    ⟨(some 87), .load (some 3) (.t 86), none⟩,
    ⟨(some 88), .mov (.t 13), none⟩,
    ⟨(some 89), .fieldAddr 3 (.t 3), none⟩,
    ⟨(some 90), .load none (.t 89), none⟩,
    ⟨(some 91), .mov (.t 12), none⟩,
    ⟨(some 92), .indexAddr 1 (.t 90) (.t 91), none⟩,
    ⟨(some 93), .load none (.t 92), none⟩,
    ⟨(some 94), .mov (.t 16), none⟩,
    ⟨(some 95), .indexAddr 1 (.t 93) (.t 94), none⟩,
    ⟨(some 96), .load none (.t 95), none⟩,
    ⟨(some 97), .call fid_ref04_Dot [(.t 87), (.t 88), (.t 96)], none⟩,
    ⟨(some 98), .call fid_ref04_Add [(.t 81), (.t 85), (.t 97)], none⟩]
    [⟨(some 99), .indexAddr 1 (.t 78) (.t 79), none⟩,
    ⟨none, .store 1 (.t 99) (.t 98), none⟩]))
  (.region [⟨(some 76), .mov (.t 16), none⟩,
    ⟨(some 77), .bin .add (.t 76) (.c (.int .i64 1)), none⟩,
    ⟨(some 16), .mov (.t 77), none⟩]))))))))))
  (.region [⟨(some 31), .mov (.t 12), none⟩,
    ⟨(some 32), .bin .add (.t 31) (.c (.int .i64 1)), none⟩,
    ⟨(some 12), .mov (.t 32), none⟩]))))))
  (.seq (.region [⟨(some 100), .mov (.t 9), none⟩,
    ⟨(some 101), .mov (.t 11), none⟩,
    ⟨(some 6), .mov (.t 100), none⟩,
    ⟨(some 7), .mov (.t 101), none⟩])
  .ret)))))))
def F_ref20_Next : GFun := ⟨3, 102, B_ref20_Next, [.t 6, .t 7]⟩
theorem ok_ref20_Next : okFun Go.Proofs.Try.prog fid_ref20_Next F_ref20_Next = true := by kernel_rfl
def B_ref20_List : GCode :=
  (.seq (.region [⟨(some 2), .box (.t 0), none⟩,
    ⟨(some 4), .mov (.c (.int .i64 0)), none⟩])
  (.seq (.seq (.region [⟨(some 5), .mov (.t 1), none⟩,
    ⟨(some 6), .len (.t 5), none⟩,
    ⟨(some 7), .fieldAddr 3 (.t 2), none⟩,
    ⟨(some 8), .load none (.t 7), none⟩,
    ⟨(some 9), .len (.t 8), none⟩,
    ⟨(some 10), .bin .neq (.t 6) (.t 9), none⟩])
  (.cond (.t 10)
  (.seq (.region [⟨(some 4), .mov (.c (.int .i64 4)), none⟩])
  .ret)
  .skip))
  (.seq (.region [⟨(some 11), .fieldAddr 0 (.t 2), none⟩,
    ⟨(some 12), .load (some 3) (.t 11), none⟩,
    ⟨(some 13), .mov (.t 1), none⟩,
    ⟨(some 14), .call fid_ref09_Entries [(.t 12), (.t 13)], none⟩,
    ⟨(some 4), .mov (.t 14), none⟩])
  .ret)))
def F_ref20_List : GFun := ⟨2, 15, B_ref20_List, [.t 4]⟩
theorem ok_ref20_List : okFun Go.Proofs.Try.prog fid_ref20_List F_ref20_List = true := by kernel_rfl
def B_ref20_States : GCode :=
  (.seq (.region [⟨(some 1), .box (.t 0), none⟩,
    ⟨(some 2), .mov (.c (.int .i64 0)), none⟩])
  (.seq (.region [⟨(some 3), .mov (.c (.int .i64 1)), none⟩])
  (.seq (.seq (.region [⟨(some 4), .mov (.c (.int .i64 0)), none⟩])
  (.block 0 (.loop (.seq (.seq (.region [⟨(some 6), .mov (.t 4), none⟩,
    ⟨(some 7), .fieldAddr 3 (.t 1), none⟩,
    ⟨(some 8), .load none (.t 7), none⟩,
    ⟨(some 9), .len (.t 8), none⟩,
    ⟨(some 10), .bin .lss (.t 6) (.t 9), none⟩])
  (.cond (.t 10)
  .skip
  (.exit 0)))
  (.seq (.block 1 (.seq (.region [⟨(some 5), .mov (.c (.int .i64 0)), none⟩])
  (.block 2 (.loop (.seq (.seq (.region [⟨(some 13), .mov (.t 5), none⟩,
    ⟨(some 14), .load (some 4) (.t 1), none⟩,
    ⟨(some 15), .mov (.t 4), none⟩,
    ⟨(some 16), .call fid_ref20_Degree [(.t 14), (.t 15)], none⟩,
    ⟨(some 17), .bin .lss (.t 13) (.t 16), none⟩])
  (.cond (.t 17)
  .skip
  (.exit 2)))
  (.seq (.block 3 (.region [⟨(some 20), .mov (.t 3), none⟩,
    ⟨(some 21), .fieldAddr 0 (.t 1), none⟩,
    ⟨(some 22), .load (some 3) (.t 21), none⟩,
    ⟨(some 23), .call fid_ref04_Order [(.t 22)], none⟩,
    ⟨(some 24), .bin .mul (.t 20) (.t 23), none⟩,
    ⟨(some 3), .mov (.t 24), none⟩]))
  (.region [⟨(some 18), .mov (.t 5), none⟩,
    ⟨(some 19), .bin .add (.t 18) (.c (.int .i64 1)), none⟩,
    ⟨(some 5), .mov (.t 19), none⟩])))))))
  (.region [⟨(some 11), .mov (.t 4), none⟩,
    ⟨(some 12), .bin .add (.t 11) (.c (.int .i64 1)), none⟩,
    ⟨(some 4), .mov (.t 12), none⟩]))))))
  (.seq (.region [⟨(some 25), .mov (.t 3), none⟩,
    ⟨(some 2), .mov (.t 25), none⟩])
  .ret))))
def F_ref20_States : GFun := ⟨1, 26, B_ref20_States, [.t 2]⟩
theorem ok_ref20_States : okFun Go.Proofs.Try.prog fid_ref20_States F_ref20_States = true := by kernel_rfl
def B_ref20_Steps : GCode :=
  (.seq (.region [⟨(some 2), .box (.t 0), none⟩,
    ⟨(some 4), .mov (.c (.int .i64 0)), none⟩])
  (.seq (.seq (.region [⟨(some 5), .mov (.c (.int .i64 0)), none⟩])
  (.block 0 (.loop (.seq (.seq (.region [⟨(some 7), .mov (.t 5), none⟩,
    ⟨(some 8), .mov (.t 1), none⟩,
    ⟨(some 9), .len (.t 8), none⟩,
    ⟨(some 10), .bin .lss (.t 7) (.t 9), none⟩])
  (.cond (.t 10)
  .skip
  (.exit 0)))
  (.seq (.block 1 (.seq (.draw [0, 0, 0, 6, 14, 31, 63]
    [⟨(some 13), .load (some 4) (.t 2), none⟩,
    ⟨(some 14), .mov (.t 1), none⟩,
    ⟨(some 15), .mov (.t 5), none⟩,
    ⟨(some 16), .indexAddr 1 (.t 14) (.t 15), none⟩,
    ⟨(some 17), .load none (.t 16), none⟩]
    [⟨(some 18), .call fid_ref20_List [(.t 13), (.t 17)], none⟩,
    ⟨(some 6), .mov (.t 18), none⟩])
  (.seq (.region [⟨(some 19), .mov (.t 6), none⟩,
    ⟨(some 20), .bin .neq (.t 19) (.c (.int .i64 0)), none⟩])
  (.cond (.t 20)
  (.seq (.region [⟨(some 21), .mov (.t 6), none⟩,
    ⟨(some 4), .mov (.t 21), none⟩])
  .ret)
  .skip))))
  (.region [⟨(some 11), .mov (.t 5), none⟩,
    ⟨(some 12), .bin .add (.t 11) (.c (.int .i64 1)), none⟩,
    ⟨(some 5), .mov (.t 12), none⟩]))))))
  (.seq (.region [⟨(some 4), .mov (.c (.int .i64 0)), none⟩])
  .ret)))
def F_ref20_Steps : GFun := ⟨2, 22, B_ref20_Steps, [.t 4]⟩
theorem ok_ref20_Steps : okFun Go.Proofs.Try.prog fid_ref20_Steps F_ref20_Steps = true := by kernel_rfl
def B_ref20_Encode : GCode :=
  (.seq (.region [⟨(some 2), .box (.t 0), none⟩,
    ⟨(some 4), .mov (.c (.nil)), none⟩])
  (.seq (.region [⟨(some 5), .mov (.c (.nil)), none⟩])
  (.seq (.seq (.region [⟨(some 6), .mov (.c (.int .i64 0)), none⟩])
  (.block 0 (.loop (.seq (.seq (.region [⟨(some 11), .mov (.t 6), none⟩,
    ⟨(some 12), .mov (.t 1), none⟩,
    ⟨(some 13), .len (.t 12), none⟩,
    ⟨(some 14), .bin .lss (.t 11) (.t 13), none⟩])
  (.cond (.t 14)
  .skip
  (.exit 0)))
  (.seq (.block 1 (.seq (.region [⟨(some 17), .fieldAddr 3 (.t 2), none⟩,
    ⟨(some 18), .load none (.t 17), none⟩,
    ⟨(some 19), .indexAddr 1 (.t 18) (.c (.int .i64 0)), none⟩,
    ⟨(some 20), .load none (.t 19), none⟩,
    ⟨(some 21), .len (.t 20), none⟩,
    ⟨(some 22), .mslice (.int .i64 0) 8 (.t 21) (.t 21), none⟩,
    ⟨(some 7), .mov (.t 22), none⟩])
  (.seq (.seq (.region [⟨(some 8), .mov (.c (.int .i64 0)), none⟩])
  (.block 2 (.loop (.seq (.seq (.region [⟨(some 23), .mov (.t 8), none⟩,
    ⟨(some 24), .mov (.t 7), none⟩,
    ⟨(some 25), .len (.t 24), none⟩,
    ⟨(some 26), .bin .lss (.t 23) (.t 25), none⟩])
  (.cond (.t 26)
  .skip
  (.exit 2)))
  (.seq (.block 3 (.seq (.region [⟨(some 9), .mov (.c (.int .i64 0)), none⟩])
  (.block 4 (.loop (.seq (.seq (.region [⟨(some 29), .mov (.t 9), none⟩,
    ⟨(some 30), .fieldAddr 3 (.t 2), none⟩,
    ⟨(some 31), .load none (.t 30), none⟩,
    ⟨(some 32), .len (.t 31), none⟩,
    ⟨(some 33), .bin .lss (.t 29) (.t 32), none⟩])
  (.cond (.t 33)
  .skip
  (.exit 4)))
  (.seq (.block 5 (.seq (.region [⟨(some 10), .mov (.c (.int .i64 0)), none⟩])
  (.block 6 (.loop (.seq (.seq (.region [⟨(some 36), .mov (.t 10), none⟩,
    ⟨(some 37), .mov (.t 6), none⟩,
    ⟨(some 38), .bin .leq (.t 36) (.t 37), none⟩,
    ⟨(some 39), .mov (.t 38), none⟩,
    ⟨(some 40), .mov (.t 10), (some (39, true))⟩,
    ⟨(some 41), .fieldAddr 3 (.t 2), (some (39, true))⟩,
    ⟨(some 42), .load none (.t 41), (some (39, true))⟩,
    ⟨(some 43), .mov (.t 9), (some (39, true))⟩,
    ⟨(some 44), .indexAddr 1 (.t 42) (.t 43), (some (39, true))⟩,
    ⟨(some 45), .load none (.t 44), (some (39, true))⟩,
    ⟨(some 46), .mov (.t 8), (some (39, true))⟩,
    ⟨(some 47), .indexAddr 1 (.t 45) (.t 46), (some (39, true))⟩,
    ⟨(some 48), .load none (.t 47), (some (39, true))⟩,
    ⟨(some 49), .len (.t 48), (some (39, true))⟩,
    ⟨(some 50), .bin .lss (.t 40) (.t 49), (some (39, true))⟩,
    ⟨(some 51), .pick (.t 39) (.t 50) (.c (.bool false)), none⟩])
  (.cond (.t 51)
  .skip
  (.exit 6)))
  (.seq (.block 7 (.draw [0, 0, 0, 4, 0, 0, 48, 112, 0, 256, 0, 1024, 0, 7168, 15360, 0, 64512, 130048, 0, 523264, 1047552, 0, 0, 0, 12582912, 31457280, 65011712, 0, 266338304, 534773760, 1073741568, 2147483644, 4294967295, 8589934591]
    [⟨(some 54), .mov (.t 7), none⟩,
    ⟨(some 55), .mov (.t 8), none⟩,
    ⟨(some 56), .fieldAddr 0 (.t 2), none⟩,
    ⟨(some 57), .load (some 3) (.t 56), none⟩,
    ⟨(some 58), .mov (.t 7), none⟩,
    ⟨(some 59), .mov (.t 8), none⟩,
    ⟨(some 60), .indexAddr 1 (.t 58) (.t 59), none⟩,
    ⟨(some 61), .load none (.t 60), none⟩,
    ⟨(some 62), .fieldAddr 0 (.t 2), none⟩,
    ⟨(some 63), .load (some 3) (.t 62), none⟩,
    ⟨(some 64), .fieldAddr 3 (.t 2), none⟩,
    ⟨(some 65), .load none (.t 64), none⟩,
    ⟨(some 66), .mov (.t 9), none⟩,
    ⟨(some 67), .indexAddr 1 (.t 65) (.t 66), none⟩,
    ⟨(some 68), .load none (.t 67), none⟩,
    ⟨(some 69), .mov (.t 8), none⟩,
    ⟨(some 70), .indexAddr 1 (.t 68) (.t 69), none⟩,
    ⟨(some 71), .load none (.t 70), none⟩,
    ⟨(some 72), .mov (.t 10), none⟩,
    ⟨(some 73), .indexAddr 1 (.t 71) (.t 72), none⟩,
    ⟨(some 74), .load none (.t 73), none⟩,
    ⟨(some 75), .mov (.t 1), none⟩,
    ⟨(some 76), .mov (.t 6), none⟩,
    ⟨(some 77), .mov (.t 10), none⟩,
    ⟨(some 78), .bin .sub (.t 76) (.t 77), none⟩,
    ⟨(some 79), .indexAddr 1 (.t 75) (.t 78), none⟩,
    ⟨(some 80), .load none (.t 79), none⟩,
    ⟨(some 81), .mov (.t 9), none⟩,
    ⟨(some 82), .indexAddr 1 (.t 80) (.t 81), none⟩,
    ⟨(some 83), .load none (.t 82), none⟩,
    ⟨(some 84), .call fid_ref04_Mul [(.t 63), (.t 74), (.t 83)], none⟩,
    ⟨(some 85), .call fid_ref04_Add [(.t 57), (.t 61), (.t 84)], none⟩]
    [⟨(some 86), .indexAddr 1 (.t 54) (.t 55), none⟩,
    ⟨none, .store 1 (.t 86) (.t 85), none⟩]))
  (.region [⟨(some 52), .mov (.t 10), none⟩,
    ⟨(some 53), .bin .add (.t 52) (.c (.int .i64 1)), none⟩,
    ⟨(some 10), .mov (.t 53), none⟩])))))))
  (.region [⟨(some 34), .mov (.t 9), none⟩,
    ⟨(some 35), .bin .add (.t 34) (.c (.int .i64 1)), none⟩,
    ⟨(some 9), .mov (.t 35), none⟩])))))))
  (.region [⟨(some 27), .mov (.t 8), none⟩,
    ⟨(some 28), .bin .add (.t 27) (.c (.int .i64 1)), none⟩,
    ⟨(some 8), .mov (.t 28), none⟩]))))))
  (.region [⟨(some 87), .mov (.t 5), none⟩,
    ⟨(some 88), .mov (.t 7), none⟩,
    ⟨(some 89), .bslice 1 [.nil] [(0, 1, (.t 88))], none⟩,
    ⟨(some 90), .append 24 (.t 87) (.t 89), none⟩,
    ⟨(some 5), .mov (.t 90), none⟩]))))
  (.region [⟨(some 15), .mov (.t 6), none⟩,
    ⟨(some 16), .bin .add (.t 15) (.c (.int .i64 1)), none⟩,
    ⟨(some 6), .mov (.t 16), none⟩]))))))
  (.seq (.region [⟨(some 91), .mov (.t 5), none⟩,
    ⟨(some 4), .mov (.t 91), none⟩])
  .ret))))
def F_ref20_Encode : GFun := ⟨2, 92, B_ref20_Encode, [.t 4]⟩
theorem ok_ref20_Encode : okFun Go.Proofs.Try.prog fid_ref20_Encode F_ref20_Encode = true := by kernel_rfl
def B_ref20_Memory : GCode :=
  (.seq (.region [⟨(some 1), .box (.t 0), none⟩,
    ⟨(some 2), .mov (.c (.int .i64 0)), none⟩])
  (.seq (.region [⟨(some 3), .mov (.c (.int .i64 0)), none⟩])
  (.seq (.seq (.region [⟨(some 4), .mov (.c (.int .i64 0)), none⟩])
  (.block 0 (.loop (.seq (.seq (.region [⟨(some 5), .mov (.t 4), none⟩,
    ⟨(some 6), .fieldAddr 3 (.t 1), none⟩,
    ⟨(some 7), .load none (.t 6), none⟩,
    ⟨(some 8), .len (.t 7), none⟩,
    ⟨(some 9), .bin .lss (.t 5) (.t 8), none⟩])
  (.cond (.t 9)
  .skip
  (.exit 0)))
  (.seq (.block 1 (.region [⟨(some 12), .mov (.t 3), none⟩,
    ⟨(some 13), .load (some 4) (.t 1), none⟩,
    ⟨(some 14), .mov (.t 4), none⟩,
    ⟨(some 15), .call fid_ref20_Degree [(.t 13), (.t 14)], none⟩,
    ⟨(some 16), .mm true (.t 12) (.t 15), none⟩,
    ⟨(some 3), .mov (.t 16), none⟩]))
  (.region [⟨(some 10), .mov (.t 4), none⟩,
    ⟨(some 11), .bin .add (.t 10) (.c (.int .i64 1)), none⟩,
    ⟨(some 4), .mov (.t 11), none⟩]))))))
  (.seq (.region [⟨(some 17), .mov (.t 3), none⟩,
    ⟨(some 2), .mov (.t 17), none⟩])
  .ret))))
def F_ref20_Memory : GFun := ⟨1, 18, B_ref20_Memory, [.t 2]⟩
theorem ok_ref20_Memory : okFun Go.Proofs.Try.prog fid_ref20_Memory F_ref20_Memory = true := by kernel_rfl
def B_ref20_Terminate : GCode :=
  (.seq (.region [⟨(some 2), .box (.t 0), none⟩,
    ⟨(some 4), .mov (.c (.nil)), none⟩])
  (.seq (.region [⟨(some 7), .empty, none⟩,
    ⟨(some 8), .mov (.t 1), none⟩,
    ⟨(some 9), .append 24 (.t 7) (.t 8), none⟩,
    ⟨(some 5), .mov (.t 9), none⟩])
  (.seq (.seq (.region [⟨(some 6), .mov (.c (.int .i64 0)), none⟩])
  (.block 0 (.loop (.seq (.seq (.region [⟨(some 10), .mov (.t 6), none⟩,
    ⟨(some 11), .load (some 4) (.t 2), none⟩,
    ⟨(some 12), .call fid_ref20_Memory [(.t 11)], none⟩,
    ⟨(some 13), .bin .lss (.t 10) (.t 12), none⟩])
  (.cond (.t 13)
  .skip
  (.exit 0)))
  (.seq (.block 1 (.region [⟨(some 16), .mov (.t 5), none⟩,
    ⟨(some 17), .fieldAddr 3 (.t 2), none⟩,
    ⟨(some 18), .load none (.t 17), none⟩,
    ⟨(some 19), .len (.t 18), none⟩,
    ⟨(some 20), .mslice (.int .i64 0) 8 (.t 19) (.t 19), none⟩,
    ⟨(some 21), .bslice 1 [.nil] [(0, 1, (.t 20))], none⟩,
    ⟨(some 22), .append 24 (.t 16) (.t 21), none⟩,
    ⟨(some 5), .mov (.t 22), none⟩]))
  (.region [⟨(some 14), .mov (.t 6), none⟩,
    ⟨(some 15), .bin .add (.t 14) (.c (.int .i64 1)), none⟩,
    ⟨(some 6), .mov (.t 15), none⟩]))))))
  (.seq (.region [⟨(some 23), .mov (.t 5), none⟩,
    ⟨(some 4), .mov (.t 23), none⟩])
  .ret))))
def F_ref20_Terminate : GFun := ⟨2, 24, B_ref20_Terminate, [.t 4]⟩
theorem ok_ref20_Terminate : okFun Go.Proofs.Try.prog fid_ref20_Terminate F_ref20_Terminate = true := by kernel_rfl
def B_conv_build : GCode :=
  (.seq (.region [⟨(some 1), .box (.t 0), none⟩,
    ⟨(some 2), .mov (.c (.nilp)), none⟩,
    ⟨(some 3), .mov (.c (.int .i64 0)), none⟩])
  (.seq (.region [⟨(some 24), .fieldAddr 0 (.t 1), none⟩,
    ⟨(some 25), .load (some 3) (.t 24), none⟩,
    ⟨(some 26), .call fid_field_New [(.t 25)], none⟩,
    ⟨(some 23), .mov (.t 26), none⟩,
    ⟨(some 27), .extract 0 (.t 23), none⟩,
    ⟨(some 28), .extract 1 (.t 23), none⟩,
    ⟨(some 4), .mov (.t 27), none⟩,
    ⟨(some 5), .mov (.t 28), none⟩])
  (.seq (.seq (.region [⟨(some 29), .mov (.t 5), none⟩,
    ⟨(some 30), .bin .neq (.t 29) (.c (.int .i64 0)), none⟩])
  (.cond (.t 30)
  (.seq (.region [⟨(some 31), .mov (.t 5), none⟩,
    ⟨(some 2), .mov (.c (.nilp)), none⟩,
    ⟨(some 3), .mov (.t 31), none⟩])
  .ret)
  .skip))
  (.seq (.seq (.draw [0, 1, 3, 7, 15, 31, 63, 127, 255, 511, 1023, 2047, 4095, 8191, 16383, 32767, 8191, 73727, 204799, 466943, 991231, 2097151, 4194303]
    [⟨(some 32), .fieldAddr 3 (.t 1), none⟩,
    ⟨(some 33), .load none (.t 32), none⟩,
    ⟨(some 34), .len (.t 33), none⟩,
    ⟨(some 35), .bin .eql (.t 34) (.c (.int .i64 0)), none⟩,
    ⟨(some 36), .mov (.t 35), none⟩,
    ⟨(some 37), .fieldAddr 3 (.t 1), (some (36, false))⟩,
    ⟨(some 38), .load none (.t 37), (some (36, false))⟩,
    ⟨(some 39), .indexAddr 1 (.t 38) (.c (.int .i64 0)), (some (36, false))⟩,
    ⟨(some 40), .load none (.t 39), (some (36, false))⟩,
    ⟨(some 41), .len (.t 40), (some (36, false))⟩,
    ⟨(some 42), .bin .eql (.t 41) (.c (.int .i64 0)), (some (36, false))⟩,
    ⟨(some 43), .pick (.t 36) (.c (.bool true)) (.t 42), none⟩,
    ⟨(some 44), .mov (.t 43), none⟩,
    ⟨(some 45), .fieldAddr 3 (.t 1), (some (44, false))⟩,
    ⟨(some 46), .load none (.t 45), (some (44, false))⟩,
    ⟨(some 47), .len (.t 46), (some (44, false))⟩,
    ⟨(some 48), .fieldAddr 3 (.t 1), (some (44, false))⟩,
    ⟨(some 49), .load none (.t 48), (some (44, false))⟩,
    ⟨(some 50), .indexAddr 1 (.t 49) (.c (.int .i64 0)), (some (44, false))⟩,
    ⟨(some 51), .load none (.t 50), (some (44, false))⟩,
    ⟨(some 52), .len (.t 51), (some (44, false))⟩]
    [⟨(some 53), .bin .gtr (.t 47) (.t 52), (some (44, false))⟩,
    ⟨(some 54), .pick (.t 44) (.c (.bool true)) (.t 53), none⟩])
  (.cond (.t 54)
  (.seq (.region [⟨(some 2), .mov (.c (.nilp)), none⟩,
    ⟨(some 3), .mov (.c (.int .i64 3)), none⟩])
  .ret)
  .skip))
  (.seq (.draw [0, 0, 2, 6, 0, 16, 48, 112, 240, 0, 512, 2047, 4095, 8191]
    [⟨(some 55), .mov (.t 4), none⟩,
    ⟨(some 56), .fieldAddr 3 (.t 1), none⟩,
    ⟨(some 57), .load none (.t 56), none⟩,
    ⟨(some 58), .len (.t 57), none⟩,
    ⟨(some 59), .fieldAddr 3 (.t 1), none⟩,
    ⟨(some 60), .load none (.t 59), none⟩,
    ⟨(some 61), .indexAddr 1 (.t 60) (.c (.int .i64 0)), none⟩,
    ⟨(some 62), .load none (.t 61), none⟩,
    ⟨(some 63), .len (.t 62), none⟩,
    ⟨(some 64), .mov (.t 4), none⟩,
    ⟨(some 65), .call fid_field_GF_Order [(.t 64)], none⟩]
    [⟨(some 66), .build [.nilp, .nil, .int .i64 0, .int .i64 0, .nil, .int .i64 0, .int .i64 0, .int .i64 0, .nil] [(0, 1, (.t 55)), (2, 1, (.t 58)), (3, 1, (.t 63)), (6, 1, (.t 65)), (7, 1, (.c (.int .i64 1)))], none⟩,
    ⟨(some 67), .box (.t 66), none⟩,
    ⟨(some 6), .mov (.t 67), none⟩])
  (.seq (.seq (.region [⟨(some 68), .fieldAddr 3 (.t 1), none⟩,
    ⟨(some 69), .load none (.t 68), none⟩,
    ⟨(some 70), .len (.t 69), none⟩,
    ⟨(some 71), .mov (.c (.int .i64 0)), none⟩])
  (.block 0 (.loop (.seq (.region [⟨(some 72), .bin .lss (.t 71) (.t 70), none⟩])
  (.seq (.cond (.t 72)
  .skip
  (.exit 0))
  (.seq (.block 1 (.seq (.region [⟨(some 73), .indexAddr 1 (.t 69) (.t 71), none⟩,
    ⟨(some 74), .load none (.t 73), none⟩,
    ⟨(some 8), .mov (.t 74), none⟩])
  (.seq (.region [⟨(some 75), .mov (.t 8), none⟩,
    ⟨(some 76), .len (.t 75), none⟩,
    ⟨(some 77), .mov (.t 6), none⟩,
    ⟨(some 78), .nilCheck (.t 77), none⟩,
    ⟨(some 79), .fieldAddr 3 (.t 78), none⟩,
    ⟨(some 80), .load none (.t 79), none⟩,
    ⟨(some 81), .bin .neq (.t 76) (.t 80), none⟩])
  (.cond (.t 81)
  (.seq (.region [⟨(some 2), .mov (.c (.nilp)), none⟩,
    ⟨(some 3), .mov (.c (.int .i64 3)), none⟩])
  .ret)
  .skip))))
  (.region [⟨(some 82), .bin .add (.t 71) (.c (.int .i64 1)), none⟩,
    ⟨(some 71), .mov (.t 82), none⟩])))))))
  (.seq (.seq (.region [⟨(some 83), .mov (.t 6), none⟩,
    ⟨(some 84), .nilCheck (.t 83), none⟩,
    ⟨(some 85), .fieldAddr 3 (.t 84), none⟩,
    ⟨(some 86), .load none (.t 85), none⟩,
    ⟨(some 87), .bin .gtr (.t 86) (.c (.int .i64 64)), none⟩])
  (.cond (.t 87)
  (.seq (.region [⟨(some 2), .mov (.c (.nilp)), none⟩,
    ⟨(some 3), .mov (.c (.int .i64 4)), none⟩])
  .ret)
  .skip))
  (.seq (.region [⟨(some 88), .mov (.t 6), none⟩,
    ⟨(some 89), .nilCheck (.t 88), none⟩,
    ⟨(some 90), .fieldAddr 2 (.t 89), none⟩,
    ⟨(some 91), .load none (.t 90), none⟩,
    ⟨(some 9), .mov (.t 91), none⟩])
  (.seq (.seq (.region [⟨(some 92), .fieldAddr 3 (.t 1), none⟩,
    ⟨(some 93), .load none (.t 92), none⟩,
    ⟨(some 94), .len (.t 93), none⟩,
    ⟨(some 95), .mov (.c (.int .i64 0)), none⟩])
  (.block 2 (.loop (.seq (.region [⟨(some 96), .bin .lss (.t 95) (.t 94), none⟩])
  (.seq (.cond (.t 96)
  .skip
  (.exit 2))
  (.seq (.block 3 (.seq (.region [⟨(some 97), .indexAddr 1 (.t 93) (.t 95), none⟩,
    ⟨(some 98), .load none (.t 97), none⟩,
    ⟨(some 11), .mov (.t 98), none⟩])
  (.seq (.region [⟨(some 12), .mov (.c (.int .i64 0)), none⟩])
  (.seq (.region [⟨(some 13), .mov (.c (.nil)), none⟩])
  (.seq (.seq (.region [⟨(some 99), .mov (.t 11), none⟩,
    ⟨(some 100), .len (.t 99), none⟩,
    ⟨(some 101), .mov (.c (.int .i64 0)), none⟩])
  (.block 4 (.loop (.seq (.region [⟨(some 102), .bin .lss (.t 101) (.t 100), none⟩])
  (.seq (.cond (.t 102)
  .skip
  (.exit 4))
  (.seq (.block 5 (.seq (.region [⟨(some 103), .indexAddr 1 (.t 99) (.t 101), none⟩,
    ⟨(some 104), .load none (.t 103), none⟩,
    ⟨(some 15), .mov (.t 104), none⟩])
  (.seq (.seq (.region [⟨(some 105), .mov (.t 15), none⟩,
    ⟨(some 106), .len (.t 105), none⟩,
    ⟨(some 107), .mov (.c (.int .i64 0)), none⟩])
  (.block 6 (.loop (.seq (.region [⟨(some 108), .bin .lss (.t 107) (.t 106), none⟩])
  (.seq (.cond (.t 108)
  .skip
  (.exit 6))
  (.seq (.block 7 (.seq (.region [⟨(some 109), .indexAddr 1 (.t 105) (.t 107), none⟩,
    ⟨(some 110), .load none (.t 109), none⟩,
    ⟨(some 17), .mov (.t 110), none⟩])
  (.seq (.region [⟨(some 111), .mov (.t 4), none⟩,
    ⟨(some 112), .mov (.t 17), none⟩,
    ⟨(some 113), .call fid_field_GF_Is [(.t 111), (.t 112)], none⟩,
    ⟨(some 114), .un .not (.t 113), none⟩])
  (.cond (.t 114)
  (.seq (.region [⟨(some 2), .mov (.c (.nilp)), none⟩,
    ⟨(some 3), .mov (.c (.int .i64 2)), none⟩])
  .ret)
  .skip))))
  (.region [⟨(some 115), .bin .add (.t 107) (.c (.int .i64 1)), none⟩,
    ⟨(some 107), .mov (.t 115), none⟩])))))))
  (.seq (.region [⟨(some 116), .mov (.t 4), none⟩,
    ⟨(some 117), .mov (.t 15), none⟩,
    ⟨(some 118), .call fid_poly_Canon [(.t 116), (.t 117)], none⟩,
    ⟨(some 18), .mov (.t 118), none⟩])
  (.seq (.region [⟨(some 119), .mov (.t 13), none⟩,
    ⟨(some 120), .mov (.t 18), none⟩,
    ⟨(some 121), .bslice 1 [.nil] [(0, 1, (.t 120))], none⟩,
    ⟨(some 122), .append 24 (.t 119) (.t 121), none⟩,
    ⟨(some 13), .mov (.t 122), none⟩])
  (.region [⟨(some 123), .mov (.t 12), none⟩,
    ⟨(some 124), .mov (.t 18), none⟩,
    ⟨(some 125), .len (.t 124), none⟩,
    ⟨(some 126), .bin .sub (.t 125) (.c (.int .i64 1)), none⟩,
    ⟨(some 127), .mm true (.t 123) (.t 126), none⟩,
    ⟨(some 12), .mov (.t 127), none⟩]))))))
  (.region [⟨(some 128), .bin .add (.t 101) (.c (.int .i64 1)), none⟩,
    ⟨(some 101), .mov (.t 128), none⟩])))))))
  (.seq (.region [⟨(some 129), .mov (.t 6), none⟩,
    ⟨(some 130), .mov (.t 6), none⟩,
    ⟨(some 131), .nilCheck (.t 130), none⟩,
    ⟨(some 132), .fieldAddr 1 (.t 131), none⟩,
    ⟨(some 133), .load none (.t 132), none⟩,
    ⟨(some 134), .mov (.t 13), none⟩,
    ⟨(some 135), .bslice 1 [.nil] [(0, 1, (.t 134))], none⟩,
    ⟨(some 136), .append 24 (.t 133) (.t 135), none⟩,
    ⟨(some 137), .nilCheck (.t 129), none⟩,
    ⟨(some 138), .fieldAddr 1 (.t 137), none⟩,
    ⟨none, .store 1 (.t 138) (.t 136), none⟩])
  (.seq (.region [⟨(some 139), .mov (.t 6), none⟩,
    ⟨(some 140), .mov (.t 6), none⟩,
    ⟨(some 141), .nilCheck (.t 140), none⟩,
    ⟨(some 142), .fieldAddr 4 (.t 141), none⟩,
    ⟨(some 143), .load none (.t 142), none⟩,
    ⟨(some 144), .mov (.t 12), none⟩,
    ⟨(some 145), .bslice 1 [.int .i64 0] [(0, 1, (.t 144))], none⟩,
    ⟨(some 146), .append 8 (.t 143) (.t 145), none⟩,
    ⟨(some 147), .nilCheck (.t 139), none⟩,
    ⟨(some 148), .fieldAddr 4 (.t 147), none⟩,
    ⟨none, .store 1 (.t 148) (.t 146), none⟩])
  (.seq (.region [⟨(some 149), .mov (.t 6), none⟩,
    ⟨(some 150), .mov (.t 6), none⟩,
    ⟨(some 151), .nilCheck (.t 150), none⟩,
    ⟨(some 152), .fieldAddr 5 (.t 151), none⟩,
    ⟨(some 153), .load none (.t 152), none⟩,
    ⟨(some 154), .mov (.t 12), none⟩,
    ⟨(some 155), .mm true (.t 153) (.t 154), none⟩,
    ⟨(some 156), .nilCheck (.t 149), none⟩,
    ⟨(some 157), .fieldAddr 5 (.t 156), none⟩,
    ⟨none, .store 1 (.t 157) (.t 155), none⟩])
  (.region [⟨(some 158), .mov (.t 9), none⟩,
    ⟨(some 159), .mov (.t 12), none⟩,
    ⟨(some 160), .bin .add (.t 158) (.t 159), none⟩,
    ⟨(some 9), .mov (.t 160), none⟩])))))))))
  (.region [⟨(some 161), .bin .add (.t 95) (.c (.int .i64 1)), none⟩,
    ⟨(some 95), .mov (.t 161), none⟩])))))))
  (.seq (.seq (.region [⟨(some 163), .mov (.t 6), none⟩,
    ⟨(some 164), .nilCheck (.t 163), none⟩,
    ⟨(some 165), .fieldAddr 6 (.t 164), none⟩,
    ⟨(some 166), .load none (.t 165), none⟩,
    ⟨(some 167), .mov (.t 9), none⟩,
    ⟨(some 168), .call fid_number_Exp [(.t 166), (.t 167), (.c (.int .i64 65536))], none⟩,
    ⟨(some 162), .mov (.t 168), none⟩,
    ⟨(some 169), .extract 0 (.t 162), none⟩,
    ⟨(some 170), .extract 1 (.t 162), none⟩,
    ⟨(some 19), .mov (.t 169), none⟩,
    ⟨(some 20), .mov (.t 170), none⟩])
  (.seq (.region [⟨(some 171), .mov (.t 20), none⟩,
    ⟨(some 172), .bin .neq (.t 171) (.c (.int .i64 0)), none⟩])
  (.cond (.t 172)
  (.seq (.region [⟨(some 2), .mov (.c (.nilp)), none⟩,
    ⟨(some 3), .mov (.c (.int .i64 8)), none⟩])
  .ret)
  .skip)))
  (.seq (.seq (.region [⟨(some 173), .mov (.t 6), none⟩,
    ⟨(some 174), .nilCheck (.t 173), none⟩,
    ⟨(some 175), .fieldAddr 4 (.t 174), none⟩,
    ⟨(some 176), .load none (.t 175), none⟩,
    ⟨(some 177), .len (.t 176), none⟩,
    ⟨(some 178), .mov (.c (.int .i64 0)), none⟩])
  (.block 8 (.loop (.seq (.region [⟨(some 179), .bin .lss (.t 178) (.t 177), none⟩])
  (.seq (.cond (.t 179)
  .skip
  (.exit 8))
  (.seq (.block 9 (.seq (.region [⟨(some 180), .indexAddr 1 (.t 176) (.t 178), none⟩,
    ⟨(some 181), .load none (.t 180), none⟩,
    ⟨(some 22), .mov (.t 181), none⟩])
  (.seq (.draw [0, 0, 2, 6, 14, 0, 32, 96, 224, 480, 1022, 2047, 4095, 8191]
    [⟨(some 182), .mov (.t 6), none⟩,
    ⟨(some 183), .mov (.t 6), none⟩,
    ⟨(some 184), .nilCheck (.t 183), none⟩,
    ⟨(some 185), .fieldAddr 8 (.t 184), none⟩,
    ⟨(some 186), .load none (.t 185), none⟩,
    ⟨(some 187), .mov (.t 6), none⟩,
    ⟨(some 188), .nilCheck (.t 187), none⟩,
    ⟨(some 189), .fieldAddr 7 (.t 188), none⟩,
    ⟨(some 190), .load none (.t 189), none⟩,
    ⟨(some 191), .blit [.int .i64 0] [(0, 1, (.t 190))], none⟩]
    [⟨(some 192), .append 8 (.t 186) (.t 191), none⟩,
    ⟨(some 193), .nilCheck (.t 182), none⟩,
    ⟨(some 194), .fieldAddr 8 (.t 193), none⟩,
    ⟨none, .store 1 (.t 194) (.t 192), none⟩])
  (.seq (.region [⟨(some 195), .mov (.t 22), none⟩,
    ⟨(some 196), .mov (.c (.int .i64 0)), none⟩])
  (.block 10 (.loop (.seq (.region [⟨(some 197), .bin .lss (.t 196) (.t 195), none⟩])
  (.seq (.cond (.t 197)
  .skip
  (.exit 10))
  (.seq (.block 11 (.draw [0, 1, 3, 7, 0, 16, 48, 112, 255, 511, 1023, 2047]
    [⟨(some 198), .mov (.t 6), none⟩,
    ⟨(some 199), .nilCheck (.t 198), none⟩,
    ⟨(some 200), .fieldAddr 7 (.t 199), none⟩,
    ⟨(some 201), .load none (.t 200), none⟩,
    ⟨(some 202), .mov (.t 6), none⟩,
    ⟨(some 203), .nilCheck (.t 202), none⟩,
    ⟨(some 204), .fieldAddr 6 (.t 203), none⟩,
    ⟨(some 205), .load none (.t 204), none⟩]
    [⟨(some 206), .bin .mul (.t 201) (.t 205), none⟩,
    ⟨(some 207), .nilCheck (.t 198), none⟩,
    ⟨(some 208), .fieldAddr 7 (.t 207), none⟩,
    ⟨none, .store 1 (.t 208) (.t 206), none⟩]))
  (.region [⟨(some 209), .bin .add (.t 196) (.c (.int .i64 1)), none⟩,
    ⟨(some 196), .mov (.t 209), none⟩]))))))))))
  (.region [⟨(some 210), .bin .add (.t 178) (.c (.int .i64 1)), none⟩,
    ⟨(some 178), .mov (.t 210), none⟩])))))))
  (.seq (.region [⟨(some 211), .mov (.t 6), none⟩,
    ⟨(some 2), .mov (.t 211), none⟩,
    ⟨(some 3), .mov (.c (.int .i64 0)), none⟩])
  .ret))))))))))))
def F_conv_build : GFun := ⟨1, 212, B_conv_build, [.t 2, .t 3]⟩
theorem ok_conv_build : okFun Go.Proofs.Try.prog fid_conv_build F_conv_build = true := by kernel_rfl
def B_conv_Check : GCode :=
  (.seq (.region [⟨(some 1), .box (.t 0), none⟩,
    ⟨(some 2), .mov (.c (.int .i64 0)), none⟩])
  (.seq (.region [⟨(some 6), .load (some 4) (.t 1), none⟩,
    ⟨(some 7), .call fid_conv_build [(.t 6)], none⟩,
    ⟨(some 5), .mov (.t 7), none⟩,
    ⟨(some 8), .extract 0 (.t 5), none⟩,
    ⟨(some 9), .extract 1 (.t 5), none⟩,
    ⟨(some 3), .mov (.t 8), none⟩,
    ⟨(some 4), .mov (.t 9), none⟩])
  (.seq (.region [⟨(some 10), .mov (.t 4), none⟩,
    ⟨(some 2), .mov (.t 10), none⟩])
  .ret)))
def F_conv_Check : GFun := ⟨1, 11, B_conv_Check, [.t 2]⟩
theorem ok_conv_Check : okFun Go.Proofs.Try.prog fid_conv_Check F_conv_Check = true := by kernel_rfl
def B_conv_Degrees : GCode :=
  (.seq (.region [⟨(some 1), .box (.t 0), none⟩,
    ⟨(some 2), .mov (.c (.nil)), none⟩,
    ⟨(some 3), .mov (.c (.int .i64 0)), none⟩])
  (.seq (.region [⟨(some 7), .load (some 4) (.t 1), none⟩,
    ⟨(some 8), .call fid_conv_build [(.t 7)], none⟩,
    ⟨(some 6), .mov (.t 8), none⟩,
    ⟨(some 9), .extract 0 (.t 6), none⟩,
    ⟨(some 10), .extract 1 (.t 6), none⟩,
    ⟨(some 4), .mov (.t 9), none⟩,
    ⟨(some 5), .mov (.t 10), none⟩])
  (.seq (.seq (.region [⟨(some 11), .mov (.t 5), none⟩,
    ⟨(some 12), .bin .neq (.t 11) (.c (.int .i64 0)), none⟩])
  (.cond (.t 12)
  (.seq (.region [⟨(some 13), .mov (.t 5), none⟩,
    ⟨(some 2), .mov (.c (.nil)), none⟩,
    ⟨(some 3), .mov (.t 13), none⟩])
  .ret)
  .skip))
  (.seq (.region [⟨(some 14), .mov (.t 4), none⟩,
    ⟨(some 15), .nilCheck (.t 14), none⟩,
    ⟨(some 16), .fieldAddr 4 (.t 15), none⟩,
    ⟨(some 17), .load none (.t 16), none⟩,
    ⟨(some 2), .mov (.t 17), none⟩,
    ⟨(some 3), .mov (.c (.int .i64 0)), none⟩])
  .ret))))
def F_conv_Degrees : GFun := ⟨1, 18, B_conv_Degrees, [.t 2, .t 3]⟩
theorem ok_conv_Degrees : okFun Go.Proofs.Try.prog fid_conv_Degrees F_conv_Degrees = true := by kernel_rfl
def B_conv_coefficient : GCode :=
  (.seq (.region [⟨(some 4), .mov (.c (.int .i64 0)), none⟩])
  (.seq (.seq (.region [⟨(some 5), .mov (.t 1), none⟩,
    ⟨(some 6), .mov (.t 0), none⟩,
    ⟨(some 7), .len (.t 6), none⟩,
    ⟨(some 8), .bin .lss (.t 5) (.t 7), none⟩])
  (.cond (.t 8)
  (.seq (.region [⟨(some 9), .mov (.t 0), none⟩,
    ⟨(some 10), .mov (.t 1), none⟩,
    ⟨(some 11), .indexAddr 1 (.t 9) (.t 10), none⟩,
    ⟨(some 12), .load none (.t 11), none⟩,
    ⟨(some 4), .mov (.t 12), none⟩])
  .ret)
  .skip))
  (.seq (.region [⟨(some 4), .mov (.c (.int .i64 0)), none⟩])
  .ret)))
def F_conv_coefficient : GFun := ⟨2, 13, B_conv_coefficient, [.t 4]⟩
theorem ok_conv_coefficient : okFun Go.Proofs.Try.prog fid_conv_coefficient F_conv_coefficient = true := by kernel_rfl
def B_conv_machine_step : GCode :=
  (.seq (.region [⟨(some 6), .mov (.c (.int .i64 0)), none⟩,
    ⟨(some 7), .mov (.c (.nil)), none⟩])
  (.seq (.draw [0, 1, 3, 7, 15, 0, 63]
    [⟨(some 16), .mov (.t 0), none⟩,
    ⟨(some 17), .nilCheck (.t 16), none⟩,
    ⟨(some 18), .fieldAddr 3 (.t 17), none⟩,
    ⟨(some 19), .load none (.t 18), none⟩,
    ⟨(some 20), .mslice (.int .i64 0) 8 (.t 19) (.t 19), none⟩,
    ⟨(some 8), .mov (.c (.int .i64 0)), none⟩]
    [⟨(some 9), .mov (.t 20), none⟩])
  (.seq (.seq (.region [⟨(some 21), .mov (.t 2), none⟩,
    ⟨(some 22), .len (.t 21), none⟩,
    ⟨(some 23), .mov (.c (.int .i64 0)), none⟩])
  (.block 0 (.loop (.seq (.region [⟨(some 24), .bin .lss (.t 23) (.t 22), none⟩])
  (.seq (.cond (.t 24)
  .skip
  (.exit 0))
  (.seq (.block 1 (.seq (.region [⟨(some 25), .mov (.t 23), none⟩,
    ⟨(some 26), .indexAddr 1 (.t 21) (.t 23), none⟩,
    ⟨(some 27), .load none (.t 26), none⟩,
    ⟨(some 10), .mov (.t 25), none⟩,
    ⟨(some 11), .mov (.t 27), none⟩])
  (.seq (.draw [0, 1, 3, 7, 0, 31, 63, 0, 0, 256, 768, 1792, 0, 7936, 16128, 32640, 127, 131071]
    [⟨(some 28), .mov (.t 0), none⟩,
    ⟨(some 29), .nilCheck (.t 28), none⟩,
    ⟨(some 30), .fieldAddr 8 (.t 29), none⟩,
    ⟨(some 31), .load none (.t 30), none⟩,
    ⟨(some 32), .mov (.t 10), none⟩,
    ⟨(some 33), .indexAddr 1 (.t 31) (.t 32), none⟩,
    ⟨(some 34), .load none (.t 33), none⟩,
    ⟨(some 35), .mov (.t 1), none⟩,
    ⟨(some 36), .mov (.t 0), none⟩,
    ⟨(some 37), .nilCheck (.t 36), none⟩,
    ⟨(some 38), .fieldAddr 8 (.t 37), none⟩,
    ⟨(some 39), .load none (.t 38), none⟩,
    ⟨(some 40), .mov (.t 10), none⟩,
    ⟨(some 41), .indexAddr 1 (.t 39) (.t 40), none⟩,
    ⟨(some 42), .load none (.t 41), none⟩,
    ⟨(some 43), .bin .quo (.t 35) (.t 42), none⟩,
    ⟨(some 12), .mov (.t 34), none⟩]
    [⟨(some 13), .mov (.t 43), none⟩])
  (.seq (.region [⟨(some 14), .mov (.c (.int .i64 0)), none⟩])
  (.block 2 (.loop (.seq (.seq (.region [⟨(some 44), .mov (.t 14), none⟩,
    ⟨(some 45), .mov (.t 0), none⟩,
    ⟨(some 46), .nilCheck (.t 45), none⟩,
    ⟨(some 47), .fieldAddr 4 (.t 46), none⟩,
    ⟨(some 48), .load none (.t 47), none⟩,
    ⟨(some 49), .mov (.t 10), none⟩,
    ⟨(some 50), .indexAddr 1 (.t 48) (.t 49), none⟩,
    ⟨(some 51), .load none (.t 50), none⟩,
    ⟨(some 52), .bin .leq (.t 44) (.t 51), none⟩])
  (.cond (.t 52)
  .skip
  (.exit 2)))
  (.seq (.block 3 (.seq (.seq (.region [⟨(some 55), .mov (.t 11), none⟩,
    ⟨(some 56), .bin .neq (.t 55) (.c (.int .i64 0)), none⟩])
  (.cond (.t 56)
  (.seq (.region [⟨(some 57), .mov (.t 9), none⟩,
    ⟨(some 58), .len (.t 57), none⟩,
    ⟨(some 59), .mov (.c (.int .i64 0)), none⟩])
  (.block 4 (.loop (.seq (.region [⟨(some 60), .bin .lss (.t 59) (.t 58), none⟩])
  (.seq (.cond (.t 60)
  .skip
  (.exit 4))
  (.seq (.block 5 (.seq (.region [⟨(some 61), .mov (.t 59), none⟩,
    ⟨(some 15), .mov (.t 61), none⟩])
  (.draw [0, 0, 0, 4, 12, 28, 0, 0, 192, 448, 0, 1024, 3072, 7168, 0, 0, 32768, 98304, 229376, 0, 1015808, 2064384, 0, 8355840, 16744448, 0, 67076096, 134216704, 268435452, 536870911, 1073741823]
    [⟨(some 62), .mov (.t 9), none⟩,
    ⟨(some 63), .mov (.t 15), none⟩,
    ⟨(some 64), .mov (.t 0), none⟩,
    ⟨(some 65), .nilCheck (.t 64), none⟩,
    ⟨(some 66), .fieldAddr 0 (.t 65), none⟩,
    ⟨(some 67), .load none (.t 66), none⟩,
    ⟨(some 68), .mov (.t 9), none⟩,
    ⟨(some 69), .mov (.t 15), none⟩,
    ⟨(some 70), .indexAddr 1 (.t 68) (.t 69), none⟩,
    ⟨(some 71), .load none (.t 70), none⟩,
    ⟨(some 72), .mov (.t 0), none⟩,
    ⟨(some 73), .nilCheck (.t 72), none⟩,
    ⟨(some 74), .fieldAddr 0 (.t 73), none⟩,
    ⟨(some 75), .load none (.t 74), none⟩,
    ⟨(some 76), .mov (.t 11), none⟩,
    ⟨(some 77), .mov (.t 0), none⟩,
    ⟨(some 78), .nilCheck (.t 77), none⟩,
    ⟨(some 79), .fieldAddr 1 (.t 78), none⟩,
    ⟨(some 80), .load none (.t 79), none⟩,
    ⟨(some 81), .mov (.t 10), none⟩,
    ⟨(some 82), .indexAddr 1 (.t 80) (.t 81), none⟩,
    ⟨(some 83), .load none (.t 82), none⟩,
    ⟨(some 84), .mov (.t 15), none⟩,
    ⟨(some 85), .indexAddr 1 (.t 83) (.t 84), none⟩,
    ⟨(some 86), .load none (.t 85), none⟩,
    ⟨(some 87), .mov (.t 14), none⟩,
    ⟨(some 88), .call fid_conv_coefficient [(.t 86), (.t 87)], none⟩,
    ⟨(some 89), .call fid_field_GF_Mul [(.t 75), (.t 76), (.t 88)], none⟩,
    ⟨(some 90), .call fid_field_GF_Add [(.t 67), (.t 71), (.t 89)], none⟩]
    [⟨(some 91), .indexAddr 1 (.t 62) (.t 63), none⟩,
    ⟨none, .store 1 (.t 91) (.t 90), none⟩])))
  (.region [⟨(some 92), .bin .add (.t 59) (.c (.int .i64 1)), none⟩,
    ⟨(some 59), .mov (.t 92), none⟩])))))))
  .skip))
  (.seq (.region [⟨(some 93), .mov (.t 14), none⟩,
    ⟨(some 94), .mov (.t 0), none⟩,
    ⟨(some 95), .nilCheck (.t 94), none⟩,
    ⟨(some 96), .fieldAddr 4 (.t 95), none⟩,
    ⟨(some 97), .load none (.t 96), none⟩,
    ⟨(some 98), .mov (.t 10), none⟩,
    ⟨(some 99), .indexAddr 1 (.t 97) (.t 98), none⟩,
    ⟨(some 100), .load none (.t 99), none⟩,
    ⟨(some 101), .bin .lss (.t 93) (.t 100), none⟩])
  (.cond (.t 101)
  (.seq (.region [⟨(some 102), .mov (.t 8), none⟩,
    ⟨(some 103), .mov (.t 11), none⟩,
    ⟨(some 104), .mov (.t 12), none⟩,
    ⟨(some 105), .bin .mul (.t 103) (.t 104), none⟩,
    ⟨(some 106), .bin .add (.t 102) (.t 105), none⟩,
    ⟨(some 8), .mov (.t 106), none⟩])
  (.seq (.region [⟨(some 107), .mov (.t 12), none⟩,
    ⟨(some 108), .mov (.t 0), none⟩,
    ⟨(some 109), .nilCheck (.t 108), none⟩,
    ⟨(some 110), .fieldAddr 6 (.t 109), none⟩,
    ⟨(some 111), .load none (.t 110), none⟩,
    ⟨(some 112), .bin .mul (.t 107) (.t 111), none⟩,
    ⟨(some 12), .mov (.t 112), none⟩])
  (.seq (.region [⟨(some 113), .mov (.t 13), none⟩,
    ⟨(some 114), .mov (.t 0), none⟩,
    ⟨(some 115), .nilCheck (.t 114), none⟩,
    ⟨(some 116), .fieldAddr 6 (.t 115), none⟩,
    ⟨(some 117), .load none (.t 116), none⟩,
    ⟨(some 118), .bin .rem (.t 113) (.t 117), none⟩,
    ⟨(some 11), .mov (.t 118), none⟩])
  (.region [⟨(some 119), .mov (.t 13), none⟩,
    ⟨(some 120), .mov (.t 0), none⟩,
    ⟨(some 121), .nilCheck (.t 120), none⟩,
    ⟨(some 122), .fieldAddr 6 (.t 121), none⟩,
    ⟨(some 123), .load none (.t 122), none⟩,
    ⟨(some 124), .bin .quo (.t 119) (.t 123), none⟩,
    ⟨(some 13), .mov (.t 124), none⟩]))))
  .skip))))
  (.region [⟨(some 53), .mov (.t 14), none⟩,
    ⟨(some 54), .bin .add (.t 53) (.c (.int .i64 1)), none⟩,
    ⟨(some 14), .mov (.t 54), none⟩])))))))))
  (.region [⟨(some 125), .bin .add (.t 23) (.c (.int .i64 1)), none⟩,
    ⟨(some 23), .mov (.t 125), none⟩])))))))
  (.seq (.region [⟨(some 126), .mov (.t 8), none⟩,
    ⟨(some 127), .mov (.t 9), none⟩,
    ⟨(some 6), .mov (.t 126), none⟩,
    ⟨(some 7), .mov (.t 127), none⟩])
  .ret))))
def F_conv_machine_step : GFun := ⟨3, 128, B_conv_machine_step, [.t 6, .t 7]⟩
theorem ok_conv_machine_step : okFun Go.Proofs.Try.prog fid_conv_machine_step F_conv_machine_step = true := by kernel_rfl
def B_conv_machine_input : GCode :=
  (.seq (.region [⟨(some 4), .mov (.c (.int .i64 0)), none⟩])
  (.seq (.seq (.region [⟨(some 7), .mov (.t 1), none⟩,
    ⟨(some 8), .len (.t 7), none⟩,
    ⟨(some 9), .mov (.t 0), none⟩,
    ⟨(some 10), .nilCheck (.t 9), none⟩,
    ⟨(some 11), .fieldAddr 2 (.t 10), none⟩,
    ⟨(some 12), .load none (.t 11), none⟩,
    ⟨(some 13), .bin .neq (.t 8) (.t 12), none⟩])
  (.cond (.t 13)
  (.seq (.region [⟨(some 4), .mov (.c (.int .i64 4)), none⟩])
  .ret)
  .skip))
  (.seq (.seq (.region [⟨(some 14), .mov (.t 1), none⟩,
    ⟨(some 15), .len (.t 14), none⟩,
    ⟨(some 16), .mov (.c (.int .i64 0)), none⟩])
  (.block 0 (.loop (.seq (.region [⟨(some 17), .bin .lss (.t 16) (.t 15), none⟩])
  (.seq (.cond (.t 17)
  .skip
  (.exit 0))
  (.seq (.block 1 (.seq (.region [⟨(some 18), .indexAddr 1 (.t 14) (.t 16), none⟩,
    ⟨(some 19), .load none (.t 18), none⟩,
    ⟨(some 6), .mov (.t 19), none⟩])
  (.seq (.region [⟨(some 20), .mov (.t 0), none⟩,
    ⟨(some 21), .nilCheck (.t 20), none⟩,
    ⟨(some 22), .fieldAddr 0 (.t 21), none⟩,
    ⟨(some 23), .load none (.t 22), none⟩,
    ⟨(some 24), .mov (.t 6), none⟩,
    ⟨(some 25), .call fid_field_GF_Is [(.t 23), (.t 24)], none⟩,
    ⟨(some 26), .un .not (.t 25), none⟩])
  (.cond (.t 26)
  (.seq (.region [⟨(some 4), .mov (.c (.int .i64 2)), none⟩])
  .ret)
  .skip))))
  (.region [⟨(some 27), .bin .add (.t 16) (.c (.int .i64 1)), none⟩,
    ⟨(some 16), .mov (.t 27), none⟩])))))))
  (.seq (.region [⟨(some 4), .mov (.c (.int .i64 0)), none⟩])
  .ret))))
def F_conv_machine_input : GFun := ⟨2, 28, B_conv_machine_input, [.t 4]⟩
theorem ok_conv_machine_input : okFun Go.Proofs.Try.prog fid_conv_machine_input F_conv_machine_input = true := by kernel_rfl
def B_conv_machine_encode : GCode :=
  (.seq (.region [⟨(some 4), .mov (.c (.nil)), none⟩,
    ⟨(some 5), .mov (.c (.int .i64 0)), none⟩])
  (.seq (.region [⟨(some 6), .mov (.c (.nil)), none⟩])
  (.seq (.region [⟨(some 7), .mov (.c (.int .i64 0)), none⟩])
  (.seq (.seq (.region [⟨(some 13), .mov (.t 1), none⟩,
    ⟨(some 14), .len (.t 13), none⟩,
    ⟨(some 15), .mov (.c (.int .i64 0)), none⟩])
  (.block 0 (.loop (.seq (.region [⟨(some 16), .bin .lss (.t 15) (.t 14), none⟩])
  (.seq (.cond (.t 16)
  .skip
  (.exit 0))
  (.seq (.block 1 (.seq (.region [⟨(some 17), .indexAddr 1 (.t 13) (.t 15), none⟩,
    ⟨(some 18), .load none (.t 17), none⟩,
    ⟨(some 9), .mov (.t 18), none⟩])
  (.seq (.seq (.region [⟨(some 19), .mov (.t 0), none⟩,
    ⟨(some 20), .mov (.t 9), none⟩,
    ⟨(some 21), .call fid_conv_machine_input [(.t 19), (.t 20)], none⟩,
    ⟨(some 10), .mov (.t 21), none⟩])
  (.seq (.region [⟨(some 22), .mov (.t 10), none⟩,
    ⟨(some 23), .bin .neq (.t 22) (.c (.int .i64 0)), none⟩])
  (.cond (.t 23)
  (.seq (.region [⟨(some 24), .mov (.t 10), none⟩,
    ⟨(some 4), .mov (.c (.nil)), none⟩,
    ⟨(some 5), .mov (.t 24), none⟩])
  .ret)
  .skip)))
  (.seq (.region [⟨(some 26), .mov (.t 0), none⟩,
    ⟨(some 27), .mov (.t 7), none⟩,
    ⟨(some 28), .mov (.t 9), none⟩,
    ⟨(some 29), .call fid_conv_machine_step [(.t 26), (.t 27), (.t 28)], none⟩,
    ⟨(some 25), .mov (.t 29), none⟩,
    ⟨(some 30), .extract 0 (.t 25), none⟩,
    ⟨(some 31), .extract 1 (.t 25), none⟩,
    ⟨(some 11), .mov (.t 30), none⟩,
    ⟨(some 12), .mov (.t 31), none⟩])
  (.seq (.region [⟨(some 32), .mov (.t 6), none⟩,
    ⟨(some 33), .mov (.t 12), none⟩,
    ⟨(some 34), .bslice 1 [.nil] [(0, 1, (.t 33))], none⟩,
    ⟨(some 35), .append 24 (.t 32) (.t 34), none⟩,
    ⟨(some 6), .mov (.t 35), none⟩])
  (.region [⟨(some 36), .mov (.t 11), none⟩,
    ⟨(some 7), .mov (.t 36), none⟩]))))))
  (.region [⟨(some 37), .bin .add (.t 15) (.c (.int .i64 1)), none⟩,
    ⟨(some 15), .mov (.t 37), none⟩])))))))
  (.seq (.region [⟨(some 38), .mov (.t 6), none⟩,
    ⟨(some 4), .mov (.t 38), none⟩,
    ⟨(some 5), .mov (.c (.int .i64 0)), none⟩])
  .ret)))))
def F_conv_machine_encode : GFun := ⟨2, 39, B_conv_machine_encode, [.t 4, .t 5]⟩
theorem ok_conv_machine_encode : okFun Go.Proofs.Try.prog fid_conv_machine_encode F_conv_machine_encode = true := by kernel_rfl
def B_conv_Next : GCode :=
  (.seq (.region [⟨(some 3), .box (.t 0), none⟩,
    ⟨(some 6), .mov (.c (.int .i64 0)), none⟩,
    ⟨(some 7), .mov (.c (.nil)), none⟩,
    ⟨(some 8), .mov (.c (.int .i64 0)), none⟩])
  (.seq (.region [⟨(some 12), .load (some 4) (.t 3), none⟩,
    ⟨(some 13), .call fid_conv_build [(.t 12)], none⟩,
    ⟨(some 11), .mov (.t 13), none⟩,
    ⟨(some 14), .extract 0 (.t 11), none⟩,
    ⟨(some 15), .extract 1 (.t 11), none⟩,
    ⟨(some 9), .mov (.t 14), none⟩,
    ⟨(some 8), .mov (.t 15), none⟩])
  (.seq (.seq (.region [⟨(some 16), .mov (.t 8), none⟩,
    ⟨(some 17), .bin .neq (.t 16) (.c (.int .i64 0)), none⟩])
  (.cond (.t 17)
  (.seq (.region [⟨(some 18), .mov (.t 8), none⟩,
    ⟨(some 6), .mov (.c (.int .i64 0)), none⟩,
    ⟨(some 7), .mov (.c (.nil)), none⟩,
    ⟨(some 8), .mov (.t 18), none⟩])
  .ret)
  .skip))
  (.seq (.seq (.region [⟨(some 19), .mov (.t 1), none⟩,
    ⟨(some 20), .bin .lss (.t 19) (.c (.int .i64 0)), none⟩,
    ⟨(some 21), .mov (.t 20), none⟩,
    ⟨(some 22), .mov (.t 1), (some (21, false))⟩,
    ⟨(some 23), .mov (.t 9), (some (21, false))⟩,
    ⟨(some 24), .nilCheck (.t 23), (some (21, false))⟩,
    ⟨(some 25), .fieldAddr 7 (.t 24), (some (21, false))⟩,
    ⟨(some 26), .load none (.t 25), (some (21, false))⟩,
    ⟨(some 27), .bin .geq (.t 22) (.t 26), (some (21, false))⟩,
    ⟨(some 28), .pick (.t 21) (.c (.bool true)) (.t 27), none⟩])
  (.cond (.t 28)
  (.seq (.region [⟨(some 6), .mov (.c (.int .i64 0)), none⟩,
    ⟨(some 7), .mov (.c (.nil)), none⟩,
    ⟨(some 8), .mov (.c (.int .i64 6)), none⟩])
  .ret)
  .skip))
  (.seq (.seq (.region [⟨(some 29), .mov (.t 9), none⟩,
    ⟨(some 30), .mov (.t 2), none⟩,
    ⟨(some 31), .call fid_conv_machine_input [(.t 29), (.t 30)], none⟩,
    ⟨(some 10), .mov (.t 31), none⟩])
  (.seq (.region [⟨(some 32), .mov (.t 10), none⟩,
    ⟨(some 33), .bin .neq (.t 32) (.c (.int .i64 0)), none⟩])
  (.cond (.t 33)
  (.seq (.region [⟨(some 34), .mov (.t 10), none⟩,
    ⟨(some 6), .mov (.c (.int .i64 0)), none⟩,
    ⟨(some 7), .mov (.c (.nil)), none⟩,
    ⟨(some 8), .mov (.t 34), none⟩])
  .ret)
  .skip)))
  (.seq (.region [⟨(some 36), .mov (.t 9), none⟩,
    ⟨(some 37), .mov (.t 1), none⟩,
    ⟨(some 38), .mov (.t 2), none⟩,
    ⟨(some 39), .call fid_conv_machine_step [(.t 36), (.t 37), (.t 38)], none⟩,
    ⟨(some 35), .mov (.t 39), none⟩,
    ⟨(some 40), .extract 0 (.t 35), none⟩,
    ⟨(some 41), .extract 1 (.t 35), none⟩,
    ⟨(some 6), .mov (.t 40), none⟩,
    ⟨(some 7), .mov (.t 41), none⟩])
  (.seq (.region [⟨(some 42), .mov (.t 6), none⟩,
    ⟨(some 43), .mov (.t 7), none⟩,
    ⟨(some 6), .mov (.t 42), none⟩,
    ⟨(some 7), .mov (.t 43), none⟩,
    ⟨(some 8), .mov (.c (.int .i64 0)), none⟩])
  .ret)))))))
def F_conv_Next : GFun := ⟨3, 44, B_conv_Next, [.t 6, .t 7, .t 8]⟩
theorem ok_conv_Next : okFun Go.Proofs.Try.prog fid_conv_Next F_conv_Next = true := by kernel_rfl
def B_conv_Encode : GCode :=
  (.seq (.region [⟨(some 2), .box (.t 0), none⟩,
    ⟨(some 4), .mov (.c (.nil)), none⟩,
    ⟨(some 5), .mov (.c (.int .i64 0)), none⟩])
  (.seq (.region [⟨(some 9), .load (some 4) (.t 2), none⟩,
    ⟨(some 10), .call fid_conv_build [(.t 9)], none⟩,
    ⟨(some 8), .mov (.t 10), none⟩,
    ⟨(some 11), .extract 0 (.t 8), none⟩,
    ⟨(some 12), .extract 1 (.t 8), none⟩,
    ⟨(some 6), .mov (.t 11), none⟩,
    ⟨(some 7), .mov (.t 12), none⟩])
  (.seq (.seq (.region [⟨(some 13), .mov (.t 7), none⟩,
    ⟨(some 14), .bin .neq (.t 13) (.c (.int .i64 0)), none⟩])
  (.cond (.t 14)
  (.seq (.region [⟨(some 15), .mov (.t 7), none⟩,
    ⟨(some 4), .mov (.c (.nil)), none⟩,
    ⟨(some 5), .mov (.t 15), none⟩])
  .ret)
  .skip))
  (.seq (.region [⟨(some 16), .mov (.t 6), none⟩,
    ⟨(some 17), .mov (.t 1), none⟩,
    ⟨(some 18), .call fid_conv_machine_encode [(.t 16), (.t 17)], none⟩,
    ⟨(some 19), .extract 0 (.t 18), none⟩,
    ⟨(some 20), .extract 1 (.t 18), none⟩,
    ⟨(some 4), .mov (.t 19), none⟩,
    ⟨(some 5), .mov (.t 20), none⟩])
  .ret))))
def F_conv_Encode : GFun := ⟨2, 21, B_conv_Encode, [.t 4, .t 5]⟩
theorem ok_conv_Encode : okFun Go.Proofs.Try.prog fid_conv_Encode F_conv_Encode = true := by kernel_rfl
def B_law20_few : GCode :=
  (.seq (.region [⟨(some 1), .box (.t 0), none⟩,
    ⟨(some 2), .mov (.c (.bool false)), none⟩])
  (.seq (.seq (.region [⟨(some 6), .fieldAddr 3 (.t 1), none⟩,
    ⟨(some 7), .load none (.t 6), none⟩,
    ⟨(some 8), .len (.t 7), none⟩,
    ⟨(some 9), .bin .gtr (.t 8) (.c (.int .i64 70)), none⟩])
  (.cond (.t 9)
  (.seq (.region [⟨(some 2), .mov (.c (.bool false)), none⟩])
  .ret)
  .skip))
  (.seq (.region [⟨(some 3), .mov (.c (.int .i64 0)), none⟩])
  (.seq (.seq (.region [⟨(some 4), .mov (.c (.int .i64 0)), none⟩])
  (.block 0 (.loop (.seq (.seq (.region [⟨(some 10), .mov (.t 4), none⟩,
    ⟨(some 11), .fieldAddr 3 (.t 1), none⟩,
    ⟨(some 12), .load none (.t 11), none⟩,
    ⟨(some 13), .len (.t 12), none⟩,
    ⟨(some 14), .bin .lss (.t 10) (.t 13), none⟩])
  (.cond (.t 14)
  .skip
  (.exit 0)))
  (.seq (.block 1 (.seq (.seq (.region [⟨(some 17), .fieldAddr 3 (.t 1), none⟩,
    ⟨(some 18), .load none (.t 17), none⟩,
    ⟨(some 19), .mov (.t 4), none⟩,
    ⟨(some 20), .indexAddr 1 (.t 18) (.t 19), none⟩,
    ⟨(some 21), .load none (.t 20), none⟩,
    ⟨(some 22), .len (.t 21), none⟩,
    ⟨(some 23), .bin .gtr (.t 22) (.c (.int .i64 70)), none⟩])
  (.cond (.t 23)
  (.seq (.region [⟨(some 2), .mov (.c (.bool false)), none⟩])
  .ret)
  .skip))
  (.seq (.region [⟨(some 5), .mov (.c (.int .i64 0)), none⟩])
  (.block 2 (.loop (.seq (.seq (.region [⟨(some 24), .mov (.t 5), none⟩,
    ⟨(some 25), .fieldAddr 3 (.t 1), none⟩,
    ⟨(some 26), .load none (.t 25), none⟩,
    ⟨(some 27), .mov (.t 4), none⟩,
    ⟨(some 28), .indexAddr 1 (.t 26) (.t 27), none⟩,
    ⟨(some 29), .load none (.t 28), none⟩,
    ⟨(some 30), .len (.t 29), none⟩,
    ⟨(some 31), .bin .lss (.t 24) (.t 30), none⟩])
  (.cond (.t 31)
  .skip
  (.exit 2)))
  (.seq (.block 3 (.seq (.seq (.region [⟨(some 34), .fieldAddr 3 (.t 1), none⟩,
    ⟨(some 35), .load none (.t 34), none⟩,
    ⟨(some 36), .mov (.t 4), none⟩,
    ⟨(some 37), .indexAddr 1 (.t 35) (.t 36), none⟩,
    ⟨(some 38), .load none (.t 37), none⟩,
    ⟨(some 39), .mov (.t 5), none⟩,
    ⟨(some 40), .indexAddr 1 (.t 38) (.t 39), none⟩,
    ⟨(some 41), .load none (.t 40), none⟩,
    ⟨(some 42), .len (.t 41), none⟩,
    ⟨(some 43), .bin .gtr (.t 42) (.c (.int .i64 40)), none⟩])
  (.cond (.t 43)
  (.seq (.region [⟨(some 2), .mov (.c (.bool false)), none⟩])
  .ret)
  .skip))
  (.region [⟨(some 44), .mov (.t 3), none⟩,
    ⟨(some 45), .fieldAddr 3 (.t 1), none⟩,
    ⟨(some 46), .load none (.t 45), none⟩,
    ⟨(some 47), .mov (.t 4), none⟩,
    ⟨(some 48), .indexAddr 1 (.t 46) (.t 47), none⟩,
    ⟨(some 49), .load none (.t 48), none⟩,
    ⟨(some 50), .mov (.t 5), none⟩,
    ⟨(some 51), .indexAddr 1 (.t 49) (.t 50), none⟩,
    ⟨(some 52), .load none (.t 51), none⟩,
    ⟨(some 53), .len (.t 52), none⟩,
    ⟨(some 54), .bin .add (.t 44) (.t 53), none⟩,
    ⟨(some 3), .mov (.t 54), none⟩])))
  (.region [⟨(some 32), .mov (.t 5), none⟩,
    ⟨(some 33), .bin .add (.t 32) (.c (.int .i64 1)), none⟩,
    ⟨(some 5), .mov (.t 33), none⟩]))))))))
  (.region [⟨(some 15), .mov (.t 4), none⟩,
    ⟨(some 16), .bin .add (.t 15) (.c (.int .i64 1)), none⟩,
    ⟨(some 4), .mov (.t 16), none⟩]))))))
  (.seq (.region [⟨(some 55), .mov (.t 3), none⟩,
    ⟨(some 56), .bin .leq (.t 55) (.c (.int .i64 3000)), none⟩,
    ⟨(some 2), .mov (.t 56), none⟩])
  .ret)))))
def F_law20_few : GFun := ⟨1, 57, B_law20_few, [.t 2]⟩
theorem ok_law20_few : okFun Go.Proofs.Try.prog fid_law20_few F_law20_few = true := by kernel_rfl
def B_law20_four : GCode :=
  (.seq (.region [⟨(some 0), .alloc [.int .i64 0, .int .i64 0, .nil, .nil], none⟩])
  (.seq (.region [⟨(some 1), .build [.int .i64 0, .int .i64 0, .nil] [(0, 1, (.c (.int .i64 2))), (1, 1, (.c (.int .i64 1)))], none⟩,
    ⟨(some 2), .bslice 3 [.int .i64 0, .int .i64 0, .int .i64 0] [(0, 1, (.c (.int .i64 1))), (1, 1, (.c (.int .i64 0))), (2, 1, (.c (.int .i64 1)))], none⟩,
    ⟨(some 3), .bslice 3 [.int .i64 0, .int .i64 0, .int .i64 0] [(0, 1, (.c (.int .i64 1))), (1, 1, (.c (.int .i64 1))), (2, 1, (.c (.int .i64 1)))], none⟩,
    ⟨(some 4), .bslice 2 [.nil, .nil] [(0, 1, (.t 2)), (1, 1, (.t 3))], none⟩,
    ⟨(some 5), .bslice 1 [.nil] [(0, 1, (.t 4))], none⟩,
    ⟨(some 6), .build [.int .i64 0, .int .i64 0, .nil, .nil] [(0, 3, (.t 1)), (3, 1, (.t 5))], none⟩,
    ⟨none, .store 4 (.t 0) (.t 6), none⟩])
  .ret))
def F_law20_four : GFun := ⟨0, 7, B_law20_four, [.cell 0 (some 4)]⟩
theorem ok_law20_four : okFun Go.Proofs.Try.prog fid_law20_four F_law20_four = true := by kernel_rfl
def B_law20_ConvChecks : GCode :=
  (.seq (.region [⟨(some 1), .box (.t 0), none⟩,
    ⟨(some 2), .mov (.c (.bool false)), none⟩])
  (.seq (.seq (.region [⟨(some 6), .load (some 4) (.t 1), none⟩,
    ⟨(some 7), .call fid_law20_few [(.t 6)], none⟩,
    ⟨(some 8), .un .not (.t 7), none⟩])
  (.cond (.t 8)
  (.seq (.region [⟨(some 2), .mov (.c (.bool true)), none⟩])
  .ret)
  .skip))
  (.seq (.region [⟨(some 10), .load (some 4) (.t 1), none⟩,
    ⟨(some 11), .call fid_conv_Degrees [(.t 10)], none⟩,
    ⟨(some 9), .mov (.t 11), none⟩,
    ⟨(some 12), .extract 0 (.t 9), none⟩,
    ⟨(some 13), .extract 1 (.t 9), none⟩,
    ⟨(some 3), .mov (.t 12), none⟩,
    ⟨(some 4), .mov (.t 13), none⟩])
  (.seq (.region [⟨(some 14), .load (some 4) (.t 1), none⟩,
    ⟨(some 15), .call fid_ref20_Check [(.t 14)], none⟩,
    ⟨(some 5), .mov (.t 15), none⟩])
  (.seq (.seq (.region [⟨(some 16), .mov (.t 5), none⟩,
    ⟨(some 17), .bin .neq (.t 16) (.c (.int .i64 0)), none⟩])
  (.cond (.t 17)
  (.seq (.region [⟨(some 18), .load (some 4) (.t 1), none⟩,
    ⟨(some 19), .call fid_conv_Check [(.t 18)], none⟩,
    ⟨(some 20), .mov (.t 5), none⟩,
    ⟨(some 21), .bin .eql (.t 19) (.t 20), none⟩,
    ⟨(some 22), .mov (.t 21), none⟩,
    ⟨(some 23), .mov (.t 4), (some (22, true))⟩,
    ⟨(some 24), .mov (.t 5), (some (22, true))⟩,
    ⟨(some 25), .bin .eql (.t 23) (.t 24), (some (22, true))⟩,
    ⟨(some 26), .pick (.t 22) (.t 25) (.c (.bool false)), none⟩,
    ⟨(some 27), .mov (.t 26), none⟩,
    ⟨(some 28), .mov (.t 3), (some (27, true))⟩,
    ⟨(some 29), .len (.t 28), (some (27, true))⟩,
    ⟨(some 30), .bin .eql (.t 29) (.c (.int .i64 0)), (some (27, true))⟩,
    ⟨(some 31), .pick (.t 27) (.t 30) (.c (.bool false)), none⟩,
    ⟨(some 2), .mov (.t 31), none⟩])
  .ret)
  .skip))
  (.seq (.region [⟨(some 32), .load (some 4) (.t 1), none⟩,
    ⟨(some 33), .call fid_conv_Check [(.t 32)], none⟩,
    ⟨(some 34), .bin .eql (.t 33) (.c (.int .i64 0)), none⟩,
    ⟨(some 35), .mov (.t 34), none⟩,
    ⟨(some 36), .mov (.t 4), (some (35, true))⟩,
    ⟨(some 37), .bin .eql (.t 36) (.c (.int .i64 0)), (some (35, true))⟩,
    ⟨(some 38), .pick (.t 35) (.t 37) (.c (.bool false)), none⟩,
    ⟨(some 39), .mov (.t 38), none⟩,
    ⟨(some 40), .mov (.t 3), (some (39, true))⟩,
    ⟨(some 41), .load (some 4) (.t 1), (some (39, true))⟩,
    ⟨(some 42), .call fid_ref20_Degrees [(.t 41)], (some (39, true))⟩,
    ⟨(some 43), .call fid_ref09_SameInts [(.t 40), (.t 42)], (some (39, true))⟩,
    ⟨(some 44), .pick (.t 39) (.t 43) (.c (.bool false)), none⟩,
    ⟨(some 2), .mov (.t 44), none⟩])
  .ret))))))
def F_law20_ConvChecks : GFun := ⟨1, 45, B_law20_ConvChecks, [.t 2]⟩
theorem ok_law20_ConvChecks : okFun Go.Proofs.Try.prog fid_law20_ConvChecks F_law20_ConvChecks = true := by kernel_rfl
def B_law20_ConvNext : GCode :=
  (.seq (.region [⟨(some 3), .box (.t 0), none⟩,
    ⟨(some 6), .mov (.c (.bool false)), none⟩])
  (.seq (.seq (.region [⟨(some 13), .load (some 4) (.t 3), none⟩,
    ⟨(some 14), .call fid_law20_few [(.t 13)], none⟩,
    ⟨(some 15), .un .not (.t 14), none⟩])
  (.cond (.t 15)
  (.seq (.region [⟨(some 6), .mov (.c (.bool true)), none⟩])
  .ret)
  .skip))
  (.seq (.region [⟨(some 17), .load (some 4) (.t 3), none⟩,
    ⟨(some 18), .mov (.t 1), none⟩,
    ⟨(some 19), .mov (.t 2), none⟩,
    ⟨(some 20), .call fid_conv_Next [(.t 17), (.t 18), (.t 19)], none⟩,
    ⟨(some 16), .mov (.t 20), none⟩,
    ⟨(some 21), .extract 0 (.t 16), none⟩,
    ⟨(some 22), .extract 1 (.t 16), none⟩,
    ⟨(some 23), .extract 2 (.t 16), none⟩,
    ⟨(some 7), .mov (.t 21), none⟩,
    ⟨(some 8), .mov (.t 22), none⟩,
    ⟨(some 9), .mov (.t 23), none⟩])
  (.seq (.region [⟨(some 24), .load (some 4) (.t 3), none⟩,
    ⟨(some 25), .call fid_ref20_Check [(.t 24)], none⟩,
    ⟨(some 10), .mov (.t 25), none⟩])
  (.seq (.seq (.region [⟨(some 26), .mov (.t 10), none⟩,
    ⟨(some 27), .bin .eql (.t 26) (.c (.int .i64 0)), none⟩,
    ⟨(some 28), .mov (.t 27), none⟩,
    ⟨(some 29), .mov (.t 1), (some (28, true))⟩,
    ⟨(some 30), .bin .lss (.t 29) (.c (.int .i64 0)), (some (28, true))⟩,
    ⟨(some 31), .mov (.t 30), (some (28, true))⟩,
    ⟨(some 32), .mov (.t 1), (some (31, false))⟩,
    ⟨(some 33), .load (some 4) (.t 3), (some (31, false))⟩,
    ⟨(some 34), .call fid_ref20_States [(.t 33)], (some (31, false))⟩,
    ⟨(some 35), .bin .geq (.t 32) (.t 34), (some (31, false))⟩,
    ⟨(some 36), .pick (.t 31) (.c (.bool true)) (.t 35), (some (28, true))⟩,
    ⟨(some 37), .pick (.t 28) (.t 36) (.c (.bool false)), none⟩])
  (.cond (.t 37)
  (.region [⟨(some 10), .mov (.c (.int .i64 6)), none⟩])
  .skip))
  (.seq (.seq (.region [⟨(some 38), .mov (.t 10), none⟩,
    ⟨(some 39), .bin .eql (.t 38) (.c (.int .i64 0)), none⟩])
  (.cond (.t 39)
  (.region [⟨(some 40), .load (some 4) (.t 3), none⟩,
    ⟨(some 41), .mov (.t 2), none⟩,
    ⟨(some 42), .call fid_ref20_List [(.t 40), (.t 41)], none⟩,
    ⟨(some 10), .mov (.t 42), none⟩])
  .skip))
  (.seq (.seq (.region [⟨(some 43), .mov (.t 10), none⟩,
    ⟨(some 44), .bin .neq (.t 43) (.c (.int .i64 0)), none⟩])
  (.cond (.t 44)
  (.seq (.region [⟨(some 45), .mov (.t 9), none⟩,
    ⟨(some 46), .mov (.t 10), none⟩,
    ⟨(some 47), .bin .eql (.t 45) (.t 46), none⟩,
    ⟨(some 48), .mov (.t 47), none⟩,
    ⟨(some 49), .mov (.t 7), (some (48, true))⟩,
    ⟨(some 50), .bin .eql (.t 49) (.c (.int .i64 0)), (some (48, true))⟩,
    ⟨(some 51), .pick (.t 48) (.t 50) (.c (.bool false)), none⟩,
    ⟨(some 52), .mov (.t 51), none⟩,
    ⟨(some 53), .mov (.t 8), (some (52, true))⟩,
    ⟨(some 54), .len (.t 53), (some (52, true))⟩,
    ⟨(some 55), .bin .eql (.t 54) (.c (.int .i64 0)), (some (52, true))⟩,
    ⟨(some 56), .pick (.t 52) (.t 55) (.c (.bool false)), none⟩,
    ⟨(some 6), .mov (.t 56), none⟩])
  .ret)
  .skip))
  (.seq (.region [⟨(some 58), .load (some 4) (.t 3), none⟩,
    ⟨(some 59), .mov (.t 1), none⟩,
    ⟨(some 60), .mov (.t 2), none⟩,
    ⟨(some 61), .call fid_ref20_Next [(.t 58), (.t 59), (.t 60)], none⟩,
    ⟨(some 57), .mov (.t 61), none⟩,
    ⟨(some 62), .extract 0 (.t 57), none⟩,
    ⟨(some 63), .extract 1 (.t 57), none⟩,
    ⟨(some 11), .mov (.t 62), none⟩,
    ⟨(some 12), .mov (.t 63), none⟩])
  (.seq (.region [⟨(some 64), .mov (.t 9), none⟩,
    ⟨(some 65), .bin .eql (.t 64) (.c (.int .i64 0)), none⟩,
    ⟨(some 66), .mov (.t 65), none⟩,
    ⟨(some 67), .mov (.t 7), (some (66, true))⟩,
    ⟨(some 68), .mov (.t 11), (some (66, true))⟩,
    ⟨(some 69), .bin .eql (.t 67) (.t 68), (some (66, true))⟩,
    ⟨(some 70), .pick (.t 66) (.t 69) (.c (.bool false)), none⟩,
    ⟨(some 71), .mov (.t 70), none⟩,
    ⟨(some 72), .mov (.t 8), (some (71, true))⟩,
    ⟨(some 73), .mov (.t 12), (some (71, true))⟩,
    ⟨(some 74), .call fid_ref09_SameInts [(.t 72), (.t 73)], (some (71, true))⟩,
    ⟨(some 75), .pick (.t 71) (.t 74) (.c (.bool false)), none⟩,
    ⟨(some 6), .mov (.t 75), none⟩])
  .ret)))))))))
def F_law20_ConvNext : GFun := ⟨3, 76, B_law20_ConvNext, [.t 6]⟩
theorem ok_law20_ConvNext : okFun Go.Proofs.Try.prog fid_law20_ConvNext F_law20_ConvNext = true := by kernel_rfl
def B_law20_ConvEncodes : GCode :=
  (.seq (.region [⟨(some 2), .box (.t 0), none⟩,
    ⟨(some 4), .mov (.c (.bool false)), none⟩])
  (.seq (.seq (.region [⟨(some 8), .load (some 4) (.t 2), none⟩,
    ⟨(some 9), .call fid_law20_few [(.t 8)], none⟩,
    ⟨(some 10), .un .not (.t 9), none⟩,
    ⟨(some 11), .mov (.t 10), none⟩,
    ⟨(some 12), .mov (.t 1), (some (11, false))⟩,
    ⟨(some 13), .len (.t 12), (some (11, false))⟩,
    ⟨(some 14), .bin .gtr (.t 13) (.c (.int .i64 100)), (some (11, false))⟩,
    ⟨(some 15), .pick (.t 11) (.c (.bool true)) (.t 14), none⟩])
  (.cond (.t 15)
  (.seq (.region [⟨(some 4), .mov (.c (.bool true)), none⟩])
  .ret)
  .skip))
  (.seq (.region [⟨(some 17), .load (some 4) (.t 2), none⟩,
    ⟨(some 18), .mov (.t 1), none⟩,
    ⟨(some 19), .call fid_conv_Encode [(.t 17), (.t 18)], none⟩,
    ⟨(some 16), .mov (.t 19), none⟩,
    ⟨(some 20), .extract 0 (.t 16), none⟩,
    ⟨(some 21), .extract 1 (.t 16), none⟩,
    ⟨(some 5), .mov (.t 20), none⟩,
    ⟨(some 6), .mov (.t 21), none⟩])
  (.seq (.region [⟨(some 22), .load (some 4) (.t 2), none⟩,
    ⟨(some 23), .call fid_ref20_Check [(.t 22)], none⟩,
    ⟨(some 7), .mov (.t 23), none⟩])
  (.seq (.seq (.region [⟨(some 24), .mov (.t 7), none⟩,
    ⟨(some 25), .bin .eql (.t 24) (.c (.int .i64 0)), none⟩])
  (.cond (.t 25)
  (.region [⟨(some 26), .load (some 4) (.t 2), none⟩,
    ⟨(some 27), .mov (.t 1), none⟩,
    ⟨(some 28), .call fid_ref20_Steps [(.t 26), (.t 27)], none⟩,
    ⟨(some 7), .mov (.t 28), none⟩])
  .skip))
  (.seq (.seq (.region [⟨(some 29), .mov (.t 7), none⟩,
    ⟨(some 30), .bin .neq (.t 29) (.c (.int .i64 0)), none⟩])
  (.cond (.t 30)
  (.seq (.region [⟨(some 31), .mov (.t 6), none⟩,
    ⟨(some 32), .mov (.t 7), none⟩,
    ⟨(some 33), .bin .eql (.t 31) (.t 32), none⟩,
    ⟨(some 34), .mov (.t 33), none⟩,
    ⟨(some 35), .mov (.t 5), (some (34, true))⟩,
    ⟨(some 36), .len (.t 35), (some (34, true))⟩,
    ⟨(some 37), .bin .eql (.t 36) (.c (.int .i64 0)), (some (34, true))⟩,
    ⟨(some 38), .pick (.t 34) (.t 37) (.c (.bool false)), none⟩,
    ⟨(some 4), .mov (.t 38), none⟩])
  .ret)
  .skip))
  (.seq (.region [⟨(some 39), .mov (.t 6), none⟩,
    ⟨(some 40), .bin .eql (.t 39) (.c (.int .i64 0)), none⟩,
    ⟨(some 41), .mov (.t 40), none⟩,
    ⟨(some 42), .mov (.t 5), (some (41, true))⟩,
    ⟨(some 43), .load (some 4) (.t 2), (some (41, true))⟩,
    ⟨(some 44), .mov (.t 1), (some (41, true))⟩,
    ⟨(some 45), .call fid_ref20_Encode [(.t 43), (.t 44)], (some (41, true))⟩,
    ⟨(some 46), .call fid_ref09_SameRows [(.t 42), (.t 45)], (some (41, true))⟩,
    ⟨(some 47), .pick (.t 41) (.t 46) (.c (.bool false)), none⟩,
    ⟨(some 4), .mov (.t 47), none⟩])
  .ret)))))))
def F_law20_ConvEncodes : GFun := ⟨2, 48, B_law20_ConvEncodes, [.t 4]⟩
theorem ok_law20_ConvEncodes : okFun Go.Proofs.Try.prog fid_law20_ConvEncodes F_law20_ConvEncodes = true := by kernel_rfl
def B_law20_ConvMachine : GCode :=
  (.seq (.region [⟨(some 2), .box (.t 0), none⟩,
    ⟨(some 4), .mov (.c (.bool false)), none⟩])
  (.seq (.seq (.region [⟨(some 16), .load (some 4) (.t 2), none⟩,
    ⟨(some 17), .call fid_law20_few [(.t 16)], none⟩,
    ⟨(some 18), .un .not (.t 17), none⟩,
    ⟨(some 19), .mov (.t 18), none⟩,
    ⟨(some 20), .mov (.t 1), (some (19, false))⟩,
    ⟨(some 21), .len (.t 20), (some (19, false))⟩,
    ⟨(some 22), .bin .gtr (.t 21) (.c (.int .i64 100)), (some (19, false))⟩,
    ⟨(some 23), .pick (.t 19) (.c (.bool true)) (.t 22), none⟩,
    ⟨(some 24), .mov (.t 23), none⟩,
    ⟨(some 25), .load (some 4) (.t 2), (some (24, false))⟩,
    ⟨(some 26), .call fid_ref20_Check [(.t 25)], (some (24, false))⟩,
    ⟨(some 27), .bin .neq (.t 26) (.c (.int .i64 0)), (some (24, false))⟩,
    ⟨(some 28), .pick (.t 24) (.c (.bool true)) (.t 27), none⟩,
    ⟨(some 29), .mov (.t 28), none⟩,
    ⟨(some 30), .load (some 4) (.t 2), (some (29, false))⟩,
    ⟨(some 31), .mov (.t 1), (some (29, false))⟩,
    ⟨(some 32), .call fid_ref20_Steps [(.t 30), (.t 31)], (some (29, false))⟩,
    ⟨(some 33), .bin .neq (.t 32) (.c (.int .i64 0)), (some (29, false))⟩,
    ⟨(some 34), .pick (.t 29) (.c (.bool true)) (.t 33), none⟩])
  (.cond (.t 34)
  (.seq (.region [⟨(some 4), .mov (.c (.bool true)), none⟩])
  .ret)
  .skip))
  (.seq (.region [⟨(some 35), .load (some 4) (.t 2), none⟩,
    ⟨(some 36), .mov (.t 1), none⟩,
    ⟨(some 37), .call fid_ref20_Terminate [(.t 35), (.t 36)], none⟩,
    ⟨(some 5), .mov (.t 37), none⟩])
  (.seq (.region [⟨(some 39), .load (some 4) (.t 2), none⟩,
    ⟨(some 40), .mov (.t 5), none⟩,
    ⟨(some 41), .call fid_conv_Encode [(.t 39), (.t 40)], none⟩,
    ⟨(some 38), .mov (.t 41), none⟩,
    ⟨(some 42), .extract 0 (.t 38), none⟩,
    ⟨(some 43), .extract 1 (.t 38), none⟩,
    ⟨(some 6), .mov (.t 42), none⟩,
    ⟨(some 7), .mov (.t 43), none⟩])
  (.seq (.seq (.region [⟨(some 44), .mov (.t 7), none⟩,
    ⟨(some 45), .bin .neq (.t 44) (.c (.int .i64 0)), none⟩,
    ⟨(some 46), .mov (.t 45), none⟩,
    ⟨(some 47), .mov (.t 6), (some (46, false))⟩,
    ⟨(some 48), .len (.t 47), (some (46, false))⟩,
    ⟨(some 49), .mov (.t 5), (some (46, false))⟩,
    ⟨(some 50), .len (.t 49), (some (46, false))⟩,
    ⟨(some 51), .bin .neq (.t 48) (.t 50), (some (46, false))⟩,
    ⟨(some 52), .pick (.t 46) (.c (.bool true)) (.t 51), none⟩])
  (.cond (.t 52)
  (.seq (.region [⟨(some 4), .mov (.c (.bool false)), none⟩])
  .ret)
  .skip))
  (.seq (.region [⟨(some 8), .mov (.c (.int .i64 0)), none⟩])
  (.seq (.seq (.region [⟨(some 9), .mov (.c (.int .i64 0)), none⟩])
  (.block 0 (.loop (.seq (.seq (.region [⟨(some 53), .mov (.t 9), none⟩,
    ⟨(some 54), .mov (.t 5), none⟩,
    ⟨(some 55), .len (.t 54), none⟩,
    ⟨(some 56), .bin .lss (.t 53) (.t 55), none⟩])
  (.cond (.t 56)
  .skip
  (.exit 0)))
  (.seq (.block 1 (.seq (.draw [0, 0, 0, 0, 12, 28, 63, 127, 255, 255, 255, 511, 3071, 8191]
    [⟨(some 60), .load (some 4) (.t 2), none⟩,
    ⟨(some 61), .mov (.t 8), none⟩,
    ⟨(some 62), .mov (.t 5), none⟩,
    ⟨(some 63), .mov (.t 9), none⟩,
    ⟨(some 64), .indexAddr 1 (.t 62) (.t 63), none⟩,
    ⟨(some 65), .load none (.t 64), none⟩,
    ⟨(some 66), .call fid_conv_Next [(.t 60), (.t 61), (.t 65)], none⟩,
    ⟨(some 59), .mov (.t 66), none⟩,
    ⟨(some 67), .extract 0 (.t 59), none⟩,
    ⟨(some 68), .extract 1 (.t 59), none⟩,
    ⟨(some 69), .extract 2 (.t 59), none⟩,
    ⟨(some 10), .mov (.t 67), none⟩,
    ⟨(some 11), .mov (.t 68), none⟩]
    [⟨(some 12), .mov (.t 69), none⟩])
  (.seq (.seq (.region [⟨(some 70), .mov (.t 12), none⟩,
    ⟨(some 71), .bin .neq (.t 70) (.c (.int .i64 0)), none⟩,
    ⟨(some 72), .mov (.t 71), none⟩,
    ⟨(some 73), .mov (.t 11), (some (72, false))⟩,
    ⟨(some 74), .mov (.t 6), (some (72, false))⟩,
    ⟨(some 75), .mov (.t 9), (some (72, false))⟩,
    ⟨(some 76), .indexAddr 1 (.t 74) (.t 75), (some (72, false))⟩,
    ⟨(some 77), .load none (.t 76), (some (72, false))⟩,
    ⟨(some 78), .call fid_ref09_SameInts [(.t 73), (.t 77)], (some (72, false))⟩,
    ⟨(some 79), .un .not (.t 78), (some (72, false))⟩,
    ⟨(some 80), .pick (.t 72) (.c (.bool true)) (.t 79), none⟩])
  (.cond (.t 80)
  (.seq (.region [⟨(some 4), .mov (.c (.bool false)), none⟩])
  .ret)
  .skip))
  (.region [⟨(some 81), .mov (.t 10), none⟩,
    ⟨(some 8), .mov (.t 81), none⟩]))))
  (.region [⟨(some 57), .mov (.t 9), none⟩,
    ⟨(some 58), .bin .add (.t 57) (.c (.int .i64 1)), none⟩,
    ⟨(some 9), .mov (.t 58), none⟩]))))))
  (.seq (.region [⟨(some 83), .call fid_law20_four [], none⟩,
    ⟨(some 84), .bslice 1 [.int .i64 0] [(0, 1, (.c (.int .i64 1)))], none⟩,
    ⟨(some 85), .call fid_conv_Next [(.t 83), (.c (.int .i64 0)), (.t 84)], none⟩,
    ⟨(some 82), .mov (.t 85), none⟩,
    ⟨(some 86), .extract 0 (.t 82), none⟩,
    ⟨(some 87), .extract 1 (.t 82), none⟩,
    ⟨(some 88), .extract 2 (.t 82), none⟩,
    ⟨(some 13), .mov (.t 86), none⟩,
    ⟨(some 14), .mov (.t 87), none⟩,
    ⟨(some 15), .mov (.t 88), none⟩])
  (.seq (.region [⟨(some 89), .mov (.t 8), none⟩,
    ⟨(some 90), .bin .eql (.t 89) (.c (.int .i64 0)), none⟩,
    ⟨(some 91), .mov (.t 90), none⟩,
    ⟨(some 92), .mov (.t 15), (some (91, true))⟩,
    ⟨(some 93), .bin .eql (.t 92) (.c (.int .i64 0)), (some (91, true))⟩,
    ⟨(some 94), .pick (.t 91) (.t 93) (.c (.bool false)), none⟩,
    ⟨(some 95), .mov (.t 94), none⟩,
    ⟨(some 96), .mov (.t 14), (some (95, true))⟩,
    ⟨(some 97), .bslice 2 [.int .i64 0, .int .i64 0] [(0, 1, (.c (.int .i64 1))), (1, 1, (.c (.int .i64 1)))], (some (95, true))⟩,
    ⟨(some 98), .call fid_ref09_SameInts [(.t 96), (.t 97)], (some (95, true))⟩,
    ⟨(some 99), .pick (.t 95) (.t 98) (.c (.bool false)), none⟩,
    ⟨(some 4), .mov (.t 99), none⟩])
  .ret)))))))))
def F_law20_ConvMachine : GFun := ⟨2, 100, B_law20_ConvMachine, [.t 4]⟩
theorem ok_law20_ConvMachine : okFun Go.Proofs.Try.prog fid_law20_ConvMachine F_law20_ConvMachine = true := by kernel_rfl
end Go.Proofs.Ytdpibcniodhinaa.Gh
