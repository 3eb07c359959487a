/-
  Proved: the law ConvFrees returns true for every input, and the inputs read behind the call as they read before. No conditions.
-/
import Derived.Test.YtdpibcniodhinaaWe
namespace Go.Proofs.Ytdpibcniodhinaa.Gh
open Go Go.RowKit Go.ChangeShapes Go.WideShapes Go.ChangeAt
set_option linter.unusedVariables false
set_option linter.unusedSimpArgs false
set_option maxRecDepth 100000 in
theorem convFrees_lifted (os : Os) (started : os.Started) (H : Type) (enc : TypeId × Value → H) :
    ReturnsInHanded {} Try.checked os 8 .any (Rows.convFreesSpec.pre6 enc Try.prog Try.f8 Rows.convFreesRow.domain false) (Rows.convFreesSpec.post enc Try.prog Try.f8 false true false false) := by
  refine returnsInHanded_of_change (C := Try.checked) own_knob started (by kernel_rfl) Try.func8
    (ChangeSpec.witness6 (enc := enc) (C := Try.checked) false ⟨#[], #[.agg #[.int .i64 0, .int .i64 0, .slice none 0 0, .slice none 0 0]], []⟩ 8 (by kernel_rfl) (by kernel_rfl) (by kernel_rfl) (by kernel_rfl)) ?_
  intro W base args ds gs before hval0 hW hcnd _
  have hval : ∀ (j : Nat) t v, Try.f8.params[j]? = some t → args[j]? = some v → Value.okWide Try.prog W .any base t v := hval0
  have hW' := hW
  have hlt := hW.lt
  obtain ⟨p, q, hA0, hV, rfl, hfz, hnd⟩ := hW
  have hA : DataW.TrodAll enc Try.prog W 0 (fun _ => true) true Try.f8.params.toList args.toList ds p := hA0
  have hts : ∀ t ∈ Try.f8.params.toList, Try.prog.readableRec t = true ∧ t < Try.prog.types.size := by
    rw [Try.params8]
    intro t ht
    have : t = 27 := by simpa using ht
    subst this
    exact ⟨by kernel_rfl, of_decide_eq_true (by kernel_rfl)⟩
  have hA2 := hA
  rw [Try.params8] at hA hval
  obtain ⟨v0, d0, hargs, rfl, h0⟩ := trodAll_one hA
  obtain rfl : args = #[v0] := hargs
  obtain ⟨rfl, rfl⟩ := trodVars_none hV
  obtain ⟨a0, r0⟩ := rd_agg rl27 (agg_of_okWide Try.underlying27 (hval 0 27 v0 rfl rfl)) h0
  clear hA0 hval0
  simp only [List.append_nil] at hW' hlt
  refine (run_law (f := 8) (args := [.agg (gL27 a0)]) (fun H n => sp_ConvFrees ⟨a0.1.1, a0.1.2.1, a0.1.2.2.1.1, a0.1.2.2.1.2, a0.2.1.1, fun i => (a0.2.1.2 i).1, fun i j => ((a0.2.1.2 i).2 j).1, fun i j => ((a0.2.1.2 i).2 j).2⟩) ?_).mono fun x W' ⟨hx, hB⟩ => ?_
  · refine ⟨rfl, fun j hj => ?_⟩
    rcases j with _ | j
    · exact r0
    · first | (simp at hj; omega) | simp at hj
  subst hx
  exact ⟨_, rfl, _, _, _, [], p, [], hW', trodAll_mk1 (shut_bool Try.underlying4 _), trodAll_stays laid_out hB hts hA2 fun x hx => ⟨hlt x hx, decide_eq_true (hlt x hx)⟩, rfl, hB.frame _, fun h => by cases h⟩
end Go.Proofs.Ytdpibcniodhinaa.Gh
namespace Go.Proofs.Ytdpibcniodhinaa
open Go Go.RowKit Go.ChangeShapes Go.WideShapes Go.ChangeAt
theorem convFrees_holds : Rows.ConvFreesSaid :=
  OpenClaim.holds_of_wide 8 Try.f8 rfl rfl rfl rfl rfl rfl rfl ⟨rfl, rfl, rfl, rfl, rfl⟩ rfl rfl rfl rfl rfl (by kernel_rfl) Try.func8 (by kernel_rfl)
    (of_decide_eq_true (by kernel_rfl)) (by unfold Func.isWrapper; first | (rw [if_pos (by decide +kernel)]; kernel_rfl) | (rw [if_neg (by decide +kernel)]; exact ⟨rfl, rfl⟩))
    (fun os started H enc _ => Gh.convFrees_lifted os started H enc)
#print axioms convFrees_holds
end Go.Proofs.Ytdpibcniodhinaa
