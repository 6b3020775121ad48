/- Proves the row 'PagePlaysSaid': whatever comes in, lapidarylaw05.PagePlays returns true and its arguments read as they did. -/
import Derived.Test.YtffbfgmhfnbmfaaY6
import Derived.Test.YtffbfgmhfnbmfaaLx
import Derived.ProofKit
namespace Go.Proofs.Ytffbfgmhfnbmfaa
open Go.ChangeShapes Go.WideShapes Go.ChangeAt Go.RowKit

theorem Try.own : ownKnob Try.prog.godebug = none := by kernel_rfl
theorem Try.laidOut : laidOutB Try.prog = true := by kernel_rfl

theorem readable_all {P : Program} {ts : List TypeId} (h : (ts.all fun t => P.readableRec t && decide (t < P.types.size)) = true) : ∀ t ∈ ts, P.readableRec t = true ∧ t < P.types.size := by
  intro t ht
  have := List.all_eq_true.1 h t ht
  simpa using this

set_option maxRecDepth 100000 in
theorem plays_lifted (os : Os) (started : os.Started) (H : Type) (enc : TypeId × Value → H) :
    ReturnsInHanded {} Try.checked os 8 .any (Rows.pagePlaysSpec.pre6 enc Try.prog Try.f8 Rows.pagePlaysRow.domain false) (Rows.pagePlaysSpec.post enc Try.prog Try.f8 false true false false) := by
  refine returnsInHanded_of_change (C := Try.checked) Try.own started (by kernel_rfl) Try.func8
    (ChangeSpec.witness6 (enc := enc) (C := Try.checked) false ⟨#[], #[.bool false, .slice none 0 0], []⟩ 8 (by kernel_rfl) (by kernel_rfl) (by kernel_rfl) (by kernel_rfl)) ?_
  intro W base args ds gs before hval0 hW hcnd _
  have hval : ∀ (j : Nat) t v, Try.f8.params[j]? = some t → args[j]? = some v → Value.okWide Try.prog W .any base t v := hval0
  have hW' := hW
  obtain ⟨p, q, hA0, hV, rfl, hfz, hnd⟩ := hW
  have hA : DataW.TrodAll enc Try.prog W 0 (fun _ => true) true Try.f8.params.toList args.toList ds p := hA0
  rw [Try.params8] at hA hval
  obtain ⟨v0, v1, d0, d1, p0, p1, rfl, rfl, rfl, h0, h1⟩ := trodAll_two hA
  obtain ⟨rfl, rfl⟩ := trodVars_none hV
  obtain ⟨z, rfl, _, _⟩ := open_bool Try.underlying4 (hval 0 4 v0 rfl rfl) h0
  obtain ⟨a, n, c, hv1, hS, hle, hmax, _⟩ := open_script (hval 1 56 v1 rfl rfl) h1
  subst hv1
  have key : Calls Try.prog 8 #[.bool z, .slice a n c] W (Gives (.bool true) W) := by
    cases z
    · exact plays_page a n c W hS (by unfold maxLen at hmax; omega)
    · exact plays_nil a n c W hS (by unfold maxLen at hmax; omega)
  refine key.mono fun e W' he => ?_
  obtain ⟨rfl, hF⟩ := he
  exact ⟨_, rfl, law_post Try.laidOut (readable_all (by kernel_rfl)) rfl (by kernel_rfl) rfl hW' rfl hF⟩

theorem plays_holds : Rows.PagePlaysSaid :=
  OpenClaim.holds_of_wide 8 Try.f8 rfl rfl rfl rfl rfl rfl rfl ⟨rfl, rfl, rfl, rfl, rfl⟩ rfl rfl rfl rfl rfl (by kernel_rfl) Try.func8 (by kernel_rfl)
    (of_decide_eq_true (by kernel_rfl)) (by unfold Func.isWrapper; first | (rw [if_pos (by decide +kernel)]; kernel_rfl) | (rw [if_neg (by decide +kernel)]; exact ⟨rfl, rfl⟩))
    (fun os started H enc _ => plays_lifted os started H enc)

end Go.Proofs.Ytffbfgmhfnbmfaa
