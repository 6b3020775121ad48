/- Proves the row 'PageStaysSaid': whatever comes in, lapidarylaw05.PageStays returns true and its arguments read as they did. -/
import Derived.Test.YtffbfgmhfnbmfaaY3
import Derived.Test.YtffbfgmhfnbmfaaLx
import Derived.ProofKit
namespace Go.Proofs.Ytffbfgmhfnbmfaa
open Go.ChangeShapes Go.WideShapes Go.ChangeAt Go.RowKit

theorem Try.own : ownKnob Try.prog.godebug = none := by kernel_rfl
theorem Try.laidOut : laidOutB Try.prog = true := by kernel_rfl

theorem readable_all {P : Program} {ts : List TypeId} (h : (ts.all fun t => P.readableRec t && decide (t < P.types.size)) = true) : ∀ t ∈ ts, P.readableRec t = true ∧ t < P.types.size := by
  intro t ht
  have := List.all_eq_true.1 h t ht
  simpa using this

set_option maxRecDepth 100000 in
theorem stays_lifted (os : Os) (started : os.Started) (H : Type) (enc : TypeId × Value → H) :
    ReturnsInHanded {} Try.checked os 6 .any (Rows.pageStaysSpec.pre6 enc Try.prog Try.f6 Rows.pageStaysRow.domain false) (Rows.pageStaysSpec.post enc Try.prog Try.f6 false true false false) := by
  refine returnsInHanded_of_change (C := Try.checked) Try.own started (by kernel_rfl) Try.func6
    (ChangeSpec.witness6 (enc := enc) (C := Try.checked) false ⟨#[], #[.slice none 0 0, .agg #[.int .u8 0, .int .i64 0, .int .u64 0, .int .u64 0, .int .u64 0, .int .i64 0, .int .i64 0, .slice none 0 0]], []⟩ 8 (by kernel_rfl) (by kernel_rfl) (by kernel_rfl) (by kernel_rfl)) ?_
  intro W base args ds gs before hval0 hW hcnd _
  have hval : ∀ (j : Nat) t v, Try.f6.params[j]? = some t → args[j]? = some v → Value.okWide Try.prog W .any base t v := hval0
  have hW' := hW
  obtain ⟨p, q, hA0, hV, rfl, hfz, hnd⟩ := hW
  have hA : DataW.TrodAll enc Try.prog W 0 (fun _ => true) true Try.f6.params.toList args.toList ds p := hA0
  rw [Try.params6] at hA hval
  obtain ⟨v0, v1, d0, d1, p0, p1, rfl, rfl, rfl, h0, h1⟩ := trodAll_two hA
  obtain ⟨rfl, rfl⟩ := trodVars_none hV
  obtain ⟨a, n, c, hv0, hS, hle, hmax, _⟩ := open_script (hval 0 56 v0 rfl rfl) h0
  obtain ⟨cs, hv1, o, k, r, x, y, pp, s, da, dn, dc, d, hO⟩ := open_op (hval 1 58 v1 rfl rfl) h1
  obtain ⟨rfl, ho, hby, hdc⟩ := hO
  subst hv0 hv1
  refine (stays_walk a n c o k r x y pp s da dn dc d W hS (by unfold maxLen at hmax; omega) hby hdc ho).mono fun e W' he => ?_
  obtain ⟨rfl, hF⟩ := he
  exact ⟨_, rfl, law_post Try.laidOut (readable_all (by kernel_rfl)) rfl (by kernel_rfl) rfl hW' rfl hF⟩

theorem stays_holds : Rows.PageStaysSaid :=
  OpenClaim.holds_of_wide 6 Try.f6 rfl rfl rfl rfl rfl rfl rfl ⟨rfl, rfl, rfl, rfl, rfl⟩ rfl rfl rfl rfl rfl (by kernel_rfl) Try.func6 (by kernel_rfl)
    (of_decide_eq_true (by kernel_rfl)) (by unfold Func.isWrapper; first | (rw [if_pos (by decide +kernel)]; kernel_rfl) | (rw [if_neg (by decide +kernel)]; exact ⟨rfl, rfl⟩))
    (fun os started H enc _ => stays_lifted os started H enc)

end Go.Proofs.Ytffbfgmhfnbmfaa
