/- Proves the row 'PageStampsSaid': whatever comes in, lapidarylaw05.PageStamps returns true and its arguments read as they did. -/
import Derived.Test.YtffbfgmhfnbmfaaY1
import Derived.ProofKit
namespace Go.Proofs.Ytffbfgmhfnbmfaa
open Go.ChangeShapes Go.WideShapes Go.ChangeAt Go.RowKit

theorem Try.own : ownKnob Try.prog.godebug = none := by kernel_rfl
theorem Try.laidOut : laidOutB Try.prog = true := by kernel_rfl

theorem readable_all {P : Program} {ts : List TypeId} (h : (ts.all fun t => P.readableRec t && decide (t < P.types.size)) = true) : ∀ t ∈ ts, P.readableRec t = true ∧ t < P.types.size := by
  intro t ht
  have := List.all_eq_true.1 h t ht
  simpa using this

set_option maxRecDepth 100000 in
theorem stamps_lifted (os : Os) (started : os.Started) (H : Type) (enc : TypeId × Value → H) :
    ReturnsInHanded {} Try.checked os 4 .any (Rows.pageStampsSpec.pre6 enc Try.prog Try.f4 Rows.pageStampsRow.domain false) (Rows.pageStampsSpec.post enc Try.prog Try.f4 false true false false) := by
  refine returnsInHanded_of_change (C := Try.checked) Try.own started (by kernel_rfl) Try.func4
    (ChangeSpec.witness6 (enc := enc) (C := Try.checked) false ⟨#[], #[.agg zero29, .int .u64 0, .agg #[.int .i64 0, .int .i64 0]], []⟩ 8 (by kernel_rfl) (by kernel_rfl) (by kernel_rfl) (by kernel_rfl)) ?_
  intro W base args ds gs before hval0 hW hcnd _
  have hval : ∀ (j : Nat) t v, Try.f4.params[j]? = some t → args[j]? = some v → Value.okWide Try.prog W .any base t v := hval0
  have hW' := hW
  obtain ⟨p, q, hA0, hV, rfl, hfz, hnd⟩ := hW
  have hA : DataW.TrodAll enc Try.prog W 0 (fun _ => true) true Try.f4.params.toList args.toList ds p := hA0
  rw [Try.params4] at hA hval
  obtain ⟨v0, v1, v2, d0, d1, d2, p0, p1, p2, rfl, rfl, rfl, h0, h1, h2⟩ := trodAll_three hA
  obtain ⟨rfl, rfl⟩ := trodVars_none hV
  obtain ⟨cs, rfl, r, x, y, pp, s, a, n, c, d, hT⟩ := open_tuple (hval 0 29 v0 rfl rfl) h0
  obtain ⟨xi, rfl, _, _, wx⟩ := open_int Try.underlying24 (hval 1 24 v1 rfl rfl) h1
  obtain ⟨xm, rfl, hxm⟩ := wf_u64 wx
  obtain ⟨np, ns, rfl, hnp, hns⟩ := open_tid (hval 2 26 v2 rfl rfl) h2
  obtain rfl := hT.eq
  refine (stamps_walk r x y pp s a n c d xm np ns W hT.bytes hT.le).mono fun e W' he => ?_
  obtain ⟨rfl, hF⟩ := he
  exact ⟨_, rfl, law_post Try.laidOut (readable_all (by kernel_rfl)) rfl (by kernel_rfl) rfl hW' rfl hF⟩

theorem stamps_holds : Rows.PageStampsSaid :=
  OpenClaim.holds_of_wide 4 Try.f4 rfl rfl rfl rfl rfl rfl rfl ⟨rfl, rfl, rfl, rfl, rfl⟩ rfl rfl rfl rfl rfl (by kernel_rfl) Try.func4 (by kernel_rfl)
    (of_decide_eq_true (by kernel_rfl)) (by unfold Func.isWrapper; first | (rw [if_pos (by decide +kernel)]; kernel_rfl) | (rw [if_neg (by decide +kernel)]; exact ⟨rfl, rfl⟩))
    (fun os started H enc _ => stamps_lifted os started H enc)

end Go.Proofs.Ytffbfgmhfnbmfaa
