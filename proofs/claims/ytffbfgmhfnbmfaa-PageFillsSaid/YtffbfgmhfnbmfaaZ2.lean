/- Proves the row 'PageFillsSaid': whatever comes in, lapidarylaw05.PageFills returns true and its arguments read as they did. -/
import Derived.Test.YtffbfgmhfnbmfaaY2
import Derived.ProofKit
namespace Go.Proofs.Ytffbfgmhfnbmfaa
open Go.ChangeShapes Go.WideShapes Go.ChangeAt Go.RowKit

theorem Try.own : ownKnob Try.prog.godebug = none := by kernel_rfl
theorem Try.laidOut : laidOutB Try.prog = true := by kernel_rfl

theorem readable_all {P : Program} {ts : List TypeId} (h : (ts.all fun t => P.readableRec t && decide (t < P.types.size)) = true) : ∀ t ∈ ts, P.readableRec t = true ∧ t < P.types.size := by
  intro t ht
  have := List.all_eq_true.1 h t ht
  simpa using this

set_option maxRecDepth 1000000 in
theorem open_sl {H : Type} {enc : TypeId × Value → H} {W : World} {base : Nat} {held : Bool} {r0 : Reach} {b0 : Nat} {v : Value} {d : DataW H} {ps : List MemPlace} (hval : Value.okWide Try.prog W r0 b0 22 v) (hd : DataW.Trod enc Try.prog W base (fun _ => true) held 22 v d ps) :
    ∃ a n c d, v = .slice a n c ∧ Bytes W a n d ∧ n ≤ c ∧ c ≤ maxLen ∧ (a = none → n = 0) := by
  obtain ⟨a, n, c, rfl⟩ := okWide_slice und22 hval
  obtain ⟨fuel, hf⟩ := hd
  obtain ⟨a', n', c', d', e, h⟩ := open_bytes hf
  simp [Value.cells] at e
  obtain ⟨rfl, rfl, rfl⟩ := e
  exact ⟨_, _, _, d', rfl, h⟩

set_option maxRecDepth 100000 in
theorem fills_lifted (os : Os) (started : os.Started) (H : Type) (enc : TypeId × Value → H) :
    ReturnsInHanded {} Try.checked os 3 .any (Rows.pageFillsSpec.pre6 enc Try.prog Try.f3 Rows.pageFillsRow.domain false) (Rows.pageFillsSpec.post enc Try.prog Try.f3 false true false false) := by
  refine returnsInHanded_of_change (C := Try.checked) Try.own started (by kernel_rfl) Try.func3
    (ChangeSpec.witness6 (enc := enc) (C := Try.checked) false ⟨#[], #[.int .u8 0, .slice none 0 0], []⟩ 8 (by kernel_rfl) (by kernel_rfl) (by kernel_rfl) (by kernel_rfl)) ?_
  intro W base args ds gs before hval0 hW hcnd _
  have hval : ∀ (j : Nat) t v, Try.f3.params[j]? = some t → args[j]? = some v → Value.okWide Try.prog W .any base t v := hval0
  have hW' := hW
  obtain ⟨p, q, hA0, hV, rfl, hfz, hnd⟩ := hW
  have hA : DataW.TrodAll enc Try.prog W 0 (fun _ => true) true Try.f3.params.toList args.toList ds p := hA0
  rw [Try.params3] at hA hval
  obtain ⟨v0, v1, d0, d1, p0, p1, rfl, rfl, rfl, h0, h1⟩ := trodAll_two hA
  obtain ⟨rfl, rfl⟩ := trodVars_none hV
  obtain ⟨zi, rfl, _, _, wz⟩ := open_int Try.underlying5 (hval 0 5 v0 rfl rfl) h0
  obtain ⟨z, rfl, hz⟩ := wf_u8 wz
  have hsl := hval 1 22 v1 rfl rfl
  obtain ⟨a, n, c, d, hv, hby, hle, hm, hn⟩ := open_sl hsl h1
  subst hv
  refine (fills_walk z hz a n c d W hby).mono fun e W' he => ?_
  obtain ⟨rfl, hF⟩ := he
  exact ⟨_, rfl, law_post Try.laidOut (readable_all (by kernel_rfl)) rfl (by kernel_rfl) rfl hW' rfl hF⟩

theorem fills_holds : Rows.PageFillsSaid :=
  OpenClaim.holds_of_wide 3 Try.f3 rfl rfl rfl rfl rfl rfl rfl ⟨rfl, rfl, rfl, rfl, rfl⟩ rfl rfl rfl rfl rfl (by kernel_rfl) Try.func3 (by kernel_rfl)
    (of_decide_eq_true (by kernel_rfl)) (by unfold Func.isWrapper; first | (rw [if_pos (by decide +kernel)]; kernel_rfl) | (rw [if_neg (by decide +kernel)]; exact ⟨rfl, rfl⟩))
    (fun os started H enc _ => fills_lifted os started H enc)

end Go.Proofs.Ytffbfgmhfnbmfaa
