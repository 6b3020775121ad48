/- The reference's Room, Get, New. -/
import Derived.Test.YtffbfgmhfnbmfaaRa
namespace Go.Proofs.Ytffbfgmhfnbmfaa
open Go.RowKit

theorem sumS_take {l : List Slot} {k : Nat} (hk : k < l.length) : sumS (l.take (k + 1)) = sumS (l.take k) + (4 + sizeOfS (l.getD k none)) := by
  unfold sumS
  rw [List.take_add_one, List.map_append, List.sum_append, List.getD_eq_getElem?_getD, List.getElem?_eq_getElem hk]
  simp

theorem sumS_take_le (l : List Slot) (k : Nat) : sumS (l.take k) ≤ sumS l := by
  have h : sumS l = sumS (l.take k) + sumS (l.drop k) := by rw [← sumS_append, List.take_append_drop]
  omega

def anyFree (l : List Slot) : Bool := l.any fun s => !s.isSome

theorem anyFree_take {l : List Slot} {k : Nat} (hk : k < l.length) : anyFree (l.take (k + 1)) = (anyFree (l.take k) || !(l.getD k none).isSome) := by
  unfold anyFree
  rw [List.take_add_one, List.any_append, List.getD_eq_getElem?_getD, List.getElem?_eq_getElem hk]
  simp

theorem anyFree_first (l : List Slot) : (if firstFree l = l.length then (4 : Int) else 0) = if anyFree l = true then 0 else 4 := by
  unfold firstFree anyFree
  by_cases h : l.any (fun s => !s.isSome) = true
  · rw [if_pos h, if_neg]
    intro e
    rw [List.findIdx_eq_length] at e
    rw [List.any_eq_true] at h
    obtain ⟨x, hx, h2⟩ := h
    rw [e x hx] at h2
    cases h2
  · rw [if_neg h, if_pos]
    rw [List.findIdx_eq_length]
    intro x hx
    rw [List.any_eq_true] at h
    cases hxx : (!x.isSome)
    · rfl
    · exact (h ⟨x, hx, hxx⟩).elim

set_option maxRecDepth 100000 in
set_option maxHeartbeats 1000000 in
theorem rroom_any (P : Nat → Prop) (R : Nat) (v : Value) (st : St) (w : World) (hw : RefIs P w R v st) (hst : Wf st) : Calls Try.prog 29 #[.pointer (some ⟨R, 0, none⟩)] w (Gives (.int .i64 (roomA st.slots)) w) := by
  have hlow := hst.low
  have hhigh := hst.high
  have hsum := hst.sum
  obtain ⟨hb, hp, dv, hr, hd⟩ := hw
  obtain ⟨a, c, rfl⟩ := hr.form
  have b0 : w.cell? ⟨R, 0, none⟩ = some (.slice a st.slots.length c) := boxCell hb 0
  go_enter Try.func29, Try.ntmps29
  go_wp2_with fail
  go_loopg [3, 4, 14] st.slots.length (fun g s3 s4 s14 wr => ∃ k : Nat, k + g = st.slots.length ∧ s3 = .int .i64 (478 - (sumS (st.slots.take k) : Int)) ∧ s4 = .bool (anyFree (st.slots.take k)) ∧ s14 = .int .i64 k ∧ Fresh w wr)
  case atStart => exact ⟨0, by omega, rfl, rfl, rfl, Kept.refl _ w⟩
  case round =>
    obtain ⟨k, hk, rfl, rfl, rfl, hF⟩ := hrel
    have hu := sumS_take_le st.slots k
    have hk200 : k ≤ 200 := by omega
    by_cases hlt : k < st.slots.length
    · have ht := sumS_take hlt
      have ha := anyFree_take hlt
      have hu2 := sumS_take_le st.slots (k + 1)
      obtain ⟨B, rfl, h⟩ := RefIs.slot hr hd hF (by simp) hlt
      rcases h with ⟨e, _, ⟨c0, c1, c2, c3, c4, c5, c6, c7⟩⟩ | ⟨f, ver, da, dc, e, hget, ⟨c0, c1, c2, c3, c4, c5, c6, c7⟩, _, _, _, _⟩
      · rw [e] at ht ha
        have hsz : sizeOfS (none : Slot) = 0 := rfl
        have HT := Lib.hid (And.intro ht (And.intro ha hsz))
        clear ht e ha hsz
        go_wp2_with fail
        go_roundg (gk - 1)
        case measure => omega
        case rel => exact ⟨k + 1, by omega, by rw [HT.out.1, HT.out.2.2]; go_num, by rw [HT.out.2.1]; simp, by go_num, hF.alloc _⟩
      · rw [e] at ht ha
        have hlen := (hst.inn k f ver hget).2.2.len
        have hsz : sizeOfS (some (f, ver)) = 30 + ver.data.length := rfl
        rw [hsz] at ht
        have HT := Lib.hid (And.intro ht ha)
        have hs2 : (sumS (st.slots.take k) : Int) + 4 + (30 + ver.data.length) ≤ 512 := by omega
        clear ht e ha hsz hget
        go_wp2_with fail
        go_roundg (gk - 1)
        case measure => omega
        case rel => exact ⟨k + 1, by omega, by rw [HT.out.1]; go_num, by rw [HT.out.2]; simp, by go_num, hF.alloc _⟩
    · obtain rfl : k = st.slots.length := by omega
      rw [List.take_length]
      have hR : roomA st.slots = max (478 - (sumS st.slots : Int) - (if anyFree st.slots = true then 0 else 4)) (-1) := by unfold roomA; rw [anyFree_first]
      cases hany : anyFree st.slots
      · rw [hany] at hR
        have HR := Lib.hid hR
        clear hR hany
        by_cases hneg : 478 - (sumS st.slots : Int) - 4 < 0
        · have hneg' := decide_eq_true hneg
          go_wp2_with fail
          go_ret
          exact ⟨by rw [HR.out]; simp; omega, hF⟩
        · have hneg' := decide_eq_false hneg
          go_wp2_with fail
          go_ret
          exact ⟨by rw [HR.out]; simp; omega, hF⟩
      · rw [hany] at hR
        have HR := Lib.hid hR
        clear hR hany
        by_cases hneg : 478 - (sumS st.slots : Int) < 0
        · have hneg' := decide_eq_true hneg
          go_wp2_with fail
          go_ret
          exact ⟨by rw [HR.out]; simp; omega, hF⟩
        · have hneg' := decide_eq_false hneg
          go_wp2_with fail
          go_ret
          exact ⟨by rw [HR.out]; simp; omega, hF⟩
end Go.Proofs.Ytffbfgmhfnbmfaa
