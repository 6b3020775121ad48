/- The walk of the document's example. -/
import Derived.Test.YtffbfgmhfnbmfaaX3
import Derived.Lib.SlBytesConst
namespace Go.Proofs.Ytffbfgmhfnbmfaa
open Go.RowKit

def st0 : St := ⟨[], 512⟩

theorem wf0 : Wf st0 where
  low := by decide
  high := by decide
  inn := fun k f v h => by simp [st0] at h
  apart := fun k k' f v f' v' _ h => by simp [st0] at h
  sum := by decide

theorem blank_enc : blank = enc st0 := by
  have h : (fun _ => 0 : Nat → Nat) = encG 0 0 [] (dataOf []) := by
    funext i
    unfold encG
    by_cases h1 : i < 2
    · rw [if_pos h1, byteOf_zero]
    · by_cases h2 : i < 4
      · rw [if_neg h1, if_pos h2, byteOf_zero]
      · rw [if_neg h1, if_neg h2, if_neg (by simp; omega)]
        rfl
  unfold blank
  rw [h, encG_set]
  rfl

theorem new_enc (w : World) :
    Calls Try.prog 11 #[] w fun e w' => e = .returned (.pointer (some ⟨w.heap.size, 0, none⟩)) ∧ Byt w' w.heap.size 75 512 (enc st0) ∧ w'.heap.size = w.heap.size + 1 ∧ Fresh w w' := by
  have := new_any w
  rwa [blank_enc] at this

theorem room_enc (b : Nat) (st : St) (w : World) (hw : Byt w b 75 512 (enc st)) (hst : Wf st) : Calls Try.prog 28 #[.pointer (some ⟨b, 0, none⟩)] w (Quiet (.int .i64 (roomA st.slots)) w) := by
  have := room_any b _ w hw hst.fits
  rwa [hst.room] at this

theorem slots_enc (b : Nat) (st : St) (w : World) (hw : Byt w b 75 512 (enc st)) (hst : Wf st) : Calls Try.prog 31 #[.pointer (some ⟨b, 0, none⟩)] w (Quiet (.int .i64 st.slots.length) w) := by
  have := slots_any b _ w hw
  rwa [hst.cnt] at this

theorem used_enc (b : Nat) (st : St) (w : World) (hw : Byt w b 75 512 (enc st)) (hst : Wf st) : Calls Try.prog 14 #[.pointer (some ⟨b, 0, none⟩)] w (Quiet (.int .i64 (usedA st.slots)) w) := by
  have := used_any b _ w hw hst.fits
  rwa [hst.used] at this

/-- The example's version. -/
def vA : Ver := ⟨1, 1, 0, 0, 0, [97]⟩

theorem vA_ok : vA.Ok := ⟨by decide, by decide, by decide, by decide, by decide, by decide, by decide⟩

def stA : St := ⟨[some (481, vA)], 481⟩

theorem putA_vA : putA st0 vA = stA := by
  unfold putA
  rw [if_neg (by decide)]
  rfl

theorem wfA : Wf stA where
  low := by decide
  high := by decide
  inn := fun k f v h => by
    cases k with
    | zero => simp [stA] at h; obtain ⟨rfl, rfl⟩ := h; exact ⟨by decide, by decide, vA_ok⟩
    | succ k => simp [stA] at h
  apart := fun k k' f v f' v' hlt h1 h2 => by
    cases k' with
    | zero => omega
    | succ k' => simp [stA] at h2
  sum := by decide

theorem freeA_vA : freeA stA 0 = ⟨[], 481⟩ := rfl

theorem wfB : Wf ⟨[], 481⟩ where
  low := by decide
  high := by decide
  inn := fun k f v h => by simp at h
  apart := fun k k' f v f' v' _ h => by simp at h
  sum := by decide

set_option maxRecDepth 100000 in
set_option maxHeartbeats 4000000 in
theorem awake_any (w : World) : Calls Try.prog 9 #[] w (Gives (.bool true) w) := by
  have r0 : roomA st0.slots = 474 := by decide
  have r1 : roomA stA.slots = 439 := by decide
  have r2 : roomA (⟨[], 481⟩ : St).slots = 474 := by decide
  have kc := fun (w : World) (C : Array Value) (n c : Nat) => Lib.run_convert_bytes_const (P := Try.prog) w 22 5 C n c und22 und5
  go_enter Try.func9, Try.ntmps9
  go_wp2_with fail
  refine (new_enc _).mono ?_
  rintro e w1 ⟨rfl, hw1, hs1, hF1⟩
  have HF1 := Lib.hid (And.intro hF1 hs1)
  clear hF1 hs1
  go_wp2_with fail
  refine (room_enc _ _ _ hw1 wf0).mono ?_
  rintro e w2 ⟨rfl, n2, rfl⟩
  rw [r0]
  go_wp2_with fail
  refine (nowhere_any _).mono ?_
  rintro e w3 ⟨rfl, hF3⟩
  have hw3 := (hw1.drewN n2).kept hF3 (by simp)
  have hK3 : Fresh w w3 := (HF1.out.1.drewN n2).trans hF3
  clear hF3 hw1
  go_wp2_with fail
  have hA := (Kept.refl (fun _ => False) w3).alloc (Obj.cells #[.int .u8 97] 5 (1, 2))
  have hw4 := hw3.kept hA (by simp)
  have hK4 := hK3.trans hA
  have hdat : Bytes (w3.alloc (.cells #[.int .u8 97] 5 (1, 2))) (some ⟨w3.heap.size, 0, none⟩) 1 (fun j => [97].getD j 0) := by
    refine ⟨fun j => ?_, .inr ⟨w3.heap.size, 0, rfl, by simp, fun j hj => ?_⟩⟩
    · cases j with
      | zero => decide
      | succ j => simp
    · obtain rfl : j = 0 := by omega
      exact boxCell (alloc_at w3 _) 0
  have hins := insert_ok w.heap.size st0 vA (some ⟨w3.heap.size, 0, none⟩) 1 1 _ _ hw4 wf0 vA_ok (by decide) rfl hdat (fun j => rfl) (by decide)
  have Hins := Lib.hid hins
  clear hins hdat hw4 hw3 hA
  refine Hins.out.mono ?_
  rintro e w5 ⟨rfl, hw5, hk5⟩
  rw [putA_vA] at hw5
  have hK5 : Fresh w w5 := hK4.then hk5 fun i hi e => by omega
  clear hk5 hK4 hK3
  go_wp2_with fail
  refine (room_enc _ _ _ hw5 wfA).mono ?_
  rintro e w6 ⟨rfl, n6, rfl⟩
  rw [r1]
  go_wp2_with fail
  refine (free_yes w.heap.size 0 481 vA stA _ (hw5.drewN n6) wfA rfl).mono ?_
  rintro e w7 ⟨rfl, hw7, hk7⟩
  rw [freeA_vA] at hw7
  have hK7 : Fresh w w7 := (hK5.drewN n6).then hk7 fun i hi e => by omega
  clear hk7 hK5 hw5
  go_wp2_with fail
  refine (slots_enc _ _ _ hw7 wfB).mono ?_
  rintro e w8 ⟨rfl, n8, rfl⟩
  go_wp2_with fail
  refine (room_enc _ _ _ (hw7.drewN n8) wfB).mono ?_
  rintro e w9 ⟨rfl, n9, rfl⟩
  rw [r2]
  go_wp2_with fail
  go_ret
  exact ⟨rfl, (hK7.drewN _)⟩
end Go.Proofs.Ytffbfgmhfnbmfaa
