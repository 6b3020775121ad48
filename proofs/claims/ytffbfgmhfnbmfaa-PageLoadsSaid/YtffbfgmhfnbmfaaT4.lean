/- A copy of bytes, as bytes of one's own. -/
import Derived.Test.YtffbfgmhfnbmfaaRa
import Derived.Test.YtffbfgmhfnbmfaaBk
namespace Go.Proofs.Ytffbfgmhfnbmfaa
open Go.RowKit

def OwnCopy (m : Nat) (d : Nat → Nat) (w : World) (e : Ending) (w' : World) : Prop := ∃ B c, e = .returned (.slice (some ⟨B, 0, none⟩) m c) ∧ OwnB w' (.slice (some ⟨B, 0, none⟩) m c) m d w.heap.size ∧ Fresh w w'

set_option maxRecDepth 100000 in
set_option maxHeartbeats 1000000 in
theorem copy_own (a : Option Addr) (m c : Nat) (d : Nat → Nat) (w : World) (hsrc : Bytes w a m d) (hm : m ≤ 100000) :
    Calls Try.prog 22 #[.slice a m c] w (OwnCopy m d w) := by
  have hA := (Kept.refl (fun _ => False) w).alloc (Obj.cells #[] 5)
  have hd' := hsrc.kept hA (by simp)
  have hs0 : (w.alloc (.cells #[] 5)).heap.size = w.heap.size + 1 := by simp
  by_cases h0 : m = 0
  · have hE : Byt (w.alloc (.cells #[] 5)) w.heap.size 5 0 fun _ => 0 := ⟨World.rowIs_alloc w #[] 5 _ (fun i hi => by simp at hi), fun _ => by omega⟩
    obtain ⟨w2, hrun, hb2, hz2, hk2⟩ := append_room (P := Try.prog) 22 22 22 5 und22 und22 info5 (off := 0) (n := 0) (c := 0) (k := c) hE hd' (by omega) (by omega)
    have Hrun := Lib.hid hrun
    have Hk := Lib.hid (And.intro hk2 (And.intro hA (And.intro h0 hb2)))
    have hbt := hsrc.byte
    clear hrun hk2 hz2 hA hs0 hd' hE hb2 hm hsrc h0
    go_enter Try.func22, Try.ntmps22
    go_wp2_with (at_builtin; refine wpList_append_run _ _ rfl rfl Hrun.out ?_)
    go_ret
    obtain ⟨hk2, hA, h0, hb2⟩ := Hk.out
    subst h0
    exact ⟨w.heap.size, _, rfl, ⟨hbt, .inr ⟨_, _, _, rfl, Nat.le_refl _, Nat.le_refl _, hb2, fun j hj => by omega⟩⟩, hA.then hk2 fun i hi e => by omega⟩
  · obtain ⟨cap, w2, hrun, hcap, hb2, hz2, hk2⟩ := append_grow (P := Try.prog) 22 22 22 5 und22 und22 info5 (w := w.alloc (.cells #[] 5)) (base := some ⟨w.heap.size, 0, .none⟩) (n := 0) (c := 0) (k := c) (f := fun _ => 0) ⟨fun _ => by omega, .inl rfl⟩ hd' (by omega) (by omega)
    rw [hs0] at hb2
    have Hrun := Lib.hid hrun
    have Hk := Lib.hid (And.intro hk2 (And.intro hA (And.intro hb2 hcap)))
    have hbt := hsrc.byte
    clear hrun hk2 hz2 hA hs0 hd' hb2 hcap hm hsrc h0
    go_enter Try.func22, Try.ntmps22
    go_wp2_with (at_builtin; refine wpList_append_run _ _ rfl rfl Hrun.out ?_)
    go_ret
    obtain ⟨hk2, hA, hb2, hcap⟩ := Hk.out
    exact ⟨w.heap.size + 1, cap, rfl, ⟨hbt, .inr ⟨_, _, _, rfl, by omega, Nat.le_succ _, hb2, fun j hj => by unfold joined; rw [if_neg (by omega), if_pos (by omega)]; simp⟩⟩, hA.trans hk2⟩
end Go.Proofs.Ytffbfgmhfnbmfaa
