/- The reference's Insert. -/
import Derived.Test.YtffbfgmhfnbmfaaRe
import Derived.Deep.RegionHeld3
namespace Go.Proofs.Ytffbfgmhfnbmfaa
open Go.RowKit

set_option maxRecDepth 100000 in
set_option maxHeartbeats 1000000 in
theorem rinsert_nil (r x y : Nat) (p s : Int) (a : Option Addr) (n c : Nat) (w : World) : Calls Try.prog 53 #[.pointer none, tupV r x y p s (.slice a n c)] w (Pair 0 15 w) := by
  go_enter Try.func53, Try.ntmps53
  go_wp2_with fail
  go_ret2
  exact ⟨rfl, (Kept.refl _ w).alloc _⟩

set_option maxRecDepth 100000 in
set_option maxHeartbeats 1000000 in
theorem rinsert_form (R : Nat) (r x y : Nat) (p s : Int) (a : Option Addr) (n c : Nat) (w : World) (h : rightB r x y p s n = false) :
    Calls Try.prog 53 #[.pointer (some ⟨R, 0, none⟩), tupV r x y p s (.slice a n c)] w (Pair 0 3 w) := by
  have hA := (Kept.refl (fun _ => False) w).alloc (Obj.cells #[.int .u64 r, .int .u64 x, .int .u64 y, .int .i64 p, .int .i64 s, .slice a n c] 29)
  have HA := Lib.hid (And.intro hA h)
  clear hA h
  go_enter Try.func53, Try.ntmps53
  go_wp2_with fail
  refine (right_ref r x y p s a n c _).mono ?_
  rintro e w1 ⟨rfl, hF1⟩
  rw [HA.out.2]
  have hF2 := HA.out.1.trans hF1
  go_wp2_with fail
  go_ret2
  exact ⟨rfl, hF2⟩

set_option maxRecDepth 100000 in
set_option maxHeartbeats 2000000 in
theorem rinsert_full (P : Nat → Prop) (R : Nat) (v : Value) (st : St) (r x y : Nat) (p s : Int) (a : Option Addr) (n c : Nat) (w : World) (hw : RefIs P w R v st) (hst : Wf st) (h : rightB r x y p s n = true) (hr : roomA st.slots < (n : Int)) :
    Calls Try.prog 53 #[.pointer (some ⟨R, 0, none⟩), tupV r x y p s (.slice a n c)] w (Pair 0 12 w) := by
  have hA := (Kept.refl (fun _ => False) w).alloc (Obj.cells #[.int .u64 r, .int .u64 x, .int .u64 y, .int .i64 p, .int .i64 s, .slice a n c] 29)
  have hs1 : (w.alloc (Obj.cells #[.int .u64 r, .int .u64 x, .int .u64 y, .int .i64 p, .int .i64 s, .slice a n c] 29)).heap.size = w.heap.size + 1 := by simp
  have hB := alloc_at w (Obj.cells #[.int .u64 r, .int .u64 x, .int .u64 y, .int .i64 p, .int .i64 s, .slice a n c] 29)
  have hr' := decide_eq_true hr
  have HA := Lib.hid (And.intro hA (And.intro h (And.intro hs1 (And.intro hB (And.intro hw hst)))))
  clear hA h hs1 hB hw hr
  go_enter Try.func53, Try.ntmps53
  go_wp2_with fail
  refine (right_ref r x y p s a n c _).mono ?_
  rintro e w1 ⟨rfl, hF1⟩
  rw [HA.out.2.1]
  have hF2 := HA.out.1.trans hF1
  have hB2 := (hF1.block w.heap.size (by rw [HA.out.2.2.1]; omega) (by simp)).trans HA.out.2.2.2.1
  have hW2 := (HA.out.2.2.2.2.1.fresh hF2).drew
  have c5 := boxCell hB2 5
  have hlt1 := (Array.getElem?_eq_some_iff.1 hB2).1
  have HF := Lib.hid hF2
  clear hF1 hF2 hB2
  go_wp2_with fail
  go_region_held3 (fun W => W.cell? ⟨w.heap.size, 5, none⟩ = some (.slice a n c)) (first | exact c5 | exact (hF3.cell (p := ⟨w.heap.size, 5, none⟩) hlt1 (by simp)).trans c5) (first
    | (go_at_call 29; refine (rroom_any P R v st _ hW2 HA.out.2.2.2.2.2).mono ?_; rintro e w3 ⟨rfl, hF3⟩))
  go_wp2_with fail
  go_ret2
  exact ⟨rfl, HF.out.drew.trans hF3⟩
end Go.Proofs.Ytffbfgmhfnbmfaa
