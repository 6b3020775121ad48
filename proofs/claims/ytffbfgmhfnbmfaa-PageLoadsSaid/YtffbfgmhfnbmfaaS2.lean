/- The walk of the reference's pack. -/
import Derived.Test.YtffbfgmhfnbmfaaS1
import Derived.Test.YtffbfgmhfnbmfaaPm
import Derived.Deep.RegionHeld3
import Derived.Deep.RegionLaw
import Derived.Deep.Cut
import Derived.Deep.CutRange
namespace Go.Proofs.Ytffbfgmhfnbmfaa
open Go.RowKit

/-- A box, and bytes of one's own. -/
structure PkSt (w wr : World) (cs : Array Value) (t : TypeId) (v : Value) (n : Nat) (f : Nat → Nat) : Prop where
  box : wr.heap[w.heap.size]? = some (.cells cs t)
  row : OwnB wr v n f (w.heap.size + 1)
  fresh : Fresh w wr

theorem PkSt.kept {w wr wn : World} {cs : Array Value} {t : TypeId} {v : Value} {n : Nat} {f : Nat → Nat} (h : PkSt w wr cs t v n f) (k : Fresh wr wn) : PkSt w wn cs t v n f :=
  ⟨(k.block _ (Array.getElem?_eq_some_iff.1 h.box).1 (by simp)).trans h.box, h.row.kept k (by simp), h.fresh.trans k⟩

theorem PkSt.push {w wr wn : World} {cs : Array Value} {t : TypeId} {v : Value} {n m : Nat} {f d : Nat → Nat} {v2 : Value} (h : PkSt w wr cs t v n f) (k : PushedB wr v n m f d (w.heap.size + 1) v2 wn) : PkSt w wn cs t v2 (n + m) (joined n f m d) :=
  ⟨(k.kept.block _ (Array.getElem?_eq_some_iff.1 h.box).1 (fun e => by have := (h.row.own e).1; omega)).trans h.box, k.row, h.fresh.then k.kept fun b hb e => by have := (h.row.own e).1; omega⟩

theorem fewb8 (x : Nat) (w : World) (hx : x < 18446744073709551616) : Calls Try.prog 55 #[.int .u64 x, .int .i64 8] w (FewB x 8 w) := fewb_any x 8 w (by omega) hx

/-- The bytes that pack lays. -/
def packF (r x y P S m : Nat) (d : Nat → Nat) : Nat → Nat := joined 30 (joined 28 (joined 24 (joined 16 (joined 8 (fb r) 8 (fb x)) 8 (fb y)) 4 (fb P)) 2 (fb S)) m d

def PackR (r x y P S m : Nat) (d : Nat → Nat) (w : World) (e : Ending) (w' : World) : Prop := ∃ v, e = .returned v ∧ OwnB w' v (30 + m) (packF r x y P S m d) w.heap.size ∧ Fresh w w'

theorem fewb4 (x : Nat) (w : World) (hx : x < 18446744073709551616) : Calls Try.prog 55 #[.int .u64 x, .int .i64 4] w (FewB x 4 w) := fewb_any x 4 w (by omega) hx
theorem fewb2 (x : Nat) (w : World) (hx : x < 18446744073709551616) : Calls Try.prog 55 #[.int .u64 x, .int .i64 2] w (FewB x 2 w) := fewb_any x 2 w (by omega) hx

set_option maxRecDepth 100000 in
set_option maxHeartbeats 2000000 in
theorem packr_walk (r x y P S : Nat) (a : Option Addr) (m c : Nat) (d : Nat → Nat) (w : World) (hr : r ≤ 1099511627776) (hx : x ≤ 1099511627776) (hy : y ≤ 1099511627776) (hP : P ≤ 65536) (hS : S ≤ 65536) (hd : Bytes w a m d) (hm : m ≤ 1000) :
    Calls Try.prog 56 #[tupV r x y ((P : Int) - 1) ((S : Int) - 1) (.slice a m c)] w (PackR r x y P S m d w) := by
  have hA := (Kept.refl (fun _ => False) w).alloc (.cells #[.int .u64 r, .int .u64 x, .int .u64 y, .int .i64 ((P : Int) - 1), .int .i64 ((S : Int) - 1), .slice a m c] 29)
  have hB := alloc_at w (.cells #[.int .u64 r, .int .u64 x, .int .u64 y, .int .i64 ((P : Int) - 1), .int .i64 ((S : Int) - 1), .slice a m c] 29)
  have hZ : (w.alloc (.cells #[.int .u64 r, .int .u64 x, .int .u64 y, .int .i64 ((P : Int) - 1), .int .i64 ((S : Int) - 1), .slice a m c] 29)).heap.size = w.heap.size + 1 := by simp
  have HA := Lib.hid (And.intro hA (And.intro hB (And.intro hZ hd)))
  clear hA hB hZ hd
  go_enter Try.func56, Try.ntmps56
  go_upto_region 1 with fail
  generalize w.alloc (.cells #[.int .u64 r, .int .u64 x, .int .u64 y, .int .i64 ((P : Int) - 1), .int .i64 ((S : Int) - 1), .slice a m c] 29) = w0 at HA ⊢
  have c0 := boxCell HA.out.2.1 0
  have c1 := boxCell HA.out.2.1 1
  have hz : w.heap.size < w0.heap.size := by have := HA.out.2.2.1; omega
  have hzd : w0.drew.heap.size = w0.heap.size := rfl
  have HZD := Lib.hid hzd
  clear hzd
  go_region_held3 (fun W => W.cell? ⟨w.heap.size, 0, none⟩ = some (.int .u64 r) ∧ W.cell? ⟨w.heap.size, 1, none⟩ = some (.int .u64 x)) (first | exact ⟨c0, c1⟩ | exact ⟨f0, f1⟩ | exact ⟨g0, g1⟩ | exact ⟨k0, k1⟩)
    (first
      | (go_at_call 55; (with_reducible refine (fewb8 r _ (by omega)).mono ?_); rintro e w1 ⟨v1, rfl, hO1, hF1⟩; (
          have hz1 := Nat.lt_of_lt_of_le hz hF1.size
          have f0 := (hF1.cell (p := ⟨w.heap.size, 0, none⟩) hz (by simp)).trans c0
          have f1 := (hF1.cell (p := ⟨w.heap.size, 1, none⟩) hz (by simp)).trans c1))
      | (go_at_call 55; (with_reducible refine (fewb8 x _ (by omega)).mono ?_); rintro e w2 ⟨v2, rfl, hO2, hF2⟩; (
          obtain ⟨a2, k2, rfl, hb2, _, _⟩ := hO2.open_
          have hP2 : PkSt w w2 #[.int .u64 r, .int .u64 x, .int .u64 y, .int .i64 ((P : Int) - 1), .int .i64 ((S : Int) - 1), .slice a m c] 29 v1 8 (fb r) :=
            ⟨((hF2.block w.heap.size hz1 (by simp)).trans (hF1.block w.heap.size hz (by simp))).trans HA.out.2.1, (hO1.kept hF2 (by simp)).low (by have := HZD.out; omega), (HA.out.1.drew.trans hF1).trans hF2⟩
          have g0 := (hF2.cell (p := ⟨w.heap.size, 0, none⟩) hz1 (by simp)).trans f0
          have g1 := (hF2.cell (p := ⟨w.heap.size, 1, none⟩) hz1 (by simp)).trans f1))
      | (refine step_push rfl (.tmp 6) (.tmp 9) rfl rfl (v := v1) (lo := w.heap.size + 1) rfl rfl hP2.row (Nat.le_trans hz1 hF2.size) hb2 (.inl (by omega)) (by omega) ?_; intro v3 W3 hP3; (
          have hQ3 := hP2.push hP3
          have k0 := boxCell hQ3.box 0
          have k1 := boxCell hQ3.box 1)))
  have H3 := Lib.hid hQ3
  clear hQ3 k0 k1 g0 g1 f0 f1 c0 c1 hP3 hP2 hb2 hO1 hO2 hF1 hF2 hz1 hz HZD
  have c2 := boxCell H3.out.box 2
  go_wp2_with fail
  refine (fewb8 y _ (by omega)).mono ?_
  rintro e w4 ⟨v4, rfl, hO4, hF4⟩
  obtain ⟨a4, k4, rfl, hb4, _, _⟩ := hO4.open_
  obtain ⟨v5, w5, hrun5, hP5⟩ := (H3.out.kept hF4).row.push (k := k4) (Nat.le_trans (by have := (Array.getElem?_eq_some_iff.1 H3.out.box).1; omega) hF4.size) hb4 (.inl (by omega)) (by omega)
  have H5 := Lib.hid ((H3.out.kept hF4).push hP5)
  have Hr5 := Lib.hid hrun5
  clear c2 hO4 hF4 hb4 hrun5 hP5 H3
  have c3 := boxCell H5.out.box 3
  go_wp2_with (at_builtin; refine wpList_append_run _ _ rfl rfl Hr5.out ?_)
  refine (fewb4 P _ (by omega)).mono ?_
  rintro e w6 ⟨v6, rfl, hO6, hF6⟩
  obtain ⟨a6, k6, rfl, hb6, _, _⟩ := hO6.open_
  obtain ⟨v7, w7, hrun7, hP7⟩ := (H5.out.kept hF6).row.push (k := k6) (Nat.le_trans (by have := (Array.getElem?_eq_some_iff.1 H5.out.box).1; omega) hF6.size) hb6 (.inl (by omega)) (by omega)
  have H7 := Lib.hid ((H5.out.kept hF6).push hP7)
  have Hr7 := Lib.hid hrun7
  clear c3 hO6 hF6 hb6 hrun7 hP7 H5
  have c4 := boxCell H7.out.box 4
  go_wp2_with (at_builtin; refine wpList_append_run _ _ rfl rfl Hr7.out ?_)
  refine (fewb2 S _ (by omega)).mono ?_
  rintro e w8 ⟨v8, rfl, hO8, hF8⟩
  obtain ⟨a8, k8, rfl, hb8, _, _⟩ := hO8.open_
  obtain ⟨v9, w9, hrun9, hP9⟩ := (H7.out.kept hF8).row.push (k := k8) (Nat.le_trans (by have := (Array.getElem?_eq_some_iff.1 H7.out.box).1; omega) hF8.size) hb8 (.inl (by omega)) (by omega)
  have H9 := Lib.hid ((H7.out.kept hF8).push hP9)
  have Hr9 := Lib.hid hrun9
  clear c4 hO8 hF8 hb8 hrun9 hP9 H7
  have c5 := boxCell H9.out.box 5
  obtain ⟨v10, w10, hrun10, hP10⟩ := H9.out.row.push (k := c) (by have := (Array.getElem?_eq_some_iff.1 H9.out.box).1; omega) (HA.out.2.2.2.kept H9.out.fresh (by simp)) (.inr (by omega)) (by omega)
  have H10 := Lib.hid (H9.out.push hP10)
  have Hr10 := Lib.hid hrun10
  clear hrun10 hP10
  go_wp2_with (at_builtin; (first | (refine wpList_append_run _ _ rfl rfl Hr9.out ?_) | (refine wpList_append_run _ _ rfl rfl Hr10.out ?_)))
  go_ret
  exact ⟨_, rfl, H10.out.row.low (by omega), H10.out.fresh⟩
end Go.Proofs.Ytffbfgmhfnbmfaa
