/- The walks of nowhere, Few and Same of versions. -/
import Derived.Test.YtffbfgmhfnbmfaaX2
namespace Go.Proofs.Ytffbfgmhfnbmfaa
open Go.RowKit

def Gives (v : Value) (w : World) (e : Ending) (w' : World) : Prop := e = .returned v ∧ Fresh w w'

set_option maxRecDepth 100000 in
set_option maxHeartbeats 1000000 in
theorem nowhere_any (w : World) : Calls Try.prog 10 #[] w (Gives (.agg #[.int .i64 (-1), .int .i64 (-1)]) w) := by
  go_enter Try.func10, Try.ntmps10
  go_wp2_with fail
  refine bodyPost_ret (v := .agg #[.int .i64 (-1), .int .i64 (-1)]) ?_ rfl ⟨rfl, (Kept.refl _ w).alloc _⟩
  simp [results, Try.results10, go_sem]

def FewPost (r x y : Nat) (p s : Int) (m : Nat) (d : Nat → Nat) (w : World) (e : Ending) (w' : World) : Prop :=
  ∃ a c, e = .returned (tupV r x y p s (.slice (some a) m c)) ∧ m ≤ c ∧ Bytes w' (some a) m d ∧ (w.heap.size ≤ a.block ∧ a.block < w'.heap.size) ∧ a.spot = none ∧ Fresh w w'

set_option maxRecDepth 100000 in
set_option maxHeartbeats 1000000 in
theorem few_any (r x y : Nat) (p s : Int) (a : Option Addr) (n c : Nat) (d : Nat → Nat) (w : World) (h : Bytes w a n d) (hnc : n ≤ c) (m : Nat) (hm : m = min n 230) :
    Calls Try.prog 15 #[tupV r x y p s (.slice a n c)] w (FewPost r x y p s m d w) := by
  have HM := Lib.hid (And.intro hnc hm)
  clear hnc hm
  go_enter Try.func15, Try.ntmps15
  go_wp2_with fail
  have hA1 := (Kept.refl (fun _ => False) w).alloc (Obj.cells #[.int .u64 r, .int .u64 x, .int .u64 y, .int .i64 p, .int .i64 s, .slice a n c] 29)
  have hs1 : (w.alloc (Obj.cells #[.int .u64 r, .int .u64 x, .int .u64 y, .int .i64 p, .int .i64 s, .slice a n c] 29)).heap.size = w.heap.size + 1 := by simp
  have hA2 := (Kept.refl (fun _ => False) (w.alloc (Obj.cells #[.int .u64 r, .int .u64 x, .int .u64 y, .int .i64 p, .int .i64 s, .slice a n c] 29))).alloc (Obj.cells #[.int .u64 0, .int .u64 0, .int .u64 0, .int .i64 0, .int .i64 0, .slice none 0 0] 29)
  have hB1 := (hA2.block w.heap.size (by simp) (by simp)).trans (alloc_at w _)
  have hB2 := alloc_at (w.alloc (Obj.cells #[.int .u64 r, .int .u64 x, .int .u64 y, .int .i64 p, .int .i64 s, .slice a n c] 29)) (Obj.cells #[.int .u64 0, .int .u64 0, .int .u64 0, .int .i64 0, .int .i64 0, .slice none 0 0] 29)
  rw [hs1] at hB2
  have hs2 : ((w.alloc (Obj.cells #[.int .u64 r, .int .u64 x, .int .u64 y, .int .i64 p, .int .i64 s, .slice a n c] 29)).alloc (Obj.cells #[.int .u64 0, .int .u64 0, .int .u64 0, .int .i64 0, .int .i64 0, .slice none 0 0] 29)).heap.size = w.heap.size + 2 := by simp
  have hA := hA1.trans hA2
  generalize (w.alloc (Obj.cells #[.int .u64 r, .int .u64 x, .int .u64 y, .int .i64 p, .int .i64 s, .slice a n c] 29)).alloc (Obj.cells #[.int .u64 0, .int .u64 0, .int .u64 0, .int .i64 0, .int .i64 0, .slice none 0 0] 29) = w0 at hA hB1 hB2 hs2 ⊢
  clear hA1 hA2 hs1
  refine (cut_any a n c 230 d _ (h.kept hA (by simp)) HM.out.1 (by omega) m HM.out.2).mono ?_
  rintro e w1 ⟨a1, c1, rfl, hmc, hby, hnew, hsp, hF1⟩
  have hB1' := (hF1.block w.heap.size (by omega) (by simp)).trans hB1
  have hB2' := (hF1.block (w.heap.size + 1) (by omega) (by simp)).trans hB2
  have X := Box6.of hB1'
  have c0 := X.c0
  have c1' := X.c1
  have c2 := X.c2
  have c3 := X.c3
  have c4 := X.c4
  have c5 := X.c5
  have z5 := X.z 5
  have Y := Box6.of hB2'
  have d0 := Y.c0
  have d1 := Y.c1
  have d2 := Y.c2
  have d3 := Y.c3
  have d4 := Y.c4
  have d5 := Y.c5
  have y0 := Y.z 0
  have y1 := Y.z 1
  have y2 := Y.z 2
  have y3 := Y.z 3
  have y4 := Y.z 4
  have y5 := Y.z 5
  have HH := Lib.hid (And.intro hB1' (And.intro hB2' (And.intro hmc (And.intro hby (And.intro hnew (And.intro hsp (And.intro (hA.trans hF1) hs2)))))))
  clear X Y hB1' hB2' hby hnew hsp hF1 hA hB1 hB2 hs2 hmc
  go_wp2_with fail
  clear c0 c1' c2 c3 c4 c5 z5 d0 d1 d2 d3 d4 d5 y0 y1 y2 y3 y4 y5
  obtain ⟨hB1', hB2', hmc, hby, hnew, hsp, hF, hs2⟩ := HH.out
  have hKa : Kept (fun k => k = w.heap.size) w1 (w1.setCell ⟨w.heap.size, 5, none⟩ (.slice (some a1) m c1)) := (Kept.refl (fun k => k = w.heap.size) w1).setCell (p := ⟨w.heap.size, 5, none⟩) (fun _ => rfl) _
  have hlt2 : w.heap.size + 1 < w1.heap.size := by
    by_cases hh : w.heap.size + 1 < w1.heap.size
    · exact hh
    · rw [Array.getElem?_eq_none (by omega)] at hB2'; simp at hB2'
  have hB3 := (hKa.block (w.heap.size + 1) hlt2 (by omega)).trans hB2'
  have hB6 := store6_box hB3 (.int .u64 r) (.int .u64 x) (.int .u64 y) (.int .i64 p) (.int .i64 s) (.slice (some a1) m c1)
  have hKb := store6_kept (w1.setCell ⟨w.heap.size, 5, none⟩ (.slice (some a1) m c1)) (w.heap.size + 1) (.int .u64 r) (.int .u64 x) (.int .u64 y) (.int .i64 p) (.int .i64 s) (.slice (some a1) m c1)
  have hF6 := (hF.then hKa fun i hi e => by omega).then hKb fun i hi e => by omega
  have hby6 := (hby.kept hKa (fun z hz => by cases hz; omega)).kept hKb (fun z hz => by cases hz; omega)
  have hlt6 := Nat.lt_of_lt_of_le hnew.2 (Nat.le_trans hKa.size hKb.size)
  change bodyPost _ _ _ _ _ (store6 (w1.setCell ⟨w.heap.size, 5, none⟩ (.slice (some a1) m c1)) (w.heap.size + 1) (.int .u64 r) (.int .u64 x) (.int .u64 y) (.int .i64 p) (.int .i64 s) (.slice (some a1) m c1))
  generalize store6 (w1.setCell ⟨w.heap.size, 5, none⟩ (.slice (some a1) m c1)) (w.heap.size + 1) (.int .u64 r) (.int .u64 x) (.int .u64 y) (.int .i64 p) (.int .i64 s) (.slice (some a1) m c1) = w6 at hB6 hF6 hby6 hlt6 ⊢
  have X := Box6.of hB6
  refine bodyPost_ret (v := tupV r x y p s (.slice (some a1) m c1)) ?_ rfl ⟨a1, c1, rfl, hmc, hby6, ⟨by omega, hlt6⟩, hsp, hF6⟩
  simp [results, Try.results15, go_sem, X.c0, X.c1, X.c2, X.c3, X.c4, X.c5]

set_option maxRecDepth 100000 in
set_option maxHeartbeats 1000000 in
theorem tsame_any (r x y : Nat) (p s : Int) (a a' : Option Addr) (n c c' : Nat) (d d' : Nat → Nat) (w : World) (h : Bytes w a n d) (ha : a = none → n = 0) (h' : Bytes w a' n d') (ha' : a' = none → n = 0) (he : ∀ j, j < n → d j = d' j) :
    Calls Try.prog 20 #[tupV r x y p s (.slice a n c), tupV r x y p s (.slice a' n c')] w (Gives (.bool true) w) := by
  have hA : Fresh w ((w.alloc (.cells #[.int .u64 r, .int .u64 x, .int .u64 y, .int .i64 p, .int .i64 s, .slice a n c] 29)).alloc (.cells #[.int .u64 r, .int .u64 x, .int .u64 y, .int .i64 p, .int .i64 s, .slice a' n c'] 29)) := ((Kept.refl _ w).alloc _).alloc _
  have hb := same_any a n c d a' n c' d' _ (h.kept hA (by simp)) ha (h'.kept hA (by simp)) ha'
  have HS : Hid (sameB n d n d' = true) := Lib.hid (decide_eq_true ⟨rfl, he⟩)
  have Hb := Lib.hid hb
  clear h h' ha ha' he hb
  go_enter Try.func20, Try.ntmps20
  go_wp2_with fail
  refine Hb.out.mono ?_
  rintro e w1 ⟨rfl, rfl⟩
  rw [HS.out]
  go_wp2_with fail
  go_ret
  exact ⟨rfl, hA⟩
end Go.Proofs.Ytffbfgmhfnbmfaa
