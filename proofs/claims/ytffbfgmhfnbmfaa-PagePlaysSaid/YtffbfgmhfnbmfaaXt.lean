/- Few, and that what it made may be written. -/
import Derived.Test.YtffbfgmhfnbmfaaX3
namespace Go.Proofs.Ytffbfgmhfnbmfaa
open Go.RowKit

def NewThaw (m : Nat) (d : Nat → Nat) (w : World) (e : Ending) (w' : World) : Prop :=
  ∃ a c, e = .returned (.slice (some a) m c) ∧ m ≤ c ∧ Bytes w' (some a) m d ∧ (w.heap.size ≤ a.block ∧ a.block < w'.heap.size) ∧ (a.spot = none ∧ ∀ j, w'.frozen? ⟨a.block, j, none⟩ = false) ∧ Fresh w w'

def FewThaw (r x y : Nat) (p s : Int) (m : Nat) (d : Nat → Nat) (w : World) (e : Ending) (w' : World) : Prop :=
  ∃ a c, e = .returned (tupV r x y p s (.slice (some a) m c)) ∧ m ≤ c ∧ Bytes w' (some a) m d ∧ (w.heap.size ≤ a.block ∧ a.block < w'.heap.size) ∧ (a.spot = none ∧ ∀ j, w'.frozen? ⟨a.block, j, none⟩ = false) ∧ Fresh w w'

set_option maxRecDepth 100000 in
set_option maxHeartbeats 1000000 in
theorem cut_thaw (a : Option Addr) (n c k : Nat) (d : Nat → Nat) (w : World) (h : Bytes w a n d) (hnc : n ≤ c) (hk : k ≤ 1000) (m : Nat) (hm : m = min n k) :
    Calls Try.prog 21 #[.slice a n c, .int .i64 k] w (NewThaw m d w) := by
  have hmn := fun w => (Lib.run_min_ints (P := Try.prog) w #[3, 3] 3 .i64 .i64 (n : Int) (k : Int)).trans (by rw [show min (n : Int) (k : Int) = (m : Int) from by omega])
  have hmle : (m : Int) ≤ (c : Int) := by omega
  have hsrc : Bytes w a m d := by
    refine ⟨h.byte, ?_⟩
    rcases h.cells with h0 | ⟨b, o, ha, hlt, hc⟩
    · exact .inl (by omega)
    · exact .inr ⟨b, o, ha, hlt, fun j hj => hc j (by omega)⟩
  have hA := (Kept.refl (fun _ => False) w).alloc (Obj.cells #[] 5)
  have hd' := hsrc.kept hA (by simp)
  have hs0 : (w.alloc (.cells #[] 5)).heap.size = w.heap.size + 1 := by simp
  by_cases h0 : m = 0
  · have hE : Byt (w.alloc (.cells #[] 5)) w.heap.size 5 0 fun _ => 0 := ⟨World.rowIs_alloc w #[] 5 _ (fun i hi => by simp at hi), fun _ => by omega⟩
    obtain ⟨w2, hrun, hb2, hz2, hk2⟩ := append_room (P := Try.prog) 22 22 22 5 und22 und22 info5 (off := 0) (n := 0) (c := 0) (k := c) hE hd' (by omega) (by omega)
    have Hrun := Lib.hid hrun
    have Hk := Lib.hid (And.intro hk2 (And.intro hA (And.intro h0 (And.intro hb2 (show w.heap.size < w2.heap.size by rw [hz2, hs0]; omega)))))
    have hbt := h.byte
    clear hrun hk2 hz2 hA hs0 hd' hE hb2 hm hsrc h0 hnc
    go_enter Try.func21, Try.ntmps21
    go_wp2_with (at_builtin; refine wpList_append_run _ _ rfl rfl Hrun.out ?_)
    go_ret
    obtain ⟨hk2, hA, h0, hb2, hlt⟩ := Hk.out
    subst h0
    exact ⟨_, _, rfl, Nat.le_refl _, ⟨hbt, .inl rfl⟩, ⟨Nat.le_refl _, hlt⟩, ⟨rfl, fun j => hb2.frozen j⟩, hA.then hk2 fun i hi e => by omega⟩
  · obtain ⟨cap, w2, hrun, hcap, hb2, hz2, hk2⟩ := append_grow (P := Try.prog) 22 22 22 5 und22 und22 info5 (w := w.alloc (.cells #[] 5)) (base := some ⟨w.heap.size, 0, .none⟩) (n := 0) (c := 0) (k := c) (f := fun _ => 0) ⟨fun _ => by omega, .inl rfl⟩ hd' (by omega) (by omega)
    rw [hs0] at hb2
    have Hrun := Lib.hid hrun
    have Hk := Lib.hid (And.intro hk2 (And.intro hA (And.intro hb2 (And.intro hcap (show w.heap.size + 1 < w2.heap.size by rw [hz2, hs0]; omega)))))
    have hbt := h.byte
    clear hrun hk2 hz2 hA hs0 hd' hb2 hcap hm hsrc h0 hnc
    go_enter Try.func21, Try.ntmps21
    go_wp2_with (at_builtin; refine wpList_append_run _ _ rfl rfl Hrun.out ?_)
    go_ret
    obtain ⟨hk2, hA, hb2, hcap, hlt⟩ := Hk.out
    exact ⟨⟨w.heap.size + 1, 0, .none⟩, cap, rfl, by omega, ((hb2.bytes 0 m (by omega)).congr (fun j hj => by unfold joined; rw [if_neg (by omega), if_pos (by omega)]; simp) hbt), ⟨Nat.le_succ _, hlt⟩, ⟨rfl, fun j => hb2.frozen j⟩, hA.trans hk2⟩
set_option maxRecDepth 100000 in
set_option maxHeartbeats 1000000 in
theorem few_thaw (r x y : Nat) (p s : Int) (a : Option Addr) (n c : Nat) (d : Nat → Nat) (w : World) (h : Bytes w a n d) (hnc : n ≤ c) (m : Nat) (hm : m = min n 230) :
    Calls Try.prog 15 #[tupV r x y p s (.slice a n c)] w (FewThaw r x y p s m d w) := by
  have HM := Lib.hid (And.intro hnc hm)
  clear hnc hm
  go_enter Try.func15, Try.ntmps15
  go_wp2_with fail
  have hA1 := (Kept.refl (fun _ => False) w).alloc (Obj.cells #[.int .u64 r, .int .u64 x, .int .u64 y, .int .i64 p, .int .i64 s, .slice a n c] 29)
  have hs1 : (w.alloc (Obj.cells #[.int .u64 r, .int .u64 x, .int .u64 y, .int .i64 p, .int .i64 s, .slice a n c] 29)).heap.size = w.heap.size + 1 := by simp
  have hA2 := (Kept.refl (fun _ => False) (w.alloc (Obj.cells #[.int .u64 r, .int .u64 x, .int .u64 y, .int .i64 p, .int .i64 s, .slice a n c] 29))).alloc (Obj.cells #[.int .u64 0, .int .u64 0, .int .u64 0, .int .i64 0, .int .i64 0, .slice none 0 0] 29)
  have hB1 := (hA2.block w.heap.size (by simp) (by simp)).trans (alloc_at w _)
  have hB2 := alloc_at (w.alloc (Obj.cells #[.int .u64 r, .int .u64 x, .int .u64 y, .int .i64 p, .int .i64 s, .slice a n c] 29)) (Obj.cells #[.int .u64 0, .int .u64 0, .int .u64 0, .int .i64 0, .int .i64 0, .slice none 0 0] 29)
  rw [hs1] at hB2
  have hs2 : ((w.alloc (Obj.cells #[.int .u64 r, .int .u64 x, .int .u64 y, .int .i64 p, .int .i64 s, .slice a n c] 29)).alloc (Obj.cells #[.int .u64 0, .int .u64 0, .int .u64 0, .int .i64 0, .int .i64 0, .slice none 0 0] 29)).heap.size = w.heap.size + 2 := by simp
  have hA := hA1.trans hA2
  generalize (w.alloc (Obj.cells #[.int .u64 r, .int .u64 x, .int .u64 y, .int .i64 p, .int .i64 s, .slice a n c] 29)).alloc (Obj.cells #[.int .u64 0, .int .u64 0, .int .u64 0, .int .i64 0, .int .i64 0, .slice none 0 0] 29) = w0 at hA hB1 hB2 hs2 ⊢
  clear hA1 hA2 hs1
  refine (cut_thaw a n c 230 d _ (h.kept hA (by simp)) HM.out.1 (by omega) m HM.out.2).mono ?_
  rintro e w1 ⟨a1, c1, rfl, hmc, hby, hnew, hsp, hF1⟩
  have hB1' := (hF1.block w.heap.size (by omega) (by simp)).trans hB1
  have hB2' := (hF1.block (w.heap.size + 1) (by omega) (by simp)).trans hB2
  have X := Box6.of hB1'
  have c0 := X.c0
  have c1' := X.c1
  have c2 := X.c2
  have c3 := X.c3
  have c4 := X.c4
  have c5 := X.c5
  have z5 := X.z 5
  have Y := Box6.of hB2'
  have d0 := Y.c0
  have d1 := Y.c1
  have d2 := Y.c2
  have d3 := Y.c3
  have d4 := Y.c4
  have d5 := Y.c5
  have y0 := Y.z 0
  have y1 := Y.z 1
  have y2 := Y.z 2
  have y3 := Y.z 3
  have y4 := Y.z 4
  have y5 := Y.z 5
  have HH := Lib.hid (And.intro hB1' (And.intro hB2' (And.intro hmc (And.intro hby (And.intro hnew (And.intro hsp (And.intro (hA.trans hF1) hs2)))))))
  clear X Y hB1' hB2' hby hnew hsp hF1 hA hB1 hB2 hs2 hmc
  go_wp2_with fail
  clear c0 c1' c2 c3 c4 c5 z5 d0 d1 d2 d3 d4 d5 y0 y1 y2 y3 y4 y5
  obtain ⟨hB1', hB2', hmc, hby, hnew, hsp, hF, hs2⟩ := HH.out
  have hKa : Kept (fun k => k = w.heap.size) w1 (w1.setCell ⟨w.heap.size, 5, none⟩ (.slice (some a1) m c1)) := (Kept.refl (fun k => k = w.heap.size) w1).setCell (p := ⟨w.heap.size, 5, none⟩) (fun _ => rfl) _
  have hlt2 : w.heap.size + 1 < w1.heap.size := by
    by_cases hh : w.heap.size + 1 < w1.heap.size
    · exact hh
    · rw [Array.getElem?_eq_none (by omega)] at hB2'; simp at hB2'
  have hB3 := (hKa.block (w.heap.size + 1) hlt2 (by omega)).trans hB2'
  have hB6 := store6_box hB3 (.int .u64 r) (.int .u64 x) (.int .u64 y) (.int .i64 p) (.int .i64 s) (.slice (some a1) m c1)
  have hKb := store6_kept (w1.setCell ⟨w.heap.size, 5, none⟩ (.slice (some a1) m c1)) (w.heap.size + 1) (.int .u64 r) (.int .u64 x) (.int .u64 y) (.int .i64 p) (.int .i64 s) (.slice (some a1) m c1)
  have hF6 := (hF.then hKa fun i hi e => by omega).then hKb fun i hi e => by omega
  have hby6 := (hby.kept hKa (fun z hz => by cases hz; omega)).kept hKb (fun z hz => by cases hz; omega)
  have hz6 : ∀ j, (store6 (w1.setCell ⟨w.heap.size, 5, none⟩ (.slice (some a1) m c1)) (w.heap.size + 1) (.int .u64 r) (.int .u64 x) (.int .u64 y) (.int .i64 p) (.int .i64 s) (.slice (some a1) m c1)).frozen? ⟨a1.block, j, none⟩ = false := fun j =>
    (hKb.frozen (p := ⟨a1.block, j, none⟩) (Nat.lt_of_lt_of_le hnew.2 hKa.size) (show ¬ a1.block = w.heap.size + 1 by omega)).trans ((hKa.frozen (p := ⟨a1.block, j, none⟩) hnew.2 (show ¬ a1.block = w.heap.size by omega)).trans (hsp.2 j))
  have hlt6 := Nat.lt_of_lt_of_le hnew.2 (Nat.le_trans hKa.size hKb.size)
  change bodyPost _ _ _ _ _ (store6 (w1.setCell ⟨w.heap.size, 5, none⟩ (.slice (some a1) m c1)) (w.heap.size + 1) (.int .u64 r) (.int .u64 x) (.int .u64 y) (.int .i64 p) (.int .i64 s) (.slice (some a1) m c1))
  generalize store6 (w1.setCell ⟨w.heap.size, 5, none⟩ (.slice (some a1) m c1)) (w.heap.size + 1) (.int .u64 r) (.int .u64 x) (.int .u64 y) (.int .i64 p) (.int .i64 s) (.slice (some a1) m c1) = w6 at hB6 hF6 hby6 hlt6 hz6 ⊢
  have X := Box6.of hB6
  refine bodyPost_ret (v := tupV r x y p s (.slice (some a1) m c1)) ?_ rfl ⟨a1, c1, rfl, hmc, hby6, ⟨by omega, hlt6⟩, ⟨hsp.1, hz6⟩, hF6⟩
  simp [results, Try.results15, go_sem, X.c0, X.c1, X.c2, X.c3, X.c4, X.c5]

end Go.Proofs.Ytffbfgmhfnbmfaa
