/- The walks of unpack and Get. -/
import Derived.Test.YtffbfgmhfnbmfaaW4
import Derived.Deep.RegionHeld3
namespace Go.Proofs.Ytffbfgmhfnbmfaa
open Go.RowKit

theorem num_still (b off n c T N : Nat) (f : Nat → Nat) (w : World) (hn : n ≤ 8) (hw : Byt w b T N f) (ho : off + n ≤ N) :
    Calls Try.prog 57 #[.slice (some ⟨b, off, none⟩) n c] w fun e w' => e = .returned (.int .u64 (le f off n)) ∧ w' = w :=
  (num_any b off n c T N f w hn hw ho).mono fun _ _ h => ⟨h.1, h.2.symm⟩

theorem wrap_pred (n : Nat) (h : n ≤ 1099511627776) : IntKind.i64.wrap ((n : Int) - 1) = (n : Int) - 1 := by
  simp only [IntKind.wrap, IntKind.bits, IntKind.signed]; simp; omega

theorem boxFree {w : World} {b : Nat} {cs : Array Value} {t : TypeId} (h : w.heap[b]? = some (.cells cs t)) (i : Nat) : w.frozen? ⟨b, i, none⟩ = false := by
  simp only [World.frozen?, h]; simp

theorem clone_some (a : Addr) (n c : Nat) (d : Nat → Nat) (w : World) (hd : Bytes w (some a) n d) (hn : n ≤ 140737488355328) :
    Calls Try.prog 50 #[.slice (some a) n c] w fun e w' => ∃ a1 c', e = .returned (.slice (some a1) n c') ∧ Bytes w' (some a1) n d ∧ (w.heap.size ≤ a1.block ∧ a1.spot = none ∧ a1.block < w'.heap.size ∧ ∀ j, w'.frozen? ⟨a1.block, j, none⟩ = false) ∧ Fresh w w' :=
  (clone_any (some a) n c d w hd hn (by simp)).mono fun e w' ⟨a', c', he, hsm, hby, hnew, hF⟩ => by
    cases a' with
    | none => simp at hsm
    | some a1 => exact ⟨a1, c', he, hby, hnew a1 rfl, hF⟩

theorem setBox {w : World} {b : Nat} {cs : Array Value} {t : TypeId} {z : Nat × Nat} (h : w.heap[b]? = some (.cells cs t z)) (i : Nat) (v : Value) :
    (w.setCell ⟨b, i, none⟩ v).heap[b]? = some (.cells (cs.setIfInBounds i v) t z) := by
  simp [World.setCell, Array.getElem?_modify, h]

def UnpackPost (f : Nat → Nat) (off n : Nat) (w : World) (e : Ending) (w' : World) : Prop :=
  ∃ a c, e = .returned (tupV (le f off 8) (le f (off + 8) 8) (le f (off + 16) 8) ((le f (off + 24) 4 : Int) - 1) ((le f (off + 28) 2 : Int) - 1) (.slice (some a) (n - 30) c)) ∧
    Bytes w' (some a) (n - 30) (fun j => f (off + 30 + j)) ∧ w.heap.size ≤ a.block ∧ (a.spot = none ∧ a.block < w'.heap.size ∧ ∀ j, w'.frozen? ⟨a.block, j, none⟩ = false) ∧ Fresh w w'

set_option maxRecDepth 100000 in
set_option maxHeartbeats 1000000 in
theorem unpack_any (b off n c T N : Nat) (f : Nat → Nat) (w : World) (hw : Byt w b T N f) (hn : 30 ≤ n) (hc : n ≤ c) (ho : off + n ≤ N) (hN : N ≤ 140737488355328) :
    Calls Try.prog 47 #[.slice (some ⟨b, off, none⟩) n c] w (UnpackPost f off n w) := by
  have g1 : (30 : Int) ≤ (n : Int) := by omega
  have g2 : (30 : Int) ≤ (c : Int) := by omega
  have g3 : (8 : Int) ≤ (c : Int) := by omega
  have g4 : (16 : Int) ≤ (c : Int) := by omega
  have g5 : (24 : Int) ≤ (c : Int) := by omega
  have g6 : (28 : Int) ≤ (c : Int) := by omega
  have n1 : ¬ c = 8 := by omega
  have n2 : ¬ c = 16 := by omega
  have n3 : ¬ c = 24 := by omega
  have n4 : ¬ c = 28 := by omega
  have n0 : ¬ c = 0 := by omega
  have le4 := le_lt hw.byte 4 (off + 24)
  have le2 := le_lt hw.byte 2 (off + 28)
  have q1 := wrap_i64 (le f (off + 24) 4) (by omega)
  have q2 := wrap_i64 (le f (off + 28) 2) (by omega)
  have q3 := wrap_pred (le f (off + 24) 4) (by omega)
  have q4 := wrap_pred (le f (off + 28) 2) (by omega)
  have Hho := Lib.hid (And.intro hN (And.intro hn (And.intro hc ho)))
  clear hN hn hc
  by_cases h30 : c = 30
  · subst h30
    go_enter Try.func47, Try.ntmps47
    go_wp2_with fail
    have hF : Fresh w (w.alloc (Obj.cells #[.int .u64 0, .int .u64 0, .int .u64 0, .int .i64 0, .int .i64 0, .slice none 0 0] 29)) := ((Kept.refl (fun _ => False) w).alloc _)
    have hB := alloc_at w (Obj.cells #[.int .u64 0, .int .u64 0, .int .u64 0, .int .i64 0, .int .i64 0, .slice none 0 0] 29)
    generalize w.alloc (Obj.cells #[.int .u64 0, .int .u64 0, .int .u64 0, .int .i64 0, .int .i64 0, .slice none 0 0] 29) = w0 at hF hB ⊢
    have hwd1 : Byt w0.drew b T N f := hw.kept hF.drew (by simp)
    have HB := Lib.hid hB
    clear hB
    have hsrc : Bytes w0.drew (some ⟨b, off, .none⟩) (n - 30) (fun j => f (off + 30 + j)) := ⟨fun j => hwd1.byte _, .inl (by have := Hho.out; omega)⟩
    have hF0 : Fresh w w0.drew := hF.drew
    have hsz : w.heap.size < w0.heap.size := by
      have := HB.out
      by_cases h : w.heap.size < w0.heap.size
      · exact h
      · rw [Array.getElem?_eq_none (by omega)] at this; simp at this
    clear hF
    go_region_held3 (fun _ => True) (trivial) (first
      | (go_at_call 57; refine (num_any b _ _ _ T N f _ (by omega) hwd1 (by have := Hho.out; omega)).mono ?_; rintro e w' ⟨rfl, rfl⟩)
      | (go_at_call 50; refine (clone_some _ (n - 30) _ _ _ hsrc (by have := Hho.out; omega)).mono ?_; rintro e w1 ⟨a1, c', rfl, hby, hnew, hF1⟩; (
          have hB1 := (hF1.block w.heap.size hsz (by simp)).trans HB.out
          have c0 := boxCell hB1 0
          have c1 := boxCell hB1 1
          have c2 := boxCell hB1 2
          have c3 := boxCell hB1 3
          have c4 := boxCell hB1 4
          have c5 := boxCell hB1 5
          simp only [List.getElem?_toArray, List.getElem?_cons_zero, List.getElem?_cons_succ] at c0 c1 c2 c3 c4 c5
          have z0 := boxFree hB1 0
          have z1 := boxFree hB1 1
          have z2 := boxFree hB1 2
          have z3 := boxFree hB1 3
          have z4 := boxFree hB1 4
          have z5 := boxFree hB1 5
          have HH := Lib.hid (And.intro hB1 (And.intro hby (And.intro hnew (hF0.trans hF1))))
          clear hB1 hby hnew hF1)))
    obtain ⟨hB1, hby, hnew, hF1⟩ := HH.out
    have hB2 := setBox (setBox (setBox (setBox (setBox (setBox hB1 0 (.int .u64 (le f off 8))) 1 (.int .u64 (le f (off + 8) 8))) 2 (.int .u64 (le f (off + 16) 8))) 3 (.int .i64 ((le f (off + 24) 4 : Int) - 1))) 4 (.int .i64 ((le f (off + 28) 2 : Int) - 1))) 5 (.slice (some a1) (n - 30) c')
    have hK : Kept (fun k => k = w.heap.size) w1 _ := ((((((Kept.refl (fun k => k = w.heap.size) w1).setCell (p := ⟨w.heap.size, 0, .none⟩) (fun _ => rfl) (.int .u64 (le f off 8))).setCell (p := ⟨w.heap.size, 1, .none⟩) (fun _ => rfl) (.int .u64 (le f (off + 8) 8))).setCell (p := ⟨w.heap.size, 2, .none⟩) (fun _ => rfl) (.int .u64 (le f (off + 16) 8))).setCell (p := ⟨w.heap.size, 3, .none⟩) (fun _ => rfl) (.int .i64 ((le f (off + 24) 4 : Int) - 1))).setCell (p := ⟨w.heap.size, 4, .none⟩) (fun _ => rfl) (.int .i64 ((le f (off + 28) 2 : Int) - 1))).setCell (p := ⟨w.heap.size, 5, .none⟩) (fun _ => rfl) (.slice (some a1) (n - 30) c')
    clear hB1 c0 c1 c2 c3 c4 c5 z0 z1 z2 z3 z4 z5 HH
    generalize ((((((w1.setCell ⟨w.heap.size, 0, .none⟩ (.int .u64 (le f off 8))).setCell ⟨w.heap.size, 1, .none⟩ (.int .u64 (le f (off + 8) 8))).setCell ⟨w.heap.size, 2, .none⟩ (.int .u64 (le f (off + 16) 8))).setCell ⟨w.heap.size, 3, .none⟩ (.int .i64 ((le f (off + 24) 4 : Int) - 1))).setCell ⟨w.heap.size, 4, .none⟩ (.int .i64 ((le f (off + 28) 2 : Int) - 1))).setCell ⟨w.heap.size, 5, .none⟩ (.slice (some a1) (n - 30) c')) = w6 at hB2 hK ⊢
    have hby6 := hby.kept hK (fun x hx => by cases hx; have := hnew.1; have : w0.drew.heap.size = w0.heap.size := rfl; omega)
    have hF6 : Fresh w w6 := hF1.then hK fun i hi e => by omega
    have hne : a1.block ≠ w.heap.size := by have := hnew.1; have : w0.drew.heap.size = w0.heap.size := rfl; omega
    have hth : a1.spot = none ∧ a1.block < w6.heap.size ∧ ∀ j, w6.frozen? ⟨a1.block, j, none⟩ = false := ⟨hnew.2.1, Nat.lt_of_lt_of_le hnew.2.2.1 hK.size, fun j => (hK.frozen (p := ⟨a1.block, j, none⟩) hnew.2.2.1 hne).trans (hnew.2.2.2 j)⟩
    have c0 := boxCell hB2 0
    have c1 := boxCell hB2 1
    have c2 := boxCell hB2 2
    have c3 := boxCell hB2 3
    have c4 := boxCell hB2 4
    have c5 := boxCell hB2 5
    simp only [List.getElem?_toArray, List.setIfInBounds_toArray, List.set_cons_zero, List.set_cons_succ, List.getElem?_cons_zero, List.getElem?_cons_succ] at c0 c1 c2 c3 c4 c5
    have HH := Lib.hid (And.intro hby6 (And.intro hF6 (And.intro hth hnew.1)))
    clear hB2 hK hby hF1 hby6 hF6 hsrc hF0 q1 q2 q3 q4 hth hnew hne
    go_wp2_with fail
    refine bodyPost_ret (v := tupV (le f off 8) (le f (off + 8) 8) (le f (off + 16) 8) ((le f (off + 24) 4 : Int) - 1) ((le f (off + 28) 2 : Int) - 1) (.slice (some a1) (n - 30) c')) ?_ rfl ⟨a1, c', rfl, HH.out.1, ?_, HH.out.2.2.1, HH.out.2.1⟩
    · simp [results, Try.results47, go_sem, c0, c1, c2, c3, c4, c5]
    · have := HH.out.2.2.2; have : w0.drew.heap.size = w0.heap.size := rfl; omega
  · skip
    go_enter Try.func47, Try.ntmps47
    go_wp2_with fail
    have hF : Fresh w (w.alloc (Obj.cells #[.int .u64 0, .int .u64 0, .int .u64 0, .int .i64 0, .int .i64 0, .slice none 0 0] 29)) := ((Kept.refl (fun _ => False) w).alloc _)
    have hB := alloc_at w (Obj.cells #[.int .u64 0, .int .u64 0, .int .u64 0, .int .i64 0, .int .i64 0, .slice none 0 0] 29)
    generalize w.alloc (Obj.cells #[.int .u64 0, .int .u64 0, .int .u64 0, .int .i64 0, .int .i64 0, .slice none 0 0] 29) = w0 at hF hB ⊢
    have hwd1 : Byt w0.drew b T N f := hw.kept hF.drew (by simp)
    have HB := Lib.hid hB
    clear hB
    have hsrc : Bytes w0.drew (some ⟨b, off + 30, .none⟩) (n - 30) _ := hwd1.bytes (off + 30) (n - 30) (by have := Hho.out; omega)
    have hF0 : Fresh w w0.drew := hF.drew
    have hsz : w.heap.size < w0.heap.size := by
      have := HB.out
      by_cases h : w.heap.size < w0.heap.size
      · exact h
      · rw [Array.getElem?_eq_none (by omega)] at this; simp at this
    clear hF
    go_region_held3 (fun _ => True) (trivial) (first
      | (go_at_call 57; refine (num_any b _ _ _ T N f _ (by omega) hwd1 (by have := Hho.out; omega)).mono ?_; rintro e w' ⟨rfl, rfl⟩)
      | (go_at_call 50; refine (clone_some _ (n - 30) _ _ _ hsrc (by have := Hho.out; omega)).mono ?_; rintro e w1 ⟨a1, c', rfl, hby, hnew, hF1⟩; (
          have hB1 := (hF1.block w.heap.size hsz (by simp)).trans HB.out
          have c0 := boxCell hB1 0
          have c1 := boxCell hB1 1
          have c2 := boxCell hB1 2
          have c3 := boxCell hB1 3
          have c4 := boxCell hB1 4
          have c5 := boxCell hB1 5
          simp only [List.getElem?_toArray, List.getElem?_cons_zero, List.getElem?_cons_succ] at c0 c1 c2 c3 c4 c5
          have z0 := boxFree hB1 0
          have z1 := boxFree hB1 1
          have z2 := boxFree hB1 2
          have z3 := boxFree hB1 3
          have z4 := boxFree hB1 4
          have z5 := boxFree hB1 5
          have HH := Lib.hid (And.intro hB1 (And.intro hby (And.intro hnew (hF0.trans hF1))))
          clear hB1 hby hnew hF1)))
    obtain ⟨hB1, hby, hnew, hF1⟩ := HH.out
    have hB2 := setBox (setBox (setBox (setBox (setBox (setBox hB1 0 (.int .u64 (le f off 8))) 1 (.int .u64 (le f (off + 8) 8))) 2 (.int .u64 (le f (off + 16) 8))) 3 (.int .i64 ((le f (off + 24) 4 : Int) - 1))) 4 (.int .i64 ((le f (off + 28) 2 : Int) - 1))) 5 (.slice (some a1) (n - 30) c')
    have hK : Kept (fun k => k = w.heap.size) w1 _ := ((((((Kept.refl (fun k => k = w.heap.size) w1).setCell (p := ⟨w.heap.size, 0, .none⟩) (fun _ => rfl) (.int .u64 (le f off 8))).setCell (p := ⟨w.heap.size, 1, .none⟩) (fun _ => rfl) (.int .u64 (le f (off + 8) 8))).setCell (p := ⟨w.heap.size, 2, .none⟩) (fun _ => rfl) (.int .u64 (le f (off + 16) 8))).setCell (p := ⟨w.heap.size, 3, .none⟩) (fun _ => rfl) (.int .i64 ((le f (off + 24) 4 : Int) - 1))).setCell (p := ⟨w.heap.size, 4, .none⟩) (fun _ => rfl) (.int .i64 ((le f (off + 28) 2 : Int) - 1))).setCell (p := ⟨w.heap.size, 5, .none⟩) (fun _ => rfl) (.slice (some a1) (n - 30) c')
    clear hB1 c0 c1 c2 c3 c4 c5 z0 z1 z2 z3 z4 z5 HH
    generalize ((((((w1.setCell ⟨w.heap.size, 0, .none⟩ (.int .u64 (le f off 8))).setCell ⟨w.heap.size, 1, .none⟩ (.int .u64 (le f (off + 8) 8))).setCell ⟨w.heap.size, 2, .none⟩ (.int .u64 (le f (off + 16) 8))).setCell ⟨w.heap.size, 3, .none⟩ (.int .i64 ((le f (off + 24) 4 : Int) - 1))).setCell ⟨w.heap.size, 4, .none⟩ (.int .i64 ((le f (off + 28) 2 : Int) - 1))).setCell ⟨w.heap.size, 5, .none⟩ (.slice (some a1) (n - 30) c')) = w6 at hB2 hK ⊢
    have hby6 := hby.kept hK (fun x hx => by cases hx; have := hnew.1; have : w0.drew.heap.size = w0.heap.size := rfl; omega)
    have hF6 : Fresh w w6 := hF1.then hK fun i hi e => by omega
    have hne : a1.block ≠ w.heap.size := by have := hnew.1; have : w0.drew.heap.size = w0.heap.size := rfl; omega
    have hth : a1.spot = none ∧ a1.block < w6.heap.size ∧ ∀ j, w6.frozen? ⟨a1.block, j, none⟩ = false := ⟨hnew.2.1, Nat.lt_of_lt_of_le hnew.2.2.1 hK.size, fun j => (hK.frozen (p := ⟨a1.block, j, none⟩) hnew.2.2.1 hne).trans (hnew.2.2.2 j)⟩
    have c0 := boxCell hB2 0
    have c1 := boxCell hB2 1
    have c2 := boxCell hB2 2
    have c3 := boxCell hB2 3
    have c4 := boxCell hB2 4
    have c5 := boxCell hB2 5
    simp only [List.getElem?_toArray, List.setIfInBounds_toArray, List.set_cons_zero, List.set_cons_succ, List.getElem?_cons_zero, List.getElem?_cons_succ] at c0 c1 c2 c3 c4 c5
    have HH := Lib.hid (And.intro hby6 (And.intro hF6 (And.intro hth hnew.1)))
    clear hB2 hK hby hF1 hby6 hF6 hsrc hF0 q1 q2 q3 q4 hth hnew hne
    go_wp2_with fail
    refine bodyPost_ret (v := tupV (le f off 8) (le f (off + 8) 8) (le f (off + 16) 8) ((le f (off + 24) 4 : Int) - 1) ((le f (off + 28) 2 : Int) - 1) (.slice (some a1) (n - 30) c')) ?_ rfl ⟨a1, c', rfl, HH.out.1, ?_, HH.out.2.2.1, HH.out.2.1⟩
    · simp [results, Try.results47, go_sem, c0, c1, c2, c3, c4, c5]
    · have := HH.out.2.2.2; have : w0.drew.heap.size = w0.heap.size := rfl; omega
end Go.Proofs.Ytffbfgmhfnbmfaa
