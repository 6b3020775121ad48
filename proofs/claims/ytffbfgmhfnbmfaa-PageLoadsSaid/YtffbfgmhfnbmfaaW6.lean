/- The walks of Get, Bytes and Stamp. -/
import Derived.Test.YtffbfgmhfnbmfaaW5
import Derived.Test.YtffbfgmhfnbmfaaPm
namespace Go.Proofs.Ytffbfgmhfnbmfaa
open Go.RowKit

/-- The zero version. -/
abbrev tup0 : Value := .agg #[.int .u64 0, .int .u64 0, .int .u64 0, .int .i64 0, .int .i64 0, .slice none 0 0]

def zero29 : Array Value := #[.int .u64 0, .int .u64 0, .int .u64 0, .int .i64 0, .int .i64 0, .slice none 0 0]

def NoGet (w : World) (e : Ending) (w' : World) : Prop := e = .returned (.tuple #[tup0, .bool false]) ∧ Fresh w w'

/-- A version stored into its box. -/
def store6 (w : World) (b : Nat) (v0 v1 v2 v3 v4 v5 : Value) : World :=
  (((((w.setCell ⟨b, 0, none⟩ v0).setCell ⟨b, 1, none⟩ v1).setCell ⟨b, 2, none⟩ v2).setCell ⟨b, 3, none⟩ v3).setCell ⟨b, 4, none⟩ v4).setCell ⟨b, 5, none⟩ v5

theorem store6_box {w : World} {b : Nat} {u0 u1 u2 u3 u4 u5 : Value} {t : TypeId} (h : w.heap[b]? = some (.cells #[u0, u1, u2, u3, u4, u5] t)) (v0 v1 v2 v3 v4 v5 : Value) :
    (store6 w b v0 v1 v2 v3 v4 v5).heap[b]? = some (.cells #[v0, v1, v2, v3, v4, v5] t) := by
  have := setBox (setBox (setBox (setBox (setBox (setBox h 0 v0) 1 v1) 2 v2) 3 v3) 4 v4) 5 v5
  simpa [store6] using this

theorem store6_kept (w : World) (b : Nat) (v0 v1 v2 v3 v4 v5 : Value) : Kept (· = b) w (store6 w b v0 v1 v2 v3 v4 v5) :=
  ((((((Kept.refl (fun k => k = b) w).setCell (p := ⟨b, 0, none⟩) (fun _ => rfl) v0).setCell (p := ⟨b, 1, none⟩) (fun _ => rfl) v1).setCell (p := ⟨b, 2, none⟩) (fun _ => rfl) v2).setCell (p := ⟨b, 3, none⟩) (fun _ => rfl) v3).setCell (p := ⟨b, 4, none⟩) (fun _ => rfl) v4).setCell (p := ⟨b, 5, none⟩) (fun _ => rfl) v5

structure Box6 (w : World) (b : Nat) (t : TypeId) (v0 v1 v2 v3 v4 v5 : Value) : Prop where
  c0 : w.cell? ⟨b, 0, none⟩ = some v0
  c1 : w.cell? ⟨b, 1, none⟩ = some v1
  c2 : w.cell? ⟨b, 2, none⟩ = some v2
  c3 : w.cell? ⟨b, 3, none⟩ = some v3
  c4 : w.cell? ⟨b, 4, none⟩ = some v4
  c5 : w.cell? ⟨b, 5, none⟩ = some v5
  z : ∀ i, w.frozen? ⟨b, i, none⟩ = false

theorem Box6.of {w : World} {b : Nat} {v0 v1 v2 v3 v4 v5 : Value} {t : TypeId} (h : w.heap[b]? = some (.cells #[v0, v1, v2, v3, v4, v5] t)) : Box6 w b t v0 v1 v2 v3 v4 v5 :=
  ⟨boxCell h 0, boxCell h 1, boxCell h 2, boxCell h 3, boxCell h 4, boxCell h 5, boxFree h⟩

set_option maxRecDepth 100000 in
set_option maxHeartbeats 1000000 in
theorem get_no (p : Option Addr) (k : Int) (w : World) (h : ∀ w, Calls Try.prog 44 #[.pointer p, .int .i64 k] w (Quiet (.slice none 0 0) w)) :
    Calls Try.prog 19 #[.pointer p, .int .i64 k] w (NoGet w) := by
  have hnil := isnil
  have H := Lib.hid h
  clear h
  go_enter Try.func19, Try.ntmps19
  go_wp2_with fail
  refine (H.out _).mono ?_
  rintro e w1 ⟨rfl, m, rfl⟩
  go_wp2_with fail
  have hB := alloc_at w (.cells #[.int .u64 0, .int .u64 0, .int .u64 0, .int .i64 0, .int .i64 0, .slice none 0 0] 29)
  have hF : Fresh w ((w.alloc (.cells #[.int .u64 0, .int .u64 0, .int .u64 0, .int .i64 0, .int .i64 0, .slice none 0 0] 29)).drewN m) := ((Kept.refl (fun _ => False) w).alloc _).drewN m
  have hB' : ((w.alloc (.cells #[.int .u64 0, .int .u64 0, .int .u64 0, .int .i64 0, .int .i64 0, .slice none 0 0] 29)).drewN m).heap[w.heap.size]? = some (.cells #[.int .u64 0, .int .u64 0, .int .u64 0, .int .i64 0, .int .i64 0, .slice none 0 0] 29) := hB
  generalize (w.alloc (.cells #[.int .u64 0, .int .u64 0, .int .u64 0, .int .i64 0, .int .i64 0, .slice none 0 0] 29)).drewN m = w1 at hB' hF ⊢
  have hB6 := store6_box hB' (.int .u64 0) (.int .u64 0) (.int .u64 0) (.int .i64 0) (.int .i64 0) (.slice none 0 0)
  have hK6 := hF.then (store6_kept w1 w.heap.size (.int .u64 0) (.int .u64 0) (.int .u64 0) (.int .i64 0) (.int .i64 0) (.slice none 0 0)) fun i hi e => by omega
  change bodyPost _ _ _ _ _ (store6 w1 w.heap.size (.int .u64 0) (.int .u64 0) (.int .u64 0) (.int .i64 0) (.int .i64 0) (.slice none 0 0))
  generalize store6 w1 w.heap.size (.int .u64 0) (.int .u64 0) (.int .u64 0) (.int .i64 0) (.int .i64 0) (.slice none 0 0) = w6 at hB6 hK6 ⊢
  have X := Box6.of hB6
  refine bodyPost_ret (v := .tuple #[tup0, .bool false]) ?_ rfl ⟨rfl, hK6⟩
  simp [results, Try.results19, go_sem, X.c0, X.c1, X.c2, X.c3, X.c4, X.c5]

/-- What Get tells of the bytes from o on. -/
def GetPost (f : Nat → Nat) (o n : Nat) (w : World) (e : Ending) (w' : World) : Prop :=
  ∃ a c, e = .returned (.tuple #[tupV (le f o 8) (le f (o + 8) 8) (le f (o + 16) 8) ((le f (o + 24) 4 : Int) - 1) ((le f (o + 28) 2 : Int) - 1) (.slice (some a) (n - 30) c), .bool true]) ∧
    Bytes w' (some a) (n - 30) (fun j => f (o + 30 + j)) ∧ w.heap.size ≤ a.block ∧ (a.spot = none ∧ a.block < w'.heap.size ∧ ∀ j, w'.frozen? ⟨a.block, j, none⟩ = false) ∧ Fresh w w'

set_option maxRecDepth 100000 in
set_option maxHeartbeats 1000000 in
theorem get_yes (b k : Nat) (f : Nat → Nat) (w : World) (hw : Byt w b 75 512 f) (hf : Fits f) (hh : hasB f k = true) (h30 : 30 ≤ siz f k) :
    Calls Try.prog 19 #[.pointer (some ⟨b, 0, none⟩), .int .i64 k] w (GetPost f (frm f k) (siz f k) w) := by
  have hnil := isnil
  have hV := bytV_has (b := b) hh
  have hfit : frm f k + siz f k ≤ 512 := hf.fit k (by unfold hasB at hh; simp at hh; exact hh.1)
  have H := Lib.hid (And.intro hV (And.intro hfit h30))
  clear hV hfit h30 hh
  go_enter Try.func19, Try.ntmps19
  go_wp2_with fail
  refine (bytesOf_any b k f _ (hw.kept ((Kept.refl (fun _ => False) w).alloc _) (by simp)) hf).mono ?_
  rintro e w1 ⟨rfl, m, rfl⟩
  rw [H.out.1]
  have hB := alloc_at w (.cells #[.int .u64 0, .int .u64 0, .int .u64 0, .int .i64 0, .int .i64 0, .slice none 0 0] 29)
  have hF : Fresh w ((w.alloc (.cells #[.int .u64 0, .int .u64 0, .int .u64 0, .int .i64 0, .int .i64 0, .slice none 0 0] 29)).drewN m) := ((Kept.refl (fun _ => False) w).alloc _).drewN m
  have hB' : ((w.alloc (.cells #[.int .u64 0, .int .u64 0, .int .u64 0, .int .i64 0, .int .i64 0, .slice none 0 0] 29)).drewN m).heap[w.heap.size]? = some (.cells #[.int .u64 0, .int .u64 0, .int .u64 0, .int .i64 0, .int .i64 0, .slice none 0 0] 29) := hB
  have hsz : w.heap.size < ((w.alloc (.cells #[.int .u64 0, .int .u64 0, .int .u64 0, .int .i64 0, .int .i64 0, .slice none 0 0] 29)).drewN m).heap.size := by
    show w.heap.size < (w.alloc (.cells #[.int .u64 0, .int .u64 0, .int .u64 0, .int .i64 0, .int .i64 0, .slice none 0 0] 29)).heap.size
    simp
  generalize (w.alloc (.cells #[.int .u64 0, .int .u64 0, .int .u64 0, .int .i64 0, .int .i64 0, .slice none 0 0] 29)).drewN m = w1 at hB' hF hsz ⊢
  have HB := Lib.hid (And.intro hB' (And.intro hF hsz))
  have hw1 := hw.kept hF (by simp)
  clear hB hB' hF hsz
  go_wp2_with fail
  refine (unpack_any b (frm f k) (siz f k) (512 - frm f k) 75 512 f _ hw1 H.out.2.2 (by have := H.out.2; omega) H.out.2.1 (by omega)).mono ?_
  rintro e w2 ⟨a, c, rfl, hby, hlt, hsp, hF2⟩
  obtain ⟨hB', hF, hsz⟩ := HB.out
  have hB2 := (hF2.block w.heap.size hsz (by simp)).trans hB'
  have X := Box6.of hB2
  have c0 := X.c0
  have c1 := X.c1
  have c2 := X.c2
  have c3 := X.c3
  have c4 := X.c4
  have c5 := X.c5
  have z0 := X.z 0
  have z1 := X.z 1
  have z2 := X.z 2
  have z3 := X.z 3
  have z4 := X.z 4
  have z5 := X.z 5
  have HH := Lib.hid (And.intro hB2 (And.intro (hF.trans hF2) (And.intro hby (And.intro hsp (show w.heap.size < a.block by omega)))))
  clear X hB2 hF2 hB' hF hby hsp hsz hlt
  go_wp2_with fail
  obtain ⟨hB2, hF2, hby, hsp, hlt⟩ := HH.out
  have hB6 := store6_box hB2 (.int .u64 (le f (frm f k) 8)) (.int .u64 (le f (frm f k + 8) 8)) (.int .u64 (le f (frm f k + 16) 8)) (.int .i64 ((le f (frm f k + 24) 4 : Int) - 1)) (.int .i64 ((le f (frm f k + 28) 2 : Int) - 1)) (.slice (some a) (siz f k - 30) c)
  have hS := store6_kept w2 w.heap.size (.int .u64 (le f (frm f k) 8)) (.int .u64 (le f (frm f k + 8) 8)) (.int .u64 (le f (frm f k + 16) 8)) (.int .i64 ((le f (frm f k + 24) 4 : Int) - 1)) (.int .i64 ((le f (frm f k + 28) 2 : Int) - 1)) (.slice (some a) (siz f k - 30) c)
  have hK6 := hF2.then hS fun i hi e => by omega
  have hby6 := hby.kept hS (fun x hx => by cases hx; omega)
  have hsp6 : a.spot = none ∧ a.block < (store6 w2 w.heap.size (.int .u64 (le f (frm f k) 8)) (.int .u64 (le f (frm f k + 8) 8)) (.int .u64 (le f (frm f k + 16) 8)) (.int .i64 ((le f (frm f k + 24) 4 : Int) - 1)) (.int .i64 ((le f (frm f k + 28) 2 : Int) - 1)) (.slice (some a) (siz f k - 30) c)).heap.size ∧ ∀ j, (store6 w2 w.heap.size (.int .u64 (le f (frm f k) 8)) (.int .u64 (le f (frm f k + 8) 8)) (.int .u64 (le f (frm f k + 16) 8)) (.int .i64 ((le f (frm f k + 24) 4 : Int) - 1)) (.int .i64 ((le f (frm f k + 28) 2 : Int) - 1)) (.slice (some a) (siz f k - 30) c)).frozen? ⟨a.block, j, none⟩ = false := ⟨hsp.1, Nat.lt_of_lt_of_le hsp.2.1 hS.size, fun j => (hS.frozen (p := ⟨a.block, j, none⟩) hsp.2.1 (by show a.block ≠ w.heap.size; omega)).trans (hsp.2.2 j)⟩
  change bodyPost _ _ _ _ _ (store6 w2 w.heap.size (.int .u64 (le f (frm f k) 8)) (.int .u64 (le f (frm f k + 8) 8)) (.int .u64 (le f (frm f k + 16) 8)) (.int .i64 ((le f (frm f k + 24) 4 : Int) - 1)) (.int .i64 ((le f (frm f k + 28) 2 : Int) - 1)) (.slice (some a) (siz f k - 30) c))
  generalize store6 w2 w.heap.size (.int .u64 (le f (frm f k) 8)) (.int .u64 (le f (frm f k + 8) 8)) (.int .u64 (le f (frm f k + 16) 8)) (.int .i64 ((le f (frm f k + 24) 4 : Int) - 1)) (.int .i64 ((le f (frm f k + 28) 2 : Int) - 1)) (.slice (some a) (siz f k - 30) c) = w6 at hB6 hK6 hby6 hsp6 ⊢
  clear c0 c1 c2 c3 c4 c5 z0 z1 z2 z3 z4 z5
  have X := Box6.of hB6
  refine bodyPost_ret (v := .tuple #[tupV (le f (frm f k) 8) (le f (frm f k + 8) 8) (le f (frm f k + 16) 8) ((le f (frm f k + 24) 4 : Int) - 1) ((le f (frm f k + 28) 2 : Int) - 1) (.slice (some a) (siz f k - 30) c), .bool true]) ?_ rfl ⟨a, c, rfl, hby6, by omega, hsp6, hK6⟩
  simp [results, Try.results19, go_sem, X.c0, X.c1, X.c2, X.c3, X.c4, X.c5]

end Go.Proofs.Ytffbfgmhfnbmfaa
