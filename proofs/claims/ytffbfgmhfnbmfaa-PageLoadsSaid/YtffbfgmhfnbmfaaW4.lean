/- The walks of what makes bytes: pack, Clone, unpack. -/
import Derived.Test.YtffbfgmhfnbmfaaW3
import Derived.Test.YtffbfgmhfnbmfaaBa
import Derived.StillTailTactics
namespace Go.Proofs.Ytffbfgmhfnbmfaa
open Go.RowKit

theorem info5 : (Try.prog.info? 5).map (fun i => (i.zero, i.size, i.bytes)) = some (some (.int .u8 0), 1, 1) := by kernel_rfl

def made (n : Nat) : Array Value := madeCells #[.int .u8 0] n

theorem run_make30 (w : World) : (Instr.makeSlice 22 (.int .i64 30) (.int .i64 30)).run Try.prog w = .ok (.slice (some ⟨w.heap.size, 0, none⟩) 30 30) (w.alloc (.cells (made 30) 5)) :=
  run_make_row' 22 5 (.int .u8 0) 1 und22 info5 rfl .i64 .i64 30 (by decide) (by decide) w

theorem made_byt (w : World) (n : Nat) : Byt (w.alloc (.cells (made n) 5)) w.heap.size 5 n fun _ => 0 :=
  ⟨World.rowIs_made w (.int .u8 0) n 5, fun _ => by omega⟩

theorem Byt.alloc {w : World} {b t n : Nat} {f : Nat → Nat} (h : Byt w b t n f) (o : Obj) : Byt (w.alloc o) b t n f := ⟨h.row.alloc o, h.byte⟩

/-- A region that draws its order: n operations that only read, then a tail in one order. -/
theorem stillTail {P : Program} {id : Nat} {Q : Exit → Act → World → Prop} {a : Act} {w : World} {l : List Oper} (n : Nat) (hm : P.follows .mixedOrders = true) (hB : Region.lexTailB .any l.toArray n = true)
    (h : ∀ w', Fresh w w' ∧ w'.heap.size = w.heap.size → wpStill P l.toArray w' (fun a' => wpList P l.toArray Q (l.drop n) a' w') (l.take n) a) : (Code.region id l.toArray true).wp P Q a w :=
  wp_region_still_tail n hm hB (h _ ⟨(Kept.refl _ w).drew, rfl⟩)

theorem boxCell {w : World} {b : Nat} {cs : Array Value} {t : TypeId} {z : Nat × Nat} (h : w.heap[b]? = some (.cells cs t z)) (i : Nat) : w.cell? ⟨b, i, none⟩ = cs[i]? := by
  simp [World.cell?, h]

theorem alloc_at (w : World) (o : Obj) : (w.alloc o).heap[w.heap.size]? = some o := by
  show (w.heap.push o)[w.heap.size]? = _
  simp

/-- The boxed version at H, the bytes at H + 1; nothing else has turned. -/
structure PackSt (w wd : World) (cs : Array Value) (f : Nat → Nat) : Prop where
  box : wd.heap[w.heap.size]? = some (.cells cs 29)
  byt : Byt wd (w.heap.size + 1) 5 30 f
  keep : Fresh w wd

theorem PackSt.draw {w wd wd' : World} {cs : Array Value} {f : Nat → Nat} (h : PackSt w wd cs f) (k : Fresh wd wd' ∧ wd'.heap.size = wd.heap.size) : PackSt w wd' cs f :=
  ⟨(k.1.block _ (by have := h.byt.blk; omega) (by simp)).trans h.box, h.byt.kept k.1 (by simp), h.keep.trans k.1⟩

theorem PackSt.put {w wd wd' : World} {cs : Array Value} {f g : Nat → Nat} (h : PackSt w wd cs f) (hb : Byt wd' (w.heap.size + 1) 5 30 g) (k : Kept (· = w.heap.size + 1) wd wd') : PackSt w wd' cs g :=
  ⟨(k.block _ (by have := h.byt.blk; omega) (by simp)).trans h.box, hb, h.keep.then k fun i hi e => by omega⟩

theorem PackSt.start (w : World) (cs : Array Value) : PackSt w ((w.alloc (.cells cs 29)).alloc (.cells (made 30) 5)) cs fun _ => 0 := by
  have hs0 : (w.alloc (.cells cs 29)).heap.size = w.heap.size + 1 := by simp
  have hY := made_byt (w.alloc (.cells cs 29)) 30
  rw [hs0] at hY
  have hA := (Kept.refl (fun _ => False) (w.alloc (.cells cs 29))).alloc (Obj.cells (made 30) 5)
  exact ⟨(hA.block _ (by simp) (by simp)).trans (alloc_at _ _), hY, ((Kept.refl _ w).alloc _).trans hA⟩

/-- The bytes of a version's head. -/
def head (r x y P S : Nat) : Nat → Nat := lay (lay (lay (lay (lay (fun _ => 0) 0 r 8) 8 x 8) 16 y 8) 24 P 4) 28 S 2

def PackPost (r x y P S n : Nat) (d : Nat → Nat) (w : World) (e : Ending) (w' : World) : Prop :=
  ∃ b c N, e = .returned (.slice (some ⟨b, 0, none⟩) (30 + n) c) ∧ w.heap.size ≤ b ∧ 30 + n ≤ N ∧ Byt w' b 5 N (fun i => if i < 30 then head r x y P S i else if i < 30 + n then d (i - 30) else 0) ∧ Fresh w w'

theorem head_lt (r x y P S i : Nat) : head r x y P S i < 256 := lay_lt (fun _ => lay_lt (fun _ => lay_lt (fun _ => lay_lt (fun _ => lay_lt (fun _ => by omega) _ _ _ _) _ _ _ _) _ _ _ _) _ _ _ _) _ _ _ _

theorem packed_lt (r x y P S n : Nat) {d : Nat → Nat} (hd : ∀ j, d j < 256) (i : Nat) : (if i < 30 then head r x y P S i else if i < 30 + n then d (i - 30) else 0) < 256 := by
  by_cases h1 : i < 30
  · rw [if_pos h1]; exact head_lt _ _ _ _ _ _
  · rw [if_neg h1]
    by_cases h2 : i < 30 + n
    · rw [if_pos h2]; exact hd _
    · rw [if_neg h2]; omega

theorem wrap_i64 (n : Nat) (h : n ≤ 1099511627776) : IntKind.i64.wrap (n : Int) = n := by
  simp only [IntKind.wrap, IntKind.bits, IntKind.signed]; simp; omega
theorem wrap_u64 (n : Nat) (h : n ≤ 1099511627776) : IntKind.u64.wrap (n : Int) = n := by
  simp only [IntKind.wrap, IntKind.bits, IntKind.signed]; simp; omega

set_option maxRecDepth 100000 in
set_option maxHeartbeats 1000000 in
theorem pack_any (r x y P S : Nat) (a : Option Addr) (n c : Nat) (d : Nat → Nat) (w : World) (hr : r ≤ 1099511627776) (hx : x ≤ 1099511627776) (hy : y ≤ 1099511627776) (hP : P ≤ 65536) (hS : S ≤ 65535)
    (hd : Bytes w a n d) (hn : n ≤ 1000) :
    Calls Try.prog 39 #[tupV r x y ((P : Int) - 1) ((S : Int) - 1) (.slice a n c)] w (PackPost r x y P S n d w) := by
  have hmk := run_make30
  have H0 := PackSt.start w #[.int .u64 r, .int .u64 x, .int .u64 y, .int .i64 ((P : Int) - 1), .int .i64 ((S : Int) - 1), .slice a n c]
  have wP1 : IntKind.i64.wrap (P : Int) = P := wrap_i64 P (by omega)
  have wP2 : IntKind.u64.wrap (P : Int) = P := wrap_u64 P (by omega)
  have wP3 : IntKind.i64.wrap (S : Int) = S := wrap_i64 S (by omega)
  have wP4 : IntKind.u64.wrap (S : Int) = S := wrap_u64 S (by omega)
  have Hn := Lib.hid hn
  have Hr := Lib.hid (And.intro hr (And.intro hx hy))
  clear hn hr hx hy
  go_enter Try.func39, Try.ntmps39
  go_wp2_with fail
  refine stillTail 4 (by kernel_rfl) (by kernel_rfl) fun wd hwd => ?_
  generalize (w.alloc (.cells #[.int .u64 r, .int .u64 x, .int .u64 y, .int .i64 ((P : Int) - 1), .int .i64 ((S : Int) - 1), .slice a n c] 29)).alloc (Obj.cells (made 30) 5) = w0 at hwd H0
  have H1 := H0.draw hwd
  have hc := boxCell H1.box 0
  simp only [List.getElem?_toArray, List.getElem?_cons_zero] at hc
  clear hwd H0
  simp only [List.take_succ_cons, List.take_zero, List.drop_succ_cons, List.drop_zero]
  repeat still_step
  refine wpStill_nil ?_
  go_wp2_with fail
  refine (put_any _ 0 8 _ 5 30 _ r _ (by omega) (by have := Hr.out; omega) H1.byt (by omega)).mono ?_
  rintro e w1 ⟨rfl, hb1, hz1, hk1⟩
  have H2 := H1.put hb1 hk1
  clear hb1 hz1 hk1 H1 hc
  go_wp2_with fail
  refine stillTail 4 (by kernel_rfl) (by kernel_rfl) fun wd hwd => ?_
  have H3 := H2.draw hwd
  have hc := boxCell H3.box 1
  simp only [List.getElem?_toArray, List.getElem?_cons_zero, List.getElem?_cons_succ] at hc
  clear hwd H2
  simp only [List.take_succ_cons, List.take_zero, List.drop_succ_cons, List.drop_zero]
  repeat still_step
  refine wpStill_nil ?_
  go_wp2_with fail
  refine (put_any _ 8 8 _ 5 30 _ x _ (by omega) (by have := Hr.out; omega) H3.byt (by omega)).mono ?_
  rintro e w1 ⟨rfl, hb1, hz1, hk1⟩
  have H4 := H3.put hb1 hk1
  clear hb1 hz1 hk1 H3 hc
  go_wp2_with fail
  refine stillTail 4 (by kernel_rfl) (by kernel_rfl) fun wd hwd => ?_
  have H4' := H4.draw hwd
  have hc := boxCell H4'.box 2
  simp only [List.getElem?_toArray, List.getElem?_cons_zero, List.getElem?_cons_succ] at hc
  clear hwd H4
  simp only [List.take_succ_cons, List.take_zero, List.drop_succ_cons, List.drop_zero]
  repeat still_step
  refine wpStill_nil ?_
  go_wp2_with fail
  refine (put_any _ 16 8 _ 5 30 _ y _ (by omega) (by have := Hr.out; omega) H4'.byt (by omega)).mono ?_
  rintro e w1 ⟨rfl, hb1, hz1, hk1⟩
  have H5 := H4'.put hb1 hk1
  clear hb1 hz1 hk1 H4' hc
  go_wp2_with fail
  refine stillTail 7 (by kernel_rfl) (by kernel_rfl) fun wd hwd => ?_
  have H5' := H5.draw hwd
  have hc := boxCell H5'.box 3
  simp only [List.getElem?_toArray, List.getElem?_cons_zero, List.getElem?_cons_succ] at hc
  clear hwd H5
  simp only [List.take_succ_cons, List.take_zero, List.drop_succ_cons, List.drop_zero]
  repeat still_step
  refine wpStill_nil ?_
  go_wp2_with fail
  refine (put_any _ 24 4 _ 5 30 _ P _ (by omega) (by omega) H5'.byt (by omega)).mono ?_
  rintro e w1 ⟨rfl, hb1, hz1, hk1⟩
  have H6 := H5'.put hb1 hk1
  clear hb1 hz1 hk1 H5' hc
  go_wp2_with fail
  refine stillTail 7 (by kernel_rfl) (by kernel_rfl) fun wd hwd => ?_
  have H6' := H6.draw hwd
  have hc := boxCell H6'.box 4
  simp only [List.getElem?_toArray, List.getElem?_cons_zero, List.getElem?_cons_succ] at hc
  clear hwd H6
  simp only [List.take_succ_cons, List.take_zero, List.drop_succ_cons, List.drop_zero]
  repeat still_step
  refine wpStill_nil ?_
  go_wp2_with fail
  refine (put_any _ 28 2 _ 5 30 _ S _ (by omega) (by omega) H6'.byt (by omega)).mono ?_
  rintro e w1 ⟨rfl, hb1, hz1, hk1⟩
  have H7 := H6'.put hb1 hk1
  clear hb1 hz1 hk1 H6' hc
  clear wP1 wP2 wP3 wP4
  have hc := boxCell H7.box 5
  simp only [List.getElem?_toArray, List.getElem?_cons_zero, List.getElem?_cons_succ] at hc
  have hsrc : Bytes w1 a n d := hd.kept H7.keep (by simp)
  by_cases h0 : n = 0
  · subst h0
    obtain ⟨w2, hrun, hb2, hz2, hk2⟩ := append_room (P := Try.prog) 22 22 22 5 und22 und22 info5 (off := 0) (n := 30) (c := 30) (k := c) H7.byt hsrc (by omega) (by omega)
    have H8 := H7.put hb2 hk2
    have Hrun := Lib.hid hrun
    clear hb2 hz2 hk2 H7 hsrc hrun
    go_wp2_with (at_builtin; refine wpList_append_run _ _ rfl rfl Hrun.out ?_)
    go_ret
    exact ⟨_, _, 30, rfl, by omega, by omega, H8.byt.congr (fun i hi => by
      rw [if_neg (by omega), if_pos hi]; rfl) (packed_lt _ _ _ _ _ _ hd.byte), H8.keep⟩
  · obtain ⟨cap, w2, hrun, hcap, hb2, hz2, hk2⟩ := append_grow (P := Try.prog) 22 22 22 5 und22 und22 info5 (n := 30) (c := 30) (k := c) (H7.byt.bytes 0 30 (by omega)) hsrc (by omega) (by have := Hn.out; omega)
    have Hrun := Lib.hid hrun
    clear hrun
    go_wp2_with (at_builtin; refine wpList_append_run _ _ rfl rfl Hrun.out ?_)
    go_ret
    refine ⟨_, _, cap, rfl, H7.keep.size, hcap, hb2.congr (fun i hi => ?_) (packed_lt _ _ _ _ _ _ hd.byte), H7.keep.trans hk2⟩
    unfold joined; simp only [Nat.zero_add]; rfl

/-- bytes.Clone. -/
def ClonePost (a : Option Addr) (n : Nat) (d : Nat → Nat) (w : World) (e : Ending) (w' : World) : Prop :=
  ∃ a' c, e = .returned (.slice a' n c) ∧ (a'.isSome = a.isSome) ∧ Bytes w' a' n d ∧ (∀ x, a' = some x → w.heap.size ≤ x.block ∧ x.spot = none ∧ x.block < w'.heap.size ∧ ∀ j, w'.frozen? ⟨x.block, j, none⟩ = false) ∧ Fresh w w'

set_option maxHeartbeats 1000000 in
theorem clone_any (a : Option Addr) (n c : Nat) (d : Nat → Nat) (w : World) (hd : Bytes w a n d) (hn : n ≤ 140737488355328) (ha : a = none → n = 0) :
    Calls Try.prog 50 #[.slice a n c] w (ClonePost a n d w) := by
  have hnil := isnil
  cases a with
  | none =>
    obtain rfl := ha rfl
    go_enter Try.func50, Try.ntmps50
    go_wp2_with fail
    go_ret
    exact ⟨none, _, rfl, rfl, .none _ _ hd.byte, (fun x hx => by simp at hx), .refl _ _⟩
  | some a =>
    have hA := (Kept.refl (fun _ => False) w).alloc (Obj.cells #[] 5)
    have hd' := hd.kept hA (by simp)
    have hs0 : (w.alloc (.cells #[] 5)).heap.size = w.heap.size + 1 := by simp
    by_cases h0 : n = 0
    · subst h0
      have hE : Byt (w.alloc (.cells #[] 5)) w.heap.size 5 0 fun _ => 0 := ⟨World.rowIs_alloc w #[] 5 _ (fun i hi => by simp at hi), fun _ => by omega⟩
      obtain ⟨w2, hrun, hb2, hz2, hk2⟩ := append_room (P := Try.prog) 22 22 22 5 und22 und22 info5 (off := 0) (n := 0) (c := 0) (k := c) hE hd' (by omega) (by omega)
      have Hrun := Lib.hid hrun
      have Hk := Lib.hid (And.intro hk2 (And.intro hA hb2))
      clear hrun hk2 hz2 hA hs0 hd' hE hb2
      go_enter Try.func50, Try.ntmps50
      go_wp2_with (at_builtin; refine wpList_append_run _ _ rfl rfl Hrun.out ?_)
      go_ret
      obtain ⟨hk2, hA, hb2⟩ := Hk.out
      exact ⟨_, _, rfl, rfl, ⟨hd.byte, .inl rfl⟩, (fun x hx => by cases hx; exact ⟨Nat.le_refl _, rfl, hb2.blk, hb2.frozen⟩), hA.then hk2 fun i hi e => by omega⟩
    · obtain ⟨cap, w2, hrun, hcap, hb2, hz2, hk2⟩ := append_grow (P := Try.prog) 22 22 22 5 und22 und22 info5 (w := w.alloc (.cells #[] 5)) (base := some ⟨w.heap.size, 0, .none⟩) (n := 0) (c := 0) (k := c) (f := fun _ => 0) ⟨fun _ => by omega, .inl rfl⟩ hd' (by omega) (by omega)
      rw [hs0] at hb2
      have Hrun := Lib.hid hrun
      have Hk := Lib.hid (And.intro hk2 (And.intro hA (And.intro hb2 hcap)))
      clear hrun hk2 hz2 hA hs0 hd' hb2 hcap
      go_enter Try.func50, Try.ntmps50
      go_wp2_with (at_builtin; refine wpList_append_run _ _ rfl rfl Hrun.out ?_)
      go_ret
      obtain ⟨hk2, hA, hb2, hcap⟩ := Hk.out
      refine ⟨some ⟨w.heap.size + 1, 0, .none⟩, cap, rfl, rfl, ((hb2.bytes 0 n (by omega)).congr (fun j hj => by unfold joined; rw [if_neg (by omega), if_pos (by omega)]; simp) hd.byte), (fun x hx => by cases hx; exact ⟨Nat.le_succ _, rfl, hb2.blk, hb2.frozen⟩), hA.trans hk2⟩
end Go.Proofs.Ytffbfgmhfnbmfaa
