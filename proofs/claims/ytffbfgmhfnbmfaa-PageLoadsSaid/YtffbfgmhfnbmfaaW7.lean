/- The walks of Stamp and Bytes. -/
import Derived.Test.YtffbfgmhfnbmfaaW6
namespace Go.Proofs.Ytffbfgmhfnbmfaa
open Go.RowKit

/-- bytesOf at whatever slot. -/
def hasI (f : Nat → Nat) (k : Int) : Bool := decide (0 ≤ k) && hasB f k.toNat
def bytI (b : Nat) (f : Nat → Nat) (k : Int) : Value := if hasI f k = true then .slice (some ⟨b, frm f k.toNat, none⟩) (siz f k.toNat) (512 - frm f k.toNat) else .slice none 0 0

theorem bytesOf_int (b : Nat) (k : Int) (f : Nat → Nat) (w : World) (hw : Byt w b 75 512 f) (hf : Fits f) : Calls Try.prog 44 #[.pointer (some ⟨b, 0, none⟩), .int .i64 k] w (Quiet (bytI b f k) w) := by
  by_cases hk : 0 ≤ k
  · obtain ⟨n, rfl⟩ := Int.eq_ofNat_of_zero_le hk
    have e : bytI b f (n : Int) = bytV b f n := by
      unfold bytI bytV hasI
      simp
    rw [e]
    exact bytesOf_any b n f w hw hf
  · have e : bytI b f k = .slice none 0 0 := by
      unfold bytI hasI
      rw [if_neg (by simp [hk])]
    rw [e]
    exact bytesOf_neg b k w (by omega)

theorem bytI_no {b : Nat} {f : Nat → Nat} {k : Int} (h : hasI f k = false) : bytI b f k = .slice none 0 0 := by unfold bytI; rw [if_neg (by simp [h])]
theorem bytI_yes {b : Nat} {f : Nat → Nat} {k : Int} (h : hasI f k = true) : bytI b f k = .slice (some ⟨b, frm f k.toNat, none⟩) (siz f k.toNat) (512 - frm f k.toNat) := by unfold bytI; rw [if_pos h]

def Errs (n : Int) (w : World) (e : Ending) (w' : World) : Prop := e = .returned (.int .i64 n) ∧ Fresh w w'

set_option maxRecDepth 100000 in
set_option maxHeartbeats 1000000 in
theorem stamp_nil (k : Int) (x : Nat) (p s : Int) (w : World) : Calls Try.prog 17 #[.pointer none, .int .i64 k, .int .u64 x, .agg #[.int .i64 p, .int .i64 s]] w (Errs 15 w) := by
  go_enter Try.func17, Try.ntmps17
  go_wp2_with fail
  refine (bytesOf_nil k _).mono ?_
  rintro e w1 ⟨rfl, m, rfl⟩
  go_wp2_with fail
  go_ret
  exact ⟨rfl, ((Kept.refl _ w).alloc _).drewN m⟩

set_option maxRecDepth 100000 in
set_option maxHeartbeats 1000000 in
theorem stamp_form (b : Nat) (f : Nat → Nat) (k : Int) (x : Nat) (p s : Int) (w : World) (hw : Byt w b 75 512 f) (hf : Fits f) (h : 1099511627776 < x ∨ farB p s = true) :
    Calls Try.prog 17 #[.pointer (some ⟨b, 0, none⟩), .int .i64 k, .int .u64 x, .agg #[.int .i64 p, .int .i64 s]] w (Errs 3 w) := by
  by_cases hx : (1099511627776 : Int) < (x : Int)
  · have hx' := decide_eq_true hx
    clear h
    go_enter Try.func17, Try.ntmps17
    go_wp2_with fail
    refine (bytesOf_int b k f _ (hw.alloc _) hf).mono ?_
    rintro e w1 ⟨rfl, m, rfl⟩
    go_wp2_with fail
    go_ret
    exact ⟨rfl, ((Kept.refl _ w).alloc _).drewN m⟩
  · have hx' := decide_eq_false hx
    have hfar : farB p s = true := by exact h.resolve_left (by omega)
    have Hf := Lib.hid hfar
    clear h hfar
    go_enter Try.func17, Try.ntmps17
    go_wp2_with fail
    refine (bytesOf_int b k f _ (hw.alloc _) hf).mono ?_
    rintro e w1 ⟨rfl, m, rfl⟩
    go_wp2_with fail
    refine (far_any p s _).mono ?_
    rintro e w1 ⟨rfl, hs1, hF⟩
    rw [Hf.out]
    go_wp2_with fail
    go_ret
    exact ⟨rfl, (((Kept.refl _ w).alloc _).drewN m).trans hF⟩

set_option maxRecDepth 100000 in
set_option maxHeartbeats 1000000 in
theorem stamp_none (b : Nat) (f : Nat → Nat) (k : Int) (x : Nat) (p s : Int) (w : World) (hw : Byt w b 75 512 f) (hf : Fits f) (hx0 : x ≤ 1099511627776) (hfar : farB p s = false) (hk : hasI f k = false) :
    Calls Try.prog 17 #[.pointer (some ⟨b, 0, none⟩), .int .i64 k, .int .u64 x, .agg #[.int .i64 p, .int .i64 s]] w (Errs 15 w) := by
  have hx : ¬ (1099511627776 : Int) < (x : Int) := by omega
  have hx' := decide_eq_false hx
  have hnil := isnil
  have Hf := Lib.hid (And.intro hfar hk)
  clear hfar hx0 hk
  go_enter Try.func17, Try.ntmps17
  go_wp2_with fail
  refine (bytesOf_int b k f _ (hw.alloc _) hf).mono ?_
  rintro e w1 ⟨rfl, m, rfl⟩
  rw [bytI_no Hf.out.2]
  go_wp2_with fail
  refine (far_any p s _).mono ?_
  rintro e w1 ⟨rfl, hs1, hF⟩
  rw [Hf.out.1]
  go_wp2_with fail
  go_ret
  exact ⟨rfl, (((Kept.refl _ w).alloc _).drewN m).trans hF⟩

def stamped (f : Nat → Nat) (o x P S : Nat) : Nat → Nat := lay (lay (lay f (o + 16) x 8) (o + 24) P 4) (o + 28) S 2

def Stamped (b : Nat) (g : Nat → Nat) (w : World) (e : Ending) (w' : World) : Prop := e = .returned (.int .i64 0) ∧ Byt w' b 75 512 g ∧ Kept (· = b) w w'

set_option maxRecDepth 100000 in
set_option maxHeartbeats 1000000 in
theorem stamp_ok (b : Nat) (f : Nat → Nat) (k : Int) (x P S : Nat) (w : World) (hw : Byt w b 75 512 f) (hf : Fits f) (hx0 : x ≤ 1099511627776) (hP : P ≤ 65536) (hS : S ≤ 65535) (hfar : farB ((P : Int) - 1) ((S : Int) - 1) = false) (hk : hasI f k = true) (h30 : 30 ≤ siz f k.toNat) :
    Calls Try.prog 17 #[.pointer (some ⟨b, 0, none⟩), .int .i64 k, .int .u64 x, .agg #[.int .i64 ((P : Int) - 1), .int .i64 ((S : Int) - 1)]] w (Stamped b (stamped f (frm f k.toNat) x P S) w) := by
  have hx : ¬ (1099511627776 : Int) < (x : Int) := by omega
  have hx' := decide_eq_false hx
  have hnil := isnil
  have hfit : frm f k.toNat + siz f k.toNat ≤ 512 := hf.fit _ (by unfold hasI hasB at hk; simp at hk; exact hk.2.1)
  have Hf := Lib.hid (And.intro hfar (And.intro hk (And.intro hfit (And.intro h30 hx0))))
  have wP1 : IntKind.i64.wrap (P : Int) = P := wrap_i64 P (by omega)
  have wP2 : IntKind.u64.wrap (P : Int) = P := wrap_u64 P (by omega)
  have wP3 : IntKind.i64.wrap (S : Int) = S := wrap_i64 S (by omega)
  have wP4 : IntKind.u64.wrap (S : Int) = S := wrap_u64 S (by omega)
  obtain ⟨c, hc⟩ : ∃ c, c = 512 - frm f k.toNat := ⟨_, rfl⟩
  have g1 : (30 : Int) ≤ (c : Int) := by omega
  have g3 : (16 : Int) ≤ (c : Int) := by omega
  have g5 : (24 : Int) ≤ (c : Int) := by omega
  have g6 : (28 : Int) ≤ (c : Int) := by omega
  have n2 : ¬ c = 16 := by omega
  have n3 : ¬ c = 24 := by omega
  have n4 : ¬ c = 28 := by omega
  have Hc := Lib.hid hc
  clear hfar hx0 hk hfit h30 hc
  go_enter Try.func17, Try.ntmps17
  go_wp2_with fail
  refine (bytesOf_int b k f _ (hw.alloc _) hf).mono ?_
  rintro e w1 ⟨rfl, m, rfl⟩
  rw [bytI_yes Hf.out.2.1, ← Hc.out]
  go_wp2_with fail
  refine (far_any ((P : Int) - 1) ((S : Int) - 1) _).mono ?_
  rintro e w1 ⟨rfl, hs1, hF⟩
  rw [Hf.out.1]
  have hB := alloc_at w (.cells #[.int .i64 ((P : Int) - 1), .int .i64 ((S : Int) - 1)] 26)
  have hF0 : Fresh w ((w.alloc (.cells #[.int .i64 ((P : Int) - 1), .int .i64 ((S : Int) - 1)] 26)).drewN m) := ((Kept.refl (fun _ => False) w).alloc _).drewN m
  have hB1 := (hF.block w.heap.size (by show w.heap.size < (w.alloc _).heap.size; simp) (by simp)).trans hB
  have hF1 := hF0.trans hF
  have hw1 := hw.kept hF1 (by simp)
  clear hB hF0 hF hs1
  go_wp2_with fail
  refine (put_any b _ 8 _ 75 512 _ x _ (by omega) (by have := Hf.out.2.2.2.2; omega) hw1 (by have := Hf.out.2.2; omega)).mono ?_
  rintro e w2 ⟨rfl, hw2, hz2, hK2⟩
  have hne : ¬ w.heap.size = b := by have := hw.blk; omega
  have hlt1 : w.heap.size < w1.heap.size := by
    by_cases h : w.heap.size < w1.heap.size
    · exact h
    · rw [Array.getElem?_eq_none (by omega)] at hB1; simp at hB1
  have hB2 := (hK2.block w.heap.size hlt1 hne).trans hB1
  have hKK : Kept (· = b) w w2 := hF1.mono (fun _ _ h => h.elim) |>.trans hK2
  clear hB1 hF1 hw1 hK2
  have Hz2 := Lib.hid (And.intro hz2 hlt1)
  clear hz2 hlt1
  go_wp2_with fail
  refine stillTail 6 (by kernel_rfl) (by kernel_rfl) fun wd hwd => ?_
  have hB3 := (hwd.1.block w.heap.size (by have := Hz2.out; omega) (by simp)).trans hB2
  have hw3 := hw2.kept hwd.1 (by simp)
  have hK3 : Kept (· = b) w wd := hKK.trans (hwd.1.mono (fun _ _ h => h.elim))
  have hc := boxCell hB3 0
  simp only [List.getElem?_toArray, List.getElem?_cons_zero] at hc
  have Hz3 := Lib.hid hwd.2
  clear hwd hB2 hw2 hKK
  simp only [List.take_succ_cons, List.take_zero, List.drop_succ_cons, List.drop_zero]
  repeat still_step
  refine wpStill_nil ?_
  go_wp2_with fail
  refine (put_any b _ 4 _ 75 512 _ P _ (by omega) (by omega) hw3 (by have := Hf.out.2.2; omega)).mono ?_
  rintro e w4 ⟨rfl, hw4, hz4, hK4⟩
  have hB4 := (hK4.block w.heap.size (by have := Hz2.out; have := Hz3.out; omega) hne).trans hB3
  have hKK : Kept (· = b) w w4 := hK3.trans hK4
  clear hB3 hw3 hK3 hK4 hc
  have Hz4 := Lib.hid hz4
  clear hz4
  go_wp2_with fail
  refine stillTail 6 (by kernel_rfl) (by kernel_rfl) fun wd hwd => ?_
  have hB5 := (hwd.1.block w.heap.size (by have := Hz2.out; have := Hz3.out; have := Hz4.out; omega) (by simp)).trans hB4
  have hw5 := hw4.kept hwd.1 (by simp)
  have hK5 : Kept (· = b) w wd := hKK.trans (hwd.1.mono (fun _ _ h => h.elim))
  have hc := boxCell hB5 1
  simp only [List.getElem?_toArray, List.getElem?_cons_zero, List.getElem?_cons_succ] at hc
  clear hwd hB4 hw4 hKK
  simp only [List.take_succ_cons, List.take_zero, List.drop_succ_cons, List.drop_zero]
  repeat still_step
  refine wpStill_nil ?_
  go_wp2_with fail
  refine (put_any b _ 2 _ 75 512 _ S _ (by omega) (by omega) hw5 (by have := Hf.out.2.2; omega)).mono ?_
  rintro e w6 ⟨rfl, hw6, hz6, hK6⟩
  have hKK : Kept (· = b) w w6 := hK5.trans hK6
  clear hz6
  go_wp2_with fail
  go_ret
  exact ⟨rfl, hw6, hKK⟩

set_option maxRecDepth 100000 in
set_option maxHeartbeats 1000000 in
theorem bytes_nil (w : World) : Calls Try.prog 26 #[.pointer none] w (Quiet (.slice none 0 0) w) := by
  go_enter Try.func26, Try.ntmps26
  go_wp2_with fail
  go_ret
  exact .of0

theorem run_whole (b : Nat) (w : World) : (Instr.sliceAt 73 (.pointer (some ⟨b, 0, none⟩)) none none none).run Try.prog w = .ok (.slice (some ⟨b, 0, none⟩) 512 512) w := by
  rw [run_sliceAt_array_all w 73 _ aund, asize, alen]
  simp [Result.andThen, slicedAt, Addr.add]

def BytesPost (f : Nat → Nat) (w : World) (e : Ending) (w' : World) : Prop :=
  ∃ a c, e = .returned (.slice (some a) 512 c) ∧ Bytes w' (some a) 512 f ∧ (w.heap.size ≤ a.block ∧ a.spot = none ∧ a.block < w'.heap.size ∧ ∀ j, w'.frozen? ⟨a.block, j, none⟩ = false) ∧ Fresh w w'

set_option maxRecDepth 100000 in
set_option maxHeartbeats 1000000 in
theorem bytes_any (b : Nat) (f : Nat → Nat) (w : World) (hw : Byt w b 75 512 f) : Calls Try.prog 26 #[.pointer (some ⟨b, 0, none⟩)] w (BytesPost f w) := by
  have hr := run_whole b
  go_enter Try.func26, Try.ntmps26
  go_wp2_with fail
  refine (clone_some _ 512 _ f _ ((hw.bytes 0 512 (by omega)).congr (fun j _ => by simp) hw.byte) (by omega)).mono ?_
  rintro e w1 ⟨a, c, rfl, hby, hnew, hF⟩
  go_wp2_with fail
  go_ret
  exact ⟨a, c, rfl, hby, hnew, hF⟩
end Go.Proofs.Ytffbfgmhfnbmfaa
