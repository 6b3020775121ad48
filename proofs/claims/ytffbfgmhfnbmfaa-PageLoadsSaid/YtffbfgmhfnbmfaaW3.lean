/- The walks of what a page tells: free, Room, Slots, Used, Get. -/
import Derived.Test.YtffbfgmhfnbmfaaW2
import Derived.WalkSpells
import Derived.Lib.MinMax
namespace Go.Proofs.Ytffbfgmhfnbmfaa
open Go.RowKit

def freeFrom (f : Nat → Nat) : Nat → Nat → Nat
  | 0, k => k
  | g + 1, k => if hasB f k = true then freeFrom f g (k + 1) else k

/-- The least slot that is free; or the next one. -/
def freeN (f : Nat → Nat) : Nat := freeFrom f (cnt f) 0

theorem freeFrom_le (f : Nat → Nat) : ∀ g k, k ≤ freeFrom f g k ∧ freeFrom f g k ≤ k + g := by
  intro g
  induction g with
  | zero => intro k; exact ⟨Nat.le_refl _, Nat.le_refl _⟩
  | succ g ih =>
    intro k
    have := ih (k + 1)
    simp only [freeFrom]
    split <;> omega

theorem freeN_le (f : Nat → Nat) : freeN f ≤ cnt f := by have := freeFrom_le f (cnt f) 0; unfold freeN; omega

theorem bytV_has {b : Nat} {f : Nat → Nat} {k : Nat} (h : hasB f k = true) : bytV b f k = .slice (some ⟨b, frm f k, none⟩) (siz f k) (512 - frm f k) := by unfold bytV; rw [if_pos h]
theorem bytV_not {b : Nat} {f : Nat → Nat} {k : Nat} (h : hasB f k = false) : bytV b f k = .slice none 0 0 := by unfold bytV; rw [if_neg (by simp [h])]

theorem und22 : Try.prog.underlying 22 = some (.slice 5) := by kernel_rfl
theorem isnil (w : World) (a : Option Addr) (n c : Nat) : (Go.binOp .eql 22 (.slice a n c) (.slice none 0 0)).run Try.prog w = .ok (.bool a.isNone) w := Lib.run_eql_slice_nil w 22 5 a n c 0 0 und22

theorem notnil (w : World) (a : Option Addr) (n c : Nat) : (Go.binOp .neq 22 (.slice a n c) (.slice none 0 0)).run Try.prog w = .ok (.bool (!a.isNone)) w := run_neq_slice_nil_any w 22 5 a n c 0 0 und22

set_option maxHeartbeats 400000 in
theorem free_any (b : Nat) (f : Nat → Nat) (w : World) (hw : Byt w b 75 512 f) (hf : Fits f) : Calls Try.prog 38 #[.pointer (some ⟨b, 0, none⟩)] w (Quiet (.int .i64 (freeN f)) w) := by
  have h4 := hf.cnt
  have hnil := isnil
  go_enter Try.func38, Try.ntmps38
  go_wp2_with fail
  refine (count_any b f _ hw).mono ?_
  rintro e w1 ⟨rfl, rfl⟩
  go_wp2_with fail
  go_loopg [3, 6] (cnt f) (fun g _ i wr => ∃ k : Nat, k + g = cnt f ∧ i = .int .i64 k ∧ freeFrom f g k = freeN f ∧ ∃ n, wr = w.drewN n)
  case atStart => exact ⟨0, by omega, rfl, rfl, 0, rfl⟩
  case round =>
    obtain ⟨k, hk, rfl, hfr, n, rfl⟩ := hrel
    have Hk := Lib.hid hk
    have Hfr := Lib.hid hfr
    clear hfr
    cases gk with
    | zero =>
      have hlt : ¬ k < cnt f := by omega
      have hkc : freeN f = cnt f := by rw [← Hfr.out]; simp only [freeFrom]; omega
      have Hkc := Lib.hid hkc
      clear hk hkc
      go_wp2_with fail
      refine (count_any b f _ (hw.drewN n)).mono ?_
      rintro e w1 ⟨rfl, rfl⟩
      go_wp2_with fail
      go_ret
      rw [Hkc.out]
      exact .of n
    | succ g =>
      have hlt : k < cnt f := by omega
      clear hk
      go_wp2_with fail
      refine (bytesOf_any b k f _ (hw.drewN n) hf).mono ?_
      rintro e w1 ⟨rfl, m, rfl⟩
      cases hh : hasB f k
      · rw [bytV_not hh]
        have hkc : freeN f = k := by rw [← Hfr.out]; simp only [freeFrom]; rw [if_neg (by simp [hh])]
        have HH := Lib.hid hkc
        clear hh hkc
        go_wp2_with fail
        go_ret
        rw [HH.out]
        exact .of (n + m)
      · rw [bytV_has hh]
        have HH := Lib.hid hh
        clear hh
        go_wp2_with fail
        go_roundg g
        case measure => omega
        case rel => exact ⟨k + 1, by have := Hk.out; omega, by go_num, by rw [← Hfr.out]; simp only [freeFrom]; rw [if_pos HH.out], n + m, rfl⟩

/-- How long is what bytesOf tells? -/
def lenB (f : Nat → Nat) (k : Nat) : Nat := if hasB f k = true then siz f k else 0

theorem bytV_eq (b : Nat) (f : Nat → Nat) (k : Nat) : ∃ a c, bytV b f k = .slice a (lenB f k) c := by
  unfold bytV lenB
  cases hasB f k
  · exact ⟨_, _, rfl⟩
  · exact ⟨_, _, rfl⟩

/-- What the slots k .. take. -/
def takes (f : Nat → Nat) : Nat → Nat
  | 0 => 0
  | k + 1 => takes f k + (4 + lenB f k)

theorem lenB_lt {f : Nat → Nat} (hf : ∀ i, f i < 256) (k : Nat) : lenB f k < 65536 := by
  unfold lenB
  split
  · exact le_lt hf 2 _
  · omega

theorem takes_le {f : Nat → Nat} (hf : ∀ i, f i < 256) (k : Nat) : takes f k ≤ 65540 * k := by
  induction k with
  | zero => simp [takes]
  | succ k ih =>
    have := lenB_lt hf k
    simp only [takes]
    omega

/-- How much one more may have. -/
def roomN (f : Nat → Nat) : Int := max (478 - (takes f (cnt f) : Int) - (if freeN f = cnt f then 4 else 0)) (-1)

set_option maxHeartbeats 400000 in
theorem room_nil (w : World) : Calls Try.prog 28 #[.pointer none] w (Quiet (.int .i64 (-1)) w) := by
  go_enter Try.func28, Try.ntmps28
  go_wp2_with fail
  go_ret
  exact .of0

set_option maxHeartbeats 400000 in
theorem room_any (b : Nat) (f : Nat → Nat) (w : World) (hw : Byt w b 75 512 f) (hf : Fits f) : Calls Try.prog 28 #[.pointer (some ⟨b, 0, none⟩)] w (Quiet (.int .i64 (roomN f)) w) := by
  have h4 := hf.cnt
  have hmx := fun (w : World) (x : Int) => Lib.run_max_ints (P := Try.prog) w #[3, 3] 3 .i64 .i64 x (-1)
  go_enter Try.func28, Try.ntmps28
  go_wp2_with fail
  refine (count_any b f _ hw).mono ?_
  rintro e w1 ⟨rfl, rfl⟩
  go_wp2_with fail
  go_loopg [3, 4, 9] (cnt f) (fun g a _ i wr => ∃ k : Nat, k + g = cnt f ∧ i = .int .i64 k ∧ a = .int .i64 (478 - (takes f k : Int)) ∧ ∃ n, wr = w.drewN n)
  case atStart => exact ⟨0, by omega, rfl, rfl, 0, rfl⟩
  case round =>
    obtain ⟨k, hk, rfl, rfl, n, rfl⟩ := hrel
    have Hk := Lib.hid hk
    have ht := takes_le hw.byte k
    cases gk with
    | zero =>
      have hlt : ¬ k < cnt f := by omega
      have hkc : k = cnt f := by omega
      have hk127 : k ≤ 127 := by omega
      clear hk
      have Hkc := Lib.hid hkc
      clear hkc
      go_wp2_with fail
      refine (free_any b f _ (hw.drewN n) hf).mono ?_
      rintro e w1 ⟨rfl, m, rfl⟩
      go_wp2_with fail
      refine (count_any b f _ (hw.drewN (n + m))).mono ?_
      rintro e w1 ⟨rfl, rfl⟩
      by_cases hfc : freeN f = cnt f
      · have hfc' : ((freeN f : Int) == (cnt f : Int)) = true := by simp [hfc]
        have Hfc := Lib.hid hfc
        clear hfc
        go_wp2_with fail
        go_ret
        rw [show roomN f = max (478 - (takes f k : Int) - 4) (-1) from by unfold roomN; rw [if_pos Hfc.out, Hkc.out]]
        exact .of (n + m)
      · have hfc' : ((freeN f : Int) == (cnt f : Int)) = false := by simp; omega
        have Hfc := Lib.hid hfc
        clear hfc
        go_wp2_with fail
        go_ret
        rw [show roomN f = max (478 - (takes f k : Int)) (-1) from by unfold roomN; rw [if_neg Hfc.out, Hkc.out, Int.sub_zero]]
        exact .of (n + m)
    | succ g =>
      have hlt : k < cnt f := by omega
      have hl := lenB_lt hw.byte k
      clear hk
      go_wp2_with fail
      refine (bytesOf_any b k f _ (hw.drewN n) hf).mono ?_
      rintro e w1 ⟨rfl, m, rfl⟩
      obtain ⟨av, cv, hv⟩ := bytV_eq b f k
      rw [hv]
      clear hv
      go_wp2_with fail
      go_roundg g
      case measure => omega
      case rel => exact ⟨k + 1, by have := Hk.out; omega, by go_num, by simp only [takes]; go_num, n + m, rfl⟩

set_option maxHeartbeats 400000 in
theorem slots_nil (w : World) : Calls Try.prog 31 #[.pointer none] w (Quiet (.int .i64 0) w) := by
  go_enter Try.func31, Try.ntmps31
  go_wp2_with fail
  go_ret
  exact .of0

set_option maxHeartbeats 400000 in
theorem slots_any (b : Nat) (f : Nat → Nat) (w : World) (hw : Byt w b 75 512 f) : Calls Try.prog 31 #[.pointer (some ⟨b, 0, none⟩)] w (Quiet (.int .i64 (cnt f)) w) := by
  go_enter Try.func31, Try.ntmps31
  go_wp2_with fail
  refine (count_any b f _ hw).mono ?_
  rintro e w1 ⟨rfl, rfl⟩
  go_wp2_with fail
  go_ret
  exact .of0

/-- How many of the first k slots aren't free. -/
def usedN (f : Nat → Nat) : Nat → Nat
  | 0 => 0
  | k + 1 => usedN f k + (if hasB f k = true then 1 else 0)

theorem usedN_le (f : Nat → Nat) (k : Nat) : usedN f k ≤ k := by
  induction k with
  | zero => simp [usedN]
  | succ k ih => simp only [usedN]; split <;> omega

set_option maxHeartbeats 400000 in
theorem used_nil (w : World) : Calls Try.prog 14 #[.pointer none] w (Quiet (.int .i64 0) w) := by
  go_enter Try.func14, Try.ntmps14
  go_wp2_with fail
  refine (slots_nil _).mono ?_
  rintro e w1 ⟨rfl, n, rfl⟩
  go_wp2_with fail
  refine wp_loop_rounds 1 ?_
  rw [rounds_succ]
  go_wp2_with fail
  go_ret
  exact .of n

set_option maxHeartbeats 400000 in
theorem used_any (b : Nat) (f : Nat → Nat) (w : World) (hw : Byt w b 75 512 f) (hf : Fits f) : Calls Try.prog 14 #[.pointer (some ⟨b, 0, none⟩)] w (Quiet (.int .i64 (usedN f (cnt f))) w) := by
  have h4 := hf.cnt
  have hnil := notnil
  go_enter Try.func14, Try.ntmps14
  go_wp2_with fail
  refine (slots_any b f _ hw).mono ?_
  rintro e w1 ⟨rfl, n0, rfl⟩
  go_wp2_with fail
  go_loopg [3, 4, 7] (cnt f) (fun g a _ i wr => ∃ k : Nat, k + g = cnt f ∧ i = .int .i64 k ∧ a = .int .i64 (usedN f k) ∧ ∃ n, wr = w.drewN n)
  case atStart => exact ⟨0, by omega, rfl, rfl, n0, rfl⟩
  case round =>
    obtain ⟨k, hk, rfl, rfl, n, rfl⟩ := hrel
    have Hk := Lib.hid hk
    have hu := usedN_le f k
    cases gk with
    | zero =>
      have hlt : ¬ k < cnt f := by omega
      have hkc : k = cnt f := by omega
      clear hk
      have Hkc := Lib.hid hkc
      clear hkc
      go_wp2_with fail
      go_ret
      rw [← Hkc.out]
      exact .of n
    | succ g =>
      have hlt : k < cnt f := by omega
      clear hk
      go_wp2_with fail
      refine (bytesOf_any b k f _ (hw.drewN n) hf).mono ?_
      rintro e w1 ⟨rfl, m, rfl⟩
      cases hh : hasB f k
      · rw [bytV_not hh]
        have HH := Lib.hid hh
        clear hh
        go_wp2_with fail
        go_roundg g
        case measure => omega
        case rel => exact ⟨k + 1, by have := Hk.out; omega, by go_num, by simp only [usedN]; rw [if_neg (by rw [HH.out]; decide)]; rfl, n + m, rfl⟩
      · rw [bytV_has hh]
        have HH := Lib.hid hh
        clear hh
        go_wp2_with fail
        go_roundg g
        case measure => omega
        case rel => exact ⟨k + 1, by have := Hk.out; omega, by go_num, by simp only [usedN]; rw [if_pos HH.out]; go_num, n + m, rfl⟩
end Go.Proofs.Ytffbfgmhfnbmfaa
