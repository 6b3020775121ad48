/- The walks of what is a right version. -/
import Derived.Test.YtffbfgmhfnbmfaaW1
namespace Go.Proofs.Ytffbfgmhfnbmfaa
open Go.RowKit

/-- Is a place one where no version may lie? -/
def farB (p s : Int) : Bool := if p = -1 ∧ s = -1 then false else decide (p < 0 ∨ 65536 ≤ p ∨ s < 0 ∨ 65535 ≤ s)

theorem farB_left (s : Int) : farB (-1) s = (-1 != s) := by
  unfold farB
  by_cases e : s = -1
  · subst e; rfl
  · rw [if_neg (by omega), show ((-1 : Int) != s) = true from by rw [bne_iff_ne]; omega]; simp

theorem farB_right (p : Int) : farB p (-1) = (p != -1) := by
  unfold farB
  by_cases e : p = -1
  · subst e; rfl
  · rw [if_neg (by omega), show (p != (-1 : Int)) = true from by rw [bne_iff_ne]; omega]; simp

theorem farB_mid (p s : Int) (h1 : ¬ p = -1) : farB p s = decide (p < 0 ∨ 65536 ≤ p ∨ s < 0 ∨ 65535 ≤ s) := by
  unfold farB; rw [if_neg (by omega)]

def FarPost (p s : Int) (w : World) (e : Ending) (w' : World) : Prop := e = .returned (.bool (farB p s)) ∧ w'.heap.size = w.heap.size + 1 ∧ Fresh w w'

theorem FarPost.mk {p s : Int} {w : World} {x : Bool} (h : farB p s = x) : FarPost p s w (.returned (.bool x)) (w.alloc (.cells #[.int .i64 p, .int .i64 s] 26)) :=
  ⟨by rw [h], by simp, (Kept.refl _ w).alloc _⟩

set_option maxHeartbeats 400000 in
theorem far_any (p s : Int) (w : World) : Calls Try.prog 45 #[.agg #[.int .i64 p, .int .i64 s]] w (FarPost p s w) := by
  by_cases h1 : p = -1
  · subst h1
    go_enter Try.func45, Try.ntmps45
    go_wp2
    go_ret
    exact .mk (farB_left s)
  · have h1' : (p == -1) = false := by simpa using h1
    by_cases h2 : s = -1
    · subst h2
      go_enter Try.func45, Try.ntmps45
      go_wp2
      go_ret
      exact .mk (farB_right p)
    · have h2' : (s == -1) = false := by simpa using h2
      have hm := Lib.hid (farB_mid p s h1)
      by_cases h3 : p < 0
      · go_enter Try.func45, Try.ntmps45
        go_wp2
        go_ret
        exact .mk (by rw [hm.out]; simp; omega)
      · have h3' : 0 ≤ p := by omega
        by_cases h4 : 65536 ≤ p
        · go_enter Try.func45, Try.ntmps45
          go_wp2
          go_ret
          exact .mk (by rw [hm.out]; simp; omega)
        · have h4' : p < 65536 := by omega
          by_cases h5 : s < 0
          · go_enter Try.func45, Try.ntmps45
            go_wp2
            go_ret
            exact .mk (by rw [hm.out]; simp; omega)
          · have h5' : 0 ≤ s := by omega
            go_enter Try.func45, Try.ntmps45
            go_wp2
            go_ret
            exact .mk (by rw [hm.out]; exact decide_eq_decide.2 (by omega))

/-- A version's value. -/
abbrev tupV (r x y : Nat) (p s : Int) (d : Value) : Value := .agg #[.int .u64 r, .int .u64 x, .int .u64 y, .int .i64 p, .int .i64 s, d]

/-- Is a version right? -/
def rightB (r x y : Nat) (p s : Int) (n : Nat) : Bool := decide (max (r : Int) (max x y) ≤ 1099511627776) && (!farB p s && decide ((n : Int) ≤ 200))

def RightPost (r x y : Nat) (p s : Int) (n : Nat) (w : World) (e : Ending) (w' : World) : Prop := e = .returned (.bool (rightB r x y p s n)) ∧ Fresh w w'

theorem run_max3 {P : Program} (ts : Array TypeId) (t : TypeId) (k : IntKind) (x y z : Int) (w : World) :
    (Builtin.max_ ts t #[.int k x, .int k y, .int k z]).run P w = .ok (.int k (max x (max y z))) w := by
  have e : ∀ a b : Int, (if b > a then b else a) = max a b := by
    intro a b
    rw [Int.max_def]
    split <;> split <;> omega
  simp [Builtin.max_, Builtin.max2, e, Int.max_assoc]

theorem RightPost.mk {r x y : Nat} {p s : Int} {n : Nat} {w w' : World} {v : Bool} (h : rightB r x y p s n = v) (hF : Fresh w w') : RightPost r x y p s n w (.returned (.bool v)) w' := ⟨by rw [h], hF⟩

set_option maxHeartbeats 400000 in
theorem right_any (r x y : Nat) (p s : Int) (a : Option Addr) (n c : Nat) (w : World) : Calls Try.prog 37 #[tupV r x y p s (.slice a n c)] w (RightPost r x y p s n w) := by
  have hm3 := run_max3 (P := Try.prog) #[24, 24, 24] 24 .u64 r x y
  have hA := (Kept.refl (fun _ => False) w).alloc (Obj.cells #[.int .u64 r, .int .u64 x, .int .u64 y, .int .i64 p, .int .i64 s, .slice a n c] 29)
  by_cases hm : max (r : Int) (max x y) ≤ 1099511627776
  · have hm' := decide_eq_true hm
    have Hm := Lib.hid hm'
    cases hfar : farB p s
    · have Hf := Lib.hid hfar
      clear hfar
      go_enter Try.func37, Try.ntmps37
      go_wp2_with fail
      refine (far_any p s _).mono ?_
      rintro e w1 ⟨rfl, hs1, hF⟩
      rw [Hf.out]
      have hc : w1.cell? ⟨w.heap.size, 4 + 1, none⟩ = some (.slice a n c) := by rw [hF.cell (by simp) (by simp)]; simp
      go_wp2_with fail
      go_ret
      exact .mk (by unfold rightB; rw [Hm.out, Hf.out]; simp) (hA.trans hF)
    · have Hf := Lib.hid hfar
      clear hfar
      go_enter Try.func37, Try.ntmps37
      go_wp2_with fail
      refine (far_any p s _).mono ?_
      rintro e w1 ⟨rfl, hs1, hF⟩
      rw [Hf.out]
      go_wp2_with fail
      go_ret
      exact .mk (by unfold rightB; rw [Hm.out, Hf.out]; rfl) (hA.trans hF)
  · have hm' := decide_eq_false hm
    have Hm := Lib.hid hm'
    go_enter Try.func37, Try.ntmps37
    go_wp2_with fail
    go_ret
    exact .mk (by unfold rightB; rw [Hm.out]; rfl) hA

/-- The pointers lie in the page, and what they tell. -/
structure Fits (f : Nat → Nat) : Prop where
  cnt : 4 * cnt f + 4 ≤ 512
  fit : ∀ k, k < Ytffbfgmhfnbmfaa.cnt f → frm f k + siz f k ≤ 512

/-- Is there a version in a slot? -/
def hasB (f : Nat → Nat) (k : Nat) : Bool := decide (k < cnt f) && decide (siz f k ≠ 0)

/-- What bytesOf tells. -/
def bytV (b : Nat) (f : Nat → Nat) (k : Nat) : Value := if hasB f k = true then .slice (some ⟨b, frm f k, none⟩) (siz f k) (512 - frm f k) else .slice none 0 0

def Quiet (v : Value) (w : World) (e : Ending) (w' : World) : Prop := e = .returned v ∧ ∃ n, w' = w.drewN n

theorem Quiet.of {v : Value} {w : World} (n : Nat) : Quiet v w (.returned v) (w.drewN n) := ⟨rfl, n, rfl⟩
theorem Quiet.of0 {v : Value} {w : World} : Quiet v w (.returned v) w := ⟨rfl, 0, rfl⟩

theorem run_mid (b x y : Nat) (h : x + y ≤ 512) (hy : 0 < y) (w : World) :
    (Instr.sliceAt 73 (.pointer (some ⟨b, 0, none⟩)) (some (.int .i64 (x : Int))) (some (.int .i64 ((x : Int) + (y : Int)))) none).run Try.prog w = .ok (.slice (some ⟨b, x, none⟩) y (512 - x)) w := by
  rw [run_sliceAt_array_lh w 73 _ aund .i64 .i64 _ _ (by omega) (by omega) (by rw [alen]; omega), asize, alen]
  have e : ((x : Int) + (y : Int)).toNat = x + y := by omega
  simp only [Result.andThen, slicedAt, e, Int.toNat_natCast]
  rw [if_neg (by omega)]
  have e2 : x + y - x = y := by omega
  by_cases hx : x = 0
  · subst hx; simp [Addr.add]
  · simp [Addr.add, hx]

set_option maxHeartbeats 400000 in
theorem bytesOf_nil (k : Int) (w : World) : Calls Try.prog 44 #[.pointer none, .int .i64 k] w (Quiet (.slice none 0 0) w) := by
  go_enter Try.func44, Try.ntmps44
  go_wp2_with fail
  go_ret
  exact .of0

set_option maxHeartbeats 400000 in
theorem bytesOf_neg (b : Nat) (k : Int) (w : World) (hk : k < 0) : Calls Try.prog 44 #[.pointer (some ⟨b, 0, none⟩), .int .i64 k] w (Quiet (.slice none 0 0) w) := by
  go_enter Try.func44, Try.ntmps44
  go_wp2_with fail
  go_ret
  exact .of0

set_option maxHeartbeats 400000 in
theorem bytesOf_any (b k : Nat) (f : Nat → Nat) (w : World) (hw : Byt w b 75 512 f) (hf : Fits f) : Calls Try.prog 44 #[.pointer (some ⟨b, 0, none⟩), .int .i64 k] w (Quiet (bytV b f k) w) := by
  have h4 := hf.cnt
  have h0 : decide ((k : Int) < 0) = false := decide_eq_false (by omega)
  by_cases h1 : k < cnt f
  · have h1' : decide (cnt f ≤ k) = false := decide_eq_false (by omega)
    by_cases h2 : siz f k = 0
    · have hv : bytV b f k = .slice none 0 0 := by unfold bytV hasB; rw [if_neg (by simp [h2])]
      rw [hv]
      have H2 := Lib.hid h2
      clear h2
      go_enter Try.func44, Try.ntmps44
      go_wp2_with fail
      refine (count_any b f _ hw).mono ?_
      rintro e w1 ⟨rfl, rfl⟩
      go_wp2_with fail
      refine (at_any b k f _ hw (by omega)).mono ?_
      rintro e w1 ⟨rfl, n, rfl⟩
      rw [H2.out]
      go_wp2_with fail
      go_ret
      exact .of n
    · have hfit := hf.fit k h1
      have hv : bytV b f k = .slice (some ⟨b, frm f k, none⟩) (siz f k) (512 - frm f k) := by unfold bytV hasB; rw [if_pos (by simp [h1, h2])]
      rw [hv]
      have h2' : ((siz f k : Int) == 0) = false := by simpa using h2
      have hrun := run_mid b (frm f k) (siz f k) hfit (by omega)
      go_enter Try.func44, Try.ntmps44
      go_wp2_with fail
      refine (count_any b f _ hw).mono ?_
      rintro e w1 ⟨rfl, rfl⟩
      go_wp2_with fail
      refine (at_any b k f _ hw (by omega)).mono ?_
      rintro e w1 ⟨rfl, n, rfl⟩
      go_wp2_with fail
      go_ret
      exact .of n
  · have hv : bytV b f k = .slice none 0 0 := by unfold bytV hasB; rw [if_neg (by simp [h1])]
    rw [hv]
    have h1' : decide (cnt f ≤ k) = true := decide_eq_true (by omega)
    go_enter Try.func44, Try.ntmps44
    go_wp2_with fail
    refine (count_any b f _ hw).mono ?_
    rintro e w1 ⟨rfl, rfl⟩
    go_wp2_with fail
    go_ret
    exact .of0
end Go.Proofs.Ytffbfgmhfnbmfaa
