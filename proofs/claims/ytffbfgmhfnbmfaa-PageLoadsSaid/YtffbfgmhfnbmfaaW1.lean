/- The walks of the page's small functions. -/
import Derived.Test.YtffbfgmhfnbmfaaChecked
import Derived.Test.YtffbfgmhfnbmfaaBa
import Derived.KernelRfl
import Derived.Deep.QuietTactic
import Derived.BigQuiet
namespace Go.Proofs.Ytffbfgmhfnbmfaa
open Go.RowKit

theorem lay_cell (x k : Nat) : (Value.int IntKind.u8 ((x : Int) / 2 ^ (8 * k) % 256)) = .int .u8 ((x / 256 ^ k % 256 : Nat) : Int) := by
  rw [show (256 : Nat) ^ k = 2 ^ (8 * k) from by rw [Nat.pow_mul]]
  simp

theorem Byt.put {w : World} {b t n : Nat} {f g : Nat → Nat} (h : Byt w b t n f) (i : Nat) {v : Nat} (hg : ∀ j, g j = if j = i then v else f j) (hv : v < 256) :
    Byt (w.setCell ⟨b, i, none⟩ (.int .u8 v)) b t n g := by
  refine ⟨(h.row.set i _).congr fun j _ => ?_, fun j => ?_⟩
  · rw [hg j]; by_cases e : j = i <;> simp [e]
  · rw [hg j]; by_cases e : j = i <;> simp [e, hv, h.byte]

set_option maxHeartbeats 400000 in
theorem put_any (b off n c T N : Nat) (f : Nat → Nat) (x : Nat) (w : World) (hn : n ≤ 8) (hx : x < 18446744073709551616) (hw : Byt w b T N f) (ho : off + n ≤ N) :
    Calls Try.prog 46 #[.slice (some ⟨b, off, none⟩) n c, .int .u64 x] w fun e w' => e = .returned (.tuple #[]) ∧ Byt w' b T N (lay f off x n) ∧ w'.heap.size = w.heap.size ∧ Kept (· = b) w w' := by
  go_enter Try.func46, Try.ntmps46
  go_wp2
  go_loopg [4, 7] n (fun g _ i wr => ∃ k : Nat, k + g = n ∧ i = .int .i64 k ∧ Byt wr b T N (lay f off x k) ∧ wr.heap.size = w.heap.size ∧ Kept (· = b) w wr)
  case atStart => exact ⟨0, by omega, rfl, by rw [lay_zero]; exact hw, rfl, .refl _ _⟩
  case round =>
    obtain ⟨k, hk, rfl, hr, hsz, hK⟩ := hrel
    have Hsz := Lib.hid hsz
    clear hsz
    by_cases hlt : k < n
    · have hc := hr.cell (i := off + k) (by omega)
      have hf := hr.frozen (off + k)
      have h64 : 8 * k < 64 := by omega
      have hx' : (x : Int) < 18446744073709551616 := by omega
      clear hx
      go_wp2
      go_roundg (gk - 1)
      case measure => omega
      case rel =>
        refine ⟨k + 1, by omega, by go_num, ?_, by simpa [World.setCell] using Hsz.out, hK.setCell (fun _ => rfl) _⟩
        rw [lay_cell]
        exact hr.put (off + k) (fun j => lay_succ f off x k j) (Nat.mod_lt _ (by decide))
    · obtain rfl : k = n := by omega
      go_wp2
      go_end0
      exact ⟨rfl, hr, Hsz.out, hK⟩

theorem num_step (f : Nat → Nat) (off n k : Nat) (hk : k + 1 ≤ n) : le f (off + k) (n - k) = f (off + k) + 256 * le f (off + (k + 1)) (n - (k + 1)) := by
  rw [show n - k = (n - (k + 1)) + 1 from by omega, le]; rfl

theorem num_or (a b : Nat) (ha : a < 72057594037927936) (hb : b < 256) :
    Value.int .u64 (bits .or .u64 (IntKind.u64.wrap ((a : Int) * 256)) (IntKind.u64.wrap (b : Int))) = .int .u64 ((b + 256 * a : Nat) : Int) := by
  have e1 : IntKind.u64.wrap ((a : Int) * 256) = ((256 * a : Nat) : Int) := by simp only [IntKind.wrap, IntKind.bits, IntKind.signed]; simp; omega
  have e2 : IntKind.u64.wrap (b : Int) = (b : Int) := by simp only [IntKind.wrap, IntKind.bits, IntKind.signed]; simp; omega
  rw [e1, e2, u64_or_nat _ _ (by omega) (by omega)]
  congr 2
  rw [show 256 * a = 2 ^ 8 * a from rfl, ← Nat.two_pow_add_eq_or_of_lt (i := 8) (b := b) (by omega) a]
  omega

set_option maxHeartbeats 400000 in
theorem num_any (b off n c T N : Nat) (f : Nat → Nat) (w : World) (hn : n ≤ 8) (hw : Byt w b T N f) (ho : off + n ≤ N) :
    Calls Try.prog 57 #[.slice (some ⟨b, off, none⟩) n c] w fun e w' => e = .returned (.int .u64 (le f off n)) ∧ w = w' := by
  go_enter Try.func57, Try.ntmps57
  go_wp2
  go_loopg [3, 4] n (fun g a i wr => g ≤ n ∧ i = .int .i64 ((g : Int) - 1) ∧ a = .int .u64 (le f (off + g) (n - g)) ∧ wr = w)
  case atStart => exact ⟨by omega, rfl, by rw [Nat.sub_self]; rfl, rfl⟩
  case round =>
    obtain ⟨hg, rfl, rfl, rfl⟩ := hrel
    cases gk with
    | zero =>
      go_wp2
      go_ret
      exact ⟨rfl, rfl⟩
    | succ k =>
      have hc := hw.cell (i := off + k) (by omega)
      have hl := le_lt hw.byte (n - (k + 1)) (off + (k + 1))
      have h7 : (256 : Nat) ^ (n - (k + 1)) ≤ 256 ^ 7 := Nat.pow_le_pow_right (by decide) (by omega)
      have hor := num_or (le f (off + (k + 1)) (n - (k + 1))) (f (off + k)) (by omega) (hw.byte _)
      have hor' := Lib.hid hor
      clear hor hl h7
      go_wp2
      go_roundg k
      case measure => omega
      case rel => exact ⟨by omega, by go_num, by rw [hor'.out, num_step f off n k hg], rfl⟩

/-- How many slots, where data begin, a slot's pointer. -/
def cnt (f : Nat → Nat) : Nat := le f 0 2
def stt (f : Nat → Nat) : Nat := le f 2 2
def frm (f : Nat → Nat) (k : Nat) : Nat := le f (4 + 4 * k) 2
def siz (f : Nat → Nat) (k : Nat) : Nat := le f (4 + 4 * k + 2) 2

set_option maxHeartbeats 400000 in
theorem count_any (b : Nat) (f : Nat → Nat) (w : World) (hw : Byt w b 75 512 f) :
    Calls Try.prog 40 #[.pointer (some ⟨b, 0, none⟩)] w fun e w' => e = .returned (.int .i64 (cnt f)) ∧ w = w' := by
  have hl := le_lt hw.byte 2 0
  go_enter Try.func40, Try.ntmps40
  go_wp2_with (go_at_call 57; refine (num_any b 0 2 _ 75 512 f _ (by omega) hw (by omega)).mono ?_; rintro e w' ⟨rfl, rfl⟩)
  go_ret
  exact ⟨rfl, rfl⟩

set_option maxHeartbeats 400000 in
theorem start_any (b : Nat) (f : Nat → Nat) (w : World) (hw : Byt w b 75 512 f) :
    Calls Try.prog 41 #[.pointer (some ⟨b, 0, none⟩)] w fun e w' => e = .returned (.int .i64 (stt f)) ∧ w = w' := by
  have hl := le_lt hw.byte 2 2
  go_enter Try.func41, Try.ntmps41
  go_wp2_with (go_at_call 57; refine (num_any b 2 2 _ 75 512 f _ (by omega) hw (by omega)).mono ?_; rintro e w' ⟨rfl, rfl⟩)
  go_ret
  exact ⟨rfl, rfl⟩

set_option maxHeartbeats 400000 in
theorem set_any (b c s : Nat) (f : Nat → Nat) (w : World) (hw : Byt w b 75 512 f) (hc : c < 65536) (hs : s < 65536) :
    Calls Try.prog 36 #[.pointer (some ⟨b, 0, none⟩), .int .i64 c, .int .i64 s] w fun e w' => e = .returned (.tuple #[]) ∧ Byt w' b 75 512 (lay (lay f 0 c 2) 2 s 2) ∧ w'.heap.size = w.heap.size ∧ Kept (· = b) w w' := by
  go_enter Try.func36, Try.ntmps36
  go_wp2_with fail
  refine (put_any b 0 2 _ 75 512 f c _ (by omega) (by omega) hw (by omega)).mono ?_
  rintro e w1 ⟨rfl, hw1, hs1, hK1⟩
  have Hs1 := Lib.hid hs1
  clear hs1
  go_wp2_with fail
  refine (put_any b 2 2 _ 75 512 _ s _ (by omega) (by omega) hw1 (by omega)).mono ?_
  rintro e w2 ⟨rfl, hw2, hs2, hK2⟩
  have Hs2 := Lib.hid hs2
  clear hs2
  go_wp2_with fail
  go_end0
  exact ⟨rfl, hw2, Hs2.out.trans Hs1.out, hK1.trans hK2⟩

theorem alen : Try.prog.arrayLen 73 = 512 := by kernel_rfl
theorem aund : Try.prog.underlying 73 = some (.array (Try.prog.arrayLen 73) (Try.prog.elem 73)) := by kernel_rfl
theorem asize (w : World) : (sizeOf (Try.prog.elem 73)).run Try.prog w = .ok 1 w := by kernel_rfl

theorem run_tail (b k c : Nat) (hc : c + 4 * k = 508) (h : 0 < c) (w : World) :
    (Instr.sliceAt 73 (.pointer (some ⟨b, 0, none⟩)) (some (.int .i64 (4 + 4 * (k : Int)))) none none).run Try.prog w = .ok (.slice (some ⟨b, 4 + 4 * k, none⟩) c c) w := by
  rw [run_sliceAt_array_l w 73 _ aund .i64 _ (by omega) (by rw [alen]; omega), asize, alen]
  have e : (4 + 4 * (k : Int)).toNat = 4 + 4 * k := by omega
  simp only [Result.andThen, slicedAt, e]
  rw [if_neg (by omega)]
  have e2 : 512 - (4 + 4 * k) = c := by omega
  simp [Addr.add, e2]

set_option maxHeartbeats 400000 in
theorem at_any (b k : Nat) (f : Nat → Nat) (w : World) (hw : Byt w b 75 512 f) (hk : 4 * k + 8 ≤ 512) :
    Calls Try.prog 58 #[.pointer (some ⟨b, 0, none⟩), .int .i64 k] w fun e w' => e = .returned (.tuple #[.int .i64 (frm f k), .int .i64 (siz f k)]) ∧ ∃ n, w' = w.drewN n := by
  have hl1 := le_lt hw.byte 2 (4 + 4 * k)
  have hl2 := le_lt hw.byte 2 (4 + 4 * k + 2)
  obtain ⟨c, hc⟩ : ∃ c, c + 4 * k = 508 := ⟨508 - 4 * k, by omega⟩
  have hr := run_tail b k c hc (by omega)
  have hn4 : (4 : Int) ≤ (c : Int) := by omega
  have hn2 : (2 : Int) ≤ (c : Int) := by omega
  have hne : ¬ c = 2 := by omega
  have hne' : ¬ c = 0 := by omega
  have HC := Lib.hid hc
  clear hc
  go_enter Try.func58, Try.ntmps58
  go_wp2_with fail
  refine wp_region_quiet_lit (by kernel_rfl) (by kernel_rfl) ?_
  repeat (first | go_big_quiet_step ((go_at_call 57; exact quietEq (num_any b _ 2 _ 75 512 f _ (by omega) (hw.drewN _) (by omega)))) | quiet_step ((go_at_call 57; exact quietEq (num_any b _ 2 _ 75 512 f _ (by omega) (hw.drewN _) (by omega)))))
  refine wpQuiet_nil ?_
  intro _ hw'
  obtain ⟨nq, hw''⟩ := hw'
  subst hw''
  go_wp2
  go_ret2
  exact ⟨rfl, nq, rfl⟩

set_option maxHeartbeats 400000 in
theorem point_any (b k x y : Nat) (f : Nat → Nat) (w : World) (hw : Byt w b 75 512 f) (hk : 4 * k + 8 ≤ 512) (hx : x < 65536) (hy : y < 65536) :
    Calls Try.prog 43 #[.pointer (some ⟨b, 0, none⟩), .int .i64 k, .int .i64 x, .int .i64 y] w fun e w' => e = .returned (.tuple #[]) ∧ Byt w' b 75 512 (lay (lay f (4 + 4 * k) x 2) (4 + 4 * k + 2) y 2) ∧ w'.heap.size = w.heap.size ∧ Kept (· = b) w w' := by
  obtain ⟨c, hc⟩ : ∃ c, c + 4 * k = 508 := ⟨508 - 4 * k, by omega⟩
  have hr := run_tail b k c hc (by omega)
  have hn4 : (4 : Int) ≤ (c : Int) := by omega
  have hn2 : (2 : Int) ≤ (c : Int) := by omega
  have hne : ¬ c = 2 := by omega
  have hne' : ¬ c = 0 := by omega
  have HC := Lib.hid hc
  clear hc
  go_enter Try.func43, Try.ntmps43
  go_wp2_with fail
  refine (put_any b _ 2 _ 75 512 f x _ (by omega) (by omega) hw (by omega)).mono ?_
  rintro e w1 ⟨rfl, hw1, hs1, hK1⟩
  have Hs1 := Lib.hid hs1
  clear hs1
  go_wp2_with fail
  refine (put_any b _ 2 _ 75 512 _ y _ (by omega) (by omega) hw1 (by omega)).mono ?_
  rintro e w2 ⟨rfl, hw2, hs2, hK2⟩
  have Hs2 := Lib.hid hs2
  clear hs2
  go_wp2_with fail
  go_end0
  exact ⟨rfl, hw2, Hs2.out.trans Hs1.out, hK1.trans hK2⟩

theorem zero_cells : Try.zeroCells75 = Array.replicate 512 (.int .u8 0) := by kernel_rfl

theorem zero_page (w : World) : Byt (w.alloc (.cells Try.zeroCells75 75)) w.heap.size 75 512 fun _ => 0 := by
  refine ⟨?_, fun _ => by omega⟩
  rw [zero_cells]
  have := World.rowIs_alloc w (Array.replicate 512 (.int .u8 0)) 75 (fun _ => .int .u8 0) (fun i hi => by rw [Array.getElem?_replicate, if_pos (by simpa using hi)])
  simpa using this

/-- The bytes of a new page. -/
def blank : Nat → Nat := lay (lay (fun _ => 0) 0 0 2) 2 512 2

set_option maxHeartbeats 400000 in
theorem new_any (w : World) :
    Calls Try.prog 11 #[] w fun e w' => e = .returned (.pointer (some ⟨w.heap.size, 0, none⟩)) ∧ Byt w' w.heap.size 75 512 blank ∧ w'.heap.size = w.heap.size + 1 ∧ Fresh w w' := by
  go_enter Try.func11, Try.ntmps11
  go_wp2_with fail
  refine (set_any w.heap.size 0 512 (fun _ => 0) _ (zero_page w) (by omega) (by omega)).mono ?_
  rintro e w1 ⟨rfl, hw1, hsz, hK1⟩
  have hsz' : w1.heap.size = w.heap.size + 1 := by rw [hsz]; simp
  go_wp2_with fail
  go_ret
  exact ⟨rfl, hw1, hsz', ((Kept.refl _ w).alloc _).then hK1 fun i hi e => by omega⟩

end Go.Proofs.Ytffbfgmhfnbmfaa
