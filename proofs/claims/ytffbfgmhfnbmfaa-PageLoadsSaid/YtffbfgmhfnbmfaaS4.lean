/- The walks of what sound calls. -/
import Derived.Test.YtffbfgmhfnbmfaaPs
namespace Go.Proofs.Ytffbfgmhfnbmfaa
open Go.RowKit

set_option maxHeartbeats 1000000 in
theorem nonzero_any (c : Nat) (w : World) : Calls Try.prog 63 #[.int .u8 c] w fun e w' => e = .returned (.bool ((c : Int) != 0)) ∧ w = w' := by
  go_enter Try.func63, Try.ntmps63
  go_wp2_with fail
  go_ret
  exact ⟨rfl, rfl⟩

def IdxPost (d : Nat → Nat) (n : Nat) (w : World) (e : Ending) (w' : World) : Prop := ∃ r : Int, e = .returned (.int .i64 r) ∧ w = w' ∧ ((r = -1 ∧ ∀ j, j < n → d j = 0) ∨ (0 ≤ r ∧ ∃ j, j < n ∧ d j ≠ 0))

set_option maxRecDepth 100000 in
set_option maxHeartbeats 1000000 in
theorem index_any (a : Option Addr) (n c : Nat) (d : Nat → Nat) (w : World) (h : Bytes w a n d) (hn : n ≤ 1000000) : Calls Try.prog 66 #[.slice a n c, .func (.func 63) #[] #[]] w (IdxPost d n w) := by
  have H := Lib.hid h
  clear h
  go_enter Try.func66, Try.ntmps66
  go_wp2_with fail
  go_loopg [8] n (fun g s8 wr => ∃ i : Nat, i + g = n ∧ s8 = .int .i64 i ∧ wr = w ∧ ∀ j, j < i → d j = 0)
  case atStart => exact ⟨0, by omega, rfl, rfl, fun j hj => by omega⟩
  case round =>
    obtain ⟨i, hi, rfl, rfl, hz⟩ := hrel
    have HZ := Lib.hid hz
    clear hz
    by_cases hil : i < n
    · have hil' : (i : Int) < (n : Int) := by omega
      rcases H.out.cells with h0 | ⟨b, o, rfl, hlt, hc⟩
      · omega
      · have hci := hc i hil
        have HH := Lib.hid hi
        clear hc hlt hi
        go_wp2_with fail
        refine (nonzero_any (d i) _).mono ?_
        rintro e w1 ⟨rfl, rfl⟩
        by_cases hd : d i = 0
        · have hd' : ((d i : Int) != 0) = false := by simp [hd]
          have HD := Lib.hid hd
          clear hd
          rw [hd']
          go_wp2_with fail
          go_roundg (gk - 1)
          case measure => have := HH.out; omega
          case rel => exact ⟨i + 1, by have := HH.out; omega, by go_num, rfl, fun j hj => by
            by_cases e : j = i
            · subst e; exact HD.out
            · exact HZ.out j (by omega)⟩
        · have hd' : ((d i : Int) != 0) = true := by simpa using hd
          have HD := Lib.hid hd
          clear hd
          rw [hd']
          go_wp2_with fail
          go_ret
          exact ⟨i, rfl, rfl, .inr ⟨by omega, i, hil, HD.out⟩⟩
    · obtain rfl : i = n := by omega
      clear hi hil
      go_wp2_with fail
      go_ret
      exact ⟨-1, rfl, rfl, .inl ⟨rfl, HZ.out⟩⟩

def SayB (v : Bool) (w : World) (e : Ending) (w' : World) : Prop := e = .returned (.bool v) ∧ w = w'

set_option maxRecDepth 100000 in
set_option maxHeartbeats 1000000 in
theorem contains_aux (a : Option Addr) (n c : Nat) (d : Nat → Nat) (w : World) (h : Bytes w a n d) (hn : n ≤ 1000000) (z : Bool) (hzz : z = zerosB d 0 n) : Calls Try.prog 62 #[.slice a n c, .func (.func 63) #[] #[]] w (SayB (!z) w) := by
  have HZ := Lib.hid hzz
  clear hzz
  go_enter Try.func62, Try.ntmps62
  go_wp2_with fail
  refine (index_any a n c d _ h hn).mono ?_
  rintro e w1 ⟨r, rfl, rfl, hr⟩
  rcases hr with ⟨rfl, hz⟩ | ⟨h0, j, hj, hd⟩
  · have hb : z = true := HZ.out.trans ((zerosB_iff d n 0).2 fun j _ hj => hz j (by omega))
    have HB := Lib.hid hb
    clear hz hb
    go_wp2_with fail
    go_ret
    exact ⟨by rw [HB.out]; rfl, rfl⟩
  · have hb : z = false := by
      rw [HZ.out]
      cases hb : zerosB d 0 n
      · rfl
      · exact (hd ((zerosB_iff d n 0).1 hb j (by omega) (by omega))).elim
    have HB := Lib.hid hb
    clear hb hd hj
    go_wp2_with fail
    go_ret
    exact ⟨by rw [HB.out]; simp, rfl⟩

theorem contains_any (a : Option Addr) (n c : Nat) (d : Nat → Nat) (w : World) (h : Bytes w a n d) (hn : n ≤ 1000000) : Calls Try.prog 62 #[.slice a n c, .func (.func 63) #[] #[]] w (SayB (!zerosB d 0 n) w) := contains_aux a n c d w h hn _ rfl

set_option maxHeartbeats 1000000 in
theorem bytesAt_any (b k : Nat) (f : Nat → Nat) (w : World) (hw : Byt w b 75 512 f) (hk : 4 * k + 8 ≤ 512) : Calls Try.prog 59 #[.pointer (some ⟨b, 0, none⟩), .int .i64 k] w (Quiet (.int .i64 (siz f k)) w) := by
  go_enter Try.func59, Try.ntmps59
  go_wp2_with fail
  refine (at_any b k f _ hw hk).mono ?_
  rintro e w1 ⟨rfl, m, rfl⟩
  go_wp2_with fail
  go_ret
  exact .of m
end Go.Proofs.Ytffbfgmhfnbmfaa
