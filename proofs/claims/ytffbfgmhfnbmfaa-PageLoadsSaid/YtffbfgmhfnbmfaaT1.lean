/- The walk of the reference's get. -/
import Derived.Test.YtffbfgmhfnbmfaaW4
namespace Go.Proofs.Ytffbfgmhfnbmfaa
open Go.RowKit

theorem le_lt7 {d : Nat → Nat} (hd : ∀ j, d j < 256) (lo n : Nat) (hn : n ≤ 7) : le d lo n < 72057594037927936 := by
  have := le_lt hd n lo
  have h2 : (256 : Nat) ^ n ≤ 256 ^ 7 := Nat.pow_le_pow_right (by decide) hn
  have h3 : (256 : Nat) ^ 7 = 72057594037927936 := by decide
  omega

theorem le_lt6 {d : Nat → Nat} (hd : ∀ j, d j < 256) (lo n : Nat) (hn : n ≤ 6) : le d lo n < 281474976710656 := by
  have := le_lt hd n lo
  have h2 : (256 : Nat) ^ n ≤ 256 ^ 6 := Nat.pow_le_pow_right (by decide) hn
  have h3 : (256 : Nat) ^ 6 = 281474976710656 := by decide
  omega

theorem le_step (d : Nat → Nat) (n j : Nat) (hj : j < n) : le d j (n - j) = d j + 256 * le d (j + 1) (n - (j + 1)) := by
  rw [show n - j = n - (j + 1) + 1 from by omega]
  rfl

set_option maxRecDepth 100000 in
set_option maxHeartbeats 1000000 in
theorem get_any (a : Option Addr) (n c : Nat) (d : Nat → Nat) (w : World) (h : Bytes w a n d) (hn : n ≤ 7) : Calls Try.prog 49 #[.slice a n c] w fun e w' => e = .returned (.int .i64 (le d 0 n)) ∧ w = w' := by
  have H := Lib.hid h
  clear h
  go_enter Try.func49, Try.ntmps49
  go_wp2_with fail
  go_loopg [3, 4] n (fun g s3 s4 wr => g ≤ n ∧ s4 = .int .i64 ((g : Int) - 1) ∧ s3 = .int .i64 (le d g (n - g)) ∧ wr = w)
  case atStart => exact ⟨Nat.le_refl _, rfl, by rw [Nat.sub_self]; rfl, rfl⟩
  case round =>
    obtain ⟨hg, rfl, rfl, rfl⟩ := hrel
    by_cases h0 : 0 < gk
    · obtain ⟨j, hj⟩ : ∃ j, j = gk - 1 := ⟨_, rfl⟩
      have hji : (gk : Int) - 1 = (j : Int) := by omega
      have hjn : j < n := by omega
      rcases H.out.cells with hz | ⟨b, o, rfl, hlt, hc⟩
      · omega
      · have hcj := hc j hjn
        have hb := H.out.byte j
        have hl := le_lt6 H.out.byte gk (n - gk) (by omega)
        have hs := le_step d n j hjn
        rw [show j + 1 = gk from by omega] at hs
        have HS := Lib.hid (And.intro hs (And.intro hj hg))
        have HJ := Lib.hid hji
        clear hc hlt hs hj hg hji
        rw [HJ.out]
        go_wp2_with fail
        go_roundg j
        case measure => have := HS.out.2.1; omega
        case rel =>
          refine ⟨by omega, by go_num, ?_, rfl⟩
          rw [HS.out.1]
          go_num
    · obtain rfl : gk = 0 := by omega
      go_wp2_with fail
      go_ret
      exact ⟨rfl, rfl⟩
end Go.Proofs.Ytffbfgmhfnbmfaa
