/- The walks of the reference's few and lay. -/
import Derived.Test.YtffbfgmhfnbmfaaBk
import Derived.Test.YtffbfgmhfnbmfaaBa
namespace Go.Proofs.Ytffbfgmhfnbmfaa
open Go.RowKit

def fb (x j : Nat) : Nat := x / 256 ^ j % 256
theorem fb_lt (x j : Nat) : fb x j < 256 := Nat.mod_lt _ (by decide)

def FewB (x k : Nat) (w : World) (e : Ending) (w' : World) : Prop := ∃ v, e = .returned v ∧ OwnB w' v k (fb x) w.heap.size ∧ Fresh w w'

set_option maxRecDepth 100000 in
set_option maxHeartbeats 1000000 in
theorem fewb_any (x k : Nat) (w : World) (hk : k ≤ 8) (hx : x < 18446744073709551616) : Calls Try.prog 55 #[.int .u64 x, .int .i64 k] w (FewB x k w) := by
  go_enter Try.func55, Try.ntmps55
  go_wp2_with fail
  go_loopg [0, 5, 7] k (fun g s0 s5 s7 wr => ∃ i y : Nat, i + g = k ∧ y < 18446744073709551616 ∧ y = x / 256 ^ i ∧ s7 = .int .i64 i ∧ s0 = .int .u64 y ∧ OwnB wr s5 i (fb x) w.heap.size ∧ Fresh w wr)
  case atStart => exact ⟨0, x, by omega, hx, by simp, rfl, rfl, .nil _ _ (fb_lt x) _, .refl _ _⟩
  case round =>
    obtain ⟨i, y, hi, hy, hyx, rfl, rfl, hO, hF⟩ := hrel
    obtain ⟨a, c, rfl, _, _, _⟩ := hO.open_
    have H := Lib.hid (And.intro hO (And.intro hF (And.intro hi hyx)))
    clear hO hF hyx
    by_cases hil : i < k
    · clear hi
      have hil' : (i : Int) < (k : Int) := by omega
      have hA := (Kept.refl (fun _ => False) wr).alloc (.cells #[.int .u8 ((y : Int) % 256)] 5)
      have hsrc : Bytes (wr.alloc (.cells #[.int .u8 ((y : Int) % 256)] 5)) (some ⟨wr.heap.size, 0, none⟩) 1 (fun _ => fb x i) := by
        refine ⟨fun _ => fb_lt x i, .inr ⟨_, _, rfl, by simp, fun j hj => ?_⟩⟩
        obtain rfl : j = 0 := by omega
        rw [boxCell (alloc_at wr _)]
        have := H.out.2.2.2
        unfold fb
        rw [← this]
        simp
      obtain ⟨v2, W2, hrun, hP⟩ := (H.out.1.kept hA (by simp)).push (k := 1) (Nat.le_trans H.out.2.1.size hA.size) hsrc (.inl (by omega)) (by omega)
      have hF2 : Fresh w W2 := (H.out.2.1.trans hA).then hP.kept fun b hb e => by have := (H.out.1.own e).1; omega
      have hO2 := hP.row.congr (f' := fb x) (fun j hj => by
        unfold joined
        by_cases h1 : j < i
        · rw [if_pos h1]
        · rw [if_neg h1, if_pos (by omega)]
          obtain rfl : j = i := by omega
          rfl) (fb_lt x)
      have H2 := Lib.hid (And.intro hO2 hF2)
      have Hrun := Lib.hid hrun
      clear hA hsrc hP hF2 hO2 hrun
      go_wp2_with (at_builtin; refine wpList_append_run _ _ rfl rfl Hrun.out ?_)
      go_roundg (gk - 1)
      case measure => have := H.out.2.2.1; omega
      case rel => exact ⟨i + 1, y / 256, by have := H.out.2.2.1; omega, by omega, by rw [H.out.2.2.2, Nat.pow_succ, Nat.div_div_eq_div_mul], by go_num, by go_num, H2.out⟩
    · obtain rfl : i = k := by omega
      go_wp2_with fail
      go_ret
      exact ⟨_, rfl, H.out.1, H.out.2.1⟩

/-- Bytes laid at a place. -/
def LaidB (b T N : Nat) (f : Nat → Nat) (w : World) (e : Ending) (w' : World) : Prop := e = .returned (.tuple #[]) ∧ Byt w' b T N f ∧ Kept (· = b) w w'

set_option maxRecDepth 100000 in
set_option maxHeartbeats 1000000 in
theorem lay_any (b n c at' m k T N : Nat) (a : Option Addr) (f d : Nat → Nat) (w : World) (hb : Byt w b T N f) (hn : n ≤ N) (hat : at' + m ≤ n) (hN : N ≤ 1000000) (hd : Bytes w a m d) (hab : ∀ x, a = some x → x.block ≠ b) (hm : a = none → m = 0) :
    Calls Try.prog 54 #[.slice (some ⟨b, 0, none⟩) n c, .int .i64 at', .slice a m k] w (LaidB b T N (over f at' m d) w) := by
  have HA := Lib.hid (And.intro hb (And.intro hn (And.intro hat (And.intro hN (And.intro hd (And.intro hab hm))))))
  clear hb hn hat hN hd hab hm
  go_enter Try.func54, Try.ntmps54
  go_wp2_with fail
  go_loopg [10] m (fun g s10 wr => ∃ i : Nat, i + g = m ∧ s10 = .int .i64 i ∧ Byt wr b T N (over f at' i d) ∧ Kept (· = b) w wr)
  case atStart => exact ⟨0, by omega, rfl, HA.out.1.congr (fun i _ => by unfold over; rw [if_neg (by omega)]) (over_lt HA.out.1.byte HA.out.2.2.2.2.1.byte _ _), .refl _ _⟩
  case round =>
    obtain ⟨i, hi, rfl, hB, hK⟩ := hrel
    by_cases hil : i < m
    · have hil' : (i : Int) < (m : Int) := by omega
      have hdw := HA.out.2.2.2.2.1.kept hK (fun z hz => HA.out.2.2.2.2.2.1 z hz)
      rcases hdw.cells with h0 | ⟨sb, so, rfl, hlt, hc⟩
      · omega
      · have hci := hc i hil
        have hfr := hB.frozen (at' + i)
        have hcb := hB.cell (i := at' + i) (by have := HA.out.2; omega)
        have hb1 := HA.out.2.2.1
        have hb2 := HA.out.2.1
        have hb3 := HA.out.2.2.2.1
        have hput := hB.put (at' + i) (v := d i) (g := over f at' (i + 1) d) (fun j => by
          unfold over
          by_cases e : j = at' + i
          · subst e; rw [if_pos (by omega), if_pos rfl]; congr 1; omega
          · rw [if_neg e]
            by_cases e2 : at' ≤ j ∧ j < at' + i
            · rw [if_pos (by omega), if_pos e2]
            · rw [if_neg (by omega), if_neg e2]) (hdw.byte i)
        have H := Lib.hid (And.intro hB (And.intro hK (And.intro hi hput)))
        clear hB hK hi hput hdw hc hlt
        go_wp2_with fail
        go_roundg (gk - 1)
        case measure => have := H.out.2.2.1; omega
        case rel => exact ⟨i + 1, by have := H.out.2.2.1; omega, by go_num, H.out.2.2.2, H.out.2.1.setCell (fun _ => rfl) _⟩
    · obtain rfl : i = m := by omega
      have H := Lib.hid (And.intro hB hK)
      clear hB hK hi hil
      go_wp2_with fail
      go_end0
      exact ⟨rfl, H.out⟩
end Go.Proofs.Ytffbfgmhfnbmfaa
