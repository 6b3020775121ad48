/- The walk of PagePlays. -/
import Derived.Test.YtffbfgmhfnbmfaaS8
import Derived.Test.YtffbfgmhfnbmfaaS3
namespace Go.Proofs.Ytffbfgmhfnbmfaa
open Go.RowKit

set_option maxRecDepth 100000 in
set_option maxHeartbeats 1000000 in
theorem rroom_nil (w : World) : Calls Try.prog 29 #[.pointer none] w (Quiet (.int .i64 (-1)) w) := by
  go_enter Try.func29, Try.ntmps29
  go_wp2_with fail
  go_ret
  exact .of0

set_option maxRecDepth 100000 in
set_option maxHeartbeats 1000000 in
theorem rused_nil (w : World) : Calls Try.prog 27 #[.pointer none] w (Quiet (.int .i64 0) w) := by
  go_enter Try.func27, Try.ntmps27
  go_wp2_with fail
  go_ret
  exact .of0

theorem Quiet.fresh {v : Value} {w : World} {e : Ending} {w' : World} (h : Quiet v w e w') : Gives v w e w' := by
  obtain ⟨rfl, n, rfl⟩ := h
  exact ⟨rfl, (Kept.refl _ w).drewN n⟩

set_option maxRecDepth 100000 in
set_option maxHeartbeats 4000000 in
theorem plays_nil (a : Option Addr) (n c : Nat) (w : World) (h : Script w a n) (hn : n ≤ 9223372036854775807) :
    Calls Try.prog 8 #[.bool true, .slice a n c] w (Gives (.bool true) w) := by
  have HA := Lib.hid (And.intro h hn)
  clear h
  go_enter Try.func8, Try.ntmps8
  go_wp2_with fail
  refine (awake_any _).mono ?_
  rintro e w1 ⟨rfl, hF1⟩
  have HF := Lib.hid hF1
  clear hF1
  go_wp2_with fail
  refine (new_enc _).mono ?_
  rintro e w2 ⟨rfl, _, _, hF2⟩
  have HF2 := Lib.hid (HF.out.trans hF2)
  clear hF2 HF
  go_wp2_with fail
  refine (rnew_any (fun _ => True) w2 trivial).mono ?_
  rintro e w3 ⟨rfl, _, _, hF3⟩
  have HF3 := Lib.hid (HF2.out.trans hF3)
  clear hF3 HF2
  go_wp2_with fail
  go_loopg [5, 24] n (fun g s5 s24 wr => ∃ i : Nat, i + g = n ∧ s24 = .int .i64 i ∧ s5 = .pointer none ∧ Fresh w wr)
  case atStart => exact ⟨0, by omega, rfl, rfl, HF3.out⟩
  case round =>
    clear HF3
    obtain ⟨i, hi, rfl, rfl, hF⟩ := hrel
    by_cases hil : i < n
    · have hil' : (i : Int) < (n : Int) := by omega
      rcases HA.out.1 with h0 | ⟨b, off, rfl, hb, hops⟩
      · omega
      obtain ⟨o, k, r, x, y, p, s, da, dn, dc, d, hop⟩ := hops i hil
      obtain ⟨c0, c1, c2, c3, c4, c5, c6, c7, hby, hle, ho⟩ := hop.fresh hF hb
      have HR := Lib.hid (And.intro hF (And.intro hi (And.intro hby (And.intro hle ho))))
      clear hF hi hby hle ho hop hops hb
      by_cases h40 : i < 40
      · have h40' := decide_eq_false (show ¬ (40 : Int) ≤ (i : Int) by omega)
        clear h40
        have hA := (Kept.refl (fun _ => False) wr).alloc (.cells #[.int .u8 o, .int .i64 k, .int .u64 r, .int .u64 x, .int .u64 y, .int .i64 p, .int .i64 s, .slice da dn dc] 58)
        have hB := alloc_at wr (.cells #[.int .u8 o, .int .i64 k, .int .u64 r, .int .u64 x, .int .u64 y, .int .i64 p, .int .i64 s, .slice da dn dc] 58)
        have HR2 := Lib.hid (And.intro (HR.out.1.trans hA) (And.intro (HR.out.2.2.1.kept hA (by simp)) hB))
        clear hA hB
        go_upto_region 9 with fail
        clear c0 c1 c2 c3 c4 c5 c6 c7
        generalize wr.alloc (.cells #[.int .u8 o, .int .i64 k, .int .u64 r, .int .u64 x, .int .u64 y, .int .i64 p, .int .i64 s, .slice da dn dc] 58) = W at HR2 ⊢
        generalize wr.heap.size = T at HR2 ⊢
        have t0 := boxCell HR2.out.2.2 0
        have t1 := boxCell HR2.out.2.2 1
        have t2 := boxCell HR2.out.2.2 2
        have t3 := boxCell HR2.out.2.2 3
        have t4 := boxCell HR2.out.2.2 4
        have t5 := boxCell HR2.out.2.2 5
        have t6 := boxCell HR2.out.2.2 6
        have t7 := boxCell HR2.out.2.2 7
        go_wp2_with fail
        refine (do_nil o k r x y p s da dn dc d _ HR.out.2.2.2.2 HR2.out.2.1 HR.out.2.2.2.1).mono ?_
        rintro e w5 ⟨rfl, hF5⟩
        have H5 := Lib.hid (HR2.out.1.trans hF5)
        clear hF5 t0 t1 t2 t3 t4 t5 t6 t7 HR2
        go_wp2_with fail
        refine (bytes_nil _).mono ?_
        rintro e w6 hq
        obtain ⟨rfl, hF6⟩ := hq.fresh
        have H6 := Lib.hid (H5.out.trans hF6)
        clear hq hF6 H5
        go_wp2_with fail
        refine (rbytes_nil _).mono ?_
        rintro e w7 hq
        obtain ⟨rfl, hF7⟩ := hq.fresh
        have H7 := Lib.hid (H6.out.trans hF7)
        clear hq hF7 H6
        go_wp2_with fail
        refine (same_any none 0 0 (fun _ => 0) none 0 0 (fun _ => 0) _ ⟨fun _ => by omega, .inl rfl⟩ (fun _ => rfl) ⟨fun _ => by omega, .inl rfl⟩ (fun _ => rfl)).mono ?_
        rintro e w8 ⟨rfl, rfl⟩
        have hs : sameB 0 (fun _ => 0) 0 (fun _ => 0) = true := decide_eq_true ⟨rfl, fun _ _ => rfl⟩
        rw [hs]
        clear hs
        go_wp2_with fail
        refine (room_nil _).mono ?_
        rintro e w9 hq
        obtain ⟨rfl, hF9⟩ := hq.fresh
        have H9 := Lib.hid (H7.out.trans hF9)
        clear hq hF9 H7
        go_wp2_with fail
        refine (rroom_nil _).mono ?_
        rintro e w10 hq
        obtain ⟨rfl, hF10⟩ := hq.fresh
        have H10 := Lib.hid (H9.out.trans hF10)
        clear hq hF10 H9
        go_wp2_with fail
        refine (used_nil _).mono ?_
        rintro e w11 hq
        obtain ⟨rfl, hF11⟩ := hq.fresh
        have H11 := Lib.hid (H10.out.trans hF11)
        clear hq hF11 H10
        go_wp2_with fail
        refine (rused_nil _).mono ?_
        rintro e w12 hq
        obtain ⟨rfl, hF12⟩ := hq.fresh
        have H12 := Lib.hid (H11.out.trans hF12)
        clear hq hF12 H11
        go_wp2_with fail
        refine (slots_nil _).mono ?_
        rintro e w13 hq
        obtain ⟨rfl, hF13⟩ := hq.fresh
        have H13 := Lib.hid (H12.out.trans hF13)
        clear hq hF13 H12
        obtain ⟨gq, hgq⟩ : ∃ gq, gq = gk := ⟨gk, rfl⟩
        have HGQ := Lib.hid hgq
        clear hgq
        go_wp2_with fail
        go_loopg [12] 2 (fun g s12 wr => ∃ j : Nat, j + g = 2 ∧ s12 = .int .i64 ((j : Int) - 1) ∧ Fresh w wr)
        case atStart => exact ⟨0, by omega, rfl, H13.out⟩
        case round =>
          clear H13
          obtain ⟨j, hj, rfl, hF⟩ := hrel
          have HJ := Lib.hid (And.intro hj hF)
          clear hj hF
          by_cases hj2 : j < 2
          · have hjl := decide_eq_true (show (j : Int) - 1 ≤ 0 by omega)
            go_wp2_with fail
            refine (get_no none _ _ fun w => bytesOf_nil _ w).mono ?_
            rintro e w14 ⟨rfl, hF14⟩
            have hA := (Kept.refl (fun _ => False) w14).alloc (.cells #[.int .u64 0, .int .u64 0, .int .u64 0, .int .i64 0, .int .i64 0, .slice none 0 0] 29)
            have hB := alloc_at w14 (.cells #[.int .u64 0, .int .u64 0, .int .u64 0, .int .i64 0, .int .i64 0, .slice none 0 0] 29)
            have H14 := Lib.hid (And.intro ((HJ.out.2.trans hF14).trans hA) hB)
            clear hF14 hA hB
            go_upto_region 23 with fail
            generalize w14.alloc (.cells #[.int .u64 0, .int .u64 0, .int .u64 0, .int .i64 0, .int .i64 0, .slice none 0 0] 29) = W14 at H14 ⊢
            generalize w14.heap.size = T1 at H14 ⊢
            go_wp2_with fail
            refine (rget_nil _ _).mono ?_
            rintro e w15 ⟨rfl, hF15⟩
            have hA := (Kept.refl (fun _ => False) w15).alloc (.cells #[.int .u64 0, .int .u64 0, .int .u64 0, .int .i64 0, .int .i64 0, .slice none 0 0] 29)
            have hB := alloc_at w15 (.cells #[.int .u64 0, .int .u64 0, .int .u64 0, .int .i64 0, .int .i64 0, .slice none 0 0] 29)
            have hlt := (Array.getElem?_eq_some_iff.1 H14.out.2).1
            have H15 := Lib.hid (And.intro ((H14.out.1.trans hF15).trans hA) (And.intro ((hA.block T1 (Nat.lt_of_lt_of_le hlt hF15.size) (by simp)).trans ((hF15.block T1 hlt (by simp)).trans H14.out.2)) hB))
            clear hF15 hA hB hlt H14
            go_upto_region 24 with fail
            generalize w15.alloc (.cells #[.int .u64 0, .int .u64 0, .int .u64 0, .int .i64 0, .int .i64 0, .slice none 0 0] 29) = W15 at H15 ⊢
            generalize w15.heap.size = T2 at H15 ⊢
            have a0 := boxCell H15.out.2.1 0
            have a1 := boxCell H15.out.2.1 1
            have a2 := boxCell H15.out.2.1 2
            have a3 := boxCell H15.out.2.1 3
            have a4 := boxCell H15.out.2.1 4
            have a5 := boxCell H15.out.2.1 5
            have b0 := boxCell H15.out.2.2 0
            have b1 := boxCell H15.out.2.2 1
            have b2 := boxCell H15.out.2.2 2
            have b3 := boxCell H15.out.2.2 3
            have b4 := boxCell H15.out.2.2 4
            have b5 := boxCell H15.out.2.2 5
            go_wp2_with fail
            refine (tsame_any 0 0 0 0 0 none none 0 0 0 (fun _ => 0) (fun _ => 0) _ ⟨fun _ => by omega, .inl rfl⟩ (fun _ => rfl) ⟨fun _ => by omega, .inl rfl⟩ (fun _ => rfl) (fun _ _ => rfl)).mono ?_
            rintro e w16 ⟨rfl, hF16⟩
            have H16 := Lib.hid (H15.out.1.trans hF16)
            clear hF16 a0 a1 a2 a3 a4 a5 b0 b1 b2 b3 b4 b5 H15
            go_wp2_with fail
            go_roundg (gk - 1)
            case measure => have := HJ.out.1; omega
            case rel => exact ⟨j + 1, by have := HJ.out.1; omega, by go_num, H16.out⟩
          · obtain rfl : j = 2 := by have := HJ.out.1; omega
            clear hj2
            go_wp2_with fail
            go_roundg (gq - 1)
            case measure => have := HR.out.2.1; have := HGQ.out; omega
            case rel => exact ⟨i + 1, by have := HR.out.2.1; have := HGQ.out; omega, by go_num, rfl, HJ.out.2⟩
      · have h40' := decide_eq_true (show (40 : Int) ≤ (i : Int) by omega)
        clear h40
        go_wp2_with fail
        go_ret
        exact ⟨rfl, HR.out.1.alloc _⟩
    · obtain rfl : i = n := by omega
      have H := Lib.hid hF
      clear hi hF hil
      go_wp2_with fail
      go_ret
      exact ⟨rfl, H.out⟩
end Go.Proofs.Ytffbfgmhfnbmfaa
