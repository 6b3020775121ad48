/- The walk of do where there is no page. -/
import Derived.Test.YtffbfgmhfnbmfaaS7
import Derived.Test.YtffbfgmhfnbmfaaY4
namespace Go.Proofs.Ytffbfgmhfnbmfaa
open Go.RowKit

def NilDo (w : World) (e : Ending) (w' : World) : Prop := e = .returned (.tuple #[.pointer none, .bool true]) ∧ Fresh w w'

set_option maxRecDepth 100000 in
set_option maxHeartbeats 4000000 in
theorem do_nil (o : Nat) (k : Int) (r x y : Nat) (p s : Int) (a : Option Addr) (n c : Nat) (d : Nat → Nat) (w : World) (ho2 : o < 256) (hd : Bytes w a n d) (hnc : n ≤ c) :
    Calls Try.prog 33 #[.pointer none, .pointer none, opV o k r x y p s (.slice a n c)] w (NilDo w) := by
  obtain ⟨m, hm⟩ : ∃ m, m = min n 230 := ⟨_, rfl⟩
  obtain ⟨q, hq⟩ : ∃ q, q = o % 8 := ⟨_, rfl⟩
  have hqq : (o : Int).tmod 8 = (q : Int) := by rw [Int.tmod_eq_emod_of_nonneg (by omega)]; omega
  have hA := (Kept.refl (fun _ => False) w).alloc (.cells #[.int .u8 o, .int .i64 k, .int .u64 r, .int .u64 x, .int .u64 y, .int .i64 p, .int .i64 s, .slice a n c] 58)
  have hO := alloc_at w (.cells #[.int .u8 o, .int .i64 k, .int .u64 r, .int .u64 x, .int .u64 y, .int .i64 p, .int .i64 s, .slice a n c] 58)
  have hsA : w.heap.size < (w.alloc (.cells #[.int .u8 o, .int .i64 k, .int .u64 r, .int .u64 x, .int .u64 y, .int .i64 p, .int .i64 s, .slice a n c] 58)).heap.size := by simp
  have HA := Lib.hid (And.intro hA (And.intro hO (And.intro hsA (And.intro hm (And.intro hnc (And.intro hd hq))))))
  clear hA hO hsA hm hnc hd ho2 hq
  go_enter Try.func33, Try.ntmps33
  go_wp2_with fail
  generalize w.alloc (.cells #[.int .u8 o, .int .i64 k, .int .u64 r, .int .u64 x, .int .u64 y, .int .i64 p, .int .i64 s, .slice a n c] 58) = w0 at HA ⊢
  refine (few_any r x y p s a n c d _ (HA.out.2.2.2.2.2.1.kept HA.out.1 (by simp)) HA.out.2.2.2.2.1 m HA.out.2.2.2.1).mono ?_
  rintro e w1 ⟨a1, c1, rfl, hmc, hby, hnew, hsp, hF1⟩
  have hO1 := (hF1.block w.heap.size HA.out.2.2.1 (by simp)).trans HA.out.2.1
  have hF := HA.out.1.trans hF1
  have o0 := boxCell hO1 0
  have hlt := Nat.lt_of_lt_of_le HA.out.2.2.1 hF1.size
  have HC := Lib.hid (And.intro hF (And.intro hO1 (And.intro hmc (And.intro hby (And.intro hnew (And.intro hsp (And.intro hlt HA.out.2.2.1)))))))
  clear hmc hby hnew hsp hF1 hO1 hF
  go_upto_region 2 with fail
  obtain ⟨hF, hO1, hmc, hby, hnew, hsp, hlt, _⟩ := HC.out
  have hk1 := (Kept.refl (fun _ => False) w1).alloc (.cells #[.int .u64 r, .int .u64 x, .int .u64 y, .int .i64 p, .int .i64 s, .slice (some a1) m c1] 29)
  have hD : DoSt w (w1.alloc (.cells #[.int .u64 r, .int .u64 x, .int .u64 y, .int .i64 p, .int .i64 s, .slice (some a1) m c1] 29)) w1.heap.size o k r x y p s a n c a1 m c1 d :=
    ⟨(hk1.block _ hlt (by simp)).trans hO1, alloc_at w1 _, hF.trans hk1, hlt, hby.kept hk1 (by simp), by have := HA.out.1.size; omega, hnew.2, hsp, hmc⟩
  generalize w1.alloc (.cells #[.int .u64 r, .int .u64 x, .int .u64 y, .int .i64 p, .int .i64 s, .slice (some a1) m c1] 29) = W at hD ⊢
  have HD := Lib.hid hD
  clear hF hO1 hmc hby hnew hsp hlt hk1 o0 HC hD
  generalize w1.heap.size = T at HD ⊢
  have o0 := boxCell HD.out.box 0
  have o1 := boxCell HD.out.box 1
  have t2 := boxCell HD.out.few 2
  have t3 := boxCell HD.out.few 3
  have t4 := boxCell HD.out.few 4
  have hHW : w.heap.size < W.heap.size := (Array.getElem?_eq_some_iff.1 HD.out.box).1
  have hTW : T < W.heap.size := (Array.getElem?_eq_some_iff.1 HD.out.few).1
  have hcell : ∀ (W1 W2 : World) (b i : Nat) (u : Value) (S : Nat → Prop), Kept S W1 W2 → b < W1.heap.size → ¬ S b → W1.cell? ⟨b, i, none⟩ = some u → W2.cell? ⟨b, i, none⟩ = some u := fun W1 W2 b i u S hk hl hn hc => (hk.cell (p := ⟨b, i, none⟩) hl hn).trans hc
  have HC := Lib.hid hcell
  clear hcell
  by_cases h4 : q = 4
  · have h4' : ((q : Int) == 4) = true := by simp; omega
    clear h4
    go_upto_region 4 with fail
    go_region_held3 (fun W' => W'.cell? ⟨w.heap.size, 1, none⟩ = some (.int .i64 k) ∧ W'.cell? ⟨T, 2, none⟩ = some (.int .u64 y) ∧ W'.cell? ⟨T, 3, none⟩ = some (.int .i64 p) ∧ W'.cell? ⟨T, 4, none⟩ = some (.int .i64 s))
      (first | exact ⟨o1, t2, t3, t4⟩ | exact ⟨f1, f2, f3, f4⟩ | exact ⟨g1, g2, g3, g4⟩)
      (first
        | (go_at_call 17; refine (stamp_nil k y p s _).mono ?_; rintro e w17 ⟨rfl, hF17⟩; (
            have f1 := HC.out _ _ _ _ _ _ hF17 hHW (by simp) o1
            have f2 := HC.out _ _ _ _ _ _ hF17 hTW (by simp) t2
            have f3 := HC.out _ _ _ _ _ _ hF17 hTW (by simp) t3
            have f4 := HC.out _ _ _ _ _ _ hF17 hTW (by simp) t4))
        | (go_at_call 51; refine (rstamp_nil k y p s _).mono ?_; rintro e w51 ⟨rfl, hF51⟩; (
            have g1 := HC.out _ _ _ _ _ _ hF51 (Nat.lt_of_lt_of_le hHW hF17.size) (by simp) f1
            have g2 := HC.out _ _ _ _ _ _ hF51 (Nat.lt_of_lt_of_le hTW hF17.size) (by simp) f2
            have g3 := HC.out _ _ _ _ _ _ hF51 (Nat.lt_of_lt_of_le hTW hF17.size) (by simp) f3
            have g4 := HC.out _ _ _ _ _ _ hF51 (Nat.lt_of_lt_of_le hTW hF17.size) (by simp) f4)))
    go_wp2_with fail
    go_ret2
    exact ⟨rfl, (HD.out.fresh.drew.trans hF17).trans hF51⟩
  · have h4' : ((q : Int) == 4) = false := by simp; omega
    by_cases h56 : q = 5 ∨ q = 6
    · have HF : Hid (∀ w, Calls Try.prog 13 #[.pointer none, .int .i64 k] w (Quiet (.int .i64 15) w)) := Lib.hid fun w => free_no none k w fun w => bytesOf_nil k w
      have HR : Hid (∀ w, Calls Try.prog 52 #[.pointer none, .int .i64 k] w (Gives (.int .i64 15) w)) := Lib.hid fun w => rfree_none none k w (rget_nil k w)
      rcases h56 with h5 | h6
      · have h5' : ((q : Int) == 5) = true := by simp; omega
        clear h4 h5 t2 t3 t4
        go_upto_region 7 with fail
        go_region_held3 (fun W' => W'.cell? ⟨w.heap.size, 1, none⟩ = some (.int .i64 k))
          (first | exact o1 | exact f1 | exact g1)
          (first
            | (go_at_call 13; refine (HF.out _).mono ?_; rintro e w17 ⟨rfl, n17, rfl⟩; (
                have f1 : _ = some _ := o1))
            | (go_at_call 52; refine (HR.out _).mono ?_; rintro e w51 ⟨rfl, hF51⟩; (
                have g1 := HC.out _ _ _ _ _ _ hF51 hHW (by simp) o1)))
        go_wp2_with fail
        go_ret2
        exact ⟨rfl, (HD.out.fresh.drewN (1 + n17)).trans hF51⟩
      · have h5' : ((q : Int) == 5) = false := by simp; omega
        have h6' : ((q : Int) == 6) = true := by simp; omega
        clear h4 h6 t2 t3 t4
        go_upto_region 7 with fail
        go_region_held3 (fun W' => W'.cell? ⟨w.heap.size, 1, none⟩ = some (.int .i64 k))
          (first | exact o1 | exact f1 | exact g1)
          (first
            | (go_at_call 13; refine (HF.out _).mono ?_; rintro e w17 ⟨rfl, n17, rfl⟩; (
                have f1 : _ = some _ := o1))
            | (go_at_call 52; refine (HR.out _).mono ?_; rintro e w51 ⟨rfl, hF51⟩; (
                have g1 := HC.out _ _ _ _ _ _ hF51 hHW (by simp) o1)))
        go_wp2_with fail
        go_ret2
        exact ⟨rfl, (HD.out.fresh.drewN (1 + n17)).trans hF51⟩
    · have h5' : ((q : Int) == 5) = false := by simp; omega
      have h6' : ((q : Int) == 6) = false := by simp; omega
      by_cases h7 : q = 7
      · have h7' : ((q : Int) == 7) = true := by simp; omega
        clear h4 h56 h7 t2 t3 t4 o1
        go_wp2_with fail
        go_ret2
        exact ⟨rfl, HD.out.fresh⟩
      · have h7' : ((q : Int) == 7) = false := by simp; omega
        clear h4 h56 h7 t2 t3 t4 o1
        have u2 := boxCell HD.out.box 2
        have u3 := boxCell HD.out.box 3
        have u4 := boxCell HD.out.box 4
        have u5 := boxCell HD.out.box 5
        have u6 := boxCell HD.out.box 6
        have u7 := boxCell HD.out.box 7
        go_wp2_with fail
        refine (few_thaw r x y p s a n c d _ (HA.out.2.2.2.2.2.1.kept HD.out.fresh (by simp)) HA.out.2.2.2.2.1 m HA.out.2.2.2.1).mono ?_
        rintro e w2 ⟨⟨ab, ao, asp⟩, c2, rfl, hmc2, hby2, hnew2, hsp2, hF2⟩
        obtain ⟨hasp, hz2⟩ := hsp2
        obtain rfl : asp = none := hasp
        have hk3 := (Kept.refl (fun _ => False) w2).alloc (.cells #[.int .u64 r, .int .u64 x, .int .u64 y, .int .i64 p, .int .i64 s, .slice (some ⟨ab, ao, none⟩) m c2] 29)
        have hM3 := alloc_at w2 (.cells #[.int .u64 r, .int .u64 x, .int .u64 y, .int .i64 p, .int .i64 s, .slice (some ⟨ab, ao, none⟩) m c2] 29)
        have hab : W.heap.size ≤ ab ∧ ab < w2.heap.size := hnew2
        have hT3 := (hk3.block T (Nat.lt_of_lt_of_le hTW hF2.size) (by simp)).trans ((hF2.block T hTW (by simp)).trans HD.out.few)
        have HI := Lib.hid (And.intro hT3 (And.intro hM3 (And.intro (Soft.kept (Soft.of hby2 hz2) hk3 hnew2.2 (by simp)) (And.intro ((HD.out.fresh.trans hF2).trans hk3) (And.intro hab (And.intro (hby2.kept hk3 (by simp)) ((HD.out.by_.kept hF2 (by simp)).kept hk3 (by simp))))))))
        clear hmc2 hby2 hnew2 hz2 hF2 u2 u3 u4 u5 u6 u7 hk3 hM3 hT3 hab o0
        go_upto_region 14 with fail
        generalize w2.alloc (.cells #[.int .u64 r, .int .u64 x, .int .u64 y, .int .i64 p, .int .i64 s, .slice (some ⟨ab, ao, none⟩) m c2] 29) = W3 at HI ⊢
        generalize w2.heap.size = T2 at HI ⊢
        have m0 := boxCell HI.out.2.1 0
        have m1 := boxCell HI.out.2.1 1
        have m2 := boxCell HI.out.2.1 2
        have m3 := boxCell HI.out.2.1 3
        have m4 := boxCell HI.out.2.1 4
        have m5 := boxCell HI.out.2.1 5
        have hT2 : T2 < W3.heap.size := (Array.getElem?_eq_some_iff.1 HI.out.2.1).1
        have hT3 : T < W3.heap.size := (Array.getElem?_eq_some_iff.1 HI.out.1).1
        go_wp2_with fail
        refine (insert_nil r x y p s _ _ _ _).mono ?_
        rintro e w4 ⟨rfl, hF4⟩
        have HJ := Lib.hid hF4
        have c0 := boxCell ((HJ.out.block T hT3 (by simp)).trans HI.out.1) 0
        have c1' := boxCell ((HJ.out.block T hT3 (by simp)).trans HI.out.1) 1
        have c2' := boxCell ((HJ.out.block T hT3 (by simp)).trans HI.out.1) 2
        have c3 := boxCell ((HJ.out.block T hT3 (by simp)).trans HI.out.1) 3
        have c4 := boxCell ((HJ.out.block T hT3 (by simp)).trans HI.out.1) 4
        have c5 := boxCell ((HJ.out.block T hT3 (by simp)).trans HI.out.1) 5
        clear hF4 m0 m1 m2 m3 m4 m5
        go_wp2_with fail
        refine (rinsert_nil r x y p s _ _ _ _).mono ?_
        rintro e w5 ⟨rfl, hF5⟩
        have HK := Lib.hid (HJ.out.trans hF5)
        clear hF5 c0 c1' c2' c3 c4 c5
        have c0 := boxCell ((HK.out.block T hT3 (by simp)).trans HI.out.1) 0
        have c1' := boxCell ((HK.out.block T hT3 (by simp)).trans HI.out.1) 1
        have c2' := boxCell ((HK.out.block T hT3 (by simp)).trans HI.out.1) 2
        have c3 := boxCell ((HK.out.block T hT3 (by simp)).trans HI.out.1) 3
        have c4 := boxCell ((HK.out.block T hT3 (by simp)).trans HI.out.1) 4
        have c5 := boxCell ((HK.out.block T hT3 (by simp)).trans HI.out.1) 5
        have m0 := boxCell ((HK.out.block T2 hT2 (by simp)).trans HI.out.2.1) 0
        have m1 := boxCell ((HK.out.block T2 hT2 (by simp)).trans HI.out.2.1) 1
        have m2 := boxCell ((HK.out.block T2 hT2 (by simp)).trans HI.out.2.1) 2
        have m3 := boxCell ((HK.out.block T2 hT2 (by simp)).trans HI.out.2.1) 3
        have m4 := boxCell ((HK.out.block T2 hT2 (by simp)).trans HI.out.2.1) 4
        have m5 := boxCell ((HK.out.block T2 hT2 (by simp)).trans HI.out.2.1) 5
        go_wp2_with fail
        refine (tsame_any r x y p s (some ⟨ab, ao, none⟩) (some a1) m c2 c1 d d _ (HI.out.2.2.2.2.2.1.kept HK.out (by simp)) (by simp) (HI.out.2.2.2.2.2.2.kept HK.out (by simp)) (by simp) (fun _ _ => rfl)).mono ?_
        rintro e w6 ⟨rfl, hF6⟩
        have hK6 := HK.out.trans hF6
        have hwz := HD.out.fresh.size
        have HL := Lib.hid (And.intro ((hK6.block T2 hT2 (by simp)).trans HI.out.2.1) (And.intro (HI.out.2.2.1.kept hK6 (by have := HI.out.2.2.2.2.1; omega) (by simp)) (HI.out.2.2.2.1.trans hK6)))
        have hne : T2 ≠ ab := by have := HI.out.2.2.2.2.1; omega
        have hold : w.heap.size ≤ ab := by have := HI.out.2.2.2.2.1; omega
        have HN := Lib.hid (And.intro hne hold)
        clear hne hold hF6 hK6 hwz c0 c1' c2' c3 c4 c5 m0 m1 m2 m3 m4 m5
        have m5 := boxCell HL.out.1 5
        have hm230 : m ≤ 230 := by have := HA.out.2.2.2.1; omega
        go_wp2_with fail
        clear m5
        go_loopg [106] m (fun g s106 wr => ∃ i : Nat, i + g = m ∧ s106 = .int .i64 i ∧ wr.heap[T2]? = some (.cells #[.int .u64 r, .int .u64 x, .int .u64 y, .int .i64 p, .int .i64 s, .slice (some ⟨ab, ao, none⟩) m c2] 29) ∧ Soft wr ab ao m ∧ Fresh w wr)
        case atStart => exact ⟨0, by omega, rfl, HL.out⟩
        case round =>
          obtain ⟨i, hi, rfl, hb, hS, hF⟩ := hrel
          by_cases hil : i < m
          · have m5 := boxCell hb 5
            obtain ⟨z, hz⟩ := hS.cells i hil
            have hfr := hS.free (ao + i)
            have hil' : (i : Int) < (m : Int) := by omega
            have HM := Lib.hid (And.intro hb (And.intro hS (And.intro hF hi)))
            clear hb hS hF hi
            go_wp2_with fail
            go_roundg (gk - 1)
            case measure => have := HM.out.2.2.2; omega
            case rel => exact ⟨i + 1, by have := HM.out.2.2.2; omega, by go_num, (((Kept.refl (fun k => k = ab) _).setCell (p := ⟨ab, ao + i, none⟩) (fun _ => rfl) _).block T2 (Array.getElem?_eq_some_iff.1 HM.out.1).1 HN.out.1).trans HM.out.1, HM.out.2.1.put i _, HM.out.2.2.1.then ((Kept.refl (fun k => k = ab) _).setCell (p := ⟨ab, ao + i, none⟩) (fun _ => rfl) _) fun b hb e => by have := HN.out.2; omega⟩
          · obtain rfl : i = m := by omega
            have HM := Lib.hid hF
            clear hb hS hF hi hil
            go_wp2_with fail
            go_ret2
            exact ⟨rfl, HM.out⟩
end Go.Proofs.Ytffbfgmhfnbmfaa
