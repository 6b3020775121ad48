/- The walk of the reference's Bytes. -/
import Derived.Test.YtffbfgmhfnbmfaaPb
import Derived.Test.YtffbfgmhfnbmfaaRb
import Derived.Test.YtffbfgmhfnbmfaaW8
import Derived.Test.YtffbfgmhfnbmfaaPm
import Derived.Deep.Cut
namespace Go.Proofs.Ytffbfgmhfnbmfaa
open Go.RowKit

theorem run_made512 (w : World) : (Instr.makeSlice 22 (.int .i64 512) (.int .i64 512)).run Try.prog w = .ok (.slice (some ⟨w.heap.size, 0, none⟩) 512 512) (w.alloc (.cells (made 512) 5)) :=
  run_make_row' 22 5 (.int .u8 0) 1 und22 info5 rfl .i64 .i64 512 (by decide) (by decide) w

theorem fewb2i (z : Int) (x : Nat) (w : World) (hz : z = (x : Int)) (hx : x < 18446744073709551616) : Calls Try.prog 55 #[.int .u64 z, .int .i64 2] w (FewB x 2 w) := by subst hz; exact fewb2 x w hx

theorem lay_anyi (z : Int) (b at' m k : Nat) (a : Option Addr) (f d : Nat → Nat) (w : World) (hz : z = (at' : Int)) (hb : Byt w b 5 512 f) (hat : at' + m ≤ 512) (hd : Bytes w a m d) (hab : ∀ x, a = some x → x.block ≠ b) (hm : a = none → m = 0) :
    Calls Try.prog 54 #[.slice (some ⟨b, 0, none⟩) 512 512, .int .i64 z, .slice a m k] w (LaidB b 5 512 (over f at' m d) w) := by
  subst hz
  exact lay_any b 512 512 at' m k 5 512 a f d w hb (Nat.le_refl _) hat (by omega) hd hab hm

theorem packr_i (r x y : Nat) (p s : Int) (P S : Nat) (a : Option Addr) (m c : Nat) (d : Nat → Nat) (w : World) (hp : p = (P : Int) - 1) (hs : s = (S : Int) - 1) (hr : r ≤ 1099511627776) (hx : x ≤ 1099511627776) (hy : y ≤ 1099511627776) (hP : P ≤ 65536) (hS : S ≤ 65535) (hd : Bytes w a m d) (hm : m ≤ 1000) :
    Calls Try.prog 56 #[tupV r x y p s (.slice a m c)] w (PackR r x y P S m d w) := by
  subst hp hs
  exact packr_walk r x y P S a m c d w hr hx hy hP (by omega) hd hm

theorem wrap_u64i (z : Int) (h : 0 ≤ z) (h2 : z < 18446744073709551616) : IntKind.u64.wrap z = z := by simp only [IntKind.wrap, IntKind.bits, IntKind.signed]; simp; omega

theorem Bytes.back {S : Nat → Prop} {w w' : World} {a : Addr} {n : Nat} {d : Nat → Nat} (h : Bytes w' (some a) n d) (k : Kept S w w') (hb : a.block < w.heap.size) (hs : ¬ S a.block) : Bytes w (some a) n d := by
  refine ⟨h.byte, ?_⟩
  rcases h.cells with h0 | ⟨b, o, e, hlt, hc⟩
  · exact .inl h0
  · cases e
    exact .inr ⟨b, o, rfl, hb, fun j hj => (k.cell (p := ⟨b, o + j, .none⟩) hb hs).symm.trans (hc j hj)⟩

def RBytes (f : Nat → Nat) (w : World) (e : Ending) (w' : World) : Prop := ∃ a c, e = .returned (.slice (some a) 512 c) ∧ Bytes w' (some a) 512 f ∧ Fresh w w'

set_option maxRecDepth 100000 in
set_option maxHeartbeats 2000000 in
theorem rbytes_nil (w : World) : Calls Try.prog 34 #[.pointer none] w (Quiet (.slice none 0 0) w) := by
  go_enter Try.func34, Try.ntmps34
  go_wp2_with fail
  go_ret
  exact .of0

/-- The bytes that are being laid. -/
structure RbAt (w wr : World) (O : Nat) (g : Nat → Nat) : Prop where
  byt : Byt wr O 5 512 g
  fresh : Fresh w wr
  old : w.heap.size ≤ O

theorem RbAt.then {w wr wn : World} {O : Nat} {g : Nat → Nat} (h : RbAt w wr O g) (k : Fresh wr wn) : RbAt w wn O g := ⟨h.byt.kept k (by simp), h.fresh.trans k, h.old⟩
theorem RbAt.laid {w wr wn : World} {O : Nat} {g g' : Nat → Nat} (h : RbAt w wr O g) (k : Kept (· = O) wr wn) (hb : Byt wn O 5 512 g') : RbAt w wn O g' := ⟨hb, h.fresh.then k fun b hb e => by have := h.old; omega, h.old⟩

theorem OwnB.away {w : World} {v : Value} {n : Nat} {f : Nat → Nat} {lo : Nat} {a : Option Addr} {m c : Nat} (h : OwnB w v n f lo) (hv : v = .slice a m c) {O : Nat} (hO : O < lo) : ∀ x, a = some x → x.block ≠ O := fun x hx e => by
  subst hv hx
  have := (h.own (b := x.block) rfl).1
  omega

set_option maxRecDepth 100000 in
set_option maxHeartbeats 4000000 in
theorem rbytes_any (P : Nat → Prop) (R : Nat) (v : Value) (st : St) (w : World) (hw : RefIs P w R v st) (hst : Wf st) : Calls Try.prog 34 #[.pointer (some ⟨R, 0, none⟩)] w (RBytes (enc st) w) := by
  have hlow := hst.low
  have hhigh := hst.high
  obtain ⟨hb, hp, dv, hr, hd⟩ := hw
  obtain ⟨a, c, rfl⟩ := hr.form
  have hRl : R < w.heap.size := (Array.getElem?_eq_some_iff.1 hb).1
  obtain ⟨O, hO⟩ : ∃ O, O = w.heap.size := ⟨_, rfl⟩
  have hmk := run_made512
  have hB0 := made_byt w 512
  have hF0 := (Kept.refl (fun _ => False) w).alloc (.cells (made 512) 5)
  have hb1 := (hF0.block R hRl (by simp)).trans hb
  have HS := Lib.hid hst
  have HA := Lib.hid (And.intro hb (And.intro hr (And.intro hd (And.intro hRl (And.intro hO (And.intro hB0 hF0))))))
  clear hb hr hd hB0 hF0 hst
  have b0 := boxCell hb1 0
  go_enter Try.func34, Try.ntmps34
  go_upto_region 4 with fail
  clear hmk
  generalize w.alloc (.cells (made 512) 5) = w1 at HA b0 hb1 ⊢
  have HB := Lib.hid hb1
  clear hb1
  go_wp2_with fail
  refine (fewb2 st.slots.length _ (by omega)).mono ?_
  rintro e w2 ⟨v2, rfl, hO2, hF2⟩
  obtain ⟨a2, k2, rfl, hb2, _, hn2⟩ := hO2.open_
  have hAt1 : RbAt w w1 w.heap.size (fun _ => 0) := ⟨HA.out.2.2.2.2.2.1, HA.out.2.2.2.2.2.2, Nat.le_refl _⟩
  have H2 := Lib.hid (And.intro (hAt1.then hF2) (And.intro hb2 (And.intro hn2 (hO2.away rfl hAt1.byt.blk))))
  clear hAt1 hF2 hO2 hb2 hn2 b0
  go_wp2_with fail
  refine (lay_anyi 0 w.heap.size 0 2 k2 a2 _ _ _ rfl H2.out.1.byt (by omega) H2.out.2.1 H2.out.2.2.2 (fun h => absurd (H2.out.2.2.1 h) (by omega))).mono ?_
  rintro e w3 ⟨rfl, hby3, hk3⟩
  have H3 := Lib.hid (H2.out.1.laid hk3 hby3)
  have b1 := boxCell ((H3.out.fresh.block R HA.out.2.2.2.1 (by simp)).trans HA.out.1) 1
  clear hby3 hk3 H2
  go_wp2_with fail
  refine (fewb2 st.start _ (by omega)).mono ?_
  rintro e w4 ⟨v4, rfl, hO4, hF4⟩
  obtain ⟨a4, k4, rfl, hb4, _, hn4⟩ := hO4.open_
  have H4 := Lib.hid (And.intro (H3.out.then hF4) (And.intro hb4 (And.intro hn4 (hO4.away rfl H3.out.byt.blk))))
  clear hF4 hO4 hb4 hn4 b1 H3
  go_wp2_with fail
  refine (lay_anyi 2 w.heap.size 2 2 k4 a4 _ _ _ rfl H4.out.1.byt (by omega) H4.out.2.1 H4.out.2.2.2 (fun h => absurd (H4.out.2.2.1 h) (by omega))).mono ?_
  rintro e w5 ⟨rfl, hby5, hk5⟩
  rw [rb_start] at hby5
  have H5 := Lib.hid (H4.out.1.laid hk5 hby5)
  have b0 := boxCell ((H5.out.fresh.block R HA.out.2.2.2.1 (by simp)).trans HA.out.1) 0
  clear hby5 hk5 H4
  go_wp2_with fail
  clear b0
  go_loopg [31] st.slots.length (fun g s31 wr => ∃ i : Nat, i + g = st.slots.length ∧ s31 = .int .i64 i ∧ RbAt w wr w.heap.size (encG st.slots.length st.start (st.slots.take i) (dataOf (st.slots.take i))))
  case atStart => exact ⟨0, by omega, rfl, H5.out⟩
  case round =>
    clear H5
    obtain ⟨i, hi, rfl, hAt⟩ := hrel
    by_cases hil : i < st.slots.length
    · obtain ⟨B, rfl, h⟩ := RefIs.slot HA.out.2.1 HA.out.2.2.1 hAt.fresh (by simp) hil
      rcases h with ⟨e, _, ⟨c0, c1, c2, c3, c4, c5, c6, c7⟩⟩ | ⟨f, ver, da, dc, e, hget, ⟨c0, c1, c2, c3, c4, c5, c6, c7⟩, hdl, hdb, hda, _⟩
      · have hstep := rb_none HS.out st.slots.length st.start i hil e
        rw [hstep] at hAt
        have H := Lib.hid (And.intro hAt hi)
        clear hAt hi hstep e
        go_wp2_with fail
        go_roundg (gk - 1)
        case measure => have := H.out.2; omega
        case rel => exact ⟨i + 1, by have := H.out.2; omega, by go_num, H.out.1.then ((Kept.refl _ _).alloc _)⟩
      · have hstep := rb_some HS.out st.slots.length st.start i f ver hil e
        obtain ⟨hf1, hf2, hok⟩ := HS.out.inn i f ver hget
        have hl200 := hok.len
        have hz : ver.size = 30 + ver.data.length := rfl
        have h512 : f + (30 + ver.data.length) ≤ 512 := by omega
        have hdbw := Lib.hid (hdb.back hAt.fresh hda (by simp))
        have hA1 := (Kept.refl (fun _ => False) wr).alloc (.cells #[.bool true, .int .u64 ver.row, .int .u64 ver.x, .int .u64 ver.y, .int .i64 ((ver.P : Int) - 1), .int .i64 ((ver.S : Int) - 1), .slice (some da) ver.data.length dc, .int .i64 f] 84)
        have hB1 := alloc_at wr (.cells #[.bool true, .int .u64 ver.row, .int .u64 ver.x, .int .u64 ver.y, .int .i64 ((ver.P : Int) - 1), .int .i64 ((ver.S : Int) - 1), .slice (some da) ver.data.length dc, .int .i64 f] 84)
        have hT := hAt.byt.blk
        have H := Lib.hid (And.intro (hAt.then hA1) (And.intro hi (And.intro hstep (And.intro hok (And.intro hdb (And.intro hB1 (And.intro hT hz)))))))
        clear hAt hi hstep e hok hget hdl hdb hda hA1 hB1 hz hT
        go_upto_region 10 with fail
        generalize wr.alloc (.cells #[.bool true, .int .u64 ver.row, .int .u64 ver.x, .int .u64 ver.y, .int .i64 ((ver.P : Int) - 1), .int .i64 ((ver.S : Int) - 1), .slice (some da) ver.data.length dc, .int .i64 f] 84) = W at H ⊢
        clear c0 c1 c2 c3 c4 c5 c6 c7
        generalize wr.heap.size = T at H ⊢
        have t6 := boxCell H.out.2.2.2.2.2.1 6
        have t7 := boxCell H.out.2.2.2.2.2.1 7
        have hTW : T < W.heap.size := (Array.getElem?_eq_some_iff.1 H.out.2.2.2.2.2.1).1
        have hcell : ∀ (W1 W2 : World) (b i : Nat) (u : Value) (S : Nat → Prop), Kept S W1 W2 → b < W1.heap.size → ¬ S b → W1.cell? ⟨b, i, none⟩ = some u → W2.cell? ⟨b, i, none⟩ = some u := fun W1 W2 b i u S hk hl hn hc => (hk.cell (p := ⟨b, i, none⟩) hl hn).trans hc
        have hf16 : f < 18446744073709551616 := by omega
        have hs16 : ver.size < 18446744073709551616 := by have := H.out.2.2.2.2.2.2.2; omega
        have hat0 := H.out.1.then (Kept.refl (fun _ => False) W).drew
        have hTO : T ≠ w.heap.size := by have := H.out.2.2.2.2.2.2.1; omega
        have HX := Lib.hid (And.intro hat0 hcell)
        clear hat0 hcell
        have q1 := wrap_u64i (f : Int) (by omega) (by omega)
        have q2 := wrap_u64i (30 + (ver.data.length : Int)) (by omega) (by omega)
        have q3 := wrap_int (30 + (ver.data.length : Int)) (by omega) (by omega)
        have q4 := wrap_int (4 * (i : Int)) (by omega) (by omega)
        have q5 := wrap_int (4 + 4 * (i : Int)) (by omega) (by omega)
        go_region_held3 (fun W' => W'.cell? ⟨T, 6, none⟩ = some (.slice (some da) ver.data.length dc) ∧ W'.cell? ⟨T, 7, none⟩ = some (.int .i64 f)) (first | exact ⟨t6, t7⟩ | exact ⟨f6, f7⟩ | exact ⟨g6, g7⟩ | exact ⟨k6, k7⟩ | exact ⟨l6, l7⟩)
          (first
            | (go_at_call 55; (with_reducible refine (fewb2 f _ hf16).mono ?_); rintro e w6 ⟨v6, rfl, hO6, hF6⟩; (
                have hT6 := Nat.lt_of_lt_of_le hTW hF6.size
                have f6 := HX.out.2 _ _ _ _ _ _ hF6 hTW (by simp) t6
                have f7 := HX.out.2 _ _ _ _ _ _ hF6 hTW (by simp) t7))
            | (go_at_call 55; (with_reducible refine (fewb2i _ ver.size _ ?_ hs16).mono ?_); (have := H.out.2.2.2.2.2.2.2; omega); rintro e w7 ⟨v7, rfl, hO7, hF7⟩; (
                obtain ⟨a7, k7', rfl, hb7, _, _⟩ := hO7.open_
                have hT7 := Nat.lt_of_lt_of_le hT6 hF7.size
                have g6 := HX.out.2 _ _ _ _ _ _ hF7 hT6 (by simp) f6
                have g7 := HX.out.2 _ _ _ _ _ _ hF7 hT6 (by simp) f7))
            | (refine step_push rfl (.tmp 45) (.tmp 52) rfl rfl (v := v6) (lo := T + 1) rfl rfl ((hO6.kept hF7 (by simp)).low (show T + 1 ≤ W.drew.heap.size from hTW)) hT7 hb7 (.inl (by omega)) (by omega) ?_; intro v8 w8 hP8; (
                obtain ⟨a8, k8, rfl, hb8, _, hn8⟩ := hP8.row.open_
                have haw8 := hP8.row.away rfl (O := w.heap.size) (by have := H.out.2.2.2.2.2.2.1; omega)
                have hK8 := hP8.kept
                have hnT : ∀ b, v6.ownBlock = some b → T < b := fun b hb => by have := (hO6.own hb).1; have h2 : W.drew.heap.size = W.heap.size := rfl; omega
                have k6 := HX.out.2 _ _ _ _ _ _ hK8 hT7 (fun e => by have := hnT _ e; omega) g6
                have k7 := HX.out.2 _ _ _ _ _ _ hK8 hT7 (fun e => by have := hnT _ e; omega) g7
                have hat8 : RbAt w w8 w.heap.size _ := ⟨((HX.out.1.byt.kept hF6 (by simp)).kept hF7 (by simp)).kept hK8 (fun e => by have := hnT _ e; have := H.out.2.2.2.2.2.2.1; omega), (((HX.out.1.then hF6).then hF7).fresh).then hK8 (fun b hb e => by have := hnT _ e; have := H.out.2.2.2.2.2.2.1; omega), Nat.le_refl _⟩))
            | (go_at_call 54; (with_reducible refine (lay_anyi _ w.heap.size (4 + 4 * i) 4 k8 a8 _ _ _ ?_ hat8.byt ?_ hb8 haw8 ?_).mono ?_); (omega); (omega); (intro hh; exact absurd (hn8 hh) (by omega)); rintro e w9 ⟨rfl, hby9, hk9⟩; (
                have hT8 := Nat.lt_of_lt_of_le hT7 hK8.size
                have l6 := HX.out.2 _ _ _ _ _ _ hk9 hT8 hTO k6
                have l7 := HX.out.2 _ _ _ _ _ _ hk9 hT8 hTO k7)))
        have hbx9 := (hk9.block T hT8 hTO).trans ((hK8.block T hT7 (fun e => by have := hnT _ e; omega)).trans ((hF7.block T hT6 (by simp)).trans ((hF6.block T hTW (by simp)).trans H.out.2.2.2.2.2.1)))
        have hat9 := hat8.laid hk9 hby9
        have HY := Lib.hid (And.intro hat9 (And.intro hbx9 (hdbw.out.kept hat9.fresh (by simp))))
        clear hat9 hbx9 hat8 hby9 hk9 hK8 hF6 hF7 hO6 hO7 hb7 hb8 hn8 haw8 hnT hP8 t6 t7 f6 f7 g6 g7 k6 k7 l6 l7 hT6 hT7 hT8 hTW HX q1 q2 q3 q4 q5
        have t1 := boxCell HY.out.2.1 1
        have t2 := boxCell HY.out.2.1 2
        have t3 := boxCell HY.out.2.1 3
        have t4 := boxCell HY.out.2.1 4
        have t5 := boxCell HY.out.2.1 5
        have t6 := boxCell HY.out.2.1 6
        have t7 := boxCell HY.out.2.1 7
        go_upto_region 11 with fail
        have hTW9 : T < w9.heap.size := (Array.getElem?_eq_some_iff.1 HY.out.2.1).1
        have hfr := H.out.2.2.2.1.row
        have hfx := H.out.2.2.2.1.x
        have hfy := H.out.2.2.2.1.y
        have hfP := H.out.2.2.2.1.P
        have hfS := H.out.2.2.2.1.S
        go_region_held3 (fun W' => W'.cell? ⟨T, 1, none⟩ = some (.int .u64 ver.row) ∧ W'.cell? ⟨T, 2, none⟩ = some (.int .u64 ver.x) ∧ W'.cell? ⟨T, 3, none⟩ = some (.int .u64 ver.y) ∧ W'.cell? ⟨T, 4, none⟩ = some (.int .i64 ((ver.P : Int) - 1)) ∧ W'.cell? ⟨T, 5, none⟩ = some (.int .i64 ((ver.S : Int) - 1)) ∧ W'.cell? ⟨T, 6, none⟩ = some (.slice (some da) ver.data.length dc) ∧ W'.cell? ⟨T, 7, none⟩ = some (.int .i64 f))
          (first | exact ⟨t1, t2, t3, t4, t5, t6, t7⟩ | exact hS10 | exact hS11)
          (first
            | (go_at_call 56; (with_reducible refine (packr_i ver.row ver.x ver.y _ _ ver.P ver.S _ ver.data.length _ _ _ rfl rfl hfr hfx hfy hfP hfS (HY.out.2.2.kept (Kept.refl (fun _ => False) w9).drew (by simp)) (by omega)).mono ?_); rintro e w10 ⟨v10, rfl, hO10, hF10⟩; (
                obtain ⟨a10, k10, rfl, hb10, _, hn10⟩ := hO10.open_
                have hbx10 := (hF10.block T hTW9 (by simp)).trans HY.out.2.1
                have haw10 := hO10.away rfl (O := w.heap.size) HY.out.1.byt.blk
                have hat10 := (HY.out.1.then (Kept.refl (fun _ => False) w9).drew).then hF10
                have hS10 : _ ∧ _ ∧ _ ∧ _ ∧ _ ∧ _ ∧ _ := ⟨boxCell hbx10 1, boxCell hbx10 2, boxCell hbx10 3, boxCell hbx10 4, boxCell hbx10 5, boxCell hbx10 6, boxCell hbx10 7⟩))
            | (go_at_call 54; (with_reducible refine (lay_anyi _ w.heap.size f (30 + ver.data.length) k10 a10 _ _ _ ?_ hat10.byt ?_ hb10 haw10 ?_).mono ?_); (rfl); (omega); (intro hh; exact absurd (hn10 hh) (by omega)); rintro e w11 ⟨rfl, hby11, hk11⟩; (
                have hbx11 := (hk11.block T (Array.getElem?_eq_some_iff.1 hbx10).1 hTO).trans hbx10
                have hS11 : _ ∧ _ ∧ _ ∧ _ ∧ _ ∧ _ ∧ _ := ⟨boxCell hbx11 1, boxCell hbx11 2, boxCell hbx11 3, boxCell hbx11 4, boxCell hbx11 5, boxCell hbx11 6, boxCell hbx11 7⟩)))
        have hat11 := hat10.laid hk11 hby11
        rw [over_congr (d' := ver.byte) (fun j hj => packF_byte ver rfl rfl rfl rfl rfl rfl (fun j _ => rfl) j hj)] at hat11
        rw [← H.out.2.2.2.2.2.2.2, H.out.2.2.1] at hat11
        have HZ := Lib.hid hat11
        clear hat11 hS11 hbx11 hS10 hbx10 hat10 haw10 hn10 hb10 hO10 hF10 hby11 hk11 t1 t2 t3 t4 t5 t6 t7 HY
        go_wp2_with fail
        go_roundg (gk - 1)
        case measure => have := H.out.2.1; omega
        case rel => exact ⟨i + 1, by have := H.out.2.1; omega, by go_num, HZ.out⟩
    · obtain rfl : i = st.slots.length := by omega
      rw [rb_end] at hAt
      have H := Lib.hid hAt
      clear hAt hi hil
      go_wp2_with fail
      go_ret
      exact ⟨_, _, rfl, (H.out.byt.bytes 0 512 (by omega)).congr (fun j _ => by rw [Nat.zero_add]) H.out.byt.byte, H.out.fresh⟩
end Go.Proofs.Ytffbfgmhfnbmfaa
