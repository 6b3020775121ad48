/- The walk of PagePlays, where there is a page. -/
import Derived.Test.YtffbfgmhfnbmfaaY5
namespace Go.Proofs.Ytffbfgmhfnbmfaa
open Go.RowKit

/-- The page, and the reference's. -/
structure PX (w W : World) (R pb : Nat) (v : Value) (st : St) : Prop where
  page : Byt W pb 75 512 (enc st)
  wf : Wf st
  good : Good st
  ref : RefIs (fun b => b ≠ pb ∧ w.heap.size ≤ b) W R v st
  fresh : Fresh w W
  old : w.heap.size ≤ pb

theorem PX.kept {w W W' : World} {R pb : Nat} {v : Value} {st : St} (h : PX w W R pb v st) (k : Fresh W W') : PX w W' R pb v st :=
  ⟨h.page.kept k (by simp), h.wf, h.good, h.ref.fresh k, h.fresh.trans k, h.old⟩

def DoneP (w : World) (R : Nat) (_W : World) (e : Ending) (w' : World) : Prop := ∃ pb v st, e = .returned (.tuple #[.pointer (some ⟨pb, 0, none⟩), .bool true]) ∧ PX w w' R pb v st

theorem do_both (w : World) (R pb : Nat) (v : Value) (st : St) (o : Nat) (k : Int) (r x y : Nat) (p s : Int) (a : Option Addr) (n c : Nat) (d : Nat → Nat) (W : World) (h : PX w W R pb v st) (ho : o < 256) (hd : Bytes W a n d) (hnc : n ≤ c) :
    Calls Try.prog 33 #[.pointer (some ⟨pb, 0, none⟩), .pointer (some ⟨R, 0, none⟩), opV o k r x y p s (.slice a n c)] W (DoneP w R W) := by
  by_cases h7 : o % 8 = 7
  · refine (do7_any pb R st o k r x y p s a n c d W h.page h.wf h.good h7 ho hd hnc).mono ?_
    rintro e w5 ⟨q, rfl, hb, hq, hF⟩
    have hz := h.fresh.size
    exact ⟨q, v, st, rfl, hb, h.wf, h.good, (h.ref.narrow fun b hb hP => ⟨by omega, hP.2⟩).fresh hF, h.fresh.trans hF, by omega⟩
  · refine (do_any (fun b => b ≠ pb ∧ w.heap.size ≤ b) pb R v st o k r x y p s a n c d W (fun b hb => by have := h.fresh.size; have := h.page.blk; constructor <;> omega) (by simp) h.page h.wf h.ref h7 ho hd hnc).mono ?_
    rintro e w5 ⟨st', v', rfl, hst5, hp5, hr5, hk5, hg⟩
    refine ⟨pb, v', st', rfl, hp5, hst5, hg h.good, hr5, h.fresh.then hk5 fun b hb hh => ?_, h.old⟩
    obtain ⟨_, hpR, dv0, hr0, _⟩ := h.ref
    have hold := h.old
    rcases hh with hh | hh | hh
    · omega
    · have := hpR.2; omega
    · have := (hr0.own hh.symm).2.1.2; omega

set_option maxRecDepth 100000 in
set_option maxHeartbeats 4000000 in
theorem plays_page (a : Option Addr) (n c : Nat) (w : World) (h : Script w a n) (hn : n ≤ 9223372036854775807) :
    Calls Try.prog 8 #[.bool false, .slice a n c] w (Gives (.bool true) w) := by
  have HA := Lib.hid (And.intro h hn)
  clear h
  go_enter Try.func8, Try.ntmps8
  go_wp2_with fail
  refine (awake_any _).mono ?_
  rintro e w1 ⟨rfl, hF1⟩
  have HF := Lib.hid hF1
  clear hF1
  go_wp2_with fail
  refine (new_enc _).mono ?_
  rintro e w2 ⟨rfl, hp2, hs2, hF2⟩
  obtain ⟨pb0, hpb0⟩ : ∃ pb0, pb0 = w1.heap.size := ⟨_, rfl⟩
  rw [← hpb0] at hp2 ⊢
  have HF2 := Lib.hid (And.intro (HF.out.trans hF2) (And.intro hp2 (And.intro hs2 (And.intro hpb0 HF.out.size))))
  clear hF2 HF hp2 hs2 hpb0
  go_wp2_with fail
  refine (rnew_any (fun b => b ≠ pb0 ∧ w.heap.size ≤ b) w2 (by have := HF2.out; constructor <;> omega)).mono ?_
  rintro e w3 ⟨rfl, hr3, _, hF3⟩
  have hX0 : PX w w3 w2.heap.size pb0 (.slice none 0 0) st0 := ⟨HF2.out.2.1.kept hF3 (by simp), wf0, good0, hr3, HF2.out.1.trans hF3, by have := HF2.out; omega⟩
  have HF3 := Lib.hid hX0
  clear hF3 HF2 hr3 hX0
  generalize w2.heap.size = R at HF3 ⊢
  go_wp2_with fail
  go_loopg [5, 24] n (fun g s5 s24 wr => ∃ i : Nat, i + g = n ∧ s24 = .int .i64 i ∧ ∃ pb v st, s5 = .pointer (some ⟨pb, 0, none⟩) ∧ PX w wr R pb v st)
  case atStart => exact ⟨0, by omega, rfl, pb0, _, _, rfl, HF3.out⟩
  case round =>
    clear HF3
    obtain ⟨i, hi, rfl, pb, v, st, rfl, hX⟩ := hrel
    by_cases hil : i < n
    · have hil' : (i : Int) < (n : Int) := by omega
      rcases HA.out.1 with h0 | ⟨b, off, rfl, hb, hops⟩
      · omega
      obtain ⟨o, k, r, x, y, p, s, da, dn, dc, d, hop⟩ := hops i hil
      obtain ⟨c0, c1, c2, c3, c4, c5, c6, c7, hby, hle, ho⟩ := hop.fresh hX.fresh hb
      have HR := Lib.hid (And.intro hX (And.intro hi (And.intro hby (And.intro hle ho))))
      clear hX hi hby hle ho hop hops hb
      by_cases h40 : i < 40
      · have h40' := decide_eq_false (show ¬ (40 : Int) ≤ (i : Int) by omega)
        clear h40
        have hA := (Kept.refl (fun _ => False) wr).alloc (.cells #[.int .u8 o, .int .i64 k, .int .u64 r, .int .u64 x, .int .u64 y, .int .i64 p, .int .i64 s, .slice da dn dc] 58)
        have hB := alloc_at wr (.cells #[.int .u8 o, .int .i64 k, .int .u64 r, .int .u64 x, .int .u64 y, .int .i64 p, .int .i64 s, .slice da dn dc] 58)
        have HR2 := Lib.hid (And.intro (HR.out.1.kept hA) (And.intro (HR.out.2.2.1.kept hA (by simp)) hB))
        clear hA hB
        go_upto_region 9 with fail
        clear c0 c1 c2 c3 c4 c5 c6 c7
        generalize wr.alloc (.cells #[.int .u8 o, .int .i64 k, .int .u64 r, .int .u64 x, .int .u64 y, .int .i64 p, .int .i64 s, .slice da dn dc] 58) = W at HR2 ⊢
        generalize wr.heap.size = T at HR2 ⊢
        have t0 := boxCell HR2.out.2.2 0
        have t1 := boxCell HR2.out.2.2 1
        have t2 := boxCell HR2.out.2.2 2
        have t3 := boxCell HR2.out.2.2 3
        have t4 := boxCell HR2.out.2.2 4
        have t5 := boxCell HR2.out.2.2 5
        have t6 := boxCell HR2.out.2.2 6
        have t7 := boxCell HR2.out.2.2 7
        go_wp2_with fail
        refine (do_both w R pb v st o k r x y p s da dn dc d _ HR2.out.1 HR.out.2.2.2.2 HR2.out.2.1 HR.out.2.2.2.1).mono ?_
        rintro e w5 ⟨pb5, v5, st5, rfl, hX5⟩
        have H5 := Lib.hid hX5
        clear hX5 t0 t1 t2 t3 t4 t5 t6 t7 HR2
        go_wp2_with fail
        refine (bytes_any pb5 _ _ H5.out.page).mono ?_
        rintro e w6 ⟨a6, c6, rfl, hby6, _, hF6⟩
        have H6 := Lib.hid (And.intro (H5.out.kept hF6) hby6)
        clear hby6 hF6 H5
        go_wp2_with fail
        refine (rbytes_any _ R v5 st5 _ H6.out.1.ref H6.out.1.wf).mono ?_
        rintro e w7 ⟨a7, c7, rfl, hby7, hF7⟩
        have H7 := Lib.hid (And.intro (H6.out.1.kept hF7) (And.intro (H6.out.2.kept hF7 (by simp)) hby7))
        clear hby7 hF7 H6
        go_wp2_with fail
        refine (same_any _ _ _ _ _ _ _ _ _ H7.out.2.1 (by simp) H7.out.2.2 (by simp)).mono ?_
        rintro e w8 ⟨rfl, rfl⟩
        have hs : sameB 512 (enc st5) 512 (enc st5) = true := decide_eq_true ⟨rfl, fun _ _ => rfl⟩
        rw [hs]
        have H8 := Lib.hid H7.out.1
        clear hs H7
        obtain ⟨rm, hrm⟩ : ∃ rm, rm = roomA st5.slots := ⟨_, rfl⟩
        obtain ⟨us, hus⟩ : ∃ us, us = usedA st5.slots := ⟨_, rfl⟩
        have HU := Lib.hid (And.intro hrm hus)
        clear hrm hus
        go_wp2_with fail
        refine (room_enc pb5 st5 _ H8.out.page H8.out.wf).mono ?_
        rintro e w9 hq
        rw [← HU.out.1] at hq
        obtain ⟨rfl, hF9⟩ := hq.fresh
        have H9 := Lib.hid (H8.out.kept hF9)
        clear hq hF9 H8
        go_wp2_with fail
        refine (rroom_any _ R v5 st5 _ H9.out.ref H9.out.wf).mono ?_
        rintro e w10 hq
        rw [← HU.out.1] at hq
        obtain ⟨rfl, hF10⟩ := hq
        have H10 := Lib.hid (H9.out.kept hF10)
        clear hF10 H9
        go_wp2_with fail
        refine (used_enc pb5 st5 _ H10.out.page H10.out.wf).mono ?_
        rintro e w11 hq
        rw [← HU.out.2] at hq
        obtain ⟨rfl, hF11⟩ := hq.fresh
        have H11 := Lib.hid (H10.out.kept hF11)
        clear hq hF11 H10
        go_wp2_with fail
        refine (rused_any _ R v5 st5 _ H11.out.ref (by have := H11.out.wf.low; have := H11.out.wf.high; omega)).mono ?_
        rintro e w12 hq
        rw [← HU.out.2] at hq
        obtain ⟨rfl, hF12⟩ := hq
        have H12 := Lib.hid (H11.out.kept hF12)
        clear hF12 H11
        obtain ⟨N, hN⟩ : ∃ N, N = st5.slots.length := ⟨_, rfl⟩
        obtain ⟨ra, rc, hrv⟩ : ∃ ra rc, v5 = .slice ra N rc := by
          obtain ⟨dv, hr, _⟩ := H12.out.ref.dat
          obtain ⟨ra, rc, h⟩ := hr.form
          exact ⟨ra, rc, by rw [hN]; exact h⟩
        have hr0 := H12.out.ref.box
        rw [hrv] at hr0
        have r0 := boxCell hr0 0
        have hN200 : N ≤ 200 := by have := H12.out.wf.low; have := H12.out.wf.high; omega
        have HN := Lib.hid hN
        clear hN hrv hr0
        go_wp2_with fail
        clear r0
        refine (slots_enc pb5 st5 _ H12.out.page H12.out.wf).mono ?_
        rintro e w13 hq
        rw [← HN.out] at hq
        obtain ⟨rfl, hF13⟩ := hq.fresh
        have H13 := Lib.hid (H12.out.kept hF13)
        clear hq hF13 H12
        obtain ⟨gq, hgq⟩ : ∃ gq, gq = gk := ⟨gk, rfl⟩
        have HGQ := Lib.hid hgq
        clear hgq
        go_wp2_with fail
        go_loopg [12] (N + 2) (fun g s12 wr => ∃ j : Nat, j + g = N + 2 ∧ s12 = .int .i64 ((j : Int) - 1) ∧ PX w wr R pb5 v5 st5)
        case atStart => exact ⟨0, by omega, rfl, H13.out⟩
        case round =>
          clear H13
          obtain ⟨j, hj, rfl, hF⟩ := hrel
          have HJ := Lib.hid (And.intro hj hF)
          clear hj hF
          by_cases hj2 : j < N + 2
          · have hjl := decide_eq_true (show (j : Int) - 1 ≤ (N : Int) by omega)
            cases hth : thereB st5 ((j : Int) - 1)
            · have HTH := Lib.hid hth
              clear hth
              go_wp2_with fail
              refine (pget_none pb5 st5 _ _ HJ.out.2.page HJ.out.2.wf HTH.out).mono ?_
              rintro e w14 ⟨rfl, hF14⟩
              have hA := (Kept.refl (fun _ => False) w14).alloc (.cells #[.int .u64 0, .int .u64 0, .int .u64 0, .int .i64 0, .int .i64 0, .slice none 0 0] 29)
              have hB := alloc_at w14 (.cells #[.int .u64 0, .int .u64 0, .int .u64 0, .int .i64 0, .int .i64 0, .slice none 0 0] 29)
              have H14 := Lib.hid (And.intro (HJ.out.2.kept (hF14.trans hA)) hB)
              clear hF14 hA hB
              go_upto_region 23 with fail
              generalize w14.alloc (.cells #[.int .u64 0, .int .u64 0, .int .u64 0, .int .i64 0, .int .i64 0, .slice none 0 0] 29) = W14 at H14 ⊢
              generalize w14.heap.size = T1 at H14 ⊢
              go_wp2_with fail
              refine (rget_none _ R v5 st5 _ _ H14.out.1.ref HTH.out).mono ?_
              rintro e w15 ⟨rfl, hF15⟩
              have hA := (Kept.refl (fun _ => False) w15).alloc (.cells #[.int .u64 0, .int .u64 0, .int .u64 0, .int .i64 0, .int .i64 0, .slice none 0 0] 29)
              have hB := alloc_at w15 (.cells #[.int .u64 0, .int .u64 0, .int .u64 0, .int .i64 0, .int .i64 0, .slice none 0 0] 29)
              have hlt := (Array.getElem?_eq_some_iff.1 H14.out.2).1
              have H15 := Lib.hid (And.intro (H14.out.1.kept (hF15.trans hA)) (And.intro ((hA.block T1 (Nat.lt_of_lt_of_le hlt hF15.size) (by simp)).trans ((hF15.block T1 hlt (by simp)).trans H14.out.2)) hB))
              clear hF15 hA hB hlt H14
              go_upto_region 24 with fail
              generalize w15.alloc (.cells #[.int .u64 0, .int .u64 0, .int .u64 0, .int .i64 0, .int .i64 0, .slice none 0 0] 29) = W15 at H15 ⊢
              generalize w15.heap.size = T2 at H15 ⊢
              have a0 := boxCell H15.out.2.1 0
              have a1 := boxCell H15.out.2.1 1
              have a2 := boxCell H15.out.2.1 2
              have a3 := boxCell H15.out.2.1 3
              have a4 := boxCell H15.out.2.1 4
              have a5 := boxCell H15.out.2.1 5
              have b0 := boxCell H15.out.2.2 0
              have b1 := boxCell H15.out.2.2 1
              have b2 := boxCell H15.out.2.2 2
              have b3 := boxCell H15.out.2.2 3
              have b4 := boxCell H15.out.2.2 4
              have b5 := boxCell H15.out.2.2 5
              go_wp2_with fail
              refine (tsame_any 0 0 0 0 0 none none 0 0 0 (fun _ => 0) (fun _ => 0) _ ⟨fun _ => by omega, .inl rfl⟩ (fun _ => rfl) ⟨fun _ => by omega, .inl rfl⟩ (fun _ => rfl) (fun _ _ => rfl)).mono ?_
              rintro e w16 ⟨rfl, hF16⟩
              have H16 := Lib.hid (H15.out.1.kept hF16)
              clear hF16 a0 a1 a2 a3 a4 a5 b0 b1 b2 b3 b4 b5 H15
              go_wp2_with fail
              go_roundg (gk - 1)
              case measure => have := HJ.out.1; omega
              case rel => exact ⟨j + 1, by have := HJ.out.1; omega, by go_num, H16.out⟩
            · obtain ⟨kk, f, ver, hkk, hslot⟩ := there_yes hth
              have hkb : kk ≤ 300 := by omega
              have HTH := Lib.hid (And.intro hkk hslot)
              clear hth hkk hslot
              go_wp2_with fail
              rw [HTH.out.1]
              refine (get_enc pb5 kk f ver st5 _ HJ.out.2.page HJ.out.2.wf HTH.out.2).mono ?_
              rintro e w14 ⟨ga, gc, rfl, hgb, _, _, hF14⟩
              have hA := (Kept.refl (fun _ => False) w14).alloc (.cells #[.int .u64 ver.row, .int .u64 ver.x, .int .u64 ver.y, .int .i64 ((ver.P : Int) - 1), .int .i64 ((ver.S : Int) - 1), .slice (some ga) ver.data.length gc] 29)
              have hB := alloc_at w14 (.cells #[.int .u64 ver.row, .int .u64 ver.x, .int .u64 ver.y, .int .i64 ((ver.P : Int) - 1), .int .i64 ((ver.S : Int) - 1), .slice (some ga) ver.data.length gc] 29)
              have H14 := Lib.hid (And.intro (HJ.out.2.kept (hF14.trans hA)) (And.intro hB (hgb.kept hA (by simp))))
              clear hF14 hA hB hgb
              go_upto_region 23 with fail
              generalize w14.alloc (.cells #[.int .u64 ver.row, .int .u64 ver.x, .int .u64 ver.y, .int .i64 ((ver.P : Int) - 1), .int .i64 ((ver.S : Int) - 1), .slice (some ga) ver.data.length gc] 29) = W14 at H14 ⊢
              generalize w14.heap.size = T1 at H14 ⊢
              go_wp2_with fail
              refine (rget_has _ R v5 st5 _ kk f ver H14.out.1.ref HTH.out.2).mono ?_
              rintro e w15 ⟨da', dc', hRG, _, hdb, _, _⟩
              obtain ⟨rfl, hF15⟩ := hRG
              have hA := (Kept.refl (fun _ => False) w15).alloc (.cells #[.int .u64 ver.row, .int .u64 ver.x, .int .u64 ver.y, .int .i64 ((ver.P : Int) - 1), .int .i64 ((ver.S : Int) - 1), .slice (some da') ver.data.length dc'] 29)
              have hB := alloc_at w15 (.cells #[.int .u64 ver.row, .int .u64 ver.x, .int .u64 ver.y, .int .i64 ((ver.P : Int) - 1), .int .i64 ((ver.S : Int) - 1), .slice (some da') ver.data.length dc'] 29)
              have hlt := (Array.getElem?_eq_some_iff.1 H14.out.2.1).1
              have H15 := Lib.hid (And.intro (H14.out.1.kept (hF15.trans hA)) (And.intro ((hA.block T1 (Nat.lt_of_lt_of_le hlt hF15.size) (by simp)).trans ((hF15.block T1 hlt (by simp)).trans H14.out.2.1)) (And.intro hB (And.intro (H14.out.2.2.kept (hF15.trans hA) (by simp)) (hdb.kept (hF15.trans hA) (by simp))))))
              clear hF15 hA hB hlt H14 hdb
              go_upto_region 24 with fail
              generalize w15.alloc (.cells #[.int .u64 ver.row, .int .u64 ver.x, .int .u64 ver.y, .int .i64 ((ver.P : Int) - 1), .int .i64 ((ver.S : Int) - 1), .slice (some da') ver.data.length dc'] 29) = W15 at H15 ⊢
              generalize w15.heap.size = T2 at H15 ⊢
              have a0 := boxCell H15.out.2.1 0
              have a1 := boxCell H15.out.2.1 1
              have a2 := boxCell H15.out.2.1 2
              have a3 := boxCell H15.out.2.1 3
              have a4 := boxCell H15.out.2.1 4
              have a5 := boxCell H15.out.2.1 5
              have b0 := boxCell H15.out.2.2.1 0
              have b1 := boxCell H15.out.2.2.1 1
              have b2 := boxCell H15.out.2.2.1 2
              have b3 := boxCell H15.out.2.2.1 3
              have b4 := boxCell H15.out.2.2.1 4
              have b5 := boxCell H15.out.2.2.1 5
              go_wp2_with fail
              refine (tsame_any ver.row ver.x ver.y _ _ (some ga) (some da') ver.data.length _ _ _ _ _ H15.out.2.2.2.1 (by simp) H15.out.2.2.2.2 (by simp) (fun _ _ => rfl)).mono ?_
              rintro e w16 ⟨rfl, hF16⟩
              have H16 := Lib.hid (H15.out.1.kept hF16)
              clear hF16 a0 a1 a2 a3 a4 a5 b0 b1 b2 b3 b4 b5 H15
              go_wp2_with fail
              go_roundg (gk - 1)
              case measure => have := HJ.out.1; omega
              case rel => exact ⟨j + 1, by have := HJ.out.1; omega, by have := HTH.out.1; congr 1; omega, H16.out⟩
          · obtain rfl : j = N + 2 := by have := HJ.out.1; omega
            clear hj2
            go_wp2_with fail
            go_roundg (gq - 1)
            case measure => have := HR.out.2.1; have := HGQ.out; omega
            case rel => exact ⟨i + 1, by have := HR.out.2.1; have := HGQ.out; omega, by go_num, pb5, v5, st5, rfl, HJ.out.2⟩
      · have h40' := decide_eq_true (show (40 : Int) ≤ (i : Int) by omega)
        clear h40
        go_wp2_with fail
        go_ret
        exact ⟨rfl, HR.out.1.fresh.alloc _⟩
    · obtain rfl : i = n := by omega
      have H := Lib.hid hX.fresh
      clear hi hX hil
      go_wp2_with fail
      go_ret
      exact ⟨rfl, H.out⟩
end Go.Proofs.Ytffbfgmhfnbmfaa
