/- The walk of PageStays. -/
import Derived.Test.YtffbfgmhfnbmfaaYq
import Derived.Deep.Cut
import Derived.Deep.CutRange
import Derived.Deep.CutBlock
import Derived.StillTailTactics
namespace Go.Proofs.Ytffbfgmhfnbmfaa
open Go.RowKit

set_option maxRecDepth 100000 in
set_option maxHeartbeats 1000000 in
theorem pget_none (b : Nat) (st : St) (w : World) (k : Int) (hw : Byt w b 75 512 (enc st)) (hst : Wf st) (h : thereB st k = false) : Calls Try.prog 19 #[.pointer (some ⟨b, 0, none⟩), .int .i64 k] w (NoGet w) := by
  have hnil := isnil
  have hno : bytI b (enc st) k = .slice none 0 0 := bytI_no (by rw [there_has hst]; exact h)
  have H := Lib.hid hno
  have hf := hst.fits
  clear h hno hst
  go_enter Try.func19, Try.ntmps19
  go_wp2_with fail
  refine (bytesOf_int b k _ _ (hw.kept ((Kept.refl (fun _ => False) w).alloc _) (by simp)) hf).mono ?_
  rintro e w1 ⟨rfl, m, rfl⟩
  rw [H.out]
  go_wp2_with fail
  have hB := alloc_at w (.cells #[.int .u64 0, .int .u64 0, .int .u64 0, .int .i64 0, .int .i64 0, .slice none 0 0] 29)
  have hF : Fresh w ((w.alloc (.cells #[.int .u64 0, .int .u64 0, .int .u64 0, .int .i64 0, .int .i64 0, .slice none 0 0] 29)).drewN m) := ((Kept.refl (fun _ => False) w).alloc _).drewN m
  have hB' : ((w.alloc (.cells #[.int .u64 0, .int .u64 0, .int .u64 0, .int .i64 0, .int .i64 0, .slice none 0 0] 29)).drewN m).heap[w.heap.size]? = some (.cells #[.int .u64 0, .int .u64 0, .int .u64 0, .int .i64 0, .int .i64 0, .slice none 0 0] 29) := hB
  generalize (w.alloc (.cells #[.int .u64 0, .int .u64 0, .int .u64 0, .int .i64 0, .int .i64 0, .slice none 0 0] 29)).drewN m = w1 at hB' hF ⊢
  have hB6 := store6_box hB' (.int .u64 0) (.int .u64 0) (.int .u64 0) (.int .i64 0) (.int .i64 0) (.slice none 0 0)
  have hK6 := hF.then (store6_kept w1 w.heap.size (.int .u64 0) (.int .u64 0) (.int .u64 0) (.int .i64 0) (.int .i64 0) (.slice none 0 0)) fun i hi e => by omega
  change bodyPost _ _ _ _ _ (store6 w1 w.heap.size (.int .u64 0) (.int .u64 0) (.int .u64 0) (.int .i64 0) (.int .i64 0) (.slice none 0 0))
  generalize store6 w1 w.heap.size (.int .u64 0) (.int .u64 0) (.int .u64 0) (.int .i64 0) (.int .i64 0) (.slice none 0 0) = w6 at hB6 hK6 ⊢
  have X := Box6.of hB6
  refine bodyPost_ret (v := .tuple #[tup0, .bool false]) ?_ rfl ⟨rfl, hK6⟩
  simp [results, Try.results19, go_sem, X.c0, X.c1, X.c2, X.c3, X.c4, X.c5]



/-- Get of any slot, to be kept. -/
def PGot (st : St) (k : Nat) (w : World) (e : Ending) (w' : World) : Prop :=
  ∃ cs t, e = .returned (.tuple #[.agg cs, .bool t]) ∧ cs.size = 6 ∧ (∃ c0 c1 c2 c3 c4 a n c, cs = #[.int .u64 c0, .int .u64 c1, .int .u64 c2, .int .i64 c3, .int .i64 c4, .slice a n c]) ∧ Fresh w w' ∧
    ToldAt w' (fun b => w.heap.size ≤ b) (verAt st k) (fun j => cs.getD j default) (.bool t)

theorem pget_any (b k : Nat) (st : St) (w : World) (hw : Byt w b 75 512 (enc st)) (hst : Wf st) : Calls Try.prog 19 #[.pointer (some ⟨b, 0, none⟩), .int .i64 k] w (PGot st k w) := by
  cases hv : verAt st k with
  | none =>
    refine (pget_none b st w k hw hst (by rw [there_verAt, hv]; rfl)).mono ?_
    rintro e w' ⟨rfl, hF⟩
    refine ⟨_, _, rfl, rfl, ⟨_, _, _, _, _, _, _, _, rfl⟩, hF, ?_⟩
    rw [hv]
    exact ⟨fun j hj => rfl, rfl⟩
  | some v =>
    obtain ⟨f, hk⟩ := verAt_get hv
    refine (get_enc b k f v st w hw hst hk).mono ?_
    rintro e w' ⟨a, c, rfl, hby, h1, h2, hF⟩
    refine ⟨_, _, rfl, rfl, ⟨_, _, _, _, _, _, _, _, rfl⟩, hF, ?_⟩
    rw [hv]
    exact ⟨a, c, fun j hj => rfl, rfl, hby, fun _ => h1⟩

def Behind (w0 : World) (pb : Nat) (st : St) (v6 v7 : Value) (U T : Nat → Nat → Value) (s13 : Value) (wx : World) : Prop :=
  ∃ sl sp, s13 = .int .i64 sl ∧ Wf sp ∧ (∀ j : Nat, (j : Int) ≠ sl → verAt sp j = verAt st j) ∧ Was w0 wx pb sp st st.slots.length v6 v7 U T

set_option maxRecDepth 100000 in
set_option maxHeartbeats 8000000 in
theorem stays_walk (a : Option Addr) (n c : Nat) (o : Nat) (k : Int) (r x y : Nat) (p s : Int) (da : Option Addr) (dn dc : Nat) (d : Nat → Nat) (w : World) (h : Script w a n) (hn : n ≤ 9223372036854775807) (hd : Bytes w da dn d) (hdc : dn ≤ dc) (ho : o < 256) :
    Calls Try.prog 6 #[.slice a n c, opV o k r x y p s (.slice da dn dc)] w (Gives (.bool true) w) := by
  have hA := (Kept.refl (fun _ => False) w).alloc (.cells #[.int .u8 o, .int .i64 k, .int .u64 r, .int .u64 x, .int .u64 y, .int .i64 p, .int .i64 s, .slice da dn dc] 58)
  have hO := alloc_at w (.cells #[.int .u8 o, .int .i64 k, .int .u64 r, .int .u64 x, .int .u64 y, .int .i64 p, .int .i64 s, .slice da dn dc] 58)
  have hs0 : (w.alloc (.cells #[.int .u8 o, .int .i64 k, .int .u64 r, .int .u64 x, .int .u64 y, .int .i64 p, .int .i64 s, .slice da dn dc] 58)).heap.size = w.heap.size + 1 := by simp
  have HA := Lib.hid (And.intro hA (And.intro hO (And.intro hs0 (And.intro h (And.intro hn (And.intro hd (And.intro hdc ho)))))))
  clear hA hO hs0 h hn hd hdc ho
  go_enter Try.func6, Try.ntmps6
  go_wp2_with fail
  generalize w.alloc (.cells #[.int .u8 o, .int .i64 k, .int .u64 r, .int .u64 x, .int .u64 y, .int .i64 p, .int .i64 s, .slice da dn dc] 58) = w0 at HA ⊢
  refine (awake_any _).mono ?_
  rintro e w1 ⟨rfl, hF1⟩
  have HF := Lib.hid hF1
  clear hF1
  go_wp2_with fail
  refine (build_any a n c _ ((HA.out.2.2.2.1.fresh HA.out.1).fresh HF.out) HA.out.2.2.2.2.1).mono ?_
  rintro e w2 ⟨pb, st, rfl, hst, hp, hF2, hpb⟩
  have hlow := hst.low
  have hhigh := hst.high
  have HS := Lib.hid hst
  have HB := Lib.hid (And.intro hp (And.intro (HF.out.trans hF2) hpb))
  clear hst hp hF2 hpb
  go_wp2_with fail
  refine (slots_enc pb st _ HB.out.1 HS.out).mono ?_
  rintro e w3 ⟨rfl, n3, rfl⟩
  go_wp2_with fail
  have hW0 : Was w0 (w2.drewN n3) pb st st 0 (.slice none 0 0) (.slice none 0 0) (fun _ _ => default) (fun _ _ => default) :=
    ⟨HB.out.1.drewN n3, HB.out.2.1.drewN n3, by have := HB.out.2.2; have := HF.out.size; omega, .nil .., .nil .., by simp [Value.ownBlock], by simp [Value.ownBlock], by simp [Value.ownBlock], fun k hk => by omega⟩
  clear HB HF
  go_loopg [6, 7, 27] st.slots.length (fun g s6 s7 s27 wr => ∃ i : Nat, i + g = st.slots.length ∧ s27 = .int .i64 i ∧ ∃ U T, Was w0 wr pb st st i s6 s7 U T)
  case atStart => exact ⟨0, by omega, rfl, _, _, hW0⟩
  case round =>
    clear hW0
    obtain ⟨i, hi, rfl, U, T', hW⟩ := hrel
    obtain ⟨a6, c6, rfl⟩ := hW.row6.form
    obtain ⟨a7, c7, rfl⟩ := hW.row7.form
    have HW := Lib.hid (And.intro hW hi)
    clear hW
    by_cases hil : i < st.slots.length
    · clear hi
      go_wp2_with fail
      refine (pget_any pb i st _ HW.out.1.page HS.out).mono ?_
      rintro e w4 ⟨cs, t, rfl, hcs, ⟨c0, c1, c2, c3, c4, ga, gn, gc, rfl⟩, hF4, htold⟩
      have hA4 := (Kept.refl (fun _ => False) w4).alloc (.cells #[.int .u64 c0, .int .u64 c1, .int .u64 c2, .int .i64 c3, .int .i64 c4, .slice ga gn gc] 29)
      have hN4 : (w4.alloc (.cells #[.int .u64 c0, .int .u64 c1, .int .u64 c2, .int .i64 c3, .int .i64 c4, .slice ga gn gc] 29)).heap.size = w4.heap.size + 1 := by simp
      obtain ⟨v6', W1, N1, v7', W2, ⟨hr6, hN1, hr7⟩, U', T2, hW2⟩ := HW.out.1.push (hF4.trans hA4) (by omega) (w4.heap.size + 1) hN4.symm #[.int .u64 c0, .int .u64 c1, .int .u64 c2, .int .i64 c3, .int .i64 c4, .slice ga gn gc] hcs (fun j hj => by
        match j, hj with
        | 0, _ => rfl
        | 1, _ => rfl
        | 2, _ => rfl
        | 3, _ => rfl
        | 4, _ => rfl
        | 5, _ => rfl) t (htold.kept hA4 (by simp))
      have H6 := Lib.hid hr6
      rw [hN1] at hr7
      have H7 := Lib.hid hr7
      have HW2 := Lib.hid hW2
      clear hr6 hr7 hN1 hW2 hcs hF4 htold hA4 hN4
      go_wp2_with (first | (refine wpList_append_run _ _ rfl rfl H6.out ?_) | (refine wpList_append_run _ _ rfl rfl H7.out ?_))
      go_roundg (gk - 1)
      case measure => have := HW.out.2; omega
      case rel => exact ⟨i + 1, by have := HW.out.2; omega, by go_num, U', T2, HW2.out⟩
    · obtain rfl : i = st.slots.length := by omega
      clear hi hil
      obtain ⟨m, hm⟩ : ∃ m, m = min dn 230 := ⟨_, rfl⟩
      obtain ⟨q, hq⟩ : ∃ q, q = o % 3 := ⟨_, rfl⟩
      have hqq : (o : Int).tmod 3 = (q : Int) := by rw [Int.tmod_eq_emod_of_nonneg (by omega)]; omega
      have HM := Lib.hid (And.intro hm hq)
      clear hm hq
      have hO := (HW.out.1.fresh.block w.heap.size (by rw [HA.out.2.2.1]; omega) (by simp)).trans HA.out.2.1
      have o0 := boxCell hO 0
      have o1 := boxCell hO 1
      have o2 := boxCell hO 2
      have o3 := boxCell hO 3
      have o4 := boxCell hO 4
      have o5 := boxCell hO 5
      have o6 := boxCell hO 6
      have o7 := boxCell hO 7
      clear hO
      go_wp2_with fail
      refine (few_any r x y p s da dn dc d _ ((HA.out.2.2.2.2.2.1.kept HA.out.1 (by simp)).kept HW.out.1.fresh (by simp)) HA.out.2.2.2.2.2.2.1 m HM.out.1).mono ?_
      rintro e w5 ⟨a1, c1, rfl, hmc, hby, hnew, hsp, hF5⟩
      have hA5 := (Kept.refl (fun _ => False) w5).alloc (.cells #[.int .u64 r, .int .u64 x, .int .u64 y, .int .i64 p, .int .i64 s, .slice (some a1) m c1] 29)
      have hB5 := alloc_at w5 (.cells #[.int .u64 r, .int .u64 x, .int .u64 y, .int .i64 p, .int .i64 s, .slice (some a1) m c1] 29)
      have hW6 := HW.out.1.kept (hF5.trans hA5)
      have hby6 := hby.kept hA5 (by simp)
      have hT : pb < w5.heap.size := Nat.lt_of_lt_of_le HW.out.1.page.blk hF5.size
      have hz1 : w.heap.size < wr.heap.size := by have := HW.out.1.fresh.size; rw [HA.out.2.2.1] at this; omega
      have hO6 := (hA5.block _ (by have := hF5.size; omega) (by simp)).trans ((hF5.block w.heap.size hz1 (by simp)).trans ((HW.out.1.fresh.block w.heap.size (by rw [HA.out.2.2.1]; omega) (by simp)).trans HA.out.2.1))
      have ha1 : a1.block ≠ pb := by have := HW.out.1.page.blk; omega
      have HX := Lib.hid (And.intro hW6 (And.intro hB5 (And.intro hby6 (And.intro hT (And.intro ha1 (And.intro hmc hO6))))))
      clear o0 o2 o3 o4 o5 o6 o7 hW6 hby6 hT hO6 ha1 hmc hby hnew hsp hF5 hA5 HW o1 hz1
      have o0 := boxCell HX.out.2.2.2.2.2.2 0
      have o1 := boxCell HX.out.2.2.2.2.2.2 1
      clear hB5
      go_upto_region 14 with fail
      generalize w5.alloc (.cells #[.int .u64 r, .int .u64 x, .int .u64 y, .int .i64 p, .int .i64 s, .slice (some a1) m c1] 29) = W6 at HX o0 o1 ⊢
      generalize w5.heap.size = T at HX ⊢
      go_upto_block 2 with fail
      go_cut [13, 14, 15, 16] from 53 to 88 (fun s13 s14 s15 s16 wx => Behind w0 pb st (.slice a6 st.slots.length c6) (.slice a7 st.slots.length c7) U T' s13 wx)
      case first =>
        have t0 := boxCell HX.out.2.1 0
        have t1 := boxCell HX.out.2.1 1
        have t2 := boxCell HX.out.2.1 2
        have t3 := boxCell HX.out.2.1 3
        have t4 := boxCell HX.out.2.1 4
        have t5 := boxCell HX.out.2.1 5
        by_cases q0 : q = 0
        · have q0' : ((q : Int) == 0) = true := by simp; omega
          clear q0
          go_wp2_with fail
          refine (pinsert_any pb st r x y p s (some a1) m c1 d _ HX.out.1.page HS.out HX.out.2.2.1).mono ?_
          rintro e w7 ⟨rfl, hb7, hst7, hk7⟩
          have hcs := insertR_cases st r x y p s m d
          obtain ⟨n1, e1, st1, hres⟩ : ∃ n1 e1 st1, insertR st r x y p s m d = (n1, e1, st1) := ⟨_, _, _, rfl⟩
          rw [hres] at hb7 hst7 hcs ⊢
          have hW7 := HX.out.1.turn hk7 hb7
          have hT7 := (hk7.block T (Array.getElem?_eq_some_iff.1 HX.out.2.1).1 (by have := HX.out.2.2.2.1; omega)).trans HX.out.2.1
          have hby7 := HX.out.2.2.1.kept hk7 (fun z hz => by cases hz; exact HX.out.2.2.2.2.1)
          rcases hcs with ⟨hc1, hc2⟩ | ⟨hc1, hc2, hc3, hc4⟩
          · have he : (e1 != 0) = true := by simpa using hc1
            have HY := Lib.hid (And.intro hW7 (And.intro hst7 hc2))
            clear hc1 hc2 hW7 hst7 hT7 hby7 hres hk7 hb7
            go_wp2_with fail
            go_meet
            case rel => exact ⟨-1, st1, rfl, HY.out.2.1, fun j _ => by rw [show st1 = st from HY.out.2.2], HY.out.1⟩
          · have he : (e1 != 0) = false := by simpa using hc1
            obtain ⟨f1, hk1⟩ := verAt_get hc3
            obtain ⟨P', S', hP, hS, hP', hS'⟩ := near p s (right_far hc2)
            have hl := verOf_len r x y (p + 1).toNat (s + 1).toNat m d
            have hg := fun j (hj : j < m) => verOf_get r x y (p + 1).toNat (s + 1).toNat m d j hj
            have hPe : (((p + 1).toNat : Nat) : Int) - 1 = p := by omega
            have hSe : (((s + 1).toNat : Nat) : Int) - 1 = s := by omega
            have HY := Lib.hid (And.intro hW7 (And.intro hst7 (And.intro hT7 (And.intro hby7 (And.intro hk1 (And.intro hc4 (And.intro hl (And.intro hg (And.intro hPe hSe)))))))))
            clear hc1 hc2 hc3 hc4 hW7 hst7 hT7 hby7 hres hk7 hb7 hk1 hP hS hl hg hPe hSe t0 t1 t2 t3 t4 t5
            go_wp2_with fail
            refine (get_enc pb n1 f1 _ st1 _ HY.out.1.page HY.out.2.1 HY.out.2.2.2.2.1).mono ?_
            rintro e w8 ⟨ga, gc, rfl, hgb, hg1, hg2, hF8⟩
            have e1 : (verOf r x y (p + 1).toNat (s + 1).toNat m d).row = r := rfl
            have e2 : (verOf r x y (p + 1).toNat (s + 1).toNat m d).x = x := rfl
            have e3 : (verOf r x y (p + 1).toNat (s + 1).toNat m d).y = y := rfl
            have e4 : (((verOf r x y (p + 1).toNat (s + 1).toNat m d).P : Nat) : Int) - 1 = p := HY.out.2.2.2.2.2.2.2.2.1
            have e5 : (((verOf r x y (p + 1).toNat (s + 1).toNat m d).S : Nat) : Int) - 1 = s := HY.out.2.2.2.2.2.2.2.2.2
            rw [e1, e2, e3, e4, e5]
            rw [HY.out.2.2.2.2.2.2.1] at hgb ⊢
            clear e1 e2 e3 e4 e5
            have hT8 := (hF8.block T (Array.getElem?_eq_some_iff.1 HY.out.2.2.1).1 (by simp)).trans HY.out.2.2.1
            have hZ := Lib.hid (And.intro hT8 (And.intro hgb hF8))
            clear hgb hg1 hg2 hF8
            have hA8 := (Kept.refl (fun _ => False) w8).alloc (.cells #[.int .u64 r, .int .u64 x, .int .u64 y, .int .i64 p, .int .i64 s, .slice (some ga) m gc] 29)
            have hT9 := (hA8.block T (Array.getElem?_eq_some_iff.1 hT8).1 (by simp)).trans hT8
            have hG9 := alloc_at w8 (.cells #[.int .u64 r, .int .u64 x, .int .u64 y, .int .i64 p, .int .i64 s, .slice (some ga) m gc] 29)
            have HA8 := Lib.hid hA8
            clear hT8 hA8
            go_upto_region 23 with fail
            generalize hw9 : w8.alloc (.cells #[.int .u64 r, .int .u64 x, .int .u64 y, .int .i64 p, .int .i64 s, .slice (some ga) m gc] 29) = W9 at hT9 hG9 HA8 ⊢
            clear hw9
            generalize w8.heap.size = G at hG9 ⊢
            have t0 := boxCell hT9 0
            have t1 := boxCell hT9 1
            have t2 := boxCell hT9 2
            have t3 := boxCell hT9 3
            have t4 := boxCell hT9 4
            have t5 := boxCell hT9 5
            have g0 := boxCell hG9 0
            have g1 := boxCell hG9 1
            have g2 := boxCell hG9 2
            have g3 := boxCell hG9 3
            have g4 := boxCell hG9 4
            have g5 := boxCell hG9 5
            clear hT9 hG9
            go_wp2_with fail
            refine (tsame_any r x y p s (some ga) (some a1) m gc c1 _ d _ (hZ.out.2.1.kept HA8.out (by simp)) (by simp) ((HY.out.2.2.2.1.kept hZ.out.2.2 (by simp)).kept HA8.out (by simp)) (by simp) HY.out.2.2.2.2.2.2.2.1).mono ?_
            rintro e w10 ⟨rfl, hF10⟩
            have HF := Lib.hid ((hZ.out.2.2.trans HA8.out).trans hF10)
            clear hF10 t0 t1 t2 t3 t4 t5 g0 g1 g2 g3 g4 g5
            go_wp2_with fail
            go_meet
            case rel => exact ⟨n1, st1, rfl, HY.out.2.1, fun j hj => HY.out.2.2.2.2.2.1 j (by omega), HY.out.1.kept HF.out⟩
        · have q0' : ((q : Int) == 0) = false := by simp; omega
          by_cases q1 : q = 1
          · have q1' : ((q : Int) == 1) = true := by simp; omega
            clear q0 q1
            go_wp2_with fail
            refine (pstamp_any pb st k y p s _ HX.out.1.page HS.out).mono ?_
            rintro e w7 ⟨rfl, hb7, hst7, hk7⟩
            have HY := Lib.hid (And.intro (HX.out.1.turn hk7 hb7) hst7)
            clear hst7 hk7 hb7
            go_wp2_with fail
            go_meet
            case rel => exact ⟨k, _, rfl, HY.out.2, fun j hj => stampR_other _ _ _ _ _ _ hj, HY.out.1⟩
          · have q1' : ((q : Int) == 1) = false := by simp; omega
            clear q0 q1
            go_wp2_with fail
            refine (pfree_any pb st k _ HX.out.1.page HS.out).mono ?_
            rintro e w7 ⟨rfl, hb7, hst7, hk7⟩
            have HY := Lib.hid (And.intro (HX.out.1.turn hk7 hb7) hst7)
            clear hst7 hk7 hb7
            go_wp2_with fail
            go_meet
            case rel => exact ⟨k, _, rfl, HY.out.2, fun j hj => freeR_other _ _ _ hj, HY.out.1⟩
      case rest =>
        obtain ⟨sl, sp, rfl, hsp, hoth, hW⟩ := hcut
        clear o0 o1 HX
        have HZ := Lib.hid (And.intro hsp (And.intro hoth hW))
        clear hsp hoth hW
        go_wp2_with fail
        go_loopg [90] st.slots.length (fun g s90 wr => ∃ i : Nat, i + g = st.slots.length ∧ s90 = .int .i64 i ∧ Was w0 wr pb sp st st.slots.length (.slice a6 st.slots.length c6) (.slice a7 st.slots.length c7) U T')
        case atStart => exact ⟨0, by omega, rfl, HZ.out.2.2⟩
        case round =>
          obtain ⟨i, hi, rfl, hW⟩ := hrel
          have HW := Lib.hid (And.intro hW hi)
          clear hW
          by_cases hil : i < st.slots.length
          · clear hi
            go_wp2_with fail
            refine (pget_any pb i sp _ HW.out.1.page HZ.out.1).mono ?_
            rintro e w4 ⟨cs, t, rfl, hcs, ⟨c0, c1, c2, c3, c4, ga, gn, gc, rfl⟩, hF4, htold⟩
            have hA4 := (Kept.refl (fun _ => False) w4).alloc (.cells #[.int .u64 c0, .int .u64 c1, .int .u64 c2, .int .i64 c3, .int .i64 c4, .slice ga gn gc] 29)
            have hG4 := alloc_at w4 (.cells #[.int .u64 c0, .int .u64 c1, .int .u64 c2, .int .i64 c3, .int .i64 c4, .slice ga gn gc] 29)
            have hW5 := HW.out.1.kept (hF4.trans hA4)
            have htold5 := htold.kept hA4 (by simp)
            obtain ⟨B6, rfl, hc6, hcell6⟩ := hW5.row6.cell hil
            obtain ⟨B7, rfl, hc7, hcell7⟩ := hW5.row7.cell hil
            have f7 : _ = some _ := hcell7 0 (by omega)
            have f60 : _ = some _ := hcell6 0 (by omega)
            have f61 := hcell6 1 (by omega)
            have f62 := hcell6 2 (by omega)
            have f63 := hcell6 3 (by omega)
            have f64 := hcell6 4 (by omega)
            have f65 := hcell6 5 (by omega)
            rw [Nat.mul_one, Nat.add_zero] at f7
            rw [Nat.add_zero] at f60
            have htl := hW5.told i hil
            have HV := Lib.hid (And.intro hW5 (And.intro htold5 htl))
            clear hcs hF4 htold hA4 hW5 htold5 hcell6 hcell7 htl
            go_upto_region 31 with fail
            generalize w4.alloc (.cells #[.int .u64 c0, .int .u64 c1, .int .u64 c2, .int .i64 c3, .int .i64 c4, .slice ga gn gc] 29) = W5 at HV hG4 f7 f60 f61 f62 f63 f64 f65 ⊢
            generalize w4.heap.size = G at hG4 ⊢
            by_cases hsl : (i : Int) = sl
            · subst hsl
              clear f7 f60 f61 f62 f63 f64 f65 hG4
              go_region
              have HD := Lib.hid (HV.out.1.kept (Kept.refl _ W5).drew)
              clear HV
              generalize W5.drew = W6' at HD ⊢
              go_wp2_with fail
              go_roundg (gk - 1)
              case measure => have := HW.out.2; omega
              case rel => exact ⟨i + 1, by have := HW.out.2; omega, by go_num, HD.out⟩
            · have hsl' : ((i : Int) != sl) = true := by simpa using hsl
              have hsame := HZ.out.2.1 i hsl
              clear hsl
              obtain ⟨hW5, ht1, ht2⟩ := HV.out
              have HW5 := Lib.hid hW5
              clear hW5 HV
              rw [hsame] at ht1
              clear hsame
              cases hv : verAt st i with
              | none =>
                rw [hv] at ht1 ht2
                clear hv
                obtain ⟨hu1, htt⟩ := ht1
                obtain ⟨hu2, ht2⟩ := ht2
                have u0 := hu1 0 (by omega)
                have u1 := hu1 1 (by omega)
                have u2 := hu1 2 (by omega)
                have u3 := hu1 3 (by omega)
                have u4 := hu1 4 (by omega)
                have u5 := hu1 5 (by omega)
                simp [tupZ] at u0 u1 u2 u3 u4 u5 htt
                subst u0 u1 u2 u3 u4 htt
                obtain ⟨rfl, rfl, rfl⟩ := u5
                rw [ht2] at f7
                rw [hu2 0 (by omega)] at f60
                rw [hu2 1 (by omega)] at f61
                rw [hu2 2 (by omega)] at f62
                rw [hu2 3 (by omega)] at f63
                rw [hu2 4 (by omega)] at f64
                rw [hu2 5 (by omega)] at f65
                have g0 := boxCell hG4 0
                have g1 := boxCell hG4 1
                have g2 := boxCell hG4 2
                have g3 := boxCell hG4 3
                have g4 := boxCell hG4 4
                have g5 := boxCell hG4 5
                clear hu1 hu2 ht2 hG4
                go_still_tail 16, (by kernel_rfl)
                change wpList _ _ _ _ _ W5.drew
                have HD := Lib.hid (HW5.out.kept (Kept.refl _ W5).drew)
                clear g0 g1 g2 g3 g4 g5 f7 f60 f61 f62 f63 f64 f65
                generalize W5.drew = W6' at HD ⊢
                go_wp2_with fail
                refine (tsame_any 0 0 0 0 0 none none 0 0 0 (fun _ => 0) (fun _ => 0) _ ⟨fun _ => by omega, .inl rfl⟩ (fun _ => rfl) ⟨fun _ => by omega, .inl rfl⟩ (fun _ => rfl) (fun _ _ => rfl)).mono ?_
                rintro e w10 ⟨rfl, hF10⟩
                have HE := Lib.hid (HD.out.kept hF10)
                clear hF10
                go_wp2_with fail
                go_roundg (gk - 1)
                case measure => have := HW.out.2; omega
                case rel => exact ⟨i + 1, by have := HW.out.2; omega, by go_num, HE.out⟩
              | some v =>
                rw [hv] at ht1 ht2
                clear hv
                obtain ⟨a2, c2', hu1, htt, hby1, _⟩ := ht1
                obtain ⟨a3, c3', hu2, ht2, hby2, _⟩ := ht2
                have u0 := hu1 0 (by omega)
                have u1 := hu1 1 (by omega)
                have u2 := hu1 2 (by omega)
                have u3 := hu1 3 (by omega)
                have u4 := hu1 4 (by omega)
                have u5 := hu1 5 (by omega)
                simp [tupC] at u0 u1 u2 u3 u4 u5 htt
                obtain ⟨rfl, rfl, rfl⟩ := u5
                subst u0 u1 u2 u3 u4 htt
                rw [ht2] at f7
                rw [hu2 0 (by omega)] at f60
                rw [hu2 1 (by omega)] at f61
                rw [hu2 2 (by omega)] at f62
                rw [hu2 3 (by omega)] at f63
                rw [hu2 4 (by omega)] at f64
                rw [hu2 5 (by omega)] at f65
                have g0 := boxCell hG4 0
                have g1 := boxCell hG4 1
                have g2 := boxCell hG4 2
                have g3 := boxCell hG4 3
                have g4 := boxCell hG4 4
                have g5 := boxCell hG4 5
                have HBY := Lib.hid (And.intro hby1 hby2)
                clear hu1 hu2 ht2 hG4 hby1 hby2
                go_still_tail 16, (by kernel_rfl)
                change wpList _ _ _ _ _ W5.drew
                have hdr := (Kept.refl (fun _ => False) W5).drew
                have HD := Lib.hid (HW5.out.kept hdr)
                have HBZ := Lib.hid (And.intro (HBY.out.1.kept hdr (by simp)) (HBY.out.2.kept hdr (by simp)))
                clear hdr HBY
                clear g0 g1 g2 g3 g4 g5 f7 f60 f61 f62 f63 f64 f65
                generalize W5.drew = W6' at HD HBZ ⊢
                go_wp2_with fail
                refine (tsame_any v.row v.x v.y _ _ (some a2) (some a3) v.data.length _ _ _ _ _ HBZ.out.1 (by simp) HBZ.out.2 (by simp) (fun _ _ => rfl)).mono ?_
                rintro e w10 ⟨rfl, hF10⟩
                have HE := Lib.hid (HD.out.kept hF10)
                clear hF10
                go_wp2_with fail
                go_roundg (gk - 1)
                case measure => have := HW.out.2; omega
                case rel => exact ⟨i + 1, by have := HW.out.2; omega, by go_num, HE.out⟩
          · obtain rfl : i = st.slots.length := by omega
            clear hi hil
            have HE := Lib.hid (HA.out.1.trans HW.out.1.fresh)
            go_wp2_with fail
            go_ret
            exact ⟨rfl, HE.out⟩
end Go.Proofs.Ytffbfgmhfnbmfaa
