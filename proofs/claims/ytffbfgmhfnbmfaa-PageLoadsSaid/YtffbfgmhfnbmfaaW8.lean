/- The walk of Free. -/
import Derived.Test.YtffbfgmhfnbmfaaW7
import Derived.Test.YtffbfgmhfnbmfaaPm
namespace Go.Proofs.Ytffbfgmhfnbmfaa
open Go.RowKit

theorem count_still (b : Nat) (f : Nat → Nat) (w : World) (hw : Byt w b 75 512 f) :
    Calls Try.prog 40 #[.pointer (some ⟨b, 0, none⟩)] w fun e w' => e = .returned (.int .i64 (cnt f)) ∧ w' = w :=
  (count_any b f w hw).mono fun _ _ h => ⟨h.1, h.2.symm⟩

theorem wrap_int (x : Int) (h : 0 ≤ x) (h2 : x ≤ 1099511627776) : IntKind.i64.wrap x = x := by
  simp only [IntKind.wrap, IntKind.bits, IntKind.signed]; simp; omega

theorem run_mid4 (b m l d : Nat) (hd : m + d = l) (h : 4 + 4 * l < 512) (w : World) :
    (Instr.sliceAt 73 (.pointer (some ⟨b, 0, none⟩)) (some (.int .i64 (4 + 4 * (m : Int)))) (some (.int .i64 (4 + 4 * (l : Int)))) none).run Try.prog w = .ok (.slice (some ⟨b, 4 + 4 * m, none⟩) (4 * d) (508 - 4 * m)) w := by
  rw [run_sliceAt_array_lh w 73 _ aund .i64 .i64 _ _ (by omega) (by omega) (by rw [alen]; omega), asize, alen]
  have e1 : (4 + 4 * (m : Int)).toNat = 4 + 4 * m := by omega
  have e2 : (4 + 4 * (l : Int)).toNat = 4 + 4 * l := by omega
  simp only [Result.andThen, slicedAt, e1, e2]
  rw [if_neg (by omega)]
  have e3 : 4 + 4 * l - (4 + 4 * m) = 4 * d := by omega
  have e4 : 512 - (4 + 4 * m) = 508 - 4 * m := by omega
  simp [Addr.add, e3, e4]

theorem free_no (p : Option Addr) (k : Int) (w : World) (h : ∀ w, Calls Try.prog 44 #[.pointer p, .int .i64 k] w (Quiet (.slice none 0 0) w)) :
    Calls Try.prog 13 #[.pointer p, .int .i64 k] w (Quiet (.int .i64 15) w) := by
  have hnil := isnil
  have H := Lib.hid h
  clear h
  go_enter Try.func13, Try.ntmps13
  go_wp2_with fail
  refine (H.out _).mono ?_
  rintro e w1 ⟨rfl, m, rfl⟩
  go_wp2_with fail
  go_ret
  exact .of m

theorem wf_fromsiz {st : St} (h : Wf st) {k f : Nat} {v : Ver} (hk : st.slots[k]? = some (some (f, v))) : frm (enc st) k = f ∧ siz (enc st) k = v.size ∧ hasB (enc st) k = true ∧ k < st.slots.length := by
  have hkl : k < st.slots.length := (List.getElem?_eq_some_iff.1 hk).1
  refine ⟨by rw [h.frm hkl, getD_of hk]; rfl, by rw [h.siz hkl, getD_of hk]; rfl, by rw [h.has, getD_of hk]; rfl, hkl⟩

def Became (b : Nat) (st : St) (v : Value) (w : World) (e : Ending) (w' : World) : Prop := e = .returned v ∧ Byt w' b 75 512 (enc st) ∧ Kept (· = b) w w'

set_option maxRecDepth 100000 in
set_option maxHeartbeats 2000000 in
theorem free_yes (b k f : Nat) (v : Ver) (st : St) (w : World) (hw : Byt w b 75 512 (enc st)) (hst : Wf st) (hk : st.slots[k]? = some (some (f, v))) :
    Calls Try.prog 13 #[.pointer (some ⟨b, 0, none⟩), .int .i64 k] w (Became b (freeA st k) (.int .i64 0) w) := by
  have hnil := isnil
  obtain ⟨hfr, hsz, hhas, hkl⟩ := wf_fromsiz hst hk
  have hV := bytV_has (b := b) hhas
  rw [hfr, hsz] at hV
  have hst2 := hst.clear hk
  have hin := hst.inn k f v hk
  have hlow := hst.low
  have H := Lib.hid (And.intro hV (And.intro hin.2.1 hk))
  have h30 : 30 ≤ v.size := by unfold Ver.size; omega
  have h482 : 4 + 4 * st.slots.length ≤ 482 := by omega
  have HL := Lib.hid (And.intro h482 (And.intro hkl h30))
  clear hV hin hfr hsz hhas hlow hkl hk h482 h30
  go_enter Try.func13, Try.ntmps13
  go_wp2_with fail
  refine (bytesOf_any b k _ _ hw hst.fits).mono ?_
  rintro e w1 ⟨rfl, m, rfl⟩
  rw [H.out.1]
  obtain ⟨w2, hrun, hw2, hz2, hk2⟩ := clear_byt (P := Try.prog) 22 5 0 und22 info5 (c := 512 - f) (hw.drewN m) H.out.2.1
  have Hrun := Lib.hid hrun
  have HK := Lib.hid hk2
  clear hrun hz2 hk2
  go_wp2_with fail
  rw [Hrun.out]
  go_wp2_with fail
  refine (point_any b k 0 0 _ _ hw2 (by have := HL.out; omega) (by omega) (by omega)).mono ?_
  rintro e w3 ⟨rfl, hw3, hz3, hk3⟩
  rw [enc_clear hst H.out.2.2] at hw3
  have hK3 : Kept (· = b) w w3 := (((Kept.refl _ w).drewN m).trans HK.out).trans hk3
  have HK3 := Lib.hid hK3
  clear hz3 hk3 hw2 hK3 HK
  go_wp2_with fail
  refine (count_any b _ _ hw3).mono ?_
  rintro e w4 ⟨rfl, rfl⟩
  have hct := hst2.cnt
  simp only [List.length_set] at hct
  rw [hct]
  obtain ⟨L, hL⟩ : ∃ L, st.slots.length = L := ⟨_, rfl⟩
  rw [hL] at hct ⊢
  have Hct := Lib.hid (And.intro hct hL)
  clear hct hL
  have hL127 : L ≤ 127 := by have := HL.out; have := Hct.out.2; omega
  go_wp2_with fail
  go_loopg [6] L (fun g i wr => g ≤ L ∧ i = .int .i64 (g : Int) ∧ trimN (st.slots.set k none) g = trimN (st.slots.set k none) L ∧ ∃ n, wr = w3.drewN n)
  case atStart => exact ⟨Nat.le_refl _, rfl, rfl, 0, rfl⟩
  case round =>
    obtain ⟨hg, rfl, htr, n, rfl⟩ := hrel
    have Htr := Lib.hid htr
    clear htr
    by_cases hg0 : gk = 0
    · have h0 : ¬ 0 < gk := by omega
      have h0' : decide (0 < gk) = false := decide_eq_false h0
      have hM : trimN (st.slots.set k none) L = gk := by rw [← Htr.out, hg0]; rfl
      have Hg0 := Lib.hid hg0
      clear hg0
      obtain ⟨d, hd⟩ : ∃ d, gk + d = L := ⟨L - gk, by omega⟩
      have hr := run_mid4 b gk L d hd (by have := HL.out; have := Hct.out.2; omega)
      have HM := Lib.hid (And.intro hM hd)
      clear hM hd
      go_wp2_with fail
      refine stillTail 11 (by kernel_rfl) (by kernel_rfl) fun wd hwd => ?_
      have hw4 := (hw3.drewN n).kept hwd.1 (by simp)
      have hK4 : Kept (· = b) w wd := (HK3.out.drewN n).trans (hwd.1.mono fun _ _ h => h.elim)
      have hcs : Calls Try.prog 40 #[.pointer (some ⟨b, 0, none⟩)] wd (fun e w' => e = .returned (.int .i64 (L : Nat)) ∧ w' = wd) := by
        have := count_still b _ _ hw4
        rw [Hct.out.1] at this
        exact this
      obtain ⟨w5, hrun5, hw5, hz5, hk5⟩ := clear_byt (P := Try.prog) 22 5 0 und22 info5 (off := 4 + 4 * gk) (n := 4 * d) (c := 508 - 4 * gk) hw4 (by have := HL.out; have := Hct.out.2; have := HM.out; omega)
      have Hrun5 := Lib.hid hrun5
      have hK5 := hK4.trans hk5
      clear hwd hrun5 hz5 hk5 hK4
      have q1 := wrap_int (4 * (gk : Int)) (by omega) (by omega)
      have q2 := wrap_int (4 + 4 * (gk : Int)) (by omega) (by omega)
      have q3 := wrap_int (4 * (L : Int)) (by omega) (by omega)
      have q4 := wrap_int (4 + 4 * (L : Int)) (by omega) (by omega)
      simp only [List.take_succ_cons, List.take_zero, List.drop_succ_cons, List.drop_zero]
      repeat still_step
      still_call hcs
      repeat still_step
      refine wpStill_nil ?_
      clear hcs hw4 q1 q2 q3 q4
      go_wp2_with fail
      rw [Hrun5.out]
      go_wp2_with fail
      refine (start_any b _ _ hw5).mono ?_
      rintro e w6 ⟨rfl, rfl⟩
      have hst5 : stt (wiped (enc ⟨st.slots.set k none, st.start⟩) (4 + 4 * gk) (4 * d)) = st.start := by
        unfold stt
        rw [show le (wiped (enc ⟨st.slots.set k none, st.start⟩) (4 + 4 * gk) (4 * d)) 2 2 = le (enc ⟨st.slots.set k none, st.start⟩) 2 2 from le_congr 2 2 fun i h1 h2 => by unfold wiped; rw [if_neg (by omega)]]
        exact hst2.stt
      rw [hst5]
      have Hst5 := Lib.hid hst5
      clear hst5
      go_wp2_with fail
      have hhigh : st.start ≤ 512 := hst2.high
      refine (set_any b gk st.start _ _ hw5 (by omega) (by omega)).mono ?_
      rintro e w7 ⟨rfl, hw7, hz7, hk7⟩
      have hfin := enc_trim hst2
      simp only [List.length_set] at hfin
      rw [Hct.out.2, HM.out.1, show L - gk = d from by have := HM.out.2; omega] at hfin
      rw [hfin] at hw7
      have hK7 := hK5.trans hk7
      clear hz7 hk7 hhigh hfin hw5
      go_wp2_with fail
      go_ret
      exact ⟨rfl, hw7, hK7⟩
    · have h0 : 0 < gk := by omega
      have h0' : decide (0 < gk) = true := decide_eq_true h0
      obtain ⟨g, hgk⟩ : ∃ g, gk = g + 1 := ⟨gk - 1, by omega⟩
      have Hgk := Lib.hid hgk
      clear hgk hg0
      go_wp2_with fail
      refine (bytesOf_int b _ _ _ (hw3.drewN n) hst2.fits).mono ?_
      rintro e w4 ⟨rfl, m4, rfl⟩
      have hhI : hasI (enc ⟨st.slots.set k none, st.start⟩) ((gk : Int) - 1) = ((st.slots.set k none).getD g none).isSome := by
        unfold hasI
        rw [show ((gk : Int) - 1).toNat = g from by have := Hgk.out; omega, hst2.has, show decide (0 ≤ (gk : Int) - 1) = true from by have := Hgk.out; simp; omega]
        rfl
      cases hso : ((st.slots.set k none).getD g none).isSome
      · rw [bytI_no (by rw [hhI, hso])]
        have Hso := Lib.hid hso
        clear hhI hso
        go_wp2_with fail
        go_roundg g
        case measure => have := Hgk.out; omega
        case rel => exact ⟨by have := Hgk.out; omega, by have := Hgk.out; subst this; go_num, by rw [← Htr.out, Hgk.out, trimN, if_neg (by rw [Hso.out]; decide)], n + m4, rfl⟩
      · have hM : trimN (st.slots.set k none) L = gk := by rw [← Htr.out, Hgk.out, trimN, if_pos hso]
        rw [bytI_yes (by rw [hhI, hso])]
        clear hhI hso
        obtain ⟨d, hd⟩ : ∃ d, gk + d = L := ⟨L - gk, by omega⟩
        have hr := run_mid4 b gk L d hd (by have := HL.out; have := Hct.out.2; omega)
        have HM := Lib.hid (And.intro hM hd)
        clear hM hd
        go_wp2_with fail
        refine stillTail 11 (by kernel_rfl) (by kernel_rfl) fun wd hwd => ?_
        have hw4 := (hw3.drewN (n + m4)).kept hwd.1 (by simp)
        have hK4 : Kept (· = b) w wd := (HK3.out.drewN (n + m4)).trans (hwd.1.mono fun _ _ h => h.elim)
        have hcs : Calls Try.prog 40 #[.pointer (some ⟨b, 0, none⟩)] wd (fun e w' => e = .returned (.int .i64 (L : Nat)) ∧ w' = wd) := by
          have := count_still b _ _ hw4
          rw [Hct.out.1] at this
          exact this
        obtain ⟨w5, hrun5, hw5, hz5, hk5⟩ := clear_byt (P := Try.prog) 22 5 0 und22 info5 (off := 4 + 4 * gk) (n := 4 * d) (c := 508 - 4 * gk) hw4 (by have := HL.out; have := Hct.out.2; have := HM.out; omega)
        have Hrun5 := Lib.hid hrun5
        have hK5 := hK4.trans hk5
        clear hwd hrun5 hz5 hk5 hK4
        have q1 := wrap_int (4 * (gk : Int)) (by omega) (by omega)
        have q2 := wrap_int (4 + 4 * (gk : Int)) (by omega) (by omega)
        have q3 := wrap_int (4 * (L : Int)) (by omega) (by omega)
        have q4 := wrap_int (4 + 4 * (L : Int)) (by omega) (by omega)
        simp only [List.take_succ_cons, List.take_zero, List.drop_succ_cons, List.drop_zero]
        repeat still_step
        still_call hcs
        repeat still_step
        refine wpStill_nil ?_
        clear hcs hw4 q1 q2 q3 q4
        go_wp2_with fail
        rw [Hrun5.out]
        go_wp2_with fail
        refine (start_any b _ _ hw5).mono ?_
        rintro e w6 ⟨rfl, rfl⟩
        have hst5 : stt (wiped (enc ⟨st.slots.set k none, st.start⟩) (4 + 4 * gk) (4 * d)) = st.start := by
          unfold stt
          rw [show le (wiped (enc ⟨st.slots.set k none, st.start⟩) (4 + 4 * gk) (4 * d)) 2 2 = le (enc ⟨st.slots.set k none, st.start⟩) 2 2 from le_congr 2 2 fun i h1 h2 => by unfold wiped; rw [if_neg (by omega)]]
          exact hst2.stt
        rw [hst5]
        have Hst5 := Lib.hid hst5
        clear hst5
        go_wp2_with fail
        have hhigh : st.start ≤ 512 := hst2.high
        refine (set_any b gk st.start _ _ hw5 (by omega) (by omega)).mono ?_
        rintro e w7 ⟨rfl, hw7, hz7, hk7⟩
        have hfin := enc_trim hst2
        simp only [List.length_set] at hfin
        rw [Hct.out.2, HM.out.1, show L - gk = d from by have := HM.out.2; omega] at hfin
        rw [hfin] at hw7
        have hK7 := hK5.trans hk7
        clear hz7 hk7 hhigh hfin hw5
        go_wp2_with fail
        go_ret
        exact ⟨rfl, hw7, hK7⟩
end Go.Proofs.Ytffbfgmhfnbmfaa
