/- The walk of sound. -/
import Derived.Test.YtffbfgmhfnbmfaaSr
import Derived.Test.YtffbfgmhfnbmfaaPt
import Derived.Deep.Cut
import Derived.Deep.QuietTactic
import Derived.BigQuiet
import Derived.Deep.CutRange
namespace Go.Proofs.Ytffbfgmhfnbmfaa
open Go.RowKit

def SoundB (f : Nat → Nat) (w : World) (e : Ending) (w' : World) : Prop := ∃ v, e = .returned (.bool v) ∧ (v = true ↔ SoundP f) ∧ Fresh w w'

theorem SoundB.no {f : Nat → Nat} {w w' : World} (h : ¬ SoundP f) (hF : Fresh w w') : SoundB f w (.returned (.bool false)) w' := ⟨false, rfl, by simpa using h, hF⟩

theorem parts_len (f : Nat → Nat) : ∀ n, (parts f n).length ≤ n
  | 0 => Nat.le_refl _
  | n + 1 => by
    have := parts_len f n
    rw [parts, List.length_append]
    split <;> simp <;> omega

theorem parts_in {f : Nat → Nat} (h : allOk f (cnt f) = true) : ∀ p ∈ parts f (cnt f), p.1 ≤ p.2 ∧ p.2 ≤ 512 := fun p hp => by
  obtain ⟨k, hk, h1, rfl⟩ := (parts_mem f _ p).1 hp
  have := okB_on ((allOk_iff f _).1 h k hk) h1
  simp only
  omega

theorem zerosB_shift (f : Nat → Nat) (a n : Nat) : zerosB (fun j => f (a + j)) 0 n = zerosB f a n := by
  rw [Bool.eq_iff_iff, zerosB_iff, zerosB_iff]
  constructor
  · intro h j h1 h2
    have := h (j - a) (by omega) (by omega)
    rwa [show a + (j - a) = j from by omega] at this
  · intro h j h1 h2
    exact h (a + j) (by omega) (by omega)

theorem run_gap (b x y : Nat) (h : x + y ≤ 512) : ∃ A, (0 < y → A = (⟨b, x, none⟩ : Addr)) ∧ ∀ w, (Instr.sliceAt 73 (.pointer (some ⟨b, 0, none⟩)) (some (.int .i64 (x : Int))) (some (.int .i64 ((x + y : Nat) : Int))) none).run Try.prog w = .ok (.slice (some A) y (512 - x)) w := by
  by_cases hy : 0 < y
  · refine ⟨_, fun _ => rfl, fun w => ?_⟩
    have := run_mid b x y h hy w
    rw [show ((x + y : Nat) : Int) = (x : Int) + (y : Int) from by omega]
    exact this
  · obtain rfl : y = 0 := by omega
    have e : ((x + 0 : Nat) : Int).toNat = x := by omega
    by_cases hx : x = 512
    · subst hx
      refine ⟨⟨b, 0, none⟩, fun h => by omega, fun w => ?_⟩
      rw [run_sliceAt_array_lh w 73 _ aund .i64 .i64 _ _ (by omega) (by omega) (by rw [alen]; omega), asize, alen]
      simp [Result.andThen, slicedAt]
    · refine ⟨⟨b, x, none⟩, fun h => by omega, fun w => ?_⟩
      rw [run_sliceAt_array_lh w 73 _ aund .i64 .i64 _ _ (by omega) (by omega) (by rw [alen]; omega), asize, alen]
      simp only [Result.andThen, slicedAt, e, Int.toNat_natCast, Nat.sub_self]
      rw [if_neg (by omega)]
      by_cases h0 : x = 0
      · subst h0; simp [Addr.add]
      · simp [Addr.add, h0]

theorem verB_run (f : Nat → Nat) (o n : Nat) : rightB (le f o 8) (le f (o + 8) 8) (le f (o + 16) 8) ((le f (o + 24) 4 : Int) - 1) ((le f (o + 28) 2 : Int) - 1) (n - 30) = verB f o n := rfl

set_option maxRecDepth 100000 in
set_option maxHeartbeats 4000000 in
theorem sound_any (b : Nat) (f : Nat → Nat) (w : World) (hw : Byt w b 75 512 f) : Calls Try.prog 48 #[.pointer (some ⟨b, 0, none⟩)] w (SoundB f w) := by
  have hc16 : cnt f < 65536 := le_lt hw.byte 2 0
  have hs16 : stt f < 65536 := le_lt hw.byte 2 2
  have HW := Lib.hid hw
  clear hw
  go_enter Try.func48, Try.ntmps48
  go_wp2_with fail
  refine (count_any b f _ HW.out).mono ?_
  rintro e w' ⟨rfl, rfl⟩
  go_upto_region 2 with fail
  go_cut [36] from 15 to 36 (fun s36 wc => s36 = .bool (!frontB f) ∧ ∃ m, wc = w.drewN m)
  case first =>
    go_wp2_with fail
    refine (start_any b f _ HW.out).mono ?_
    rintro e w' ⟨rfl, rfl⟩
    by_cases h1 : 512 < stt f
    · have h1' : (512 : Int) < (stt f : Int) := by omega
      have hfr : frontB f = false := by unfold frontB; simp; omega
      have HN := Lib.hid hfr
      clear hfr h1
      go_wp2_with fail
      go_meet
      case rel => exact ⟨by rw [HN.out]; rfl, 0, rfl⟩
    · have h1' := decide_eq_false (show ¬ (512 : Int) < (stt f : Int) by omega)
      go_wp2_with fail
      refine (start_any b f _ HW.out).mono ?_
      rintro e w' ⟨rfl, rfl⟩
      by_cases h2 : stt f < 4 + 4 * cnt f
      · have h2' := decide_eq_true (show (stt f : Int) < 4 + 4 * (cnt f : Int) by omega)
        have hfr : frontB f = false := by unfold frontB; simp; omega
        have HN := Lib.hid hfr
        clear hfr h2
        go_wp2_with fail
        go_meet
        case rel => exact ⟨by rw [HN.out]; rfl, 0, rfl⟩
      · have h2' := decide_eq_false (show ¬ (stt f : Int) < 4 + 4 * (cnt f : Int) by omega)
        go_wp2_with fail
        refine (count_any b f _ HW.out).mono ?_
        rintro e w' ⟨rfl, rfl⟩
        by_cases h3 : cnt f = 0
        · have h3' := decide_eq_false (show ¬ 0 < cnt f by omega)
          have hfr : frontB f = true := by unfold frontB; simp; omega
          have HN := Lib.hid hfr
          clear hfr h3
          go_wp2_with fail
          go_meet
          case rel => exact ⟨by rw [HN.out]; rfl, 0, rfl⟩
        · have h3' := decide_eq_true (show 0 < cnt f by omega)
          obtain ⟨p, hp⟩ : ∃ p, p = cnt f - 1 := ⟨_, rfl⟩
          have hpi : (cnt f : Int) - 1 = (p : Int) := by omega
          have hp2 : 4 * p + 8 ≤ 512 := by omega
          have HP := Lib.hid (And.intro hp (And.intro h3 (And.intro h1 h2)))
          have HPi := Lib.hid hpi
          clear hp h3 hpi h1 h2
          go_wp2_with fail
          refine (count_any b f _ HW.out).mono ?_
          rintro e w' ⟨rfl, rfl⟩
          go_wp2_with fail
          rw [HPi.out]
          refine (bytesAt_any b p f _ HW.out hp2).mono ?_
          rintro e w' ⟨rfl, m, rfl⟩
          by_cases h4 : siz f p = 0
          · have h4' : ((siz f p : Int) == 0) = true := by simp [h4]
            have hfr : frontB f = false := by unfold frontB; rw [← HP.out.1]; simp [h4]; have := HP.out; omega
            have HN := Lib.hid hfr
            clear hfr h4
            go_wp2_with fail
            go_meet
            case rel => exact ⟨by rw [HN.out]; rfl, m, rfl⟩
          · have h4' : ((siz f p : Int) == 0) = false := by simp [h4]
            have hfr : frontB f = true := by unfold frontB; rw [← HP.out.1]; simp [h4]; have := HP.out; omega
            have HN := Lib.hid hfr
            clear hfr h4
            go_wp2_with fail
            go_meet
            case rel => exact ⟨by rw [HN.out]; rfl, m, rfl⟩
  case rest =>
    obtain ⟨rfl, m, rfl⟩ := hcut
    cases hfr : frontB f
    · have hno : ¬ SoundP f := fun h => by have := h.front; rw [hfr] at this; cases this
      have HN := Lib.hid hno
      clear hno hfr
      go_wp2_with fail
      go_ret
      exact .no HN.out ((Kept.refl _ _).drewN m)
    · have hfrl : stt f ≤ 512 ∧ 4 + 4 * cnt f ≤ stt f := by
        have := hfr
        unfold frontB at this
        simp at this
        exact ⟨this.1, this.2.1⟩
      obtain ⟨hl1, hl2⟩ := hfrl
      have HFR := Lib.hid hfr
      clear hfr
      have HF0 := Lib.hid ((Kept.refl (fun _ => False) w).drewN m)
      generalize w.drewN m = w0 at HF0 ⊢
      go_wp2_with fail
      refine (count_any b f _ (HW.out.kept HF0.out (by simp))).mono ?_
      rintro e w' ⟨rfl, rfl⟩
      go_wp2_with fail
      go_loopg [4, 39] (cnt f) (fun g s4 s39 wr => ∃ i : Nat, i + g = cnt f ∧ s39 = .int .i64 i ∧ PRow wr s4 (parts f i) w.heap.size ∧ Fresh w wr ∧ allOk f i = true)
      case atStart => exact ⟨0, by omega, rfl, .nil .., HF0.out, rfl⟩
      case round =>
        clear HF0
        obtain ⟨i, hi, rfl, hP, hF, hok⟩ := hrel
        obtain ⟨ra, rc, rfl⟩ := hP.form
        have H := Lib.hid (And.intro hP (And.intro hF (And.intro hok hi)))
        clear hP hF hok hi
        by_cases hil : i < cnt f
        · have hsz16 : siz f i < 65536 := le_lt HW.out.byte 2 _
          have hfr16 : frm f i < 65536 := le_lt HW.out.byte 2 _
          have hbad : okB f i = false → ¬ SoundP f := fun hb hs => by have := (allOk_iff f _).1 hs.ok i hil; rw [hb] at this; cases this
          have HBD := Lib.hid hbad
          clear hbad
          go_wp2_with fail
          refine (at_any b i f _ (HW.out.kept H.out.2.1 (by simp)) (by omega)).mono ?_
          rintro e w2 ⟨rfl, n2, rfl⟩
          have HF2 := Lib.hid (H.out.2.1.drewN n2)
          have HP2 := Lib.hid (OwnRow.kept H.out.1 ((Kept.refl (fun _ => False) wr).drewN n2) (by simp))
          generalize wr.drewN n2 = w2 at HF2 HP2 ⊢
          by_cases z1 : siz f i = 0
          · have z1' : ((siz f i : Int) == 0) = true := by simp [z1]
            by_cases z2 : frm f i = 0
            · have z2' : ((frm f i : Int) == 0) = true := by simp [z2]
              have hoff : offB f i = true := by unfold offB; simp [z1, z2]
              have HO := Lib.hid hoff
              clear z1 z2 hoff
              go_wp2_with fail
              go_roundg (gk - 1)
              case measure => have := H.out.2.2.2; omega
              case rel => exact ⟨i + 1, by have := H.out.2.2.2; omega, by go_num, by rw [parts, if_pos HO.out, List.append_nil]; exact HP2.out, HF2.out, by rw [allOk, H.out.2.2.1]; unfold okB; rw [HO.out]; rfl⟩
            · have z2' : ((frm f i : Int) == 0) = false := by simp [z2]
              have hb : okB f i = false := by unfold okB offB; simp [z1, z2]
              have HB := Lib.hid (HBD.out hb)
              have z3 := decide_eq_true (show siz f i < 30 by omega)
              clear z2 hb
              go_wp2_with fail
              go_ret
              exact .no HB.out HF2.out
          · have z1' : ((siz f i : Int) == 0) = false := by simp [z1]
            have hoff : offB f i = false := by unfold offB; simp [z1]
            by_cases z3 : siz f i < 30
            · have z3' := decide_eq_true (show (siz f i : Int) < 30 by omega)
              have hb : okB f i = false := by unfold okB; rw [hoff]; simp; omega
              have HB := Lib.hid (HBD.out hb)
              clear hb hoff z1
              go_wp2_with fail
              go_ret
              exact .no HB.out HF2.out
            · have z3' := decide_eq_false (show ¬ (siz f i : Int) < 30 by omega)
              go_wp2_with fail
              refine (start_any b f _ (HW.out.kept HF2.out (by simp))).mono ?_
              rintro e w3 ⟨rfl, rfl⟩
              by_cases z4 : frm f i < stt f
              · have z4' := decide_eq_true z4
                have hb : okB f i = false := by unfold okB; rw [hoff]; simp; omega
                have HB := Lib.hid (HBD.out hb)
                clear hb hoff z1
                go_wp2_with fail
                go_ret
                exact .no HB.out HF2.out
              · have z4' := decide_eq_false z4
                by_cases z5 : 512 < frm f i + siz f i
                · have z5' := decide_eq_true (show (512 : Int) < (frm f i : Int) + (siz f i : Int) by omega)
                  have hb : okB f i = false := by unfold okB; rw [hoff]; simp; omega
                  have HB := Lib.hid (HBD.out hb)
                  clear hb hoff z1
                  go_wp2_with fail
                  go_ret
                  exact .no HB.out HF2.out
                · have z5' := decide_eq_false (show ¬ (512 : Int) < (frm f i : Int) + (siz f i : Int) by omega)
                  have hmid := run_mid b (frm f i) (siz f i) (by omega) (by omega)
                  have HOF := Lib.hid hoff
                  clear hoff
                  go_wp2_with fail
                  clear hmid
                  refine (unpack_any b (frm f i) (siz f i) (512 - frm f i) 75 512 f _ (HW.out.kept HF2.out (by simp)) (by omega) (by omega) (by omega) (by omega)).mono ?_
                  rintro e w3 ⟨ua, uc, rfl, _, _, _, hF3⟩
                  have HF3 := Lib.hid hF3
                  clear hF3
                  go_wp2_with fail
                  refine (right_any _ _ _ _ _ _ _ _ _).mono ?_
                  rintro e w4 ⟨rfl, hF4⟩
                  rw [verB_run]
                  have HF4 := Lib.hid ((HF2.out.trans HF3.out).trans hF4)
                  have HP4 := Lib.hid (OwnRow.kept HP2.out (HF3.out.trans hF4) (by simp))
                  clear hF4
                  cases hv : verB f (frm f i) (siz f i)
                  · have hb : okB f i = false := by unfold okB; rw [HOF.out, hv]; simp
                    have HB := Lib.hid (HBD.out hb)
                    clear hb hv
                    go_wp2_with fail
                    go_ret
                    exact .no HB.out HF4.out
                  · have hb : okB f i = true := by unfold okB; rw [hv]; simp; omega
                    have HB := Lib.hid hb
                    clear hb hv
                    obtain ⟨v5, w5, hrun, hP5⟩ := PRow.push (L := parts f i) HP4.out HF4.out.size (frm f i) (frm f i + siz f i) (by have := parts_len f i; omega)
                    rw [show ((frm f i + siz f i : Nat) : Int) = (frm f i : Int) + (siz f i : Int) from by omega] at hrun
                    have Hrun := Lib.hid hrun
                    have HF5 : Hid (Fresh w w5) := Lib.hid (HF4.out.then hP5.kept fun k hk e => by have := (OwnRow.own HP4.out e).1; omega)
                    have HP5 := Lib.hid hP5.row
                    clear hrun hP5
                    go_wp2_with (first | (refine wpList_append_run _ _ rfl rfl Hrun.out ?_))
                    go_roundg (gk - 1)
                    case measure => have := H.out.2.2.2; omega
                    case rel => exact ⟨i + 1, by have := H.out.2.2.2; omega, by go_num, by rw [parts, if_neg (by simp [HOF.out])]; exact HP5.out, HF5.out, by rw [allOk, H.out.2.2.1, HB.out]; rfl⟩
        · obtain rfl : i = cnt f := by have := H.out.2.2.2; omega
          clear hil
          have hin := parts_in H.out.2.2.1
          have hln := parts_len f (cnt f)
          have HIN := Lib.hid hin
          clear hin
          go_wp2_with fail
          refine (sort_any _ (parts f (cnt f)) _ _ H.out.1 (fun p hp => by have := HIN.out p hp; omega) (by omega)).mono ?_
          rintro e w2 ⟨L, hLp, hLs, rfl, hPR, hK2⟩
          have hll := hLp.length_eq
          have hF2 : Fresh w w2 := H.out.2.1.then hK2 fun k hk e => by have := (OwnRow.own H.out.1 e).1; omega
          obtain ⟨v3, w3, hrun, hP3⟩ := PRow.push hPR hF2.size 512 512 (by omega)
          have hF3 : Fresh w w3 := hF2.then hP3.kept fun k hk e => by have := (OwnRow.own hPR e).1; omega
          rw [← hll] at H
          have Hrun := Lib.hid hrun
          have hgap := sound_gaps HFR.out H.out.2.2.1 hLp hLs
          obtain ⟨F, hFd⟩ : ∃ F, F = L ++ [(512, 512)] := ⟨_, rfl⟩
          have hin2 : ∀ p ∈ F, p.1 ≤ p.2 ∧ p.2 ≤ 512 := fun p hp => by
            rw [hFd] at hp
            rcases List.mem_append.1 hp with h | h
            · exact HIN.out p (hLp.mem_iff.1 h)
            · simp at h; subst h; simp
          have hrow3 := hP3.row
          rw [← hFd] at hrow3 hgap
          have hFl : F.length = L.length + 1 := by rw [hFd]; simp
          have H3 := Lib.hid (And.intro hrow3 (And.intro hF3 (And.intro hgap (And.intro hin2 hFl))))
          have hFl2 : F.length ≤ 70000 := by omega
          clear hrun hP3 hrow3 hF3 hgap hFd hin2 hPR hF2 hK2 hLp hLs hFl HFR HIN H
          obtain ⟨ra3, rc3, rfl⟩ := H3.out.1.form
          go_wp2_with (at_builtin; refine wpList_append_run _ _ rfl rfl Hrun.out ?_)
          clear Hrun
          go_loopg [8, 98] F.length (fun g s8 s98 wr => ∃ k at' : Nat, k + g = F.length ∧ s98 = .int .i64 k ∧ s8 = .int .i64 at' ∧ at' ≤ 512 ∧ gapsB f (4 + 4 * cnt f) F = gapsB f at' (F.drop k) ∧ Fresh w wr ∧ PRow wr (.slice ra3 F.length rc3) F w.heap.size)
          case atStart => exact ⟨0, 4 + 4 * cnt f, by omega, rfl, by go_num, by omega, by rw [List.drop_zero], H3.out.2.1, H3.out.1⟩
          case round =>
            obtain ⟨k, at', hk, rfl, rfl, hat, hgap, hF, hP⟩ := hrel
            by_cases hkl : k < F.length
            · obtain ⟨B, rfl, hBc, hcell⟩ := OwnRow.cell hP hkl
              have hmem : F.getD k (0, 0) ∈ F := by rw [List.getD_eq_getElem?_getD, List.getElem?_eq_getElem hkl]; exact List.getElem_mem hkl
              have hdrop : F.drop k = F.getD k (0, 0) :: F.drop (k + 1) := by rw [List.drop_eq_getElem_cons hkl, List.getD_eq_getElem?_getD, List.getElem?_eq_getElem hkl]; rfl
              have hbd := H3.out.2.2.2.1 _ hmem
              rw [hdrop] at hgap
              have c0 := hcell 0 (by omega)
              have c1 := hcell 1 (by omega)
              obtain ⟨⟨x, y⟩, hxy⟩ : ∃ p, p = F.getD k (0, 0) := ⟨_, rfl⟩
              rw [← hxy] at hgap hbd c0 c1
              simp only at hbd
              have c0' : wr.cell? ⟨B, k * 2, none⟩ = some (.int .i64 x) := c0
              have c1' : wr.cell? ⟨B, k * 2 + 1, none⟩ = some (.int .i64 y) := c1
              rw [gapsB] at hgap
              obtain ⟨hb1, hb2⟩ := hbd
              have H4 := Lib.hid (And.intro hk (And.intro hgap (And.intro hF hP)))
              clear hk hgap hF hP hcell hmem hdrop hxy c0 c1
              have hkl' : (k : Int) < (F.length : Int) := by omega
              go_upto_region 19 with fail
              have hA := (Kept.refl (fun _ => False) wr).alloc (.cells #[.int .i64 x, .int .i64 y] 97)
              have hT := alloc_at wr (.cells #[.int .i64 x, .int .i64 y] 97)
              have H5 := Lib.hid (And.intro (H4.out.2.2.1.trans hA) (And.intro (OwnRow.kept H4.out.2.2.2 hA (by simp)) hT))
              clear hA hT c0' c1'
              generalize wr.alloc (.cells #[.int .i64 x, .int .i64 y] 97) = W at H5 ⊢
              generalize wr.heap.size = T at H5 ⊢
              have t0 := boxCell H5.out.2.2 0
              have t1 := boxCell H5.out.2.2 1
              have hlt : T < W.heap.size := (Array.getElem?_eq_some_iff.1 H5.out.2.2).1
              by_cases hx : x < at'
              · have hx' := decide_eq_true hx
                have hno : ¬ SoundP f := fun h => by
                  have := H3.out.2.2.1.2 h
                  rw [H4.out.2.1] at this
                  simp at this
                  omega
                have HN := Lib.hid hno
                clear hx hno
                go_quiet (fail)
                have HF := Lib.hid (H5.out.1.drewN nq)
                clear t0 t1
                generalize W.drewN nq = W2 at HF ⊢
                go_wp2_with fail
                go_ret
                exact .no HN.out HF.out
              · have hx' := decide_eq_false hx
                obtain ⟨A, hAe, hrg⟩ := run_gap b at' (x - at') (by omega)
                rw [show at' + (x - at') = x from by omega] at hrg
                have hdat : ∀ W', Fresh w W' → Bytes W' (some A) (x - at') (fun j => f (at' + j)) := fun W' hF => by
                  have hb := HW.out.kept hF (by simp)
                  by_cases hz : 0 < x - at'
                  · rw [hAe hz]
                    exact hb.bytes at' (x - at') (by omega)
                  · exact ⟨fun j => hb.byte _, .inl (by omega)⟩
                have HD := Lib.hid (And.intro hdat (Nat.not_lt.1 hx))
                have hn1 : x - at' ≤ 1000000 := by omega
                clear hAe hdat hx
                cases hz : zerosB f at' (x - at')
                · have hno : ¬ SoundP f := fun h => by
                    have := H3.out.2.2.1.2 h
                    rw [H4.out.2.1, hz] at this
                    simp at this
                  have hcon : ∀ W', Fresh w W' → Calls Try.prog 62 #[.slice (some A) (x - at') (512 - at'), .func (.func 63) #[] #[]] W' (fun e w' => e = .returned (.bool true) ∧ W' = w') := fun W' hF => by
                    have := contains_any (some A) (x - at') (512 - at') _ W' (HD.out.1 W' hF) hn1
                    rw [zerosB_shift, hz] at this
                    exact this
                  have HN := Lib.hid (And.intro hno hcon)
                  clear hz hno hcon
                  go_quiet ((go_at_call 62; exact quietEq (HN.out.2 _ (H5.out.1.drewN _))))
                  have HF := Lib.hid (H5.out.1.drewN nq)
                  clear t0 t1 hrg
                  generalize W.drewN nq = W2 at HF ⊢
                  go_wp2_with fail
                  go_ret
                  exact .no HN.out.1 HF.out
                · have hgp : gapsB f (4 + 4 * cnt f) F = gapsB f y (F.drop (k + 1)) := by
                    rw [H4.out.2.1, hz]
                    simp [HD.out.2]
                  have hcon : ∀ W', Fresh w W' → Calls Try.prog 62 #[.slice (some A) (x - at') (512 - at'), .func (.func 63) #[] #[]] W' (fun e w' => e = .returned (.bool false) ∧ W' = w') := fun W' hF => by
                    have := contains_any (some A) (x - at') (512 - at') _ W' (HD.out.1 W' hF) hn1
                    rw [zerosB_shift, hz] at this
                    exact this
                  have HN := Lib.hid (And.intro hgp hcon)
                  clear hz hgp hcon
                  go_quiet ((go_at_call 62; exact quietEq (HN.out.2 _ (H5.out.1.drewN _))))
                  have hdr := (Kept.refl (fun _ => False) W).drewN nq
                  have HF := Lib.hid (And.intro (H5.out.1.trans hdr) (And.intro (OwnRow.kept H5.out.2.1 hdr (by simp)) ((hdr.block T hlt (by simp)).trans H5.out.2.2)))
                  clear t0 t1 hrg hdr
                  generalize W.drewN nq = W2 at HF ⊢
                  have t1 := boxCell HF.out.2.2 1
                  go_wp2_with fail
                  go_roundg (gk - 1)
                  case measure => have := H4.out.1; omega
                  case rel => exact ⟨k + 1, y, by have := H4.out.1; omega, by go_num, rfl, hb2, HN.out.1, HF.out.1, HF.out.2.1⟩
            · obtain rfl : k = F.length := by omega
              rw [List.drop_length, gapsB] at hgap
              have HS : Hid (SoundP f ∧ Fresh w wr) := Lib.hid ⟨H3.out.2.2.1.1 hgap, hF⟩
              clear hk hkl hat hgap hF hP
              go_wp2_with fail
              go_ret
              exact ⟨true, rfl, by simpa using HS.out.1, HS.out.2⟩
end Go.Proofs.Ytffbfgmhfnbmfaa
