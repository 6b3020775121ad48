/- The walk of PageLoads. -/
import Derived.Test.YtffbfgmhfnbmfaaT3
import Derived.Test.YtffbfgmhfnbmfaaT4
import Derived.Test.YtffbfgmhfnbmfaaS6
namespace Go.Proofs.Ytffbfgmhfnbmfaa
open Go.RowKit

theorem Quiet.fresh' {v : Value} {w : World} {e : Ending} {w' : World} (h : Quiet v w e w') : Gives v w e w' := by
  obtain ⟨rfl, n, rfl⟩ := h
  exact ⟨rfl, (Kept.refl _ w).drewN n⟩

set_option maxRecDepth 100000 in
set_option maxHeartbeats 4000000 in
theorem loads_walk (a : Option Addr) (n c : Nat) (d : Nat → Nat) (w : World) (h : Bytes w a n d) (hnc : n ≤ c) :
    Calls Try.prog 5 #[.slice a n c] w (Gives (.bool true) w) := by
  obtain ⟨m, hm⟩ : ∃ m, m = min n 600 := ⟨_, rfl⟩
  have H := Lib.hid (And.intro h (And.intro hnc hm))
  clear h hnc
  go_enter Try.func5, Try.ntmps5
  go_wp2_with fail
  refine (awake_any _).mono ?_
  rintro e w1 ⟨rfl, hF1⟩
  have HF := Lib.hid hF1
  clear hF1
  go_wp2_with fail
  refine (cut_any a n c 600 d _ (H.out.1.kept HF.out (by simp)) H.out.2.1 (by omega) m hm).mono ?_
  rintro e w2 ⟨⟨ab, ao, asp⟩, c2, rfl, hmc, hby, hnew, hsp, hF2⟩
  obtain rfl : asp = none := hsp
  have hm600 : m ≤ 600 := by omega
  have H2 := Lib.hid (And.intro (HF.out.trans hF2) (And.intro hby hmc))
  clear hF2 hby hmc hnew hm HF
  go_wp2_with fail
  refine (copy_own _ m _ d _ H2.out.2.1 (by omega)).mono ?_
  rintro e w3 ⟨B, c3, rfl, hO3, hF3⟩
  have hA := (Kept.refl (fun _ => False) w3).alloc (.cells #[.int .u8 165] 5)
  have hsrc : Bytes (w3.alloc (.cells #[.int .u8 165] 5)) (some ⟨w3.heap.size, 0, none⟩) 1 (fun _ => 165) := by
    refine ⟨fun _ => by omega, .inr ⟨_, _, rfl, by simp, fun j hj => ?_⟩⟩
    obtain rfl : j = 0 := by omega
    rw [boxCell (alloc_at w3 _)]
    rfl
  obtain ⟨v4, W4, hrun, hP⟩ := (hO3.kept hA (by simp)).push (k := 1) (by have := hF3.size; simp; omega) hsrc (.inl (by omega)) (by omega)
  have hK4 := hP.kept
  have hBn := hO3.own (b := B) rfl
  have hF4 : Fresh w2 W4 := (hF3.trans hA).then hK4 fun b hb e => by have e2 : B = b := Option.some.inj e; omega
  obtain ⟨hf4, ⟨_, h0⟩ | ⟨B4, c4, g4, rfl, hc4, hl4, hby4, hg4⟩⟩ := hP.row
  · omega
  have hj1 : ∀ j, j < m → g4 j = d j := fun j hj => by rw [hg4 j (by omega)]; unfold joined; rw [if_pos hj]
  have hj2 : g4 m = 165 := by rw [hg4 m (by omega)]; unfold joined; rw [if_neg (by omega), if_pos (by omega)]
  have hmc4 : (m : Int) ≤ (c4 : Int) := by omega
  have hmc5 : (m : Int) + 1 ≤ (c4 : Int) := by omega
  have hmm : (m : Int) < (m : Int) + 1 := by omega
  have Hrun := Lib.hid hrun
  have hbm : Bytes W4 (some ⟨B4, 0, none⟩) m d := (hby4.bytes 0 m (by omega)).congr (fun j hj => by rw [Nat.zero_add]; exact hj1 j hj) H2.out.2.1.byte
  have hcm : W4.cell? ⟨B4, m, none⟩ = some (.int .u8 165) := by rw [hby4.cell (i := m) (by omega), hj2]; rfl
  have H4 := Lib.hid (And.intro hF4 (And.intro hbm (And.intro hcm (And.intro hby4.blk (H2.out.2.1.kept hF4 (by simp))))))
  clear hrun hP hK4 hBn hF4 hA hsrc hO3 hF3 hf4 hl4 hby4 hg4 hj1 hj2 hbm hcm
  go_wp2_with (at_builtin; refine wpList_append_run _ _ rfl rfl Hrun.out ?_)
  by_cases h512 : m = 512
  · subst h512
    have HN := Lib.hid hmc4
    refine (load_full B4 0 c4 d _ H4.out.2.1).mono ?_
    rintro e w5 h5
    rcases h5 with ⟨hno, rfl, hF5⟩ | ⟨hs, rfl, hpg, hF5⟩
    · have H5 := Lib.hid (And.intro hno (And.intro hF5 (H4.out.2.2.2.2.kept hF5 (by simp))))
      clear hno hF5
      go_wp2_with fail
      refine (rload_full ab ao c2 d _ H5.out.2.2 H2.out.2.2).mono ?_
      rintro e w6 h6
      rcases h6 with ⟨_, rfl, hF6⟩ | ⟨hs, _⟩
      · have H6 := Lib.hid (And.intro (H5.out.2.1.trans hF6) hF6)
        have hcell : w6.cell? ⟨B4, 512, none⟩ = some (.int .u8 165) := (H6.out.1.cell (p := ⟨B4, 512, none⟩) H4.out.2.2.2.1 (by simp)).trans H4.out.2.2.1
        clear hF6
        go_wp2_with fail
        refine (same_any _ 512 _ d _ 512 _ d _ (H4.out.2.1.kept H6.out.1 (by simp)) (by simp) (H5.out.2.2.kept H6.out.2 (by simp)) (by simp)).mono ?_
        rintro e w7 ⟨rfl, rfl⟩
        have hsm : sameB 512 d 512 d = true := decide_eq_true ⟨rfl, fun _ _ => rfl⟩
        rw [hsm]
        clear hsm
        go_wp2_with fail
        go_ret
        exact ⟨rfl, H2.out.1.trans (H4.out.1.trans H6.out.1)⟩
      · exact (H5.out.1 hs).elim
    · have hb4 := H4.out.2.2.2.2.kept hF5 (by simp)
      have hby5 : Byt w5 W4.heap.size 75 512 (enc (dec d)) := hpg.congr (fun j hj => (dec_enc H2.out.2.1.byte hs j hj).symm) (enc_lt (dec_wf H2.out.2.1.byte hs))
      have H5 := Lib.hid (And.intro hs (And.intro hF5 (And.intro hb4 (And.intro hby5 hpg))))
      have HW := Lib.hid (dec_wf H2.out.2.1.byte hs)
      have HL : Hid ((dec d).slots.length ≤ 200) := Lib.hid (by have h1 := hs.front; unfold frontB at h1; simp at h1; rw [dec_len]; omega)
      generalize W4.heap.size = q at hby5 hpg H5 ⊢
      clear hs hF5 hb4 hby5 hpg
      go_wp2_with fail
      refine (rload_full ab ao c2 d _ H5.out.2.2.1 H2.out.2.2).mono ?_
      rintro e w6 h6
      rcases h6 with ⟨hno, _⟩ | ⟨_, R, v, rfl, hR, hF6⟩
      · exact (hno H5.out.1).elim
      · have H6 := Lib.hid (And.intro (H5.out.2.1.trans hF6) (And.intro hF6 hR))
        have hcell : w6.cell? ⟨B4, 512, none⟩ = some (.int .u8 165) := (H6.out.1.cell (p := ⟨B4, 512, none⟩) H4.out.2.2.2.1 (by simp)).trans H4.out.2.2.1
        clear hF6 hR
        go_wp2_with fail
        refine (same_any _ 512 _ d _ 512 _ d _ (H4.out.2.1.kept H6.out.1 (by simp)) (by simp) (H5.out.2.2.1.kept H6.out.2.1 (by simp)) (by simp)).mono ?_
        rintro e w7 ⟨rfl, rfl⟩
        have hsm : sameB 512 d 512 d = true := decide_eq_true ⟨rfl, fun _ _ => rfl⟩
        rw [hsm]
        clear hsm
        go_wp2_with fail
        refine (bytes_any q _ _ (H5.out.2.2.2.2.kept H6.out.2.1 (by simp))).mono ?_
        rintro e w7 ⟨b7, k7, rfl, hby7, _, hF7⟩
        have H7 := Lib.hid (And.intro hby7 hF7)
        clear hby7 hF7 hcell
        go_wp2_with fail
        refine (same_any _ 512 _ d _ 512 _ d _ H7.out.1 (by simp) (H5.out.2.2.1.kept (H6.out.2.1.trans H7.out.2) (by simp)) (by simp)).mono ?_
        rintro e w8 ⟨rfl, rfl⟩
        have hsm : sameB 512 d 512 d = true := decide_eq_true ⟨rfl, fun _ _ => rfl⟩
        rw [hsm]
        clear hsm
        go_wp2_with fail
        refine (used_enc q _ _ (H5.out.2.2.2.1.kept (H6.out.2.1.trans H7.out.2) (by simp)) HW.out).mono ?_
        rintro e w8 hq
        obtain ⟨rfl, hF8⟩ := hq.fresh'
        have H8 := Lib.hid (H7.out.2.trans hF8)
        clear hq hF8
        go_wp2_with fail
        refine (rused_any _ R v _ _ (H6.out.2.2.fresh H8.out) HL.out).mono ?_
        rintro e w9 ⟨rfl, hF9⟩
        have H9 := Lib.hid (H8.out.trans hF9)
        clear hF9
        go_wp2_with fail
        refine (room_enc q _ _ (H5.out.2.2.2.1.kept (H6.out.2.1.trans H9.out) (by simp)) HW.out).mono ?_
        rintro e w10 hq
        obtain ⟨rfl, hF10⟩ := hq.fresh'
        have H10 := Lib.hid (H9.out.trans hF10)
        clear hq hF10
        go_wp2_with fail
        refine (rroom_any _ R v _ _ (H6.out.2.2.fresh H10.out) HW.out).mono ?_
        rintro e w11 ⟨rfl, hF11⟩
        have H11 := Lib.hid (H10.out.trans hF11)
        clear hF11
        go_wp2_with fail
        go_ret
        exact ⟨rfl, H2.out.1.trans (H4.out.1.trans (H6.out.1.trans H11.out))⟩
  · have hb5 : ((m : Int) != 512) = true := by simp; omega
    have HN := Lib.hid h512
    clear h512 hb5
    refine (load_short _ m _ _ HN.out).mono ?_
    rintro e w5 ⟨rfl, hF5⟩
    have H5 := Lib.hid (And.intro hF5 (H4.out.2.2.2.2.kept hF5 (by simp)))
    clear hF5
    go_wp2_with fail
    refine (rload_short _ m _ _ HN.out).mono ?_
    rintro e w6 ⟨rfl, hF6⟩
    have H6 := Lib.hid (And.intro (H5.out.1.trans hF6) hF6)
    have hcell : w6.cell? ⟨B4, m, none⟩ = some (.int .u8 165) := (H6.out.1.cell (p := ⟨B4, m, none⟩) H4.out.2.2.2.1 (by simp)).trans H4.out.2.2.1
    clear hF6
    go_wp2_with fail
    refine (same_any _ m _ d _ m _ d _ (H4.out.2.1.kept H6.out.1 (by simp)) (by simp) (H5.out.2.kept H6.out.2 (by simp)) (by simp)).mono ?_
    rintro e w7 ⟨rfl, rfl⟩
    have hsm : sameB m d m d = true := decide_eq_true ⟨rfl, fun _ _ => rfl⟩
    rw [hsm]
    clear hsm
    go_wp2_with fail
    go_ret
    exact ⟨rfl, H2.out.1.trans (H4.out.1.trans H6.out.1)⟩
end Go.Proofs.Ytffbfgmhfnbmfaa
