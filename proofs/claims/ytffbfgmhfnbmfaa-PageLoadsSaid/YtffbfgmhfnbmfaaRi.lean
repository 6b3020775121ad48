/- The reference's Insert, where there is room: the walk. -/
import Derived.Test.YtffbfgmhfnbmfaaRg
import Derived.BigRegion
namespace Go.Proofs.Ytffbfgmhfnbmfaa
open Go.RowKit

set_option maxRecDepth 100000 in
set_option maxHeartbeats 4000000 in
theorem rinsert_ok (P : Nat → Prop) (R : Nat) (v : Value) (st : St) (ver : Ver) (a : Option Addr) (n c : Nat) (d : Nat → Nat) (w : World) (hP : ∀ b, w.heap.size ≤ b → P b) (hw : RefIs P w R v st) (hst : Wf st) (hv : ver.Ok)
    (hfar : farB ((ver.P : Int) - 1) ((ver.S : Int) - 1) = false) (hn : ver.data.length = n) (hd : Bytes w a n d) (hdd : ∀ j, d j = ver.data.getD j 0) (hr : (n : Int) ≤ roomA st.slots) :
    Calls Try.prog 53 #[.pointer (some ⟨R, 0, none⟩), tupV ver.row ver.x ver.y ((ver.P : Int) - 1) ((ver.S : Int) - 1) (.slice a n c)] w (RInserted P R v (putA st ver) (firstFree st.slots) w) := by
  subst hn
  have hlow := hst.low
  have hhigh := hst.high
  have hlen := hv.len
  have h : rightB ver.row ver.x ver.y ((ver.P : Int) - 1) ((ver.S : Int) - 1) ver.data.length = true := by
    have h1 := hv.row
    have h2 := hv.x
    have h3 := hv.y
    unfold rightB
    rw [hfar]
    simp
    omega
  have hA := (Kept.refl (fun _ => False) w).alloc (Obj.cells #[.int .u64 ver.row, .int .u64 ver.x, .int .u64 ver.y, .int .i64 ((ver.P : Int) - 1), .int .i64 ((ver.S : Int) - 1), .slice a ver.data.length c] 29)
  have hs1 : (w.alloc (Obj.cells #[.int .u64 ver.row, .int .u64 ver.x, .int .u64 ver.y, .int .i64 ((ver.P : Int) - 1), .int .i64 ((ver.S : Int) - 1), .slice a ver.data.length c] 29)).heap.size = w.heap.size + 1 := by simp
  have hB := alloc_at w (Obj.cells #[.int .u64 ver.row, .int .u64 ver.x, .int .u64 ver.y, .int .i64 ((ver.P : Int) - 1), .int .i64 ((ver.S : Int) - 1), .slice a ver.data.length c] 29)
  have hr' := decide_eq_false (show ¬ roomA st.slots < (ver.data.length : Int) by omega)
  have HA := Lib.hid (And.intro hA (And.intro h (And.intro hs1 (And.intro hB (And.intro hw (And.intro hst (And.intro hP (And.intro hv (And.intro hr (And.intro hd hdd))))))))))
  clear hA h hs1 hB hw hr hP hv hd hdd hfar
  go_enter Try.func53, Try.ntmps53
  go_wp2_with fail
  refine (right_ref ver.row ver.x ver.y ((ver.P : Int) - 1) ((ver.S : Int) - 1) a ver.data.length c _).mono ?_
  rintro e w1 ⟨rfl, hF1⟩
  rw [HA.out.2.1]
  have hF2 := HA.out.1.trans hF1
  have hB2 := (hF1.block w.heap.size (by rw [HA.out.2.2.1]; omega) (by simp)).trans HA.out.2.2.2.1
  have hW2 := (HA.out.2.2.2.2.1.fresh hF2).drew
  have c5 := boxCell hB2 5
  have hlt1 := (Array.getElem?_eq_some_iff.1 hB2).1
  have HF := Lib.hid (And.intro hF2 hB2)
  clear hF1 hF2 hB2
  go_wp2_with fail
  go_region_held3 (fun W => W.cell? ⟨w.heap.size, 5, none⟩ = some (.slice a ver.data.length c)) (first | exact c5 | exact (hF3.cell (p := ⟨w.heap.size, 5, none⟩) hlt1 (by simp)).trans c5) (first
    | (go_at_call 29; refine (rroom_any P R v st _ hW2 HA.out.2.2.2.2.2.1).mono ?_; rintro e w3 ⟨rfl, hF3⟩))
  have hF4 := HF.out.1.drew.trans hF3
  have hB4 := (hF3.block w.heap.size hlt1 (by simp)).trans HF.out.2
  have hW4 := HA.out.2.2.2.2.1.fresh hF4
  have hlt4 := (Array.getElem?_eq_some_iff.1 hB4).1
  have d5 := boxCell hB4 5
  have hbt := HA.out.2.2.2.2.2.2.2.2.2.1.kept hF4 (by simp)
  have HG := Lib.hid (And.intro hF4 (And.intro hB4 hW4))
  clear hW2 c5 hlt1 hF3 HF hF4 hB4 hW4
  go_wp2_with fail
  refine (copy_any a ver.data.length c d _ hbt (by omega)).mono ?_
  rintro e w5 ⟨a1, c1, rfl, hmc, hby5, hnew, hsp, hF5⟩
  obtain ⟨hF4, hB4, hW4⟩ := HG.out
  have hB5 := (hF5.block w.heap.size hlt4 (by simp)).trans hB4
  have d5 := boxCell hB5 5
  have z5 := boxFree hB5 5
  have hMid : Mid P R v ver w a1 c1 (w5.setCell ⟨w.heap.size, 5, none⟩ (.slice (some a1) ver.data.length c1)) v st := by
    have hk := (Kept.refl (fun b => b = w.heap.size) w5).setCell (p := ⟨w.heap.size, 5, none⟩) (fun _ => rfl) (.slice (some a1) ver.data.length c1)
    have hRl := HA.out.2.2.2.2.1.lt
    have hP := HA.out.2.2.2.2.2.2.1
    have hbx := setBox hB5 5 (.slice (some a1) ver.data.length c1)
    exact {
      ref := HA.out.2.2.2.2.1.kept (((hF4.trans hF5).mono (S' := fun b => b = w.heap.size) fun _ _ h => h.elim).then hk fun _ _ h => h) fun b _ hlt he => by omega
      box := by simpa using hbx
      bytes := (hby5.kept hk (fun z hz => by cases hz; omega)).congr (fun j hj => HA.out.2.2.2.2.2.2.2.2.2.2 j) (fun j => by rw [← HA.out.2.2.2.2.2.2.2.2.2.2 j]; exact hby5.byte j)
      own := fun b hb => by
        obtain ⟨_, _, dv0, hr0, _⟩ := HA.out.2.2.2.2.1
        have := (hr0.own hb).1
        exact ⟨by omega, by omega, fun _ => hb⟩
      kept := ((hF4.trans hF5).then hk fun i hi e => by omega).mono fun _ _ h => h.elim
      hR := hRl
      ha := ⟨by omega, Nat.lt_of_lt_of_le hnew.2 hk.size⟩
      spot := hsp
      pa := hP _ (by omega)
      le := hmc }
  have HM := Lib.hid hMid
  clear hMid hbt hby5 hnew hsp hF5 hF4 hB4 hW4 hB5 hlt4 HG
  go_upto_region 8 with fail
  generalize w5.setCell ⟨w.heap.size, 5, none⟩ (.slice (some a1) ver.data.length c1) = w6 at HM ⊢
  clear d5 z5
  have hM := HM.out
  have hRf := hM.ref
  obtain ⟨hb, hp, dv, hr, hdt⟩ := hRf
  obtain ⟨va, vc, rfl⟩ := hr.form
  have b0 := boxCell hb 0
  clear hM
  go_wp2_with fail
  go_loopg [6, 7] st.slots.length (fun g s6 s7 wr => wr = w6 ∧ g ≤ st.slots.length ∧ s6 = .int .i64 (ffFrom st.slots g) ∧ s7 = .int .i64 ((g : Int) - 1))
  case atStart => exact ⟨rfl, Nat.le_refl _, by rw [ffFrom_end], by go_num⟩
  case round =>
    obtain ⟨hwr, hgl, rfl, rfl⟩ := hrel
    subst hwr
    have hff := ffFrom_le hgl
    cases gk with
    | zero =>
      rw [ffFrom_zero]
      clear hff
      have hffl := firstFree_le st.slots
      have hffg := Lib.hid (firstFree_get st.slots)
      have hl200 : st.slots.length ≤ 200 := by omega
      clear hb hr hdt
      go_upto_if 57 with fail
      go_cut [] from 22 to 145 (fun wc => ∃ v', Mid P R (.slice va st.slots.length vc) ver w a1 c1 wc v' ⟨growK st.slots (firstFree st.slots), st.start⟩)
      case first =>
        by_cases e : firstFree st.slots = st.slots.length
        · obtain ⟨v2, W2, hrun, hRb, hM2⟩ := HM.out.add HA.out.2.2.2.2.2.2.1 (by show st.slots.length ≤ 200; omega)
          have hgk : growK st.slots (firstFree st.slots) = st.slots ++ [none] := if_pos e
          have hM3 := hM2.ref
          obtain ⟨_, _, dv2, hr2, _⟩ := hM3
          obtain ⟨va2, vc2, rfl⟩ := hr2.form
          clear hr2
          have hl2 : (st.slots ++ [(none : Slot)]).length = st.slots.length + 1 := by simp
          rw [hl2] at hM2 hrun
          clear hl2
          have hb2 := hRb.trans HM.out.ref.box
          have r0 := boxCell hb2 0
          have rz := boxFree hb2 0
          have ee : ((firstFree st.slots : Int) == (st.slots.length : Int)) = true := by simp [e]
          have Hrun := Lib.hid (And.intro hrun (And.intro hgk hM2))
          clear hrun hRb hM2 hgk hb2 e
          go_wp2_with (at_builtin; refine wpList_append_run _ _ rfl rfl Hrun.out.1 ?_)
          go_meet
          exact ⟨_, by rw [Hrun.out.2.1]; exact Hrun.out.2.2⟩
        · have hgk : growK st.slots (firstFree st.slots) = st.slots := if_neg e
          have ee : ((firstFree st.slots : Int) == (st.slots.length : Int)) = false := by simp; omega
          have HK := Lib.hid hgk
          clear e hgk
          go_wp2_with fail
          go_meet
          exact ⟨_, by rw [HK.out]; exact HM.out⟩
      case rest =>
        obtain ⟨v', hM1⟩ := hcut
        have hg1 := growK_get (firstFree_get st.slots)
        have hsum := room_sum HA.out.2.2.2.2.2.2.2.2.1
        have hwst := HA.out.2.2.2.2.2.1
        have hgl := growK_len st.slots (firstFree st.slots) (firstFree_le _)
        obtain ⟨_, _, dv2, hr2, _⟩ := hM1.ref
        obtain ⟨va2, vc2, rfl⟩ := hr2.form
        clear hr2
        have b0 := boxCell hM1.ref.box 0
        have b1 := boxCell hM1.ref.box 1
        have d5 := boxCell hM1.box 5
        have hL200 : (growK st.slots (firstFree st.slots)).length ≤ 201 := by rw [hgl]; omega
        have HK := Lib.hid (And.intro hM1 (And.intro hg1 (And.intro hsum hwst)))
        clear hM1 hg1 hsum hwst hgl HM b0
        have b0 := boxCell HK.out.1.ref.box 0
        have b1 := boxCell HK.out.1.ref.box 1
        have hpt := putA_then (st := st) (v := ver)
        have hpe := putA_else (st := st) (v := ver)
        generalize hL1 : growK st.slots (firstFree st.slots) = L1 at *
        have HP := Lib.hid (And.intro hpt (And.intro hpe hL1))
        have hvs : ver.size = 30 + ver.data.length := rfl
        clear hpt hpe hL1
        go_wp2_with fail
        go_region
        go_upto_if 85 with fail
        go_cut [] from 85 to 145 (fun wc2 => ∃ L2 s2, Mid P R (.slice va st.slots.length vc) ver w a1 c1 wc2 (.slice va2 L1.length vc2) ⟨L2, s2⟩ ∧ L2.length = L1.length ∧ 30 + ver.data.length ≤ s2 ∧ s2 ≤ 512 ∧ putA st ver = ⟨L2.set (firstFree st.slots) (some (s2 - ver.size, ver)), s2 - ver.size⟩)
        case first =>
          by_cases hc : (st.start : Int) - (30 + (ver.data.length : Int)) < 4 + 4 * (L1.length : Int)
          · have hc' := decide_eq_true hc
            rw [hc']
            have z1 := boxFree HK.out.1.ref.box 1
            have hpa := HP.out.1 (by omega)
            have HC := Lib.hid hpa
            clear hc hpa
            go_wp2_with fail
            have hm0 : Mid P R (.slice va st.slots.length vc) ver w a1 c1 (wc.setCell ⟨R, 1, none⟩ (.int .i64 512)).drew (.slice va2 L1.length vc2) ⟨cpN L1 0 ++ L1.drop 0, atN L1 0⟩ := (HK.out.1.start 512).drew
            have hszL := sumS_szN L1
            have hsum := HK.out.2.2.1
            have hLpos : firstFree st.slots < L1.length := (List.getElem?_eq_some_iff.1 HK.out.2.1).1
            generalize (wc.setCell ⟨R, 1, none⟩ (.int .i64 512)).drew = w9 at hm0 ⊢
            have HS := Lib.hid (And.intro hszL (And.intro hsum hLpos))
            clear b0 b1 d5 z1 hc' hszL hsum hLpos
            go_loopg [94] L1.length (fun g s94 wr => ∃ i : Nat, i + g = L1.length ∧ s94 = .int .i64 i ∧ Mid P R (.slice va st.slots.length vc) ver w a1 c1 wr (.slice va2 L1.length vc2) ⟨cpN L1 i ++ L1.drop i, atN L1 i⟩)
            case atStart => exact ⟨0, by omega, rfl, hm0⟩
            case round =>
              obtain ⟨i, hi, rfl, hM⟩ := hrel
              have hl := cp_len L1 (i := i) (by omega)
              have hMr := hM.ref
              obtain ⟨hb, hp, dv, hr, hdt⟩ := hMr
              have b0 := boxCell hb 0
              have b1 := boxCell hb 1
              by_cases hil : i < L1.length
              · obtain ⟨B, rfl, h⟩ := RefIs.slot (S := fun _ => False) (k := i) hr hdt (Kept.refl _ wr) (by simp) (by rw [hl]; exact hil)
                rw [mid_getD hil] at h
                rcases h with ⟨e, _, ⟨c0, c1, c2, c3, c4, c5, c6, c7⟩⟩ | ⟨f', ver', da', dc', e, hget, ⟨c0, c1, c2, c3, c4, c5, c6, c7⟩, _, _, _, _⟩
                · have HE := Lib.hid (And.intro e (And.intro hM hi))
                  clear hb hp hr hdt e hM hl
                  go_wp2_with fail
                  go_roundg (gk - 1)
                  case measure => have := HE.out.2.2; omega
                  case rel =>
                    refine ⟨i + 1, by have := HE.out.2.2; omega, by go_num, ?_⟩
                    rw [← cp_step_none L1 hil HE.out.1, atN, HE.out.1]
                    exact HE.out.2.1.alloc _
                · have hszi := szN_step (l := L1) (i := i)
                  have hszm := szN_mono L1 (show i + 1 ≤ L1.length by omega)
                  have hszL := HS.out.1
                  have hsum := HS.out.2.1
                  have hat := atN_szN (l := L1) (by omega) i (by omega)
                  have hat1 := atN_szN (l := L1) (by omega) (i + 1) (by omega)
                  have hso : sizeOfS (L1.getD i none) = 30 + ver'.data.length := by rw [e]; rfl
                  have heq : (atN L1 i : Int) - (30 + (ver'.data.length : Int)) = (atN L1 (i + 1) : Int) := by omega
                  have hvl : ver'.data.length ≤ 500 := by omega
                  have hal : atN L1 i ≤ 512 := by omega
                  have HE := Lib.hid (And.intro e (And.intro hM (And.intro hi (And.intro hget heq))))
                  clear hb hp hr hdt e hM hl hszi hszm hszL hsum hat hat1 hso heq hget b0 b1
                  go_upto_region 23 with fail
                  have hM10 := HE.out.2.1.alloc (.cells #[.bool true, .int .u64 ver'.row, .int .u64 ver'.x, .int .u64 ver'.y, .int .i64 ((ver'.P : Int) - 1), .int .i64 ((ver'.S : Int) - 1), .slice (some da') ver'.data.length dc', .int .i64 f'] 84)
                  have hbx := alloc_at wr (.cells #[.bool true, .int .u64 ver'.row, .int .u64 ver'.x, .int .u64 ver'.y, .int .i64 ((ver'.P : Int) - 1), .int .i64 ((ver'.S : Int) - 1), .slice (some da') ver'.data.length dc', .int .i64 f'] 84)
                  generalize wr.alloc (.cells #[.bool true, .int .u64 ver'.row, .int .u64 ver'.x, .int .u64 ver'.y, .int .i64 ((ver'.P : Int) - 1), .int .i64 ((ver'.S : Int) - 1), .slice (some da') ver'.data.length dc', .int .i64 f'] 84) = w10 at hM10 hbx ⊢
                  have e6 := boxCell hbx 6
                  have b1 := boxCell hM10.ref.box 1
                  have z1 := boxFree hM10.ref.box 1
                  clear c0 c1 c2 c3 c4 c5 c6 c7
                  have HM10 := Lib.hid hM10
                  clear hM10 hbx
                  go_region
                  rw [HE.out.2.2.2.2]
                  have hM11 := (HM10.out.start (atN L1 (i + 1))).drew
                  generalize (w10.setCell ⟨R, 1, none⟩ (.int .i64 (atN L1 (i + 1)))).drew = w11 at hM11 ⊢
                  clear e6 b1 z1 HM10
                  have b0 := boxCell hM11.ref.box 0
                  have b1 := boxCell hM11.ref.box 1
                  have hMr := hM11.ref
                  obtain ⟨hb, hp, dv, hr, hdt⟩ := hMr
                  obtain ⟨B', eB, _, _, _, _, hzB, hcB⟩ := hr.at (k := i) (by show i < (cpN L1 i ++ L1.drop i).length; rw [cp_len L1 (by omega)]; exact hil)
                  cases eB
                  have z7 := hzB (i * 8 + 7)
                  have c7 := hcB i (by show i < (cpN L1 i ++ L1.drop i).length; rw [cp_len L1 (by omega)]; exact hil) 7 (by omega)
                  have hlt' : (i : Int) < (L1.length : Int) := by omega
                  have HM11 := Lib.hid hM11
                  clear hM11 hb hp hr hdt hzB hcB
                  go_wp2_with fail
                  go_region
                  have hM12 := (HM11.out.from HE.out.2.2.2.1 (atN L1 (i + 1))).drew
                  have hst := cp_step L1 hil
                  rw [show cpS L1 i = some (atN L1 (i + 1), ver') from by unfold cpS; rw [HE.out.1]] at hst
                  rw [hst] at hM12
                  clear b0 b1 z7 c7 hst HM11
                  go_wp2_with fail
                  go_roundg (gk - 1)
                  case measure => have := HE.out.2.2.1; omega
                  case rel => exact ⟨i + 1, by have := HE.out.2.2.1; omega, by go_num, hM12⟩
              · obtain rfl : i = L1.length := by omega
                have HE := Lib.hid hM
                clear hb hp hr hdt hM hl
                go_wp2_with fail
                go_meet
                rw [List.drop_length, List.append_nil] at HE
                refine ⟨_, _, HE.out, cpN_length _ _, ?_, ?_, HC.out⟩
                · have hat := atN_szN (l := L1) (by have := HS.out; omega) L1.length (Nat.le_refl _)
                  have := HS.out
                  omega
                · have hat := atN_szN (l := L1) (by have := HS.out; omega) L1.length (Nat.le_refl _)
                  omega
          · have hc' := decide_eq_false hc
            rw [hc']
            have hpa := HP.out.2.1 (by omega)
            have HC := Lib.hid (And.intro hpa hc)
            clear hc hpa
            go_wp2_with fail
            go_meet
            exact ⟨L1, st.start, HK.out.1.drew, rfl, by have := HC.out.2; omega, hhigh, HC.out.1⟩
        case rest =>
          obtain ⟨L2, s2, hM2, hL2, hs2, hs512, hput⟩ := hcut
          have hkl : firstFree st.slots < L1.length := (List.getElem?_eq_some_iff.1 HK.out.2.1).1
          have heq : (s2 : Int) - (30 + (ver.data.length : Int)) = ((s2 - ver.size : Nat) : Int) := by omega
          have HE := Lib.hid (And.intro hM2 (And.intro hL2 (And.intro hput (And.intro hkl heq))))
          clear b0 b1 d5 hL2 hput hkl heq
          have b1 := boxCell hM2.ref.box 1
          have z1 := boxFree hM2.ref.box 1
          clear hM2
          go_upto_region 27 with fail
          rw [HE.out.2.2.2.2]
          have hM3 := HE.out.1.start (s2 - ver.size)
          generalize wc.setCell ⟨R, 1, none⟩ (.int .i64 (s2 - ver.size : Nat)) = w12 at hM3 ⊢
          clear b1 z1
          have b0 := boxCell hM3.ref.box 0
          have b1 := boxCell hM3.ref.box 1
          have d0 := boxCell hM3.box 0
          have d1 := boxCell hM3.box 1
          have d2 := boxCell hM3.box 2
          have d3 := boxCell hM3.box 3
          have d4 := boxCell hM3.box 4
          have d5 := boxCell hM3.box 5
          have hMr := hM3.ref
          obtain ⟨hb, hp, dv, hr, hdt⟩ := hMr
          have hkl2 : firstFree st.slots < L2.length := by rw [HE.out.2.1]; exact HE.out.2.2.2.1
          obtain ⟨B, eB, _, _, _, _, hzB, hcB⟩ := hr.at (k := firstFree st.slots) hkl2
          subst eB
          obtain ⟨c0, c1, c2, c3, c4, c5, c6, c7⟩ := Cells8.of (hcB _ hkl2)
          have z0 := hzB (firstFree st.slots * 8)
          have z1 := hzB (firstFree st.slots * 8 + 1)
          have z2 := hzB (firstFree st.slots * 8 + 2)
          have z3 := hzB (firstFree st.slots * 8 + 3)
          have z4 := hzB (firstFree st.slots * 8 + 4)
          have z5 := hzB (firstFree st.slots * 8 + 5)
          have z6 := hzB (firstFree st.slots * 8 + 6)
          have z7 := hzB (firstFree st.slots * 8 + 7)
          have hlt' : (firstFree st.slots : Int) < (L1.length : Int) := by have := HE.out.2.2.2.1; omega
          have HM3 := Lib.hid hM3
          clear hM3 hb hp hr hdt hzB hcB
          go_region
          go_wp2_with fail
          obtain ⟨hR, hK⟩ := HM3.out.lay (f' := s2 - (30 + ver.data.length)) hkl2
          go_ret2
          refine ⟨.slice (some ⟨B, 0, none⟩) L1.length vc2, rfl, ?_, hK.drew⟩
          rw [HE.out.2.2.1]
          exact hR.drew
    | succ m =>
      have hml : m < st.slots.length := by omega
      obtain ⟨B, rfl, h⟩ := RefIs.slot (S := fun _ => False) hr hdt (Kept.refl _ wr) (by simp) hml
      have hm1 : ((m + 1 : Nat) : Int) - 1 = (m : Int) := by omega
      rcases h with ⟨e, _, ⟨c0, c1, c2, c3, c4, c5, c6, c7⟩⟩ | ⟨f', ver', da', dc', e, _, ⟨c0, c1, c2, c3, c4, c5, c6, c7⟩, _, _, _, _⟩
      · have HE := Lib.hid (And.intro (ffFrom_none hml e) hgl)
        clear hb hr hdt e hgl
        rw [hm1]
        go_wp2_with fail
        go_roundg m
        case measure => omega
        case rel => exact ⟨rfl, by omega, by rw [HE.out.1], by go_num⟩
      · have HE := Lib.hid (And.intro (ffFrom_some hml e) hgl)
        clear hb hr hdt e hgl
        rw [hm1]
        go_wp2_with fail
        go_roundg m
        case measure => omega
        case rel => exact ⟨rfl, by omega, by rw [HE.out.1], by go_num⟩
end Go.Proofs.Ytffbfgmhfnbmfaa
