/- The walk of PageTwice. -/
import Derived.Test.YtffbfgmhfnbmfaaY3
namespace Go.Proofs.Ytffbfgmhfnbmfaa
open Go.RowKit

/-- n bytes that may be written. -/
structure Soft (w : World) (b off n : Nat) : Prop where
  cells : ∀ j, j < n → ∃ z, w.cell? ⟨b, off + j, none⟩ = some (.int .u8 z)
  free : ∀ j, w.frozen? ⟨b, j, none⟩ = false

theorem Soft.put {w : World} {b off n : Nat} (h : Soft w b off n) (i : Nat) (z : Int) : Soft (w.setCell ⟨b, off + i, none⟩ (.int .u8 z)) b off n where
  cells := fun j hj => by
    obtain ⟨z0, hz0⟩ := h.cells j hj
    by_cases e : j = i
    · subst e
      exact ⟨z, World.cell?_setCell_same _ _ _ hz0⟩
    · exact ⟨z0, (World.cell?_setCell_other _ _ _ _ (by intro h; simp only [Addr.mk.injEq] at h; omega)).trans hz0⟩
  free := fun j => by rw [World.frozen?_setCell]; exact h.free j

theorem Soft.of {w : World} {b off n : Nat} {d : Nat → Nat} (h : Bytes w (some ⟨b, off, none⟩) n d) (hf : ∀ j, w.frozen? ⟨b, j, none⟩ = false) : Soft w b off n where
  cells := fun j hj => by
    rcases h.cells with h0 | ⟨b', o', e, _, hc⟩
    · omega
    · simp only [Option.some.injEq, Addr.mk.injEq] at e
      obtain ⟨rfl, rfl, _⟩ := e
      exact ⟨_, hc j hj⟩
  free := hf

theorem Soft.kept {S : Nat → Prop} {w w' : World} {b off n : Nat} (h : Soft w b off n) (k : Kept S w w') (hb : b < w.heap.size) (hs : ¬ S b) : Soft w' b off n where
  cells := fun j hj => by
    obtain ⟨z, hz⟩ := h.cells j hj
    exact ⟨z, (k.cell (p := ⟨b, off + j, none⟩) hb hs).trans hz⟩
  free := fun j => (k.frozen (p := ⟨b, j, none⟩) hb hs).trans (h.free j)

/-- A page, and its bytes that were copied. -/
structure Tw (w wr : World) (pb : Nat) (st : St) (aw : Addr) : Prop where
  page : Byt wr pb 75 512 (enc st)
  was : Bytes wr (some aw) 512 (enc st)
  fresh : Fresh w wr

theorem Tw.kept {w wr wn : World} {pb : Nat} {st : St} {aw : Addr} (h : Tw w wr pb st aw) (k : Fresh wr wn) : Tw w wn pb st aw :=
  ⟨h.page.kept k (by simp), h.was.kept k (by simp), h.fresh.trans k⟩

theorem Tw.put {w wr : World} {pb : Nat} {st : St} {aw : Addr} (h : Tw w wr pb st aw) {b : Nat} (i : Nat) (v : Value) (h1 : b ≠ pb) (h2 : b ≠ aw.block) (h3 : w.heap.size ≤ b) : Tw w (wr.setCell ⟨b, i, none⟩ v) pb st aw := by
  have hk := (Kept.refl (fun k => k = b) wr).setCell (p := ⟨b, i, none⟩) (fun _ => rfl) v
  exact ⟨h.page.kept hk (fun e => h1 e.symm), h.was.kept hk (fun z hz e => by cases hz; exact h2 e.symm), h.fresh.then hk fun j hj e => by omega⟩

set_option maxRecDepth 100000 in
set_option maxHeartbeats 4000000 in
theorem twice_walk (a : Option Addr) (n c : Nat) (y : Nat) (w : World) (h : Script w a n) (hn : n ≤ 9223372036854775807) :
    Calls Try.prog 7 #[.slice a n c, .int .u8 y] w (Gives (.bool true) w) := by
  have HA := Lib.hid (And.intro h hn)
  clear h hn
  go_enter Try.func7, Try.ntmps7
  go_wp2_with fail
  refine (awake_any _).mono ?_
  rintro e w1 ⟨rfl, hF1⟩
  have HF := Lib.hid hF1
  clear hF1
  go_wp2_with fail
  refine (build_any a n c _ (HA.out.1.fresh HF.out) HA.out.2).mono ?_
  rintro e w2 ⟨pb, st, rfl, hst, hp, hF2, hpb⟩
  have hlow := hst.low
  have hhigh := hst.high
  have HS := Lib.hid hst
  have HB := Lib.hid (And.intro hp (And.intro (HF.out.trans hF2) hpb))
  clear hst hp hF2 hpb
  go_wp2_with fail
  refine (bytes_any pb _ _ HB.out.1).mono ?_
  rintro e w3 ⟨⟨ab, ao, asp⟩, bc, rfl, hby3, ⟨hge3, hsp3, hlt3, hfr3⟩, hF3⟩
  obtain rfl : asp = none := hsp3
  have HC := Lib.hid (And.intro hby3 (And.intro hge3 (And.intro hlt3 (And.intro hfr3 hF3))))
  clear hby3 hge3 hlt3 hfr3 hF3
  go_wp2_with fail
  refine (copy_any _ _ _ _ _ HC.out.1 (by omega)).mono ?_
  rintro e w4 ⟨⟨wb, wo, wsp⟩, wc, rfl, hwc, hbyw, ⟨hgw, hlw⟩, hspw, hF4⟩
  obtain rfl : wsp = none := hspw
  have hgw' : w3.heap.size ≤ wb := hgw
  have hT : Tw w w4 pb st ⟨wb, wo, none⟩ := ⟨(HB.out.1.kept HC.out.2.2.2.2 (by simp)).kept hF4 (by simp), hbyw, (HB.out.2.1.trans HC.out.2.2.2.2).trans hF4⟩
  have hS : Soft w4 ab ao 512 := (Soft.of HC.out.1 HC.out.2.2.2.1).kept hF4 HC.out.2.2.1 (by simp)
  have n1 : ab ≠ pb := by have := HB.out.1.blk; have : w2.heap.size ≤ ab := HC.out.2.1; omega
  have n2 : ab ≠ wb := by have : ab < w3.heap.size := HC.out.2.2.1; omega
  have n3 : w.heap.size ≤ ab := by have := HB.out.2.1.size; have : w2.heap.size ≤ ab := HC.out.2.1; omega
  have n4 : wb < w4.heap.size := hlw
  have HT := Lib.hid (And.intro hT hS)
  have HN := Lib.hid (And.intro n1 (And.intro n2 (And.intro n3 n4)))
  clear hT hS n1 n2 n3 n4 hgw hlw hgw' hwc hbyw hF4 HC HB HF HA
  go_wp2_with fail
  go_loopg [23] 512 (fun g s23 wr => ∃ i : Nat, i + g = 512 ∧ s23 = .int .i64 i ∧ (w4.heap.size ≤ wr.heap.size) ∧ Tw w wr pb st ⟨wb, wo, none⟩ ∧ Soft wr ab ao 512)
  case atStart => exact ⟨0, by omega, rfl, Nat.le_refl _, HT.out⟩
  case round =>
    obtain ⟨i, hi, rfl, hz4, hT, hS⟩ := hrel
    by_cases hil : i < 512
    · obtain ⟨z, hz⟩ := hS.cells i hil
      have hfr := hS.free (ao + i)
      have hil' : (i : Int) < 512 := by omega
      have H := Lib.hid (And.intro hT (And.intro hS (And.intro hi hz4)))
      clear hT hS hi hz4
      go_wp2_with fail
      go_roundg (gk - 1)
      case measure => have := H.out.2.2; omega
      case rel => exact ⟨i + 1, by have := H.out.2.2; omega, by go_num, by simpa [World.setCell] using H.out.2.2.2, H.out.1.put _ _ HN.out.1 HN.out.2.1 HN.out.2.2.1, H.out.2.1.put i _⟩
    · obtain rfl : i = 512 := by omega
      have H := Lib.hid (And.intro hT hz4)
      clear hT hS hi hil hz4
      go_wp2_with fail
      refine (slots_enc pb st _ H.out.1.page HS.out).mono ?_
      rintro e w5 ⟨rfl, n5, rfl⟩
      have HX := Lib.hid (And.intro (H.out.1.kept ((Kept.refl (fun _ => False) wr).drewN n5)) (show w4.heap.size ≤ (wr.drewN n5).heap.size from H.out.2))
      clear H
      generalize wr.drewN n5 = w5 at HX ⊢
      go_wp2_with fail
      go_loopg [36] st.slots.length (fun g s36 wr => ∃ i : Nat, i + g = st.slots.length ∧ s36 = .int .i64 i ∧ w4.heap.size ≤ wr.heap.size ∧ Tw w wr pb st ⟨wb, wo, none⟩)
      case atStart => exact ⟨0, by omega, rfl, HX.out.2, HX.out.1⟩
      case round =>
        obtain ⟨k, hk, rfl, hz5, hT⟩ := hrel
        obtain ⟨gq, hgq⟩ : ∃ gq, gq = gk := ⟨gk, rfl⟩
        have HGQ := Lib.hid hgq
        clear hgq
        have HT := Lib.hid (And.intro hT (And.intro hk hz5))
        clear hT hz5
        by_cases hkl : k < st.slots.length
        · clear hk
          cases hv : verAt st k with
          | none =>
            have Hv := Lib.hid hv
            clear hv
            go_wp2_with fail
            refine (pget_none pb st _ k HT.out.1.page HS.out (by rw [there_verAt, Hv.out]; rfl)).mono ?_
            rintro e w6 ⟨rfl, hF6⟩
            have H6 := Lib.hid hF6
            clear hF6
            go_wp2_with fail
            go_roundg (gk - 1)
            case measure => have := HT.out.2.1; omega
            case rel => exact ⟨k + 1, by have := HT.out.2.1; omega, by go_num, by have := HT.out.2.2; have := H6.out.size; simp; omega, HT.out.1.kept (H6.out.alloc _)⟩
          | some v =>
            obtain ⟨f, hkf⟩ := verAt_get hv
            have Hv := Lib.hid hkf
            clear hv hkf
            go_wp2_with fail
            refine (get_enc pb k f v st _ HT.out.1.page HS.out Hv.out).mono ?_
            rintro e w6 ⟨⟨gb, go', gsp⟩, gc, rfl, hgby, hgge, ⟨hgsp, hglt, hgfr⟩, hF6⟩
            obtain rfl : gsp = none := hgsp
            have hl200 : v.data.length ≤ 200 := (HS.out.mem_ok f v (List.mem_iff_getElem?.2 ⟨k, Hv.out⟩)).len
            have hA6 := (Kept.refl (fun _ => False) w6).alloc (.cells #[.int .u64 v.row, .int .u64 v.x, .int .u64 v.y, .int .i64 ((v.P : Int) - 1), .int .i64 ((v.S : Int) - 1), .slice (some ⟨gb, go', none⟩) v.data.length gc] 29)
            have hB6 := alloc_at w6 (.cells #[.int .u64 v.row, .int .u64 v.x, .int .u64 v.y, .int .i64 ((v.P : Int) - 1), .int .i64 ((v.S : Int) - 1), .slice (some ⟨gb, go', none⟩) v.data.length gc] 29)
            have hT6 := HT.out.1.kept (hF6.trans hA6)
            have hglt' : gb < w6.heap.size := hglt
            have hS6 := (Soft.of hgby hgfr).kept hA6 hglt (by simp)
            have hgge' : wr.heap.size ≤ gb := hgge
            have m1 : gb ≠ pb := by have := HT.out.1.page.blk; omega
            have m2 : gb ≠ wb := by have := HT.out.2.2; have := HN.out.2.2.2; omega
            have m3 : w.heap.size ≤ gb := by have := HT.out.1.fresh.size; omega
            have m4 : w6.heap.size ≠ gb := by omega
            have m5 : w4.heap.size ≤ (w6.alloc (.cells #[.int .u64 v.row, .int .u64 v.x, .int .u64 v.y, .int .i64 ((v.P : Int) - 1), .int .i64 ((v.S : Int) - 1), .slice (some ⟨gb, go', none⟩) v.data.length gc] 29)).heap.size := by have := HT.out.2.2; have := hF6.size; simp; omega
            have HM := Lib.hid (And.intro m1 (And.intro m2 (And.intro m3 m4)))
            have H6 := Lib.hid (And.intro hT6 (And.intro hB6 (And.intro hS6 m5)))
            clear hgby hgge hglt hgfr hF6 hA6 hB6 hT6 hS6 hgge' hglt' m1 m2 m3 m4 m5
            go_upto_region 15 with fail
            generalize w6.alloc (.cells #[.int .u64 v.row, .int .u64 v.x, .int .u64 v.y, .int .i64 ((v.P : Int) - 1), .int .i64 ((v.S : Int) - 1), .slice (some ⟨gb, go', none⟩) v.data.length gc] 29) = w7 at H6 ⊢
            generalize w6.heap.size = T at H6 HM ⊢
            have b5 := boxCell H6.out.2.1 5
            go_wp2_with fail
            clear b5
            go_loopg [49] v.data.length (fun g s49 wr => ∃ i : Nat, i + g = v.data.length ∧ s49 = .int .i64 i ∧ w4.heap.size ≤ wr.heap.size ∧ Tw w wr pb st ⟨wb, wo, none⟩ ∧ Soft wr gb go' v.data.length ∧ wr.heap[T]? = some (.cells #[.int .u64 v.row, .int .u64 v.x, .int .u64 v.y, .int .i64 ((v.P : Int) - 1), .int .i64 ((v.S : Int) - 1), .slice (some ⟨gb, go', none⟩) v.data.length gc] 29))
            case atStart => exact ⟨0, by omega, rfl, H6.out.2.2.2, H6.out.1, H6.out.2.2.1, H6.out.2.1⟩
            case round =>
              obtain ⟨i, hi, rfl, hz7, hT7, hS7, hB7⟩ := hrel
              by_cases hil : i < v.data.length
              · obtain ⟨z, hz⟩ := hS7.cells i hil
                have hfr := hS7.free (go' + i)
                have hil' : (i : Int) < (v.data.length : Int) := by omega
                have b5 := boxCell hB7 5
                have H := Lib.hid (And.intro hT7 (And.intro hS7 (And.intro hi (And.intro hz7 hB7))))
                clear hT7 hS7 hi hz7 hB7
                go_wp2_with fail
                go_roundg (gk - 1)
                case measure => have := H.out.2.2.1; omega
                case rel => exact ⟨i + 1, by have := H.out.2.2.1; omega, by go_num, by simpa [World.setCell] using H.out.2.2.2.1, H.out.1.put _ _ HM.out.1 HM.out.2.1 HM.out.2.2.1, H.out.2.1.put i _, (((Kept.refl (fun k => k = gb) _).setCell (p := ⟨gb, go' + i, none⟩) (fun _ => rfl) _).block T (Array.getElem?_eq_some_iff.1 H.out.2.2.2.2).1 HM.out.2.2.2).trans H.out.2.2.2.2⟩
              · obtain rfl : i = v.data.length := by omega
                have H := Lib.hid (And.intro hT7 hz7)
                clear hT7 hS7 hi hil hz7 hB7
                go_wp2_with fail
                go_roundg (gq - 1)
                case measure => have := HT.out.2.1; have := HGQ.out; omega
                case rel => exact ⟨k + 1, by have := HT.out.2.1; have := HGQ.out; omega, by go_num, H.out.2, H.out.1⟩
        · obtain rfl : k = st.slots.length := by omega
          clear hk hkl
          go_wp2_with fail
          refine (bytes_any pb _ _ HT.out.1.page).mono ?_
          rintro e w6 ⟨b2, bc2, rfl, hby6, _, hF6⟩
          have H6 := Lib.hid (And.intro hby6 (HT.out.1.kept hF6))
          clear hby6 hF6
          go_wp2_with fail
          refine (same_any _ _ _ _ _ _ _ _ _ H6.out.1 (by simp) H6.out.2.was (by simp)).mono ?_
          rintro e w7 ⟨rfl, rfl⟩
          have hs : sameB 512 (enc st) 512 (enc st) = true := decide_eq_true ⟨rfl, fun _ _ => rfl⟩
          rw [hs]
          have H7 := Lib.hid H6.out.2.fresh
          clear hs H6
          go_wp2_with fail
          go_ret
          exact ⟨rfl, H7.out⟩
end Go.Proofs.Ytffbfgmhfnbmfaa
