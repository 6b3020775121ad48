/- The walk of the reference's Load. -/
import Derived.Test.YtffbfgmhfnbmfaaTq
namespace Go.Proofs.Ytffbfgmhfnbmfaa
open Go.RowKit

def RLoad (f : Nat → Nat) (w : World) (e : Ending) (w' : World) : Prop :=
  (¬ SoundP f ∧ e = .returned (.pointer none) ∧ Fresh w w') ∨ (SoundP f ∧ ∃ R v, e = .returned (.pointer (some ⟨R, 0, none⟩)) ∧ RefIs (fun b => w.heap.size ≤ b) w' R v (dec f) ∧ Fresh w w')

def LastP (f : Nat → Nat) (lb : Bool) : Prop := (lb = false ∧ (0 < cnt f → offB f (cnt f - 1) = false)) ∨ (lb = true ∧ ¬ SoundP f)

theorem RLoad.no {f : Nat → Nat} {w w' : World} (h : ¬ SoundP f) (hF : Fresh w w') : RLoad f w (.returned (.pointer none)) w' := .inl ⟨h, rfl, hF⟩

set_option maxRecDepth 100000 in
set_option maxHeartbeats 60000000 in
theorem rload_full (ab ao c : Nat) (f : Nat → Nat) (w : World) (h : Bytes w (some ⟨ab, ao, none⟩) 512 f) (hc : 512 ≤ c) : Calls Try.prog 24 #[.slice (some ⟨ab, ao, none⟩) 512 c] w (RLoad f w) := by
  have hc16 : cnt f < 65536 := le_lt h.byte 2 0
  have hs16 : stt f < 65536 := le_lt h.byte 2 2
  have H := Lib.hid h
  clear h
  go_enter Try.func24, Try.ntmps24
  go_upto_region 3 with fail
  have hcc : ¬ c = 2 := by omega
  have k0 : ∀ n, Calls Try.prog 49 #[.slice (some ⟨ab, ao, none⟩) 2 c] (w.drewN n) fun e w' => e = .returned (.int .i64 (cnt f)) ∧ w.drewN n = w' := fun n => get_at0 ab ao f 2 c _ (H.out.kept ((Kept.refl (fun _ => False) w).drewN n) (by simp)) (by omega)
  have k2 : ∀ n, Calls Try.prog 49 #[.slice (some ⟨ab, ao + 2, none⟩) 2 (c - 2)] (w.drewN n) fun e w' => e = .returned (.int .i64 (stt f)) ∧ w.drewN n = w' := fun n => get_at ab ao f 2 2 (c - 2) _ (H.out.kept ((Kept.refl (fun _ => False) w).drewN n) (by simp)) (by omega) (by omega)
  have K := Lib.hid (And.intro k0 k2)
  clear k0 k2
  go_quiet ((first | (go_at_call 49; with_reducible exact quietEq (K.out.1 _)) | (go_at_call 49; with_reducible exact quietEq (K.out.2 _))))
  have HF := Lib.hid ((Kept.refl (fun _ => False) w).drewN nq)
  generalize w.drewN nq = w0 at HF ⊢
  clear K hcc
  by_cases h1 : 512 < stt f
  · have h1' := decide_eq_true (show (512 : Int) < (stt f : Int) by omega)
    have hno : ¬ SoundP f := fun h => by have := h.front; unfold frontB at this; simp at this; omega
    have HN := Lib.hid hno
    clear hno h1
    go_wp2_with fail
    go_ret
    exact .no HN.out HF.out
  · have h1' := decide_eq_false (show ¬ (512 : Int) < (stt f : Int) by omega)
    by_cases h2 : stt f < 4 + 4 * cnt f
    · have h2' := decide_eq_true (show (stt f : Int) < 4 + 4 * (cnt f : Int) by omega)
      have hno : ¬ SoundP f := fun h => by have := h.front; unfold frontB at this; simp at this; omega
      have HN := Lib.hid hno
      clear hno h1 h2
      go_wp2_with fail
      go_ret
      exact .no HN.out HF.out
    · have h2' := decide_eq_false (show ¬ (stt f : Int) < 4 + 4 * (cnt f : Int) by omega)
      have hmk := run_madeB
      go_upto_region 8 with fail
      clear hmk
      have hA1 := (Kept.refl (fun _ => False) w0).alloc (.cells #[.slice none 0 0, .int .i64 (stt f)] 70)
      have hz1 : (w0.alloc (.cells #[.slice none 0 0, .int .i64 (stt f)] 70)).heap.size = w0.heap.size + 1 := by simp
      have hA2 := (Kept.refl (fun _ => False) (w0.alloc (.cells #[.slice none 0 0, .int .i64 (stt f)] 70))).alloc (.cells (madeB 512) 4)
      have hL0 : LdSt w ((w0.alloc (.cells #[.slice none 0 0, .int .i64 (stt f)] 70)).alloc (.cells (madeB 512) 4)) w0.heap.size (w0.heap.size + 1) f 0 (.slice none 0 0) (fun x => decide (x < 0)) := by
        refine ⟨(hA2.block _ (by omega) (by simp)).trans (alloc_at _ _), ?_, ⟨fun _ => default, .nil .., fun k hk => by omega⟩, (HF.out.trans hA1).trans hA2, by omega, HF.out.size, by simp [Value.ownBlock]⟩
        have := World.rowIs_made (w0.alloc (.cells #[.slice none 0 0, .int .i64 (stt f)] 70)) (.bool false) 512 4
        rw [hz1] at this
        exact this.congr fun x _ => by simp
      have HL := Lib.hid hL0
      clear hA1 hz1 hA2 hL0
      generalize (w0.alloc (.cells #[.slice none 0 0, .int .i64 (stt f)] 70)).alloc (.cells (madeB 512) 4) = w1 at HL ⊢
      generalize hRR : w0.heap.size = R at HL ⊢
      clear hRR
      go_wp2_with fail
      go_loopg [41] (4 + 4 * cnt f) (fun g s41 wr => ∃ i : Nat, i + g = 4 + 4 * cnt f ∧ s41 = .int .i64 i ∧ LdSt w wr R (R + 1) f 0 (.slice none 0 0) (fun x => decide (x < i)))
      case atStart => exact ⟨0, by omega, rfl, HL.out⟩
      case round =>
        clear HL
        obtain ⟨i, hi, rfl, hL⟩ := hrel
        by_cases hil : i < 4 + 4 * cnt f
        · have hil' : (i : Int) < 4 + 4 * (cnt f : Int) := by omega
          have hci := hL.ownr.cell (i := i) (by omega)
          have hfi := hL.ownr.frozen i
          have hmk : LdSt w (wr.setCell ⟨R + 1, i, none⟩ (.bool true)) R (R + 1) f 0 (.slice none 0 0) (fun x => decide (x < i + 1)) := by
            have := hL.mark i
            rw [show (fun x => if x = i then true else decide (x < i)) = fun x => decide (x < i + 1) from by funext x; by_cases e : x = i <;> simp [e]; omega] at this
            exact this
          have H2 := Lib.hid (And.intro hi hmk)
          clear hi hmk hL
          go_wp2_with fail
          go_roundg (gk - 1)
          case measure => have := H2.out.1; omega
          case rel => exact ⟨i + 1, by have := H2.out.1; omega, by go_num, H2.out.2⟩
        · obtain rfl : i = 4 + 4 * cnt f := by omega
          have HL := Lib.hid hL
          clear hL hi hil
          rw [ownB0] at HL
          go_wp2_with fail
          go_loopg [49] (cnt f) (fun g s49 wr => ∃ i v, i + g = cnt f ∧ s49 = .int .i64 (i : Nat) ∧ LdSt w wr R (R + 1) f i v (ownB f i) ∧ allOk f i = true ∧ (parts f i).Pairwise Apart2)
          case atStart => exact ⟨0, _, by omega, rfl, HL.out, rfl, .nil⟩
          case round =>
            clear HL
            obtain ⟨i, v, hi, rfl, hL, hok, hap⟩ := hrel
            have HL := Lib.hid (And.intro hL (And.intro hok (And.intro hap hi)))
            clear hL hok hap hi
            by_cases hil : i < cnt f
            · have q1 := wrap_int (4 * (i : Int)) (by omega) (by omega)
              have q2 := wrap_int (4 + 4 * (i : Int)) (by omega) (by omega)
              have q3 := wrap_int (6 + 4 * (i : Int)) (by omega) (by omega)
              have q4 := wrap_int (8 + 4 * (i : Int)) (by omega) (by omega)
              have p1 : (4 + 4 * (i : Int)).toNat = 4 + 4 * i := by omega
              have p2 : (6 + 4 * (i : Int)).toNat = 6 + 4 * i := by omega
              have p3 : (8 + 4 * (i : Int)).toNat = 8 + 4 * i := by omega
              have p4 : (0 : Int) ≤ 4 + 4 * (i : Int) := by omega
              have p5 : (0 : Int) ≤ 6 + 4 * (i : Int) := by omega
              have p6 : (0 : Int) ≤ 8 + 4 * (i : Int) := by omega
              have p7 : 6 + 4 * (i : Int) ≤ (c : Int) := by omega
              have p8 : 8 + 4 * (i : Int) ≤ (c : Int) := by omega
              have p9 : 4 + 4 * (i : Int) ≤ max (6 + 4 * (i : Int)) 0 := by omega
              have p10 : 6 + 4 * (i : Int) ≤ max (8 + 4 * (i : Int)) 0 := by omega
              have p11 : ¬ c = 4 + 4 * i := by omega
              have p12 : ¬ c = 6 + 4 * i := by omega
              have p13 : 6 + 4 * i - (4 + 4 * i) = 2 := by omega
              have p14 : 8 + 4 * i - (6 + 4 * i) = 2 := by omega
              have k0 : ∀ n, Calls Try.prog 49 #[.slice (some ⟨ab, ao + (4 + 4 * i), none⟩) 2 (c - (4 + 4 * i))] (wr.drewN n) fun e w' => e = .returned (.int .i64 (frm f i)) ∧ wr.drewN n = w' := fun n => get_at ab ao f (4 + 4 * i) 2 _ _ (H.out.kept (HL.out.1.fresh.drewN n) (by simp)) (by omega) (by omega)
              have k2 : ∀ n, Calls Try.prog 49 #[.slice (some ⟨ab, ao + (6 + 4 * i), none⟩) 2 (c - (6 + 4 * i))] (wr.drewN n) fun e w' => e = .returned (.int .i64 (siz f i)) ∧ wr.drewN n = w' := fun n => by
                have := get_at ab ao f (6 + 4 * i) 2 (c - (6 + 4 * i)) _ (H.out.kept (HL.out.1.fresh.drewN n) (by simp)) (by omega) (by omega)
                rw [show le f (6 + 4 * i) 2 = siz f i from by unfold siz; congr 1; omega] at this
                exact this
              have K := Lib.hid (And.intro k0 k2)
              clear k0 k2
              go_upto_region 16 with fail
              go_quiet ((first | (go_at_call 49; with_reducible exact quietEq (K.out.1 _)) | (go_at_call 49; with_reducible exact quietEq (K.out.2 _))))
              clear p1 p2 p3 p4 p5 p6 p7 p8 p9 p10 p11 p12 p13 p14 q1 q2 q3 q4 K
              have HL2 := Lib.hid (HL.out.1.kept ((Kept.refl (fun _ => False) wr).drewN nq))
              generalize wr.drewN nq = w2 at HL2 ⊢
              have hsz16 : siz f i < 65536 := le_lt H.out.byte 2 _
              have hfr16 : frm f i < 65536 := le_lt H.out.byte 2 _
              have hbad : okB f i = false → ¬ SoundP f := fun hb hs => by have := (allOk_iff f _).1 hs.ok i hil; rw [hb] at this; cases this
              have HBD := Lib.hid hbad
              clear hbad
              cases hoff : offB f i
              · have HOF := Lib.hid hoff
                clear hoff
                by_cases hb : siz f i < 30 ∨ frm f i < stt f ∨ 512 < frm f i + siz f i
                · have hno := HBD.out (okB_no HOF.out (by omega))
                  have HN := Lib.hid (And.intro hno (And.intro hb HOF.out))
                  clear hno hb
                  go_wp2_with fail
                  all_goals first
                    | (go_ret; exact .no HN.out.1 HL2.out.fresh)
                    | (exfalso; have h1 := HN.out.2.1; have h2 := HN.out.2.2; unfold offB at h2; simp at h2; (try (have h3 : ((siz f i : Int) == 0) = true := by assumption); simp at h3); omega)
                · have hf0 : ¬ frm f i = 0 := by omega
                  have z2 : ((frm f i : Int) == 0) = false := by simp; omega
                  have z3 : ¬ siz f i < 30 := by omega
                  have z4 : ¬ frm f i < stt f := by omega
                  have z5 : ¬ (512 : Int) < (frm f i : Int) + (siz f i : Int) := by omega
                  have z3' := decide_eq_false z3
                  have z4' := decide_eq_false z4
                  have z5' := decide_eq_false z5
                  clear hb
                  go_wp2_with fail
                  obtain ⟨gq, hgq⟩ : ∃ gq, gq = gk := ⟨gk, rfl⟩
                  have HGQ := Lib.hid hgq
                  clear hgq
                  have hL3 := HL2.out
                  rw [ownT0] at hL3
                  have HL3 := Lib.hid hL3
                  clear hL3
                  go_loopg [11] (siz f i) (fun g s11 wr => ∃ x : Nat, x + g = frm f i + siz f i ∧ s11 = .int .i64 x ∧ LdSt w wr R (R + 1) f i v (ownT f i x) ∧ frm f i ≤ x ∧ ∀ y, frm f i ≤ y → y < x → ownB f i y = false)
                  case atStart => exact ⟨frm f i, by omega, rfl, HL3.out, Nat.le_refl _, fun y h1 h2 => by omega⟩
                  case round =>
                    clear HL3
                    obtain ⟨x, hx, rfl, hLx, hxf, hfree⟩ := hrel
                    by_cases hxl : x < frm f i + siz f i
                    · have hxl' : (x : Int) < (frm f i : Int) + (siz f i : Int) := by omega
                      have hci := hLx.ownr.cell (i := x) (by omega)
                      have hfi := hLx.ownr.frozen x
                      cases hox : ownB f i x
                      · have hot : ownT f i x x = false := by unfold ownT; rw [hox]; simp
                        rw [hot] at hci
                        have hmk := hLx.mark x
                        rw [ownT_step f i x hxf] at hmk
                        have hfree2 : ∀ y, frm f i ≤ y → y < x + 1 → ownB f i y = false := fun y h1 h2 => by
                          by_cases e : y = x
                          · subst e; exact hox
                          · exact hfree y h1 (by omega)
                        have H2 := Lib.hid (And.intro hx (And.intro hmk (And.intro hxf hfree2)))
                        clear hx hmk hLx hfree hfree2 hox hot hxf
                        go_wp2_with fail
                        go_roundg (gk - 1)
                        case measure => have := H2.out.1; omega
                        case rel => exact ⟨x + 1, by have := H2.out.1; omega, by go_num, H2.out.2.1, by have := H2.out.2.2.1; omega, H2.out.2.2.2⟩
                      · have hot : ownT f i x x = true := by unfold ownT; rw [hox]; rfl
                        rw [hot] at hci
                        have hno := own_hit hil HOF.out (by omega) hxf hxl hox
                        have HN := Lib.hid (And.intro hno hLx.fresh)
                        clear hno hx hLx hfree hox hot hxf
                        go_wp2_with fail
                        go_ret
                        exact .no HN.out.1 HN.out.2
                    · obtain rfl : x = frm f i + siz f i := by omega
                      rw [ownT_end HOF.out] at hLx
                      have hap := apart_step HL.out.2.2.1 HL.out.2.1 HOF.out (by omega) hfree
                      have H3 := Lib.hid (And.intro hLx hap)
                      clear hx hLx hfree hxf hap hxl
                      have q5 : IntKind.i64.wrap ((frm f i : Int) + (siz f i : Int)) = (frm f i : Int) + (siz f i : Int) := wrap_int _ (by omega) (by omega)
                      go_upto_region 28 with fail
                      obtain ⟨A0, hA0⟩ : ∃ A0, A0 = ao + frm f i := ⟨_, rfl⟩
                      obtain ⟨n, hn⟩ : ∃ n, n = siz f i := ⟨_, rfl⟩
                      obtain ⟨cc, hcc⟩ : ∃ cc, cc = c - frm f i := ⟨_, rfl⟩
                      have e1 : frm f i + siz f i - frm f i = n := by omega
                      have hn30 : 30 ≤ n := by omega
                      have hn512 : n ≤ 512 := by omega
                      have hncc : n ≤ cc := by omega
                      have hV : Vs wr ab A0 n (fun j => f (frm f i + j)) wr := by
                        refine ⟨⟨fun j => H.out.byte _, ?_⟩, Kept.refl _ _⟩
                        rcases (H.out.kept H3.out.1.fresh (by simp)).cells with h0 | ⟨b, o', e, hlt, hc⟩
                        · omega
                        · cases e
                          exact .inr ⟨_, _, rfl, hlt, fun j hj => by rw [hA0, Nat.add_assoc]; exact hc (frm f i + j) (by omega)⟩
                      rw [e1, ← hA0, ← hcc]
                      have HH := Lib.hid (And.intro hA0 (And.intro hn hcc))
                      clear hA0 hn hcc e1
                      obtain ⟨g, hg⟩ : ∃ g : Nat → Nat, g = fun j => f (frm f i + j) := ⟨_, rfl⟩
                      rw [← hg] at hV
                      have hS := hV.drew.cells hn30
                      obtain ⟨a30, ha30, hrun30⟩ := run_v30 ab A0 n cc hn30 hncc
                      have hab : ab ≠ wr.heap.size := by rcases hV.1.cells with h0 | ⟨b, o', e, hlt, hc⟩ <;> (first | omega | (cases e; omega))
                      have HV := Lib.hid (And.intro hV ha30)
                      have HG := Lib.hid (show ∀ j, g j = f (frm f i + j) from fun j => by rw [hg])
                      clear hV ha30 hg
                      have p1 : (7 : Int) ≤ (cc : Int) := by omega
                      have p2 : (15 : Int) ≤ (cc : Int) := by omega
                      have p3 : (23 : Int) ≤ (cc : Int) := by omega
                      have p4 : (28 : Int) ≤ (cc : Int) := by omega
                      have p5 : (30 : Int) ≤ (cc : Int) := by omega
                      have p6 : (7 : Int) < (n : Int) := by omega
                      have p7 : (15 : Int) < (n : Int) := by omega
                      have p8 : (23 : Int) < (n : Int) := by omega
                      go_cut [13] from 120 to 162 (fun p wx => ∃ H, p = .pointer (some ⟨H, 0, none⟩) ∧ Drawn wr f (frm f i) n H wx)
                      case first =>
                        go_region_held3 (fun W => Vs wr ab A0 n g W ∧ W.cell? ⟨ab, A0 + 7, none⟩ = some (.int .u8 (g 7)) ∧ W.cell? ⟨ab, A0 + 15, none⟩ = some (.int .u8 (g 15)) ∧ W.cell? ⟨ab, A0 + 23, none⟩ = some (.int .u8 (g 23)))
                          (with_reducible (first | assumption | exact Vs.cells hV7 hn30 | exact Vs.cells (Vs.alloc hV7 _) hn30 | exact Vs.cells (Vs.set (Vs.set (Vs.set (Vs.set (Vs.set (Vs.set hV7 hab _ _) hab _ _) hab _ _) hab _ _) hab _ _) hab _ _) hn30 | exact Vs.cells (Vs.alloc (And.left (by assumption)) _) hn30 | skip))
                          (first
                            | (go_at_call 49; (with_reducible refine (getv (And.left (by assumption)) _ _ _ ?_ ?_).mono ?_); (omega); (omega); rintro e w6 ⟨rfl, rfl⟩)
                            | (go_at_call 49; (with_reducible refine (getv0 (And.left (by assumption)) _ _ ?_ ?_).mono ?_); (omega); (omega); rintro e w6 ⟨rfl, rfl⟩)
                            | (go_at_call 22; (with_reducible refine (copyv (And.left (by assumption)) HV.out.2 _ hn512).mono ?_); rintro e w7 ⟨a7, c7, rfl, hc7, hb7, hl7, hs7, hF7⟩; (
                                have hV7 := Vs.fresh (And.left (by assumption)) hF7
                                have hVF : Fresh wr w7 := hV7.2
                                have hl7' : wr.heap.size ≤ a7.block := Nat.le_trans (by first | exact Nat.le_refl _ | simp) hl7.1
                                try (
                                  have hB7 := (hF7.block wr.heap.size (by simp) (by simp)).trans (alloc_at wr.drew _)
                                  have hne7 : a7.block ≠ wr.heap.size := by have := hl7.1; simp at this; omega
                                  have d0 := boxCell hB7 0
                                  have d1 := boxCell hB7 1
                                  have d2 := boxCell hB7 2
                                  have d3 := boxCell hB7 3
                                  have d4 := boxCell hB7 4
                                  have d5 := boxCell hB7 5
                                  have z0 := boxFree hB7 0
                                  have z1 := boxFree hB7 1
                                  have z2 := boxFree hB7 2
                                  have z3 := boxFree hB7 3
                                  have z4 := boxFree hB7 4
                                  have z5 := boxFree hB7 5))))
                        all_goals go_wp2_with fail
                        all_goals go_meet
                        all_goals with_reducible first
                          | exact drawn_last' H.out.byte HG.out hVF hc7 hb7 hl7' hl7.2 hs7
                          | exact drawn_first' H.out.byte HG.out hVF hc7 hb7 hl7' hl7.2 hs7 hB7 hne7
                      case rest =>
                        clear hS hrun30 hab p1 p2 p3 p4 p5 p6 p7 p8 HV HG
                        obtain ⟨T, rfl, a7, c7, hBx, hc7, hb7, hl7, hs7, hlT, hF7⟩ := hcut
                        have c0 := boxCell hBx 0
                        have c1 := boxCell hBx 1
                        have c2 := boxCell hBx 2
                        have c3 := boxCell hBx 3
                        have c4 := boxCell hBx 4
                        have c5 := boxCell hBx 5
                        have hTl : T < wc.heap.size := (Array.getElem?_eq_some_iff.1 hBx).1
                        have HT := Lib.hid (And.intro hBx (And.intro hc7 (And.intro hb7 (And.intro hl7 (And.intro hs7 (And.intro hlT hF7))))))
                        clear hBx hc7 hb7 hl7 hs7 hlT hF7
                        go_wp2_with fail
                        refine (right_ref (le f (frm f i) 8) (le f (frm f i + 8) 8) (le f (frm f i + 16) 8) ((le f (frm f i + 24) 4 : Int) - 1) ((le f (frm f i + 28) 2 : Int) - 1) (some a7) (n - 30) c7 _).mono ?_
                        rintro e w8 ⟨rfl, hF8⟩
                        rw [verB_eq]
                        have hL8 := (H3.out.1.kept HT.out.2.2.2.2.2.2).kept hF8
                        cases hv : verB f (frm f i) n
                        · have hno := HBD.out (okB_no HOF.out (.inr (.inr (.inr (by rw [← HH.out.2.1]; exact hv)))))
                          have HN := Lib.hid (And.intro hno hL8.fresh)
                          clear hno hL8 hF8 hv
                          go_wp2_with fail
                          go_ret
                          exact .no HN.out.1 HN.out.2
                        · have hD : LdDat w8 R (R + 1) v f i (.slice (some a7) (n - 30) c7) := Drawn.dat (w0 := wr) HH.out.2.1 HT.out.2.1 (HT.out.2.2.1.kept hF8 (by simp)) HT.out.2.2.2.1.1 (Nat.lt_of_lt_of_le HT.out.2.2.2.1.2 hF8.size) HT.out.2.2.2.2.1 (Array.getElem?_eq_some_iff.1 H3.out.1.box).1 H3.out.1.ownr.lt (fun b hb => H3.out.1.own hb)
                          have hKd := (Kept.refl (fun _ => False) w8).drew
                          obtain ⟨v2, W2, hrun, hP⟩ := (hL8.kept hKd).push (by omega) (.slice (some a7) (n - 30) c7) rfl (fun _ => hD.kept hKd (by simp))
                          have hokk : okB f i = true := okB_yes (by omega) (by omega) (by omega) (by rw [← HH.out.2.1]; exact hv)
                          rw [slotC_on HOF.out] at hrun
                          obtain ⟨va, vc, hvv⟩ : ∃ va vc, v = .slice va i vc := by
                            obtain ⟨dv, hr, _⟩ := hL8.row
                            exact hr.form
                          subst hvv
                          obtain ⟨va2, vc2, hv2⟩ : ∃ va2 vc2, v2 = .slice va2 (i + 1) vc2 := by
                            obtain ⟨dv, hr, _⟩ := hP.st.row
                            exact hr.form
                          subst hv2
                          have Hrun := Lib.hid hrun
                          have HP := Lib.hid (And.intro hP hokk)
                          have hT8 := Nat.lt_of_lt_of_le hTl hF8.size
                          have hBx8 := (hF8.block T hTl (by simp)).trans HT.out.1
                          have b0 := boxCell hL8.box 0
                          have hR8 : R < w8.heap.size := (Array.getElem?_eq_some_iff.1 hL8.box).1
                          clear c0 c1 c2 c3 c4 c5
                          have c0 := boxCell hBx8 0
                          have c1 := boxCell hBx8 1
                          have c2 := boxCell hBx8 2
                          have c3 := boxCell hBx8 3
                          have c4 := boxCell hBx8 4
                          have c5 := boxCell hBx8 5
                          have b1 : W2.cell? ⟨R, 0, none⟩ = some (.slice va i vc) := boxCell hP.box 0
                          have bf : W2.frozen? ⟨R, 0, none⟩ = false := boxFree hP.box 0
                          clear hrun hP hokk hL8 hBx8 hF8 hD hKd hv
                          go_wp2_with fail
                          go_region_law (refine step_run rfl (.tmp 170) (.tmp 174) 68 rfl rfl rfl rfl Hrun.out ?_)
                          all_goals
                            go_wp2_with fail
                            go_roundg (gq - 1)
                            case measure => have := HL.out.2.2.2; have := HGQ.out; omega
                            case rel =>
                              refine ⟨i + 1, .slice va2 (i + 1) vc2, by have := HL.out.2.2.2; have := HGQ.out; omega, by go_num, HP.out.1.st, ?_, H3.out.2⟩
                              rw [allOk, HL.out.2.1, HP.out.2]; rfl
              · have hz : siz f i = 0 ∧ frm f i = 0 := by unfold offB at hoff; simpa using hoff
                have z1 : ((siz f i : Int) == 0) = true := by simp [hz.1]
                have z2 : ((frm f i : Int) == 0) = true := by simp [hz.2]
                have hdec : decS f i = none := by unfold decS; rw [if_pos hoff]
                obtain ⟨v2, W2, hrun, hP⟩ := HL2.out.push (by omega) (.slice none 0 0) rfl (fun h => by rw [hoff] at h; cases h)
                have Hrun := Lib.hid hrun
                have HP := Lib.hid (And.intro hP hoff)
                clear hrun hP hz hoff
                rw [hdec] at Hrun
                have b0 := boxCell HL2.out.box 0
                clear hdec
                have hzs : slotC none (.slice none 0 0) = #[.bool false, .int .u64 0, .int .u64 0, .int .u64 0, .int .i64 0, .int .i64 0, .slice none 0 0, .int .i64 0] := rfl
                rw [hzs] at Hrun
                obtain ⟨va, vc, hv⟩ : ∃ va vc, v = .slice va i vc := by
                  obtain ⟨dv, hr, _⟩ := HL2.out.row
                  exact hr.form
                subst hv
                obtain ⟨va2, vc2, hv2⟩ : ∃ va2 vc2, v2 = .slice va2 (i + 1) vc2 := by
                  obtain ⟨dv, hr, _⟩ := HP.out.1.st.row
                  exact hr.form
                subst hv2
                have hRz : R < w2.heap.size := (Array.getElem?_eq_some_iff.1 HL2.out.box).1
                clear hzs
                have b1 : W2.cell? ⟨R, 0, none⟩ = some (.slice va i vc) := boxCell HP.out.1.box 0
                have bf : W2.frozen? ⟨R, 0, none⟩ = false := boxFree HP.out.1.box 0
                go_wp2_with (at_builtin; refine wpList_append_run _ _ rfl rfl Hrun.out ?_)
                go_roundg (gk - 1)
                case measure => have := HL.out.2.2.2; omega
                case rel =>
                  have hpp : parts f (i + 1) = parts f i := by rw [parts, if_pos HP.out.2, List.append_nil]
                  have hoo : ownB f (i + 1) = ownB f i := by funext x; unfold ownB; rw [hpp]
                  refine ⟨i + 1, .slice va2 (i + 1) vc2, by have := HL.out.2.2.2; omega, by go_num, ?_, ?_, ?_⟩
                  · rw [hoo]; exact HP.out.1.st
                  · rw [allOk, HL.out.2.1]; unfold okB; rw [HP.out.2]; rfl
                  · rw [hpp]; exact HL.out.2.2.1
            · obtain rfl : i = cnt f := by have := HL.out.2.2.2; omega
              obtain ⟨va, vc, hvv⟩ : ∃ va vc, v = .slice va (cnt f) vc := by
                obtain ⟨dv, hr, _⟩ := HL.out.1.row
                exact hr.form
              subst hvv
              have b0 := boxCell HL.out.1.box 0
              go_upto_region 33 with fail
              go_cut [192] from 179 to 192 (fun s192 wc => ∃ lb : Bool, s192 = .bool lb ∧ LdSt w wc R (R + 1) f (cnt f) (.slice va (cnt f) vc) (ownB f (cnt f)) ∧ LastP f lb)
              case first =>
                by_cases h0 : 0 < cnt f
                · have h0' := decide_eq_true (show (0 : Int) < (cnt f : Int) by omega)
                  obtain ⟨B, rfl, hcv, hcl⟩ := HL.out.1.last (k := cnt f - 1) (by omega)
                  obtain ⟨k, hk⟩ : ∃ k, k = cnt f - 1 := ⟨_, rfl⟩
                  have hji : ((cnt f : Nat) : Int) - 1 = (k : Int) := by omega
                  have hkl : (k : Int) < (cnt f : Int) := by omega
                  rw [← hk] at hcl
                  have HK := Lib.hid (And.intro hk h0)
                  clear hk
                  cases ho : offB f k
                  · rw [ho] at hcl
                    have HO := Lib.hid ho
                    clear ho
                    go_wp2_with fail
                    go_meet
                    exact ⟨false, rfl, HL.out.1, (.inl ⟨rfl, fun _ => by rw [← HK.out.1]; exact HO.out⟩)⟩
                  · rw [ho] at hcl
                    have hno : ¬ SoundP f := fun hs => by have := front_last hs HK.out.2; rw [← HK.out.1, ho] at this; cases this
                    have HN := Lib.hid hno
                    clear ho hno
                    go_wp2_with fail
                    go_meet
                    exact ⟨true, rfl, HL.out.1, .inr ⟨rfl, HN.out⟩⟩
                · have h0' := decide_eq_false (show ¬ (0 : Int) < (cnt f : Int) by omega)
                  have HZ := Lib.hid h0
                  go_wp2_with fail
                  go_meet
                  exact ⟨false, rfl, HL.out.1, .inl ⟨rfl, fun h => absurd h HZ.out⟩⟩
              case rest =>
                obtain ⟨lb, rfl, hLc, ⟨rfl, hlast⟩ | ⟨rfl, hno⟩⟩ := hcut
                case inr =>
                  have HN := Lib.hid (And.intro hno hLc)
                  clear hno hLc b0
                  go_wp2_with fail
                  go_ret
                  exact .no HN.out.1 HN.out.2.fresh
                have HC := Lib.hid (And.intro hLc hlast)
                have HO := Lib.hid (And.intro HL.out.2.1 HL.out.2.2.1)
                clear hLc hlast HL b0
                go_wp2_with fail
                go_loopg [195] 512 (fun g s195 wr => ∃ j : Nat, j + g = 512 ∧ s195 = .int .i64 j ∧ LdSt w wr R (R + 1) f (cnt f) (.slice va (cnt f) vc) (ownB f (cnt f)) ∧ ∀ y, y < j → f y = 0 ∨ ownB f (cnt f) y = true)
                case atStart => exact ⟨0, by omega, rfl, HC.out.1, fun y h => by omega⟩
                case round =>
                  obtain ⟨j, hj, rfl, hLj, hall⟩ := hrel
                  by_cases hjl : j < 512
                  · have hjl' : (j : Int) < 512 := by omega
                    have hcb : wr.cell? ⟨ab, ao + j, none⟩ = some (.int .u8 (f j)) := by
                      rcases (H.out.kept hLj.fresh (by simp)).cells with h0 | ⟨b, o', e, hlt, hc⟩
                      · omega
                      · cases e
                        exact hc j hjl
                    have hco := hLj.ownr.cell (i := j) hjl
                    have hfb := H.out.byte j
                    have hf0 : f j = 0 ∨ ownB f (cnt f) j = true ∨ ¬ SoundP f := by
                      by_cases e : f j = 0
                      · exact .inl e
                      · cases e2 : ownB f (cnt f) j
                        · exact .inr (.inr (rest_no hjl e e2))
                        · exact .inr (.inl rfl)
                    have H4 := Lib.hid (And.intro hj (And.intro hLj hall))
                    clear hj hLj hall
                    by_cases e : f j = 0
                    · have z1 : ((f j : Int) != 0) = false := by simp [e]
                      have HE := Lib.hid e
                      clear e hf0
                      go_wp2_with fail
                      go_roundg (gk - 1)
                      case measure => have := H4.out.1; omega
                      case rel =>
                        refine ⟨j + 1, by have := H4.out.1; omega, by go_num, H4.out.2.1, fun y h => ?_⟩
                        by_cases e : y = j
                        · subst e; exact .inl HE.out
                        · exact H4.out.2.2 y (by omega)
                    · have z1 : ((f j : Int) != 0) = true := by simp; omega
                      have HE := Lib.hid e
                      clear hf0
                      cases e2 : ownB f (cnt f) j
                      · rw [e2] at hco
                        have HN := Lib.hid (rest_no hjl HE.out e2)
                        clear e2
                        go_wp2_with fail
                        go_ret
                        exact .no HN.out H4.out.2.1.fresh
                      · rw [e2] at hco
                        have HN := Lib.hid e2
                        clear e2
                        go_wp2_with fail
                        go_roundg (gk - 1)
                        case measure => have := H4.out.1; omega
                        case rel =>
                          refine ⟨j + 1, by have := H4.out.1; omega, by go_num, H4.out.2.1, fun y h => ?_⟩
                          by_cases e : y = j
                          · subst e; exact .inr HN.out
                          · exact H4.out.2.2 y (by omega)
                  · obtain rfl : j = 512 := by omega
                    have H4 := Lib.hid (And.intro hLj hall)
                    clear hj hLj hall hjl
                    have HS := Lib.hid (sound_of h1 h2 HC.out.2 HO.out.1 HO.out.2 H4.out.2)
                    go_wp2_with fail
                    go_ret
                    exact .inr ⟨HS.out, R, _, rfl, H4.out.1.done H.out.byte, H4.out.1.fresh⟩
end Go.Proofs.Ytffbfgmhfnbmfaa
