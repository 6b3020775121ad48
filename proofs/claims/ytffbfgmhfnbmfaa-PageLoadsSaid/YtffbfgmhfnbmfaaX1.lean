/- The walk of Insert. -/
import Derived.Test.YtffbfgmhfnbmfaaW9
namespace Go.Proofs.Ytffbfgmhfnbmfaa
open Go.RowKit

/-- Two results that leave memory alone. -/
def Pair (x y : Int) (w : World) (e : Ending) (w' : World) : Prop := e = .returned (.tuple #[.int .i64 x, .int .i64 y]) ∧ Fresh w w'

set_option maxRecDepth 100000 in
set_option maxHeartbeats 2000000 in
theorem insert_nil (r x y : Nat) (p s : Int) (a : Option Addr) (n c : Nat) (w : World) : Calls Try.prog 12 #[.pointer none, tupV r x y p s (.slice a n c)] w (Pair 0 15 w) := by
  go_enter Try.func12, Try.ntmps12
  go_wp2_with fail
  go_ret2
  exact ⟨rfl, (Kept.refl _ w).alloc _⟩

set_option maxRecDepth 100000 in
set_option maxHeartbeats 2000000 in
theorem insert_form (b : Nat) (r x y : Nat) (p s : Int) (a : Option Addr) (n c : Nat) (w : World) (h : rightB r x y p s n = false) :
    Calls Try.prog 12 #[.pointer (some ⟨b, 0, none⟩), tupV r x y p s (.slice a n c)] w (Pair 0 3 w) := by
  have H := Lib.hid h
  clear h
  go_enter Try.func12, Try.ntmps12
  go_wp2_with fail
  refine (right_any r x y p s a n c _).mono ?_
  rintro e w1 ⟨rfl, hF⟩
  rw [H.out]
  go_wp2_with fail
  go_ret2
  exact ⟨rfl, ((Kept.refl _ w).alloc _).trans hF⟩

set_option maxRecDepth 100000 in
set_option maxHeartbeats 2000000 in
theorem insert_full (b : Nat) (st : St) (r x y : Nat) (p s : Int) (a : Option Addr) (n c : Nat) (w : World) (hw : Byt w b 75 512 (enc st)) (hst : Wf st) (h : rightB r x y p s n = true) (hr : roomA st.slots < (n : Int)) :
    Calls Try.prog 12 #[.pointer (some ⟨b, 0, none⟩), tupV r x y p s (.slice a n c)] w (Pair 0 12 w) := by
  have H := Lib.hid h
  have hr1 : roomN (enc st) < (n : Int) := by rw [hst.room]; exact hr
  have hr' := decide_eq_true hr1
  clear h hr
  have hB := alloc_at w (.cells #[.int .u64 r, .int .u64 x, .int .u64 y, .int .i64 p, .int .i64 s, .slice a n c] 29)
  have HB := Lib.hid hB
  clear hB
  go_enter Try.func12, Try.ntmps12
  go_wp2_with fail
  refine (right_any r x y p s a n c _).mono ?_
  rintro e w1 ⟨rfl, hF⟩
  rw [H.out]
  have hB1 := (hF.block w.heap.size (by simp) (by simp)).trans HB.out
  have c5 := boxCell hB1 5
  simp only [List.getElem?_toArray, List.getElem?_cons_zero, List.getElem?_cons_succ] at c5
  have hF1 := ((Kept.refl _ w).alloc _).trans hF
  have hw1 := hw.kept hF1 (by simp)
  have HF := Lib.hid hF1
  clear hB1 hF hF1
  go_wp2_with fail
  refine wp_region_quiet_lit (by kernel_rfl) (by kernel_rfl) ?_
  repeat (first | go_big_quiet_step ((go_at_call 28; exact Calls.quiet_of (room_any b _ _ (hw1.drewN _) hst.fits))) | quiet_step ((go_at_call 28; exact Calls.quiet_of (room_any b _ _ (hw1.drewN _) hst.fits))))
  refine wpQuiet_nil ?_
  intro _ hw'
  obtain ⟨nq, hw''⟩ := hw'
  subst hw''
  go_wp2_with fail
  go_ret2
  exact ⟨rfl, HF.out.drewN nq⟩

def Inserted (b k : Nat) (st : St) (w : World) (e : Ending) (w' : World) : Prop := e = .returned (.tuple #[.int .i64 k, .int .i64 0]) ∧ Byt w' b 75 512 (enc st) ∧ Kept (· = b) w w'

theorem ver_byte_pack (v : Ver) (i : Nat) : (if i < 30 then head v.row v.x v.y v.P v.S i else if i < 30 + v.data.length then v.data.getD (i - 30) 0 else 0) = v.byte i := by
  unfold Ver.byte
  by_cases h1 : i < 30
  · rw [if_pos h1, if_pos h1]
  · rw [if_neg h1, if_neg h1]
    by_cases h2 : i < 30 + v.data.length
    · rw [if_pos h2]
    · rw [if_neg h2, List.getD_eq_getElem?_getD, List.getElem?_eq_none (by omega)]; rfl

theorem packed_ver {r x y P S n : Nat} {d : Nat → Nat} {b N : Nat} {w : World} (v : Ver) (hv : v.Ok) (hr : v.row = r) (hx : v.x = x) (hy : v.y = y) (hP : v.P = P) (hS : v.S = S) (hn : v.data.length = n) (hd : ∀ j, d j = v.data.getD j 0)
    (h : Byt w b 5 N (fun i => if i < 30 then head r x y P S i else if i < 30 + n then d (i - 30) else 0)) : Byt w b 5 N v.byte := by
  subst hr hx hy hP hS hn
  refine h.congr (fun i _ => ?_) (Ver.byte_lt hv)
  rw [← ver_byte_pack]
  by_cases h1 : i < 30
  · rw [if_pos h1, if_pos h1]
  · rw [if_neg h1, if_neg h1]
    by_cases h2 : i < 30 + v.data.length
    · rw [if_pos h2, if_pos h2, hd]
    · rw [if_neg h2, if_neg h2]

theorem pack_ver (v : Ver) (hv : v.Ok) (a : Option Addr) (n c : Nat) (d : Nat → Nat) (w : World) (hn : v.data.length = n) (hd : Bytes w a n d) (hdd : ∀ j, d j = v.data.getD j 0) :
    Calls Try.prog 39 #[tupV v.row v.x v.y ((v.P : Int) - 1) ((v.S : Int) - 1) (.slice a n c)] w fun e w' =>
      ∃ b c N, e = .returned (.slice (some ⟨b, 0, none⟩) v.size c) ∧ w.heap.size ≤ b ∧ v.size ≤ N ∧ Byt w' b 5 N v.byte ∧ Fresh w w' := by
  have e : 30 + n = v.size := by unfold Ver.size; omega
  refine (pack_any v.row v.x v.y v.P v.S a n c d w hv.row hv.x hv.y hv.P hv.S hd (by have := hv.len; omega)).mono ?_
  rintro e' w' ⟨b, c', N, rfl, h1, h2, h3, h4⟩
  refine ⟨b, c', N, by rw [e], h1, by omega, packed_ver v hv rfl rfl rfl rfl rfl hn hdd h3, h4⟩

theorem free_enc (b : Nat) (st : St) (w : World) (hw : Byt w b 75 512 (enc st)) (hst : Wf st) : Calls Try.prog 38 #[.pointer (some ⟨b, 0, none⟩)] w (Quiet (.int .i64 (firstFree st.slots)) w) := by
  have := free_any b _ w hw hst.fits
  rwa [hst.free] at this

theorem count_enc (b : Nat) (st : St) (w : World) (hw : Byt w b 75 512 (enc st)) (hst : Wf st) : Calls Try.prog 40 #[.pointer (some ⟨b, 0, none⟩)] w fun e w' => e = .returned (.int .i64 st.slots.length) ∧ w = w' := by
  have := count_any b _ w hw
  rwa [hst.cnt] at this

theorem start_enc (b : Nat) (st : St) (w : World) (hw : Byt w b 75 512 (enc st)) (hst : Wf st) : Calls Try.prog 41 #[.pointer (some ⟨b, 0, none⟩)] w fun e w' => e = .returned (.int .i64 st.start) ∧ w = w' := by
  have := start_any b _ w hw
  rwa [hst.stt] at this

theorem sumS_cp (l : List Slot) : ∀ i, i ≤ l.length → sumS (cpN l i) = 4 * i + szN l i := by
  intro i
  induction i with
  | zero => intro _; rfl
  | succ i ih =>
    intro hi
    rw [cpN, sumS_append, ih (by omega), szN]
    have : sumS [cpS l i] = 4 + sizeOfS (l.getD i none) := by
      unfold cpS
      cases l.getD i none with
      | none => rfl
      | some fv => simp [sumS, sizeOfS]
    omega

theorem sumS_compact (st : St) : sumS (compactA st).slots = sumS st.slots := by
  show sumS (cpN st.slots st.slots.length) = _
  rw [sumS_cp _ _ (Nat.le_refl _), sumS_szN]

theorem compact_len (st : St) : (compactA st).slots.length = st.slots.length := cpN_length _ _

set_option maxRecDepth 100000 in
set_option maxHeartbeats 4000000 in
theorem insert_ok (b : Nat) (st : St) (v : Ver) (a : Option Addr) (n c : Nat) (d : Nat → Nat) (w : World) (hw : Byt w b 75 512 (enc st)) (hst : Wf st) (hv : v.Ok) (hfar : farB ((v.P : Int) - 1) ((v.S : Int) - 1) = false)
    (hn : v.data.length = n) (hd : Bytes w a n d) (hdd : ∀ j, d j = v.data.getD j 0) (hr : (n : Int) ≤ roomA st.slots) :
    Calls Try.prog 12 #[.pointer (some ⟨b, 0, none⟩), tupV v.row v.x v.y ((v.P : Int) - 1) ((v.S : Int) - 1) (.slice a n c)] w (Inserted b (firstFree st.slots) (putA st v) w) := by
  have h : rightB v.row v.x v.y ((v.P : Int) - 1) ((v.S : Int) - 1) n = true := by
    have h1 := hv.row
    have h2 := hv.x
    have h3 := hv.y
    have h4 := hv.len
    unfold rightB
    rw [hfar]
    simp
    omega
  have H := Lib.hid h
  have hr1 : ¬ roomN (enc st) < (n : Int) := by rw [hst.room]; omega
  have hr' := decide_eq_false hr1
  have HR := Lib.hid (And.intro hr (And.intro hn (And.intro hdd (And.intro hfar hv))))
  clear h hr hr1 hn hdd hfar
  have hB := alloc_at w (.cells #[.int .u64 v.row, .int .u64 v.x, .int .u64 v.y, .int .i64 ((v.P : Int) - 1), .int .i64 ((v.S : Int) - 1), .slice a n c] 29)
  have HB := Lib.hid hB
  clear hB
  go_enter Try.func12, Try.ntmps12
  go_wp2_with fail
  refine (right_any v.row v.x v.y ((v.P : Int) - 1) ((v.S : Int) - 1) a n c _).mono ?_
  rintro e w1 ⟨rfl, hF⟩
  rw [H.out]
  have hB1 := (hF.block w.heap.size (by simp) (by simp)).trans HB.out
  have c5 := boxCell hB1 5
  simp only [List.getElem?_toArray, List.getElem?_cons_zero, List.getElem?_cons_succ] at c5
  have hF1 := ((Kept.refl _ w).alloc _).trans hF
  have hsz1 : w.heap.size < w1.heap.size := by have := hF.size; simp at this; omega
  have hw1 := hw.kept hF1 (by simp)
  have HF := Lib.hid (And.intro hF1 (And.intro hsz1 hB1))
  clear hB1 hF hF1 hsz1
  go_wp2_with fail
  refine wp_region_quiet_lit (by kernel_rfl) (by kernel_rfl) ?_
  repeat (first | go_big_quiet_step ((go_at_call 28; exact Calls.quiet_of (room_any b _ _ (hw1.drewN _) hst.fits))) | quiet_step ((go_at_call 28; exact Calls.quiet_of (room_any b _ _ (hw1.drewN _) hst.fits))))
  refine wpQuiet_nil ?_
  intro _ hw'
  obtain ⟨nq, hw''⟩ := hw'
  subst hw''
  have hw2 := hw1.drewN nq
  have hF2 := HF.out.1.drewN nq
  have hB2 : (w1.drewN nq).heap[w.heap.size]? = _ := HF.out.2.2
  have hs2 : w.heap.size < (w1.drewN nq).heap.size := HF.out.2.1
  generalize w1.drewN nq = w2 at hw2 hF2 hB2 hs2 ⊢
  have HF2 := Lib.hid (And.intro hF2 (And.intro hs2 hB2))
  clear c5 hw1 HF hF2 hB2 hs2 HB
  go_wp2_with fail
  have X := Box6.of HF2.out.2.2
  have c0 := X.c0
  have c1 := X.c1
  have c2 := X.c2
  have c3 := X.c3
  have c4 := X.c4
  have c5 := X.c5
  clear X
  go_region_held3 (fun W => W.cell? ⟨w.heap.size, 0, none⟩ = some (.int .u64 v.row) ∧ W.cell? ⟨w.heap.size, 1, none⟩ = some (.int .u64 v.x) ∧ W.cell? ⟨w.heap.size, 2, none⟩ = some (.int .u64 v.y) ∧ W.cell? ⟨w.heap.size, 3, none⟩ = some (.int .i64 ((v.P : Int) - 1)) ∧ W.cell? ⟨w.heap.size, 4, none⟩ = some (.int .i64 ((v.S : Int) - 1)) ∧ W.cell? ⟨w.heap.size, 5, none⟩ = some (.slice a n c)) (first | exact ⟨c0, c1, c2, c3, c4, c5⟩ | (have hBx := (hF3.block w.heap.size HF2.out.2.1 (by simp)).trans HF2.out.2.2; exact ⟨boxCell hBx 0, boxCell hBx 1, boxCell hBx 2, boxCell hBx 3, boxCell hBx 4, boxCell hBx 5⟩)) (first
    | (go_at_call 38; refine (free_enc b st _ (hw2.drewN 1) hst).mono ?_; rintro e w3 ⟨rfl, m3, rfl⟩)
    | (go_at_call 39; refine (pack_ver v hv a n c d _ HR.out.2.1 (hd.kept (HF2.out.1.drewN _) (by simp)) HR.out.2.2.1).mono ?_; rintro e w3 ⟨pb, pc, pN, rfl, hlt3, hN3, hb3, hF3⟩))
  clear c0 c1 c2 c3 c4 c5
  have hw3 : Byt w3 b 75 512 (enc st) := hw2.kept (((Kept.refl _ w2).drewN (1 + m3)).trans hF3) (by simp)
  have hK3 : Kept (· = b) w w3 := ((HF2.out.1.drewN (1 + m3)).trans hF3).mono fun _ _ h => h.elim
  have hpb : pb ≠ b := by have := hw2.blk; have : (w2.drewN (1 + m3)).heap.size = w2.heap.size := rfl; omega
  clear hF3 hlt3 hw2
  obtain ⟨k, hkk⟩ : ∃ k, firstFree st.slots = k := ⟨_, rfl⟩
  have hkf := firstFree_get st.slots
  have hkc := firstFree_compact st
  have hkl := firstFree_le st.slots
  have hsum := room_sum HR.out.1
  rw [hkk] at hkf hkc hkl hsum ⊢
  have hszv : 30 + n = v.size := by have := HR.out.2.1; unfold Ver.size; omega
  rw [hszv] at hsum
  have hv30 : 30 ≤ v.size := by omega
  obtain ⟨G, hG⟩ : ∃ G, (growK st.slots k).length = G := ⟨_, rfl⟩
  have hGm := growK_len st.slots k hkl
  have hsumG : 4 * G ≤ sumS (growK st.slots k) := by rw [sumS_szN, hG]; omega
  have hG127 : 4 * G + 34 ≤ 512 := by omega
  have hGL : 4 * st.slots.length + 34 ≤ 512 := by omega
  have hmax : max ((st.slots.length : Nat) : Int) ((k : Int) + 1) = (G : Int) := by omega
  have hmxr := fun w => (Lib.run_max_ints (P := Try.prog) w #[3, 3] 3 .i64 .i64 (st.slots.length : Nat) ((k : Int) + 1)).trans (by rw [hmax])
  have hkG : k < G := by omega
  have hput : putA st v = laidA (if st.start < v.size + (4 + 4 * G) then compactA st else st) k v := by unfold putA; rw [hkk, hG]
  have hstart := hst.high
  have HG := Lib.hid (And.intro hG (And.intro hkf (And.intro hkc (And.intro hsum (And.intro hkk (And.intro hGm hput))))))
  clear hkf hkc hsum hkk hG hGm hmax hput hszv HF2 hr' HR H hd
  go_wp2_with fail
  refine (count_enc b st _ hw3 hst).mono ?_
  rintro e w4 ⟨rfl, rfl⟩
  by_cases hmv : st.start < v.size + (4 + 4 * G)
  · have hmv' : ((st.start : Int) - (v.size : Int) < 4 + 4 * (G : Int)) := by omega
    have hst1 := hst.compact
    have hlow1 := atN_szN (l := st.slots) (by have := hst.sz; omega) st.slots.length (Nat.le_refl _)
    have hs1 : (compactA st).start = atN st.slots st.slots.length := rfl
    have hsz1 := HG.out.2.2.2.1
    rw [growK_sum, sumS_szN] at hsz1
    have hroom : v.size + (4 + 4 * G) ≤ (compactA st).start := by
      rw [hs1]
      have := HG.out.2.2.2.2.2.1
      rw [HG.out.1] at this
      by_cases e : k = st.slots.length
      · rw [if_pos e] at hsz1; omega
      · rw [if_neg e] at hsz1; omega
    obtain ⟨F, hF'⟩ : ∃ F, (compactA st).start = F + v.size := ⟨(compactA st).start - v.size, by omega⟩
    have hhi := hst1.high
    obtain ⟨y, hy⟩ : ∃ y, F + y = 512 := ⟨512 - F, by omega⟩
    have hvy : v.size ≤ y := by omega
    have hrf := run_from b F y hy (by omega)
    have hGc : (growK (compactA st).slots k).length = G := by rw [growK_len _ _ (by rw [compact_len]; exact hkl), compact_len]; have := HG.out.2.2.2.2.2.1; rw [HG.out.1] at this; omega
    have hfin := enc_laid hst1 (k := k) (v := v) HG.out.2.2.1 hv (by rw [hGc]; exact hroom) (by have := HG.out.2.2.2.1; rw [growK_sum, compact_len, sumS_compact]; rw [growK_sum] at this; exact this)
    rw [hGc, hF', Nat.add_sub_cancel] at hfin
    have hput := HG.out.2.2.2.2.2.2
    rw [if_pos hmv] at hput
    rw [← hput] at hfin
    have Hfin := Lib.hid hfin
    have HF' := Lib.hid hF'
    have Hy := Lib.hid hy
    have hF512 : F ≤ 512 := by omega
    clear hfin hput hGc hlow1 hs1 hsz1 hF' hy
    go_wp2_with fail
    refine (start_enc b st _ hw3 hst).mono ?_
    rintro e w4 ⟨rfl, rfl⟩
    go_wp2_with fail
    refine (move_any b st _ hw3 hst hGL).mono ?_
    rintro e w5 ⟨rfl, hw5, hk5⟩
    have hb5 := hb3.kept hk5 hpb
    have hK5 := hK3.trans hk5
    clear hw3 hb3 hk5 hK3
    go_wp2_with fail
    refine (start_enc b (compactA st) _ hw5 hst1).mono ?_
    rintro e w6 ⟨rfl, rfl⟩
    rw [HF'.out]
    go_wp2_with fail
    refine (set_any b G F _ _ hw5 (by omega) (by omega)).mono ?_
    rintro e w7 ⟨rfl, hw7, hz7, hk7⟩
    have hb7 := hb5.kept hk7 hpb
    have hK7 := hK5.trans hk7
    obtain ⟨w8, hrun8, hw8, hz8, hk8⟩ := copy_byt (P := Try.prog) 22 22 3 5 und22 info5 (off := F) (n := y) (c := y) (k := pc) hw7 (by have := Hy.out; omega) (((hb7.bytes 0 v.size (by omega)).congr (fun j _ => by simp) (Ver.byte_lt hv))) hvy
    have Hrun8 := Lib.hid hrun8
    have hK8 := hK7.trans hk8
    clear hz7 hk7 hrun8 hz8 hk8 hw7
    go_wp2_with fail
    rw [Hrun8.out]
    go_wp2_with fail
    refine (point_any b k F v.size _ _ hw8 (by omega) (by have := Hy.out; omega) (by omega)).mono ?_
    rintro e w9 ⟨rfl, hw9, hz9, hk9⟩
    rw [Hfin.out] at hw9
    have hK9 := hK8.trans hk9
    clear hz9 hk9 hw8
    go_wp2_with fail
    go_ret2
    exact ⟨by rw [HG.out.2.2.2.2.1]; rfl, hw9, hK9⟩
  · have hmv' : ¬ ((st.start : Int) - (v.size : Int) < 4 + 4 * (G : Int)) := by omega
    have hroom : v.size + (4 + 4 * G) ≤ st.start := by omega
    obtain ⟨F, hF'⟩ : ∃ F, st.start = F + v.size := ⟨st.start - v.size, by omega⟩
    obtain ⟨y, hy⟩ : ∃ y, F + y = 512 := ⟨512 - F, by omega⟩
    have hvy : v.size ≤ y := by omega
    have hrf := run_from b F y hy (by omega)
    have hfin := enc_laid hst (k := k) (v := v) HG.out.2.1 hv (by rw [HG.out.1]; exact hroom) HG.out.2.2.2.1
    rw [HG.out.1, hF', Nat.add_sub_cancel] at hfin
    have hput := HG.out.2.2.2.2.2.2
    rw [if_neg hmv] at hput
    rw [← hput] at hfin
    have Hfin := Lib.hid hfin
    have HF' := Lib.hid hF'
    have Hy := Lib.hid hy
    have hF512 : F ≤ 512 := by omega
    have hb5 := hb3
    have hK5 := hK3
    clear hfin hput hF' hy hb3 hK3
    go_wp2_with fail
    refine (start_enc b st _ hw3 hst).mono ?_
    rintro e w4 ⟨rfl, rfl⟩
    go_wp2_with fail
    refine (start_enc b st _ hw3 hst).mono ?_
    rintro e w6 ⟨rfl, rfl⟩
    rw [HF'.out]
    go_wp2_with fail
    refine (set_any b G F _ _ hw3 (by omega) (by omega)).mono ?_
    rintro e w7 ⟨rfl, hw7, hz7, hk7⟩
    have hb7 := hb5.kept hk7 hpb
    have hK7 := hK5.trans hk7
    obtain ⟨w8, hrun8, hw8, hz8, hk8⟩ := copy_byt (P := Try.prog) 22 22 3 5 und22 info5 (off := F) (n := y) (c := y) (k := pc) hw7 (by have := Hy.out; omega) (((hb7.bytes 0 v.size (by omega)).congr (fun j _ => by simp) (Ver.byte_lt hv))) hvy
    have Hrun8 := Lib.hid hrun8
    have hK8 := hK7.trans hk8
    clear hz7 hk7 hrun8 hz8 hk8 hw7
    go_wp2_with fail
    rw [Hrun8.out]
    go_wp2_with fail
    refine (point_any b k F v.size _ _ hw8 (by omega) (by have := Hy.out; omega) (by omega)).mono ?_
    rintro e w9 ⟨rfl, hw9, hz9, hk9⟩
    rw [Hfin.out] at hw9
    have hK9 := hK8.trans hk9
    clear hz9 hk9 hw8
    go_wp2_with fail
    go_ret2
    exact ⟨by rw [HG.out.2.2.2.2.1]; rfl, hw9, hK9⟩
end Go.Proofs.Ytffbfgmhfnbmfaa
