/- The walk of PageFills. -/
import Derived.Test.YtffbfgmhfnbmfaaPv
import Derived.Test.YtffbfgmhfnbmfaaLw
import Derived.Deep.RegionHeld3
import Derived.Deep.DeepCutAuto
import Derived.IntWalk
namespace Go.Proofs.Ytffbfgmhfnbmfaa
open Go.RowKit

theorem run_made (n : Nat) (h : n ≤ 1000) (w : World) : (Instr.makeSlice 22 (.int .i64 (n : Int)) (.int .i64 (n : Int))).run Try.prog w = .ok (.slice (some ⟨w.heap.size, 0, none⟩) n n) (w.alloc (.cells (made n) 5)) :=
  run_make_row' 22 5 (.int .u8 0) 1 und22 info5 rfl .i64 .i64 n (by omega) (by omega) w

set_option maxRecDepth 100000 in
set_option maxHeartbeats 1000000 in
theorem nowhere_eq (w : World) : Calls Try.prog 10 #[] w fun e w' => e = .returned (.agg #[.int .i64 (-1), .int .i64 (-1)]) ∧ w' = w.alloc (.cells #[.int .i64 (-1), .int .i64 (-1)] 26) := by
  go_enter Try.func10, Try.ntmps10
  go_wp2_with fail
  refine bodyPost_ret (v := .agg #[.int .i64 (-1), .int .i64 (-1)]) ?_ rfl ⟨rfl, rfl⟩
  simp [results, Try.results10, go_sem]

structure Boxed (w wx : World) (H : Nat) (a1 : Addr) (k : Nat) : Prop where
  le : w.heap.size ≤ H
  box : wx.heap[H]? = some (.cells #[.int .u64 1, .int .u64 1, .int .u64 0, .int .i64 (-1), .int .i64 (-1), .slice (some a1) k k] 29)
  bytes : Bytes wx (some a1) k (fun _ => 0)
  ble : w.heap.size ≤ a1.block
  blt : a1.block < wx.heap.size
  spot : a1.spot = none
  fresh : Fresh w wx

theorem three (w : World) (o1 o2 o3 : Obj) : Fresh w (((w.alloc o1).alloc o2).alloc o3).drew ∧ (((w.alloc o1).alloc o2).alloc o3).drew.heap.size = w.heap.size + 3 ∧
    (((w.alloc o1).alloc o2).alloc o3).drew.heap[w.heap.size]? = some o1 ∧ (((w.alloc o1).alloc o2).alloc o3).drew.heap[w.heap.size + 1]? = some o2 ∧ (((w.alloc o1).alloc o2).alloc o3).drew.heap[w.heap.size + 1 + 1]? = some o3 := by
  have s1 : (w.alloc o1).heap.size = w.heap.size + 1 := by simp
  have s2 : ((w.alloc o1).alloc o2).heap.size = w.heap.size + 1 + 1 := by simp
  have k2 := (Kept.refl (fun _ => False) (w.alloc o1)).alloc o2
  have k3 := (Kept.refl (fun _ => False) ((w.alloc o1).alloc o2)).alloc o3
  have h2 := alloc_at (w.alloc o1) o2
  have h3 := alloc_at ((w.alloc o1).alloc o2) o3
  rw [s1] at h2
  rw [s2] at h3
  exact ⟨((((Kept.refl _ w).alloc o1).alloc o2).alloc o3).drew, by simp, (((k2.trans k3).block _ (by simp) (by simp)).trans (alloc_at w o1)), (k3.block _ (by rw [s2]; omega) (by simp)).trans h2, h3⟩

theorem boxed_of {w wx : World} {H b k : Nat} (hF : Fresh w wx) (hH : w.heap.size ≤ H) (hb : w.heap.size ≤ b)
    (box : wx.heap[H]? = some (.cells #[.int .u64 1, .int .u64 1, .int .u64 0, .int .i64 (-1), .int .i64 (-1), .slice (some ⟨b, 0, none⟩) k k] 29))
    (hm : wx.heap[b]? = some (.cells (made k) 5)) : Boxed w wx H ⟨b, 0, none⟩ k where
  le := hH
  box := box
  bytes := by
    have hlt : b < wx.heap.size := (Array.getElem?_eq_some_iff.1 hm).1
    refine ⟨fun _ => by omega, ?_⟩
    by_cases h0 : k = 0
    · exact .inl h0
    · refine .inr ⟨b, 0, rfl, hlt, fun j hj => ?_⟩
      rw [Nat.zero_add, boxCell hm]
      have h1 := ((made_byt wx k).cell hj)
      rw [boxCell (alloc_at wx _)] at h1
      exact h1
  ble := hb
  blt := (Array.getElem?_eq_some_iff.1 hm).1
  spot := rfl
  fresh := hF

theorem room_yes {k j N : Nat} {v : Ver} (hv : v.data.length = k) (h : (34 + k) * N ≤ 508) (hj : j < N) : (k : Int) ≤ roomL (List.replicate j (some v)) := by
  rw [roomL_rep]
  have hs : 4 + v.size = 34 + k := by unfold Ver.size; omega
  have h1 : (34 + k) * (j + 1) ≤ (34 + k) * N := Nat.mul_le_mul_left _ hj
  rw [Nat.mul_succ] at h1
  have e : ((34 + k : Nat) : Int) * (j : Int) = (((34 + k) * j : Nat) : Int) := by push_cast; rfl
  rw [hs, e]
  omega

theorem room_no {k N : Nat} {v : Ver} (hv : v.data.length = k) (h : 508 < (34 + k) * (N + 1)) : roomL (List.replicate N (some v)) < (k : Int) := by
  rw [roomL_rep]
  have hs : 4 + v.size = 34 + k := by unfold Ver.size; omega
  rw [Nat.mul_succ] at h
  have e : ((34 + k : Nat) : Int) * (N : Int) = (((34 + k) * N : Nat) : Int) := by push_cast; rfl
  rw [hs, e]
  omega

/-- The law's version. -/
def vK (k : Nat) : Ver := ⟨1, 1, 0, 0, 0, List.replicate k 0⟩

theorem vK_len (k : Nat) : (vK k).data.length = k := List.length_replicate ..

theorem vK_get (k j : Nat) : 0 = (vK k).data.getD j 0 := by
  show 0 = (List.replicate k 0).getD j 0
  rw [List.getD_eq_getElem?_getD, List.getElem?_replicate]
  split <;> rfl

theorem vK_ok {k : Nat} (h : k ≤ 200) : (vK k).Ok := ⟨Nat.le_of_ble_eq_true rfl, Nat.le_of_ble_eq_true rfl, Nat.zero_le _, Nat.zero_le _, Nat.zero_le _, by rw [vK_len]; exact h, fun b hb => by have := (List.mem_replicate.1 hb).2; omega⟩

theorem vK_right {k : Nat} (h : k ≤ 200) : rightB 1 1 0 (-1) (-1) k = true := by
  unfold rightB
  have : farB (-1) (-1) = false := rfl
  rw [this]
  simp
  omega

theorem vK_hole {k n i : Nat} (hi : i < n) (hn : (34 + k) * n ≤ 508) :
    ffL (freeL (List.replicate n (some (vK k))) i) = i ∧ (k : Int) ≤ roomL (freeL (List.replicate n (some (vK k))) i) ∧ putL (freeL (List.replicate n (some (vK k))) i) (vK k) = List.replicate n (some (vK k)) := by
  have hs : 4 + (vK k).size = 34 + k := by unfold Ver.size; rw [vK_len]; omega
  have h := hole n i (vK k) hi (by rw [hs]; exact hn)
  rw [vK_len] at h
  exact h

structure Fill (w wr : World) (H : Nat) (a1 : Addr) (k pb : Nat) (L : Ln) : Prop where
  page : PageIs wr pb L
  box : wr.heap[H]? = some (.cells #[.int .u64 1, .int .u64 1, .int .u64 0, .int .i64 (-1), .int .i64 (-1), .slice (some a1) k k] 29)
  bytes : Bytes wr (some a1) k (fun _ => 0)
  fresh : Fresh w wr
  neH : H ≠ pb
  nea : a1.block ≠ pb
  le : w.heap.size ≤ pb

theorem Fill.kept {w wr wn : World} {H : Nat} {a1 : Addr} {k pb : Nat} {L : Ln} (h : Fill w wr H a1 k pb L) (f : Fresh wr wn) : Fill w wn H a1 k pb L where
  page := h.page.kept f (by simp)
  box := (f.block H (Array.getElem?_eq_some_iff.1 h.box).1 (by simp)).trans h.box
  bytes := h.bytes.kept f (by simp)
  fresh := h.fresh.trans f
  neH := h.neH
  nea := h.nea
  le := h.le

theorem Fill.turn {w wr wn : World} {H : Nat} {a1 : Addr} {k pb : Nat} {L L' : Ln} (h : Fill w wr H a1 k pb L) (f : Kept (· = pb) wr wn) (hp : PageIs wn pb L') : Fill w wn H a1 k pb L' where
  page := hp
  box := (f.block H (Array.getElem?_eq_some_iff.1 h.box).1 h.neH).trans h.box
  bytes := h.bytes.kept f (fun z hz => by cases hz; exact h.nea)
  fresh := h.fresh.then f fun i hi e => by have := h.le; omega
  neH := h.neH
  nea := h.nea
  le := h.le

set_option maxRecDepth 100000 in
set_option maxHeartbeats 4000000 in
theorem fills_walk (z : Nat) (hz : z < 256) (a : Option Addr) (n c : Nat) (d : Nat → Nat) (w : World) (h : Bytes w a n d) :
    Calls Try.prog 3 #[.int .u8 z, .slice a n c] w (Gives (.bool true) w) := by
  go_enter Try.func3, Try.ntmps3
  go_wp2_with fail
  refine (awake_any _).mono ?_
  rintro e w1 ⟨rfl, hF1⟩
  obtain ⟨k, hk⟩ : ∃ k, k = z % 201 := ⟨_, rfl⟩
  have hkk : (wrap64 (z : Int)).tmod 201 = (k : Int) := by
    rw [IntWalk.wrap64_in _ (by omega), Int.tmod_eq_emod_of_nonneg (by omega)]; omega
  have hmk := run_made k (by omega)
  have Hz := Lib.hid (And.intro hz hk)
  clear hz hk
  go_upto_region 4 with fail
  clear hkk
  go_cut [6] from 17 to 89 (fun p wx => ∃ H a1, p = .pointer (some ⟨H, 0, none⟩) ∧ Boxed w1 wx H a1 k)
  case first =>
    go_region_with (go_at_call 10; refine (nowhere_eq _).mono ?_; rintro e wn ⟨rfl, rfl⟩)
    all_goals go_wp2_with fail
    all_goals go_meet
    all_goals refine ⟨_, _, rfl, boxed_of (three _ _ _ _).1 ?_ ?_ (by first | exact (three _ _ _ _).2.2.1 | exact (three _ _ _ _).2.2.2.1 | exact (three _ _ _ _).2.2.2.2) (by first | exact (three _ _ _ _).2.2.1 | exact (three _ _ _ _).2.2.2.1 | exact (three _ _ _ _).2.2.2.2)⟩
    all_goals omega
  case rest =>
  obtain ⟨H, a1, rfl, hB⟩ := hcut
  clear hmk
  have hk200 : k ≤ 200 := by have := Hz.out; omega
  obtain ⟨N, hN⟩ : ∃ N, N = 508 / (34 + k) := ⟨_, rfl⟩
  have hN1 : (34 + k) * N ≤ 508 := by rw [hN]; exact Nat.mul_div_le _ _
  have hN2 : 508 < (34 + k) * (N + 1) := by rw [hN]; exact Nat.lt_mul_div_succ _ (by omega)
  have hN3 : 2 ≤ N := by rw [hN, Nat.le_div_iff_mul_le (by omega)]; omega
  have hN4 : N ≤ 14 := by
    have h34 : 508 / (34 + k) ≤ 508 / 34 := Nat.div_le_div_left (by omega) (by omega)
    omega
  have hq : (508 : Int).tdiv (34 + (k : Int)) = (N : Int) := by
    rw [Int.tdiv_eq_ediv_of_nonneg (by omega), hN]
    push_cast
    rfl
  have HN := Lib.hid (And.intro hk200 (And.intro hN1 (And.intro hN2 (And.intro hN3 hN4))))
  have HQ := Lib.hid hq
  clear hk200 hN hN1 hN2 hN3 hN4 hq
  have hF2 : Fresh w wc := hF1.trans hB.fresh
  have hle := hF1.size
  go_wp2_with fail
  refine (new_is _).mono ?_
  rintro e w2 ⟨rfl, hp2, hs2, hF3⟩
  have hHlt := (Array.getElem?_eq_some_iff.1 hB.box).1
  have hFill : Fill w w2 H a1 k wc.heap.size [] := ⟨hp2, (hF3.block H hHlt (by simp)).trans hB.box, hB.bytes.kept hF3 (by simp), hF2.trans hF3, by omega, by have := hB.blt; omega, hF2.size⟩
  generalize wc.heap.size = pb at hFill ⊢
  clear hp2 hs2 hF3 hHlt hF2 hle hF1 hB
  go_wp2_with fail
  go_loopg [8, 27] 20 (fun g s8 s27 wr => ∃ j : Nat, j + g = 20 ∧ s8 = .int .i64 j ∧ s27 = .int .i64 j ∧ j ≤ N ∧ Fill w wr H a1 k pb (List.replicate j (some (vK k))))
  case atStart => exact ⟨0, rfl, rfl, rfl, Nat.zero_le _, hFill⟩
  case round =>
    obtain ⟨j, hj, rfl, rfl, hjN, hF⟩ := hrel
    have hlt : j < 20 := by have := HN.out.2.2.2.2; omega
    have X := Box6.of hF.box
    have c0 := X.c0
    have c1 := X.c1
    have c2 := X.c2
    have c3 := X.c3
    have c4 := X.c4
    have c5 := X.c5
    clear X
    by_cases hjl : j < N
    · have Hj := Lib.hid (And.intro hj (And.intro hjN hjl))
      clear hj hjN hjl
      go_wp2_with fail
      have hins := insert_is pb _ (vK k) (some a1) k k _ _ hF.page (vK_ok HN.out.1) rfl (vK_len k) hF.bytes (fun j => vK_get k j) (room_yes (vK_len k) HN.out.2.1 Hj.out.2.2)
      have Hins := Lib.hid hins
      clear hins
      refine Hins.out.mono ?_
      rintro e w4 ⟨rfl, hp4, hk4⟩
      rw [ffL_rep]
      rw [putL_rep] at hp4
      have hF4 := hF.turn hk4 hp4
      clear hF hp4 hk4 c0 c1 c2 c3 c4 c5
      go_wp2_with fail
      go_roundg (gk - 1)
      case measure => have := Hj.out; omega
      case rel => exact ⟨j + 1, by have := Hj.out; omega, by go_num, by go_num, Hj.out.2.2, hF4⟩
    · obtain rfl : j = N := by omega
      clear hjN hjl hj hlt hFill
      have hlt20 : (j : Int) < 20 := by have := HN.out.2.2.2.2; omega
      go_wp2_with fail
      refine (insert_none pb _ 1 1 0 (-1) (-1) (some a1) k k _ hF.page (vK_right HN.out.1) (room_no (vK_len k) HN.out.2.2.1)).mono ?_
      rintro e w4 ⟨rfl, hf4⟩
      have hF4 := hF.kept hf4
      clear hF hf4 c0 c1 c2 c3 c4 c5
      have hkk : (k : Int) ≤ 200 := by have := HN.out.1; omega
      have hq := HQ.out
      have hw34 := wrap_int (34 + (k : Int)) (by omega) (by have := HN.out.1; omega)
      have hn34 : ¬ (34 + (k : Int) = 0) := by omega
      go_wp2_with fail
      clear hq hw34 hn34 hkk hlt20
      go_loopg [47] 13 (fun g s47 wr => ∃ i : Nat, i + g = 13 ∧ s47 = .int .i64 i ∧ i ≤ n ∧ Fill w wr H a1 k pb (List.replicate j (some (vK k))))
      case atStart => exact ⟨0, rfl, rfl, Nat.zero_le _, hF4⟩
      case round =>
        clear hF4
        obtain ⟨i, hi, rfl, hin, hF⟩ := hrel
        by_cases hlt : i < n
        · have hd := (h.kept hF.fresh (by simp)).byte i
          rcases (h.kept hF.fresh (by simp)).cells with h0 | ⟨ab, ao, ha, _, hc⟩
          · omega
          subst ha
          have hci := hc i hlt
          have hlt' : (i : Int) < (n : Int) := by omega
          by_cases h12 : 12 ≤ i
          · have h12' := decide_eq_true (show (12 : Int) ≤ (i : Int) by omega)
            clear hc h12 hi hin hlt
            go_wp2_with fail
            refine (used_is pb _ _ hF.page).mono ?_
            rintro e w5 ⟨rfl, n5, rfl⟩
            rw [usedL_rep]
            go_wp2_with fail
            go_ret
            exact ⟨rfl, hF.fresh.drewN n5⟩
          · have h12' := decide_eq_false (show ¬ (12 : Int) ≤ (i : Int) by omega)
            obtain ⟨x, hx⟩ : ∃ x, x = d i := ⟨_, rfl⟩
            rw [← hx] at hci hd
            obtain ⟨y, hy⟩ : ∃ y, y = x % j := ⟨_, rfl⟩
            have hj2 := HN.out.2.2.2.1
            have hyj : y < j := by rw [hy]; exact Nat.mod_lt _ (by omega)
            have hmod : (wrap64 (x : Int)).tmod (j : Int) = (y : Int) := by
              rw [IntWalk.wrap64_in _ (by omega), Int.tmod_eq_emod_of_nonneg (by omega), hy]
              push_cast
              rfl
            have hj0 : ¬ ((j : Int) = 0) := by omega
            obtain ⟨hh1, hh2, hh3⟩ := vK_hole hyj HN.out.2.1
            have HI := Lib.hid (And.intro hi (And.intro hlt (And.intro h12 (And.intro hh1 (And.intro hh2 hh3)))))
            have hget : (List.replicate j (some (vK k)))[y]? = some (some (vK k)) := by rw [List.getElem?_replicate, if_pos hyj]
            clear hc hx hy hyj hj2 hh1 hh2 hh3 hi hin hlt h12 hd
            go_wp2_with fail
            refine (free_is pb y (vK k) _ _ hF.page hget).mono ?_
            rintro e w5 ⟨rfl, hp5, hk5⟩
            have hF5 := hF.turn hk5 hp5
            clear hF hp5 hk5 hget
            have X := Box6.of hF5.box
            have c0 := X.c0
            have c1 := X.c1
            have c2 := X.c2
            have c3 := X.c3
            have c4 := X.c4
            have c5 := X.c5
            clear X
            go_wp2_with fail
            have Hins := Lib.hid (insert_is pb _ (vK k) (some a1) k k _ _ hF5.page (vK_ok HN.out.1) rfl (vK_len k) hF5.bytes (fun j => vK_get k j) HI.out.2.2.2.2.1)
            refine Hins.out.mono ?_
            rintro e w6 ⟨rfl, hp6, hk6⟩
            rw [HI.out.2.2.2.2.2] at hp6
            rw [HI.out.2.2.2.1]
            have hF6 := hF5.turn hk6 hp6
            clear hF5 hp6 hk6 Hins c0 c1 c2 c3 c4 c5
            have X := Box6.of hF6.box
            have c0 := X.c0
            have c1 := X.c1
            have c2 := X.c2
            have c3 := X.c3
            have c4 := X.c4
            have c5 := X.c5
            clear X
            go_wp2_with fail
            refine (insert_none pb _ 1 1 0 (-1) (-1) (some a1) k k _ hF6.page (vK_right HN.out.1) (room_no (vK_len k) HN.out.2.2.1)).mono ?_
            rintro e w7 ⟨rfl, hf7⟩
            have hF7 := hF6.kept hf7
            clear hF6 hf7 c0 c1 c2 c3 c4 c5
            go_wp2_with fail
            go_roundg (gk - 1)
            case measure => have := HI.out; omega
            case rel => exact ⟨i + 1, by have := HI.out.1; have := HI.out.2.2.1; omega, by rw [IntWalk.wrap64_in _ (by have := HI.out.1; omega)]; rfl, HI.out.2.1, hF7⟩
        · obtain rfl : i = n := by omega
          clear hi hin hlt
          go_wp2_with fail
          refine (used_is pb _ _ hF.page).mono ?_
          rintro e w5 ⟨rfl, n5, rfl⟩
          rw [usedL_rep]
          go_wp2_with fail
          go_ret
          exact ⟨rfl, hF.fresh.drewN n5⟩
end Go.Proofs.Ytffbfgmhfnbmfaa
