/- The walk of Load. -/
import Derived.Test.YtffbfgmhfnbmfaaS5
import Derived.Deep.MidRow
namespace Go.Proofs.Ytffbfgmhfnbmfaa
open Go.RowKit

theorem info73 : (Try.prog.info? 73).map (·.size) = some 512 := by kernel_rfl

def NoLoad (w : World) (e : Ending) (w' : World) : Prop := e = .returned (.tuple #[.pointer none, .int .i64 3]) ∧ Fresh w w'

set_option maxRecDepth 100000 in
set_option maxHeartbeats 1000000 in
theorem load_short (a : Option Addr) (n c : Nat) (w : World) (hn : n ≠ 512) : Calls Try.prog 23 #[.slice a n c] w (NoLoad w) := by
  have hb : ((n : Int) != 512) = true := by simp; omega
  have HN := Lib.hid hn
  clear hn
  go_enter Try.func23, Try.ntmps23
  go_wp2_with fail
  go_ret2
  exact ⟨rfl, .refl _ _⟩

theorem run_arr (ab ao c : Nat) (w : World) : (Instr.arrayAt 73 (.slice (some ⟨ab, ao, none⟩) 512 c)).run Try.prog w = .ok (.pointer (some ⟨ab, ao, none⟩)) w := by
  simp [Instr.arrayAt, run_underlying aund, alen]

theorem wpList_arr_run {ops : Array Oper} {rest : List Oper} {op : Oper} {a : Act} {w : World} {Q : Exit → Act → World → Prop} (hgd : op.guard = none) (ty : TypeId) (x : Operand) (ho : op.op = .sliceToArrayPointer ty x) (vx v : Value)
    (hx : a.eval x = vx) (hrun : (Instr.arrayAt ty vx).run Try.prog w = .ok v w) (h : wpList Try.prog ops Q rest (a.put op.dst v) w) : wpList Try.prog ops Q (op :: rest) a w := by
  subst hx
  refine wpList_plain hgd fun K hK => ?_
  unfold Oper.wp execOp
  simp only [ho, Sem.run_bind, hrun, Result.andThen_ok, Sem.run_pure]
  exact hK _ _ h

theorem fold_set (C : List Value) : ∀ (k : Nat) (Z : Array Value), k + C.length ≤ Z.size → (C.zipIdx k).foldl (fun cs x => cs.setIfInBounds x.2 x.1) Z = (Z.toList.take k ++ C ++ Z.toList.drop (k + C.length)).toArray := by
  induction C with
  | nil =>
    intro k Z h
    simp
  | cons v C ih =>
    intro k Z h
    simp only [List.length_cons] at h
    rw [List.zipIdx_cons, List.foldl_cons, ih (k + 1) _ (by simp; omega)]
    apply Array.ext_getElem?
    intro i
    simp only [List.getElem?_toArray, Array.toList_setIfInBounds, List.length_cons]
    by_cases h1 : i < k
    · rw [List.append_assoc, List.append_assoc, List.getElem?_append_left (by simp; omega), List.getElem?_append_left (by simp; omega), List.getElem?_take, List.getElem?_take, if_pos (by omega), if_pos h1, List.getElem?_set_ne (by omega)]
    · by_cases h2 : i = k
      · subst h2
        rw [List.append_assoc, List.append_assoc, List.getElem?_append_left (by simp; omega), List.getElem?_append_right (by simp; omega), List.getElem?_take, if_pos (by omega), List.getElem?_set_self (by simp; omega)]
        simp
        rw [Nat.min_eq_left (by omega)]
        simp
      · by_cases h3 : i < k + 1 + C.length
        · rw [List.append_assoc, List.append_assoc, List.getElem?_append_right (by simp; omega), List.getElem?_append_left (by simp; omega), List.getElem?_append_right (by simp; omega), List.getElem?_append_left (by simp; omega)]
          simp only [List.length_take, List.length_set, Array.length_toList]
          rw [Nat.min_eq_left (by omega), Nat.min_eq_left (by omega), show i - k = i - (k + 1) + 1 from by omega, List.getElem?_cons_succ]
        · rw [List.append_assoc, List.append_assoc, List.getElem?_append_right (by simp; omega), List.getElem?_append_right (by simp; omega), List.getElem?_append_right (by simp; omega), List.getElem?_append_right (by simp; omega)]
          simp only [List.length_take, List.length_set, Array.length_toList, List.length_cons, List.getElem?_drop]
          rw [Nat.min_eq_left (by omega), Nat.min_eq_left (by omega), List.getElem?_set_ne (by omega)]
          congr 1; omega

theorem fold_all (C Z : Array Value) (h : C.size = Z.size) : Array.foldl (fun cs x => cs.setIfInBounds x.snd x.fst) Z C.zipIdx 0 C.size = C := by
  have h1 : Array.foldl (fun cs x => cs.setIfInBounds x.snd x.fst) Z C.zipIdx 0 C.size = (C.toList.zipIdx 0).foldl (fun cs x => cs.setIfInBounds x.2 x.1) Z := by
    rw [show C.size = C.zipIdx.size by simp, ← Array.foldl_toList]
    simp
  rw [h1, fold_set _ _ _ (by simp; omega)]
  simp only [List.take_zero, List.nil_append, Nat.zero_add, Array.length_toList]
  rw [List.drop_of_length_le (by simp [h]), List.append_nil]

def LoadP (f : Nat → Nat) (w : World) (e : Ending) (w' : World) : Prop :=
  (¬ SoundP f ∧ NoLoad w e w') ∨ (SoundP f ∧ e = .returned (.tuple #[.pointer (some ⟨w.heap.size, 0, none⟩), .int .i64 0]) ∧ Byt w' w.heap.size 75 512 f ∧ Fresh w w')

set_option maxRecDepth 100000 in
set_option maxHeartbeats 2000000 in
theorem load_full (ab ao c : Nat) (f : Nat → Nat) (w : World) (h : Bytes w (some ⟨ab, ao, none⟩) 512 f) : Calls Try.prog 23 #[.slice (some ⟨ab, ao, none⟩) 512 c] w (LoadP f w) := by
  have hr : w.rangeAt ab ao (cellsOf 512 f) := by
    intro j v hj
    have hjn : j < 512 := by
      have := (List.getElem?_eq_some_iff.1 hj).1
      rwa [cellsOf_len] at this
    rw [cellsOf_get _ _ _ hjn] at hj
    rcases h.cells with h0 | ⟨b, o, e, hlt, hc⟩
    · omega
    · cases e
      rw [hc j hjn, hj]
  have hz : (Try.prog.info? 73).map (·.size) = some (cellsOf 512 f).length := by rw [cellsOf_len]; exact info73
  have hB := byt_alloc w 512 75 f h.byte
  have hF := (Kept.refl (fun _ => False) w).alloc (.cells (cellsOf 512 f).toArray 75)
  have H := Lib.hid (And.intro hr (And.intro hz (And.intro hB hF)))
  clear hr hz hB hF h
  have harr := run_arr ab ao c
  go_enter Try.func23, Try.ntmps23
  go_upto_region 3 with fail
  iterate 6 (first | (refine wpList_arr_run rfl 73 (.tmp 8) rfl _ _ rfl (harr _) ?_) | (refine wpList_load_mid rfl 73 (.tmp 9) rfl ab ao rfl (cellsOf 512 f) _ H.out.1 aund rfl H.out.2.1 ?_) | go_step)
  obtain ⟨C, hC⟩ : ∃ C, C = (cellsOf 512 f).toArray := ⟨_, rfl⟩
  rw [← hC]
  have HC := Lib.hid hC
  clear hC harr
  go_wp2_with fail
  · have h1 : C.size = 512 := by rw [HC.out, List.size_toArray, cellsOf_len]
    exact absurd (by assumption : (decide ¬C.size = 512) = true ∨ 512 < C.size) (by simp [h1])
  · have hCs : C.size = Try.zeroCells75.size := by rw [HC.out, List.size_toArray, cellsOf_len, zero_cells]; exact (Array.size_replicate ..).symm
    rw [fold_all C _ hCs, HC.out]
    refine (sound_any _ f _ H.out.2.2.1).mono ?_
    rintro e w2 ⟨v, rfl, hv, hF2⟩
    have H2 := Lib.hid (And.intro hv (And.intro (H.out.2.2.2.trans hF2) (H.out.2.2.1.kept hF2 (by simp))))
    clear hv hF2 hCs HC
    cases v
    · go_wp2_with fail
      go_ret2
      exact .inl ⟨(fun h => by have := H2.out.1.2 h; simp at this), rfl, H2.out.2.1⟩
    · go_wp2_with fail
      go_ret2
      exact .inr ⟨H2.out.1.1 (by simp), rfl, H2.out.2.2, H2.out.2.1⟩
end Go.Proofs.Ytffbfgmhfnbmfaa
