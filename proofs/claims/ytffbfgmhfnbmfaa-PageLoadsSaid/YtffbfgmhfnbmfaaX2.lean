/- The walks of the reference's small functions. -/
import Derived.Test.YtffbfgmhfnbmfaaX1
import Derived.Lib.Strings
namespace Go.Proofs.Ytffbfgmhfnbmfaa
open Go.RowKit

set_option maxHeartbeats 1000000 in
theorem far_ref (p s : Int) (w : World) : Calls Try.prog 18 #[.agg #[.int .i64 p, .int .i64 s]] w (FarPost p s w) := by
  by_cases h1 : p = -1
  · subst h1
    by_cases h2 : s = -1
    · subst h2
      go_enter Try.func18, Try.ntmps18
      go_wp2
      go_ret
      exact .mk rfl
    · have h2' : (s == -1) = false := by simpa using h2
      go_enter Try.func18, Try.ntmps18
      go_wp2
      go_ret
      exact .mk (by rw [farB_left]; rw [bne_iff_ne]; omega)
  · have h1' : (p == -1) = false := by simpa using h1
    have hm := Lib.hid (farB_mid p s h1)
    by_cases h3 : p < 0
    · go_enter Try.func18, Try.ntmps18
      go_wp2
      go_ret
      exact .mk (by rw [hm.out]; simp; omega)
    · have h3' : 0 ≤ p := by omega
      by_cases h4 : 65536 ≤ p
      · have h4a : 65535 < p := by omega
        go_enter Try.func18, Try.ntmps18
        go_wp2
        go_ret
        exact .mk (by rw [hm.out]; simp; omega)
      · have h4' : p ≤ 65535 := by omega
        by_cases h5 : s < 0
        · go_enter Try.func18, Try.ntmps18
          go_wp2
          go_ret
          exact .mk (by rw [hm.out]; simp; omega)
        · have h5' : 0 ≤ s := by omega
          have h4b : ¬ 65535 < p := by omega
          go_enter Try.func18, Try.ntmps18
          go_wp2
          go_ret
          exact .mk (by rw [hm.out]; exact decide_eq_decide.2 (by omega))

set_option maxRecDepth 100000 in
set_option maxHeartbeats 1000000 in
theorem right_ref (r x y : Nat) (p s : Int) (a : Option Addr) (n c : Nat) (w : World) : Calls Try.prog 16 #[tupV r x y p s (.slice a n c)] w (RightPost r x y p s n w) := by
  have hA := (Kept.refl (fun _ => False) w).alloc (Obj.cells #[.int .u64 r, .int .u64 x, .int .u64 y, .int .i64 p, .int .i64 s, .slice a n c] 29)
  by_cases h1 : (r : Int) ≤ 1099511627776
  · have h1' := decide_eq_true h1
    by_cases h2 : (x : Int) ≤ 1099511627776
    · have h2' := decide_eq_true h2
      by_cases h3 : (y : Int) ≤ 1099511627776
      · have h3' := decide_eq_true h3
        have Hm : Hid (decide (max (r : Int) (max x y) ≤ 1099511627776) = true) := Lib.hid (decide_eq_true (by omega))
        cases hfar : farB p s
        · have Hf := Lib.hid hfar
          clear hfar
          go_enter Try.func16, Try.ntmps16
          go_wp2_with fail
          refine (far_ref p s _).mono ?_
          rintro e w1 ⟨rfl, hs1, hF⟩
          rw [Hf.out]
          have hc : w1.cell? ⟨w.heap.size, 4 + 1, none⟩ = some (.slice a n c) := by rw [hF.cell (by simp) (by simp)]; simp
          go_wp2_with fail
          go_ret
          exact .mk (by unfold rightB; rw [Hm.out, Hf.out]; simp) (hA.trans hF)
        · have Hf := Lib.hid hfar
          clear hfar
          go_enter Try.func16, Try.ntmps16
          go_wp2_with fail
          refine (far_ref p s _).mono ?_
          rintro e w1 ⟨rfl, hs1, hF⟩
          rw [Hf.out]
          go_wp2_with fail
          go_ret
          exact .mk (by unfold rightB; rw [Hm.out, Hf.out]; rfl) (hA.trans hF)
      · have h3' := decide_eq_false h3
        have Hm : Hid (decide (max (r : Int) (max x y) ≤ 1099511627776) = false) := Lib.hid (decide_eq_false (by omega))
        go_enter Try.func16, Try.ntmps16
        go_wp2_with fail
        go_ret
        exact .mk (by unfold rightB; rw [Hm.out]; rfl) hA
    · have h2' := decide_eq_false h2
      have Hm : Hid (decide (max (r : Int) (max x y) ≤ 1099511627776) = false) := Lib.hid (decide_eq_false (by omega))
      go_enter Try.func16, Try.ntmps16
      go_wp2_with fail
      go_ret
      exact .mk (by unfold rightB; rw [Hm.out]; rfl) hA
  · have h1' := decide_eq_false h1
    have Hm : Hid (decide (max (r : Int) (max x y) ≤ 1099511627776) = false) := Lib.hid (decide_eq_false (by omega))
    go_enter Try.func16, Try.ntmps16
    go_wp2_with fail
    go_ret
    exact .mk (by unfold rightB; rw [Hm.out]; rfl) hA

/-- The string of n bytes. -/
def strOf (n : Nat) (d : Nat → Nat) : ByteArray := ((List.range n).map fun j => (d j : Int)).foldl (fun r n => r.push (UInt8.ofNat n.toNat)) ByteArray.empty

theorem foldl_push (l : List Int) : ∀ s : ByteArray, (l.foldl (fun r n => r.push (UInt8.ofNat n.toNat)) s).data = s.data ++ (l.map fun n => UInt8.ofNat n.toNat).toArray := by
  induction l with
  | nil => intro s; simp
  | cons x l ih =>
    intro s
    rw [List.foldl_cons, ih]
    apply Array.ext'
    simp [ByteArray.push]

theorem strOf_data (n : Nat) (d : Nat → Nat) : (strOf n d).data = ((List.range n).map fun j => UInt8.ofNat (d j)).toArray := by
  unfold strOf
  rw [foldl_push, show ByteArray.empty.data = #[] from rfl, Array.empty_append, List.map_map]
  rfl

/-- Are the bytes alike? -/
def sameB (n : Nat) (d : Nat → Nat) (n' : Nat) (d' : Nat → Nat) : Bool := decide (n = n' ∧ ∀ j, j < n → d j = d' j)


theorem und5 : Try.prog.underlying 5 = some (.int .u8) := by kernel_rfl
theorem und9 : Try.prog.underlying 9 = some .string := by kernel_rfl

theorem run_str (w : World) (a : Option Addr) (n c : Nat) (d : Nat → Nat) (h : Bytes w a n d) (ha : a = none → n = 0) : (convert 22 9 (.slice a n c)).run Try.prog w = .ok (.string (strOf n d)) w := by
  rw [run_convert_bytes_string w 22 9 5 a n c und22 und5 und9]
  cases a with
  | none =>
    obtain rfl := ha rfl
    rfl
  | some x =>
    refine run_bytesToString w x n c ((List.range n).map fun j => (d j : Int)) ?_
    rcases h.cells with h0 | ⟨b, o, hx, hlt, hc⟩
    · subst h0
      exact run_loadCells_list w x [] (fun j v hj => by simp at hj)
    · cases hx
      have := run_loadCells_list (P := Try.prog) w ⟨b, o, .none⟩ (cellsOf n d) (fun j u hj => by
        have hjn : j < n := by
          have := (List.getElem?_eq_some_iff.1 hj).1
          rwa [cellsOf_len] at this
        rw [cellsOf_get n d j hjn] at hj
        rw [Addr.add_lit, hc j hjn, hj])
      rw [cellsOf_len] at this
      rw [this]
      congr 1
      apply Array.ext'
      simp [cellsOf]

theorem str_eq (n : Nat) (d : Nat → Nat) (n' : Nat) (d' : Nat → Nat) (h : ∀ j, d j < 256) (h' : ∀ j, d' j < 256) : ((strOf n d).toList == (strOf n' d').toList) = sameB n d n' d' := by
  rw [Lib.toList_data, Lib.toList_data, strOf_data, strOf_data]
  unfold sameB
  rw [Bool.eq_iff_iff, beq_iff_eq, decide_eq_true_iff]
  constructor
  · intro e
    have hl : n = n' := by simpa using congrArg List.length e
    refine ⟨hl, fun j hj => ?_⟩
    have := congrArg (fun l => l[j]?) e
    simp only [List.getElem?_map, List.getElem?_range hj, List.getElem?_range (show j < n' by omega), Option.map_some, Option.some.injEq] at this
    have h2 := congrArg UInt8.toNat this
    simp only [UInt8.toNat_ofNat'] at h2
    rw [Nat.mod_eq_of_lt (h j), Nat.mod_eq_of_lt (h' j)] at h2
    exact h2
  · rintro ⟨rfl, e⟩
    show (List.range n).map _ = (List.range n).map _
    refine List.map_congr_left fun j hj => ?_
    rw [e j (List.mem_range.1 hj)]

def SamePost (n : Nat) (d : Nat → Nat) (n' : Nat) (d' : Nat → Nat) (w : World) (e : Ending) (w' : World) : Prop := e = .returned (.bool (sameB n d n' d')) ∧ w = w'

set_option maxHeartbeats 1000000 in
theorem same_any (a : Option Addr) (n c : Nat) (d : Nat → Nat) (a' : Option Addr) (n' c' : Nat) (d' : Nat → Nat) (w : World) (h : Bytes w a n d) (ha : a = none → n = 0) (h' : Bytes w a' n' d') (ha' : a' = none → n' = 0) :
    Calls Try.prog 25 #[.slice a n c, .slice a' n' c'] w (SamePost n d n' d' w) := by
  have r1 := run_str w a n c d h ha
  have r2 := run_str w a' n' c' d' h' ha'
  have hs := str_eq n d n' d' h.byte h'.byte
  clear h h' ha ha'
  go_enter Try.func25, Try.ntmps25
  go_wp2_with fail
  go_ret
  exact ⟨rfl, rfl⟩

/-- New bytes. -/
def NewBytes (m : Nat) (d : Nat → Nat) (w : World) (e : Ending) (w' : World) : Prop :=
  ∃ a c, e = .returned (.slice (some a) m c) ∧ m ≤ c ∧ Bytes w' (some a) m d ∧ (w.heap.size ≤ a.block ∧ a.block < w'.heap.size) ∧ a.spot = none ∧ Fresh w w'

set_option maxRecDepth 100000 in
set_option maxHeartbeats 1000000 in
theorem cut_any (a : Option Addr) (n c k : Nat) (d : Nat → Nat) (w : World) (h : Bytes w a n d) (hnc : n ≤ c) (hk : k ≤ 1000) (m : Nat) (hm : m = min n k) :
    Calls Try.prog 21 #[.slice a n c, .int .i64 k] w (NewBytes m d w) := by
  have hmn := fun w => (Lib.run_min_ints (P := Try.prog) w #[3, 3] 3 .i64 .i64 (n : Int) (k : Int)).trans (by rw [show min (n : Int) (k : Int) = (m : Int) from by omega])
  have hmle : (m : Int) ≤ (c : Int) := by omega
  have hsrc : Bytes w a m d := by
    refine ⟨h.byte, ?_⟩
    rcases h.cells with h0 | ⟨b, o, ha, hlt, hc⟩
    · exact .inl (by omega)
    · exact .inr ⟨b, o, ha, hlt, fun j hj => hc j (by omega)⟩
  have hA := (Kept.refl (fun _ => False) w).alloc (Obj.cells #[] 5)
  have hd' := hsrc.kept hA (by simp)
  have hs0 : (w.alloc (.cells #[] 5)).heap.size = w.heap.size + 1 := by simp
  by_cases h0 : m = 0
  · have hE : Byt (w.alloc (.cells #[] 5)) w.heap.size 5 0 fun _ => 0 := ⟨World.rowIs_alloc w #[] 5 _ (fun i hi => by simp at hi), fun _ => by omega⟩
    obtain ⟨w2, hrun, hb2, hz2, hk2⟩ := append_room (P := Try.prog) 22 22 22 5 und22 und22 info5 (off := 0) (n := 0) (c := 0) (k := c) hE hd' (by omega) (by omega)
    have Hrun := Lib.hid hrun
    have Hk := Lib.hid (And.intro hk2 (And.intro hA (And.intro h0 (show w.heap.size < w2.heap.size by rw [hz2, hs0]; omega))))
    have hbt := h.byte
    clear hrun hk2 hz2 hA hs0 hd' hE hb2 hm hsrc h0 hnc
    go_enter Try.func21, Try.ntmps21
    go_wp2_with (at_builtin; refine wpList_append_run _ _ rfl rfl Hrun.out ?_)
    go_ret
    obtain ⟨hk2, hA, h0, hlt⟩ := Hk.out
    subst h0
    exact ⟨_, _, rfl, Nat.le_refl _, ⟨hbt, .inl rfl⟩, ⟨Nat.le_refl _, hlt⟩, rfl, hA.then hk2 fun i hi e => by omega⟩
  · obtain ⟨cap, w2, hrun, hcap, hb2, hz2, hk2⟩ := append_grow (P := Try.prog) 22 22 22 5 und22 und22 info5 (w := w.alloc (.cells #[] 5)) (base := some ⟨w.heap.size, 0, .none⟩) (n := 0) (c := 0) (k := c) (f := fun _ => 0) ⟨fun _ => by omega, .inl rfl⟩ hd' (by omega) (by omega)
    rw [hs0] at hb2
    have Hrun := Lib.hid hrun
    have Hk := Lib.hid (And.intro hk2 (And.intro hA (And.intro hb2 (And.intro hcap (show w.heap.size + 1 < w2.heap.size by rw [hz2, hs0]; omega)))))
    have hbt := h.byte
    clear hrun hk2 hz2 hA hs0 hd' hb2 hcap hm hsrc h0 hnc
    go_enter Try.func21, Try.ntmps21
    go_wp2_with (at_builtin; refine wpList_append_run _ _ rfl rfl Hrun.out ?_)
    go_ret
    obtain ⟨hk2, hA, hb2, hcap, hlt⟩ := Hk.out
    exact ⟨⟨w.heap.size + 1, 0, .none⟩, cap, rfl, by omega, ((hb2.bytes 0 m (by omega)).congr (fun j hj => by unfold joined; rw [if_neg (by omega), if_pos (by omega)]; simp) hbt), ⟨Nat.le_succ _, hlt⟩, rfl, hA.trans hk2⟩
end Go.Proofs.Ytffbfgmhfnbmfaa
