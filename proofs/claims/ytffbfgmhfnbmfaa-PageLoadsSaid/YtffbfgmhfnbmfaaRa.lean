/- The reference's page in memory. -/
import Derived.Test.YtffbfgmhfnbmfaaBa
import Derived.Test.YtffbfgmhfnbmfaaX3
import Derived.Test.YtffbfgmhfnbmfaaPv
namespace Go.Proofs.Ytffbfgmhfnbmfaa
open Go.RowKit

theorem und68 : Try.prog.underlying 68 = some (.slice 84) := by kernel_rfl

def zslot : Array Value := #[.bool false, .int .u64 0, .int .u64 0, .int .u64 0, .int .i64 0, .int .i64 0, .slice none 0 0, .int .i64 0]

theorem info84 : (Try.prog.info? 84).map (fun i => (i.zero, i.size, i.bytes)) = some (some (.agg zslot), 8, 80) := by kernel_rfl

/-- A slot's cells; dv: its data's slice. -/
def slotC (s : Slot) (dv : Value) : Array Value := match s with
  | none => zslot
  | some (f, v) => #[.bool true, .int .u64 v.row, .int .u64 v.x, .int .u64 v.y, .int .i64 ((v.P : Int) - 1), .int .i64 ((v.S : Int) - 1), dv, .int .i64 f]

theorem slotC_size (s : Slot) (dv : Value) : (slotC s dv).size = 8 := by cases s <;> rfl

def slotV (s : Slot) (dv : Value) (j : Nat) : Value := (slotC s dv).getD j default

theorem slotV_one {s : Slot} {dv : Value} (h : dv.oneCell' = true) (j : Nat) (hj : j < 8) : (slotV s dv j).oneCell' = true := by
  cases s with
  | none => match j, hj with
    | 0, _ | 1, _ | 2, _ | 3, _ | 4, _ | 5, _ | 6, _ | 7, _ => rfl
  | some p => match j, hj with
    | 0, _ | 1, _ | 2, _ | 3, _ | 4, _ | 5, _ | 7, _ => rfl
    | 6, _ => exact h

/-- Where the data of each slot lie. -/
def DataAt (P : Nat → Prop) (w : World) (R : Nat) (v : Value) (l : List Slot) (dv : Nat → Value) : Prop :=
  ∀ k f ver, l[k]? = some (some (f, ver)) → ∃ a c, dv k = .slice (some a) ver.data.length c ∧ ver.data.length ≤ c ∧ Bytes w (some a) ver.data.length (fun j => ver.data.getD j 0) ∧
    a.spot = none ∧ a.block < w.heap.size ∧ P a.block ∧ a.block ≠ R ∧ some a.block ≠ v.ownBlock

/-- The slots' row. -/
def RowAt (P : Nat → Prop) (w : World) (R : Nat) (v : Value) (l : List Slot) (dv : Nat → Value) : Prop :=
  (v = .slice none 0 0 ∧ l = []) ∨ ∃ B cap g, v = .slice (some ⟨B, 0, none⟩) l.length cap ∧ l.length ≤ cap ∧ B ≠ R ∧ P B ∧ w.rowIs B 84 (cap * 8) g ∧
    ∀ k j, k < l.length → j < 8 → g (k * 8 + j) = slotV (l.getD k none) (dv k) j

structure RefIs (P : Nat → Prop) (w : World) (R : Nat) (v : Value) (st : St) : Prop where
  box : w.heap[R]? = some (.cells #[v, .int .i64 st.start] 70)
  pR : P R
  dat : ∃ dv, RowAt P w R v st.slots dv ∧ DataAt P w R v st.slots dv

theorem RefIs.lt {P : Nat → Prop} {w : World} {R : Nat} {v : Value} {st : St} (h : RefIs P w R v st) : R < w.heap.size := (Array.getElem?_eq_some_iff.1 h.box).1

theorem RowAt.own {P : Nat → Prop} {w : World} {R : Nat} {v : Value} {l : List Slot} {dv : Nat → Value} (h : RowAt P w R v l dv) {b : Nat} (hb : v.ownBlock = some b) : b < w.heap.size ∧ P b ∧ b ≠ R := by
  rcases h with ⟨rfl, _⟩ | ⟨B, cap, g, rfl, _, h2, h3, h4, _⟩
  · cases hb
  · cases hb; exact ⟨h4.lt, h3, h2⟩

theorem RefIs.kept {P S : Nat → Prop} {w w' : World} {R : Nat} {v : Value} {st : St} (h : RefIs P w R v st) (k : Kept S w w') (hs : ∀ b, P b → b < w.heap.size → ¬ S b) : RefIs P w' R v st := by
  obtain ⟨hb, hp, dv, hr, hd⟩ := h
  have hR := (Array.getElem?_eq_some_iff.1 hb).1
  refine ⟨(k.block R hR (hs R hp hR)).trans hb, hp, dv, ?_, fun i f ver hi => ?_⟩
  · rcases hr with h0 | ⟨B, cap, g, h1, h2, h3, h4, h5, h6⟩
    · exact .inl h0
    · exact .inr ⟨B, cap, g, h1, h2, h3, h4, k.row h5 (hs B h4 h5.lt), h6⟩
  · obtain ⟨a, c, h1, h2, h3, h4, h5, h6, h7, h8⟩ := hd i f ver hi
    exact ⟨a, c, h1, h2, h3.kept k (fun z hz => by cases hz; exact hs _ h6 h5), h4, Nat.lt_of_lt_of_le h5 k.size, h6, h7, h8⟩

theorem RefIs.fresh {P : Nat → Prop} {w w' : World} {R : Nat} {v : Value} {st : St} (h : RefIs P w R v st) (k : Fresh w w') : RefIs P w' R v st := h.kept k fun _ _ _ hf => hf.elim

theorem RefIs.drew {P : Nat → Prop} {w : World} {R : Nat} {v : Value} {st : St} (h : RefIs P w R v st) : RefIs P w.drew R v st := h.fresh (Kept.refl _ w).drew

/-- The cells of a slot. -/
theorem slot_cells {w : World} {B cap : Nat} {l : List Slot} {dv : Nat → Value} {g : Nat → Value} (hr : w.rowIs B 84 (cap * 8) g) (hc : l.length ≤ cap)
    (hg : ∀ k j, k < l.length → j < 8 → g (k * 8 + j) = slotV (l.getD k none) (dv k) j) {k : Nat} (hk : k < l.length) (j : Nat) (hj : j < 8) : w.cell? ⟨B, k * 8 + j, none⟩ = some (slotV (l.getD k none) (dv k) j) := by
  rw [hr.cell (by omega), hg k j hk hj]


set_option maxRecDepth 100000 in
set_option maxHeartbeats 1000000 in
theorem copy_any (a : Option Addr) (m c : Nat) (d : Nat → Nat) (w : World) (hsrc : Bytes w a m d) (hm : m ≤ 100000) :
    Calls Try.prog 22 #[.slice a m c] w (NewBytes m d w) := by
  have hA := (Kept.refl (fun _ => False) w).alloc (Obj.cells #[] 5)
  have hd' := hsrc.kept hA (by simp)
  have hs0 : (w.alloc (.cells #[] 5)).heap.size = w.heap.size + 1 := by simp
  by_cases h0 : m = 0
  · have hE : Byt (w.alloc (.cells #[] 5)) w.heap.size 5 0 fun _ => 0 := ⟨World.rowIs_alloc w #[] 5 _ (fun i hi => by simp at hi), fun _ => by omega⟩
    obtain ⟨w2, hrun, hb2, hz2, hk2⟩ := append_room (P := Try.prog) 22 22 22 5 und22 und22 info5 (off := 0) (n := 0) (c := 0) (k := c) hE hd' (by omega) (by omega)
    have Hrun := Lib.hid hrun
    have Hk := Lib.hid (And.intro hk2 (And.intro hA (And.intro h0 (show w.heap.size < w2.heap.size by rw [hz2, hs0]; omega))))
    have hbt := hsrc.byte
    clear hrun hk2 hz2 hA hs0 hd' hE hb2 hm hsrc h0
    go_enter Try.func22, Try.ntmps22
    go_wp2_with (at_builtin; refine wpList_append_run _ _ rfl rfl Hrun.out ?_)
    go_ret
    obtain ⟨hk2, hA, h0, hlt⟩ := Hk.out
    subst h0
    exact ⟨_, _, rfl, Nat.le_refl _, ⟨hbt, .inl rfl⟩, ⟨Nat.le_refl _, hlt⟩, rfl, hA.then hk2 fun i hi e => by omega⟩
  · obtain ⟨cap, w2, hrun, hcap, hb2, hz2, hk2⟩ := append_grow (P := Try.prog) 22 22 22 5 und22 und22 info5 (w := w.alloc (.cells #[] 5)) (base := some ⟨w.heap.size, 0, .none⟩) (n := 0) (c := 0) (k := c) (f := fun _ => 0) ⟨fun _ => by omega, .inl rfl⟩ hd' (by omega) (by omega)
    rw [hs0] at hb2
    have Hrun := Lib.hid hrun
    have Hk := Lib.hid (And.intro hk2 (And.intro hA (And.intro hb2 (And.intro hcap (show w.heap.size + 1 < w2.heap.size by rw [hz2, hs0]; omega)))))
    have hbt := hsrc.byte
    clear hrun hk2 hz2 hA hs0 hd' hb2 hcap hm hsrc h0
    go_enter Try.func22, Try.ntmps22
    go_wp2_with (at_builtin; refine wpList_append_run _ _ rfl rfl Hrun.out ?_)
    go_ret
    obtain ⟨hk2, hA, hb2, hcap, hlt⟩ := Hk.out
    exact ⟨⟨w.heap.size + 1, 0, .none⟩, cap, rfl, by omega, ((hb2.bytes 0 m (by omega)).congr (fun j hj => by unfold joined; rw [if_neg (by omega), if_pos (by omega)]; simp) hbt), ⟨Nat.le_succ _, hlt⟩, rfl, hA.trans hk2⟩

theorem RowAt.form {P : Nat → Prop} {w : World} {R : Nat} {v : Value} {l : List Slot} {dv : Nat → Value} (h : RowAt P w R v l dv) : ∃ a c, v = .slice a l.length c := by
  rcases h with ⟨rfl, rfl⟩ | ⟨B, cap, g, rfl, _⟩
  · exact ⟨none, 0, rfl⟩
  · exact ⟨_, _, rfl⟩

theorem RowAt.at {P : Nat → Prop} {w : World} {R : Nat} {a : Option Addr} {n c : Nat} {l : List Slot} {dv : Nat → Value} (h : RowAt P w R (.slice a n c) l dv) {k : Nat} (hk : k < l.length) :
    ∃ B, a = some ⟨B, 0, none⟩ ∧ l.length ≤ c ∧ B ≠ R ∧ P B ∧ B < w.heap.size ∧ (∀ j, w.frozen? ⟨B, j, none⟩ = false) ∧ ∀ k, k < l.length → ∀ j, j < 8 → w.cell? ⟨B, k * 8 + j, none⟩ = some (slotV (l.getD k none) (dv k) j) := by
  rcases h with ⟨_, rfl⟩ | ⟨B, cap, g, e, h1, h2, h3, h4, h5⟩
  · simp at hk
  · simp only [Value.slice.injEq] at e
    obtain ⟨rfl, _, rfl⟩ := e
    exact ⟨B, rfl, h1, h2, h3, h4.lt, fun j => h4.frozen j, fun k hk j hj => slot_cells h4 h1 h5 hk j hj⟩

/-- The eight cells that a walk reads. -/
structure Cells8 (w : World) (B o : Nat) (s : Slot) (dv : Value) : Prop where
  c0 : w.cell? ⟨B, o, none⟩ = some (slotV s dv 0)
  c1 : w.cell? ⟨B, o + 1, none⟩ = some (slotV s dv 1)
  c2 : w.cell? ⟨B, o + 2, none⟩ = some (slotV s dv 2)
  c3 : w.cell? ⟨B, o + 3, none⟩ = some (slotV s dv 3)
  c4 : w.cell? ⟨B, o + 4, none⟩ = some (slotV s dv 4)
  c5 : w.cell? ⟨B, o + 5, none⟩ = some (slotV s dv 5)
  c6 : w.cell? ⟨B, o + 6, none⟩ = some (slotV s dv 6)
  c7 : w.cell? ⟨B, o + 7, none⟩ = some (slotV s dv 7)

theorem Cells8.of {w : World} {B k : Nat} {s : Slot} {dv : Value} (h : ∀ j, j < 8 → w.cell? ⟨B, k * 8 + j, none⟩ = some (slotV s dv j)) : Cells8 w B (k * 8) s dv :=
  ⟨h 0 (by omega), h 1 (by omega), h 2 (by omega), h 3 (by omega), h 4 (by omega), h 5 (by omega), h 6 (by omega), h 7 (by omega)⟩

/-- .. of a slot that is free. -/
structure Free8 (w : World) (B o : Nat) : Prop where
  c0 : w.cell? ⟨B, o, none⟩ = some (.bool false)
  c1 : w.cell? ⟨B, o + 1, none⟩ = some (.int .u64 0)
  c2 : w.cell? ⟨B, o + 2, none⟩ = some (.int .u64 0)
  c3 : w.cell? ⟨B, o + 3, none⟩ = some (.int .u64 0)
  c4 : w.cell? ⟨B, o + 4, none⟩ = some (.int .i64 0)
  c5 : w.cell? ⟨B, o + 5, none⟩ = some (.int .i64 0)
  c6 : w.cell? ⟨B, o + 6, none⟩ = some (.slice none 0 0)
  c7 : w.cell? ⟨B, o + 7, none⟩ = some (.int .i64 0)

/-- .. of one that has a version. -/
structure Has8 (w : World) (B o f : Nat) (v : Ver) (dv : Value) : Prop where
  c0 : w.cell? ⟨B, o, none⟩ = some (.bool true)
  c1 : w.cell? ⟨B, o + 1, none⟩ = some (.int .u64 v.row)
  c2 : w.cell? ⟨B, o + 2, none⟩ = some (.int .u64 v.x)
  c3 : w.cell? ⟨B, o + 3, none⟩ = some (.int .u64 v.y)
  c4 : w.cell? ⟨B, o + 4, none⟩ = some (.int .i64 ((v.P : Int) - 1))
  c5 : w.cell? ⟨B, o + 5, none⟩ = some (.int .i64 ((v.S : Int) - 1))
  c6 : w.cell? ⟨B, o + 6, none⟩ = some dv
  c7 : w.cell? ⟨B, o + 7, none⟩ = some (.int .i64 f)

theorem Cells8.free {w : World} {B o : Nat} {dv : Value} (h : Cells8 w B o none dv) : Free8 w B o := ⟨h.c0, h.c1, h.c2, h.c3, h.c4, h.c5, h.c6, h.c7⟩
theorem Cells8.has {w : World} {B o f : Nat} {v : Ver} {dv : Value} (h : Cells8 w B o (some (f, v)) dv) : Has8 w B o f v dv := ⟨h.c0, h.c1, h.c2, h.c3, h.c4, h.c5, h.c6, h.c7⟩

/-- A slot of a page that is there, as a walk reads it behind what has not touched it. -/
theorem RefIs.slot {P S : Nat → Prop} {w wr : World} {R : Nat} {a : Option Addr} {n c : Nat} {l : List Slot} {dv : Nat → Value} (hr : RowAt P w R (.slice a n c) l dv) (hd : DataAt P w R (.slice a n c) l dv) (hF : Kept S w wr)
    (hs : ∀ b, P b → b < w.heap.size → ¬ S b) {k : Nat} (hk : k < l.length) :
    ∃ B, a = some ⟨B, 0, none⟩ ∧ ((l.getD k none = none ∧ l[k]? = some none ∧ Free8 wr B (k * 8)) ∨
      ∃ f ver da dc, l.getD k none = some (f, ver) ∧ l[k]? = some (some (f, ver)) ∧ Has8 wr B (k * 8) f ver (.slice (some da) ver.data.length dc) ∧ ver.data.length ≤ dc ∧ Bytes wr (some da) ver.data.length (fun j => ver.data.getD j 0) ∧ da.block < w.heap.size ∧ P da.block) := by
  obtain ⟨B, rfl, h1, h2, h3, h4, h5, h6⟩ := hr.at hk
  have X := Cells8.of fun j hj => (hF.cell (p := ⟨B, k * 8 + j, none⟩) h4 (hs B h3 h4)).trans (h6 k hk j hj)
  refine ⟨B, rfl, ?_⟩
  have hg : l[k]? = some (l.getD k none) := by rw [List.getD_eq_getElem?_getD, List.getElem?_eq_getElem hk]; rfl
  cases hl : l.getD k none with
  | none => rw [hl] at X hg; exact .inl ⟨rfl, hg, X.free⟩
  | some p =>
    obtain ⟨f, ver⟩ := p
    rw [hl] at X hg
    obtain ⟨da, dc, e, g1, g2, g3, g4, g5, _, _⟩ := hd k f ver hg
    rw [e] at X
    exact .inr ⟨f, ver, da, dc, rfl, hg, X.has, g1, g2.kept hF (fun z hz => by cases hz; exact hs _ g5 g4), g4, g5⟩

theorem usedA_take {l : List Slot} {k : Nat} (hk : k < l.length) : usedA (l.take (k + 1)) = usedA (l.take k) + if (l.getD k none).isSome then 1 else 0 := by
  unfold usedA
  rw [List.take_add_one, List.countP_append, List.getD_eq_getElem?_getD, List.getElem?_eq_getElem hk]
  simp [List.countP_cons]

theorem usedA_le (l : List Slot) : usedA l ≤ l.length := List.countP_le_length

set_option maxRecDepth 100000 in
set_option maxHeartbeats 1000000 in
theorem rused_any (P : Nat → Prop) (R : Nat) (v : Value) (st : St) (w : World) (hw : RefIs P w R v st) (hn : st.slots.length ≤ 200) : Calls Try.prog 27 #[.pointer (some ⟨R, 0, none⟩)] w (Gives (.int .i64 (usedA st.slots)) w) := by
  obtain ⟨hb, hp, dv, hr, hd⟩ := hw
  obtain ⟨a, c, rfl⟩ := hr.form
  have b0 : w.cell? ⟨R, 0, none⟩ = some (.slice a st.slots.length c) := boxCell hb 0
  go_enter Try.func27, Try.ntmps27
  go_wp2_with fail
  go_loopg [3, 13] st.slots.length (fun g s3 s13 wr => ∃ k : Nat, k + g = st.slots.length ∧ s3 = .int .i64 (usedA (st.slots.take k)) ∧ s13 = .int .i64 k ∧ Fresh w wr)
  case atStart => exact ⟨0, by omega, rfl, rfl, Kept.refl _ w⟩
  case round =>
    obtain ⟨k, hk, rfl, rfl, hF⟩ := hrel
    have hu : usedA (st.slots.take k) ≤ 200 := Nat.le_trans (usedA_le _) (by rw [List.length_take]; omega)
    have hk200 : k ≤ 200 := by omega
    by_cases hlt : k < st.slots.length
    · have ht := usedA_take hlt
      obtain ⟨B, rfl, h⟩ := RefIs.slot hr hd hF (by simp) hlt
      rcases h with ⟨e, _, ⟨c0, c1, c2, c3, c4, c5, c6, c7⟩⟩ | ⟨f, ver, da, dc, e, _, ⟨c0, c1, c2, c3, c4, c5, c6, c7⟩, _, _, _, _⟩
      · rw [e] at ht
        have HT := Lib.hid ht
        clear ht e
        go_wp2_with fail
        go_roundg (gk - 1)
        case measure => omega
        case rel => exact ⟨k + 1, by omega, by rw [HT.out]; rfl, by go_num, hF.alloc _⟩
      · rw [e] at ht
        have HT := Lib.hid ht
        clear ht e
        go_wp2_with fail
        go_roundg (gk - 1)
        case measure => omega
        case rel => exact ⟨k + 1, by omega, by rw [HT.out]; go_num, by go_num, hF.alloc _⟩
    · obtain rfl : k = st.slots.length := by omega
      rw [List.take_length]
      go_wp2_with fail
      go_ret
      exact ⟨rfl, hF⟩
end Go.Proofs.Ytffbfgmhfnbmfaa
