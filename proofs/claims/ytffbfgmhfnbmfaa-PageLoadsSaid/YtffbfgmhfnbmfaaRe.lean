/- The reference's Free. -/
import Derived.Test.YtffbfgmhfnbmfaaRd
import Derived.Deep.DeepCutAuto
import Derived.BigRegion
namespace Go.Proofs.Ytffbfgmhfnbmfaa
open Go.RowKit

def RChanged (P : Nat → Prop) (R : Nat) (v : Value) (st' : St) (r : Value) (w : World) (e : Ending) (w' : World) : Prop :=
  ∃ v', e = .returned r ∧ RefIs P w' R v' st' ∧ Kept (fun b => b = R ∨ some b = v.ownBlock) w w'

/-- The row is told shorter. -/
theorem RefIs.shrink {P : Nat → Prop} {w : World} {R B n c m s : Nat} {l : List Slot} (h : RefIs P w R (.slice (some ⟨B, 0, none⟩) n c) ⟨l, s⟩) (hm : m ≤ l.length) :
    RefIs P (w.setCell ⟨R, 0, none⟩ (.slice (some ⟨B, 0, none⟩) m c)).drew R (.slice (some ⟨B, 0, none⟩) m c) ⟨l.take m, s⟩ := by
  obtain ⟨hb, hp, dv, hr, hd⟩ := h
  have hK := ((Kept.refl (fun b => b = R) w).setCell (p := ⟨R, 0, none⟩) (fun _ => rfl) (.slice (some ⟨B, 0, none⟩) m c)).drew
  have hb' := setBox hb 0 (.slice (some ⟨B, 0, none⟩) m c)
  have hl : (l.take m).length = m := by rw [List.length_take]; omega
  have hbx : (w.setCell ⟨R, 0, none⟩ (.slice (some ⟨B, 0, none⟩) m c)).drew.heap[R]? = some (.cells #[.slice (some ⟨B, 0, none⟩) m c, .int .i64 s] 70) := by
    have h3 : (w.setCell ⟨R, 0, none⟩ (.slice (some ⟨B, 0, none⟩) m c)).heap[R]? = some (.cells #[.slice (some ⟨B, 0, none⟩) m c, .int .i64 s] 70) := by simpa using hb'
    exact h3
  refine ⟨hbx, hp, dv, ?_, fun i f ver hi => ?_⟩
  · rcases hr with ⟨e, _⟩ | ⟨B', cap, g, e, h1, h2, h3, h4, h5⟩
    · cases e
    · simp only [Value.slice.injEq, Option.some.injEq, Addr.mk.injEq] at e
      obtain ⟨⟨rfl, _, _⟩, _, rfl⟩ := e
      refine .inr ⟨B, c, g, by rw [hl], by rw [hl]; exact Nat.le_trans hm h1, h2, h3, hK.row h4 h2, fun i j hi hj => ?_⟩
      have hi' : i < m := by rw [hl] at hi; exact hi
      rw [h5 i j (by show i < l.length; omega) hj]
      show slotV (l.getD i none) _ _ = slotV ((l.take m).getD i none) _ _
      rw [List.getD_eq_getElem?_getD, List.getD_eq_getElem?_getD, List.getElem?_take_of_lt hi']
  · have hi2 : l[i]? = some (some (f, ver)) := by
      have hi1 : (l.take m)[i]? = some (some (f, ver)) := hi
      rw [List.getElem?_take] at hi1
      split at hi1
      · exact hi1
      · cases hi1
    obtain ⟨a, c', h1, h2, h3, h4, h5, h6, h7, h8⟩ := hd i f ver hi2
    exact ⟨a, c', h1, h2, h3.kept hK (fun z hz => by cases hz; exact h7), h4, Nat.lt_of_lt_of_le h5 hK.size, h6, h7, h8⟩

set_option maxRecDepth 100000 in
set_option maxHeartbeats 1000000 in
theorem rfree_none (p : Option Addr) (k : Int) (w : World) (hg : Calls Try.prog 35 #[.pointer p, .int .i64 k] w (NoGet w)) :
    Calls Try.prog 52 #[.pointer p, .int .i64 k] w (Gives (.int .i64 15) w) := by
  have HG := Lib.hid hg
  clear hg
  go_enter Try.func52, Try.ntmps52
  go_wp2_with fail
  refine HG.out.mono ?_
  rintro e w2 ⟨rfl, hF3⟩
  go_wp2_with fail
  go_ret
  exact ⟨rfl, hF3.alloc _⟩

theorem trimN_pred_none {l : List Slot} {m : Nat} (h : l.getD m none = none) : trimN l (m + 1) = trimN l m := by
  rw [trimN, h]; rfl

theorem trimN_pred_some {l : List Slot} {m : Nat} {p : Nat × Ver} (h : l.getD m none = some p) : trimN l (m + 1) = m + 1 := by
  rw [trimN, h]; rfl

theorem getD_take {l : List Slot} {m i : Nat} (h : i < m) : (l.take m).getD i none = l.getD i none := by
  rw [List.getD_eq_getElem?_getD, List.getD_eq_getElem?_getD, List.getElem?_take_of_lt h]

def n8 (v0 v1 v2 v3 v4 v5 v6 v7 : Value) : Nat → Value
  | 0 => v0 | 1 => v1 | 2 => v2 | 3 => v3 | 4 => v4 | 5 => v5 | 6 => v6 | _ => v7

def store8 (w : World) (B o : Nat) (v0 v1 v2 v3 v4 v5 v6 v7 : Value) : World :=
  (((((((w.setCell ⟨B, o, none⟩ v0).setCell ⟨B, o + 1, none⟩ v1).setCell ⟨B, o + 2, none⟩ v2).setCell ⟨B, o + 3, none⟩ v3).setCell ⟨B, o + 4, none⟩ v4).setCell ⟨B, o + 5, none⟩ v5).setCell ⟨B, o + 6, none⟩ v6).setCell ⟨B, o + 7, none⟩ v7

theorem store8_kept (w : World) (B o : Nat) (v0 v1 v2 v3 v4 v5 v6 v7 : Value) : Kept (· = B) w (store8 w B o v0 v1 v2 v3 v4 v5 v6 v7) :=
  ((((((((Kept.refl (fun k => k = B) w).setCell (p := ⟨B, o, none⟩) (fun _ => rfl) v0).setCell (p := ⟨B, o + 1, none⟩) (fun _ => rfl) v1).setCell (p := ⟨B, o + 2, none⟩) (fun _ => rfl) v2).setCell (p := ⟨B, o + 3, none⟩) (fun _ => rfl) v3).setCell (p := ⟨B, o + 4, none⟩) (fun _ => rfl) v4).setCell (p := ⟨B, o + 5, none⟩) (fun _ => rfl) v5).setCell (p := ⟨B, o + 6, none⟩) (fun _ => rfl) v6).setCell (p := ⟨B, o + 7, none⟩) (fun _ => rfl) v7

theorem store8_row {w : World} {B t N : Nat} {g : Nat → Value} (h : w.rowIs B t N g) (o : Nat) (v0 v1 v2 v3 v4 v5 v6 v7 : Value) :
    (store8 w B o v0 v1 v2 v3 v4 v5 v6 v7).rowIs B t N (fun i => if o ≤ i ∧ i < o + 8 then n8 v0 v1 v2 v3 v4 v5 v6 v7 (i - o) else g i) := by
  refine ((((((((h.set o v0).set (o + 1) v1).set (o + 2) v2).set (o + 3) v3).set (o + 4) v4).set (o + 5) v5).set (o + 6) v6).set (o + 7) v7).congr fun i _ => ?_
  by_cases hi : o ≤ i ∧ i < o + 8
  · rw [if_pos hi]
    obtain ⟨j, rfl⟩ : ∃ j, i = o + j := ⟨i - o, by omega⟩
    rw [Nat.add_sub_cancel_left]
    match j, (show j < 8 by omega) with
    | 0, _ => simp [n8]
    | 1, _ => simp [n8]
    | 2, _ => simp [n8]
    | 3, _ => simp [n8]
    | 4, _ => simp [n8]
    | 5, _ => simp [n8]
    | 6, _ => simp [n8]
    | 7, _ => simp [n8]
  · rw [if_neg hi, if_neg (by omega), if_neg (by omega), if_neg (by omega), if_neg (by omega), if_neg (by omega), if_neg (by omega), if_neg (by omega), if_neg (by omega)]

set_option maxRecDepth 100000 in
set_option maxHeartbeats 2000000 in
theorem rfree_ok (P : Nat → Prop) (R : Nat) (v : Value) (st : St) (w : World) (k f : Nat) (ver : Ver) (hw : RefIs P w R v st) (hk : st.slots[k]? = some (some (f, ver))) (hn : st.slots.length ≤ 200) :
    Calls Try.prog 52 #[.pointer (some ⟨R, 0, none⟩), .int .i64 k] w (RChanged P R v (freeA st k) (.int .i64 0) w) := by
  have HA := Lib.hid (And.intro hw (And.intro hk hn))
  have hg := Lib.hid (rget_has P R v st w k f ver hw hk)
  clear hw hk hn
  go_enter Try.func52, Try.ntmps52
  go_wp2_with fail
  refine hg.out.mono ?_
  rintro e w2 ⟨da, dc, ⟨rfl, hF3⟩, _⟩
  have HF := Lib.hid hF3
  clear hg hF3
  go_upto_region 4 with fail
  obtain ⟨hw, hk, hn⟩ := HA.out
  have hA3 := HF.out.alloc (.cells #[.int .u64 ver.row, .int .u64 ver.x, .int .u64 ver.y, .int .i64 ((ver.P : Int) - 1), .int .i64 ((ver.S : Int) - 1), .slice (some da) ver.data.length dc] 29)
  generalize w2.alloc (.cells #[.int .u64 ver.row, .int .u64 ver.x, .int .u64 ver.y, .int .i64 ((ver.P : Int) - 1), .int .i64 ((ver.S : Int) - 1), .slice (some da) ver.data.length dc] 29) = w3 at hA3 ⊢
  have hkl : k < st.slots.length := (List.getElem?_eq_some_iff.1 hk).1
  have hRlt := hw.lt
  obtain ⟨hb, hp, dv, hr, hd⟩ := hw.fresh hA3
  rcases hr with ⟨_, e0⟩ | ⟨B, c, g, rfl, h1, h2, h3, h4, h5⟩
  · rw [e0] at hkl; cases hkl
  have b0 := boxCell hb 0
  obtain ⟨c0, c1, c2, c3, c4, c5, c6, c7⟩ := Cells8.of fun j hj => slot_cells h4 h1 h5 hkl j hj
  have z0 := h4.frozen (k * 8)
  have z1 := h4.frozen (k * 8 + 1)
  have z2 := h4.frozen (k * 8 + 2)
  have z3 := h4.frozen (k * 8 + 3)
  have z4 := h4.frozen (k * 8 + 4)
  have z5 := h4.frozen (k * 8 + 5)
  have z6 := h4.frozen (k * 8 + 6)
  have z7 := h4.frozen (k * 8 + 7)
  have hlt' : (k : Int) < (st.slots.length : Int) := by omega
  have HD := Lib.hid (And.intro hA3 (And.intro hp (And.intro hd (And.intro h1 (And.intro h2 (And.intro h3 (And.intro h4 (And.intro h5 (And.intro hk (And.intro hb (And.intro hRlt hn)))))))))))
  clear hA3 hp hd h1 h2 h3 h4 h5 hk hb hw hn HA HF
  go_wp2_with fail
  obtain ⟨hA3, hp, hd, h1, h2, h3, h4, h5, hk, hb, hRlt, hn⟩ := HD.out
  have hK4 := store8_kept w3 B (k * 8) (.bool false) (.int .u64 0) (.int .u64 0) (.int .u64 0) (.int .i64 0) (.int .i64 0) (.slice none 0 0) (.int .i64 0)
  have hrow4 := store8_row h4 (k * 8) (.bool false) (.int .u64 0) (.int .u64 0) (.int .u64 0) (.int .i64 0) (.int .i64 0) (.slice none 0 0) (.int .i64 0)
  have hW4 : RefIs P (store8 w3 B (k * 8) (.bool false) (.int .u64 0) (.int .u64 0) (.int .u64 0) (.int .i64 0) (.int .i64 0) (.slice none 0 0) (.int .i64 0)) R (.slice (some ⟨B, 0, none⟩) st.slots.length c) ⟨st.slots.set k none, st.start⟩ := by
    refine RefIs.put (dv' := default) ((hK4.block R (Array.getElem?_eq_some_iff.1 hb).1 (fun h => h2 h.symm)).trans hb) hp h1 h2 h3 h5 hd hkl (hK4.mono fun _ _ h => .inr h) hrow4 (fun j hj => ?_) (fun i hi => by rw [if_neg (by omega)]) (fun f ver h => by cases h)
    rw [if_pos (by omega), Nat.add_sub_cancel_left]
    match j, hj with
    | 0, _ | 1, _ | 2, _ | 3, _ | 4, _ | 5, _ | 6, _ | 7, _ => rfl
  have hK5 : Kept (fun b => b = R ∨ some b = (Value.slice (some ⟨B, 0, none⟩) st.slots.length c).ownBlock) w (store8 w3 B (k * 8) (.bool false) (.int .u64 0) (.int .u64 0) (.int .u64 0) (.int .i64 0) (.int .i64 0) (.slice none 0 0) (.int .i64 0)) :=
    (hA3.mono fun _ _ h => h.elim).then hK4 fun i hi e => .inr (congrArg some e)
  change Code.wp _ _ _ _ (store8 w3 B (k * 8) (.bool false) (.int .u64 0) (.int .u64 0) (.int .u64 0) (.int .i64 0) (.int .i64 0) (.slice none 0 0) (.int .i64 0))
  generalize store8 w3 B (k * 8) (.bool false) (.int .u64 0) (.int .u64 0) (.int .u64 0) (.int .i64 0) (.int .i64 0) (.slice none 0 0) (.int .i64 0) = w4 at hW4 hK5 ⊢
  clear hA3 hp hd h1 h2 h3 h4 h5 hk hb hRlt b0 c0 c1 c2 c3 c4 c5 c6 c7 z0 z1 z2 z3 z4 z5 z6 z7 hK4 hrow4 HD
  have hfa : freeA st k = ⟨(st.slots.set k none).take (trimN (st.slots.set k none) (st.slots.set k none).length), st.start⟩ := rfl
  have hl : (st.slots.set k none).length = st.slots.length := List.length_set
  generalize hL : st.slots.set k none = L at hW4 hfa hl
  have hle := trimN_le L L.length
  have Hfa := Lib.hid (And.intro hfa (And.intro hl hL))
  have HA' := Lib.hid (show L.length ≤ 200 by omega)
  rw [← hl]
  have hW5 : RefIs P w4 R (.slice (some ⟨B, 0, none⟩) L.length c) ⟨L.take L.length, st.start⟩ := by rw [List.take_length, hl]; exact hW4
  clear hfa hL hW4
  rw [← hl] at hK5
  clear hl
  go_loopg [] L.length (fun g wr => g ≤ L.length ∧ trimN L g = trimN L L.length ∧ RefIs P wr R (.slice (some ⟨B, 0, none⟩) g c) ⟨L.take g, st.start⟩ ∧ Kept (fun b => b = R ∨ some b = (Value.slice (some ⟨B, 0, none⟩) L.length c).ownBlock) w wr)
  case atStart => exact ⟨Nat.le_refl _, rfl, hW5, hK5⟩
  case round =>
    obtain ⟨hgl, htr, hW, hK⟩ := hrel
    have HR := Lib.hid (And.intro htr (And.intro hW (And.intro hK hgl)))
    have b0 := boxCell hW.box 0
    clear htr hK hle
    cases gk with
    | zero =>
      clear hW
      go_wp2_with fail
      go_region
      go_wp2_with fail
      go_ret
      obtain ⟨htr, hW, hK, _⟩ := HR.out
      rw [Hfa.out.1, ← htr]
      exact ⟨_, rfl, hW.drew, hK.drew⟩
    | succ m =>
      have hml : m < (L.take (m + 1)).length := by rw [List.length_take]; omega
      have hlen : (L.take (m + 1)).length = m + 1 := by rw [List.length_take]; omega
      have hW2 := hW
      obtain ⟨hb, hp, dv, hr, hd⟩ := hW2
      obtain ⟨B', e, h⟩ := RefIs.slot (S := fun _ => False) hr hd (Kept.refl _ wr) (by simp) hml
      cases e
      have hm200 : m ≤ 200 := by have := HA'.out; omega
      have hmc : (m : Int) ≤ (c : Int) := by obtain ⟨_, _, hc, _⟩ := hr.at hml; have hcc : (L.take (m + 1)).length ≤ c := hc; omega
      have hwm := wrap_int (m : Int) (by omega) (by omega)
      have hz := boxFree hb
      have z0 := hz 0
      rw [getD_take (by omega)] at h
      clear hW hb hp hr hd hz hml hlen
      rcases h with ⟨e, _, ⟨c0, c1, c2, c3, c4, c5, c6, c7⟩⟩ | ⟨f', ver', da', dc', e, _, ⟨c0, c1, c2, c3, c4, c5, c6, c7⟩, _, _, _, _⟩
      · have HE := Lib.hid e
        clear e
        go_wp2_with fail
        go_region
        go_wp2_with fail
        go_region
        obtain ⟨htr, hW, hK, hgl⟩ := HR.out
        have hK6 := (hK.setCell (p := ⟨R, 0, none⟩) (fun _ => .inl rfl) (.slice (some ⟨B, 0, none⟩) m c)).drew.drew
        have hW6 := (hW.shrink (m := m) (by rw [List.length_take]; omega)).drew
        rw [List.take_take, Nat.min_eq_left (by omega)] at hW6
        go_wp2_with fail
        go_roundg m
        case measure => omega
        case rel => exact ⟨by omega, by rw [← trimN_pred_none HE.out]; exact htr, hW6, hK6⟩
      · have HE := Lib.hid e
        clear e
        go_wp2_with fail
        go_region
        go_wp2_with fail
        go_ret
        obtain ⟨htr, hW, hK, _⟩ := HR.out
        rw [Hfa.out.1, ← htr, trimN_pred_some HE.out]
        exact ⟨_, rfl, hW.drew, hK.drew⟩
end Go.Proofs.Ytffbfgmhfnbmfaa
