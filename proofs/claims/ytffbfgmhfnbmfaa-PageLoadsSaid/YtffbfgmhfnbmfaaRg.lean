/- The reference's Insert. -/
import Derived.Test.YtffbfgmhfnbmfaaRe
import Derived.Deep.RegionHeld3
import Derived.Deep.DeepCutAuto
namespace Go.Proofs.Ytffbfgmhfnbmfaa
open Go.RowKit

set_option maxRecDepth 100000 in
set_option maxHeartbeats 1000000 in
theorem rinsert_nil (r x y : Nat) (p s : Int) (a : Option Addr) (n c : Nat) (w : World) : Calls Try.prog 53 #[.pointer none, tupV r x y p s (.slice a n c)] w (Pair 0 15 w) := by
  go_enter Try.func53, Try.ntmps53
  go_wp2_with fail
  go_ret2
  exact ⟨rfl, (Kept.refl _ w).alloc _⟩

set_option maxRecDepth 100000 in
set_option maxHeartbeats 1000000 in
theorem rinsert_form (R : Nat) (r x y : Nat) (p s : Int) (a : Option Addr) (n c : Nat) (w : World) (h : rightB r x y p s n = false) :
    Calls Try.prog 53 #[.pointer (some ⟨R, 0, none⟩), tupV r x y p s (.slice a n c)] w (Pair 0 3 w) := by
  have hA := (Kept.refl (fun _ => False) w).alloc (Obj.cells #[.int .u64 r, .int .u64 x, .int .u64 y, .int .i64 p, .int .i64 s, .slice a n c] 29)
  have HA := Lib.hid (And.intro hA h)
  clear hA h
  go_enter Try.func53, Try.ntmps53
  go_wp2_with fail
  refine (right_ref r x y p s a n c _).mono ?_
  rintro e w1 ⟨rfl, hF1⟩
  rw [HA.out.2]
  have hF2 := HA.out.1.trans hF1
  go_wp2_with fail
  go_ret2
  exact ⟨rfl, hF2⟩

set_option maxRecDepth 100000 in
set_option maxHeartbeats 2000000 in
theorem rinsert_full (P : Nat → Prop) (R : Nat) (v : Value) (st : St) (r x y : Nat) (p s : Int) (a : Option Addr) (n c : Nat) (w : World) (hw : RefIs P w R v st) (hst : Wf st) (h : rightB r x y p s n = true) (hr : roomA st.slots < (n : Int)) :
    Calls Try.prog 53 #[.pointer (some ⟨R, 0, none⟩), tupV r x y p s (.slice a n c)] w (Pair 0 12 w) := by
  have hA := (Kept.refl (fun _ => False) w).alloc (Obj.cells #[.int .u64 r, .int .u64 x, .int .u64 y, .int .i64 p, .int .i64 s, .slice a n c] 29)
  have hs1 : (w.alloc (Obj.cells #[.int .u64 r, .int .u64 x, .int .u64 y, .int .i64 p, .int .i64 s, .slice a n c] 29)).heap.size = w.heap.size + 1 := by simp
  have hB := alloc_at w (Obj.cells #[.int .u64 r, .int .u64 x, .int .u64 y, .int .i64 p, .int .i64 s, .slice a n c] 29)
  have hr' := decide_eq_true hr
  have HA := Lib.hid (And.intro hA (And.intro h (And.intro hs1 (And.intro hB (And.intro hw hst)))))
  clear hA h hs1 hB hw hr
  go_enter Try.func53, Try.ntmps53
  go_wp2_with fail
  refine (right_ref r x y p s a n c _).mono ?_
  rintro e w1 ⟨rfl, hF1⟩
  rw [HA.out.2.1]
  have hF2 := HA.out.1.trans hF1
  have hB2 := (hF1.block w.heap.size (by rw [HA.out.2.2.1]; omega) (by simp)).trans HA.out.2.2.2.1
  have hW2 := (HA.out.2.2.2.2.1.fresh hF2).drew
  have c5 := boxCell hB2 5
  have hlt1 := (Array.getElem?_eq_some_iff.1 hB2).1
  have HF := Lib.hid hF2
  clear hF1 hF2 hB2
  go_wp2_with fail
  go_region_held3 (fun W => W.cell? ⟨w.heap.size, 5, none⟩ = some (.slice a n c)) (first | exact c5 | exact (hF3.cell (p := ⟨w.heap.size, 5, none⟩) hlt1 (by simp)).trans c5) (first
    | (go_at_call 29; refine (rroom_any P R v st _ hW2 HA.out.2.2.2.2.2).mono ?_; rintro e w3 ⟨rfl, hF3⟩))
  go_wp2_with fail
  go_ret2
  exact ⟨rfl, HF.out.drew.trans hF3⟩
end Go.Proofs.Ytffbfgmhfnbmfaa

namespace Go.Proofs.Ytffbfgmhfnbmfaa
open Go.RowKit

def RInserted (P : Nat → Prop) (R : Nat) (v : Value) (st' : St) (k : Nat) (w : World) (e : Ending) (w' : World) : Prop :=
  ∃ v', e = .returned (.tuple #[.int .i64 k, .int .i64 0]) ∧ RefIs P w' R v' st' ∧ Kept (fun b => b = R ∨ some b = v.ownBlock) w w'

/-- On the way through Insert. -/
structure Mid (P : Nat → Prop) (R : Nat) (v : Value) (ver : Ver) (w : World) (a1 : Addr) (c1 : Nat) (W : World) (v' : Value) (st' : St) : Prop where
  ref : RefIs P W R v' st'
  box : W.heap[w.heap.size]? = some (.cells #[.int .u64 ver.row, .int .u64 ver.x, .int .u64 ver.y, .int .i64 ((ver.P : Int) - 1), .int .i64 ((ver.S : Int) - 1), .slice (some a1) ver.data.length c1] 29)
  bytes : Bytes W (some a1) ver.data.length (fun j => ver.data.getD j 0)
  own : ∀ b, v'.ownBlock = some b → b ≠ w.heap.size ∧ b ≠ a1.block ∧ (b < w.heap.size → v.ownBlock = some b)
  kept : Kept (fun b => b = R ∨ some b = v.ownBlock) w W
  hR : R < w.heap.size
  ha : w.heap.size < a1.block ∧ a1.block < W.heap.size
  spot : a1.spot = none
  pa : P a1.block
  le : ver.data.length ≤ c1

theorem Mid.drew {P : Nat → Prop} {R : Nat} {v : Value} {ver : Ver} {w : World} {a1 : Addr} {c1 : Nat} {W : World} {v' : Value} {st' : St} (h : Mid P R v ver w a1 c1 W v' st') : Mid P R v ver w a1 c1 W.drew v' st' where
  ref := h.ref.drew
  box := h.box
  bytes := h.bytes.kept (Kept.refl (fun _ => False) W).drew (by simp)
  own := h.own
  kept := h.kept.drew
  hR := h.hR
  ha := h.ha
  spot := h.spot
  pa := h.pa
  le := h.le

theorem Mid.alloc {P : Nat → Prop} {R : Nat} {v : Value} {ver : Ver} {w : World} {a1 : Addr} {c1 : Nat} {W : World} {v' : Value} {st' : St} (h : Mid P R v ver w a1 c1 W v' st') (o : Obj) : Mid P R v ver w a1 c1 (W.alloc o) v' st' := by
  have k := (Kept.refl (fun _ => False) W).alloc o
  exact {
    ref := h.ref.fresh k
    box := (k.block _ (Array.getElem?_eq_some_iff.1 h.box).1 (by simp)).trans h.box
    bytes := h.bytes.kept k (by simp)
    own := h.own
    kept := h.kept.alloc o
    hR := h.hR
    ha := ⟨h.ha.1, Nat.lt_of_lt_of_le h.ha.2 k.size⟩
    spot := h.spot
    pa := h.pa
    le := h.le }

theorem zslot_one (j : Nat) (hj : j < 8) : (zslot.getD j default).oneCell' = true := slotV_one (s := none) (dv := .bool true) rfl j hj

theorem zslot_cells (W : World) : Cells (W.alloc (.cells zslot 84)) (some ⟨W.heap.size, 0, none⟩) (1 * 8) fun j => zslot.getD j default := by
  refine .inr ⟨_, _, rfl, by simp, fun j hj => ?_⟩
  rw [boxCell (alloc_at W _), Nat.zero_add]
  match j, (show j < 8 by omega) with
  | 0, _ | 1, _ | 2, _ | 3, _ | 4, _ | 5, _ | 6, _ | 7, _ => rfl

/-- The page's row is another one. -/
theorem RefIs.newRow {P : Nat → Prop} {W : World} {R B2 c2 s : Nat} {old : Value} {l : List Slot} {dv : Nat → Value} {g : Nat → Value} (hb : W.heap[R]? = some (.cells #[old, .int .i64 s] 70)) (hp : P R)
    (hd : DataAt P W R (.slice (some ⟨B2, 0, none⟩) l.length c2) l dv) (hc : l.length ≤ c2) (hBR : B2 ≠ R) (hPB : P B2) (hrow : W.rowIs B2 84 (c2 * 8) g) (hg : ∀ k j, k < l.length → j < 8 → g (k * 8 + j) = slotV (l.getD k none) (dv k) j) :
    RefIs P (W.setCell ⟨R, 0, none⟩ (.slice (some ⟨B2, 0, none⟩) l.length c2)) R (.slice (some ⟨B2, 0, none⟩) l.length c2) ⟨l, s⟩ := by
  have hK := (Kept.refl (fun b => b = R) W).setCell (p := ⟨R, 0, none⟩) (fun _ => rfl) (.slice (some ⟨B2, 0, none⟩) l.length c2)
  have hb' := setBox hb 0 (.slice (some ⟨B2, 0, none⟩) l.length c2)
  refine ⟨by simpa using hb', hp, dv, .inr ⟨B2, c2, g, rfl, hc, hBR, hPB, hK.row hrow hBR, hg⟩, fun i f ver hi => ?_⟩
  obtain ⟨a, c', h1, h2, h3, h4, h5, h6, h7, h8⟩ := hd i f ver hi
  exact ⟨a, c', h1, h2, h3.kept hK (fun z hz => by cases hz; exact h7), h4, Nat.lt_of_lt_of_le h5 hK.size, h6, h7, h8⟩

theorem getD_snoc (l : List Slot) (k : Nat) : (l ++ [(none : Slot)]).getD k none = l.getD k none := by
  rw [List.getD_eq_getElem?_getD, List.getD_eq_getElem?_getD]
  by_cases h : k < l.length
  · rw [List.getElem?_append_left h]
  · rw [List.getElem?_append_right (by omega), List.getElem?_eq_none (l := l) (by omega)]
    cases k - l.length <;> rfl

theorem get_snoc {l : List Slot} {k f : Nat} {ver : Ver} (h : (l ++ [(none : Slot)])[k]? = some (some (f, ver))) : l[k]? = some (some (f, ver)) := by
  by_cases hk : k < l.length
  · rwa [List.getElem?_append_left hk] at h
  · rw [List.getElem?_append_right (by omega)] at h
    cases hj : k - l.length with
    | zero => rw [hj] at h; simp at h
    | succ j => rw [hj] at h; simp at h

def Added (P : Nat → Prop) (R : Nat) (v : Value) (ver : Ver) (w : World) (a1 : Addr) (c1 : Nat) (W : World) (v' : Value) (l : List Slot) (s : Nat) (v2 : Value) (W2 : World) : Prop :=
  (Builtin.append_ #[68, 68] 68 #[v', .slice (some ⟨W.heap.size, 0, none⟩) 1 1]).run Try.prog (W.alloc (.cells zslot 84)) = .ok v2 W2 ∧
    W2.heap[R]? = W.heap[R]? ∧ Mid P R v ver w a1 c1 (W2.setCell ⟨R, 0, none⟩ v2) v2 ⟨l ++ [none], s⟩

theorem Mid.add {P : Nat → Prop} {R : Nat} {v : Value} {ver : Ver} {w : World} {a1 : Addr} {c1 : Nat} {W : World} {v' : Value} {l : List Slot} {s : Nat} (h : Mid P R v ver w a1 c1 W v' ⟨l, s⟩) (hP : ∀ b, w.heap.size ≤ b → P b) (hl : l.length ≤ 200) :
    ∃ v2 W2, Added P R v ver w a1 c1 W v' l s v2 W2 := by
  obtain ⟨href, hbox, hby, hown, hkept, hR, ha, hsp, hpa, hle⟩ := h
  obtain ⟨hb, hp, dv, hr, hd⟩ := href
  have hkA := (Kept.refl (fun _ => False) W).alloc (.cells zslot 84)
  have hsA : (W.alloc (.cells zslot 84)).heap.size = W.heap.size + 1 := by simp
  have hRW : R < W.heap.size := (Array.getElem?_eq_some_iff.1 hb).1
  have hHW : w.heap.size < W.heap.size := (Array.getElem?_eq_some_iff.1 hbox).1
  have hlen : (l ++ [(none : Slot)]).length = l.length + 1 := by simp
  have hz := zslot_cells W
  have hz1 : ∀ j, j < 1 * 8 → (zslot.getD j default).oneCell' = true := fun j hj => zslot_one j (by omega)
  -- the row is a new one
  have grow : ∀ (base : Option Addr) (c : Nat) (f : Nat → Value), v' = .slice base l.length c → Cells W base (l.length * 8) f → c < l.length + 1 → (∀ k j, k < l.length → j < 8 → f (k * 8 + j) = slotV (l.getD k none) (dv k) j) →
      ∃ v2 W2, Added P R v ver w a1 c1 W v' l s v2 W2 := by
    intro base c f hv hf hc hff
    subst hv
    obtain ⟨cap, W2, hrun, hcap, hrow, hs2, hk2⟩ := grow_row (P := Try.prog) 68 68 68 84 und68 und68 info84 (K := 8) (by omega) rfl (w := W.alloc (.cells zslot 84)) (base := base) (a := some ⟨W.heap.size, 0, none⟩) (n := l.length) (m := 1) (c := c) (k := 1)
      (hf.kept hkA (by simp)) hz hz1 hc (by omega) (by omega)
    rw [hsA] at hrun hrow hs2
    have hk := hkA.trans hk2
    have hP2 : P (W.heap.size + 1) := hP _ (by omega)
    have hb2 : W2.heap[R]? = some (.cells #[.slice base l.length c, .int .i64 s] 70) := (hk.block R hRW (by simp)).trans hb
    have hD2 : DataAt P W2 R (.slice (some ⟨W.heap.size + 1, 0, none⟩) (l ++ [none]).length cap) (l ++ [none]) dv := fun i f ver hi => by
      obtain ⟨a, c', h1, h2, h3, h4, h5, h6, h7, h8⟩ := hd i f ver (get_snoc hi)
      exact ⟨a, c', h1, h2, h3.kept hk (by simp), h4, Nat.lt_of_lt_of_le h5 hk.size, h6, h7, fun e => by have e' : a.block = W.heap.size + 1 := Option.some.inj e; omega⟩
    have hnew := RefIs.newRow hb2 hp hD2 (by rw [hlen]; exact hcap) (by omega) hP2 hrow (fun k j hk hj => by
      rw [getD_snoc l k]
      rw [hlen] at hk
      unfold joinedV
      by_cases h1 : k < l.length
      · rw [if_pos (by omega), hff k j h1 hj]
      · rw [if_neg (by omega), if_pos (by omega), List.getD_eq_getElem?_getD, List.getElem?_eq_none (l := l) (by omega)]
        rw [show k * 8 + j - l.length * 8 = j from by omega]
        rfl)
    rw [hlen] at hnew
    have hkR := (Kept.refl (fun b => b = R) W2).setCell (p := ⟨R, 0, none⟩) (fun _ => rfl) (.slice (some ⟨W.heap.size + 1, 0, none⟩) (l.length + 1) cap)
    exact ⟨_, _, hrun, hk.block R hRW (by simp), {
      ref := hnew
      box := (hkR.block _ (by omega) (by omega)).trans ((hk.block _ hHW (by simp)).trans hbox)
      bytes := (hby.kept hk (by simp)).kept hkR (fun z hz => by cases hz; omega)
      own := fun b hb => by
        have e' : W.heap.size + 1 = b := Option.some.inj hb
        exact ⟨by omega, by omega, fun h => by omega⟩
      kept := (hkept.trans (hk.mono fun _ _ h => h.elim)).trans (hkR.mono fun _ _ h => .inl h)
      hR := hR
      ha := ⟨ha.1, Nat.lt_of_lt_of_le ha.2 (Nat.le_trans hk.size hkR.size)⟩
      spot := hsp
      pa := hpa
      le := hle }⟩
  rcases hr with ⟨e, e2⟩ | ⟨B, c, g, e, h1, h2, h3, h4, h5⟩
  · simp only at e2
    subst e2
    exact grow none 0 (fun _ => default) e (.inl rfl) (by simp) (fun k j hk => by simp at hk)
  · by_cases hroom : l.length + 1 ≤ c
    · subst e
      obtain ⟨W2, hrun, hrow, hs2, hk2⟩ := room_row (P := Try.prog) 68 68 68 84 und68 und68 info84 (K := 8) (by omega) (hkA.row h4 (by simp)) hz hz1 (n := l.length) (m := 1) (c := c) (k := 1) (off := 0) hroom (by omega)
      have hk : Kept (fun b => b = B) W W2 := (hkA.mono fun _ _ h => h.elim).then hk2 fun _ _ h => h
      have hob := hown B rfl
      have hb2 : W2.heap[R]? = some (.cells #[.slice (some ⟨B, 0, none⟩) l.length c, .int .i64 s] 70) := (hk.block R hRW (fun h => h2 h.symm)).trans hb
      have hD2 : DataAt P W2 R (.slice (some ⟨B, 0, none⟩) (l ++ [none]).length c) (l ++ [none]) dv := fun i f ver hi => by
        obtain ⟨a, c', g1, g2, g3, g4, g5, g6, g7, g8⟩ := hd i f ver (get_snoc hi)
        exact ⟨a, c', g1, g2, g3.kept hk (fun z hz => by cases hz; exact fun h => g8 (congrArg some h)), g4, Nat.lt_of_lt_of_le g5 hk.size, g6, g7, g8⟩
      have hnew := RefIs.newRow hb2 hp hD2 (by rw [hlen]; exact hroom) h2 h3 hrow (fun k j hk hj => by
        rw [getD_snoc l k]
        rw [hlen] at hk
        by_cases h1 : k < l.length
        · rw [if_neg (by omega)]; exact h5 k j h1 hj
        · rw [if_pos (by omega), List.getD_eq_getElem?_getD, List.getElem?_eq_none (l := l) (by omega)]
          rw [show k * 8 + j - (0 + l.length * 8) = j from by omega]
          rfl)
      rw [hlen] at hnew
      have hkR := (Kept.refl (fun b => b = R) W2).setCell (p := ⟨R, 0, none⟩) (fun _ => rfl) (.slice (some ⟨B, 0, none⟩) (l.length + 1) c)
      have hkB : Kept (fun b => b = R ∨ some b = v.ownBlock) w W2 := hkept.then hk fun i hi e => by subst e; exact .inr (hob.2.2 hi).symm
      exact ⟨_, _, hrun, hk.block R hRW (fun h => h2 h.symm), {
        ref := hnew
        box := (hkR.block _ (by have := hk.size; omega) (by omega)).trans ((hk.block _ hHW (fun h => hob.1 h.symm)).trans hbox)
        bytes := (hby.kept hk (fun z hz => by cases hz; exact fun h => hob.2.1 h.symm)).kept hkR (fun z hz => by cases hz; omega)
        own := fun b hb => hown b hb
        kept := hkB.trans (hkR.mono fun _ _ h => .inl h)
        hR := hR
        ha := ⟨ha.1, Nat.lt_of_lt_of_le ha.2 (Nat.le_trans hk.size hkR.size)⟩
        spot := hsp
        pa := hpa
        le := hle }⟩
    · exact grow (some ⟨B, 0, none⟩) c g e ((Cells.of_row h4 0 (l.length * 8) (by have h1' : l.length ≤ c := h1; have := Nat.mul_le_mul_right 8 h1'; omega)).congr (fun j _ => by rw [Nat.zero_add])) (by omega) h5

/-- The first free slot from k on. -/
def ffFrom (l : List Slot) (k : Nat) : Nat := k + firstFree (l.drop k)

theorem ffFrom_zero (l : List Slot) : ffFrom l 0 = firstFree l := by simp [ffFrom]
theorem ffFrom_end (l : List Slot) : ffFrom l l.length = l.length := by simp [ffFrom, firstFree]
theorem ffFrom_none {l : List Slot} {k : Nat} (hk : k < l.length) (h : l.getD k none = none) : ffFrom l k = k := by
  have h1 : l[k] = none := by rw [← h, getD_of (List.getElem?_eq_getElem hk)]
  unfold ffFrom firstFree
  rw [List.drop_eq_getElem_cons hk, List.findIdx_cons, h1]
  rfl
theorem ffFrom_some {l : List Slot} {k : Nat} {p : Nat × Ver} (hk : k < l.length) (h : l.getD k none = some p) : ffFrom l k = ffFrom l (k + 1) := by
  have h1 : l[k] = some p := by rw [← h, getD_of (List.getElem?_eq_getElem hk)]
  unfold ffFrom firstFree
  rw [List.drop_eq_getElem_cons hk, List.findIdx_cons, h1]
  simp
  omega
theorem ffFrom_le {l : List Slot} {k : Nat} (hk : k ≤ l.length) : ffFrom l k ≤ l.length := by
  unfold ffFrom
  have := firstFree_le (l.drop k)
  rw [List.length_drop] at this
  omega

end Go.Proofs.Ytffbfgmhfnbmfaa

namespace Go.Proofs.Ytffbfgmhfnbmfaa
open Go.RowKit

section
variable {P : Nat → Prop} {R : Nat} {v : Value} {ver : Ver} {w : World} {a1 : Addr} {c1 : Nat} {W : World} {v' : Value} {l : List Slot} {s : Nat}

theorem Mid.start (h : Mid P R v ver w a1 c1 W v' ⟨l, s⟩) (s' : Nat) : Mid P R v ver w a1 c1 (W.setCell ⟨R, 1, none⟩ (.int .i64 s')) v' ⟨l, s'⟩ := by
  obtain ⟨href, hbox, hby, hown, hkept, hR, ha, hsp, hpa, hle⟩ := h
  obtain ⟨hb, hp, dv, hr, hd⟩ := href
  have hk := (Kept.refl (fun b => b = R) W).setCell (p := ⟨R, 1, none⟩) (fun _ => rfl) (.int .i64 s')
  have hb' := setBox hb 1 (.int .i64 s')
  have hHW : w.heap.size < W.heap.size := (Array.getElem?_eq_some_iff.1 hbox).1
  exact {
    ref := by
      refine ⟨by simpa using hb', hp, dv, ?_, fun i f ver hi => ?_⟩
      · rcases hr with h0 | ⟨B, cap, g, e, g1, g2, g3, g4, g5⟩
        · exact .inl h0
        · exact .inr ⟨B, cap, g, e, g1, g2, g3, hk.row g4 g2, g5⟩
      · obtain ⟨a, c', g1, g2, g3, g4, g5, g6, g7, g8⟩ := hd i f ver hi
        exact ⟨a, c', g1, g2, g3.kept hk (fun z hz => by cases hz; exact g7), g4, Nat.lt_of_lt_of_le g5 hk.size, g6, g7, g8⟩
    box := (hk.block _ hHW (by omega)).trans hbox
    bytes := hby.kept hk (fun z hz => by cases hz; omega)
    own := hown
    kept := hkept.trans (hk.mono fun _ _ h => .inl h)
    hR := hR
    ha := ⟨ha.1, Nat.lt_of_lt_of_le ha.2 hk.size⟩
    spot := hsp
    pa := hpa
    le := hle }

/-- A slot's cells have turned: all that else stays of the way. -/
theorem Mid.row {B c n : Nat} (h : Mid P R v ver w a1 c1 W (.slice (some ⟨B, 0, none⟩) n c) ⟨l, s⟩) {W' : World} (hk : Kept (· = B) W W') {l' : List Slot} (href : RefIs P W' R (.slice (some ⟨B, 0, none⟩) n c) ⟨l', s⟩) :
    Mid P R v ver w a1 c1 W' (.slice (some ⟨B, 0, none⟩) n c) ⟨l', s⟩ := by
  obtain ⟨href0, hbox, hby, hown, hkept, hR, ha, hsp, hpa, hle⟩ := h
  have hHW : w.heap.size < W.heap.size := (Array.getElem?_eq_some_iff.1 hbox).1
  have hob := hown B rfl
  exact {
    ref := href
    box := (hk.block _ hHW (fun h => hob.1 h.symm)).trans hbox
    bytes := hby.kept hk (fun z hz => by cases hz; exact fun h => hob.2.1 h.symm)
    own := hown
    kept := hkept.then hk fun i hi e => by subst e; exact .inr (hob.2.2 hi).symm
    hR := hR
    ha := ⟨ha.1, Nat.lt_of_lt_of_le ha.2 hk.size⟩
    spot := hsp
    pa := hpa
    le := hle }

theorem RefIs.row {a : Option Addr} {n c : Nat} {st : St} (h : RefIs P W R (.slice a n c) st) (hpos : 0 < st.slots.length) :
    ∃ B dv g, a = some ⟨B, 0, none⟩ ∧ n = st.slots.length ∧ W.heap[R]? = some (.cells #[.slice (some ⟨B, 0, none⟩) st.slots.length c, .int .i64 st.start] 70) ∧ P R ∧ st.slots.length ≤ c ∧ B ≠ R ∧ P B ∧ W.rowIs B 84 (c * 8) g ∧
      (∀ k j, k < st.slots.length → j < 8 → g (k * 8 + j) = slotV (st.slots.getD k none) (dv k) j) ∧ DataAt P W R (.slice (some ⟨B, 0, none⟩) st.slots.length c) st.slots dv := by
  obtain ⟨hb, hp, dv, hr, hd⟩ := h
  rcases hr with ⟨_, e0⟩ | ⟨B, cap, g, e, h1, h2, h3, h4, h5⟩
  · rw [e0] at hpos; simp at hpos
  · simp only [Value.slice.injEq] at e
    obtain ⟨rfl, rfl, rfl⟩ := e
    exact ⟨B, dv, g, rfl, rfl, hb, hp, h1, h2, h3, h4, h5, hd⟩

/-- A slot's place is told anew. -/
theorem Mid.from {B c n i f : Nat} {ver0 : Ver} (h : Mid P R v ver w a1 c1 W (.slice (some ⟨B, 0, none⟩) n c) ⟨l, s⟩) (hi : l[i]? = some (some (f, ver0))) (f' : Nat) :
    Mid P R v ver w a1 c1 (W.setCell ⟨B, i * 8 + 7, none⟩ (.int .i64 f')) (.slice (some ⟨B, 0, none⟩) n c) ⟨l.set i (some (f', ver0)), s⟩ := by
  have hil : i < l.length := (List.getElem?_eq_some_iff.1 hi).1
  have hk := (Kept.refl (fun b => b = B) W).setCell (p := ⟨B, i * 8 + 7, none⟩) (fun _ => rfl) (.int .i64 f')
  obtain ⟨B', dv, g, e, rfl, hb, hp, h1, h2, h3, h4, h5, hd⟩ := h.ref.row (by show 0 < l.length; omega)
  cases e
  refine h.row hk (RefIs.put1 hb hp h1 h2 h3 h5 hd hi hk (h4.set _ _) f' rfl (fun j hj => ?_) (fun k hkk => by rw [if_neg (by omega)]))
  have hgk := fun j hj => (h5 i j hil hj).trans (by rw [getD_of hi])
  match j, hj with
  | 0, _ => rw [if_neg (by omega), hgk 0 (by omega)]; rfl
  | 1, _ => rw [if_neg (by omega), hgk 1 (by omega)]; rfl
  | 2, _ => rw [if_neg (by omega), hgk 2 (by omega)]; rfl
  | 3, _ => rw [if_neg (by omega), hgk 3 (by omega)]; rfl
  | 4, _ => rw [if_neg (by omega), hgk 4 (by omega)]; rfl
  | 5, _ => rw [if_neg (by omega), hgk 5 (by omega)]; rfl
  | 6, _ => rw [if_neg (by omega), hgk 6 (by omega)]; rfl
  | 7, _ => rw [if_pos rfl]; rfl

/-- The new version is laid. -/
theorem Mid.lay {B c n i f' : Nat} (h : Mid P R v ver w a1 c1 W (.slice (some ⟨B, 0, none⟩) n c) ⟨l, s⟩) (hi : i < l.length) :
    RefIs P (store8 W B (i * 8) (.bool true) (.int .u64 ver.row) (.int .u64 ver.x) (.int .u64 ver.y) (.int .i64 ((ver.P : Int) - 1)) (.int .i64 ((ver.S : Int) - 1)) (.slice (some a1) ver.data.length c1) (.int .i64 f')) R (.slice (some ⟨B, 0, none⟩) n c) ⟨l.set i (some (f', ver)), s⟩ ∧
    Kept (fun b => b = R ∨ some b = v.ownBlock) w (store8 W B (i * 8) (.bool true) (.int .u64 ver.row) (.int .u64 ver.x) (.int .u64 ver.y) (.int .i64 ((ver.P : Int) - 1)) (.int .i64 ((ver.S : Int) - 1)) (.slice (some a1) ver.data.length c1) (.int .i64 f')) := by
  have hk := store8_kept W B (i * 8) (.bool true) (.int .u64 ver.row) (.int .u64 ver.x) (.int .u64 ver.y) (.int .i64 ((ver.P : Int) - 1)) (.int .i64 ((ver.S : Int) - 1)) (.slice (some a1) ver.data.length c1) (.int .i64 f')
  have hob := h.own B rfl
  obtain ⟨B', dv, g, e, rfl, hb, hp, h1, h2, h3, h4, h5, hd⟩ := h.ref.row (by show 0 < l.length; omega)
  cases e
  have hrow := store8_row h4 (i * 8) (.bool true) (.int .u64 ver.row) (.int .u64 ver.x) (.int .u64 ver.y) (.int .i64 ((ver.P : Int) - 1)) (.int .i64 ((ver.S : Int) - 1)) (.slice (some a1) ver.data.length c1) (.int .i64 f')
  have hR := (Array.getElem?_eq_some_iff.1 hb).1
  have hne : a1.block ≠ B := fun h => hob.2.1 h.symm
  refine ⟨RefIs.put (dv' := .slice (some a1) ver.data.length c1) ((hk.block R hR (fun h => h2 h.symm)).trans hb) hp h1 h2 h3 h5 hd hi (hk.mono fun _ _ h => .inr h) hrow (fun j hj => ?_) (fun k hkk => by rw [if_neg (by omega)]) (fun f2 ver2 e => ?_), h.kept.then hk fun i hi e => by subst e; exact .inr (hob.2.2 hi).symm⟩
  · rw [if_pos (by omega), Nat.add_sub_cancel_left]
    match j, hj with
    | 0, _ | 1, _ | 2, _ | 3, _ | 4, _ | 5, _ | 6, _ | 7, _ => rfl
  · simp only [Option.some.injEq, Prod.mk.injEq] at e
    obtain ⟨_, rfl⟩ := e
    exact ⟨a1, c1, rfl, h.le, h.bytes.kept hk (fun z hz => by cases hz; exact hne), h.spot, Nat.lt_of_lt_of_le h.ha.2 hk.size, h.pa, by have := h.hR; have := h.ha.1; omega, hne⟩
end

theorem cpN_snoc (l : List Slot) (i : Nat) : cpN (l ++ [none]) i = cpN l i ∧ atN (l ++ [none]) i = atN l i := by
  have hat : ∀ i, atN (l ++ [none]) i = atN l i := by
    intro i
    induction i with
    | zero => rfl
    | succ i ih => unfold atN; rw [ih, getD_snoc]
  refine ⟨?_, hat i⟩
  induction i with
  | zero => rfl
  | succ i ih =>
    unfold cpN
    rw [ih]
    congr 2
    unfold cpS
    rw [getD_snoc, hat]

/-- Grown first, or moved first. -/
theorem compact_grow (l : List Slot) (k : Nat) : cpN (growK l k) (growK l k).length = growK (cpN l l.length) k ∧ atN (growK l k) (growK l k).length = atN l l.length := by
  unfold growK
  by_cases e : k = l.length
  · rw [if_pos e, if_pos (by rw [cpN_length]; exact e)]
    have h1 : (l ++ [(none : Slot)]).length = l.length + 1 := by simp
    rw [h1, (cpN_snoc l _).1, (cpN_snoc l _).2]
    have hn : l.getD l.length none = none := by rw [List.getD_eq_getElem?_getD, List.getElem?_eq_none (Nat.le_refl _)]; rfl
    constructor
    · rw [cpN, show cpS l l.length = none from by unfold cpS; rw [hn]]
    · rw [atN, hn]; rfl
  · rw [if_neg e, if_neg (by rw [cpN_length]; exact e)]
    exact ⟨rfl, rfl⟩

theorem mid_get {l : List Slot} {i : Nat} (hi : i < l.length) : (cpN l i ++ l.drop i)[i]? = some (l.getD i none) := by
  rw [List.getElem?_append_right (by rw [cpN_length]; exact Nat.le_refl _), cpN_length, Nat.sub_self, List.drop_eq_getElem_cons hi, List.getD_eq_getElem?_getD, List.getElem?_eq_getElem hi]
  rfl

theorem mid_getD {l : List Slot} {i : Nat} (hi : i < l.length) : (cpN l i ++ l.drop i).getD i none = l.getD i none := getD_of (mid_get hi)

theorem szN_step {l : List Slot} {i : Nat} : szN l (i + 1) = szN l i + sizeOfS (l.getD i none) := rfl

theorem putA_then {st : St} {v : Ver} (h : st.start < v.size + (4 + 4 * (growK st.slots (firstFree st.slots)).length)) :
    putA st v = ⟨(cpN (growK st.slots (firstFree st.slots)) (growK st.slots (firstFree st.slots)).length).set (firstFree st.slots) (some (atN (growK st.slots (firstFree st.slots)) (growK st.slots (firstFree st.slots)).length - v.size, v)),
      atN (growK st.slots (firstFree st.slots)) (growK st.slots (firstFree st.slots)).length - v.size⟩ := by
  unfold putA
  rw [if_pos h, (compact_grow st.slots _).1, (compact_grow st.slots _).2]
  rfl

theorem putA_else {st : St} {v : Ver} (h : ¬ st.start < v.size + (4 + 4 * (growK st.slots (firstFree st.slots)).length)) :
    putA st v = ⟨(growK st.slots (firstFree st.slots)).set (firstFree st.slots) (some (st.start - v.size, v)), st.start - v.size⟩ := by
  unfold putA
  rw [if_neg h]
  rfl

end Go.Proofs.Ytffbfgmhfnbmfaa
