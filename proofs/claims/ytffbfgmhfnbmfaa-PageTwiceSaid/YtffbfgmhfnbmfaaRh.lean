/- The reference's Insert, where there is room. -/
import Derived.Test.YtffbfgmhfnbmfaaRg
import Derived.Deep.DeepCutAuto
namespace Go.Proofs.Ytffbfgmhfnbmfaa
open Go.RowKit

def RInserted (P : Nat → Prop) (R : Nat) (v : Value) (st' : St) (k : Nat) (w : World) (e : Ending) (w' : World) : Prop :=
  ∃ v', e = .returned (.tuple #[.int .i64 k, .int .i64 0]) ∧ RefIs P w' R v' st' ∧ Kept (fun b => b = R ∨ some b = v.ownBlock) w w'

/-- On the way through Insert. -/
structure Mid (P : Nat → Prop) (R : Nat) (v : Value) (ver : Ver) (w : World) (a1 : Addr) (c1 : Nat) (W : World) (v' : Value) (st' : St) : Prop where
  ref : RefIs P W R v' st'
  box : W.heap[w.heap.size]? = some (.cells #[.int .u64 ver.row, .int .u64 ver.x, .int .u64 ver.y, .int .i64 ((ver.P : Int) - 1), .int .i64 ((ver.S : Int) - 1), .slice (some a1) ver.data.length c1] 29)
  bytes : Bytes W (some a1) ver.data.length (fun j => ver.data.getD j 0)
  own : ∀ b, v'.ownBlock = some b → b ≠ w.heap.size ∧ b ≠ a1.block ∧ (b < w.heap.size → v.ownBlock = some b)
  kept : Kept (fun b => b = R ∨ some b = v.ownBlock) w W
  hR : R < w.heap.size
  ha : w.heap.size < a1.block ∧ a1.block < W.heap.size
  spot : a1.spot = none
  pa : P a1.block
  le : ver.data.length ≤ c1

theorem Mid.drew {P : Nat → Prop} {R : Nat} {v : Value} {ver : Ver} {w : World} {a1 : Addr} {c1 : Nat} {W : World} {v' : Value} {st' : St} (h : Mid P R v ver w a1 c1 W v' st') : Mid P R v ver w a1 c1 W.drew v' st' where
  ref := h.ref.drew
  box := h.box
  bytes := h.bytes.kept (Kept.refl (fun _ => False) W).drew (by simp)
  own := h.own
  kept := h.kept.drew
  hR := h.hR
  ha := h.ha
  spot := h.spot
  pa := h.pa
  le := h.le

theorem Mid.alloc {P : Nat → Prop} {R : Nat} {v : Value} {ver : Ver} {w : World} {a1 : Addr} {c1 : Nat} {W : World} {v' : Value} {st' : St} (h : Mid P R v ver w a1 c1 W v' st') (o : Obj) : Mid P R v ver w a1 c1 (W.alloc o) v' st' := by
  have k := (Kept.refl (fun _ => False) W).alloc o
  exact {
    ref := h.ref.fresh k
    box := (k.block _ (Array.getElem?_eq_some_iff.1 h.box).1 (by simp)).trans h.box
    bytes := h.bytes.kept k (by simp)
    own := h.own
    kept := h.kept.alloc o
    hR := h.hR
    ha := ⟨h.ha.1, Nat.lt_of_lt_of_le h.ha.2 k.size⟩
    spot := h.spot
    pa := h.pa
    le := h.le }

theorem zslot_one (j : Nat) (hj : j < 8) : (zslot.getD j default).oneCell' = true := slotV_one (s := none) (dv := .bool true) rfl j hj

theorem zslot_cells (W : World) : Cells (W.alloc (.cells zslot 84)) (some ⟨W.heap.size, 0, none⟩) (1 * 8) fun j => zslot.getD j default := by
  refine .inr ⟨_, _, rfl, by simp, fun j hj => ?_⟩
  rw [boxCell (alloc_at W _), Nat.zero_add]
  match j, (show j < 8 by omega) with
  | 0, _ | 1, _ | 2, _ | 3, _ | 4, _ | 5, _ | 6, _ | 7, _ => rfl

/-- The page's row is another one. -/
theorem RefIs.newRow {P : Nat → Prop} {W : World} {R B2 c2 s : Nat} {old : Value} {l : List Slot} {dv : Nat → Value} {g : Nat → Value} (hb : W.heap[R]? = some (.cells #[old, .int .i64 s] 70)) (hp : P R)
    (hd : DataAt P W R (.slice (some ⟨B2, 0, none⟩) l.length c2) l dv) (hc : l.length ≤ c2) (hBR : B2 ≠ R) (hPB : P B2) (hrow : W.rowIs B2 84 (c2 * 8) g) (hg : ∀ k j, k < l.length → j < 8 → g (k * 8 + j) = slotV (l.getD k none) (dv k) j) :
    RefIs P (W.setCell ⟨R, 0, none⟩ (.slice (some ⟨B2, 0, none⟩) l.length c2)) R (.slice (some ⟨B2, 0, none⟩) l.length c2) ⟨l, s⟩ := by
  have hK := (Kept.refl (fun b => b = R) W).setCell (p := ⟨R, 0, none⟩) (fun _ => rfl) (.slice (some ⟨B2, 0, none⟩) l.length c2)
  have hb' := setBox hb 0 (.slice (some ⟨B2, 0, none⟩) l.length c2)
  refine ⟨by simpa using hb', hp, dv, .inr ⟨B2, c2, g, rfl, hc, hBR, hPB, hK.row hrow hBR, hg⟩, fun i f ver hi => ?_⟩
  obtain ⟨a, c', h1, h2, h3, h4, h5, h6, h7, h8⟩ := hd i f ver hi
  exact ⟨a, c', h1, h2, h3.kept hK (fun z hz => by cases hz; exact h7), h4, Nat.lt_of_lt_of_le h5 hK.size, h6, h7, h8⟩

theorem getD_snoc (l : List Slot) (k : Nat) : (l ++ [(none : Slot)]).getD k none = l.getD k none := by
  rw [List.getD_eq_getElem?_getD, List.getD_eq_getElem?_getD]
  by_cases h : k < l.length
  · rw [List.getElem?_append_left h]
  · rw [List.getElem?_append_right (by omega), List.getElem?_eq_none (l := l) (by omega)]
    cases k - l.length <;> rfl

theorem get_snoc {l : List Slot} {k f : Nat} {ver : Ver} (h : (l ++ [(none : Slot)])[k]? = some (some (f, ver))) : l[k]? = some (some (f, ver)) := by
  by_cases hk : k < l.length
  · rwa [List.getElem?_append_left hk] at h
  · rw [List.getElem?_append_right (by omega)] at h
    cases hj : k - l.length with
    | zero => rw [hj] at h; simp at h
    | succ j => rw [hj] at h; simp at h

def Added (P : Nat → Prop) (R : Nat) (v : Value) (ver : Ver) (w : World) (a1 : Addr) (c1 : Nat) (W : World) (v' : Value) (l : List Slot) (s : Nat) (v2 : Value) (W2 : World) : Prop :=
  (Builtin.append_ #[68, 68] 68 #[v', .slice (some ⟨W.heap.size, 0, none⟩) 1 1]).run Try.prog (W.alloc (.cells zslot 84)) = .ok v2 W2 ∧
    W2.heap[R]? = W.heap[R]? ∧ Mid P R v ver w a1 c1 (W2.setCell ⟨R, 0, none⟩ v2) v2 ⟨l ++ [none], s⟩

theorem Mid.add {P : Nat → Prop} {R : Nat} {v : Value} {ver : Ver} {w : World} {a1 : Addr} {c1 : Nat} {W : World} {v' : Value} {l : List Slot} {s : Nat} (h : Mid P R v ver w a1 c1 W v' ⟨l, s⟩) (hP : ∀ b, w.heap.size ≤ b → P b) (hl : l.length ≤ 200) :
    ∃ v2 W2, Added P R v ver w a1 c1 W v' l s v2 W2 := by
  obtain ⟨href, hbox, hby, hown, hkept, hR, ha, hsp, hpa, hle⟩ := h
  obtain ⟨hb, hp, dv, hr, hd⟩ := href
  have hkA := (Kept.refl (fun _ => False) W).alloc (.cells zslot 84)
  have hsA : (W.alloc (.cells zslot 84)).heap.size = W.heap.size + 1 := by simp
  have hRW : R < W.heap.size := (Array.getElem?_eq_some_iff.1 hb).1
  have hHW : w.heap.size < W.heap.size := (Array.getElem?_eq_some_iff.1 hbox).1
  have hlen : (l ++ [(none : Slot)]).length = l.length + 1 := by simp
  have hz := zslot_cells W
  have hz1 : ∀ j, j < 1 * 8 → (zslot.getD j default).oneCell' = true := fun j hj => zslot_one j (by omega)
  -- the row is a new one
  have grow : ∀ (base : Option Addr) (c : Nat) (f : Nat → Value), v' = .slice base l.length c → Cells W base (l.length * 8) f → c < l.length + 1 → (∀ k j, k < l.length → j < 8 → f (k * 8 + j) = slotV (l.getD k none) (dv k) j) →
      ∃ v2 W2, Added P R v ver w a1 c1 W v' l s v2 W2 := by
    intro base c f hv hf hc hff
    subst hv
    obtain ⟨cap, W2, hrun, hcap, hrow, hs2, hk2⟩ := grow_row (P := Try.prog) 68 68 68 84 und68 und68 info84 (K := 8) (by omega) rfl (w := W.alloc (.cells zslot 84)) (base := base) (a := some ⟨W.heap.size, 0, none⟩) (n := l.length) (m := 1) (c := c) (k := 1)
      (hf.kept hkA (by simp)) hz hz1 hc (by omega) (by omega)
    rw [hsA] at hrun hrow hs2
    have hk := hkA.trans hk2
    have hP2 : P (W.heap.size + 1) := hP _ (by omega)
    have hb2 : W2.heap[R]? = some (.cells #[.slice base l.length c, .int .i64 s] 70) := (hk.block R hRW (by simp)).trans hb
    have hD2 : DataAt P W2 R (.slice (some ⟨W.heap.size + 1, 0, none⟩) (l ++ [none]).length cap) (l ++ [none]) dv := fun i f ver hi => by
      obtain ⟨a, c', h1, h2, h3, h4, h5, h6, h7, h8⟩ := hd i f ver (get_snoc hi)
      exact ⟨a, c', h1, h2, h3.kept hk (by simp), h4, Nat.lt_of_lt_of_le h5 hk.size, h6, h7, fun e => by have e' : a.block = W.heap.size + 1 := Option.some.inj e; omega⟩
    have hnew := RefIs.newRow hb2 hp hD2 (by rw [hlen]; exact hcap) (by omega) hP2 hrow (fun k j hk hj => by
      rw [getD_snoc l k]
      rw [hlen] at hk
      unfold joinedV
      by_cases h1 : k < l.length
      · rw [if_pos (by omega), hff k j h1 hj]
      · rw [if_neg (by omega), if_pos (by omega), List.getD_eq_getElem?_getD, List.getElem?_eq_none (l := l) (by omega)]
        rw [show k * 8 + j - l.length * 8 = j from by omega]
        rfl)
    rw [hlen] at hnew
    have hkR := (Kept.refl (fun b => b = R) W2).setCell (p := ⟨R, 0, none⟩) (fun _ => rfl) (.slice (some ⟨W.heap.size + 1, 0, none⟩) (l.length + 1) cap)
    exact ⟨_, _, hrun, hk.block R hRW (by simp), {
      ref := hnew
      box := (hkR.block _ (by omega) (by omega)).trans ((hk.block _ hHW (by simp)).trans hbox)
      bytes := (hby.kept hk (by simp)).kept hkR (fun z hz => by cases hz; omega)
      own := fun b hb => by
        have e' : W.heap.size + 1 = b := Option.some.inj hb
        exact ⟨by omega, by omega, fun h => by omega⟩
      kept := (hkept.trans (hk.mono fun _ _ h => h.elim)).trans (hkR.mono fun _ _ h => .inl h)
      hR := hR
      ha := ⟨ha.1, Nat.lt_of_lt_of_le ha.2 (Nat.le_trans hk.size hkR.size)⟩
      spot := hsp
      pa := hpa
      le := hle }⟩
  rcases hr with ⟨e, e2⟩ | ⟨B, c, g, e, h1, h2, h3, h4, h5⟩
  · simp only at e2
    subst e2
    exact grow none 0 (fun _ => default) e (.inl rfl) (by simp) (fun k j hk => by simp at hk)
  · by_cases hroom : l.length + 1 ≤ c
    · subst e
      obtain ⟨W2, hrun, hrow, hs2, hk2⟩ := room_row (P := Try.prog) 68 68 68 84 und68 und68 info84 (K := 8) (by omega) (hkA.row h4 (by simp)) hz hz1 (n := l.length) (m := 1) (c := c) (k := 1) (off := 0) hroom (by omega)
      have hk : Kept (fun b => b = B) W W2 := (hkA.mono fun _ _ h => h.elim).then hk2 fun _ _ h => h
      have hob := hown B rfl
      have hb2 : W2.heap[R]? = some (.cells #[.slice (some ⟨B, 0, none⟩) l.length c, .int .i64 s] 70) := (hk.block R hRW (fun h => h2 h.symm)).trans hb
      have hD2 : DataAt P W2 R (.slice (some ⟨B, 0, none⟩) (l ++ [none]).length c) (l ++ [none]) dv := fun i f ver hi => by
        obtain ⟨a, c', g1, g2, g3, g4, g5, g6, g7, g8⟩ := hd i f ver (get_snoc hi)
        exact ⟨a, c', g1, g2, g3.kept hk (fun z hz => by cases hz; exact fun h => g8 (congrArg some h)), g4, Nat.lt_of_lt_of_le g5 hk.size, g6, g7, g8⟩
      have hnew := RefIs.newRow hb2 hp hD2 (by rw [hlen]; exact hroom) h2 h3 hrow (fun k j hk hj => by
        rw [getD_snoc l k]
        rw [hlen] at hk
        by_cases h1 : k < l.length
        · rw [if_neg (by omega)]; exact h5 k j h1 hj
        · rw [if_pos (by omega), List.getD_eq_getElem?_getD, List.getElem?_eq_none (l := l) (by omega)]
          rw [show k * 8 + j - (0 + l.length * 8) = j from by omega]
          rfl)
      rw [hlen] at hnew
      have hkR := (Kept.refl (fun b => b = R) W2).setCell (p := ⟨R, 0, none⟩) (fun _ => rfl) (.slice (some ⟨B, 0, none⟩) (l.length + 1) c)
      have hkB : Kept (fun b => b = R ∨ some b = v.ownBlock) w W2 := hkept.then hk fun i hi e => by subst e; exact .inr (hob.2.2 hi).symm
      exact ⟨_, _, hrun, hk.block R hRW (fun h => h2 h.symm), {
        ref := hnew
        box := (hkR.block _ (by have := hk.size; omega) (by omega)).trans ((hk.block _ hHW (fun h => hob.1 h.symm)).trans hbox)
        bytes := (hby.kept hk (fun z hz => by cases hz; exact fun h => hob.2.1 h.symm)).kept hkR (fun z hz => by cases hz; omega)
        own := fun b hb => hown b hb
        kept := hkB.trans (hkR.mono fun _ _ h => .inl h)
        hR := hR
        ha := ⟨ha.1, Nat.lt_of_lt_of_le ha.2 (Nat.le_trans hk.size hkR.size)⟩
        spot := hsp
        pa := hpa
        le := hle }⟩
    · exact grow (some ⟨B, 0, none⟩) c g e ((Cells.of_row h4 0 (l.length * 8) (by have h1' : l.length ≤ c := h1; have := Nat.mul_le_mul_right 8 h1'; omega)).congr (fun j _ => by rw [Nat.zero_add])) (by omega) h5

/-- The first free slot from k on. -/
def ffFrom (l : List Slot) (k : Nat) : Nat := k + firstFree (l.drop k)

theorem ffFrom_zero (l : List Slot) : ffFrom l 0 = firstFree l := by simp [ffFrom]
theorem ffFrom_end (l : List Slot) : ffFrom l l.length = l.length := by simp [ffFrom, firstFree]
theorem ffFrom_none {l : List Slot} {k : Nat} (hk : k < l.length) (h : l.getD k none = none) : ffFrom l k = k := by
  have h1 : l[k] = none := by rw [← h, getD_of (List.getElem?_eq_getElem hk)]
  unfold ffFrom firstFree
  rw [List.drop_eq_getElem_cons hk, List.findIdx_cons, h1]
  rfl
theorem ffFrom_some {l : List Slot} {k : Nat} {p : Nat × Ver} (hk : k < l.length) (h : l.getD k none = some p) : ffFrom l k = ffFrom l (k + 1) := by
  have h1 : l[k] = some p := by rw [← h, getD_of (List.getElem?_eq_getElem hk)]
  unfold ffFrom firstFree
  rw [List.drop_eq_getElem_cons hk, List.findIdx_cons, h1]
  simp
  omega
theorem ffFrom_le {l : List Slot} {k : Nat} (hk : k ≤ l.length) : ffFrom l k ≤ l.length := by
  unfold ffFrom
  have := firstFree_le (l.drop k)
  rw [List.length_drop] at this
  omega

end Go.Proofs.Ytffbfgmhfnbmfaa
