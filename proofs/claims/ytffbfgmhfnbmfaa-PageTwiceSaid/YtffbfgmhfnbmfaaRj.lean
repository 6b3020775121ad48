/- Steps on the way through the reference's Insert. -/
import Derived.Test.YtffbfgmhfnbmfaaRh
namespace Go.Proofs.Ytffbfgmhfnbmfaa
open Go.RowKit

section
variable {P : Nat → Prop} {R : Nat} {v : Value} {ver : Ver} {w : World} {a1 : Addr} {c1 : Nat} {W : World} {v' : Value} {l : List Slot} {s : Nat}

theorem Mid.start (h : Mid P R v ver w a1 c1 W v' ⟨l, s⟩) (s' : Nat) : Mid P R v ver w a1 c1 (W.setCell ⟨R, 1, none⟩ (.int .i64 s')) v' ⟨l, s'⟩ := by
  obtain ⟨href, hbox, hby, hown, hkept, hR, ha, hsp, hpa, hle⟩ := h
  obtain ⟨hb, hp, dv, hr, hd⟩ := href
  have hk := (Kept.refl (fun b => b = R) W).setCell (p := ⟨R, 1, none⟩) (fun _ => rfl) (.int .i64 s')
  have hb' := setBox hb 1 (.int .i64 s')
  have hHW : w.heap.size < W.heap.size := (Array.getElem?_eq_some_iff.1 hbox).1
  exact {
    ref := by
      refine ⟨by simpa using hb', hp, dv, ?_, fun i f ver hi => ?_⟩
      · rcases hr with h0 | ⟨B, cap, g, e, g1, g2, g3, g4, g5⟩
        · exact .inl h0
        · exact .inr ⟨B, cap, g, e, g1, g2, g3, hk.row g4 g2, g5⟩
      · obtain ⟨a, c', g1, g2, g3, g4, g5, g6, g7, g8⟩ := hd i f ver hi
        exact ⟨a, c', g1, g2, g3.kept hk (fun z hz => by cases hz; exact g7), g4, Nat.lt_of_lt_of_le g5 hk.size, g6, g7, g8⟩
    box := (hk.block _ hHW (by omega)).trans hbox
    bytes := hby.kept hk (fun z hz => by cases hz; omega)
    own := hown
    kept := hkept.trans (hk.mono fun _ _ h => .inl h)
    hR := hR
    ha := ⟨ha.1, Nat.lt_of_lt_of_le ha.2 hk.size⟩
    spot := hsp
    pa := hpa
    le := hle }

/-- A slot's cells have turned: all that else stays of the way. -/
theorem Mid.row {B c n : Nat} (h : Mid P R v ver w a1 c1 W (.slice (some ⟨B, 0, none⟩) n c) ⟨l, s⟩) {W' : World} (hk : Kept (· = B) W W') {l' : List Slot} (href : RefIs P W' R (.slice (some ⟨B, 0, none⟩) n c) ⟨l', s⟩) :
    Mid P R v ver w a1 c1 W' (.slice (some ⟨B, 0, none⟩) n c) ⟨l', s⟩ := by
  obtain ⟨href0, hbox, hby, hown, hkept, hR, ha, hsp, hpa, hle⟩ := h
  have hHW : w.heap.size < W.heap.size := (Array.getElem?_eq_some_iff.1 hbox).1
  have hob := hown B rfl
  exact {
    ref := href
    box := (hk.block _ hHW (fun h => hob.1 h.symm)).trans hbox
    bytes := hby.kept hk (fun z hz => by cases hz; exact fun h => hob.2.1 h.symm)
    own := hown
    kept := hkept.then hk fun i hi e => by subst e; exact .inr (hob.2.2 hi).symm
    hR := hR
    ha := ⟨ha.1, Nat.lt_of_lt_of_le ha.2 hk.size⟩
    spot := hsp
    pa := hpa
    le := hle }

theorem RefIs.row {a : Option Addr} {n c : Nat} {st : St} (h : RefIs P W R (.slice a n c) st) (hpos : 0 < st.slots.length) :
    ∃ B dv g, a = some ⟨B, 0, none⟩ ∧ n = st.slots.length ∧ W.heap[R]? = some (.cells #[.slice (some ⟨B, 0, none⟩) st.slots.length c, .int .i64 st.start] 70) ∧ P R ∧ st.slots.length ≤ c ∧ B ≠ R ∧ P B ∧ W.rowIs B 84 (c * 8) g ∧
      (∀ k j, k < st.slots.length → j < 8 → g (k * 8 + j) = slotV (st.slots.getD k none) (dv k) j) ∧ DataAt P W R (.slice (some ⟨B, 0, none⟩) st.slots.length c) st.slots dv := by
  obtain ⟨hb, hp, dv, hr, hd⟩ := h
  rcases hr with ⟨_, e0⟩ | ⟨B, cap, g, e, h1, h2, h3, h4, h5⟩
  · rw [e0] at hpos; simp at hpos
  · simp only [Value.slice.injEq] at e
    obtain ⟨rfl, rfl, rfl⟩ := e
    exact ⟨B, dv, g, rfl, rfl, hb, hp, h1, h2, h3, h4, h5, hd⟩

/-- A slot's place is told anew. -/
theorem Mid.from {B c n i f : Nat} {ver0 : Ver} (h : Mid P R v ver w a1 c1 W (.slice (some ⟨B, 0, none⟩) n c) ⟨l, s⟩) (hi : l[i]? = some (some (f, ver0))) (f' : Nat) :
    Mid P R v ver w a1 c1 (W.setCell ⟨B, i * 8 + 7, none⟩ (.int .i64 f')) (.slice (some ⟨B, 0, none⟩) n c) ⟨l.set i (some (f', ver0)), s⟩ := by
  have hil : i < l.length := (List.getElem?_eq_some_iff.1 hi).1
  have hk := (Kept.refl (fun b => b = B) W).setCell (p := ⟨B, i * 8 + 7, none⟩) (fun _ => rfl) (.int .i64 f')
  obtain ⟨B', dv, g, e, rfl, hb, hp, h1, h2, h3, h4, h5, hd⟩ := h.ref.row (by show 0 < l.length; omega)
  cases e
  refine h.row hk (RefIs.put1 hb hp h1 h2 h3 h5 hd hi hk (h4.set _ _) f' rfl (fun j hj => ?_) (fun k hkk => by rw [if_neg (by omega)]))
  have hgk := fun j hj => (h5 i j hil hj).trans (by rw [getD_of hi])
  match j, hj with
  | 0, _ => rw [if_neg (by omega), hgk 0 (by omega)]; rfl
  | 1, _ => rw [if_neg (by omega), hgk 1 (by omega)]; rfl
  | 2, _ => rw [if_neg (by omega), hgk 2 (by omega)]; rfl
  | 3, _ => rw [if_neg (by omega), hgk 3 (by omega)]; rfl
  | 4, _ => rw [if_neg (by omega), hgk 4 (by omega)]; rfl
  | 5, _ => rw [if_neg (by omega), hgk 5 (by omega)]; rfl
  | 6, _ => rw [if_neg (by omega), hgk 6 (by omega)]; rfl
  | 7, _ => rw [if_pos rfl]; rfl

/-- The new version is laid. -/
theorem Mid.lay {B c n i f' : Nat} (h : Mid P R v ver w a1 c1 W (.slice (some ⟨B, 0, none⟩) n c) ⟨l, s⟩) (hi : i < l.length) :
    RefIs P (store8 W B (i * 8) (.bool true) (.int .u64 ver.row) (.int .u64 ver.x) (.int .u64 ver.y) (.int .i64 ((ver.P : Int) - 1)) (.int .i64 ((ver.S : Int) - 1)) (.slice (some a1) ver.data.length c1) (.int .i64 f')) R (.slice (some ⟨B, 0, none⟩) n c) ⟨l.set i (some (f', ver)), s⟩ ∧
    Kept (fun b => b = R ∨ some b = v.ownBlock) w (store8 W B (i * 8) (.bool true) (.int .u64 ver.row) (.int .u64 ver.x) (.int .u64 ver.y) (.int .i64 ((ver.P : Int) - 1)) (.int .i64 ((ver.S : Int) - 1)) (.slice (some a1) ver.data.length c1) (.int .i64 f')) := by
  have hk := store8_kept W B (i * 8) (.bool true) (.int .u64 ver.row) (.int .u64 ver.x) (.int .u64 ver.y) (.int .i64 ((ver.P : Int) - 1)) (.int .i64 ((ver.S : Int) - 1)) (.slice (some a1) ver.data.length c1) (.int .i64 f')
  have hob := h.own B rfl
  obtain ⟨B', dv, g, e, rfl, hb, hp, h1, h2, h3, h4, h5, hd⟩ := h.ref.row (by show 0 < l.length; omega)
  cases e
  have hrow := store8_row h4 (i * 8) (.bool true) (.int .u64 ver.row) (.int .u64 ver.x) (.int .u64 ver.y) (.int .i64 ((ver.P : Int) - 1)) (.int .i64 ((ver.S : Int) - 1)) (.slice (some a1) ver.data.length c1) (.int .i64 f')
  have hR := (Array.getElem?_eq_some_iff.1 hb).1
  have hne : a1.block ≠ B := fun h => hob.2.1 h.symm
  refine ⟨RefIs.put (dv' := .slice (some a1) ver.data.length c1) ((hk.block R hR (fun h => h2 h.symm)).trans hb) hp h1 h2 h3 h5 hd hi (hk.mono fun _ _ h => .inr h) hrow (fun j hj => ?_) (fun k hkk => by rw [if_neg (by omega)]) (fun f2 ver2 e => ?_), h.kept.then hk fun i hi e => by subst e; exact .inr (hob.2.2 hi).symm⟩
  · rw [if_pos (by omega), Nat.add_sub_cancel_left]
    match j, hj with
    | 0, _ | 1, _ | 2, _ | 3, _ | 4, _ | 5, _ | 6, _ | 7, _ => rfl
  · simp only [Option.some.injEq, Prod.mk.injEq] at e
    obtain ⟨_, rfl⟩ := e
    exact ⟨a1, c1, rfl, h.le, h.bytes.kept hk (fun z hz => by cases hz; exact hne), h.spot, Nat.lt_of_lt_of_le h.ha.2 hk.size, h.pa, by have := h.hR; have := h.ha.1; omega, hne⟩
end

theorem cpN_snoc (l : List Slot) (i : Nat) : cpN (l ++ [none]) i = cpN l i ∧ atN (l ++ [none]) i = atN l i := by
  have hat : ∀ i, atN (l ++ [none]) i = atN l i := by
    intro i
    induction i with
    | zero => rfl
    | succ i ih => unfold atN; rw [ih, getD_snoc]
  refine ⟨?_, hat i⟩
  induction i with
  | zero => rfl
  | succ i ih =>
    unfold cpN
    rw [ih]
    congr 2
    unfold cpS
    rw [getD_snoc, hat]

/-- Grown first, or moved first. -/
theorem compact_grow (l : List Slot) (k : Nat) : cpN (growK l k) (growK l k).length = growK (cpN l l.length) k ∧ atN (growK l k) (growK l k).length = atN l l.length := by
  unfold growK
  by_cases e : k = l.length
  · rw [if_pos e, if_pos (by rw [cpN_length]; exact e)]
    have h1 : (l ++ [(none : Slot)]).length = l.length + 1 := by simp
    rw [h1, (cpN_snoc l _).1, (cpN_snoc l _).2]
    have hn : l.getD l.length none = none := by rw [List.getD_eq_getElem?_getD, List.getElem?_eq_none (Nat.le_refl _)]; rfl
    constructor
    · rw [cpN, show cpS l l.length = none from by unfold cpS; rw [hn]]
    · rw [atN, hn]; rfl
  · rw [if_neg e, if_neg (by rw [cpN_length]; exact e)]
    exact ⟨rfl, rfl⟩

theorem mid_get {l : List Slot} {i : Nat} (hi : i < l.length) : (cpN l i ++ l.drop i)[i]? = some (l.getD i none) := by
  rw [List.getElem?_append_right (by rw [cpN_length]; exact Nat.le_refl _), cpN_length, Nat.sub_self, List.drop_eq_getElem_cons hi, List.getD_eq_getElem?_getD, List.getElem?_eq_getElem hi]
  rfl

theorem mid_getD {l : List Slot} {i : Nat} (hi : i < l.length) : (cpN l i ++ l.drop i).getD i none = l.getD i none := getD_of (mid_get hi)

theorem szN_step {l : List Slot} {i : Nat} : szN l (i + 1) = szN l i + sizeOfS (l.getD i none) := rfl

theorem putA_then {st : St} {v : Ver} (h : st.start < v.size + (4 + 4 * (growK st.slots (firstFree st.slots)).length)) :
    putA st v = ⟨(cpN (growK st.slots (firstFree st.slots)) (growK st.slots (firstFree st.slots)).length).set (firstFree st.slots) (some (atN (growK st.slots (firstFree st.slots)) (growK st.slots (firstFree st.slots)).length - v.size, v)),
      atN (growK st.slots (firstFree st.slots)) (growK st.slots (firstFree st.slots)).length - v.size⟩ := by
  unfold putA
  rw [if_pos h, (compact_grow st.slots _).1, (compact_grow st.slots _).2]
  rfl

theorem putA_else {st : St} {v : Ver} (h : ¬ st.start < v.size + (4 + 4 * (growK st.slots (firstFree st.slots)).length)) :
    putA st v = ⟨(growK st.slots (firstFree st.slots)).set (firstFree st.slots) (some (st.start - v.size, v)), st.start - v.size⟩ := by
  unfold putA
  rw [if_neg h]
  rfl

end Go.Proofs.Ytffbfgmhfnbmfaa
