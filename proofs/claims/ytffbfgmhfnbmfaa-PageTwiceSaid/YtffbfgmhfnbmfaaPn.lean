/- Pages in plain numbers: where data lie; what is read. -/
import Derived.Test.YtffbfgmhfnbmfaaPm
namespace Go.Proofs.Ytffbfgmhfnbmfaa

/-- No two versions share a byte. -/
def Apart (l : List Slot) : Prop := ∀ (k k' f : Nat) (v : Ver) (f' : Nat) (v' : Ver), k ≠ k' → l[k]? = some (some (f, v)) → l[k']? = some (some (f', v')) → f + v.size ≤ f' ∨ f' + v'.size ≤ f

theorem Wf.apt {st : St} (h : Wf st) : Apart st.slots := fun k k' f v f' v' hne h1 h2 => by
  rcases Nat.lt_or_gt_of_ne hne with hl | hl
  · exact h.apart k k' f v f' v' hl h1 h2
  · exact (h.apart k' k f' v' f v hl h2 h1).symm

theorem owns_some {f : Nat} {v : Ver} {i : Nat} : owns (some (f, v)) i = true ↔ f ≤ i ∧ i < f + v.size := by simp [owns]

theorem dataOf_own {l : List Slot} (ha : Apart l) {k f i : Nat} {v : Ver} (hk : l[k]? = some (some (f, v))) (h1 : f ≤ i) (h2 : i < f + v.size) : dataOf l i = v.byte (i - f) := by
  unfold dataOf
  cases hf : l.find? (owns · i) with
  | none =>
    have := List.find?_eq_none.1 hf (some (f, v)) (List.mem_of_getElem? hk)
    simp [owns, h1, h2] at this
  | some s =>
    have ho := List.find?_some hf
    obtain ⟨k', hk'⟩ := List.getElem?_of_mem (List.mem_of_find?_eq_some hf)
    cases s with
    | none => simp [owns] at ho
    | some fv =>
      obtain ⟨f', v'⟩ := fv
      have ho' := owns_some.1 ho
      by_cases e : k = k'
      · subst e
        rw [hk] at hk'
        simp only [Option.some.injEq, Prod.mk.injEq] at hk'
        obtain ⟨rfl, rfl⟩ := hk'
        rfl
      · have := ha k k' f v f' v' e hk hk'
        omega

theorem dataOf_none {l : List Slot} {i : Nat} (h : ∀ (k f : Nat) (v : Ver), l[k]? = some (some (f, v)) → ¬ (f ≤ i ∧ i < f + v.size)) : dataOf l i = 0 := by
  unfold dataOf
  cases hf : l.find? (owns · i) with
  | none => rfl
  | some s =>
    have ho := List.find?_some hf
    obtain ⟨k', hk'⟩ := List.getElem?_of_mem (List.mem_of_find?_eq_some hf)
    cases s with
    | none => simp [owns] at ho
    | some fv => exact absurd (owns_some.1 ho) (h k' fv.1 fv.2 hk')

/-- Either one owns a byte or nobody does. -/
theorem dataOf_cases {l : List Slot} (ha : Apart l) (i : Nat) :
    (∃ (k f : Nat) (v : Ver), l[k]? = some (some (f, v)) ∧ f ≤ i ∧ i < f + v.size ∧ dataOf l i = v.byte (i - f)) ∨ ((∀ (k f : Nat) (v : Ver), l[k]? = some (some (f, v)) → ¬ (f ≤ i ∧ i < f + v.size)) ∧ dataOf l i = 0) := by
  by_cases h : ∃ (k f : Nat) (v : Ver), l[k]? = some (some (f, v)) ∧ f ≤ i ∧ i < f + v.size
  · obtain ⟨k, f, v, hk, h1, h2⟩ := h
    exact .inl ⟨k, f, v, hk, h1, h2, dataOf_own ha hk h1 h2⟩
  · have h' : ∀ (k f : Nat) (v : Ver), l[k]? = some (some (f, v)) → ¬ (f ≤ i ∧ i < f + v.size) := fun k f v hk hh => h ⟨k, f, v, hk, hh.1, hh.2⟩
    exact .inr ⟨h', dataOf_none h'⟩

theorem set_get {l : List Slot} {k k' : Nat} {s t : Slot} (h : (l.set k s)[k']? = some t) : (k' = k ∧ t = s) ∨ (k' ≠ k ∧ l[k']? = some t) := by
  rw [List.getElem?_set] at h
  by_cases e : k = k'
  · subst e
    rw [if_pos rfl] at h
    by_cases hl : k < l.length
    · rw [if_pos hl] at h; exact .inl ⟨rfl, (Option.some.inj h).symm⟩
    · rw [if_neg hl] at h; cases h
  · rw [if_neg e] at h; exact .inr ⟨fun e' => e e'.symm, h⟩

/-- A version laid into a slot that was free. -/
theorem dataOf_put {l : List Slot} {k f : Nat} {v : Ver} (hk : l[k]? = some none) (ha : Apart (l.set k (some (f, v)))) (i : Nat) :
    dataOf (l.set k (some (f, v))) i = if f ≤ i ∧ i < f + v.size then v.byte (i - f) else dataOf l i := by
  have hlen : k < l.length := (List.getElem?_eq_some_iff.1 hk).1
  by_cases h : f ≤ i ∧ i < f + v.size
  · rw [if_pos h]
    exact dataOf_own ha (k := k) (by rw [List.getElem?_set_self hlen]) h.1 h.2
  · rw [if_neg h]
    have ha' : Apart l := fun k1 k2 f1 v1 f2 v2 hne h1 h2 => by
      have e1 : k ≠ k1 := fun e => by subst e; rw [hk] at h1; cases h1
      have e2 : k ≠ k2 := fun e => by subst e; rw [hk] at h2; cases h2
      exact ha k1 k2 f1 v1 f2 v2 hne (by rw [List.getElem?_set_ne e1]; exact h1) (by rw [List.getElem?_set_ne e2]; exact h2)
    rcases dataOf_cases ha' i with ⟨k1, f1, v1, hk1, h1, h2, hd⟩ | ⟨hno, hd⟩
    · have e1 : k ≠ k1 := fun e => by subst e; rw [hk] at hk1; cases hk1
      rw [hd]
      exact dataOf_own ha (k := k1) (by rw [List.getElem?_set_ne e1]; exact hk1) h1 h2
    · rw [hd]
      refine dataOf_none fun k1 f1 v1 hk1 hh => ?_
      rcases set_get hk1 with ⟨_, e⟩ | ⟨_, e⟩
      · simp only [Option.some.injEq, Prod.mk.injEq] at e
        obtain ⟨rfl, rfl⟩ := e
        exact h hh
      · exact hno k1 f1 v1 e hh

theorem Apart.clear {l : List Slot} (ha : Apart l) (k : Nat) : Apart (l.set k none) := fun k1 k2 f1 v1 f2 v2 hne h1 h2 => by
  rcases set_get h1 with ⟨_, e⟩ | ⟨_, e1⟩
  · cases e
  · rcases set_get h2 with ⟨_, e⟩ | ⟨_, e2⟩
    · cases e
    · exact ha k1 k2 f1 v1 f2 v2 hne e1 e2

/-- A version that goes. -/
theorem dataOf_clear {l : List Slot} {k f : Nat} {v : Ver} (hk : l[k]? = some (some (f, v))) (ha : Apart l) (i : Nat) :
    dataOf (l.set k none) i = if f ≤ i ∧ i < f + v.size then 0 else dataOf l i := by
  by_cases h : f ≤ i ∧ i < f + v.size
  · rw [if_pos h]
    refine dataOf_none fun k1 f1 v1 hk1 hh => ?_
    rcases set_get hk1 with ⟨_, e⟩ | ⟨hne, e⟩
    · cases e
    · have := ha k1 k f1 v1 f v hne e hk
      omega
  · rw [if_neg h]
    rcases dataOf_cases ha i with ⟨k1, f1, v1, hk1, h1, h2, hd⟩ | ⟨hno, hd⟩
    · have e1 : k ≠ k1 := fun e => by
        subst e; rw [hk] at hk1
        simp only [Option.some.injEq, Prod.mk.injEq] at hk1
        obtain ⟨rfl, rfl⟩ := hk1
        exact h ⟨h1, h2⟩
      rw [hd]
      exact dataOf_own (ha.clear k) (k := k1) (by rw [List.getElem?_set_ne e1]; exact hk1) h1 h2
    · rw [hd]
      refine dataOf_none fun k1 f1 v1 hk1 hh => ?_
      rcases set_get hk1 with ⟨_, e⟩ | ⟨_, e⟩
      · cases e
      · exact hno k1 f1 v1 e hh

/-- A version that turns where it lies. -/
theorem dataOf_turn {l : List Slot} {k f : Nat} {v v' : Ver} (hk : l[k]? = some (some (f, v))) (hs : v'.size = v.size) (ha : Apart l) (i : Nat) :
    dataOf (l.set k (some (f, v'))) i = if f ≤ i ∧ i < f + v.size then v'.byte (i - f) else dataOf l i := by
  have hlen : k < l.length := (List.getElem?_eq_some_iff.1 hk).1
  have ha' : Apart (l.set k (some (f, v'))) := fun k1 k2 f1 v1 f2 v2 hne h1 h2 => by
    rcases set_get h1 with ⟨e, e1⟩ | ⟨e, e1⟩
    · rcases set_get h2 with ⟨e', _⟩ | ⟨e', e2⟩
      · omega
      · cases e1
        have := ha k k2 f v f2 v2 (fun x => e' x.symm) hk e2
        omega
    · rcases set_get h2 with ⟨e', e2⟩ | ⟨e', e2⟩
      · cases e2
        have := ha k1 k f1 v1 f v e e1 hk
        omega
      · exact ha k1 k2 f1 v1 f2 v2 hne e1 e2
  by_cases h : f ≤ i ∧ i < f + v.size
  · rw [if_pos h]
    exact dataOf_own ha' (k := k) (by rw [List.getElem?_set_self hlen]) h.1 (by omega)
  · rw [if_neg h]
    rcases dataOf_cases ha i with ⟨k1, f1, v1, hk1, h1, h2, hd⟩ | ⟨hno, hd⟩
    · have e1 : k ≠ k1 := fun e => by
        subst e; rw [hk] at hk1
        simp only [Option.some.injEq, Prod.mk.injEq] at hk1
        obtain ⟨rfl, rfl⟩ := hk1
        exact h ⟨h1, h2⟩
      rw [hd]
      exact dataOf_own ha' (k := k1) (by rw [List.getElem?_set_ne e1]; exact hk1) h1 h2
    · rw [hd]
      refine dataOf_none fun k1 f1 v1 hk1 hh => ?_
      rcases set_get hk1 with ⟨_, e⟩ | ⟨_, e⟩
      · cases e; exact h ⟨hh.1, by omega⟩
      · exact hno k1 f1 v1 e hh

theorem dataOf_append_none (l : List Slot) (m : Nat) : dataOf (l ++ List.replicate m none) = dataOf l := by
  funext i
  unfold dataOf
  rw [List.find?_append]
  have h : (List.replicate m (none : Slot)).find? (owns · i) = none := by
    rw [List.find?_eq_none]
    intro s hs
    rw [List.eq_of_mem_replicate hs]
    simp [owns]
  rw [h]
  simp

/-! What a page tells. -/

def isV (s : Slot) : Bool := s.isSome

theorem getD_of {l : List Slot} {k : Nat} {s : Slot} (h : l[k]? = some s) : l.getD k none = s := by simp [List.getD, h]

theorem Wf.slot_from {st : St} (h : Wf st) (k : Nat) (hk : k < st.slots.length) : fromOf (st.slots.getD k none) + sizeOfS (st.slots.getD k none) ≤ 512 := by
  have hg : st.slots[k]? = some st.slots[k] := List.getElem?_eq_getElem hk
  rw [getD_of hg]
  cases hs : st.slots[k] with
  | none => simp [fromOf, sizeOfS]
  | some fv =>
    rw [hs] at hg
    exact (h.inn k fv.1 fv.2 hg).2.1

theorem Wf.cnt {st : St} (h : Wf st) : cnt (enc st) = st.slots.length := cnt_encG _ _ _ _ (by have := h.low; have := h.high; omega)
theorem Wf.stt {st : St} (h : Wf st) : stt (enc st) = st.start := stt_encG _ _ _ _ (by have := h.high; omega)
theorem Wf.frm {st : St} (h : Wf st) {k : Nat} (hk : k < st.slots.length) : frm (enc st) k = fromOf (st.slots.getD k none) := frm_encG _ _ _ _ _ hk (by have := h.slot_from k hk; omega)
theorem Wf.siz {st : St} (h : Wf st) {k : Nat} (hk : k < st.slots.length) : siz (enc st) k = sizeOfS (st.slots.getD k none) := siz_encG _ _ _ _ _ hk (by have := h.slot_from k hk; omega)

theorem Wf.fits {st : St} (h : Wf st) : Fits (enc st) where
  cnt := by rw [h.cnt]; have := h.low; have := h.high; omega
  fit := fun k hk => by
    rw [h.cnt] at hk
    rw [h.frm hk, h.siz hk]
    exact h.slot_from k hk

theorem size_pos (v : Ver) : 0 < v.size := by unfold Ver.size; omega

theorem Wf.has {st : St} (h : Wf st) (k : Nat) : hasB (enc st) k = (st.slots.getD k none).isSome := by
  unfold hasB
  rw [h.cnt]
  by_cases hk : k < st.slots.length
  · rw [h.siz hk]
    have hg : st.slots[k]? = some st.slots[k] := List.getElem?_eq_getElem hk
    rw [getD_of hg]
    cases st.slots[k] with
    | none => simp [sizeOfS]
    | some fv =>
      have hp : fv.2.size ≠ 0 := by have := size_pos fv.2; omega
      simp [sizeOfS, hk, hp]
  · rw [List.getD_eq_getElem?_getD, List.getElem?_eq_none (by omega)]
    simp [hk]

def firstFree (l : List Slot) : Nat := l.findIdx fun s => !s.isSome

theorem Wf.free {st : St} (h : Wf st) : freeN (enc st) = firstFree st.slots := by
  have key : ∀ g k, k + g = st.slots.length → (∀ j, j < k → (st.slots.getD j none).isSome = true) → freeFrom (enc st) g k = firstFree st.slots := by
    intro g
    induction g with
    | zero =>
      intro k hk hb
      simp only [freeFrom]
      unfold firstFree
      rw [List.findIdx_eq_length_of_false]
      · omega
      · intro s hs
        obtain ⟨j, hj, rfl⟩ := List.getElem_of_mem hs
        have := hb j (by omega)
        rw [getD_of (List.getElem?_eq_getElem hj)] at this
        simp [this]
    | succ g ih =>
      intro k hk hb
      simp only [freeFrom]
      rw [h.has k]
      have hkl : k < st.slots.length := by omega
      cases hs : (st.slots.getD k none).isSome
      · rw [if_neg (by simp)]
        symm
        unfold firstFree
        rw [List.findIdx_eq hkl]
        refine ⟨by rw [getD_of (List.getElem?_eq_getElem hkl)] at hs; simp only [hs]; rfl, fun j hj => ?_⟩
        have := hb j hj
        rw [getD_of (List.getElem?_eq_getElem (by omega))] at this
        simp [this]
      · rw [if_pos rfl]
        refine ih (k + 1) (by omega) fun j hj => ?_
        by_cases e : j = k
        · subst e; exact hs
        · exact hb j (by omega)
  have := key st.slots.length 0 (by omega) (fun j hj => by omega)
  unfold freeN
  rw [h.cnt]
  exact this

theorem Wf.lenB {st : St} (h : Wf st) (k : Nat) : lenB (enc st) k = sizeOfS (st.slots.getD k none) := by
  unfold Ytffbfgmhfnbmfaa.lenB
  rw [h.has]
  by_cases hk : k < st.slots.length
  · rw [h.siz hk]
    cases hs : st.slots.getD k none with
    | none => simp [sizeOfS]
    | some fv => simp
  · rw [List.getD_eq_getElem?_getD, List.getElem?_eq_none (by omega)]
    simp [sizeOfS]

theorem Wf.takes {st : St} (h : Wf st) : takes (enc st) st.slots.length = sumS st.slots := by
  have key : ∀ k, k ≤ st.slots.length → Ytffbfgmhfnbmfaa.takes (enc st) k = sumS (st.slots.take k) := by
    intro k
    induction k with
    | zero => intro _; simp [Ytffbfgmhfnbmfaa.takes, sumS]
    | succ k ih =>
      intro hk
      have hkl : k < st.slots.length := by omega
      rw [Ytffbfgmhfnbmfaa.takes, ih (by omega), h.lenB, List.take_succ_eq_append_getElem hkl, getD_of (List.getElem?_eq_getElem hkl)]
      simp only [sumS, List.map_append, List.map_cons, List.map_nil, List.sum_append, List.sum_cons, List.sum_nil, Nat.add_zero]
  rw [key _ (Nat.le_refl _), List.take_length]

/-- How much one more may have. -/
def roomA (l : List Slot) : Int := max (478 - (sumS l : Int) - (if firstFree l = l.length then 4 else 0)) (-1)

theorem Wf.room {st : St} (h : Wf st) : roomN (enc st) = roomA st.slots := by
  unfold roomN roomA
  rw [h.cnt, h.takes, h.free]

def usedA (l : List Slot) : Nat := l.countP fun s => s.isSome

theorem Wf.used {st : St} (h : Wf st) : usedN (enc st) (Ytffbfgmhfnbmfaa.cnt (enc st)) = usedA st.slots := by
  have key : ∀ k, k ≤ st.slots.length → usedN (enc st) k = usedA (st.slots.take k) := by
    intro k
    induction k with
    | zero => intro _; simp [usedN, usedA]
    | succ k ih =>
      intro hk
      have hkl : k < st.slots.length := by omega
      rw [usedN, ih (by omega), h.has, List.take_succ_eq_append_getElem hkl, getD_of (List.getElem?_eq_getElem hkl)]
      simp only [usedA, List.countP_append, List.countP_cons, List.countP_nil, Nat.zero_add]
  rw [h.cnt, key _ (Nat.le_refl _), List.take_length]

end Go.Proofs.Ytffbfgmhfnbmfaa
