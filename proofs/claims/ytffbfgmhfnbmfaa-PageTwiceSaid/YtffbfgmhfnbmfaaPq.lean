/- Pages in plain numbers: all versions moved to the end; one more. -/
import Derived.Test.YtffbfgmhfnbmfaaPo
namespace Go.Proofs.Ytffbfgmhfnbmfaa

/-- What the first i versions take. -/
def szN (l : List Slot) : Nat → Nat
  | 0 => 0
  | i + 1 => szN l i + sizeOfS (l.getD i none)

def atN (l : List Slot) : Nat → Nat
  | 0 => 512
  | i + 1 => atN l i - sizeOfS (l.getD i none)

def cpS (l : List Slot) (i : Nat) : Slot := match l.getD i none with
  | some (_, v) => some (atN l (i + 1), v)
  | none => none

def cpN (l : List Slot) : Nat → List Slot
  | 0 => []
  | i + 1 => cpN l i ++ [cpS l i]

theorem cpN_length (l : List Slot) (i : Nat) : (cpN l i).length = i := by
  induction i with
  | zero => rfl
  | succ i ih => simp [cpN, ih]

theorem cpN_get (l : List Slot) (i j : Nat) (h : j < i) : (cpN l i)[j]? = some (cpS l j) := by
  induction i with
  | zero => omega
  | succ i ih =>
    simp only [cpN]
    by_cases e : j < i
    · rw [List.getElem?_append_left (by rw [cpN_length]; exact e)]; exact ih e
    · obtain rfl : j = i := by omega
      rw [List.getElem?_append_right (by rw [cpN_length]; exact Nat.le_refl _), cpN_length, Nat.sub_self]
      rfl

theorem szN_mono (l : List Slot) {i j : Nat} (h : i ≤ j) : szN l i ≤ szN l j := by
  induction h with
  | refl => exact Nat.le_refl _
  | step _ ih => simp only [szN]; omega

theorem sumS_szN (l : List Slot) : sumS l = 4 * l.length + szN l l.length := by
  have key : ∀ k, k ≤ l.length → sumS (l.take k) = 4 * k + szN l k := by
    intro k
    induction k with
    | zero => intro _; rfl
    | succ k ih =>
      intro hk
      have hkl : k < l.length := by omega
      rw [List.take_succ_eq_append_getElem hkl, sumS_append, ih (by omega), szN, getD_of (List.getElem?_eq_getElem hkl)]
      simp only [sumS, List.map_cons, List.map_nil, List.sum_cons, List.sum_nil]
      omega
  have := key l.length (Nat.le_refl _)
  rwa [List.take_length] at this

theorem atN_szN {l : List Slot} (h : szN l l.length ≤ 512) : ∀ i, i ≤ l.length → atN l i + szN l i = 512 := by
  intro i
  induction i with
  | zero => intro _; rfl
  | succ i ih =>
    intro hi
    have h1 := ih (by omega)
    have h2 := szN_mono l hi
    simp only [atN, szN] at h2 ⊢
    omega

theorem cpS_some {l : List Slot} {i f : Nat} {v : Ver} (h : cpS l i = some (f, v)) : ∃ f0, l.getD i none = some (f0, v) ∧ f = atN l (i + 1) := by
  unfold cpS at h
  cases hg : l.getD i none with
  | none => rw [hg] at h; cases h
  | some fv =>
    rw [hg] at h
    simp only [Option.some.injEq, Prod.mk.injEq] at h
    exact ⟨fv.1, by rw [← h.2], h.1.symm⟩

theorem sizeOfS_get {l : List Slot} {i f : Nat} {v : Ver} (h : l.getD i none = some (f, v)) : sizeOfS (l.getD i none) = v.size := by rw [h]; rfl

theorem cp_get {l : List Slot} {i j f : Nat} {v : Ver} (h : (cpN l i)[j]? = some (some (f, v))) : j < i ∧ (∃ f0, l.getD j none = some (f0, v)) ∧ f = atN l (j + 1) := by
  have hj : j < i := by have := (List.getElem?_eq_some_iff.1 h).1; rwa [cpN_length] at this
  rw [cpN_get l i j hj] at h
  obtain ⟨f0, h1, h2⟩ := cpS_some (Option.some.inj h)
  exact ⟨hj, ⟨f0, h1⟩, h2⟩

theorem cp_apart {l : List Slot} (h : szN l l.length ≤ 512) {i : Nat} (hi : i ≤ l.length) : Apart (cpN l i) := by
  have key : ∀ (k k' f : Nat) (v : Ver) (f' : Nat) (v' : Ver), k < k' → (cpN l i)[k]? = some (some (f, v)) → (cpN l i)[k']? = some (some (f', v')) → f' + v'.size ≤ f := by
    intro k k' f v f' v' hlt h1 h2
    obtain ⟨a1, ⟨g1, b1⟩, rfl⟩ := cp_get h1
    obtain ⟨a2, ⟨g2, b2⟩, rfl⟩ := cp_get h2
    have e1 := atN_szN h (k + 1) (by omega)
    have e2 := atN_szN h (k' + 1) (by omega)
    have e3 := szN_mono l (show k + 1 ≤ k' by omega)
    have e4 : szN l (k' + 1) = szN l k' + v'.size := by simp only [szN]; rw [sizeOfS_get b2]
    omega
  intro k k' f v f' v' hne h1 h2
  rcases Nat.lt_or_gt_of_ne hne with hl | hl
  · exact .inr (key k k' f v f' v' hl h1 h2)
  · exact .inl (key k' k f' v' f v hl h2 h1)

theorem cp_data_none {l : List Slot} {i : Nat} (hn : l.getD i none = none) : dataOf (cpN l (i + 1)) = dataOf (cpN l i) := by
  have : cpN l (i + 1) = cpN l i ++ List.replicate 1 none := by
    simp only [cpN, List.replicate]
    unfold cpS
    rw [hn]
  rw [this, dataOf_append_none]

theorem cp_data_some {l : List Slot} (h : szN l l.length ≤ 512) {i f : Nat} {v : Ver} (hi : i < l.length) (hn : l.getD i none = some (f, v)) :
    dataOf (cpN l (i + 1)) = over (dataOf (cpN l i)) (atN l (i + 1)) v.size v.byte := by
  have e : cpN l (i + 1) = (cpN l i ++ [none]).set i (some (atN l (i + 1), v)) := by
    rw [List.set_append_right _ _ (by rw [cpN_length]; exact Nat.le_refl _), cpN_length, Nat.sub_self]
    simp only [cpN, List.set_cons_zero]
    unfold cpS
    rw [hn]
  funext j
  rw [e, dataOf_put (by rw [List.getElem?_append_right (by rw [cpN_length]; exact Nat.le_refl _), cpN_length, Nat.sub_self]; rfl) (by rw [← e]; exact cp_apart h (by omega))]
  unfold over
  have : dataOf (cpN l i ++ [none]) = dataOf (cpN l i) := dataOf_append_none _ 1
  rw [this]

theorem cp_step (l : List Slot) {i : Nat} (hi : i < l.length) : (cpN l i ++ l.drop i).set i (cpS l i) = cpN l (i + 1) ++ l.drop (i + 1) := by
  rw [List.set_append_right _ _ (by rw [cpN_length]; exact Nat.le_refl _), cpN_length, Nat.sub_self, List.drop_eq_getElem_cons hi, List.set_cons_zero, cpN, List.append_assoc]
  rfl

theorem cp_step_none (l : List Slot) {i : Nat} (hi : i < l.length) (hn : l.getD i none = none) : cpN l i ++ l.drop i = cpN l (i + 1) ++ l.drop (i + 1) := by
  have h1 : l[i] = none := by rw [← hn, getD_of (List.getElem?_eq_getElem hi)]
  rw [List.drop_eq_getElem_cons hi, cpN, List.append_assoc, h1]
  unfold cpS
  rw [hn]
  rfl

theorem cp_len (l : List Slot) {i : Nat} (hi : i ≤ l.length) : (cpN l i ++ l.drop i).length = l.length := by
  rw [List.length_append, cpN_length, List.length_drop]; omega

/-- The bytes in the middle of the move. -/
def midF (st : St) (i : Nat) : Nat → Nat := encG st.slots.length st.start (cpN st.slots i ++ st.slots.drop i) (dataOf (cpN st.slots i))

def compactA (st : St) : St := ⟨cpN st.slots st.slots.length, atN st.slots st.slots.length⟩

theorem Wf.sz {st : St} (h : Wf st) : 4 + 4 * st.slots.length + szN st.slots st.slots.length ≤ 512 := by have := h.sum; rw [sumS_szN] at this; omega

theorem Wf.compact {st : St} (h : Wf st) : Wf (compactA st) where
  low := by
    show 4 + 4 * (cpN st.slots st.slots.length).length ≤ atN st.slots st.slots.length
    rw [cpN_length]
    have := h.sz; have := atN_szN (by omega) st.slots.length (Nat.le_refl _)
    omega
  high := by
    show atN st.slots st.slots.length ≤ 512
    have := h.sz; have := atN_szN (by omega) st.slots.length (Nat.le_refl _)
    omega
  inn := fun k f v hk => by
    obtain ⟨h1, ⟨f0, h2⟩, rfl⟩ := cp_get hk
    have hs := h.sz
    have e1 := atN_szN (by omega) (k + 1) (by omega : k + 1 ≤ st.slots.length)
    have e2 := atN_szN (by omega) st.slots.length (Nat.le_refl _)
    have e3 := szN_mono st.slots (show k + 1 ≤ st.slots.length by omega)
    have e4 : szN st.slots (k + 1) = szN st.slots k + v.size := by simp only [szN]; rw [sizeOfS_get h2]
    refine ⟨?_, by omega, ?_⟩
    · show atN st.slots st.slots.length ≤ _
      omega
    · refine (h.inn k f0 v ?_).2.2
      rw [← h2, List.getD_eq_getElem?_getD, List.getElem?_eq_getElem h1, Option.getD_some]
  apart := fun k k' f v f' v' hlt h1 h2 => cp_apart (by have := h.sz; omega) (Nat.le_refl _) k k' f v f' v' (by omega) h1 h2
  sum := by
    have key : ∀ i, i ≤ st.slots.length → sumS (cpN st.slots i) = 4 * i + szN st.slots i := by
      intro i
      induction i with
      | zero => intro _; rfl
      | succ i ih =>
        intro hi
        rw [cpN, sumS_append, ih (by omega), szN]
        have : sumS [cpS st.slots i] = 4 + sizeOfS (st.slots.getD i none) := by
          unfold cpS
          cases st.slots.getD i none with
          | none => rfl
          | some fv => simp [sumS, sizeOfS]
        omega
    show 4 + sumS (cpN st.slots st.slots.length) ≤ 512
    rw [key _ (Nat.le_refl _)]
    have := h.sz
    omega

theorem midF_last {st : St} : lay (lay (midF st st.slots.length) 0 st.slots.length 2) 2 (atN st.slots st.slots.length) 2 = enc (compactA st) := by
  unfold midF
  rw [encG_set, List.drop_length, List.append_nil]
  unfold enc compactA
  show _ = encG (cpN st.slots st.slots.length).length _ _ _
  rw [cpN_length]

theorem midF_none {st : St} {i : Nat} (hi : i < st.slots.length) (hn : st.slots.getD i none = none) : midF st i = midF st (i + 1) := by
  unfold midF
  rw [cp_step_none _ hi hn, cp_data_none hn]

theorem midF_some {st : St} (h : Wf st) {i f : Nat} {v : Ver} (hi : i < st.slots.length) (hn : st.slots.getD i none = some (f, v)) :
    lay (lay (over (midF st i) (atN st.slots (i + 1)) v.size v.byte) (4 + 4 * i) (atN st.slots (i + 1)) 2) (4 + 4 * i + 2) v.size 2 = midF st (i + 1) := by
  have hs := h.sz
  have e1 := atN_szN (by omega) (i + 1) (by omega : i + 1 ≤ st.slots.length)
  have e3 := szN_mono st.slots (show i + 1 ≤ st.slots.length by omega)
  have hlen := cp_len st.slots (show i ≤ st.slots.length by omega)
  unfold midF
  rw [encG_over _ _ _ _ _ _ _ (by rw [hlen]; omega), ← cp_data_some (by omega) hi hn]
  have e2 := encG_point st.slots.length st.start (cpN st.slots i ++ st.slots.drop i) (dataOf (cpN st.slots (i + 1))) i (cpS st.slots i) (by rw [hlen]; exact hi)
  have e4 : cpS st.slots i = some (atN st.slots (i + 1), v) := by unfold cpS; rw [hn]
  rw [cp_step _ hi] at e2
  rw [e4] at e2
  exact e2

/-! One more. -/

def growK (l : List Slot) (k : Nat) : List Slot := if k = l.length then l ++ [none] else l

theorem growK_len (l : List Slot) (k : Nat) (hk : k ≤ l.length) : (growK l k).length = max l.length (k + 1) := by
  unfold growK
  split
  · simp; omega
  · omega

theorem growK_get {l : List Slot} {k : Nat} (hk : k = l.length ∨ l[k]? = some none) : (growK l k)[k]? = some none := by
  unfold growK
  split
  · rename_i h; subst h; simp
  · exact hk.resolve_left (by assumption)

theorem growK_old {l : List Slot} {k j : Nat} {f : Nat} {v : Ver} (h : (growK l k)[j]? = some (some (f, v))) : l[j]? = some (some (f, v)) := by
  unfold growK at h
  split at h
  · by_cases hj : j < l.length
    · rwa [List.getElem?_append_left hj] at h
    · rw [List.getElem?_append_right (by omega)] at h
      cases hjl : j - l.length with
      | zero => rw [hjl] at h; simp at h
      | succ n => rw [hjl] at h; simp at h
  · exact h

theorem growK_sum (l : List Slot) (k : Nat) : sumS (growK l k) = sumS l + (if k = l.length then 4 else 0) := by
  unfold growK
  split
  · rw [sumS_append]; rfl
  · rfl

def laidA (st : St) (k : Nat) (v : Ver) : St := ⟨(growK st.slots k).set k (some (st.start - v.size, v)), st.start - v.size⟩

theorem Wf.laid {st : St} (h : Wf st) {k : Nat} {v : Ver} (hk : k = st.slots.length ∨ st.slots[k]? = some none) (hv : v.Ok)
    (hlow : v.size + (4 + 4 * (growK st.slots k).length) ≤ st.start) (hsum : 4 + sumS (growK st.slots k) + v.size ≤ 512) : Wf (laidA st k v) where
  low := by show 4 + 4 * ((growK st.slots k).set k _).length ≤ st.start - v.size; rw [List.length_set]; omega
  high := by show st.start - v.size ≤ 512; have := h.high; omega
  inn := fun k1 f1 v1 h1 => by
    have hh := h.high
    rcases set_get h1 with ⟨_, e⟩ | ⟨_, e⟩
    · cases e
      exact ⟨Nat.le_refl _, by omega, hv⟩
    · have := h.inn k1 f1 v1 (growK_old e)
      exact ⟨by show st.start - v.size ≤ f1; omega, this.2⟩
  apart := fun k1 k2 f1 v1 f2 v2 hlt h1 h2 => by
    rcases set_get h1 with ⟨e, e1⟩ | ⟨e, e1⟩
    · rcases set_get h2 with ⟨e', e2⟩ | ⟨e', e2⟩
      · omega
      · cases e1
        have := h.inn k2 f2 v2 (growK_old e2)
        exact .inl (by omega)
    · rcases set_get h2 with ⟨e', e2⟩ | ⟨e', e2⟩
      · cases e2
        have := h.inn k1 f1 v1 (growK_old e1)
        exact .inr (by omega)
      · exact h.apart k1 k2 f1 v1 f2 v2 hlt (growK_old e1) (growK_old e2)
  sum := by
    show 4 + sumS ((growK st.slots k).set k (some (st.start - v.size, v))) ≤ 512
    have hg := growK_get hk
    have := sumS_set (l := growK st.slots k) (k := k) (t := some (st.start - v.size, v)) (List.getElem?_eq_some_iff.1 hg).1
    rw [getD_of hg] at this
    have h0 : sizeOfS none = 0 := rfl
    have h1 : sizeOfS (some (st.start - v.size, v)) = v.size := rfl
    omega

theorem enc_laid {st : St} (h : Wf st) {k : Nat} {v : Ver} (hk : k = st.slots.length ∨ st.slots[k]? = some none) (hv : v.Ok)
    (hlow : v.size + (4 + 4 * (growK st.slots k).length) ≤ st.start) (hsum : 4 + sumS (growK st.slots k) + v.size ≤ 512) :
    lay (lay (over (lay (lay (enc st) 0 (growK st.slots k).length 2) 2 (st.start - v.size) 2) (st.start - v.size) v.size v.byte) (4 + 4 * k) (st.start - v.size) 2) (4 + 4 * k + 2) v.size 2 = enc (laidA st k v) := by
  have hW := h.laid hk hv hlow hsum
  have hg := growK_get hk
  have hgl : k < (growK st.slots k).length := (List.getElem?_eq_some_iff.1 hg).1
  unfold enc
  rw [encG_set]
  have e0 : encG (growK st.slots k).length (st.start - v.size) st.slots (dataOf st.slots) = encG (growK st.slots k).length (st.start - v.size) (growK st.slots k) (dataOf (growK st.slots k)) := by
    unfold growK
    split
    · have e1 : dataOf (st.slots ++ [none]) = dataOf st.slots := dataOf_append_none _ 1
      rw [e1]
      refine (encG_free _ _ _ _ 1 fun i h1 h2 => h.low_zero ?_).symm
      have : (growK st.slots k).length = st.slots.length + 1 := by unfold growK; rw [if_pos (by assumption)]; simp
      omega
    · rfl
  rw [e0, encG_over _ _ _ _ _ _ _ (by omega)]
  have e2 : over (dataOf (growK st.slots k)) (st.start - v.size) v.size v.byte = dataOf ((growK st.slots k).set k (some (st.start - v.size, v))) := by
    funext i
    rw [dataOf_put hg hW.apt]
    rfl
  rw [e2]
  have e3 := encG_point (growK st.slots k).length (st.start - v.size) (growK st.slots k) (dataOf ((growK st.slots k).set k (some (st.start - v.size, v)))) k (some (st.start - v.size, v)) hgl
  simp only [fromOf, sizeOfS] at e3
  rw [e3]
  show _ = encG ((growK st.slots k).set k (some (st.start - v.size, v))).length _ _ _
  rw [List.length_set]
  rfl

/-- A version is put: where there is room. -/
def putA (st : St) (v : Ver) : St :=
  laidA (if st.start < v.size + (4 + 4 * (growK st.slots (firstFree st.slots)).length) then compactA st else st) (firstFree st.slots) v

theorem firstFree_le (l : List Slot) : firstFree l ≤ l.length := List.findIdx_le_length

theorem firstFree_get (l : List Slot) : firstFree l = l.length ∨ l[firstFree l]? = some none := by
  by_cases h : firstFree l < l.length
  · right
    have h1 := List.findIdx_getElem (w := h)
    have h2 : (l[firstFree l]).isSome = false := by
      show (l[List.findIdx (fun s => !s.isSome) l]).isSome = false
      simpa using h1
    rw [List.getElem?_eq_getElem h]
    cases hs : l[firstFree l] with
    | none => rfl
    | some x => rw [hs] at h2; cases h2
  · left; have := firstFree_le l; omega

theorem firstFree_compact (st : St) : firstFree st.slots = (compactA st).slots.length ∨ (compactA st).slots[firstFree st.slots]? = some none := by
  show _ = (cpN st.slots st.slots.length).length ∨ (cpN st.slots st.slots.length)[firstFree st.slots]? = some none
  rw [cpN_length]
  rcases firstFree_get st.slots with h | h
  · exact .inl h
  · right
    rw [cpN_get _ _ _ (List.getElem?_eq_some_iff.1 h).1]
    unfold cpS
    rw [getD_of h]

theorem room_sum {l : List Slot} {n : Nat} (h : (n : Int) ≤ roomA l) : 4 + sumS (growK l (firstFree l)) + (30 + n) ≤ 512 := by
  unfold roomA at h
  rw [growK_sum]
  by_cases e : firstFree l = l.length
  · rw [if_pos e] at h ⊢; omega
  · rw [if_neg e] at h ⊢; omega

end Go.Proofs.Ytffbfgmhfnbmfaa
