/- Pages in plain numbers: slots, and the bytes that they make. -/
import Derived.Test.YtffbfgmhfnbmfaaW4
import Derived.Test.YtffbfgmhfnbmfaaBa
namespace Go.Proofs.Ytffbfgmhfnbmfaa

/-- A version; P and S: its next place's numbers, one more. -/
structure Ver where
  row : Nat
  x : Nat
  y : Nat
  P : Nat
  S : Nat
  data : List Nat

abbrev Slot := Option (Nat × Ver)

structure St where
  slots : List Slot
  start : Nat

def Ver.size (v : Ver) : Nat := 30 + v.data.length
def Ver.byte (v : Ver) (j : Nat) : Nat := if j < 30 then head v.row v.x v.y v.P v.S j else v.data.getD (j - 30) 0

structure Ver.Ok (v : Ver) : Prop where
  row : v.row ≤ 1099511627776
  x : v.x ≤ 1099511627776
  y : v.y ≤ 1099511627776
  P : v.P ≤ 65536
  S : v.S ≤ 65535
  len : v.data.length ≤ 200
  byte : ∀ b ∈ v.data, b < 256

def owns (s : Slot) (i : Nat) : Bool := match s with
  | some (f, v) => decide (f ≤ i ∧ i < f + v.size)
  | none => false

/-- The byte that a slot lays at i. -/
def laid (s : Slot) (i : Nat) : Nat := match s with
  | some (f, v) => v.byte (i - f)
  | none => 0

def dataOf (l : List Slot) (i : Nat) : Nat := match l.find? (owns · i) with
  | some s => laid s i
  | none => 0

def byteOf (n r : Nat) : Nat := n / 256 ^ r % 256

def ptrByte (s : Slot) (r : Nat) : Nat := match s with
  | some (f, v) => if r < 2 then byteOf f r else byteOf v.size (r - 2)
  | none => 0

def encG (c s : Nat) (l : List Slot) (data : Nat → Nat) (i : Nat) : Nat :=
  if i < 2 then byteOf c i else if i < 4 then byteOf s (i - 2) else if i < 4 + 4 * l.length then ptrByte (l.getD ((i - 4) / 4) none) ((i - 4) % 4) else data i

def enc (st : St) : Nat → Nat := encG st.slots.length st.start st.slots (dataOf st.slots)

def fromOf (s : Slot) : Nat := match s with | some (f, _) => f | none => 0
def sizeOfS (s : Slot) : Nat := match s with | some (_, v) => v.size | none => 0

/-- What the slots take of a page. -/
def sumS (l : List Slot) : Nat := (l.map fun s => 4 + sizeOfS s).sum

structure Wf (st : St) : Prop where
  low : 4 + 4 * st.slots.length ≤ st.start
  high : st.start ≤ 512
  inn : ∀ (k f : Nat) (v : Ver), st.slots[k]? = some (some (f, v)) → st.start ≤ f ∧ f + v.size ≤ 512 ∧ v.Ok
  apart : ∀ (k k' f : Nat) (v : Ver) (f' : Nat) (v' : Ver), k < k' → st.slots[k]? = some (some (f, v)) → st.slots[k']? = some (some (f', v')) → f + v.size ≤ f' ∨ f' + v'.size ≤ f
  sum : 4 + sumS st.slots ≤ 512

theorem byteOf_lt (n r : Nat) : byteOf n r < 256 := Nat.mod_lt _ (by decide)

theorem Ver.byte_lt {v : Ver} (h : v.Ok) (j : Nat) : v.byte j < 256 := by
  unfold Ver.byte
  split
  · exact head_lt _ _ _ _ _ _
  · by_cases hj : j - 30 < v.data.length
    · rw [List.getD_eq_getElem?_getD, List.getElem?_eq_getElem hj, Option.getD_some]
      exact h.byte _ (List.getElem_mem hj)
    · rw [List.getD_eq_getElem?_getD, List.getElem?_eq_none (by omega), Option.getD_none]; omega

theorem dataOf_lt {l : List Slot} (h : ∀ (f : Nat) (v : Ver), some (f, v) ∈ l → v.Ok) (i : Nat) : dataOf l i < 256 := by
  unfold dataOf
  cases hf : l.find? (owns · i) with
  | none => simp
  | some s =>
    have hm := List.mem_of_find?_eq_some hf
    cases s with
    | none => simp [laid]
    | some fv => exact Ver.byte_lt (h fv.1 fv.2 hm) _

theorem ptrByte_lt (s : Slot) (r : Nat) : ptrByte s r < 256 := by
  unfold ptrByte
  split
  · split <;> exact byteOf_lt _ _
  · omega

theorem encG_lt {c s : Nat} {l : List Slot} {data : Nat → Nat} (h : ∀ i, data i < 256) (i : Nat) : encG c s l data i < 256 := by
  unfold encG
  split
  · exact byteOf_lt _ _
  · split
    · exact byteOf_lt _ _
    · split
      · exact ptrByte_lt _ _
      · exact h i

theorem Wf.mem_ok {st : St} (h : Wf st) : ∀ (f : Nat) (v : Ver), some (f, v) ∈ st.slots → v.Ok := fun f v hm => by
  obtain ⟨k, hk⟩ := List.getElem?_of_mem hm
  exact (h.inn k f v hk).2.2

theorem enc_lt {st : St} (h : Wf st) (i : Nat) : enc st i < 256 := encG_lt (dataOf_lt h.mem_ok) i

theorem le2 (f : Nat → Nat) (lo n : Nat) (hn : n < 65536) (h0 : f lo = byteOf n 0) (h1 : f (lo + 1) = byteOf n 1) : le f lo 2 = n := by
  simp only [le, h0, h1, byteOf]
  omega

theorem cnt_encG (c s : Nat) (l : List Slot) (data : Nat → Nat) (hc : c < 65536) : cnt (encG c s l data) = c := le2 _ 0 c hc rfl rfl

theorem stt_encG (c s : Nat) (l : List Slot) (data : Nat → Nat) (hc : s < 65536) : stt (encG c s l data) = s := le2 _ 2 s hc rfl rfl

theorem encG_ptr (c s : Nat) (l : List Slot) (data : Nat → Nat) (k r : Nat) (hk : k < l.length) (hr : r < 4) : encG c s l data (4 + 4 * k + r) = ptrByte (l.getD k none) r := by
  unfold encG
  rw [if_neg (by omega), if_neg (by omega), if_pos (by omega), show (4 + 4 * k + r - 4) / 4 = k from by omega, show (4 + 4 * k + r - 4) % 4 = r from by omega]

theorem byteOf_zero (r : Nat) : byteOf 0 r = 0 := by unfold byteOf; simp

theorem ptrByte_from (s : Slot) (r : Nat) (hr : r < 2) : ptrByte s r = byteOf (fromOf s) r := by
  cases s with
  | none => simp [ptrByte, fromOf, byteOf_zero]
  | some fv => simp [ptrByte, fromOf, hr]

theorem ptrByte_size (s : Slot) (r : Nat) : ptrByte s (r + 2) = byteOf (sizeOfS s) r := by
  cases s with
  | none => simp [ptrByte, sizeOfS, byteOf_zero]
  | some fv =>
    have h : ¬ r + 2 < 2 := by omega
    simp only [ptrByte, sizeOfS, if_neg h, Nat.add_sub_cancel]

theorem frm_encG (c s : Nat) (l : List Slot) (data : Nat → Nat) (k : Nat) (hk : k < l.length) (h : fromOf (l.getD k none) < 65536) : frm (encG c s l data) k = fromOf (l.getD k none) :=
  le2 _ _ _ h (by have := encG_ptr c s l data k 0 hk (by omega); rw [Nat.add_zero] at this; rw [this, ptrByte_from _ _ (by omega)])
    (by rw [encG_ptr c s l data k 1 hk (by omega), ptrByte_from _ _ (by omega)])

theorem siz_encG (c s : Nat) (l : List Slot) (data : Nat → Nat) (k : Nat) (hk : k < l.length) (h : sizeOfS (l.getD k none) < 65536) : siz (encG c s l data) k = sizeOfS (l.getD k none) :=
  le2 _ _ _ h (by rw [encG_ptr c s l data k 2 hk (by omega)]; exact ptrByte_size _ 0) (by rw [show 4 + 4 * k + 2 + 1 = 4 + 4 * k + 3 from by omega, encG_ptr c s l data k 3 hk (by omega)]; exact ptrByte_size _ 1)

/-- A number laid in the pointers' place: a slot's pointer is that. -/
theorem encG_point (c s : Nat) (l : List Slot) (data : Nat → Nat) (k : Nat) (t : Slot) (hk : k < l.length) :
    lay (lay (encG c s l data) (4 + 4 * k) (fromOf t) 2) (4 + 4 * k + 2) (sizeOfS t) 2 = encG c s (l.set k t) data := by
  funext i
  unfold lay
  by_cases h1 : 4 + 4 * k + 2 ≤ i ∧ i < 4 + 4 * k + 2 + 2
  · rw [if_pos h1]
    obtain ⟨r, rfl, hr⟩ : ∃ r, i = 4 + 4 * k + (r + 2) ∧ r < 2 := ⟨i - (4 + 4 * k + 2), by omega, by omega⟩
    rw [encG_ptr _ _ _ _ _ _ (by rw [List.length_set]; exact hk) (by omega), List.getD_eq_getElem?_getD, List.getElem?_set_self hk, Option.getD_some, ptrByte_size, show 4 + 4 * k + (r + 2) - (4 + 4 * k + 2) = r from by omega]
    rfl
  · rw [if_neg h1]
    by_cases h2 : 4 + 4 * k ≤ i ∧ i < 4 + 4 * k + 2
    · rw [if_pos h2]
      obtain ⟨r, rfl, hr⟩ : ∃ r, i = 4 + 4 * k + r ∧ r < 2 := ⟨i - (4 + 4 * k), by omega, by omega⟩
      rw [encG_ptr _ _ _ _ _ _ (by rw [List.length_set]; exact hk) (by omega), List.getD_eq_getElem?_getD, List.getElem?_set_self hk, Option.getD_some, ptrByte_from _ _ hr, show 4 + 4 * k + r - (4 + 4 * k) = r from by omega]
      rfl
    · rw [if_neg h2]
      unfold encG
      rw [List.length_set]
      by_cases h3 : i < 4
      · by_cases h4 : i < 2
        · rw [if_pos h4, if_pos h4]
        · rw [if_neg h4, if_neg h4, if_pos h3, if_pos h3]
      · have h4 : ¬ i < 2 := by omega
        rw [if_neg h4, if_neg h3, if_neg h4, if_neg h3]
        by_cases h5 : i < 4 + 4 * l.length
        · rw [if_pos h5, if_pos h5, List.getD_eq_getElem?_getD, List.getD_eq_getElem?_getD, List.getElem?_set_ne (by omega)]
        · rw [if_neg h5, if_neg h5]

theorem encG_set (c s c' s' : Nat) (l : List Slot) (data : Nat → Nat) : lay (lay (encG c s l data) 0 c' 2) 2 s' 2 = encG c' s' l data := by
  funext i
  unfold lay encG
  by_cases h1 : i < 2
  · rw [if_neg (by omega), if_pos (by omega), if_pos h1]; rfl
  · by_cases h2 : i < 4
    · rw [if_pos (by omega), if_neg h1, if_pos h2]; rfl
    · rw [if_neg (by omega), if_neg (by omega), if_neg h1, if_neg h2, if_neg h1, if_neg h2]

/-- More slots that are free, where there is nothing. -/
theorem encG_free (c s : Nat) (l : List Slot) (data : Nat → Nat) (m : Nat) (h : ∀ i, 4 + 4 * l.length ≤ i → i < 4 + 4 * (l.length + m) → data i = 0) :
    encG c s (l ++ List.replicate m none) data = encG c s l data := by
  funext i
  unfold encG
  by_cases h1 : i < 2
  · rw [if_pos h1, if_pos h1]
  · by_cases h2 : i < 4
    · rw [if_neg h1, if_neg h1, if_pos h2, if_pos h2]
    · rw [if_neg h1, if_neg h1, if_neg h2, if_neg h2, List.length_append, List.length_replicate]
      by_cases h3 : i < 4 + 4 * l.length
      · rw [if_pos (by omega), if_pos h3, List.getD_eq_getElem?_getD, List.getD_eq_getElem?_getD, List.getElem?_append_left (by omega)]
      · rw [if_neg h3]
        by_cases h4 : i < 4 + 4 * (l.length + m)
        · rw [if_pos h4, h i (by omega) h4, List.getD_eq_getElem?_getD, List.getElem?_append_right (by omega), List.getElem?_replicate, if_pos (by omega)]
          rfl
        · rw [if_neg h4]

theorem encG_data {c s : Nat} {l : List Slot} {data data' : Nat → Nat} (h : ∀ i, 4 + 4 * l.length ≤ i → data i = data' i) : encG c s l data = encG c s l data' := by
  funext i
  unfold encG
  by_cases h1 : i < 2
  · rw [if_pos h1, if_pos h1]
  · by_cases h2 : i < 4
    · rw [if_neg h1, if_neg h1, if_pos h2, if_pos h2]
    · rw [if_neg h1, if_neg h1, if_neg h2, if_neg h2]
      by_cases h3 : i < 4 + 4 * l.length
      · rw [if_pos h3, if_pos h3]
      · rw [if_neg h3, if_neg h3, h i (by omega)]

end Go.Proofs.Ytffbfgmhfnbmfaa

namespace Go.Proofs.Ytffbfgmhfnbmfaa

/-- No two versions share a byte. -/
def Apart (l : List Slot) : Prop := ∀ (k k' f : Nat) (v : Ver) (f' : Nat) (v' : Ver), k ≠ k' → l[k]? = some (some (f, v)) → l[k']? = some (some (f', v')) → f + v.size ≤ f' ∨ f' + v'.size ≤ f

theorem Wf.apt {st : St} (h : Wf st) : Apart st.slots := fun k k' f v f' v' hne h1 h2 => by
  rcases Nat.lt_or_gt_of_ne hne with hl | hl
  · exact h.apart k k' f v f' v' hl h1 h2
  · exact (h.apart k' k f' v' f v hl h2 h1).symm

theorem owns_some {f : Nat} {v : Ver} {i : Nat} : owns (some (f, v)) i = true ↔ f ≤ i ∧ i < f + v.size := by simp [owns]

theorem dataOf_own {l : List Slot} (ha : Apart l) {k f i : Nat} {v : Ver} (hk : l[k]? = some (some (f, v))) (h1 : f ≤ i) (h2 : i < f + v.size) : dataOf l i = v.byte (i - f) := by
  unfold dataOf
  cases hf : l.find? (owns · i) with
  | none =>
    have := List.find?_eq_none.1 hf (some (f, v)) (List.mem_of_getElem? hk)
    simp [owns, h1, h2] at this
  | some s =>
    have ho := List.find?_some hf
    obtain ⟨k', hk'⟩ := List.getElem?_of_mem (List.mem_of_find?_eq_some hf)
    cases s with
    | none => simp [owns] at ho
    | some fv =>
      obtain ⟨f', v'⟩ := fv
      have ho' := owns_some.1 ho
      by_cases e : k = k'
      · subst e
        rw [hk] at hk'
        simp only [Option.some.injEq, Prod.mk.injEq] at hk'
        obtain ⟨rfl, rfl⟩ := hk'
        rfl
      · have := ha k k' f v f' v' e hk hk'
        omega

theorem dataOf_none {l : List Slot} {i : Nat} (h : ∀ (k f : Nat) (v : Ver), l[k]? = some (some (f, v)) → ¬ (f ≤ i ∧ i < f + v.size)) : dataOf l i = 0 := by
  unfold dataOf
  cases hf : l.find? (owns · i) with
  | none => rfl
  | some s =>
    have ho := List.find?_some hf
    obtain ⟨k', hk'⟩ := List.getElem?_of_mem (List.mem_of_find?_eq_some hf)
    cases s with
    | none => simp [owns] at ho
    | some fv => exact absurd (owns_some.1 ho) (h k' fv.1 fv.2 hk')

/-- Either one owns a byte or nobody does. -/
theorem dataOf_cases {l : List Slot} (ha : Apart l) (i : Nat) :
    (∃ (k f : Nat) (v : Ver), l[k]? = some (some (f, v)) ∧ f ≤ i ∧ i < f + v.size ∧ dataOf l i = v.byte (i - f)) ∨ ((∀ (k f : Nat) (v : Ver), l[k]? = some (some (f, v)) → ¬ (f ≤ i ∧ i < f + v.size)) ∧ dataOf l i = 0) := by
  by_cases h : ∃ (k f : Nat) (v : Ver), l[k]? = some (some (f, v)) ∧ f ≤ i ∧ i < f + v.size
  · obtain ⟨k, f, v, hk, h1, h2⟩ := h
    exact .inl ⟨k, f, v, hk, h1, h2, dataOf_own ha hk h1 h2⟩
  · have h' : ∀ (k f : Nat) (v : Ver), l[k]? = some (some (f, v)) → ¬ (f ≤ i ∧ i < f + v.size) := fun k f v hk hh => h ⟨k, f, v, hk, hh.1, hh.2⟩
    exact .inr ⟨h', dataOf_none h'⟩

theorem set_get {l : List Slot} {k k' : Nat} {s t : Slot} (h : (l.set k s)[k']? = some t) : (k' = k ∧ t = s) ∨ (k' ≠ k ∧ l[k']? = some t) := by
  rw [List.getElem?_set] at h
  by_cases e : k = k'
  · subst e
    rw [if_pos rfl] at h
    by_cases hl : k < l.length
    · rw [if_pos hl] at h; exact .inl ⟨rfl, (Option.some.inj h).symm⟩
    · rw [if_neg hl] at h; cases h
  · rw [if_neg e] at h; exact .inr ⟨fun e' => e e'.symm, h⟩

/-- A version laid into a slot that was free. -/
theorem dataOf_put {l : List Slot} {k f : Nat} {v : Ver} (hk : l[k]? = some none) (ha : Apart (l.set k (some (f, v)))) (i : Nat) :
    dataOf (l.set k (some (f, v))) i = if f ≤ i ∧ i < f + v.size then v.byte (i - f) else dataOf l i := by
  have hlen : k < l.length := (List.getElem?_eq_some_iff.1 hk).1
  by_cases h : f ≤ i ∧ i < f + v.size
  · rw [if_pos h]
    exact dataOf_own ha (k := k) (by rw [List.getElem?_set_self hlen]) h.1 h.2
  · rw [if_neg h]
    have ha' : Apart l := fun k1 k2 f1 v1 f2 v2 hne h1 h2 => by
      have e1 : k ≠ k1 := fun e => by subst e; rw [hk] at h1; cases h1
      have e2 : k ≠ k2 := fun e => by subst e; rw [hk] at h2; cases h2
      exact ha k1 k2 f1 v1 f2 v2 hne (by rw [List.getElem?_set_ne e1]; exact h1) (by rw [List.getElem?_set_ne e2]; exact h2)
    rcases dataOf_cases ha' i with ⟨k1, f1, v1, hk1, h1, h2, hd⟩ | ⟨hno, hd⟩
    · have e1 : k ≠ k1 := fun e => by subst e; rw [hk] at hk1; cases hk1
      rw [hd]
      exact dataOf_own ha (k := k1) (by rw [List.getElem?_set_ne e1]; exact hk1) h1 h2
    · rw [hd]
      refine dataOf_none fun k1 f1 v1 hk1 hh => ?_
      rcases set_get hk1 with ⟨_, e⟩ | ⟨_, e⟩
      · simp only [Option.some.injEq, Prod.mk.injEq] at e
        obtain ⟨rfl, rfl⟩ := e
        exact h hh
      · exact hno k1 f1 v1 e hh

theorem Apart.clear {l : List Slot} (ha : Apart l) (k : Nat) : Apart (l.set k none) := fun k1 k2 f1 v1 f2 v2 hne h1 h2 => by
  rcases set_get h1 with ⟨_, e⟩ | ⟨_, e1⟩
  · cases e
  · rcases set_get h2 with ⟨_, e⟩ | ⟨_, e2⟩
    · cases e
    · exact ha k1 k2 f1 v1 f2 v2 hne e1 e2

/-- A version that goes. -/
theorem dataOf_clear {l : List Slot} {k f : Nat} {v : Ver} (hk : l[k]? = some (some (f, v))) (ha : Apart l) (i : Nat) :
    dataOf (l.set k none) i = if f ≤ i ∧ i < f + v.size then 0 else dataOf l i := by
  by_cases h : f ≤ i ∧ i < f + v.size
  · rw [if_pos h]
    refine dataOf_none fun k1 f1 v1 hk1 hh => ?_
    rcases set_get hk1 with ⟨_, e⟩ | ⟨hne, e⟩
    · cases e
    · have := ha k1 k f1 v1 f v hne e hk
      omega
  · rw [if_neg h]
    rcases dataOf_cases ha i with ⟨k1, f1, v1, hk1, h1, h2, hd⟩ | ⟨hno, hd⟩
    · have e1 : k ≠ k1 := fun e => by
        subst e; rw [hk] at hk1
        simp only [Option.some.injEq, Prod.mk.injEq] at hk1
        obtain ⟨rfl, rfl⟩ := hk1
        exact h ⟨h1, h2⟩
      rw [hd]
      exact dataOf_own (ha.clear k) (k := k1) (by rw [List.getElem?_set_ne e1]; exact hk1) h1 h2
    · rw [hd]
      refine dataOf_none fun k1 f1 v1 hk1 hh => ?_
      rcases set_get hk1 with ⟨_, e⟩ | ⟨_, e⟩
      · cases e
      · exact hno k1 f1 v1 e hh

/-- A version that turns where it lies. -/
theorem dataOf_turn {l : List Slot} {k f : Nat} {v v' : Ver} (hk : l[k]? = some (some (f, v))) (hs : v'.size = v.size) (ha : Apart l) (i : Nat) :
    dataOf (l.set k (some (f, v'))) i = if f ≤ i ∧ i < f + v.size then v'.byte (i - f) else dataOf l i := by
  have hlen : k < l.length := (List.getElem?_eq_some_iff.1 hk).1
  have ha' : Apart (l.set k (some (f, v'))) := fun k1 k2 f1 v1 f2 v2 hne h1 h2 => by
    rcases set_get h1 with ⟨e, e1⟩ | ⟨e, e1⟩
    · rcases set_get h2 with ⟨e', _⟩ | ⟨e', e2⟩
      · omega
      · cases e1
        have := ha k k2 f v f2 v2 (fun x => e' x.symm) hk e2
        omega
    · rcases set_get h2 with ⟨e', e2⟩ | ⟨e', e2⟩
      · cases e2
        have := ha k1 k f1 v1 f v e e1 hk
        omega
      · exact ha k1 k2 f1 v1 f2 v2 hne e1 e2
  by_cases h : f ≤ i ∧ i < f + v.size
  · rw [if_pos h]
    exact dataOf_own ha' (k := k) (by rw [List.getElem?_set_self hlen]) h.1 (by omega)
  · rw [if_neg h]
    rcases dataOf_cases ha i with ⟨k1, f1, v1, hk1, h1, h2, hd⟩ | ⟨hno, hd⟩
    · have e1 : k ≠ k1 := fun e => by
        subst e; rw [hk] at hk1
        simp only [Option.some.injEq, Prod.mk.injEq] at hk1
        obtain ⟨rfl, rfl⟩ := hk1
        exact h ⟨h1, h2⟩
      rw [hd]
      exact dataOf_own ha' (k := k1) (by rw [List.getElem?_set_ne e1]; exact hk1) h1 h2
    · rw [hd]
      refine dataOf_none fun k1 f1 v1 hk1 hh => ?_
      rcases set_get hk1 with ⟨_, e⟩ | ⟨_, e⟩
      · cases e; exact h ⟨hh.1, by omega⟩
      · exact hno k1 f1 v1 e hh

theorem dataOf_append_none (l : List Slot) (m : Nat) : dataOf (l ++ List.replicate m none) = dataOf l := by
  funext i
  unfold dataOf
  rw [List.find?_append]
  have h : (List.replicate m (none : Slot)).find? (owns · i) = none := by
    rw [List.find?_eq_none]
    intro s hs
    rw [List.eq_of_mem_replicate hs]
    simp [owns]
  rw [h]
  simp

/-! What a page tells. -/

def isV (s : Slot) : Bool := s.isSome

theorem getD_of {l : List Slot} {k : Nat} {s : Slot} (h : l[k]? = some s) : l.getD k none = s := by simp [List.getD, h]

theorem Wf.slot_from {st : St} (h : Wf st) (k : Nat) (hk : k < st.slots.length) : fromOf (st.slots.getD k none) + sizeOfS (st.slots.getD k none) ≤ 512 := by
  have hg : st.slots[k]? = some st.slots[k] := List.getElem?_eq_getElem hk
  rw [getD_of hg]
  cases hs : st.slots[k] with
  | none => simp [fromOf, sizeOfS]
  | some fv =>
    rw [hs] at hg
    exact (h.inn k fv.1 fv.2 hg).2.1

theorem Wf.cnt {st : St} (h : Wf st) : cnt (enc st) = st.slots.length := cnt_encG _ _ _ _ (by have := h.low; have := h.high; omega)
theorem Wf.stt {st : St} (h : Wf st) : stt (enc st) = st.start := stt_encG _ _ _ _ (by have := h.high; omega)
theorem Wf.frm {st : St} (h : Wf st) {k : Nat} (hk : k < st.slots.length) : frm (enc st) k = fromOf (st.slots.getD k none) := frm_encG _ _ _ _ _ hk (by have := h.slot_from k hk; omega)
theorem Wf.siz {st : St} (h : Wf st) {k : Nat} (hk : k < st.slots.length) : siz (enc st) k = sizeOfS (st.slots.getD k none) := siz_encG _ _ _ _ _ hk (by have := h.slot_from k hk; omega)

theorem Wf.fits {st : St} (h : Wf st) : Fits (enc st) where
  cnt := by rw [h.cnt]; have := h.low; have := h.high; omega
  fit := fun k hk => by
    rw [h.cnt] at hk
    rw [h.frm hk, h.siz hk]
    exact h.slot_from k hk

theorem size_pos (v : Ver) : 0 < v.size := by unfold Ver.size; omega

theorem Wf.has {st : St} (h : Wf st) (k : Nat) : hasB (enc st) k = (st.slots.getD k none).isSome := by
  unfold hasB
  rw [h.cnt]
  by_cases hk : k < st.slots.length
  · rw [h.siz hk]
    have hg : st.slots[k]? = some st.slots[k] := List.getElem?_eq_getElem hk
    rw [getD_of hg]
    cases st.slots[k] with
    | none => simp [sizeOfS]
    | some fv =>
      have hp : fv.2.size ≠ 0 := by have := size_pos fv.2; omega
      simp [sizeOfS, hk, hp]
  · rw [List.getD_eq_getElem?_getD, List.getElem?_eq_none (by omega)]
    simp [hk]

def firstFree (l : List Slot) : Nat := l.findIdx fun s => !s.isSome

theorem Wf.free {st : St} (h : Wf st) : freeN (enc st) = firstFree st.slots := by
  have key : ∀ g k, k + g = st.slots.length → (∀ j, j < k → (st.slots.getD j none).isSome = true) → freeFrom (enc st) g k = firstFree st.slots := by
    intro g
    induction g with
    | zero =>
      intro k hk hb
      simp only [freeFrom]
      unfold firstFree
      rw [List.findIdx_eq_length_of_false]
      · omega
      · intro s hs
        obtain ⟨j, hj, rfl⟩ := List.getElem_of_mem hs
        have := hb j (by omega)
        rw [getD_of (List.getElem?_eq_getElem hj)] at this
        simp [this]
    | succ g ih =>
      intro k hk hb
      simp only [freeFrom]
      rw [h.has k]
      have hkl : k < st.slots.length := by omega
      cases hs : (st.slots.getD k none).isSome
      · rw [if_neg (by simp)]
        symm
        unfold firstFree
        rw [List.findIdx_eq hkl]
        refine ⟨by rw [getD_of (List.getElem?_eq_getElem hkl)] at hs; simp only [hs]; rfl, fun j hj => ?_⟩
        have := hb j hj
        rw [getD_of (List.getElem?_eq_getElem (by omega))] at this
        simp [this]
      · rw [if_pos rfl]
        refine ih (k + 1) (by omega) fun j hj => ?_
        by_cases e : j = k
        · subst e; exact hs
        · exact hb j (by omega)
  have := key st.slots.length 0 (by omega) (fun j hj => by omega)
  unfold freeN
  rw [h.cnt]
  exact this

theorem Wf.lenB {st : St} (h : Wf st) (k : Nat) : lenB (enc st) k = sizeOfS (st.slots.getD k none) := by
  unfold Ytffbfgmhfnbmfaa.lenB
  rw [h.has]
  by_cases hk : k < st.slots.length
  · rw [h.siz hk]
    cases hs : st.slots.getD k none with
    | none => simp [sizeOfS]
    | some fv => simp
  · rw [List.getD_eq_getElem?_getD, List.getElem?_eq_none (by omega)]
    simp [sizeOfS]

theorem Wf.takes {st : St} (h : Wf st) : takes (enc st) st.slots.length = sumS st.slots := by
  have key : ∀ k, k ≤ st.slots.length → Ytffbfgmhfnbmfaa.takes (enc st) k = sumS (st.slots.take k) := by
    intro k
    induction k with
    | zero => intro _; simp [Ytffbfgmhfnbmfaa.takes, sumS]
    | succ k ih =>
      intro hk
      have hkl : k < st.slots.length := by omega
      rw [Ytffbfgmhfnbmfaa.takes, ih (by omega), h.lenB, List.take_succ_eq_append_getElem hkl, getD_of (List.getElem?_eq_getElem hkl)]
      simp only [sumS, List.map_append, List.map_cons, List.map_nil, List.sum_append, List.sum_cons, List.sum_nil, Nat.add_zero]
  rw [key _ (Nat.le_refl _), List.take_length]

/-- How much one more may have. -/
def roomA (l : List Slot) : Int := max (478 - (sumS l : Int) - (if firstFree l = l.length then 4 else 0)) (-1)

theorem Wf.room {st : St} (h : Wf st) : roomN (enc st) = roomA st.slots := by
  unfold roomN roomA
  rw [h.cnt, h.takes, h.free]

def usedA (l : List Slot) : Nat := l.countP fun s => s.isSome

theorem Wf.used {st : St} (h : Wf st) : usedN (enc st) (Ytffbfgmhfnbmfaa.cnt (enc st)) = usedA st.slots := by
  have key : ∀ k, k ≤ st.slots.length → usedN (enc st) k = usedA (st.slots.take k) := by
    intro k
    induction k with
    | zero => intro _; simp [usedN, usedA]
    | succ k ih =>
      intro hk
      have hkl : k < st.slots.length := by omega
      rw [usedN, ih (by omega), h.has, List.take_succ_eq_append_getElem hkl, getD_of (List.getElem?_eq_getElem hkl)]
      simp only [usedA, List.countP_append, List.countP_cons, List.countP_nil, Nat.zero_add]
  rw [h.cnt, key _ (Nat.le_refl _), List.take_length]

end Go.Proofs.Ytffbfgmhfnbmfaa

namespace Go.Proofs.Ytffbfgmhfnbmfaa

theorem encG_high (c s : Nat) (l : List Slot) (data : Nat → Nat) (i : Nat) (h : 4 + 4 * l.length ≤ i) : encG c s l data i = data i := by
  unfold encG; rw [if_neg (by omega), if_neg (by omega), if_neg (by omega)]

theorem Wf.at_data {st : St} (h : Wf st) {k f i : Nat} {v : Ver} (hk : st.slots[k]? = some (some (f, v))) (h1 : f ≤ i) (h2 : i < f + v.size) : enc st i = v.byte (i - f) := by
  have hi := (h.inn k f v hk).1
  have hl := h.low
  unfold enc
  rw [encG_high _ _ _ _ _ (by omega)]
  exact dataOf_own h.apt hk h1 h2

theorem Wf.low_zero {st : St} (h : Wf st) {i : Nat} (h2 : i < st.start) : dataOf st.slots i = 0 :=
  dataOf_none fun k f v hk hh => by have := (h.inn k f v hk).1; omega

theorem encG_wiped (c s : Nat) (l : List Slot) (data : Nat → Nat) (off n : Nat) (h : 4 + 4 * l.length ≤ off) : wiped (encG c s l data) off n = encG c s l (wiped data off n) := by
  funext i
  by_cases hi : 4 + 4 * l.length ≤ i
  · rw [encG_high _ _ _ _ _ hi]
    unfold wiped
    rw [encG_high _ _ _ _ _ hi]
  · unfold wiped
    rw [if_neg (by omega)]
    unfold encG
    by_cases h1 : i < 2
    · rw [if_pos h1, if_pos h1]
    · by_cases h2 : i < 4
      · rw [if_neg h1, if_neg h1, if_pos h2, if_pos h2]
      · rw [if_neg h1, if_neg h1, if_neg h2, if_neg h2, if_pos (by omega), if_pos (by omega)]

theorem encG_over (c s : Nat) (l : List Slot) (data : Nat → Nat) (off n : Nat) (d : Nat → Nat) (h : 4 + 4 * l.length ≤ off) : over (encG c s l data) off n d = encG c s l (over data off n d) := by
  funext i
  by_cases hi : 4 + 4 * l.length ≤ i
  · rw [encG_high _ _ _ _ _ hi]
    unfold over
    rw [encG_high _ _ _ _ _ hi]
  · unfold over
    rw [if_neg (by omega)]
    unfold encG
    by_cases h1 : i < 2
    · rw [if_pos h1, if_pos h1]
    · by_cases h2 : i < 4
      · rw [if_neg h1, if_neg h1, if_pos h2, if_pos h2]
      · rw [if_neg h1, if_neg h1, if_neg h2, if_neg h2, if_pos (by omega), if_pos (by omega)]

theorem over_congr {f d d' : Nat → Nat} {off n : Nat} (h : ∀ j, j < n → d j = d' j) : over f off n d = over f off n d' := by
  funext i
  unfold over
  by_cases hi : off ≤ i ∧ i < off + n
  · rw [if_pos hi, if_pos hi, h _ (by omega)]
  · rw [if_neg hi, if_neg hi]

theorem sumS_set {l : List Slot} {k : Nat} {t : Slot} (hk : k < l.length) : sumS (l.set k t) + sizeOfS (l.getD k none) = sumS l + sizeOfS t := by
  induction l generalizing k with
  | nil => simp at hk
  | cons s l ih =>
    cases k with
    | zero => simp [sumS]; omega
    | succ k =>
      have := ih (k := k) (by simpa using hk)
      simp only [sumS, List.set_cons_succ, List.map_cons, List.sum_cons, List.getD_cons_succ] at this ⊢
      omega

theorem sumS_append (l m : List Slot) : sumS (l ++ m) = sumS l + sumS m := by simp [sumS]

/-! Free. -/

theorem enc_clear {st : St} (h : Wf st) {k f : Nat} {v : Ver} (hk : st.slots[k]? = some (some (f, v))) :
    lay (lay (wiped (enc st) f v.size) (4 + 4 * k) 0 2) (4 + 4 * k + 2) 0 2 = enc ⟨st.slots.set k none, st.start⟩ := by
  have hkl : k < st.slots.length := (List.getElem?_eq_some_iff.1 hk).1
  have hi := (h.inn k f v hk).1
  have hl := h.low
  have e1 : wiped (enc st) f v.size = encG st.slots.length st.start st.slots (dataOf (st.slots.set k none)) := by
    unfold enc
    rw [encG_wiped _ _ _ _ _ _ (by omega)]
    congr 1
    funext i
    rw [dataOf_clear hk h.apt]
    rfl
  have e2 := encG_point st.slots.length st.start st.slots (dataOf (st.slots.set k none)) k none hkl
  rw [e1]
  simp only [fromOf, sizeOfS] at e2
  rw [e2]
  unfold enc
  rw [List.length_set]

theorem Wf.clear {st : St} (h : Wf st) {k f : Nat} {v : Ver} (hk : st.slots[k]? = some (some (f, v))) : Wf ⟨st.slots.set k none, st.start⟩ where
  low := by show 4 + 4 * (st.slots.set k none).length ≤ st.start; rw [List.length_set]; exact h.low
  high := h.high
  inn := fun k1 f1 v1 h1 => by
    rcases set_get h1 with ⟨_, e⟩ | ⟨_, e⟩
    · cases e
    · exact h.inn k1 f1 v1 e
  apart := fun k1 k2 f1 v1 f2 v2 hlt h1 h2 => (h.apt.clear k) k1 k2 f1 v1 f2 v2 (by omega) h1 h2
  sum := by
    show 4 + sumS (st.slots.set k none) ≤ 512
    have hkl : k < st.slots.length := (List.getElem?_eq_some_iff.1 hk).1
    have := sumS_set (l := st.slots) (k := k) (t := none) hkl
    have h0 : sizeOfS none = 0 := rfl
    have := h.sum
    omega

/-- How many slots are left when those that are free at the end go. -/
def trimN (l : List Slot) : Nat → Nat
  | 0 => 0
  | m + 1 => if (l.getD m none).isSome then m + 1 else trimN l m

theorem trimN_le (l : List Slot) (m : Nat) : trimN l m ≤ m := by
  induction m with
  | zero => exact Nat.le_refl _
  | succ m ih => simp only [trimN]; split <;> omega

theorem trimN_none (l : List Slot) (m : Nat) : ∀ j, trimN l m ≤ j → j < m → l.getD j none = none := by
  induction m with
  | zero => intro j _ h; omega
  | succ m ih =>
    intro j h1 h2
    simp only [trimN] at h1
    by_cases hs : (l.getD m none).isSome = true
    · rw [if_pos hs] at h1; omega
    · rw [if_neg hs] at h1
      by_cases e : j = m
      · subst e; simpa using hs
      · exact ih j h1 (by omega)

def trim (l : List Slot) : List Slot := l.take (trimN l l.length)

theorem trim_eq (l : List Slot) : l = trim l ++ List.replicate (l.length - trimN l l.length) none := by
  have hle := trimN_le l l.length
  apply List.ext_getElem?
  intro j
  unfold trim
  by_cases h1 : j < trimN l l.length
  · rw [List.getElem?_append_left (by rw [List.length_take]; omega), List.getElem?_take, if_pos h1]
  · rw [List.getElem?_append_right (by rw [List.length_take]; omega), List.length_take, Nat.min_eq_left hle, List.getElem?_replicate]
    by_cases h2 : j < l.length
    · rw [if_pos (by omega)]
      have := trimN_none l l.length j (by omega) h2
      rw [List.getD_eq_getElem?_getD, List.getElem?_eq_getElem h2, Option.getD_some] at this
      rw [List.getElem?_eq_getElem h2, this]
    · rw [if_neg (by omega), List.getElem?_eq_none (by omega)]

theorem sumS_none (m : Nat) : sumS (List.replicate m none) = 4 * m := by
  simp [sumS, sizeOfS]; omega

theorem trim_length (l : List Slot) : (trim l).length = trimN l l.length := by
  unfold trim; rw [List.length_take, Nat.min_eq_left (trimN_le l l.length)]

theorem trim_get {l : List Slot} {j : Nat} {s : Slot} (h : (trim l)[j]? = some s) : l[j]? = some s := by
  unfold trim at h
  rw [List.getElem?_take] at h
  split at h
  · exact h
  · cases h

theorem Wf.trim {st : St} (h : Wf st) : Wf ⟨Ytffbfgmhfnbmfaa.trim st.slots, st.start⟩ where
  low := by
    show 4 + 4 * (Ytffbfgmhfnbmfaa.trim st.slots).length ≤ st.start
    rw [trim_length]; have := trimN_le st.slots st.slots.length; have := h.low; omega
  high := h.high
  inn := fun k f v hk => h.inn k f v (trim_get hk)
  apart := fun k k' f v f' v' hlt h1 h2 => h.apart k k' f v f' v' hlt (trim_get h1) (trim_get h2)
  sum := by
    show 4 + sumS (Ytffbfgmhfnbmfaa.trim st.slots) ≤ 512
    have := h.sum
    have e := congrArg sumS (trim_eq st.slots)
    rw [sumS_append] at e
    omega

theorem enc_trim {st : St} (h : Wf st) :
    lay (lay (wiped (enc st) (4 + 4 * trimN st.slots st.slots.length) (4 * (st.slots.length - trimN st.slots st.slots.length))) 0 (trimN st.slots st.slots.length) 2) 2 st.start 2 = enc ⟨trim st.slots, st.start⟩ := by
  have hle := trimN_le st.slots st.slots.length
  have e1 : wiped (enc st) (4 + 4 * trimN st.slots st.slots.length) (4 * (st.slots.length - trimN st.slots st.slots.length)) = enc st := by
    funext i
    unfold wiped
    by_cases hi : 4 + 4 * trimN st.slots st.slots.length ≤ i ∧ i < 4 + 4 * trimN st.slots st.slots.length + 4 * (st.slots.length - trimN st.slots st.slots.length)
    · rw [if_pos hi]
      obtain ⟨j, r, rfl, hr⟩ : ∃ j r, i = 4 + 4 * j + r ∧ r < 4 := ⟨(i - 4) / 4, (i - 4) % 4, by omega, by omega⟩
      unfold enc
      rw [encG_ptr _ _ _ _ _ _ (by omega) hr, trimN_none st.slots st.slots.length j (by omega) (by omega)]
      rfl
    · rw [if_neg hi]
  rw [e1]
  unfold enc
  rw [encG_set]
  show _ = encG (Ytffbfgmhfnbmfaa.trim st.slots).length st.start (Ytffbfgmhfnbmfaa.trim st.slots) (dataOf (Ytffbfgmhfnbmfaa.trim st.slots))
  have e2 : dataOf st.slots = dataOf (Ytffbfgmhfnbmfaa.trim st.slots) := by
    conv => lhs; rw [trim_eq st.slots]
    exact dataOf_append_none _ _
  rw [e2, trim_length]
  have e3 := encG_free (trimN st.slots st.slots.length) st.start (Ytffbfgmhfnbmfaa.trim st.slots) (dataOf (Ytffbfgmhfnbmfaa.trim st.slots)) (st.slots.length - trimN st.slots st.slots.length) (fun i h1 h2 => by
    rw [← e2]
    refine h.low_zero ?_
    have := h.low
    rw [trim_length] at h1 h2
    omega)
  rw [← trim_eq] at e3
  exact e3

def freeA (st : St) (k : Nat) : St := ⟨trim (st.slots.set k none), st.start⟩

end Go.Proofs.Ytffbfgmhfnbmfaa

namespace Go.Proofs.Ytffbfgmhfnbmfaa

/-- What the first i versions take. -/
def szN (l : List Slot) : Nat → Nat
  | 0 => 0
  | i + 1 => szN l i + sizeOfS (l.getD i none)

def atN (l : List Slot) : Nat → Nat
  | 0 => 512
  | i + 1 => atN l i - sizeOfS (l.getD i none)

def cpS (l : List Slot) (i : Nat) : Slot := match l.getD i none with
  | some (_, v) => some (atN l (i + 1), v)
  | none => none

def cpN (l : List Slot) : Nat → List Slot
  | 0 => []
  | i + 1 => cpN l i ++ [cpS l i]

theorem cpN_length (l : List Slot) (i : Nat) : (cpN l i).length = i := by
  induction i with
  | zero => rfl
  | succ i ih => simp [cpN, ih]

theorem cpN_get (l : List Slot) (i j : Nat) (h : j < i) : (cpN l i)[j]? = some (cpS l j) := by
  induction i with
  | zero => omega
  | succ i ih =>
    simp only [cpN]
    by_cases e : j < i
    · rw [List.getElem?_append_left (by rw [cpN_length]; exact e)]; exact ih e
    · obtain rfl : j = i := by omega
      rw [List.getElem?_append_right (by rw [cpN_length]; exact Nat.le_refl _), cpN_length, Nat.sub_self]
      rfl

theorem szN_mono (l : List Slot) {i j : Nat} (h : i ≤ j) : szN l i ≤ szN l j := by
  induction h with
  | refl => exact Nat.le_refl _
  | step _ ih => simp only [szN]; omega

theorem sumS_szN (l : List Slot) : sumS l = 4 * l.length + szN l l.length := by
  have key : ∀ k, k ≤ l.length → sumS (l.take k) = 4 * k + szN l k := by
    intro k
    induction k with
    | zero => intro _; rfl
    | succ k ih =>
      intro hk
      have hkl : k < l.length := by omega
      rw [List.take_succ_eq_append_getElem hkl, sumS_append, ih (by omega), szN, getD_of (List.getElem?_eq_getElem hkl)]
      simp only [sumS, List.map_cons, List.map_nil, List.sum_cons, List.sum_nil]
      omega
  have := key l.length (Nat.le_refl _)
  rwa [List.take_length] at this

theorem atN_szN {l : List Slot} (h : szN l l.length ≤ 512) : ∀ i, i ≤ l.length → atN l i + szN l i = 512 := by
  intro i
  induction i with
  | zero => intro _; rfl
  | succ i ih =>
    intro hi
    have h1 := ih (by omega)
    have h2 := szN_mono l hi
    simp only [atN, szN] at h2 ⊢
    omega

theorem cpS_some {l : List Slot} {i f : Nat} {v : Ver} (h : cpS l i = some (f, v)) : ∃ f0, l.getD i none = some (f0, v) ∧ f = atN l (i + 1) := by
  unfold cpS at h
  cases hg : l.getD i none with
  | none => rw [hg] at h; cases h
  | some fv =>
    rw [hg] at h
    simp only [Option.some.injEq, Prod.mk.injEq] at h
    exact ⟨fv.1, by rw [← h.2], h.1.symm⟩

theorem sizeOfS_get {l : List Slot} {i f : Nat} {v : Ver} (h : l.getD i none = some (f, v)) : sizeOfS (l.getD i none) = v.size := by rw [h]; rfl

theorem cp_get {l : List Slot} {i j f : Nat} {v : Ver} (h : (cpN l i)[j]? = some (some (f, v))) : j < i ∧ (∃ f0, l.getD j none = some (f0, v)) ∧ f = atN l (j + 1) := by
  have hj : j < i := by have := (List.getElem?_eq_some_iff.1 h).1; rwa [cpN_length] at this
  rw [cpN_get l i j hj] at h
  obtain ⟨f0, h1, h2⟩ := cpS_some (Option.some.inj h)
  exact ⟨hj, ⟨f0, h1⟩, h2⟩

theorem cp_apart {l : List Slot} (h : szN l l.length ≤ 512) {i : Nat} (hi : i ≤ l.length) : Apart (cpN l i) := by
  have key : ∀ (k k' f : Nat) (v : Ver) (f' : Nat) (v' : Ver), k < k' → (cpN l i)[k]? = some (some (f, v)) → (cpN l i)[k']? = some (some (f', v')) → f' + v'.size ≤ f := by
    intro k k' f v f' v' hlt h1 h2
    obtain ⟨a1, ⟨g1, b1⟩, rfl⟩ := cp_get h1
    obtain ⟨a2, ⟨g2, b2⟩, rfl⟩ := cp_get h2
    have e1 := atN_szN h (k + 1) (by omega)
    have e2 := atN_szN h (k' + 1) (by omega)
    have e3 := szN_mono l (show k + 1 ≤ k' by omega)
    have e4 : szN l (k' + 1) = szN l k' + v'.size := by simp only [szN]; rw [sizeOfS_get b2]
    omega
  intro k k' f v f' v' hne h1 h2
  rcases Nat.lt_or_gt_of_ne hne with hl | hl
  · exact .inr (key k k' f v f' v' hl h1 h2)
  · exact .inl (key k' k f' v' f v hl h2 h1)

theorem cp_data_none {l : List Slot} {i : Nat} (hn : l.getD i none = none) : dataOf (cpN l (i + 1)) = dataOf (cpN l i) := by
  have : cpN l (i + 1) = cpN l i ++ List.replicate 1 none := by
    simp only [cpN, List.replicate]
    unfold cpS
    rw [hn]
  rw [this, dataOf_append_none]

theorem cp_data_some {l : List Slot} (h : szN l l.length ≤ 512) {i f : Nat} {v : Ver} (hi : i < l.length) (hn : l.getD i none = some (f, v)) :
    dataOf (cpN l (i + 1)) = over (dataOf (cpN l i)) (atN l (i + 1)) v.size v.byte := by
  have e : cpN l (i + 1) = (cpN l i ++ [none]).set i (some (atN l (i + 1), v)) := by
    rw [List.set_append_right _ _ (by rw [cpN_length]; exact Nat.le_refl _), cpN_length, Nat.sub_self]
    simp only [cpN, List.set_cons_zero]
    unfold cpS
    rw [hn]
  funext j
  rw [e, dataOf_put (by rw [List.getElem?_append_right (by rw [cpN_length]; exact Nat.le_refl _), cpN_length, Nat.sub_self]; rfl) (by rw [← e]; exact cp_apart h (by omega))]
  unfold over
  have : dataOf (cpN l i ++ [none]) = dataOf (cpN l i) := dataOf_append_none _ 1
  rw [this]

theorem cp_step (l : List Slot) {i : Nat} (hi : i < l.length) : (cpN l i ++ l.drop i).set i (cpS l i) = cpN l (i + 1) ++ l.drop (i + 1) := by
  rw [List.set_append_right _ _ (by rw [cpN_length]; exact Nat.le_refl _), cpN_length, Nat.sub_self, List.drop_eq_getElem_cons hi, List.set_cons_zero, cpN, List.append_assoc]
  rfl

theorem cp_step_none (l : List Slot) {i : Nat} (hi : i < l.length) (hn : l.getD i none = none) : cpN l i ++ l.drop i = cpN l (i + 1) ++ l.drop (i + 1) := by
  have h1 : l[i] = none := by rw [← hn, getD_of (List.getElem?_eq_getElem hi)]
  rw [List.drop_eq_getElem_cons hi, cpN, List.append_assoc, h1]
  unfold cpS
  rw [hn]
  rfl

theorem cp_len (l : List Slot) {i : Nat} (hi : i ≤ l.length) : (cpN l i ++ l.drop i).length = l.length := by
  rw [List.length_append, cpN_length, List.length_drop]; omega

/-- The bytes in the middle of the move. -/
def midF (st : St) (i : Nat) : Nat → Nat := encG st.slots.length st.start (cpN st.slots i ++ st.slots.drop i) (dataOf (cpN st.slots i))

def compactA (st : St) : St := ⟨cpN st.slots st.slots.length, atN st.slots st.slots.length⟩

theorem Wf.sz {st : St} (h : Wf st) : 4 + 4 * st.slots.length + szN st.slots st.slots.length ≤ 512 := by have := h.sum; rw [sumS_szN] at this; omega

theorem Wf.compact {st : St} (h : Wf st) : Wf (compactA st) where
  low := by
    show 4 + 4 * (cpN st.slots st.slots.length).length ≤ atN st.slots st.slots.length
    rw [cpN_length]
    have := h.sz; have := atN_szN (by omega) st.slots.length (Nat.le_refl _)
    omega
  high := by
    show atN st.slots st.slots.length ≤ 512
    have := h.sz; have := atN_szN (by omega) st.slots.length (Nat.le_refl _)
    omega
  inn := fun k f v hk => by
    obtain ⟨h1, ⟨f0, h2⟩, rfl⟩ := cp_get hk
    have hs := h.sz
    have e1 := atN_szN (by omega) (k + 1) (by omega : k + 1 ≤ st.slots.length)
    have e2 := atN_szN (by omega) st.slots.length (Nat.le_refl _)
    have e3 := szN_mono st.slots (show k + 1 ≤ st.slots.length by omega)
    have e4 : szN st.slots (k + 1) = szN st.slots k + v.size := by simp only [szN]; rw [sizeOfS_get h2]
    refine ⟨?_, by omega, ?_⟩
    · show atN st.slots st.slots.length ≤ _
      omega
    · refine (h.inn k f0 v ?_).2.2
      rw [← h2, List.getD_eq_getElem?_getD, List.getElem?_eq_getElem h1, Option.getD_some]
  apart := fun k k' f v f' v' hlt h1 h2 => cp_apart (by have := h.sz; omega) (Nat.le_refl _) k k' f v f' v' (by omega) h1 h2
  sum := by
    have key : ∀ i, i ≤ st.slots.length → sumS (cpN st.slots i) = 4 * i + szN st.slots i := by
      intro i
      induction i with
      | zero => intro _; rfl
      | succ i ih =>
        intro hi
        rw [cpN, sumS_append, ih (by omega), szN]
        have : sumS [cpS st.slots i] = 4 + sizeOfS (st.slots.getD i none) := by
          unfold cpS
          cases st.slots.getD i none with
          | none => rfl
          | some fv => simp [sumS, sizeOfS]
        omega
    show 4 + sumS (cpN st.slots st.slots.length) ≤ 512
    rw [key _ (Nat.le_refl _)]
    have := h.sz
    omega

theorem midF_last {st : St} : lay (lay (midF st st.slots.length) 0 st.slots.length 2) 2 (atN st.slots st.slots.length) 2 = enc (compactA st) := by
  unfold midF
  rw [encG_set, List.drop_length, List.append_nil]
  unfold enc compactA
  show _ = encG (cpN st.slots st.slots.length).length _ _ _
  rw [cpN_length]

theorem midF_none {st : St} {i : Nat} (hi : i < st.slots.length) (hn : st.slots.getD i none = none) : midF st i = midF st (i + 1) := by
  unfold midF
  rw [cp_step_none _ hi hn, cp_data_none hn]

theorem midF_some {st : St} (h : Wf st) {i f : Nat} {v : Ver} (hi : i < st.slots.length) (hn : st.slots.getD i none = some (f, v)) :
    lay (lay (over (midF st i) (atN st.slots (i + 1)) v.size v.byte) (4 + 4 * i) (atN st.slots (i + 1)) 2) (4 + 4 * i + 2) v.size 2 = midF st (i + 1) := by
  have hs := h.sz
  have e1 := atN_szN (by omega) (i + 1) (by omega : i + 1 ≤ st.slots.length)
  have e3 := szN_mono st.slots (show i + 1 ≤ st.slots.length by omega)
  have hlen := cp_len st.slots (show i ≤ st.slots.length by omega)
  unfold midF
  rw [encG_over _ _ _ _ _ _ _ (by rw [hlen]; omega), ← cp_data_some (by omega) hi hn]
  have e2 := encG_point st.slots.length st.start (cpN st.slots i ++ st.slots.drop i) (dataOf (cpN st.slots (i + 1))) i (cpS st.slots i) (by rw [hlen]; exact hi)
  have e4 : cpS st.slots i = some (atN st.slots (i + 1), v) := by unfold cpS; rw [hn]
  rw [cp_step _ hi] at e2
  rw [e4] at e2
  exact e2

/-! One more. -/

def growK (l : List Slot) (k : Nat) : List Slot := if k = l.length then l ++ [none] else l

theorem growK_len (l : List Slot) (k : Nat) (hk : k ≤ l.length) : (growK l k).length = max l.length (k + 1) := by
  unfold growK
  split
  · simp; omega
  · omega

theorem growK_get {l : List Slot} {k : Nat} (hk : k = l.length ∨ l[k]? = some none) : (growK l k)[k]? = some none := by
  unfold growK
  split
  · rename_i h; subst h; simp
  · exact hk.resolve_left (by assumption)

theorem growK_old {l : List Slot} {k j : Nat} {f : Nat} {v : Ver} (h : (growK l k)[j]? = some (some (f, v))) : l[j]? = some (some (f, v)) := by
  unfold growK at h
  split at h
  · by_cases hj : j < l.length
    · rwa [List.getElem?_append_left hj] at h
    · rw [List.getElem?_append_right (by omega)] at h
      cases hjl : j - l.length with
      | zero => rw [hjl] at h; simp at h
      | succ n => rw [hjl] at h; simp at h
  · exact h

theorem growK_sum (l : List Slot) (k : Nat) : sumS (growK l k) = sumS l + (if k = l.length then 4 else 0) := by
  unfold growK
  split
  · rw [sumS_append]; rfl
  · rfl

def laidA (st : St) (k : Nat) (v : Ver) : St := ⟨(growK st.slots k).set k (some (st.start - v.size, v)), st.start - v.size⟩

theorem Wf.laid {st : St} (h : Wf st) {k : Nat} {v : Ver} (hk : k = st.slots.length ∨ st.slots[k]? = some none) (hv : v.Ok)
    (hlow : v.size + (4 + 4 * (growK st.slots k).length) ≤ st.start) (hsum : 4 + sumS (growK st.slots k) + v.size ≤ 512) : Wf (laidA st k v) where
  low := by show 4 + 4 * ((growK st.slots k).set k _).length ≤ st.start - v.size; rw [List.length_set]; omega
  high := by show st.start - v.size ≤ 512; have := h.high; omega
  inn := fun k1 f1 v1 h1 => by
    have hh := h.high
    rcases set_get h1 with ⟨_, e⟩ | ⟨_, e⟩
    · cases e
      exact ⟨Nat.le_refl _, by omega, hv⟩
    · have := h.inn k1 f1 v1 (growK_old e)
      exact ⟨by show st.start - v.size ≤ f1; omega, this.2⟩
  apart := fun k1 k2 f1 v1 f2 v2 hlt h1 h2 => by
    rcases set_get h1 with ⟨e, e1⟩ | ⟨e, e1⟩
    · rcases set_get h2 with ⟨e', e2⟩ | ⟨e', e2⟩
      · omega
      · cases e1
        have := h.inn k2 f2 v2 (growK_old e2)
        exact .inl (by omega)
    · rcases set_get h2 with ⟨e', e2⟩ | ⟨e', e2⟩
      · cases e2
        have := h.inn k1 f1 v1 (growK_old e1)
        exact .inr (by omega)
      · exact h.apart k1 k2 f1 v1 f2 v2 hlt (growK_old e1) (growK_old e2)
  sum := by
    show 4 + sumS ((growK st.slots k).set k (some (st.start - v.size, v))) ≤ 512
    have hg := growK_get hk
    have := sumS_set (l := growK st.slots k) (k := k) (t := some (st.start - v.size, v)) (List.getElem?_eq_some_iff.1 hg).1
    rw [getD_of hg] at this
    have h0 : sizeOfS none = 0 := rfl
    have h1 : sizeOfS (some (st.start - v.size, v)) = v.size := rfl
    omega

theorem enc_laid {st : St} (h : Wf st) {k : Nat} {v : Ver} (hk : k = st.slots.length ∨ st.slots[k]? = some none) (hv : v.Ok)
    (hlow : v.size + (4 + 4 * (growK st.slots k).length) ≤ st.start) (hsum : 4 + sumS (growK st.slots k) + v.size ≤ 512) :
    lay (lay (over (lay (lay (enc st) 0 (growK st.slots k).length 2) 2 (st.start - v.size) 2) (st.start - v.size) v.size v.byte) (4 + 4 * k) (st.start - v.size) 2) (4 + 4 * k + 2) v.size 2 = enc (laidA st k v) := by
  have hW := h.laid hk hv hlow hsum
  have hg := growK_get hk
  have hgl : k < (growK st.slots k).length := (List.getElem?_eq_some_iff.1 hg).1
  unfold enc
  rw [encG_set]
  have e0 : encG (growK st.slots k).length (st.start - v.size) st.slots (dataOf st.slots) = encG (growK st.slots k).length (st.start - v.size) (growK st.slots k) (dataOf (growK st.slots k)) := by
    unfold growK
    split
    · have e1 : dataOf (st.slots ++ [none]) = dataOf st.slots := dataOf_append_none _ 1
      rw [e1]
      refine (encG_free _ _ _ _ 1 fun i h1 h2 => h.low_zero ?_).symm
      have : (growK st.slots k).length = st.slots.length + 1 := by unfold growK; rw [if_pos (by assumption)]; simp
      omega
    · rfl
  rw [e0, encG_over _ _ _ _ _ _ _ (by omega)]
  have e2 : over (dataOf (growK st.slots k)) (st.start - v.size) v.size v.byte = dataOf ((growK st.slots k).set k (some (st.start - v.size, v))) := by
    funext i
    rw [dataOf_put hg hW.apt]
    rfl
  rw [e2]
  have e3 := encG_point (growK st.slots k).length (st.start - v.size) (growK st.slots k) (dataOf ((growK st.slots k).set k (some (st.start - v.size, v)))) k (some (st.start - v.size, v)) hgl
  simp only [fromOf, sizeOfS] at e3
  rw [e3]
  show _ = encG ((growK st.slots k).set k (some (st.start - v.size, v))).length _ _ _
  rw [List.length_set]
  rfl

/-- A version is put: where there is room. -/
def putA (st : St) (v : Ver) : St :=
  laidA (if st.start < v.size + (4 + 4 * (growK st.slots (firstFree st.slots)).length) then compactA st else st) (firstFree st.slots) v

theorem firstFree_le (l : List Slot) : firstFree l ≤ l.length := List.findIdx_le_length

theorem firstFree_get (l : List Slot) : firstFree l = l.length ∨ l[firstFree l]? = some none := by
  by_cases h : firstFree l < l.length
  · right
    have h1 := List.findIdx_getElem (w := h)
    have h2 : (l[firstFree l]).isSome = false := by
      show (l[List.findIdx (fun s => !s.isSome) l]).isSome = false
      simpa using h1
    rw [List.getElem?_eq_getElem h]
    cases hs : l[firstFree l] with
    | none => rfl
    | some x => rw [hs] at h2; cases h2
  · left; have := firstFree_le l; omega

theorem firstFree_compact (st : St) : firstFree st.slots = (compactA st).slots.length ∨ (compactA st).slots[firstFree st.slots]? = some none := by
  show _ = (cpN st.slots st.slots.length).length ∨ (cpN st.slots st.slots.length)[firstFree st.slots]? = some none
  rw [cpN_length]
  rcases firstFree_get st.slots with h | h
  · exact .inl h
  · right
    rw [cpN_get _ _ _ (List.getElem?_eq_some_iff.1 h).1]
    unfold cpS
    rw [getD_of h]

theorem room_sum {l : List Slot} {n : Nat} (h : (n : Int) ≤ roomA l) : 4 + sumS (growK l (firstFree l)) + (30 + n) ≤ 512 := by
  unfold roomA at h
  rw [growK_sum]
  by_cases e : firstFree l = l.length
  · rw [if_pos e] at h ⊢; omega
  · rw [if_neg e] at h ⊢; omega

end Go.Proofs.Ytffbfgmhfnbmfaa
