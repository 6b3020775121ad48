/- Pages in plain numbers: the reference's bytes. -/
import Derived.Test.YtffbfgmhfnbmfaaS2
import Derived.Test.YtffbfgmhfnbmfaaPr
namespace Go.Proofs.Ytffbfgmhfnbmfaa

theorem head_at (r x y P S j : Nat) (hj : j < 30) : head r x y P S j = if j < 8 then fb r j else if j < 16 then fb x (j - 8) else if j < 24 then fb y (j - 16) else if j < 28 then fb P (j - 24) else fb S (j - 28) := by
  unfold head lay fb
  by_cases h1 : j < 8
  · rw [if_neg (by omega), if_neg (by omega), if_neg (by omega), if_neg (by omega), if_pos (by omega), if_pos h1, Nat.sub_zero]
  · by_cases h2 : j < 16
    · rw [if_neg (by omega), if_neg (by omega), if_neg (by omega), if_pos (by omega), if_neg h1, if_pos h2]
    · by_cases h3 : j < 24
      · rw [if_neg (by omega), if_neg (by omega), if_pos (by omega), if_neg h1, if_neg h2, if_pos h3]
      · by_cases h4 : j < 28
        · rw [if_neg (by omega), if_pos (by omega), if_neg h1, if_neg h2, if_neg h3, if_pos h4]
        · rw [if_pos (by omega), if_neg h1, if_neg h2, if_neg h3, if_neg h4]

theorem packF_byte {r x y P S m : Nat} {d : Nat → Nat} (v : Ver) (hr : v.row = r) (hx : v.x = x) (hy : v.y = y) (hP : v.P = P) (hS : v.S = S) (hm : v.data.length = m) (hd : ∀ j, j < m → d j = v.data.getD j 0) (j : Nat) (hj : j < 30 + m) : packF r x y P S m d j = v.byte j := by
  subst hr hx hy hP hS hm
  unfold packF Ver.byte joined
  by_cases h30 : j < 30
  · rw [if_pos h30, if_pos h30, head_at _ _ _ _ _ _ h30]
    by_cases h1 : j < 8
    · rw [if_pos (by omega), if_pos (by omega), if_pos (by omega), if_pos h1, if_pos h1, if_pos h30]
    · by_cases h2 : j < 16
      · rw [if_pos (by omega), if_pos (by omega), if_pos (by omega), if_neg h1, if_pos (by omega), if_neg h1, if_pos h2, if_pos h30]
      · by_cases h3 : j < 24
        · rw [if_pos (by omega), if_pos (by omega), if_neg (by omega), if_pos (by omega), if_neg h1, if_neg h2, if_pos h3, if_pos h30]
        · by_cases h4 : j < 28
          · rw [if_pos (by omega), if_neg (by omega), if_pos (by omega), if_neg h1, if_neg h2, if_neg h3, if_pos h4, if_pos h30]
          · rw [if_neg (by omega), if_pos (by omega), if_neg h1, if_neg h2, if_neg h3, if_neg h4]
  · rw [if_neg h30, if_pos hj, if_neg h30, hd _ (by omega)]

theorem rb_start (c s : Nat) : over (over (fun _ => 0) 0 2 (fb c)) 2 2 (fb s) = encG c s [] (dataOf []) := by
  funext j
  unfold over encG byteOf fb
  by_cases h1 : j < 2
  · rw [if_neg (by omega), if_pos (by omega), if_pos h1, Nat.sub_zero]
  · by_cases h2 : j < 4
    · rw [if_pos (by omega), if_neg h1, if_pos h2]
    · rw [if_neg (by omega), if_neg (by omega), if_neg h1, if_neg h2, if_neg (by simp; omega)]; rfl

theorem over_two (g : Nat → Nat) (off x y : Nat) : over g off 4 (joined 2 (fb x) 2 (fb y)) = lay (lay g off x 2) (off + 2) y 2 := by
  funext j
  unfold over lay joined fb
  by_cases h1 : off ≤ j ∧ j < off + 4
  · rw [if_pos h1]
    by_cases h2 : j < off + 2
    · rw [if_pos (by omega), if_neg (by omega), if_pos (by omega)]
    · rw [if_neg (by omega), if_pos (by omega), if_pos (by omega), show j - off - 2 = j - (off + 2) from by omega]
  · rw [if_neg h1, if_neg (by omega), if_neg (by omega)]

theorem take_get {l : List Slot} {i k : Nat} {s : Slot} (h : (l.take i)[k]? = some s) : l[k]? = some s ∧ k < i := by
  rw [List.getElem?_take] at h
  split at h
  · exact ⟨h, ‹_›⟩
  · cases h

theorem Wf.take_zero {st : St} (h : Wf st) (i j : Nat) (hj : j < st.start) : dataOf (st.slots.take i) j = 0 :=
  dataOf_none fun k f v hk => by
    have := (h.inn k f v (take_get hk).1).1
    omega

theorem rb_grow {st : St} (h : Wf st) (c s i : Nat) (hi : i < st.slots.length) : encG c s (st.slots.take i ++ [none]) (dataOf (st.slots.take i ++ [none])) = encG c s (st.slots.take i) (dataOf (st.slots.take i)) := by
  have hl : (st.slots.take i).length = i := by rw [List.length_take]; omega
  have hd := dataOf_append_none (st.slots.take i) 1
  rw [show List.replicate 1 (none : Slot) = [none] from rfl] at hd
  rw [hd]
  refine encG_free c s (st.slots.take i) (dataOf (st.slots.take i)) 1 fun j h1 h2 => h.take_zero i j ?_
  have := h.low
  omega

theorem take_one {l : List Slot} {i : Nat} {s : Slot} (hi : i < l.length) (hs : l.getD i none = s) : l.take (i + 1) = l.take i ++ [s] := by
  rw [List.take_add_one, List.getElem?_eq_getElem hi]
  rw [List.getD_eq_getElem?_getD, List.getElem?_eq_getElem hi] at hs
  simp at hs
  simp [hs]

theorem rb_none {st : St} (h : Wf st) (c s i : Nat) (hi : i < st.slots.length) (hs : st.slots.getD i none = none) : encG c s (st.slots.take i) (dataOf (st.slots.take i)) = encG c s (st.slots.take (i + 1)) (dataOf (st.slots.take (i + 1))) := by
  rw [take_one hi hs, rb_grow h c s i hi]

theorem rb_some {st : St} (h : Wf st) (c s i f : Nat) (v : Ver) (hi : i < st.slots.length) (hs : st.slots.getD i none = some (f, v)) :
    over (over (encG c s (st.slots.take i) (dataOf (st.slots.take i))) (4 + 4 * i) 4 (joined 2 (fb f) 2 (fb v.size))) f v.size v.byte = encG c s (st.slots.take (i + 1)) (dataOf (st.slots.take (i + 1))) := by
  have hl : (st.slots.take i).length = i := by rw [List.length_take]; omega
  have hget : st.slots[i]? = some (some (f, v)) := by
    rw [List.getD_eq_getElem?_getD, List.getElem?_eq_getElem hi] at hs
    rw [List.getElem?_eq_getElem hi]; simpa using hs
  have hin := h.inn i f v hget
  have hlow := h.low
  have hset : (st.slots.take i ++ [none]).set i (some (f, v)) = st.slots.take (i + 1) := by
    rw [take_one hi hs, List.set_append_right _ _ (by omega), hl, Nat.sub_self]; rfl
  have hapt : Apart (st.slots.take (i + 1)) := fun k k' f1 v1 f2 v2 hne h1 h2 => h.apt k k' f1 v1 f2 v2 hne (take_get h1).1 (take_get h2).1
  have hpt := encG_point c s (st.slots.take i ++ [none]) (dataOf (st.slots.take i ++ [none])) i (some (f, v)) (by simp [hl])
  rw [show fromOf (some (f, v)) = f from rfl, show sizeOfS (some (f, v)) = v.size from rfl] at hpt
  rw [over_two, ← rb_grow h c s i hi, hpt, encG_over _ _ _ _ _ _ _ (by rw [hset, List.length_take]; omega)]
  rw [hset]
  congr 1
  funext j
  rw [← hset, dataOf_put (by rw [List.getElem?_append_right (by omega), hl, Nat.sub_self]; rfl) (by rw [hset]; exact hapt) j]
  rfl

theorem rb_end (st : St) : encG st.slots.length st.start (st.slots.take st.slots.length) (dataOf (st.slots.take st.slots.length)) = enc st := by
  rw [List.take_length]; rfl
end Go.Proofs.Ytffbfgmhfnbmfaa
