/- What a call leaves of the other slots: plain laws. -/
import Derived.Test.YtffbfgmhfnbmfaaDa
namespace Go.Proofs.Ytffbfgmhfnbmfaa
open Go.RowKit

/-- The version in a slot. -/
def verAt (st : St) (k : Nat) : Option Ver := (vers st.slots).getD k none

theorem verAt_some {st : St} {k f : Nat} {v : Ver} (h : st.slots[k]? = some (some (f, v))) : verAt st k = some v := by
  unfold verAt; rw [List.getD_eq_getElem?_getD, vers_get, h]; rfl

theorem verAt_get {st : St} {k : Nat} {v : Ver} (h : verAt st k = some v) : ∃ f, st.slots[k]? = some (some (f, v)) := by
  unfold verAt at h
  rw [List.getD_eq_getElem?_getD] at h
  apply vers_some
  cases hk : (vers st.slots)[k]? with
  | none => rw [hk] at h; cases h
  | some s => rw [hk] at h; simp at h; rw [h]

theorem there_verAt (st : St) (k : Nat) : thereB st (k : Int) = (verAt st k).isSome := by
  unfold thereB verAt
  rw [vers_getD, Int.toNat_natCast]
  simp

theorem there_int {st : St} {k : Int} (h : thereB st k = true) : ∃ n v, k = (n : Nat) ∧ verAt st n = some v := by
  obtain ⟨n, f, ver, rfl, h2⟩ := there_yes h
  exact ⟨n, ver, rfl, verAt_some h2⟩

theorem ffL_le (L : Ln) : ffL L ≤ L.length := List.findIdx_le_length

theorem putL_other (L : Ln) (v : Ver) {j : Nat} (h : j ≠ ffL L) : (putL L v).getD j none = L.getD j none := by
  unfold putL
  split
  · rename_i e
    rw [List.getD_eq_getElem?_getD, List.getD_eq_getElem?_getD]
    by_cases hj : j < L.length
    · rw [List.getElem?_append_left hj]
    · rw [List.getElem?_eq_none (l := L) (by omega), List.getElem?_eq_none (by simp; omega)]
  · rw [List.getD_eq_getElem?_getD, List.getD_eq_getElem?_getD, List.getElem?_set_ne (Ne.symm h)]

theorem putL_at (L : Ln) (v : Ver) : (putL L v).getD (ffL L) none = some v := by
  unfold putL
  have := ffL_le L
  split
  · rename_i e
    rw [List.getD_eq_getElem?_getD, e, List.getElem?_append_right (by omega), Nat.sub_self]; rfl
  · rw [List.getD_eq_getElem?_getD, List.getElem?_set_self (by omega)]; rfl

theorem trimLN_none (L : Ln) (m : Nat) : ∀ j, trimLN L m ≤ j → j < m → L.getD j none = none := by
  induction m with
  | zero => intro j _ h; omega
  | succ m ih =>
    intro j h1 h2
    unfold trimLN at h1
    split at h1
    · omega
    · rename_i hs
      by_cases e : j = m
      · subst e
        cases h : L.getD j none with
        | none => rfl
        | some v => rw [h] at hs; simp at hs
      · exact ih j h1 (by omega)

theorem trimL_get (L : Ln) (j : Nat) : (trimL L).getD j none = L.getD j none := by
  unfold trimL
  by_cases h : j < trimLN L L.length
  · rw [List.getD_eq_getElem?_getD, List.getD_eq_getElem?_getD, List.getElem?_take, if_pos h]
  · rw [List.getD_eq_getElem?_getD, List.getElem?_take, if_neg h]
    by_cases hj : j < L.length
    · rw [trimLN_none L L.length j (by omega) hj]; rfl
    · rw [List.getD_eq_getElem?_getD, List.getElem?_eq_none (by omega)]

theorem freeL_other (L : Ln) {k j : Nat} (h : j ≠ k) : (freeL L k).getD j none = L.getD j none := by
  unfold freeL
  rw [trimL_get, List.getD_eq_getElem?_getD, List.getD_eq_getElem?_getD, List.getElem?_set_ne (Ne.symm h)]

theorem stampR_other (st : St) (k : Int) (x : Nat) (p s : Int) (j : Nat) (h : (j : Int) ≠ k) : verAt (stampR st k x p s).2 j = verAt st j := by
  unfold stampR
  split
  · rfl
  · split
    · rename_i h2
      obtain ⟨n, f, ver, rfl, hk⟩ := there_yes h2
      show verAt (stampA st n _ _ _) j = _
      rw [stampA_eq hk]
      unfold verAt
      show (vers (st.slots.set n _)).getD j none = _
      rw [vers_set, List.getD_eq_getElem?_getD, List.getD_eq_getElem?_getD, List.getElem?_set_ne (by omega)]
    · rfl

theorem freeR_other (st : St) (k : Int) (j : Nat) (h : (j : Int) ≠ k) : verAt (freeR st k).2 j = verAt st j := by
  unfold freeR
  split
  · rename_i h2
    obtain ⟨n, f, ver, rfl, hk⟩ := there_yes h2
    show verAt (freeA st n) j = _
    unfold verAt
    rw [vers_free, freeL_other _ (by omega)]
  · rfl

theorem insertR_cases (st : St) (r x y : Nat) (p s : Int) (m : Nat) (d : Nat → Nat) :
    ((insertR st r x y p s m d).2.1 ≠ 0 ∧ (insertR st r x y p s m d).2.2 = st) ∨
    ((insertR st r x y p s m d).2.1 = 0 ∧ rightB r x y p s m = true ∧ verAt (insertR st r x y p s m d).2.2 (insertR st r x y p s m d).1 = some (verOf r x y (p + 1).toNat (s + 1).toNat m d) ∧ ∀ j, j ≠ (insertR st r x y p s m d).1 → verAt (insertR st r x y p s m d).2.2 j = verAt st j) := by
  unfold insertR
  split
  · exact .inl ⟨by simp, rfl⟩
  · rename_i hr
    split
    · exact .inl ⟨by simp, rfl⟩
    · refine .inr ⟨rfl, by simpa using hr, ?_, ?_⟩
      · show verAt (putA st _) (firstFree st.slots) = _
        unfold verAt; rw [vers_put, vers_ff, putL_at]
      · intro j hj
        show verAt (putA st _) j = _
        unfold verAt; rw [vers_put, putL_other _ _ (by rw [← vers_ff]; exact hj)]
end Go.Proofs.Ytffbfgmhfnbmfaa
