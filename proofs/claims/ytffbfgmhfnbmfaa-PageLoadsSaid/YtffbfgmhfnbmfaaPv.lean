/- Pages as lists of versions, without their places. -/
import Derived.Test.YtffbfgmhfnbmfaaPr
namespace Go.Proofs.Ytffbfgmhfnbmfaa

abbrev Ln := List (Option Ver)

def vers (l : List Slot) : Ln := l.map (Option.map Prod.snd)

def szL (s : Option Ver) : Nat := match s with | some v => v.size | none => 0
def sumL (L : Ln) : Nat := (L.map fun s => 4 + szL s).sum
def ffL (L : Ln) : Nat := L.findIdx fun s => !s.isSome
def roomL (L : Ln) : Int := max (478 - (sumL L : Int) - (if ffL L = L.length then 4 else 0)) (-1)
def usedL (L : Ln) : Nat := L.countP fun s => s.isSome
def putL (L : Ln) (v : Ver) : Ln := if ffL L = L.length then L ++ [some v] else L.set (ffL L) (some v)
def trimLN (L : Ln) : Nat → Nat
  | 0 => 0
  | m + 1 => if (L.getD m none).isSome then m + 1 else trimLN L m
def trimL (L : Ln) : Ln := L.take (trimLN L L.length)
def freeL (L : Ln) (k : Nat) : Ln := trimL (L.set k none)

theorem vers_len (l : List Slot) : (vers l).length = l.length := List.length_map ..

theorem vers_get (l : List Slot) (k : Nat) : (vers l)[k]? = (l[k]?).map (Option.map Prod.snd) := by simp [vers]

theorem vers_some {l : List Slot} {k : Nat} {v : Ver} (h : (vers l)[k]? = some (some v)) : ∃ f, l[k]? = some (some (f, v)) := by
  rw [vers_get] at h
  cases hk : l[k]? with
  | none => rw [hk] at h; cases h
  | some s =>
    rw [hk] at h
    cases s with
    | none => simp at h
    | some p => obtain ⟨f, v'⟩ := p; simp at h; subst h; exact ⟨f, rfl⟩

theorem vers_getD (l : List Slot) (k : Nat) : ((vers l).getD k none).isSome = (l.getD k none).isSome := by
  rw [List.getD_eq_getElem?_getD, vers_get, List.getD_eq_getElem?_getD]
  cases l[k]? with
  | none => rfl
  | some s => cases s <;> rfl

theorem vers_sum (l : List Slot) : sumS l = sumL (vers l) := by
  unfold sumS sumL vers
  rw [List.map_map]
  congr 1
  apply List.map_congr_left
  intro s _
  cases s <;> rfl

theorem vers_ff (l : List Slot) : firstFree l = ffL (vers l) := by
  unfold firstFree ffL vers
  rw [List.findIdx_map]
  congr 1
  funext s
  cases s <;> rfl

theorem vers_used (l : List Slot) : usedA l = usedL (vers l) := by
  unfold usedA usedL vers
  rw [List.countP_map]
  congr 1
  funext s
  cases s <;> rfl

theorem vers_room (l : List Slot) : roomA l = roomL (vers l) := by
  unfold roomA roomL
  rw [vers_sum, vers_ff, vers_len]

theorem vers_cp (l : List Slot) : vers (cpN l l.length) = vers l := by
  apply List.ext_getElem?
  intro k
  rw [vers_get, vers_get]
  by_cases hk : k < l.length
  · rw [cpN_get l l.length k hk, List.getElem?_eq_getElem hk]
    unfold cpS
    rw [getD_of (List.getElem?_eq_getElem hk)]
    cases l[k] with
    | none => rfl
    | some p => rfl
  · rw [List.getElem?_eq_none (by rw [cpN_length]; omega), List.getElem?_eq_none (by omega)]

theorem vers_grow (l : List Slot) (k : Nat) : vers (growK l k) = if k = l.length then vers l ++ [none] else vers l := by
  unfold growK
  split
  · simp [vers]
  · rfl

theorem vers_set (l : List Slot) (k : Nat) (s : Slot) : vers (l.set k s) = (vers l).set k (s.map Prod.snd) := by
  unfold vers; rw [List.map_set]

theorem vers_laid (st : St) (k : Nat) (v : Ver) : vers (laidA st k v).slots = if k = st.slots.length then vers st.slots ++ [some v] else (vers st.slots).set k (some v) := by
  show vers ((growK st.slots k).set k (some (st.start - v.size, v))) = _
  rw [vers_set, vers_grow]
  split
  · rename_i h
    rw [List.set_append_right _ _ (by rw [vers_len]; omega), vers_len, h, Nat.sub_self]
    rfl
  · rfl

theorem vers_put (st : St) (v : Ver) : vers (putA st v).slots = putL (vers st.slots) v := by
  unfold putA putL
  rw [vers_laid, vers_ff]
  split
  · rw [compact_len, show vers (compactA st).slots = vers st.slots from vers_cp _, vers_len]
  · rw [vers_len]

theorem trimN_vers (l : List Slot) : ∀ m, trimN l m = trimLN (vers l) m
  | 0 => rfl
  | m + 1 => by unfold trimN trimLN; rw [vers_getD, trimN_vers l m]

theorem vers_trim (l : List Slot) : vers (trim l) = trimL (vers l) := by
  unfold trim trimL
  rw [vers_len, trimN_vers]
  unfold vers
  rw [List.map_take]

theorem vers_free (st : St) (k : Nat) : vers (freeA st k).slots = freeL (vers st.slots) k := by
  show vers (trim (st.slots.set k none)) = _
  rw [vers_trim, vers_set]
  rfl

theorem Wf.free' {st : St} (h : Wf st) {k f : Nat} {v : Ver} (hk : st.slots[k]? = some (some (f, v))) : Wf (freeA st k) := (h.clear hk).trim

theorem Wf.put {st : St} (h : Wf st) {v : Ver} (hv : v.Ok) (hr : (v.data.length : Int) ≤ roomA st.slots) : Wf (putA st v) := by
  have hs : v.size = 30 + v.data.length := rfl
  have hsum := room_sum hr
  unfold putA
  split
  · rename_i hc
    have hk := firstFree_compact st
    have e : growK (compactA st).slots (firstFree st.slots) = growK (cpN st.slots st.slots.length) (firstFree st.slots) := rfl
    have hg : sumS (growK (compactA st).slots (firstFree st.slots)) = sumS (growK st.slots (firstFree st.slots)) := by
      rw [growK_sum, growK_sum, sumS_compact, compact_len]
    have hl : (growK (compactA st).slots (firstFree st.slots)).length = (growK st.slots (firstFree st.slots)).length := by
      rw [growK_len _ _ (by rw [compact_len]; exact firstFree_le _), growK_len _ _ (firstFree_le _), compact_len]
    refine h.compact.laid hk hv ?_ (by rw [hg]; omega)
    rw [hl]
    show _ ≤ atN st.slots st.slots.length
    have hz := h.sz
    have ha := atN_szN (l := st.slots) (by omega) st.slots.length (Nat.le_refl _)
    have h1 := sumS_szN st.slots
    have h2 := growK_sum st.slots (firstFree st.slots)
    have h3 := growK_len st.slots (firstFree st.slots) (firstFree_le _)
    have h4 := firstFree_le st.slots
    by_cases e2 : firstFree st.slots = st.slots.length
    · rw [if_pos e2] at h2; omega
    · rw [if_neg e2] at h2; omega
  · exact h.laid (firstFree_get _) hv (by omega) (by omega)

/-- A page in memory that has these versions. -/
def PageIs (w : World) (b : Nat) (L : Ln) : Prop := ∃ st, Wf st ∧ Byt w b 75 512 (enc st) ∧ vers st.slots = L

theorem PageIs.kept {S : Nat → Prop} {w w' : World} {b : Nat} {L : Ln} (h : PageIs w b L) (k : Kept S w w') (hs : ¬ S b) : PageIs w' b L := by
  obtain ⟨st, h1, h2, h3⟩ := h
  exact ⟨st, h1, h2.kept k hs, h3⟩

theorem PageIs.drewN {w : World} {b : Nat} {L : Ln} (h : PageIs w b L) (n : Nat) : PageIs (w.drewN n) b L := by
  obtain ⟨st, h1, h2, h3⟩ := h
  exact ⟨st, h1, h2.drewN n, h3⟩

theorem PageIs.blk {w : World} {b : Nat} {L : Ln} (h : PageIs w b L) : b < w.heap.size := by
  obtain ⟨st, h1, h2, h3⟩ := h
  exact h2.blk

def Turned (b : Nat) (L : Ln) (v : Value) (w : World) (e : Ending) (w' : World) : Prop := e = .returned v ∧ PageIs w' b L ∧ Kept (· = b) w w'

theorem insert_is (b : Nat) (L : Ln) (v : Ver) (a : Option Addr) (n c : Nat) (d : Nat → Nat) (w : World) (hw : PageIs w b L) (hv : v.Ok) (hfar : farB ((v.P : Int) - 1) ((v.S : Int) - 1) = false)
    (hn : v.data.length = n) (hd : Bytes w a n d) (hdd : ∀ j, d j = v.data.getD j 0) (hr : (n : Int) ≤ roomL L) :
    Calls Try.prog 12 #[.pointer (some ⟨b, 0, none⟩), tupV v.row v.x v.y ((v.P : Int) - 1) ((v.S : Int) - 1) (.slice a n c)] w (Turned b (putL L v) (.tuple #[.int .i64 (ffL L), .int .i64 0]) w) := by
  obtain ⟨st, h1, h2, rfl⟩ := hw
  rw [← vers_room] at hr
  refine (insert_ok b st v a n c d w h2 h1 hv hfar hn hd hdd hr).mono ?_
  rintro e w' ⟨rfl, hb, hk⟩
  exact ⟨by rw [vers_ff], ⟨_, h1.put hv (by rw [hn]; exact hr), hb, vers_put _ _⟩, hk⟩

theorem insert_none (b : Nat) (L : Ln) (r x y : Nat) (p s : Int) (a : Option Addr) (n c : Nat) (w : World) (hw : PageIs w b L) (h : rightB r x y p s n = true) (hr : roomL L < (n : Int)) :
    Calls Try.prog 12 #[.pointer (some ⟨b, 0, none⟩), tupV r x y p s (.slice a n c)] w (Pair 0 12 w) := by
  obtain ⟨st, h1, h2, rfl⟩ := hw
  rw [← vers_room] at hr
  exact insert_full b st r x y p s a n c w h2 h1 h hr

theorem free_is (b k : Nat) (v : Ver) (L : Ln) (w : World) (hw : PageIs w b L) (hk : L[k]? = some (some v)) :
    Calls Try.prog 13 #[.pointer (some ⟨b, 0, none⟩), .int .i64 k] w (Turned b (freeL L k) (.int .i64 0) w) := by
  obtain ⟨st, h1, h2, rfl⟩ := hw
  obtain ⟨f, hk⟩ := vers_some hk
  refine (free_yes b k f v st w h2 h1 hk).mono ?_
  rintro e w' ⟨rfl, hb, hkk⟩
  exact ⟨rfl, ⟨_, h1.free' hk, hb, vers_free _ _⟩, hkk⟩

theorem used_is (b : Nat) (L : Ln) (w : World) (hw : PageIs w b L) : Calls Try.prog 14 #[.pointer (some ⟨b, 0, none⟩)] w (Quiet (.int .i64 (usedL L)) w) := by
  obtain ⟨st, h1, h2, rfl⟩ := hw
  rw [← vers_used]
  exact used_enc b st w h2 h1

theorem slots_is (b : Nat) (L : Ln) (w : World) (hw : PageIs w b L) : Calls Try.prog 31 #[.pointer (some ⟨b, 0, none⟩)] w (Quiet (.int .i64 L.length) w) := by
  obtain ⟨st, h1, h2, rfl⟩ := hw
  rw [vers_len]
  exact slots_enc b st w h2 h1

theorem new_is (w : World) : Calls Try.prog 11 #[] w fun e w' => e = .returned (.pointer (some ⟨w.heap.size, 0, none⟩)) ∧ PageIs w' w.heap.size [] ∧ w'.heap.size = w.heap.size + 1 ∧ Fresh w w' :=
  (new_enc w).mono fun _ _ ⟨h1, h2, h3, h4⟩ => ⟨h1, ⟨st0, wf0, h2, rfl⟩, h3, h4⟩

/-! One version, many times. -/

theorem sumL_rep (m : Nat) (v : Ver) : sumL (List.replicate m (some v)) = (4 + v.size) * m := by
  unfold sumL
  rw [List.map_replicate, List.sum_replicate_nat]
  exact Nat.mul_comm _ _

theorem ffL_rep (m : Nat) (v : Ver) : ffL (List.replicate m (some v)) = m := by
  unfold ffL
  have := List.findIdx_eq_length_of_false (p := fun s : Option Ver => !s.isSome) (xs := List.replicate m (some v)) (fun x hx => by rw [(List.mem_replicate.1 hx).2]; rfl)
  rw [this, List.length_replicate]

theorem roomL_rep (m : Nat) (v : Ver) : roomL (List.replicate m (some v)) = max (474 - ((4 + v.size : Nat) : Int) * m) (-1) := by
  unfold roomL
  rw [sumL_rep, ffL_rep, List.length_replicate, if_pos rfl]
  congr 1
  push_cast
  omega

theorem putL_rep (m : Nat) (v : Ver) : putL (List.replicate m (some v)) v = List.replicate (m + 1) (some v) := by
  unfold putL
  rw [ffL_rep, List.length_replicate, if_pos rfl, List.replicate_succ']

theorem usedL_rep (m : Nat) (v : Ver) : usedL (List.replicate m (some v)) = m := by
  unfold usedL
  rw [List.countP_replicate]
  rfl

/-- A full page out of which one is taken. -/
theorem freeL_last (m : Nat) (v : Ver) : freeL (List.replicate (m + 1) (some v)) m = List.replicate m (some v) := by
  have e : (List.replicate (m + 1) (some v)).set m none = List.replicate m (some v) ++ [none] := by
    rw [List.replicate_succ', List.set_append_right _ _ (by simp)]
    simp
  unfold freeL
  rw [e]
  unfold trimL
  have e2 : trimLN (List.replicate m (some v) ++ [none]) (m + 1) = m := by
    cases m with
    | zero => rfl
    | succ m =>
      rw [trimLN, if_neg, trimLN, if_pos]
      · rw [List.getD_eq_getElem?_getD, List.getElem?_append_left (by simp)]
        simp
      · rw [List.getD_eq_getElem?_getD, List.getElem?_append_right (by simp)]
        simp
  rw [List.length_append, List.length_replicate, List.length_singleton, e2]
  exact List.take_left' (by simp)

theorem freeL_mid (n i : Nat) (v : Ver) (hi : i + 1 < n) : freeL (List.replicate n (some v)) i = (List.replicate n (some v)).set i none := by
  unfold freeL trimL
  have : trimLN ((List.replicate n (some v)).set i none) n = n := by
    cases n with
    | zero => omega
    | succ n =>
      rw [trimLN, if_pos]
      rw [List.getD_eq_getElem?_getD, List.getElem?_set_ne (by omega)]
      simp
  rw [List.length_set, List.length_replicate, this]
  exact List.take_of_length_le (by simp)

theorem ffL_hole (n i : Nat) (v : Ver) (hi : i < n) : ffL ((List.replicate n (some v)).set i none) = i := by
  unfold ffL
  rw [List.findIdx_eq (by simpa using hi)]
  refine ⟨by simp, fun j hj => ?_⟩
  rw [List.getElem_set_ne (by omega)]
  simp

theorem sumL_set {L : Ln} {k : Nat} {t : Option Ver} (hk : k < L.length) : sumL (L.set k t) + szL (L.getD k none) = sumL L + szL t := by
  induction L generalizing k with
  | nil => simp at hk
  | cons s L ih =>
    cases k with
    | zero => simp [sumL]; omega
    | succ k =>
      have := ih (k := k) (by simpa using hk)
      simp [sumL] at this ⊢
      omega

/-- What is left behind one that was taken out: the next goes there, and there is room. -/
theorem hole (n i : Nat) (v : Ver) (hi : i < n) (hn : (4 + v.size) * n ≤ 508) :
    ffL (freeL (List.replicate n (some v)) i) = i ∧ (v.data.length : Int) ≤ roomL (freeL (List.replicate n (some v)) i) ∧ putL (freeL (List.replicate n (some v)) i) v = List.replicate n (some v) := by
  have hs : v.size = 30 + v.data.length := rfl
  obtain ⟨m, rfl⟩ : ∃ m, n = m + 1 := ⟨n - 1, by omega⟩
  have hmul : (4 + v.size) * (m + 1) = (4 + v.size) * m + (4 + v.size) := Nat.mul_succ _ _
  by_cases h : i = m
  · subst h
    rw [freeL_last, ffL_rep, roomL_rep, putL_rep]
    refine ⟨rfl, ?_, rfl⟩
    have : ((4 + v.size : Nat) : Int) * (i : Int) = (((4 + v.size) * i : Nat) : Int) := by push_cast; rfl
    rw [this]
    omega
  · rw [freeL_mid _ _ _ (by omega)]
    have hf := ffL_hole (m + 1) i v hi
    refine ⟨hf, ?_, ?_⟩
    · unfold roomL
      rw [hf, List.length_set, List.length_replicate, if_neg (by omega)]
      have h1 := sumL_set (L := List.replicate (m + 1) (some v)) (k := i) (t := none) (by simpa using hi)
      rw [sumL_rep, List.getD_eq_getElem?_getD, List.getElem?_replicate, if_pos hi] at h1
      simp only [szL, Option.getD_some] at h1
      omega
    · unfold putL
      rw [hf, List.length_set, List.length_replicate, if_neg (by omega), List.set_set]
      apply List.ext_getElem?
      intro j
      rw [List.getElem?_set]
      by_cases hj : i = j
      · subst hj; simp [hi]
      · rw [if_neg hj]

end Go.Proofs.Ytffbfgmhfnbmfaa
