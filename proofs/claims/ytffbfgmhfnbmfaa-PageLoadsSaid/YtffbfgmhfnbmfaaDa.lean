/- What the page and the reference do, each by one word. -/
import Derived.Test.YtffbfgmhfnbmfaaRi
import Derived.Test.YtffbfgmhfnbmfaaY1
namespace Go.Proofs.Ytffbfgmhfnbmfaa
open Go.RowKit

def thereB (st : St) (k : Int) : Bool := decide (0 ≤ k) && (st.slots.getD k.toNat none).isSome

theorem there_yes {st : St} {k : Int} (h : thereB st k = true) : ∃ n f ver, k = (n : Nat) ∧ st.slots[n]? = some (some (f, ver)) := by
  unfold thereB at h
  simp only [Bool.and_eq_true, decide_eq_true_eq] at h
  obtain ⟨n, rfl⟩ := Int.eq_ofNat_of_zero_le h.1
  have h2 := h.2
  rw [Int.toNat_natCast, List.getD_eq_getElem?_getD] at h2
  cases hs : st.slots[n]? with
  | none => rw [hs] at h2; cases h2
  | some s =>
    cases s with
    | none => rw [hs] at h2; cases h2
    | some p => obtain ⟨f, ver⟩ := p; exact ⟨n, f, ver, rfl, by rw [hs]⟩

theorem there_has {st : St} (h : Wf st) (k : Int) : hasI (enc st) k = thereB st k := by
  unfold hasI thereB
  rw [h.has]

/-- The reference's Get of a slot that has nothing. -/
theorem rget_none (P : Nat → Prop) (R : Nat) (v : Value) (st : St) (w : World) (k : Int) (hw : RefIs P w R v st) (h : thereB st k = false) : Calls Try.prog 35 #[.pointer (some ⟨R, 0, none⟩), .int .i64 k] w (NoGet w) := by
  by_cases h0 : k < 0
  · exact rget_neg R k w h0
  · obtain ⟨n, rfl⟩ := Int.eq_ofNat_of_zero_le (show 0 ≤ k by omega)
    by_cases hn : n < st.slots.length
    · refine rget_free P R v st w n hw ?_
      unfold thereB at h
      simp only [Int.toNat_natCast] at h
      rw [List.getElem?_eq_getElem hn]
      rw [List.getD_eq_getElem?_getD, List.getElem?_eq_getElem hn] at h
      cases hs : st.slots[n] with
      | none => rfl
      | some p => rw [hs] at h; simp at h
    · exact rget_out P R v st w n hw (by omega) (by omega)

def stampR (st : St) (k : Int) (x : Nat) (p s : Int) : Int × St :=
  if 1099511627776 < x ∨ farB p s = true then (3, st) else if thereB st k = true then (0, stampA st k.toNat x (p + 1).toNat (s + 1).toNat) else (15, st)

def freeR (st : St) (k : Int) : Int × St := if thereB st k = true then (0, freeA st k.toNat) else (15, st)

def PDid (b : Nat) (r : Int × St) (w : World) (e : Ending) (w' : World) : Prop := e = .returned (.int .i64 r.1) ∧ Byt w' b 75 512 (enc r.2) ∧ Wf r.2 ∧ Kept (· = b) w w'
def RDid (P : Nat → Prop) (R : Nat) (v : Value) (r : Int × St) (w : World) (e : Ending) (w' : World) : Prop :=
  ∃ v', e = .returned (.int .i64 r.1) ∧ RefIs P w' R v' r.2 ∧ Kept (fun b => b = R ∨ some b = v.ownBlock) w w'

theorem pstamp_any (b : Nat) (st : St) (k : Int) (x : Nat) (p s : Int) (w : World) (hw : Byt w b 75 512 (enc st)) (hst : Wf st) :
    Calls Try.prog 17 #[.pointer (some ⟨b, 0, none⟩), .int .i64 k, .int .u64 x, .agg #[.int .i64 p, .int .i64 s]] w (PDid b (stampR st k x p s) w) := by
  unfold stampR
  by_cases h1 : 1099511627776 < x ∨ farB p s = true
  · rw [if_pos h1]
    refine (stamp_form b _ k x p s w hw hst.fits h1).mono ?_
    rintro e w' ⟨rfl, hF⟩
    exact ⟨rfl, hw.kept hF (by simp), hst, hF.mono fun _ _ h => h.elim⟩
  · rw [if_neg h1]
    have hx : x ≤ 1099511627776 := by omega
    have hf : farB p s = false := by cases h : farB p s <;> simp_all
    by_cases h2 : thereB st k = true
    · rw [if_pos h2]
      obtain ⟨n, f, ver, rfl, hk⟩ := there_yes h2
      obtain ⟨P', S', rfl, rfl, hP', hS'⟩ := near p s hf
      refine (stamp_enc b n f ver st x P' S' w hw hst hk hx hP' hS' hf).mono ?_
      rintro e w' ⟨rfl, hb, hK⟩
      have e1 : ((P' : Int) - 1 + 1).toNat = P' := by omega
      have e2 : ((S' : Int) - 1 + 1).toNat = S' := by omega
      rw [e1, e2, Int.toNat_natCast]
      exact ⟨rfl, hb, hst.stamp hk hx hP' hS', hK⟩
    · rw [if_neg h2]
      refine (stamp_none b _ k x p s w hw hst.fits hx hf (by rw [there_has hst]; simpa using h2)).mono ?_
      rintro e w' ⟨rfl, hF⟩
      exact ⟨rfl, hw.kept hF (by simp), hst, hF.mono fun _ _ h => h.elim⟩

theorem rstamp_any (P : Nat → Prop) (R : Nat) (v : Value) (st : St) (k : Int) (x : Nat) (p s : Int) (w : World) (hw : RefIs P w R v st) :
    Calls Try.prog 51 #[.pointer (some ⟨R, 0, none⟩), .int .i64 k, .int .u64 x, .agg #[.int .i64 p, .int .i64 s]] w (RDid P R v (stampR st k x p s) w) := by
  unfold stampR
  by_cases h1 : 1099511627776 < x ∨ farB p s = true
  · rw [if_pos h1]
    refine (rstamp_form R k x p s w h1).mono ?_
    rintro e w' ⟨rfl, hF⟩
    exact ⟨v, rfl, hw.fresh hF, hF.mono fun _ _ h => h.elim⟩
  · rw [if_neg h1]
    have hx : x ≤ 1099511627776 := by omega
    have hf : farB p s = false := by cases h : farB p s <;> simp_all
    by_cases h2 : thereB st k = true
    · rw [if_pos h2]
      obtain ⟨n, f, ver, rfl, hk⟩ := there_yes h2
      obtain ⟨P', S', rfl, rfl, hP', hS'⟩ := near p s hf
      refine (rstamp_ok P R v st w n f ver x P' S' hw hk hx hf).mono ?_
      rintro e w' ⟨rfl, hb, hK⟩
      have e1 : ((P' : Int) - 1 + 1).toNat = P' := by omega
      have e2 : ((S' : Int) - 1 + 1).toNat = S' := by omega
      rw [e1, e2, Int.toNat_natCast]
      exact ⟨v, rfl, hb, hK.mono fun _ _ h => .inr h⟩
    · rw [if_neg h2]
      refine (rstamp_none R k x p s w hx hf (fun w' hF => rget_none P R v st w' k (hw.fresh hF) (by simpa using h2))).mono ?_
      rintro e w' ⟨rfl, hF⟩
      exact ⟨v, rfl, hw.fresh hF, hF.mono fun _ _ h => h.elim⟩

set_option maxRecDepth 100000 in
set_option maxHeartbeats 1000000 in
theorem free_none (b : Nat) (k : Int) (f : Nat → Nat) (w : World) (hw : Byt w b 75 512 f) (hf : Fits f) (hk : hasI f k = false) :
    Calls Try.prog 13 #[.pointer (some ⟨b, 0, none⟩), .int .i64 k] w (Quiet (.int .i64 15) w) := by
  have hnil := isnil
  have H := Lib.hid (And.intro hw (And.intro hf hk))
  clear hw hf hk
  go_enter Try.func13, Try.ntmps13
  go_wp2_with fail
  refine (bytesOf_int b k f _ H.out.1 H.out.2.1).mono ?_
  rintro e w1 ⟨rfl, m, rfl⟩
  rw [bytI_no H.out.2.2]
  go_wp2_with fail
  go_ret
  exact .of m

theorem pfree_any (b : Nat) (st : St) (k : Int) (w : World) (hw : Byt w b 75 512 (enc st)) (hst : Wf st) : Calls Try.prog 13 #[.pointer (some ⟨b, 0, none⟩), .int .i64 k] w (PDid b (freeR st k) w) := by
  unfold freeR
  by_cases h2 : thereB st k = true
  · rw [if_pos h2]
    obtain ⟨n, f, ver, rfl, hk⟩ := there_yes h2
    refine (free_yes b n f ver st w hw hst hk).mono ?_
    rintro e w' ⟨rfl, hb, hK⟩
    rw [Int.toNat_natCast]
    exact ⟨rfl, hb, hst.free' hk, hK⟩
  · rw [if_neg h2]
    have hno : hasI (enc st) k = false := by rw [there_has hst]; simpa using h2
    have H := free_none b k _ w hw hst.fits hno
    refine H.mono ?_
    rintro e w' ⟨rfl, n, rfl⟩
    have hF := (Kept.refl (fun b' => b' = b) w).drewN n
    exact ⟨rfl, hw.drewN n, hst, hF⟩

theorem rfree_any (P : Nat → Prop) (R : Nat) (v : Value) (st : St) (k : Int) (w : World) (hw : RefIs P w R v st) (hst : Wf st) : Calls Try.prog 52 #[.pointer (some ⟨R, 0, none⟩), .int .i64 k] w (RDid P R v (freeR st k) w) := by
  have hlow := hst.low
  have hhigh := hst.high
  unfold freeR
  by_cases h2 : thereB st k = true
  · rw [if_pos h2]
    obtain ⟨n, f, ver, rfl, hk⟩ := there_yes h2
    refine (rfree_ok P R v st w n f ver hw hk (by omega)).mono ?_
    rintro e w' ⟨v', rfl, hb, hK⟩
    rw [Int.toNat_natCast]
    exact ⟨v', rfl, hb, hK⟩
  · rw [if_neg h2]
    refine (rfree_none _ k w (rget_none P R v st w k hw (by simpa using h2))).mono ?_
    rintro e w' ⟨rfl, hF⟩
    exact ⟨v, rfl, hw.fresh hF, hF.mono fun _ _ h => h.elim⟩

def insertR (st : St) (r x y : Nat) (p s : Int) (m : Nat) (d : Nat → Nat) : Nat × Int × St :=
  if rightB r x y p s m = false then (0, 3, st) else if roomA st.slots < (m : Int) then (0, 12, st) else (firstFree st.slots, 0, putA st (verOf r x y (p + 1).toNat (s + 1).toNat m d))

theorem right_far {r x y : Nat} {p s : Int} {m : Nat} (h : rightB r x y p s m = true) : farB p s = false := by
  unfold rightB at h
  cases hf : farB p s
  · rfl
  · rw [hf] at h; simp at h

theorem pinsert_any (b : Nat) (st : St) (r x y : Nat) (p s : Int) (a : Option Addr) (m c : Nat) (d : Nat → Nat) (w : World) (hw : Byt w b 75 512 (enc st)) (hst : Wf st) (hd : Bytes w a m d) :
    Calls Try.prog 12 #[.pointer (some ⟨b, 0, none⟩), tupV r x y p s (.slice a m c)] w fun e w' => e = .returned (.tuple #[.int .i64 (insertR st r x y p s m d).1, .int .i64 (insertR st r x y p s m d).2.1]) ∧
      Byt w' b 75 512 (enc (insertR st r x y p s m d).2.2) ∧ Wf (insertR st r x y p s m d).2.2 ∧ Kept (· = b) w w' := by
  unfold insertR
  by_cases h1 : rightB r x y p s m = false
  · rw [if_pos h1]
    refine (insert_form b r x y p s a m c w h1).mono ?_
    rintro e w' ⟨rfl, hF⟩
    exact ⟨rfl, hw.kept hF (by simp), hst, hF.mono fun _ _ h => h.elim⟩
  · rw [if_neg h1]
    have h1' : rightB r x y p s m = true := by simpa using h1
    by_cases h2 : roomA st.slots < (m : Int)
    · rw [if_pos h2]
      refine (insert_full b st r x y p s a m c w hw hst h1' h2).mono ?_
      rintro e w' ⟨rfl, hF⟩
      exact ⟨rfl, hw.kept hF (by simp), hst, hF.mono fun _ _ h => h.elim⟩
    · rw [if_neg h2]
      have hf := right_far h1'
      obtain ⟨P', S', rfl, rfl, hP', hS'⟩ := near p s hf
      have e1 : ((P' : Int) - 1 + 1).toNat = P' := by omega
      have e2 : ((S' : Int) - 1 + 1).toNat = S' := by omega
      rw [e1, e2]
      have hv := verOf_ok hd.byte h1' hP' hS'
      have hl := verOf_len r x y P' S' m d
      have hbt : Bytes w a m (fun j => (verOf r x y P' S' m d).data.getD j 0) := hd.congr (fun j hj => by rw [verOf_get _ _ _ _ _ _ _ _ hj]) (getD_lt hv.byte)
      refine (insert_ok b st (verOf r x y P' S' m d) a m c _ w hw hst hv hf hl hbt (fun j => rfl) (by omega)).mono ?_
      rintro e w' ⟨rfl, hb, hK⟩
      exact ⟨rfl, hb, hst.put hv (by rw [hl]; omega), hK⟩

theorem rinsert_any (P : Nat → Prop) (R : Nat) (v : Value) (st : St) (r x y : Nat) (p s : Int) (a : Option Addr) (m c : Nat) (d : Nat → Nat) (w : World) (hP : ∀ b, w.heap.size ≤ b → P b) (hw : RefIs P w R v st) (hst : Wf st) (hd : Bytes w a m d) :
    Calls Try.prog 53 #[.pointer (some ⟨R, 0, none⟩), tupV r x y p s (.slice a m c)] w fun e w' => ∃ v', e = .returned (.tuple #[.int .i64 (insertR st r x y p s m d).1, .int .i64 (insertR st r x y p s m d).2.1]) ∧
      RefIs P w' R v' (insertR st r x y p s m d).2.2 ∧ Kept (fun b => b = R ∨ some b = v.ownBlock) w w' := by
  unfold insertR
  by_cases h1 : rightB r x y p s m = false
  · rw [if_pos h1]
    refine (rinsert_form R r x y p s a m c w h1).mono ?_
    rintro e w' ⟨rfl, hF⟩
    exact ⟨v, rfl, hw.fresh hF, hF.mono fun _ _ h => h.elim⟩
  · rw [if_neg h1]
    have h1' : rightB r x y p s m = true := by simpa using h1
    by_cases h2 : roomA st.slots < (m : Int)
    · rw [if_pos h2]
      refine (rinsert_full P R v st r x y p s a m c w hw hst h1' h2).mono ?_
      rintro e w' ⟨rfl, hF⟩
      exact ⟨v, rfl, hw.fresh hF, hF.mono fun _ _ h => h.elim⟩
    · rw [if_neg h2]
      have hf := right_far h1'
      obtain ⟨P', S', rfl, rfl, hP', hS'⟩ := near p s hf
      have e1 : ((P' : Int) - 1 + 1).toNat = P' := by omega
      have e2 : ((S' : Int) - 1 + 1).toNat = S' := by omega
      rw [e1, e2]
      have hv := verOf_ok hd.byte h1' hP' hS'
      have hl := verOf_len r x y P' S' m d
      have hbt : Bytes w a m (fun j => (verOf r x y P' S' m d).data.getD j 0) := hd.congr (fun j hj => by rw [verOf_get _ _ _ _ _ _ _ _ hj]) (getD_lt hv.byte)
      refine (rinsert_ok P R v st (verOf r x y P' S' m d) a m c _ w hP hw hst hv hf hl hbt (fun j => rfl) (by omega)).mono ?_
      rintro e w' ⟨v', rfl, hb, hK⟩
      exact ⟨v', rfl, hb, hK⟩

end Go.Proofs.Ytffbfgmhfnbmfaa
