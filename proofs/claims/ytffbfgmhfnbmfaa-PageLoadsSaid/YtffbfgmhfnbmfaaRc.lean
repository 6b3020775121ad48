/- The reference's Get, New. -/
import Derived.Test.YtffbfgmhfnbmfaaRb
namespace Go.Proofs.Ytffbfgmhfnbmfaa
open Go.RowKit

/-- What the reference's Get tells of a slot that has nothing. -/
def RGot (v : Ver) (da : Addr) (dc : Nat) (w : World) (e : Ending) (w' : World) : Prop :=
  e = .returned (.tuple #[tupV v.row v.x v.y ((v.P : Int) - 1) ((v.S : Int) - 1) (.slice (some da) v.data.length dc), .bool true]) ∧ Fresh w w'

set_option maxRecDepth 100000 in
set_option maxHeartbeats 1000000 in
theorem rget_nil (k : Int) (w : World) : Calls Try.prog 35 #[.pointer none, .int .i64 k] w (NoGet w) := by
  go_enter Try.func35, Try.ntmps35
  go_wp2_with fail
  refine bodyPost_ret (v := .tuple #[tup0, .bool false]) ?_ rfl ⟨rfl, (Kept.refl _ w).alloc _⟩
  simp [results, Try.results35, go_sem]

set_option maxRecDepth 100000 in
set_option maxHeartbeats 1000000 in
theorem rget_neg (R : Nat) (k : Int) (w : World) (hk : k < 0) : Calls Try.prog 35 #[.pointer (some ⟨R, 0, none⟩), .int .i64 k] w (NoGet w) := by
  have hk' := decide_eq_true hk
  go_enter Try.func35, Try.ntmps35
  go_wp2_with fail
  refine bodyPost_ret (v := .tuple #[tup0, .bool false]) ?_ rfl ⟨rfl, (Kept.refl _ w).alloc _⟩
  simp [results, Try.results35, go_sem]

set_option maxRecDepth 100000 in
set_option maxHeartbeats 1000000 in
theorem rget_out (P : Nat → Prop) (R : Nat) (v : Value) (st : St) (w : World) (k : Int) (hw : RefIs P w R v st) (h0 : 0 ≤ k) (hk : (st.slots.length : Int) ≤ k) :
    Calls Try.prog 35 #[.pointer (some ⟨R, 0, none⟩), .int .i64 k] w (NoGet w) := by
  have hw' := hw.fresh ((Kept.refl (fun _ => False) w).alloc (.cells #[.int .u64 0, .int .u64 0, .int .u64 0, .int .i64 0, .int .i64 0, .slice none 0 0] 29))
  obtain ⟨hb, hp, dv, hr, hd⟩ := hw'
  obtain ⟨a, c, rfl⟩ := hr.form
  have b0 := boxCell hb 0
  have hk1 := decide_eq_false (show ¬ k < 0 by omega)
  have hk2 := decide_eq_true hk
  clear hw hb hr hd h0
  go_enter Try.func35, Try.ntmps35
  go_wp2_with fail
  refine bodyPost_ret (v := .tuple #[tup0, .bool false]) ?_ rfl ⟨rfl, (Kept.refl _ w).alloc _⟩
  simp [results, Try.results35, go_sem]

set_option maxRecDepth 100000 in
set_option maxHeartbeats 1000000 in
theorem rget_free (P : Nat → Prop) (R : Nat) (v : Value) (st : St) (w : World) (k : Nat) (hw : RefIs P w R v st) (hk : st.slots[k]? = some none) :
    Calls Try.prog 35 #[.pointer (some ⟨R, 0, none⟩), .int .i64 k] w (NoGet w) := by
  have hF := (Kept.refl (fun _ => False) w).alloc (.cells #[.int .u64 0, .int .u64 0, .int .u64 0, .int .i64 0, .int .i64 0, .slice none 0 0] 29)
  have hkl : k < st.slots.length := (List.getElem?_eq_some_iff.1 hk).1
  have hw' := hw.fresh hF
  have b0 := boxCell hw'.box 0
  obtain ⟨hb, hp, dv, hr, hd⟩ := hw
  obtain ⟨a, c, rfl⟩ := hr.form
  obtain ⟨B, rfl, h⟩ := RefIs.slot hr hd hF (by simp) hkl
  rcases h with ⟨e, _, ⟨c0, c1, c2, c3, c4, c5, c6, c7⟩⟩ | ⟨f, ver, da, dc, e, e2, _⟩
  · have hk1 := decide_eq_false (show ¬ (k : Int) < 0 by omega)
    have hk2 := decide_eq_false (show ¬ (st.slots.length : Int) ≤ (k : Int) by omega)
    clear hF hw' hb hr hd e hk
    go_enter Try.func35, Try.ntmps35
    go_wp2_with fail
    refine bodyPost_ret (v := .tuple #[tup0, .bool false]) ?_ rfl ⟨rfl, (Kept.refl _ w).alloc _⟩
    simp [results, Try.results35, go_sem]
  · rw [e2] at hk; cases hk

set_option maxRecDepth 100000 in
set_option maxHeartbeats 1000000 in
theorem rget_has (P : Nat → Prop) (R : Nat) (v : Value) (st : St) (w : World) (k f : Nat) (ver : Ver) (hw : RefIs P w R v st) (hk : st.slots[k]? = some (some (f, ver))) :
    Calls Try.prog 35 #[.pointer (some ⟨R, 0, none⟩), .int .i64 k] w fun e w' => ∃ da dc, RGot ver da dc w e w' ∧ ver.data.length ≤ dc ∧ Bytes w (some da) ver.data.length (fun j => ver.data.getD j 0) ∧ da.block < w.heap.size ∧ P da.block := by
  have hF := (Kept.refl (fun _ => False) w).alloc (.cells #[.int .u64 0, .int .u64 0, .int .u64 0, .int .i64 0, .int .i64 0, .slice none 0 0] 29)
  have hkl : k < st.slots.length := (List.getElem?_eq_some_iff.1 hk).1
  have hw' := hw.fresh hF
  have b0 := boxCell hw'.box 0
  obtain ⟨hb, hp, dv, hr, hd⟩ := hw
  obtain ⟨a, c, rfl⟩ := hr.form
  obtain ⟨B, rfl, h⟩ := RefIs.slot hr hd hF (by simp) hkl
  obtain ⟨da0, dc0, e0, g1, g2, _, g4, g5, _, _⟩ := hd k f ver hk
  rcases h with ⟨e, e2, _⟩ | ⟨f', ver', da, dc, e, e2, ⟨c0, c1, c2, c3, c4, c5, c6, c7⟩, h1, h2, h3, h4⟩
  · rw [e2] at hk; cases hk
  · rw [e2] at hk
    simp only [Option.some.injEq, Prod.mk.injEq] at hk
    obtain ⟨rfl, rfl⟩ := hk
    have hk1 := decide_eq_false (show ¬ (k : Int) < 0 by omega)
    have hk2 := decide_eq_false (show ¬ (st.slots.length : Int) ≤ (k : Int) by omega)
    have hx := hr.at hkl
    obtain ⟨B', eB, _, _, _, h4', _, h6⟩ := hx
    cases eB
    have e6 := h6 k hkl 6 (by omega)
    rw [List.getD_eq_getElem?_getD, e2] at e6
    have e6' := (hF.cell (p := ⟨B, k * 8 + 6, none⟩) h4' (by simp)).trans e6
    rw [c6] at e6'
    have e7 : Value.slice (some da) ver'.data.length dc = dv k := Option.some.inj e6'
    rw [e0] at e7
    simp only [Value.slice.injEq, Option.some.injEq, true_and] at e7
    obtain ⟨rfl, rfl⟩ := e7
    have HH := Lib.hid (And.intro g1 (And.intro g2 (And.intro g4 g5)))
    clear hF hw' hb hr hd e e2 e0 e6 e6' h6 h1 h2 h3 h4 g1 g2 g4 g5
    go_enter Try.func35, Try.ntmps35
    go_wp2_with fail
    refine bodyPost_ret (v := .tuple #[tupV ver'.row ver'.x ver'.y ((ver'.P : Int) - 1) ((ver'.S : Int) - 1) (.slice (some da) ver'.data.length dc), .bool true]) ?_ rfl ⟨da, dc, ⟨rfl, (Kept.refl _ w).alloc _⟩, HH.out⟩
    simp [results, Try.results35, go_sem]

set_option maxRecDepth 100000 in
set_option maxHeartbeats 1000000 in
theorem rnew_any (P : Nat → Prop) (w : World) (hP : P w.heap.size) : Calls Try.prog 32 #[] w fun e w' => e = .returned (.pointer (some ⟨w.heap.size, 0, none⟩)) ∧ RefIs P w' w.heap.size (.slice none 0 0) st0 ∧ w'.heap.size = w.heap.size + 1 ∧ Fresh w w' := by
  have HP := Lib.hid hP
  clear hP
  go_enter Try.func32, Try.ntmps32
  go_wp2_with fail
  go_ret
  exact ⟨rfl, ⟨alloc_at w _, HP.out, fun _ => default, .inl ⟨rfl, rfl⟩, fun k f ver h => by simp [st0] at h⟩, by simp, (Kept.refl _ w).alloc _⟩
end Go.Proofs.Ytffbfgmhfnbmfaa
