/- Where versions lie, in a row; and its order. -/
import Derived.Test.YtffbfgmhfnbmfaaS4
import Derived.Test.YtffbfgmhfnbmfaaBh
namespace Go.Proofs.Ytffbfgmhfnbmfaa
open Go.RowKit

theorem und95 : Try.prog.underlying 95 = some (.slice 97) := by kernel_rfl
theorem info97 : (Try.prog.info? 97).map (fun i => (i.zero, i.size, i.bytes)) = some (some (.agg #[.int .i64 0, .int .i64 0]), 2, 16) := by kernel_rfl

def encP (p : Nat × Nat) (j : Nat) : Value := if j = 0 then .int .i64 p.1 else .int .i64 p.2

/-- A row of places. -/
def PRow (w : World) (v : Value) (L : List (Nat × Nat)) (lo : Nat) : Prop := OwnRow w 97 2 v L.length (fun k j => encP (L.getD k (0, 0)) j) lo

structure PPushed (w : World) (v : Value) (L : List (Nat × Nat)) (p : Nat × Nat) (lo : Nat) (v2 : Value) (W2 : World) : Prop where
  row : PRow W2 v2 (L ++ [p]) lo
  kept : Kept (fun b => v.ownBlock = some b) w W2

theorem PRow.push {w : World} {v : Value} {L : List (Nat × Nat)} {lo : Nat} (h : PRow w v L lo) (hlo : lo ≤ w.heap.size) (x y : Nat) (hl : L.length ≤ 1000) :
    ∃ v2 W2, (Builtin.append_ #[95, 95] 95 #[v, .slice (some ⟨w.heap.size, 0, none⟩) 1 1]).run Try.prog (w.alloc (.cells #[.int .i64 x, .int .i64 y] 97)) = .ok v2 W2 ∧ PPushed w v L (x, y) lo v2 W2 := by
  have hone : ∀ j, j < 2 → ((#[.int .i64 x, .int .i64 y] : Array Value).getD j default).oneCell' = true := fun j hj => match j, hj with
    | 0, _ => rfl
    | 1, _ => rfl
  obtain ⟨v2, W2, hrun, hr, hk, _⟩ := OwnRow.push (P := Try.prog) 95 97 und95 info97 (by decide) rfl h hlo #[.int .i64 x, .int .i64 y] rfl hone (by omega) (by omega)
  refine ⟨v2, W2, hrun, ?_, hk⟩
  unfold PRow
  rw [List.length_append]
  rcases hr with ⟨rfl, hh⟩ | ⟨B, cap, g, rfl, h1, h2, h3, h4⟩
  · omega
  · refine .inr ⟨B, cap, g, rfl, h1, h2, h3, fun k j hk hj => ?_⟩
    have hk' : k < L.length + 1 := hk
    rw [h4 k j hk hj]
    show (if k = L.length then (#[.int .i64 x, .int .i64 y] : Array Value).getD j default else encP (L.getD k (0, 0)) j) = encP ((L ++ [(x, y)]).getD k (0, 0)) j
    by_cases e : k = L.length
    · subst e
      rw [if_pos rfl, List.getD_eq_getElem?_getD, List.getElem?_append_right (Nat.le_refl _), Nat.sub_self]
      match j, hj with
      | 0, _ => rfl
      | 1, _ => rfl
    · rw [if_neg e, List.getD_eq_getElem?_getD, List.getD_eq_getElem?_getD, List.getElem?_append_left (by omega)]

def SortedP (v : Value) (L : List (Nat × Nat)) (lo : Nat) (w : World) (e : Ending) (w' : World) : Prop :=
  ∃ L' : List (Nat × Nat), L'.Perm L ∧ L'.Pairwise (fun p q => p.1 ≤ q.1) ∧ e = .returned (.tuple #[]) ∧ PRow w' v L' lo ∧ Kept (fun b => v.ownBlock = some b) w w'

end Go.Proofs.Ytffbfgmhfnbmfaa
