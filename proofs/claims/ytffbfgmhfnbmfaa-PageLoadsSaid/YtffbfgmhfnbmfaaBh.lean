/- Rows of one's own, to which one is appended. -/
import Derived.Test.YtffbfgmhfnbmfaaBa
import Derived.Test.YtffbfgmhfnbmfaaW4
namespace Go.Proofs.Ytffbfgmhfnbmfaa

/-- n elements of K cells each, in a block of one's own from lo on. -/
def OwnRow (w : World) (e K : Nat) (v : Value) (n : Nat) (u : Nat → Nat → Value) (lo : Nat) : Prop :=
  (v = .slice none 0 0 ∧ n = 0) ∨ ∃ B cap g, v = .slice (some ⟨B, 0, none⟩) n cap ∧ n ≤ cap ∧ lo ≤ B ∧ w.rowIs B e (cap * K) g ∧ ∀ k j, k < n → j < K → g (k * K + j) = u k j

theorem OwnRow.nil (w : World) (e K : Nat) (u : Nat → Nat → Value) (lo : Nat) : OwnRow w e K (.slice none 0 0) 0 u lo := .inl ⟨rfl, rfl⟩

theorem OwnRow.form {w : World} {e K : Nat} {v : Value} {n : Nat} {u : Nat → Nat → Value} {lo : Nat} (h : OwnRow w e K v n u lo) : ∃ a c, v = .slice a n c := by
  rcases h with ⟨rfl, rfl⟩ | ⟨B, cap, g, rfl, _⟩
  · exact ⟨_, _, rfl⟩
  · exact ⟨_, _, rfl⟩

theorem OwnRow.kept {S : Nat → Prop} {w w' : World} {e K : Nat} {v : Value} {n : Nat} {u : Nat → Nat → Value} {lo : Nat} (h : OwnRow w e K v n u lo) (k : Kept S w w') (hs : ∀ b, v.ownBlock = some b → ¬ S b) : OwnRow w' e K v n u lo := by
  rcases h with h0 | ⟨B, cap, g, rfl, h1, h2, h3, h4⟩
  · exact .inl h0
  · exact .inr ⟨B, cap, g, rfl, h1, h2, k.row h3 (hs B rfl), h4⟩

theorem OwnRow.own {w : World} {e K : Nat} {v : Value} {n : Nat} {u : Nat → Nat → Value} {lo : Nat} (h : OwnRow w e K v n u lo) {b : Nat} (hb : v.ownBlock = some b) : lo ≤ b ∧ b < w.heap.size := by
  rcases h with ⟨rfl, _⟩ | ⟨B, cap, g, rfl, h1, h2, h3, h4⟩
  · cases hb
  · cases hb; exact ⟨h2, h3.lt⟩

theorem OwnRow.cell {w : World} {e K : Nat} {a : Option Addr} {n c : Nat} {u : Nat → Nat → Value} {lo : Nat} (h : OwnRow w e K (.slice a n c) n u lo) {k : Nat} (hk : k < n) :
    ∃ B, a = some ⟨B, 0, none⟩ ∧ n ≤ c ∧ ∀ j, j < K → w.cell? ⟨B, k * K + j, none⟩ = some (u k j) := by
  rcases h with ⟨_, h0⟩ | ⟨B, cap, g, e1, h1, h2, h3, h4⟩
  · omega
  · simp only [Value.slice.injEq] at e1
    obtain ⟨rfl, _, rfl⟩ := e1
    refine ⟨B, rfl, h1, fun j hj => ?_⟩
    have : k * K + j < c * K := by
      have h5 : (k + 1) * K ≤ c * K := Nat.mul_le_mul_right _ (by omega)
      rw [Nat.succ_mul] at h5
      omega
    rw [h3.cell this, h4 k j hk hj]

def Pushed (P : Program) (t e K : Nat) (w : World) (v : Value) (n : Nat) (u : Nat → Nat → Value) (lo : Nat) (cs : Array Value) (v2 : Value) (W2 : World) : Prop :=
  (Builtin.append_ #[t, t] t #[v, .slice (some ⟨w.heap.size, 0, none⟩) 1 1]).run P (w.alloc (.cells cs e)) = .ok v2 W2 ∧
    OwnRow W2 e K v2 (n + 1) (fun k j => if k = n then cs.getD j default else u k j) lo ∧ Kept (fun b => v.ownBlock = some b) w W2 ∧ (∀ b, v2.ownBlock = some b → v.ownBlock = some b ∨ w.heap.size < b)

/-- One more. -/
theorem OwnRow.push {P : Program} (t e : TypeId) (ht : P.underlying t = some (.slice e)) {z : Value} {K by_ : Nat} (hinfo : (P.info? e).map (fun i => (i.zero, i.size, i.bytes)) = some (some z, K, by_)) (hK : 0 < K) (hz : z.cells.size = K)
    {w : World} {v : Value} {n : Nat} {u : Nat → Nat → Value} {lo : Nat} (h : OwnRow w e K v n u lo) (hlo : lo ≤ w.heap.size) (cs : Array Value) (hcs : cs.size = K) (h1 : ∀ j, j < K → (cs.getD j default).oneCell' = true) (hn : n ≤ 1000000) (hby : by_ ≤ 100000) :
    ∃ v2 W2, Pushed P t e K w v n u lo cs v2 W2 := by
  have hkA := (Kept.refl (fun _ => False) w).alloc (.cells cs e)
  have hsA : (w.alloc (.cells cs e)).heap.size = w.heap.size + 1 := by simp
  have hsrc : Cells (w.alloc (.cells cs e)) (some ⟨w.heap.size, 0, none⟩) (1 * K) fun j => cs.getD j default := by
    refine .inr ⟨_, _, rfl, by simp, fun j hj => ?_⟩
    rw [boxCell (alloc_at w _), Nat.zero_add]
    have : j < cs.size := by omega
    simp [Array.getD, this]
  have hone : ∀ j, j < 1 * K → (cs.getD j default).oneCell' = true := fun j hj => h1 j (by omega)
  have hfit : (n + 1) * by_ ≤ 140737488355328 := Nat.le_trans (Nat.mul_le_mul (show n + 1 ≤ 1000001 by omega) hby) (by decide)
  have grow : ∀ (base : Option Addr) (c : Nat) (f : Nat → Value), v = .slice base n c → Cells w base (n * K) f → c < n + 1 → (∀ k j, k < n → j < K → f (k * K + j) = u k j) → ∃ v2 W2, Pushed P t e K w v n u lo cs v2 W2 := by
    intro base c f hv hf hc hff
    subst hv
    obtain ⟨cap, W2, hrun, hcap, hrow, hs2, hk2⟩ := grow_row (P := P) t t t e ht ht hinfo hK hz (w := w.alloc (.cells cs e)) (base := base) (a := some ⟨w.heap.size, 0, none⟩) (n := n) (m := 1) (c := c) (k := 1) (hf.kept hkA (by simp)) hsrc hone hc (by omega) hfit
    rw [hsA] at hrun hrow hs2
    refine ⟨_, W2, hrun, .inr ⟨w.heap.size + 1, cap, _, rfl, hcap, by omega, hrow, fun k j hk hj => ?_⟩, (hkA.trans hk2).mono fun _ _ h => h.elim, fun b hb => .inr (by have e' : w.heap.size + 1 = b := Option.some.inj hb; omega)⟩
    unfold joinedV
    by_cases hkn : k < n
    · have h5 : (k + 1) * K ≤ n * K := Nat.mul_le_mul_right _ hkn
      rw [Nat.succ_mul] at h5
      show _ = if k = n then cs.getD j default else u k j
      rw [if_pos (by omega), hff k j hkn hj, if_neg (by omega)]
    · obtain rfl : k = n := by omega
      show _ = if k = k then cs.getD j default else u k j
      rw [if_neg (by omega), if_pos (by omega), if_pos rfl, Nat.add_sub_cancel_left]
  rcases h with ⟨e0, rfl⟩ | ⟨B, cap, g, rfl, g1, g2, g3, g4⟩
  · exact grow none 0 (fun _ => default) e0 (.inl (Nat.zero_mul _)) (by omega) (fun k j hk => by omega)
  · by_cases hroom : n + 1 ≤ cap
    · obtain ⟨W2, hrun, hrow, hs2, hk2⟩ := room_row (P := P) t t t e ht ht hinfo hK (hkA.row g3 (by simp)) hsrc hone (n := n) (m := 1) (c := cap) (k := 1) (off := 0) hroom (by omega)
      refine ⟨_, W2, hrun, .inr ⟨B, cap, _, rfl, hroom, g2, hrow, fun k j hk hj => ?_⟩, (hkA.mono fun _ _ h => h.elim).then hk2 fun i hi e => by subst e; rfl, fun b hb => .inl hb⟩
      by_cases hkn : k < n
      · have h5 : (k + 1) * K ≤ n * K := Nat.mul_le_mul_right _ hkn
        rw [Nat.succ_mul] at h5
        show _ = if k = n then cs.getD j default else u k j
        rw [if_neg (by omega), g4 k j hkn hj, if_neg (by omega)]
      · obtain rfl : k = n := by omega
        show _ = if k = k then cs.getD j default else u k j
        rw [if_pos (by omega), if_pos rfl, show k * K + j - (0 + k * K) = j from by omega]
    · exact grow (some ⟨B, 0, none⟩) cap g rfl ((Cells.of_row g3 0 (n * K) (by have := Nat.mul_le_mul_right K g1; omega)).congr (fun j _ => by rw [Nat.zero_add])) (by omega) g4
end Go.Proofs.Ytffbfgmhfnbmfaa
