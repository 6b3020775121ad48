/- Bytes of one's own, to which bytes are appended. -/
import Derived.Test.YtffbfgmhfnbmfaaW4
namespace Go.Proofs.Ytffbfgmhfnbmfaa
open Go.RowKit

/-- n bytes in a block of one's own from lo on; or none. -/
def OwnB (w : World) (v : Value) (n : Nat) (f : Nat → Nat) (lo : Nat) : Prop :=
  (∀ j, f j < 256) ∧ ((v = .slice none 0 0 ∧ n = 0) ∨ ∃ B cap g, v = .slice (some ⟨B, 0, none⟩) n cap ∧ n ≤ cap ∧ lo ≤ B ∧ Byt w B 5 cap g ∧ ∀ j, j < n → g j = f j)

theorem OwnB.nil (w : World) (f : Nat → Nat) (hf : ∀ j, f j < 256) (lo : Nat) : OwnB w (.slice none 0 0) 0 f lo := ⟨hf, .inl ⟨rfl, rfl⟩⟩

theorem OwnB.open_ {w : World} {v : Value} {n : Nat} {f : Nat → Nat} {lo : Nat} (h : OwnB w v n f lo) : ∃ a c, v = .slice a n c ∧ Bytes w a n f ∧ n ≤ c ∧ (a = none → n = 0) := by
  rcases h with ⟨hf, ⟨rfl, rfl⟩ | ⟨B, cap, g, rfl, h1, h2, h3, h4⟩⟩
  · exact ⟨_, _, rfl, ⟨hf, .inl rfl⟩, Nat.le_refl _, fun _ => rfl⟩
  · refine ⟨_, _, rfl, ((h3.bytes 0 n (by omega)).congr (fun j hj => by rw [Nat.zero_add]; exact h4 j hj) hf), h1, fun e => by cases e⟩

theorem OwnB.kept {S : Nat → Prop} {w w' : World} {v : Value} {n : Nat} {f : Nat → Nat} {lo : Nat} (h : OwnB w v n f lo) (k : Kept S w w') (hs : ∀ b, v.ownBlock = some b → ¬ S b) : OwnB w' v n f lo := by
  rcases h with ⟨hf, h0 | ⟨B, cap, g, rfl, h1, h2, h3, h4⟩⟩
  · exact ⟨hf, .inl h0⟩
  · exact ⟨hf, .inr ⟨B, cap, g, rfl, h1, h2, h3.kept k (hs B rfl), h4⟩⟩

theorem OwnB.own {w : World} {v : Value} {n : Nat} {f : Nat → Nat} {lo : Nat} (h : OwnB w v n f lo) {b : Nat} (hb : v.ownBlock = some b) : lo ≤ b ∧ b < w.heap.size := by
  rcases h with ⟨hf, ⟨rfl, _⟩ | ⟨B, cap, g, rfl, h1, h2, h3, h4⟩⟩
  · cases hb
  · cases hb; exact ⟨h2, h3.blk⟩

theorem OwnB.congr {w : World} {v : Value} {n : Nat} {f f' : Nat → Nat} {lo : Nat} (h : OwnB w v n f lo) (e : ∀ j, j < n → f j = f' j) (hf : ∀ j, f' j < 256) : OwnB w v n f' lo := by
  rcases h with ⟨_, h0 | ⟨B, cap, g, rfl, h1, h2, h3, h4⟩⟩
  · exact ⟨hf, .inl h0⟩
  · exact ⟨hf, .inr ⟨B, cap, g, rfl, h1, h2, h3, fun j hj => (h4 j hj).trans (e j hj)⟩⟩

theorem OwnB.low {w : World} {v : Value} {n : Nat} {f : Nat → Nat} {lo lo' : Nat} (h : OwnB w v n f lo) (hl : lo' ≤ lo) : OwnB w v n f lo' := by
  rcases h with ⟨hf, h0 | ⟨B, cap, g, rfl, h1, h2, h3, h4⟩⟩
  · exact ⟨hf, .inl h0⟩
  · exact ⟨hf, .inr ⟨B, cap, g, rfl, h1, Nat.le_trans hl h2, h3, h4⟩⟩

/-- What an append to bytes of one's own leaves. -/
structure PushedB (w : World) (v : Value) (n m : Nat) (f d : Nat → Nat) (lo : Nat) (v2 : Value) (W2 : World) : Prop where
  row : OwnB W2 v2 (n + m) (joined n f m d) lo
  kept : Kept (fun b => v.ownBlock = some b) w W2
  own : ∀ b, v2.ownBlock = some b → v.ownBlock = some b ∨ w.heap.size ≤ b

theorem OwnB.push {w : World} {v : Value} {n : Nat} {f : Nat → Nat} {lo : Nat} (h : OwnB w v n f lo) (hlo : lo ≤ w.heap.size) {a : Option Addr} {m k : Nat} {d : Nat → Nat} (hs : Bytes w a m d) (hm : 0 < m ∨ 0 < n) (hn : n + m ≤ 1000000) :
    ∃ v2 W2, (Builtin.append_ #[22, 22] 22 #[v, .slice a m k]).run Try.prog w = .ok v2 W2 ∧ PushedB w v n m f d lo v2 W2 := by
  have hj := joined_byte (n := n) (m := m) h.1 hs.byte
  have grow : ∀ (base : Option Addr) (c : Nat), v = .slice base n c → Bytes w base n f → c < n + m → ∃ v2 W2, (Builtin.append_ #[22, 22] 22 #[v, .slice a m k]).run Try.prog w = .ok v2 W2 ∧ PushedB w v n m f d lo v2 W2 := by
    intro base c hv hf hc
    subst hv
    obtain ⟨cap, W2, hrun, hcap, hrow, hs2, hk2⟩ := append_grow (P := Try.prog) 22 22 22 5 und22 und22 info5 (k := k) hf hs hc (by omega)
    exact ⟨_, W2, hrun, ⟨hj, .inr ⟨_, cap, _, rfl, hcap, hlo, hrow, fun j _ => rfl⟩⟩, hk2.mono fun _ _ h => h.elim, fun b hb => .inr (by cases hb; exact Nat.le_refl _)⟩
  rcases h with ⟨hf, ⟨e0, rfl⟩ | ⟨B, cap, g, rfl, g1, g2, g3, g4⟩⟩
  · exact grow none 0 e0 ⟨hf, .inl rfl⟩ (by omega)
  · by_cases hroom : n + m ≤ cap
    · obtain ⟨W2, hrun, hrow, hs2, hk2⟩ := append_room (P := Try.prog) 22 22 22 5 und22 und22 info5 (off := 0) (n := n) (c := cap) (k := k) g3 hs hroom (by omega)
      refine ⟨_, W2, hrun, ⟨hj, .inr ⟨B, cap, _, rfl, hroom, g2, hrow, fun j hj => ?_⟩⟩, hk2.mono fun i hi e => by subst e; rfl, fun b hb => .inl hb⟩
      unfold joined
      by_cases hjn : j < n
      · rw [if_neg (by omega), if_pos hjn]; exact g4 j hjn
      · rw [if_pos (by omega), if_neg hjn, if_pos (by omega), Nat.zero_add]
    · exact grow (some ⟨B, 0, none⟩) cap rfl (((g3.bytes 0 n (by omega))).congr (fun j hj => by rw [Nat.zero_add]; exact g4 j hj) hf) (by omega)

/-- An append, in a region that draws. -/
theorem step_push {ops : Array Oper} {o : Oper} {a : Act} {w : World} {K : Act → World → Prop} {Q : Exit → Act → World → Prop} {E : Prop} (hg : o.guard = none) (s x : Operand)
    (ho : o.op = Op.call { callee := Callee.builtin Builtin.append, args := #[s, x], argTypes := #[22, 22] }) (ht : o.type = 22)
    {v : Value} {n : Nat} {f : Nat → Nat} {lo : Nat} {ad : Option Addr} {m k : Nat} {d : Nat → Nat} (hs : a.eval s = v) (hx : a.eval x = .slice ad m k) (h : OwnB w v n f lo) (hlo : lo ≤ w.heap.size) (hsrc : Bytes w ad m d) (hm : 0 < m ∨ 0 < n) (hn : n + m ≤ 1000000)
    (hK : ∀ v2 W2, PushedB w v n m f d lo v2 W2 → K (a.put o.dst v2) W2) :
    if Region.wanted o (yielded ops a.tmps) = true then Oper.wp Try.prog o a w K Q else E := by
  have hw : Region.wanted o (yielded ops a.tmps) = true := by simp [Region.wanted, hg]
  rw [if_pos hw]
  obtain ⟨v2, W2, hrun, hP⟩ := h.push hlo (k := k) hsrc hm hn
  rw [← ht] at hrun
  unfold Oper.wp
  simp [execOp, ho, resolve, invoke, builtin, hs, hx, ht] at hrun ⊢
  simp [hrun, Result.andThen]
  exact hK _ _ hP
end Go.Proofs.Ytffbfgmhfnbmfaa
