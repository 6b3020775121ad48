/- What the reference's Load has made. -/
import Derived.Test.YtffbfgmhfnbmfaaT1
import Derived.Test.YtffbfgmhfnbmfaaBh
import Derived.Test.YtffbfgmhfnbmfaaPt
namespace Go.Proofs.Ytffbfgmhfnbmfaa
open Go.RowKit

/-- A slot's data, in memory. -/
def LdDat (w : World) (R O : Nat) (v : Value) (f : Nat → Nat) (k : Nat) (dv : Value) : Prop :=
  ∃ a c, dv = .slice (some a) (siz f k - 30) c ∧ siz f k - 30 ≤ c ∧ Bytes w (some a) (siz f k - 30) (fun j => f (frm f k + 30 + j)) ∧ a.spot = none ∧ a.block < w.heap.size ∧ R < a.block ∧ a.block ≠ O ∧ v.ownBlock ≠ some a.block

structure LdSt (w wr : World) (R O : Nat) (f : Nat → Nat) (i : Nat) (v : Value) (own : Nat → Bool) : Prop where
  box : wr.heap[R]? = some (.cells #[v, .int .i64 (stt f)] 70)
  ownr : wr.rowIs O 4 512 (fun j => .bool (own j))
  row : ∃ dv : Nat → Value, OwnRow wr 84 8 v i (fun k j => slotV (decS f k) (dv k) j) (R + 1) ∧ ∀ k, k < i → offB f k = false → LdDat wr R O v f k (dv k)
  fresh : Fresh w wr
  rO : R < O
  old : w.heap.size ≤ R
  nO : v.ownBlock ≠ some O

theorem LdDat.kept {S : Nat → Prop} {w w' : World} {R O : Nat} {v : Value} {f : Nat → Nat} {k : Nat} {dv : Value} (h : LdDat w R O v f k dv) (hk : Kept S w w') (hs : ∀ b, R < b → b ≠ O → v.ownBlock ≠ some b → ¬ S b) : LdDat w' R O v f k dv := by
  obtain ⟨a, c, h1, h2, h3, h4, h5, h6, h7, h8⟩ := h
  exact ⟨a, c, h1, h2, h3.kept hk (fun z hz => by cases hz; exact hs _ h6 h7 h8), h4, Nat.lt_of_lt_of_le h5 hk.size, h6, h7, h8⟩

theorem LdSt.kept {w wr wn : World} {R O : Nat} {f : Nat → Nat} {i : Nat} {v : Value} {own : Nat → Bool} (h : LdSt w wr R O f i v own) (k : Fresh wr wn) : LdSt w wn R O f i v own := by
  obtain ⟨dv, h1, h2⟩ := h.row
  exact ⟨(k.block R (Array.getElem?_eq_some_iff.1 h.box).1 (by simp)).trans h.box, k.row h.ownr (by simp), ⟨dv, h1.kept k (by simp), fun j hj ho => (h2 j hj ho).kept k (by simp)⟩, h.fresh.trans k, h.rO, h.old, h.nO⟩

theorem LdSt.own {w wr : World} {R O : Nat} {f : Nat → Nat} {i : Nat} {v : Value} {own : Nat → Bool} (h : LdSt w wr R O f i v own) {b : Nat} (hb : v.ownBlock = some b) : b < wr.heap.size := by
  obtain ⟨dv, h1, _⟩ := h.row
  exact (h1.own hb).2

/-- One byte more has an owner. -/
theorem LdSt.mark {w wr : World} {R O : Nat} {f : Nat → Nat} {i : Nat} {v : Value} {own : Nat → Bool} (h : LdSt w wr R O f i v own) (j : Nat) :
    LdSt w (wr.setCell ⟨O, j, none⟩ (.bool true)) R O f i v (fun x => if x = j then true else own x) := by
  have hk := (Kept.refl (fun b => b = O) wr).setCell (p := ⟨O, j, none⟩) (fun _ => rfl) (.bool true)
  obtain ⟨dv, h1, h2⟩ := h.row
  have hrO := h.rO
  have hold := h.old
  refine ⟨(hk.block R (Array.getElem?_eq_some_iff.1 h.box).1 (by omega)).trans h.box, ?_, ⟨dv, h1.kept hk (fun b hb e => by subst e; exact h.nO hb), fun k hk' ho => (h2 k hk' ho).kept hk (fun b _ hn _ => hn)⟩, h.fresh.then hk fun b hb e => by omega, h.rO, h.old, h.nO⟩
  refine (h.ownr.set j _).congr fun x _ => ?_
  by_cases e : x = j <;> simp [e]

structure LdPushed (w wr : World) (R O : Nat) (f : Nat → Nat) (i : Nat) (v : Value) (own : Nat → Bool) (cs : Array Value) (v2 : Value) (W2 : World) : Prop where
  box : W2.heap[R]? = some (.cells #[v, .int .i64 (stt f)] 70)
  kept : Kept (fun b => v.ownBlock = some b) wr W2
  st : LdSt w (W2.setCell ⟨R, 0, none⟩ v2) R O f (i + 1) v2 own

theorem setBox0 {w : World} {b : Nat} {u0 u1 : Value} {t : TypeId} (h : w.heap[b]? = some (.cells #[u0, u1] t)) (v : Value) : (w.setCell ⟨b, 0, none⟩ v).heap[b]? = some (.cells #[v, u1] t) := by
  have := setBox h 0 v
  simpa using this

theorem LdSt.push {w wr : World} {R O : Nat} {f : Nat → Nat} {i : Nat} {v : Value} {own : Nat → Bool} (h : LdSt w wr R O f i v own) (hi : i ≤ 200) (dvi : Value) (h1 : dvi.oneCell' = true) (hd : offB f i = false → LdDat wr R O v f i dvi) :
    ∃ v2 W2, (Builtin.append_ #[68, 68] 68 #[v, .slice (some ⟨wr.heap.size, 0, none⟩) 1 1]).run Try.prog (wr.alloc (.cells (slotC (decS f i) dvi) 84)) = .ok v2 W2 ∧ LdPushed w wr R O f i v own (slotC (decS f i) dvi) v2 W2 := by
  obtain ⟨dv, hr, hdd⟩ := h.row
  have hRl := (Array.getElem?_eq_some_iff.1 h.box).1
  have hOl := h.ownr.lt
  have hrO := h.rO
  have hold := h.old
  obtain ⟨v2, W2, hrun, hr2, hk2, ho2⟩ := OwnRow.push (P := Try.prog) 68 84 und68 info84 (by decide) (by rfl) hr (by omega) (slotC (decS f i) dvi) (slotC_size _ _) (fun j hj => slotV_one h1 j hj) (by omega) (by omega)
  have hne : v2.ownBlock ≠ some R := fun e => by
    rcases ho2 R e with h6 | h6
    · have := (hr.own h6).1; omega
    · omega
  have hnO : v2.ownBlock ≠ some O := fun e => by
    rcases ho2 O e with h6 | h6
    · exact h.nO h6
    · omega
  have hb2 := (hk2.block R hRl (fun e => by have := (hr.own e).1; omega)).trans h.box
  have hks := (Kept.refl (fun b => b = R) W2).setCell (p := ⟨R, 0, none⟩) (fun _ => rfl) v2
  have hdat : ∀ k d', LdDat wr R O v f k d' → LdDat (W2.setCell ⟨R, 0, none⟩ v2) R O v2 f k d' := by
    rintro k d' ⟨a, c, g1, g2, g3, g4, g5, g6, g7, g8⟩
    refine ⟨a, c, g1, g2, ((g3.kept hk2 (fun z hz => by cases hz; exact g8)).kept hks (fun z hz => by cases hz; show a.block ≠ R; omega)), g4, Nat.lt_of_lt_of_le g5 (Nat.le_trans hk2.size hks.size), g6, g7, fun e => ?_⟩
    rcases ho2 _ e with h6 | h6
    · exact g8 h6
    · omega
  refine ⟨v2, W2, hrun, hb2, hk2, ⟨setBox0 hb2 v2, hks.row (hk2.row h.ownr (fun e => h.nO e)) (by show ¬ O = R; omega), ⟨fun k => if k = i then dvi else dv k, ?_, ?_⟩, ?_, h.rO, h.old, hnO⟩⟩
  · have hr3 := hr2.kept hks (fun b hb e => by subst e; exact hne hb)
    rcases hr3 with ⟨e1, e2⟩ | ⟨B, cap, g, rfl, g1, g2, g3, g4⟩
    · exact .inl ⟨e1, e2⟩
    · refine .inr ⟨B, cap, g, rfl, g1, g2, g3, fun k j hk hj => ?_⟩
      rw [g4 k j hk hj]
      show (if k = i then (slotC (decS f i) dvi).getD j default else slotV (decS f k) (dv k) j) = slotV (decS f k) (if k = i then dvi else dv k) j
      by_cases e : k = i
      · subst e; rw [if_pos rfl, if_pos rfl]; rfl
      · rw [if_neg e, if_neg e]
  · intro k hk ho
    by_cases e : k = i
    · subst e
      show LdDat _ R O v2 f k (if k = k then dvi else dv k)
      rw [if_pos rfl]
      exact hdat _ _ (hd ho)
    · show LdDat _ R O v2 f k (if k = i then dvi else dv k)
      rw [if_neg e]
      exact hdat _ _ (hdd k (by omega) ho)
  · refine (h.fresh.then hk2 fun b hb e => ?_).then hks fun b hb e => by omega
    have := (hr.own e).1; omega
end Go.Proofs.Ytffbfgmhfnbmfaa
