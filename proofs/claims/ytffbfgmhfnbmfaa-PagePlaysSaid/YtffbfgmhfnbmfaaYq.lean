/- What was told of a page's slots, kept in two rows. -/
import Derived.Test.YtffbfgmhfnbmfaaYp
import Derived.Test.YtffbfgmhfnbmfaaBh
import Derived.Test.YtffbfgmhfnbmfaaDc
namespace Go.Proofs.Ytffbfgmhfnbmfaa
open Go.RowKit

theorem und60 : Try.prog.underlying 60 = some (.slice 29) := by kernel_rfl
theorem und61 : Try.prog.underlying 61 = some (.slice 4) := by kernel_rfl
theorem info29 : (Try.prog.info? 29).map (fun i => (i.zero, i.size, i.bytes)) = some (some (.agg #[.int .u64 0, .int .u64 0, .int .u64 0, .int .i64 0, .int .i64 0, .slice none 0 0]), 6, 64) := by kernel_rfl
theorem info4 : (Try.prog.info? 4).map (fun i => (i.zero, i.size, i.bytes)) = some (some (.bool false), 1, 1) := by kernel_rfl

/-- A version's six cells. -/
def tupC (v : Ver) (d : Value) : Array Value := #[.int .u64 v.row, .int .u64 v.x, .int .u64 v.y, .int .i64 ((v.P : Int) - 1), .int .i64 ((v.S : Int) - 1), d]
def tupZ : Array Value := #[.int .u64 0, .int .u64 0, .int .u64 0, .int .i64 0, .int .i64 0, .slice none 0 0]

/-- What was told of a slot, and kept. -/
def ToldAt (w : World) (N : Nat → Prop) (s : Option Ver) (u : Nat → Value) (t : Value) : Prop := match s with
  | none => (∀ j, j < 6 → u j = tupZ.getD j default) ∧ t = .bool false
  | some v => ∃ a c, (∀ j, j < 6 → u j = (tupC v (.slice (some a) v.data.length c)).getD j default) ∧ t = .bool true ∧ Bytes w (some a) v.data.length (fun j => v.data.getD j 0) ∧ (v.data.length ≠ 0 → N a.block)

theorem Bytes.blk {w : World} {a : Addr} {n : Nat} {d : Nat → Nat} (h : Bytes w (some a) n d) (hn : n ≠ 0) : a.block < w.heap.size := by
  rcases h.cells with h0 | ⟨b, o, e, hlt, _⟩
  · exact absurd h0 hn
  · cases e; exact hlt

theorem ToldAt.kept {S N : Nat → Prop} {w w' : World} {s : Option Ver} {u : Nat → Value} {t : Value} (h : ToldAt w N s u t) (k : Kept S w w') (hs : ∀ b, N b → b < w.heap.size → ¬ S b) : ToldAt w' N s u t := by
  cases s with
  | none => exact h
  | some v =>
    obtain ⟨a, c, h1, h2, h3, h5⟩ := h
    refine ⟨a, c, h1, h2, ?_, h5⟩
    by_cases hn : v.data.length = 0
    · exact ⟨h3.byte, .inl hn⟩
    · exact h3.kept k (fun z hz => by cases hz; exact hs _ (h5 hn) (h3.blk hn))

theorem ToldAt.mono {N N' : Nat → Prop} {w : World} {s : Option Ver} {u : Nat → Value} {t : Value} (h : ToldAt w N s u t) (hs : ∀ b, N b → b < w.heap.size → N' b) : ToldAt w N' s u t := by
  cases s with
  | none => exact h
  | some v =>
    obtain ⟨a, c, h1, h2, h3, h5⟩ := h
    exact ⟨a, c, h1, h2, h3, fun hn => hs _ (h5 hn) (h3.blk hn)⟩

theorem ToldAt.congr {N : Nat → Prop} {w : World} {s : Option Ver} {u u' : Nat → Value} {t t' : Value} (h : ToldAt w N s u t) (hu : ∀ j, j < 6 → u j = u' j) (ht : t = t') : ToldAt w N s u' t' := by
  subst ht
  cases s with
  | none => exact ⟨fun j hj => (hu j hj).symm.trans (h.1 j hj), h.2⟩
  | some v =>
    obtain ⟨a, c, h1, h2, h3, h5⟩ := h
    exact ⟨a, c, fun j hj => (hu j hj).symm.trans (h1 j hj), h2, h3, h5⟩

theorem Script.fresh {w w' : World} {a : Option Addr} {n : Nat} (h : Script w a n) (hF : Fresh w w') : Script w' a n := by
  rcases h with h0 | ⟨b, off, rfl, hb, ho⟩
  · exact .inl h0
  · refine .inr ⟨b, off, rfl, Nat.lt_of_lt_of_le hb hF.size, fun i hi => ?_⟩
    obtain ⟨o, k, r, x, y, p, s, da, dn, dc, d, h⟩ := ho i hi
    exact ⟨o, k, r, x, y, p, s, da, dn, dc, d, h.fresh hF hb⟩

/-- Blocks where what was told lies. -/
def Apt (w0 : World) (pb : Nat) (v6 v7 : Value) (b : Nat) : Prop := b ≠ pb ∧ v6.ownBlock ≠ some b ∧ v7.ownBlock ≠ some b ∧ w0.heap.size ≤ b

/-- A page, and what was told of its first slots. -/
structure Was (w0 wr : World) (pb : Nat) (sp st : St) (i : Nat) (v6 v7 : Value) (U : Nat → Nat → Value) (T : Nat → Nat → Value) : Prop where
  page : Byt wr pb 75 512 (enc sp)
  fresh : Fresh w0 wr
  pge : w0.heap.size ≤ pb
  row6 : OwnRow wr 29 6 v6 i U w0.heap.size
  row7 : OwnRow wr 4 1 v7 i T w0.heap.size
  n6 : v6.ownBlock ≠ some pb
  n7 : v7.ownBlock ≠ some pb
  n67 : ∀ b, v6.ownBlock = some b → v7.ownBlock ≠ some b
  told : ∀ k, k < i → ToldAt wr (Apt w0 pb v6 v7) (verAt st k) (U k) (T k 0)

theorem Was.kept {w0 wr W : World} {pb : Nat} {sp st : St} {i : Nat} {v6 v7 : Value} {U T : Nat → Nat → Value} (h : Was w0 wr pb sp st i v6 v7 U T) (hF : Fresh wr W) : Was w0 W pb sp st i v6 v7 U T :=
  ⟨h.page.kept hF (by simp), h.fresh.trans hF, h.pge, h.row6.kept hF (by simp), h.row7.kept hF (by simp), h.n6, h.n7, h.n67, fun k hk => (h.told k hk).kept hF (by simp)⟩

theorem Was.turn {w0 wr W : World} {pb : Nat} {sp sp' st : St} {i : Nat} {v6 v7 : Value} {U T : Nat → Nat → Value} (h : Was w0 wr pb sp st i v6 v7 U T) (hK : Kept (· = pb) wr W) (hp : Byt W pb 75 512 (enc sp')) : Was w0 W pb sp' st i v6 v7 U T :=
  ⟨hp, h.fresh.then hK (fun b hb e => by have := h.pge; omega), h.pge, h.row6.kept hK (fun b hb e => by subst e; exact h.n6 hb), h.row7.kept hK (fun b hb e => by subst e; exact h.n7 hb), h.n6, h.n7, h.n67, fun k hk => (h.told k hk).kept hK (fun b hb _ => hb.1)⟩

def Pushes (W : World) (N : Nat) (cs : Array Value) (t : Bool) (v6 v7 v6' : Value) (W1 : World) (N1 : Nat) (v7' : Value) (W2 : World) : Prop :=
  (Builtin.append_ #[60, 60] 60 #[v6, .slice (some ⟨N, 0, none⟩) 1 1]).run Try.prog (W.alloc (.cells cs 29)) = .ok v6' W1 ∧ N1 = W1.heap.size ∧
  (Builtin.append_ #[61, 61] 61 #[v7, .slice (some ⟨N1, 0, none⟩) 1 1]).run Try.prog (W1.alloc (.cells #[.bool t] 4)) = .ok v7' W2

/-- One more slot is kept: both appends. -/
theorem Was.push {w0 wr W : World} {pb : Nat} {sp st : St} {i : Nat} {v6 v7 : Value} {U T : Nat → Nat → Value} (h : Was w0 wr pb sp st i v6 v7 U T) (hF : Fresh wr W) (hi : i ≤ 200) (N : Nat) (hN : N = W.heap.size) (cs : Array Value) (hcs : cs.size = 6) (h1 : ∀ j, j < 6 → (cs.getD j default).oneCell' = true) (t : Bool)
    (ht : ToldAt W (fun b => wr.heap.size ≤ b) (verAt st i) (fun j => cs.getD j default) (.bool t)) :
    ∃ v6' W1 N1 v7' W2, Pushes W N cs t v6 v7 v6' W1 N1 v7' W2 ∧ ∃ U' T', Was w0 W2 pb sp st (i + 1) v6' v7' U' T' := by
  subst hN
  have hw := h.fresh.trans hF
  have hwz : w0.heap.size ≤ wr.heap.size := h.fresh.size
  have hWz : wr.heap.size ≤ W.heap.size := hF.size
  have hpw : pb < wr.heap.size := h.page.blk
  obtain ⟨v6', W1, hrun6, hr6, hk6, ho6⟩ := OwnRow.push (P := Try.prog) 60 29 und60 info29 (by decide) rfl (h.row6.kept hF (by simp)) hw.size cs hcs h1 (by omega) (by omega)
  have hW1z : W.heap.size ≤ W1.heap.size := hk6.size
  have hone : ∀ j, j < 1 → ((#[Value.bool t] : Array Value).getD j default).oneCell' = true := fun j hj => by
    obtain rfl : j = 0 := by omega
    rfl
  obtain ⟨v7', W2, hrun7, hr7, hk7, ho7⟩ := OwnRow.push (P := Try.prog) 61 4 und61 info4 (by decide) rfl ((h.row7.kept hF (by simp)).kept hk6 (fun b hb e => h.n67 b e hb)) (Nat.le_trans hw.size hk6.size) #[.bool t] rfl hone (by omega) (by omega)
  have o6 : ∀ b, v6.ownBlock = some b → b < wr.heap.size := fun b hb => (h.row6.own hb).2
  have o7 : ∀ b, v7.ownBlock = some b → b < wr.heap.size := fun b hb => (h.row7.own hb).2
  have o6' : ∀ b, v6'.ownBlock = some b → b < W1.heap.size := fun b hb => (hr6.own hb).2
  have hsplit : ∀ b, v6.ownBlock = some b → ¬ v7.ownBlock = some b := h.n67
  refine ⟨v6', W1, _, v7', W2, ⟨hrun6, rfl, hrun7⟩, _, _, ⟨((h.page.kept hF (by simp)).kept hk6 fun e => h.n6 e).kept hk7 fun e => h.n7 e, (hw.then hk6 fun b hb e => ?_).then hk7 fun b hb e => ?_, h.pge, hr6.kept hk7 fun b hb e => ?_, hr7, ?_, ?_, ?_, ?_⟩⟩
  · have := (h.row6.own e).1; omega
  · have := (h.row7.own e).1; omega
  · rcases ho6 b hb with h6 | h6
    · exact h.n67 b h6 e
    · have := o7 b e; omega
  · intro e
    rcases ho6 pb e with h6 | h6
    · exact h.n6 h6
    · omega
  · intro e
    rcases ho7 pb e with h6 | h6
    · exact h.n7 h6
    · omega
  · intro b hb e
    rcases ho6 b hb with h6 | h6
    · rcases ho7 b e with h7 | h7
      · exact h.n67 b h6 h7
      · have := o6 b h6; omega
    · rcases ho7 b e with h7 | h7
      · have := o7 b h7; omega
      · have := o6' b hb; omega
  · intro k hk
    by_cases hki : k = i
    · subst hki
      refine (((ht.mono (N' := fun b => Apt w0 pb v6' v7' b ∧ wr.heap.size ≤ b) fun b hb hb2 => ⟨⟨by omega, fun e => ?_, fun e => ?_, by omega⟩, hb⟩).kept hk6 fun b hb hb2 e => ?_).kept hk7 fun b hb hb2 e => ?_).mono (fun b hb _ => hb.1) |>.congr (fun j hj => ?_) ?_
      · rcases ho6 b e with h6 | h6
        · have := o6 b h6; omega
        · omega
      · rcases ho7 b e with h6 | h6
        · have := o7 b h6; omega
        · omega
      · have := o6 b e; have := hb.2; omega
      · have := o7 b e; have := hb.2; omega
      · show _ = if k = k then _ else _
        rw [if_pos rfl]
      · show _ = if k = k then _ else _
        rw [if_pos rfl]; rfl
    · have hki' : k < i := by omega
      refine ((((h.told k hki').mono (N' := fun b => Apt w0 pb v6 v7 b ∧ Apt w0 pb v6' v7' b) fun b hb hb2 => ⟨hb, hb.1, fun e => ?_, fun e => ?_, hb.2.2.2⟩).kept hF (by simp)).kept hk6 fun b hb _ e => hb.1.2.1 e).kept hk7 (fun b hb _ e => hb.1.2.2.1 e) |>.mono (fun b hb _ => hb.2) |>.congr (fun j hj => ?_) ?_
      · rcases ho6 b e with h6 | h6
        · exact hb.2.1 h6
        · omega
      · rcases ho7 b e with h6 | h6
        · exact hb.2.2.1 h6
        · omega
      · show _ = if k = i then _ else _
        rw [if_neg hki]
      · show _ = if k = i then _ else _
        rw [if_neg hki]
end Go.Proofs.Ytffbfgmhfnbmfaa
