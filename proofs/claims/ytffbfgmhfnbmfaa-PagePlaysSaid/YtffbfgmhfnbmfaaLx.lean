/- An operation and a script that came in. -/
import Derived.Test.YtffbfgmhfnbmfaaDc
import Derived.Test.YtffbfgmhfnbmfaaLw
import Derived.Deep.Slices
import Derived.ProofKit
namespace Go.Proofs.Ytffbfgmhfnbmfaa
open Go.ChangeShapes Go.WideShapes Go.ChangeAt Go.RowKit

section
variable {H : Type} {enc : TypeId × Value → H} {W : World} {base : Nat} {held : Bool}

theorem cells58 : Try.prog.cellsOf 58 = 8 := by kernel_rfl
theorem cells5 : Try.prog.cellsOf 5 = 1 := by kernel_rfl

/-- An operation's eight cells. -/
def OpCells (W : World) (cs : List Value) (o : Nat) (k : Int) (r x y : Nat) (p s : Int) (a : Option Addr) (n c : Nat) (d : Nat → Nat) : Prop :=
  cs = [.int .u8 o, .int .i64 k, .int .u64 r, .int .u64 x, .int .u64 y, .int .i64 p, .int .i64 s, .slice a n c] ∧ o < 256 ∧ Bytes W a n d ∧ n ≤ c

set_option maxRecDepth 1000000 in
theorem trod_op {fuel : Nat} {cs : List Value} {z : DataW H × List MemPlace} (h : DataW.trod enc Try.prog W base (fun _ => true) held fuel 58 cs = some z) :
    ∃ o k r x y p s a n c d, OpCells W cs o k r x y p s a n c d := by
  obtain ⟨xs, m, _, rfl, hl, hlen, hf⟩ := DataW.trod_struct Try.underlying58 h
  rw [cells58] at hl
  match cs, hl, xs, hlen with
  | [c0, c1, c2, c3, c4, c5, c6, c7], _, [y0, y1, y2], _ =>
    have h0 := hf 0 _ rfl
    have h1 := hf 1 _ rfl
    have h2 := hf 2 _ rfl
    simp [cells5, cells3, cells29] at h0 h1 h2
    obtain ⟨o, e0, _, w0⟩ := DataW.trod_int Try.underlying5 h0
    obtain ⟨k, e1, _, w1⟩ := DataW.trod_int Try.underlying3 h1
    obtain ⟨r, x, y, p, s, a, n, c, d, hT⟩ := trod_tuple h2
    obtain ⟨o', rfl, u0⟩ := wf_u8 w0
    have e2 := hT.eq
    simp at e0 e1 e2
    obtain ⟨rfl, rfl, rfl, rfl, rfl, rfl⟩ := e2
    subst e0 e1
    exact ⟨o', k, r, x, y, p, s, a, n, c, d, rfl, u0, hT.bytes, hT.le⟩

set_option maxRecDepth 1000000 in
theorem open_op {r0 : Reach} {b0 : Nat} {v : Value} {d : DataW H} {ps : List MemPlace} (hval : Value.okWide Try.prog W r0 b0 58 v) (hd : DataW.Trod enc Try.prog W base (fun _ => true) held 58 v d ps) :
    ∃ cs, v = .agg cs.toArray ∧ ∃ o k r x y p s a n c d, OpCells W cs o k r x y p s a n c d := by
  unfold Value.okWide at hval
  rw [Try.underlying58] at hval
  obtain ⟨cs, rfl, _, _⟩ := hval
  obtain ⟨fuel, hf⟩ := hd
  exact ⟨cs.toList, by simp, trod_op hf⟩

set_option maxRecDepth 1000000 in
theorem open_script {r0 : Reach} {b0 : Nat} {v : Value} {d : DataW H} {ps : List MemPlace} (hval : Value.okWide Try.prog W r0 b0 56 v) (hd : DataW.Trod enc Try.prog W base (fun _ => true) held 56 v d ps) :
    ∃ a n c, v = .slice a n c ∧ Script W a n ∧ n ≤ c ∧ c ≤ maxLen ∧ (a = none → n = 0) := by
  obtain ⟨a, n, c, rfl⟩ := okWide_slice Try.underlying56 hval
  obtain ⟨fuel, hf⟩ := hd
  rcases Deep.open_slice Try.underlying56 hf with ⟨h0, _⟩ | ⟨a', len, cap, m, n', D, Pl, hcs, hb, hl, hm, hmm, _, hi⟩
  · simp [Value.cells] at h0
    obtain ⟨rfl, rfl, rfl⟩ := h0
    exact ⟨_, _, _, rfl, .inl rfl, Nat.le_refl _, Nat.zero_le _, fun _ => rfl⟩
  · simp [Value.cells] at hcs
    obtain ⟨rfl, rfl, rfl⟩ := hcs
    refine ⟨_, _, _, rfl, ?_, hl, hm, fun h => by cases h⟩
    rw [if_pos rfl] at hmm
    subst hmm
    by_cases h0 : n = 0
    · exact .inl h0
    · right
      have key : ∀ i, i < n → ∃ (o : Nat) (k : Int) (r x y : Nat) (p s : Int) (da : Option Addr) (dn dc : Nat) (d : Nat → Nat), OpCells W [.int .u8 o, .int .i64 k, .int .u64 r, .int .u64 x, .int .u64 y, .int .i64 p, .int .i64 s, .slice da dn dc] o k r x y p s da dn dc d ∧
          ∀ j, j < 8 → W.cell? (a'.add (i * 8 + j)) = [Value.int .u8 o, .int .i64 k, .int .u64 r, .int .u64 x, .int .u64 y, .int .i64 p, .int .i64 s, .slice da dn dc][j]? := by
        intro i hin
        obtain ⟨cs', hc, ht⟩ := hi i (by omega)
        rw [cells58] at hc
        obtain ⟨_, hcl, hat⟩ := World.cells?_some hc
        obtain ⟨o, k, r, x, y, p, s, da, dn, dc, d, hop⟩ := trod_op ht
        obtain ⟨rfl, h2⟩ := hop
        refine ⟨o, k, r, x, y, p, s, da, dn, dc, d, ⟨rfl, h2⟩, fun j hj => ?_⟩
        rw [← hat j hj, Deep.add_add]
      obtain ⟨o, k, r, x, y, p, s, da, dn, dc, d, _, hc⟩ := key 0 (by omega)
      have hc0 := hc 0 (by omega)
      obtain ⟨hlt, hsp⟩ := cell_lt (v := .int .u8 o) hc0
      obtain ⟨ab, ao, asp⟩ := a'
      have hsp' : asp = none := by
        cases asp with
        | none => rfl
        | some z => simp [Addr.add] at hsp
      subst hsp'
      refine ⟨ab, ao, rfl, by simpa [Addr.add] using hlt, fun i hin => ?_⟩
      obtain ⟨o, k, r, x, y, p, s, da, dn, dc, d, hop, hc⟩ := key i hin
      have g := fun j hj => (congrArg (W.cell? ·) (show (⟨ab, ao, none⟩ : Addr).add (i * 8 + j) = ⟨ab, ao + i * 8 + j, none⟩ by rw [Addr.add_lit]; congr 1; omega)).symm.trans (hc j hj)
      exact ⟨o, k, r, x, y, p, s, da, dn, dc, d, g 0 (by omega), g 1 (by omega), g 2 (by omega), g 3 (by omega), g 4 (by omega), g 5 (by omega), g 6 (by omega), g 7 (by omega), hop.2.2.1, hop.2.2.2, hop.2.1⟩
end
end Go.Proofs.Ytffbfgmhfnbmfaa
