/- clear and copy over a block of bytes. -/
import Derived.Test.YtffbfgmhfnbmfaaBc
namespace Go.Proofs.Ytffbfgmhfnbmfaa
open Go.RowKit Go.Deep

/-- Zeros laid over n bytes. -/
def wiped (f : Nat → Nat) (off n : Nat) : Nat → Nat := fun i => if off ≤ i ∧ i < off + n then 0 else f i
/-- Bytes laid over n bytes. -/
def over (f : Nat → Nat) (off n : Nat) (d : Nat → Nat) : Nat → Nat := fun i => if off ≤ i ∧ i < off + n then d (i - off) else f i

theorem over_lt {f d : Nat → Nat} (hf : ∀ i, f i < 256) (hd : ∀ i, d i < 256) (off n i : Nat) : over f off n d i < 256 := by
  unfold over; split
  · exact hd _
  · exact hf _

theorem setCells_over {w : World} {b t N : Nat} {f d : Nat → Nat} (hb : Byt w b t N f) (hd : ∀ j, d j < 256) (off n : Nat) :
    Byt (w.setCells b off (cellsOf n d)) b t N (over f off n d) ∧ (w.setCells b off (cellsOf n d)).heap.size = w.heap.size ∧ Kept (· = b) w (w.setCells b off (cellsOf n d)) := by
  obtain ⟨h1, h2, h3⟩ := setCells_byt b d hd n 0 off f w hb
  unfold cellsOf; rw [List.range_eq_range']
  exact ⟨h1.congr (fun i _ => by simp [over]) (fun i => over_lt hb.byte hd _ _ _), h2, h3⟩

theorem cellsOf_one (n : Nat) (d : Nat → Nat) : ∀ u ∈ cellsOf n d, u.oneCell' = true := fun u hu => by
  obtain ⟨j, _, rfl⟩ := List.mem_map.1 hu
  rfl

theorem zeros_cells (n : Nat) : (Builtin.zeroCells (Value.int IntKind.u8 0).cells n).toList = cellsOf n fun _ => 0 := by
  simp only [Builtin.zeroCells, Value.cells, cellsOf, List.size_toArray, List.length_cons, List.length_nil, Nat.zero_add, Nat.mul_one, Nat.mod_one]
  simp

theorem clear_byt {P : Program} (t e ty : TypeId) (ht : P.underlying t = some (.slice e))
    (hinfo : (P.info? e).map (fun i => (i.zero, i.size, i.bytes)) = some (some (.int .u8 0), 1, 1)) {w : World} {b off n c T N : Nat} {f : Nat → Nat} (hb : Byt w b T N f) (hN : off + n ≤ N) :
    ∃ w', (Builtin.clear_ #[t] ty #[.slice (some ⟨b, off, .none⟩) n c]).run P w = .ok (.tuple #[]) w' ∧ Byt w' b T N (wiped f off n) ∧ w'.heap.size = w.heap.size ∧ Kept (· = b) w w' := by
  obtain ⟨i, hi, hzz⟩ := Option.map_eq_some_iff.1 hinfo
  simp only [Prod.mk.injEq] at hzz
  obtain ⟨hz, hsz, hby⟩ := hzz
  obtain ⟨h1, h2, h3⟩ := setCells_over hb (d := fun _ => 0) (fun _ => by omega) off n
  have he : over f off n (fun _ => 0) = wiped f off n := rfl
  cases n with
  | zero =>
    refine ⟨w, ?_, hb.congr (fun i _ => by unfold wiped; rw [if_neg (by omega)]) (fun i => by unfold wiped; rw [if_neg (by omega)]; exact hb.byte i), rfl, .refl _ _⟩
    simp [Builtin.clear_, run_underlying ht]
  | succ n =>
    refine ⟨_, ?_, h1, h2, h3⟩
    have hst := run_storeCells_cells (P := P) b off (cellsOf (n + 1) fun _ => 0) 0 w (fun j hj => by rw [cellsOf_len] at hj; rw [Nat.add_zero, hb.cell (by omega)]; rfl) (fun j hj => hb.frozen _) (cellsOf_one _ _)
    rw [Nat.add_zero] at hst
    have hzc := zeros_cells (n + 1)
    simp only [Builtin.clear_]
    simp [run_underlying ht, zeroValue, typeInfo, hi, hz, hzc, hst]

theorem copy_byt {P : Program} (t tx ty e : TypeId) (ht : P.underlying t = some (.slice e))
    (hinfo : (P.info? e).map (fun i => (i.zero, i.size, i.bytes)) = some (some (.int .u8 0), 1, 1)) {w : World} {b off n m c k T N : Nat} {a : Option Addr} {f d : Nat → Nat} (hb : Byt w b T N f) (hN : off + n ≤ N) (hs : Bytes w a m d) (hm : m ≤ n) :
    ∃ w', (Builtin.copy_ #[t, tx] ty #[.slice (some ⟨b, off, .none⟩) n c, .slice a m k]).run P w = .ok (.int .i64 m) w' ∧ Byt w' b T N (over f off m d) ∧ w'.heap.size = w.heap.size ∧ Kept (· = b) w w' := by
  obtain ⟨i, hi, hzz⟩ := Option.map_eq_some_iff.1 hinfo
  simp only [Prod.mk.injEq] at hzz
  obtain ⟨hz, hsz, hby⟩ := hzz
  obtain ⟨h1, h2, h3⟩ := setCells_over hb (d := d) hs.byte off m
  refine ⟨_, ?_, h1, h2, h3⟩
  have hst := run_storeCells_cells (P := P) b off (cellsOf m d) 0 w (fun j hj => by rw [cellsOf_len] at hj; rw [Nat.add_zero, hb.cell (by omega)]; rfl) (fun j hj => hb.frozen _) (cellsOf_one _ _)
  rw [Nat.add_zero] at hst
  have hf : (Builtin.firstCells 1 m (.slice a m k)).run P w = .ok (cellsOf m d).toArray w := by
    rcases hs.cells with h0 | ⟨sb, so, rfl, hlt, hc⟩
    · subst h0
      cases a with
      | none => exact run_firstCells_none _ 1 0 0 k
      | some a => exact run_firstCells_some _ 1 0 a 0 k [] rfl (fun j u hj => by simp at hj)
    · refine run_firstCells_some _ 1 m _ m k (cellsOf m d) (by rw [cellsOf_len, Nat.mul_one]) fun j u hj => ?_
      have hjn : j < m := by
        have := (List.getElem?_eq_some_iff.1 hj).1
        rwa [cellsOf_len] at this
      rw [cellsOf_get m d j hjn] at hj
      rw [Addr.add_lit, hc j hjn, hj]
  have hmin : Nat.min m n = m := Nat.min_eq_left hm
  simp [Builtin.copy_, run_underlying ht, Builtin.lenOf, sizeOf, typeInfo, hi, hsz, hmin, hf, hst, goInt]
end Go.Proofs.Ytffbfgmhfnbmfaa
