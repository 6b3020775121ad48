/- Rows of elements of several cells: what appends to them leaves. -/
import Derived.Test.YtffbfgmhfnbmfaaBc
namespace Go.Proofs.Ytffbfgmhfnbmfaa

/-- m cells from an address on that can be read. -/
def Cells (w : World) (a : Option Addr) (m : Nat) (f : Nat → Value) : Prop :=
  m = 0 ∨ ∃ b o, a = some ⟨b, o, none⟩ ∧ b < w.heap.size ∧ ∀ j, j < m → w.cell? ⟨b, o + j, none⟩ = some (f j)

theorem Cells.kept {S : Nat → Prop} {w w' : World} {a : Option Addr} {m : Nat} {f : Nat → Value} (h : Cells w a m f) (hk : Kept S w w') (hs : ∀ z, a = some z → ¬ S z.block) : Cells w' a m f := by
  rcases h with h0 | ⟨b, o, rfl, hlt, hc⟩
  · exact .inl h0
  · exact .inr ⟨b, o, rfl, Nat.lt_of_lt_of_le hlt hk.size, fun j hj => by rw [hk.cell (p := ⟨b, o + j, .none⟩) hlt (show ¬ S b from hs _ rfl), hc j hj]⟩

theorem Cells.of_row {w : World} {b t N : Nat} {f : Nat → Value} (h : w.rowIs b t N f) (off m : Nat) (hm : off + m ≤ N) : Cells w (some ⟨b, off, none⟩) m fun j => f (off + j) :=
  .inr ⟨b, off, rfl, h.lt, fun j hj => h.cell (by omega)⟩

theorem Cells.mono {w : World} {a : Option Addr} {m m' : Nat} {f : Nat → Value} (h : Cells w a m f) (hm : m' ≤ m) : Cells w a m' f := by
  rcases h with h0 | ⟨b, o, rfl, hlt, hc⟩
  · exact .inl (by omega)
  · exact .inr ⟨b, o, rfl, hlt, fun j hj => hc j (by omega)⟩

theorem Cells.congr {w : World} {a : Option Addr} {m : Nat} {f g : Nat → Value} (h : Cells w a m f) (e : ∀ j, j < m → f j = g j) : Cells w a m g := by
  rcases h with h0 | ⟨b, o, rfl, hlt, hc⟩
  · exact .inl h0
  · exact .inr ⟨b, o, rfl, hlt, fun j hj => by rw [hc j hj, e j hj]⟩

def listOf (m : Nat) (f : Nat → Value) : List Value := (List.range m).map f

theorem listOf_len (m : Nat) (f : Nat → Value) : (listOf m f).length = m := by simp [listOf]

theorem listOf_get (m : Nat) (f : Nat → Value) (j : Nat) (h : j < m) : (listOf m f)[j]? = some (f j) := by simp [listOf, h]

theorem Cells.src {P : Program} {tx e' : TypeId} (hk : P.underlying tx = some (.slice e')) {w : World} {a : Option Addr} {n K c : Nat} {d : Nat → Value} (h : Cells w a (n * K) d) (hK : 0 < K) (h1 : ∀ j, j < n * K → (d j).oneCell' = true) :
    Src P K tx (.slice a n c) n (listOf (n * K) d) w := by
  rcases h with h0 | ⟨b, o, rfl, hlt, hc⟩
  · obtain rfl : n = 0 := by
      rcases Nat.eq_zero_or_pos n with h | h
      · exact h
      · have := Nat.mul_pos h hK; omega
    rw [Nat.zero_mul]
    cases a with
    | none => exact Src.ofNil w hk c
    | some a => exact Src.ofSlice w hk a 0 c [] (by simp) (fun j u hj => by simp at hj) (fun u hu => by simp at hu)
  · refine Src.ofSlice w hk _ n c _ (listOf_len _ _) (fun j u hj => ?_) (fun u hu => ?_)
    · have hjn : j < n * K := by
        have := (List.getElem?_eq_some_iff.1 hj).1
        rwa [listOf_len] at this
      rw [listOf_get _ d j hjn] at hj
      rw [Addr.add_lit, hc j hjn, hj]
    · obtain ⟨j, hj, rfl⟩ := List.mem_map.1 hu
      exact h1 j (List.mem_range.1 hj)

theorem Cells.first {P : Program} {w : World} {a : Option Addr} {n K c : Nat} {d : Nat → Value} (h : Cells w a (n * K) d) (hK : 0 < K) :
    (Builtin.firstCells K n (.slice a n c)).run P w.drew = .ok (listOf (n * K) d).toArray w.drew := by
  rcases h with h0 | ⟨b, o, rfl, hlt, hc⟩
  · obtain rfl : n = 0 := by
      rcases Nat.eq_zero_or_pos n with h | h
      · exact h
      · have := Nat.mul_pos h hK; omega
    rw [Nat.zero_mul]
    cases a with
    | none => exact run_firstCells_none _ K 0 0 c
    | some a => exact run_firstCells_some _ K 0 a 0 c [] (by simp) (fun j u hj => by simp at hj)
  · refine run_firstCells_some _ K n _ n c (listOf (n * K) d) (listOf_len _ _) fun j u hj => ?_
    have hjn : j < n * K := by
      have := (List.getElem?_eq_some_iff.1 hj).1
      rwa [listOf_len] at this
    rw [listOf_get _ d j hjn] at hj
    rw [Addr.add_lit, show World.cell? w.drew ⟨b, o + j, .none⟩ = w.cell? ⟨b, o + j, .none⟩ from rfl, hc j hjn, hj]

/-- What stands in a row behind an append. -/
def joinedV (n : Nat) (f : Nat → Value) (m : Nat) (d : Nat → Value) (z : Nat → Value) : Nat → Value := fun i => if i < n then f i else if i < n + m then d (i - n) else z i

theorem grow_row {P : Program} (t tx ty e : TypeId) (ht : P.underlying t = some (.slice e)) (hx : P.underlying tx = some (.slice e)) {z : Value} {K by_ : Nat}
    (hinfo : (P.info? e).map (fun i => (i.zero, i.size, i.bytes)) = some (some z, K, by_)) (hK : 0 < K) (hz : z.cells.size = K) {w : World} {base a : Option Addr} {n m c k : Nat} {f d : Nat → Value}
    (hb : Cells w base (n * K) f) (hs : Cells w a (m * K) d) (h1 : ∀ j, j < m * K → (d j).oneCell' = true) (hg : c < n + m) (h63 : n + m ≤ 140737488355328) (hfit : (n + m) * by_ ≤ 140737488355328) :
    ∃ cap w', (Builtin.append_ #[t, tx] ty #[.slice base n c, .slice a m k]).run P w = .ok (.slice (some ⟨w.heap.size, 0, .none⟩) (n + m) cap) w' ∧
      n + m ≤ cap ∧ w'.rowIs w.heap.size e (cap * K) (joinedV (n * K) f (m * K) d fun i => z.cells.getD ((i - (n * K + m * K)) % K) default) ∧ w'.heap.size = w.heap.size + 1 ∧ Fresh w w' := by
  obtain ⟨i, hi, hzz⟩ := Option.map_eq_some_iff.1 hinfo
  simp only [Prod.mk.injEq] at hzz
  obtain ⟨hzero, hsz, hby⟩ := hzz
  have hsrc := hs.src (c := k) hx hK h1
  have hfst : (Builtin.firstCells i.size n (.slice base n c)).run P w.drew = .ok (listOf (n * K) f).toArray w.drew := by rw [hsz]; exact hb.first hK
  have hrun := run_append_grow_src (P := P) w t tx ty e i z ht hi hzero base n c (listOf (n * K) f) hfst (.slice a m k) m (listOf (m * K) d) (by rw [hsz]; exact hsrc) hg (by omega)
    (growslice_fits hg (by rw [hby]; exact hfit))
  have hcap : n + m ≤ grownCap w (n + m) c e := grownCap_ge w (n + m) c e
  refine ⟨_, _, hrun, hcap, ?_, by simp, ((Kept.refl _ w).drew).alloc _⟩
  have hsz2 : (Builtin.zeroCells z.cells (grownCap w (n + m) c e - (n + m))).size = (grownCap w (n + m) c e - (n + m)) * K := by
    rw [size_zeroCells, hz]
  have hmul : n * K + m * K + (grownCap w (n + m) c e - (n + m)) * K = grownCap w (n + m) c e * K := by
    rw [← Nat.add_mul, ← Nat.add_mul]; congr 1; omega
  have hall : ((listOf (n * K) f ++ listOf (m * K) d).toArray ++ Builtin.zeroCells z.cells (grownCap w (n + m) c e - (n + m))).size = grownCap w (n + m) c e * K := by
    simp only [Array.size_append, List.size_toArray, List.length_append, listOf_len, hsz2]
    omega
  have := World.rowIs_alloc w.drew ((listOf (n * K) f ++ listOf (m * K) d).toArray ++ Builtin.zeroCells z.cells (grownCap w (n + m) c e - (n + m))) e (joinedV (n * K) f (m * K) d fun i => z.cells.getD ((i - (n * K + m * K)) % K) default) (fun j hj => by
    rw [hall] at hj
    unfold joinedV
    by_cases h1 : j < n * K
    · rw [if_pos h1, Array.getElem?_append_left (by simp [listOf_len]; omega), List.getElem?_toArray, List.getElem?_append_left (by rw [listOf_len]; exact h1), listOf_get _ _ _ h1]
    · rw [if_neg h1]
      by_cases h2 : j < n * K + m * K
      · rw [if_pos h2, Array.getElem?_append_left (by simp [listOf_len]; omega), List.getElem?_toArray, List.getElem?_append_right (by rw [listOf_len]; omega), listOf_len, listOf_get _ _ _ (by omega)]
      · rw [if_neg h2, Array.getElem?_append_right (by simp [listOf_len]; omega)]
        have hs3 : (listOf (n * K) f ++ listOf (m * K) d).toArray.size = n * K + m * K := by simp [listOf_len]
        rw [hs3]
        have hlt : j - (n * K + m * K) < (grownCap w (n + m) c e - (n + m)) * z.cells.size := by rw [hz]; omega
        have hmod : (j - (n * K + m * K)) % z.cells.size < z.cells.size := Nat.mod_lt _ (by rw [hz]; exact hK)
        simp only [Builtin.zeroCells]
        rw [hz] at hlt hmod
        simp only [hz]
        simp [hlt, Array.getD, hz, hmod])
  rw [hall] at this
  exact this

theorem setCells_row {t N : Nat} (b : Nat) (d : Nat → Value) (m : Nat) : ∀ (s o : Nat) (f : Nat → Value) (w : World), w.rowIs b t N f →
    (w.setCells b o ((List.range' s m).map d)).rowIs b t N (fun i => if o ≤ i ∧ i < o + m then d (s + (i - o)) else f i) ∧
      (w.setCells b o ((List.range' s m).map d)).heap.size = w.heap.size ∧ Kept (· = b) w (w.setCells b o ((List.range' s m).map d)) := by
  induction m with
  | zero =>
    intro s o f w h
    refine ⟨h.congr (fun i _ => by rw [if_neg (by omega)]), rfl, .refl _ _⟩
  | succ m ih =>
    intro s o f w h
    simp only [List.range'_succ, List.map_cons, World.setCells]
    have h1 : (w.setCell ⟨b, o, .none⟩ (d s)).rowIs b t N (fun i => if i = o then d s else f i) := by
      refine (h.set o _).congr fun j _ => ?_
      by_cases e : j = o <;> simp [e]
    obtain ⟨h2, h3, h4⟩ := ih (s + 1) (o + 1) _ _ h1
    refine ⟨h2.congr (fun i _ => ?_), by rw [h3]; simp [World.setCell], ((Kept.refl (fun k => k = b) w).setCell (p := ⟨b, o, .none⟩) (fun _ => rfl) _).trans h4⟩
    by_cases e1 : o + 1 ≤ i ∧ i < o + 1 + m
    · rw [if_pos e1, if_pos (by omega)]; congr 1; omega
    · rw [if_neg e1]
      by_cases e2 : i = o
      · subst e2; rw [if_pos rfl, if_pos (by omega)]; simp
      · rw [if_neg e2, if_neg (by omega)]

theorem room_row {P : Program} (t tx ty e : TypeId) (ht : P.underlying t = some (.slice e)) (hx : P.underlying tx = some (.slice e)) {z : Option Value} {K by_ : Nat}
    (hinfo : (P.info? e).map (fun i => (i.zero, i.size, i.bytes)) = some (z, K, by_)) (hK : 0 < K) {w : World} {a : Option Addr} {b off n m c k T N : Nat} {f d : Nat → Value}
    (hb : w.rowIs b T N f) (hs : Cells w a (m * K) d) (h1 : ∀ j, j < m * K → (d j).oneCell' = true) (hg : n + m ≤ c) (hN : off + c * K ≤ N) :
    ∃ w', (Builtin.append_ #[t, tx] ty #[.slice (some ⟨b, off, .none⟩) n c, .slice a m k]).run P w = .ok (.slice (some ⟨b, off, .none⟩) (n + m) c) w' ∧
      w'.rowIs b T N (fun i => if off + n * K ≤ i ∧ i < off + n * K + m * K then d (i - (off + n * K)) else f i) ∧ w'.heap.size = w.heap.size ∧ Kept (· = b) w w' := by
  obtain ⟨i, hi, hzz⟩ := Option.map_eq_some_iff.1 hinfo
  simp only [Prod.mk.injEq] at hzz
  obtain ⟨hzero, hsz, hby⟩ := hzz
  have hsrc := hs.src (c := k) hx hK h1
  have hle : n * K + m * K ≤ c * K := by rw [← Nat.add_mul]; exact Nat.mul_le_mul_right _ hg
  have hrun := run_append_room_src (P := P) w t tx ty e i ht hi b off n c (.slice a m k) m (listOf (m * K) d) (by rw [hsz]; exact hsrc) hg
    (fun j hj => by rw [listOf_len] at hj; rw [hsz, hb.cell (by omega)]; rfl) (fun j hj => hb.frozen _)
  rw [hsz] at hrun
  obtain ⟨h1, h2, h3⟩ := setCells_row b d (m * K) 0 (off + n * K) f w hb
  refine ⟨_, hrun, ?_, ?_, ?_⟩
  · unfold listOf; rw [List.range_eq_range']
    exact h1.congr (fun i _ => by simp)
  · unfold listOf; rw [List.range_eq_range']; exact h2
  · unfold listOf; rw [List.range_eq_range']; exact h3

end Go.Proofs.Ytffbfgmhfnbmfaa
