/- Bytes that are appended: the two roads. -/
import Derived.Test.YtffbfgmhfnbmfaaBa
import Derived.Deep.AppendSrc
namespace Go.Proofs.Ytffbfgmhfnbmfaa
open Go.RowKit Go.Deep

/-- n bytes that can be read behind an address. -/
structure Bytes (w : World) (a : Option Addr) (n : Nat) (d : Nat → Nat) : Prop where
  byte : ∀ j, d j < 256
  cells : n = 0 ∨ ∃ b o, a = some ⟨b, o, none⟩ ∧ b < w.heap.size ∧ ∀ j, j < n → w.cell? ⟨b, o + j, none⟩ = some (.int .u8 (d j))

theorem Bytes.of_block {w w' : World} {a : Option Addr} {n : Nat} {d : Nat → Nat} (h : Bytes w a n d) (hz : w.heap.size ≤ w'.heap.size) (hb : ∀ x, a = some x → w'.heap[x.block]? = w.heap[x.block]?) : Bytes w' a n d := by
  refine ⟨h.byte, ?_⟩
  rcases h.cells with h0 | ⟨b, o, rfl, hlt, hc⟩
  · exact .inl h0
  · refine .inr ⟨b, o, rfl, by omega, fun j hj => ?_⟩
    rw [World.cell?_of_block (w := w) (a := ⟨b, o + j, .none⟩) (show w'.heap[b]? = w.heap[b]? from hb _ rfl), hc j hj]

theorem Bytes.kept {S : Nat → Prop} {w w' : World} {a : Option Addr} {n : Nat} {d : Nat → Nat} (h : Bytes w a n d) (hk : Kept S w w') (hs : ∀ x, a = some x → ¬ S x.block) : Bytes w' a n d := by
  rcases h.cells with h0 | ⟨b, o, rfl, hlt, hc⟩
  · exact ⟨h.byte, .inl h0⟩
  · refine ⟨h.byte, .inr ⟨b, o, rfl, Nat.lt_of_lt_of_le hlt hk.size, fun j hj => ?_⟩⟩
    rw [hk.cell (p := ⟨b, o + j, .none⟩) hlt (show ¬ S b from hs _ rfl), hc j hj]

theorem Byt.bytes {w : World} {b t N : Nat} {f : Nat → Nat} (h : Byt w b t N f) (off n : Nat) (hn : off + n ≤ N) : Bytes w (some ⟨b, off, none⟩) n fun j => f (off + j) :=
  ⟨fun j => h.byte _, .inr ⟨b, off, rfl, h.blk, fun j hj => h.cell (by omega)⟩⟩

theorem Bytes.congr {w : World} {a : Option Addr} {n : Nat} {d d' : Nat → Nat} (h : Bytes w a n d) (e : ∀ j, j < n → d j = d' j) (hb : ∀ j, d' j < 256) : Bytes w a n d' := by
  refine ⟨hb, ?_⟩
  rcases h.cells with h0 | ⟨b, o, ha, hlt, hc⟩
  · exact .inl h0
  · exact .inr ⟨b, o, ha, hlt, fun j hj => by rw [hc j hj, e j hj]⟩

theorem Bytes.none (w : World) (d : Nat → Nat) (hd : ∀ j, d j < 256) : Bytes w none 0 d := ⟨hd, .inl rfl⟩

def cellsOf (n : Nat) (d : Nat → Nat) : List Value := (List.range n).map fun j => Value.int .u8 (d j)

theorem cellsOf_len (n : Nat) (d : Nat → Nat) : (cellsOf n d).length = n := by simp [cellsOf]

theorem cellsOf_get (n : Nat) (d : Nat → Nat) (j : Nat) (h : j < n) : (cellsOf n d)[j]? = some (.int .u8 (d j)) := by simp [cellsOf, h]

theorem Bytes.src {P : Program} {tx e' : TypeId} (hk : P.underlying tx = some (.slice e')) {w : World} {a : Option Addr} {n c : Nat} {d : Nat → Nat} (h : Bytes w a n d) :
    Src P 1 tx (.slice a n c) n (cellsOf n d) w := by
  rcases h.cells with h0 | ⟨b, o, rfl, hlt, hc⟩
  · subst h0
    cases a with
    | none => exact Src.ofNil w hk c
    | some a => exact Src.ofSlice w hk a 0 c [] rfl (fun j u hj => by simp at hj) (fun u hu => by simp at hu)
  · refine Src.ofSlice w hk _ n c _ (by rw [cellsOf_len, Nat.mul_one]) (fun j u hj => ?_) (fun u hu => ?_)
    · have hjn : j < n := by
        have := (List.getElem?_eq_some_iff.1 hj).1
        rwa [cellsOf_len] at this
      rw [cellsOf_get n d j hjn] at hj
      rw [Addr.add_lit, hc j hjn, hj]
    · obtain ⟨j, _, rfl⟩ := List.mem_map.1 hu
      rfl

theorem Bytes.first {P : Program} {w : World} {a : Option Addr} {n c : Nat} {d : Nat → Nat} (h : Bytes w a n d) :
    (Builtin.firstCells 1 n (.slice a n c)).run P w.drew = .ok (cellsOf n d).toArray w.drew := by
  rcases h.cells with h0 | ⟨b, o, rfl, hlt, hc⟩
  · subst h0
    cases a with
    | none => exact run_firstCells_none _ 1 0 0 c
    | some a => exact run_firstCells_some _ 1 0 a 0 c [] rfl (fun j u hj => by simp at hj)
  · refine run_firstCells_some _ 1 n _ n c (cellsOf n d) (by rw [cellsOf_len, Nat.mul_one]) fun j u hj => ?_
    have hjn : j < n := by
      have := (List.getElem?_eq_some_iff.1 hj).1
      rwa [cellsOf_len] at this
    rw [cellsOf_get n d j hjn] at hj
    rw [Addr.add_lit, show World.cell? w.drew ⟨b, o + j, .none⟩ = w.cell? ⟨b, o + j, .none⟩ from rfl, hc j hjn, hj]

/-- What stands behind an append. -/
def joined (n : Nat) (f : Nat → Nat) (m : Nat) (d : Nat → Nat) : Nat → Nat := fun i => if i < n then f i else if i < n + m then d (i - n) else 0

theorem joined_byte {n m : Nat} {f d : Nat → Nat} (hf : ∀ i, f i < 256) (hd : ∀ i, d i < 256) (i : Nat) : joined n f m d i < 256 := by
  unfold joined; split
  · exact hf i
  · split
    · exact hd _
    · omega

theorem zeroCells_get (z : Value) (K j : Nat) (h : j < K) : (Builtin.zeroCells #[z] K)[j]? = some z := by
  simp only [Builtin.zeroCells]
  simp [Nat.mod_one, h]

theorem append_grow {P : Program} (t tx ty e : TypeId) (ht : P.underlying t = some (.slice e)) (hx : P.underlying tx = some (.slice e))
    (hinfo : (P.info? e).map (fun i => (i.zero, i.size, i.bytes)) = some (some (.int .u8 0), 1, 1)) {w : World} {base a : Option Addr} {n m c k : Nat} {f d : Nat → Nat}
    (hb : Bytes w base n f) (hs : Bytes w a m d) (hg : c < n + m) (hfit : n + m ≤ 140737488355328) :
    ∃ cap w', (Builtin.append_ #[t, tx] ty #[.slice base n c, .slice a m k]).run P w = .ok (.slice (some ⟨w.heap.size, 0, .none⟩) (n + m) cap) w' ∧
      n + m ≤ cap ∧ Byt w' w.heap.size e cap (joined n f m d) ∧ w'.heap.size = w.heap.size + 1 ∧ Fresh w w' := by
  obtain ⟨i, hi, hzz⟩ := Option.map_eq_some_iff.1 hinfo
  simp only [Prod.mk.injEq] at hzz
  obtain ⟨hz, hsz, hby⟩ := hzz
  have hsrc := hs.src (c := k) hx
  have hfst : (Builtin.firstCells i.size n (.slice base n c)).run P w.drew = .ok (cellsOf n f).toArray w.drew := by rw [hsz]; exact hb.first
  have hrun := run_append_grow_src (P := P) w t tx ty e i (.int .u8 0) ht hi hz base n c (cellsOf n f) hfst (.slice a m k) m (cellsOf m d) (by rw [hsz]; exact hsrc) hg (by omega)
    (growslice_fits hg (by rw [hby]; omega))
  have hcap : n + m ≤ grownCap w (n + m) c e := grownCap_ge w (n + m) c e
  refine ⟨_, _, hrun, hcap, ?_, by simp, ((Kept.refl _ w).drew).alloc _⟩
  refine ⟨?_, joined_byte hb.byte hs.byte⟩
  have hsz2 : (Builtin.zeroCells (Value.int .u8 0).cells (grownCap w (n + m) c e - (n + m))).size = grownCap w (n + m) c e - (n + m) := by
    simp [Builtin.zeroCells, Value.cells]
  have hall : ((cellsOf n f ++ cellsOf m d).toArray ++ Builtin.zeroCells (Value.int .u8 0).cells (grownCap w (n + m) c e - (n + m))).size = grownCap w (n + m) c e := by
    simp only [Array.size_append, List.size_toArray, List.length_append, cellsOf_len, hsz2]
    omega
  have := World.rowIs_alloc w.drew ((cellsOf n f ++ cellsOf m d).toArray ++ Builtin.zeroCells (Value.int .u8 0).cells (grownCap w (n + m) c e - (n + m))) e (fun j => .int .u8 (joined n f m d j)) (fun j hj => by
    rw [hall] at hj
    unfold joined
    by_cases h1 : j < n
    · rw [if_pos h1, Array.getElem?_append_left (by simp [cellsOf_len]; omega), List.getElem?_toArray, List.getElem?_append_left (by rw [cellsOf_len]; exact h1), cellsOf_get _ _ _ h1]
    · rw [if_neg h1]
      by_cases h2 : j < n + m
      · rw [if_pos h2, Array.getElem?_append_left (by simp [cellsOf_len]; omega), List.getElem?_toArray, List.getElem?_append_right (by rw [cellsOf_len]; omega), cellsOf_len, cellsOf_get _ _ _ (by omega)]
      · rw [if_neg h2, Array.getElem?_append_right (by simp [cellsOf_len]; omega)]
        exact zeroCells_get _ _ _ (by simp only [List.size_toArray, List.length_append, cellsOf_len]; omega))
  rw [hall] at this
  exact this

theorem setCells_byt {t N : Nat} (b : Nat) (d : Nat → Nat) (hd : ∀ j, d j < 256) (m : Nat) : ∀ (s o : Nat) (f : Nat → Nat) (w : World), Byt w b t N f →
    Byt (w.setCells b o ((List.range' s m).map fun j => Value.int .u8 (d j))) b t N (fun i => if o ≤ i ∧ i < o + m then d (s + (i - o)) else f i) ∧
      (w.setCells b o ((List.range' s m).map fun j => Value.int .u8 (d j))).heap.size = w.heap.size ∧ Kept (· = b) w (w.setCells b o ((List.range' s m).map fun j => Value.int .u8 (d j))) := by
  induction m with
  | zero =>
    intro s o f w h
    refine ⟨h.congr (fun i _ => by rw [if_neg (by omega)]) (fun i => by rw [if_neg (by omega)]; exact h.byte i), rfl, .refl _ _⟩
  | succ m ih =>
    intro s o f w h
    simp only [List.range'_succ, List.map_cons, World.setCells]
    have h1 : Byt (w.setCell ⟨b, o, .none⟩ (.int .u8 (d s))) b t N (fun i => if i = o then d s else f i) := by
      refine ⟨(h.row.set o _).congr fun j _ => ?_, fun j => ?_⟩
      · by_cases e : j = o <;> simp [e]
      · by_cases e : j = o <;> simp [e, hd, h.byte]
    obtain ⟨h2, h3, h4⟩ := ih (s + 1) (o + 1) _ _ h1
    refine ⟨h2.congr (fun i _ => ?_) (fun i => ?_), by rw [h3]; simp [World.setCell], ((Kept.refl (fun k => k = b) w).setCell (p := ⟨b, o, .none⟩) (fun _ => rfl) _).trans h4⟩
    · by_cases e1 : o + 1 ≤ i ∧ i < o + 1 + m
      · rw [if_pos e1, if_pos (by omega)]; congr 1; omega
      · rw [if_neg e1]
        by_cases e2 : i = o
        · subst e2; rw [if_pos rfl, if_pos (by omega)]; simp
        · rw [if_neg e2, if_neg (by omega)]
    · split
      · exact hd _
      · exact h.byte i

theorem append_room {P : Program} (t tx ty e : TypeId) (ht : P.underlying t = some (.slice e)) (hx : P.underlying tx = some (.slice e))
    (hinfo : (P.info? e).map (fun i => (i.zero, i.size, i.bytes)) = some (some (.int .u8 0), 1, 1)) {w : World} {a : Option Addr} {b off n m c k T N : Nat} {f d : Nat → Nat}
    (hb : Byt w b T N f) (hs : Bytes w a m d) (hg : n + m ≤ c) (hN : off + c ≤ N) :
    ∃ w', (Builtin.append_ #[t, tx] ty #[.slice (some ⟨b, off, .none⟩) n c, .slice a m k]).run P w = .ok (.slice (some ⟨b, off, .none⟩) (n + m) c) w' ∧
      Byt w' b T N (fun i => if off + n ≤ i ∧ i < off + n + m then d (i - (off + n)) else f i) ∧ w'.heap.size = w.heap.size ∧ Kept (· = b) w w' := by
  obtain ⟨i, hi, hzz⟩ := Option.map_eq_some_iff.1 hinfo
  simp only [Prod.mk.injEq] at hzz
  obtain ⟨hz, hsz, hby⟩ := hzz
  have hsrc := hs.src (c := k) hx
  have hrun := run_append_room_src (P := P) w t tx ty e i ht hi b off n c (.slice a m k) m (cellsOf m d) (by rw [hsz]; exact hsrc) hg
    (fun j hj => by rw [cellsOf_len] at hj; rw [hsz, Nat.mul_one, hb.cell (by omega)]; rfl) (fun j hj => hb.frozen _)
  rw [hsz, Nat.mul_one] at hrun
  obtain ⟨h1, h2, h3⟩ := setCells_byt b d hs.byte m 0 (off + n) f w hb
  refine ⟨_, hrun, ?_, ?_, ?_⟩
  · unfold cellsOf; rw [List.range_eq_range']
    exact h1.congr (fun i _ => by simp) (fun i => by split <;> first | exact hs.byte _ | exact hb.byte _)
  · unfold cellsOf; rw [List.range_eq_range']; exact h2
  · unfold cellsOf; rw [List.range_eq_range']; exact h3

end Go.Proofs.Ytffbfgmhfnbmfaa
