/- Words for pages: numbers laid as bytes, and what a call leaves alone. -/
import Derived.WalkKit
import Derived.Deep.LoopGhost
import Derived.Deep.Draws
import Derived.Deep.OwnRows
import Derived.Lib.Hide
import Derived.KernelRfl
import Derived.Deep.QuietTactic
import Derived.BigQuiet
import Derived.Deep.AppendSrc
namespace Go.Proofs.Ytffbfgmhfnbmfaa
open Go.RowKit

/-- The blocks outside S are as they were. -/
structure Kept (S : Nat → Prop) (w w' : World) : Prop where
  os : w'.os = w.os
  tape : w'.tape = w.tape
  output : w'.output = w.output
  size : w.heap.size ≤ w'.heap.size
  block : ∀ k, k < w.heap.size → ¬ S k → w'.heap[k]? = w.heap[k]?

theorem Kept.refl (S : Nat → Prop) (w : World) : Kept S w w := ⟨rfl, rfl, rfl, Nat.le_refl _, fun _ _ _ => rfl⟩

theorem Kept.trans {S : Nat → Prop} {a b c : World} (h : Kept S a b) (k : Kept S b c) : Kept S a c :=
  ⟨k.os.trans h.os, k.tape.trans h.tape, k.output.trans h.output, Nat.le_trans h.size k.size,
    fun i hi hs => (k.block i (Nat.lt_of_lt_of_le hi h.size) hs).trans (h.block i hi hs)⟩

theorem Kept.mono {S S' : Nat → Prop} {w w' : World} (h : Kept S w w') (hs : ∀ k, k < w.heap.size → S k → S' k) : Kept S' w w' :=
  ⟨h.os, h.tape, h.output, h.size, fun k hk hn => h.block k hk fun hk' => hn (hs k hk hk')⟩

/-- Two steps: the second may turn blocks that the first one made. -/
theorem Kept.then {S S' : Nat → Prop} {a b c : World} (h : Kept S a b) (k : Kept S' b c) (hs : ∀ i, i < a.heap.size → S' i → S i) : Kept S a c :=
  ⟨k.os.trans h.os, k.tape.trans h.tape, k.output.trans h.output, Nat.le_trans h.size k.size,
    fun i hi hn => (k.block i (Nat.lt_of_lt_of_le hi h.size) fun hi' => hn (hs i hi hi')).trans (h.block i hi hn)⟩

theorem Kept.drew {S : Nat → Prop} {a w : World} (h : Kept S a w) : Kept S a w.drew := ⟨h.os, h.tape, h.output, h.size, h.block⟩

theorem Kept.drewN {S : Nat → Prop} {a w : World} (h : Kept S a w) (n : Nat) : Kept S a (w.drewN n) := ⟨h.os, h.tape, h.output, h.size, h.block⟩

theorem Kept.alloc {S : Nat → Prop} {a w : World} (h : Kept S a w) (o : Obj) : Kept S a (w.alloc o) :=
  h.trans ⟨rfl, rfl, rfl, by simp, fun k hk _ => Below.heap_alloc _ _ _ hk⟩

theorem Kept.setCell {S : Nat → Prop} {a w : World} (h : Kept S a w) {p : Addr} (hp : p.block < a.heap.size → S p.block) (u : Value) : Kept S a (w.setCell p u) :=
  ⟨h.os, h.tape, h.output, by simpa [World.setCell] using h.size, fun k hk hn => (Below.heap_setCell _ _ _ _ (fun e => hn (by subst e; exact hp hk))).trans (h.block k hk hn)⟩

theorem Kept.grown {S : Nat → Prop} {a w w' : World} {row : Option Nat} (h : Kept S a w) (hg : w.grownBy w' row) (hr : ∀ k, row = some k → k < a.heap.size → S k) : Kept S a w' :=
  ⟨hg.os.trans h.os, hg.tape.trans h.tape, hg.output.trans h.output, Nat.le_trans h.size hg.size,
    fun k hk hn => (hg.block k (Nat.lt_of_lt_of_le hk h.size) (fun e => hn (hr k e.symm hk))).trans (h.block k hk hn)⟩

theorem Kept.cell {S : Nat → Prop} {w w' : World} (h : Kept S w w') {p : Addr} (hp : p.block < w.heap.size) (hs : ¬ S p.block) : w'.cell? p = w.cell? p := World.cell?_of_block (w := w) (h.block p.block hp hs)

theorem Kept.frozen {S : Nat → Prop} {w w' : World} (h : Kept S w w') {p : Addr} (hp : p.block < w.heap.size) (hs : ¬ S p.block) : w'.frozen? p = w.frozen? p := World.frozen?_of_block (w := w) (h.block p.block hp hs)

theorem Kept.row {S : Nat → Prop} {w w' : World} (h : Kept S w w') {b t n : Nat} {f : Nat → Value} (hr : w.rowIs b t n f) (hs : ¬ S b) : w'.rowIs b t n f := hr.of_block (h.block b hr.lt hs)

theorem Kept.below {S : Nat → Prop} {w w' : World} (h : Kept S w w') {B : Nat} (hB : B ≤ w.heap.size) (hs : ∀ k, S k → B ≤ k) : Below B w w' :=
  ⟨h.os, h.tape, h.output, h.size, fun k hk => h.block k (by omega) (fun hk' => by have := hs k hk'; omega)⟩

/-- Nothing that there was has turned. -/
abbrev Fresh (w w' : World) : Prop := Kept (fun _ => False) w w'

/-- A quiet call by a contract that ends in 'w = w''. -/
theorem quietEq {P : Program} {f : FuncId} {args : Array Value} {w : World} {n : Nat} {v : Value}
    (h : Calls P f args (w.drewN n) fun e w' => e = .returned v ∧ w.drewN n = w') : Calls P f args (w.drewN n) fun e w'' => e = .returned v ∧ ∃ m, w'' = w.drewN m :=
  h.mono fun _ _ ⟨he, hm⟩ => ⟨he, n, hm.symm⟩

/-- The number of the n bytes from lo on, the lowest first. -/
def le (f : Nat → Nat) (lo : Nat) : Nat → Nat
  | 0 => 0
  | n + 1 => f lo + 256 * le f (lo + 1) n

theorem le_lt {f : Nat → Nat} (hf : ∀ i, f i < 256) (n : Nat) : ∀ lo, le f lo n < 256 ^ n := by
  induction n with
  | zero => intro lo; simp [le]
  | succ n ih =>
    intro lo
    have h1 := ih (lo + 1)
    have h2 := hf lo
    simp only [le, Nat.pow_succ]
    omega

theorem le_congr {f g : Nat → Nat} (n : Nat) : ∀ lo, (∀ i, lo ≤ i → i < lo + n → f i = g i) → le f lo n = le g lo n := by
  induction n with
  | zero => intro lo _; rfl
  | succ n ih =>
    intro lo h
    simp only [le]
    rw [h lo (by omega) (by omega), ih (lo + 1) fun i hi hi' => h i (by omega) (by omega)]

/-- The first k bytes of x laid from off on. -/
def lay (f : Nat → Nat) (off x k : Nat) : Nat → Nat := fun i => if off ≤ i ∧ i < off + k then x / 256 ^ (i - off) % 256 else f i

theorem lay_lt {f : Nat → Nat} (hf : ∀ i, f i < 256) (off x k i : Nat) : lay f off x k i < 256 := by
  unfold lay; split
  · exact Nat.mod_lt _ (by decide)
  · exact hf i

theorem lay_zero (f : Nat → Nat) (off x : Nat) : lay f off x 0 = f := by funext i; unfold lay; rw [if_neg (by omega)]

theorem lay_succ (f : Nat → Nat) (off x k : Nat) (i : Nat) : lay f off x (k + 1) i = if i = off + k then x / 256 ^ k % 256 else lay f off x k i := by
  unfold lay
  by_cases h : i = off + k
  · subst h; rw [if_pos (by omega), if_pos rfl, Nat.add_sub_cancel_left]
  · rw [if_neg h]
    by_cases h2 : off ≤ i ∧ i < off + k
    · rw [if_pos h2, if_pos (by omega)]
    · rw [if_neg h2, if_neg (by omega)]

theorem lay_out (f : Nat → Nat) (off x k : Nat) (i : Nat) (h : i < off ∨ off + k ≤ i) : lay f off x k i = f i := by
  unfold lay; rw [if_neg (by omega)]

theorem le_lay (f : Nat → Nat) (k : Nat) : ∀ (off x : Nat), le (lay f off x k) off k = x % 256 ^ k := by
  induction k with
  | zero => intro off x; simp [le, Nat.mod_one]
  | succ k ih =>
    intro off x
    have h1 : lay f off x (k + 1) off = x % 256 := by unfold lay; rw [if_pos (by omega), Nat.sub_self]; simp
    have h2 : le (lay f off x (k + 1)) (off + 1) k = le (lay f (off + 1) (x / 256) k) (off + 1) k := by
      refine le_congr k _ fun i hi hi' => ?_
      unfold lay
      rw [if_pos (by omega), if_pos (by omega), show i - off = (i - (off + 1)) + 1 from by omega, Nat.pow_succ, Nat.mul_comm (256 ^ _) 256, Nat.div_div_eq_div_mul]
    rw [le, h1, h2, ih, Nat.pow_succ, Nat.mul_comm (256 ^ k) 256, Nat.mod_mul]

theorem le_lay_out (f : Nat → Nat) (k off x lo n : Nat) (h : lo + n ≤ off ∨ off + k ≤ lo) : le (lay f off x k) lo n = le f lo n :=
  le_congr n lo fun i hi hi' => lay_out f off x k i (by omega)

/-- A block of n bytes. -/
structure Byt (w : World) (b t n : Nat) (f : Nat → Nat) : Prop where
  row : w.rowIs b t n fun i => .int .u8 (f i)
  byte : ∀ i, f i < 256

theorem Byt.cell {w : World} {b t n : Nat} {f : Nat → Nat} (h : Byt w b t n f) {i : Nat} (hi : i < n) : w.cell? ⟨b, i, none⟩ = some (.int .u8 (f i)) := h.row.cell hi
theorem Byt.frozen {w : World} {b t n : Nat} {f : Nat → Nat} (h : Byt w b t n f) (i : Nat) : w.frozen? ⟨b, i, none⟩ = false := h.row.frozen i
theorem Byt.blk {w : World} {b t n : Nat} {f : Nat → Nat} (h : Byt w b t n f) : b < w.heap.size := h.row.lt

theorem Byt.kept {S : Nat → Prop} {w w' : World} {b t n : Nat} {f : Nat → Nat} (h : Byt w b t n f) (hk : Kept S w w') (hs : ¬ S b) : Byt w' b t n f := ⟨hk.row h.row hs, h.byte⟩

theorem Byt.congr {w : World} {b t n : Nat} {f g : Nat → Nat} (h : Byt w b t n f) (e : ∀ i, i < n → f i = g i) (hg : ∀ i, g i < 256) : Byt w b t n g :=
  ⟨h.row.congr fun i hi => by rw [e i hi], hg⟩

theorem Byt.drewN {w : World} {b t n : Nat} {f : Nat → Nat} (h : Byt w b t n f) (k : Nat) : Byt (w.drewN k) b t n f := ⟨h.row, h.byte⟩

end Go.Proofs.Ytffbfgmhfnbmfaa

namespace Go.Proofs.Ytffbfgmhfnbmfaa
open Go.RowKit Go.Deep

/-- n bytes that can be read behind an address. -/
structure Bytes (w : World) (a : Option Addr) (n : Nat) (d : Nat → Nat) : Prop where
  byte : ∀ j, d j < 256
  cells : n = 0 ∨ ∃ b o, a = some ⟨b, o, none⟩ ∧ b < w.heap.size ∧ ∀ j, j < n → w.cell? ⟨b, o + j, none⟩ = some (.int .u8 (d j))

theorem Bytes.of_block {w w' : World} {a : Option Addr} {n : Nat} {d : Nat → Nat} (h : Bytes w a n d) (hz : w.heap.size ≤ w'.heap.size) (hb : ∀ x, a = some x → w'.heap[x.block]? = w.heap[x.block]?) : Bytes w' a n d := by
  refine ⟨h.byte, ?_⟩
  rcases h.cells with h0 | ⟨b, o, rfl, hlt, hc⟩
  · exact .inl h0
  · refine .inr ⟨b, o, rfl, by omega, fun j hj => ?_⟩
    rw [World.cell?_of_block (w := w) (a := ⟨b, o + j, .none⟩) (show w'.heap[b]? = w.heap[b]? from hb _ rfl), hc j hj]

theorem Bytes.kept {S : Nat → Prop} {w w' : World} {a : Option Addr} {n : Nat} {d : Nat → Nat} (h : Bytes w a n d) (hk : Kept S w w') (hs : ∀ x, a = some x → ¬ S x.block) : Bytes w' a n d := by
  rcases h.cells with h0 | ⟨b, o, rfl, hlt, hc⟩
  · exact ⟨h.byte, .inl h0⟩
  · refine ⟨h.byte, .inr ⟨b, o, rfl, Nat.lt_of_lt_of_le hlt hk.size, fun j hj => ?_⟩⟩
    rw [hk.cell (p := ⟨b, o + j, .none⟩) hlt (show ¬ S b from hs _ rfl), hc j hj]

theorem Byt.bytes {w : World} {b t N : Nat} {f : Nat → Nat} (h : Byt w b t N f) (off n : Nat) (hn : off + n ≤ N) : Bytes w (some ⟨b, off, none⟩) n fun j => f (off + j) :=
  ⟨fun j => h.byte _, .inr ⟨b, off, rfl, h.blk, fun j hj => h.cell (by omega)⟩⟩

theorem Bytes.congr {w : World} {a : Option Addr} {n : Nat} {d d' : Nat → Nat} (h : Bytes w a n d) (e : ∀ j, j < n → d j = d' j) (hb : ∀ j, d' j < 256) : Bytes w a n d' := by
  refine ⟨hb, ?_⟩
  rcases h.cells with h0 | ⟨b, o, ha, hlt, hc⟩
  · exact .inl h0
  · exact .inr ⟨b, o, ha, hlt, fun j hj => by rw [hc j hj, e j hj]⟩

theorem Bytes.none (w : World) (d : Nat → Nat) (hd : ∀ j, d j < 256) : Bytes w none 0 d := ⟨hd, .inl rfl⟩

def cellsOf (n : Nat) (d : Nat → Nat) : List Value := (List.range n).map fun j => Value.int .u8 (d j)

theorem cellsOf_len (n : Nat) (d : Nat → Nat) : (cellsOf n d).length = n := by simp [cellsOf]

theorem cellsOf_get (n : Nat) (d : Nat → Nat) (j : Nat) (h : j < n) : (cellsOf n d)[j]? = some (.int .u8 (d j)) := by simp [cellsOf, h]

theorem Bytes.src {P : Program} {tx e' : TypeId} (hk : P.underlying tx = some (.slice e')) {w : World} {a : Option Addr} {n c : Nat} {d : Nat → Nat} (h : Bytes w a n d) :
    Src P 1 tx (.slice a n c) n (cellsOf n d) w := by
  rcases h.cells with h0 | ⟨b, o, rfl, hlt, hc⟩
  · subst h0
    cases a with
    | none => exact Src.ofNil w hk c
    | some a => exact Src.ofSlice w hk a 0 c [] rfl (fun j u hj => by simp at hj) (fun u hu => by simp at hu)
  · refine Src.ofSlice w hk _ n c _ (by rw [cellsOf_len, Nat.mul_one]) (fun j u hj => ?_) (fun u hu => ?_)
    · have hjn : j < n := by
        have := (List.getElem?_eq_some_iff.1 hj).1
        rwa [cellsOf_len] at this
      rw [cellsOf_get n d j hjn] at hj
      rw [Addr.add_lit, hc j hjn, hj]
    · obtain ⟨j, _, rfl⟩ := List.mem_map.1 hu
      rfl

theorem Bytes.first {P : Program} {w : World} {a : Option Addr} {n c : Nat} {d : Nat → Nat} (h : Bytes w a n d) :
    (Builtin.firstCells 1 n (.slice a n c)).run P w.drew = .ok (cellsOf n d).toArray w.drew := by
  rcases h.cells with h0 | ⟨b, o, rfl, hlt, hc⟩
  · subst h0
    cases a with
    | none => exact run_firstCells_none _ 1 0 0 c
    | some a => exact run_firstCells_some _ 1 0 a 0 c [] rfl (fun j u hj => by simp at hj)
  · refine run_firstCells_some _ 1 n _ n c (cellsOf n d) (by rw [cellsOf_len, Nat.mul_one]) fun j u hj => ?_
    have hjn : j < n := by
      have := (List.getElem?_eq_some_iff.1 hj).1
      rwa [cellsOf_len] at this
    rw [cellsOf_get n d j hjn] at hj
    rw [Addr.add_lit, show World.cell? w.drew ⟨b, o + j, .none⟩ = w.cell? ⟨b, o + j, .none⟩ from rfl, hc j hjn, hj]

/-- What stands behind an append. -/
def joined (n : Nat) (f : Nat → Nat) (m : Nat) (d : Nat → Nat) : Nat → Nat := fun i => if i < n then f i else if i < n + m then d (i - n) else 0

theorem joined_byte {n m : Nat} {f d : Nat → Nat} (hf : ∀ i, f i < 256) (hd : ∀ i, d i < 256) (i : Nat) : joined n f m d i < 256 := by
  unfold joined; split
  · exact hf i
  · split
    · exact hd _
    · omega

theorem zeroCells_get (z : Value) (K j : Nat) (h : j < K) : (Builtin.zeroCells #[z] K)[j]? = some z := by
  simp only [Builtin.zeroCells]
  simp [Nat.mod_one, h]

theorem append_grow {P : Program} (t tx ty e : TypeId) (ht : P.underlying t = some (.slice e)) (hx : P.underlying tx = some (.slice e))
    (hinfo : (P.info? e).map (fun i => (i.zero, i.size, i.bytes)) = some (some (.int .u8 0), 1, 1)) {w : World} {base a : Option Addr} {n m c k : Nat} {f d : Nat → Nat}
    (hb : Bytes w base n f) (hs : Bytes w a m d) (hg : c < n + m) (hfit : n + m ≤ 140737488355328) :
    ∃ cap w', (Builtin.append_ #[t, tx] ty #[.slice base n c, .slice a m k]).run P w = .ok (.slice (some ⟨w.heap.size, 0, .none⟩) (n + m) cap) w' ∧
      n + m ≤ cap ∧ Byt w' w.heap.size e cap (joined n f m d) ∧ w'.heap.size = w.heap.size + 1 ∧ Fresh w w' := by
  obtain ⟨i, hi, hzz⟩ := Option.map_eq_some_iff.1 hinfo
  simp only [Prod.mk.injEq] at hzz
  obtain ⟨hz, hsz, hby⟩ := hzz
  have hsrc := hs.src (c := k) hx
  have hfst : (Builtin.firstCells i.size n (.slice base n c)).run P w.drew = .ok (cellsOf n f).toArray w.drew := by rw [hsz]; exact hb.first
  have hrun := run_append_grow_src (P := P) w t tx ty e i (.int .u8 0) ht hi hz base n c (cellsOf n f) hfst (.slice a m k) m (cellsOf m d) (by rw [hsz]; exact hsrc) hg (by omega)
    (growslice_fits hg (by rw [hby]; omega))
  have hcap : n + m ≤ grownCap w (n + m) c e := grownCap_ge w (n + m) c e
  refine ⟨_, _, hrun, hcap, ?_, by simp, ((Kept.refl _ w).drew).alloc _⟩
  refine ⟨?_, joined_byte hb.byte hs.byte⟩
  have hsz2 : (Builtin.zeroCells (Value.int .u8 0).cells (grownCap w (n + m) c e - (n + m))).size = grownCap w (n + m) c e - (n + m) := by
    simp [Builtin.zeroCells, Value.cells]
  have hall : ((cellsOf n f ++ cellsOf m d).toArray ++ Builtin.zeroCells (Value.int .u8 0).cells (grownCap w (n + m) c e - (n + m))).size = grownCap w (n + m) c e := by
    simp only [Array.size_append, List.size_toArray, List.length_append, cellsOf_len, hsz2]
    omega
  have := World.rowIs_alloc w.drew ((cellsOf n f ++ cellsOf m d).toArray ++ Builtin.zeroCells (Value.int .u8 0).cells (grownCap w (n + m) c e - (n + m))) e (fun j => .int .u8 (joined n f m d j)) (fun j hj => by
    rw [hall] at hj
    unfold joined
    by_cases h1 : j < n
    · rw [if_pos h1, Array.getElem?_append_left (by simp [cellsOf_len]; omega), List.getElem?_toArray, List.getElem?_append_left (by rw [cellsOf_len]; exact h1), cellsOf_get _ _ _ h1]
    · rw [if_neg h1]
      by_cases h2 : j < n + m
      · rw [if_pos h2, Array.getElem?_append_left (by simp [cellsOf_len]; omega), List.getElem?_toArray, List.getElem?_append_right (by rw [cellsOf_len]; omega), cellsOf_len, cellsOf_get _ _ _ (by omega)]
      · rw [if_neg h2, Array.getElem?_append_right (by simp [cellsOf_len]; omega)]
        exact zeroCells_get _ _ _ (by simp only [List.size_toArray, List.length_append, cellsOf_len]; omega))
  rw [hall] at this
  exact this

theorem setCells_byt {t N : Nat} (b : Nat) (d : Nat → Nat) (hd : ∀ j, d j < 256) (m : Nat) : ∀ (s o : Nat) (f : Nat → Nat) (w : World), Byt w b t N f →
    Byt (w.setCells b o ((List.range' s m).map fun j => Value.int .u8 (d j))) b t N (fun i => if o ≤ i ∧ i < o + m then d (s + (i - o)) else f i) ∧
      (w.setCells b o ((List.range' s m).map fun j => Value.int .u8 (d j))).heap.size = w.heap.size ∧ Kept (· = b) w (w.setCells b o ((List.range' s m).map fun j => Value.int .u8 (d j))) := by
  induction m with
  | zero =>
    intro s o f w h
    refine ⟨h.congr (fun i _ => by rw [if_neg (by omega)]) (fun i => by rw [if_neg (by omega)]; exact h.byte i), rfl, .refl _ _⟩
  | succ m ih =>
    intro s o f w h
    simp only [List.range'_succ, List.map_cons, World.setCells]
    have h1 : Byt (w.setCell ⟨b, o, .none⟩ (.int .u8 (d s))) b t N (fun i => if i = o then d s else f i) := by
      refine ⟨(h.row.set o _).congr fun j _ => ?_, fun j => ?_⟩
      · by_cases e : j = o <;> simp [e]
      · by_cases e : j = o <;> simp [e, hd, h.byte]
    obtain ⟨h2, h3, h4⟩ := ih (s + 1) (o + 1) _ _ h1
    refine ⟨h2.congr (fun i _ => ?_) (fun i => ?_), by rw [h3]; simp [World.setCell], ((Kept.refl (fun k => k = b) w).setCell (p := ⟨b, o, .none⟩) (fun _ => rfl) _).trans h4⟩
    · by_cases e1 : o + 1 ≤ i ∧ i < o + 1 + m
      · rw [if_pos e1, if_pos (by omega)]; congr 1; omega
      · rw [if_neg e1]
        by_cases e2 : i = o
        · subst e2; rw [if_pos rfl, if_pos (by omega)]; simp
        · rw [if_neg e2, if_neg (by omega)]
    · split
      · exact hd _
      · exact h.byte i

theorem append_room {P : Program} (t tx ty e : TypeId) (ht : P.underlying t = some (.slice e)) (hx : P.underlying tx = some (.slice e))
    (hinfo : (P.info? e).map (fun i => (i.zero, i.size, i.bytes)) = some (some (.int .u8 0), 1, 1)) {w : World} {a : Option Addr} {b off n m c k T N : Nat} {f d : Nat → Nat}
    (hb : Byt w b T N f) (hs : Bytes w a m d) (hg : n + m ≤ c) (hN : off + c ≤ N) :
    ∃ w', (Builtin.append_ #[t, tx] ty #[.slice (some ⟨b, off, .none⟩) n c, .slice a m k]).run P w = .ok (.slice (some ⟨b, off, .none⟩) (n + m) c) w' ∧
      Byt w' b T N (fun i => if off + n ≤ i ∧ i < off + n + m then d (i - (off + n)) else f i) ∧ w'.heap.size = w.heap.size ∧ Kept (· = b) w w' := by
  obtain ⟨i, hi, hzz⟩ := Option.map_eq_some_iff.1 hinfo
  simp only [Prod.mk.injEq] at hzz
  obtain ⟨hz, hsz, hby⟩ := hzz
  have hsrc := hs.src (c := k) hx
  have hrun := run_append_room_src (P := P) w t tx ty e i ht hi b off n c (.slice a m k) m (cellsOf m d) (by rw [hsz]; exact hsrc) hg
    (fun j hj => by rw [cellsOf_len] at hj; rw [hsz, Nat.mul_one, hb.cell (by omega)]; rfl) (fun j hj => hb.frozen _)
  rw [hsz, Nat.mul_one] at hrun
  obtain ⟨h1, h2, h3⟩ := setCells_byt b d hs.byte m 0 (off + n) f w hb
  refine ⟨_, hrun, ?_, ?_, ?_⟩
  · unfold cellsOf; rw [List.range_eq_range']
    exact h1.congr (fun i _ => by simp) (fun i => by split <;> first | exact hs.byte _ | exact hb.byte _)
  · unfold cellsOf; rw [List.range_eq_range']; exact h2
  · unfold cellsOf; rw [List.range_eq_range']; exact h3

end Go.Proofs.Ytffbfgmhfnbmfaa

namespace Go.Proofs.Ytffbfgmhfnbmfaa
open Go.RowKit

section
variable {P : Program} {ops : Array Oper} {Q : Exit → Act → World → Prop} {a : Act} {w w' : World} {rest : List Oper} {dst : Option Tmp} {ats : Array TypeId} {ty : TypeId} {pos : String} {after : Array Edge} {x y : Operand} {v : Value}

theorem wpList_append_run (vx vy : Value) (hx : a.eval x = vx) (hy : a.eval y = vy) (hrun : (Builtin.append_ ats ty #[vx, vy]).run P w = .ok v w') (h : wpList P ops Q rest (a.put dst v) w') :
    wpList P ops Q ({ dst, op := .call { callee := .builtin .append, args := #[x, y], argTypes := ats }, type := ty, pos, after, guard := none } :: rest) a w := by
  subst hx hy
  refine wpList_plain rfl fun K hK => ?_
  unfold Oper.wp
  rw [BigFrame.execOp_builtin, BigFrame.builtin_append, List.map_toArray]
  simp only [List.map_cons, List.map_nil]
  rw [show ((do pure (Next.value (← Builtin.append_ ats ty #[a.eval x, a.eval y])) : Sem Next).run P w) = .ok (.value v) w' from by simp [hrun, Result.andThen]]
  exact hK _ _ h

theorem wpList_copy_run (vx vy : Value) (hx : a.eval x = vx) (hy : a.eval y = vy) (hrun : (Builtin.copy_ ats ty #[vx, vy]).run P w = .ok v w') (h : wpList P ops Q rest (a.put dst v) w') :
    wpList P ops Q ({ dst, op := .call { callee := .builtin .copy, args := #[x, y], argTypes := ats }, type := ty, pos, after, guard := none } :: rest) a w := by
  subst hx hy
  refine wpList_plain rfl fun K hK => ?_
  unfold Oper.wp
  rw [BigFrame.execOp_builtin, BigFrame.builtin_copy, List.map_toArray]
  simp only [List.map_cons, List.map_nil]
  rw [show ((do pure (Next.value (← Builtin.copy_ ats ty #[a.eval x, a.eval y])) : Sem Next).run P w) = .ok (.value v) w' from by simp [hrun, Result.andThen]]
  exact hK _ _ h

theorem wpList_clear_run (vx : Value) (hx : a.eval x = vx) (hrun : (Builtin.clear_ ats ty #[vx]).run P w = .ok v w') (h : wpList P ops Q rest (a.put dst v) w') :
    wpList P ops Q ({ dst, op := .call { callee := .builtin .clear, args := #[x], argTypes := ats }, type := ty, pos, after, guard := none } :: rest) a w := by
  subst hx
  refine wpList_plain rfl fun K hK => ?_
  unfold Oper.wp
  rw [BigFrame.execOp_builtin, BigFrame.builtin_clear, List.map_toArray]
  simp only [List.map_cons, List.map_nil]
  rw [show ((do pure (Next.value (← Builtin.clear_ ats ty #[a.eval x])) : Sem Next).run P w) = .ok (.value v) w' from by simp [hrun, Result.andThen]]
  exact hK _ _ h
end
end Go.Proofs.Ytffbfgmhfnbmfaa

namespace Go.Proofs.Ytffbfgmhfnbmfaa
open Go.RowKit Go.Deep

/-- Zeros laid over n bytes. -/
def wiped (f : Nat → Nat) (off n : Nat) : Nat → Nat := fun i => if off ≤ i ∧ i < off + n then 0 else f i
/-- Bytes laid over n bytes. -/
def over (f : Nat → Nat) (off n : Nat) (d : Nat → Nat) : Nat → Nat := fun i => if off ≤ i ∧ i < off + n then d (i - off) else f i

theorem over_lt {f d : Nat → Nat} (hf : ∀ i, f i < 256) (hd : ∀ i, d i < 256) (off n i : Nat) : over f off n d i < 256 := by
  unfold over; split
  · exact hd _
  · exact hf _

theorem setCells_over {w : World} {b t N : Nat} {f d : Nat → Nat} (hb : Byt w b t N f) (hd : ∀ j, d j < 256) (off n : Nat) :
    Byt (w.setCells b off (cellsOf n d)) b t N (over f off n d) ∧ (w.setCells b off (cellsOf n d)).heap.size = w.heap.size ∧ Kept (· = b) w (w.setCells b off (cellsOf n d)) := by
  obtain ⟨h1, h2, h3⟩ := setCells_byt b d hd n 0 off f w hb
  unfold cellsOf; rw [List.range_eq_range']
  exact ⟨h1.congr (fun i _ => by simp [over]) (fun i => over_lt hb.byte hd _ _ _), h2, h3⟩

theorem cellsOf_one (n : Nat) (d : Nat → Nat) : ∀ u ∈ cellsOf n d, u.oneCell' = true := fun u hu => by
  obtain ⟨j, _, rfl⟩ := List.mem_map.1 hu
  rfl

theorem zeros_cells (n : Nat) : (Builtin.zeroCells (Value.int IntKind.u8 0).cells n).toList = cellsOf n fun _ => 0 := by
  simp only [Builtin.zeroCells, Value.cells, cellsOf, List.size_toArray, List.length_cons, List.length_nil, Nat.zero_add, Nat.mul_one, Nat.mod_one]
  simp

theorem clear_byt {P : Program} (t e ty : TypeId) (ht : P.underlying t = some (.slice e))
    (hinfo : (P.info? e).map (fun i => (i.zero, i.size, i.bytes)) = some (some (.int .u8 0), 1, 1)) {w : World} {b off n c T N : Nat} {f : Nat → Nat} (hb : Byt w b T N f) (hN : off + n ≤ N) :
    ∃ w', (Builtin.clear_ #[t] ty #[.slice (some ⟨b, off, .none⟩) n c]).run P w = .ok (.tuple #[]) w' ∧ Byt w' b T N (wiped f off n) ∧ w'.heap.size = w.heap.size ∧ Kept (· = b) w w' := by
  obtain ⟨i, hi, hzz⟩ := Option.map_eq_some_iff.1 hinfo
  simp only [Prod.mk.injEq] at hzz
  obtain ⟨hz, hsz, hby⟩ := hzz
  obtain ⟨h1, h2, h3⟩ := setCells_over hb (d := fun _ => 0) (fun _ => by omega) off n
  have he : over f off n (fun _ => 0) = wiped f off n := rfl
  cases n with
  | zero =>
    refine ⟨w, ?_, hb.congr (fun i _ => by unfold wiped; rw [if_neg (by omega)]) (fun i => by unfold wiped; rw [if_neg (by omega)]; exact hb.byte i), rfl, .refl _ _⟩
    simp [Builtin.clear_, run_underlying ht]
  | succ n =>
    refine ⟨_, ?_, h1, h2, h3⟩
    have hst := run_storeCells_cells (P := P) b off (cellsOf (n + 1) fun _ => 0) 0 w (fun j hj => by rw [cellsOf_len] at hj; rw [Nat.add_zero, hb.cell (by omega)]; rfl) (fun j hj => hb.frozen _) (cellsOf_one _ _)
    rw [Nat.add_zero] at hst
    have hzc := zeros_cells (n + 1)
    simp only [Builtin.clear_]
    simp [run_underlying ht, zeroValue, typeInfo, hi, hz, hzc, hst]

theorem copy_byt {P : Program} (t tx ty e : TypeId) (ht : P.underlying t = some (.slice e))
    (hinfo : (P.info? e).map (fun i => (i.zero, i.size, i.bytes)) = some (some (.int .u8 0), 1, 1)) {w : World} {b off n m c k T N : Nat} {a : Option Addr} {f d : Nat → Nat} (hb : Byt w b T N f) (hN : off + n ≤ N) (hs : Bytes w a m d) (hm : m ≤ n) :
    ∃ w', (Builtin.copy_ #[t, tx] ty #[.slice (some ⟨b, off, .none⟩) n c, .slice a m k]).run P w = .ok (.int .i64 m) w' ∧ Byt w' b T N (over f off m d) ∧ w'.heap.size = w.heap.size ∧ Kept (· = b) w w' := by
  obtain ⟨i, hi, hzz⟩ := Option.map_eq_some_iff.1 hinfo
  simp only [Prod.mk.injEq] at hzz
  obtain ⟨hz, hsz, hby⟩ := hzz
  obtain ⟨h1, h2, h3⟩ := setCells_over hb (d := d) hs.byte off m
  refine ⟨_, ?_, h1, h2, h3⟩
  have hst := run_storeCells_cells (P := P) b off (cellsOf m d) 0 w (fun j hj => by rw [cellsOf_len] at hj; rw [Nat.add_zero, hb.cell (by omega)]; rfl) (fun j hj => hb.frozen _) (cellsOf_one _ _)
  rw [Nat.add_zero] at hst
  have hf : (Builtin.firstCells 1 m (.slice a m k)).run P w = .ok (cellsOf m d).toArray w := by
    rcases hs.cells with h0 | ⟨sb, so, rfl, hlt, hc⟩
    · subst h0
      cases a with
      | none => exact run_firstCells_none _ 1 0 0 k
      | some a => exact run_firstCells_some _ 1 0 a 0 k [] rfl (fun j u hj => by simp at hj)
    · refine run_firstCells_some _ 1 m _ m k (cellsOf m d) (by rw [cellsOf_len, Nat.mul_one]) fun j u hj => ?_
      have hjn : j < m := by
        have := (List.getElem?_eq_some_iff.1 hj).1
        rwa [cellsOf_len] at this
      rw [cellsOf_get m d j hjn] at hj
      rw [Addr.add_lit, hc j hjn, hj]
  have hmin : Nat.min m n = m := Nat.min_eq_left hm
  simp [Builtin.copy_, run_underlying ht, Builtin.lenOf, sizeOf, typeInfo, hi, hsz, hmin, hf, hst, goInt]
end Go.Proofs.Ytffbfgmhfnbmfaa

namespace Go.Proofs.Ytffbfgmhfnbmfaa

/-- m cells from an address on that can be read. -/
def Cells (w : World) (a : Option Addr) (m : Nat) (f : Nat → Value) : Prop :=
  m = 0 ∨ ∃ b o, a = some ⟨b, o, none⟩ ∧ b < w.heap.size ∧ ∀ j, j < m → w.cell? ⟨b, o + j, none⟩ = some (f j)

theorem Cells.kept {S : Nat → Prop} {w w' : World} {a : Option Addr} {m : Nat} {f : Nat → Value} (h : Cells w a m f) (hk : Kept S w w') (hs : ∀ z, a = some z → ¬ S z.block) : Cells w' a m f := by
  rcases h with h0 | ⟨b, o, rfl, hlt, hc⟩
  · exact .inl h0
  · exact .inr ⟨b, o, rfl, Nat.lt_of_lt_of_le hlt hk.size, fun j hj => by rw [hk.cell (p := ⟨b, o + j, .none⟩) hlt (show ¬ S b from hs _ rfl), hc j hj]⟩

theorem Cells.of_row {w : World} {b t N : Nat} {f : Nat → Value} (h : w.rowIs b t N f) (off m : Nat) (hm : off + m ≤ N) : Cells w (some ⟨b, off, none⟩) m fun j => f (off + j) :=
  .inr ⟨b, off, rfl, h.lt, fun j hj => h.cell (by omega)⟩

theorem Cells.mono {w : World} {a : Option Addr} {m m' : Nat} {f : Nat → Value} (h : Cells w a m f) (hm : m' ≤ m) : Cells w a m' f := by
  rcases h with h0 | ⟨b, o, rfl, hlt, hc⟩
  · exact .inl (by omega)
  · exact .inr ⟨b, o, rfl, hlt, fun j hj => hc j (by omega)⟩

theorem Cells.congr {w : World} {a : Option Addr} {m : Nat} {f g : Nat → Value} (h : Cells w a m f) (e : ∀ j, j < m → f j = g j) : Cells w a m g := by
  rcases h with h0 | ⟨b, o, rfl, hlt, hc⟩
  · exact .inl h0
  · exact .inr ⟨b, o, rfl, hlt, fun j hj => by rw [hc j hj, e j hj]⟩

def listOf (m : Nat) (f : Nat → Value) : List Value := (List.range m).map f

theorem listOf_len (m : Nat) (f : Nat → Value) : (listOf m f).length = m := by simp [listOf]

theorem listOf_get (m : Nat) (f : Nat → Value) (j : Nat) (h : j < m) : (listOf m f)[j]? = some (f j) := by simp [listOf, h]

theorem Cells.src {P : Program} {tx e' : TypeId} (hk : P.underlying tx = some (.slice e')) {w : World} {a : Option Addr} {n K c : Nat} {d : Nat → Value} (h : Cells w a (n * K) d) (hK : 0 < K) (h1 : ∀ j, j < n * K → (d j).oneCell' = true) :
    Src P K tx (.slice a n c) n (listOf (n * K) d) w := by
  rcases h with h0 | ⟨b, o, rfl, hlt, hc⟩
  · obtain rfl : n = 0 := by
      rcases Nat.eq_zero_or_pos n with h | h
      · exact h
      · have := Nat.mul_pos h hK; omega
    rw [Nat.zero_mul]
    cases a with
    | none => exact Src.ofNil w hk c
    | some a => exact Src.ofSlice w hk a 0 c [] (by simp) (fun j u hj => by simp at hj) (fun u hu => by simp at hu)
  · refine Src.ofSlice w hk _ n c _ (listOf_len _ _) (fun j u hj => ?_) (fun u hu => ?_)
    · have hjn : j < n * K := by
        have := (List.getElem?_eq_some_iff.1 hj).1
        rwa [listOf_len] at this
      rw [listOf_get _ d j hjn] at hj
      rw [Addr.add_lit, hc j hjn, hj]
    · obtain ⟨j, hj, rfl⟩ := List.mem_map.1 hu
      exact h1 j (List.mem_range.1 hj)

theorem Cells.first {P : Program} {w : World} {a : Option Addr} {n K c : Nat} {d : Nat → Value} (h : Cells w a (n * K) d) (hK : 0 < K) :
    (Builtin.firstCells K n (.slice a n c)).run P w.drew = .ok (listOf (n * K) d).toArray w.drew := by
  rcases h with h0 | ⟨b, o, rfl, hlt, hc⟩
  · obtain rfl : n = 0 := by
      rcases Nat.eq_zero_or_pos n with h | h
      · exact h
      · have := Nat.mul_pos h hK; omega
    rw [Nat.zero_mul]
    cases a with
    | none => exact run_firstCells_none _ K 0 0 c
    | some a => exact run_firstCells_some _ K 0 a 0 c [] (by simp) (fun j u hj => by simp at hj)
  · refine run_firstCells_some _ K n _ n c (listOf (n * K) d) (listOf_len _ _) fun j u hj => ?_
    have hjn : j < n * K := by
      have := (List.getElem?_eq_some_iff.1 hj).1
      rwa [listOf_len] at this
    rw [listOf_get _ d j hjn] at hj
    rw [Addr.add_lit, show World.cell? w.drew ⟨b, o + j, .none⟩ = w.cell? ⟨b, o + j, .none⟩ from rfl, hc j hjn, hj]

/-- What stands in a row behind an append. -/
def joinedV (n : Nat) (f : Nat → Value) (m : Nat) (d : Nat → Value) (z : Nat → Value) : Nat → Value := fun i => if i < n then f i else if i < n + m then d (i - n) else z i

theorem grow_row {P : Program} (t tx ty e : TypeId) (ht : P.underlying t = some (.slice e)) (hx : P.underlying tx = some (.slice e)) {z : Value} {K by_ : Nat}
    (hinfo : (P.info? e).map (fun i => (i.zero, i.size, i.bytes)) = some (some z, K, by_)) (hK : 0 < K) (hz : z.cells.size = K) {w : World} {base a : Option Addr} {n m c k : Nat} {f d : Nat → Value}
    (hb : Cells w base (n * K) f) (hs : Cells w a (m * K) d) (h1 : ∀ j, j < m * K → (d j).oneCell' = true) (hg : c < n + m) (h63 : n + m ≤ 140737488355328) (hfit : (n + m) * by_ ≤ 140737488355328) :
    ∃ cap w', (Builtin.append_ #[t, tx] ty #[.slice base n c, .slice a m k]).run P w = .ok (.slice (some ⟨w.heap.size, 0, .none⟩) (n + m) cap) w' ∧
      n + m ≤ cap ∧ w'.rowIs w.heap.size e (cap * K) (joinedV (n * K) f (m * K) d fun i => z.cells.getD ((i - (n * K + m * K)) % K) default) ∧ w'.heap.size = w.heap.size + 1 ∧ Fresh w w' := by
  obtain ⟨i, hi, hzz⟩ := Option.map_eq_some_iff.1 hinfo
  simp only [Prod.mk.injEq] at hzz
  obtain ⟨hzero, hsz, hby⟩ := hzz
  have hsrc := hs.src (c := k) hx hK h1
  have hfst : (Builtin.firstCells i.size n (.slice base n c)).run P w.drew = .ok (listOf (n * K) f).toArray w.drew := by rw [hsz]; exact hb.first hK
  have hrun := run_append_grow_src (P := P) w t tx ty e i z ht hi hzero base n c (listOf (n * K) f) hfst (.slice a m k) m (listOf (m * K) d) (by rw [hsz]; exact hsrc) hg (by omega)
    (growslice_fits hg (by rw [hby]; exact hfit))
  have hcap : n + m ≤ grownCap w (n + m) c e := grownCap_ge w (n + m) c e
  refine ⟨_, _, hrun, hcap, ?_, by simp, ((Kept.refl _ w).drew).alloc _⟩
  have hsz2 : (Builtin.zeroCells z.cells (grownCap w (n + m) c e - (n + m))).size = (grownCap w (n + m) c e - (n + m)) * K := by
    rw [size_zeroCells, hz]
  have hmul : n * K + m * K + (grownCap w (n + m) c e - (n + m)) * K = grownCap w (n + m) c e * K := by
    rw [← Nat.add_mul, ← Nat.add_mul]; congr 1; omega
  have hall : ((listOf (n * K) f ++ listOf (m * K) d).toArray ++ Builtin.zeroCells z.cells (grownCap w (n + m) c e - (n + m))).size = grownCap w (n + m) c e * K := by
    simp only [Array.size_append, List.size_toArray, List.length_append, listOf_len, hsz2]
    omega
  have := World.rowIs_alloc w.drew ((listOf (n * K) f ++ listOf (m * K) d).toArray ++ Builtin.zeroCells z.cells (grownCap w (n + m) c e - (n + m))) e (joinedV (n * K) f (m * K) d fun i => z.cells.getD ((i - (n * K + m * K)) % K) default) (fun j hj => by
    rw [hall] at hj
    unfold joinedV
    by_cases h1 : j < n * K
    · rw [if_pos h1, Array.getElem?_append_left (by simp [listOf_len]; omega), List.getElem?_toArray, List.getElem?_append_left (by rw [listOf_len]; exact h1), listOf_get _ _ _ h1]
    · rw [if_neg h1]
      by_cases h2 : j < n * K + m * K
      · rw [if_pos h2, Array.getElem?_append_left (by simp [listOf_len]; omega), List.getElem?_toArray, List.getElem?_append_right (by rw [listOf_len]; omega), listOf_len, listOf_get _ _ _ (by omega)]
      · rw [if_neg h2, Array.getElem?_append_right (by simp [listOf_len]; omega)]
        have hs3 : (listOf (n * K) f ++ listOf (m * K) d).toArray.size = n * K + m * K := by simp [listOf_len]
        rw [hs3]
        have hlt : j - (n * K + m * K) < (grownCap w (n + m) c e - (n + m)) * z.cells.size := by rw [hz]; omega
        have hmod : (j - (n * K + m * K)) % z.cells.size < z.cells.size := Nat.mod_lt _ (by rw [hz]; exact hK)
        simp only [Builtin.zeroCells]
        rw [hz] at hlt hmod
        simp only [hz]
        simp [hlt, Array.getD, hz, hmod])
  rw [hall] at this
  exact this

theorem setCells_row {t N : Nat} (b : Nat) (d : Nat → Value) (m : Nat) : ∀ (s o : Nat) (f : Nat → Value) (w : World), w.rowIs b t N f →
    (w.setCells b o ((List.range' s m).map d)).rowIs b t N (fun i => if o ≤ i ∧ i < o + m then d (s + (i - o)) else f i) ∧
      (w.setCells b o ((List.range' s m).map d)).heap.size = w.heap.size ∧ Kept (· = b) w (w.setCells b o ((List.range' s m).map d)) := by
  induction m with
  | zero =>
    intro s o f w h
    refine ⟨h.congr (fun i _ => by rw [if_neg (by omega)]), rfl, .refl _ _⟩
  | succ m ih =>
    intro s o f w h
    simp only [List.range'_succ, List.map_cons, World.setCells]
    have h1 : (w.setCell ⟨b, o, .none⟩ (d s)).rowIs b t N (fun i => if i = o then d s else f i) := by
      refine (h.set o _).congr fun j _ => ?_
      by_cases e : j = o <;> simp [e]
    obtain ⟨h2, h3, h4⟩ := ih (s + 1) (o + 1) _ _ h1
    refine ⟨h2.congr (fun i _ => ?_), by rw [h3]; simp [World.setCell], ((Kept.refl (fun k => k = b) w).setCell (p := ⟨b, o, .none⟩) (fun _ => rfl) _).trans h4⟩
    by_cases e1 : o + 1 ≤ i ∧ i < o + 1 + m
    · rw [if_pos e1, if_pos (by omega)]; congr 1; omega
    · rw [if_neg e1]
      by_cases e2 : i = o
      · subst e2; rw [if_pos rfl, if_pos (by omega)]; simp
      · rw [if_neg e2, if_neg (by omega)]

theorem room_row {P : Program} (t tx ty e : TypeId) (ht : P.underlying t = some (.slice e)) (hx : P.underlying tx = some (.slice e)) {z : Option Value} {K by_ : Nat}
    (hinfo : (P.info? e).map (fun i => (i.zero, i.size, i.bytes)) = some (z, K, by_)) (hK : 0 < K) {w : World} {a : Option Addr} {b off n m c k T N : Nat} {f d : Nat → Value}
    (hb : w.rowIs b T N f) (hs : Cells w a (m * K) d) (h1 : ∀ j, j < m * K → (d j).oneCell' = true) (hg : n + m ≤ c) (hN : off + c * K ≤ N) :
    ∃ w', (Builtin.append_ #[t, tx] ty #[.slice (some ⟨b, off, .none⟩) n c, .slice a m k]).run P w = .ok (.slice (some ⟨b, off, .none⟩) (n + m) c) w' ∧
      w'.rowIs b T N (fun i => if off + n * K ≤ i ∧ i < off + n * K + m * K then d (i - (off + n * K)) else f i) ∧ w'.heap.size = w.heap.size ∧ Kept (· = b) w w' := by
  obtain ⟨i, hi, hzz⟩ := Option.map_eq_some_iff.1 hinfo
  simp only [Prod.mk.injEq] at hzz
  obtain ⟨hzero, hsz, hby⟩ := hzz
  have hsrc := hs.src (c := k) hx hK h1
  have hle : n * K + m * K ≤ c * K := by rw [← Nat.add_mul]; exact Nat.mul_le_mul_right _ hg
  have hrun := run_append_room_src (P := P) w t tx ty e i ht hi b off n c (.slice a m k) m (listOf (m * K) d) (by rw [hsz]; exact hsrc) hg
    (fun j hj => by rw [listOf_len] at hj; rw [hsz, hb.cell (by omega)]; rfl) (fun j hj => hb.frozen _)
  rw [hsz] at hrun
  obtain ⟨h1, h2, h3⟩ := setCells_row b d (m * K) 0 (off + n * K) f w hb
  refine ⟨_, hrun, ?_, ?_, ?_⟩
  · unfold listOf; rw [List.range_eq_range']
    exact h1.congr (fun i _ => by simp)
  · unfold listOf; rw [List.range_eq_range']; exact h2
  · unfold listOf; rw [List.range_eq_range']; exact h3

end Go.Proofs.Ytffbfgmhfnbmfaa
