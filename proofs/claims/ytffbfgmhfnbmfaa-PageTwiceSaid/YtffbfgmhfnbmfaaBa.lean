/- Words for pages: numbers laid as bytes, and what a call leaves alone. -/
import Derived.WalkKit
import Derived.Deep.LoopGhost
import Derived.Deep.Draws
import Derived.Deep.OwnRows
import Derived.Lib.Hide
import Derived.KernelRfl
import Derived.Deep.QuietTactic
import Derived.BigQuiet
namespace Go.Proofs.Ytffbfgmhfnbmfaa
open Go.RowKit

/-- The blocks outside S are as they were. -/
structure Kept (S : Nat → Prop) (w w' : World) : Prop where
  os : w'.os = w.os
  tape : w'.tape = w.tape
  output : w'.output = w.output
  size : w.heap.size ≤ w'.heap.size
  block : ∀ k, k < w.heap.size → ¬ S k → w'.heap[k]? = w.heap[k]?

theorem Kept.refl (S : Nat → Prop) (w : World) : Kept S w w := ⟨rfl, rfl, rfl, Nat.le_refl _, fun _ _ _ => rfl⟩

theorem Kept.trans {S : Nat → Prop} {a b c : World} (h : Kept S a b) (k : Kept S b c) : Kept S a c :=
  ⟨k.os.trans h.os, k.tape.trans h.tape, k.output.trans h.output, Nat.le_trans h.size k.size,
    fun i hi hs => (k.block i (Nat.lt_of_lt_of_le hi h.size) hs).trans (h.block i hi hs)⟩

theorem Kept.mono {S S' : Nat → Prop} {w w' : World} (h : Kept S w w') (hs : ∀ k, k < w.heap.size → S k → S' k) : Kept S' w w' :=
  ⟨h.os, h.tape, h.output, h.size, fun k hk hn => h.block k hk fun hk' => hn (hs k hk hk')⟩

/-- Two steps: the second may turn blocks that the first one made. -/
theorem Kept.then {S S' : Nat → Prop} {a b c : World} (h : Kept S a b) (k : Kept S' b c) (hs : ∀ i, i < a.heap.size → S' i → S i) : Kept S a c :=
  ⟨k.os.trans h.os, k.tape.trans h.tape, k.output.trans h.output, Nat.le_trans h.size k.size,
    fun i hi hn => (k.block i (Nat.lt_of_lt_of_le hi h.size) fun hi' => hn (hs i hi hi')).trans (h.block i hi hn)⟩

theorem Kept.drew {S : Nat → Prop} {a w : World} (h : Kept S a w) : Kept S a w.drew := ⟨h.os, h.tape, h.output, h.size, h.block⟩

theorem Kept.drewN {S : Nat → Prop} {a w : World} (h : Kept S a w) (n : Nat) : Kept S a (w.drewN n) := ⟨h.os, h.tape, h.output, h.size, h.block⟩

theorem Kept.alloc {S : Nat → Prop} {a w : World} (h : Kept S a w) (o : Obj) : Kept S a (w.alloc o) :=
  h.trans ⟨rfl, rfl, rfl, by simp, fun k hk _ => Below.heap_alloc _ _ _ hk⟩

theorem Kept.setCell {S : Nat → Prop} {a w : World} (h : Kept S a w) {p : Addr} (hp : p.block < a.heap.size → S p.block) (u : Value) : Kept S a (w.setCell p u) :=
  ⟨h.os, h.tape, h.output, by simpa [World.setCell] using h.size, fun k hk hn => (Below.heap_setCell _ _ _ _ (fun e => hn (by subst e; exact hp hk))).trans (h.block k hk hn)⟩

theorem Kept.grown {S : Nat → Prop} {a w w' : World} {row : Option Nat} (h : Kept S a w) (hg : w.grownBy w' row) (hr : ∀ k, row = some k → k < a.heap.size → S k) : Kept S a w' :=
  ⟨hg.os.trans h.os, hg.tape.trans h.tape, hg.output.trans h.output, Nat.le_trans h.size hg.size,
    fun k hk hn => (hg.block k (Nat.lt_of_lt_of_le hk h.size) (fun e => hn (hr k e.symm hk))).trans (h.block k hk hn)⟩

theorem Kept.cell {S : Nat → Prop} {w w' : World} (h : Kept S w w') {p : Addr} (hp : p.block < w.heap.size) (hs : ¬ S p.block) : w'.cell? p = w.cell? p := World.cell?_of_block (w := w) (h.block p.block hp hs)

theorem Kept.frozen {S : Nat → Prop} {w w' : World} (h : Kept S w w') {p : Addr} (hp : p.block < w.heap.size) (hs : ¬ S p.block) : w'.frozen? p = w.frozen? p := World.frozen?_of_block (w := w) (h.block p.block hp hs)

theorem Kept.row {S : Nat → Prop} {w w' : World} (h : Kept S w w') {b t n : Nat} {f : Nat → Value} (hr : w.rowIs b t n f) (hs : ¬ S b) : w'.rowIs b t n f := hr.of_block (h.block b hr.lt hs)

theorem Kept.below {S : Nat → Prop} {w w' : World} (h : Kept S w w') {B : Nat} (hB : B ≤ w.heap.size) (hs : ∀ k, S k → B ≤ k) : Below B w w' :=
  ⟨h.os, h.tape, h.output, h.size, fun k hk => h.block k (by omega) (fun hk' => by have := hs k hk'; omega)⟩

/-- Nothing that there was has turned. -/
abbrev Fresh (w w' : World) : Prop := Kept (fun _ => False) w w'

/-- A quiet call by a contract that ends in 'w = w''. -/
theorem quietEq {P : Program} {f : FuncId} {args : Array Value} {w : World} {n : Nat} {v : Value}
    (h : Calls P f args (w.drewN n) fun e w' => e = .returned v ∧ w.drewN n = w') : Calls P f args (w.drewN n) fun e w'' => e = .returned v ∧ ∃ m, w'' = w.drewN m :=
  h.mono fun _ _ ⟨he, hm⟩ => ⟨he, n, hm.symm⟩

/-- The number of the n bytes from lo on, the lowest first. -/
def le (f : Nat → Nat) (lo : Nat) : Nat → Nat
  | 0 => 0
  | n + 1 => f lo + 256 * le f (lo + 1) n

theorem le_lt {f : Nat → Nat} (hf : ∀ i, f i < 256) (n : Nat) : ∀ lo, le f lo n < 256 ^ n := by
  induction n with
  | zero => intro lo; simp [le]
  | succ n ih =>
    intro lo
    have h1 := ih (lo + 1)
    have h2 := hf lo
    simp only [le, Nat.pow_succ]
    omega

theorem le_congr {f g : Nat → Nat} (n : Nat) : ∀ lo, (∀ i, lo ≤ i → i < lo + n → f i = g i) → le f lo n = le g lo n := by
  induction n with
  | zero => intro lo _; rfl
  | succ n ih =>
    intro lo h
    simp only [le]
    rw [h lo (by omega) (by omega), ih (lo + 1) fun i hi hi' => h i (by omega) (by omega)]

/-- The first k bytes of x laid from off on. -/
def lay (f : Nat → Nat) (off x k : Nat) : Nat → Nat := fun i => if off ≤ i ∧ i < off + k then x / 256 ^ (i - off) % 256 else f i

theorem lay_lt {f : Nat → Nat} (hf : ∀ i, f i < 256) (off x k i : Nat) : lay f off x k i < 256 := by
  unfold lay; split
  · exact Nat.mod_lt _ (by decide)
  · exact hf i

theorem lay_zero (f : Nat → Nat) (off x : Nat) : lay f off x 0 = f := by funext i; unfold lay; rw [if_neg (by omega)]

theorem lay_succ (f : Nat → Nat) (off x k : Nat) (i : Nat) : lay f off x (k + 1) i = if i = off + k then x / 256 ^ k % 256 else lay f off x k i := by
  unfold lay
  by_cases h : i = off + k
  · subst h; rw [if_pos (by omega), if_pos rfl, Nat.add_sub_cancel_left]
  · rw [if_neg h]
    by_cases h2 : off ≤ i ∧ i < off + k
    · rw [if_pos h2, if_pos (by omega)]
    · rw [if_neg h2, if_neg (by omega)]

theorem lay_out (f : Nat → Nat) (off x k : Nat) (i : Nat) (h : i < off ∨ off + k ≤ i) : lay f off x k i = f i := by
  unfold lay; rw [if_neg (by omega)]

theorem le_lay (f : Nat → Nat) (k : Nat) : ∀ (off x : Nat), le (lay f off x k) off k = x % 256 ^ k := by
  induction k with
  | zero => intro off x; simp [le, Nat.mod_one]
  | succ k ih =>
    intro off x
    have h1 : lay f off x (k + 1) off = x % 256 := by unfold lay; rw [if_pos (by omega), Nat.sub_self]; simp
    have h2 : le (lay f off x (k + 1)) (off + 1) k = le (lay f (off + 1) (x / 256) k) (off + 1) k := by
      refine le_congr k _ fun i hi hi' => ?_
      unfold lay
      rw [if_pos (by omega), if_pos (by omega), show i - off = (i - (off + 1)) + 1 from by omega, Nat.pow_succ, Nat.mul_comm (256 ^ _) 256, Nat.div_div_eq_div_mul]
    rw [le, h1, h2, ih, Nat.pow_succ, Nat.mul_comm (256 ^ k) 256, Nat.mod_mul]

theorem le_lay_out (f : Nat → Nat) (k off x lo n : Nat) (h : lo + n ≤ off ∨ off + k ≤ lo) : le (lay f off x k) lo n = le f lo n :=
  le_congr n lo fun i hi hi' => lay_out f off x k i (by omega)

/-- A block of n bytes. -/
structure Byt (w : World) (b t n : Nat) (f : Nat → Nat) : Prop where
  row : w.rowIs b t n fun i => .int .u8 (f i)
  byte : ∀ i, f i < 256

theorem Byt.cell {w : World} {b t n : Nat} {f : Nat → Nat} (h : Byt w b t n f) {i : Nat} (hi : i < n) : w.cell? ⟨b, i, none⟩ = some (.int .u8 (f i)) := h.row.cell hi
theorem Byt.frozen {w : World} {b t n : Nat} {f : Nat → Nat} (h : Byt w b t n f) (i : Nat) : w.frozen? ⟨b, i, none⟩ = false := h.row.frozen i
theorem Byt.blk {w : World} {b t n : Nat} {f : Nat → Nat} (h : Byt w b t n f) : b < w.heap.size := h.row.lt

theorem Byt.kept {S : Nat → Prop} {w w' : World} {b t n : Nat} {f : Nat → Nat} (h : Byt w b t n f) (hk : Kept S w w') (hs : ¬ S b) : Byt w' b t n f := ⟨hk.row h.row hs, h.byte⟩

theorem Byt.congr {w : World} {b t n : Nat} {f g : Nat → Nat} (h : Byt w b t n f) (e : ∀ i, i < n → f i = g i) (hg : ∀ i, g i < 256) : Byt w b t n g :=
  ⟨h.row.congr fun i hi => by rw [e i hi], hg⟩

theorem Byt.drewN {w : World} {b t n : Nat} {f : Nat → Nat} (h : Byt w b t n f) (k : Nat) : Byt (w.drewN k) b t n f := ⟨h.row, h.byte⟩

end Go.Proofs.Ytffbfgmhfnbmfaa
