/- Words for the walk of the reference's Load. -/
import Derived.Test.YtffbfgmhfnbmfaaT2
import Derived.Test.YtffbfgmhfnbmfaaW8
import Derived.Test.YtffbfgmhfnbmfaaTp
import Derived.Deep.Cut
import Derived.Deep.CutRange
import Derived.Deep.QuietTactic
import Derived.BigQuiet
namespace Go.Proofs.Ytffbfgmhfnbmfaa
open Go.RowKit

set_option maxRecDepth 100000 in
set_option maxHeartbeats 1000000 in
theorem rload_short (a : Option Addr) (n c : Nat) (w : World) (hn : n ≠ 512) : Calls Try.prog 24 #[.slice a n c] w (Gives (.pointer none) w) := by
  have hb : ((n : Int) != 512) = true := by simp; omega
  have HN := Lib.hid hn
  clear hn
  go_enter Try.func24, Try.ntmps24
  go_wp2_with fail
  go_ret
  exact ⟨rfl, .refl _ _⟩

theorem get_at (ab ao : Nat) (f : Nat → Nat) (o m cc : Nat) (W : World) (h : Bytes W (some ⟨ab, ao, none⟩) 512 f) (ho : o + m ≤ 512) (hm : m ≤ 7) :
    Calls Try.prog 49 #[.slice (some ⟨ab, ao + o, none⟩) m cc] W fun e w' => e = .returned (.int .i64 (le f o m)) ∧ W = w' := by
  have hb : Bytes W (some ⟨ab, ao + o, none⟩) m (fun j => f (o + j)) := by
    refine ⟨fun j => h.byte _, ?_⟩
    rcases h.cells with h0 | ⟨b, o', e, hlt, hc⟩
    · omega
    · cases e
      exact .inr ⟨_, _, rfl, hlt, fun j hj => by rw [Nat.add_assoc]; exact hc (o + j) (by omega)⟩
  refine (get_any _ m cc _ W hb hm).mono ?_
  rintro e w' ⟨rfl, rfl⟩
  rw [le_shift (F := fun j => f (o + j)) (G := f) m 0 o (fun j _ => by simp)]
  exact ⟨rfl, rfl⟩

theorem get_at0 (ab ao : Nat) (f : Nat → Nat) (m cc : Nat) (W : World) (h : Bytes W (some ⟨ab, ao, none⟩) 512 f) (hm : m ≤ 7) :
    Calls Try.prog 49 #[.slice (some ⟨ab, ao, none⟩) m cc] W fun e w' => e = .returned (.int .i64 (le f 0 m)) ∧ W = w' := get_at ab ao f 0 m cc W h (by omega) hm

theorem und61' : Try.prog.underlying 61 = some (.slice 4) := by kernel_rfl
theorem info4' : (Try.prog.info? 4).map (fun i => (i.zero, i.size, i.bytes)) = some (some (.bool false), 1, 1) := by kernel_rfl
def madeB (n : Nat) : Array Value := madeCells #[.bool false] n
theorem run_madeB (w : World) : (Instr.makeSlice 61 (.int .i64 512) (.int .i64 512)).run Try.prog w = .ok (.slice (some ⟨w.heap.size, 0, none⟩) 512 512) (w.alloc (.cells (madeB 512) 4)) :=
  run_make_row' 61 4 (.bool false) 1 und61' info4' rfl .i64 .i64 512 (by decide) (by decide) w

/-- A version that is read, in memory. -/
def Vs (w0 : World) (ab A0 n : Nat) (g : Nat → Nat) (W : World) : Prop := Bytes W (some ⟨ab, A0, none⟩) n g ∧ Fresh w0 W

theorem Vs.fresh {w0 W W' : World} {ab A0 n : Nat} {g : Nat → Nat} (h : Vs w0 ab A0 n g W) (k : Fresh W W') : Vs w0 ab A0 n g W' := ⟨h.1.kept k (by simp), h.2.trans k⟩
theorem Vs.alloc {w0 W : World} {ab A0 n : Nat} {g : Nat → Nat} (h : Vs w0 ab A0 n g W) (o : Obj) : Vs w0 ab A0 n g (W.alloc o) := h.fresh ((Kept.refl _ W).alloc o)
theorem Vs.drew {w0 W : World} {ab A0 n : Nat} {g : Nat → Nat} (h : Vs w0 ab A0 n g W) : Vs w0 ab A0 n g W.drew := h.fresh (Kept.refl _ W).drew

theorem Vs.set {w0 W : World} {ab A0 n : Nat} {g : Nat → Nat} (h : Vs w0 ab A0 n g W) (hab : ab ≠ w0.heap.size) (j : Nat) (v : Value) : Vs w0 ab A0 n g (W.setCell ⟨w0.heap.size, j, none⟩ v) := by
  have hk := (Kept.refl (fun b => b = w0.heap.size) W).setCell (p := ⟨w0.heap.size, j, none⟩) (fun _ => rfl) v
  exact ⟨h.1.kept hk (fun z hz => by cases hz; exact hab), h.2.then hk fun b hb e => by omega⟩

theorem Vs.cells {w0 W : World} {ab A0 n : Nat} {g : Nat → Nat} (h : Vs w0 ab A0 n g W) (hn : 30 ≤ n) : Vs w0 ab A0 n g W ∧ W.cell? ⟨ab, A0 + 7, none⟩ = some (.int .u8 (g 7)) ∧ W.cell? ⟨ab, A0 + 15, none⟩ = some (.int .u8 (g 15)) ∧ W.cell? ⟨ab, A0 + 23, none⟩ = some (.int .u8 (g 23)) := by
  rcases h.1.cells with h0 | ⟨b, o, e, hlt, hc⟩
  · omega
  · cases e
    exact ⟨h, hc 7 (by omega), hc 15 (by omega), hc 23 (by omega)⟩

theorem getv {w0 W : World} {ab A0 n : Nat} {g : Nat → Nat} (h : Vs w0 ab A0 n g W) (o m cc : Nat) (ho : o + m ≤ n) (hm : m ≤ 7) :
    Calls Try.prog 49 #[.slice (some ⟨ab, A0 + o, none⟩) m cc] W fun e w' => e = .returned (.int .i64 (le g o m)) ∧ W = w' := by
  have hb : Bytes W (some ⟨ab, A0 + o, none⟩) m (fun j => g (o + j)) := by
    refine ⟨fun j => h.1.byte _, ?_⟩
    rcases h.1.cells with h0 | ⟨b, o', e, hlt, hc⟩
    · left; omega
    · cases e
      exact .inr ⟨_, _, rfl, hlt, fun j hj => by rw [Nat.add_assoc]; exact hc (o + j) (by omega)⟩
  refine (get_any _ m cc _ W hb hm).mono ?_
  rintro e w' ⟨rfl, rfl⟩
  rw [le_shift (F := fun j => g (o + j)) (G := g) m 0 o (fun j _ => by simp)]
  exact ⟨rfl, rfl⟩

theorem getv0 {w0 W : World} {ab A0 n : Nat} {g : Nat → Nat} (h : Vs w0 ab A0 n g W) (m cc : Nat) (ho : m ≤ n) (hm : m ≤ 7) :
    Calls Try.prog 49 #[.slice (some ⟨ab, A0, none⟩) m cc] W fun e w' => e = .returned (.int .i64 (le g 0 m)) ∧ W = w' := getv h 0 m cc (by omega) hm

theorem copyv {w0 W : World} {ab A0 n : Nat} {g : Nat → Nat} (h : Vs w0 ab A0 n g W) {a30 : Addr} (ha : n - 30 = 0 ∨ a30 = ⟨ab, A0 + 30, none⟩) (cc : Nat) (hn : n ≤ 512) :
    Calls Try.prog 22 #[.slice (some a30) (n - 30) cc] W (NewBytes (n - 30) (fun j => g (30 + j)) W) := by
  refine copy_any _ _ _ _ _ ⟨fun j => h.1.byte _, ?_⟩ (by omega)
  rcases ha with h0 | rfl
  · exact .inl h0
  · rcases h.1.cells with h0 | ⟨b, o', e, hlt, hc⟩
    · left; omega
    · cases e
      exact .inr ⟨_, _, rfl, hlt, fun j hj => by rw [Nat.add_assoc]; exact hc (30 + j) (by omega)⟩

theorem run_v30 (ab A0 n cc : Nat) (hn : 30 ≤ n) (hc : n ≤ cc) : ∃ a30 : Addr, (n - 30 = 0 ∨ a30 = ⟨ab, A0 + 30, none⟩) ∧ ∀ w, (Instr.sliceAt 22 (.slice (some ⟨ab, A0, none⟩) n cc) (some (.int .i64 30)) none none).run Try.prog w = .ok (.slice (some a30) (n - 30) (cc - 30)) w := by
  have hc' : (30 : Int) ≤ (cc : Int) := by omega
  have hn' : (30 : Int) ≤ (n : Int) := by omega
  by_cases e : cc = 30
  · obtain rfl : n = 30 := by omega
    subst e
    exact ⟨⟨ab, A0, none⟩, .inl rfl, fun w => by go_simp⟩
  · exact ⟨⟨ab, A0 + 30, none⟩, .inr rfl, fun w => by go_simp⟩

theorem le_snoc (g : Nat → Nat) : ∀ m o, le g o (m + 1) = le g o m + 256 ^ m * g (o + m)
  | 0, o => by simp [le]
  | m + 1, o => by
    have h := le_snoc g m (o + 1)
    rw [le, h, le, Nat.pow_succ, show o + 1 + m = o + (m + 1) from by omega, Nat.mul_add, Nat.add_assoc]
    congr 2
    rw [← Nat.mul_assoc, Nat.mul_comm 256 (256 ^ m)]

theorem le8 {g : Nat → Nat} (hg : ∀ j, g j < 256) (o : Nat) : IntKind.u64.wrap (IntKind.u64.wrap ((le g o 7 : Nat) : Int) + IntKind.u64.wrap (IntKind.u64.wrap ((g (o + 7) : Nat) : Int) * 72057594037927936)) = ((le g o 8 : Nat) : Int) := by
  have h1 := le_lt7 hg o 7 (Nat.le_refl _)
  have h2 := hg (o + 7)
  have h3 := le_snoc g 7 o
  rw [show (256 : Nat) ^ 7 = 72057594037927936 from by decide] at h3
  rw [h3]
  simp only [IntKind.wrap, IntKind.bits, IntKind.signed]
  simp
  omega

theorem le8z {g : Nat → Nat} (hg : ∀ j, g j < 256) : IntKind.u64.wrap (IntKind.u64.wrap ((le g 0 7 : Nat) : Int) + IntKind.u64.wrap (IntKind.u64.wrap ((g 7 : Nat) : Int) * 72057594037927936)) = ((le g 0 8 : Nat) : Int) := by
  have := le8 hg 0
  rwa [Nat.zero_add] at this

theorem wrap_m1 (x : Nat) (h : x < 281474976710656) : IntKind.i64.wrap ((x : Int) - 1) = (x : Int) - 1 := by
  simp only [IntKind.wrap, IntKind.bits, IntKind.signed]; simp; omega

/-- A version that has been read: its box, its data. -/
def Drawn (w0 : World) (f : Nat → Nat) (o n H : Nat) (W : World) : Prop :=
  ∃ a c, W.heap[H]? = some (.cells #[.int .u64 (le f o 8), .int .u64 (le f (o + 8) 8), .int .u64 (le f (o + 16) 8), .int .i64 ((le f (o + 24) 4 : Int) - 1), .int .i64 ((le f (o + 28) 2 : Int) - 1), .slice (some a) (n - 30) c] 29) ∧
    n - 30 ≤ c ∧ Bytes W (some a) (n - 30) (fun j => f (o + 30 + j)) ∧ (w0.heap.size ≤ a.block ∧ a.block < W.heap.size) ∧ a.spot = none ∧ w0.heap.size ≤ H ∧ Fresh w0 W

/-- The cells as the walk leaves them. -/
def drawC (g : Nat → Nat) (n : Nat) (a : Addr) (c : Nat) : Array Value :=
  #[.int .u64 (IntKind.u64.wrap (IntKind.u64.wrap ↑(le g 0 7) + IntKind.u64.wrap (IntKind.u64.wrap ↑(g 7) * 72057594037927936))),
    .int .u64 (IntKind.u64.wrap (IntKind.u64.wrap ↑(le g 8 7) + IntKind.u64.wrap (IntKind.u64.wrap ↑(g 15) * 72057594037927936))),
    .int .u64 (IntKind.u64.wrap (IntKind.u64.wrap ↑(le g 16 7) + IntKind.u64.wrap (IntKind.u64.wrap ↑(g 23) * 72057594037927936))),
    .int .i64 (IntKind.i64.wrap (↑(le g 24 4) - 1)), .int .i64 (IntKind.i64.wrap (↑(le g 28 2) - 1)), .slice (some a) (n - 30) c]

theorem drawC_eq {f g : Nat → Nat} {o : Nat} (hf : ∀ j, f j < 256) (hg : ∀ j, g j = f (o + j)) (n : Nat) (a : Addr) (c : Nat) :
    drawC g n a c = #[.int .u64 (le f o 8), .int .u64 (le f (o + 8) 8), .int .u64 (le f (o + 16) 8), .int .i64 ((le f (o + 24) 4 : Int) - 1), .int .i64 ((le f (o + 28) 2 : Int) - 1), .slice (some a) (n - 30) c] := by
  have hgb : ∀ j, g j < 256 := fun j => by rw [hg]; exact hf _
  have e : ∀ m lo, le g lo m = le f (o + lo) m := fun m lo => le_shift m lo (o + lo) fun j _ => by rw [hg, Nat.add_assoc]
  unfold drawC
  rw [le8z hgb, show g 15 = g (8 + 7) from rfl, le8 hgb 8, show g 23 = g (16 + 7) from rfl, le8 hgb 16, wrap_m1 _ (le_lt6 hgb 24 4 (by omega)), wrap_m1 _ (le_lt6 hgb 28 2 (by omega)), e, e, e, e, e]
  rfl

theorem drawn_last {w0 w7 : World} {f g : Nat → Nat} {o n : Nat} {a : Addr} {c : Nat} (hf : ∀ j, f j < 256) (hg : ∀ j, g j = f (o + j)) (hF : Fresh w0 w7) (hc : n - 30 ≤ c) (hb : Bytes w7 (some a) (n - 30) (fun j => g (30 + j))) (hl : w0.heap.size ≤ a.block) (hl2 : a.block < w7.heap.size) (hs : a.spot = none) :
    Drawn w0 f o n w7.heap.size (w7.alloc (.cells (drawC g n a c) 29)) := by
  have hA := (Kept.refl (fun _ => False) w7).alloc (.cells (drawC g n a c) 29)
  refine ⟨a, c, ?_, hc, (hb.kept hA (by simp)).congr (fun j _ => by rw [hg, Nat.add_assoc]) (fun j => hf _), ⟨hl, Nat.lt_of_lt_of_le hl2 hA.size⟩, hs, hF.size, hF.trans hA⟩
  rw [alloc_at, drawC_eq hf hg]

theorem drawn_first {w0 w7 : World} {f g : Nat → Nat} {o n : Nat} {a : Addr} {c : Nat} {z0 z1 z2 z3 z4 z5 : Value} (hf : ∀ j, f j < 256) (hg : ∀ j, g j = f (o + j)) (hF : Fresh w0 w7) (hc : n - 30 ≤ c) (hb : Bytes w7 (some a) (n - 30) (fun j => g (30 + j))) (hl : w0.heap.size ≤ a.block) (hl2 : a.block < w7.heap.size) (hs : a.spot = none)
    (hB : w7.heap[w0.heap.size]? = some (.cells #[z0, z1, z2, z3, z4, z5] 29)) (hne : a.block ≠ w0.heap.size) :
    Drawn w0 f o n w0.heap.size ((((((w7.setCell ⟨w0.heap.size, 0, none⟩ ((drawC g n a c).getD 0 default)).setCell ⟨w0.heap.size, 1, none⟩ ((drawC g n a c).getD 1 default)).setCell ⟨w0.heap.size, 2, none⟩ ((drawC g n a c).getD 2 default)).setCell ⟨w0.heap.size, 3, none⟩ ((drawC g n a c).getD 3 default)).setCell ⟨w0.heap.size, 4, none⟩ ((drawC g n a c).getD 4 default)).setCell ⟨w0.heap.size, 5, none⟩ ((drawC g n a c).getD 5 default)) := by
  have hk := (((((((Kept.refl (fun b => b = w0.heap.size) w7).setCell (p := ⟨w0.heap.size, 0, none⟩) (fun _ => rfl) ((drawC g n a c).getD 0 default)).setCell (p := ⟨w0.heap.size, 1, none⟩) (fun _ => rfl) ((drawC g n a c).getD 1 default)).setCell (p := ⟨w0.heap.size, 2, none⟩) (fun _ => rfl) ((drawC g n a c).getD 2 default)).setCell (p := ⟨w0.heap.size, 3, none⟩) (fun _ => rfl) ((drawC g n a c).getD 3 default)).setCell (p := ⟨w0.heap.size, 4, none⟩) (fun _ => rfl) ((drawC g n a c).getD 4 default)).setCell (p := ⟨w0.heap.size, 5, none⟩) (fun _ => rfl) ((drawC g n a c).getD 5 default))
  refine ⟨a, c, ?_, hc, (hb.kept hk (fun z hz => by cases hz; exact hne)).congr (fun j _ => by rw [hg, Nat.add_assoc]) (fun j => hf _), ⟨hl, Nat.lt_of_lt_of_le hl2 hk.size⟩, hs, Nat.le_refl _, hF.then hk fun b hb e => by omega⟩
  have h1 := setBox (setBox (setBox (setBox (setBox (setBox hB 0 ((drawC g n a c).getD 0 default)) 1 ((drawC g n a c).getD 1 default)) 2 ((drawC g n a c).getD 2 default)) 3 ((drawC g n a c).getD 3 default)) 4 ((drawC g n a c).getD 4 default)) 5 ((drawC g n a c).getD 5 default)
  rw [h1, ← drawC_eq hf hg]
  rfl

/-- An append whose run is known, in a region that draws. -/
theorem step_run {ops : Array Oper} {o : Oper} {a : Act} {w W2 : World} {K : Act → World → Prop} {Q : Exit → Act → World → Prop} {E : Prop} (hg : o.guard = none) (s x : Operand) (t : TypeId)
    (ho : o.op = Op.call { callee := Callee.builtin Builtin.append, args := #[s, x], argTypes := #[t, t] }) (ht : o.type = t) {v vx v2 : Value} (hs : a.eval s = v) (hx : a.eval x = vx)
    (hrun : (Builtin.append_ #[t, t] t #[v, vx]).run Try.prog w = .ok v2 W2) (hK : K (a.put o.dst v2) W2) :
    if Region.wanted o (yielded ops a.tmps) = true then Oper.wp Try.prog o a w K Q else E := by
  have hw : Region.wanted o (yielded ops a.tmps) = true := by simp [Region.wanted, hg]
  rw [if_pos hw]
  rw [← ht] at hrun
  subst ht
  unfold Oper.wp
  simp [execOp, ho, resolve, invoke, builtin, hs, hx] at hrun ⊢
  simp [hrun, Result.andThen]
  exact hK

theorem Drawn.dat {w0 W : World} {R O : Nat} {v : Value} {f : Nat → Nat} {k n : Nat} {a : Addr} {c : Nat} (hn : n = siz f k) (hc : n - 30 ≤ c) (hb : Bytes W (some a) (n - 30) (fun j => f (frm f k + 30 + j))) (hl : w0.heap.size ≤ a.block) (hl2 : a.block < W.heap.size) (hs : a.spot = none)
    (hR : R < w0.heap.size) (hO : O < w0.heap.size) (hv : ∀ b, v.ownBlock = some b → b < w0.heap.size) : LdDat W R O v f k (.slice (some a) (n - 30) c) := by
  subst hn
  exact ⟨a, c, rfl, hc, hb, hs, hl2, by omega, by omega, fun e => by have := hv _ e; omega⟩
theorem drawn_last' {w0 w7 : World} {f g : Nat → Nat} {o n : Nat} {a : Addr} {c : Nat} (hf : ∀ j, f j < 256) (hg : ∀ j, g j = f (o + j)) (hF : Fresh w0 w7) (hc : n - 30 ≤ c) (hb : Bytes w7 (some a) (n - 30) (fun j => g (30 + j))) (hl : w0.heap.size ≤ a.block) (hl2 : a.block < w7.heap.size) (hs : a.spot = none) :
    ∃ H, (.pointer (some ⟨w7.heap.size, 0, none⟩) : Value) = .pointer (some ⟨H, 0, none⟩) ∧ Drawn w0 f o n H (w7.alloc (.cells #[.int .u64 (IntKind.u64.wrap (IntKind.u64.wrap ↑(le g 0 7) + IntKind.u64.wrap (IntKind.u64.wrap ↑(g 7) * 72057594037927936))), .int .u64 (IntKind.u64.wrap (IntKind.u64.wrap ↑(le g 8 7) + IntKind.u64.wrap (IntKind.u64.wrap ↑(g 15) * 72057594037927936))), .int .u64 (IntKind.u64.wrap (IntKind.u64.wrap ↑(le g 16 7) + IntKind.u64.wrap (IntKind.u64.wrap ↑(g 23) * 72057594037927936))), .int .i64 (IntKind.i64.wrap (↑(le g 24 4) - 1)), .int .i64 (IntKind.i64.wrap (↑(le g 28 2) - 1)), .slice (some a) (n - 30) c] 29)) := ⟨_, rfl, drawn_last hf hg hF hc hb hl hl2 hs⟩

theorem drawn_first' {w0 w7 : World} {f g : Nat → Nat} {o n : Nat} {a : Addr} {c : Nat} {z0 z1 z2 z3 z4 z5 : Value} (hf : ∀ j, f j < 256) (hg : ∀ j, g j = f (o + j)) (hF : Fresh w0 w7) (hc : n - 30 ≤ c) (hb : Bytes w7 (some a) (n - 30) (fun j => g (30 + j))) (hl : w0.heap.size ≤ a.block) (hl2 : a.block < w7.heap.size) (hs : a.spot = none)
    (hB : w7.heap[w0.heap.size]? = some (.cells #[z0, z1, z2, z3, z4, z5] 29)) (hne : a.block ≠ w0.heap.size) :
    ∃ H, (.pointer (some ⟨w0.heap.size, 0, none⟩) : Value) = .pointer (some ⟨H, 0, none⟩) ∧ Drawn w0 f o n H ((((((w7.setCell ⟨w0.heap.size, 0, none⟩ (.int .u64 (IntKind.u64.wrap (IntKind.u64.wrap ↑(le g 0 7) + IntKind.u64.wrap (IntKind.u64.wrap ↑(g 7) * 72057594037927936))))).setCell ⟨w0.heap.size, 1, none⟩ (.int .u64 (IntKind.u64.wrap (IntKind.u64.wrap ↑(le g 8 7) + IntKind.u64.wrap (IntKind.u64.wrap ↑(g 15) * 72057594037927936))))).setCell ⟨w0.heap.size, 2, none⟩ (.int .u64 (IntKind.u64.wrap (IntKind.u64.wrap ↑(le g 16 7) + IntKind.u64.wrap (IntKind.u64.wrap ↑(g 23) * 72057594037927936))))).setCell ⟨w0.heap.size, 3, none⟩ (.int .i64 (IntKind.i64.wrap (↑(le g 24 4) - 1)))).setCell ⟨w0.heap.size, 4, none⟩ (.int .i64 (IntKind.i64.wrap (↑(le g 28 2) - 1)))).setCell ⟨w0.heap.size, 5, none⟩ (.slice (some a) (n - 30) c)) := ⟨_, rfl, drawn_first hf hg hF hc hb hl hl2 hs hB hne⟩

theorem verB_eq (f : Nat → Nat) (o n : Nat) : rightB (le f o 8) (le f (o + 8) 8) (le f (o + 16) 8) ((le f (o + 24) 4 : Int) - 1) ((le f (o + 28) 2 : Int) - 1) (n - 30) = verB f o n := rfl

theorem slotC_on {f : Nat → Nat} {k : Nat} (ho : offB f k = false) (dv : Value) :
    slotC (decS f k) dv = #[.bool true, .int .u64 (le f (frm f k) 8), .int .u64 (le f (frm f k + 8) 8), .int .u64 (le f (frm f k + 16) 8), .int .i64 ((le f (frm f k + 24) 4 : Int) - 1), .int .i64 ((le f (frm f k + 28) 2 : Int) - 1), dv, .int .i64 (frm f k)] := by
  unfold decS
  rw [if_neg (by simp [ho])]
  rfl

/-- The reference's page, when all slots are read. -/
theorem LdSt.done {w wr : World} {R O : Nat} {f : Nat → Nat} {v : Value} {own : Nat → Bool} (h : LdSt w wr R O f (cnt f) v own) (hf : ∀ j, f j < 256) : RefIs (fun b => w.heap.size ≤ b) wr R v (dec f) := by
  obtain ⟨dv, hr, hd⟩ := h.row
  have hold := h.old
  refine ⟨h.box, hold, dv, ?_, fun k o ver hk => ?_⟩
  · rcases hr with ⟨e1, e2⟩ | ⟨B, cap, g, e1, h2, h3, h4, h5⟩
    · exact .inl ⟨e1, List.eq_nil_of_length_eq_zero (by rw [dec_len]; exact e2)⟩
    · refine .inr ⟨B, cap, g, by rw [dec_len]; exact e1, by rw [dec_len]; exact h2, by omega, by show w.heap.size ≤ B; omega, h4, fun k j hk hj => ?_⟩
      rw [dec_len] at hk
      rw [h5 k j hk hj, List.getD_eq_getElem?_getD, dec_get hk]
      rfl
  · obtain ⟨g1, g2, rfl, rfl⟩ := dec_some hk
    obtain ⟨a, c, h1, h2, h3, h4, h5, h6, h7, h8⟩ := hd k g1 g2
    rw [decV_len]
    exact ⟨a, c, h1, h2, h3.congr (fun j hj => (decV_get f hj).symm) (fun j => by
      by_cases hj : j < siz f k - 30
      · rw [decV_get f hj]; exact hf _
      · rw [List.getD_eq_getElem?_getD, List.getElem?_eq_none (by rw [decV_len]; omega)]; exact Nat.zero_lt_succ _), h4, h5, by show w.heap.size ≤ a.block; omega, by omega, fun e => h8 e.symm⟩

theorem LdSt.last {w wr : World} {R O : Nat} {f : Nat → Nat} {i : Nat} {a : Option Addr} {c : Nat} {own : Nat → Bool} (h : LdSt w wr R O f i (.slice a i c) own) {k : Nat} (hk : k < i) : ∃ B, a = some ⟨B, 0, none⟩ ∧ i ≤ c ∧ wr.cell? ⟨B, k * 8, none⟩ = some (.bool !(offB f k)) := by
  obtain ⟨dv, hr, hd⟩ := h.row
  obtain ⟨B, e, hc, hcell⟩ := hr.cell hk
  refine ⟨B, e, hc, ?_⟩
  have := hcell 0 (by omega)
  rw [Nat.add_zero] at this
  rw [this]
  unfold decS
  cases ho : offB f k
  · rfl
  · rfl

theorem front_last {f : Nat → Nat} (h : SoundP f) (h0 : 0 < cnt f) : offB f (cnt f - 1) = false := by
  cases e : offB f (cnt f - 1)
  · rfl
  · have h1 := h.front
    unfold frontB at h1
    unfold offB at e
    simp at h1 e
    omega

theorem sound_of {f : Nat → Nat} (h1 : ¬ 512 < stt f) (h2 : ¬ stt f < 4 + 4 * cnt f) (h3 : 0 < cnt f → offB f (cnt f - 1) = false) (h4 : allOk f (cnt f) = true) (h5 : (parts f (cnt f)).Pairwise Apart2) (h6 : ∀ j, j < 512 → f j = 0 ∨ ownB f (cnt f) j = true) : SoundP f := by
  refine ⟨?_, h4, h5, fun j j1 j2 => ?_⟩
  · unfold frontB
    by_cases h0 : 0 < cnt f
    · have ho := h3 h0
      have hok := okB_on ((allOk_iff f _).1 h4 (cnt f - 1) (by omega)) ho
      simp
      omega
    · simp
      omega
  · rcases h6 j j2 with h | h
    · exact .inl h
    · rcases ownB_iff.1 h with h | h
      · omega
      · exact .inr h

theorem rest_no {f : Nat → Nat} {j : Nat} (hj : j < 512) (h0 : f j ≠ 0) (ho : ownB f (cnt f) j = false) : ¬ SoundP f := fun hs => by
  have : ¬ (j < 4 + 4 * cnt f ∨ InPart (parts f (cnt f)) j) := fun h => by
    have := ownB_iff.2 h
    rw [ho] at this
    cases this
  rcases hs.rest j (by omega) hj with h | h
  · exact h0 h
  · exact this (.inr h)
end Go.Proofs.Ytffbfgmhfnbmfaa
