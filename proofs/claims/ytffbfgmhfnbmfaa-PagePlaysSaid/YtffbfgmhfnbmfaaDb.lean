/- A call on both pages. -/
import Derived.Test.YtffbfgmhfnbmfaaPt
import Derived.Test.YtffbfgmhfnbmfaaXt
import Derived.Deep.DeepCutAuto
import Derived.Deep.RegionHeld3
import Derived.BigRegion
namespace Go.Proofs.Ytffbfgmhfnbmfaa
open Go.RowKit

/-- An operation that came in. -/
abbrev opV (o : Nat) (k : Int) (r x y : Nat) (p s : Int) (d : Value) : Value := .agg #[.int .u8 o, .int .i64 k, .int .u64 r, .int .u64 x, .int .u64 y, .int .i64 p, .int .i64 s, d]

/-- Both pages have the same behind a call. -/
def Both (P : Nat → Prop) (pb R : Nat) (v : Value) (st : St) (w : World) (e : Ending) (w' : World) : Prop :=
  ∃ st' v', e = .returned (.tuple #[.pointer (some ⟨pb, 0, none⟩), .bool true]) ∧ Wf st' ∧ Byt w' pb 75 512 (enc st') ∧ RefIs P w' R v' st' ∧ Kept (fun b => b = pb ∨ b = R ∨ some b = v.ownBlock) w w' ∧ (Good st → Good st')

/-- Behind the reading of an operation. -/
structure DoSt (w W : World) (T : Nat) (o : Nat) (k : Int) (r x y : Nat) (p s : Int) (a : Option Addr) (n c : Nat) (a1 : Addr) (m c1 : Nat) (d : Nat → Nat) : Prop where
  box : W.heap[w.heap.size]? = some (.cells #[.int .u8 o, .int .i64 k, .int .u64 r, .int .u64 x, .int .u64 y, .int .i64 p, .int .i64 s, .slice a n c] 58)
  few : W.heap[T]? = some (.cells #[.int .u64 r, .int .u64 x, .int .u64 y, .int .i64 p, .int .i64 s, .slice (some a1) m c1] 29)
  fresh : Fresh w W
  ltT : w.heap.size < T
  by_ : Bytes W (some a1) m d
  ge : w.heap.size ≤ a1.block
  lt : a1.block < T
  spot : a1.spot = none
  le : m ≤ c1

theorem RefIs.narrow {P Q : Nat → Prop} {w : World} {R : Nat} {v : Value} {st : St} (h : RefIs P w R v st) (hQ : ∀ b, b < w.heap.size → P b → Q b) : RefIs Q w R v st := by
  have hR := h.lt
  obtain ⟨hb, hp, dv, hr, hd⟩ := h
  refine ⟨hb, hQ R hR hp, dv, ?_, fun i f ver hi => ?_⟩
  · rcases hr with h0 | ⟨B, cap, g, h1, h2, h3, h4, h5, h6⟩
    · exact .inl h0
    · exact .inr ⟨B, cap, g, h1, h2, h3, hQ B h5.lt h4, h5, h6⟩
  · obtain ⟨a, c, h1, h2, h3, h4, h5, h6, h7, h8⟩ := hd i f ver hi
    exact ⟨a, c, h1, h2, h3, h4, h5, hQ _ h5 h6, h7, h8⟩

structure DoFin (P : Nat → Prop) (pb R : Nat) (v : Value) (w : World) (ab ao m c2 T2 : Nat) (r x y : Nat) (p s : Int) (st' : St) (v' : Value) (wr : World) : Prop where
  page : Byt wr pb 75 512 (enc st')
  ref : RefIs (fun b => P b ∧ b ≠ ab) wr R v' st'
  kept : Kept (fun b => b = pb ∨ b = R ∨ some b = v.ownBlock) w wr
  box : wr.heap[T2]? = some (.cells #[.int .u64 r, .int .u64 x, .int .u64 y, .int .i64 p, .int .i64 s, .slice (some ⟨ab, ao, none⟩) m c2] 29)
  cells : ∀ j, j < m → ∃ z, wr.cell? ⟨ab, ao + j, none⟩ = some (.int .u8 z)
  free : ∀ j, wr.frozen? ⟨ab, j, none⟩ = false
  npb : ab ≠ pb
  nT : T2 ≠ ab
  old : w.heap.size ≤ ab

theorem DoFin.put {P : Nat → Prop} {pb R : Nat} {v : Value} {w : World} {ab ao m c2 T2 : Nat} {r x y : Nat} {p s : Int} {st' : St} {v' : Value} {wr : World} (h : DoFin P pb R v w ab ao m c2 T2 r x y p s st' v' wr) (i : Nat) (z : Int) :
    DoFin P pb R v w ab ao m c2 T2 r x y p s st' v' (wr.setCell ⟨ab, ao + i, none⟩ (.int .u8 z)) := by
  have hk := (Kept.refl (fun b => b = ab) wr).setCell (p := ⟨ab, ao + i, none⟩) (fun _ => rfl) (.int .u8 z)
  have hold := h.old
  exact {
    page := h.page.kept hk (fun e => h.npb e.symm)
    ref := h.ref.kept hk fun b hb _ e => hb.2 e
    kept := h.kept.then hk fun i hi e => by omega
    box := (hk.block T2 (Array.getElem?_eq_some_iff.1 h.box).1 h.nT).trans h.box
    cells := fun j hj => by
      obtain ⟨z0, hz0⟩ := h.cells j hj
      by_cases e : j = i
      · subst e
        exact ⟨z, World.cell?_setCell_same _ _ _ hz0⟩
      · exact ⟨z0, (World.cell?_setCell_other _ _ _ _ (by intro h; simp only [Addr.mk.injEq] at h; omega)).trans hz0⟩
    free := fun j => by rw [World.frozen?_setCell]; exact h.free j
    npb := h.npb
    nT := h.nT
    old := hold }

theorem both_kept {pb R : Nat} {v : Value} {w W w1 w2 : World} (hF : Fresh w W) (h1 : Kept (· = pb) W w1) (h2 : Kept (fun b => b = R ∨ some b = v.ownBlock) w1 w2) : Kept (fun b => b = pb ∨ b = R ∨ some b = v.ownBlock) w w2 :=
  ((hF.mono fun _ _ h => h.elim).trans (h1.mono fun _ _ h => .inl h)).trans (h2.mono fun _ _ h => .inr h)

set_option maxRecDepth 100000 in
set_option maxHeartbeats 4000000 in
theorem do_any (P : Nat → Prop) (pb R : Nat) (v : Value) (st : St) (o : Nat) (k : Int) (r x y : Nat) (p s : Int) (a : Option Addr) (n c : Nat) (d : Nat → Nat) (w : World)
    (hPn : ∀ b, w.heap.size ≤ b → P b) (hPp : ¬ P pb) (hpage : Byt w pb 75 512 (enc st)) (hst : Wf st) (href : RefIs P w R v st) (ho : o % 8 ≠ 7) (ho2 : o < 256) (hd : Bytes w a n d) (hnc : n ≤ c) :
    Calls Try.prog 33 #[.pointer (some ⟨pb, 0, none⟩), .pointer (some ⟨R, 0, none⟩), opV o k r x y p s (.slice a n c)] w (Both P pb R v st w) := by
  obtain ⟨m, hm⟩ : ∃ m, m = min n 230 := ⟨_, rfl⟩
  obtain ⟨q, hq⟩ : ∃ q, q = o % 8 := ⟨_, rfl⟩
  have hqq : (o : Int).tmod 8 = (q : Int) := by rw [Int.tmod_eq_emod_of_nonneg (by omega)]; omega
  have hA := (Kept.refl (fun _ => False) w).alloc (.cells #[.int .u8 o, .int .i64 k, .int .u64 r, .int .u64 x, .int .u64 y, .int .i64 p, .int .i64 s, .slice a n c] 58)
  have hO := alloc_at w (.cells #[.int .u8 o, .int .i64 k, .int .u64 r, .int .u64 x, .int .u64 y, .int .i64 p, .int .i64 s, .slice a n c] 58)
  have hsA : w.heap.size < (w.alloc (.cells #[.int .u8 o, .int .i64 k, .int .u64 r, .int .u64 x, .int .u64 y, .int .i64 p, .int .i64 s, .slice a n c] 58)).heap.size := by simp
  have hpl := hpage.blk
  have HA := Lib.hid (And.intro hA (And.intro hO (And.intro hsA (And.intro hm (And.intro hnc (And.intro hd (And.intro hq ho)))))))
  have HB := Lib.hid (And.intro hPn (And.intro hPp (And.intro hpage (And.intro hst href))))
  clear hA hO hsA hm hnc hd hPn hPp hpage hst href ho ho2 hq
  go_enter Try.func33, Try.ntmps33
  go_wp2_with fail
  generalize w.alloc (.cells #[.int .u8 o, .int .i64 k, .int .u64 r, .int .u64 x, .int .u64 y, .int .i64 p, .int .i64 s, .slice a n c] 58) = w0 at HA ⊢
  refine (few_any r x y p s a n c d _ (HA.out.2.2.2.2.2.1.kept HA.out.1 (by simp)) HA.out.2.2.2.2.1 m HA.out.2.2.2.1).mono ?_
  rintro e w1 ⟨a1, c1, rfl, hmc, hby, hnew, hsp, hF1⟩
  have hO1 := (hF1.block w.heap.size HA.out.2.2.1 (by simp)).trans HA.out.2.1
  have hF := HA.out.1.trans hF1
  have o0 := boxCell hO1 0
  have hlt := Nat.lt_of_lt_of_le HA.out.2.2.1 hF1.size
  have HC := Lib.hid (And.intro hF (And.intro hO1 (And.intro hmc (And.intro hby (And.intro hnew (And.intro hsp (And.intro hlt HA.out.2.2.1)))))))
  clear hmc hby hnew hsp hF1 hO1 hF
  go_upto_region 2 with fail
  obtain ⟨hF, hO1, hmc, hby, hnew, hsp, hlt, _⟩ := HC.out
  have hk1 := (Kept.refl (fun _ => False) w1).alloc (.cells #[.int .u64 r, .int .u64 x, .int .u64 y, .int .i64 p, .int .i64 s, .slice (some a1) m c1] 29)
  have hD : DoSt w (w1.alloc (.cells #[.int .u64 r, .int .u64 x, .int .u64 y, .int .i64 p, .int .i64 s, .slice (some a1) m c1] 29)) w1.heap.size o k r x y p s a n c a1 m c1 d :=
    ⟨(hk1.block _ hlt (by simp)).trans hO1, alloc_at w1 _, hF.trans hk1, hlt, hby.kept hk1 (by simp), by have := HA.out.1.size; omega, hnew.2, hsp, hmc⟩
  generalize w1.alloc (.cells #[.int .u64 r, .int .u64 x, .int .u64 y, .int .i64 p, .int .i64 s, .slice (some a1) m c1] 29) = W at hD ⊢
  have HD := Lib.hid hD
  clear hF hO1 hmc hby hnew hsp hlt hk1 o0 HC hD
  generalize w1.heap.size = T at HD ⊢
  have o0 := boxCell HD.out.box 0
  have o1 := boxCell HD.out.box 1
  have t2 := boxCell HD.out.few 2
  have t3 := boxCell HD.out.few 3
  have t4 := boxCell HD.out.few 4
  have hHW : w.heap.size < W.heap.size := (Array.getElem?_eq_some_iff.1 HD.out.box).1
  have hTW : T < W.heap.size := (Array.getElem?_eq_some_iff.1 HD.out.few).1
  have hTH := HD.out.ltT
  have hRl := HB.out.2.2.2.2.lt
  have hown : ∀ b, some b = v.ownBlock → b < w.heap.size := fun b hb => by obtain ⟨_, _, dv0, hr0, _⟩ := HB.out.2.2.2.2; exact (hr0.own hb.symm).1
  have hpg := HB.out.2.2.1.kept HD.out.fresh.drew (by simp)
  have hrf := HB.out.2.2.2.2.fresh HD.out.fresh.drew
  have hpPb : ∀ b, P b → b < W.heap.size → ¬ b = pb := fun b hb _ e => HB.out.2.1 (e ▸ hb)
  have HN := Lib.hid (And.intro hown (And.intro hpPb (And.intro hrf hpg)))
  have nH : ¬ (w.heap.size = R ∨ some w.heap.size = v.ownBlock) := by
    rintro (h | h)
    · omega
    · have := hown _ h; omega
  have nT : ¬ (T = R ∨ some T = v.ownBlock) := by
    rintro (h | h)
    · omega
    · have := hown _ h; omega
  have nP : ¬ (pb = R ∨ some pb = v.ownBlock) := by
    obtain ⟨_, hpR, dv0, hr0, _⟩ := HB.out.2.2.2.2
    rintro (h | h)
    · subst h; exact HB.out.2.1 hpR
    · exact HB.out.2.1 (hr0.own h.symm).2.1
  have HN2 := Lib.hid (And.intro nH (And.intro nT nP))
  clear hown hpPb hrf hpg nH nT nP
  by_cases h4 : q = 4
  · have h4' : ((q : Int) == 4) = true := by simp; omega
    clear h4
    go_upto_region 4 with fail
    have hcell : ∀ (W1 W2 : World) (b i : Nat) (u : Value) (S : Nat → Prop), Kept S W1 W2 → b < W1.heap.size → ¬ S b → W1.cell? ⟨b, i, none⟩ = some u → W2.cell? ⟨b, i, none⟩ = some u := fun W1 W2 b i u S hk hl hn hc => (hk.cell (p := ⟨b, i, none⟩) hl hn).trans hc
    go_region_held3 (fun W' => W'.cell? ⟨w.heap.size, 1, none⟩ = some (.int .i64 k) ∧ W'.cell? ⟨T, 2, none⟩ = some (.int .u64 y) ∧ W'.cell? ⟨T, 3, none⟩ = some (.int .i64 p) ∧ W'.cell? ⟨T, 4, none⟩ = some (.int .i64 s))
      (first | exact ⟨o1, t2, t3, t4⟩ | exact ⟨f1, f2, f3, f4⟩)
      (first
        | (go_at_call 17; refine (pstamp_any pb st k y p s _ HN.out.2.2.2 HB.out.2.2.2.1).mono ?_; rintro e w17 ⟨rfl, hb17, hst17, hk17⟩; (
            have f1 := hcell _ _ _ _ _ _ hk17 hHW (by omega) o1
            have f2 := hcell _ _ _ _ _ _ hk17 hTW (by omega) t2
            have f3 := hcell _ _ _ _ _ _ hk17 hTW (by omega) t3
            have f4 := hcell _ _ _ _ _ _ hk17 hTW (by omega) t4))
        | (go_at_call 51; refine (rstamp_any P R v st k y p s _ (HN.out.2.2.1.kept hk17 HN.out.2.1)).mono ?_; rintro e w51 ⟨v', rfl, hr51, hk51⟩; (
            have f1 := hcell _ _ _ _ _ _ hk51 (Nat.lt_of_lt_of_le hHW hk17.size) HN2.out.1 f1
            have f2 := hcell _ _ _ _ _ _ hk51 (Nat.lt_of_lt_of_le hTW hk17.size) HN2.out.2.1 f2
            have f3 := hcell _ _ _ _ _ _ hk51 (Nat.lt_of_lt_of_le hTW hk17.size) HN2.out.2.1 f3
            have f4 := hcell _ _ _ _ _ _ hk51 (Nat.lt_of_lt_of_le hTW hk17.size) HN2.out.2.1 f4)))
    go_wp2_with fail
    go_ret2
    exact ⟨_, v', rfl, hst17, hb17.kept hk51 HN2.out.2.2, hr51, both_kept HD.out.fresh.drew hk17 hk51, fun hg => stampR_good hg _ _ _ _⟩
  · have h4' : ((q : Int) == 4) = false := by simp; omega
    have hcell : ∀ (W1 W2 : World) (b i : Nat) (u : Value) (S : Nat → Prop), Kept S W1 W2 → b < W1.heap.size → ¬ S b → W1.cell? ⟨b, i, none⟩ = some u → W2.cell? ⟨b, i, none⟩ = some u := fun W1 W2 b i u S hk hl hn hc => (hk.cell (p := ⟨b, i, none⟩) hl hn).trans hc
    by_cases h5 : q = 5
    · have h5' : ((q : Int) == 5) = true := by simp; omega
      clear h4 h5 t2 t3 t4
      go_upto_region 7 with fail
      go_region_held3 (fun W' => W'.cell? ⟨w.heap.size, 1, none⟩ = some (.int .i64 k))
        (first | exact o1 | exact f1)
        (first
          | (go_at_call 13; refine (pfree_any pb st k _ HN.out.2.2.2 HB.out.2.2.2.1).mono ?_; rintro e w17 ⟨rfl, hb17, hst17, hk17⟩; (
              have f1 := hcell _ _ _ _ _ _ hk17 hHW (by omega) o1))
          | (go_at_call 52; refine (rfree_any P R v st k _ (HN.out.2.2.1.kept hk17 HN.out.2.1) HB.out.2.2.2.1).mono ?_; rintro e w51 ⟨v', rfl, hr51, hk51⟩; (
              have f1 := hcell _ _ _ _ _ _ hk51 (Nat.lt_of_lt_of_le hHW hk17.size) HN2.out.1 f1)))
      go_wp2_with fail
      go_ret2
      exact ⟨_, v', rfl, hst17, hb17.kept hk51 HN2.out.2.2, hr51, both_kept HD.out.fresh.drew hk17 hk51, fun hg => freeR_good hg _⟩
    · have h5' : ((q : Int) == 5) = false := by simp; omega
      by_cases h6 : q = 6
      · have h6' : ((q : Int) == 6) = true := by simp; omega
        clear h4 h5 h6 t2 t3 t4
        go_upto_region 7 with fail
        go_region_held3 (fun W' => W'.cell? ⟨w.heap.size, 1, none⟩ = some (.int .i64 k))
          (first | exact o1 | exact f1)
          (first
            | (go_at_call 13; refine (pfree_any pb st k _ HN.out.2.2.2 HB.out.2.2.2.1).mono ?_; rintro e w17 ⟨rfl, hb17, hst17, hk17⟩; (
                have f1 := hcell _ _ _ _ _ _ hk17 hHW (by omega) o1))
            | (go_at_call 52; refine (rfree_any P R v st k _ (HN.out.2.2.1.kept hk17 HN.out.2.1) HB.out.2.2.2.1).mono ?_; rintro e w51 ⟨v', rfl, hr51, hk51⟩; (
                have f1 := hcell _ _ _ _ _ _ hk51 (Nat.lt_of_lt_of_le hHW hk17.size) HN2.out.1 f1)))
        go_wp2_with fail
        go_ret2
        exact ⟨_, v', rfl, hst17, hb17.kept hk51 HN2.out.2.2, hr51, both_kept HD.out.fresh.drew hk17 hk51, fun hg => freeR_good hg _⟩

      · have h6' : ((q : Int) == 6) = false := by simp; omega
        have h7' : ((q : Int) == 7) = false := by have := HA.out.2.2.2.2.2.2; simp; omega
        clear h4 h5 h6 hcell t2 t3 t4 o1
        have u2 := boxCell HD.out.box 2
        have u3 := boxCell HD.out.box 3
        have u4 := boxCell HD.out.box 4
        have u5 := boxCell HD.out.box 5
        have u6 := boxCell HD.out.box 6
        have u7 := boxCell HD.out.box 7
        go_wp2_with fail
        refine (few_thaw r x y p s a n c d _ (HA.out.2.2.2.2.2.1.kept HD.out.fresh (by simp)) HA.out.2.2.2.2.1 m HA.out.2.2.2.1).mono ?_
        rintro e w2 ⟨⟨ab, ao, asp⟩, c2, rfl, hmc2, hby2, hnew2, hsp2, hF2⟩
        obtain ⟨hasp, hz2⟩ := hsp2
        obtain rfl : asp = none := hasp
        have HI0 := Lib.hid (And.intro hmc2 (And.intro hby2 (And.intro hnew2 (And.intro hz2 hF2))))
        clear hmc2 hby2 hnew2 hz2 hF2 u2 u3 u4 u5 u6 u7
        go_upto_region 14 with fail
        obtain ⟨hmc2, hby2, hnew2, hz2, hF2⟩ := HI0.out
        have hk3 := (Kept.refl (fun _ => False) w2).alloc (.cells #[.int .u64 r, .int .u64 x, .int .u64 y, .int .i64 p, .int .i64 s, .slice (some ⟨ab, ao, none⟩) m c2] 29)
        have hTw2 : T < w2.heap.size := Nat.lt_of_lt_of_le hTW hF2.size
        have hT3 := (hk3.block T hTw2 (by simp)).trans ((hF2.block T hTW (by simp)).trans HD.out.few)
        have hM3 := alloc_at w2 (.cells #[.int .u64 r, .int .u64 x, .int .u64 y, .int .i64 p, .int .i64 s, .slice (some ⟨ab, ao, none⟩) m c2] 29)
        have hby3 := hby2.kept hk3 (by simp)
        have hz3 : ∀ j, (w2.alloc (.cells #[.int .u64 r, .int .u64 x, .int .u64 y, .int .i64 p, .int .i64 s, .slice (some ⟨ab, ao, none⟩) m c2] 29)).frozen? ⟨ab, j, none⟩ = false := fun j => (hk3.frozen (p := ⟨ab, j, none⟩) hnew2.2 (by simp)).trans (hz2 j)
        have hF3 := (HD.out.fresh.trans hF2).trans hk3
        have hsz3 : w2.heap.size < (w2.alloc (.cells #[.int .u64 r, .int .u64 x, .int .u64 y, .int .i64 p, .int .i64 s, .slice (some ⟨ab, ao, none⟩) m c2] 29)).heap.size := by simp
        have hby1 := (HD.out.by_.kept hF2 (by simp)).kept hk3 (by simp)
        generalize w2.alloc (.cells #[.int .u64 r, .int .u64 x, .int .u64 y, .int .i64 p, .int .i64 s, .slice (some ⟨ab, ao, none⟩) m c2] 29) = W3 at hk3 hT3 hM3 hby3 hz3 hF3 hsz3 hby1 ⊢
        have hab : W.heap.size ≤ ab ∧ ab < w2.heap.size := hnew2
        generalize w2.heap.size = T2 at hTw2 hM3 hsz3 hab ⊢
        have HI := Lib.hid (And.intro hT3 (And.intro hM3 (And.intro hby3 (And.intro hz3 (And.intro hF3 (And.intro hsz3 (And.intro hby1 (And.intro hab hTw2))))))))
        clear hmc2 hby2 hnew2 hz2 hF2 hk3 HI0 hby3 hz3 hF3 hby1 hT3
        have m0 := boxCell hM3 0
        have m1 := boxCell hM3 1
        have m2 := boxCell hM3 2
        have m3 := boxCell hM3 3
        have m4 := boxCell hM3 4
        have m5 := boxCell hM3 5
        clear hM3
        go_wp2_with fail
        have hpage3 := HB.out.2.2.1.kept HI.out.2.2.2.2.1 (by simp)
        refine (pinsert_any pb st r x y p s (some ⟨ab, ao, none⟩) m c2 d _ hpage3 HB.out.2.2.2.1 HI.out.2.2.1).mono ?_
        rintro e w4 ⟨rfl, hb4, hst4, hk4⟩
        obtain ⟨hT3, hM3, hby3, hz3, hF3, hsz3, hby1, hab, hTw2⟩ := HI.out
        have hMW : ab ≠ pb := by omega
        have hT4 := (hk4.block T (by omega) (by omega)).trans hT3
        have hM4 := (hk4.block T2 hsz3 (by omega)).trans hM3
        have hby4 := hby3.kept hk4 (fun z hz => by cases hz; exact hMW)
        have hz4 : ∀ j, w4.frozen? ⟨ab, j, none⟩ = false := fun j => (hk4.frozen (p := ⟨ab, j, none⟩) (show ab < W3.heap.size by omega) hMW).trans (hz3 j)
        have hby14 := hby1.kept hk4 (fun z hz => by cases hz; have := HD.out.ge; omega)
        have hK4 : Kept (fun b => b = pb) w w4 := (hF3.mono fun _ _ h => h.elim).trans hk4
        have href4 : RefIs (fun b => P b ∧ b ≠ ab) w4 R v st := (HB.out.2.2.2.2.narrow fun b hb hp => ⟨hp, by omega⟩).kept hK4 fun b hb _ e => HB.out.2.1 (e ▸ hb.1)
        have hsz4 := Nat.lt_of_lt_of_le hsz3 hk4.size
        have HJ := Lib.hid (And.intro hT4 (And.intro hM4 (And.intro hby4 (And.intro hz4 (And.intro hby14 (And.intro hK4 (And.intro href4 (And.intro hsz4 (And.intro hb4 (And.intro hst4 (And.intro hab hTw2)))))))))))
        have c0 := boxCell hT4 0
        have c1' := boxCell hT4 1
        have c2' := boxCell hT4 2
        have c3 := boxCell hT4 3
        have c4 := boxCell hT4 4
        have c5 := boxCell hT4 5
        clear hpage3 hT3 hM3 hby3 hz3 hF3 hsz3 hby1 hMW hT4 hM4 hby4 hz4 hby14 hK4 href4 hsz4 hb4 hst4 hk4 m0 m1 m2 m3 m4 m5 HI
        generalize hres : insertR st r x y p s m d = res at HJ ⊢
        have HRes := Lib.hid hres
        clear hres
        go_wp2_with fail
        refine (rinsert_any (fun b => P b ∧ b ≠ ab) R v st r x y p s (some a1) m c1 d _ (fun b hb => ⟨HB.out.1 b (by have := HJ.out.2.2.2.2.2.2.2; omega), by have := HJ.out.2.2.2.2.2.2.2; omega⟩) HJ.out.2.2.2.2.2.2.1 HB.out.2.2.2.1 HJ.out.2.2.2.2.1).mono ?_
        rintro e w5 ⟨v', rfl, hr5, hk5⟩
        rw [HRes.out] at hr5 ⊢
        obtain ⟨hT4, hM4, hby4, hz4, hby14, hK4, href4, hsz4, hb4, hst4, hab, hTw2⟩ := HJ.out
        have hnR : ∀ b, w.heap.size ≤ b → ¬ (b = R ∨ some b = v.ownBlock) := fun b hb h => by
          rcases h with h | h
          · omega
          · have := HN.out.1 _ h; omega
        have hT5 := (hk5.block T (by omega) (hnR T (by omega))).trans hT4
        have hM5 := (hk5.block T2 hsz4 (hnR T2 (by omega))).trans hM4
        have hby5 := hby4.kept hk5 (fun z hz => by cases hz; exact hnR ab (by omega))
        have hz5 : ∀ j, w5.frozen? ⟨ab, j, none⟩ = false := fun j => (hk5.frozen (p := ⟨ab, j, none⟩) (show ab < w4.heap.size by omega) (hnR ab (by omega))).trans (hz4 j)
        have hby15 := hby14.kept hk5 (fun z hz => by cases hz; exact hnR a1.block HD.out.ge)
        have hK5 : Kept (fun b => b = pb ∨ b = R ∨ some b = v.ownBlock) w w5 := (hK4.mono fun _ _ h => .inl h).trans (hk5.mono fun _ _ h => .inr h)
        have hb5 := hb4.kept hk5 HN2.out.2.2
        have hsz5 := Nat.lt_of_lt_of_le hsz4 hk5.size
        have HL := Lib.hid (And.intro hM5 (And.intro hby5 (And.intro hz5 (And.intro hK5 (And.intro hb5 (And.intro hst4 (And.intro hr5 (And.intro hsz5 (And.intro hab (And.intro hTw2 hby15))))))))))
        have c0 := boxCell hT5 0
        have c1' := boxCell hT5 1
        have c2' := boxCell hT5 2
        have c3 := boxCell hT5 3
        have c4 := boxCell hT5 4
        have c5 := boxCell hT5 5
        have m0 := boxCell hM5 0
        have m1 := boxCell hM5 1
        have m2 := boxCell hM5 2
        have m3 := boxCell hM5 3
        have m4 := boxCell hM5 4
        have m5 := boxCell hM5 5
        clear hT4 hM4 hby4 hz4 hby14 hK4 href4 hsz4 hb4 hst4 hr5 hk5 hnR hT5 hM5 hby5 hz5 hby15 hK5 hb5 hsz5 HJ
        go_wp2_with fail
        refine (tsame_any r x y p s (some ⟨ab, ao, none⟩) (some a1) m c2 c1 d d _ HL.out.2.1 (by simp) HL.out.2.2.2.2.2.2.2.2.2.2 (by simp) (fun _ _ => rfl)).mono ?_
        rintro e w6 ⟨rfl, hF6⟩
        obtain ⟨hM5, hby5, hz5, hK5, hb5, hst5, hr5, hsz5, hab, hTw2, _⟩ := HL.out
        have hby6 := hby5.kept hF6 (by simp)
        have hab5 : ab < w5.heap.size := by omega
        have hFin : DoFin P pb R v w ab ao m c2 T2 r x y p s res.2.2 v' w6 := {
          page := hb5.kept hF6 (by simp)
          ref := hr5.fresh hF6
          kept := hK5.trans (hF6.mono fun _ _ h => h.elim)
          box := (hF6.block T2 hsz5 (by simp)).trans hM5
          cells := fun j hj => by
            rcases hby6.cells with h0 | ⟨b, o', e, _, hc⟩
            · omega
            · simp only [Option.some.injEq, Addr.mk.injEq] at e
              obtain ⟨rfl, rfl, _⟩ := e
              exact ⟨_, hc j hj⟩
          free := fun j => (hF6.frozen (p := ⟨ab, j, none⟩) hab5 (by simp)).trans (hz5 j)
          npb := by omega
          nT := by omega
          old := by omega }
        have HFin := Lib.hid (And.intro hFin hst5)
        clear hM5 hby5 hz5 hK5 hb5 hst5 hr5 hsz5 hab hTw2 hby6 hF6 hab5 hFin c0 c1' c2' c3 c4 c5 m0 m1 m2 m3 m4 m5 HL
        have m5 := boxCell HFin.out.1.box 5
        have hm230 : m ≤ 230 := by have := HA.out.2.2.2.1; omega
        go_wp2_with fail
        clear m5
        go_loopg [106] m (fun g s106 wr => ∃ i : Nat, i + g = m ∧ s106 = .int .i64 i ∧ DoFin P pb R v w ab ao m c2 T2 r x y p s res.2.2 v' wr)
        case atStart => exact ⟨0, by omega, rfl, HFin.out.1⟩
        case round =>
          obtain ⟨i, hi, rfl, hf⟩ := hrel
          by_cases hil : i < m
          · have m5 := boxCell hf.box 5
            obtain ⟨z, hz⟩ := hf.cells i hil
            have hfr := hf.free (ao + i)
            have hil' : (i : Int) < (m : Int) := by omega
            have HF := Lib.hid (And.intro hf hi)
            clear hf hi
            go_wp2_with fail
            go_roundg (gk - 1)
            case measure => have := HF.out.2; omega
            case rel => exact ⟨i + 1, by have := HF.out.2; omega, by go_num, HF.out.1.put i _⟩
          · obtain rfl : i = m := by omega
            clear hil hi
            go_wp2_with fail
            go_ret2
            have hf2 := hf.ref.narrow (Q := P) fun b _ hb => hb.1
            exact ⟨_, v', rfl, HFin.out.2, hf.page, hf2, hf.kept, fun hg => by rw [← HRes.out]; exact insertR_good hg _ _ _ _ _ _ _⟩
end Go.Proofs.Ytffbfgmhfnbmfaa
