/- The walk of PageStamps. -/
import Derived.Test.YtffbfgmhfnbmfaaPr
import Derived.Test.YtffbfgmhfnbmfaaLw
namespace Go.Proofs.Ytffbfgmhfnbmfaa
open Go.RowKit

theorem pair_cells {w : World} {b : Nat} {v0 v1 : Value} {t : TypeId} (h : w.heap[b]? = some (.cells #[v0, v1] t)) : w.cell? ⟨b, 0, none⟩ = some v0 ∧ w.cell? ⟨b, 1, none⟩ = some v1 := ⟨boxCell h 0, boxCell h 1⟩

/-- A version out of what came in. -/
def verOf (r x y P S m : Nat) (d : Nat → Nat) : Ver := ⟨r, x, y, P, S, (List.range m).map d⟩

theorem verOf_len (r x y P S m : Nat) (d : Nat → Nat) : (verOf r x y P S m d).data.length = m := by simp [verOf]

theorem verOf_get (r x y P S m : Nat) (d : Nat → Nat) (j : Nat) (h : j < m) : (verOf r x y P S m d).data.getD j 0 = d j := by
  simp [verOf, List.getD, h]

theorem verOf_ok {r x y P S m : Nat} {d : Nat → Nat} (hd : ∀ j, d j < 256) (h : rightB r x y ((P : Int) - 1) ((S : Int) - 1) m = true) (hP : P ≤ 65536) (hS : S ≤ 65535) : (verOf r x y P S m d).Ok := by
  unfold rightB at h
  simp at h
  exact ⟨by show r ≤ _; omega, by show x ≤ _; omega, by show y ≤ _; omega, hP, hS, by rw [verOf_len]; omega, fun b hb => by
    obtain ⟨j, _, rfl⟩ := List.mem_map.1 hb
    exact hd j⟩

/-- A right place's numbers. -/
theorem near (p s : Int) (h : farB p s = false) : ∃ P S : Nat, p = (P : Int) - 1 ∧ s = (S : Int) - 1 ∧ P ≤ 65536 ∧ S ≤ 65535 := by
  refine ⟨(p + 1).toNat, (s + 1).toNat, ?_⟩
  unfold farB at h
  by_cases e : p = -1 ∧ s = -1
  · omega
  · rw [if_neg e] at h
    simp at h
    omega

def Boxes (w W : World) (cs ns : Array Value) : Prop := W.heap[w.heap.size]? = some (.cells cs 29) ∧ W.heap[w.heap.size + 1]? = some (.cells ns 26) ∧ Fresh w W ∧ w.heap.size + 1 < W.heap.size

theorem Boxes.kept {w W W' : World} {cs ns : Array Value} (h : Boxes w W cs ns) (k : Fresh W W') : Boxes w W' cs ns :=
  ⟨(k.block _ (by have := h.2.2.2; omega) (by simp)).trans h.1, (k.block _ h.2.2.2 (by simp)).trans h.2.1, h.2.2.1.trans k, by have := k.size; have := h.2.2.2; omega⟩

/-- .. where a block that the law made has turned. -/
theorem Boxes.kept1 {w W W' : World} {cs ns : Array Value} (h : Boxes w W cs ns) {b : Nat} (hb : w.heap.size + 2 ≤ b) (k : Kept (· = b) W W') : Boxes w W' cs ns :=
  ⟨(k.block _ (by have := h.2.2.2; omega) (by omega)).trans h.1, (k.block _ h.2.2.2 (by omega)).trans h.2.1, h.2.2.1.then k fun i hi e => by omega, by have := k.size; have := h.2.2.2; omega⟩

theorem Boxes.start (w : World) (cs ns : Array Value) : Boxes w ((w.alloc (.cells cs 29)).alloc (.cells ns 26)) cs ns := by
  have hs1 : (w.alloc (.cells cs 29)).heap.size = w.heap.size + 1 := by simp
  have hA2 := (Kept.refl (fun _ => False) (w.alloc (.cells cs 29))).alloc (Obj.cells ns 26)
  have hB2 := alloc_at (w.alloc (.cells cs 29)) (.cells ns 26)
  rw [hs1] at hB2
  exact ⟨(hA2.block _ (by simp) (by simp)).trans (alloc_at _ _), hB2, ((Kept.refl _ w).alloc _).trans hA2, by simp⟩

theorem Boxes.store {w W : World} {u0 u1 u2 u3 u4 u5 : Value} {ns : Array Value} (h : Boxes w W #[u0, u1, u2, u3, u4, u5] ns) (v0 v1 v2 v3 v4 v5 : Value) : Boxes w (store6 W w.heap.size v0 v1 v2 v3 v4 v5) #[v0, v1, v2, v3, v4, v5] ns := by
  have k := store6_kept W w.heap.size v0 v1 v2 v3 v4 v5
  exact ⟨store6_box h.1 _ _ _ _ _ _, (k.block _ h.2.2.2 (by omega)).trans h.2.1, h.2.2.1.then k fun i hi e => by omega, by have := k.size; have := h.2.2.2; omega⟩

def store3 (W : World) (b : Nat) (v2 v3 v4 : Value) : World := (((W.setCell ⟨b, 2, none⟩ v2).setCell ⟨b, 3, none⟩ v3).setCell ⟨b, 4, none⟩ v4).drew

theorem store3_kept (W : World) (b : Nat) (v2 v3 v4 : Value) : Kept (· = b) W (store3 W b v2 v3 v4) :=
  ((((Kept.refl (fun k => k = b) W).setCell (p := ⟨b, 2, none⟩) (fun _ => rfl) v2).setCell (p := ⟨b, 3, none⟩) (fun _ => rfl) v3).setCell (p := ⟨b, 4, none⟩) (fun _ => rfl) v4).drew

theorem Boxes.store3 {w W : World} {u0 u1 u2 u3 u4 u5 : Value} {ns : Array Value} (h : Boxes w W #[u0, u1, u2, u3, u4, u5] ns) (v2 v3 v4 : Value) : Boxes w (Ytffbfgmhfnbmfaa.store3 W w.heap.size v2 v3 v4) #[u0, u1, v2, v3, v4, u5] ns := by
  have k := store3_kept W w.heap.size v2 v3 v4
  refine ⟨?_, (k.block _ h.2.2.2 (by omega)).trans h.2.1, h.2.2.1.then k fun i hi e => by omega, by have := k.size; have := h.2.2.2; omega⟩
  have := setBox (setBox (setBox h.1 2 v2) 3 v3) 4 v4
  have h3 : (((W.setCell ⟨w.heap.size, 2, none⟩ v2).setCell ⟨w.heap.size, 3, none⟩ v3).setCell ⟨w.heap.size, 4, none⟩ v4).heap[w.heap.size]? = some (.cells #[u0, u1, v2, v3, v4, u5] 29) := by simpa using this
  exact h3

theorem putA_one (v : Ver) (hv : v.Ok) : putA st0 v = ⟨[some (512 - v.size, v)], 512 - v.size⟩ ∧ Wf ⟨[some (512 - v.size, v)], 512 - v.size⟩ := by
  have hl := hv.len
  have hs : v.size = 30 + v.data.length := rfl
  have e1 : putA st0 v = laidA st0 0 v := by
    unfold putA
    rw [if_neg (by show ¬ 512 < v.size + (4 + 4 * 1); omega)]
    rfl
  have e2 : laidA st0 0 v = ⟨[some (512 - v.size, v)], 512 - v.size⟩ := rfl
  have hW := wf0.laid (k := 0) (v := v) (.inl rfl) hv (by show v.size + (4 + 4 * 1) ≤ 512; omega) (by show 4 + 4 + v.size ≤ 512; omega)
  rw [e2] at hW
  exact ⟨e1.trans e2, hW⟩

def WithC {w W : World} {ns : Array Value} (v0 v1 v2 v3 v4 v5 : Value) (_ : Boxes w W #[v0, v1, v2, v3, v4, v5] ns) : Prop := Box6 W w.heap.size 29 v0 v1 v2 v3 v4 v5

theorem Boxes.six {w W : World} {v0 v1 v2 v3 v4 v5 : Value} {ns : Array Value} (h : Boxes w W #[v0, v1, v2, v3, v4, v5] ns) : Box6 W w.heap.size 29 v0 v1 v2 v3 v4 v5 := Box6.of h.1

set_option maxRecDepth 100000 in
set_option maxHeartbeats 4000000 in
theorem stamps_walk (r x y : Nat) (p s : Int) (a : Option Addr) (n c : Nat) (d : Nat → Nat) (xm : Nat) (np ns : Int) (w : World) (h : Bytes w a n d) (hnc : n ≤ c) :
    Calls Try.prog 4 #[tupV r x y p s (.slice a n c), .int .u64 xm, .agg #[.int .i64 np, .int .i64 ns]] w (Gives (.bool true) w) := by
  have HN := Lib.hid hnc
  obtain ⟨m, hm⟩ : ∃ m, m = min n 230 := ⟨_, rfl⟩
  have Hm := Lib.hid hm
  clear hnc hm
  have hB0 := Boxes.start w #[.int .u64 r, .int .u64 x, .int .u64 y, .int .i64 p, .int .i64 s, .slice a n c] #[.int .i64 np, .int .i64 ns]
  go_enter Try.func4, Try.ntmps4
  go_wp2_with fail
  generalize (w.alloc (.cells #[.int .u64 r, .int .u64 x, .int .u64 y, .int .i64 p, .int .i64 s, .slice a n c] 29)).alloc (.cells #[.int .i64 np, .int .i64 ns] 26) = w0 at hB0 ⊢
  refine (awake_any _).mono ?_
  rintro e w1 ⟨rfl, hF1⟩
  have hB1 := hB0.kept hF1
  clear hB0 hF1
  have X := hB1.six
  have c0 := X.c0
  have c1 := X.c1
  have c2 := X.c2
  have c3 := X.c3
  have c4 := X.c4
  have c5 := X.c5
  clear X
  go_wp2_with fail
  refine (few_any r x y p s a n c d _ (h.kept hB1.2.2.1 (by simp)) HN.out m Hm.out).mono ?_
  rintro e w2 ⟨a1, c1', rfl, hmc, hby, hnew, hsp, hF2⟩
  have hB2 := hB1.kept hF2
  clear c0 c1 c2 c3 c4 c5 hF2
  have X := hB2.six
  have c0 := X.c0
  have c1 := X.c1
  have c2 := X.c2
  have c3 := X.c3
  have c4 := X.c4
  have c5 := X.c5
  have z0 := X.z 0
  have z1 := X.z 1
  have z2 := X.z 2
  have z3 := X.z 3
  have z4 := X.z 4
  have z5 := X.z 5
  clear X
  have hB3 := hB2.store (.int .u64 r) (.int .u64 x) (.int .u64 y) (.int .i64 p) (.int .i64 s) (.slice (some a1) m c1')
  have hK3 := store6_kept w2 w.heap.size (.int .u64 r) (.int .u64 x) (.int .u64 y) (.int .i64 p) (.int .i64 s) (.slice (some a1) m c1')
  have hby3 := hby.kept hK3 (fun z hz => by cases hz; have := hB1.2.2.2; omega)
  have H3 := Lib.hid (And.intro hB3 hby3)
  have HA := Lib.hid (And.intro hmc (And.intro hsp (And.intro (show w.heap.size + 2 ≤ a1.block by have := hB1.2.2.2; omega) (show a1.block < (store6 w2 w.heap.size (.int .u64 r) (.int .u64 x) (.int .u64 y) (.int .i64 p) (.int .i64 s) (.slice (some a1) m c1')).heap.size from Nat.lt_of_lt_of_le hnew.2 hK3.size))))
  clear hB3 hK3 hby3 hby hB2 hB1 hmc hnew hsp
  go_wp2_with fail
  change Calls _ _ _ (store6 w2 w.heap.size (.int .u64 r) (.int .u64 x) (.int .u64 y) (.int .i64 p) (.int .i64 s) (.slice (some a1) m c1')) _
  generalize store6 w2 w.heap.size (.int .u64 r) (.int .u64 x) (.int .u64 y) (.int .i64 p) (.int .i64 s) (.slice (some a1) m c1') = w3 at H3 HA ⊢
  clear c0 c1 c2 c3 c4 c5 z0 z1 z2 z3 z4 z5
  obtain ⟨hB3, hby3⟩ := H3.out
  refine (new_enc _).mono ?_
  rintro e w4 ⟨rfl, hp4, hs4, hF4⟩
  have hB4 := hB3.kept hF4
  have hby4 := hby3.kept hF4 (by simp)
  have hpb : w.heap.size + 2 ≤ w3.heap.size := by have := hB3.2.2.2; omega
  generalize w3.heap.size = pb at hp4 hs4 hpb HA ⊢
  clear hB3 hby3 H3 hF4 hs4
  have X := hB4.six
  have c0 := X.c0
  have c1 := X.c1
  have c2 := X.c2
  have c3 := X.c3
  have c4 := X.c4
  have c5 := X.c5
  clear X
  go_wp2_with fail
  cases hR : rightB r x y p s m
  · -- it is refused
    refine (insert_form pb r x y p s (some a1) m c1' _ hR).mono ?_
    rintro e w5 ⟨rfl, hF5⟩
    have hB5 := hB4.kept hF5
    clear c0 c1 c2 c3 c4 c5 hF5 hB4
    have HR := Lib.hid hR
    clear hR
    have X := hB5.six
    have c0 := X.c0
    have c1 := X.c1
    have c2 := X.c2
    have c3 := X.c3
    have c4 := X.c4
    have c5 := X.c5
    clear X
    go_wp2_with fail
    refine (right_ref r x y p s (some a1) m c1' _).mono ?_
    rintro e w6 ⟨rfl, hF6⟩
    rw [HR.out]
    have hB6 := hB5.kept hF6
    clear c0 c1 c2 c3 c4 c5 hF6 hB5
    go_wp2_with fail
    go_ret
    exact ⟨rfl, hB6.2.2.1⟩
  · have hfar : farB p s = false := by
      unfold rightB at hR
      cases h : farB p s
      · rfl
      · rw [h] at hR; simp at hR
    obtain ⟨P, S, rfl, rfl, hP, hS⟩ := near p s hfar
    have hv := verOf_ok hby4.byte hR hP hS
    obtain ⟨v, hvv⟩ : ∃ v, verOf r x y P S m d = v := ⟨_, rfl⟩
    have hvr : v.row = r := by rw [← hvv]; rfl
    have hvx : v.x = x := by rw [← hvv]; rfl
    have hvy : v.y = y := by rw [← hvv]; rfl
    have hvP : v.P = P := by rw [← hvv]; rfl
    have hvS : v.S = S := by rw [← hvv]; rfl
    have hvl : v.data.length = m := by rw [← hvv]; exact verOf_len ..
    have hbyv : Bytes w4 (some a1) m (fun j => v.data.getD j 0) := hby4.congr (fun j hj => by rw [← hvv, verOf_get _ _ _ _ _ _ _ _ hj]) (by rw [hvv] at hv; exact getD_lt hv.byte)
    rw [hvv] at hv
    subst hvr hvx hvy hvP hvS
    have hins := insert_ok pb st0 v (some a1) m c1' _ _ hp4 wf0 hv hfar hvl hbyv (fun j => rfl) (by have := hv.len; show (m : Int) ≤ 474; omega)
    obtain ⟨hput, hW1⟩ := putA_one v hv
    have Hv := Lib.hid (And.intro hR hvv)
    have Hins := Lib.hid hins
    clear hR hvv hins hby4
    subst hvl
    refine Hins.out.mono ?_
    rintro e w5 ⟨rfl, hp5, hk5⟩
    rw [hput] at hp5
    have hB5 := hB4.kept1 hpb hk5
    have hby5 := hbyv.kept hk5 (fun z hz => by cases hz; have := HA.out.2.2.2; omega)
    clear c0 c1 c2 c3 c4 c5 hk5 hB4 hp4 hput hbyv
    obtain ⟨n0, n1⟩ := pair_cells hB5.2.1
    go_wp2_with fail
    have hWs := hW1
    by_cases hbad : 1099511627776 < xm ∨ farB np ns = true
    · refine (stamp_form pb _ (0 : Int) xm np ns _ hp5 hW1.fits hbad).mono ?_
      rintro e w6 ⟨rfl, hF6⟩
      have hB6 := hB5.kept hF6
      have hp6 := hp5.kept hF6 (by simp)
      have hby6 := hby5.kept hF6 (by simp)
      clear hF6 hB5 hp5 hby5 n0 n1
      obtain ⟨n0, n1⟩ := pair_cells hB6.2.1
      by_cases hx : (1099511627776 : Int) < (xm : Int)
      · have hx' := decide_eq_true hx
        have Hx := Lib.hid hx
        clear hbad hx
        go_wp2_with fail
        refine (get_enc pb 0 _ v ⟨[some (512 - v.size, v)], 512 - v.size⟩ _ hp6 hWs rfl).mono ?_
        rintro e w8 ⟨ag, cg, rfl, hbg, hgn, hgs, hF8⟩
        have hB8 := hB6.kept hF8
        have hp8 := hp6.kept hF8 (by simp)
        have hby8 := hby6.kept hF8 (by simp)
        have hlt8 : w.heap.size < w8.heap.size := by have := hB8.2.2.2; omega
        have X := hB8.six
        have c0 := X.c0
        have c1 := X.c1
        have c2 := X.c2
        have c3 := X.c3
        have c4 := X.c4
        have c5 := X.c5
        clear X
        have HG := Lib.hid (And.intro hbg (And.intro hgs (And.intro hB8 hby8)))
        have hus : usedA (⟨[some (512 - v.size, v)], 512 - v.size⟩ : St).slots = 1 := rfl
        clear hbg hgn hgs hF8 hby8
        go_wp2_with fail
        have hA9 := (Kept.refl (fun _ => False) w8).alloc (Obj.cells #[.int .u64 v.row, .int .u64 v.x, .int .u64 v.y, .int .i64 ((v.P : Int) - 1), .int .i64 ((v.S : Int) - 1), .slice (some ag) v.data.length cg] 29)
        have hs := tsame_any v.row v.x v.y ((v.P : Int) - 1) ((v.S : Int) - 1) (some ag) (some a1) v.data.length cg c1' _ _ _ (HG.out.1.kept hA9 (by simp)) (by simp) (HG.out.2.2.2.kept hA9 (by simp)) (by simp) (fun j _ => rfl)
        refine hs.mono ?_
        rintro e w10 ⟨rfl, hF10⟩
        have hp10 := (hp8.kept hA9 (by simp)).kept hF10 (by simp)
        have hB10 := (hB8.kept hA9).kept hF10
        clear hs c0 c1 c2 c3 c4 c5 hB8 hp8 hA9 hF10
        go_wp2_with fail
        refine (used_enc pb ⟨[some (512 - v.size, v)], 512 - v.size⟩ _ hp10 hWs).mono ?_
        rintro e w11 ⟨rfl, n11, rfl⟩
        rw [hus]
        go_wp2_with fail
        go_ret
        exact ⟨rfl, hB10.2.2.1.drewN n11⟩
      · have hx' := decide_eq_false hx
        have hfn : farB np ns = true := hbad.resolve_left (by omega)
        have Hx := Lib.hid (And.intro hx hfn)
        clear hbad hx hfn
        go_wp2_with fail
        refine (far_ref np ns _).mono ?_
        rintro e w7 ⟨rfl, hs7, hF7⟩
        rw [Hx.out.2]
        have hB7 := hB6.kept hF7
        have hp7 := hp6.kept hF7 (by simp)
        have hby7 := hby6.kept hF7 (by simp)
        clear hF7 hB6 hp6 hby6 n0 n1
        go_wp2_with fail
        refine (get_enc pb 0 _ v ⟨[some (512 - v.size, v)], 512 - v.size⟩ _ hp7 hWs rfl).mono ?_
        rintro e w8 ⟨ag, cg, rfl, hbg, hgn, hgs, hF8⟩
        have hB8 := hB7.kept hF8
        have hp8 := hp7.kept hF8 (by simp)
        have hby8 := hby7.kept hF8 (by simp)
        have hlt8 : w.heap.size < w8.heap.size := by have := hB8.2.2.2; omega
        have X := hB8.six
        have c0 := X.c0
        have c1 := X.c1
        have c2 := X.c2
        have c3 := X.c3
        have c4 := X.c4
        have c5 := X.c5
        clear X
        have HG := Lib.hid (And.intro hbg (And.intro hgs (And.intro hB8 hby8)))
        have hus : usedA (⟨[some (512 - v.size, v)], 512 - v.size⟩ : St).slots = 1 := rfl
        clear hbg hgn hgs hF8 hby8
        go_wp2_with fail
        have hA9 := (Kept.refl (fun _ => False) w8).alloc (Obj.cells #[.int .u64 v.row, .int .u64 v.x, .int .u64 v.y, .int .i64 ((v.P : Int) - 1), .int .i64 ((v.S : Int) - 1), .slice (some ag) v.data.length cg] 29)
        have hs := tsame_any v.row v.x v.y ((v.P : Int) - 1) ((v.S : Int) - 1) (some ag) (some a1) v.data.length cg c1' _ _ _ (HG.out.1.kept hA9 (by simp)) (by simp) (HG.out.2.2.2.kept hA9 (by simp)) (by simp) (fun j _ => rfl)
        refine hs.mono ?_
        rintro e w10 ⟨rfl, hF10⟩
        have hp10 := (hp8.kept hA9 (by simp)).kept hF10 (by simp)
        have hB10 := (hB8.kept hA9).kept hF10
        clear hs c0 c1 c2 c3 c4 c5 hB8 hp8 hA9 hF10
        go_wp2_with fail
        refine (used_enc pb ⟨[some (512 - v.size, v)], 512 - v.size⟩ _ hp10 hWs).mono ?_
        rintro e w11 ⟨rfl, n11, rfl⟩
        rw [hus]
        go_wp2_with fail
        go_ret
        exact ⟨rfl, hB10.2.2.1.drewN n11⟩
    · have hx : ¬ (1099511627776 : Int) < (xm : Int) := by omega
      have hx' := decide_eq_false hx
      have hfn : farB np ns = false := by cases h : farB np ns <;> simp_all
      obtain ⟨P', S', rfl, rfl, hP', hS'⟩ := near np ns hfn
      have hxm : xm ≤ 1099511627776 := by omega
      refine (stamp_enc pb 0 _ v ⟨[some (512 - v.size, v)], 512 - v.size⟩ xm P' S' _ hp5 hW1 rfl hxm hP' hS' hfn).mono ?_
      rintro e w6 ⟨rfl, hp6, hk6⟩
      have hB6 := hB5.kept1 hpb hk6
      have hby6 := hby5.kept hk6 (fun z hz => by cases hz; have := HA.out.2.2.2; omega)
      have hWs := hW1.stamp (k := 0) rfl hxm hP' hS'
      have hst' : stampA ⟨[some (512 - v.size, v)], 512 - v.size⟩ 0 xm P' S' = ⟨[some (512 - v.size, v.stamp xm P' S')], 512 - v.size⟩ := rfl
      rw [hst'] at hWs hp6
      have Hx := Lib.hid (And.intro hx hfn)
      clear hbad hx hfn hk6 hB5 hp5 hby5 n0 n1 hst'
      obtain ⟨n0, n1⟩ := pair_cells hB6.2.1
      go_wp2_with fail
      refine (far_ref ((P' : Int) - 1) ((S' : Int) - 1) _).mono ?_
      rintro e w7 ⟨rfl, hs7, hF7⟩
      rw [Hx.out.2]
      have hB7 := hB6.kept hF7
      have hp7 := hp6.kept hF7 (by simp)
      have hby7 := hby6.kept hF7 (by simp)
      clear hF7 hB6 hp6 hby6 n0 n1
      obtain ⟨n0, n1⟩ := pair_cells hB7.2.1
      have X := hB7.six
      have c2 := X.c2
      have c3 := X.c3
      have c4 := X.c4
      have z2 := X.z 2
      have z3 := X.z 3
      have z4 := X.z 4
      clear X
      go_wp2_with fail
      go_region
      have hK9 := store3_kept w7 w.heap.size (.int .u64 xm) (.int .i64 ((P' : Int) - 1)) (.int .i64 ((S' : Int) - 1))
      have hB9 := hB7.store3 (.int .u64 xm) (.int .i64 ((P' : Int) - 1)) (.int .i64 ((S' : Int) - 1))
      have hp9 := hp7.kept hK9 (by omega)
      have hby9 := hby7.kept hK9 (fun z hz => by cases hz; have := HA.out.2.2.1; omega)
      clear hK9 hB7 hp7 hby7 c2 c3 c4 z2 z3 z4 n0 n1
      change Exit.then _ _ _ _ (Ytffbfgmhfnbmfaa.store3 w7 w.heap.size (.int .u64 xm) (.int .i64 ((P' : Int) - 1)) (.int .i64 ((S' : Int) - 1)))
      generalize Ytffbfgmhfnbmfaa.store3 w7 w.heap.size (.int .u64 xm) (.int .i64 ((P' : Int) - 1)) (.int .i64 ((S' : Int) - 1)) = w9 at *
      go_wp2_with fail
      refine (get_enc pb 0 _ (v.stamp xm P' S') ⟨[some (512 - v.size, v.stamp xm P' S')], 512 - v.size⟩ _ hp9 hWs rfl).mono ?_
      rintro e w8 ⟨ag, cg, rfl, hbg, hgn, hgs, hF8⟩
      have hB8 := hB9.kept hF8
      have hp8 := hp9.kept hF8 (by simp)
      have hby8 := hby9.kept hF8 (by simp)
      have hlt8 : w.heap.size < w8.heap.size := by have := hB8.2.2.2; omega
      have X := hB8.six
      have c0 := X.c0
      have c1 := X.c1
      have c2 := X.c2
      have c3 := X.c3
      have c4 := X.c4
      have c5 := X.c5
      clear X
      have HG := Lib.hid (And.intro hbg (And.intro hgs (And.intro hB8 hby8)))
      have hus : usedA (⟨[some (512 - v.size, v.stamp xm P' S')], 512 - v.size⟩ : St).slots = 1 := rfl
      clear hbg hgn hgs hF8 hby8
      go_wp2_with fail
      have hA9 := (Kept.refl (fun _ => False) w8).alloc (Obj.cells #[.int .u64 (v.stamp xm P' S').row, .int .u64 (v.stamp xm P' S').x, .int .u64 (v.stamp xm P' S').y, .int .i64 (((v.stamp xm P' S').P : Int) - 1), .int .i64 (((v.stamp xm P' S').S : Int) - 1), .slice (some ag) (v.stamp xm P' S').data.length cg] 29)
      have hs := tsame_any (v.stamp xm P' S').row (v.stamp xm P' S').x (v.stamp xm P' S').y (((v.stamp xm P' S').P : Int) - 1) (((v.stamp xm P' S').S : Int) - 1) (some ag) (some a1) (v.stamp xm P' S').data.length cg c1' _ _ _ (HG.out.1.kept hA9 (by simp)) (by simp) (HG.out.2.2.2.kept hA9 (by simp)) (by simp) (fun j _ => rfl)
      refine hs.mono ?_
      rintro e w10 ⟨rfl, hF10⟩
      have hp10 := (hp8.kept hA9 (by simp)).kept hF10 (by simp)
      have hB10 := (hB8.kept hA9).kept hF10
      clear hs c0 c1 c2 c3 c4 c5 hB8 hp8 hA9 hF10
      go_wp2_with fail
      refine (used_enc pb ⟨[some (512 - v.size, v.stamp xm P' S')], 512 - v.size⟩ _ hp10 hWs).mono ?_
      rintro e w11 ⟨rfl, n11, rfl⟩
      rw [hus]
      go_wp2_with fail
      go_ret
      exact ⟨rfl, hB10.2.2.1.drewN n11⟩

end Go.Proofs.Ytffbfgmhfnbmfaa
