/- The reference's Stamp. -/
import Derived.Test.YtffbfgmhfnbmfaaRc
namespace Go.Proofs.Ytffbfgmhfnbmfaa
open Go.RowKit

/-- A slot of the reference's page has turned. -/
theorem RefIs.put {P : Nat → Prop} {w w' : World} {R B c : Nat} {l : List Slot} {start' : Nat} {dv : Nat → Value} {g g' : Nat → Value} {k : Nat} {s' : Slot} {dv' : Value}
    (hbox : w'.heap[R]? = some (.cells #[.slice (some ⟨B, 0, none⟩) l.length c, .int .i64 start'] 70)) (hp : P R) (hc : l.length ≤ c) (hBR : B ≠ R) (hPB : P B)
    (hg : ∀ k j, k < l.length → j < 8 → g (k * 8 + j) = slotV (l.getD k none) (dv k) j) (hd : DataAt P w R (.slice (some ⟨B, 0, none⟩) l.length c) l dv)
    (hk : k < l.length) (hK : Kept (fun b => b = R ∨ b = B) w w') (hrow : w'.rowIs B 84 (c * 8) g') (hin : ∀ j, j < 8 → g' (k * 8 + j) = slotV s' dv' j) (hout : ∀ i, i < k * 8 ∨ k * 8 + 8 ≤ i → g' i = g i)
    (hdat : ∀ f ver, s' = some (f, ver) → ∃ a c, dv' = .slice (some a) ver.data.length c ∧ ver.data.length ≤ c ∧ Bytes w' (some a) ver.data.length (fun j => ver.data.getD j 0) ∧ a.spot = none ∧ a.block < w'.heap.size ∧ P a.block ∧ a.block ≠ R ∧ a.block ≠ B) :
    RefIs P w' R (.slice (some ⟨B, 0, none⟩) l.length c) ⟨l.set k s', start'⟩ := by
  refine ⟨hbox, hp, fun i => if i = k then dv' else dv i, .inr ⟨B, c, g', by rw [List.length_set], by rw [List.length_set]; exact hc, hBR, hPB, hrow, fun i j hi hj => ?_⟩, fun i f ver hi => ?_⟩
  · rw [List.length_set] at hi
    by_cases e : i = k
    · subst e
      rw [hin j hj]
      simp only [if_pos]
      rw [List.getD_eq_getElem?_getD, List.getElem?_set_self hi]
      rfl
    · rw [hout _ (by omega), hg i j hi hj]
      simp only [if_neg e]
      rw [List.getD_eq_getElem?_getD (l := l.set k s'), List.getElem?_set_ne (fun h => e h.symm), ← List.getD_eq_getElem?_getD]
  · rcases set_get hi with ⟨rfl, e⟩ | ⟨e, hi'⟩
    · obtain ⟨a, c', h1, h2, h3, h4, h5, h6, h7, h8⟩ := hdat f ver e.symm
      exact ⟨a, c', by simp only [if_pos]; exact h1, h2, h3, h4, h5, h6, h7, fun h => h8 (Option.some.inj h)⟩
    · obtain ⟨a, c', h1, h2, h3, h4, h5, h6, h7, h8⟩ := hd i f ver hi'
      refine ⟨a, c', by simp only [if_neg e]; exact h1, h2, h3.kept hK (fun z hz => ?_), h4, Nat.lt_of_lt_of_le h5 hK.size, h6, h7, h8⟩
      cases hz
      rintro (h | h)
      · exact h7 h
      · exact h8 (congrArg some h)

/-- .. by stores into its row alone. -/
theorem RefIs.put1 {P : Nat → Prop} {w w' : World} {R B c : Nat} {st : St} {dv : Nat → Value} {g g' : Nat → Value} {k f : Nat} {ver ver' : Ver}
    (hbox : w.heap[R]? = some (.cells #[.slice (some ⟨B, 0, none⟩) st.slots.length c, .int .i64 st.start] 70)) (hp : P R) (hc : st.slots.length ≤ c) (hBR : B ≠ R) (hPB : P B)
    (hg : ∀ k j, k < st.slots.length → j < 8 → g (k * 8 + j) = slotV (st.slots.getD k none) (dv k) j) (hd : DataAt P w R (.slice (some ⟨B, 0, none⟩) st.slots.length c) st.slots dv)
    (hk : st.slots[k]? = some (some (f, ver))) (hK : Kept (· = B) w w') (hrow : w'.rowIs B 84 (c * 8) g') (f' : Nat) (hdata : ver'.data = ver.data)
    (hin : ∀ j, j < 8 → g' (k * 8 + j) = slotV (some (f', ver')) (dv k) j) (hout : ∀ i, i < k * 8 ∨ k * 8 + 8 ≤ i → g' i = g i) :
    RefIs P w' R (.slice (some ⟨B, 0, none⟩) st.slots.length c) ⟨st.slots.set k (some (f', ver')), st.start⟩ := by
  have hR := (Array.getElem?_eq_some_iff.1 hbox).1
  refine RefIs.put ((hK.block R hR (fun h => hBR h.symm)).trans hbox) hp hc hBR hPB hg hd (List.getElem?_eq_some_iff.1 hk).1 (hK.mono fun _ _ h => .inr h) hrow hin hout fun f2 ver2 e => ?_
  simp only [Option.some.injEq, Prod.mk.injEq] at e
  obtain ⟨_, rfl⟩ := e
  rw [hdata]
  obtain ⟨a, c', h1, h2, h3, h4, h5, h6, h7, h8⟩ := hd k f ver hk
  have hne : a.block ≠ B := fun h => h8 (congrArg some h)
  exact ⟨a, c', h1, h2, h3.kept hK (fun z hz => by cases hz; exact hne), h4, Nat.lt_of_lt_of_le h5 hK.size, h6, h7, hne⟩

def RTurned (P : Nat → Prop) (R : Nat) (v : Value) (st' : St) (r : Value) (w : World) (e : Ending) (w' : World) : Prop :=
  e = .returned r ∧ RefIs P w' R v st' ∧ Kept (fun b => some b = v.ownBlock) w w'

set_option maxRecDepth 100000 in
set_option maxHeartbeats 1000000 in
theorem rstamp_nil (k : Int) (x : Nat) (p s : Int) (w : World) : Calls Try.prog 51 #[.pointer none, .int .i64 k, .int .u64 x, .agg #[.int .i64 p, .int .i64 s]] w (Gives (.int .i64 15) w) := by
  go_enter Try.func51, Try.ntmps51
  go_wp2_with fail
  go_ret
  exact ⟨rfl, (Kept.refl _ w).alloc _⟩

set_option maxRecDepth 100000 in
set_option maxHeartbeats 1000000 in
theorem rstamp_form (R : Nat) (k : Int) (x : Nat) (p s : Int) (w : World) (h : 1099511627776 < x ∨ farB p s = true) :
    Calls Try.prog 51 #[.pointer (some ⟨R, 0, none⟩), .int .i64 k, .int .u64 x, .agg #[.int .i64 p, .int .i64 s]] w (Gives (.int .i64 3) w) := by
  have hA := (Kept.refl (fun _ => False) w).alloc (.cells #[.int .i64 p, .int .i64 s] 26)
  by_cases hx : (1099511627776 : Int) < (x : Int)
  · have hx' := decide_eq_true hx
    have HA := Lib.hid hA
    clear h hx hA
    go_enter Try.func51, Try.ntmps51
    go_wp2_with fail
    go_ret
    exact ⟨rfl, HA.out⟩
  · have hx' := decide_eq_false hx
    have hf : farB p s = true := h.resolve_left (by omega)
    have HA := Lib.hid (And.intro hA hf)
    clear h hx hf hA
    go_enter Try.func51, Try.ntmps51
    go_wp2_with fail
    refine (far_ref p s _).mono ?_
    rintro e w1 ⟨rfl, hs1, hF1⟩
    rw [HA.out.2]
    go_wp2_with fail
    go_ret
    exact ⟨rfl, HA.out.1.trans hF1⟩

set_option maxRecDepth 100000 in
set_option maxHeartbeats 1000000 in
theorem rstamp_none (R : Nat) (k : Int) (x : Nat) (p s : Int) (w : World) (hx : x ≤ 1099511627776) (hf : farB p s = false) (hg : ∀ w', Fresh w w' → Calls Try.prog 35 #[.pointer (some ⟨R, 0, none⟩), .int .i64 k] w' (NoGet w')) :
    Calls Try.prog 51 #[.pointer (some ⟨R, 0, none⟩), .int .i64 k, .int .u64 x, .agg #[.int .i64 p, .int .i64 s]] w (Gives (.int .i64 15) w) := by
  have hA := (Kept.refl (fun _ => False) w).alloc (.cells #[.int .i64 p, .int .i64 s] 26)
  have hx' := decide_eq_false (show ¬ (1099511627776 : Int) < (x : Int) by omega)
  have HA := Lib.hid (And.intro hA (And.intro hf hg))
  clear hx hf hA hg
  go_enter Try.func51, Try.ntmps51
  go_wp2_with fail
  refine (far_ref p s _).mono ?_
  rintro e w1 ⟨rfl, hs1, hF1⟩
  rw [HA.out.2.1]
  have hF2 := HA.out.1.trans hF1
  go_wp2_with fail
  refine (HA.out.2.2 _ hF2).mono ?_
  rintro e w2 ⟨rfl, hF3⟩
  have hF4 := hF2.trans hF3
  go_wp2_with fail
  go_ret
  exact ⟨rfl, hF4.alloc _⟩

set_option maxRecDepth 100000 in
set_option maxHeartbeats 2000000 in
theorem rstamp_ok (P : Nat → Prop) (R : Nat) (v : Value) (st : St) (w : World) (k f : Nat) (ver : Ver) (x X S : Nat) (hw : RefIs P w R v st) (hk : st.slots[k]? = some (some (f, ver)))
    (hx : x ≤ 1099511627776) (hf : farB ((X : Int) - 1) ((S : Int) - 1) = false) :
    Calls Try.prog 51 #[.pointer (some ⟨R, 0, none⟩), .int .i64 k, .int .u64 x, .agg #[.int .i64 ((X : Int) - 1), .int .i64 ((S : Int) - 1)]] w (RTurned P R v (stampA st k x X S) (.int .i64 0) w) := by
  have hA := (Kept.refl (fun _ => False) w).alloc (.cells #[.int .i64 ((X : Int) - 1), .int .i64 ((S : Int) - 1)] 26)
  have hBx := alloc_at w (.cells #[.int .i64 ((X : Int) - 1), .int .i64 ((S : Int) - 1)] 26)
  have hsz : w.heap.size < (w.alloc (.cells #[.int .i64 ((X : Int) - 1), .int .i64 ((S : Int) - 1)] 26)).heap.size := by simp
  have hx' := decide_eq_false (show ¬ (1099511627776 : Int) < (x : Int) by omega)
  have HA := Lib.hid (And.intro hA (And.intro hf (And.intro hw (And.intro hBx (And.intro hk hsz)))))
  clear hx hf hA hw hBx hk hsz
  go_enter Try.func51, Try.ntmps51
  go_wp2_with fail
  refine (far_ref _ _ _).mono ?_
  rintro e w1 ⟨rfl, hs1, hF1⟩
  obtain ⟨hA, hf, hw, hBx, hk, hsz⟩ := HA.out
  rw [hf]
  have hF2 := hA.trans hF1
  have hB1 := (hF1.block w.heap.size hsz (by simp)).trans hBx
  have hsz1 := Nat.lt_of_lt_of_le hsz hF1.size
  have hg := rget_has P R v st w1 k f ver (hw.fresh hF2) hk
  have HB := Lib.hid (And.intro hF2 (And.intro hB1 (And.intro hsz1 hg)))
  clear hA hf hw hBx hk hsz hF2 hB1 hsz1 hg hF1
  go_wp2_with fail
  refine HB.out.2.2.2.mono ?_
  rintro e w2 ⟨da, dc, ⟨rfl, hF3⟩, _⟩
  obtain ⟨hF2, hB1, hsz1, hg⟩ := HB.out
  have hB2 := (hF3.block w.heap.size hsz1 (by simp)).trans hB1
  have HC := Lib.hid (And.intro (hF2.trans hF3) (And.intro hB2 (Nat.lt_of_lt_of_le hsz1 hF3.size)))
  clear hF2 hB1 hsz1 hg hF3 hB2 HB
  go_wp2_with fail
  obtain ⟨hF2, hB2, hsz2⟩ := HC.out
  have hA3 := (Kept.refl (fun _ => False) w2).alloc (.cells #[.int .u64 ver.row, .int .u64 ver.x, .int .u64 ver.y, .int .i64 ((ver.P : Int) - 1), .int .i64 ((ver.S : Int) - 1), .slice (some da) ver.data.length dc] 29)
  have hB3 := (hA3.block w.heap.size hsz2 (by simp)).trans hB2
  have hF3 := hF2.trans hA3
  generalize w2.alloc (.cells #[.int .u64 ver.row, .int .u64 ver.x, .int .u64 ver.y, .int .i64 ((ver.P : Int) - 1), .int .i64 ((ver.S : Int) - 1), .slice (some da) ver.data.length dc] 29) = w3 at hB3 hF3 ⊢
  obtain ⟨_, _, hw, _, hk, _⟩ := HA.out
  clear hF2 hB2 hsz2 hA3 HC HA
  have n0 := boxCell hB3 0
  have n1 := boxCell hB3 1
  have hkl : k < st.slots.length := (List.getElem?_eq_some_iff.1 hk).1
  have hRlt := hw.lt
  have hown : ∀ b, v.ownBlock = some b → b < w.heap.size := fun b hb => by obtain ⟨_, _, dv0, hr0, _⟩ := hw; exact (hr0.own hb).1
  obtain ⟨hb, hp, dv, hr, hd⟩ := hw.fresh hF3
  rcases hr with ⟨_, e0⟩ | ⟨B, c, g, rfl, h1, h2, h3, h4, h5⟩
  · rw [e0] at hkl; cases hkl
  have b0 := boxCell hb 0
  have X := Cells8.of fun j hj => slot_cells h4 h1 h5 hkl j hj
  rw [getD_of hk] at X
  obtain ⟨c0, c1, c2, c3, c4, c5, c6, c7⟩ := X.has
  have z3 := h4.frozen (k * 8 + 3)
  have z4 := h4.frozen (k * 8 + 4)
  have z5 := h4.frozen (k * 8 + 5)
  have hnB := hown B rfl
  clear hown
  have hlt' : (k : Int) < (st.slots.length : Int) := by omega
  have HD := Lib.hid (And.intro hF3 (And.intro hp (And.intro hd (And.intro h1 (And.intro h2 (And.intro h3 (And.intro h4 (And.intro h5 (And.intro hk (And.intro hb hRlt))))))))))
  clear hF3 hp hd h1 h2 h3 h4 h5 hk hb hB3 X hw
  go_wp2_with fail
  go_region
  go_wp2_with fail
  go_ret
  obtain ⟨hF3, hp, hd, h1, h2, h3, h4, h5, hk, hb, hRlt⟩ := HD.out
  have hK := ((((Kept.refl (fun b => b = B) w3).setCell (p := ⟨B, k * 8 + 1 + 2, none⟩) (fun _ => rfl) (.int .u64 x)).setCell (p := ⟨B, k * 8 + 1 + 3, none⟩) (fun _ => rfl) (.int .i64 ((X : Int) - 1))).setCell (p := ⟨B, k * 8 + 1 + 3 + 1, none⟩) (fun _ => rfl) (.int .i64 ((S : Int) - 1))).drew
  have hrow := (((h4.set (k * 8 + 1 + 2) (.int .u64 x)).set (k * 8 + 1 + 3) (.int .i64 ((X : Int) - 1))).set (k * 8 + 1 + 3 + 1) (.int .i64 ((S : Int) - 1))).drew
  refine ⟨rfl, ?_, (hF3.mono fun _ _ h => h.elim).then hK fun i hi e => congrArg some e⟩
  rw [stampA_eq hk]
  refine RefIs.put1 hb hp h1 h2 h3 h5 hd hk hK hrow f rfl (fun j hj => ?_) (fun i hi => ?_)
  · have hgk := fun j hj => (h5 k j hkl hj).trans (by rw [getD_of hk])
    match j, hj with
    | 0, _ => rw [if_neg (by omega), if_neg (by omega), if_neg (by omega), hgk 0 (by omega)]; rfl
    | 1, _ => rw [if_neg (by omega), if_neg (by omega), if_neg (by omega), hgk 1 (by omega)]; rfl
    | 2, _ => rw [if_neg (by omega), if_neg (by omega), if_neg (by omega), hgk 2 (by omega)]; rfl
    | 3, _ => rw [if_neg (by omega), if_neg (by omega), if_pos (by omega)]; rfl
    | 4, _ => rw [if_neg (by omega), if_pos (by omega)]; rfl
    | 5, _ => rw [if_pos (by omega)]; rfl
    | 6, _ => rw [if_neg (by omega), if_neg (by omega), if_neg (by omega), hgk 6 (by omega)]; rfl
    | 7, _ => rw [if_neg (by omega), if_neg (by omega), if_neg (by omega), hgk 7 (by omega)]; rfl
  · rw [if_neg (by omega), if_neg (by omega), if_neg (by omega)]
end Go.Proofs.Ytffbfgmhfnbmfaa
