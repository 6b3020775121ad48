/- A law's row out of a contract: what came in reads as it did. -/
import Derived.Test.YtffbfgmhfnbmfaaRows
import Derived.Test.YtffbfgmhfnbmfaaX4
import Derived.ProofKit
import Derived.OpenShut
import Derived.Carry
namespace Go.Proofs.Ytffbfgmhfnbmfaa
open Go.RowKit Go.ChangeShapes Go.WideShapes Go.ChangeAt

section
variable {H : Type} {enc : TypeId × Value → H} {P : Program}

theorem trodAll_stays (hl : laidOutB P = true) {W W' : World} (hb : Below W.heap.size W W') : ∀ {ts : List TypeId} {vs : List Value} {ds : List (DataW H)} {ps : List MemPlace},
    (∀ t ∈ ts, P.readableRec t = true ∧ t < P.types.size) → DataW.TrodAll enc P W 0 (fun _ => true) true ts vs ds ps → (∀ x ∈ ps, x.block < W.heap.size) →
    DataW.TrodAll enc P W' 0 (fun b => decide (b < W.heap.size)) true ts vs ds ps := by
  intro ts
  induction ts with
  | nil =>
    intro vs ds ps _ h _
    obtain ⟨rfl, rfl, rfl⟩ := trodAll_nil h
    exact trodAll_mk0
  | cons t ts ih =>
    intro vs ds ps hts h hlt
    obtain ⟨v, vs', d, ds', p, ps', rfl, rfl, rfl, h1, h2⟩ := trodAll_cons h
    exact trodAll_cons_mk (Below.trod hl (hts t (List.mem_cons_self ..)).1 (hts t (List.mem_cons_self ..)).2 h1 hb (fun x hx => hlt x (List.mem_append_left _ hx)))
      (ih (fun t' ht' => hts t' (List.mem_cons_of_mem _ ht')) h2 (fun x hx => hlt x (List.mem_append_right _ hx)))

theorem fresh_below {W W' : World} (h : Fresh W W') : Below W.heap.size W W' := Kept.below h (Nat.le_refl _) fun _ hk => hk.elim

/-- A law that answers true and leaves memory alone meets its post. -/
theorem law_post {f : Func} {s : ChangeSpec} {apart fresh handsOn again : Bool} {W W' : World} {args : Array Value} {ds gs : List (DataW H)} {before : List MemPlace} {tb : TypeId}
    (hl : laidOutB P = true) (hts : ∀ t ∈ f.params.toList, P.readableRec t = true ∧ t < P.types.size) (hr : f.resultTypes = #[tb]) (hu : P.underlying tb = some .bool) (hvars : s.vars = [])
    (hW : DataW.Whole enc P f.params.toList s.vars apart W args.toList ds gs before) (hfn : s.fn H (ds ++ gs) = { results := [.lit (.bool true)], args := ds })
    (hF : Fresh W W') : s.post enc P f apart fresh handsOn again W args (.bool true) W' := by
  have hb := fresh_below hF
  have hlt := fun p hp => hW.lt p hp
  have hW0 := hW
  obtain ⟨p, q, hA, hV, rfl, hz, hn⟩ := hW
  rw [hvars] at hV
  obtain ⟨rfl, rfl⟩ := trodVars_none hV
  rw [List.append_nil] at hW0 hlt hz hn hfn
  have hA' := trodAll_stays hl hb hts hA (fun x hx => hlt x hx)
  have hA2 : ∀ sp : Nat → Bool, (∀ x ∈ p, sp x.block = true) → DataW.TrodAll enc P W' 0 sp true f.params.toList args.toList ds p := fun sp hsp => by
    have key : ∀ {ts : List TypeId} {vs : List Value} {ds : List (DataW H)} {ps : List MemPlace}, (∀ t ∈ ts, P.readableRec t = true ∧ t < P.types.size) → DataW.TrodAll enc P W 0 (fun _ => true) true ts vs ds ps →
        (∀ x ∈ ps, x.block < W.heap.size) → (∀ x ∈ ps, sp x.block = true) → DataW.TrodAll enc P W' 0 sp true ts vs ds ps := by
      intro ts
      induction ts with
      | nil =>
        intro vs ds ps _ h _ _
        obtain ⟨rfl, rfl, rfl⟩ := trodAll_nil h
        exact trodAll_mk0
      | cons t ts ih =>
        intro vs ds ps hts h hlt hsp
        obtain ⟨v, vs', d, ds', p, ps', rfl, rfl, rfl, h1, h2⟩ := trodAll_cons h
        exact trodAll_cons_mk (WideElems.Trod_stays hl (hts t (List.mem_cons_self ..)).1 (hts t (List.mem_cons_self ..)).2 h1 (fun x hx => hb.same (hlt x (List.mem_append_left _ hx))) (fun x hx => hsp x (List.mem_append_left _ hx)))
          (ih (fun t' ht' => hts t' (List.mem_cons_of_mem _ ht')) h2 (fun x hx => hlt x (List.mem_append_right _ hx)) (fun x hx => hsp x (List.mem_append_right _ hx)))
    exact key hts hA (fun x hx => hlt x hx) hsp
  have hres : ∀ (b : Nat) (sp : Nat → Bool) (hd : Bool), DataW.TrodAll enc P W' b sp hd f.resultTypes.toList ((Value.bool true).resultList f.resultTypes.size) (s.fn H (ds ++ [])).results [] := by
    intro b sp hd
    rw [List.append_nil, hfn, hr]
    exact trodAll_cons_mk (shut_bool hu _) trodAll_mk0
  have hargs : (s.fn H (ds ++ [])).args = ds := by rw [List.append_nil, hfn]
  have hvs : (s.fn H (ds ++ [])).vars = [] := by rw [List.append_nil, hfn]
  refine ⟨ds, [], p, [], p, [], hW0, hres _ _ _, by rw [hargs]; exact hA', by rw [hvars, hvs]; exact rfl, ?_, fun _ => ⟨?_, ?_⟩⟩
  · exact hb.frame _
  · intro j t r hj hr'
    rw [hr] at hj hr'
    have hj0 : j = 0 := by
      have := (Array.getElem?_eq_some_iff.1 hj).1
      simp at this; omega
    subst hj0
    simp only [List.getElem?_toArray, List.getElem?_cons_zero, Option.some.injEq] at hj
    subst hj
    have hr2 : r = .bool true := by
      have : ((Value.bool true).resultList (#[tb] : Array TypeId).size)[0]? = some (.bool true) := rfl
      rw [this] at hr'
      exact (Option.some.inj hr').symm
    rw [hr2]
    exact okWide_bool_mk hu _
  · refine ⟨[.lit (.bool true)] ++ ds, [], p, ⟨[] ++ p, [], trodAll_append (hA2 _ (fun _ _ => rfl)) ?_, by rw [hvars]; exact rfl, by simp, ?_, ?_⟩, fun x hx _ => hx⟩
    · have := hres 0 (fun _ => true) true
      rw [List.append_nil, hfn] at this
      exact this
    · intro b off hp
      rw [hb.frozen (p := ⟨b, off, none⟩) (hlt _ hp)]
      exact hz b off hp
    · exact hn
end

/-! The arguments. -/
section
variable {H : Type} {enc : TypeId × Value → H} {W : World} {base : Nat} {spare : Nat → Bool} {held : Bool}

theorem cell_lt {W : World} {a : Addr} {v : Value} (h : W.cell? a = some v) : a.block < W.heap.size ∧ a.spot = none := by
  unfold World.cell? at h
  split at h
  · rename_i c e fr hb
    refine ⟨(Array.getElem?_eq_some_iff.1 hb).1, ?_⟩
    split at h
    · cases h
    · rename_i hs; simpa using hs
  · cases h

/-- A slice of bytes that came in. -/
theorem open_bytes {fuel : Nat} {cs : List Value} {x : DataW H × List MemPlace} (h : DataW.trod enc Try.prog W base (fun _ => true) held fuel 22 cs = some x) :
    ∃ a n c d, cs = [.slice a n c] ∧ Bytes W a n d ∧ n ≤ c ∧ c ≤ maxLen ∧ (a = none → n = 0) := by
  rcases open_ints und22 und5 (by kernel_rfl) h with ⟨rfl, rfl⟩ | ⟨a, len, cap, zs, rfl, _, hl, hm, hz, rfl, hc, hwf⟩
  · exact ⟨none, 0, 0, fun _ => 0, rfl, .none _ _ (fun _ => by omega), Nat.le_refl _, Nat.zero_le _, fun _ => rfl⟩
  · rw [if_pos rfl] at hz
    have hb : ∀ i, (zs.getD i 0).toNat < 256 ∧ 0 ≤ zs.getD i 0 := by
      intro i
      by_cases hi : i < zs.length
      · have := hwf zs[i] (List.getElem_mem hi)
        rw [List.getD_eq_getElem?_getD, List.getElem?_eq_getElem hi, Option.getD_some]
        have h2 : 0 ≤ zs[i] ∧ zs[i] ≤ 255 := by simpa [Lit.wf, IntKind.min, IntKind.max, IntKind.signed, IntKind.bits] using this
        omega
      · rw [List.getD_eq_getElem?_getD, List.getElem?_eq_none (by omega)]
        simp
    refine ⟨some a, len, cap, fun i => (zs.getD i 0).toNat, rfl, ⟨fun j => (hb j).1, ?_⟩, hl, hm, fun h => by cases h⟩
    by_cases h0 : len = 0
    · exact .inl h0
    · right
      have h1 := hc 0 (by omega)
      rw [Addr.add, if_pos rfl] at h1
      obtain ⟨hlt, hsp⟩ := cell_lt h1
      obtain ⟨ab, ao, asp⟩ := a
      simp only at hsp
      subst hsp
      refine ⟨ab, ao, rfl, hlt, fun j hj => ?_⟩
      have := hc j (by omega)
      rw [Addr.add_lit] at this
      rw [this]
      congr 2
      have := (hb j).2
      omega


theorem cells29 : Try.prog.cellsOf 29 = 6 := by kernel_rfl
theorem cells26 : Try.prog.cellsOf 26 = 2 := by kernel_rfl
theorem cells24 : Try.prog.cellsOf 24 = 1 := by kernel_rfl
theorem cells22 : Try.prog.cellsOf 22 = 1 := by kernel_rfl
theorem cells3 : Try.prog.cellsOf 3 = 1 := by kernel_rfl

def I64 (n : Int) : Prop := -9223372036854775808 ≤ n ∧ n ≤ 9223372036854775807
def U64 (n : Nat) : Prop := n < 18446744073709551616

theorem wf_i64 {n : Int} (h : (Lit.int .i64 n).wf = true) : I64 n := by
  have : -9223372036854775808 ≤ n ∧ n ≤ 9223372036854775807 := by simpa [Lit.wf, IntKind.min, IntKind.max, IntKind.signed, IntKind.bits] using h
  exact this

theorem wf_u64 {n : Int} (h : (Lit.int .u64 n).wf = true) : ∃ m : Nat, n = (m : Int) ∧ U64 m := by
  have : 0 ≤ n ∧ n ≤ 18446744073709551615 := by simpa [Lit.wf, IntKind.min, IntKind.max, IntKind.signed, IntKind.bits] using h
  exact ⟨n.toNat, by omega, by unfold U64; omega⟩

theorem wf_u8 {n : Int} (h : (Lit.int .u8 n).wf = true) : ∃ m : Nat, n = (m : Int) ∧ m < 256 := by
  have : 0 ≤ n ∧ n ≤ 255 := by simpa [Lit.wf, IntKind.min, IntKind.max, IntKind.signed, IntKind.bits] using h
  exact ⟨n.toNat, by omega, by omega⟩

set_option maxRecDepth 1000000 in
theorem trod_tid {fuel : Nat} {cs : List Value} {x : DataW H × List MemPlace} (h : DataW.trod enc Try.prog W base spare held fuel 26 cs = some x) :
    ∃ p s : Int, cs = [.int .i64 p, .int .i64 s] ∧ I64 p ∧ I64 s := by
  obtain ⟨y0, y1, n, rfl, hl, h0, h1⟩ := trod_struct2 Try.underlying26 h
  rw [cells26] at hl
  match cs, hl with
  | [c0, c1], _ =>
    simp only [cells3] at h0 h1
    obtain ⟨p, e0, _, w0⟩ := DataW.trod_int Try.underlying3 h0
    obtain ⟨s, e1, _, w1⟩ := DataW.trod_int Try.underlying3 h1
    simp at e0 e1
    subst e0 e1
    exact ⟨p, s, rfl, wf_i64 w0, wf_i64 w1⟩

/-- A version that came in. -/
structure TupIn (W : World) (cs : List Value) (r x y : Nat) (p s : Int) (a : Option Addr) (n c : Nat) (d : Nat → Nat) : Prop where
  eq : cs = [.int .u64 r, .int .u64 x, .int .u64 y, .int .i64 p, .int .i64 s, .slice a n c]
  r : U64 r
  x : U64 x
  y : U64 y
  p : I64 p
  s : I64 s
  bytes : Bytes W a n d
  le : n ≤ c
  max : c ≤ maxLen
  nil : a = none → n = 0

set_option maxRecDepth 1000000 in
theorem trod_tuple {fuel : Nat} {cs : List Value} {z : DataW H × List MemPlace} (h : DataW.trod enc Try.prog W base (fun _ => true) held fuel 29 cs = some z) :
    ∃ r x y p s a n c d, TupIn W cs r x y p s a n c d := by
  obtain ⟨xs, m, _, rfl, hl, hlen, hf⟩ := DataW.trod_struct Try.underlying29 h
  rw [cells29] at hl
  match cs, hl, xs, hlen with
  | [c0, c1, c2, c3, c4, c5], _, [y0, y1, y2, y3, y4], _ =>
    have h0 := hf 0 _ rfl
    have h1 := hf 1 _ rfl
    have h2 := hf 2 _ rfl
    have h3 := hf 3 _ rfl
    have h4 := hf 4 _ rfl
    simp [cells24, cells26, cells22] at h0 h1 h2 h3 h4
    obtain ⟨r, e0, _, w0⟩ := DataW.trod_int Try.underlying24 h0
    obtain ⟨x, e1, _, w1⟩ := DataW.trod_int Try.underlying24 h1
    obtain ⟨y, e2, _, w2⟩ := DataW.trod_int Try.underlying24 h2
    obtain ⟨p, s, e3, w3, w4⟩ := trod_tid h3
    obtain ⟨a, n, c, d, e5, hby, hle, hm, hn⟩ := open_bytes h4
    simp at e0 e1 e2 e3 e5
    obtain ⟨r', rfl, u0⟩ := wf_u64 w0
    obtain ⟨x', rfl, u1⟩ := wf_u64 w1
    obtain ⟨y', rfl, u2⟩ := wf_u64 w2
    obtain ⟨rfl, rfl⟩ := e3
    subst e0 e1 e2 e5
    exact ⟨r', x', y', p, s, a, n, c, d, rfl, u0, u1, u2, w3, w4, hby, hle, hm, hn⟩

set_option maxRecDepth 1000000 in
theorem open_tuple {r0 : Reach} {b0 : Nat} {v : Value} {d : DataW H} {ps : List MemPlace} (hval : Value.okWide Try.prog W r0 b0 29 v) (hd : DataW.Trod enc Try.prog W base (fun _ => true) held 29 v d ps) :
    ∃ cs, v = .agg cs.toArray ∧ ∃ r x y p s a n c d, TupIn W cs r x y p s a n c d := by
  unfold Value.okWide at hval
  rw [Try.underlying29] at hval
  obtain ⟨cs, rfl, _, _⟩ := hval
  obtain ⟨fuel, hf⟩ := hd
  exact ⟨cs.toList, by simp, trod_tuple hf⟩

set_option maxRecDepth 1000000 in
theorem open_tid {r0 : Reach} {b0 : Nat} {v : Value} {d : DataW H} {ps : List MemPlace} (hval : Value.okWide Try.prog W r0 b0 26 v) (hd : DataW.Trod enc Try.prog W base spare held 26 v d ps) :
    ∃ p s : Int, v = .agg #[.int .i64 p, .int .i64 s] ∧ I64 p ∧ I64 s := by
  unfold Value.okWide at hval
  rw [Try.underlying26] at hval
  obtain ⟨cs, rfl, _, _⟩ := hval
  obtain ⟨fuel, hf⟩ := hd
  obtain ⟨p, s, e, hp, hs⟩ := trod_tid hf
  exact ⟨p, s, by rw [← Array.toArray_toList (xs := cs), show cs.toList = _ from e], hp, hs⟩
end
end Go.Proofs.Ytffbfgmhfnbmfaa
