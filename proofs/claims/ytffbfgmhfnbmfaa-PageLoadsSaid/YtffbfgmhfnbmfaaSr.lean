/- The library's sort over a row of places. -/
import Derived.Test.YtffbfgmhfnbmfaaSl
namespace Go.Proofs.Ytffbfgmhfnbmfaa
open Go.Shelf Go.RowKit Go.Lib Go.Sort

def toPl (p : Nat × Nat) : Plc := (⟨min p.1 1023, by omega⟩, p.2)
def ofPl (q : Plc) : Nat × Nat := (q.1.val, q.2)

theorem of_to {p : Nat × Nat} (h : p.1 ≤ 512) : ofPl (toPl p) = p := by
  unfold ofPl toPl
  ext <;> simp
  omega

theorem sort_world_kept (w : World) (B n : Nat) (d : Array Plc) (os : Array Obj) : Kept (· = B) w (sortWorldK encPl 2 w B 0 n d os) where
  os := rfl
  tape := rfl
  output := rfl
  size := by
    show w.heap.size ≤ (w.heap.modify B _ ++ os).size
    simp
  block := fun k hk hn => by
    show (w.heap.modify B _ ++ os)[k]? = _
    rw [Array.getElem?_append_left (by simpa using hk), Array.getElem?_modify, if_neg (fun e => hn e.symm)]

theorem sort_world_row {w : World} {B n N : Nat} {g : Nat → Value} (h : w.rowIs B 97 N g) (d : Array Plc) (os : Array Obj) (_hd : d.size * 2 ≤ N) :
    (sortWorldK encPl 2 w B 0 n d os).rowIs B 97 N (fun i => if i < d.size * 2 then (encPl d[i / 2]!)[i % 2]! else g i) := by
  obtain ⟨c, hb, hc, hg⟩ := h
  have hlt := (Array.getElem?_eq_some_iff.1 hb).1
  refine ⟨putCells id 0 (flatK encPl 2 d) c, ?_, ?_, ?_⟩
  · show (w.heap.modify B _ ++ os)[B]? = _
    rw [Array.getElem?_append_left (by simpa using hlt), Array.getElem?_modify, if_pos rfl, hb]
    rfl
  · unfold putCells
    rw [Array.size_mapIdx, hc]
  · intro i hi
    unfold putCells
    rw [Array.getElem?_mapIdx, hg i hi]
    simp only [Option.map_some, Nat.zero_le, true_and, Nat.zero_add, size_flatK, Nat.sub_zero, id]
    by_cases hlt : i < d.size * 2
    · rw [if_pos hlt, if_pos hlt, get_flatK _ _ _ _ hlt]
    · rw [if_neg hlt, if_neg hlt]

theorem getD_map_of {d : Array Plc} {k : Nat} (hk : k < d.size) : (d.toList.map ofPl).getD k (0, 0) = ofPl d[k]! := by
  rw [List.getD_eq_getElem?_getD, List.getElem?_map, Array.getElem?_toList, Array.getElem?_eq_getElem hk, getElem!_pos d k hk]
  rfl

theorem enc_of (q : Plc) (j : Nat) (hj : j < 2) : encP (ofPl q) j = (encPl q)[j]! := match j, hj with
  | 0, _ => rfl
  | 1, _ => rfl

theorem sort_some (B cap : Nat) (L : List (Nat × Nat)) (w : World) (g : Nat → Value) (hc : L.length ≤ cap) (hr : w.rowIs B 97 (cap * 2) g) (hg : ∀ k j, k < L.length → j < 2 → g (k * 2 + j) = encP (L.getD k (0, 0)) j)
    (hL : ∀ p ∈ L, p.1 ≤ 512) (hl : L.length ≤ 1000) (lo : Nat) (hlo : lo ≤ B) : Calls Try.prog 60 #[.slice (some ⟨B, 0, none⟩) L.length cap, .func (.func 61) #[] #[]] w (SortedP (.slice (some ⟨B, 0, none⟩) L.length cap) L lo w) := by
  obtain ⟨d, hd⟩ : ∃ d : Array Plc, d = (L.map toPl).toArray := ⟨_, rfl⟩
  have hds : d.size = L.length := by rw [hd]; simp
  have hdL : d.toList.map ofPl = L := by
    rw [hd]
    simp only [List.map_map]
    conv => rhs; rw [← List.map_id L]
    exact List.map_congr_left fun p hp => of_to (hL p hp)
  have hgetL : ∀ k, k < d.size → L.getD k (0, 0) = ofPl d[k]! := fun k hk => by rw [← hdL]; exact getD_map_of hk
  have hH : HoldsK encPl 2 w B 0 d := by
    intro j hj
    rw [size_flatK] at hj
    have hj2 : j / 2 < d.size := by omega
    refine ⟨?_, hr.frozen _⟩
    rw [Nat.zero_add, hr.cell (by omega), get_flatK _ _ _ _ hj]
    have := hg (j / 2) (j % 2) (by omega) (by omega)
    rw [show j / 2 * 2 + j % 2 = j from by omega, hgetL _ hj2, enc_of _ _ (by omega)] at this
    rw [this]
    rfl
  have eg : ∀ args w, (callFunc 61 args).run Try.prog w = .ok (.enter 61 args) w := enters_of Try.func61 (by kernel_rfl) rfl
  have hcon := AnyQ.slices_SortFunc sortLay 2 Try.isAgg97 Try.sizeOf97 encPl (fun _ => rfl) (fun x v hv => by simp [encPl] at hv; rcases hv with rfl | rfl <;> rfl) cfPl swoPl 61 #[] B 0 cap d w eg (cmpPl B 0 d.size w) hH hr.lt (by omega)
  change Calls Try.prog 60 _ _ _ at hcon
  rw [hds] at hcon
  refine hcon.mono ?_
  rintro e w' ⟨rfl, d', n, os, hp, hs, rfl⟩
  obtain ⟨hps, _, hpp⟩ := hp
  have hn : d'.size = L.length := by rw [hps, hds]
  have hpl : d'.toList.Perm d.toList := by
    have e1 : (d'.extract 0 L.length) = d' := by rw [← hn]; simp
    have e2 : (d.extract 0 L.length) = d := by rw [← hds]; simp
    rw [e1, e2] at hpp
    exact hpp
  refine ⟨d'.toList.map ofPl, ?_, ?_, rfl, ?_, (sort_world_kept w B n d' os).mono fun k _ e => by subst e; rfl⟩
  · rw [← hdL]; exact hpl.map _
  · rw [List.pairwise_map, List.pairwise_iff_getElem]
    intro i j hi hj hij
    have hi' : i < d'.size := by simpa using hi
    have hj' : j < d'.size := by simpa using hj
    have := hs i j (Nat.zero_le _) hij (by omega)
    rw [ltPl, getElem!_pos d' i hi', getElem!_pos d' j hj'] at this
    simp at this
    show (d'.toList[i]).1.val ≤ (d'.toList[j]).1.val
    simpa using this
  · have hrow := sort_world_row (n := n) hr d' os (by omega)
    have hlen : (d'.toList.map ofPl).length = L.length := by simp [hn]
    unfold PRow
    rw [hlen]
    refine .inr ⟨B, cap, _, rfl, hc, hlo, hrow, fun k j hk hj => ?_⟩
    show (if k * 2 + j < d'.size * 2 then (encPl d'[(k * 2 + j) / 2]!)[(k * 2 + j) % 2]! else g (k * 2 + j)) = encP ((d'.toList.map ofPl).getD k (0, 0)) j
    rw [if_pos (by omega), getD_map_of (by omega), enc_of _ _ hj, show (k * 2 + j) / 2 = k from by omega, show (k * 2 + j) % 2 = j from by omega]

theorem sort_any (v : Value) (L : List (Nat × Nat)) (lo : Nat) (w : World) (h : PRow w v L lo) (hL : ∀ p ∈ L, p.1 ≤ 512) (hl : L.length ≤ 1000) : Calls Try.prog 60 #[v, .func (.func 61) #[] #[]] w (SortedP v L lo w) := by
  rcases h with ⟨rfl, h0⟩ | ⟨B, cap, g, rfl, h1, h2, h3, h4⟩
  · have hcon := AnyF.slices_SortFunc_none sortLay none 0 (.func (.func 61) #[] #[]) w
    change Calls Try.prog 60 _ _ _ at hcon
    refine hcon.mono ?_
    rintro e w' ⟨rfl, rfl⟩
    obtain rfl : L = [] := List.eq_nil_of_length_eq_zero h0
    exact ⟨[], .refl _, .nil, rfl, .inl ⟨rfl, rfl⟩, .refl _ _⟩
  · exact sort_some B cap L w g h1 h3 h4 hL hl lo h2
end Go.Proofs.Ytffbfgmhfnbmfaa
