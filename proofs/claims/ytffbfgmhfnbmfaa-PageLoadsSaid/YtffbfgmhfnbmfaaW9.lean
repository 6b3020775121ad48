/- The walk of move. -/
import Derived.Test.YtffbfgmhfnbmfaaW8
import Derived.Test.YtffbfgmhfnbmfaaPm
import Derived.Laws.Rows
import Derived.Deep.WholeRow
namespace Go.Proofs.Ytffbfgmhfnbmfaa
open Go.RowKit

section
variable {P : Program} {ops : Array Oper} {Q : Exit → Act → World → Prop} {a : Act} {w w' : World} {rest : List Oper} {dst : Option Tmp} {ty : TypeId} {pos : String} {after : Array Edge} {x y : Operand}

theorem wpList_store_run (t : TypeId) (vx vy : Value) (hx : a.eval x = vx) (hy : a.eval y = vy) (hrun : (Instr.storeAt t vx vy).run P w = .ok () w') (h : wpList P ops Q rest (a.put dst undef) w') :
    wpList P ops Q ({ dst, op := .store t x y, type := ty, pos, after, guard := none } :: rest) a w := by
  subst hx hy
  refine wpList_plain rfl fun K hK => ?_
  unfold Oper.wp
  rw [show ((execOp a.eval { dst, op := .store t x y, type := ty, pos, after, guard := none }).run P w) = .ok .skip w' from by
    show ((do Instr.storeAt t (a.eval x) (a.eval y); pure Next.skip : Sem Next).run P w) = _
    simp [hrun, Result.andThen]]
  exact hK _ _ h
end

theorem byt_block {w : World} {b t n : Nat} {f : Nat → Nat} (h : Byt w b t n f) : w.heap[b]? = some (.cells (cellsOf n f).toArray t) := by
  obtain ⟨c, hc, hs, hg⟩ := h.row
  have : c = (cellsOf n f).toArray := by
    apply Array.ext_getElem?
    intro i
    by_cases hi : i < n
    · rw [hg i hi, List.getElem?_toArray, cellsOf_get _ _ _ hi]
    · rw [Array.getElem?_eq_none (by omega), List.getElem?_toArray, List.getElem?_eq_none (by rw [cellsOf_len]; omega)]
  rw [hc, this]

theorem info75 : (Try.prog.info? 75).map (·.size) = some 512 := by kernel_rfl

theorem byt_alloc (w : World) (n t : Nat) (f : Nat → Nat) (hf : ∀ i, f i < 256) : Byt (w.alloc (.cells (cellsOf n f).toArray t)) w.heap.size t n f := by
  refine ⟨?_, hf⟩
  have := World.rowIs_alloc w (cellsOf n f).toArray t (fun i => .int .u8 (f i)) (fun i hi => by
    rw [List.size_toArray, cellsOf_len] at hi
    rw [List.getElem?_toArray, cellsOf_get _ _ _ hi])
  simpa [cellsOf_len] using this

theorem run_from (b x c : Nat) (hc : x + c = 512) (h : 0 < c) (w : World) :
    (Instr.sliceAt 73 (.pointer (some ⟨b, 0, none⟩)) (some (.int .i64 (x : Int))) none none).run Try.prog w = .ok (.slice (some ⟨b, x, none⟩) c c) w := by
  rw [run_sliceAt_array_l w 73 _ aund .i64 _ (by omega) (by rw [alen]; omega), asize, alen]
  simp only [Result.andThen, slicedAt, Int.toNat_natCast]
  rw [if_neg (by omega)]
  have e2 : 512 - x = c := by omega
  by_cases hx : x = 0
  · subst hx; simp [Addr.add, e2]
  · simp [Addr.add, hx, e2]

theorem mid_start (st : St) (i : Nat) (hi : i < 512) : wiped (enc st) (4 + 4 * st.slots.length) (508 - 4 * st.slots.length) i = midF st 0 i := by
  unfold midF
  show _ = encG st.slots.length st.start ([] ++ st.slots.drop 0) (dataOf []) i
  rw [List.drop_zero, List.nil_append]
  by_cases h : 4 + 4 * st.slots.length ≤ i
  · rw [encG_high _ _ _ _ _ h]
    unfold wiped
    rw [if_pos (by omega)]
    rfl
  · unfold wiped
    rw [if_neg (by omega)]
    unfold enc encG
    by_cases h1 : i < 2
    · rw [if_pos h1, if_pos h1]
    · by_cases h2 : i < 4
      · rw [if_neg h1, if_neg h1, if_pos h2, if_pos h2]
      · rw [if_neg h1, if_neg h1, if_neg h2, if_neg h2, if_pos (by omega), if_pos (by omega)]

theorem midF_lt {st : St} (h : Wf st) (k i : Nat) (hk : k ≤ st.slots.length) : midF st k i < 256 :=
  encG_lt (dataOf_lt fun f v hm => by
    obtain ⟨j, hj⟩ := List.getElem?_of_mem hm
    obtain ⟨h1, ⟨f0, h2⟩, _⟩ := cp_get hj
    refine (h.inn j f0 v ?_).2.2
    rw [← h2, List.getD_eq_getElem?_getD, List.getElem?_eq_getElem (show j < st.slots.length by omega), Option.getD_some]) i

set_option maxRecDepth 100000 in
set_option maxHeartbeats 2000000 in
theorem move_any (b : Nat) (st : St) (w : World) (hw : Byt w b 75 512 (enc st)) (hst : Wf st) (hL : 4 * st.slots.length + 34 ≤ 512) :
    Calls Try.prog 42 #[.pointer (some ⟨b, 0, none⟩)] w (Became b (compactA st) (.tuple #[]) w) := by
  have hnil := isnil
  have hblk := byt_block hw
  have hcs : (Try.prog.info? 75).map (·.size) = some (cellsOf 512 (enc st)).toArray.size := by rw [List.size_toArray, cellsOf_len]; exact info75
  generalize hC : (cellsOf 512 (enc st)).toArray = C at hblk hcs
  have hCs : C.size = 512 := by rw [← hC, List.size_toArray, cellsOf_len]
  have hone : C.all (·.oneCell') = true := by
    rw [← hC, Array.all_eq_true]
    intro i hi
    exact cellsOf_one 512 (enc st) _ (by rw [List.getElem_toArray]; exact List.getElem_mem _)
  have hz75 : Try.zeroCells75.size = C.size := by rw [hCs, zero_cells]; exact Array.size_replicate ..
  have hsto := run_storeCells_new (P := Try.prog) w 75 Try.zeroCells75 C hcs hz75 hone
  clear hone hz75
  have Hb := Lib.hid (And.intro hblk (And.intro hcs hC))
  clear hblk hcs hC
  go_enter Try.func42, Try.ntmps42
  iterate 8 go_step
  refine wpList_load_row rfl 75 (.tmp 7) rfl b rfl 75 C (0, 0) _ Hb.out.1 Try.underlying75 rfl Hb.out.2.1 ?_
  have hF : Fresh w (w.alloc (.cells C 75)) := (Kept.refl _ w).alloc _
  have hold : Byt (w.alloc (.cells C 75)) w.heap.size 75 512 (enc st) := by rw [← Hb.out.2.2]; exact byt_alloc w 512 75 _ (enc_lt hst)
  have hpg : Byt (w.alloc (.cells C 75)) b 75 512 (enc st) := hw.kept hF (by simp)
  have hsz1 : (w.alloc (.cells C 75)).heap.size = w.heap.size + 1 := by simp
  have HF := Lib.hid (And.intro hF hsz1)
  clear hF hsz1
  go_wp2_with fail
  obtain ⟨L, hLL⟩ : ∃ L, st.slots.length = L := ⟨_, rfl⟩
  have hL128 : 4 * L + 34 ≤ 512 := by omega
  have HL := Lib.hid hLL
  clear hLL hL
  obtain ⟨c, hc⟩ : ∃ c, c + 4 * L = 508 := ⟨508 - 4 * L, by omega⟩
  have hr := run_tail b L c hc (by omega)
  have Hc := Lib.hid hc
  clear hc
  refine stillTail 8 (by kernel_rfl) (by kernel_rfl) fun wd hwd => ?_
  have hpg1 := hpg.kept hwd.1 (by simp)
  have hold1 := hold.kept hwd.1 (by simp)
  have hK1 : Kept (· = b) w wd := (HF.out.1.trans hwd.1).mono fun _ _ h => h.elim
  have hcs : Calls Try.prog 40 #[.pointer (some ⟨b, 0, none⟩)] wd (fun e w' => e = .returned (.int .i64 (L : Nat)) ∧ w' = wd) := by
    have := count_still b _ _ hpg1
    rw [hst.cnt, HL.out] at this
    exact this
  obtain ⟨w2, hrun2, hpg2, hz2, hk2⟩ := clear_byt (P := Try.prog) 22 5 0 und22 info5 (off := 4 + 4 * L) (n := c) (c := c) hpg1 (by have := Hc.out; omega)
  have hneb : w.heap.size ≠ b := by have := hw.blk; omega
  have hold2 := hold1.kept hk2 hneb
  have hK2 := hK1.trans hk2
  have Hrun2 := Lib.hid hrun2
  have q3 := wrap_int (4 * (L : Int)) (by omega) (by omega)
  have q4 := wrap_int (4 + 4 * (L : Int)) (by omega) (by omega)
  clear hwd hpg hold hpg1 hold1 hK1 hk2 hz2 hrun2
  simp only [List.take_succ_cons, List.take_zero, List.drop_succ_cons, List.drop_zero]
  repeat still_step
  still_call hcs
  repeat still_step
  refine wpStill_nil ?_
  clear hcs q3 q4
  go_wp2_with fail
  rw [Hrun2.out]
  have hpg3 : Byt w2 b 75 512 (midF st 0) := hpg2.congr (fun i hi => by
    have := mid_start st i hi
    rw [HL.out, show 508 - 4 * L = c from by have := Hc.out; omega] at this
    exact this) (fun i => midF_lt hst 0 i (Nat.zero_le _))
  clear hpg2
  go_wp2_with fail
  refine (count_any w.heap.size _ _ hold2).mono ?_
  rintro e w3 ⟨rfl, rfl⟩
  rw [hst.cnt, HL.out]
  go_wp2_with fail
  go_loopg [3, 4, 5, 18] L (fun g at' _ _ i wr => ∃ k : Nat, k + g = L ∧ i = .int .i64 (k : Int) ∧ at' = .int .i64 (atN st.slots k : Nat) ∧ Byt wr b 75 512 (midF st k) ∧ Byt wr w.heap.size 75 512 (enc st) ∧ Kept (· = b) w wr)
  case atStart => exact ⟨0, by omega, rfl, rfl, hpg3, hold2, hK2⟩
  case round =>
    obtain ⟨k, hk, rfl, rfl, hp, ho, hK⟩ := hrel
    have Hk := Lib.hid hk
    clear hpg3 hold2 hK2
    cases gk with
    | zero =>
      have hlt : ¬ k < L := by omega
      have hkL : k = L := by omega
      clear hk
      have hfin := midF_last (st := st)
      have hat := hst.compact.high
      have hat' : atN st.slots k ≤ 512 := by rw [hkL, ← HL.out]; exact hat
      rw [HL.out, ← hkL] at hfin
      have hcnt : cnt (midF st k) = L := by
        unfold midF
        rw [cnt_encG _ _ _ _ (by rw [HL.out]; omega), HL.out]
      have HkL := Lib.hid (And.intro hkL (And.intro hfin hcnt))
      clear hkL hat hfin hcnt
      go_wp2_with fail
      refine (count_any b _ _ hp).mono ?_
      rintro e w5 ⟨rfl, rfl⟩
      rw [HkL.out.2.2]
      go_wp2_with fail
      refine (set_any b L (atN st.slots k) _ _ hp (by omega) (by omega)).mono ?_
      rintro e w6 ⟨rfl, hw6, hz6, hk6⟩
      have hw7 : Byt w6 b 75 512 (enc (compactA st)) := by
        have := HkL.out.2.1
        rw [HkL.out.1] at this hw6
        rw [← this]; exact hw6
      have hK7 := hK.trans hk6
      clear hw6 hz6 hk6 hat'
      go_wp2_with fail
      go_end0
      exact ⟨rfl, hw7, hK7⟩
    | succ g =>
      have hlt : k < L := by omega
      clear hk
      go_wp2_with fail
      refine (bytesOf_any w.heap.size k _ _ ho hst.fits).mono ?_
      rintro e w4 ⟨rfl, m, rfl⟩
      have hkl : k < st.slots.length := by rw [HL.out]; exact hlt
      cases hs : st.slots.getD k none with
      | none =>
        rw [bytV_not (by rw [hst.has, hs]; rfl)]
        have Hs := Lib.hid (And.intro hs hkl)
        clear hs hkl
        go_wp2_with fail
        go_roundg g
        case measure => omega
        case rel =>
          refine ⟨k + 1, by have := Hk.out; omega, by go_num, ?_, ?_, ho.drewN m, hK.drewN m⟩
          · rw [atN, Hs.out.1]; rfl
          · rw [← midF_none Hs.out.2 Hs.out.1]; exact hp.drewN m
      | some fv =>
        obtain ⟨f, v⟩ := fv
        have hg : st.slots[k]? = some (some (f, v)) := by rw [← hs, List.getD_eq_getElem?_getD, List.getElem?_eq_getElem hkl, Option.getD_some]
        obtain ⟨e1, e2, e3, _⟩ := wf_fromsiz hst hg
        rw [bytV_has e3, e1, e2]
        have hsz := hst.sz
        have a1 := atN_szN (l := st.slots) (by omega) (k + 1) hkl
        have a2 := atN_szN (l := st.slots) (by omega) k (by omega)
        have a3 : szN st.slots (k + 1) = szN st.slots k + v.size := by simp only [szN]; rw [sizeOfS_get hs]
        obtain ⟨x, hx⟩ : ∃ x, atN st.slots (k + 1) = x := ⟨_, rfl⟩
        have hxk : atN st.slots k = x + v.size := by omega
        have hin := (hst.inn k f v hg).2.1
        have hx512 : x + v.size ≤ 512 := by omega
        have hv30 : 30 ≤ v.size := by unfold Ver.size; omega
        obtain ⟨y, hy⟩ : ∃ y, x + y = 512 := ⟨512 - x, by omega⟩
        have hvy : v.size ≤ y := by omega
        have hrf := run_from b x y hy (by omega)
        have hsrc : Bytes (wr.drewN m) (some ⟨w.heap.size, f, none⟩) v.size v.byte :=
          ((ho.drewN m).bytes f v.size hin).congr (fun j hj => by rw [hst.at_data hg (by omega) (by omega)]; congr 1; omega) (Ver.byte_lt (hst.inn k f v hg).2.2)
        obtain ⟨w5, hrun5, hp5, hz5, hk5⟩ := copy_byt (P := Try.prog) 22 22 3 5 und22 info5 (off := x) (n := y) (c := y) (k := 512 - f) (hp.drewN m) (by omega) hsrc hvy
        have Hrun5 := Lib.hid hrun5
        rw [hxk]
        have hmid := midF_some hst hkl hs
        rw [hx] at hmid
        have Hs := Lib.hid (And.intro hs (And.intro hkl (And.intro hx (And.intro hmid hy))))
        have ho5 := (ho.drewN m).kept hk5 (by have := hw.blk; omega)
        have hK5 := (hK.drewN m).trans hk5
        have H4L : 4 * k + 8 ≤ 512 := by omega
        clear hs hkl hg e1 e2 e3 hsz a1 a2 a3 hx hxk hin hy hrun5 hz5 hk5 hsrc hmid hp
        go_wp2_with fail
        rw [Hrun5.out]
        go_wp2_with fail
        refine (point_any b k x v.size _ _ hp5 H4L (by omega) (by omega)).mono ?_
        rintro e w6 ⟨rfl, hp6, hz6, hk6⟩
        rw [Hs.out.2.2.2.1] at hp6
        have ho6 := ho5.kept hk6 (by have := hw.blk; omega)
        have hK6 := hK5.trans hk6
        clear hz6 hk6 ho5 hK5 hp5
        go_wp2_with fail
        go_roundg g
        case measure => omega
        case rel => exact ⟨k + 1, by have := Hk.out; omega, by go_num, by rw [Hs.out.2.2.1], hp6, ho6, hK6⟩
end Go.Proofs.Ytffbfgmhfnbmfaa
