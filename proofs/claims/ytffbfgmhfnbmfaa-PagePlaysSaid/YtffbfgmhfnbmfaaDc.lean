/- A page behind a script. -/
import Derived.Test.YtffbfgmhfnbmfaaDb
import Derived.IntWalk
namespace Go.Proofs.Ytffbfgmhfnbmfaa
open Go.RowKit

/-- An operation's cells in memory. -/
structure OpAt (w : World) (b off : Nat) (o : Nat) (k : Int) (r x y : Nat) (p s : Int) (a : Option Addr) (n c : Nat) (d : Nat → Nat) : Prop where
  c0 : w.cell? ⟨b, off, none⟩ = some (.int .u8 o)
  c1 : w.cell? ⟨b, off + 1, none⟩ = some (.int .i64 k)
  c2 : w.cell? ⟨b, off + 2, none⟩ = some (.int .u64 r)
  c3 : w.cell? ⟨b, off + 3, none⟩ = some (.int .u64 x)
  c4 : w.cell? ⟨b, off + 4, none⟩ = some (.int .u64 y)
  c5 : w.cell? ⟨b, off + 5, none⟩ = some (.int .i64 p)
  c6 : w.cell? ⟨b, off + 6, none⟩ = some (.int .i64 s)
  c7 : w.cell? ⟨b, off + 7, none⟩ = some (.slice a n c)
  bytes : Bytes w a n d
  le : n ≤ c
  ho : o < 256

/-- A script in memory. -/
def Script (w : World) (a : Option Addr) (n : Nat) : Prop :=
  n = 0 ∨ ∃ b off, a = some ⟨b, off, none⟩ ∧ b < w.heap.size ∧ ∀ i, i < n → ∃ o k r x y p s da dn dc d, OpAt w b (off + i * 8) o k r x y p s da dn dc d

theorem OpAt.fresh {w w' : World} {b off o : Nat} {k : Int} {r x y : Nat} {p s : Int} {a : Option Addr} {n c : Nat} {d : Nat → Nat} (h : OpAt w b off o k r x y p s a n c d) (hF : Fresh w w') (hb : b < w.heap.size) : OpAt w' b off o k r x y p s a n c d :=
  have g := fun i v (hc : w.cell? ⟨b, off + i, none⟩ = some v) => (hF.cell (p := ⟨b, off + i, none⟩) hb (by simp)).trans hc
  ⟨g 0 _ h.c0, g 1 _ h.c1, g 2 _ h.c2, g 3 _ h.c3, g 4 _ h.c4, g 5 _ h.c5, g 6 _ h.c6, g 7 _ h.c7, h.bytes.kept hF (by simp), h.le, h.ho⟩

def Built (w : World) (e : Ending) (w' : World) : Prop := ∃ pb st, e = .returned (.pointer (some ⟨pb, 0, none⟩)) ∧ Wf st ∧ Byt w' pb 75 512 (enc st) ∧ Fresh w w' ∧ w.heap.size ≤ pb

set_option maxRecDepth 100000 in
set_option maxHeartbeats 4000000 in
theorem build_any (a : Option Addr) (n c : Nat) (w : World) (h : Script w a n) (hn : n ≤ 9223372036854775807) : Calls Try.prog 30 #[.slice a n c, .int .i64 30] w (Built w) := by
  go_enter Try.func30, Try.ntmps30
  go_wp2_with fail
  refine (new_enc _).mono ?_
  rintro e w1 ⟨rfl, hp1, hs1, hF1⟩
  obtain ⟨pb, hpb⟩ : ∃ pb, pb = w.heap.size := ⟨_, rfl⟩
  rw [← hpb] at hp1 ⊢
  have HP := Lib.hid (And.intro hpb (And.intro hs1 (And.intro hF1 hp1)))
  clear hpb hs1 hF1 hp1
  go_wp2_with fail
  refine (rnew_any (fun b => b ≠ pb ∧ w.heap.size ≤ b) w1 (by have := HP.out; constructor <;> omega)).mono ?_
  rintro e w2 ⟨rfl, hr2, hs2, hF2⟩
  obtain ⟨hpb, hs1, hF1, hp1⟩ := HP.out
  have hp2 := hp1.kept hF2 (by simp)
  have hF := hF1.trans hF2
  generalize w1.heap.size = R at hr2 hs2 ⊢
  clear hpb hs1 hF1 hp1 hs2 hF2
  go_wp2_with fail
  go_loopg [5, 13] n (fun g s5 s13 wr => ∃ i : Nat, i + g = n ∧ s13 = .int .i64 i ∧ s5 = .pointer (some ⟨pb, 0, none⟩) ∧ ∃ st v, Wf st ∧ Byt wr pb 75 512 (enc st) ∧ RefIs (fun b => b ≠ pb ∧ w.heap.size ≤ b) wr R v st ∧ Fresh w wr)
  case atStart => exact ⟨0, by omega, rfl, rfl, st0, _, wf0, hp2, hr2, hF⟩
  case round =>
    clear hp2 hr2 hF
    obtain ⟨i, hi, rfl, rfl, st, v, hst, hp, hr, hF⟩ := hrel
    by_cases hlt : i < n
    · have hlt' : (i : Int) < (n : Int) := by omega
      rcases h with h0 | ⟨b, off, rfl, hb, hops⟩
      · omega
      obtain ⟨o, k, r, x, y, p, s, da, dn, dc, d, hop⟩ := hops i hlt
      obtain ⟨c0, c1, c2, c3, c4, c5, c6, c7, hby, hle, ho⟩ := hop.fresh hF hb
      have HR := Lib.hid (And.intro hst (And.intro hp (And.intro hr (And.intro hF (And.intro hi (And.intro hby (And.intro hle ho)))))))
      clear hst hp hr hF hi hby hle ho hop hops
      go_upto_region 5 with fail
      obtain ⟨hst, hp, hr, hF, hi, hby, hle, ho⟩ := HR.out
      have hA := (Kept.refl (fun _ => False) wr).alloc (.cells #[.int .u8 o, .int .i64 k, .int .u64 r, .int .u64 x, .int .u64 y, .int .i64 p, .int .i64 s, .slice da dn dc] 58)
      have hbx := alloc_at wr (.cells #[.int .u8 o, .int .i64 k, .int .u64 r, .int .u64 x, .int .u64 y, .int .i64 p, .int .i64 s, .slice da dn dc] 58)
      generalize wr.alloc (.cells #[.int .u8 o, .int .i64 k, .int .u64 r, .int .u64 x, .int .u64 y, .int .i64 p, .int .i64 s, .slice da dn dc] 58) = W at hA hbx ⊢
      have hp2 := hp.kept hA (by simp)
      have hr2 := hr.fresh hA
      have hF2 := hF.trans hA
      have hby2 := hby.kept hA (by simp)
      obtain ⟨q, hq⟩ : ∃ q, q = o % 8 := ⟨_, rfl⟩
      have hqq : (o : Int).tmod 8 = (q : Int) := by rw [Int.tmod_eq_emod_of_nonneg (by omega)]; omega
      have HS := Lib.hid (And.intro hst (And.intro hp2 (And.intro hr2 (And.intro hF2 (And.intro hi (And.intro hby2 (And.intro hle (And.intro ho hq))))))))
      have o0 := boxCell hbx 0
      have o1 := boxCell hbx 1
      have o2 := boxCell hbx 2
      have o3 := boxCell hbx 3
      have o4 := boxCell hbx 4
      have o5 := boxCell hbx 5
      have o6 := boxCell hbx 6
      have o7 := boxCell hbx 7
      clear hst hp hr hF hi hby hle ho hA hbx hp2 hr2 hF2 hby2 hq HR c0 c1 c2 c3 c4 c5 c6 c7
      by_cases h30 : i < 30
      · have h30' := decide_eq_true (show (i : Int) < 30 by omega)
        by_cases h7 : q = 7
        · have h7' : ((q : Int) != 7) = false := by simp; omega
          clear h30 h7
          go_wp2_with fail
          go_roundg (gk - 1)
          case measure => have := HS.out; omega
          case rel =>
            obtain ⟨hst, hp, hr, hF, hi, _⟩ := HS.out
            exact ⟨i + 1, by omega, rfl, rfl, st, v, hst, hp, hr, hF⟩
        · have h7' : ((q : Int) != 7) = true := by simp; omega
          have H7 := Lib.hid h7
          clear h30 h7
          go_wp2_with fail
          refine (do_any (fun b => b ≠ pb ∧ w.heap.size ≤ b) pb R v st o k r x y p s da dn dc d _ (fun b hb => by have := HS.out.2.2.2.1.size; have := HS.out.2.1.blk; constructor <;> omega) (by simp) HS.out.2.1 HS.out.1 HS.out.2.2.1 (by have := HS.out.2.2.2.2.2.2.2.2; have := H7.out; omega) HS.out.2.2.2.2.2.2.2.1 HS.out.2.2.2.2.2.1 HS.out.2.2.2.2.2.2.1).mono ?_
          rintro e w5 ⟨st', v', rfl, hst5, hp5, hr5, hk5, _⟩
          have hF5 : Fresh w w5 := HS.out.2.2.2.1.then hk5 fun b hb h => by
            obtain ⟨_, hpR, dv0, hr0, _⟩ := HS.out.2.2.1
            rcases h with h | h | h
            · have := HP.out.1; omega
            · have := hpR.2; omega
            · have := (hr0.own h.symm).2.1.2; omega
          have HT := Lib.hid (And.intro hst5 (And.intro hp5 (And.intro hr5 hF5)))
          clear hst5 hp5 hr5 hk5 hF5 o0 o1 o2 o3 o4 o5 o6 o7
          go_wp2_with fail
          go_roundg (gk - 1)
          case measure => have := HS.out; omega
          case rel =>
            obtain ⟨_, _, _, _, hi, _⟩ := HS.out
            exact ⟨i + 1, by omega, rfl, rfl, st', v', HT.out⟩
      · have h30' := decide_eq_false (show ¬ (i : Int) < 30 by omega)
        clear h30
        go_wp2_with fail
        go_roundg (gk - 1)
        case measure => have := HS.out; omega
        case rel =>
          obtain ⟨hst, hp, hr, hF, hi, _⟩ := HS.out
          exact ⟨i + 1, by omega, rfl, rfl, st, v, hst, hp, hr, hF⟩
    · obtain rfl : i = n := by omega
      have HR := Lib.hid (And.intro hst (And.intro hp hF))
      clear hst hp hr hF hi hlt h
      go_wp2_with fail
      go_ret
      exact ⟨pb, st, rfl, HR.out.1, HR.out.2.1, HR.out.2.2, by have := HP.out.1; omega⟩
end Go.Proofs.Ytffbfgmhfnbmfaa
