/- The walk of do where a page is loaded anew, and where there is none. -/
import Derived.Test.YtffbfgmhfnbmfaaS6
import Derived.Test.YtffbfgmhfnbmfaaPt
import Derived.Test.YtffbfgmhfnbmfaaDb
namespace Go.Proofs.Ytffbfgmhfnbmfaa
open Go.RowKit

def Reload (st : St) (w : World) (e : Ending) (w' : World) : Prop := ∃ q, e = .returned (.tuple #[.pointer (some ⟨q, 0, none⟩), .bool true]) ∧ Byt w' q 75 512 (enc st) ∧ w.heap.size ≤ q ∧ Fresh w w'

set_option maxRecDepth 100000 in
set_option maxHeartbeats 2000000 in
theorem do7_any (pb R : Nat) (st : St) (o : Nat) (k : Int) (r x y : Nat) (p s : Int) (a : Option Addr) (n c : Nat) (d : Nat → Nat) (w : World)
    (hpage : Byt w pb 75 512 (enc st)) (hst : Wf st) (hgd : Good st) (ho : o % 8 = 7) (ho2 : o < 256) (hd : Bytes w a n d) (hnc : n ≤ c) :
    Calls Try.prog 33 #[.pointer (some ⟨pb, 0, none⟩), .pointer (some ⟨R, 0, none⟩), opV o k r x y p s (.slice a n c)] w (Reload st w) := by
  obtain ⟨m, hm⟩ : ∃ m, m = min n 230 := ⟨_, rfl⟩
  have hqq : (o : Int).tmod 8 = 7 := by rw [Int.tmod_eq_emod_of_nonneg (by omega)]; omega
  have hA := (Kept.refl (fun _ => False) w).alloc (.cells #[.int .u8 o, .int .i64 k, .int .u64 r, .int .u64 x, .int .u64 y, .int .i64 p, .int .i64 s, .slice a n c] 58)
  have hO := alloc_at w (.cells #[.int .u8 o, .int .i64 k, .int .u64 r, .int .u64 x, .int .u64 y, .int .i64 p, .int .i64 s, .slice a n c] 58)
  have hsA : w.heap.size < (w.alloc (.cells #[.int .u8 o, .int .i64 k, .int .u64 r, .int .u64 x, .int .u64 y, .int .i64 p, .int .i64 s, .slice a n c] 58)).heap.size := by simp
  have HA := Lib.hid (And.intro hA (And.intro hO (And.intro hsA (And.intro hm (And.intro hnc (And.intro hd ho))))))
  have HB := Lib.hid (And.intro hpage (And.intro hst hgd))
  clear hA hO hsA hm hnc hd hpage hst hgd ho ho2
  go_enter Try.func33, Try.ntmps33
  go_wp2_with fail
  generalize w.alloc (.cells #[.int .u8 o, .int .i64 k, .int .u64 r, .int .u64 x, .int .u64 y, .int .i64 p, .int .i64 s, .slice a n c] 58) = w0 at HA ⊢
  refine (few_any r x y p s a n c d _ (HA.out.2.2.2.2.2.1.kept HA.out.1 (by simp)) HA.out.2.2.2.2.1 m HA.out.2.2.2.1).mono ?_
  rintro e w1 ⟨a1, c1, rfl, hmc, hby, hnew, hsp, hF1⟩
  have hO1 := (hF1.block w.heap.size HA.out.2.2.1 (by simp)).trans HA.out.2.1
  have hF := HA.out.1.trans hF1
  have o0 := boxCell hO1 0
  have hlt := Nat.lt_of_lt_of_le HA.out.2.2.1 hF1.size
  have HC := Lib.hid (And.intro hF (And.intro hO1 (And.intro hmc (And.intro hby (And.intro hnew (And.intro hsp (And.intro hlt HA.out.2.2.1)))))))
  clear hmc hby hnew hsp hF1 hO1 hF
  go_upto_region 2 with fail
  obtain ⟨hF, hO1, hmc, hby, hnew, hsp, hlt, _⟩ := HC.out
  have hk1 := (Kept.refl (fun _ => False) w1).alloc (.cells #[.int .u64 r, .int .u64 x, .int .u64 y, .int .i64 p, .int .i64 s, .slice (some a1) m c1] 29)
  have hD : DoSt w (w1.alloc (.cells #[.int .u64 r, .int .u64 x, .int .u64 y, .int .i64 p, .int .i64 s, .slice (some a1) m c1] 29)) w1.heap.size o k r x y p s a n c a1 m c1 d :=
    ⟨(hk1.block _ hlt (by simp)).trans hO1, alloc_at w1 _, hF.trans hk1, hlt, hby.kept hk1 (by simp), by have := HA.out.1.size; omega, hnew.2, hsp, hmc⟩
  generalize w1.alloc (.cells #[.int .u64 r, .int .u64 x, .int .u64 y, .int .i64 p, .int .i64 s, .slice (some a1) m c1] 29) = W at hD ⊢
  have HD := Lib.hid hD
  clear hF hO1 hmc hby hnew hsp hlt hk1 o0 HC hD
  generalize w1.heap.size = T at HD ⊢
  have o0 := boxCell HD.out.box 0
  have hpg := HB.out.1.kept HD.out.fresh (by simp)
  have HP := Lib.hid hpg
  clear hpg
  go_wp2_with fail
  refine (bytes_any pb _ _ HP.out).mono ?_
  rintro e w3 ⟨⟨ab, ao, asp⟩, bc, rfl, hby3, ⟨hge3, hsp3, hlt3, hfr3⟩, hF3⟩
  obtain rfl : asp = none := hsp3
  have HC := Lib.hid (And.intro hby3 (And.intro hF3 (HD.out.fresh.trans hF3)))
  clear hby3 hge3 hlt3 hfr3 hF3 o0
  go_wp2_with fail
  refine (load_full ab ao bc _ _ HC.out.1).mono ?_
  rintro e w4 h4
  rcases h4 with ⟨hno, _⟩ | ⟨_, rfl, hb4, hF4⟩
  · exact (hno (enc_sound HB.out.2.1 HB.out.2.2)).elim
  · have HE := Lib.hid (And.intro hb4 (And.intro HC.out.2.2.size (HC.out.2.2.trans hF4)))
    clear hb4 hF4
    go_wp2_with fail
    go_ret2
    exact ⟨_, rfl, HE.out⟩
end Go.Proofs.Ytffbfgmhfnbmfaa
