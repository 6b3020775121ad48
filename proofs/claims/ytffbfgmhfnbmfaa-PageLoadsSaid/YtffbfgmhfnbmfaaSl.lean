/- The library's sort at places: its text is the shelf's. -/
import Derived.Test.YtffbfgmhfnbmfaaSq
import Derived.Shelf.SlSortCmp.NoneTotal
namespace Go.Proofs.Ytffbfgmhfnbmfaa
open Go.Shelf Go.RowKit Go.Lib Go.Sort

def sortLay_ren : Go.Shelf.Ren := ⟨fun | 6 => 60 | 15 => 65 | 14 => 64 | 28 => 75 | 29 => 76 | 20 => 67 | 21 => 68 | 22 => 69 | 23 => 70 | 24 => 71 | 25 => 72 | 26 => 73 | 27 => 74 | 46 => 77 | 47 => 78 | 48 => 79 | 49 => 80 | 50 => 81 | 57 => 82 | n => n,
  fun | 22 => 95 | 24 => 97 | 25 => 99 | 3 => 3 | 39 => 85 | 0 => 0 | 53 => 114 | 55 => 24 | 4 => 4 | 46 => 107 | 45 => 106 | 50 => 111 | 5 => 5 | 9 => 9 | 66 => 116 | 70 => 120 | 76 => 122 | 77 => 88 | n => n,
  fun | n => n⟩

theorem sortLay : Go.Proofs.SlLaysF0.n6 Try.prog sortLay_ren := {
  mixed := by kernel_rfl
  f6 := ⟨Try.f60.name, by decide, Try.func60.trans (congrArg some (by kernel_rfl))⟩
  f14 := ⟨Try.f64.name, by decide, Try.func64.trans (congrArg some (by kernel_rfl))⟩
  f15 := Try.func65.trans (congrArg some (by kernel_rfl))
  f20 := ⟨Try.f67.name, by decide, Try.func67.trans (congrArg some (by kernel_rfl))⟩
  f21 := ⟨Try.f68.name, by decide, Try.func68.trans (congrArg some (by kernel_rfl))⟩
  f22 := ⟨Try.f69.name, by decide, Try.func69.trans (congrArg some (by kernel_rfl))⟩
  f23 := ⟨Try.f70.name, by decide, Try.func70.trans (congrArg some (by kernel_rfl))⟩
  f24 := ⟨Try.f71.name, by decide, Try.func71.trans (congrArg some (by kernel_rfl))⟩
  f25 := ⟨Try.f72.name, by decide, Try.func72.trans (congrArg some (by kernel_rfl))⟩
  f26 := ⟨Try.f73.name, by decide, Try.func73.trans (congrArg some (by kernel_rfl))⟩
  f27 := ⟨Try.f74.name, by decide, Try.func74.trans (congrArg some (by kernel_rfl))⟩
  f28 := Try.func75.trans (congrArg some (by kernel_rfl))
  f29 := Try.func76.trans (congrArg some (by kernel_rfl))
  f46 := ⟨Try.f77.name, by decide, Try.func77.trans (congrArg some (by kernel_rfl))⟩
  f47 := Try.func78.trans (congrArg some (by kernel_rfl))
  f48 := Try.func79.trans (congrArg some (by kernel_rfl))
  f49 := ⟨Try.f80.name, by decide, Try.func80.trans (congrArg some (by kernel_rfl))⟩
  f50 := ⟨Try.f81.name, by decide, Try.func81.trans (congrArg some (by kernel_rfl))⟩
  f57 := ⟨Try.f82.name, by decide, Try.func82.trans (congrArg some (by kernel_rfl))⟩
  t0 := Try.underlying0
  a0 := Try.isAgg0
  z0 := Try.sizeOf0
  v0 := Try.zeroValue0
  t3 := Try.underlying3
  a3 := Try.isAgg3
  z3 := Try.sizeOf3
  v3 := Try.zeroValue3
  t4 := Try.underlying4
  a4 := Try.isAgg4
  z4 := Try.sizeOf4
  v4 := Try.zeroValue4
  t5 := Try.underlying5
  a5 := Try.isAgg5
  z5 := Try.sizeOf5
  v5 := Try.zeroValue5
  t9 := Try.underlying9
  a9 := Try.isAgg9
  z9 := Try.sizeOf9
  v9 := Try.zeroValue9
  t22 := Try.underlying95
  a22 := Try.isAgg95
  z22 := Try.sizeOf95
  v22 := Try.zeroValue95
  t25 := Try.underlying99
  a25 := Try.isAgg99
  z25 := Try.sizeOf99
  v25 := Try.zeroValue99
  t39 := Try.underlying85
  a39 := Try.isAgg85
  z39 := Try.sizeOf85
  v39 := Try.zeroValue85
  t45 := Try.underlying106
  a45 := Try.isAgg106
  z45 := Try.sizeOf106
  v45 := Try.zeroValue106
  t46 := Try.underlying107
  a46 := Try.isAgg107
  z46 := Try.sizeOf107
  v46 := Try.zeroValue107
  t50 := Try.underlying111
  a50 := Try.isAgg111
  z50 := Try.sizeOf111
  v50 := Try.zeroValue111
  t53 := Try.underlying114
  a53 := Try.isAgg114
  z53 := Try.sizeOf114
  v53 := Try.zeroValue114
  t55 := Try.underlying24
  a55 := Try.isAgg24
  z55 := Try.sizeOf24
  v55 := Try.zeroValue24
  t66 := Try.underlying116
  a66 := Try.isAgg116
  z66 := Try.sizeOf116
  v66 := Try.zeroValue116
  t70 := Try.underlying120
  a70 := Try.isAgg120
  z70 := Try.sizeOf120
  v70 := Try.zeroValue120
  t76 := Try.underlying122
  a76 := Try.isAgg122
  z76 := Try.sizeOf122
  v76 := Try.zeroValue122
  t77 := Try.underlying88
  a77 := Try.isAgg88
  z77 := Try.sizeOf88
  v77 := Try.zeroValue88 }

/-- A place, its beginning bounded. -/
abbrev Plc := Fin 1024 × Nat
def encPl (p : Plc) : List Value := [.int .i64 (p.1.val : Nat), .int .i64 p.2]
def cfPl (p q : Plc) : Int := (p.1.val : Int) - (q.1.val : Int)

theorem ltPl (p q : Plc) : ltOf cfPl p q = decide (p.1.val < q.1.val) := by
  unfold ltOf cfPl
  rw [Bool.eq_iff_iff]
  simp
  omega

theorem swoPl : SWO (ltOf cfPl) where
  irrefl x := by rw [ltPl]; simp
  trans x y z h1 h2 := by rw [ltPl] at *; simp at *; omega
  ntrans x y z h1 h2 := by rw [ltPl] at *; simp at *; omega

set_option maxHeartbeats 1000000 in
theorem closurePl (x y : Plc) (W : World) : Calls Try.prog 61 #[.agg #[.int .i64 (x.1.val : Nat), .int .i64 x.2], .agg #[.int .i64 (y.1.val : Nat), .int .i64 y.2]] W fun e w' => e = .returned (.int .i64 (cfPl x y)) ∧ ∃ q os', w' = grow (W.drewN q) os' := by
  obtain ⟨⟨a, ha⟩, a2⟩ := x
  obtain ⟨⟨b, hb⟩, b2⟩ := y
  show Calls Try.prog 61 #[.agg #[.int .i64 (a : Nat), .int .i64 a2], .agg #[.int .i64 (b : Nat), .int .i64 b2]] W fun e w' => e = .returned (.int .i64 ((a : Int) - (b : Int))) ∧ ∃ q os', w' = grow (W.drewN q) os'
  have ha' : (a : Int) < 1024 := by omega
  have hb' : (b : Int) < 1024 := by omega
  go_enter Try.func61, Try.ntmps61
  go_wp2_with fail
  go_ret
  exact ⟨rfl, 0, _, by rw [alloc_eq_grow, alloc_eq_grow, grow_grow]; rfl⟩

theorem cmpPl (blk off size : Nat) (w : World) : CmpLays Try.prog 61 #[] encPl 2 cfPl blk off size w := fun _ _ _ _ x y => closurePl x y _
end Go.Proofs.Ytffbfgmhfnbmfaa
