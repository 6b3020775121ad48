/- Calls of builtins whose run is known. -/
import Derived.Test.YtffbfgmhfnbmfaaBb
namespace Go.Proofs.Ytffbfgmhfnbmfaa
open Go.RowKit

section
variable {P : Program} {ops : Array Oper} {Q : Exit → Act → World → Prop} {a : Act} {w w' : World} {rest : List Oper} {dst : Option Tmp} {ats : Array TypeId} {ty : TypeId} {pos : String} {after : Array Edge} {x y : Operand} {v : Value}

theorem wpList_append_run (vx vy : Value) (hx : a.eval x = vx) (hy : a.eval y = vy) (hrun : (Builtin.append_ ats ty #[vx, vy]).run P w = .ok v w') (h : wpList P ops Q rest (a.put dst v) w') :
    wpList P ops Q ({ dst, op := .call { callee := .builtin .append, args := #[x, y], argTypes := ats }, type := ty, pos, after, guard := none } :: rest) a w := by
  subst hx hy
  refine wpList_plain rfl fun K hK => ?_
  unfold Oper.wp
  rw [BigFrame.execOp_builtin, BigFrame.builtin_append, List.map_toArray]
  simp only [List.map_cons, List.map_nil]
  rw [show ((do pure (Next.value (← Builtin.append_ ats ty #[a.eval x, a.eval y])) : Sem Next).run P w) = .ok (.value v) w' from by simp [hrun, Result.andThen]]
  exact hK _ _ h

theorem wpList_copy_run (vx vy : Value) (hx : a.eval x = vx) (hy : a.eval y = vy) (hrun : (Builtin.copy_ ats ty #[vx, vy]).run P w = .ok v w') (h : wpList P ops Q rest (a.put dst v) w') :
    wpList P ops Q ({ dst, op := .call { callee := .builtin .copy, args := #[x, y], argTypes := ats }, type := ty, pos, after, guard := none } :: rest) a w := by
  subst hx hy
  refine wpList_plain rfl fun K hK => ?_
  unfold Oper.wp
  rw [BigFrame.execOp_builtin, BigFrame.builtin_copy, List.map_toArray]
  simp only [List.map_cons, List.map_nil]
  rw [show ((do pure (Next.value (← Builtin.copy_ ats ty #[a.eval x, a.eval y])) : Sem Next).run P w) = .ok (.value v) w' from by simp [hrun, Result.andThen]]
  exact hK _ _ h

theorem wpList_clear_run (vx : Value) (hx : a.eval x = vx) (hrun : (Builtin.clear_ ats ty #[vx]).run P w = .ok v w') (h : wpList P ops Q rest (a.put dst v) w') :
    wpList P ops Q ({ dst, op := .call { callee := .builtin .clear, args := #[x], argTypes := ats }, type := ty, pos, after, guard := none } :: rest) a w := by
  subst hx
  refine wpList_plain rfl fun K hK => ?_
  unfold Oper.wp
  rw [BigFrame.execOp_builtin, BigFrame.builtin_clear, List.map_toArray]
  simp only [List.map_cons, List.map_nil]
  rw [show ((do pure (Next.value (← Builtin.clear_ ats ty #[a.eval x])) : Sem Next).run P w) = .ok (.value v) w' from by simp [hrun, Result.andThen]]
  exact hK _ _ h
end
end Go.Proofs.Ytffbfgmhfnbmfaa
