/-
  Steps of a walk over operations whose run is known.
-/
import Derived.Test.YtnjgddckejpddaaGreatDoorIter
import Derived.Maps.OwnOps
namespace Go.Proofs.YtnjgddckejpddaaGreatDoor
open Go.RowKit
namespace Sep
section
variable {P : Program} {ops : Array Oper} {rest : List Oper} {o : Oper} {a : Act} {Q : Exit → Act → World → Prop} {w : World}

theorem wp_append_run {K : Act → World → Prop} {s x : Operand} {t tx : TypeId} (ho : o.op = .call { callee := .builtin .append, args := #[s, x], argTypes := #[t, tx] })
    {vs vx v' : Value} {w' : World} (hs : a.eval s = vs) (hx : a.eval x = vx) (hrun : (Builtin.append_ #[t, tx] o.type #[vs, vx]).run P w = .ok v' w') (h : K (a.put o.dst v') w') : o.wp P a w K Q := by
  unfold Oper.wp execOp
  simp only [ho, resolve, invoke, builtin, Sem.run_bind, Sem.run_pure, Result.andThen_ok, List.map_toArray, List.map_cons, List.map_nil, hs, hx, hrun]
  exact h

theorem wpList_append_run (hg : o.guard = none) {s x : Operand} {t tx : TypeId} (ho : o.op = .call { callee := .builtin .append, args := #[s, x], argTypes := #[t, tx] })
    {vs vx v' : Value} {w' : World} (hs : a.eval s = vs) (hx : a.eval x = vx) (hrun : (Builtin.append_ #[t, tx] o.type #[vs, vx]).run P w = .ok v' w') (h : wpList P ops Q rest (a.put o.dst v') w') : wpList P ops Q (o :: rest) a w :=
  wpList_plain hg fun _ hK => wp_append_run ho hs hx hrun (hK _ _ h)

theorem step_append_run {K : Act → World → Prop} {s x : Operand} {t tx ty : TypeId} {vs vx v' : Value} {w' : World} (hrun : (Builtin.append_ #[t, tx] ty #[vs, vx]).run P w = .ok v' w') (hg : o.guard = none)
    (ho : o.op = .call { callee := .builtin .append, args := #[s, x], argTypes := #[t, tx] }) (hty : o.type = ty) (hs : a.eval s = vs) (hx : a.eval x = vx) (h : K (a.put o.dst v') w') :
    if Region.wanted o (yielded ops a.tmps) = true then o.wp P a w K Q else K (a.put o.dst undef) w := by
  subst hty
  rw [if_pos (by simp [Region.wanted, hg])]; exact wp_append_run ho hs hx hrun h

theorem wp_mapUpdate_run {K : Act → World → Prop} {mt : TypeId} {m k x : Operand} (ho : o.op = .mapUpdate mt m k x) {vm vk vx : Value} {w' : World} (hm : a.eval m = vm) (hk : a.eval k = vk) (hx : a.eval x = vx)
    (hrun : (Instr.mapUpdate mt vm vk vx).run P w = .ok () w') (h : K (a.put o.dst undef) w') : o.wp P a w K Q := by
  unfold Oper.wp execOp
  simp only [ho, Sem.run_bind, hm, hk, hx, hrun, Result.andThen_ok, Sem.run_pure]
  exact h

theorem wpList_mapUpdate_run (hg : o.guard = none) {mt : TypeId} {m k x : Operand} (ho : o.op = .mapUpdate mt m k x) {vm vk vx : Value} {w' : World} (hm : a.eval m = vm) (hk : a.eval k = vk) (hx : a.eval x = vx)
    (hrun : (Instr.mapUpdate mt vm vk vx).run P w = .ok () w') (h : wpList P ops Q rest (a.put o.dst undef) w') : wpList P ops Q (o :: rest) a w :=
  wpList_plain hg fun _ hK => wp_mapUpdate_run ho hm hk hx hrun (hK _ _ h)

theorem wp_delete_run {K : Act → World → Prop} {s x : Operand} {t tx : TypeId} (ho : o.op = .call { callee := .builtin .delete, args := #[s, x], argTypes := #[t, tx] })
    {vs vx v' : Value} {w' : World} (hs : a.eval s = vs) (hx : a.eval x = vx) (hrun : (Builtin.delete_ #[t, tx] o.type #[vs, vx]).run P w = .ok v' w') (h : K (a.put o.dst v') w') : o.wp P a w K Q := by
  unfold Oper.wp execOp
  simp only [ho, resolve, invoke, builtin, Sem.run_bind, Sem.run_pure, Result.andThen_ok, List.map_toArray, List.map_cons, List.map_nil, hs, hx, hrun]
  exact h

theorem wpList_delete_run (hg : o.guard = none) {s x : Operand} {t tx : TypeId} (ho : o.op = .call { callee := .builtin .delete, args := #[s, x], argTypes := #[t, tx] })
    {vs vx v' : Value} {w' : World} (hs : a.eval s = vs) (hx : a.eval x = vx) (hrun : (Builtin.delete_ #[t, tx] o.type #[vs, vx]).run P w = .ok v' w') (h : wpList P ops Q rest (a.put o.dst v') w') : wpList P ops Q (o :: rest) a w :=
  wpList_plain hg fun _ hK => wp_delete_run ho hs hx hrun (hK _ _ h)

end
end Sep
end Go.Proofs.YtnjgddckejpddaaGreatDoor
