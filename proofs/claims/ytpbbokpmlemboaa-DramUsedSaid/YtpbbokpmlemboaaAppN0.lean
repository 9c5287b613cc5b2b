/-
  append of nothing.
-/
import Derived.Test.YtpbbokpmlemboaaBase
namespace Go.Proofs.Ytpbbokpmlemboaa
open Go.RowKit

/-- append of nothing. -/
theorem wpList_app_none' {P : Program} {ops : Array Oper} {rest : List Oper} {o : Oper} {a : Act} {w : World} {Q : Exit → Act → World → Prop} (hgd : o.guard = none) (s x : Operand) (t : TypeId)
    (ho : o.op = .call { callee := .builtin .append, args := #[s, x], argTypes := #[t, t] })
    (e : TypeId) (z : Array Value) (size bytes : Nat) (ht : P.underlying t = some (.slice e))
    (hz : (P.info? e).map (fun i => (i.zero.map Value.cells, i.size, i.bytes)) = some (some z, size, bytes))
    (b : Option Addr) (n cap : Nat) (hle : n ≤ cap) (hs : a.eval s = .slice b n cap) (b2 : Option Addr) (c : Nat) (hx : a.eval x = .slice b2 0 c)
    (h : wpList P ops Q rest (a.put o.dst (.slice b n cap)) w) : wpList P ops Q (o :: rest) a w := by
  cases hq : P.info? e with
  | none => simp [hq] at hz
  | some i =>
    have hr : (Builtin.append_ #[t, t] o.type #[.slice b n cap, .slice b2 0 c]).run P w = .ok (.slice b n cap) w := by
      cases b <;> cases b2 <;> simp [Builtin.append_, Builtin.lenOf, Builtin.firstCells, run_underlying ht, sizeOf, typeInfo, hq, hle, storeCells, loadCells, loadCellsFrom]
    refine wpList_plain hgd fun K hK => ?_
    unfold Oper.wp execOp
    simp only [ho, resolve, invoke, builtin, Sem.run_bind, Sem.run_pure, Result.andThen_ok, List.map_toArray, List.map_cons, List.map_nil, hs, hx, hr]
    exact hK _ _ h


/-- The same, as one step of a region that draws its order. -/
theorem step_app_none {P : Program} {ops : Array Oper} {o : Oper} {a : Act} {w : World} {K : Act → World → Prop} {Q : Exit → Act → World → Prop} {E : Prop} (hgd : o.guard = none) (s x : Operand) (t : TypeId)
    (ho : o.op = .call { callee := .builtin .append, args := #[s, x], argTypes := #[t, t] })
    (e : TypeId) (z : Array Value) (size bytes : Nat) (ht : P.underlying t = some (.slice e))
    (hz : (P.info? e).map (fun i => (i.zero.map Value.cells, i.size, i.bytes)) = some (some z, size, bytes))
    (b : Option Addr) (n cap : Nat) (hle : n ≤ cap) (hs : a.eval s = .slice b n cap) (b2 : Option Addr) (c : Nat) (hx : a.eval x = .slice b2 0 c)
    (h : K (a.put o.dst (.slice b n cap)) w) : if Region.wanted o (yielded ops a.tmps) = true then Oper.wp P o a w K Q else E := by
  have hw : Region.wanted o (yielded ops a.tmps) = true := by simp [Region.wanted, hgd]
  rw [if_pos hw]
  cases hq : P.info? e with
  | none => simp [hq] at hz
  | some i =>
    have hr : (Builtin.append_ #[t, t] o.type #[.slice b n cap, .slice b2 0 c]).run P w = .ok (.slice b n cap) w := by
      cases b <;> cases b2 <;> simp [Builtin.append_, Builtin.lenOf, Builtin.firstCells, run_underlying ht, sizeOf, typeInfo, hq, hle, storeCells, loadCells, loadCellsFrom]
    unfold Oper.wp execOp
    simp only [ho, resolve, invoke, builtin, Sem.run_bind, Sem.run_pure, Result.andThen_ok, List.map_toArray, List.map_cons, List.map_nil, hs, hx, hr]
    exact h
end Go.Proofs.Ytpbbokpmlemboaa
