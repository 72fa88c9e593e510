/-
  Chapter 17: slices.Delete over cells; Insert whole; plain setting and dropping.
-/
import Derived.Test.YtgofncopoieigaaGreatDoorHpK
namespace Go.Proofs.YtgofncopoieigaaGreatDoor
open Go Go.RowKit

section
variable {P : Program}
theorem step_append_runK {ops : Array Oper} {o : Oper} {a : Act} {w : World} {K : Act → World → Prop} {Q : Exit → Act → World → Prop} {E : Prop}
    (hg : o.guard = none) (d x : Operand) (dT sT : TypeId) (hop : o.op = Op.call { callee := Callee.builtin Builtin.append, args := #[d, x], argTypes := #[dT, sT] })
    (v u : Value) (hd : a.eval d = v) (hx : a.eval x = u) {v' : Value} {w' : World} (hr : (Builtin.append_ #[dT, sT] o.type #[v, u]).run P w = .ok v' w') (hK : K (a.put o.dst v') w') :
    if Region.wanted o (yielded ops a.tmps) = true then Oper.wp P o a w K Q else E := by
  have hw : Region.wanted o (yielded ops a.tmps) = true := by simp [Region.wanted, hg]
  rw [if_pos hw]
  unfold Oper.wp
  simp [execOp, hop, resolve, invoke, builtin, hd, hx, hr, Result.andThen]
  exact hK
theorem wpList_clear_runK (w : World) {ops : Array Oper} {rest : List Oper} {o : Oper} {a : Act} {Q : Exit → Act → World → Prop} (hgd : o.guard = none) (d : Operand) (t : TypeId)
    (ho : o.op = .call { callee := .builtin .clear, args := #[d], argTypes := #[t] }) (v : Value) (hd : a.eval d = v) {v' : Value} {w' : World}
    (hr : (Builtin.clear_ #[t] o.type #[v]).run P w = .ok v' w') (h : wpList P ops Q rest (a.put o.dst v') w') : wpList P ops Q (o :: rest) a w :=
  wpList_plain hgd fun _ hK => by
    unfold Oper.wp execOp
    simp only [ho, resolve, invoke, builtin, Sem.run_bind, Sem.run_pure, Result.andThen_ok, List.map_toArray, List.map_cons, List.map_nil, hd, hr]
    exact hK _ _ h
end
def zero3 : List Value := [.int .i64 0, .string ByteArray.empty, .int .i64 0]
theorem clear_one (w : World) (ty : TypeId) (b o c : Nat) (hc : ∀ j, j < 3 → (w.cell? ⟨b, o + j, none⟩).isSome = true) (hf : ∀ j, j < 3 → w.frozen? ⟨b, o + j, none⟩ = false) :
    (Builtin.clear_ #[32] ty #[.slice (some ⟨b, o, none⟩) 1 c]).run Tryz.prog w = .ok (.tuple #[]) (w.setCells b o zero3) := by
  have hz : (Builtin.zeroCells zT.cells 1).toList = zero3 := by
    unfold Builtin.zeroCells
    rw [Array.toList_map, Array.toList_range]
    rfl
  have hz3 : zero3.length = 3 := rfl
  have hv := Tryz.zeroValue67
  have hst := run_storeCells_cells (P := Tryz.prog) b o zero3 0 w (by rw [hz3]; simpa using hc) (by rw [hz3]; simpa using hf) (fun v hv => by
    simp [zero3] at hv
    rcases hv with rfl | rfl | rfl <;> rfl)
  simp only [Nat.add_zero] at hst
  simp [Builtin.clear_, run_underlying Tryz.underlying32, hv]
  have hz2 : (Builtin.zeroCells (Value.agg #[Value.int .i64 0, Value.string { data := #[] }, Value.int .i64 0]).cells 1).toList = zero3 := hz
  rw [hz2, hst]
  rfl

end Go.Proofs.YtgofncopoieigaaGreatDoor
