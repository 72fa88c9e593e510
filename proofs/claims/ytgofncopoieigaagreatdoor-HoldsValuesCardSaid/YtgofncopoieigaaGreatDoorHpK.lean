/-
  Chapter 17: slices.Clone, slices.Insert, slices.Delete over cells.
-/
import Derived.Test.YtgofncopoieigaaGreatDoorHpJ
import Derived.Lib.AppendZerosOnto
import Derived.Lib.Overlaps
import Derived.Deep.AppendSrc
import Derived.Deep.RegionLaw
namespace Go.Proofs.YtgofncopoieigaaGreatDoor
open Go Go.RowKit

/-- Cells of one block, some of them overwritten. -/
theorem setCells_blk {e : TypeId} (g : Nat) : ∀ (vs : List Value) (o : Nat) (w : World) (C : Array Value), w.heap[g]? = some (.cells C e (0, 0)) → o + vs.length ≤ C.size →
    ∃ C' : Array Value, (w.setCells g o vs).heap[g]? = some (.cells C' e (0, 0)) ∧ C'.size = C.size ∧ ∀ j, C'[j]? = if o ≤ j ∧ j < o + vs.length then vs[j - o]? else C[j]?
  | [], o, w, C, h, _ => ⟨C, h, rfl, fun j => by rw [if_neg (by simp only [List.length_nil]; omega)]⟩
  | v :: r, o, w, C, h, hl => by
    simp only [List.length_cons] at hl
    obtain ⟨C', h1, h2, h3⟩  := setCells_blk (e := e) g r (o + 1) (w.setCell ⟨g, o, none⟩ v) (C.setIfInBounds o v) (by simp [World.setCell, Array.getElem?_modify, h]) (by simp; omega)
    refine ⟨C', h1, by simpa using h2, fun j => ?_⟩
    rw [h3 j, Array.getElem?_setIfInBounds]
    simp only [List.length_cons]
    by_cases hj : o = j
    · subst hj
      rw [if_neg (by omega), if_pos rfl, if_pos (by omega), if_pos (by omega), Nat.sub_self]
      rfl
    · rw [if_neg hj]
      by_cases h4 : o + 1 ≤ j ∧ j < o + 1 + r.length
      · rw [if_pos h4, if_pos (by omega), show j - o = (j - (o + 1)) + 1 by omega, List.getElem?_cons_succ]
      · rw [if_neg h4, if_neg (by omega)]
theorem setCells_chg (g : Nat) : ∀ (vs : List Value) (o : Nat) (w : World), Chg (fun k => k = g) w (w.setCells g o vs)
  | [], _, _ => Chg.refl _ _
  | v :: r, o, w => ((Chg.refl (fun k => k = g) w).setCell ⟨g, o, none⟩ v (fun _ => rfl)).trans (setCells_chg g r (o + 1) (w.setCell ⟨g, o, none⟩ v)) (fun _ hk _ => hk)
theorem blk_cell {w : World} {g : Nat} {C : Array Value} {e : TypeId} (h : w.heap[g]? = some (.cells C e (0, 0))) (j : Nat) : w.cell? ⟨g, j, none⟩ = C[j]? := by simp [World.cell?, h]
theorem blk_frozen {w : World} {g : Nat} {C : Array Value} {e : TypeId} (h : w.heap[g]? = some (.cells C e (0, 0))) (j : Nat) : w.frozen? ⟨g, j, none⟩ = false := by simp [World.frozen?, h]

section
variable {P : Program}
theorem run_copy_cellsK (w : World) (dT sT ty elem : TypeId) (sz b o dLen dCap : Nat) (a : Addr) (sLen sCap n : Nat) (cs : List Value)
    (hu : P.underlying dT = some (.slice elem)) (hs : (P.info? elem).map (·.size) = some sz) (hn : Nat.min sLen dLen = n) (hl : cs.length = n * sz)
    (hsrc : ∀ j v, cs[j]? = some v → w.cell? (a.add j) = some v) (hc : ∀ j, j < cs.length → (w.cell? ⟨b, o + j, none⟩).isSome = true) (hf : ∀ j, j < cs.length → w.frozen? ⟨b, o + j, none⟩ = false) (h1 : ∀ v ∈ cs, v.oneCell' = true) :
    (Builtin.copy_ #[dT, sT] ty #[.slice (some ⟨b, o, none⟩) dLen dCap, .slice (some a) sLen sCap]).run P w = .ok (goInt n) (w.setCells b o cs) := by
  have hld := run_loadCells_list (P := P) w a cs hsrc
  have hst := run_storeCells_cells (P := P) b o cs 0 w (by simpa using hc) (by simpa using hf) h1
  cases hq : P.info? elem with
  | none => simp [hq] at hs
  | some i =>
    have hi : i.size = sz := by simpa [hq] using hs
    simp [Builtin.copy_, run_underlying hu, Builtin.lenOf, Builtin.firstCells, sizeOf, typeInfo, hq, hi, hn, ← hl, hld, hst]
theorem wp_copy_runK (w : World) {o : Oper} {a : Act} {K : Act → World → Prop} {Q : Exit → Act → World → Prop} (d s : Operand) (t t' : TypeId)
    (ho : o.op = .call { callee := .builtin .copy, args := #[d, s], argTypes := #[t, t'] }) (v u : Value) (hd : a.eval d = v) (hs : a.eval s = u) {v' : Value} {w' : World}
    (hr : (Builtin.copy_ #[t, t'] o.type #[v, u]).run P w = .ok v' w') (h : K (a.put o.dst v') w') : o.wp P a w K Q := by
  unfold Oper.wp execOp
  simp only [ho, resolve, invoke, builtin, Sem.run_bind, Sem.run_pure, Result.andThen_ok, List.map_toArray, List.map_cons, List.map_nil, hd, hs, hr]
  exact h
theorem wpList_copy_runK (w : World) {ops : Array Oper} {rest : List Oper} {o : Oper} {a : Act} {Q : Exit → Act → World → Prop} (hgd : o.guard = none) (d s : Operand) (t t' : TypeId)
    (ho : o.op = .call { callee := .builtin .copy, args := #[d, s], argTypes := #[t, t'] }) (v u : Value) (hd : a.eval d = v) (hs : a.eval s = u) {v' : Value} {w' : World}
    (hr : (Builtin.copy_ #[t, t'] o.type #[v, u]).run P w = .ok v' w') (h : wpList P ops Q rest (a.put o.dst v') w') : wpList P ops Q (o :: rest) a w :=
  wpList_plain hgd fun _ hK => wp_copy_runK w d s t t' ho v u hd hs hr (hK _ _ h)
theorem step_copy_runK {ops : Array Oper} {o : Oper} {a : Act} {w : World} {K : Act → World → Prop} {Q : Exit → Act → World → Prop} {E : Prop}
    (hg : o.guard = none) (d x : Operand) (dT sT : TypeId) (hop : o.op = Op.call { callee := Callee.builtin Builtin.copy, args := #[d, x], argTypes := #[dT, sT] })
    (v u : Value) (hd : a.eval d = v) (hx : a.eval x = u) {v' : Value} {w' : World} (hr : (Builtin.copy_ #[dT, sT] o.type #[v, u]).run P w = .ok v' w') (hK : K (a.put o.dst v') w') :
    if Region.wanted o (yielded ops a.tmps) = true then Oper.wp P o a w K Q else E := by
  have hw : Region.wanted o (yielded ops a.tmps) = true := by simp [Region.wanted, hg]
  rw [if_pos hw]
  unfold Oper.wp
  simp [execOp, hop, resolve, invoke, builtin, hd, hx, hr, Result.andThen]
  exact hK
end

/-- An owned row of cells, opened. -/
theorem OTris.blk {e : TypeId} {M : Nat → Prop} {w : World} {g o n cap : Nat} {l : List Tri} (h : OTris e M w (.slice (some ⟨g, o, none⟩) n cap) l) :
    n = l.length ∧ M g ∧ n ≤ cap ∧ cap ≤ maxLen ∧ (∀ m ∈ l, TriOk m) ∧ ∃ C : Array Value, w.heap[g]? = some (.cells C e (0, 0)) ∧ o + cap * 3 ≤ C.size ∧ ∀ j u, (encL l)[j]? = some u → C[o + j]? = some u := by
  obtain ⟨h1, h2⟩ := OTris.iff.1 h
  rcases h1.2 with ⟨e, _⟩ | ⟨g', o', cap', cur, e, hM, hg, g1, g2, g3, g4⟩
  · cases e
  injection e with e1 e2 e3
  injection e1 with e1
  injection e1 with e1 e4
  subst e1; subst e4; subst e3
  exact ⟨e2, hM, by omega, g2, h2, cur, hg, g3, g4⟩
theorem OTris.mkB {e : TypeId} {M : Nat → Prop} {w : World} {g o cap : Nat} {l : List Tri} (hM : M g) (h1 : l.length ≤ cap) (h2 : cap ≤ maxLen) (h3 : ∀ m ∈ l, TriOk m) {C : Array Value} (hg : w.heap[g]? = some (.cells C e (0, 0))) (h4 : o + cap * 3 ≤ C.size) (h5 : ∀ j u, (encL l)[j]? = some u → C[o + j]? = some u) :
    OTris e M w (.slice (some ⟨g, o, none⟩) l.length cap) l :=
  OTris.iff.2 ⟨⟨encL_length l, .inr ⟨g, o, cap, C, rfl, hM, hg, h1, h2, h4, h5⟩⟩, h3⟩
theorem encL_append (p q : List Tri) : encL (p ++ q) = encL p ++ encL q := by unfold encL; simp
theorem encL_cons (m : Tri) (q : List Tri) : encL (m :: q) = enc3 m ++ encL q := by unfold encL; simp
theorem encL_take (l : List Tri) (i : Nat) : encL (l.take i) = (encL l).take (i * 3) := by
  rcases Nat.le_total l.length i with h | h
  · rw [List.take_of_length_le h, List.take_of_length_le (by rw [encL_length]; omega)]
  · have e := encL_append (l.take i) (l.drop i)
    rw [List.take_append_drop] at e
    rw [e, List.take_left' (by rw [encL_length, List.length_take]; congr 1; omega)]
theorem encL_drop (l : List Tri) (i : Nat) : encL (l.drop i) = (encL l).drop (i * 3) := by
  rcases Nat.le_total l.length i with h | h
  · rw [List.drop_eq_nil_of_le h, List.drop_eq_nil_of_le (by rw [encL_length]; omega)]
    rfl
  · have e := encL_append (l.take i) (l.drop i)
    rw [List.take_append_drop] at e
    rw [e, List.drop_left' (by rw [encL_length, List.length_take]; congr 1; omega)]
theorem encL_one (l : List Tri) : ∀ u ∈ encL l, u.oneCell' = true := fun u hu => by
  obtain ⟨c, hc, hu⟩ := List.mem_flatten.1 hu
  obtain ⟨m, _, rfl⟩ := List.mem_map.1 hc
  simp [enc3] at hu
  rcases hu with rfl | rfl | rfl <;> rfl


/-- A share as the one element of a row of its own. -/
def OneAt (w : World) (vb : Nat) (c : Tri) : Prop := w.heap[vb]? = some (.cells #[.int .i64 c.1, .string c.2.1, .int .i64 c.2.2] 67 (0, 0))
theorem OneAt.news {w : World} {vb : Nat} {c : Tri} (h : OneAt w vb c) : ∀ j u, (enc3 c)[j]? = some u → w.cell? ((⟨vb, 0, none⟩ : Addr).add j) = some u := news_of (cs := enc3 c) h
theorem enc3_one (c : Tri) : ∀ u ∈ enc3 c, u.oneCell' = true := fun u hu => by
  simp [enc3] at hu
  rcases hu with rfl | rfl | rfl <;> rfl

end Go.Proofs.YtgofncopoieigaaGreatDoor
