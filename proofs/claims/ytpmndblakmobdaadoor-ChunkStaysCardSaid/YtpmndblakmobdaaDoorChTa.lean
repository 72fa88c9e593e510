/-
  ChN, ChP, ChQ, ChS, ChT, ChU, ChW, ShO, in one file.
-/
import Derived.Test.YtpmndblakmobdaaDoorChRf
import Derived.Lib.Overlaps
import Derived.Deep.AppendSrc
import Derived.Deep.RegionLaw
import Derived.Lib.AppendZerosOnto
import Derived.Test.YtpmndblakmobdaaDoorLater
import Derived.Test.YtpmndblakmobdaaDoorRows
import Derived.Test.YtpmndblakmobdaaDoorShN
import Derived.SliceStrings
import Derived.ProofKit
import Derived.LaidMore
import Derived.Stop.Joined
/- ChN -/
namespace Go.Proofs.YtpmndblakmobdaaDoor
open Go Go.RowKit

/-- Cells of one block, some of them overwritten. -/
theorem setCells_blk {e : TypeId} (g : Nat) : ∀ (vs : List Value) (o : Nat) (w : World) (C : Array Value), w.heap[g]? = some (.cells C e (0, 0)) → o + vs.length ≤ C.size →
    ∃ C' : Array Value, (w.setCells g o vs).heap[g]? = some (.cells C' e (0, 0)) ∧ C'.size = C.size ∧ ∀ j, C'[j]? = if o ≤ j ∧ j < o + vs.length then vs[j - o]? else C[j]?
  | [], o, w, C, h, _ => ⟨C, h, rfl, fun j => by rw [if_neg (by simp only [List.length_nil]; omega)]⟩
  | v :: r, o, w, C, h, hl => by
    simp only [List.length_cons] at hl
    obtain ⟨C', h1, h2, h3⟩  := setCells_blk (e := e) g r (o + 1) (w.setCell ⟨g, o, none⟩ v) (C.setIfInBounds o v) (by simp [World.setCell, Array.getElem?_modify, h]) (by simp; omega)
    refine ⟨C', h1, by simpa using h2, fun j => ?_⟩
    rw [h3 j, Array.getElem?_setIfInBounds]
    simp only [List.length_cons]
    by_cases hj : o = j
    · subst hj
      rw [if_neg (by omega), if_pos rfl, if_pos (by omega), if_pos (by omega), Nat.sub_self]
      rfl
    · rw [if_neg hj]
      by_cases h4 : o + 1 ≤ j ∧ j < o + 1 + r.length
      · rw [if_pos h4, if_pos (by omega), show j - o = (j - (o + 1)) + 1 by omega, List.getElem?_cons_succ]
      · rw [if_neg h4, if_neg (by omega)]
theorem setCells_chg (g : Nat) : ∀ (vs : List Value) (o : Nat) (w : World), Chg (fun k => k = g) w (w.setCells g o vs)
  | [], _, _ => Chg.refl _ _
  | v :: r, o, w => ((Chg.refl (fun k => k = g) w).setCell ⟨g, o, none⟩ v (fun _ => rfl)).trans (setCells_chg g r (o + 1) (w.setCell ⟨g, o, none⟩ v)) (fun _ hk _ => hk)
theorem blk_cell {w : World} {g : Nat} {C : Array Value} {e : TypeId} (h : w.heap[g]? = some (.cells C e (0, 0))) (j : Nat) : w.cell? ⟨g, j, none⟩ = C[j]? := by simp [World.cell?, h]
theorem blk_frozen {w : World} {g : Nat} {C : Array Value} {e : TypeId} (h : w.heap[g]? = some (.cells C e (0, 0))) (j : Nat) : w.frozen? ⟨g, j, none⟩ = false := by simp [World.frozen?, h]

section
variable {P : Program}
theorem run_copy_cellsK (w : World) (dT sT ty elem : TypeId) (sz b o dLen dCap : Nat) (a : Addr) (sLen sCap n : Nat) (cs : List Value)
    (hu : P.underlying dT = some (.slice elem)) (hs : (P.info? elem).map (·.size) = some sz) (hn : Nat.min sLen dLen = n) (hl : cs.length = n * sz)
    (hsrc : ∀ j v, cs[j]? = some v → w.cell? (a.add j) = some v) (hc : ∀ j, j < cs.length → (w.cell? ⟨b, o + j, none⟩).isSome = true) (hf : ∀ j, j < cs.length → w.frozen? ⟨b, o + j, none⟩ = false) (h1 : ∀ v ∈ cs, v.oneCell' = true) :
    (Builtin.copy_ #[dT, sT] ty #[.slice (some ⟨b, o, none⟩) dLen dCap, .slice (some a) sLen sCap]).run P w = .ok (goInt n) (w.setCells b o cs) := by
  have hld := run_loadCells_list (P := P) w a cs hsrc
  have hst := run_storeCells_cells (P := P) b o cs 0 w (by simpa using hc) (by simpa using hf) h1
  cases hq : P.info? elem with
  | none => simp [hq] at hs
  | some i =>
    have hi : i.size = sz := by simpa [hq] using hs
    simp [Builtin.copy_, run_underlying hu, Builtin.lenOf, Builtin.firstCells, sizeOf, typeInfo, hq, hi, hn, ← hl, hld, hst]
theorem wp_copy_runK (w : World) {o : Oper} {a : Act} {K : Act → World → Prop} {Q : Exit → Act → World → Prop} (d s : Operand) (t t' : TypeId)
    (ho : o.op = .call { callee := .builtin .copy, args := #[d, s], argTypes := #[t, t'] }) (v u : Value) (hd : a.eval d = v) (hs : a.eval s = u) {v' : Value} {w' : World}
    (hr : (Builtin.copy_ #[t, t'] o.type #[v, u]).run P w = .ok v' w') (h : K (a.put o.dst v') w') : o.wp P a w K Q := by
  unfold Oper.wp execOp
  simp only [ho, resolve, invoke, builtin, Sem.run_bind, Sem.run_pure, Result.andThen_ok, List.map_toArray, List.map_cons, List.map_nil, hd, hs, hr]
  exact h
theorem wpList_copy_runK (w : World) {ops : Array Oper} {rest : List Oper} {o : Oper} {a : Act} {Q : Exit → Act → World → Prop} (hgd : o.guard = none) (d s : Operand) (t t' : TypeId)
    (ho : o.op = .call { callee := .builtin .copy, args := #[d, s], argTypes := #[t, t'] }) (v u : Value) (hd : a.eval d = v) (hs : a.eval s = u) {v' : Value} {w' : World}
    (hr : (Builtin.copy_ #[t, t'] o.type #[v, u]).run P w = .ok v' w') (h : wpList P ops Q rest (a.put o.dst v') w') : wpList P ops Q (o :: rest) a w :=
  wpList_plain hgd fun _ hK => wp_copy_runK w d s t t' ho v u hd hs hr (hK _ _ h)
theorem step_copy_runK {ops : Array Oper} {o : Oper} {a : Act} {w : World} {K : Act → World → Prop} {Q : Exit → Act → World → Prop} {E : Prop}
    (hg : o.guard = none) (d x : Operand) (dT sT : TypeId) (hop : o.op = Op.call { callee := Callee.builtin Builtin.copy, args := #[d, x], argTypes := #[dT, sT] })
    (v u : Value) (hd : a.eval d = v) (hx : a.eval x = u) {v' : Value} {w' : World} (hr : (Builtin.copy_ #[dT, sT] o.type #[v, u]).run P w = .ok v' w') (hK : K (a.put o.dst v') w') :
    if Region.wanted o (yielded ops a.tmps) = true then Oper.wp P o a w K Q else E := by
  have hw : Region.wanted o (yielded ops a.tmps) = true := by simp [Region.wanted, hg]
  rw [if_pos hw]
  unfold Oper.wp
  simp [execOp, hop, resolve, invoke, builtin, hd, hx, hr, Result.andThen]
  exact hK
end


set_option maxRecDepth 100000 in
set_option maxHeartbeats 1000000 in
theorem cloneCh_any {R : Nat → Prop} {w : World} {A : Option Addr} {l : List Chunk} {cap : Nat} (hl : Chunks R w A l cap) :
    Calls Tryd.prog 19 #[.slice A l.length cap] w fun e w' => ∃ A' cap', e = .returned (.slice A' l.length cap') ∧ OwnL chV 38 (fun k => w.heap.size ≤ k) R w' (.slice A' l.length cap') l ∧ Chg No w w' := by
  cases hA : A with
  | none =>
    subst hA
    have h0 : l = [] := List.eq_nil_of_length_eq_zero (by have := hl.le; have := hl.nil rfl; omega)
    have hc : cap = 0 := hl.nil rfl
    subst h0; subst hc
    have he : ∀ W, (binOp .eql 22 (.slice none 0 0) (.slice none 0 0)).run Tryd.prog W = .ok (.bool true) W := fun W => by kernel_rfl
    clear hl
    go_enter Tryd.func19, Tryd.ntmps19
    go_wp2
    go_ret
    exact ⟨none, 0, rfl, OwnL.nil _ _ _ _ _, Chg.refl _ _⟩
  | some a =>
    subst hA
    have HL := Lib.hid hl
    have he := fun W => Lib.run_eql_slice_nil (P := Tryd.prog) W 22 38 (some a) l.length cap 0 0 Tryd.underlying22
    clear hl
    go_enter Tryd.func19, Tryd.ntmps19
    go_wp2_with (at_builtin; refine wpList_copyL chV_good ch_one chunksTy rfl (.tmp 5) (.tmp 6) rfl rfl rfl HL.out rfl ?_; intro A' cap' w' h1 h2 h3)
    go_ret
    exact ⟨A', cap', rfl, h1, h2⟩

theorem flatten_take {α : Type} {m : Nat} : ∀ {C : List (List α)}, (∀ c ∈ C, c.length = m) → ∀ i, (C.take i).flatten = C.flatten.take (i * m)
  | [], _, i => by simp
  | c :: C, h, 0 => by simp
  | c :: C, h, i + 1 => by
    have hc : c.length = m := h c (by simp)
    rw [List.take_succ_cons, List.flatten_cons, List.flatten_cons, flatten_take (fun x hx => h x (by simp [hx])) i, List.take_append, List.take_of_length_le (l := c) (by rw [hc, Nat.succ_mul]; omega)]
    congr 2
    rw [hc, Nat.succ_mul]; omega
theorem flatten_drop {α : Type} {m : Nat} : ∀ {C : List (List α)}, (∀ c ∈ C, c.length = m) → ∀ i, (C.drop i).flatten = C.flatten.drop (i * m)
  | [], _, i => by simp
  | c :: C, h, 0 => by simp
  | c :: C, h, i + 1 => by
    have hc : c.length = m := h c (by simp)
    rw [List.drop_succ_cons, List.flatten_cons, flatten_drop (fun x hx => h x (by simp [hx])) i, List.drop_append, show List.drop ((i + 1) * m) c = [] from List.drop_eq_nil_of_le (by rw [hc, Nat.succ_mul]; omega), List.nil_append]
    congr 1
    rw [hc, Nat.succ_mul]; omega
theorem take_drop_lt {α : Type} (l : List α) (i q : Nat) (h : q < (l.take i ++ l.drop (i + 1)).length) (hq : q < i) (h' : q < l.length) : (l.take i ++ l.drop (i + 1))[q] = l[q] := by
  rw [List.getElem_append_left (by simp; omega)]; simp
theorem take_drop_ge {α : Type} (l : List α) (i q : Nat) (h : q < (l.take i ++ l.drop (i + 1)).length) (hq : ¬ q < i) (h' : q + 1 < l.length) : (l.take i ++ l.drop (i + 1))[q] = l[q + 1] := by
  rw [List.getElem_append_right (by simp; omega)]
  simp only [List.getElem_drop, List.length_take]
  congr 1; omega
section
variable {P : Program}
theorem step_append_runK {ops : Array Oper} {o : Oper} {a : Act} {w : World} {K : Act → World → Prop} {Q : Exit → Act → World → Prop} {E : Prop}
    (hg : o.guard = none) (d x : Operand) (dT sT : TypeId) (hop : o.op = Op.call { callee := Callee.builtin Builtin.append, args := #[d, x], argTypes := #[dT, sT] })
    (v u : Value) (hd : a.eval d = v) (hx : a.eval x = u) {v' : Value} {w' : World} (hr : (Builtin.append_ #[dT, sT] o.type #[v, u]).run P w = .ok v' w') (hK : K (a.put o.dst v') w') :
    if Region.wanted o (yielded ops a.tmps) = true then Oper.wp P o a w K Q else E := by
  have hw : Region.wanted o (yielded ops a.tmps) = true := by simp [Region.wanted, hg]
  rw [if_pos hw]
  unfold Oper.wp
  simp [execOp, hop, resolve, invoke, builtin, hd, hx, hr, Result.andThen]
  exact hK
theorem wpList_clear_runK (w : World) {ops : Array Oper} {rest : List Oper} {o : Oper} {a : Act} {Q : Exit → Act → World → Prop} (hgd : o.guard = none) (d : Operand) (t : TypeId)
    (ho : o.op = .call { callee := .builtin .clear, args := #[d], argTypes := #[t] }) (v : Value) (hd : a.eval d = v) {v' : Value} {w' : World}
    (hr : (Builtin.clear_ #[t] o.type #[v]).run P w = .ok v' w') (h : wpList P ops Q rest (a.put o.dst v') w') : wpList P ops Q (o :: rest) a w :=
  wpList_plain hgd fun _ hK => by
    unfold Oper.wp execOp
    simp only [ho, resolve, invoke, builtin, Sem.run_bind, Sem.run_pure, Result.andThen_ok, List.map_toArray, List.map_cons, List.map_nil, hd, hr]
    exact hK _ _ h
end
def zero6 : List Value := [.int .i64 0, .slice none 0 0, .string ByteArray.empty, .int .i64 0, .int .i64 0, .slice none 0 0]
abbrev zCh : Value := .agg #[.int .i64 0, .slice none 0 0, .string ByteArray.empty, .int .i64 0, .int .i64 0, .slice none 0 0]
theorem clear_one6 (w : World) (ty : TypeId) (b o c : Nat) (hc : ∀ j, j < 6 → (w.cell? ⟨b, o + j, none⟩).isSome = true) (hf : ∀ j, j < 6 → w.frozen? ⟨b, o + j, none⟩ = false) :
    (Builtin.clear_ #[22] ty #[.slice (some ⟨b, o, none⟩) 1 c]).run Tryd.prog w = .ok (.tuple #[]) (w.setCells b o zero6) := by
  have hz : (Builtin.zeroCells zCh.cells 1).toList = zero6 := by
    unfold Builtin.zeroCells
    rw [Array.toList_map, Array.toList_range]
    rfl
  have hz3 : zero6.length = 6 := rfl
  have hv := Tryd.zeroValue38
  have hst := run_storeCells_cells (P := Tryd.prog) b o zero6 0 w (by rw [hz3]; simpa using hc) (by rw [hz3]; simpa using hf) (fun v hv => by
    simp [zero6] at hv
    rcases hv with rfl | rfl | rfl | rfl | rfl | rfl <;> rfl)
  simp only [Nat.add_zero] at hst
  simp [Builtin.clear_, run_underlying Tryd.underlying22, hv]
  have hz2 : (Builtin.zeroCells (Value.agg #[Value.int .i64 0, Value.slice none 0 0, Value.string { data := #[] }, Value.int .i64 0, Value.int .i64 0, Value.slice none 0 0]).cells 1).toList = zero6 := hz
  rw [hz2, hst]
  rfl

set_option maxRecDepth 100000 in
set_option maxHeartbeats 4000000 in
theorem deleteCh_any {M R : Nat → Prop} {w : World} {g o k cap : Nat} {l : List Chunk} (h : OwnL chV 38 M R w (.slice (some ⟨g, o, none⟩) (k + 1) cap) l) (hn : k + 1 = l.length) (hlen : l.length ≤ 100000) {i : Nat} (hi : i ≤ k) :
    Calls Tryd.prog 20 #[.slice (some ⟨g, o, none⟩) (k + 1) cap, .int .i64 i, .int .i64 (i + 1)] w fun e w' => e = .returned (.slice (some ⟨g, o, none⟩) k cap) ∧ OwnL chV 38 M R w' (.slice (some ⟨g, o, none⟩) k cap) (l.take i ++ l.drop (i + 1)) ∧ Chg (fun k => k = g) w w' := by
  obtain ⟨D, ⟨hxl, how⟩, hDl, hV⟩ := h
  obtain ⟨hMg, hnc, hmax, C, hC, hCs, hCe⟩ : M g ∧ k + 1 ≤ cap ∧ cap ≤ maxLen ∧ ∃ C : Array Value, w.heap[g]? = some (.cells C 38 (0, 0)) ∧ o + cap * 6 ≤ C.size ∧ ∀ j u, D.flatten[j]? = some u → C[o + j]? = some u := by
    rcases how with ⟨e, _⟩ | ⟨g', o', cap', cur, e, q1, q2, q3, q4, q5, q6⟩
    · cases e
    · injection e with e1 e2 e3
      injection e1 with e1
      injection e1 with e1 e4
      subst e1; subst e4; subst e3
      exact ⟨q1, by omega, q4, cur, q2, q5, q6⟩
  have hD6 : ∀ c ∈ D, c.length = 6 := fun c hc => by
    obtain ⟨j, hj, rfl⟩ := List.getElem_of_mem hc
    exact chV_good.len (hV j (by omega) hj)
  have hD1 : ∀ u ∈ D.flatten, u.oneCell' = true := fun u hu => by
    obtain ⟨c, hcC, huc⟩ := List.mem_flatten.1 hu
    obtain ⟨j, hj, rfl⟩ := List.getElem_of_mem hcC
    exact ch_one (hV j (by omega) hj) u huc
  have hXl : D.flatten.length = l.length * 6 := by rw [flatten_length hD6, hDl]
  have hbc := blk_cell hC
  have hbf := blk_frozen hC
  obtain ⟨i0, hi0, hz0, hzs, hzb⟩ := info_parts chunksTy.info
  have hzs : i0.size = 6 := hzs
  have hdl : (D.flatten.drop ((i + 1) * 6)).length = (k - i) * 6 := by rw [List.length_drop, hXl, ← hn]; omega
  have hap : ∀ ty a' n' c', n' = k - i → (∀ j u, (D.flatten.drop ((i + 1) * 6))[j]? = some u → w.cell? ((a' : Addr).add j) = some u) → (Builtin.append_ #[22, 22] ty #[.slice (some ⟨g, o, none⟩) i cap, .slice (some a') n' c']).run Tryd.prog w.drew = .ok (.slice (some ⟨g, o, none⟩) k cap) (w.drew.setCells g (o + i * 6) (D.flatten.drop ((i + 1) * 6))) := fun ty a' n' c' hn' hnews => by
    subst hn'
    have hs : Src Tryd.prog i0.size 22 (.slice (some a') (k - i) c') (k - i) (D.flatten.drop ((i + 1) * 6)) w.drew := by
      rw [hzs]
      exact Src.ofSlice w.drew Tryd.underlying22 a' (k - i) c' _ hdl (fun j u hj => hnews j u hj) (fun u hu => hD1 u (List.mem_of_mem_drop hu))
    have := run_append_room_src w.drew 22 22 ty 38 i0 Tryd.underlying22 hi0 g o i cap _ (k - i) _ hs (by omega)
      (fun j hj => by rw [hzs]; show (w.cell? _).isSome = true; rw [hbc, Array.getElem?_eq_getElem (by omega)]; rfl) (fun j hj => hbf _)
    rw [hzs, show i + (k - i) = k by omega] at this
    exact this
  obtain ⟨C1, hC1, hs1, he1⟩ := setCells_blk (e := 38) g (D.flatten.drop ((i + 1) * 6)) (o + i * 6) w.drew C hC (by omega)
  have hch1 := setCells_chg g (D.flatten.drop ((i + 1) * 6)) (o + i * 6) w.drew
  obtain ⟨W1, hW1⟩ : ∃ W1, W1 = w.drew.setCells g (o + i * 6) (D.flatten.drop ((i + 1) * 6)) := ⟨_, rfl⟩
  rw [← hW1] at hap hC1 hch1
  have hch1' : Chg (fun k => k = g) w W1 := ((Chg.refl _ w).drew).trans hch1 (fun k hk _ => hk)
  have hl3 : zero6.length = 6 := rfl
  have hcl : ∀ ty c', (Builtin.clear_ #[22] ty #[.slice (some ⟨g, o + k * 6, none⟩) 1 c']).run Tryd.prog W1 = .ok (.tuple #[]) (W1.setCells g (o + k * 6) zero6) := fun ty c' =>
    clear_one6 W1 ty g (o + k * 6) c' (fun j hj => by rw [blk_cell hC1, Array.getElem?_eq_getElem (by omega)]; rfl) (fun j hj => blk_frozen hC1 _)
  obtain ⟨C2, hC2, hs2, he2⟩ := setCells_blk (e := 38) g zero6 (o + k * 6) W1 C1 hC1 (by omega)
  have hlen2 : (l.take i ++ l.drop (i + 1)).length = k := by simp; omega
  have hfin : OwnL chV 38 M R (W1.setCells g (o + k * 6) zero6) (.slice (some ⟨g, o, none⟩) k cap) (l.take i ++ l.drop (i + 1)) ∧ Chg (fun k => k = g) w (W1.setCells g (o + k * 6) zero6) := by
    have hcw : Chg (fun k => k = g) w (W1.setCells g (o + k * 6) zero6) := hch1'.trans (setCells_chg g _ _ W1) (fun k hk _ => hk)
    refine ⟨⟨D.take i ++ D.drop (i + 1), ⟨?_, .inr ⟨g, o, cap, C2, by rw [hlen2], hMg, hC2, by rw [hlen2]; omega, hmax, by rw [hs2, hs1]; exact hCs, fun j u hj => ?_⟩⟩, by simp [hDl], fun q h1 h2 => ?_⟩, hcw⟩
    · rw [List.flatten_append, flatten_take hD6, flatten_drop hD6, List.length_append, List.length_take, List.length_drop, hXl, hlen2]
      show min (i * 6) (l.length * 6) + (l.length * 6 - (i + 1) * 6) = k * 6
      omega
    · have hjl := (List.getElem?_eq_some_iff.1 hj).1
      rw [List.flatten_append, flatten_take hD6, flatten_drop hD6] at hj hjl
      have htl : (D.flatten.take (i * 6)).length = i * 6 := by rw [List.length_take, hXl]; omega
      rw [List.length_append, htl, hdl] at hjl
      rw [he2, if_neg (by omega), he1]
      by_cases ha : j < i * 6
      · rw [if_neg (by omega)]
        rw [List.getElem?_append_left (by omega), List.getElem?_take_of_lt ha] at hj
        exact hCe _ _ hj
      · rw [List.getElem?_append_right (by omega), htl] at hj
        rw [if_pos (by omega), show o + j - (o + i * 6) = j - i * 6 by omega]
        exact hj
    · have keep : ∀ t (t1 : t < l.length) (t2 : t < D.length), chV (fun k' => R k' ∧ (Value.slice (some ⟨g, o, none⟩) k cap).ownBlock ≠ some k') (W1.setCells g (o + k * 6) zero6) D[t] l[t] := fun t t1 t2 =>
        chV_good.chg (chV_good.mono (hV t t1 t2) (fun k' _ hk => ⟨hk.1, fun e => hk.2 (by simpa [Value.ownBlock] using e)⟩)) hcw (fun k' hk e => hk.2 (by simp [Value.ownBlock, e]))
      by_cases hq : q < i
      · rw [take_drop_lt D i q (by omega) hq (by omega), take_drop_lt l i q (by omega) hq (by omega)]; exact keep q _ _
      · rw [take_drop_ge D i q h2 hq (by rw [hlen2] at h1; omega), take_drop_ge l i q h1 hq (by rw [hlen2] at h1; omega)]; exact keep (q + 1) _ _
  have HFIN := Lib.hid hfin
  have HW1 := Lib.hid hW1
  have hkb : k ≤ 100000 := by omega
  have hc63 : cap ≤ 9223372036854775807 := hmax
  have hnews : ∀ j u, (D.flatten.drop ((i + 1) * 6))[j]? = some u → w.cell? ((⟨g, o + (i + 1) * 6, none⟩ : Addr).add j) = some u := fun j u hj => by
    rw [addr_add, hbc, Nat.add_assoc]
    rw [List.getElem?_drop] at hj
    exact hCe _ _ hj
  have hnil : k = i → ∀ (a' : Addr) j u, (D.flatten.drop ((i + 1) * 6))[j]? = some u → w.cell? (a'.add j) = some u := fun e a' j u hj => by
    rw [show D.flatten.drop ((i + 1) * 6) = [] from List.eq_nil_of_length_eq_zero (by rw [hdl]; omega)] at hj
    simp at hj
  have HNE := Lib.hid hnews
  have HNI := Lib.hid hnil
  have HAP := Lib.hid hap
  clear hxl how hDl hV hD6 hD1 hXl hMg hC hCs hCe hbc hbf hi0 hz0 hzs hzb hap hC1 hs1 he1 hch1 hW1 hch1' hC2 hs2 he2 hlen2 hfin hmax hn hlen hdl hnews hnil
  have hw1 : IntKind.i64.wrap ((i : Int) + 1) = (i : Int) + 1 := by rw [IntKind.wrap_i64]; omega
  have hne : ¬ ((i : Int) = (i : Int) + 1) := by omega
  have hb1 : (0 : Int) ≤ (i : Int) + 1 := by omega
  have htn : ((i : Int) + 1).toNat = i + 1 := by omega
  go_enter Tryd.func20, Tryd.ntmps20
  go_upto_region 5 with fail
  by_cases hcc : cap = i + 1
  case' pos =>
    obtain rfl : k = i := by omega
    subst hcc
    have hkk : (k : Int) ≤ (k : Int) + 1 := by omega
    go_region_law ((refine step_append_runK (by rfl) (.tmp 22) (.tmp 25) 22 22 (by rfl) (.slice (some ⟨g, o, none⟩) k (k + 1)) (.slice (some ⟨g, o, none⟩) 0 0) (by simp [Act.eval, Act.put]) (by simp [Act.eval, Act.put]) (HAP.out _ _ _ _ (by omega) (HNI.out rfl _)) ?_))
  case' neg =>
    have hkk : (i : Int) ≤ (cap : Int) := by omega
    have hkl : (i : Int) + 1 ≤ (k : Int) + 1 := by omega
    go_region_law ((refine step_append_runK (by rfl) (.tmp 22) (.tmp 25) 22 22 (by rfl) (.slice (some ⟨g, o, none⟩) i cap) (.slice (some ⟨g, o + (i + 1) * 6, none⟩) (k + 1 - (i + 1)) (cap - (i + 1))) (by simp [Act.eval, Act.put]) (by simp [Act.eval, Act.put]) (HAP.out _ _ _ _ (by omega) HNE.out) ?_))
  all_goals
    go_wp2_with (at_builtin; refine wpList_clear_runK _ rfl (.tmp 31) 22 rfl _ rfl (hcl _ _) ?_)
    go_ret
    exact ⟨rfl, HFIN.out⟩
end Go.Proofs.YtpmndblakmobdaaDoor
/- ChP -/
namespace Go.Proofs.YtpmndblakmobdaaDoor
open Go Go.RowKit

theorem Own.putC {M : Nat → Prop} {e : TypeId} {sz n cap g o : Nat} {w : World} {xs : List Value} (h : Own M e sz w (.slice (some ⟨g, o, none⟩) n cap) n xs) {j : Nat} (hj : j < xs.length) (u : Value) :
    w.frozen? ⟨g, o + j, none⟩ = false ∧ w.cell? ⟨g, o + j, none⟩ = some xs[j] ∧ M g ∧ Own M e sz (w.setCell ⟨g, o + j, none⟩ u) (.slice (some ⟨g, o, none⟩) n cap) n (xs.set j u) := by
  rcases h.2 with ⟨e, _⟩ | ⟨g', o', cap', cur, e, hM, hg, h1, h2, h3, h4⟩
  · cases e
  injection e with e1 e2 e3
  injection e1 with e1
  injection e1 with e1 e4
  subst e1; subst e4; subst e3
  have hlt : g < w.heap.size := (Array.getElem?_eq_some_iff.1 hg).1
  have hjo : o + j < cur.size := by
    have := h4 j _ (List.getElem?_eq_getElem hj)
    exact (Array.getElem?_eq_some_iff.1 this).1
  refine ⟨by simp [World.frozen?, hg], by simp only [World.cell?, hg]; simpa using h4 j _ (List.getElem?_eq_getElem hj), hM, by rw [List.length_set]; exact h.1, .inr ⟨g, o, cap, cur.setIfInBounds (o + j) u, rfl, hM, ?_, h1, h2, by simpa using h3, fun t x ht => ?_⟩⟩
  · simp [World.setCell, Array.getElem?_modify, hg]
  · rw [List.getElem?_set] at ht
    rw [Array.getElem?_setIfInBounds]
    by_cases hjt : j = t
    · subst hjt
      rw [if_pos rfl, if_pos hj] at ht
      rw [if_pos rfl, if_pos hjo]
      exact ht
    · rw [if_neg hjt] at ht
      rw [if_neg (by omega)]
      exact h4 t x ht
theorem flatten_set {α : Type} {m j : Nat} {u : α} (hj : j < m) : ∀ {C : List (List α)}, (∀ c ∈ C, c.length = m) → ∀ i (hi : i < C.length), (C.set i (C[i].set j u)).flatten = C.flatten.set (i * m + j) u
  | c :: C, h, 0, hi => by
    have hc : c.length = m := h c (by simp)
    simp only [List.set_cons_zero, List.getElem_cons_zero, List.flatten_cons, Nat.zero_mul, Nat.zero_add]
    rw [List.set_append, if_pos (by omega)]
  | c :: C, h, i + 1, hi => by
    have hc : c.length = m := h c (by simp)
    have hi' : i < C.length := by simpa using hi
    have ih := flatten_set hj (fun x hx => h x (by simp [hx])) i hi' (u := u)
    simp only [List.set_cons_succ, List.getElem_cons_succ, List.flatten_cons]
    rw [ih, List.set_append, if_neg (by rw [hc, Nat.succ_mul]; omega)]
    congr 2
    rw [hc, Nat.succ_mul]; omega
def withN (o : Chunk) (z : Int) : Chunk := (o.1, o.2.1, z, o.2.2.2)
theorem chs_setN {e : TypeId} {M R : Nat → Prop} {w : World} {g o n cap : Nat} {l : List Chunk} (h : OwnL chV e M R w (.slice (some ⟨g, o, none⟩) n cap) l) (hn : n = l.length) (i : Nat) (hi : i < l.length) {z : Int} (hz : I64 z) :
    w.frozen? ⟨g, o + i * 6 + 3, none⟩ = false ∧ w.cell? ⟨g, o + i * 6 + 3, none⟩ = some (.int .i64 l[i].2.2.1) ∧ M g ∧ OwnL chV e M R (w.setCell ⟨g, o + i * 6 + 3, none⟩ (.int .i64 z)) (.slice (some ⟨g, o, none⟩) n cap) (l.set i (withN l[i] z)) := by
  subst hn
  obtain ⟨C, h1, hl, hV⟩ := h
  have hC6 : ∀ c ∈ C, c.length = 6 := fun c hc => by
    obtain ⟨j, hj, rfl⟩ := List.getElem_of_mem hc
    exact chV_good.len (hV j (by omega) hj)
  have hi' : i < C.length := by omega
  have hXl : C.flatten.length = l.length * 6 := by rw [flatten_length hC6, hl]
  obtain ⟨f, hc, hM, h3⟩ := h1.putC (j := i * 6 + 3) (by rw [hXl]; omega) (.int .i64 z)
  obtain ⟨A, c, B, d, e1, g1, g2, g3, g4, g5, g6⟩ := ch_cells (hV i hi hi')
  have hget : C.flatten[i * 6 + 3]'(by rw [hXl]; omega) = .int .i64 l[i].2.2.1 := by
    have h7 : C.flatten.drop (i * 6) = C[i] ++ (C.drop (i + 1)).flatten := by
      rw [← flatten_drop hC6, List.drop_eq_getElem_cons hi', List.flatten_cons]
    have h8 : C.flatten[i * 6 + 3]? = some (.int .i64 l[i].2.2.1) := by
      rw [← List.getElem?_drop, h7, e1]; rfl
    rw [List.getElem?_eq_getElem (by rw [hXl]; omega)] at h8
    exact Option.some.inj h8
  rw [hget] at hc
  rw [← Nat.add_assoc] at f hc h3
  have hchg : Chg (fun k => k = g) w (w.setCell ⟨g, o + i * 6 + 3, none⟩ (.int .i64 z)) := (Chg.refl _ _).setCell _ _ (fun _ => rfl)
  have keep : ∀ t (t1 : t < l.length) (t2 : t < C.length), chV (fun k' => R k' ∧ (Value.slice (some ⟨g, o, none⟩) l.length cap).ownBlock ≠ some k') (w.setCell ⟨g, o + i * 6 + 3, none⟩ (.int .i64 z)) C[t] l[t] := fun t t1 t2 =>
    chV_good.chg (hV t t1 t2) hchg (fun k' hk e => hk.2 (by simp [Value.ownBlock, e]))
  refine ⟨f, hc, hM, C.set i (C[i].set 3 (.int .i64 z)), ?_, by simp [hl], fun t h2 h2' => ?_⟩
  · rw [flatten_set (by decide) hC6 i hi', List.length_set]; exact h3
  · by_cases ht : i = t
    · subst ht
      rw [List.getElem_set_self, List.getElem_set_self]
      obtain ⟨A', c', B', d', e1', k1, k2, k3, k4, k5, k6⟩ := ch_cells (keep i hi hi')
      rw [e1']
      exact ch_of (x := withN l[i] z) k1 k2 k3 hz k5 k6
    · rw [List.getElem_set_ne ht, List.getElem_set_ne ht]
      exact keep t _ _

/-- What is left of chunks, so much of one taken; what is amiss. -/
def takeL (l : List Chunk) (i n : Int) : List Chunk × Int :=
  if h : 0 ≤ i ∧ i < l.length then
    (if 1 ≤ n ∧ n ≤ (l[i.toNat]'(by omega)).2.2.1 then (if (l[i.toNat]'(by omega)).2.2.1 - n = 0 then (l.take i.toNat ++ l.drop (i.toNat + 1), 0) else (l.set i.toNat (withN (l[i.toNat]'(by omega)) ((l[i.toNat]'(by omega)).2.2.1 - n)), 0)) else ([], 1))
  else ([], 15)
end Go.Proofs.YtpmndblakmobdaaDoor
/- ChQ -/
namespace Go.Proofs.YtpmndblakmobdaaDoor
open Go Go.RowKit

/-- A call returns chunks in a row of its own, and what is amiss. -/
def ChsRet (R : Nat → Prop) (w : World) (r : List Chunk × Int) (e : Ending) (w' : World) : Prop :=
  ∃ A cap, e = .returned (.tuple #[.slice A r.1.length cap, errV 64 r.2]) ∧ OwnL chV 38 (fun k => w.heap.size ≤ k) R w' (.slice A r.1.length cap) r.1 ∧ Chg No w w'
theorem ChsRet.none {R : Nat → Prop} {w w' : World} {c : Int} (h : Chg No w w') : ChsRet R w ([], c) (.returned (.tuple #[.slice none 0 0, errV 64 c])) w' := ⟨Option.none, 0, rfl, OwnL.nil _ _ _ _ _, h⟩

def DelRet (R : Nat → Prop) (w : World) (r : List Chunk) (e : Ending) (w' : World) : Prop :=
  ∃ A cap, e = .returned (.slice A r.length cap) ∧ OwnL chV 38 (fun k => w.heap.size ≤ k) R w' (.slice A r.length cap) r ∧ Chg No w w'

set_option maxRecDepth 100000 in
set_option maxHeartbeats 1000000 in
theorem take_any {R : Nat → Prop} {w : World} {A : Option Addr} {l : List Chunk} {cap : Nat} (hl : Chunks R w A l cap) (i n : Int) (hi : I64 i) (hn : I64 n) (hlen : l.length ≤ 60) :
    Calls Tryd.prog 8 #[.slice A l.length cap, .int .i64 i, .int .i64 n] w (ChsRet R w (takeL l i n)) := by
  obtain ⟨ans, hans⟩ : ∃ ans, ans = takeL l i n := ⟨_, rfl⟩
  rw [← hans]
  unfold takeL at hans
  unfold I64 at hi hn
  by_cases h0 : i < 0
  · obtain rfl : ans = ([], 15) := by rw [hans, dif_neg (by omega)]
    clear hans
    go_enter Tryd.func8, Tryd.ntmps8
    go_wp2
    go_ret2
    have h := ChsRet.none (R := R) (c := 15) (Chg.refl No w)
    rw [errV_of _ (by decide)] at h
    exact h
  obtain ⟨k, rfl⟩ := Int.eq_ofNat_of_zero_le (show 0 ≤ i by omega)
  by_cases h1 : l.length ≤ k
  · obtain rfl : ans = ([], 15) := by rw [hans, dif_neg (by omega)]
    have h2 : (l.length : Int) ≤ (k : Int) := by omega
    clear hans
    go_enter Tryd.func8, Tryd.ntmps8
    go_wp2
    go_ret2
    have h := ChsRet.none (R := R) (c := 15) (Chg.refl No w)
    rw [errV_of _ (by decide)] at h
    exact h
  have hk : k < l.length := by omega
  rw [dif_pos (by omega)] at hans
  simp only [Int.toNat_natCast] at hans
  obtain ⟨b, o, B1, d1, C1, e1, rfl, ⟨m1, m2, m3, m4, m5, m6⟩, x0, x1, x2, x3, x4, x5⟩ := chs_at hl k hk
  have i0 : (0 : Int) ≤ (k : Int) := by omega
  have i1 : (k : Int) < (l.length : Int) := by omega
  have HL := Lib.hid hl
  have HAN := Lib.hid hans
  clear x0 x1 x2 x4 x5 m1 m2 m3 m5 m6 hl hans
  obtain ⟨N, hN⟩ : ∃ N, N = l[k].2.2.1 := ⟨_, rfl⟩
  have HNN := Lib.hid hN
  rw [← hN] at x3 m4 HAN
  clear hN
  unfold I64 at m4
  by_cases h3 : n < 1
  · obtain rfl : ans = ([], 1) := by rw [HAN.out, if_neg (by omega)]
    clear HAN
    go_enter Tryd.func8, Tryd.ntmps8
    go_wp2
    go_ret2
    have h := ChsRet.none (R := R) (c := 1) (Chg.refl No w)
    rw [errV_of _ (by decide)] at h
    exact h
  by_cases h4 : N < n
  · obtain rfl : ans = ([], 1) := by rw [HAN.out, if_neg (by omega)]
    clear HAN
    go_enter Tryd.func8, Tryd.ntmps8
    go_wp2
    go_ret2
    have h := ChsRet.none (R := R) (c := 1) (Chg.refl No w)
    rw [errV_of _ (by decide)] at h
    exact h
  have HCL := Lib.hid (cloneCh_any HL.out)
  have hwx : IntKind.i64.wrap (N - n) = N - n := by rw [IntKind.wrap_i64]; omega
  have hz : Hid (I64 (N - n)) := by unfold Hid I64; omega
  rw [if_pos (by omega)] at HAN
  go_enter Tryd.func8, Tryd.ntmps8
  go_upto_region 6 with (go_at_call 19; refine HCL.out.mono ?_; rintro e w1 ⟨A1, c1, rfl, g1, h1⟩; have G1 := Lib.hid g1; have H1 := Lib.hid h1; clear g1 h1)
  obtain ⟨g, og, rfl⟩ : ∃ g og, A1 = some ⟨g, og, none⟩ := by
    obtain ⟨C, ho, _⟩ := G1.out
    rcases ho.2 with ⟨e, h0⟩ | ⟨g', o', cap', cur, e, _⟩
    · omega
    · injection e with e1
      exact ⟨g', o', e1⟩
  obtain ⟨f3, y3, hM, g2⟩ := chs_setN G1.out rfl k hk hz.out
  rw [← HNN.out] at y3
  have G2 := Lib.hid g2
  have H2 : Hid (Chg No w (w1.setCell ⟨g, og + k * 6 + 3, none⟩ (.int .i64 (N - n)))) := chgpast2 H1.out ((Chg.refl (fun q => q = g) w1).setCell _ _ (fun _ => rfl)) (fun q hq => by rw [hq]; exact hM)
  have HMG := Lib.hid hM
  have y4 : (w1.setCell ⟨g, og + k * 6 + 3, none⟩ (.int .i64 (N - n))).cell? ⟨g, og + k * 6 + 3, none⟩ = some (.int .i64 (N - n)) := by
    have := (chs_setN g2 (by simp) k (by simpa using hk) hz.out).2.1
    rw [List.getElem_set_self] at this
    exact this
  clear g2 hM
  by_cases h5 : N - n = 0
  · rw [if_pos h5] at HAN
    obtain ⟨m, hm⟩ : ∃ m, l.length = m + 1 := ⟨l.length - 1, by omega⟩
    obtain ⟨r, hr⟩ : ∃ r, r = l.take k ++ l.drop (k + 1) := ⟨_, rfl⟩
    rw [← hr] at HAN
    have HD : Hid (Calls Tryd.prog 20 #[.slice (some ⟨g, og, none⟩) l.length c1, .int .i64 k, .int .i64 (k + 1)] (w1.setCell ⟨g, og + k * 6 + 3, none⟩ (.int .i64 (N - n))) (DelRet R w r)) := by
      rw [hr]
      have h9 := G2.out
      rw [hm] at h9
      have hll : (l.set k (withN l[k] (N - n))).length = l.length := List.length_set
      have h8 := deleteCh_any (w := w1.setCell ⟨g, og + k * 6 + 3, none⟩ (.int .i64 (N - n))) (k := m) h9 (by rw [hll, hm]) (by rw [hll]; omega) (i := k) (by omega)
      rw [← hm] at h8
      refine h8.mono ?_
      rintro e w' ⟨rfl, k1, k2⟩
      have hlen2 : (l.take k ++ l.drop (k + 1)).length = m := by simp; omega
      rw [List.take_set_of_le (by omega), List.drop_set_of_lt (by omega)] at k1
      exact ⟨_, _, by rw [hlen2], by rw [hlen2]; exact k1, chgpast2 H2.out k2 (fun q hq => by rw [hq]; exact HMG.out)⟩
    obtain rfl : ans = (r, 0) := HAN.out
    have hb : ((N - n == 0) : Bool) = true := by simpa using h5
    clear HAN hm G2 H2 h5 hr
    go_wp2_with (go_at_call 20; refine HD.out.mono ?_; rintro e w3 ⟨A3, c3, rfl, g3, h3⟩; have G3 := Lib.hid g3; have H3 := Lib.hid h3; clear g3 h3)
    go_ret2
    exact ⟨A3, c3, by rw [errV_zero]; rfl, G3.out, H3.out⟩
  · rw [if_neg h5] at HAN
    have hb : ((N - n == 0) : Bool) = false := by simpa using h5
    obtain rfl : ans = (l.set k (withN l[k] (N - n)), 0) := HAN.out
    have HE : Hid (ChsRet R w (l.set k (withN l[k] (N - n)), 0) (.returned (.tuple #[.slice (some ⟨g, og, none⟩) l.length c1, .nilIface])) (w1.setCell ⟨g, og + k * 6 + 3, none⟩ (.int .i64 (N - n)))) :=
      ⟨_, c1, by rw [List.length_set, errV_zero], by rw [List.length_set]; exact G2.out, H2.out⟩
    clear HAN G2 H2
    go_wp2_with fail
    go_ret2
    exact HE.out
end Go.Proofs.YtpmndblakmobdaaDoor
/- ChS -/
namespace Go.Proofs.YtpmndblakmobdaaDoor
open Go Go.RowKit

theorem obj_frz {w : World} {b : Nat} {cs : Array Value} {t : TypeId} (h : w.heap[b]? = some (.cells cs t (0, 0))) (j : Nat) : w.frozen? ⟨b, j, none⟩ = false := by simp [World.frozen?, h]
def restL (o : Chunk) (z : Int) : List Chunk := if z = 0 then [] else [withN o z]
def laidL (l : List Chunk) (k : Nat) (hk : k < l.length) (z : Int) (j : Nat) : List Chunk := if j ≤ k then l.take j else l.take k ++ (restL l[k] z ++ (l.take j).drop (k + 1))
theorem laidL_before {l : List Chunk} {k : Nat} (hk : k < l.length) (z : Int) {j : Nat} (hj : j < k) : laidL l k hk z (j + 1) = laidL l k hk z j ++ [l[j]] := by
  unfold laidL
  rw [if_pos (by omega), if_pos (by omega), List.take_succ_eq_append_getElem (by omega)]
theorem laidL_at {l : List Chunk} {k : Nat} (hk : k < l.length) (z : Int) : laidL l k hk z (k + 1) = laidL l k hk z k ++ restL l[k] z := by
  unfold laidL
  rw [if_neg (by omega), if_pos (by omega), List.drop_eq_nil_of_le (by simp; omega), List.append_nil]
theorem laidL_behind {l : List Chunk} {k : Nat} (hk : k < l.length) (z : Int) {j : Nat} (hj : k < j) (hl : j < l.length) : laidL l k hk z (j + 1) = laidL l k hk z j ++ [l[j]] := by
  unfold laidL
  rw [if_neg (by omega), if_neg (by omega), List.take_succ_eq_append_getElem hl, List.drop_append_of_le_length (by simp; omega), ← List.append_assoc, ← List.append_assoc, ← List.append_assoc]
theorem laidL_end {l : List Chunk} {k : Nat} (hk : k < l.length) (z : Int) : laidL l k hk z l.length = if z = 0 then l.take k ++ l.drop (k + 1) else l.set k (withN l[k] z) := by
  unfold laidL restL
  rw [if_neg (by omega), List.take_length]
  split
  · rfl
  · rw [List.set_eq_take_append_cons_drop, if_pos hk]; rfl
theorem laidL_len {l : List Chunk} {k : Nat} (hk : k < l.length) (z : Int) {j : Nat} (hj : j ≤ l.length) : (laidL l k hk z j).length ≤ l.length := by
  unfold laidL restL
  split
  · simp; omega
  · split <;> simp <;> omega
/-- A call returns chunks in a row of its own, beside a code. -/
def ChsRetI (R : Nat → Prop) (w : World) (r : List Chunk × Int) (e : Ending) (w' : World) : Prop :=
  ∃ A cap, e = .returned (.tuple #[.slice A r.1.length cap, .int .i64 r.2]) ∧ OwnL chV 38 (fun k => w.heap.size ≤ k) R w' (.slice A r.1.length cap) r.1 ∧ Chg No w w'
theorem ChsRetI.none {R : Nat → Prop} {w w' : World} {c : Int} (h : Chg No w w') : ChsRetI R w ([], c) (.returned (.tuple #[.slice none 0 0, .int .i64 c])) w' := ⟨Option.none, 0, rfl, OwnL.nil _ _ _ _ _, h⟩

set_option maxRecDepth 100000 in
set_option maxHeartbeats 1000000 in
theorem refTake20_any {R : Nat → Prop} {w : World} {A : Option Addr} {l : List Chunk} {cap : Nat} (hl : Chunks R w A l cap) (i n : Int) (hi : I64 i) (hn : I64 n) (hlen : l.length ≤ 60) :
    Calls Tryd.prog 9 #[.slice A l.length cap, .int .i64 i, .int .i64 n] w (ChsRetI R w (takeL l i n)) := by
  obtain ⟨ans, hans⟩ : ∃ ans, ans = takeL l i n := ⟨_, rfl⟩
  rw [← hans]
  unfold takeL at hans
  unfold I64 at hi hn
  by_cases h0 : i < 0
  · obtain rfl : ans = ([], 15) := by rw [hans, dif_neg (by omega)]
    clear hans
    go_enter Tryd.func9, Tryd.ntmps9
    go_wp2
    go_ret2
    have h := ChsRetI.none (R := R) (c := 15) (Chg.refl No w)
    exact h
  obtain ⟨k, rfl⟩ := Int.eq_ofNat_of_zero_le (show 0 ≤ i by omega)
  by_cases h1 : l.length ≤ k
  · obtain rfl : ans = ([], 15) := by rw [hans, dif_neg (by omega)]
    have h2 : (l.length : Int) ≤ (k : Int) := by omega
    clear hans
    go_enter Tryd.func9, Tryd.ntmps9
    go_wp2
    go_ret2
    have h := ChsRetI.none (R := R) (c := 15) (Chg.refl No w)
    exact h
  have hk : k < l.length := by omega
  rw [dif_pos (by omega)] at hans
  simp only [Int.toNat_natCast] at hans
  obtain ⟨b, o, B1, d1, C1, e1, rfl, ⟨m1, m2, m3, m4, m5, m6⟩, x0, x1, x2, x3, x4, x5⟩ := chs_at hl k hk
  have i0 : (0 : Int) ≤ (k : Int) := by omega
  have i1 : (k : Int) < (l.length : Int) := by omega
  have HL := Lib.hid hl
  have HLZ := Lib.hid (fun W (hW : Chg No w W) => (hl.mono chE_good (R' := fun q => R q ∧ q < w.heap.size) (fun q hq h => ⟨h, hq⟩)).no chE_good hW)
  have HAN := Lib.hid hans
  clear x0 x1 x2 x4 x5 m1 m2 m3 m5 m6 hl hans
  obtain ⟨N, hN⟩ : ∃ N, N = l[k].2.2.1 := ⟨_, rfl⟩
  have HNN := Lib.hid hN
  rw [← hN] at x3 m4 HAN
  clear hN
  unfold I64 at m4
  by_cases h3 : n < 1
  · obtain rfl : ans = ([], 1) := by rw [HAN.out, if_neg (by omega)]
    clear HAN
    go_enter Tryd.func9, Tryd.ntmps9
    go_wp2
    go_ret2
    have h := ChsRetI.none (R := R) (c := 1) (Chg.refl No w)
    exact h
  by_cases h4 : N < n
  · obtain rfl : ans = ([], 1) := by rw [HAN.out, if_neg (by omega)]
    clear HAN
    go_enter Tryd.func9, Tryd.ntmps9
    go_wp2
    go_ret2
    have h := ChsRetI.none (R := R) (c := 1) (Chg.refl No w)
    exact h
  have hwx : IntKind.i64.wrap (N - n) = N - n := by rw [IntKind.wrap_i64]; omega
  have hz : Hid (I64 (N - n)) := by unfold Hid I64; omega
  rw [if_pos (by omega)] at HAN
  have HFIN : Hid (ans = (laidL l k hk (N - n) l.length, 0)) := by
    unfold Hid
    rw [HAN.out, laidL_end]
    split <;> rfl
  clear HAN
  go_enter Tryd.func9, Tryd.ntmps9
  go_wp2_with fail
  go_loopw [8, 9] (fun s8 s9 wr => ∃ (j : Nat) (v : Value), v = s8 ∧ s9 = .int .i64 j ∧ j ≤ l.length ∧ Hid (OwnL chV 38 (fun q => w.heap.size ≤ q) R wr v (laidL l k hk (N - n) j) ∧ Chg No w wr)) (fun _ s9 _ => l.length - (intOf s9).toNat)
  case atStart => exact ⟨0, _, rfl, rfl, Nat.zero_le _, by unfold laidL; rw [if_pos (Nat.zero_le _)]; exact OwnL.nil _ _ _ _ _, Chg.refl _ _⟩
  case round =>
    obtain ⟨j, v, rfl, rfl, gj, hst⟩ := hrel
    by_cases hlt : j < l.length
    · obtain ⟨b', o', B2, d2, C2, e2, eA, hk2, u0, u1, u2, u3, u4, u5⟩ := chs_at (HLZ.out wr hst.out.2) j hlt
      injection eA with eA
      injection eA with eA1 eA2
      subst eA1; subst eA2
      have j0 : (0 : Int) ≤ (j : Int) := by omega
      have j1 : (j : Int) < (l.length : Int) := by omega
      have hLJ : (laidL l k hk (N - n) j).length ≤ 60 := Nat.le_trans (laidL_len hk _ gj) hlen
      have HEB : Hid (j ≠ k → laidL l k hk (N - n) (j + 1) = laidL l k hk (N - n) j ++ [l[j]]) := fun h => by
        rcases Nat.lt_or_ge j k with g | g
        · exact laidL_before hk _ g
        · exact laidL_behind hk _ (by omega) hlt
      have HEA : Hid (j = k → laidL l k hk (N - n) (j + 1) = laidL l k hk (N - n) j ++ restL l[j] (N - n)) := fun h => by
        subst h; exact laidL_at hk _
      have HNJ : Hid (j = k → l[j].2.2.1 = N) := fun h => by subst h; exact HNN.out.symm
      have HOW := Lib.hid hst.out.1
      have HCH := Lib.hid hst.out.2
      clear hst
      generalize laidL l k hk (N - n) j = Lj at *
      generalize l[j] = ob at *
      obtain ⟨⟨oC, oT⟩, ofd, on, ovC, ovT⟩ := ob
      simp only at hk2 u0 u1 u2 u3 u4 u5 HEB HEA HNJ
      have HK := Lib.hid hk2
      clear hk2
      have HVR : Hid (∀ q, v.ownBlock = some q → w.heap.size ≤ q) := fun q hq => (HOW.out.mine q hq).1
      by_cases hjk : j = k
      · have e3 : on = N := HNJ.out hjk
        have e4 : IntKind.i64.wrap (on - n) = on - n := by rw [e3]; exact hwx
        have HEA2 : Hid (laidL l k hk (N - n) (j + 1) = Lj ++ restL ((oC, oT), ofd, on, ovC, ovT) (on - n)) := by
          unfold Hid
          rw [HEA.out hjk, e3]
        have HZ : Hid (I64 (on - n)) := by unfold Hid; rw [e3]; exact hz.out
        have hb : ((j : Int) == (k : Int)) = true := by simp; omega
        have hb2 : ((j : Int) != (k : Int)) = false := by simp; omega
        clear HEA HEB HNJ e3 hjk
        go_upto_region 10 with fail
        obtain ⟨w5, hw5⟩ : ∃ w5, w5 = wr.alloc (.cells #[.int .i64 oC, .slice B2 oT.length d2, .string ofd, .int .i64 on, .int .i64 ovC, .slice C2 ovT.length e2] 38) := ⟨_, rfl⟩
        rw [← hw5]
        obtain ⟨b5, hb5⟩ : ∃ b5, b5 = wr.heap.size := ⟨_, rfl⟩
        rw [← hb5]
        have C5 : Hid (Chg No wr w5 ∧ w5.heap[b5]? = some (.cells #[.int .i64 oC, .slice B2 oT.length d2, .string ofd, .int .i64 on, .int .i64 ovC, .slice C2 ovT.length e2] 38 (0, 0))) := by
          rw [hw5, hb5]; exact ⟨(Chg.refl _ _).alloc _, heap_alloc_new _ _⟩
        have HB5 : Hid (wr.heap.size ≤ b5) := by unfold Hid; omega
        clear hw5 hb5 u0 u1 u2 u3 u4 u5
        obtain ⟨p0, p1, p2, p3, p4, p5⟩ := obj_6 C5.out.2
        have pf := obj_frz C5.out.2 3
        go_upto_region 12 with fail
        obtain ⟨w6, hw6⟩ : ∃ w6, w6 = w5.setCell ⟨b5, 3, none⟩ (.int .i64 (on - n)) := ⟨_, rfl⟩
        rw [← hw6]
        have C6 : Hid (Chg No wr w6 ∧ w6.heap[b5]? = some (.cells #[.int .i64 oC, .slice B2 oT.length d2, .string ofd, .int .i64 (on - n), .int .i64 ovC, .slice C2 ovT.length e2] 38 (0, 0))) := by
          rw [hw6]
          exact ⟨chgpast2 C5.out.1 ((Chg.refl (fun q => q = b5) w5).setCell _ _ (fun _ => rfl)) (fun q hq => by rw [hq]; exact HB5.out), obj_set _ C5.out.2⟩
        clear hw6 p0 p1 p2 p3 p4 p5 pf
        obtain ⟨p0, p1, p2, p3, p4, p5⟩ := obj_6 C6.out.2
        by_cases h5 : on - n = 0
        · have hb3 : ((on - n != 0) : Bool) = false := by simpa using h5
          have HE : Hid (laidL l k hk (N - n) (j + 1) = Lj) := by
            unfold Hid
            rw [HEA2.out]; unfold restL; rw [if_pos h5, List.append_nil]
          clear h5 HEA2
          go_wp2_with fail
          go_roundw
          case rel => exact ⟨j + 1, _, rfl, by go_num, hlt, by rw [HE.out]; exact HOW.out.no chV_good C6.out.1, HCH.out.thenNo C6.out.1⟩
          case measure => simp [intOf]; omega
        · have hb3 : ((on - n != 0) : Bool) = true := by simpa using h5
          have HE : Hid (laidL l k hk (N - n) (j + 1) = Lj ++ [((oC, oT), ofd, on - n, ovC, ovT)]) := by
            unfold Hid
            rw [HEA2.out]; unfold restL; rw [if_neg h5]; rfl
          have HEL : Hid (chV (fun q => R q ∧ v.ownBlock ≠ some q) w6 [.int .i64 oC, .slice B2 oT.length d2, .string ofd, .int .i64 (on - n), .int .i64 ovC, .slice C2 ovT.length e2] ((oC, oT), ofd, on - n, ovC, ovT)) := by
            obtain ⟨m1, m2, m3, m4, m5, m6⟩ := HK.out
            have h := ch_of (x := ((oC, oT), ofd, on - n, ovC, ovT)) m1 (m2.no monoE_good C6.out.1) m3 HZ.out m5 (m6.no monoE_good C6.out.1)
            exact chV_good.mono h (fun q _ hq => ⟨hq.1, fun e => by have := HVR.out q e; have := hq.2; omega⟩)
          have HOW6 := Lib.hid (HOW.out.no chV_good C6.out.1)
          have HFR : Hid (∀ q, w6.heap.size ≤ q → w.heap.size ≤ q) := fun q hq => by have := (HCH.out.thenNo C6.out.1).size; omega
          clear h5 HEA2
          go_wp2_with (at_builtin; refine wpList_pushLn chV_good chunksTy rfl (.tmp 56) (.tmp 58) rfl (M := fun q => w.heap.size ≤ q) (R := R) (w := w6) HFR.out HOW6.out rfl HEL.out (by simp [Value.oneCell']) rfl rfl (show (Lj.length + 1) * 88 ≤ 140737488355328 by omega) ?_; intro A2 cap2 w7 g1 g2; have G1 := Lib.hid g1; have G2 := Lib.hid g2; clear g1 g2)
          go_roundw
          case rel => exact ⟨j + 1, _, rfl, by go_num, hlt, by rw [HE.out]; exact G1.out, chgpast2 (HCH.out.thenNo C6.out.1) G2.out (fun q hq => HVR.out q hq)⟩
          case measure => simp [intOf]; omega
      · have HE : Hid (laidL l k hk (N - n) (j + 1) = Lj ++ [((oC, oT), ofd, on, ovC, ovT)]) := HEB.out hjk
        have hb : ((j : Int) == (k : Int)) = false := by simp; omega
        have hb2 : ((j : Int) != (k : Int)) = true := by simp; omega
        clear HEA HEB HNJ hjk
        go_upto_region 10 with fail
        obtain ⟨w5, hw5⟩ : ∃ w5, w5 = wr.alloc (.cells #[.int .i64 oC, .slice B2 oT.length d2, .string ofd, .int .i64 on, .int .i64 ovC, .slice C2 ovT.length e2] 38) := ⟨_, rfl⟩
        rw [← hw5]
        obtain ⟨b5, hb5⟩ : ∃ b5, b5 = wr.heap.size := ⟨_, rfl⟩
        rw [← hb5]
        have C5 : Hid (Chg No wr w5 ∧ w5.heap[b5]? = some (.cells #[.int .i64 oC, .slice B2 oT.length d2, .string ofd, .int .i64 on, .int .i64 ovC, .slice C2 ovT.length e2] 38 (0, 0))) := by
          rw [hw5, hb5]; exact ⟨(Chg.refl _ _).alloc _, heap_alloc_new _ _⟩
        clear hw5 hb5 u0 u1 u2 u3 u4 u5
        obtain ⟨p0, p1, p2, p3, p4, p5⟩ := obj_6 C5.out.2
        have HEL : Hid (chV (fun q => R q ∧ v.ownBlock ≠ some q) w5 [.int .i64 oC, .slice B2 oT.length d2, .string ofd, .int .i64 on, .int .i64 ovC, .slice C2 ovT.length e2] ((oC, oT), ofd, on, ovC, ovT)) := by
          obtain ⟨m1, m2, m3, m4, m5, m6⟩ := HK.out
          have h := ch_of (x := ((oC, oT), ofd, on, ovC, ovT)) m1 (m2.no monoE_good C5.out.1) m3 m4 m5 (m6.no monoE_good C5.out.1)
          exact chV_good.mono h (fun q _ hq => ⟨hq.1, fun e => by have := HVR.out q e; have := hq.2; omega⟩)
        have HOW6 := Lib.hid (HOW.out.no chV_good C5.out.1)
        have HFR : Hid (∀ q, w5.heap.size ≤ q → w.heap.size ≤ q) := fun q hq => by have := (HCH.out.thenNo C5.out.1).size; omega
        go_wp2_with (at_builtin; refine wpList_pushLn chV_good chunksTy rfl (.tmp 56) (.tmp 58) rfl (M := fun q => w.heap.size ≤ q) (R := R) (w := w5) HFR.out HOW6.out rfl HEL.out (by simp [Value.oneCell']) rfl rfl (show (Lj.length + 1) * 88 ≤ 140737488355328 by omega) ?_; intro A2 cap2 w7 g1 g2; have G1 := Lib.hid g1; have G2 := Lib.hid g2; clear g1 g2)
        go_roundw
        case rel => exact ⟨j + 1, _, rfl, by go_num, hlt, by rw [HE.out]; exact G1.out, chgpast2 (HCH.out.thenNo C5.out.1) G2.out (fun q hq => HVR.out q hq)⟩
        case measure => simp [intOf]; omega
    · obtain rfl : j = l.length := by omega
      have HOW := Lib.hid hst.out.1
      have HCH := Lib.hid hst.out.2
      clear hst
      generalize laidL l k hk (N - n) l.length = Lz at *
      obtain ⟨A9, c9, rfl, _⟩ := HOW.out.value
      go_wp2_with fail
      go_ret2
      rw [HFIN.out]
      exact ⟨A9, c9, rfl, HOW.out, HCH.out⟩
end Go.Proofs.YtpmndblakmobdaaDoor
/- ChT -/
namespace Go.Proofs.YtpmndblakmobdaaDoor
open Go Go.RowKit

set_option maxRecDepth 100000 in
set_option maxHeartbeats 4000000 in
theorem sameChunks_any {R R' : Nat → Prop} {w : World} {A A' : Option Addr} {l : List Chunk} {cap cap' : Nat} (hl : Chunks R w A l cap) (hl' : Chunks R' w A' l cap') :
    Calls Tryd.prog 10 #[.slice A l.length cap, .slice A' l.length cap'] w fun e w' => e = .returned (.bool true) ∧ Chg No w w' := by
  have hb := hl.big
  unfold big at hb
  have HL := Lib.hid (fun W (hW : Chg No w W) => hl.no chE_good hW)
  have HM := Lib.hid (fun W (hW : Chg No w W) => hl'.no chE_good hW)
  clear hl hl'
  go_enter Tryd.func10, Tryd.ntmps10
  go_wp2_with fail
  go_loopw [5] (fun s5 wr => ∃ i : Nat, s5 = .int .i64 i ∧ i ≤ l.length ∧ Hid (Chg No w wr)) (fun s5 _ => l.length - (intOf s5).toNat)
  case atStart => exact ⟨0, rfl, Nat.zero_le _, Chg.refl _ _⟩
  case round =>
    obtain ⟨i, rfl, gi, hch⟩ := hrel
    by_cases hlt : i < l.length
    · obtain ⟨b, o, B1, d1, C1, e1, rfl, hv, x0, x1, x2, x3, x4, x5⟩ := chs_at (HL.out wr hch.out) i hlt
      obtain ⟨b', o', B2, d2, C2, e2, rfl, hu, y0, y1, y2, y3, y4, y5⟩ := chs_at (HM.out wr hch.out) i hlt
      have i0 : (0 : Int) ≤ (i : Int) := by omega
      have i1 : (i : Int) < (l.length : Int) := by omega
      have HS1 : Hid (∀ d os, Calls Tryd.prog 21 #[.agg #[.int .i64 l[i].1.1, .slice B1 l[i].1.2.length d1], .agg #[.int .i64 l[i].1.1, .slice B2 l[i].1.2.length d2]] (later wr d os) fun e w'' => e = .returned (.bool true) ∧ ∃ p : Lat, w'' = later wr p.d p.os) := fun d os => by
        have := ref01Same_any (c := l[i].1.1) (c' := l[i].1.1) (hv.2.1.no monoE_good (chg_later wr d os)) (hu.2.1.no monoE_good (chg_later wr d os))
        simp only [and_self, decide_true] at this
        exact Calls.later_of this
      have HS2 : Hid (∀ d os, Calls Tryd.prog 21 #[.agg #[.int .i64 l[i].2.2.2.1, .slice C1 l[i].2.2.2.2.length e1], .agg #[.int .i64 l[i].2.2.2.1, .slice C2 l[i].2.2.2.2.length e2]] (later wr d os) fun e w'' => e = .returned (.bool true) ∧ ∃ p : Lat, w'' = later wr p.d p.os) := fun d os => by
        have := ref01Same_any (c := l[i].2.2.2.1) (c' := l[i].2.2.2.1) (hv.2.2.2.2.2.no monoE_good (chg_later wr d os)) (hu.2.2.2.2.2.no monoE_good (chg_later wr d os))
        simp only [and_self, decide_true] at this
        exact Calls.later_of this
      clear hv hu
      generalize l[i].1.1 = c at *
      generalize l[i].1.2.length = tl at *
      generalize l[i].2.1 = fd at *
      generalize l[i].2.2.1 = nn at *
      generalize l[i].2.2.2.1 = vc at *
      generalize l[i].2.2.2.2.length = vl at *
      have l0 := cell_later x0
      have l1 := cell_later x1
      have l2 := cell_later x2
      have l3 := cell_later x3
      have l4 := cell_later x4
      have l5 := cell_later x5
      have k0 := cell_later y0
      have k1 := cell_later y1
      have k2 := cell_later y2
      have k3 := cell_later y3
      have k4 := cell_later y4
      have k5 := cell_later y5
      go_wp2_with fail
      refine wp_region_later (by kernel_rfl) (by kernel_rfl) ?_
      repeat (go_big_quiet_step (first | (go_at_call 21; with_reducible exact HS1.out _ _) | (go_at_call 21; with_reducible exact HS2.out _ _)))
      refine wpQuiet_nil ?_
      intro _ hw'
      obtain ⟨⟨dq, osq⟩, hw''⟩ := hw'
      subst hw''
      have Hc := Lib.hid (hch.out.thenNo (chg_later wr dq osq))
      go_wp2
      go_roundw
      case rel => exact ⟨i + 1, by go_num, hlt, Hc.out⟩
      case measure => simp [intOf]; omega
    · go_wp2
      go_ret
      exact ⟨rfl, hch.out⟩
end Go.Proofs.YtpmndblakmobdaaDoor
/- ChU -/
namespace Go.Proofs.YtpmndblakmobdaaDoor
open Go Go.RowKit

theorem takeL_code (l : List Chunk) (i n : Int) : 0 ≤ (takeL l i n).2 ∧ (takeL l i n).2 ≤ 16 := by
  unfold takeL
  split
  · split
    · split <;> exact ⟨show (0 : Int) ≤ 0 by decide, show (0 : Int) ≤ 16 by decide⟩
    · exact ⟨by decide, by decide⟩
  · exact ⟨by decide, by decide⟩
theorem takeL_len (l : List Chunk) (i n : Int) : (takeL l i n).1.length ≤ l.length := by
  unfold takeL
  split
  · split
    · split
      · simp; omega
      · simp
    · simp
  · simp

set_option maxRecDepth 100000 in
set_option maxHeartbeats 4000000 in
theorem chunkTakes_walk {R : Nat → Prop} {w : World} (hK : Keys w) {A : Option Addr} {l : List Chunk} {cap : Nat} (hl : Chunks R w A l cap) (i : Int) (hi : I64 i) (n : Int) (hn : I64 n) :
    Calls Tryd.prog 3 #[.slice A l.length cap, .int .i64 i, .int .i64 n] w fun e w' => e = .returned (.bool true) ∧ Chg No w w' := by
  have HL := Lib.hid (fun W (hW : Chg No w W) => light20_any (hl.no chE_good hW))
  have HU := Lib.hid (up20_any hK)
  have HF : Hid (lightB l = true → ∀ W, Chg No w W → Calls Tryd.prog 8 #[.slice A l.length cap, .int .i64 i, .int .i64 n] W (ChsRet R W (takeL l i n)) ∧ Calls Tryd.prog 9 #[.slice A l.length cap, .int .i64 i, .int .i64 n] W (ChsRetI R W (takeL l i n))) := fun h1 W hW => by
    unfold lightB at h1
    rw [Bool.and_eq_true, decide_eq_true_eq] at h1
    exact ⟨take_any (hl.no chE_good hW) i n hi hn h1.1, refTake20_any (hl.no chE_good hW) i n hi hn h1.1⟩
  obtain ⟨k1, k2⟩ := takeL_code l i n
  have HLEN : Hid (lightB l = true → (takeL l i n).1.length ≤ 60) := fun h1 => by
    unfold lightB at h1
    rw [Bool.and_eq_true, decide_eq_true_eq] at h1
    exact Nat.le_trans (takeL_len l i n) h1.1
  clear hl hK hi hn
  generalize takeL l i n = F at *
  generalize lightB l = q at *
  obtain ⟨fl, fe⟩ := F
  unfold ChsRet ChsRetI at HF
  simp only at HF k1 k2 HLEN
  have HC1 := Lib.hid (fun W => code_any W fe k1 k2)
  generalize errV 64 fe = E1 at *
  cases q
  · clear HF HC1 HLEN
    go_enter Tryd.func3, Tryd.ntmps3
    go_wp2_with (first
      | (go_at_call 6; with_reducible refine HU.out.mono ?_; rintro e w4 ⟨rfl, h4⟩; have H4 := Lib.hid h4; clear h4)
      | (go_at_call 7; with_reducible refine (HL.out _ H4.out).mono ?_; rintro e w5 ⟨rfl, rfl⟩))
    go_ret
    exact ⟨rfl, H4.out⟩
  have HF1 := Lib.hid (fun W hW => (HF.out rfl W hW).1)
  have HF2 := Lib.hid (fun W hW => (HF.out rfl W hW).2)
  have hlen : fl.length ≤ 60 := HLEN.out rfl
  have HS : Hid (∀ (W W1 W2 : World) R1 R2 A1 A2 c1 c2 M1 M2, OwnL chV 38 M1 R1 W1 (.slice A1 fl.length c1) fl → Chg No W1 W2 → OwnL chV 38 M2 R2 W2 (.slice A2 fl.length c2) fl →
      Calls Tryd.prog 10 #[.slice A1 fl.length c1, .slice A2 fl.length c2] W2 fun e w' => e = .returned (.bool true) ∧ Chg No W2 w') := fun W W1 W2 R1 R2 A1 A2 c1 c2 M1 M2 g1 h g2 => by
    have hbb : fl.length * chV.bytes ≤ big := show fl.length * 88 ≤ 140737488355328 by omega
    exact sameChunks_any ((g1.no chV_good h).sl_of chV_good hbb).2 (g2.sl_of chV_good hbb).2
  clear HF HLEN
  go_enter Tryd.func3, Tryd.ntmps3
  go_wp2_with (first
    | (go_at_call 6; with_reducible refine HU.out.mono ?_; rintro e w4 ⟨rfl, h4⟩; have H4 := Lib.hid h4; clear h4)
    | (go_at_call 7; with_reducible refine (HL.out _ H4.out).mono ?_; rintro e w5 ⟨rfl, rfl⟩)
    | (go_at_call 8; with_reducible refine (HF1.out _ H4.out).mono ?_; rintro e w5 ⟨A5, c5, rfl, g5, h5⟩; have G5 := Lib.hid g5; have H5 := Lib.hid (H4.out.thenNo h5); clear g5 h5)
    | (go_at_call 9; with_reducible refine (HF2.out _ H5.out).mono ?_; rintro e w6 ⟨A6, c6, rfl, g6, h6⟩; have H6 := Lib.hid (H5.out.thenNo h6); have HSS := Lib.hid (HS.out w6 _ w6 _ _ _ _ _ _ _ _ G5.out h6 g6); clear g6 h6)
    | (go_at_call 10; with_reducible refine HSS.out.mono ?_; rintro e w7 ⟨rfl, h7⟩; have H7 := Lib.hid (H6.out.thenNo h7); clear h7)
    | (go_at_call 11; with_reducible refine (HC1.out _).mono ?_; rintro e w8 ⟨rfl, rfl⟩))
  go_ret
  exact ⟨rfl, H7.out⟩
end Go.Proofs.YtpmndblakmobdaaDoor
/- ChW -/
namespace Go.Proofs.YtpmndblakmobdaaDoor
open Go Go.RowKit

theorem takeL_err (l : List Chunk) (i n : Int) : errV 64 (takeL l i n).2 = .nilIface ∨ (∃ c, errV 64 (takeL l i n).2 = .iface 64 (.int .i64 c)) ∧ (takeL l i n).1.length = 0 := by
  by_cases h : (takeL l i n).2 = 0
  · rw [h]; exact .inl (errV_zero _)
  · refine .inr ⟨⟨_, errV_of _ h⟩, ?_⟩
    unfold takeL at h ⊢
    split
    · rename_i g
      rw [dif_pos g] at h
      split
      · rename_i g2
        rw [if_pos g2] at h
        exfalso
        apply h
        split <;> rfl
      · rfl
    · rfl

set_option maxRecDepth 100000 in
set_option maxHeartbeats 8000000 in
theorem chunkStays_walk {R R' : Nat → Prop} {w : World} (hK : Keys w) {A : Option Addr} {l : List Chunk} {cap : Nat} (hl : Chunks R w A l cap) {cs : List Value} {c : Chunk} (hc : chV R' w cs c) (i : Int) (hi : I64 i) (n : Int) (hn : I64 n) :
    Calls Tryd.prog 5 #[.slice A l.length cap, .agg cs.toArray, .int .i64 i, .int .i64 n] w fun e w' => e = .returned (.bool true) ∧ Chg No w w' := by
  have HLT := Lib.hid (fun W (hW : Chg No w W) => light20_any (hl.no chE_good hW))
  have HU := Lib.hid (fun W (hW : Chg No w W) => up20_any (hK.no hW))
  have HL := Lib.hid (fun W (hW : Chg No w W) => hl.no chE_good hW)
  have HCV := Lib.hid (fun W (hW : Chg No w W) => chV_good.no hc hW)
  have HB : Hid (lightB l = true → l.length ≤ 60 ∧ ∀ o ∈ l, -1099511627776 ≤ o.2.2.1 ∧ o.2.2.1 ≤ 1099511627776) := fun h1 => by
    unfold lightB at h1
    rw [Bool.and_eq_true, decide_eq_true_eq] at h1
    exact ⟨h1.1, fun o ho => numB_le (List.all_eq_true.1 h1.2 o ho)⟩
  obtain ⟨cA, cc, cB, cd, rfl, g1, g2, g3, g4, g5, g6⟩ := ch_cells hc
  clear hl hc g2 g6 hK
  generalize lightB l = q at *
  have HCC : Hid (∀ W, Chg No w W → chV R' W [.int .i64 c.1.1, .slice cA c.1.2.length cc, .string c.2.1, .int .i64 c.2.2.1, .int .i64 c.2.2.2.1, .slice cB c.2.2.2.2.length cd] c) := HCV.out
  clear HCV
  obtain ⟨c0, hc0⟩ : ∃ c0 : Chunk, c0 = c := ⟨_, rfl⟩
  obtain ⟨⟨aC, aT⟩, fd, num, vC, vT⟩ := c
  simp only at HCC g1 g3 g4 g5 ⊢
  rw [← hc0] at HCC
  have HC0 := Lib.hid hc0
  clear hc0
  obtain ⟨w3, hw3⟩ : ∃ w3, w3 = w.alloc (.cells #[.int .i64 aC, .slice cA aT.length cc, .string fd, .int .i64 num, .int .i64 vC, .slice cB vT.length cd] 38) := ⟨_, rfl⟩
  have h3 : Hid (Chg No w w3 ∧ w3.heap[w.heap.size]? = some (.cells #[.int .i64 aC, .slice cA aT.length cc, .string fd, .int .i64 num, .int .i64 vC, .slice cB vT.length cd] 38 (0, 0))) := by
    rw [hw3]; exact ⟨(Chg.refl _ _).alloc _, heap_alloc_new _ _⟩
  have HO : Hid (∀ W, Chg No w3 W → W.cell? ⟨w.heap.size, 0, none⟩ = some (.int .i64 aC) ∧ W.cell? ⟨w.heap.size, 1, none⟩ = some (.slice cA aT.length cc) ∧ W.cell? ⟨w.heap.size, 2, none⟩ = some (.string fd) ∧ W.cell? ⟨w.heap.size, 3, none⟩ = some (.int .i64 num) ∧ W.cell? ⟨w.heap.size, 4, none⟩ = some (.int .i64 vC) ∧ W.cell? ⟨w.heap.size, 5, none⟩ = some (.slice cB vT.length cd)) := fun W hW => obj_6 (hW.obj h3.out.2 id)
  cases q
  · go_enter Tryd.func5, Tryd.ntmps5
    go_upto_region 1 with fail
    rw [← hw3]
    clear hw3
    go_wp2_with (first
      | (go_at_call 6; with_reducible refine (HU.out _ h3.out.1).mono ?_; rintro e w4 ⟨rfl, h4⟩; have H4 := Lib.hid (h3.out.1.thenNo h4); clear h4)
      | (go_at_call 7; with_reducible refine (HLT.out _ H4.out).mono ?_; rintro e w5 ⟨rfl, rfl⟩))
    go_ret
    exact ⟨rfl, H4.out⟩
  by_cases hb1 : (1099511627776 : Int) < num
  · go_enter Tryd.func5, Tryd.ntmps5
    go_upto_region 1 with fail
    rw [← hw3]
    clear hw3
    go_wp2_with (first
      | (go_at_call 6; with_reducible refine (HU.out _ h3.out.1).mono ?_; rintro e w4 ⟨rfl, h4⟩; obtain ⟨p0, p1, p2, p3, p4, p5⟩ := HO.out w4 h4; have H4 := Lib.hid (h3.out.1.thenNo h4); clear h4)
      | (go_at_call 7; with_reducible refine (HLT.out _ H4.out).mono ?_; rintro e w5 ⟨rfl, rfl⟩))
    go_ret
    exact ⟨rfl, H4.out⟩
  by_cases hb2 : num < (-1099511627776 : Int)
  · go_enter Tryd.func5, Tryd.ntmps5
    go_upto_region 1 with fail
    rw [← hw3]
    clear hw3
    go_wp2_with (first
      | (go_at_call 6; with_reducible refine (HU.out _ h3.out.1).mono ?_; rintro e w4 ⟨rfl, h4⟩; obtain ⟨p0, p1, p2, p3, p4, p5⟩ := HO.out w4 h4; have H4 := Lib.hid (h3.out.1.thenNo h4); clear h4)
      | (go_at_call 7; with_reducible refine (HLT.out _ H4.out).mono ?_; rintro e w5 ⟨rfl, rfl⟩))
    go_ret
    exact ⟨rfl, H4.out⟩
  have hlen : l.length ≤ 60 := (HB.out rfl).1
  have HN : Hid (-1099511627776 ≤ c0.2.2.1 ∧ c0.2.2.1 ≤ 1099511627776) := by
    rw [HC0.out]; exact ⟨show -1099511627776 ≤ num by omega, show num ≤ 1099511627776 by omega⟩
  have HNS := Lib.hid (HB.out rfl).2
  clear HB
  have HFR := Lib.hid (fun W (hW : Chg No w W) => refFacts20_any (HL.out W hW) (HCC.out W hW) hlen HN.out HNS.out)
  have HFO : Hid (∀ W A5 c5 (M R : Nat → Prop), Chg No w W → Chunks R W A5 l c5 → Calls Tryd.prog 12 #[.slice A5 l.length c5, .agg #[.int .i64 aC, .slice cA aT.length cc, .string fd, .int .i64 num, .int .i64 vC, .slice cB vT.length cd]] W (FsRet W (factsR l c0))) := fun W A5 c5 M R hW h5 =>
    facts_any h5 (HCC.out W hW) hlen HN.out HNS.out
  have HTK : Hid (∀ W A5 c5 (R : Nat → Prop), Chunks R W A5 l c5 → Calls Tryd.prog 8 #[.slice A5 l.length c5, .int .i64 i, .int .i64 n] W (ChsRet R W (takeL l i n))) := fun W A5 c5 R h5 => take_any h5 i n hi hn hlen
  have HTE := Lib.hid (takeL_err l i n)
  have htl : (takeL l i n).1.length ≤ l.length := takeL_len l i n
  clear hi hn HNS HN HC0
  generalize factsR l c0 = F at *
  generalize takeL l i n = T at *
  obtain ⟨fl, fe⟩ := F
  obtain ⟨tl, te⟩ := T
  unfold FsRet at HFO
  unfold FsRetI at HFR
  unfold ChsRet at HTK
  simp only at HFO HFR HTK HTE htl
  generalize errV 64 fe = E1 at *
  generalize errV 64 te = E2 at *
  go_enter Tryd.func5, Tryd.ntmps5
  go_upto_region 1 with fail
  rw [← hw3]
  clear hw3
  go_wp2_with (first
    | (go_at_call 6; with_reducible refine (HU.out _ h3.out.1).mono ?_; rintro e w4 ⟨rfl, h4⟩; obtain ⟨p0, p1, p2, p3, p4, p5⟩ := HO.out w4 h4; have H4 := Lib.hid h4; clear h4)
    | (go_at_call 7; with_reducible refine (HLT.out _ (h3.out.1.thenNo H4.out)).mono ?_; rintro e w5 ⟨rfl, rfl⟩))
  clear p0 p1 p2 p3 p4 p5
  go_loopw [11, 12] (fun s11 s12 wr => ∃ (k : Nat) (v : Value), v = s11 ∧ s12 = .int .i64 k ∧ k ≤ l.length ∧ Hid (OwnL chV 38 (fun q => w4.heap.size ≤ q) (fun q => w4.heap.size ≤ q) wr v (l.take k) ∧ Chg No w4 wr)) (fun _ s12 _ => l.length - (intOf s12).toNat)
  case atStart => exact ⟨0, _, rfl, rfl, Nat.zero_le _, OwnL.nil _ _ _ _ _, Chg.refl _ _⟩
  case round =>
    obtain ⟨k, v, rfl, rfl, gk, hst⟩ := hrel
    by_cases hlt : k < l.length
    · obtain ⟨b, o, B1, d1, C1, e1, rfl, hk, u0, u1, u2, u3, u4, u5⟩ := chs_at (HL.out wr (h3.out.1.thenNo (H4.out.thenNo hst.out.2))) k hlt
      have i0 : (0 : Int) ≤ (k : Int) := by omega
      have i1 : (k : Int) < (l.length : Int) := by omega
      have HE : Hid (l.take (k + 1) = l.take k ++ [l[k]]) := List.take_succ_eq_append_getElem hlt
      have hLk : (l.take k).length ≤ 60 := by simp; omega
      have HOW := Lib.hid hst.out.1
      have HCH := Lib.hid hst.out.2
      clear hst
      generalize l.take k = Lk at *
      generalize l[k] = ob at *
      obtain ⟨⟨oC, oT⟩, ofd, on, ovC, ovT⟩ := ob
      simp only at hk u0 u1 u2 u3 u4 u5
      have HK := Lib.hid hk
      clear hk
      have HVR : Hid (∀ q, v.ownBlock = some q → w4.heap.size ≤ q ∧ q < wr.heap.size) := fun q hq => HOW.out.mine q hq
      go_upto_region 10 with fail
      obtain ⟨w5, hw5⟩ : ∃ w5, w5 = wr.alloc (.cells #[.int .i64 oC, .slice B1 oT.length d1, .string ofd, .int .i64 on, .int .i64 ovC, .slice C1 ovT.length e1] 38) := ⟨_, rfl⟩
      rw [← hw5]
      obtain ⟨b5, hb5⟩ : ∃ b5, b5 = wr.heap.size := ⟨_, rfl⟩
      rw [← hb5]
      have C5 : Hid (Chg No wr w5 ∧ w5.heap[b5]? = some (.cells #[.int .i64 oC, .slice B1 oT.length d1, .string ofd, .int .i64 on, .int .i64 ovC, .slice C1 ovT.length e1] 38 (0, 0)) ∧ w5.heap.size = b5 + 1) := by
        rw [hw5, hb5]; exact ⟨(Chg.refl _ _).alloc _, heap_alloc_new _ _, by simp⟩
      have HB5 : Hid (wr.heap.size ≤ b5) := by unfold Hid; omega
      have HU := Lib.hid (And.intro u1 u5)
      clear hw5 hb5 u0 u1 u2 u3 u4 u5
      have u1 := (C5.out.1.alloc (.cells #[] 55)).cell HU.out.1 id
      obtain ⟨p0, p1, p2, p3, p4, p5⟩ := obj_6 C5.out.2.1
      have HT1 := Lib.hid (HK.out.2.1.no monoE_good C5.out.1)
      go_upto_region 11 with (at_builtin; refine wpList_copyL monoV_good mono_one monosTy rfl (.tmp 47) (.tmp 53) rfl rfl rfl HT1.out rfl ?_; intro A6 c6 w6 g6 h6 _; have G6 := Lib.hid (OMonos.of g6); have H6 := Lib.hid h6; have q1 := h6.cell p1 id; have qf := obj_frz (h6.obj C5.out.2.1 id) 1; clear g6 h6)
      obtain ⟨w7, hw7⟩ : ∃ w7, w7 = w6.setCell ⟨b5, 1, none⟩ (.slice A6 oT.length c6) := ⟨_, rfl⟩
      rw [← hw7]
      have C7 : Hid (Chg No wr w7 ∧ w7.heap[b5]? = some (.cells #[.int .i64 oC, .slice A6 oT.length c6, .string ofd, .int .i64 on, .int .i64 ovC, .slice C1 ovT.length e1] 38 (0, 0)) ∧ Monos (fun q => w5.heap.size ≤ q) w7 A6 oT c6) := by
        rw [hw7]
        have hset : Chg (fun q => q = b5) w6 (w6.setCell ⟨b5, 1, none⟩ (.slice A6 oT.length c6)) := (Chg.refl (fun q => q = b5) w6).setCell _ _ (fun _ => rfl)
        refine ⟨chgpast2 (C5.out.1.thenNo H6.out) hset (fun q hq => by rw [hq]; exact HB5.out), obj_set _ (H6.out.obj C5.out.2.1 id), ?_⟩
        exact (G6.out.monos HK.out.2.1.room).chg monoE_good hset (fun q hq e => by have := C5.out.2.2; omega)
      clear hw7 p0 p1 p2 p3 p4 p5 q1 qf u1 G6 H6 HT1
      have u5 := (C7.out.1.alloc (.cells #[] 55)).cell HU.out.2 id
      obtain ⟨p0, p1, p2, p3, p4, p5⟩ := obj_6 C7.out.2.1
      have HT2 := Lib.hid (HK.out.2.2.2.2.2.no monoE_good C7.out.1)
      go_upto_region 12 with (at_builtin; refine wpList_copyL monoV_good mono_one monosTy rfl (.tmp 57) (.tmp 63) rfl rfl rfl HT2.out rfl ?_; intro A8 c8 w8 g8 h8 _; have G8 := Lib.hid (OMonos.of g8); have H8 := Lib.hid h8; have q5 := h8.cell p5 id; have qf := obj_frz (h8.obj C7.out.2.1 id) 5; clear g8 h8)
      obtain ⟨w9, hw9⟩ : ∃ w9, w9 = w8.setCell ⟨b5, 5, none⟩ (.slice A8 ovT.length c8) := ⟨_, rfl⟩
      rw [← hw9]
      have C9 : Hid (Chg No wr w9 ∧ w9.heap[b5]? = some (.cells #[.int .i64 oC, .slice A6 oT.length c6, .string ofd, .int .i64 on, .int .i64 ovC, .slice A8 ovT.length c8] 38 (0, 0)) ∧ Monos (fun q => wr.heap.size ≤ q) w9 A6 oT c6 ∧ Monos (fun q => wr.heap.size ≤ q) w9 A8 ovT c8) := by
        rw [hw9]
        have hset : Chg (fun q => q = b5) w8 (w8.setCell ⟨b5, 5, none⟩ (.slice A8 ovT.length c8)) := (Chg.refl (fun q => q = b5) w8).setCell _ _ (fun _ => rfl)
        have hz := C7.out.1.size
        have hz5 := C5.out.1.size
        have hbl : b5 < w7.heap.size := (Array.getElem?_eq_some_iff.1 C7.out.2.1).1
        refine ⟨chgpast2 (C7.out.1.thenNo H8.out) hset (fun q hq => by rw [hq]; exact HB5.out), obj_set _ (H8.out.obj C7.out.2.1 id), ?_, ?_⟩
        · exact ((C7.out.2.2.no monoE_good H8.out).chg monoE_good hset (fun q hq e => by have := C5.out.2.2; omega)).mono monoE_good (fun q _ hq => by omega)
        · exact ((G8.out.monos HK.out.2.2.2.2.2.room).chg monoE_good hset (fun q hq e => by omega)).mono monoE_good (fun q _ hq => by omega)
      clear hw9 p0 p1 p2 p3 p4 p5 q5 qf u5 G8 H8 HT2 C7 C5
      obtain ⟨p0, p1, p2, p3, p4, p5⟩ := obj_6 C9.out.2.1
      have HEL : Hid (chV (fun q => w4.heap.size ≤ q ∧ v.ownBlock ≠ some q) w9 [.int .i64 oC, .slice A6 oT.length c6, .string ofd, .int .i64 on, .int .i64 ovC, .slice A8 ovT.length c8] ((oC, oT), ofd, on, ovC, ovT)) := by
        obtain ⟨m1, m2, m3, m4, m5, m6⟩ := HK.out
        have h := ch_of (x := ((oC, oT), ofd, on, ovC, ovT)) m1 C9.out.2.2.1 m3 m4 m5 C9.out.2.2.2
        exact chV_good.mono h (fun q _ hq => ⟨by have := HCH.out.size; omega, fun e => by have := HVR.out q e; omega⟩)
      have HOW6 := Lib.hid (HOW.out.no chV_good C9.out.1)
      have HFRE : Hid (∀ q, w9.heap.size ≤ q → w4.heap.size ≤ q) := fun q hq => by have := (HCH.out.thenNo C9.out.1).size; omega
      go_wp2_with (at_builtin; refine wpList_pushLn chV_good chunksTy rfl (.tmp 67) (.tmp 69) rfl (M := fun q => w4.heap.size ≤ q) (R := fun q => w4.heap.size ≤ q) (w := w9) HFRE.out HOW6.out rfl HEL.out (by simp [Value.oneCell']) rfl rfl (show (Lk.length + 1) * 88 ≤ 140737488355328 by omega) ?_; intro A2 cap2 w7 g1 g2; have G1 := Lib.hid g1; have G2 := Lib.hid g2; clear g1 g2)
      go_roundw
      case rel => exact ⟨k + 1, _, rfl, by go_num, hlt, by rw [HE.out]; exact G1.out, chgpast2 (HCH.out.thenNo C9.out.1) G2.out (fun q hq => (HVR.out q hq).1)⟩
      case measure => simp [intOf]; omega
    · obtain rfl : k = l.length := by omega
      obtain ⟨wa, hwa⟩ : ∃ wa, wa = wr := ⟨_, rfl⟩
      subst hwa
      have HOW : Hid (OwnL chV 38 (fun q => w4.heap.size ≤ q) (fun q => w4.heap.size ≤ q) wa v l) := by
        have := hst.out.1
        rwa [List.take_length] at this
      have HCH := Lib.hid hst.out.2
      clear hst
      obtain ⟨A5, c5, rfl, _⟩ := HOW.out.value
      have HOC : Hid (∀ W, Chg No wa W → Chunks (fun q => w4.heap.size ≤ q ∨ w4.heap.size ≤ q) W A5 l c5) := (fun W (hW : Chg No wa W) => ((HOW.out.no chV_good hW).sl_of chV_good (show l.length * 88 ≤ 140737488355328 by omega)).2)
      have HWR := Lib.hid (h3.out.1.thenNo (H4.out.thenNo HCH.out))
      obtain ⟨p0, p1, p2, p3, p4, p5⟩ := HO.out wa (H4.out.thenNo HCH.out)
      have HF1 := Lib.hid (HFO.out wa A5 c5 (fun _ => True) _ HWR.out (HOC.out wa (Chg.refl _ _)))
      go_wp2_with (first
        | (go_at_call 12; with_reducible refine HF1.out.mono ?_; rintro e w5 ⟨A7, c7, rfl, _, h5⟩; have H5 := Lib.hid h5; have HT1 := Lib.hid (HTK.out w5 A5 c5 _ (HOC.out w5 h5)); clear h5)
        | (go_at_call 8; with_reducible refine HT1.out.mono ?_; rintro e w6 ⟨A6, c6, rfl, g6, h6⟩; have G6 := Lib.hid g6; have H6 := Lib.hid h6; clear g6 h6))
      clear p0 p1 p2 p3 p4 p5 HT1 HF1
      go_loopw [16] (fun s16 wr => ∃ (k : Nat) (Lk : List Chunk), s16 = .int .i64 k ∧ k ≤ tl.length ∧ Hid (Lk.length = tl.length ∧ OwnL chV 38 (fun q => w5.heap.size ≤ q) (fun q => w4.heap.size ≤ q ∨ w4.heap.size ≤ q) wr (.slice A6 tl.length c6) Lk ∧ Chg No w5 wr)) (fun s16 _ => tl.length - (intOf s16).toNat)
      case atStart => exact ⟨0, tl, rfl, Nat.zero_le _, rfl, G6.out, H6.out⟩
      case round =>
        obtain ⟨k, Lk, rfl, gk, hst⟩ := hrel
        by_cases hlt2 : k < tl.length
        · have hlt3 : k < Lk.length := by rw [hst.out.1]; exact hlt2
          obtain ⟨g, og, _, _, hv, hv2⟩ := hst.out.2.1.at_ chV_good k hlt3
          clear hv2
          injection hv with hv _ _
          subst hv
          obtain ⟨f3, y3, hM, gs⟩ := chs_setN hst.out.2.1 hst.out.1.symm k hlt3 (z := 99) (I64.of (by decide) (by decide))
          have HS : Hid ((Lk.set k (withN Lk[k] 99)).length = tl.length ∧ OwnL chV 38 (fun q => w5.heap.size ≤ q) (fun q => w4.heap.size ≤ q ∨ w4.heap.size ≤ q) (wr.setCell ⟨g, og + k * 6 + 3, none⟩ (.int .i64 99)) (.slice (some ⟨g, og, none⟩) tl.length c6) (Lk.set k (withN Lk[k] 99)) ∧ Chg No w5 (wr.setCell ⟨g, og + k * 6 + 3, none⟩ (.int .i64 99))) :=
            ⟨by rw [List.length_set]; exact hst.out.1, gs, chgpast2 hst.out.2.2 ((Chg.refl (fun q => q = g) wr).setCell _ _ (fun _ => rfl)) (fun q hq => by rw [hq]; exact hM)⟩
          have i0 : (0 : Int) ≤ (k : Int) := by omega
          have i1 : (k : Int) < (tl.length : Int) := by omega
          generalize Lk[k].2.2.1 = nk at *
          generalize Lk.set k (withN Lk[k] 99) = Ls at *
          clear hst gs hM hlt3
          go_wp2_with fail
          go_roundw
          case rel => exact ⟨k + 1, Ls, by go_num, hlt2, HS.out⟩
          case measure => simp [intOf]; omega
        · have HZ := Lib.hid (H5.out.thenNo hst.out.2.2)
          clear hst
          obtain ⟨p0, p1, p2, p3, p4, p5⟩ := HO.out wr (H4.out.thenNo (HCH.out.thenNo HZ.out))
          have HF2 := Lib.hid (HFO.out wr A5 c5 (fun _ => True) _ (HWR.out.thenNo HZ.out) (HOC.out wr HZ.out))
          go_upto_region 21 with (first
            | (go_at_call 12; with_reducible refine HF2.out.mono ?_; rintro e w7 ⟨A7, c7, rfl, g7, h7⟩; have G7 := Lib.hid g7; have H7 := Lib.hid (HZ.out.thenNo h7); obtain ⟨q0, q1, q2, q3, q4, q5⟩ := HO.out w7 (H4.out.thenNo (HCH.out.thenNo (HZ.out.thenNo h7))); clear g7 h7)
            | (go_at_call 13; with_reducible refine (HFR.out _ (HWR.out.thenNo H7.out)).mono ?_; rintro e w8 ⟨A8, c8, rfl, g8, h8⟩; have G8 := Lib.hid g8; have G7' := Lib.hid (G7.out.no (formE_good 3) h8); have H8 := Lib.hid (H7.out.thenNo h8); clear g8 h8))
          have HSC := Lib.hid (sameChunks_any (HOC.out _ H8.out) (HL.out _ (HWR.out.thenNo H8.out)))
          have HSF := Lib.hid (fun W (hW : Chg No w8 W) => sameForms20_any (w := W) (n := 3) (l := fl) (G7'.out.no (formE_good 3) hW) (G8.out.no (formE_good 3) hW))
          have HALL := Lib.hid (HWR.out.thenNo H8.out)
          clear p0 p1 p2 p3 p4 p5 q0 q1 q2 q3 q4 q5 HLT HU HFR HFO HTK G7 G7' G8
          rcases HTE.out with hE | ⟨⟨ce, hE⟩, h0⟩
          · subst hE
            go_wp2_with (first
              | (go_at_call 10; with_reducible refine HSC.out.mono ?_; rintro e w9 ⟨rfl, h9⟩; have H9 := Lib.hid h9; clear h9)
              | (go_at_call 16; with_reducible refine (HSF.out _ H9.out).mono ?_; rintro e w10 ⟨rfl, h10⟩; have H10 := Lib.hid (H9.out.thenNo h10); clear h10))
            go_ret
            exact ⟨rfl, HALL.out.thenNo H10.out⟩
          · subst hE
            have h00 : ((tl.length : Int) == 0) = true := by simp [h0]
            go_wp2_with (first
              | (go_at_call 10; with_reducible refine HSC.out.mono ?_; rintro e w9 ⟨rfl, h9⟩; have H9 := Lib.hid h9; clear h9)
              | (go_at_call 16; with_reducible refine (HSF.out _ H9.out).mono ?_; rintro e w10 ⟨rfl, h10⟩; have H10 := Lib.hid (H9.out.thenNo h10); clear h10))
            go_ret
            exact ⟨rfl, HALL.out.thenNo H10.out⟩
end Go.Proofs.YtpmndblakmobdaaDoor
/- ShO -/
namespace Go.Proofs.YtpmndblakmobdaaDoor
open Go Go.ChangeShapes Go.WideShapes Go.ChangeAt Go.RowKit

theorem gKeys : Tryd.prog.globalNamed "trammel/scan.keys" = some 0 := by kernel_rfl
theorem tKeys : (Tryd.prog.globals[0]?).map (·.type) = some 83 := by kernel_rfl
theorem door_met (os : Os) (args : Array Value) : laidMetH Tryd.prog [("trammel/scan.keys", Rows.laid_trammel_scan_keys)] ((World.doorLaid Tryd.prog 400 os).forCall (fun _ _ => 0) ⟨#[], args, []⟩).memory :=
  laidMetH_of_parts3 (fuel := 8) (laidMet_of_run' 8 (by kernel_rfl) (by kernel_rfl)) (by kernel_rfl) (by kernel_rfl)
theorem strs_inj : ∀ {a b : List ByteArray}, (strs (H := Unit) a) = strs b → a = b
  | [], [], _ => rfl
  | [], _ :: _, h => by simp [strs] at h
  | _ :: _, [], h => by simp [strs] at h
  | x :: a, y :: b, h => by
    simp only [strs, List.map_cons, List.cons.injEq] at h
    obtain ⟨h1, h2⟩ := h
    have e : x = y := by
      injection h1 with h1
      injection h1 with h1
      exact ByteArray.ext (Array.toList_inj.1 h1)
    rw [e, strs_inj h2]
theorem keys_of_laid {W : World} (h : laidMetH Tryd.prog [("trammel/scan.keys", Rows.laid_trammel_scan_keys)] W) : Keys W := by
  rw [MakeChecks.laidMetH_plain _ _ _ (by kernel_rfl)] at h
  obtain ⟨ps, ⟨g0, t0, cs0, f0, p0, q0, hg0, ht0, hv0, hd0, _, _⟩, _, _⟩ := h
  obtain rfl := Option.some.inj (gKeys.symm.trans hg0)
  obtain rfl := Option.some.inj (tKeys.symm.trans ht0)
  rcases open_strings Tryd.underlying83 Tryd.underlying9 (by kernel_rfl) hd0 with ⟨_, hx⟩ | ⟨a, len, cap, ss, hcs, _, hl, hm, hz, hx, hcell, hsz⟩
  · simp [Rows.laid_trammel_scan_keys] at hx
  simp only [Prod.mk.injEq] at hx
  have hx1 : (DataW.slice (strs keyL) [] : DataW Unit) = .slice (strs (ss.take len)) (strs (ss.drop len)) := hx.1
  injection hx1 with e1 e2
  have e3 := strs_inj e1
  have e4 : ss.drop len = [] := by
    cases hd : ss.drop len with
    | nil => rfl
    | cons x y => rw [hd] at e2; simp [strs] at e2
  have e5 : ss = keyL := by
    have := List.take_append_drop len ss
    rw [e4, List.append_nil, ← e3] at this
    exact this.symm
  have hlen : len = 19 := by
    have h1 : (ss.take len).length = 19 := by rw [← e3]; rfl
    have h2 : ss.length = 19 := by rw [e5]; rfl
    have h3 : ss.length ≤ len := by
      have := congrArg List.length e4
      simp at this
      omega
    rw [List.length_take] at h1
    have h4 : len ≤ ss.length := by
      rw [hz]; split <;> omega
    omega
  subst hlen
  have hc0 := World.var?_cell hg0 hv0 0
  rw [Array.eq_one_of_toList hcs] at hc0
  have hnone : a.spot = none := by
    have h0 := hcell 0 (by rw [e5]; decide)
    simpa [Addr.add] using World.cell?_spot h0
  obtain ⟨b, off, spot⟩ := a
  simp only at hnone
  subst hnone
  refine ⟨some ⟨b, off, none⟩, cap, by simpa using hc0, hl, hm, by decide, (fun h => by cases h), fun i hi => ⟨b, off, rfl, trivial, ?_, ?_⟩⟩
  · have h1 := hcell i (by rw [e5]; exact hi)
    rw [e5] at h1
    have e6 : keyL.getD i ByteArray.empty = keyL[i] := by simp [List.getD, hi]
    rw [e6] at h1
    rw [Nat.mul_one]
    rw [addr_add] at h1
    exact h1
  · exact hsz _ (by rw [e5]; exact List.getElem_mem hi)
end Go.Proofs.YtpmndblakmobdaaDoor
