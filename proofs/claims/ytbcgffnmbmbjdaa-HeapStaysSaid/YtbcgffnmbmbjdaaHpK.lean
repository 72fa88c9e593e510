/-
  Chapter 17: slices.Clone, slices.Insert, slices.Delete over cells.
-/
import Derived.Test.YtbcgffnmbmbjdaaHpJ
import Derived.Lib.AppendZerosOnto
import Derived.Lib.Overlaps
import Derived.Deep.AppendSrc
import Derived.Deep.RegionLaw
namespace Go.Proofs.Ytbcgffnmbmbjdaa
open Go Go.RowKit

/-- Cells of one block, some of them overwritten. -/
theorem setCells_blk {e : TypeId} (g : Nat) : ∀ (vs : List Value) (o : Nat) (w : World) (C : Array Value), w.heap[g]? = some (.cells C e (0, 0)) → o + vs.length ≤ C.size →
    ∃ C' : Array Value, (w.setCells g o vs).heap[g]? = some (.cells C' e (0, 0)) ∧ C'.size = C.size ∧ ∀ j, C'[j]? = if o ≤ j ∧ j < o + vs.length then vs[j - o]? else C[j]?
  | [], o, w, C, h, _ => ⟨C, h, rfl, fun j => by rw [if_neg (by simp only [List.length_nil]; omega)]⟩
  | v :: r, o, w, C, h, hl => by
    simp only [List.length_cons] at hl
    obtain ⟨C', h1, h2, h3⟩  := setCells_blk (e := e) g r (o + 1) (w.setCell ⟨g, o, none⟩ v) (C.setIfInBounds o v) (by simp [World.setCell, Array.getElem?_modify, h]) (by simp; omega)
    refine ⟨C', h1, by simpa using h2, fun j => ?_⟩
    rw [h3 j, Array.getElem?_setIfInBounds]
    simp only [List.length_cons]
    by_cases hj : o = j
    · subst hj
      rw [if_neg (by omega), if_pos rfl, if_pos (by omega), if_pos (by omega), Nat.sub_self]
      rfl
    · rw [if_neg hj]
      by_cases h4 : o + 1 ≤ j ∧ j < o + 1 + r.length
      · rw [if_pos h4, if_pos (by omega), show j - o = (j - (o + 1)) + 1 by omega, List.getElem?_cons_succ]
      · rw [if_neg h4, if_neg (by omega)]
theorem setCells_chg (g : Nat) : ∀ (vs : List Value) (o : Nat) (w : World), Chg (fun k => k = g) w (w.setCells g o vs)
  | [], _, _ => Chg.refl _ _
  | v :: r, o, w => ((Chg.refl (fun k => k = g) w).setCell ⟨g, o, none⟩ v (fun _ => rfl)).trans (setCells_chg g r (o + 1) (w.setCell ⟨g, o, none⟩ v)) (fun _ hk _ => hk)
theorem blk_cell {w : World} {g : Nat} {C : Array Value} {e : TypeId} (h : w.heap[g]? = some (.cells C e (0, 0))) (j : Nat) : w.cell? ⟨g, j, none⟩ = C[j]? := by simp [World.cell?, h]
theorem blk_frozen {w : World} {g : Nat} {C : Array Value} {e : TypeId} (h : w.heap[g]? = some (.cells C e (0, 0))) (j : Nat) : w.frozen? ⟨g, j, none⟩ = false := by simp [World.frozen?, h]

section
variable {P : Program}
theorem run_copy_cellsK (w : World) (dT sT ty elem : TypeId) (sz b o dLen dCap : Nat) (a : Addr) (sLen sCap n : Nat) (cs : List Value)
    (hu : P.underlying dT = some (.slice elem)) (hs : (P.info? elem).map (·.size) = some sz) (hn : Nat.min sLen dLen = n) (hl : cs.length = n * sz)
    (hsrc : ∀ j v, cs[j]? = some v → w.cell? (a.add j) = some v) (hc : ∀ j, j < cs.length → (w.cell? ⟨b, o + j, none⟩).isSome = true) (hf : ∀ j, j < cs.length → w.frozen? ⟨b, o + j, none⟩ = false) (h1 : ∀ v ∈ cs, v.oneCell' = true) :
    (Builtin.copy_ #[dT, sT] ty #[.slice (some ⟨b, o, none⟩) dLen dCap, .slice (some a) sLen sCap]).run P w = .ok (goInt n) (w.setCells b o cs) := by
  have hld := run_loadCells_list (P := P) w a cs hsrc
  have hst := run_storeCells_cells (P := P) b o cs 0 w (by simpa using hc) (by simpa using hf) h1
  cases hq : P.info? elem with
  | none => simp [hq] at hs
  | some i =>
    have hi : i.size = sz := by simpa [hq] using hs
    simp [Builtin.copy_, run_underlying hu, Builtin.lenOf, Builtin.firstCells, sizeOf, typeInfo, hq, hi, hn, ← hl, hld, hst]
theorem wp_copy_runK (w : World) {o : Oper} {a : Act} {K : Act → World → Prop} {Q : Exit → Act → World → Prop} (d s : Operand) (t t' : TypeId)
    (ho : o.op = .call { callee := .builtin .copy, args := #[d, s], argTypes := #[t, t'] }) (v u : Value) (hd : a.eval d = v) (hs : a.eval s = u) {v' : Value} {w' : World}
    (hr : (Builtin.copy_ #[t, t'] o.type #[v, u]).run P w = .ok v' w') (h : K (a.put o.dst v') w') : o.wp P a w K Q := by
  unfold Oper.wp execOp
  simp only [ho, resolve, invoke, builtin, Sem.run_bind, Sem.run_pure, Result.andThen_ok, List.map_toArray, List.map_cons, List.map_nil, hd, hs, hr]
  exact h
theorem wpList_copy_runK (w : World) {ops : Array Oper} {rest : List Oper} {o : Oper} {a : Act} {Q : Exit → Act → World → Prop} (hgd : o.guard = none) (d s : Operand) (t t' : TypeId)
    (ho : o.op = .call { callee := .builtin .copy, args := #[d, s], argTypes := #[t, t'] }) (v u : Value) (hd : a.eval d = v) (hs : a.eval s = u) {v' : Value} {w' : World}
    (hr : (Builtin.copy_ #[t, t'] o.type #[v, u]).run P w = .ok v' w') (h : wpList P ops Q rest (a.put o.dst v') w') : wpList P ops Q (o :: rest) a w :=
  wpList_plain hgd fun _ hK => wp_copy_runK w d s t t' ho v u hd hs hr (hK _ _ h)
theorem step_copy_runK {ops : Array Oper} {o : Oper} {a : Act} {w : World} {K : Act → World → Prop} {Q : Exit → Act → World → Prop} {E : Prop}
    (hg : o.guard = none) (d x : Operand) (dT sT : TypeId) (hop : o.op = Op.call { callee := Callee.builtin Builtin.copy, args := #[d, x], argTypes := #[dT, sT] })
    (v u : Value) (hd : a.eval d = v) (hx : a.eval x = u) {v' : Value} {w' : World} (hr : (Builtin.copy_ #[dT, sT] o.type #[v, u]).run P w = .ok v' w') (hK : K (a.put o.dst v') w') :
    if Region.wanted o (yielded ops a.tmps) = true then Oper.wp P o a w K Q else E := by
  have hw : Region.wanted o (yielded ops a.tmps) = true := by simp [Region.wanted, hg]
  rw [if_pos hw]
  unfold Oper.wp
  simp [execOp, hop, resolve, invoke, builtin, hd, hx, hr, Result.andThen]
  exact hK
end

/-- An owned row of cells, opened. -/
theorem OTris.blk {e : TypeId} {M : Nat → Prop} {w : World} {g o n cap : Nat} {l : List Tri} (h : OTris e M w (.slice (some ⟨g, o, none⟩) n cap) l) :
    n = l.length ∧ M g ∧ n ≤ cap ∧ cap ≤ maxLen ∧ (∀ m ∈ l, TriOk m) ∧ ∃ C : Array Value, w.heap[g]? = some (.cells C e (0, 0)) ∧ o + cap * 3 ≤ C.size ∧ ∀ j u, (encL l)[j]? = some u → C[o + j]? = some u := by
  obtain ⟨h1, h2⟩ := OTris.iff.1 h
  rcases h1.2 with ⟨e, _⟩ | ⟨g', o', cap', cur, e, hM, hg, g1, g2, g3, g4⟩
  · cases e
  injection e with e1 e2 e3
  injection e1 with e1
  injection e1 with e1 e4
  subst e1; subst e4; subst e3
  exact ⟨e2, hM, by omega, g2, h2, cur, hg, g3, g4⟩
theorem OTris.mkB {e : TypeId} {M : Nat → Prop} {w : World} {g o cap : Nat} {l : List Tri} (hM : M g) (h1 : l.length ≤ cap) (h2 : cap ≤ maxLen) (h3 : ∀ m ∈ l, TriOk m) {C : Array Value} (hg : w.heap[g]? = some (.cells C e (0, 0))) (h4 : o + cap * 3 ≤ C.size) (h5 : ∀ j u, (encL l)[j]? = some u → C[o + j]? = some u) :
    OTris e M w (.slice (some ⟨g, o, none⟩) l.length cap) l :=
  OTris.iff.2 ⟨⟨encL_length l, .inr ⟨g, o, cap, C, rfl, hM, hg, h1, h2, h4, h5⟩⟩, h3⟩
theorem encL_append (p q : List Tri) : encL (p ++ q) = encL p ++ encL q := by unfold encL; simp
theorem encL_cons (m : Tri) (q : List Tri) : encL (m :: q) = enc3 m ++ encL q := by unfold encL; simp
theorem encL_take (l : List Tri) (i : Nat) : encL (l.take i) = (encL l).take (i * 3) := by
  rcases Nat.le_total l.length i with h | h
  · rw [List.take_of_length_le h, List.take_of_length_le (by rw [encL_length]; omega)]
  · have e := encL_append (l.take i) (l.drop i)
    rw [List.take_append_drop] at e
    rw [e, List.take_left' (by rw [encL_length, List.length_take]; congr 1; omega)]
theorem encL_drop (l : List Tri) (i : Nat) : encL (l.drop i) = (encL l).drop (i * 3) := by
  rcases Nat.le_total l.length i with h | h
  · rw [List.drop_eq_nil_of_le h, List.drop_eq_nil_of_le (by rw [encL_length]; omega)]
    rfl
  · have e := encL_append (l.take i) (l.drop i)
    rw [List.take_append_drop] at e
    rw [e, List.drop_left' (by rw [encL_length, List.length_take]; congr 1; omega)]
theorem encL_one (l : List Tri) : ∀ u ∈ encL l, u.oneCell' = true := fun u hu => by
  obtain ⟨c, hc, hu⟩ := List.mem_flatten.1 hu
  obtain ⟨m, _, rfl⟩ := List.mem_map.1 hc
  simp [enc3] at hu
  rcases hu with rfl | rfl | rfl <;> rfl

set_option maxRecDepth 100000 in
set_option maxHeartbeats 1000000 in
theorem cloneCell_any {R : Nat → Prop} {w : World} {A : Option Addr} {l : List Tri} {cap : Nat} (hl : Tris R w A l cap) :
    Calls Try.prog 34 #[.slice A l.length cap] w fun e w' => ∃ A' cap', e = .returned (.slice A' l.length cap') ∧ OTris 39 (fun k => w.heap.size ≤ k) w' (.slice A' l.length cap') l ∧ Chg No w w' := by
  cases hA : A with
  | none =>
    subst hA
    have h0 : l = [] := List.eq_nil_of_length_eq_zero (by have := hl.le; have := hl.nil rfl; omega)
    have hc : cap = 0 := hl.nil rfl
    subst h0; subst hc
    have he : ∀ W, (binOp .eql 28 (.slice none 0 0) (.slice none 0 0)).run Try.prog W = .ok (.bool true) W := fun W => by kernel_rfl
    clear hl
    go_enter Try.func34, Try.ntmps34
    go_wp2
    go_ret
    exact ⟨none, 0, rfl, OwnL.nil _ _ _ _ _, Chg.refl _ _⟩
  | some a =>
    subst hA
    have HL := Lib.hid hl
    have he := fun W => Lib.run_eql_slice_nil (P := Try.prog) W 28 39 (some a) l.length cap 0 0 Try.underlying28
    clear hl
    go_enter Try.func34, Try.ntmps34
    go_wp2_with (at_builtin; refine wpList_copyL triV_good tri_one cellsTy rfl (.tmp 5) (.tmp 6) rfl rfl rfl HL.out rfl ?_; intro A' cap' w' h1 h2 h3)
    go_ret
    exact ⟨A', cap', rfl, OTris.of h1, h2⟩

/-- A share as the one element of a row of its own. -/
def OneAt (w : World) (vb : Nat) (c : Tri) : Prop := w.heap[vb]? = some (.cells #[.int .i64 c.1, .string c.2.1, .int .i64 c.2.2] 39 (0, 0))
theorem OneAt.news {w : World} {vb : Nat} {c : Tri} (h : OneAt w vb c) : ∀ j u, (enc3 c)[j]? = some u → w.cell? ((⟨vb, 0, none⟩ : Addr).add j) = some u := news_of (cs := enc3 c) h
theorem enc3_one (c : Tri) : ∀ u ∈ enc3 c, u.oneCell' = true := fun u hu => by
  simp [enc3] at hu
  rcases hu with rfl | rfl | rfl <;> rfl

set_option maxRecDepth 100000 in
set_option maxHeartbeats 4000000 in
theorem insert_end {M : Nat → Prop} {w : World} (hM : ∀ k, w.heap.size ≤ k → M k) {A : Option Addr} {n cap : Nat} {l : List Tri} (h : OTris 39 M w (.slice A n cap) l) (hn : n = l.length) (hlen : l.length ≤ 100000) {vb : Nat} {c : Tri} (hv : OneAt w vb c) (hc : TriOk c) :
    Calls Try.prog 35 #[.slice A n cap, .int .i64 n, .slice (some ⟨vb, 0, none⟩) 1 1] w fun e w' => ∃ A' cap', e = .returned (.slice A' (n + 1) cap') ∧ OTris 39 M w' (.slice A' (n + 1) cap') (l ++ [c]) ∧ Chg (fun k => (Value.slice A n cap).ownBlock = some k) w w' := by
  subst hn
  obtain ⟨h1, h2⟩ := OTris.iff.1 h
  have HOW := Lib.hid h1
  have HOK := Lib.hid h2
  have HV := Lib.hid hv.news
  have HC := Lib.hid hc
  have HM := Lib.hid hM
  clear h h1 h2 hv hc hM
  have HB : Hid ((l.length + 1) * 32 ≤ 140737488355328) := by unfold Hid; omega
  by_cases hcn : cap = l.length
  case' pos => subst hcn
  all_goals
    go_enter Try.func35, Try.ntmps35
    go_wp2_with (at_builtin; refine wpList_append_Own cellsTy rfl (.tmp 23) (.tmp 24) rfl HM.out HOW.out rfl (m := 1) (news := enc3 c) rfl rfl HV.out (enc3_one c) HB.out ?_; intro A' cap' w' g1 g2 g3; have G1 := Lib.hid g1; have G2 := Lib.hid g2; clear g1 g2 g3)
    go_ret
    refine ⟨A', cap', rfl, ?_, G2.out⟩
    have h1 : Own M 39 3 w' (.slice A' (l.length + 1) cap') (l ++ [c]).length (encL (l ++ [c])) := by
      rw [List.length_append, encL_append]
      exact G1.out
    exact OTris.iff.2 ⟨h1, fun m hm => by
      rcases List.mem_append.1 hm with hm | hm
      · exact HOK.out m hm
      · rw [List.mem_singleton.1 hm]; exact HC.out⟩

set_option maxRecDepth 100000 in
set_option maxHeartbeats 4000000 in
theorem insert_shift {M : Nat → Prop} {w : World} {g o n cap : Nat} {l : List Tri} (h : OTris 39 M w (.slice (some ⟨g, o, none⟩) n cap) l) (hn : n = l.length) (hlen : l.length ≤ 100000) {vb i : Nat} (hi : i < n) (hroom : n + 1 ≤ cap) {c : Tri} (hv : OneAt w vb c) (hvg : vb ≠ g) (hc : TriOk c) :
    Calls Try.prog 35 #[.slice (some ⟨g, o, none⟩) n cap, .int .i64 i, .slice (some ⟨vb, 0, none⟩) 1 1] w fun e w' => e = .returned (.slice (some ⟨g, o, none⟩) (n + 1) cap) ∧ OTris 39 M w' (.slice (some ⟨g, o, none⟩) (n + 1) cap) (l.take i ++ c :: l.drop i) ∧ Chg (fun k => k = g) w w' := by
  obtain ⟨_, hMg, _, hmax, hok, C, hC, hCs, hCe⟩ := h.blk
  clear h
  have hv' : w.heap[vb]? = some (.cells #[.int .i64 c.1, .string c.2.1, .int .i64 c.2.2] 39 (0, 0)) := hv
  have hsz : (Try.prog.info? 39).map (·.size) = some 3 := by kernel_rfl
  have hov : ∀ lb cb, (callFunc 42 #[.slice (some ⟨vb, 0, none⟩) 1 1, .slice (some ⟨g, o + (i + 1) * 3, none⟩) lb cb]).run Try.prog w = .ok (.value (.bool false)) w := fun lb cb => by
    rw [run_callFunc_extern Try.func42 (by kernel_rfl) (by kernel_rfl) (by kernel_rfl) (e := Extern.SlicesOverlaps.overlaps #[28, 28] #[4]) (by kernel_rfl),
      Lib.run_overlaps_apart w 28 4 39 Try.underlying28 3 Try.sizeOf39 ⟨vb, 0, none⟩ ⟨g, o + (i + 1) * 3, none⟩ 1 1 lb cb hvg 39 39 3 C.size (by simp only [World.shape?, hv']; rfl) (by simp only [World.shape?, hC]) (by omega) (by simp only [World.frozen?, hv']; rfl) (by simp only [World.frozen?, hv']; rfl)]
    rfl
  have hel : ∀ j u, ((encL l).drop (i * 3))[j]? = some u → C[o + i * 3 + j]? = some u := fun j u hj => by
    rw [List.getElem?_drop] at hj
    rw [Nat.add_assoc]
    exact hCe _ _ hj
  have hdl : ((encL l).drop (i * 3)).length = (n - i) * 3 := by rw [List.length_drop, encL_length, hn]; omega
  have hbc := blk_cell hC
  have hbf := blk_frozen hC
  have hcp1 : ∀ ty dc sc, (Builtin.copy_ #[28, 28] ty #[.slice (some ⟨g, o + (i + 1) * 3, none⟩) (n + 1 - (i + 1)) dc, .slice (some ⟨g, o + i * 3, none⟩) (n + 1 - i) sc]).run Try.prog w.drew = .ok (goInt ((n - i : Nat) : Int)) (w.drew.setCells g (o + (i + 1) * 3) ((encL l).drop (i * 3))) := fun ty dc sc =>
    run_copy_cellsK w.drew _ _ ty 39 3 g (o + (i + 1) * 3) (n + 1 - (i + 1)) dc ⟨g, o + i * 3, none⟩ (n + 1 - i) sc (n - i) ((encL l).drop (i * 3)) Try.underlying28 hsz (by simp only [Nat.min_def]; split <;> omega) hdl
      (fun j v hj => by rw [addr_add]; exact (hbc _).trans (hel j v hj))
      (fun j hj => by show (w.cell? _).isSome = true; rw [hbc, Array.getElem?_eq_getElem (by omega)]; rfl) (fun j hj => hbf _) (fun u hu => encL_one l u (List.mem_of_mem_drop hu))
  obtain ⟨C1, hC1, hs1, he1⟩ := setCells_blk (e := 39) g ((encL l).drop (i * 3)) (o + (i + 1) * 3) w.drew C hC (by omega)
  have hch1 := setCells_chg g ((encL l).drop (i * 3)) (o + (i + 1) * 3) w.drew
  obtain ⟨W1, hW1⟩ : ∃ W1, W1 = w.drew.setCells g (o + (i + 1) * 3) ((encL l).drop (i * 3)) := ⟨_, rfl⟩
  rw [← hW1] at hcp1 hC1 hch1
  have hch1' : Chg (fun k => k = g) w W1 := ((Chg.refl _ w).drew).trans hch1 (fun k hk _ => hk)
  have hv1 : W1.heap[vb]? = some (.cells #[.int .i64 c.1, .string c.2.1, .int .i64 c.2.2] 39 (0, 0)) := hch1'.obj hv' hvg
  have hcp2 : ∀ (W : World), W.heap = W1.heap → ∀ ty dc, (Builtin.copy_ #[28, 28] ty #[.slice (some ⟨g, o + i * 3, none⟩) (n + 1 - i) dc, .slice (some ⟨vb, 0, none⟩) 1 1]).run Try.prog W = .ok (goInt 1) (W.setCells g (o + i * 3) (enc3 c)) := fun W hW ty dc => by
    have hCW : W.heap[g]? = some (.cells C1 39 (0, 0)) := by rw [hW]; exact hC1
    have hvW : OneAt W vb c := by show W.heap[vb]? = _; rw [hW]; exact hv1
    exact run_copy_cellsK W _ _ ty 39 3 g (o + i * 3) (n + 1 - i) dc ⟨vb, 0, none⟩ 1 1 1 (enc3 c) Try.underlying28 hsz (by simp only [Nat.min_def]; split <;> omega) rfl
      hvW.news (fun j hj => by rw [blk_cell hCW, Array.getElem?_eq_getElem (by have : (enc3 c).length = 3 := rfl; omega)]; rfl) (fun j hj => blk_frozen hCW _) (enc3_one c)
  have hfin : ∀ (W : World), W.heap = W1.heap → W.os = W1.os → W.tape = W1.tape → W.output = W1.output → OTris 39 M (W.setCells g (o + i * 3) (enc3 c)) (.slice (some ⟨g, o, none⟩) (n + 1) cap) (l.take i ++ c :: l.drop i) ∧ Chg (fun k => k = g) w (W.setCells g (o + i * 3) (enc3 c)) := fun W hW h1 h2 h3 => by
    have hCW : W.heap[g]? = some (.cells C1 39 (0, 0)) := by rw [hW]; exact hC1
    obtain ⟨C2, hC2, hs2, he2⟩ := setCells_blk (e := 39) g (enc3 c) (o + i * 3) W C1 hCW (by have : (enc3 c).length = 3 := rfl; omega)
    have hlen2 : (l.take i ++ c :: l.drop i).length = n + 1 := by simp; omega
    refine ⟨?_, ?_⟩
    · have := OTris.mkB (o := o) (cap := cap) (l := l.take i ++ c :: l.drop i) hMg (by omega) hmax (fun m hm => ?_) hC2 (by omega) (fun j u hj => ?_)
      · rw [hlen2] at this; exact this
      · rcases List.mem_append.1 hm with hm | hm
        · exact hok m (List.mem_of_mem_take hm)
        · rcases List.mem_cons.1 hm with rfl | hm
          · exact hc
          · exact hok m (List.mem_of_mem_drop hm)
      · rw [encL_append, encL_cons, encL_take, encL_drop] at hj
        have hl3 : (enc3 c).length = 3 := rfl
        have htl : ((encL l).take (i * 3)).length = i * 3 := by rw [List.length_take, encL_length]; omega
        rw [he2, he1]
        by_cases ha : j < i * 3
        · rw [if_neg (by omega), if_neg (by omega)]
          rw [List.getElem?_append_left (by omega), List.getElem?_take_of_lt ha] at hj
          exact hCe _ _ hj
        · rw [List.getElem?_append_right (by omega), htl] at hj
          by_cases hb : j < i * 3 + 3
          · rw [if_pos (by omega)]
            rw [List.getElem?_append_left (by omega)] at hj
            rw [show o + j - (o + i * 3) = j - i * 3 by omega]
            exact hj
          · rw [List.getElem?_append_right (by omega), hl3] at hj
            have hjl := (List.getElem?_eq_some_iff.1 hj).1
            rw [if_neg (by omega), if_pos (by omega)]
            rw [show o + j - (o + (i + 1) * 3) = j - i * 3 - 3 by omega]
            exact hj
    · exact hch1'.trans (Chg.trans (S := fun k => k = g) (T := fun k => k = g) (w := W1) (w1 := W) ⟨h1, h2, h3, by rw [hW]; exact Nat.le_refl _, fun k _ _ => by rw [hW]⟩ (setCells_chg g _ _ W) (fun k hk _ => hk)) (fun k hk _ => hk)
  have HFIN := Lib.hid hfin
  have hc63 : cap ≤ 9223372036854775807 := hmax
  have hnb : n ≤ 100000 := by omega
  have hin : i ≤ n := by omega
  have hb3 : (i : Int) ≤ (n : Int) + 1 := by omega
  have hb1 : (0 : Int) ≤ (i : Int) + 1 := by omega
  have htn : ((i : Int) + 1).toNat = i + 1 := by omega
  rename_i hnn _
  clear hnn hn hlen hfin hC1 hs1 he1 hch1 hch1' hv1 hel hdl hbc hbf hCe hCs hok hMg hC hmax hc
  have hw1 : IntKind.i64.wrap ((i : Int) + 1) = (i : Int) + 1 := by rw [IntKind.wrap_i64]; omega
  have hz2 : ¬ ((i : Int) = (n : Int)) := by omega
  have hb2 : ¬ (cap = i + 1) := by omega
  have hb4 : ¬ (cap = i) := by omega
  go_enter Try.func35, Try.ntmps35
  go_wp2_with (simp only [hov])
  go_region_law ((refine step_copy_runK (by rfl) (.tmp 73) (.tmp 76) 28 28 (by rfl) (.slice (some ⟨g, o + (i + 1) * 3, none⟩) (n + 1 - (i + 1)) (cap - (i + 1))) (.slice (some ⟨g, o + i * 3, none⟩) (n + 1 - i) (cap - i)) (by simp [Act.eval, Act.put]) (by simp [Act.eval, Act.put]) (hcp1 _ _ _) ?_))
  go_wp2_with (at_builtin; refine wpList_copy_runK _ rfl (.tmp 80) (.tmp 81) 28 28 rfl _ _ rfl rfl (hcp2 _ rfl _ _) ?_)
  go_ret
  exact ⟨rfl, HFIN.out _ (by rw [hW1]) (by rw [hW1]) (by rw [hW1]) (by rw [hW1])⟩

set_option maxRecDepth 100000 in
set_option maxHeartbeats 4000000 in
theorem insert_grow {M : Nat → Prop} {w : World} (hM : ∀ k, w.heap.size ≤ k → M k) {g o n cap : Nat} {l : List Tri} (h : OTris 39 M w (.slice (some ⟨g, o, none⟩) n cap) l) (hn : n = l.length) (hlen : l.length ≤ 100000) {vb i : Nat} (hi : i < n) (hroom : cap < n + 1) {c : Tri} (hv : OneAt w vb c) (hc : TriOk c) :
    Calls Try.prog 35 #[.slice (some ⟨g, o, none⟩) n cap, .int .i64 i, .slice (some ⟨vb, 0, none⟩) 1 1] w fun e w' => ∃ G, e = .returned (.slice (some ⟨w.heap.size, 0, none⟩) (n + 1) G) ∧ OTris 39 M w' (.slice (some ⟨w.heap.size, 0, none⟩) (n + 1) G) (l.take i ++ c :: l.drop i) ∧ Chg No w w' := by
  obtain ⟨hnn, hMg, hnc, hmax, hok, C, hC, hCs, hCe⟩ := h.blk
  clear h
  have hv' : w.heap[vb]? = some (.cells #[.int .i64 c.1, .string c.2.1, .int .i64 c.2.2] 39 (0, 0)) := hv
  have hsz : (Try.prog.info? 39).map (·.size) = some 3 := by kernel_rfl
  obtain ⟨i0, hi0, hz0, hzs, hzb⟩ := info_parts cellsTy.info
  have hgw : g < w.heap.size := (Array.getElem?_eq_some_iff.1 hC).1
  have hvw : vb < w.heap.size := (Array.getElem?_eq_some_iff.1 hv').1
  have hkk : (n : Int) + 1 - (i : Int) = ((n + 1 - i : Nat) : Int) := by omega
  have hik : i + (n + 1 - i) = n + 1 := by omega
  have hbc := blk_cell hC
  have hold : (Builtin.firstCells i0.size i (.slice (some ⟨g, o, none⟩) i cap)).run Try.prog w.drew = .ok ((encL l).take (i * 3)).toArray w.drew := by
    rw [hzs]
    exact run_firstCells_some w.drew 3 i ⟨g, o, none⟩ i cap ((encL l).take (i * 3)) (by rw [List.length_take, encL_length]; omega) (fun j v hj => by
      rw [addr_add]
      rw [List.getElem?_take] at hj
      split at hj
      · exact (hbc _).trans (hCe j v hj)
      · cases hj)
  have hrz : ∀ ty, (Builtin.append_ #[28, 3] ty #[.slice (some ⟨g, o, none⟩) i cap, .int .i64 ((n : Int) + 1 - (i : Int))]).run Try.prog w =
      .ok (.slice (some ⟨w.heap.size, 0, none⟩) (n + 1) (grownCap w (n + 1) cap 39)) (w.drew.alloc (.cells (((encL l).take (i * 3)).toArray ++ Builtin.zeroCells zT.cells (n + 1 - i) ++ Builtin.zeroCells zT.cells (grownCap w (n + 1) cap 39 - (n + 1))) 39)) := fun ty => by
    have h := Lib.run_append_grow_zeros w 28 3 ty 39 i0 _ .i64 .i64 Try.underlying28 Try.underlying3 hi0 hz0 (some ⟨g, o, none⟩) i cap ((encL l).take (i * 3)) hold (n + 1 - i) (by omega) (by rw [hzs]; omega) (by omega) (by omega) (by rw [hzb]; omega) (by rw [hzb, hik]; exact growslice_fits hroom (by omega))
    rw [hik] at h
    rw [hkk]
    exact h
  obtain ⟨G, hG⟩ : ∃ G, G = grownCap w (n + 1) cap 39 := ⟨_, rfl⟩
  have hGn : n + 1 ≤ G := by rw [hG]; exact grownCap_ge w _ _ _
  have hGm : G ≤ maxLen := by rw [hG]; exact grownCap_le_maxLen w (n + 1) cap 39 (by unfold maxLen; omega)
  have hG63 : G ≤ 9223372036854775807 := hGm
  obtain ⟨ROW, hROW⟩ : ∃ ROW : Array Value, ROW = ((encL l).take (i * 3)).toArray ++ Builtin.zeroCells zT.cells (n + 1 - i) ++ Builtin.zeroCells zT.cells (G - (n + 1)) := ⟨_, rfl⟩
  rw [← hG, ← hROW] at hrz
  have hz3 : ∀ k, (Builtin.zeroCells zT.cells k).size = k * 3 := fun k => by
    have : zT.cells.size = 3 := rfl
    unfold Builtin.zeroCells
    simp [this]
  have htl : ((encL l).take (i * 3)).length = i * 3 := by rw [List.length_take, encL_length]; omega
  have hRl : ROW.size = G * 3 := by
    rw [hROW, Array.size_append, Array.size_append, hz3, hz3, List.size_toArray, htl]
    omega
  have hR0 : ∀ j u, ((encL l).take (i * 3))[j]? = some u → ROW[j]? = some u := fun j u hj => by
    have hjl := (List.getElem?_eq_some_iff.1 hj).1
    rw [hROW, Array.getElem?_append_left (by simp only [Array.size_append, List.size_toArray]; omega), Array.getElem?_append_left (by simpa using hjl)]
    simpa using hj
  clear hROW
  obtain ⟨W1, hW1⟩ : ∃ W1, W1 = w.drew.alloc (.cells ROW 39) := ⟨_, rfl⟩
  have hch1 : Chg No w W1 := by rw [hW1]; exact ((Chg.refl _ _).drew).alloc _
  have hN1 : W1.heap[w.heap.size]? = some (.cells ROW 39 (0, 0)) := by rw [hW1]; exact heap_alloc_new w.drew _
  rw [← hW1] at hrz
  have hcpA : ∀ (W : World), W.heap = W1.heap → ∀ ty dc, (Builtin.copy_ #[28, 28] ty #[.slice (some ⟨w.heap.size, i * 3, none⟩) (n + 1 - i) dc, .slice (some ⟨vb, 0, none⟩) 1 1]).run Try.prog W = .ok (goInt 1) (W.setCells w.heap.size (i * 3) (enc3 c)) := fun W hW ty dc => by
    have hCW : W.heap[w.heap.size]? = some (.cells ROW 39 (0, 0)) := by rw [hW]; exact hN1
    have hvW : OneAt W vb c := by show W.heap[vb]? = _; rw [hW]; exact hch1.obj hv' id
    exact run_copy_cellsK W _ _ ty 39 3 w.heap.size (i * 3) (n + 1 - i) dc ⟨vb, 0, none⟩ 1 1 1 (enc3 c) Try.underlying28 hsz (by simp only [Nat.min_def]; split <;> omega) rfl
      hvW.news (fun j hj => by rw [blk_cell hCW, Array.getElem?_eq_getElem (by have : (enc3 c).length = 3 := rfl; omega)]; rfl) (fun j hj => blk_frozen hCW _) (enc3_one c)
  have hl3 : (enc3 c).length = 3 := rfl
  obtain ⟨C1, hC1, hs1, he1⟩ := setCells_blk (e := 39) w.heap.size (enc3 c) (i * 3) W1 ROW hN1 (by omega)
  have hch2 := setCells_chg w.heap.size (enc3 c) (i * 3) W1
  obtain ⟨W2, hW2⟩ : ∃ W2, W2 = W1.setCells w.heap.size (i * 3) (enc3 c) := ⟨_, rfl⟩
  rw [← hW2] at hC1 hch2
  have hdl : ((encL l).drop (i * 3)).length = (n - i) * 3 := by rw [List.length_drop, encL_length, hn]; omega
  have hgo : W2.heap[g]? = some (.cells C 39 (0, 0)) := hch2.obj (hch1.obj hC id) (by omega)
  have hcpB : ∀ (W : World), W.heap = W2.heap → ∀ ty dc sc, (Builtin.copy_ #[28, 28] ty #[.slice (some ⟨w.heap.size, (i + 1) * 3, none⟩) (n + 1 - (i + 1)) dc, .slice (some ⟨g, o + i * 3, none⟩) (n - i) sc]).run Try.prog W = .ok (goInt ((n - i : Nat) : Int)) (W.setCells w.heap.size ((i + 1) * 3) ((encL l).drop (i * 3))) := fun W hW ty dc sc => by
    have hCW : W.heap[w.heap.size]? = some (.cells C1 39 (0, 0)) := by rw [hW]; exact hC1
    have hgW : W.heap[g]? = some (.cells C 39 (0, 0)) := by rw [hW]; exact hgo
    exact run_copy_cellsK W _ _ ty 39 3 w.heap.size ((i + 1) * 3) (n + 1 - (i + 1)) dc ⟨g, o + i * 3, none⟩ (n - i) sc (n - i) ((encL l).drop (i * 3)) Try.underlying28 hsz (by simp only [Nat.min_def]; split <;> omega) hdl
      (fun j v hj => by rw [addr_add, blk_cell hgW]; rw [List.getElem?_drop] at hj; rw [Nat.add_assoc]; exact hCe _ _ hj)
      (fun j hj => by rw [blk_cell hCW, Array.getElem?_eq_getElem (by omega)]; rfl) (fun j hj => blk_frozen hCW _) (fun u hu => encL_one l u (List.mem_of_mem_drop hu))
  have hfin : ∀ (W : World), W.heap = W2.heap → W.os = W2.os → W.tape = W2.tape → W.output = W2.output → OTris 39 M (W.setCells w.heap.size ((i + 1) * 3) ((encL l).drop (i * 3))) (.slice (some ⟨w.heap.size, 0, none⟩) (n + 1) G) (l.take i ++ c :: l.drop i) ∧ Chg No w (W.setCells w.heap.size ((i + 1) * 3) ((encL l).drop (i * 3))) := fun W hW h1 h2 h3 => by
    have hCW : W.heap[w.heap.size]? = some (.cells C1 39 (0, 0)) := by rw [hW]; exact hC1
    obtain ⟨C2, hC2, hs2, he2⟩ := setCells_blk (e := 39) w.heap.size ((encL l).drop (i * 3)) ((i + 1) * 3) W C1 hCW (by omega)
    have hlen2 : (l.take i ++ c :: l.drop i).length = n + 1 := by simp; omega
    refine ⟨?_, ?_⟩
    · have := OTris.mkB (o := 0) (cap := G) (l := l.take i ++ c :: l.drop i) (hM _ (Nat.le_refl _)) (by omega) hGm (fun m hm => ?_) hC2 (by omega) (fun j u hj => ?_)
      · rw [hlen2] at this; exact this
      · rcases List.mem_append.1 hm with hm | hm
        · exact hok m (List.mem_of_mem_take hm)
        · rcases List.mem_cons.1 hm with rfl | hm
          · exact hc
          · exact hok m (List.mem_of_mem_drop hm)
      · rw [encL_append, encL_cons, encL_take, encL_drop] at hj
        rw [Nat.zero_add, he2, he1]
        by_cases ha : j < i * 3
        · rw [if_neg (by omega), if_neg (by omega)]
          rw [List.getElem?_append_left (by omega)] at hj
          exact hR0 _ _ hj
        · rw [List.getElem?_append_right (by omega), htl] at hj
          by_cases hb : j < i * 3 + 3
          · rw [if_neg (by omega), if_pos (by omega)]
            rw [List.getElem?_append_left (by omega)] at hj
            exact hj
          · rw [List.getElem?_append_right (by omega), hl3] at hj
            have hjl := (List.getElem?_eq_some_iff.1 hj).1
            rw [if_pos (by omega)]
            rw [show j - (i + 1) * 3 = j - i * 3 - 3 by omega]
            exact hj
    · have hx : Chg No w W2 := hch1.trans hch2 (fun k hk hlt => by omega)
      have hy : Chg No W2 W := ⟨h1, h2, h3, by rw [hW]; exact Nat.le_refl _, fun k _ _ => by rw [hW]⟩
      exact (hx.thenNo hy).trans (setCells_chg _ _ _ W) (fun k hk hlt => by omega)
  have HFIN := Lib.hid hfin
  have hnb : n ≤ 100000 := by omega
  have hin : i ≤ n := by omega
  have hz2 : ¬ ((i : Int) = (n : Int)) := by omega
  have hz3 : (cap : Int) < (n : Int) + 1 := by omega
  have hci : ¬ (cap = i) := by omega
  have hGi : ¬ (G = i) := by omega
  have hGim : ¬ (G = i + 1) := by omega
  have hw1 : IntKind.i64.wrap ((i : Int) + 1) = (i : Int) + 1 := by rw [IntKind.wrap_i64]; omega
  have hb1 : (0 : Int) ≤ (i : Int) + 1 := by omega
  have htn : ((i : Int) + 1).toNat = i + 1 := by omega
  have hb3 : (i : Int) ≤ (n : Int) := by omega
  have HW2 := Lib.hid hW2
  clear hW1 hW2
  clear hnn hn hlen hfin hC1 hs1 he1 hch1 hch2 hgo hdl hbc hCe hCs hok hMg hC hmax hc hold hik hkk hR0 hRl hz3 htl hG hGm hl3 hN1 hgw hvw hv' hv hi0 hz0 hzs hzb
  have hz3 : (cap : Int) < (n : Int) + 1 := by omega
  go_enter Try.func35, Try.ntmps35
  go_wp2_with (first
    | (at_builtin; refine Lib.wpList_append_run _ rfl _ _ _ _ rfl _ _ rfl rfl _ _ (hrz _) ?_)
    | (at_builtin; refine wpList_copy_runK _ rfl (.tmp 43) (.tmp 44) 28 28 rfl _ _ rfl rfl (hcpA _ rfl _ _) ?_))
  rw [← HW2.out]
  go_region_law ((refine step_copy_runK (by rfl) (.tmp 50) (.tmp 53) 28 28 (by rfl) (.slice (some ⟨w.heap.size, (i + 1) * 3, none⟩) (n + 1 - (i + 1)) (G - (i + 1))) (.slice (some ⟨g, o + i * 3, none⟩) (n - i) (cap - i)) (by simp [Act.eval, Act.put]) (by simp [Act.eval, Act.put]) (hcpB W2.drew rfl _ _ _) ?_))
  go_wp2_with fail
  go_ret
  exact ⟨G, rfl, HFIN.out _ rfl rfl rfl rfl⟩
end Go.Proofs.Ytbcgffnmbmbjdaa
