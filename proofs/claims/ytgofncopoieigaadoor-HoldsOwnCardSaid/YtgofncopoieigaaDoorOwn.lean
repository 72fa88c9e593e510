/-
  Slices that a call owns, wherever in their block they begin, and append to them. General: no program is named here.
-/
import Derived.Test.YtgofncopoieigaaDoorBase
namespace Go.Proofs.YtgofncopoieigaaDoor
open Go Go.RowKit

/-- A slice type's facts. -/
structure SliceTy (P : Program) (t e : TypeId) (sz bytes : Nat) (z : Value) : Prop where
  sl : P.underlying t = some (.slice e)
  info : (P.info? e).map (fun i => (i.zero, i.size, i.bytes)) = some (some z, sz, bytes)
  zs : z.cells.size = sz
  pos : 0 < sz
  bpos : 0 < bytes

/-- The value v, a slice of n elements (of type e, sz cells each), owns the cells xs, in a block of M. -/
def Own (M : Nat → Prop) (e : TypeId) (sz : Nat) (w : World) (v : Value) (n : Nat) (xs : List Value) : Prop :=
  xs.length = n * sz ∧
  ((v = .slice none 0 0 ∧ n = 0) ∨
   ∃ g o cap cur, v = .slice (some ⟨g, o, none⟩) n cap ∧ M g ∧ w.heap[g]? = some (.cells cur e (0, 0)) ∧ n ≤ cap ∧ cap ≤ maxLen ∧ o + cap * sz ≤ cur.size ∧ ∀ j u, xs[j]? = some u → cur[o + j]? = some u)

namespace Own
variable {M M' S : Nat → Prop} {e : TypeId} {sz n : Nat} {w w' : World} {v : Value} {xs : List Value}
theorem nil (M : Nat → Prop) (e : TypeId) (sz : Nat) (w : World) : Own M e sz w (.slice none 0 0) 0 [] := ⟨by simp, .inl ⟨rfl, rfl⟩⟩
theorem len (h : Own M e sz w v n xs) : xs.length = n * sz := h.1
theorem value (h : Own M e sz w v n xs) : ∃ A cap, v = .slice A n cap ∧ n ≤ cap ∧ cap ≤ maxLen ∧ (A = none → cap = 0) := by
  rcases h.2 with ⟨rfl, rfl⟩ | ⟨g, o, cap, cur, rfl, _, _, h1, h2, _⟩
  · exact ⟨none, 0, rfl, Nat.le_refl _, Nat.zero_le _, fun _ => rfl⟩
  · exact ⟨_, cap, rfl, h1, h2, (fun h => by cases h)⟩
theorem mine (h : Own M e sz w v n xs) : ∀ k, v.ownBlock = some k → M k ∧ k < w.heap.size := by
  intro k hk
  rcases h.2 with ⟨rfl, _⟩ | ⟨g, o, cap, cur, rfl, hM, hg, _⟩
  · simp [Value.ownBlock] at hk
  · simp [Value.ownBlock] at hk
    subst hk
    exact ⟨hM, (Array.getElem?_eq_some_iff.1 hg).1⟩
theorem mono (h : Own M e sz w v n xs) (hm : ∀ k, k < w.heap.size → M k → M' k) : Own M' e sz w v n xs := by
  refine ⟨h.1, ?_⟩
  rcases h.2 with h0 | ⟨g, o, cap, cur, rfl, hM, hg, r⟩
  · exact .inl h0
  · exact .inr ⟨g, o, cap, cur, rfl, hm g ((Array.getElem?_eq_some_iff.1 hg).1) hM, hg, r⟩
theorem chg (h : Own M e sz w v n xs) (c : Chg S w w') (hd : ∀ k, v.ownBlock = some k → ¬ S k) : Own M e sz w' v n xs := by
  refine ⟨h.1, ?_⟩
  rcases h.2 with h0 | ⟨g, o, cap, cur, rfl, hM, hg, r⟩
  · exact .inl h0
  · exact .inr ⟨g, o, cap, cur, rfl, hM, c.obj hg (hd g rfl), r⟩
theorem no (h : Own M e sz w v n xs) (c : Chg No w w') : Own M e sz w' v n xs := h.chg c (fun _ _ f => f)
/-- A cell of it. -/
theorem cell (h : Own M e sz w v n xs) {j : Nat} {u : Value} (hj : xs[j]? = some u) : ∃ g o cap, v = .slice (some ⟨g, o, none⟩) n cap ∧ M g ∧ w.cell? ⟨g, o + j, none⟩ = some u := by
  rcases h.2 with ⟨rfl, rfl⟩ | ⟨g, o, cap, cur, rfl, hM, hg, _, _, _, hx⟩
  · have : xs = [] := List.eq_nil_of_length_eq_zero (by simpa using h.1)
    subst this; simp at hj
  · exact ⟨g, o, cap, rfl, hM, by simp [World.cell?, hg, hx j u hj]⟩
/-- What is owned, when the list of its elements is known, is a slice. -/
theorem sl {α : Type} {E : Elem α} {l : List α} (h : Own M e sz w v l.length xs) (hl : l.length * E.bytes ≤ big)
    (hE : ∀ g o cap, v = .slice (some ⟨g, o, none⟩) l.length cap → M g → (∀ j u, xs[j]? = some u → w.cell? ⟨g, o + j, none⟩ = some u) → ∀ i (hi : i < l.length), E M w g (o + i * sz) l[i]) :
    ∃ A cap, v = .slice A l.length cap ∧ Sl E sz M w A l cap := by
  rcases h.2 with ⟨rfl, h0⟩ | ⟨g, o, cap, cur, rfl, hM, hg, h1, h2, h3, hx⟩
  · have : l = [] := List.eq_nil_of_length_eq_zero h0
    subst this
    exact ⟨none, 0, rfl, Sl.empty⟩
  · refine ⟨_, cap, rfl, ⟨h1, h2, hl, (fun h => by cases h), fun i hi => ⟨g, o, rfl, hE g o cap rfl hM (fun j u hj => ?_) i hi⟩⟩⟩
    simp [World.cell?, hg, hx j u hj]
theorem ints {l : List Int} (h : Own M e 1 w v l.length (l.map (Value.int .i64))) (hl : l.length * 8 ≤ big) (hi : ∀ x ∈ l, I64 x) : ∃ A cap, v = .slice A l.length cap ∧ Ints M w A l cap :=
  h.sl hl (fun g o cap _ hM hc i hi' => ⟨hM, hc _ _ (by simp [hi']), hi _ (List.getElem_mem hi')⟩)
end Own

theorem addr_add (g o j : Nat) : (⟨g, o, none⟩ : Addr).add j = ⟨g, o + j, none⟩ := by unfold Addr.add; split <;> simp_all
/-- The cells of a block that is known whole. -/
theorem news_of {w : World} {B : Nat} {cs : List Value} {t : TypeId} {fr : Nat × Nat} (hb : w.heap[B]? = some (.cells cs.toArray t fr)) : ∀ j u, cs[j]? = some u → w.cell? ((⟨B, 0, none⟩ : Addr).add j) = some u := by
  intro j u hu
  rw [addr_add]
  simp [World.cell?, hb, hu]
theorem news_alloc (w : World) (cs : List Value) (t : TypeId) : ∀ j u, cs[j]? = some u → (w.alloc (.cells cs.toArray t)).cell? ((⟨w.heap.size, 0, none⟩ : Addr).add j) = some u := news_of (heap_alloc_new w _)

section
variable {P : Program}
theorem run_append_Own {t e : TypeId} {sz bytes : Nat} {z : Value} (T : SliceTy P t e sz bytes z) (ty : TypeId) {M : Nat → Prop} {w : World} (hM : ∀ k, w.heap.size ≤ k → M k)
    {v : Value} {n : Nat} {xs : List Value} (hown : Own M e sz w v n xs)
    {a : Addr} {m c : Nat} {news : List Value} (hl : news.length = m * sz) (hnews : ∀ j u, news[j]? = some u → w.cell? (a.add j) = some u) (h1 : ∀ u ∈ news, u.oneCell' = true)
    (hbytes : (n + m) * bytes ≤ 140737488355328) :
    ∃ v' w', (Builtin.append_ #[t, t] ty #[v, .slice (some a) m c]).run P w = .ok v' w' ∧ Own M e sz w' v' (n + m) (xs ++ news) ∧ Chg (fun k => v.ownBlock = some k) w w' ∧ (v'.ownBlock = v.ownBlock ∨ v'.ownBlock = some w.heap.size) := by
  obtain ⟨i, hi, hz, hsz, hby⟩ := info_parts T.info
  have hzs := T.zs
  have hpos := T.pos
  subst hsz hby
  have h63 : n + m ≤ 140737488355328 := Nat.le_trans (Nat.le_mul_of_pos_right _ T.bpos) hbytes
  have hlen : (xs ++ news).length = (n + m) * i.size := by rw [List.length_append, hown.1, hl, Nat.add_mul]
  have grown : ∀ (old : Nat), old < n + m →
      Own M e i.size (w.drew.alloc (.cells (xs.toArray ++ news.toArray ++ Builtin.zeroCells z.cells (grownCap w (n + m) old e - (n + m))) e)) (.slice (some ⟨w.heap.size, 0, none⟩) (n + m) (grownCap w (n + m) old e)) (n + m) (xs ++ news) ∧
      Chg (fun k => v.ownBlock = some k) w (w.drew.alloc (.cells (xs.toArray ++ news.toArray ++ Builtin.zeroCells z.cells (grownCap w (n + m) old e - (n + m))) e)) := by
    intro old ho
    have hge := grownCap_ge w (n + m) old e
    have hcm : grownCap w (n + m) old e ≤ maxLen := grownCap_le_maxLen w (n + m) old e (by simp only [maxLen]; omega)
    refine ⟨⟨hlen, .inr ⟨w.heap.size, 0, _, _, rfl, hM _ (Nat.le_refl _), heap_alloc_new w.drew _, hge, hcm, ?_, ?_⟩⟩, ((Chg.refl _ _).drew).alloc _⟩
    · simp only [Array.size_append, List.size_toArray, size_zeroCells, hzs, hown.1, hl, ← Nat.add_mul]
      rw [Nat.zero_add]
      apply Nat.le_of_eq
      congr 1
      omega
    · intro j u hj
      have hj' : j < (xs ++ news).length := (List.getElem?_eq_some_iff.1 hj).1
      rw [Nat.zero_add, Array.getElem?_append_left (by simpa using hj')]
      simpa using hj
  rcases hown.2 with ⟨rfl, rfl⟩ | ⟨g, o, cap, cur, rfl, hbg, hg, hnc, hcm, hcs, htake⟩
  · have hx : xs = [] := List.eq_nil_of_length_eq_zero (by simpa using hown.1)
    subst hx
    by_cases hm : m = 0
    · subst hm
      have hn : news = [] := List.eq_nil_of_length_eq_zero (by simpa using hl)
      subst hn
      refine ⟨.slice none 0 0, w, ?_, Own.nil M e i.size w, Chg.refl _ _, .inl rfl⟩
      simp [Builtin.append_, run_underlying T.sl, sizeOf, typeInfo, hi, Builtin.lenOf, Builtin.firstCells, loadCells, loadCellsFrom]
    · have hr := run_append_nil (P := P) w t ty e i z T.sl hi hz a m c news hl hnews (by omega) (by omega) (by have hb := hbytes; simp only [Nat.zero_add] at hb; omega)
      have hgr := grown 0 (by omega)
      simp only [Nat.zero_add, List.nil_append, Array.empty_append] at hgr ⊢
      exact ⟨_, _, hr, hgr.1, hgr.2, .inr rfl⟩
  · have hcell : ∀ j u, xs[j]? = some u → w.cell? ((⟨g, o, none⟩ : Addr).add j) = some u := by
      intro j u hj
      have hadd : (⟨g, o, none⟩ : Addr).add j = ⟨g, o + j, none⟩ := by unfold Addr.add; split <;> simp_all
      rw [hadd]
      simp [World.cell?, hg, htake j u hj]
    by_cases hroom : n + m ≤ cap
    · have hfit : o + n * i.size + news.length ≤ cur.size := by
        have := Nat.mul_le_mul_right i.size hroom
        rw [Nat.add_mul] at this
        omega
      have hst := run_storeCells_at P g (o + n * i.size) e news 0 cur w hg (by simpa using hfit) h1
      simp only [Nat.add_zero] at hst
      have hf := run_firstCells_some (P := P) w i.size m a m c news hl hnews
      have hadd : (⟨g, o, none⟩ : Addr).add (n * i.size) = ⟨g, o + n * i.size, none⟩ := by unfold Addr.add; split <;> simp_all
      refine ⟨.slice (some ⟨g, o, none⟩) (n + m) cap, w.setRow g (cur.toList.take (o + n * i.size) ++ news ++ cur.toList.drop (o + n * i.size + news.length)).toArray, ?_, ⟨hlen, .inr ⟨g, o, cap, _, rfl, hbg, setRow_heap w g cur _ e _ hg, hroom, hcm, ?_, ?_⟩⟩, ?_, .inl rfl⟩
      · simp [Builtin.append_, run_underlying T.sl, sizeOf, typeInfo, hi, Builtin.lenOf, hroom, hf, hadd, hst]
      · simp only [List.size_toArray, List.length_append, List.length_take, List.length_drop, Array.length_toList]
        omega
      · intro j u hj
        have hj' : j < (xs ++ news).length := (List.getElem?_eq_some_iff.1 hj).1
        have htl : (cur.toList.take (o + n * i.size)).length = o + n * i.size := by simp; omega
        rw [List.getElem?_toArray, List.append_assoc]
        rcases Nat.lt_or_ge j (n * i.size) with hlt | hge
        · rw [List.getElem?_append_left (by omega), List.getElem?_take, if_pos (by omega)]
          rw [List.getElem?_append_left (by rw [hown.1]; exact hlt)] at hj
          simpa using htake j u hj
        · rw [List.getElem?_append_right (by omega), htl]
          rw [List.getElem?_append_right (by rw [hown.1]; exact hge), hown.1] at hj
          rw [show o + j - (o + n * i.size) = j - n * i.size by omega]
          have hjn : j - n * i.size < news.length := (List.getElem?_eq_some_iff.1 hj).1
          rw [List.getElem?_append_left hjn]
          exact hj
      · exact ⟨rfl, rfl, rfl, by simp, fun k _ hk => setRow_other w g k _ (fun e => hk (by simp [Value.ownBlock, e]))⟩
    · have hr := run_append_grow (P := P) w t ty e i z T.sl hi hz ⟨g, o, none⟩ n cap xs hown.1 hcell a m c news hl hnews (by omega) (by omega) (growslice_fits (by omega) hbytes)
      have hgr := grown cap (by omega)
      exact ⟨_, _, hr, hgr.1, hgr.2, .inr rfl⟩

theorem wp_append_Own {t e : TypeId} {sz bytes : Nat} {z : Value} (T : SliceTy P t e sz bytes z) {o : Oper} {act : Act} {K : Act → World → Prop} {Q : Exit → Act → World → Prop} (s x : Operand)
    (ho : o.op = .call { callee := .builtin .append, args := #[s, x], argTypes := #[t, t] })
    {M : Nat → Prop} {w : World} (hM : ∀ k, w.heap.size ≤ k → M k)
    {v : Value} {n : Nat} {xs : List Value} (hown : Own M e sz w v n xs) (hs : act.eval s = v)
    {a : Addr} {m c : Nat} {news : List Value} (hx : act.eval x = .slice (some a) m c) (hl : news.length = m * sz) (hnews : ∀ j u, news[j]? = some u → w.cell? (a.add j) = some u) (h1 : ∀ u ∈ news, u.oneCell' = true)
    (hbytes : (n + m) * bytes ≤ 140737488355328)
    (h : ∀ A cap w', Own M e sz w' (.slice A (n + m) cap) (n + m) (xs ++ news) → Chg (fun k => v.ownBlock = some k) w w' → ((Value.slice A (n + m) cap).ownBlock = v.ownBlock ∨ (Value.slice A (n + m) cap).ownBlock = some w.heap.size) → K (act.put o.dst (.slice A (n + m) cap)) w') : o.wp P act w K Q := by
  obtain ⟨v', w', hr, h2, h3, h4⟩ := run_append_Own T o.type (c := c) hM hown hl hnews h1 hbytes
  unfold Oper.wp execOp
  simp only [ho, resolve, invoke, builtin, Sem.run_bind, Sem.run_pure, Result.andThen_ok, List.map_toArray, List.map_cons, List.map_nil, hs, hx, hr]
  obtain ⟨A, cap, rfl, _⟩ := h2.value
  exact h A cap w' h2 h3 h4

theorem wpList_append_Own {t e : TypeId} {sz bytes : Nat} {z : Value} (T : SliceTy P t e sz bytes z) {ops : Array Oper} {rest : List Oper} {o : Oper} {act : Act} {Q : Exit → Act → World → Prop} (hgd : o.guard = none) (s x : Operand)
    (ho : o.op = .call { callee := .builtin .append, args := #[s, x], argTypes := #[t, t] })
    {M : Nat → Prop} {w : World} (hM : ∀ k, w.heap.size ≤ k → M k)
    {v : Value} {n : Nat} {xs : List Value} (hown : Own M e sz w v n xs) (hs : act.eval s = v)
    {a : Addr} {m c : Nat} {news : List Value} (hx : act.eval x = .slice (some a) m c) (hl : news.length = m * sz) (hnews : ∀ j u, news[j]? = some u → w.cell? (a.add j) = some u) (h1 : ∀ u ∈ news, u.oneCell' = true)
    (hbytes : (n + m) * bytes ≤ 140737488355328)
    (h : ∀ A cap w', Own M e sz w' (.slice A (n + m) cap) (n + m) (xs ++ news) → Chg (fun k => v.ownBlock = some k) w w' → ((Value.slice A (n + m) cap).ownBlock = v.ownBlock ∨ (Value.slice A (n + m) cap).ownBlock = some w.heap.size) → wpList P ops Q rest (act.put o.dst (.slice A (n + m) cap)) w') : wpList P ops Q (o :: rest) act w :=
  wpList_plain hgd fun _ hK => wp_append_Own T s x ho hM hown hs hx hl hnews h1 hbytes fun A cap w' h2 h3 h4 => hK _ _ (h A cap w' h2 h3 h4)

/-- The same at a step of a region that draws its order. -/
theorem step_append_Own {t e : TypeId} {sz bytes : Nat} {z : Value} (T : SliceTy P t e sz bytes z) {ops : Array Oper} {o : Oper} {act : Act} {K : Act → World → Prop} {Q : Exit → Act → World → Prop} {F : Prop} (hgd : o.guard = none) (s x : Operand)
    (ho : o.op = .call { callee := .builtin .append, args := #[s, x], argTypes := #[t, t] })
    {M : Nat → Prop} {w : World} (hM : ∀ k, w.heap.size ≤ k → M k)
    {v : Value} {n : Nat} {xs : List Value} (hown : Own M e sz w v n xs) (hs : act.eval s = v)
    {a : Addr} {m c : Nat} {news : List Value} (hx : act.eval x = .slice (some a) m c) (hl : news.length = m * sz) (hnews : ∀ j u, news[j]? = some u → w.cell? (a.add j) = some u) (h1 : ∀ u ∈ news, u.oneCell' = true)
    (hbytes : (n + m) * bytes ≤ 140737488355328)
    (h : ∀ A cap w', Own M e sz w' (.slice A (n + m) cap) (n + m) (xs ++ news) → Chg (fun k => v.ownBlock = some k) w w' → ((Value.slice A (n + m) cap).ownBlock = v.ownBlock ∨ (Value.slice A (n + m) cap).ownBlock = some w.heap.size) → K (act.put o.dst (.slice A (n + m) cap)) w') :
    if Region.wanted o (yielded ops act.tmps) = true then Oper.wp P o act w K Q else F := by
  have hw : Region.wanted o (yielded ops act.tmps) = true := by simp [Region.wanted, hgd]
  rw [if_pos hw]
  exact wp_append_Own T s x ho hM hown hs hx hl hnews h1 hbytes h

/-- make([]T, n) of elements of one cell. -/
theorem wpList_make1 {t e : TypeId} {bytes : Nat} {z : Value} (T : SliceTy P t e 1 bytes z) (hz1 : z.cells = #[z]) {ops : Array Oper} {rest : List Oper} {o : Oper} {act : Act} {Q : Exit → Act → World → Prop} (hgd : o.guard = none) (l c : Operand)
    (ho : o.op = .makeSlice t l c) {w : World} (n : Nat) (hl : act.eval l = .int .i64 (n : Int)) (hc : act.eval c = .int .i64 (n : Int)) (hbytes : n * bytes ≤ 140737488355328)
    (h : ∀ w', w'.heap[w.heap.size]? = some (.cells (List.replicate n z).toArray e (0, 0)) → Chg No w w' → w'.heap.size = w.heap.size + 1 → wpList P ops Q rest (act.put o.dst (.slice (some ⟨w.heap.size, 0, none⟩) n n)) w') : wpList P ops Q (o :: rest) act w := by
  refine wpList_plain hgd fun K hK => ?_
  obtain ⟨i, hi, hz, hsz, hby⟩ := info_parts T.info
  have hn : n ≤ 140737488355328 := Nat.le_trans (Nat.le_mul_of_pos_right _ T.bpos) hbytes
  have hb : (i.bytes : Int) * (n : Int) ≤ 281474976710656 := by
    rw [hby, ← Int.natCast_mul, Nat.mul_comm]; omega
  have hrun := run_make (P := P) w t e i z T.sl hi hz .i64 .i64 (n : Int) (n : Int) (by omega) (by omega) hb (by omega)
  have hcells : madeCells z.cells ((n : Int).toNat * i.size) = (List.replicate n z).toArray := by
    rw [hz1, hsz, Int.toNat_natCast, Nat.mul_one]
    apply Array.ext
    · simp [madeCells]
    · intro j h1 h2
      simp [madeCells, Nat.mod_one]
  rw [hcells] at hrun
  simp only [Int.toNat_natCast] at hrun
  unfold Oper.wp
  simp only [execOp, ho, hl, hc, Sem.run_bind, Sem.run_pure, hrun, Result.andThen_ok]
  exact hK _ _ (h _ (heap_alloc_new w _) ((Chg.refl _ _).alloc _) (by simp))
end

theorem at_new {w : World} {o : Obj} {k : Nat} (h : k = w.heap.size) : (w.alloc o).heap[k]? = some o := by subst h; exact heap_alloc_new w o
theorem at_old {w : World} {o x : Obj} {k : Nat} (h : w.heap[k]? = some x) : (w.alloc o).heap[k]? = some x := by
  rw [Below.heap_alloc _ _ _ (Array.getElem?_eq_some_iff.1 h).1]; exact h

/-- A block that is known whole holds ints. -/
theorem ints_of_block {R : Nat → Prop} {w : World} {b : Nat} {l : List Int} {e : TypeId} {fr : Nat × Nat} (h : w.heap[b]? = some (.cells (l.map (Value.int .i64)).toArray e fr)) (hR : R b) (hl : l.length * 8 ≤ big) (hi : ∀ x ∈ l, I64 x) :
    Ints R w (some ⟨b, 0, none⟩) l l.length :=
  ⟨Nat.le_refl _, by unfold big at hl; unfold maxLen; omega, hl, (fun h => by cases h), fun i hi' => ⟨b, 0, rfl, hR, by simp [World.cell?, h, hi'], hi _ (List.getElem_mem hi')⟩⟩
theorem bools_of_block {R : Nat → Prop} {w : World} {b : Nat} {l : List Bool} {e : TypeId} {fr : Nat × Nat} (h : w.heap[b]? = some (.cells (l.map Value.bool).toArray e fr)) (hR : R b) (hl : l.length ≤ big) :
    Bools R w (some ⟨b, 0, none⟩) l l.length :=
  ⟨Nat.le_refl _, Nat.le_trans hl (by unfold big maxLen; omega), by simpa [BoolE] using hl, (fun h => by cases h), fun i hi' => ⟨b, 0, rfl, hR, by simp [World.cell?, h, hi']⟩⟩
/-- A block of slices. -/
theorem rows_of_block {R : Nat → Prop} {w : World} {b : Nat} {V : List Value} {l : List (List Int)} {e : TypeId} {fr : Nat × Nat} (h : w.heap[b]? = some (.cells V.toArray e fr)) (hR : R b) (hl : l.length * 24 ≤ big) (hlen : V.length = l.length)
    (hV : ∀ i (h : i < l.length) (h' : i < V.length), ∃ A cap, V[i] = .slice A l[i].length cap ∧ Ints R w A l[i] cap) : Rows2 R w (some ⟨b, 0, none⟩) l l.length := by
  refine ⟨Nat.le_refl _, by unfold big at hl; unfold maxLen; omega, hl, (fun h => by cases h), fun i hi => ⟨b, 0, rfl, hR, ?_⟩⟩
  obtain ⟨A, cap, hv, hs⟩ := hV i hi (by omega)
  exact ⟨A, cap, by rw [← hv]; simp [World.cell?, h, show i < V.length by omega], hs⟩

end Go.Proofs.YtgofncopoieigaaDoor
