/-
  A slice of slices of ints that a call builds by append. General.
-/
import Derived.Test.YtlejcnbpodmleaaOwn
namespace Go.Proofs.Ytlejcnbpodmleaa
open Go Go.RowKit

/-- The slice v, whose elements are slices of ints, holds ll; all of it lies in blocks from B on; e: the number of the type of a row. -/
def OwnRows (e : TypeId) (B : Nat) (w : World) (v : Value) (ll : List (List Int)) (V : List Value) : Prop :=
  Own (fun k => B ≤ k) e 1 w v ll.length V ∧ V.length = ll.length ∧ ∀ i (h : i < ll.length) (h' : i < V.length), ∃ A cap, V[i] = .slice A ll[i].length cap ∧ Ints (fun k => B ≤ k ∧ v.ownBlock ≠ some k) w A ll[i] cap

theorem OwnRows.nil (e : TypeId) (B : Nat) (w : World) : OwnRows e B w (.slice none 0 0) [] [] := ⟨Own.nil _ _ _ _, rfl, fun i h => absurd h (Nat.not_lt_zero i)⟩
theorem OwnRows.own {e : TypeId} {B : Nat} {w : World} {v : Value} {ll : List (List Int)} {V : List Value} (h : OwnRows e B w v ll V) : Own (fun k => B ≤ k) e 1 w v ll.length V := h.1
theorem OwnRows.no {e : TypeId} {B : Nat} {w w' : World} {v : Value} {ll : List (List Int)} {V : List Value} (h : OwnRows e B w v ll V) (c : Chg No w w') : OwnRows e B w' v ll V :=
  ⟨h.1.no c, h.2.1, fun i hi hi' => let ⟨A, cap, hv, hs⟩ := h.2.2 i hi hi'; ⟨A, cap, hv, hs.no intE_good c⟩⟩

theorem OwnRows.push' {e : TypeId} {B : Nat} {W w1 : World} {v v' : Value} {ll : List (List Int)} {V : List Value} (h : OwnRows e B W v ll V) {A : Option Addr} {r : List Int} {cap : Nat} (hr : Ints (fun k => B ≤ k ∧ v.ownBlock ≠ some k) W A r cap)
    (ho : Own (fun k => B ≤ k) e 1 w1 v' (ll.length + 1) (V ++ [.slice A r.length cap])) (hc : Chg (fun k => v.ownBlock = some k) W w1) (hb : v'.ownBlock = v.ownBlock ∨ ∀ k, v'.ownBlock = some k → W.heap.size ≤ k) :
    OwnRows e B w1 v' (ll ++ [r]) (V ++ [.slice A r.length cap]) := by
  obtain ⟨hown, hlen, hrows⟩ := h
  have keep : ∀ {A : Option Addr} {r : List Int} {cap : Nat}, Ints (fun k => B ≤ k ∧ v.ownBlock ≠ some k) W A r cap → Ints (fun k => B ≤ k ∧ v'.ownBlock ≠ some k) w1 A r cap := by
    intro A r cap hs
    have h1 := (hs.mono intE_good (R' := fun k => (B ≤ k ∧ v.ownBlock ≠ some k) ∧ v'.ownBlock ≠ some k) (fun k hk hR => ⟨hR, by
      rcases hb with hb | hb
      · rw [hb]; exact hR.2
      · intro e; have := hb k e; omega⟩))
    have h2 := h1.chg intE_good hc (fun k hk hs => hk.1.2 hs)
    exact h2.mono intE_good (fun k _ hk => ⟨hk.1.1, hk.2⟩)
  refine ⟨by simpa using ho, by simp [hlen], fun i hi hi' => ?_⟩
  by_cases hlt : i < ll.length
  · obtain ⟨A', cap', hv, hs⟩ := hrows i hlt (by omega)
    refine ⟨A', cap', ?_, ?_⟩
    · rw [List.getElem_append_left (by omega), List.getElem_append_left hlt]; exact hv
    · rw [List.getElem_append_left hlt]; exact keep hs
  · have : i = ll.length := by simp at hi; omega
    subst this
    refine ⟨A, cap, ?_, ?_⟩
    · rw [List.getElem_append_right (by omega), List.getElem_append_right (by omega)]
      simp [hlen]
    · rw [List.getElem_append_right (by omega)]
      simpa using keep hr

theorem OwnRows.push {e : TypeId} {B : Nat} {W w1 : World} {v v' : Value} {ll : List (List Int)} {V : List Value} (h : OwnRows e B W v ll V) {A : Option Addr} {r : List Int} {cap : Nat} (hr : Ints (fun k => B ≤ k ∧ v.ownBlock ≠ some k) W A r cap)
    (ho : Own (fun k => B ≤ k) e 1 w1 v' (ll.length + 1) (V ++ [.slice A r.length cap])) (hc : Chg (fun k => v.ownBlock = some k) W w1) (hb : v'.ownBlock = v.ownBlock ∨ v'.ownBlock = some W.heap.size) :
    OwnRows e B w1 v' (ll ++ [r]) (V ++ [.slice A r.length cap]) :=
  h.push' hr ho hc (hb.imp id (fun hb k hk => by rw [hb] at hk; injection hk with hk; omega))

theorem OwnRows.rows {e : TypeId} {B : Nat} {w : World} {v : Value} {ll : List (List Int)} {V : List Value} (h : OwnRows e B w v ll V) (hl : ll.length * 24 ≤ big) : ∃ A cap, v = .slice A ll.length cap ∧ Rows2 (fun k => B ≤ k) w A ll cap := by
  obtain ⟨hown, hlen, hrows⟩ := h
  refine hown.sl (E := RowE) hl (fun g o cap hv hM hc i hi => ?_)
  obtain ⟨A, c, hvi, hs⟩ := hrows i hi (by omega)
  refine ⟨hM, A, c, ?_, hs.mono intE_good (fun k _ hk => hk.1)⟩
  rw [← hvi]
  simpa using hc i V[i] (by rw [List.getElem?_eq_getElem (by omega)])
/-- The slice v, of ints, owns the list l. -/
def OInts (e : TypeId) (M : Nat → Prop) (w : World) (v : Value) (l : List Int) : Prop := Own M e 1 w v l.length (l.map (Value.int .i64)) ∧ ∀ x ∈ l, I64 x
theorem OInts.nil (e : TypeId) (M : Nat → Prop) (w : World) : OInts e M w (.slice none 0 0) [] := ⟨Own.nil _ _ _ _, by simp⟩
theorem OInts.no {e : TypeId} {M : Nat → Prop} {w w' : World} {v : Value} {l : List Int} (h : OInts e M w v l) (c : Chg No w w') : OInts e M w' v l := ⟨h.1.no c, h.2⟩
theorem OInts.mine {e : TypeId} {M : Nat → Prop} {w : World} {v : Value} {l : List Int} (h : OInts e M w v l) : ∀ k, v.ownBlock = some k → M k ∧ k < w.heap.size := h.1.mine
theorem OInts.ints {e : TypeId} {M : Nat → Prop} {w : World} {v : Value} {l : List Int} (h : OInts e M w v l) (hl : l.length * 8 ≤ big) : ∃ A cap, v = .slice A l.length cap ∧ Ints M w A l cap := h.1.ints hl h.2

theorem OInts.ints_of {e : TypeId} {M : Nat → Prop} {w : World} {A : Option Addr} {n cap : Nat} {l : List Int} (h : OInts e M w (.slice A n cap) l) (hl : l.length * 8 ≤ big) : Ints M w A l cap := by
  obtain ⟨A', c', e1, h1⟩ := h.ints hl
  injection e1 with e1 e2 e3
  subst e1; subst e3
  exact h1

section
variable {P : Program} {t e : TypeId} {bytes : Nat} {z : Value} {ops : Array Oper} {rest : List Oper} {o : Oper} {act : Act} {Q : Exit → Act → World → Prop}
/-- append(s, x), where the one element has just been laid. -/
theorem wpList_push1 (T : SliceTy P t e 1 bytes z) (hgd : o.guard = none) (s xo : Operand)
    (ho : o.op = .call { callee := .builtin .append, args := #[s, xo], argTypes := #[t, t] })
    {M : Nat → Prop} {w : World} (hM : ∀ k, w.heap.size ≤ k → M k) {v : Value} {n : Nat} {xs : List Value} (hown : Own M e 1 w v n xs) (hs : act.eval s = v)
    {x : Value} {e' : TypeId} (hx : act.eval xo = .slice (some ⟨w.heap.size, 0, none⟩) 1 1) (h1 : x.oneCell' = true) (hbytes : (n + 1) * bytes ≤ 140737488355328)
    (h : ∀ A cap w', Own M e 1 w' (.slice A (n + 1) cap) (n + 1) (xs ++ [x]) → Chg (fun k => v.ownBlock = some k) w w' → ((Value.slice A (n + 1) cap).ownBlock = v.ownBlock ∨ (Value.slice A (n + 1) cap).ownBlock = some (w.heap.size + 1)) → wpList P ops Q rest (act.put o.dst (.slice A (n + 1) cap)) w') :
    wpList P ops Q (o :: rest) act (w.alloc (.cells #[x] e')) := by
  have hc : Chg No w (w.alloc (.cells #[x] e')) := (Chg.refl _ _).alloc _
  refine wpList_append_Own T hgd s xo ho (fun k hk => hM k (Nat.le_trans hc.size hk)) (hown.no hc) hs hx (news := [x]) (by simp) (news_alloc w [x] e') (by simpa using h1) hbytes (fun A cap w' g1 g2 g3 => h A cap w' g1 ?_ ?_)
  · exact hc.no.trans g2 (fun k hk _ => hk)
  · simpa using g3

theorem wpList_push_int (T : SliceTy P t e 1 8 z) (hgd : o.guard = none) (s xo : Operand)
    (ho : o.op = .call { callee := .builtin .append, args := #[s, xo], argTypes := #[t, t] })
    {M : Nat → Prop} {w : World} (hM : ∀ k, w.heap.size ≤ k → M k) {v : Value} {l : List Int} (hown : OInts e M w v l) (hs : act.eval s = v)
    {x : Int} {e' : TypeId} (hx : act.eval xo = .slice (some ⟨w.heap.size, 0, none⟩) 1 1) (hok : I64 x) (hbytes : (l.length + 1) * 8 ≤ 140737488355328)
    (h : ∀ A cap w', OInts e M w' (.slice A (l.length + 1) cap) (l ++ [x]) → Chg (fun k => v.ownBlock = some k) w w' → wpList P ops Q rest (act.put o.dst (.slice A (l.length + 1) cap)) w') :
    wpList P ops Q (o :: rest) act (w.alloc (.cells #[.int .i64 x] e')) :=
  wpList_push1 T hgd s xo ho hM hown.1 hs hx rfl hbytes (fun A cap w' g1 g2 _ => h A cap w' ⟨by simpa using g1, fun y hy => by
    rcases List.mem_append.1 hy with hy | hy
    · exact hown.2 y hy
    · simp at hy; subst hy; exact hok⟩ g2)

/-- append(s, row). -/
theorem wpList_push_row (T : SliceTy P t e 1 24 z) (hgd : o.guard = none) (s xo : Operand)
    (ho : o.op = .call { callee := .builtin .append, args := #[s, xo], argTypes := #[t, t] })
    {B : Nat} {w : World} (hM : B ≤ w.heap.size) {v : Value} {ll : List (List Int)} {V : List Value} (hown : OwnRows e B w v ll V) (hs : act.eval s = v)
    {A : Option Addr} {r : List Int} {rn rc : Nat} {e' : TypeId} (hrn : rn = r.length) (hr : Ints (fun k => B ≤ k ∧ v.ownBlock ≠ some k) w A r rc) (hx : act.eval xo = .slice (some ⟨w.heap.size, 0, none⟩) 1 1) (hbytes : (ll.length + 1) * 24 ≤ 140737488355328)
    (h : ∀ A' cap w', OwnRows e B w' (.slice A' (ll.length + 1) cap) (ll ++ [r]) (V ++ [.slice A rn rc]) → Chg (fun k => v.ownBlock = some k) w w' → wpList P ops Q rest (act.put o.dst (.slice A' (ll.length + 1) cap)) w') :
    wpList P ops Q (o :: rest) act (w.alloc (.cells #[.slice A rn rc] e')) := by
  subst hrn
  have hc : Chg No w (w.alloc (.cells #[.slice A r.length rc] e')) := (Chg.refl _ _).alloc _
  refine wpList_push1 T hgd s xo ho (fun k hk => Nat.le_trans hM hk) hown.own hs hx rfl hbytes (fun A' cap w' g1 g2 g3 => h A' cap w' ?_ g2)
  have hg : Chg (fun k => v.ownBlock = some k) (w.alloc (.cells #[.slice A r.length rc] e')) w' ∨ True := .inr trivial
  refine OwnRows.push' hown hr g1 g2 ?_
  rcases g3 with g3 | g3
  · exact .inl g3
  · exact .inr (fun k hk => by rw [g3] at hk; injection hk with hk; omega)
end
section
variable {P : Program} {t e : TypeId} {bytes : Nat} {z : Value} {ops : Array Oper} {rest : List Oper} {o : Oper} {act : Act} {Q : Exit → Act → World → Prop}
theorem run_append_Own_none {t e : TypeId} {sz bytes : Nat} {z : Value} (T : SliceTy P t e sz bytes z) (ty : TypeId) {M : Nat → Prop} {w : World} {v : Value} {n : Nat} {xs : List Value} (hown : Own M e sz w v n xs) (c : Nat) :
    (Builtin.append_ #[t, t] ty #[v, .slice none 0 c]).run P w = .ok v w := by
  obtain ⟨i, hi, hz, hsz, hby⟩ := info_parts T.info
  rcases hown.2 with ⟨rfl, rfl⟩ | ⟨g, o, cap, cur, rfl, hbg, hg, hnc, hcm, hcs, htake⟩
  · simp [Builtin.append_, run_underlying T.sl, sizeOf, typeInfo, hi, Builtin.lenOf, Builtin.firstCells]
  · simp [Builtin.append_, run_underlying T.sl, sizeOf, typeInfo, hi, Builtin.lenOf, Builtin.firstCells, hnc, storeCells]
/-- append([]T{}, src...): a copy. -/
theorem wpList_copy_ints (T : SliceTy P t e 1 8 z) (hgd : o.guard = none) (s xo : Operand)
    (ho : o.op = .call { callee := .builtin .append, args := #[s, xo], argTypes := #[t, t] })
    {w : World} (hs : act.eval s = .slice (some ⟨w.heap.size, 0, none⟩) 0 0) {R : Nat → Prop} {A : Option Addr} {r : List Int} {rn cap : Nat} (hrn : rn = r.length) (hr : Ints R w A r cap) (hx : act.eval xo = .slice A rn cap)
    (h : ∀ A' cap' w', Ints (fun k => w.heap.size ≤ k) w' A' r cap' → Chg No w w' → wpList P ops Q rest (act.put o.dst (.slice A' rn cap')) w') :
    wpList P ops Q (o :: rest) act (w.alloc (.cells #[] e)) := by
  subst hrn
  have hc : Chg No w (w.alloc (.cells #[] e)) := (Chg.refl _ _).alloc _
  have hown : Own (fun k => w.heap.size ≤ k) e 1 (w.alloc (.cells #[] e)) (.slice (some ⟨w.heap.size, 0, none⟩) 0 0) 0 [] :=
    ⟨by simp, .inr ⟨w.heap.size, 0, 0, #[], rfl, Nat.le_refl _, at_new rfl, Nat.le_refl _, Nat.zero_le _, by simp, by simp⟩⟩
  have hI : ∀ x ∈ r, I64 x := fun x hx => by
    obtain ⟨i, hi, rfl⟩ := List.getElem_of_mem hx
    exact hr.int_ok i hi
  have hr2 := hr.no intE_good hc
  have hroom := hr.room
  unfold big at hroom
  simp only [IntE] at hroom
  cases A with
  | none =>
    have h0 : r = [] := List.eq_nil_of_length_eq_zero (by have := hr.le; have := hr.nil rfl; omega)
    subst h0
    refine wpList_plain hgd fun _ hK => ?_
    have hrun := run_append_Own_none (P := P) T o.type hown cap
    unfold Oper.wp execOp
    simp only [ho, resolve, invoke, builtin, Sem.run_bind, Sem.run_pure, Result.andThen_ok, List.map_toArray, List.map_cons, List.map_nil, hs, hx, List.length_nil, hrun]
    exact hK _ _ (h (some ⟨w.heap.size, 0, none⟩) 0 _ (OInts.ints_of (l := []) ⟨hown, by simp⟩ (by simp)) hc)
  | some a =>
    refine wpList_append_Own T hgd s xo ho (fun k hk => Nat.le_trans hc.size hk) hown hs (a := a) (m := r.length) (c := cap) (news := r.map (Value.int .i64)) hx (by simp) (fun j u hj => ?_) (by simp [Value.oneCell']) (by omega) (fun A cap w' g1 g2 _ => ?_)
    · simp only [List.getElem?_map, Option.map_eq_some_iff] at hj
      obtain ⟨y, hj, rfl⟩ := hj
      obtain ⟨hlt, rfl⟩ := List.getElem?_eq_some_iff.1 hj
      obtain ⟨b, o, e1, e2⟩ := hr2.int_at j hlt
      injection e1 with e1
      rw [e1, addr_add]
      exact e2
    · simp only [Nat.zero_add, List.nil_append] at g1 ⊢
      exact h A cap w' (OInts.ints_of ⟨g1, hI⟩ hr.room) (hc.trans g2 (fun k hk hlt => by simp [Value.ownBlock] at hk; omega))
end
end Go.Proofs.Ytlejcnbpodmleaa
