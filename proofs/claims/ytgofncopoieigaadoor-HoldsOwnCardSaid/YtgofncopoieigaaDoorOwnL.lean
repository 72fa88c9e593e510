/-
  A slice of anything (elements of so many cells) that a call owns and grows. General: no program is named here.
-/
import Derived.Test.YtgofncopoieigaaDoorOwn
import Derived.Test.YtgofncopoieigaaDoorOpenS
namespace Go.Proofs.YtgofncopoieigaaDoor
open Go Go.RowKit

theorem flatten_length {β : Type} {k : Nat} : ∀ {C : List (List β)}, (∀ c ∈ C, c.length = k) → C.flatten.length = C.length * k
  | [], _ => by simp
  | c :: C, h => by
    rw [List.flatten_cons, List.length_append, h c List.mem_cons_self, flatten_length (fun x hx => h x (List.mem_cons_of_mem _ hx)), List.length_cons, Nat.add_mul, Nat.one_mul]
    omega
theorem flatten_get {β : Type} {k : Nat} : ∀ {C : List (List β)}, (∀ c ∈ C, c.length = k) → ∀ (i : Nat) (hi : i < C.length) (j : Nat), j < k → C.flatten[i * k + j]? = C[i][j]?
  | [], _, i, hi, _, _ => absurd hi (Nat.not_lt_zero i)
  | c :: C, h, 0, _, j, hj => by
    rw [List.flatten_cons, Nat.zero_mul, Nat.zero_add, List.getElem?_append_left (by rw [h c List.mem_cons_self]; exact hj)]
    rfl
  | c :: C, h, i + 1, hi, j, hj => by
    have hc := h c List.mem_cons_self
    rw [List.flatten_cons, List.getElem?_append_right (by rw [hc, Nat.add_mul, Nat.one_mul]; omega), hc, show (i + 1) * k + j - k = i * k + j by rw [Nat.add_mul, Nat.one_mul]; omega]
    exact flatten_get (fun x hx => h x (List.mem_cons_of_mem _ hx)) i (by simpa using hi) j hj

/-- The slice value v owns the list l, in a block of M; what its elements lead to lies in R, in other blocks. -/
def OwnL {α : Type} (V : ElV α) (e : TypeId) (M R : Nat → Prop) (w : World) (v : Value) (l : List α) : Prop :=
  ∃ C : List (List Value), Own M e V.sz w v l.length C.flatten ∧ C.length = l.length ∧ ∀ i (h : i < l.length) (h' : i < C.length), V (fun k => R k ∧ v.ownBlock ≠ some k) w C[i] l[i]

namespace OwnL
variable {α : Type} {V : ElV α} {e : TypeId} {M M' R R' S : Nat → Prop} {w w' : World} {v : Value} {l : List α}
theorem nil (V : ElV α) (e : TypeId) (M R : Nat → Prop) (w : World) : OwnL V e M R w (.slice none 0 0) [] := ⟨[], Own.nil _ _ _ _, rfl, fun i h => absurd h (Nat.not_lt_zero i)⟩
theorem value (h : OwnL V e M R w v l) : ∃ A cap, v = .slice A l.length cap ∧ l.length ≤ cap ∧ cap ≤ maxLen ∧ (A = none → cap = 0) := by
  obtain ⟨C, ho, _⟩ := h
  exact ho.value
theorem mine (h : OwnL V e M R w v l) : ∀ k, v.ownBlock = some k → M k ∧ k < w.heap.size := by
  obtain ⟨C, ho, _⟩ := h
  exact ho.mine
theorem chg (g : V.Good) (h : OwnL V e M R w v l) (c : Chg S w w') (hd : ∀ k, v.ownBlock = some k → ¬ S k) (hR : ∀ k, R k → v.ownBlock ≠ some k → ¬ S k) : OwnL V e M R w' v l := by
  obtain ⟨C, ho, hl, hv⟩ := h
  exact ⟨C, ho.chg c hd, hl, fun i h1 h2 => g.chg (hv i h1 h2) c (fun k hk => hR k hk.1 hk.2)⟩
theorem no (g : V.Good) (h : OwnL V e M R w v l) (c : Chg No w w') : OwnL V e M R w' v l := h.chg g c (fun _ _ f => f) (fun _ _ _ f => f)
theorem mono (g : V.Good) (h : OwnL V e M R w v l) (hm : ∀ k, k < w.heap.size → M k → M' k) (hr : ∀ k, k < w.heap.size → R k → R' k) : OwnL V e M' R' w v l := by
  obtain ⟨C, ho, hl, hv⟩ := h
  exact ⟨C, ho.mono hm, hl, fun i h1 h2 => g.mono (hv i h1 h2) (fun k hk h => ⟨hr k hk h.1, h.2⟩)⟩
/-- It is a slice. -/
theorem sl (g : V.Good) (h : OwnL V e M R w v l) (hb : l.length * V.bytes ≤ big) : ∃ A cap, v = .slice A l.length cap ∧ Sl V.mem V.sz (fun k => M k ∨ R k) w A l cap := by
  obtain ⟨C, ho, hl, hv⟩ := h
  have hlen : ∀ c ∈ C, c.length = V.sz := fun c hc => by
    obtain ⟨i, hi, rfl⟩ := List.getElem_of_mem hc
    exact g.len (hv i (by omega) hi)
  obtain ⟨A, cap, hv1, hs⟩ := (ho.mono (M' := fun k => M k ∨ R k) (fun k _ h => .inl h)).sl (E := V.mem) (l := l) hb (fun gb o cap _ hM hc i hi => by
    refine ⟨hM, C[i]'(by omega), hlen _ (List.getElem_mem _), fun j u hj => ?_, g.mono (hv i hi (by omega)) (fun k _ hk => .inr hk.1)⟩
    have hjl : j < V.sz := by rw [← hlen _ (List.getElem_mem (show i < C.length by omega))]; exact (List.getElem?_eq_some_iff.1 hj).1
    have := hc (i * V.sz + j) u (by rw [flatten_get hlen i (by omega) j hjl]; exact hj)
    rw [← Nat.add_assoc] at this
    exact this)
  exact ⟨A, cap, hv1, hs⟩
theorem sl_of (g : V.Good) {A : Option Addr} {n cap : Nat} (h : OwnL V e M R w (.slice A n cap) l) (hb : l.length * V.bytes ≤ big) : n = l.length ∧ Sl V.mem V.sz (fun k => M k ∨ R k) w A l cap := by
  obtain ⟨A', c', e1, h1⟩ := h.sl g hb
  injection e1 with e1 e2 e3
  subst e1; subst e2; subst e3
  exact ⟨rfl, h1⟩
/-- A cell of an element. -/
theorem at_ (g : V.Good) (h : OwnL V e M R w v l) (i : Nat) (hi : i < l.length) : ∃ b o cap cs, v = .slice (some ⟨b, o, none⟩) l.length cap ∧ M b ∧ cs.length = V.sz ∧ V (fun k => R k ∧ v.ownBlock ≠ some k) w cs l[i] ∧ ∀ j u, cs[j]? = some u → w.cell? ⟨b, o + i * V.sz + j, none⟩ = some u := by
  obtain ⟨C, ho, hl, hv⟩ := h
  have hlen : ∀ c ∈ C, c.length = V.sz := fun c hc => by
    obtain ⟨i, hi, rfl⟩ := List.getElem_of_mem hc
    exact g.len (hv i (by omega) hi)
  have hiC : i < C.length := by omega
  have h0 : ∃ u, C[i][0]? = some u := ⟨C[i][0]'(by rw [hlen _ (List.getElem_mem hiC)]; exact V.pos), List.getElem?_eq_getElem _⟩
  obtain ⟨u0, hu0⟩ := h0
  obtain ⟨b, o, cap, hv1, hM, _⟩ := ho.cell (j := i * V.sz + 0) (u := u0) (by rw [flatten_get hlen i hiC 0 V.pos]; exact hu0)
  refine ⟨b, o, cap, C[i], hv1, hM, hlen _ (List.getElem_mem hiC), hv i hi hiC, fun j u hj => ?_⟩
  have hjl : j < V.sz := by rw [← hlen _ (List.getElem_mem hiC)]; exact (List.getElem?_eq_some_iff.1 hj).1
  obtain ⟨b', o', cap', hv2, _, hc⟩ := ho.cell (j := i * V.sz + j) (u := u) (by rw [flatten_get hlen i hiC j hjl]; exact hj)
  rw [hv1] at hv2
  injection hv2 with e1 _ _
  injection e1 with e1
  injection e1 with e1 e2
  subst e1; subst e2
  rw [← Nat.add_assoc] at hc
  exact hc
end OwnL

theorem OwnL.push {α : Type} {V : ElV α} (g : V.Good) {e : TypeId} {M R : Nat → Prop} {W w1 : World} {v v' : Value} {l : List α} {x : α} {cs : List Value} {C : List (List Value)}
    (hl : C.length = l.length) (hv : ∀ i (h : i < l.length) (h' : i < C.length), V (fun k => R k ∧ v.ownBlock ≠ some k) W C[i] l[i]) (hx : V (fun k => R k ∧ v.ownBlock ≠ some k) W cs x)
    (ho : Own M e V.sz w1 v' (l.length + 1) (C.flatten ++ cs)) (hc : Chg (fun k => v.ownBlock = some k) W w1) (hb : v'.ownBlock = v.ownBlock ∨ ∀ k, v'.ownBlock = some k → W.heap.size ≤ k) : OwnL V e M R w1 v' (l ++ [x]) := by
  have keep : ∀ {cs : List Value} {x : α}, V (fun k => R k ∧ v.ownBlock ≠ some k) W cs x → V (fun k => R k ∧ v'.ownBlock ≠ some k) w1 cs x := by
    intro cs x hs
    have h1 := g.mono hs (R' := fun k => (R k ∧ v.ownBlock ≠ some k) ∧ v'.ownBlock ≠ some k) (fun k hk hR => ⟨hR, by
      rcases hb with hb | hb
      · rw [hb]; exact hR.2
      · intro e; have := hb k e; omega⟩)
    have h2 := g.chg h1 hc (fun k hk hs => hk.1.2 hs)
    exact g.mono h2 (fun k _ hk => ⟨hk.1.1, hk.2⟩)
  refine ⟨C ++ [cs], by simpa using ho, by simp [hl], fun i hi hi' => ?_⟩
  by_cases hlt : i < l.length
  · rw [List.getElem_append_left (by omega), List.getElem_append_left hlt]; exact keep (hv i hlt (by omega))
  · have : i = l.length := by simp at hi; omega
    subst this
    rw [List.getElem_append_right (by omega), List.getElem_append_right (by omega)]
    simpa [hl] using keep hx

section
variable {P : Program} {α : Type} {V : ElV α} {t e : TypeId} {z : Value} {ops : Array Oper} {rest : List Oper} {o : Oper} {act : Act} {Q : Exit → Act → World → Prop} {K : Act → World → Prop} {F : Prop}
/-- What append(s, x) leaves, where the one element has just been laid. -/
theorem pushL_post (g : V.Good) {M R : Nat → Prop} {w : World} {v : Value} {l : List α} (hown : OwnL V e M R w v l) {x : α} {cs : List Value} (hx : V (fun k => R k ∧ v.ownBlock ≠ some k) w cs x)
    {w1 : World} {Kp : Option Addr → Nat → World → Prop}
    (h : ∀ A cap w', OwnL V e M R w' (.slice A (l.length + 1) cap) (l ++ [x]) → Chg (fun k => v.ownBlock = some k) w w' → Kp A cap w') (hw1 : Chg No w w1) :
    ∃ C : List (List Value), Own M e V.sz w1 v l.length C.flatten ∧ ∀ A cap w', Own M e V.sz w' (.slice A (l.length + 1) cap) (l.length + 1) (C.flatten ++ cs) → Chg (fun k => v.ownBlock = some k) w1 w' →
      ((Value.slice A (l.length + 1) cap).ownBlock = v.ownBlock ∨ (Value.slice A (l.length + 1) cap).ownBlock = some w1.heap.size) → Kp A cap w' := by
  obtain ⟨C, ho, hl, hv⟩ := hown
  refine ⟨C, ho.no hw1, fun A cap w' g1 g2 g3 => ?_⟩
  have hc : Chg (fun k => v.ownBlock = some k) w w' := hw1.no.trans g2 (fun k hk _ => hk)
  refine h A cap w' (OwnL.push g hl hv hx g1 hc ?_) hc
  rcases g3 with g3 | g3
  · exact .inl g3
  · exact .inr (fun k hk => by rw [g3] at hk; injection hk with hk; have := hw1.size; omega)

theorem wpList_pushL (g : V.Good) (T : SliceTy P t e V.sz V.bytes z) (hgd : o.guard = none) (s xo : Operand)
    (ho : o.op = .call { callee := .builtin .append, args := #[s, xo], argTypes := #[t, t] })
    {M R : Nat → Prop} {w : World} (hM : ∀ k, w.heap.size ≤ k → M k) {v : Value} {l : List α} (hown : OwnL V e M R w v l) (hs : act.eval s = v)
    {x : α} {cs : List Value} (hx : V (fun k => R k ∧ v.ownBlock ≠ some k) w cs x) (h1 : ∀ u ∈ cs, u.oneCell' = true) {e' : TypeId} (hxo : act.eval xo = .slice (some ⟨w.heap.size, 0, none⟩) 1 1) (hbytes : (l.length + 1) * V.bytes ≤ 140737488355328)
    (h : ∀ A cap w', OwnL V e M R w' (.slice A (l.length + 1) cap) (l ++ [x]) → Chg (fun k => v.ownBlock = some k) w w' → wpList P ops Q rest (act.put o.dst (.slice A (l.length + 1) cap)) w') :
    wpList P ops Q (o :: rest) act (w.alloc (.cells cs.toArray e')) := by
  have hc : Chg No w (w.alloc (.cells cs.toArray e')) := (Chg.refl _ _).alloc _
  obtain ⟨C, h2, h3⟩ := pushL_post g hown hx (Kp := fun A cap w' => wpList P ops Q rest (act.put o.dst (.slice A (l.length + 1) cap)) w') h hc
  exact wpList_append_Own T hgd s xo ho (fun k hk => hM k (Nat.le_trans hc.size hk)) h2 hs hxo (news := cs) (by rw [g.len hx]; omega) (news_alloc w cs e') h1 hbytes h3

/-- The same at a step of a region that draws its order. -/
theorem step_pushL (g : V.Good) (T : SliceTy P t e V.sz V.bytes z) (hgd : o.guard = none) (s xo : Operand)
    (ho : o.op = .call { callee := .builtin .append, args := #[s, xo], argTypes := #[t, t] })
    {M R : Nat → Prop} {w : World} (hM : ∀ k, w.heap.size ≤ k → M k) {v : Value} {l : List α} (hown : OwnL V e M R w v l) (hs : act.eval s = v)
    {x : α} {cs : List Value} (hx : V (fun k => R k ∧ v.ownBlock ≠ some k) w cs x) (h1 : ∀ u ∈ cs, u.oneCell' = true) {a : Addr} {w1 : World} (hw1 : Chg No w w1) (hnews : ∀ j u, cs[j]? = some u → w1.cell? (a.add j) = some u) (hxo : act.eval xo = .slice (some a) 1 1) (hbytes : (l.length + 1) * V.bytes ≤ 140737488355328)
    (h : ∀ A cap w', OwnL V e M R w' (.slice A (l.length + 1) cap) (l ++ [x]) → Chg (fun k => v.ownBlock = some k) w w' → K (act.put o.dst (.slice A (l.length + 1) cap)) w') :
    if Region.wanted o (yielded ops act.tmps) = true then Oper.wp P o act w1 K Q else F := by
  obtain ⟨C, h2, h3⟩ := pushL_post g hown hx (Kp := fun A cap w' => K (act.put o.dst (.slice A (l.length + 1) cap)) w') h hw1
  exact step_append_Own T hgd s xo ho (fun k hk => hM k (Nat.le_trans hw1.size hk)) h2 hs hxo (news := cs) (by rw [g.len hx]; omega) hnews h1 hbytes h3
end

section
variable {P : Program} {t e : TypeId} {sz bytes : Nat} {z : Value} {ops : Array Oper} {rest : List Oper} {o : Oper} {act : Act} {Q : Exit → Act → World → Prop}
theorem run_append_none {t e : TypeId} {sz bytes : Nat} {z : Value} (T : SliceTy P t e sz bytes z) (ty : TypeId) {M : Nat → Prop} {w : World} {v : Value} {n : Nat} {xs : List Value} (hown : Own M e sz w v n xs) (c : Nat) :
    (Builtin.append_ #[t, t] ty #[v, .slice none 0 c]).run P w = .ok v w := by
  obtain ⟨i, hi, hz, hsz, hby⟩ := info_parts T.info
  rcases hown.2 with ⟨rfl, rfl⟩ | ⟨g, o, cap, cur, rfl, hbg, hg, hnc, hcm, hcs, htake⟩
  · simp [Builtin.append_, run_underlying T.sl, sizeOf, typeInfo, hi, Builtin.lenOf, Builtin.firstCells]
  · simp [Builtin.append_, run_underlying T.sl, sizeOf, typeInfo, hi, Builtin.lenOf, Builtin.firstCells, hnc, storeCells]

/-- The cells of a slice. -/
theorem Sl.cellsOf {α : Type} {V : ElV α} {R : Nat → Prop} {w : World} {A : Option Addr} {l : List α} {cap : Nat} (h : Sl V.mem V.sz R w A l cap) :
    ∃ C : List (List Value), C.length = l.length ∧ (∀ c ∈ C, c.length = V.sz) ∧ (∀ i (h1 : i < l.length) (h2 : i < C.length), V R w C[i] l[i]) ∧ (l = [] ∨ ∃ b o, A = some ⟨b, o, none⟩ ∧ ∀ j u, C.flatten[j]? = some u → w.cell? ⟨b, o + j, none⟩ = some u) := by
  by_cases h0 : l = []
  · subst h0
    exact ⟨[], rfl, (fun c hc => by cases hc), fun i h1 => absurd h1 (Nat.not_lt_zero i), .inl rfl⟩
  have hpos : 0 < l.length := List.length_pos_iff.2 h0
  obtain ⟨b, o, hA, _⟩ := h.at_ 0 hpos
  have hex : ∀ i, i < l.length → ∃ cs : List Value, cs.length = V.sz ∧ (∀ j u, cs[j]? = some u → w.cell? ⟨b, o + i * V.sz + j, none⟩ = some u) ∧ ∀ h1 : i < l.length, V R w cs l[i] := fun i hi => by
    obtain ⟨b', o', hA', _, cs, h1, h2, h3⟩ := h.at_ i hi
    rw [hA] at hA'
    injection hA' with hA'
    injection hA' with e1 e2
    subst e1; subst e2
    exact ⟨cs, h1, h2, fun _ => h3⟩
  obtain ⟨f, hf⟩ := Go.Deep.choose_lt hex
  have hlen : ∀ c ∈ (List.range l.length).map f, c.length = V.sz := fun c hc => by
    obtain ⟨i, hi, rfl⟩ := List.mem_map.1 hc
    exact (hf i (List.mem_range.1 hi)).1
  refine ⟨(List.range l.length).map f, by simp, hlen, fun i h1 h2 => by simpa using (hf i h1).2.2 h1, .inr ⟨b, o, hA, fun j u hj => ?_⟩⟩
  have hjl := (List.getElem?_eq_some_iff.1 hj).1
  rw [flatten_length hlen] at hjl
  simp only [List.length_map, List.length_range] at hjl
  have hp := V.pos
  have hq : j / V.sz < l.length := Nat.div_lt_of_lt_mul (by rw [Nat.mul_comm]; exact hjl)
  have hdm : j / V.sz * V.sz + j % V.sz = j := by rw [Nat.mul_comm]; exact Nat.div_add_mod j V.sz
  have hlt := Nat.mod_lt j hp
  rw [← hdm, flatten_get hlen (j / V.sz) (by simpa using hq) (j % V.sz) hlt] at hj
  have := (hf _ hq).2.1 (j % V.sz) u (by simpa using hj)
  rw [Nat.add_assoc, hdm] at this
  exact this

/-- append([]T{}, src...): a copy, whose elements lead to what those of src lead to. -/
theorem wpList_copyL {α : Type} {V : ElV α} (g : V.Good) (h1 : ∀ {R w cs x}, V R w cs x → ∀ u ∈ cs, u.oneCell' = true) (T : SliceTy P t e V.sz V.bytes z) (hgd : o.guard = none) (s xo : Operand)
    (ho : o.op = .call { callee := .builtin .append, args := #[s, xo], argTypes := #[t, t] })
    {w : World} (hs : act.eval s = .slice (some ⟨w.heap.size, 0, none⟩) 0 0) {R : Nat → Prop} {A : Option Addr} {l : List α} {n cap : Nat} (hn : n = l.length) (hl : Sl V.mem V.sz R w A l cap) (hx : act.eval xo = .slice A n cap)
    (h : ∀ A' cap' w', OwnL V e (fun k => w.heap.size ≤ k) R w' (.slice A' l.length cap') l → Chg No w w' → A' ≠ none → wpList P ops Q rest (act.put o.dst (.slice A' n cap')) w') :
    wpList P ops Q (o :: rest) act (w.alloc (.cells #[] e)) := by
  subst hn
  have hc : Chg No w (w.alloc (.cells #[] e)) := (Chg.refl _ _).alloc _
  have hown : Own (fun k => w.heap.size ≤ k) e V.sz (w.alloc (.cells #[] e)) (.slice (some ⟨w.heap.size, 0, none⟩) 0 0) 0 [] :=
    ⟨by simp, .inr ⟨w.heap.size, 0, 0, #[], rfl, Nat.le_refl _, at_new rfl, Nat.le_refl _, Nat.zero_le _, by simp, by simp⟩⟩
  obtain ⟨C, hC1, hC2, hC3, hC4⟩ := hl.cellsOf
  have hroom : l.length * V.bytes ≤ 140737488355328 := hl.room
  have keep : ∀ {w' : World} {A' : Option Addr} {n' cap' : Nat}, Chg No w w' → (∀ k, (Value.slice A' n' cap').ownBlock = some k → w.heap.size ≤ k) → ∀ i (h1 : i < l.length) (h2 : i < C.length), V (fun k => R k ∧ (Value.slice A' n' cap').ownBlock ≠ some k) w' C[i] l[i] := fun hcw hfar i h1 h2 => by
    have e1 := g.mono (hC3 i h1 h2) (R' := fun k => R k ∧ k < w.heap.size) (fun k hk hR => ⟨hR, hk⟩)
    exact g.mono (g.no e1 hcw) (fun k _ hk => ⟨hk.1, fun e => by have := hfar k e; omega⟩)
  cases A with
  | none =>
    have h0 : l = [] := List.eq_nil_of_length_eq_zero (by have := hl.le; have := hl.nil rfl; omega)
    subst h0
    refine wpList_plain hgd fun _ hK => ?_
    have hrun := run_append_none (P := P) T o.type hown cap
    unfold Oper.wp execOp
    simp only [ho, resolve, invoke, builtin, Sem.run_bind, Sem.run_pure, Result.andThen_ok, List.map_toArray, List.map_cons, List.map_nil, hs, hx, List.length_nil, hrun]
    exact hK _ _ (h (some ⟨w.heap.size, 0, none⟩) 0 _ ⟨[], hown, rfl, fun i h => absurd h (Nat.not_lt_zero i)⟩ hc (by simp))
  | some a =>
    refine wpList_append_Own T hgd s xo ho (fun k hk => Nat.le_trans hc.size hk) hown hs (a := a) (m := l.length) (c := cap) (news := C.flatten) hx (by rw [flatten_length hC2, hC1]) (fun j u hj => ?_) (fun u hu => ?_) (by rw [Nat.zero_add]; exact hroom) (fun A cap' w' g1 g2 g3 => ?_)
    · rcases hC4 with h0 | ⟨b, o, hA, hcell⟩
      · subst h0
        have : C = [] := List.eq_nil_of_length_eq_zero (by simpa using hC1)
        subst this; simp at hj
      · injection hA with hA
        rw [hA, addr_add]
        exact hc.cell (hcell j u hj) id
    · obtain ⟨c, hcC, huc⟩ := List.mem_flatten.1 hu
      obtain ⟨i, hi, rfl⟩ := List.getElem_of_mem hcC
      exact h1 (hC3 i (by omega) hi) u huc
    · simp only [Nat.zero_add, List.nil_append] at g1 g3 ⊢
      have hcw : Chg No w w' := hc.trans g2 (fun k hk hlt => by simp [Value.ownBlock] at hk; omega)
      refine h A cap' w' ⟨C, g1, hC1, keep hcw (fun k hk => ?_)⟩ hcw ?_
      · exact (g1.mine k hk).1
      · intro hA
        subst hA
        rcases g3 with g3 | g3 <;> simp [Value.ownBlock] at g3
end
end Go.Proofs.YtgofncopoieigaaDoor
