/-
  Formulas in memory: trees of at most so many floors.
-/
import Derived.Test.YtpmndblakmobdaaDoorLinOpen
namespace Go.Proofs.YtpmndblakmobdaaDoor
open Go Go.RowKit Go.WideShapes

/-- What a formula is, above its parts. -/
structure Node (α : Type) where
  kind : Int
  lin : Lin
  kids : List α
/-- Formulas of at most n floors. -/
def FT : Nat → Type
  | 0 => Unit
  | n + 1 => Node (FT n)
def nodeV {α : Type} (V : ElV α) : ElV (Node α) := ⟨4, by decide, 64, by decide, fun R w cs x => ∃ A cap B capk, cs = [.int .i64 x.kind, .int .i64 x.lin.1, .slice A x.lin.2.length cap, .slice B x.kids.length capk] ∧ I64 x.kind ∧ I64 x.lin.1 ∧ Monos R w A x.lin.2 cap ∧ Sl V.mem V.sz R w B x.kids capk⟩
theorem nodeV_good {α : Type} {V : ElV α} (g : V.Good) : (nodeV V).Good where
  len := fun ⟨_, _, _, _, e, _⟩ => by rw [e]; rfl
  stay := fun ⟨A, cap, B, capk, e, h1, h2, h3, h4⟩ hs => ⟨A, cap, B, capk, e, h1, h2, h3.stay monoE_good hs, h4.stay g.mem hs⟩
  mono := fun ⟨A, cap, B, capk, e, h1, h2, h3, h4⟩ hm => ⟨A, cap, B, capk, e, h1, h2, h3.mono monoE_good hm, h4.mono g.mem hm⟩
/-- A formula in cells. -/
def formV : (n : Nat) → ElV (FT n)
  | 0 => ⟨4, by decide, 64, by decide, fun _ _ _ _ => False⟩
  | n + 1 => nodeV (formV n)
theorem formV_sz : ∀ n, (formV n).sz = 4
  | 0 => rfl
  | _ + 1 => rfl
theorem formV_bytes : ∀ n, (formV n).bytes = 64
  | 0 => rfl
  | _ + 1 => rfl
theorem formV_good : ∀ n, (formV n).Good
  | 0 => ⟨fun h => h.elim, fun h _ => h.elim, fun h _ => h.elim⟩
  | n + 1 => nodeV_good (formV_good n)
/-- Formulas behind each other. -/
abbrev Forms {n : Nat} (R : Nat → Prop) (w : World) (A : Option Addr) (l : List (FT n)) (cap : Nat) : Prop := Sl (formV n).mem 4 R w A l cap
theorem formE_good (n : Nat) : (formV n).mem.Good := (formV_good n).mem

theorem node_cells {n : Nat} {R : Nat → Prop} {w : World} {cs : List Value} {x : Node (FT n)} (h : (formV (n + 1)).at_ R w cs x) :
    ∃ A cap B capk, cs = [.int .i64 x.kind, .int .i64 x.lin.1, .slice A x.lin.2.length cap, .slice B x.kids.length capk] ∧ I64 x.kind ∧ I64 x.lin.1 ∧ Monos R w A x.lin.2 cap ∧ Forms R w B x.kids capk := by
  obtain ⟨A, cap, B, capk, e, h1, h2, h3, h4⟩ := h
  rw [formV_sz] at h4
  exact ⟨A, cap, B, capk, e, h1, h2, h3, h4⟩
/-- A part's cells. -/
theorem forms_at {n : Nat} {R : Nat → Prop} {w : World} {A : Option Addr} {l : List (FT n)} {cap : Nat} (h : Forms R w A l cap) (i : Nat) (hi : i < l.length) :
    ∃ b o v0 v1 v2 v3, A = some ⟨b, o, none⟩ ∧ (formV n) R w [v0, v1, v2, v3] l[i] ∧ w.cell? ⟨b, o + i * 4, none⟩ = some v0 ∧ w.cell? ⟨b, o + i * 4 + 1, none⟩ = some v1 ∧ w.cell? ⟨b, o + i * 4 + 2, none⟩ = some v2 ∧ w.cell? ⟨b, o + i * 4 + 3, none⟩ = some v3 := by
  obtain ⟨b, o, e, _, cs, hl, hc, hv⟩ := h.at_ i hi
  rw [formV_sz] at hl
  match cs, hl with
  | [v0, v1, v2, v3], _ => exact ⟨b, o, v0, v1, v2, v3, e, hv, hc 0 _ rfl, hc 1 _ rfl, hc 2 _ rfl, hc 3 _ rfl⟩

section
variable {H : Type} {enc : TypeId × Value → H} {P : Program}
/-- What reads as a datum of less than so many parts is a V. -/
structure OpensTo {α : Type} (N : Nat) (enc : TypeId × Value → H) (P : Program) (e : TypeId) (V : ElV α) : Prop where
  cells : P.cellsOf e = V.sz
  bytes : P.bytesOf e = V.bytes
  open_ : ∀ (W : World) (fuel : Nat) cs y, cs.length = V.sz → DataW.trod enc P W 0 (fun _ => true) true fuel e cs = some y → SizeOf.sizeOf y.1 < N → (∀ n ∈ y.1.weights P e, n ≤ reachBytes) → ∃ x, V (Old W) W cs x

theorem sizeOf_map_mem {ds : List (DataW H)} {d : DataW H} (h : d ∈ ds) : SizeOf.sizeOf d < SizeOf.sizeOf ds := List.sizeOf_lt_of_mem h

theorem open_slTo {α : Type} {N : Nat} {t e : TypeId} {V : ElV α} (ht : P.underlying t = some (.slice e)) (hE : OpensTo N enc P e V)
    {W : World} {fuel : Nat} {cs : List Value} {y : DataW H × List MemPlace} (hy : DataW.trod enc P W 0 (fun _ => true) true fuel t cs = some y) (hN : SizeOf.sizeOf y.1 < N + 1) (hw : ∀ n ∈ y.1.weights P t, n ≤ reachBytes) :
    ∃ A l cap, cs = [.slice A l.length cap] ∧ Sl V.mem V.sz (Old W) W A l cap := by
  rcases Go.Deep.open_slice ht hy with ⟨rfl, _⟩ | ⟨a, len, cap, m, k, D, Pl, rfl, _, hl, hm, hmm, rfl, hx⟩
  · exact ⟨none, [], 0, rfl, Sl.empty⟩
  simp only [if_true] at hmm
  subst hmm
  have hsum : (len + (m - len)) * P.bytesOf e ≤ reachBytes := by
    have := hw ((len + (m - len)) * P.bytesOf e) (by simp [DataW.weights, ht])
    exact this
  have hlb : len * V.mem.bytes ≤ big := by
    have hb : P.bytesOf e = V.mem.bytes := hE.bytes
    rw [← hb]
    have h2 : len * P.bytesOf e ≤ (len + (m - len)) * P.bytesOf e := Nat.mul_le_mul_right _ (by omega)
    have h3 := reachBytes_lt
    unfold big
    omega
  have hpos := V.pos
  have each : ∀ i, i < len → ∃ x : α, ∃ b o, a = ⟨b, o, none⟩ ∧ V.mem (Old W) W b (o + i * V.sz) x := by
    intro i hi
    obtain ⟨cs', h1, h2⟩ := hx i (by omega)
    rw [hE.cells] at h1
    have hsp := cells_spot h1 hpos
    obtain ⟨b, o, s⟩ := a
    have hs : s = none := by
      by_cases hz : i * V.sz = 0
      · simpa [Addr.add, hz] using hsp
      · obtain ⟨cs0, g1, _⟩ := hx 0 (by omega)
        rw [hE.cells] at g1
        have := cells_spot g1 hpos
        simpa [Addr.add] using this
    subst hs
    rw [show (⟨b, o, none⟩ : Addr).add (i * V.sz) = ⟨b, o + i * V.sz, none⟩ by unfold Addr.add; split <;> simp_all] at h1
    have hD : D i ∈ (List.range len).map D := List.mem_map.2 ⟨i, List.mem_range.2 hi, rfl⟩
    have hsz : SizeOf.sizeOf (D i) < N := by
      have h3 := sizeOf_map_mem hD
      simp only [DataW.slice.sizeOf_spec] at hN
      omega
    obtain ⟨_, hcl, hcc⟩ := World.cells?_some h1
    obtain ⟨x, hx'⟩ := hE.open_ W k cs' (D i, Pl i) hcl h2 hsz (fun n hn => hw n (by
      simp only [DataW.weights, ht, List.mem_cons, List.mem_append]
      exact .inr (.inl (weightsAll_mem (d := D i) hD n hn))))
    have hat : ∀ j u, cs'[j]? = some u → W.cell? ⟨b, o + i * V.sz + j, none⟩ = some u := fun j u hj => by
      have hlt : j < V.sz := by rw [← hcl]; exact (List.getElem?_eq_some_iff.1 hj).1
      have h1 := hcc j hlt
      rw [hj] at h1
      rw [← h1, show (⟨b, o + i * V.sz, none⟩ : Addr).add j = ⟨b, o + i * V.sz + j, none⟩ by unfold Addr.add; split <;> simp_all]
    have h0 : ∃ u, cs'[0]? = some u := ⟨cs'[0]'(by rw [hcl]; exact hpos), List.getElem?_eq_getElem _⟩
    obtain ⟨u, hu⟩ := h0
    exact ⟨x, b, o, rfl, cell_lt (hat 0 u hu), cs', hcl, hat, hx'⟩
  by_cases h0 : len = 0
  · subst h0
    exact ⟨some a, [], m, rfl, ⟨hl, hm, by simp, (fun h => by cases h), fun i hi => absurd hi (Nat.not_lt_zero i)⟩⟩
  · obtain ⟨x0, _⟩ := each 0 (by omega)
    haveI : Inhabited α := ⟨x0⟩
    obtain ⟨f, hf⟩ := Go.Deep.choose_lt each
    have hlen : ((List.range len).map f).length = len := by simp
    refine ⟨some a, (List.range len).map f, m, by rw [hlen], ⟨by rw [hlen]; exact hl, hm, by rw [hlen]; exact hlb, (fun h => by cases h), fun i hi => ?_⟩⟩
    rw [hlen] at hi
    obtain ⟨b, o, rfl, hE'⟩ := hf i hi
    exact ⟨b, o, rfl, by simpa using hE'⟩

/-- A formula, with so many parts. -/
theorem opensTo_node {α : Type} {N : Nat} {t : TypeId} {f0 f1 f2 : Field} {V : ElV α} (ht : P.underlying t = some (.struct #[f0, f1, f2])) (o0 : f0.offset = 0) (o1 : f1.offset = 1) (o2 : f2.offset = 3)
    (hc : P.cellsOf t = 4) (hb : P.bytesOf t = 64) (h0 : OpensV enc P f0.type intV) (h1 : OpensV enc P f1.type linV) (hk : P.underlying f2.type = some (.slice t)) (hk1 : P.cellsOf f2.type = 1) (h2 : OpensTo N enc P t V) : OpensTo (N + 1) enc P t (nodeV V) where
  cells := hc
  bytes := hb
  open_ := fun W fuel cs y hl hy hN hw => by
    obtain ⟨xs, n, hn, rfl, hl', hxl, hf⟩ := DataW.trod_struct ht hy
    obtain ⟨y0, y1, y2, rfl⟩ : ∃ y0 y1 y2, xs = [y0, y1, y2] := by
      match xs, hxl with
      | [y0, y1, y2], _ => exact ⟨y0, y1, y2, rfl⟩
    have g0 := hf 0 f0 rfl
    have g1 := hf 1 f1 rfl
    have g2 := hf 2 f2 rfl
    rw [o0, h0.cells, List.drop_zero] at g0
    rw [o1, h1.cells] at g1
    rw [o2, hk1] at g2
    simp only [List.getElem?_cons_zero, List.getElem?_cons_succ] at g0 g1 g2
    match cs, hl with
    | [v0, v1, v2, v3], _ =>
    obtain ⟨x0, e0, i0⟩ := h0.open_ W n _ y0 (by rfl) g0 (fun m hm => hw m (by simp only [DataW.weights, ht, List.map_cons, List.map_nil, weightsEach_cons, List.mem_append]; exact .inl hm))
    obtain ⟨x1, hx1⟩ := h1.open_ W n _ y1 (by rfl) g1 (fun m hm => hw m (by simp only [DataW.weights, ht, List.map_cons, List.map_nil, weightsEach_cons, List.mem_append]; exact .inr (.inl hm)))
    obtain ⟨A, cap, e1, i1, hm1⟩ := lin_cells hx1
    have hN2 : SizeOf.sizeOf y2.1 < N + 1 := by
      simp only [List.map_cons, List.map_nil, DataW.agg.sizeOf_spec, List.cons.sizeOf_spec] at hN
      omega
    obtain ⟨B, l, capk, e2, hs2⟩ := open_slTo hk h2 g2 hN2 (fun m hm => hw m (by simp only [DataW.weights, ht, List.map_cons, List.map_nil, weightsEach_cons, List.mem_append]; exact .inr (.inr (.inl hm))))
    have e0' : [v0] = [Value.int .i64 x0] := e0
    have e1' : [v1, v2] = [Value.int .i64 x1.1, .slice A x1.2.length cap] := e1
    have e2' : [v3] = [Value.slice B l.length capk] := e2
    simp only [List.cons.injEq, and_true] at e0' e1' e2'
    obtain ⟨e1a, e1b⟩ := e1'
    exact ⟨⟨x0, x1, l⟩, A, cap, B, capk, by rw [e0', e1a, e1b, e2'], i0, i1, hm1, hs2⟩
end

section
variable {H : Type} {enc : TypeId × Value → H}
theorem opensTo_form : ∀ N, OpensTo N enc Tryd.prog 45 (formV N)
  | 0 => ⟨by kernel_rfl, by kernel_rfl, fun _ _ _ _ _ _ h => absurd h (Nat.not_lt_zero _)⟩
  | N + 1 => opensTo_node Tryd.underlying45 rfl rfl rfl (by kernel_rfl) (by kernel_rfl) (opensV_int Tryd.underlying3 (by kernel_rfl) (by kernel_rfl)) opensV_lin Tryd.underlying39 (by kernel_rfl) (opensTo_form N)
set_option maxRecDepth 10000 in
/-- An argument that is a formula. -/
theorem arg_form {W : World} {v : Value} {d : DataW H} {p : List MemPlace} {r : Reach} {base : Nat}
    (hv : Value.okWide Tryd.prog W r base 45 v) (h : DataW.Trod enc Tryd.prog W 0 (fun _ => true) true 45 v d p) (hw : ∀ n ∈ d.weights Tryd.prog 45, n ≤ reachBytes) :
    ∃ n, ∃ x : Node (FT n), ∃ A cap B capk, v = .agg #[.int .i64 x.kind, .int .i64 x.lin.1, .slice A x.lin.2.length cap, .slice B x.kids.length capk] ∧ I64 x.kind ∧ I64 x.lin.1 ∧ Monos (Old W) W A x.lin.2 cap ∧ Forms (Old W) W B x.kids capk := by
  obtain ⟨cs, rfl, hsz⟩ := okWide_struct Tryd.underlying45 hv
  obtain ⟨fuel, hf⟩ := h
  have hO := opensTo_form (enc := enc) (SizeOf.sizeOf d + 1)
  have hl : cs.toList.length = 4 := by rw [Array.length_toList, hsz, hO.cells]; rfl
  obtain ⟨x, hx⟩ := hO.open_ W fuel cs.toList (d, p) hl hf (Nat.lt_succ_self _) hw
  obtain ⟨A, cap, B, capk, e, h1, h2, h3, h4⟩ := node_cells hx
  refine ⟨SizeOf.sizeOf d, x, A, cap, B, capk, ?_, h1, h2, h3, h4⟩
  have : cs = cs.toList.toArray := by simp
  rw [this, e]
end
end Go.Proofs.YtpmndblakmobdaaDoor
