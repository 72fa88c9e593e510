/-
  Structs read as data: what their cells hold. General: no program is named here.
-/
import Derived.Test.YtgofncopoieigaaDoorOpen
namespace Go.Proofs.YtgofncopoieigaaDoor
open Go Go.RowKit Go.WideShapes

/-- What some cells hold, said of a datum, in a region. -/
structure ElV (α : Type) where
  sz : Nat
  pos : 0 < sz
  bytes : Nat
  bpos : 0 < bytes
  at_ : (Nat → Prop) → World → List Value → α → Prop
instance {α : Type} : CoeFun (ElV α) (fun _ => (Nat → Prop) → World → List Value → α → Prop) := ⟨ElV.at_⟩
structure ElV.Good {α : Type} (V : ElV α) : Prop where
  len : ∀ {R w cs x}, V R w cs x → cs.length = V.sz
  stay : ∀ {R w w' cs x}, V R w cs x → (∀ k, k < w.heap.size → R k → w'.heap[k]? = w.heap[k]?) → V R w' cs x
  mono : ∀ {R R' : Nat → Prop} {w cs x}, V R w cs x → (∀ k, k < w.heap.size → R k → R' k) → V R' w cs x
theorem ElV.Good.chg {α : Type} {V : ElV α} (g : V.Good) {R S : Nat → Prop} {w w' : World} {cs : List Value} {x : α} (h : V R w cs x) (c : Chg S w w') (hd : ∀ k, R k → ¬ S k) : V R w' cs x :=
  g.stay h (fun k hk hr => c.block k hk (hd k hr))
theorem ElV.Good.no {α : Type} {V : ElV α} (g : V.Good) {R : Nat → Prop} {w w' : World} {cs : List Value} {x : α} (h : V R w cs x) (c : Chg No w w') : V R w' cs x := g.chg h c (fun _ _ f => f)

/-- Such a thing in memory. -/
def ElV.mem {α : Type} (V : ElV α) : Elem α := ⟨V.bytes, V.bpos, fun R w b o x => R b ∧ ∃ cs, cs.length = V.sz ∧ (∀ j u, cs[j]? = some u → w.cell? ⟨b, o + j, none⟩ = some u) ∧ V R w cs x⟩
theorem ElV.Good.mem {α : Type} {V : ElV α} (g : V.Good) : V.mem.Good where
  stay := fun ⟨hR, cs, hl, hc, hv⟩ hs => ⟨hR, cs, hl, fun j u hj => by
    have h := hc j u hj
    exact (cell_of_heap (hs _ (cell_lt h) hR)).trans h, g.stay hv hs⟩
  mono := fun ⟨hR, cs, hl, hc, hv⟩ hm => by
    have h0 : ∃ u, cs[0]? = some u := ⟨cs[0]'(by rw [hl]; exact V.pos), List.getElem?_eq_getElem _⟩
    obtain ⟨u, hu⟩ := h0
    exact ⟨hm _ (cell_lt (hc 0 u hu)) hR, cs, hl, hc, g.mono hv hm⟩
  lies := fun ⟨hR, cs, hl, hc, hv⟩ => by
    have h0 : ∃ u, cs[0]? = some u := ⟨cs[0]'(by rw [hl]; exact V.pos), List.getElem?_eq_getElem _⟩
    obtain ⟨u, hu⟩ := h0
    exact ⟨cell_lt (hc 0 u hu), hR⟩

def intV : ElV Int := ⟨1, by decide, 8, by decide, fun _ _ cs x => cs = [.int .i64 x] ∧ I64 x⟩
def boolV : ElV Bool := ⟨1, by decide, 1, by decide, fun _ _ cs x => cs = [.bool x]⟩
def strV : ElV ByteArray := ⟨1, by decide, 16, by decide, fun _ _ cs x => cs = [.string x] ∧ x.size ≤ maxLen⟩
def slV {α : Type} (E : Elem α) (sz : Nat) : ElV (List α) := ⟨1, by decide, 24, by decide, fun R w cs l => ∃ A cap, cs = [.slice A l.length cap] ∧ Sl E sz R w A l cap⟩
/-- Two behind each other. -/
def pairV {α β : Type} (V : ElV α) (U : ElV β) (bytes : Nat) (hb : 0 < bytes) : ElV (α × β) := ⟨V.sz + U.sz, Nat.add_pos_left V.pos _, bytes, hb, fun R w cs x => ∃ c1 c2, cs = c1 ++ c2 ∧ c1.length = V.sz ∧ V R w c1 x.1 ∧ U R w c2 x.2⟩
theorem intV_good : intV.Good where
  len := fun h => by obtain ⟨rfl, _⟩ := h; rfl
  stay := fun h _ => h
  mono := fun h _ => h
theorem boolV_good : boolV.Good where
  len := fun h => by cases h; rfl
  stay := fun h _ => h
  mono := fun h _ => h
theorem strV_good : strV.Good where
  len := fun h => by obtain ⟨rfl, _⟩ := h; rfl
  stay := fun h _ => h
  mono := fun h _ => h
theorem slV_good {α : Type} {E : Elem α} (g : E.Good) (sz : Nat) : (slV E sz).Good where
  len := fun h => by obtain ⟨_, _, rfl, _⟩ := h; rfl
  stay := fun ⟨A, cap, e, h⟩ hs => ⟨A, cap, e, h.stay g hs⟩
  mono := fun ⟨A, cap, e, h⟩ hm => ⟨A, cap, e, h.mono g hm⟩
theorem pairV_good {α β : Type} {V : ElV α} {U : ElV β} (g : V.Good) (g' : U.Good) (bytes : Nat) (hb : 0 < bytes) : (pairV V U bytes hb).Good where
  len := fun h => by
    obtain ⟨c1, c2, rfl, _, h1, h2⟩ := h
    rw [List.length_append, g.len h1, g'.len h2]; rfl
  stay := fun ⟨c1, c2, e, hl, h1, h2⟩ hs => ⟨c1, c2, e, hl, g.stay h1 hs, g'.stay h2 hs⟩
  mono := fun ⟨c1, c2, e, hl, h1, h2⟩ hm => ⟨c1, c2, e, hl, g.mono h1 hm, g'.mono h2 hm⟩

section
variable {H : Type} {enc : TypeId × Value → H} {P : Program}

/-- What can be read as a datum of the type e, with so much fuel, and weighs no more than may be, is a V. -/
structure OpensV {α : Type} (enc : TypeId × Value → H) (P : Program) (e : TypeId) (V : ElV α) : Prop where
  cells : P.cellsOf e = V.sz
  bytes : P.bytesOf e = V.bytes
  open_ : ∀ (W : World) (fuel : Nat) cs y, cs.length = V.sz → DataW.trod enc P W 0 (fun _ => true) true fuel e cs = some y → (∀ n ∈ y.1.weights P e, n ≤ reachBytes) → ∃ x, V (Old W) W cs x

theorem one_of {cs : List Value} (h : cs.length = 1) : ∃ v, cs = [v] := by
  match cs, h with
  | [v], _ => exact ⟨v, rfl⟩

theorem opensV_int {e : TypeId} (ht : P.underlying e = some (.int .i64)) (hc : P.cellsOf e = 1) (hb : P.bytesOf e = 8) : OpensV enc P e intV where
  cells := hc
  bytes := hb
  open_ := fun W fuel cs y hl hy _ => by
    obtain ⟨v, rfl⟩ := one_of hl
    obtain ⟨n, hn, _, hw⟩ := DataW.trod_int ht hy
    exact ⟨n, hn, wf_i64 hw⟩
theorem opensV_bool {e : TypeId} (ht : P.underlying e = some .bool) (hc : P.cellsOf e = 1) (hb : P.bytesOf e = 1) : OpensV enc P e boolV where
  cells := hc
  bytes := hb
  open_ := fun W fuel cs y hl hy _ => by
    obtain ⟨v, rfl⟩ := one_of hl
    obtain ⟨n, hn, _⟩ := DataW.trod_bool ht hy
    exact ⟨n, hn⟩
theorem opensV_string {e : TypeId} (ht : P.underlying e = some .string) (hc : P.cellsOf e = 1) (hb : P.bytesOf e = 16) : OpensV enc P e strV where
  cells := hc
  bytes := hb
  open_ := fun W fuel cs y hl hy _ => by
    obtain ⟨v, rfl⟩ := one_of hl
    obtain ⟨n, hn, _, hw⟩ := DataW.trod_string ht hy
    exact ⟨n, hn, hw⟩
theorem opensV_sl {α : Type} {t e : TypeId} {sz : Nat} {E : Elem α} (ht : P.underlying t = some (.slice e)) (hsz : 0 < sz) (hct : P.cellsOf t = 1) (hb : P.bytesOf t = 24) (hE : OpensE enc P e sz E) : OpensV enc P t (slV E sz) where
  cells := hct
  bytes := hb
  open_ := fun W fuel cs y hl hy hw => by
    obtain ⟨A, l, cap, hc, hs⟩ := open_sl ht hsz hE hy hw
    exact ⟨l, A, cap, hc, hs⟩

/-- Such a thing in memory. -/
theorem opensE_of {α : Type} {e : TypeId} {V : ElV α} (h : OpensV enc P e V) : OpensE enc P e V.sz V.mem where
  cells := h.cells
  bytes := h.bytes
  open_ := fun W fuel b o cs y hcs hy hw => by
    obtain ⟨_, hl, hc⟩ := World.cells?_some hcs
    obtain ⟨x, hx⟩ := h.open_ W fuel cs y hl hy hw
    have hat : ∀ j u, cs[j]? = some u → W.cell? ⟨b, o + j, none⟩ = some u := fun j u hj => by
      have hlt : j < V.sz := by rw [← hl]; exact (List.getElem?_eq_some_iff.1 hj).1
      have h1 := hc j hlt
      rw [hj] at h1
      rw [← h1, show (⟨b, o, none⟩ : Addr).add j = ⟨b, o + j, none⟩ by unfold Addr.add; split <;> simp_all]
    have h0 : ∃ u, cs[0]? = some u := ⟨cs[0]'(by rw [hl]; exact V.pos), List.getElem?_eq_getElem _⟩
    obtain ⟨u, hu⟩ := h0
    exact ⟨x, cell_lt (hat 0 u hu), cs, hl, hat, hx⟩

theorem weightsEach_cons {t : TypeId} {ts : List TypeId} {d : DataW H} {ds : List (DataW H)} : DataW.weightsEach P (t :: ts) (d :: ds) = d.weights P t ++ DataW.weightsEach P ts ds := rfl

/-- A struct of two fields. -/
theorem opensV_struct2 {α β : Type} {t : TypeId} {f0 f1 : Field} {V : ElV α} {U : ElV β} {bytes : Nat} (hbp : 0 < bytes) (ht : P.underlying t = some (.struct #[f0, f1])) (o0 : f0.offset = 0) (o1 : f1.offset = V.sz)
    (hc : P.cellsOf t = V.sz + U.sz) (hb : P.bytesOf t = bytes) (h0 : OpensV enc P f0.type V) (h1 : OpensV enc P f1.type U) : OpensV enc P t (pairV V U bytes hbp) where
  cells := hc
  bytes := hb
  open_ := fun W fuel cs y hl hy hw => by
    obtain ⟨xs, n, hn, rfl, hl', hxl, hf⟩ := DataW.trod_struct ht hy
    obtain ⟨y0, y1, rfl⟩ : ∃ y0 y1, xs = [y0, y1] := by
      match xs, hxl with
      | [y0, y1], _ => exact ⟨y0, y1, rfl⟩
    have g0 := hf 0 f0 rfl
    have g1 := hf 1 f1 rfl
    rw [o0, h0.cells, List.drop_zero] at g0
    rw [o1, h1.cells] at g1
    simp only [List.getElem?_cons_zero, List.getElem?_cons_succ] at g0 g1
    have hl2 : cs.length = V.sz + U.sz := hl
    obtain ⟨x0, hx0⟩ := h0.open_ W n _ y0 (by simp; omega) g0 (fun m hm => hw m (by simp only [DataW.weights, ht, List.map_cons, List.map_nil, weightsEach_cons, List.mem_append]; exact .inl hm))
    obtain ⟨x1, hx1⟩ := h1.open_ W n _ y1 (by simp; omega) g1 (fun m hm => hw m (by simp only [DataW.weights, ht, List.map_cons, List.map_nil, weightsEach_cons, List.mem_append]; exact .inr (.inl hm)))
    refine ⟨(x0, x1), cs.take V.sz, (cs.drop V.sz).take U.sz, ?_, by simp; omega, hx0, hx1⟩
    rw [List.take_of_length_le (l := cs.drop V.sz) (by simp; omega), List.take_append_drop]
/-- A struct of three fields. -/
theorem opensV_struct3 {α β γ : Type} {t : TypeId} {f0 f1 f2 : Field} {V : ElV α} {U : ElV β} {T : ElV γ} {bytes ib : Nat} (hib : 0 < ib) (hbp : 0 < bytes) (ht : P.underlying t = some (.struct #[f0, f1, f2])) (o0 : f0.offset = 0) (o1 : f1.offset = V.sz) (o2 : f2.offset = V.sz + U.sz)
    (hc : P.cellsOf t = V.sz + (U.sz + T.sz)) (hb : P.bytesOf t = bytes) (h0 : OpensV enc P f0.type V) (h1 : OpensV enc P f1.type U) (h2 : OpensV enc P f2.type T) : OpensV enc P t (pairV V (pairV U T ib hib) bytes hbp) where
  cells := hc
  bytes := hb
  open_ := fun W fuel cs y hl hy hw => by
    obtain ⟨xs, n, hn, rfl, hl', hxl, hf⟩ := DataW.trod_struct ht hy
    obtain ⟨y0, y1, y2, rfl⟩ : ∃ y0 y1 y2, xs = [y0, y1, y2] := by
      match xs, hxl with
      | [y0, y1, y2], _ => exact ⟨y0, y1, y2, rfl⟩
    have g0 := hf 0 f0 rfl
    have g1 := hf 1 f1 rfl
    have g2 := hf 2 f2 rfl
    rw [o0, h0.cells, List.drop_zero] at g0
    rw [o1, h1.cells] at g1
    rw [o2, h2.cells] at g2
    simp only [List.getElem?_cons_zero, List.getElem?_cons_succ] at g0 g1 g2
    have hl2 : cs.length = V.sz + (U.sz + T.sz) := hl
    obtain ⟨x0, hx0⟩ := h0.open_ W n _ y0 (by simp; omega) g0 (fun m hm => hw m (by simp only [DataW.weights, ht, List.map_cons, List.map_nil, weightsEach_cons, List.mem_append]; exact .inl hm))
    obtain ⟨x1, hx1⟩ := h1.open_ W n _ y1 (by simp; omega) g1 (fun m hm => hw m (by simp only [DataW.weights, ht, List.map_cons, List.map_nil, weightsEach_cons, List.mem_append]; exact .inr (.inl hm)))
    obtain ⟨x2, hx2⟩ := h2.open_ W n _ y2 (by simp; omega) g2 (fun m hm => hw m (by simp only [DataW.weights, ht, List.map_cons, List.map_nil, weightsEach_cons, List.mem_append]; exact .inr (.inr (.inl hm))))
    refine ⟨(x0, x1, x2), cs.take V.sz, cs.drop V.sz, by rw [List.take_append_drop], by simp; omega, hx0, (cs.drop V.sz).take U.sz, (cs.drop (V.sz + U.sz)).take T.sz, ?_, by simp; omega, hx1, hx2⟩
    rw [List.take_of_length_le (l := cs.drop (V.sz + U.sz)) (by simp; omega), ← List.drop_drop, List.take_append_drop]

/-- An argument that is a struct. -/
theorem arg_struct {α : Type} {W : World} {t : TypeId} {fs : Array Field} {V : ElV α} {v : Value} {d : DataW H} {p : List MemPlace} {r : Reach} {base : Nat} (hs : P.underlying t = some (.struct fs)) (hO : OpensV enc P t V)
    (hv : Value.okWide P W r base t v) (h : DataW.Trod enc P W 0 (fun _ => true) true t v d p) (hw : ∀ n ∈ d.weights P t, n ≤ reachBytes) : ∃ cs x, v = .agg cs.toArray ∧ cs.length = V.sz ∧ V (Old W) W cs x := by
  obtain ⟨cs, rfl, hsz⟩ := okWide_struct hs hv
  obtain ⟨fuel, hf⟩ := h
  have hl : cs.toList.length = V.sz := by rw [Array.length_toList, hsz, hO.cells]
  obtain ⟨x, hx⟩ := hO.open_ W fuel cs.toList (d, p) hl hf hw
  exact ⟨cs.toList, x, by simp, hl, hx⟩
end
end Go.Proofs.YtgofncopoieigaaDoor
