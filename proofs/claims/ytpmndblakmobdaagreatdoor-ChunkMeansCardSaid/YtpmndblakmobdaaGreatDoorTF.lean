/-
  Form, FrmA, CnfA, CnfB, CnfC, FrmB, in one file.
-/
import Derived.Test.YtpmndblakmobdaaGreatDoorTL
import Derived.Deep.LoopGhost
import Derived.Deep.QuietTactic
import Derived.BigQuiet
import Derived.Deep.DeepCutAuto
import Derived.Deep.CutBlock
import Derived.Test.YtpmndblakmobdaaGreatDoorMA
import Derived.Deep.RegionLaw
/- Form -/
namespace Go.Proofs.YtpmndblakmobdaaGreatDoor
open Go Go.RowKit Go.WideShapes

/-- What a formula is, above its parts. -/
structure Node (α : Type) where
  kind : Int
  lin : Lin
  kids : List α
/-- Formulas of at most n floors. -/
def FT : Nat → Type
  | 0 => Unit
  | n + 1 => Node (FT n)
def nodeV {α : Type} (V : ElV α) : ElV (Node α) := ⟨4, by decide, 64, by decide, fun R w cs x => ∃ A cap B capk, cs = [.int .i64 x.kind, .int .i64 x.lin.1, .slice A x.lin.2.length cap, .slice B x.kids.length capk] ∧ I64 x.kind ∧ I64 x.lin.1 ∧ Monos R w A x.lin.2 cap ∧ Sl V.mem V.sz R w B x.kids capk⟩
theorem nodeV_good {α : Type} {V : ElV α} (g : V.Good) : (nodeV V).Good where
  len := fun ⟨_, _, _, _, e, _⟩ => by rw [e]; rfl
  stay := fun ⟨A, cap, B, capk, e, h1, h2, h3, h4⟩ hs => ⟨A, cap, B, capk, e, h1, h2, h3.stay monoE_good hs, h4.stay g.mem hs⟩
  mono := fun ⟨A, cap, B, capk, e, h1, h2, h3, h4⟩ hm => ⟨A, cap, B, capk, e, h1, h2, h3.mono monoE_good hm, h4.mono g.mem hm⟩
/-- A formula in cells. -/
def formV : (n : Nat) → ElV (FT n)
  | 0 => ⟨4, by decide, 64, by decide, fun _ _ _ _ => False⟩
  | n + 1 => nodeV (formV n)
theorem formV_sz : ∀ n, (formV n).sz = 4
  | 0 => rfl
  | _ + 1 => rfl
theorem formV_bytes : ∀ n, (formV n).bytes = 64
  | 0 => rfl
  | _ + 1 => rfl
theorem formV_good : ∀ n, (formV n).Good
  | 0 => ⟨fun h => h.elim, fun h _ => h.elim, fun h _ => h.elim⟩
  | n + 1 => nodeV_good (formV_good n)
/-- Formulas behind each other. -/
abbrev Forms {n : Nat} (R : Nat → Prop) (w : World) (A : Option Addr) (l : List (FT n)) (cap : Nat) : Prop := Sl (formV n).mem 4 R w A l cap
theorem formE_good (n : Nat) : (formV n).mem.Good := (formV_good n).mem

theorem node_cells {n : Nat} {R : Nat → Prop} {w : World} {cs : List Value} {x : Node (FT n)} (h : (formV (n + 1)).at_ R w cs x) :
    ∃ A cap B capk, cs = [.int .i64 x.kind, .int .i64 x.lin.1, .slice A x.lin.2.length cap, .slice B x.kids.length capk] ∧ I64 x.kind ∧ I64 x.lin.1 ∧ Monos R w A x.lin.2 cap ∧ Forms R w B x.kids capk := by
  obtain ⟨A, cap, B, capk, e, h1, h2, h3, h4⟩ := h
  rw [formV_sz] at h4
  exact ⟨A, cap, B, capk, e, h1, h2, h3, h4⟩
/-- A part's cells. -/
theorem forms_at {n : Nat} {R : Nat → Prop} {w : World} {A : Option Addr} {l : List (FT n)} {cap : Nat} (h : Forms R w A l cap) (i : Nat) (hi : i < l.length) :
    ∃ b o v0 v1 v2 v3, A = some ⟨b, o, none⟩ ∧ (formV n) R w [v0, v1, v2, v3] l[i] ∧ w.cell? ⟨b, o + i * 4, none⟩ = some v0 ∧ w.cell? ⟨b, o + i * 4 + 1, none⟩ = some v1 ∧ w.cell? ⟨b, o + i * 4 + 2, none⟩ = some v2 ∧ w.cell? ⟨b, o + i * 4 + 3, none⟩ = some v3 := by
  obtain ⟨b, o, e, _, cs, hl, hc, hv⟩ := h.at_ i hi
  rw [formV_sz] at hl
  match cs, hl with
  | [v0, v1, v2, v3], _ => exact ⟨b, o, v0, v1, v2, v3, e, hv, hc 0 _ rfl, hc 1 _ rfl, hc 2 _ rfl, hc 3 _ rfl⟩

section
variable {H : Type} {enc : TypeId × Value → H} {P : Program}
/-- What reads as a datum of less than so many parts is a V. -/
structure OpensTo {α : Type} (N : Nat) (enc : TypeId × Value → H) (P : Program) (e : TypeId) (V : ElV α) : Prop where
  cells : P.cellsOf e = V.sz
  bytes : P.bytesOf e = V.bytes
  open_ : ∀ (W : World) (fuel : Nat) cs y, cs.length = V.sz → DataW.trod enc P W 0 (fun _ => true) true fuel e cs = some y → SizeOf.sizeOf y.1 < N → (∀ n ∈ y.1.weights P e, n ≤ reachBytes) → ∃ x, V (Old W) W cs x

theorem sizeOf_map_mem {ds : List (DataW H)} {d : DataW H} (h : d ∈ ds) : SizeOf.sizeOf d < SizeOf.sizeOf ds := List.sizeOf_lt_of_mem h

theorem open_slTo {α : Type} {N : Nat} {t e : TypeId} {V : ElV α} (ht : P.underlying t = some (.slice e)) (hE : OpensTo N enc P e V)
    {W : World} {fuel : Nat} {cs : List Value} {y : DataW H × List MemPlace} (hy : DataW.trod enc P W 0 (fun _ => true) true fuel t cs = some y) (hN : SizeOf.sizeOf y.1 < N + 1) (hw : ∀ n ∈ y.1.weights P t, n ≤ reachBytes) :
    ∃ A l cap, cs = [.slice A l.length cap] ∧ Sl V.mem V.sz (Old W) W A l cap := by
  rcases Go.Deep.open_slice ht hy with ⟨rfl, _⟩ | ⟨a, len, cap, m, k, D, Pl, rfl, _, hl, hm, hmm, rfl, hx⟩
  · exact ⟨none, [], 0, rfl, Sl.empty⟩
  simp only [if_true] at hmm
  subst hmm
  have hsum : (len + (m - len)) * P.bytesOf e ≤ reachBytes := by
    have := hw ((len + (m - len)) * P.bytesOf e) (by simp [DataW.weights, ht])
    exact this
  have hlb : len * V.mem.bytes ≤ big := by
    have hb : P.bytesOf e = V.mem.bytes := hE.bytes
    rw [← hb]
    have h2 : len * P.bytesOf e ≤ (len + (m - len)) * P.bytesOf e := Nat.mul_le_mul_right _ (by omega)
    have h3 := reachBytes_lt
    unfold big
    omega
  have hpos := V.pos
  have each : ∀ i, i < len → ∃ x : α, ∃ b o, a = ⟨b, o, none⟩ ∧ V.mem (Old W) W b (o + i * V.sz) x := by
    intro i hi
    obtain ⟨cs', h1, h2⟩ := hx i (by omega)
    rw [hE.cells] at h1
    have hsp := cells_spot h1 hpos
    obtain ⟨b, o, s⟩ := a
    have hs : s = none := by
      by_cases hz : i * V.sz = 0
      · simpa [Addr.add, hz] using hsp
      · obtain ⟨cs0, g1, _⟩ := hx 0 (by omega)
        rw [hE.cells] at g1
        have := cells_spot g1 hpos
        simpa [Addr.add] using this
    subst hs
    rw [show (⟨b, o, none⟩ : Addr).add (i * V.sz) = ⟨b, o + i * V.sz, none⟩ by unfold Addr.add; split <;> simp_all] at h1
    have hD : D i ∈ (List.range len).map D := List.mem_map.2 ⟨i, List.mem_range.2 hi, rfl⟩
    have hsz : SizeOf.sizeOf (D i) < N := by
      have h3 := sizeOf_map_mem hD
      simp only [DataW.slice.sizeOf_spec] at hN
      omega
    obtain ⟨_, hcl, hcc⟩ := World.cells?_some h1
    obtain ⟨x, hx'⟩ := hE.open_ W k cs' (D i, Pl i) hcl h2 hsz (fun n hn => hw n (by
      simp only [DataW.weights, ht, List.mem_cons, List.mem_append]
      exact .inr (.inl (weightsAll_mem (d := D i) hD n hn))))
    have hat : ∀ j u, cs'[j]? = some u → W.cell? ⟨b, o + i * V.sz + j, none⟩ = some u := fun j u hj => by
      have hlt : j < V.sz := by rw [← hcl]; exact (List.getElem?_eq_some_iff.1 hj).1
      have h1 := hcc j hlt
      rw [hj] at h1
      rw [← h1, show (⟨b, o + i * V.sz, none⟩ : Addr).add j = ⟨b, o + i * V.sz + j, none⟩ by unfold Addr.add; split <;> simp_all]
    have h0 : ∃ u, cs'[0]? = some u := ⟨cs'[0]'(by rw [hcl]; exact hpos), List.getElem?_eq_getElem _⟩
    obtain ⟨u, hu⟩ := h0
    exact ⟨x, b, o, rfl, cell_lt (hat 0 u hu), cs', hcl, hat, hx'⟩
  by_cases h0 : len = 0
  · subst h0
    exact ⟨some a, [], m, rfl, ⟨hl, hm, by simp, (fun h => by cases h), fun i hi => absurd hi (Nat.not_lt_zero i)⟩⟩
  · obtain ⟨x0, _⟩ := each 0 (by omega)
    haveI : Inhabited α := ⟨x0⟩
    obtain ⟨f, hf⟩ := Go.Deep.choose_lt each
    have hlen : ((List.range len).map f).length = len := by simp
    refine ⟨some a, (List.range len).map f, m, by rw [hlen], ⟨by rw [hlen]; exact hl, hm, by rw [hlen]; exact hlb, (fun h => by cases h), fun i hi => ?_⟩⟩
    rw [hlen] at hi
    obtain ⟨b, o, rfl, hE'⟩ := hf i hi
    exact ⟨b, o, rfl, by simpa using hE'⟩

/-- A formula, with so many parts. -/
theorem opensTo_node {α : Type} {N : Nat} {t : TypeId} {f0 f1 f2 : Field} {V : ElV α} (ht : P.underlying t = some (.struct #[f0, f1, f2])) (o0 : f0.offset = 0) (o1 : f1.offset = 1) (o2 : f2.offset = 3)
    (hc : P.cellsOf t = 4) (hb : P.bytesOf t = 64) (h0 : OpensV enc P f0.type intV) (h1 : OpensV enc P f1.type linV) (hk : P.underlying f2.type = some (.slice t)) (hk1 : P.cellsOf f2.type = 1) (h2 : OpensTo N enc P t V) : OpensTo (N + 1) enc P t (nodeV V) where
  cells := hc
  bytes := hb
  open_ := fun W fuel cs y hl hy hN hw => by
    obtain ⟨xs, n, hn, rfl, hl', hxl, hf⟩ := DataW.trod_struct ht hy
    obtain ⟨y0, y1, y2, rfl⟩ : ∃ y0 y1 y2, xs = [y0, y1, y2] := by
      match xs, hxl with
      | [y0, y1, y2], _ => exact ⟨y0, y1, y2, rfl⟩
    have g0 := hf 0 f0 rfl
    have g1 := hf 1 f1 rfl
    have g2 := hf 2 f2 rfl
    rw [o0, h0.cells, List.drop_zero] at g0
    rw [o1, h1.cells] at g1
    rw [o2, hk1] at g2
    simp only [List.getElem?_cons_zero, List.getElem?_cons_succ] at g0 g1 g2
    match cs, hl with
    | [v0, v1, v2, v3], _ =>
    obtain ⟨x0, e0, i0⟩ := h0.open_ W n _ y0 (by rfl) g0 (fun m hm => hw m (by simp only [DataW.weights, ht, List.map_cons, List.map_nil, weightsEach_cons, List.mem_append]; exact .inl hm))
    obtain ⟨x1, hx1⟩ := h1.open_ W n _ y1 (by rfl) g1 (fun m hm => hw m (by simp only [DataW.weights, ht, List.map_cons, List.map_nil, weightsEach_cons, List.mem_append]; exact .inr (.inl hm)))
    obtain ⟨A, cap, e1, i1, hm1⟩ := lin_cells hx1
    have hN2 : SizeOf.sizeOf y2.1 < N + 1 := by
      simp only [List.map_cons, List.map_nil, DataW.agg.sizeOf_spec, List.cons.sizeOf_spec] at hN
      omega
    obtain ⟨B, l, capk, e2, hs2⟩ := open_slTo hk h2 g2 hN2 (fun m hm => hw m (by simp only [DataW.weights, ht, List.map_cons, List.map_nil, weightsEach_cons, List.mem_append]; exact .inr (.inr (.inl hm))))
    have e0' : [v0] = [Value.int .i64 x0] := e0
    have e1' : [v1, v2] = [Value.int .i64 x1.1, .slice A x1.2.length cap] := e1
    have e2' : [v3] = [Value.slice B l.length capk] := e2
    simp only [List.cons.injEq, and_true] at e0' e1' e2'
    obtain ⟨e1a, e1b⟩ := e1'
    exact ⟨⟨x0, x1, l⟩, A, cap, B, capk, by rw [e0', e1a, e1b, e2'], i0, i1, hm1, hs2⟩
end

section
variable {H : Type} {enc : TypeId × Value → H}
theorem opensTo_form : ∀ N, OpensTo N enc Tryz.prog 49 (formV N)
  | 0 => ⟨by kernel_rfl, by kernel_rfl, fun _ _ _ _ _ _ h => absurd h (Nat.not_lt_zero _)⟩
  | N + 1 => opensTo_node Tryz.underlying49 rfl rfl rfl (by kernel_rfl) (by kernel_rfl) (opensV_int Tryz.underlying3 (by kernel_rfl) (by kernel_rfl)) opensV_lin Tryz.underlying41 (by kernel_rfl) (opensTo_form N)
set_option maxRecDepth 10000 in
/-- An argument that is a formula. -/
theorem arg_form {W : World} {v : Value} {d : DataW H} {p : List MemPlace} {r : Reach} {base : Nat}
    (hv : Value.okWide Tryz.prog W r base 49 v) (h : DataW.Trod enc Tryz.prog W 0 (fun _ => true) true 49 v d p) (hw : ∀ n ∈ d.weights Tryz.prog 49, n ≤ reachBytes) :
    ∃ n, ∃ x : Node (FT n), ∃ A cap B capk, v = .agg #[.int .i64 x.kind, .int .i64 x.lin.1, .slice A x.lin.2.length cap, .slice B x.kids.length capk] ∧ I64 x.kind ∧ I64 x.lin.1 ∧ Monos (Old W) W A x.lin.2 cap ∧ Forms (Old W) W B x.kids capk := by
  obtain ⟨cs, rfl, hsz⟩ := okWide_struct Tryz.underlying49 hv
  obtain ⟨fuel, hf⟩ := h
  have hO := opensTo_form (enc := enc) (SizeOf.sizeOf d + 1)
  have hl : cs.toList.length = 4 := by rw [Array.length_toList, hsz, hO.cells]; rfl
  obtain ⟨x, hx⟩ := hO.open_ W fuel cs.toList (d, p) hl hf (Nat.lt_succ_self _) hw
  obtain ⟨A, cap, B, capk, e, h1, h2, h3, h4⟩ := node_cells hx
  refine ⟨SizeOf.sizeOf d, x, A, cap, B, capk, ?_, h1, h2, h3, h4⟩
  have : cs = cs.toList.toArray := by simp
  rw [this, e]
end
end Go.Proofs.YtpmndblakmobdaaGreatDoor
/- FrmA -/
namespace Go.Proofs.YtpmndblakmobdaaGreatDoor
open Go Go.RowKit

theorem obj_four {w : World} {b : Nat} {x y z u : Value} {t : TypeId} (h : w.heap[b]? = some (.cells #[x, y, z, u] t (0, 0))) :
    w.cell? ⟨b, 0, none⟩ = some x ∧ w.cell? ⟨b, 1, none⟩ = some y ∧ w.cell? ⟨b, 2, none⟩ = some z ∧ w.cell? ⟨b, 3, none⟩ = some u := by
  simp [World.cell?, h]

/-- Through a list as long as the number is not below 0. -/
def goF {α : Type} (s : α → Int → Int) : List α → Int → Int
  | [], l => l
  | k :: ks, l => if 0 ≤ l then goF s ks (s k l) else l
theorem goF_neg {α : Type} (s : α → Int → Int) {l : Int} (h : l < 0) : ∀ ks : List α, goF s ks l = l
  | [] => rfl
  | k :: ks => by unfold goF; rw [if_neg (by omega)]
theorem goF_step {α : Type} (s : α → Int → Int) {l : Int} (h : 0 ≤ l) (ks : List α) (i : Nat) (hi : i < ks.length) : goF s (ks.drop i) l = goF s (ks.drop (i + 1)) (s ks[i] l) := by
  rw [List.drop_eq_getElem_cons hi]
  show (if 0 ≤ l then _ else _) = _
  rw [if_pos h]
theorem goF_range {α : Type} {s : α → Int → Int} (hs : ∀ k l, 0 ≤ l → -1 ≤ s k l ∧ s k l ≤ l) : ∀ (ks : List α) (l : Int), -1 ≤ l → -1 ≤ goF s ks l ∧ goF s ks l ≤ l
  | [], l, h => ⟨h, Int.le_refl _⟩
  | k :: ks, l, h => by
    unfold goF
    split
    · rename_i h0
      have h1 := hs k l h0
      have h2 := goF_range hs ks (s k l) h1.1
      omega
    · omega
/-- How many formulas are left. -/
def sizeF : (n : Nat) → FT n → Int → Int
  | 0, _, l => l
  | n + 1, f, l => goF (sizeF n) (Node.kids f) (l - 1)
theorem sizeF_range : ∀ (n : Nat) (f : FT n) (l : Int), 0 ≤ l → -1 ≤ sizeF n f l ∧ sizeF n f l ≤ l
  | 0, _, l, h => ⟨by unfold sizeF; omega, by unfold sizeF; omega⟩
  | n + 1, f, l, h => by
    have := goF_range (s := sizeF n) (sizeF_range n) (Node.kids f) (l - 1) (by omega)
    unfold sizeF
    omega

/-- How deep one is, at most one more than a bound. -/
def depthF : (n : Nat) → FT n → Nat → Nat
  | 0, _, _ => 0
  | _ + 1, _, 0 => 1
  | n + 1, f, b + 1 => (Node.kids f).foldl (fun m k => max m (depthF n k b)) 0 + 1
theorem foldl_max_le {α : Type} (s : α → Nat) (K : Nat) : ∀ (ks : List α) (m : Nat), (ks.foldl (fun m k => max m (s k)) m ≤ K ↔ m ≤ K ∧ ∀ k ∈ ks, s k ≤ K)
  | [], m => by simp
  | k :: ks, m => by
    rw [List.foldl_cons, foldl_max_le s K ks]
    simp only [List.mem_cons, forall_eq_or_imp, Nat.max_le, and_assoc]
theorem depthF_le : ∀ (n : Nat) (f : FT n) (b : Nat), depthF n f b ≤ b + 1
  | 0, _, b => by unfold depthF; omega
  | _ + 1, _, 0 => by unfold depthF; omega
  | n + 1, f, b + 1 => by
    unfold depthF
    have := (foldl_max_le (fun k => depthF n k b) (b + 1) (Node.kids f) 0).2 ⟨Nat.zero_le _, fun k _ => depthF_le n k b⟩
    omega

end Go.Proofs.YtpmndblakmobdaaGreatDoor
/- CnfA -/
namespace Go.Proofs.YtpmndblakmobdaaGreatDoor
open Go Go.RowKit

/-- Whether a form is canonical. -/
def canonB (c : Int) (t : List Mono) : Bool := linB c t && decide (0 < (t.getD 0 (0, 0)).2) && decide (gcdN t = 1)

/-- A formula's kind. -/
def kindF : (n : Nat) → FT n → Int
  | 0, _ => -1
  | _ + 1, f => Node.kind f
theorem form_kind : ∀ {n : Nat} {R : Nat → Prop} {w : World} {v : Value} {r : List Value} {x : FT n}, (formV n) R w (v :: r) x → v = .int .i64 (kindF n x)
  | 0, _, _, _, _, _, h => h.elim
  | n + 1, _, _, _, _, _, h => by
    obtain ⟨A, cap, B, capk, e, _⟩ := node_cells h
    injection e
def kind0 (n : Nat) (ks : List (FT n)) : Int := ((ks.head?).map (kindF n)).getD (-1)
theorem kind0_eq {n : Nat} {ks : List (FT n)} (h : 0 < ks.length) : kindF n ks[0] = kind0 n ks := by
  match ks, h with
  | k :: _, _ => rfl
/-- What a normalized formula is at its head. -/
def okB (kd : Int) (nb cn : Bool) (kl : Nat) (k0 : Int) : Bool :=
  (decide (kd = 0) || decide (kd = 1)) && nb && decide (kl = 0) || decide (kd = 2) && cn && decide (kl = 0) || decide (kd = 4) && nb && decide (kl = 1) && decide (k0 = 2) || (decide (kd = 5) || decide (kd = 6)) && nb
def noneB (c : Int) (tl : Nat) : Bool := decide (c = 0) && decide (tl = 0)
/-- The same of a node. -/
def okN {n : Nat} (f : Node (FT n)) : Bool := okB f.kind (noneB f.lin.1 f.lin.2.length) (canonB f.lin.1 f.lin.2) f.kids.length (kind0 n f.kids)
/-- norm.walk. -/
def walkF : (n : Nat) → Nat → FT n → Int → Int
  | 0, _, _, _ => -1
  | n + 1, d, f, l => if okN f = true ∧ 1 ≤ d then goF (walkF n (d - 1)) (Node.kids f) (l - 1) else -1
theorem walkF_range : ∀ (n d : Nat) (f : FT n) (l : Int), 0 ≤ l → -1 ≤ walkF n d f l ∧ walkF n d f l ≤ l
  | 0, _, _, l, h => ⟨by unfold walkF; omega, by unfold walkF; omega⟩
  | n + 1, d, f, l, h => by
    have := goF_range (s := walkF n (d - 1)) (walkF_range n (d - 1)) (Node.kids f) (l - 1) (by omega)
    unfold walkF
    split <;> omega
/-- Made of literals, FAnd and FOr. -/
def onlyF : (n : Nat) → FT n → Bool
  | 0, _ => false
  | n + 1, f => okN f && (Node.kids f).all (onlyF n)

/-- Whether a formula is normalized. -/
def isB (n : Nat) (f : FT n) : Bool := decide (0 ≤ walkF n 128 f 20480)
end Go.Proofs.YtpmndblakmobdaaGreatDoor
/- CnfB -/
namespace Go.Proofs.YtpmndblakmobdaaGreatDoor
open Go Go.RowKit

theorem beq0 (a : Nat) : ((a : Int) == 0) = decide (a = 0) := by rw [Bool.eq_iff_iff]; simp
theorem beq1 (a : Nat) : ((a : Int) == 1) = decide (a = 1) := by rw [Bool.eq_iff_iff]; simp; omega

def ref03IsB (n : Nat) (f : FT n) : Bool := decide (depthF n f 128 ≤ 128) && decide (0 ≤ sizeF n f 20480) && onlyF n f
end Go.Proofs.YtpmndblakmobdaaGreatDoor
/- CnfC -/
namespace Go.Proofs.YtpmndblakmobdaaGreatDoor
open Go Go.RowKit

theorem goF_zero {α : Type} (s : α → Int → Int) : ∀ (ks : List α) (l : Int), 0 ≤ goF s ks l → 0 ≤ l ∧ ∀ k ∈ ks, ∃ l', 0 ≤ l' ∧ 0 ≤ s k l'
  | [], l, h => ⟨h, fun k hk => by cases hk⟩
  | k :: ks, l, h => by
    unfold goF at h
    split at h
    · rename_i h0
      obtain ⟨h1, h2⟩ := goF_zero s ks _ h
      refine ⟨h0, fun x hx => ?_⟩
      rcases List.mem_cons.1 hx with rfl | hx
      · exact ⟨l, h0, h1⟩
      · exact h2 x hx
    · exact ⟨h, fun _ _ => absurd h (by assumption)⟩
theorem goF_congr {α : Type} {s s' : α → Int → Int} : ∀ (ks : List α) (l : Int), (∀ k ∈ ks, ∀ l, 0 ≤ l → s k l = s' k l) → goF s ks l = goF s' ks l
  | [], l, _ => rfl
  | k :: ks, l, h => by
    unfold goF
    split
    · rename_i h0
      rw [h k (by simp) l h0]
      exact goF_congr ks _ (fun x hx => h x (by simp [hx]))
    · rfl
theorem depthF_iff {n : Nat} {f : FT (n + 1)} {d : Nat} : depthF (n + 1) f d ≤ d ↔ 1 ≤ d ∧ ∀ k ∈ Node.kids f, depthF n k (d - 1) ≤ d - 1 := by
  cases d with
  | zero => exact ⟨fun h => by have : (1 : Nat) ≤ 0 := h; omega, fun h => by omega⟩
  | succ d =>
    have := foldl_max_le (fun k => depthF n k d) d (Node.kids f) 0
    constructor
    · intro h
      refine ⟨by omega, (this.1 ?_).2⟩
      have h2 : (Node.kids f).foldl (fun m k => max m (depthF n k d)) 0 + 1 ≤ d + 1 := h
      omega
    · intro h
      have h2 := this.2 ⟨Nat.zero_le _, h.2⟩
      show (Node.kids f).foldl (fun m k => max m (depthF n k d)) 0 + 1 ≤ d + 1
      omega
theorem walk_law : ∀ (n d : Nat) (f : FT n), (∀ l, 0 ≤ l → 0 ≤ walkF n d f l → onlyF n f = true ∧ depthF n f d ≤ d) ∧ (onlyF n f = true → depthF n f d ≤ d → ∀ l, 0 ≤ l → walkF n d f l = sizeF n f l)
  | 0, d, f => ⟨fun l _ h => by unfold walkF at h; omega, fun h => by unfold onlyF at h; cases h⟩
  | n + 1, d, f => by
    constructor
    · intro l h0 h
      unfold walkF at h
      split at h
      · rename_i hc
        obtain ⟨_, h2⟩ := goF_zero _ _ _ h
        refine ⟨?_, depthF_iff.2 ⟨hc.2, fun k hk => ?_⟩⟩
        · unfold onlyF
          rw [hc.1, Bool.true_and, List.all_eq_true]
          intro k hk
          obtain ⟨l', g1, g2⟩ := h2 k hk
          exact ((walk_law n (d - 1) k).1 l' g1 g2).1
        · obtain ⟨l', g1, g2⟩ := h2 k hk
          exact ((walk_law n (d - 1) k).1 l' g1 g2).2
      · omega
    · intro ho hd l h0
      unfold onlyF at ho
      rw [Bool.and_eq_true, List.all_eq_true] at ho
      obtain ⟨h1, h2⟩ := depthF_iff.1 hd
      unfold walkF sizeF
      rw [if_pos ⟨ho.1, h1⟩]
      exact goF_congr _ _ (fun k hk l hl => (walk_law n (d - 1) k).2 (ho.2 k hk) (h2 k hk) l hl)
theorem is_eq (n : Nat) (f : FT n) : isB n f = ref03IsB n f := by
  unfold isB ref03IsB
  rw [Bool.eq_iff_iff]
  have h := walk_law n 128 f
  simp only [Bool.and_eq_true, decide_eq_true_eq]
  constructor
  · intro h0
    obtain ⟨h1, h2⟩ := h.1 20480 (by omega) h0
    exact ⟨⟨h2, by rw [← h.2 h1 h2 20480 (by omega)]; exact h0⟩, h1⟩
  · rintro ⟨⟨h2, h3⟩, h1⟩
    rw [h.2 h1 h2 20480 (by omega)]
    exact h3
/-- How many formulas there are. -/
def cntF : (n : Nat) → FT n → Nat
  | 0, _ => 0
  | n + 1, f => 1 + ((Node.kids f).map (cntF n)).sum
theorem goF_size {α : Type} {s : α → Int → Int} {c : α → Nat} : ∀ (ks : List α) (l : Int), (∀ k ∈ ks, ∀ l, 0 ≤ l → 0 ≤ s k l → s k l = l - c k) → 0 ≤ goF s ks l → goF s ks l = l - (ks.map c).sum
  | [], l, _, _ => by simp [goF]
  | k :: ks, l, h, h0 => by
    have hz := (goF_zero s (k :: ks) l h0).1
    unfold goF at h0 ⊢
    rw [if_pos hz] at h0 ⊢
    have h1 := (goF_zero s ks _ h0).1
    rw [goF_size ks _ (fun x hx => h x (by simp [hx])) h0, h k (by simp) l hz h1]
    simp only [List.map_cons, List.sum_cons]
    omega
theorem size_cnt : ∀ (n : Nat) (f : FT n) (l : Int), 0 ≤ l → 0 ≤ sizeF n f l → sizeF n f l = l - cntF n f
  | 0, _, l, _, _ => by simp [sizeF, cntF]
  | n + 1, f, l, h0, h => by
    unfold sizeF at h ⊢
    rw [goF_size (c := cntF n) _ _ (fun k _ l h0 h => size_cnt n k l h0 h) h]
    unfold cntF
    omega
theorem is_only {n : Nat} {f : FT n} (h : isB n f = true) : onlyF n f = true ∧ cntF n f ≤ 20480 := by
  rw [is_eq] at h
  simp only [ref03IsB, Bool.and_eq_true, decide_eq_true_eq] at h
  have := size_cnt n f 20480 (by omega) h.1.2
  exact ⟨h.2, by omega⟩

/-- Where a form stands among atoms, from 1 on. -/
def atI (l : List Lin) (a : Lin) : Int := 1 + findI (fun o => decide (a.1 = o.1 ∧ a.2 = o.2)) l
theorem findI_range {α : Type} (p : α → Bool) (l : List α) : -1 ≤ findI p l ∧ findI p l < l.length := by
  unfold findI
  cases h : l.findIdx? p with
  | none => simp only; omega
  | some k =>
    rw [List.findIdx?_eq_some_iff_getElem] at h
    obtain ⟨hk, _⟩ := h
    simp only; omega
theorem atI_range (l : List Lin) (a : Lin) : 0 ≤ atI l a ∧ atI l a ≤ l.length := by
  have := findI_range (fun o : Lin => decide (a.1 = o.1 ∧ a.2 = o.2)) l
  unfold atI; omega
/-- A formula's atoms, behind those that are there. -/
def atomsF : (n : Nat) → FT n → List Lin → List Lin
  | 0, _, l => l
  | n + 1, f, l => (Node.kids f).foldl (fun l k => atomsF n k l) (if Node.kind f = 2 ∧ atI l (Node.lin f) = 0 then l ++ [Node.lin f] else l)
theorem foldl_len {α β : Type} {s : List β → α → List β} {c : α → Nat} : ∀ (ks : List α) (l : List β), (∀ k ∈ ks, ∀ l, (s l k).length ≤ l.length + c k) → (ks.foldl s l).length ≤ l.length + (ks.map c).sum
  | [], l, _ => by simp
  | k :: ks, l, h => by
    have h1 := foldl_len (s := s) (c := c) ks (s l k) (fun x hx => h x (by simp [hx]))
    have h2 := h k (by simp) l
    simp only [List.foldl_cons, List.map_cons, List.sum_cons]
    omega
theorem atoms_len : ∀ (n : Nat) (f : FT n) (l : List Lin), (atomsF n f l).length ≤ l.length + cntF n f
  | 0, _, l => by simp [atomsF]
  | n + 1, f, l => by
    unfold atomsF cntF
    refine Nat.le_trans (foldl_len (c := cntF n) _ _ (fun k _ l => atoms_len n k l)) ?_
    split
    · simp; omega
    · omega

/-- The clauses of a part that is no literal. -/
def gate (kd : Int) (v : Int) (ks : List Int) : List (List Int) :=
  if kd = 6 ∨ kd = 1 then ks.map (fun k => [v, -k]) ++ [-v :: ks] else ks.map (fun k => [-v, k]) ++ [v :: ks.map (fun k => -k)]
/-- A formula's clauses behind those that are there: how many variables; the clauses; its literal. -/
def litF : (n : Nat) → FT n → List Lin → Int → List (List Int) → Int × List (List Int) × Int
  | 0, _, _, N, out => (N, out, 0)
  | n + 1, f, A, N, out =>
    if Node.kind f = 2 then (N, out, atI A (Node.lin f))
    else if Node.kind f = 4 then
      match Node.kids f with
      | [] => (N, out, 0)
      | k :: _ => ((litF n k A N out).1, (litF n k A N out).2.1, -(litF n k A N out).2.2)
    else
      let r := (Node.kids f).foldl (fun (s : Int × List (List Int) × List Int) k => ((litF n k A s.1 s.2.1).1, (litF n k A s.1 s.2.1).2.1, s.2.2 ++ [(litF n k A s.1 s.2.1).2.2])) (N, out, [])
      (r.1 + 1, r.2.1 ++ gate (Node.kind f) (r.1 + 1) r.2.2, r.1 + 1)
/-- Through the kids. -/
def litL (n : Nat) (A : List Lin) (ks : List (FT n)) (s : Int × List (List Int) × List Int) : Int × List (List Int) × List Int :=
  ks.foldl (fun s k => ((litF n k A s.1 s.2.1).1, (litF n k A s.1 s.2.1).2.1, s.2.2 ++ [(litF n k A s.1 s.2.1).2.2])) s
theorem litL_take {n : Nat} {A : List Lin} {ks : List (FT n)} {s : Int × List (List Int) × List Int} {i : Nat} (hi : i < ks.length) :
    litL n A (ks.take (i + 1)) s = ((litF n ks[i] A (litL n A (ks.take i) s).1 (litL n A (ks.take i) s).2.1).1, (litF n ks[i] A (litL n A (ks.take i) s).1 (litL n A (ks.take i) s).2.1).2.1, (litL n A (ks.take i) s).2.2 ++ [(litF n ks[i] A (litL n A (ks.take i) s).1 (litL n A (ks.take i) s).2.1).2.2]) := by
  unfold litL
  rw [List.take_succ_eq_append_getElem hi, List.foldl_append]
  rfl
theorem gate_len (kd v : Int) (ks : List Int) : (gate kd v ks).length = ks.length + 1 := by
  unfold gate; split <;> simp
/-- What holds of a formula's clauses: how many variables, clauses; its literal. -/
def LitR (A : List Lin) (n : Nat) (k : FT n) : Prop := ∀ (N : Int) (out : List (List Int)), A.length ≤ N → N ≤ (litF n k A N out).1 ∧ (litF n k A N out).1 ≤ N + cntF n k ∧ (litF n k A N out).2.1.length + 1 ≤ out.length + 2 * cntF n k ∧ -(litF n k A N out).1 ≤ (litF n k A N out).2.2 ∧ (litF n k A N out).2.2 ≤ (litF n k A N out).1
theorem litL_range {n : Nat} {A : List Lin} :
    ∀ (ks : List (FT n)) (s : Int × List (List Int) × List Int), (∀ k ∈ ks, LitR A n k) → A.length ≤ s.1 → (∀ x ∈ s.2.2, -s.1 ≤ x ∧ x ≤ s.1) →
      s.1 ≤ (litL n A ks s).1 ∧ (litL n A ks s).1 ≤ s.1 + (ks.map (cntF n)).sum ∧ (litL n A ks s).2.1.length + ks.length ≤ s.2.1.length + 2 * (ks.map (cntF n)).sum ∧ (litL n A ks s).2.2.length = s.2.2.length + ks.length ∧ ∀ x ∈ (litL n A ks s).2.2, -(litL n A ks s).1 ≤ x ∧ x ≤ (litL n A ks s).1
  | [], s, _, h1, h2 => by
    refine ⟨Int.le_refl _, by simp [litL], by simp [litL], by simp [litL], h2⟩
  | k :: ks, s, h, h1, h2 => by
    have g := h k (by simp) s.1 s.2.1 h1
    have r := litL_range ks ((litF n k A s.1 s.2.1).1, (litF n k A s.1 s.2.1).2.1, s.2.2 ++ [(litF n k A s.1 s.2.1).2.2]) (fun x hx => h x (by simp [hx])) (by simp only; omega) (fun x hx => by
      simp only at hx ⊢
      rcases List.mem_append.1 hx with hx | hx
      · have := h2 x hx; omega
      · simp at hx; subst hx; omega)
    have e : litL n A (k :: ks) s = litL n A ks ((litF n k A s.1 s.2.1).1, (litF n k A s.1 s.2.1).2.1, s.2.2 ++ [(litF n k A s.1 s.2.1).2.2]) := rfl
    rw [e]
    simp only [List.length_append, List.length_cons, List.length_nil, List.map_cons, List.sum_cons] at r ⊢
    obtain ⟨r1, r2, r3, r4, r5⟩ := r
    exact ⟨by omega, by omega, by omega, by omega, r5⟩
theorem sum_cnt_len : ∀ {n : Nat} (ks : List (FT n)), (∀ k ∈ ks, onlyF n k = true) → ks.length ≤ (ks.map (cntF n)).sum
  | _, [], _ => by simp
  | 0, k :: ks, h => by have := h k (by simp); unfold onlyF at this; cases this
  | n + 1, k :: ks, h => by
    have := sum_cnt_len ks (fun x hx => h x (by simp [hx]))
    simp only [List.length_cons, List.map_cons, List.sum_cons]
    have : 1 ≤ cntF (n + 1) k := by unfold cntF; omega
    omega
theorem only_kids {n : Nat} {f : FT (n + 1)} (h : onlyF (n + 1) f = true) : okN f = true ∧ ∀ k ∈ Node.kids f, onlyF n k = true := by
  unfold onlyF at h
  rw [Bool.and_eq_true, List.all_eq_true] at h
  exact h
theorem only_le {n : Nat} {f : FT (n + 1)} (h : okN f = true) (hk : Node.kind f = 2) : Node.kids f = [] := by
  unfold okN okB at h
  rw [hk] at h
  simp at h
  exact h.2
theorem only_not {n : Nat} {f : FT (n + 1)} (h : okN f = true) (hk : Node.kind f = 4) : (Node.kids f).length = 1 := by
  unfold okN okB at h
  rw [hk] at h
  simp at h
  exact h.1.2
theorem only_kind {n : Nat} {f : FT (n + 1)} (h : okN f = true) : Node.kind f = 0 ∧ Node.kids f = [] ∨ Node.kind f = 1 ∧ Node.kids f = [] ∨ Node.kind f = 2 ∨ Node.kind f = 4 ∨ Node.kind f = 5 ∨ Node.kind f = 6 := by
  unfold okN okB at h
  simp at h
  rcases h with ((⟨⟨h, _⟩, hk⟩ | h) | h) | h
  · rcases h with h | h
    · exact .inl ⟨h, hk⟩
    · exact .inr (.inl ⟨h, hk⟩)
  · exact .inr (.inr (.inl h.1.1))
  · exact .inr (.inr (.inr (.inl h.1.1.1)))
  · rcases h.1 with h | h
    · exact .inr (.inr (.inr (.inr (.inl h))))
    · exact .inr (.inr (.inr (.inr (.inr h))))
theorem litF_range (A : List Lin) : ∀ (n : Nat) (f : FT n), onlyF n f = true → LitR A n f
  | 0, _, h => by unfold onlyF at h; cases h
  | n + 1, f, h => by
    intro N out hN
    obtain ⟨h1, h2⟩ := only_kids h
    have ih : ∀ k ∈ Node.kids f, LitR A n k := fun k hk => litF_range A n k (h2 k hk)
    have hs := sum_cnt_len (Node.kids f) h2
    have hr := litL_range (A := A) (Node.kids f) (N, out, []) ih hN (by simp)
    have hc : cntF (n + 1) f = 1 + ((Node.kids f).map (cntF n)).sum := rfl
    unfold litF
    split
    · have := atI_range A (Node.lin f)
      simp only
      omega
    · split
      · have hl := only_not h1 (by assumption)
        rw [hc]
        cases hk : Node.kids f with
        | nil => rw [hk] at hl; simp at hl
        | cons k ks =>
          have := ih k (by rw [hk]; simp) N out hN
          simp only [List.map_cons, List.sum_cons]
          omega
      · obtain ⟨r1, r2, r3, r4, r5⟩ := hr
        simp only [List.length_append, gate_len]
        have r4' : (litL n A (Node.kids f) (N, out, [])).2.2.length = (Node.kids f).length := by rw [r4]; simp
        clear r4
        unfold litL at r1 r2 r3 r4' r5
        simp only at r1 r2 r3
        omega
end Go.Proofs.YtpmndblakmobdaaGreatDoor
/- FrmB -/
namespace Go.Proofs.YtpmndblakmobdaaGreatDoor
open Go Go.RowKit

theorem shape4 : ∀ {n : Nat} {R : Nat → Prop} {w : World} {cs : List Value} {x : FT n}, (formV n) R w cs x → ∃ kd c A tl cap B kl capk, cs = [.int .i64 kd, .int .i64 c, .slice A tl cap, .slice B kl capk]
  | 0, _, _, _, _, h => h.elim
  | n + 1, _, _, _, _, h => by
    obtain ⟨A, cap, B, capk, e, _⟩ := node_cells h
    exact ⟨_, _, _, _, _, _, _, _, e⟩
theorem obj4_frozen {w : World} {b : Nat} {x y z u : Value} {t : TypeId} (h : w.heap[b]? = some (.cells #[x, y, z, u] t (0, 0))) (i : Nat) : w.frozen? ⟨b, i, none⟩ = false := by
  simp [World.frozen?, h]
section
variable {P : Program} {α : Type} {V : ElV α} {t e : TypeId} {z : Value} {ops : Array Oper} {o : Oper} {act : Act} {Q : Exit → Act → World → Prop} {K : Act → World → Prop} {F : Prop}
/-- append([]T{}, src...) at a step of a region that draws its order. -/
theorem step_copyL (g : V.Good) (h1 : ∀ {R w cs x}, V R w cs x → ∀ u ∈ cs, u.oneCell' = true) (T : SliceTy P t e V.sz V.bytes z) (hgd : o.guard = none) (s xo : Operand)
    (ho : o.op = .call { callee := .builtin .append, args := #[s, xo], argTypes := #[t, t] })
    {M : Nat → Prop} {w W0 : World} {b : Nat} (hb : w.heap[b]? = some (.cells #[] e (0, 0))) (hMb : M b) (hM : ∀ k, w.heap.size ≤ k → M k) (hMW : ∀ k, M k → W0.heap.size ≤ k) (hw : Chg No W0 w) (hs : act.eval s = .slice (some ⟨b, 0, none⟩) 0 0) {R : Nat → Prop} {A : Option Addr} {l : List α} {n cap : Nat} (hn : n = l.length) (hl : Sl V.mem V.sz R W0 A l cap) (hx : act.eval xo = .slice A n cap)
    (h : ∀ A' cap' w', OwnL V e M R w' (.slice A' l.length cap') l → Chg No W0 w' → Chg (fun k => k = b) w w' → K (act.put o.dst (.slice A' n cap')) w') :
    if Region.wanted o (yielded ops act.tmps) = true then Oper.wp P o act w K Q else F := by
  subst hn
  have hown : Own M e V.sz w (.slice (some ⟨b, 0, none⟩) 0 0) 0 [] :=
    ⟨by simp, .inr ⟨b, 0, 0, #[], rfl, hMb, hb, Nat.le_refl _, Nat.zero_le _, by simp, by simp⟩⟩
  obtain ⟨C, hC1, hC2, hC3, hC4⟩ := hl.cellsOf
  have hroom : l.length * V.bytes ≤ 140737488355328 := hl.room
  have keep : ∀ {w' : World} {A' : Option Addr} {n' cap' : Nat}, Chg No W0 w' → (∀ k, (Value.slice A' n' cap').ownBlock = some k → W0.heap.size ≤ k) → ∀ i (h1 : i < l.length) (h2 : i < C.length), V (fun k => R k ∧ (Value.slice A' n' cap').ownBlock ≠ some k) w' C[i] l[i] := fun hcw hfar i h1 h2 => by
    have e1 := g.mono (hC3 i h1 h2) (R' := fun k => R k ∧ k < W0.heap.size) (fun k hk hR => ⟨hR, hk⟩)
    exact g.mono (g.no e1 hcw) (fun k _ hk => ⟨hk.1, fun e => by have := hfar k e; omega⟩)
  cases A with
  | none =>
    have h0 : l = [] := List.eq_nil_of_length_eq_zero (by have := hl.le; have := hl.nil rfl; omega)
    subst h0
    have hwt : Region.wanted o (yielded ops act.tmps) = true := by simp [Region.wanted, hgd]
    rw [if_pos hwt]
    have hrun := run_append_none (P := P) T o.type hown cap
    unfold Oper.wp execOp
    simp only [ho, resolve, invoke, builtin, Sem.run_bind, Sem.run_pure, Result.andThen_ok, List.map_toArray, List.map_cons, List.map_nil, hs, hx, List.length_nil, hrun]
    exact h (some ⟨b, 0, none⟩) 0 _ ⟨[], hown, rfl, fun i h => absurd h (Nat.not_lt_zero i)⟩ hw (Chg.refl _ _)
  | some a =>
    refine step_append_Own T hgd s xo ho hM hown hs (a := a) (m := l.length) (c := cap) (news := C.flatten) hx (by rw [flatten_length hC2, hC1]) (fun j u hj => ?_) (fun u hu => ?_) (by rw [Nat.zero_add]; exact hroom) (fun A cap' w' g1 g2 g3 => ?_)
    · rcases hC4 with h0 | ⟨b, o, hA, hcell⟩
      · subst h0
        have : C = [] := List.eq_nil_of_length_eq_zero (by simpa using hC1)
        subst this; simp at hj
      · injection hA with hA
        rw [hA, addr_add]
        exact hw.cell (hcell j u hj) id
    · obtain ⟨c, hcC, huc⟩ := List.mem_flatten.1 hu
      obtain ⟨i, hi, rfl⟩ := List.getElem_of_mem hcC
      exact h1 (hC3 i (by omega) hi) u huc
    · simp only [Nat.zero_add, List.nil_append] at g1 g3 ⊢
      have hcw : Chg No W0 w' := hw.trans g2 (fun k hk hlt => by simp [Value.ownBlock] at hk; have := hMW b hMb; omega)
      exact h A cap' w' ⟨C, g1, hC1, keep hcw (fun k hk => hMW k (g1.mine k hk).1)⟩ hcw (g2.mono (fun k hk _ => by simp [Value.ownBlock] at hk; exact hk.symm))
end
end Go.Proofs.YtpmndblakmobdaaGreatDoor
