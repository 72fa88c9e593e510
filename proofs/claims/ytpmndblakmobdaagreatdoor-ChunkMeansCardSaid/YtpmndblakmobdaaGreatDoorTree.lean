/-
  Expressions, conditions and assertions in memory: trees of at most so many floors; how arguments are read as such.
-/
import Derived.Test.YtpmndblakmobdaaGreatDoorRows
import Derived.Test.YtpmndblakmobdaaGreatDoorMA
namespace Go.Proofs.YtpmndblakmobdaaGreatDoor
open Go Go.RowKit Go.WideShapes

/-- The cells of an element. -/
theorem vmem_at {α : Type} {V : ElV α} {R : Nat → Prop} {w : World} {A : Option Addr} {l : List α} {cap : Nat} (h : Sl V.mem V.sz R w A l cap) (i : Nat) (hi : i < l.length) :
    ∃ b o cs, A = some ⟨b, o, none⟩ ∧ cs.length = V.sz ∧ V R w cs l[i] ∧ ∀ j u, cs[j]? = some u → w.cell? ⟨b, o + i * V.sz + j, none⟩ = some u := by
  obtain ⟨b, o, e, _, cs, hl, hc, hv⟩ := h.at_ i hi
  exact ⟨b, o, cs, e, hl, hv, hc⟩

/-- What an expression is, above its parts. -/
structure ENode (α : Type) where
  kind : Int
  num : Int
  name : ByteArray
  kids : List α
/-- Expressions of at most n floors. -/
def ET : Nat → Type
  | 0 => Unit
  | n + 1 => ENode (ET n)
def enodeV {α : Type} (V : ElV α) : ElV (ENode α) := ⟨4, by decide, 56, by decide, fun R w cs x => ∃ B capk, cs = [.int .i64 x.kind, .int .i64 x.num, .string x.name, .slice B x.kids.length capk] ∧ I64 x.kind ∧ I64 x.num ∧ x.name.size ≤ maxLen ∧ Sl V.mem V.sz R w B x.kids capk⟩
theorem enodeV_good {α : Type} {V : ElV α} (g : V.Good) : (enodeV V).Good where
  len := fun ⟨_, _, e, _⟩ => by rw [e]; rfl
  stay := fun ⟨B, capk, e, h1, h2, h3, h4⟩ hs => ⟨B, capk, e, h1, h2, h3, h4.stay g.mem hs⟩
  mono := fun ⟨B, capk, e, h1, h2, h3, h4⟩ hm => ⟨B, capk, e, h1, h2, h3, h4.mono g.mem hm⟩
/-- An expression in cells. -/
def exprV : (n : Nat) → ElV (ET n)
  | 0 => ⟨4, by decide, 56, by decide, fun _ _ _ _ => False⟩
  | n + 1 => enodeV (exprV n)
theorem exprV_sz : ∀ n, (exprV n).sz = 4
  | 0 => rfl
  | _ + 1 => rfl
theorem exprV_bytes : ∀ n, (exprV n).bytes = 56
  | 0 => rfl
  | _ + 1 => rfl
theorem exprV_good : ∀ n, (exprV n).Good
  | 0 => ⟨fun h => h.elim, fun h _ => h.elim, fun h _ => h.elim⟩
  | n + 1 => enodeV_good (exprV_good n)
abbrev Exprs {n : Nat} (R : Nat → Prop) (w : World) (A : Option Addr) (l : List (ET n)) (cap : Nat) : Prop := Sl (exprV n).mem 4 R w A l cap
theorem exprE_good (n : Nat) : (exprV n).mem.Good := (exprV_good n).mem
theorem enode_cells {n : Nat} {R : Nat → Prop} {w : World} {cs : List Value} {x : ENode (ET n)} (h : (exprV (n + 1)).at_ R w cs x) :
    ∃ B capk, cs = [.int .i64 x.kind, .int .i64 x.num, .string x.name, .slice B x.kids.length capk] ∧ I64 x.kind ∧ I64 x.num ∧ x.name.size ≤ maxLen ∧ Exprs R w B x.kids capk := by
  obtain ⟨B, capk, e, h1, h2, h3, h4⟩ := h
  rw [exprV_sz] at h4
  exact ⟨B, capk, e, h1, h2, h3, h4⟩
theorem expr_shape : ∀ {n : Nat} {R : Nat → Prop} {w : World} {cs : List Value} {x : ET n}, (exprV n) R w cs x → ∃ k m s B kl capk, cs = [.int .i64 k, .int .i64 m, .string s, .slice B kl capk]
  | 0, _, _, _, _, h => h.elim
  | n + 1, _, _, _, _, h => by
    obtain ⟨B, capk, e, _⟩ := enode_cells h
    exact ⟨_, _, _, _, _, _, e⟩
/-- A part's cells. -/
theorem exprs_at {n : Nat} {R : Nat → Prop} {w : World} {A : Option Addr} {l : List (ET n)} {cap : Nat} (h : Exprs R w A l cap) (i : Nat) (hi : i < l.length) :
    ∃ b o k m s B kl capk, A = some ⟨b, o, none⟩ ∧ (exprV n) R w [.int .i64 k, .int .i64 m, .string s, .slice B kl capk] l[i] ∧ w.cell? ⟨b, o + i * 4, none⟩ = some (.int .i64 k) ∧ w.cell? ⟨b, o + i * 4 + 1, none⟩ = some (.int .i64 m) ∧ w.cell? ⟨b, o + i * 4 + 2, none⟩ = some (.string s) ∧ w.cell? ⟨b, o + i * 4 + 3, none⟩ = some (.slice B kl capk) := by
  obtain ⟨b, o, e, _, cs, hl, hc, hv⟩ := h.at_ i hi
  obtain ⟨k, m, s, B, kl, capk, rfl⟩ := expr_shape hv
  exact ⟨b, o, k, m, s, B, kl, capk, e, hv, hc 0 _ rfl, hc 1 _ rfl, hc 2 _ rfl, hc 3 _ rfl⟩

/-- What a condition is, above its parts. -/
structure CNode (α β : Type) where
  kind : Int
  es : List α
  kids : List β
/-- Conditions of at most n floors, over expressions of at most m floors. -/
def CT (m : Nat) : Nat → Type
  | 0 => Unit
  | n + 1 => CNode (ET m) (CT m n)
def cnodeV {α β : Type} (U : ElV α) (V : ElV β) : ElV (CNode α β) := ⟨3, by decide, 56, by decide, fun R w cs x => ∃ A cape B capk, cs = [.int .i64 x.kind, .slice A x.es.length cape, .slice B x.kids.length capk] ∧ I64 x.kind ∧ Sl U.mem U.sz R w A x.es cape ∧ Sl V.mem V.sz R w B x.kids capk⟩
theorem cnodeV_good {α β : Type} {U : ElV α} {V : ElV β} (g : U.Good) (g' : V.Good) : (cnodeV U V).Good where
  len := fun ⟨_, _, _, _, e, _⟩ => by rw [e]; rfl
  stay := fun ⟨A, cape, B, capk, e, h1, h2, h3⟩ hs => ⟨A, cape, B, capk, e, h1, h2.stay g.mem hs, h3.stay g'.mem hs⟩
  mono := fun ⟨A, cape, B, capk, e, h1, h2, h3⟩ hm => ⟨A, cape, B, capk, e, h1, h2.mono g.mem hm, h3.mono g'.mem hm⟩
/-- A condition in cells. -/
def condV (m : Nat) : (n : Nat) → ElV (CT m n)
  | 0 => ⟨3, by decide, 56, by decide, fun _ _ _ _ => False⟩
  | n + 1 => cnodeV (exprV m) (condV m n)
theorem condV_sz (m : Nat) : ∀ n, (condV m n).sz = 3
  | 0 => rfl
  | _ + 1 => rfl
theorem condV_bytes (m : Nat) : ∀ n, (condV m n).bytes = 56
  | 0 => rfl
  | _ + 1 => rfl
theorem condV_good (m : Nat) : ∀ n, (condV m n).Good
  | 0 => ⟨fun h => h.elim, fun h _ => h.elim, fun h _ => h.elim⟩
  | n + 1 => cnodeV_good (exprV_good m) (condV_good m n)
abbrev Conds {m n : Nat} (R : Nat → Prop) (w : World) (A : Option Addr) (l : List (CT m n)) (cap : Nat) : Prop := Sl (condV m n).mem 3 R w A l cap
theorem condE_good (m n : Nat) : (condV m n).mem.Good := (condV_good m n).mem
theorem cnode_cells {m n : Nat} {R : Nat → Prop} {w : World} {cs : List Value} {x : CNode (ET m) (CT m n)} (h : (condV m (n + 1)).at_ R w cs x) :
    ∃ A cape B capk, cs = [.int .i64 x.kind, .slice A x.es.length cape, .slice B x.kids.length capk] ∧ I64 x.kind ∧ Exprs R w A x.es cape ∧ Conds R w B x.kids capk := by
  obtain ⟨A, cape, B, capk, e, h1, h2, h3⟩ := h
  rw [exprV_sz] at h2
  rw [condV_sz] at h3
  exact ⟨A, cape, B, capk, e, h1, h2, h3⟩
theorem cond_shape {m : Nat} : ∀ {n : Nat} {R : Nat → Prop} {w : World} {cs : List Value} {x : CT m n}, (condV m n) R w cs x → ∃ k A el cape B kl capk, cs = [.int .i64 k, .slice A el cape, .slice B kl capk]
  | 0, _, _, _, _, h => h.elim
  | n + 1, _, _, _, _, h => by
    obtain ⟨A, cape, B, capk, e, _⟩ := cnode_cells h
    exact ⟨_, _, _, _, _, _, _, e⟩
/-- A part's cells. -/
theorem conds_at {m n : Nat} {R : Nat → Prop} {w : World} {A : Option Addr} {l : List (CT m n)} {cap : Nat} (h : Conds R w A l cap) (i : Nat) (hi : i < l.length) :
    ∃ b o k A' el cape B kl capk, A = some ⟨b, o, none⟩ ∧ (condV m n) R w [.int .i64 k, .slice A' el cape, .slice B kl capk] l[i] ∧ w.cell? ⟨b, o + i * 3, none⟩ = some (.int .i64 k) ∧ w.cell? ⟨b, o + i * 3 + 1, none⟩ = some (.slice A' el cape) ∧ w.cell? ⟨b, o + i * 3 + 2, none⟩ = some (.slice B kl capk) := by
  obtain ⟨b, o, e, _, cs, hl, hc, hv⟩ := h.at_ i hi
  obtain ⟨k, A', el, cape, B, kl, capk, rfl⟩ := cond_shape hv
  exact ⟨b, o, k, A', el, cape, B, kl, capk, e, hv, hc 0 _ rfl, hc 1 _ rfl, hc 2 _ rfl⟩

/-- What an assertion is, above its parts. -/
structure ANode (γ α β : Type) where
  kind : Int
  c : γ
  e : α
  v : α
  field : ByteArray
  num : Int
  kids : List β
/-- Assertions of at most k floors. -/
def AT (m n : Nat) : Nat → Type
  | 0 => Unit
  | k + 1 => ANode (CT m n) (ET m) (AT m n k)
def anodeV {γ α β : Type} (C : ElV γ) (U : ElV α) (V : ElV β) : ElV (ANode γ α β) := ⟨15, by decide, 224, by decide, fun R w cs x => ∃ c1 c2 c3 B capk, cs = [.int .i64 x.kind] ++ (c1 ++ (c2 ++ (c3 ++ [.string x.field, .int .i64 x.num, .slice B x.kids.length capk]))) ∧ c1.length = 3 ∧ c2.length = 4 ∧ c3.length = 4 ∧
  I64 x.kind ∧ C R w c1 x.c ∧ U R w c2 x.e ∧ U R w c3 x.v ∧ x.field.size ≤ maxLen ∧ I64 x.num ∧ Sl V.mem V.sz R w B x.kids capk⟩
theorem anodeV_good {γ α β : Type} {C : ElV γ} {U : ElV α} {V : ElV β} (gc : C.Good) (g : U.Good) (g' : V.Good) : (anodeV C U V).Good where
  len := fun ⟨_, _, _, _, _, e, l1, l2, l3, _⟩ => by rw [e]; simp [l1, l2, l3, anodeV]
  stay := fun ⟨c1, c2, c3, B, capk, e, l1, l2, l3, h1, h2, h3, h4, h5, h6, h7⟩ hs => ⟨c1, c2, c3, B, capk, e, l1, l2, l3, h1, gc.stay h2 hs, g.stay h3 hs, g.stay h4 hs, h5, h6, h7.stay g'.mem hs⟩
  mono := fun ⟨c1, c2, c3, B, capk, e, l1, l2, l3, h1, h2, h3, h4, h5, h6, h7⟩ hm => ⟨c1, c2, c3, B, capk, e, l1, l2, l3, h1, gc.mono h2 hm, g.mono h3 hm, g.mono h4 hm, h5, h6, h7.mono g'.mem hm⟩
/-- An assertion in cells. -/
def assnV (m n : Nat) : (k : Nat) → ElV (AT m n k)
  | 0 => ⟨15, by decide, 224, by decide, fun _ _ _ _ => False⟩
  | k + 1 => anodeV (condV m n) (exprV m) (assnV m n k)
theorem assnV_sz (m n : Nat) : ∀ k, (assnV m n k).sz = 15
  | 0 => rfl
  | _ + 1 => rfl
theorem assnV_bytes (m n : Nat) : ∀ k, (assnV m n k).bytes = 224
  | 0 => rfl
  | _ + 1 => rfl
theorem assnV_good (m n : Nat) : ∀ k, (assnV m n k).Good
  | 0 => ⟨fun h => h.elim, fun h _ => h.elim, fun h _ => h.elim⟩
  | k + 1 => anodeV_good (condV_good m n) (exprV_good m) (assnV_good m n k)
abbrev Assns {m n k : Nat} (R : Nat → Prop) (w : World) (A : Option Addr) (l : List (AT m n k)) (cap : Nat) : Prop := Sl (assnV m n k).mem 15 R w A l cap
theorem assnE_good (m n k : Nat) : (assnV m n k).mem.Good := (assnV_good m n k).mem
/-- The cells of an assertion, one by one: ck .. of its condition, ek .. and vk .. of its expressions. -/
theorem anode_cells {m n k : Nat} {R : Nat → Prop} {w : World} {cs : List Value} {x : ANode (CT m n) (ET m) (AT m n k)} (h : (assnV m n (k + 1)).at_ R w cs x) :
    ∃ ck cA cel cca cB ckl cck ek en es eB ekl eck vk vn vs vB vkl vck B capk,
      cs = [.int .i64 x.kind, .int .i64 ck, .slice cA cel cca, .slice cB ckl cck, .int .i64 ek, .int .i64 en, .string es, .slice eB ekl eck, .int .i64 vk, .int .i64 vn, .string vs, .slice vB vkl vck, .string x.field, .int .i64 x.num, .slice B x.kids.length capk] ∧
      I64 x.kind ∧ (condV m n) R w [.int .i64 ck, .slice cA cel cca, .slice cB ckl cck] x.c ∧ (exprV m) R w [.int .i64 ek, .int .i64 en, .string es, .slice eB ekl eck] x.e ∧ (exprV m) R w [.int .i64 vk, .int .i64 vn, .string vs, .slice vB vkl vck] x.v ∧ x.field.size ≤ maxLen ∧ I64 x.num ∧ Assns R w B x.kids capk := by
  obtain ⟨c1, c2, c3, B, capk, e, l1, l2, l3, h1, h2, h3, h4, h5, h6, h7⟩ := h
  rw [assnV_sz] at h7
  obtain ⟨ck, cA, cel, cca, cB, ckl, cck, rfl⟩ := cond_shape h2
  obtain ⟨ek, en, es, eB, ekl, eck, rfl⟩ := expr_shape h3
  obtain ⟨vk, vn, vs, vB, vkl, vck, rfl⟩ := expr_shape h4
  exact ⟨ck, cA, cel, cca, cB, ckl, cck, ek, en, es, eB, ekl, eck, vk, vn, vs, vB, vkl, vck, B, capk, e, h1, h2, h3, h4, h5, h6, h7⟩
theorem assn_shape {m n : Nat} : ∀ {k : Nat} {R : Nat → Prop} {w : World} {cs : List Value} {x : AT m n k}, (assnV m n k) R w cs x → ∃ kd ck cA cel cca cB ckl cck ek en es eB ekl eck vk vn vs vB vkl vck fd nm B kl capk,
      cs = [.int .i64 kd, .int .i64 ck, .slice cA cel cca, .slice cB ckl cck, .int .i64 ek, .int .i64 en, .string es, .slice eB ekl eck, .int .i64 vk, .int .i64 vn, .string vs, .slice vB vkl vck, .string fd, .int .i64 nm, .slice B kl capk]
  | 0, _, _, _, _, h => h.elim
  | k + 1, _, _, _, _, h => by
    obtain ⟨ck, cA, cel, cca, cB, ckl, cck, ek, en, es, eB, ekl, eck, vk, vn, vs, vB, vkl, vck, B, capk, e, _⟩ := anode_cells h
    exact ⟨_, ck, cA, cel, cca, cB, ckl, cck, ek, en, es, eB, ekl, eck, vk, vn, vs, vB, vkl, vck, _, _, B, _, capk, e⟩

section
variable {H : Type} {enc : TypeId × Value → H} {P : Program}
/-- What reads as a datum of less than so many parts is a V. -/
structure OpensTr {α : Type} (N : Nat) (enc : TypeId × Value → H) (P : Program) (e : TypeId) (V : ElV α) : Prop where
  cells : P.cellsOf e = V.sz
  bytes : P.bytesOf e = V.bytes
  open_ : ∀ (W : World) (fuel : Nat) cs y, cs.length = V.sz → DataW.trod enc P W 0 (fun _ => true) true fuel e cs = some y → SizeOf.sizeOf y.1 < N → (∀ n ∈ y.1.weights P e, n ≤ reachBytes) → ∃ x, V (Old W) W cs x

theorem open_slTr {α : Type} {N : Nat} {t e : TypeId} {V : ElV α} (ht : P.underlying t = some (.slice e)) (hE : OpensTr N enc P e V)
    {W : World} {fuel : Nat} {cs : List Value} {y : DataW H × List MemPlace} (hy : DataW.trod enc P W 0 (fun _ => true) true fuel t cs = some y) (hN : SizeOf.sizeOf y.1 < N + 1) (hw : ∀ n ∈ y.1.weights P t, n ≤ reachBytes) :
    ∃ A l cap, cs = [.slice A l.length cap] ∧ Sl V.mem V.sz (Old W) W A l cap := by
  rcases Go.Deep.open_slice ht hy with ⟨rfl, _⟩ | ⟨a, len, cap, m, k, D, Pl, rfl, _, hl, hm, hmm, rfl, hx⟩
  · exact ⟨none, [], 0, rfl, Sl.empty⟩
  simp only [if_true] at hmm
  subst hmm
  have hsum : (len + (m - len)) * P.bytesOf e ≤ reachBytes := by
    have := hw ((len + (m - len)) * P.bytesOf e) (by simp [DataW.weights, ht])
    exact this
  have hlb : len * V.mem.bytes ≤ big := by
    have hb : P.bytesOf e = V.mem.bytes := hE.bytes
    rw [← hb]
    have h2 : len * P.bytesOf e ≤ (len + (m - len)) * P.bytesOf e := Nat.mul_le_mul_right _ (by omega)
    have h3 := reachBytes_lt
    unfold big
    omega
  have hpos := V.pos
  have each : ∀ i, i < len → ∃ x : α, ∃ b o, a = ⟨b, o, none⟩ ∧ V.mem (Old W) W b (o + i * V.sz) x := by
    intro i hi
    obtain ⟨cs', h1, h2⟩ := hx i (by omega)
    rw [hE.cells] at h1
    have hsp := cells_spot h1 hpos
    obtain ⟨b, o, s⟩ := a
    have hs : s = none := by
      by_cases hz : i * V.sz = 0
      · simpa [Addr.add, hz] using hsp
      · obtain ⟨cs0, g1, _⟩ := hx 0 (by omega)
        rw [hE.cells] at g1
        have := cells_spot g1 hpos
        simpa [Addr.add] using this
    subst hs
    rw [show (⟨b, o, none⟩ : Addr).add (i * V.sz) = ⟨b, o + i * V.sz, none⟩ by unfold Addr.add; split <;> simp_all] at h1
    have hD : D i ∈ (List.range len).map D := List.mem_map.2 ⟨i, List.mem_range.2 hi, rfl⟩
    have hsz : SizeOf.sizeOf (D i) < N := by
      have h3 := List.sizeOf_lt_of_mem hD
      simp only [DataW.slice.sizeOf_spec] at hN
      omega
    obtain ⟨_, hcl, hcc⟩ := World.cells?_some h1
    obtain ⟨x, hx'⟩ := hE.open_ W k cs' (D i, Pl i) hcl h2 hsz (fun n hn => hw n (by
      simp only [DataW.weights, ht, List.mem_cons, List.mem_append]
      exact .inr (.inl (weightsAll_mem (d := D i) hD n hn))))
    have hat : ∀ j u, cs'[j]? = some u → W.cell? ⟨b, o + i * V.sz + j, none⟩ = some u := fun j u hj => by
      have hlt : j < V.sz := by rw [← hcl]; exact (List.getElem?_eq_some_iff.1 hj).1
      have h1 := hcc j hlt
      rw [hj] at h1
      rw [← h1, show (⟨b, o + i * V.sz, none⟩ : Addr).add j = ⟨b, o + i * V.sz + j, none⟩ by unfold Addr.add; split <;> simp_all]
    have h0 : ∃ u, cs'[0]? = some u := ⟨cs'[0]'(by rw [hcl]; exact hpos), List.getElem?_eq_getElem _⟩
    obtain ⟨u, hu⟩ := h0
    exact ⟨x, b, o, rfl, cell_lt (hat 0 u hu), cs', hcl, hat, hx'⟩
  by_cases h0 : len = 0
  · subst h0
    exact ⟨some a, [], m, rfl, ⟨hl, hm, by simp, (fun h => by cases h), fun i hi => absurd hi (Nat.not_lt_zero i)⟩⟩
  · obtain ⟨x0, _⟩ := each 0 (by omega)
    haveI : Inhabited α := ⟨x0⟩
    obtain ⟨f, hf⟩ := Go.Deep.choose_lt each
    have hlen : ((List.range len).map f).length = len := by simp
    refine ⟨some a, (List.range len).map f, m, by rw [hlen], ⟨by rw [hlen]; exact hl, hm, by rw [hlen]; exact hlb, (fun h => by cases h), fun i hi => ?_⟩⟩
    rw [hlen] at hi
    obtain ⟨b, o, rfl, hE'⟩ := hf i hi
    exact ⟨b, o, rfl, by simpa using hE'⟩

theorem opensTr_enode {α : Type} {N : Nat} {t : TypeId} {f0 f1 f2 f3 : Field} {V : ElV α} (ht : P.underlying t = some (.struct #[f0, f1, f2, f3])) (o0 : f0.offset = 0) (o1 : f1.offset = 1) (o2 : f2.offset = 2) (o3 : f3.offset = 3)
    (hc : P.cellsOf t = 4) (hb : P.bytesOf t = 56) (h0 : OpensV enc P f0.type intV) (h1 : OpensV enc P f1.type intV) (h2 : OpensV enc P f2.type strV) (hk : P.underlying f3.type = some (.slice t)) (hk1 : P.cellsOf f3.type = 1) (h3 : OpensTr N enc P t V) : OpensTr (N + 1) enc P t (enodeV V) where
  cells := hc
  bytes := hb
  open_ := fun W fuel cs y hl hy hN hw => by
    obtain ⟨xs, n, hn, rfl, hl', hxl, hf⟩ := DataW.trod_struct ht hy
    obtain ⟨y0, y1, y2, y3, rfl⟩ : ∃ y0 y1 y2 y3, xs = [y0, y1, y2, y3] := by
      match xs, hxl with
      | [y0, y1, y2, y3], _ => exact ⟨y0, y1, y2, y3, rfl⟩
    have g0 := hf 0 f0 rfl
    have g1 := hf 1 f1 rfl
    have g2 := hf 2 f2 rfl
    have g3 := hf 3 f3 rfl
    rw [o0, h0.cells, List.drop_zero] at g0
    rw [o1, h1.cells] at g1
    rw [o2, h2.cells] at g2
    rw [o3, hk1] at g3
    simp only [List.getElem?_cons_zero, List.getElem?_cons_succ] at g0 g1 g2 g3
    match cs, hl with
    | [v0, v1, v2, v3], _ =>
    obtain ⟨x0, e0, i0⟩ := h0.open_ W n _ y0 (by rfl) g0 (fun m hm => hw m (by simp only [DataW.weights, ht, List.map_cons, List.map_nil, weightsEach_cons, List.mem_append]; exact .inl hm))
    obtain ⟨x1, e1, i1⟩ := h1.open_ W n _ y1 (by rfl) g1 (fun m hm => hw m (by simp only [DataW.weights, ht, List.map_cons, List.map_nil, weightsEach_cons, List.mem_append]; exact .inr (.inl hm)))
    obtain ⟨x2, e2, i2⟩ := h2.open_ W n _ y2 (by rfl) g2 (fun m hm => hw m (by simp only [DataW.weights, ht, List.map_cons, List.map_nil, weightsEach_cons, List.mem_append]; exact .inr (.inr (.inl hm))))
    have hN2 : SizeOf.sizeOf y3.1 < N + 1 := by
      simp only [List.map_cons, List.map_nil, DataW.agg.sizeOf_spec, List.cons.sizeOf_spec] at hN
      omega
    obtain ⟨B, l, capk, e3, hs3⟩ := open_slTr hk h3 g3 hN2 (fun m hm => hw m (by simp only [DataW.weights, ht, List.map_cons, List.map_nil, weightsEach_cons, List.mem_append]; exact .inr (.inr (.inr (.inl hm)))))
    have e0' : [v0] = [Value.int .i64 x0] := e0
    have e1' : [v1] = [Value.int .i64 x1] := e1
    have e2' : [v2] = [Value.string x2] := e2
    have e3' : [v3] = [Value.slice B l.length capk] := e3
    simp only [List.cons.injEq, and_true] at e0' e1' e2' e3'
    exact ⟨⟨x0, x1, x2, l⟩, B, capk, by rw [e0', e1', e2', e3'], i0, i1, i2, hs3⟩

theorem opensTr_cnode {α β : Type} {N : Nat} {t e : TypeId} {f0 f1 f2 : Field} {U : ElV α} {V : ElV β} (ht : P.underlying t = some (.struct #[f0, f1, f2])) (o0 : f0.offset = 0) (o1 : f1.offset = 1) (o2 : f2.offset = 2)
    (hc : P.cellsOf t = 3) (hb : P.bytesOf t = 56) (h0 : OpensV enc P f0.type intV) (he : P.underlying f1.type = some (.slice e)) (he1 : P.cellsOf f1.type = 1) (h1 : OpensTr N enc P e U) (hk : P.underlying f2.type = some (.slice t)) (hk1 : P.cellsOf f2.type = 1) (h2 : OpensTr N enc P t V) : OpensTr (N + 1) enc P t (cnodeV U V) where
  cells := hc
  bytes := hb
  open_ := fun W fuel cs y hl hy hN hw => by
    obtain ⟨xs, n, hn, rfl, hl', hxl, hf⟩ := DataW.trod_struct ht hy
    obtain ⟨y0, y1, y2, rfl⟩ : ∃ y0 y1 y2, xs = [y0, y1, y2] := by
      match xs, hxl with
      | [y0, y1, y2], _ => exact ⟨y0, y1, y2, rfl⟩
    have g0 := hf 0 f0 rfl
    have g1 := hf 1 f1 rfl
    have g2 := hf 2 f2 rfl
    rw [o0, h0.cells, List.drop_zero] at g0
    rw [o1, he1] at g1
    rw [o2, hk1] at g2
    simp only [List.getElem?_cons_zero, List.getElem?_cons_succ] at g0 g1 g2
    match cs, hl with
    | [v0, v1, v2], _ =>
    obtain ⟨x0, e0, i0⟩ := h0.open_ W n _ y0 (by rfl) g0 (fun m hm => hw m (by simp only [DataW.weights, ht, List.map_cons, List.map_nil, weightsEach_cons, List.mem_append]; exact .inl hm))
    have hN1 : SizeOf.sizeOf y1.1 < N + 1 ∧ SizeOf.sizeOf y2.1 < N + 1 := by
      simp only [List.map_cons, List.map_nil, DataW.agg.sizeOf_spec, List.cons.sizeOf_spec] at hN
      omega
    obtain ⟨A, l1, cap1, e1, hs1⟩ := open_slTr he h1 g1 hN1.1 (fun m hm => hw m (by simp only [DataW.weights, ht, List.map_cons, List.map_nil, weightsEach_cons, List.mem_append]; exact .inr (.inl hm)))
    obtain ⟨B, l, capk, e2, hs2⟩ := open_slTr hk h2 g2 hN1.2 (fun m hm => hw m (by simp only [DataW.weights, ht, List.map_cons, List.map_nil, weightsEach_cons, List.mem_append]; exact .inr (.inr (.inl hm))))
    have e0' : [v0] = [Value.int .i64 x0] := e0
    have e1' : [v1] = [Value.slice A l1.length cap1] := e1
    have e2' : [v2] = [Value.slice B l.length capk] := e2
    simp only [List.cons.injEq, and_true] at e0' e1' e2'
    exact ⟨⟨x0, l1, l⟩, A, cap1, B, capk, by rw [e0', e1', e2'], i0, hs1, hs2⟩

theorem opensTr_anode {γ α β : Type} {N : Nat} {t tc te : TypeId} {f0 f1 f2 f3 f4 f5 f6 : Field} {C : ElV γ} {U : ElV α} {V : ElV β} (ht : P.underlying t = some (.struct #[f0, f1, f2, f3, f4, f5, f6])) (o0 : f0.offset = 0) (o1 : f1.offset = 1) (o2 : f2.offset = 4) (o3 : f3.offset = 8) (o4 : f4.offset = 12) (o5 : f5.offset = 13) (o6 : f6.offset = 14)
    (t1 : f1.type = tc) (t2 : f2.type = te) (t3 : f3.type = te) (sC : C.sz = 3) (sU : U.sz = 4)
    (hc : P.cellsOf t = 15) (hb : P.bytesOf t = 224) (h0 : OpensV enc P f0.type intV) (h1 : OpensTr N enc P tc C) (h2 : OpensTr N enc P te U) (h4 : OpensV enc P f4.type strV) (h5 : OpensV enc P f5.type intV) (hk : P.underlying f6.type = some (.slice t)) (hk1 : P.cellsOf f6.type = 1) (h6 : OpensTr N enc P t V) : OpensTr (N + 1) enc P t (anodeV C U V) where
  cells := hc
  bytes := hb
  open_ := fun W fuel cs y hl hy hN hw => by
    obtain ⟨xs, n, hn, rfl, hl', hxl, hf⟩ := DataW.trod_struct ht hy
    obtain ⟨y0, y1, y2, y3, y4, y5, y6, rfl⟩ : ∃ y0 y1 y2 y3 y4 y5 y6, xs = [y0, y1, y2, y3, y4, y5, y6] := by
      match xs, hxl with
      | [y0, y1, y2, y3, y4, y5, y6], _ => exact ⟨y0, y1, y2, y3, y4, y5, y6, rfl⟩
    have g0 := hf 0 f0 rfl
    have g1 := hf 1 f1 rfl
    have g2 := hf 2 f2 rfl
    have g3 := hf 3 f3 rfl
    have g4 := hf 4 f4 rfl
    have g5 := hf 5 f5 rfl
    have g6 := hf 6 f6 rfl
    rw [o0, h0.cells, List.drop_zero] at g0
    rw [o1, t1, h1.cells, sC] at g1
    rw [o2, t2, h2.cells, sU] at g2
    rw [o3, t3, h2.cells, sU] at g3
    rw [o4, h4.cells] at g4
    rw [o5, h5.cells] at g5
    rw [o6, hk1] at g6
    simp only [List.getElem?_cons_zero, List.getElem?_cons_succ] at g0 g1 g2 g3 g4 g5 g6
    match cs, hl with
    | [v0, v1, v2, v3, v4, v5, v6, v7, v8, v9, v10, v11, v12, v13, v14], _ =>
    have hNs : SizeOf.sizeOf y1.1 < N ∧ SizeOf.sizeOf y2.1 < N ∧ SizeOf.sizeOf y3.1 < N ∧ SizeOf.sizeOf y6.1 < N + 1 := by
      simp only [List.map_cons, List.map_nil, DataW.agg.sizeOf_spec, List.cons.sizeOf_spec] at hN
      omega
    have hwt : ∀ m, (m ∈ y0.1.weights P f0.type ∨ m ∈ y1.1.weights P f1.type ∨ m ∈ y2.1.weights P f2.type ∨ m ∈ y3.1.weights P f3.type ∨ m ∈ y4.1.weights P f4.type ∨ m ∈ y5.1.weights P f5.type ∨ m ∈ y6.1.weights P f6.type) → m ≤ reachBytes := fun m hm => hw m (by
      simp only [DataW.weights, ht, List.map_cons, List.map_nil, weightsEach_cons, List.mem_append]
      rcases hm with h | h | h | h | h | h | h
      · exact .inl h
      · exact .inr (.inl h)
      · exact .inr (.inr (.inl h))
      · exact .inr (.inr (.inr (.inl h)))
      · exact .inr (.inr (.inr (.inr (.inl h))))
      · exact .inr (.inr (.inr (.inr (.inr (.inl h)))))
      · exact .inr (.inr (.inr (.inr (.inr (.inr (.inl h)))))))
    obtain ⟨x0, e0, i0⟩ := h0.open_ W n _ y0 (by rfl) g0 (fun m hm => hwt m (.inl hm))
    obtain ⟨x1, i1⟩ := h1.open_ W n _ y1 (by rw [sC]; rfl) g1 hNs.1 (fun m hm => hwt m (.inr (.inl (by rw [t1]; exact hm))))
    obtain ⟨x2, i2⟩ := h2.open_ W n _ y2 (by rw [sU]; rfl) g2 hNs.2.1 (fun m hm => hwt m (.inr (.inr (.inl (by rw [t2]; exact hm)))))
    obtain ⟨x3, i3⟩ := h2.open_ W n _ y3 (by rw [sU]; rfl) g3 hNs.2.2.1 (fun m hm => hwt m (.inr (.inr (.inr (.inl (by rw [t3]; exact hm))))))
    obtain ⟨x4, e4, i4⟩ := h4.open_ W n _ y4 (by rfl) g4 (fun m hm => hwt m (.inr (.inr (.inr (.inr (.inl hm))))))
    obtain ⟨x5, e5, i5⟩ := h5.open_ W n _ y5 (by rfl) g5 (fun m hm => hwt m (.inr (.inr (.inr (.inr (.inr (.inl hm)))))))
    obtain ⟨B, l, capk, e6, hs6⟩ := open_slTr hk h6 g6 hNs.2.2.2 (fun m hm => hwt m (.inr (.inr (.inr (.inr (.inr (.inr hm)))))))
    have e0' : [v0] = [Value.int .i64 x0] := e0
    have e4' : [v12] = [Value.string x4] := e4
    have e5' : [v13] = [Value.int .i64 x5] := e5
    have e6' : [v14] = [Value.slice B l.length capk] := e6
    simp only [List.cons.injEq, and_true] at e0' e4' e5' e6'
    exact ⟨⟨x0, x1, x2, x3, x4, x5, l⟩, [v1, v2, v3], [v4, v5, v6, v7], [v8, v9, v10, v11], B, capk, by rw [e0', e4', e5', e6']; rfl, rfl, rfl, rfl, i0, i1, i2, i3, i4, i5, hs6⟩
end

section
variable {H : Type} {enc : TypeId × Value → H}
theorem opensTr_expr : ∀ N m, N ≤ m → OpensTr N enc Tryz.prog 53 (exprV m)
  | 0, m, _ => ⟨by rw [exprV_sz]; kernel_rfl, by rw [exprV_bytes]; kernel_rfl, fun _ _ _ _ _ _ h => absurd h (Nat.not_lt_zero _)⟩
  | N + 1, 0, h => absurd h (by omega)
  | N + 1, m + 1, h => opensTr_enode Tryz.underlying53 rfl rfl rfl rfl (by kernel_rfl) (by kernel_rfl) (opensV_int Tryz.underlying3 (by kernel_rfl) (by kernel_rfl)) (opensV_int Tryz.underlying3 (by kernel_rfl) (by kernel_rfl)) (opensV_string Tryz.underlying9 (by kernel_rfl) (by kernel_rfl)) Tryz.underlying51 (by kernel_rfl) (opensTr_expr N m (by omega))
theorem opensTr_cond : ∀ N m n, N ≤ m → N ≤ n → OpensTr N enc Tryz.prog 56 (condV m n)
  | 0, m, n, _, _ => ⟨by rw [condV_sz]; kernel_rfl, by rw [condV_bytes]; kernel_rfl, fun _ _ _ _ _ _ h => absurd h (Nat.not_lt_zero _)⟩
  | N + 1, m, 0, _, h => absurd h (by omega)
  | N + 1, m, n + 1, h, h' => opensTr_cnode Tryz.underlying56 rfl rfl rfl (by kernel_rfl) (by kernel_rfl) (opensV_int Tryz.underlying3 (by kernel_rfl) (by kernel_rfl)) Tryz.underlying51 (by kernel_rfl) (opensTr_expr N m (by omega)) Tryz.underlying54 (by kernel_rfl) (opensTr_cond N m n (by omega) (by omega))
theorem opensTr_assn : ∀ N m n k, N ≤ m → N ≤ n → N ≤ k → OpensTr N enc Tryz.prog 92 (assnV m n k)
  | 0, m, n, k, _, _, _ => ⟨by rw [assnV_sz]; kernel_rfl, by rw [assnV_bytes]; kernel_rfl, fun _ _ _ _ _ _ h => absurd h (Nat.not_lt_zero _)⟩
  | N + 1, m, n, 0, _, _, h => absurd h (by omega)
  | N + 1, m, n, k + 1, h, h', h'' => opensTr_anode Tryz.underlying92 rfl rfl rfl rfl rfl rfl rfl rfl rfl rfl (condV_sz m n) (exprV_sz m) (by kernel_rfl) (by kernel_rfl) (opensV_int Tryz.underlying3 (by kernel_rfl) (by kernel_rfl)) (opensTr_cond N m n (by omega) (by omega)) (opensTr_expr N m (by omega)) (opensV_string Tryz.underlying9 (by kernel_rfl) (by kernel_rfl)) (opensV_int Tryz.underlying3 (by kernel_rfl) (by kernel_rfl)) Tryz.underlying90 (by kernel_rfl) (opensTr_assn N m n k (by omega) (by omega) (by omega))
/-- An argument that is a struct which is a tree. -/
theorem arg_tree {α : Type} {P : Program} {W : World} {t : TypeId} {fs : Array Field} {v : Value} {d : DataW H} {p : List MemPlace} {r : Reach} {base : Nat} {V : ElV α} (hs : P.underlying t = some (.struct fs)) (hO : OpensTr (SizeOf.sizeOf d + 1) enc P t V)
    (hv : Value.okWide P W r base t v) (h : DataW.Trod enc P W 0 (fun _ => true) true t v d p) (hw : ∀ n ∈ d.weights P t, n ≤ reachBytes) :
    ∃ cs x, v = .agg cs.toArray ∧ V (Old W) W cs x := by
  obtain ⟨cs, rfl, hsz⟩ := okWide_struct hs hv
  obtain ⟨fuel, hf⟩ := h
  have hl : cs.toList.length = V.sz := by rw [Array.length_toList, hsz, hO.cells]
  obtain ⟨x, hx⟩ := hO.open_ W fuel cs.toList (d, p) hl hf (Nat.lt_succ_self _) hw
  exact ⟨cs.toList, x, by simp, hx⟩
end
end Go.Proofs.YtpmndblakmobdaaGreatDoor
