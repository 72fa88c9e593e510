/-
  A condition's formula (plain); an expression's form and a condition's formula mean what these mean: the plain law of ChunkMeans.
-/
import Derived.Test.YtpmndblakmobdaaGreatDoorTD
import Derived.Test.YtpmndblakmobdaaGreatDoorTC
import Derived.Test.YtpmndblakmobdaaGreatDoorMH
import Derived.Test.YtpmndblakmobdaaGreatDoorHoA
namespace Go.Proofs.YtpmndblakmobdaaGreatDoor
open Go Go.RowKit

def manyF (n : Nat) (kd : Int) (ks : List (FT (n + 1))) : FT (n + 2) := (⟨kd, (0, []), ks⟩ : Node (FT (n + 1)))
def zeroF (n : Nat) : FT (n + 1) := leafF n 0 (0, [])
/-- A comparison's formula, of the forms of its sides. -/
noncomputable def cmpF (n : Nat) (kd : Int) (a b : Lin) : Option (FT (n + 2)) :=
  match sumO a b (-1) with
  | none => none
  | some x => if kd = 4 then (match sumO x (1, []) 1 with | none => none | some y => some (leafF (n + 1) 2 y)) else if kd = 5 then some (leafF (n + 1) 2 x) else if kd = 3 then some (notF n x) else some (leafF (n + 1) 3 x)
noncomputable def cmpE (m n : Nat) (kd : Int) (es : List (ET m)) (l : List Sym) : Option (FT (n + 2)) :=
  match es with
  | [a, b] => (match lexp m a l with | none => none | some A => match lexp m b l with | none => none | some B => cmpF n kd A B)
  | _ => none
def isCmp (kd : Int) : Bool := decide (2 ≤ kd) && decide (kd ≤ 5)
/-- Whether something of a condition is far. -/
noncomputable def cndB (m : Nat) : (n : Nat) → CT m n → List Sym → Bool
  | 0, _, _ => false
  | n + 1, x, l => if isCmp (CNode.kind x) = true then (cmpE m n (CNode.kind x) (CNode.es x) l).isNone else (CNode.kids x).any fun k => cndB m n k l
/-- A condition's formula, where nothing is far. -/
noncomputable def cndG (m : Nat) : (n : Nat) → CT m n → List Sym → FT (n + 1)
  | 0, _, _ => zeroF 0
  | n + 1, x, l => if isCmp (CNode.kind x) = true then (cmpE m n (CNode.kind x) (CNode.es x) l).getD (zeroF (n + 1))
    else if CNode.kind x = 0 ∨ CNode.kind x = 1 then leafF (n + 1) (CNode.kind x) (0, [])
    else manyF n (CNode.kind x - 2) ((CNode.kids x).map fun k => cndG m n k l)
theorem cndB_eq {m n : Nat} (x : CNode (ET m) (CT m n)) (l : List Sym) : cndB m (n + 1) x l = (if isCmp x.kind = true then (cmpE m n x.kind x.es l).isNone else x.kids.any fun k => cndB m n k l) := rfl
theorem cndG_eq {m n : Nat} (x : CNode (ET m) (CT m n)) (l : List Sym) : cndG m (n + 1) x l = (if isCmp x.kind = true then (cmpE m n x.kind x.es l).getD (zeroF (n + 1)) else if x.kind = 0 ∨ x.kind = 1 then leafF (n + 1) x.kind (0, []) else manyF n (x.kind - 2) (x.kids.map fun k => cndG m n k l)) := rfl

/-- The values of variables, by those of the unknowns. -/
def varsOf (vs : List Int) (l : List Sym) : List Vr := l.map fun s => (s.1, (linVal s.2.1 s.2.2 vs).1)
/-- A value that is told. -/
def tldB (vs : List Int) (s : Sym) : Bool := decide ((linVal s.2.1 s.2.2 vs).2 = 0) && !farH (linVal s.2.1 s.2.2 vs).1
theorem varsOf_find (vs : List Int) (s : ByteArray) : ∀ l : List Sym, ofV (varsOf vs l) s = (linVal (symOf l s).1 (symOf l s).2 vs).1 ∨ (l.find? (fun y => y.1.toList == s.toList) = none ∧ ofV (varsOf vs l) s = 0)
  | [] => .inr ⟨rfl, rfl⟩
  | y :: t => by
    have ih := varsOf_find vs s t
    unfold ofV varsOf symOf at *
    by_cases h : (y.1.toList == s.toList) = true
    · left
      rw [List.map_cons, List.find?_cons_of_pos (by exact h), List.find?_cons_of_pos (by exact h)]
    · rw [List.map_cons, List.find?_cons_of_neg (by exact h), List.find?_cons_of_neg (by exact h)]
      exact ih
theorem ofV_law {vs : List Int} {l : List Sym} (h : l.all (tldB vs) = true) (s : ByteArray) : lvl vs (symOf l s) = ofV (varsOf vs l) s := by
  rcases varsOf_find vs s l with e | ⟨e1, e2⟩
  · unfold symOf at *
    cases hf : l.find? (fun y => y.1.toList == s.toList) with
    | none =>
      have : ofV (varsOf vs l) s = 0 := by
        unfold ofV varsOf
        rw [show (l.map fun s => (s.1, (linVal s.2.1 s.2.2 vs).1)).find? (fun v => v.1.toList == s.toList) = none by
          rw [List.find?_map, show ((fun v : Vr => v.1.toList == s.toList) ∘ fun y : Sym => (y.1, (linVal y.2.1 y.2.2 vs).1)) = (fun y : Sym => y.1.toList == s.toList) from rfl, hf]; rfl]
      rw [this]
      show (0 : Int) + val (valOf vs) [] = 0
      simp [val_nil]
    | some y =>
      rw [hf] at e
      have hy := List.all_eq_true.1 h y (List.mem_of_find?_eq_some hf)
      unfold tldB at hy
      rw [Bool.and_eq_true, decide_eq_true_eq] at hy
      rw [e]
      exact (linVal_ok (r := y.2) hy.1).symm
  · rw [e2]
    unfold symOf
    rw [e1]
    show (0 : Int) + val (valOf vs) [] = 0
    simp [val_nil]
theorem scl_val {n : Int} {a r : Lin} (h : sclO n a = some r) (vs : List Int) : lvl vs r = n * lvl vs a := by
  unfold sclO at h
  split at h
  · injection h with h; subst h
    unfold lvl sclLin
    show n * a.1 + val (valOf vs) (if n = 0 then [] else scale n a.2) = _
    by_cases h0 : n = 0
    · rw [if_pos h0, h0]; simp [val_nil]
    · rw [if_neg h0, val_scale, Int.mul_add]
  · cases h
/-- An expression's form has the expression's value. -/
theorem expr_law {vs : List Int} {l : List Sym} (hl : l.all (tldB vs) = true) : ∀ (n : Nat) (x : ET n), okE n x = true → ∀ r, lexp n x l = some r → (exH (varsOf vs l) n x).2 = false → lvl vs r = (exH (varsOf vs l) n x).1
  | 0, _, _, r, h, _ => by cases h
  | n + 1, x, hx, r, h, hf => by
    have IH := expr_law hl n
    obtain ⟨hs, hk⟩ := ok_parts hx
    obtain ⟨kd, num, name, ks⟩ := x
    simp only at hs hk
    rw [lexp_eq (⟨kd, num, name, ks⟩ : ENode (ET n))] at h
    simp only at h
    rcases eShape_cases hs with ⟨rfl, _, _⟩ | ⟨rfl, _⟩ | ⟨hkd, hkl⟩ | ⟨rfl, _, hkl⟩
    · rw [if_pos rfl] at h
      injection h with h; subst h
      rw [exH_0 (f := (⟨0, num, name, ks⟩ : ENode (ET n))) rfl] at hf ⊢
      rw [numH_near hf]
      show num + val (valOf vs) [] = num
      simp [val_nil]
    · rw [if_neg (by decide), if_pos rfl] at h
      injection h with h; subst h
      rw [exH_1 (f := (⟨1, num, name, ks⟩ : ENode (ET n))) rfl] at hf ⊢
      rw [numH_near hf]
      exact ofV_law hl name
    · obtain ⟨a, b, rfl⟩ : ∃ a b, ks = [a, b] := by
        match ks, hkl with
        | [a, b], _ => exact ⟨a, b, rfl⟩
      rw [if_neg (by omega), if_neg (by omega)] at h
      rw [exH_2 (f := (⟨kd, num, name, [a, b]⟩ : ENode (ET n))) hkd rfl] at hf ⊢
      simp only [Bool.or_eq_false_iff] at hf
      obtain ⟨⟨f1, f2⟩, f3⟩ := hf
      rw [numH_near f3]
      simp only at h
      cases ha : lexp n a l with
      | none => rw [ha] at h; cases h
      | some A =>
        rw [ha] at h
        simp only [if_neg (show ¬ kd = 4 by omega)] at h
        cases hb : lexp n b l with
        | none => rw [hb] at h; cases h
        | some B =>
          rw [hb] at h
          simp only at h
          rw [sumO_val h vs, IH a (hk a (by simp)) A ha f1, IH b (hk b (by simp)) B hb f2]
          simp only
          split <;> omega
    · obtain ⟨a, rfl⟩ : ∃ a, ks = [a] := List.length_eq_one_iff.1 hkl
      rw [if_neg (by decide), if_neg (by decide)] at h
      rw [exH_4 (f := (⟨4, num, name, [a]⟩ : ENode (ET n))) rfl rfl] at hf ⊢
      simp only [Bool.or_eq_false_iff] at hf
      obtain ⟨f1, f3⟩ := hf
      rw [numH_near f3]
      simp only at h
      cases ha : lexp n a l with
      | none => rw [ha] at h; cases h
      | some A =>
        rw [ha] at h
        simp only [if_pos] at h
        rw [scl_val h vs, IH a (hk a (by simp)) A ha f1]

theorem cmp_law {vs : List Int} {n : Nat} {kd : Int} {a b : Lin} (hkd : kd = 2 ∨ kd = 3 ∨ kd = 4 ∨ kd = 5) {f : FT (n + 2)} (h : cmpF n kd a b = some f) : truF (n + 2) (valOf vs) f = truthH kd [lvl vs a, lvl vs b] [] := by
  unfold cmpF at h
  split at h
  · cases h
  · rename_i x hx
    have e := sumO_val hx vs
    rcases hkd with rfl | rfl | rfl | rfl
    · rw [if_neg (by decide), if_neg (by decide), if_neg (by decide)] at h
      injection h with h; subst h
      show decide (lvl vs x = 0) = decide (lvl vs a = lvl vs b)
      exact decide_eq_decide.2 (by omega)
    · rw [if_neg (by decide), if_neg (by decide), if_pos rfl] at h
      injection h with h; subst h
      rw [truF_not]
      show (!decide (lvl vs x = 0)) = decide (lvl vs a ≠ lvl vs b)
      rw [show (decide (lvl vs a ≠ lvl vs b)) = !decide (lvl vs a = lvl vs b) by simp]
      exact congrArg _ (decide_eq_decide.2 (by omega))
    · rw [if_pos rfl] at h
      split at h
      · cases h
      · rename_i y hy
        injection h with h; subst h
        have e2 := sumO_val hy vs
        have e3 : lvl vs ((1, []) : Lin) = 1 := by unfold lvl; simp [val_nil]
        rw [e3] at e2
        show decide (lvl vs y ≤ 0) = decide (lvl vs a < lvl vs b)
        exact decide_eq_decide.2 (by omega)
    · rw [if_neg (by decide), if_pos rfl] at h
      injection h with h; subst h
      show decide (lvl vs x ≤ 0) = decide (lvl vs a ≤ lvl vs b)
      exact decide_eq_decide.2 (by omega)
theorem isCmp_iff {kd : Int} : isCmp kd = true ↔ kd = 2 ∨ kd = 3 ∨ kd = 4 ∨ kd = 5 := by
  unfold isCmp
  rw [Bool.and_eq_true, decide_eq_true_eq, decide_eq_true_eq]
  omega
/-- A condition's formula is true just if the condition is. -/
theorem cond_law {vs : List Int} {l : List Sym} (hl : l.all (tldB vs) = true) (m : Nat) : ∀ (n : Nat) (x : CT m n), okC m n x = true → cndB m n x l = false → (coH (varsOf vs l) m n x).2 = false → truF (n + 1) (valOf vs) (cndG m n x l) = (coH (varsOf vs l) m n x).1
  | 0, _, hx, _, _ => by cases hx
  | n + 1, x, hx, hb, hf => by
    have IH := cond_law hl m n
    obtain ⟨hs, hke, hkk⟩ := okC_parts hx
    obtain ⟨kd, es, ks⟩ := x
    simp only at hs hke hkk
    rw [cndB_eq (⟨kd, es, ks⟩ : CNode (ET m) (CT m n))] at hb
    rw [cndG_eq (⟨kd, es, ks⟩ : CNode (ET m) (CT m n))]
    rw [coH_eq] at hf ⊢
    simp only [Bool.or_eq_false_iff, List.any_eq_false] at hf hb ⊢
    obtain ⟨hf1, hf2⟩ := hf
    have IHk : ∀ k ∈ ks, cndB m n k l = false → truF (n + 1) (valOf vs) (cndG m n k l) = (coH (varsOf vs l) m n k).1 := fun k hk h => IH k (hkk k hk) h (by simpa using hf2 k hk)
    rcases cShape_cases hs with ⟨rfl, _, _⟩ | ⟨rfl, _, _⟩ | ⟨hk, hel, _⟩ | ⟨rfl, _, hkl⟩ | ⟨hk, _, hkl⟩
    · rw [if_neg (by decide), if_pos (.inl rfl)]
      rfl
    · rw [if_neg (by decide), if_pos (.inr rfl)]
      rfl
    · obtain ⟨a, b, rfl⟩ : ∃ a b, es = [a, b] := by
        match es, hel with
        | [a, b], _ => exact ⟨a, b, rfl⟩
      rw [if_pos (isCmp_iff.2 hk)] at hb ⊢
      unfold cmpE at hb ⊢
      simp only at hb ⊢
      cases ha : lexp m a l with
      | none => rw [ha] at hb; cases hb
      | some A =>
        rw [ha] at hb
        simp only at hb ⊢
        cases hbb : lexp m b l with
        | none => rw [hbb] at hb; cases hb
        | some B =>
          rw [hbb] at hb
          simp only at hb ⊢
          cases hc : cmpF n kd A B with
          | none => rw [hc] at hb; cases hb
          | some f =>
            rw [Option.getD_some, cmp_law hk hc, expr_law hl m a (hke a (by simp)) A ha (by simpa using hf1 a (by simp)), expr_law hl m b (hke b (by simp)) B hbb (by simpa using hf1 b (by simp))]
            rcases hk with rfl | rfl | rfl | rfl <;> rfl
    · obtain ⟨k, rfl⟩ : ∃ k, ks = [k] := List.length_eq_one_iff.1 hkl
      rw [if_neg (by decide)] at hb
      rw [if_neg (by decide), if_neg (by omega)]
      have hk1 := IHk k (by simp) (by simpa using hb)
      show (!(truF (n + 1) (valOf vs) (cndG m n k l))) = !((coH (varsOf vs l) m n k).1)
      rw [hk1]
    · obtain ⟨a, b, rfl⟩ : ∃ a b, ks = [a, b] := by
        match ks, hkl with
        | [a, b], _ => exact ⟨a, b, rfl⟩
      have hn : ¬ isCmp kd = true := fun h => by have := isCmp_iff.1 h; omega
      rw [if_neg hn] at hb
      rw [if_neg hn, if_neg (by omega)]
      simp only [List.any_cons, List.any_nil, Bool.or_false, Bool.or_eq_false_iff] at hb
      have h1 := IHk a (by simp) hb.1
      have h2 := IHk b (by simp) hb.2
      rcases hk with rfl | rfl
      · show (truF (n + 1) (valOf vs) (cndG m n a l) && (truF (n + 1) (valOf vs) (cndG m n b l) && true)) = ((coH (varsOf vs l) m n a).1 && (coH (varsOf vs l) m n b).1)
        rw [h1, h2, Bool.and_true]
      · show (truF (n + 1) (valOf vs) (cndG m n a l) || (truF (n + 1) (valOf vs) (cndG m n b l) || false)) = ((coH (varsOf vs l) m n a).1 || (coH (varsOf vs l) m n b).1)
        rw [h1, h2, Bool.or_false]
end Go.Proofs.YtpmndblakmobdaaGreatDoor
