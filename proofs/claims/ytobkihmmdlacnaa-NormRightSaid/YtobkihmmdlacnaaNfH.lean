/-
  Plain law: what is normalized is made of literals, FAnd and FOr, and is normalized as itself.
-/
import Derived.Test.YtobkihmmdlacnaaNfF
namespace Go.Proofs.Ytobkihmmdlacnaa
open Go Go.RowKit

/-- A formula of n floors as one of m. -/
def toF : (m n : Nat) → FT n → FT m
  | 0, _, _ => ()
  | m + 1, 0, _ => (⟨0, (0, []), []⟩ : Node (FT m))
  | m + 1, n + 1, x => (⟨Node.kind x, Node.lin x, (Node.kids x).map (toF m n)⟩ : Node (FT m))
theorem toF_self : ∀ (n : Nat) (x : FT n), toF n n x = x
  | 0, _ => rfl
  | n + 1, x => by
    have e : (toF n n) = id := funext (toF_self n)
    show (⟨Node.kind x, Node.lin x, (Node.kids x).map (toF n n)⟩ : Node (FT n)) = x
    rw [e, List.map_id]
    rfl
theorem toF_toF : ∀ (a b n : Nat) (x : FT n), n ≤ b → toF a b (toF b n x) = toF a n x
  | 0, _, _, _, _ => rfl
  | a + 1, 0, 0, _, _ => rfl
  | a + 1, b + 1, 0, _, _ => rfl
  | a + 1, 0, n + 1, _, h => absurd h (by omega)
  | a + 1, b + 1, n + 1, x, h => by
    show (⟨Node.kind x, Node.lin x, ((Node.kids x).map (toF b n)).map (toF a b)⟩ : Node (FT a)) = (⟨Node.kind x, Node.lin x, (Node.kids x).map (toF a n)⟩ : Node (FT a))
    rw [List.map_map]
    have e : (toF a b ∘ toF b n) = toF a n := funext fun k => toF_toF a b n k (by omega)
    rw [e]
theorem upF_to : ∀ (n : Nat) (x : FT n), upF n x = toF (n + 1) n x
  | 0, _ => rfl
  | n + 1, x => by
    show (⟨Node.kind x, Node.lin x, (Node.kids x).map (upF n)⟩ : Node (FT (n + 1))) = (⟨Node.kind x, Node.lin x, (Node.kids x).map (toF (n + 1) n)⟩ : Node (FT (n + 1)))
    have e : upF n = toF (n + 1) n := funext (upF_to n)
    rw [e]
theorem liftF_to : ∀ (k m : Nat) (x : FT m), liftF k x = toF (m + k) m x
  | 0, m, x => (toF_self m x).symm
  | k + 1, m, x => by
    show upF (m + k) (liftF k x) = _
    rw [liftF_to k m x, upF_to, toF_toF _ _ _ _ (by omega)]
    rfl
theorem formV_to : ∀ (m n : Nat) (R : Nat → Prop) (w : World) (cs : List Value) (x : FT n), n ≤ m → (formV n) R w cs x → (formV m) R w cs (toF m n x)
  | _, 0, _, _, _, _, _, h => h.elim
  | 0, n + 1, _, _, _, _, hl, _ => absurd hl (by omega)
  | m + 1, n + 1, R, w, cs, x, hl, h => by
    obtain ⟨A, cap, B, capk, rfl, i1, i2, hm, hk⟩ := node_cells h
    refine ⟨A, cap, B, capk, ?_, i1, i2, hm, ?_⟩
    · have e : (Node.kids (toF (m + 1) (n + 1) x)).length = (Node.kids x).length := by show ((Node.kids x).map (toF m n)).length = _; rw [List.length_map]
      rw [e]; rfl
    · rw [formV_sz]
      exact forms_map (toF m n) (fun cs x h => formV_to m n R w cs x (by omega) h) hk

/-- Canonical literals. -/
theorem canon_parts {c : Int} {t : List Mono} (h : canonB c t = true) : linB c t = true ∧ t.length ≠ 0 ∧ 0 < (t.getD 0 (0, 0)).2 ∧ gcdN t = 1 := by
  unfold canonB at h
  simp only [Bool.and_eq_true, decide_eq_true_eq] at h
  refine ⟨h.1.1, fun e => ?_, h.1.2, h.2⟩
  have : t = [] := List.eq_nil_of_length_eq_zero e
  subst this
  have := h.1.2
  simp at this
theorem divT_one (t : List Mono) : divT t ((1 : Nat) : Int) = t := by
  unfold divT
  have e : (fun m : Mono => (m.1, Int.tdiv m.2 ((1 : Nat) : Int))) = id := funext fun m => by simp
  rw [e, List.map_id]
theorem upI_one (c : Int) : upI c ((1 : Nat) : Int) = c := by
  unfold upI
  simp
theorem lit_canon {c : Int} {t : List Mono} (h : canonB c t = true) : litErr c t = 0 ∧ litForm c t = le2 (c, t) := by
  obtain ⟨h1, h2, h3, h4⟩ := canon_parts h
  unfold litErr litForm
  rw [h4, divT_one, upI_one, if_pos h1, if_pos h1, if_neg h2, if_neg h2, if_pos h3, if_pos h3]
  exact ⟨rfl, rfl⟩
theorem okB_cases {kd : Int} {nb cn : Bool} {kl : Nat} {k0 : Int} (h : okB kd nb cn kl k0 = true) : (kd = 0 ∨ kd = 1) ∧ nb = true ∧ kl = 0 ∨ kd = 2 ∧ cn = true ∧ kl = 0 ∨ kd = 4 ∧ nb = true ∧ kl = 1 ∧ k0 = 2 ∨ (kd = 5 ∨ kd = 6) ∧ nb = true := by
  unfold okB at h
  simp only [Bool.or_eq_true, Bool.and_eq_true, decide_eq_true_eq] at h
  rcases h with ((h | h) | h) | h
  · exact .inl ⟨h.1.1, h.1.2, h.2⟩
  · exact .inr (.inl ⟨h.1.1, h.1.2, h.2⟩)
  · exact .inr (.inr (.inl ⟨h.1.1.1, h.1.1.2, h.1.2, h.2⟩))
  · exact .inr (.inr (.inr h))
theorem lin_none {l : Lin} (h : noneB l.1 l.2.length = true) : l = (0, []) := by
  obtain ⟨h1, h2⟩ := noneB_eq h
  have h3 : l.2 = [] := List.eq_nil_of_length_eq_zero h2
  obtain ⟨a, b⟩ := l
  simp only at h1 h3
  rw [h1, h3]
theorem only_parts {n : Nat} {x : Node (FT n)} (h : onlyF (n + 1) x = true) : okB x.kind (noneB x.lin.1 x.lin.2.length) (canonB x.lin.1 x.lin.2) x.kids.length (kind0 n x.kids) = true ∧ ∀ k ∈ x.kids, onlyF n k = true := by
  have e : onlyF (n + 1) x = (okN x && x.kids.all (onlyF n)) := rfl
  rw [e, Bool.and_eq_true, List.all_eq_true] at h
  exact h
theorem leaf_canon {c : Int} {t : List Mono} (h : canonB c t = true) (nt : Bool) : leafErr 2 c t = 0 ∧ leafForm 2 c t nt = upF 2 (if nt = true then oppL (le2 (c, t)) else le2 (c, t)) := by
  obtain ⟨h1, h2⟩ := lit_canon h
  have e : leafErr 2 c t = 0 := by unfold leafErr; rw [h1, if_neg (by decide), if_pos rfl]
  refine ⟨e, ?_⟩
  unfold leafForm
  rw [e, h2, if_neg (by decide), if_pos rfl]
/-- What is normalized is normalized as itself. -/
theorem norm_self : ∀ (m : Nat) (x : FT m), onlyF m x = true → farF m x = false ∧ normF m x false = toF (3 + m) m x
  | 0, _, h => by cases h
  | m + 1, (⟨kd, l, ks⟩ : Node (FT m)), h => by
    obtain ⟨hok, hks⟩ := only_parts h
    rcases okB_cases hok with ⟨hkd, hnb, hkl⟩ | ⟨hkd, hcn, hkl⟩ | ⟨hkd, hnb, hkl, hk0⟩ | ⟨hkd, hnb⟩
    · have e1 : ks = [] := List.eq_nil_of_length_eq_zero hkl
      have e2 := lin_none hnb
      simp only at e1 e2 hkd
      subst e1; subst e2
      have g := ans_const (f := (⟨kd, (0, []), []⟩ : Node (FT m))) (nt := false) hkd rfl
      have g2 := g.2
      unfold ansF at g2
      rw [g.1, if_neg (by decide)] at g2
      exact ⟨g.1, g2⟩
    · have e1 : ks = [] := List.eq_nil_of_length_eq_zero hkl
      simp only at e1 hkd hcn
      subst e1; subst hkd
      have g := ans_leaf (f := (⟨2, l, []⟩ : Node (FT m))) (nt := false) (.inl rfl)
      obtain ⟨q1, q2⟩ := leaf_canon hcn false
      have g2 := g.2
      simp only at g2 q1 q2
      rw [q1] at g2
      have e3 : farF (m + 1) (⟨2, l, []⟩ : Node (FT m)) = false := by
        cases hh : farF (m + 1) (⟨2, l, []⟩ : Node (FT m))
        · rfl
        · rw [hh, if_pos rfl] at g2; omega
      refine ⟨e3, ?_⟩
      have g1 := g.1
      unfold ansF at g1
      rw [e3, if_neg (by decide)] at g1
      refine g1.trans ?_
      show liftF (m + 1) (leafForm 2 l.1 l.2 false) = _
      rw [q2, liftF_to]
      rfl
    · obtain ⟨k, hk1⟩ := List.length_eq_one_iff.1 hkl
      have e2 := lin_none hnb
      simp only at hk1 e2 hkd
      subst hk1; subst e2; subst hkd
      have hk := hks k (by simp)
      match m, k, hk, hk0 with
      | 0, _, hk, _ => cases hk
      | m + 1, (⟨kd, l, ks⟩ : Node (FT m)), hk, hk0 =>
        have hkd : kd = 2 := hk0
        subst hkd
        obtain ⟨hok, _⟩ := only_parts hk
        rcases okB_cases hok with ⟨hkd, _, _⟩ | ⟨_, hcn, hkl⟩ | ⟨hkd, _⟩ | ⟨hkd, _⟩
        · simp only at hkd; omega
        · have e1 : ks = [] := List.eq_nil_of_length_eq_zero hkl
          simp only at e1 hcn
          subst e1
          have g := ans_leaf (f := (⟨2, l, []⟩ : Node (FT m))) (nt := true) (.inl rfl)
          obtain ⟨q1, q2⟩ := leaf_canon hcn true
          have g2 := g.2
          simp only at g2 q1 q2
          rw [q1] at g2
          have e3 : farF (m + 1) (⟨2, l, []⟩ : Node (FT m)) = false := by
            cases hh : farF (m + 1) (⟨2, l, []⟩ : Node (FT m))
            · rfl
            · rw [hh, if_pos rfl] at g2; omega
          have g1 := g.1
          unfold ansF at g1
          rw [e3, if_neg (by decide)] at g1
          have w := ans_not (f := (⟨4, (0, []), [(⟨2, l, []⟩ : Node (FT m))]⟩ : Node (FT (m + 1)))) (nt := false) rfl rfl
          have e4 := w.2.trans e3
          refine ⟨e4, ?_⟩
          have w1 := w.1
          unfold ansF at w1
          rw [e4, e3, if_neg (by decide), if_neg (by decide)] at w1
          refine w1.trans ?_
          rw [show (!false) = true from rfl, g1]
          show upF (3 + (m + 1)) (liftF (m + 1) (leafForm 2 l.1 l.2 true)) = _
          rw [q2, liftF_to, upF_to, toF_toF _ _ _ _ (by omega)]
          rfl
        · simp only at hkd; omega
        · simp only at hkd; omega
    · have e2 := lin_none hnb
      simp only at e2 hkd hks
      subst e2
      have w := ans_many (f := (⟨kd, (0, []), ks⟩ : Node (FT m))) (nt := false) hkd
      have e3 : ks.any (farF m) = false := by
        rw [List.any_eq_false]
        intro k hk
        rw [(norm_self m k (hks k hk)).1]; decide
      have e4 : farF (m + 1) (⟨kd, (0, []), ks⟩ : Node (FT m)) = false := w.1.trans e3
      refine ⟨e4, ?_⟩
      have w2 := w.2
      unfold ansF at w2
      simp only at w2
      rw [e4, e3, if_neg (by decide), if_neg (by decide), if_neg (by decide)] at w2
      refine w2.trans ?_
      have e5 : ks.map (fun k => normF m k false) = ks.map (toF (3 + m) m) := List.map_congr_left (fun k hk => (norm_self m k (hks k hk)).2)
      rw [e5]
      rfl

/-! What is normalized is made of literals. -/
theorem gcd_fold_div (g : Nat) (hg : 0 < g) : ∀ (t : List Mono) (a : Nat), (∀ m ∈ t, (g : Int) ∣ m.2) → (divT t (g : Int)).foldl (fun x m => Nat.gcd x m.2.natAbs) a * g = t.foldl (fun x m => Nat.gcd x m.2.natAbs) (a * g)
  | [], a, _ => rfl
  | m :: t, a, h => by
    have hm := h m (by simp)
    obtain ⟨q, hq⟩ := hm
    have e : Int.tdiv m.2 (g : Int) = q := by rw [hq]; exact Int.mul_tdiv_cancel_left q (by omega)
    have ih := gcd_fold_div g hg t (Nat.gcd a q.natAbs) (fun m hm => h m (by simp [hm]))
    have e2 : Nat.gcd (a * g) m.2.natAbs = Nat.gcd a q.natAbs * g := by
      rw [hq, Int.natAbs_mul, Int.natAbs_natCast, Nat.mul_comm g, Nat.gcd_mul_right]
    show (divT t (g : Int)).foldl (fun x m => Nat.gcd x m.2.natAbs) (Nat.gcd a (Int.tdiv m.2 (g : Int)).natAbs) * g = t.foldl (fun x m => Nat.gcd x m.2.natAbs) (Nat.gcd (a * g) m.2.natAbs)
    rw [e, e2]
    exact ih
theorem gcd_div {c : Int} {t : List Mono} (hB : linB c t = true) (hne : 0 < t.length) : gcdN (divT t (gcdN t)) = 1 := by
  have hg := gcdN_pos hB hne
  have h := gcd_fold_div (gcdN t) hg t 0 (fun m hm => gcdN_dvd hm)
  rw [Nat.zero_mul] at h
  have e : gcdN (divT t (gcdN t)) * gcdN t = gcdN t := h
  exact Nat.eq_of_mul_eq_mul_right hg (by omega)
theorem gcd_neg (t : List Mono) : gcdN (scale (-1) t) = gcdN t := by
  unfold gcdN scale
  rw [List.foldl_map]
  congr 1
  funext x m
  have : (-1 * m.2).natAbs = m.2.natAbs := by omega
  simp only [this]
/-- A literal that is canonical, or FTrue or FFalse. -/
def LitC (x : FT 2) : Prop := x = leaf2 0 ∨ x = leaf2 1 ∨ ∃ l : Lin, canonB l.1 l.2 = true ∧ (x = le2 l ∨ x = not2 l)
theorem litForm_canon {c : Int} {t : List Mono} (h : litErr c t = 0) : LitC (litForm c t) := by
  unfold litErr at h
  unfold litForm
  split at h
  · rename_i hB
    rw [if_pos hB]
    split at h
    · rename_i hl
      rw [if_pos hl]
      split
      · exact .inl rfl
      · exact .inr (.inl rfl)
    · rename_i hl
      rw [if_neg hl]
      have hne : 0 < t.length := by omega
      have hL := linB_div hB hne
      have hG := gcd_div hB hne
      split at h
      · rename_i hp
        rw [if_pos hp]
        refine .inr (.inr ⟨(upI c (gcdN t), divT t (gcdN t)), ?_, .inl rfl⟩)
        unfold canonB
        rw [hL, hG]
        simp only [Bool.true_and, decide_true, Bool.and_true, decide_eq_true_eq]
        exact hp
      · rename_i hp
        rw [if_neg hp]
        split at h
        · rename_i hc
          rw [if_pos hc]
          refine .inr (.inr ⟨(1 - upI c (gcdN t), scale (-1) (divT t (gcdN t))), ?_, .inr rfl⟩)
          have hN := linB_neg hL
          obtain ⟨_, h2, h3⟩ := linB_sound hN
          have hN2 : linB (1 - upI c (gcdN t)) (scale (-1) (divT t (gcdN t))) = true := by
            unfold linB at hN ⊢
            simp only [Bool.and_eq_true] at hN ⊢
            exact ⟨⟨hc, hN.1.2⟩, hN.2⟩
          have hlen : 0 < (divT t (gcdN t)).length := by rw [divT_len]; exact hne
          have hlen2 : 0 < (scale (-1) (divT t (gcdN t))).length := by rw [scale_len]; exact hlen
          have e1 : (scale (-1) (divT t (gcdN t))).getD 0 (0, 0) = (((divT t (gcdN t))[0]'hlen).1, -1 * ((divT t (gcdN t))[0]'hlen).2) := by
            rw [List.getD_eq_getElem?_getD, List.getElem?_eq_getElem hlen2, scale_get hlen2]; rfl
          have e2 : (divT t (gcdN t)).getD 0 (0, 0) = (divT t (gcdN t))[0]'hlen := by
            rw [List.getD_eq_getElem?_getD, List.getElem?_eq_getElem hlen]; rfl
          have hz : ((divT t (gcdN t))[0]'hlen).2 ≠ 0 := ((linB_sound hL).2.2 0 hlen).2.2.1
          rw [e2] at hp
          unfold canonB
          simp only
          rw [hN2, gcd_neg, hG, e1]
          simp only [Bool.true_and, decide_true, Bool.and_true, decide_eq_true_eq]
          omega
        · omega
  · omega
theorem opp_canon {x : FT 2} (h : LitC x) : LitC (oppL x) := by
  rcases h with rfl | rfl | ⟨l, hl, rfl | rfl⟩
  · exact .inr (.inl rfl)
  · exact .inl rfl
  · exact .inr (.inr ⟨l, hl, .inr rfl⟩)
  · exact .inr (.inr ⟨l, hl, .inl rfl⟩)
theorem only_const (N : Nat) (kd : Int) (h : kd = 0 ∨ kd = 1) : onlyF (N + 1) (⟨kd, (0, []), []⟩ : Node (FT N)) = true := by
  have e : onlyF (N + 1) (⟨kd, (0, []), []⟩ : Node (FT N)) = (okB kd true (canonB 0 []) 0 (kind0 N []) && true) := rfl
  rw [e]
  rcases h with rfl | rfl <;> simp [okB]
theorem only_leaf (N : Nat) {l : Lin} (h : canonB l.1 l.2 = true) : onlyF (N + 1) (⟨2, l, []⟩ : Node (FT N)) = true := by
  have e : onlyF (N + 1) (⟨2, l, []⟩ : Node (FT N)) = (okB 2 (noneB l.1 l.2.length) (canonB l.1 l.2) 0 (kind0 N []) && true) := rfl
  rw [e, h]
  simp [okB]
theorem only_gate (N : Nat) {kd : Int} {ks : List (FT N)} (hk : kd = 5 ∨ kd = 6) (h : ∀ k ∈ ks, onlyF N k = true) : onlyF (N + 1) (⟨kd, (0, []), ks⟩ : Node (FT N)) = true := by
  have e : onlyF (N + 1) (⟨kd, (0, []), ks⟩ : Node (FT N)) = (okB kd true (canonB 0 []) ks.length (kind0 N ks) && ks.all (onlyF N)) := rfl
  rw [e, List.all_eq_true.2 h]
  rcases hk with rfl | rfl <;> simp [okB]
theorem only_lit (N : Nat) {x : FT 2} (h : LitC x) : onlyF (N + 2) (toF (N + 2) 2 x) = true := by
  rcases h with rfl | rfl | ⟨l, hl, rfl | rfl⟩
  · exact only_const _ 0 (.inl rfl)
  · exact only_const _ 1 (.inr rfl)
  · exact only_leaf _ hl
  · have h1 := only_leaf N hl
    have e : onlyF (N + 2) (toF (N + 2) 2 (not2 l)) = (okB 4 true (canonB 0 []) 1 2 && (onlyF (N + 1) (⟨2, l, []⟩ : Node (FT N)) && true)) := rfl
    rw [e, h1]
    simp [okB]
theorem only_to : ∀ (N : Nat) (x : FT N), onlyF N x = true → onlyF (N + 1) (upF N x) = true
  | 0, _, h => by cases h
  | N + 1, (⟨kd, l, ks⟩ : Node (FT N)), h => by
    obtain ⟨hok, hks⟩ := only_parts h
    have e : onlyF (N + 2) (upF (N + 1) (⟨kd, l, ks⟩ : Node (FT N))) = (okB kd (noneB l.1 l.2.length) (canonB l.1 l.2) (ks.map (upF N)).length (kind0 (N + 1) (ks.map (upF N))) && (ks.map (upF N)).all (onlyF (N + 1))) := rfl
    have e2 : (ks.map (upF N)).all (onlyF (N + 1)) = true := by
      rw [List.all_eq_true]
      intro k hk
      obtain ⟨k', hk', rfl⟩ := List.mem_map.1 hk
      exact only_to N k' (hks k' hk')
    rw [e, e2, Bool.and_true, List.length_map]
    simp only at hok
    rcases okB_cases hok with ⟨hkd, hnb, hkl⟩ | ⟨hkd, hcn, hkl⟩ | ⟨hkd, hnb, hkl, hk0⟩ | ⟨hkd, hnb⟩
    · rw [hnb, hkl]; rcases hkd with rfl | rfl <;> simp [okB]
    · rw [hcn, hkl, hkd]; simp [okB]
    · obtain ⟨k, hk1⟩ := List.length_eq_one_iff.1 hkl
      subst hk1
      have hkk : kindF N k = 2 := hk0
      have e3 : kind0 (N + 1) (([k] : List (FT N)).map (upF N)) = 2 := by
        match N, k, hkk with
        | 0, _, h => cases h
        | N + 1, (⟨kd, l, ks⟩ : Node (FT N)), h => exact h
      rw [hnb, hkl, hkd, e3]; simp [okB]
    · rw [hnb]; rcases hkd with rfl | rfl <;> simp [okB]
theorem norm_only : ∀ (n : Nat) (f : FT n) (nt : Bool), fineF n f = true → farF n f = false → onlyF (3 + n) (normF n f nt) = true
  | 0, _, _, h, _ => by cases h
  | n + 1, (⟨kd, l, ks⟩ : Node (FT n)), nt, hf, hfar => by
    obtain ⟨hok, hks⟩ := fine_kids hf
    rcases okS_cases hok with ⟨hkd, hnb, hkl⟩ | ⟨hkd, hlb, hkl⟩ | ⟨hkd, hnb, hkl⟩ | ⟨hkd, hnb⟩
    · have e1 : ks = [] := List.eq_nil_of_length_eq_zero hkl
      subst e1
      have g := (ans_const (f := (⟨kd, l, []⟩ : Node (FT n))) (nt := nt) hkd rfl).2
      unfold ansF at g
      rw [hfar, if_neg (by decide)] at g
      rw [g]
      refine only_const (3 + n) _ ?_
      simp only at hkd ⊢
      split <;> omega
    · have g := ans_leaf (f := (⟨kd, l, ks⟩ : Node (FT n))) (nt := nt) hkd
      have g1 := g.1
      have g2 := g.2
      unfold ansF at g1
      rw [hfar, if_neg (by decide)] at g1 g2
      rw [g1, liftF_to]
      simp only at g2 hkd hlb ⊢
      clear g g1 hok hks hf hfar hkl
      have g3 : leafErr kd l.1 l.2 = 0 := g2.symm
      unfold leafForm
      rw [g3, if_neg (by decide)]
      unfold leafErr at g3
      have h1 : litErr l.1 l.2 = 0 := by
        rcases litErr_two hlb with h | h
        · exact h
        · rw [h, if_pos (by decide)] at g3; omega
      have c1 := litForm_canon h1
      by_cases hk2 : kd = 2
      · rw [if_pos hk2]
        have hy : LitC (if nt = true then oppL (litForm l.1 l.2) else litForm l.1 l.2) := by
          split
          · exact opp_canon c1
          · exact c1
        generalize (if nt = true then oppL (litForm l.1 l.2) else litForm l.1 l.2) = y at *
        rw [upF_to, toF_toF _ _ _ _ (by omega)]
        obtain ⟨q, hq⟩ : ∃ q, 3 + (n + 1) = q + 2 := ⟨n + 2, by omega⟩
        rw [hq]
        exact only_lit q hy
      · rw [if_neg hk2]
        have h2 : litErr (-l.1) (scale (-1) l.2) = 0 := by
          rcases litErr_two (linB_neg hlb) with h | h
          · exact h
          · rw [h1, if_neg (by decide), if_neg hk2, h, if_pos (by decide)] at g3; omega
        have c2 := litForm_canon h2
        generalize litForm l.1 l.2 = y1 at *
        generalize litForm (-l.1) (scale (-1) l.2) = y2 at *
        have key : ∀ (kk : Int) (z1 z2 : FT 2), kk = 5 ∨ kk = 6 → LitC z1 → LitC z2 → onlyF (3 + (n + 1)) (toF (3 + (n + 1)) 3 (⟨kk, (0, []), [z1, z2]⟩ : Node (FT 2))) = true := fun kk z1 z2 hkk hz1 hz2 => by
          have e : toF (3 + (n + 1)) 3 (⟨kk, (0, []), [z1, z2]⟩ : Node (FT 2)) = (⟨kk, (0, []), [toF (3 + n) 2 z1, toF (3 + n) 2 z2]⟩ : Node (FT (3 + n))) := rfl
          rw [e]
          have hl : ∀ z, LitC z → onlyF (3 + n) (toF (3 + n) 2 z) = true := fun z hz => by
            obtain ⟨q, hq⟩ : ∃ q, 3 + n = q + 2 := ⟨n + 1, by omega⟩
            rw [hq]
            exact only_lit q hz
          refine only_gate (3 + n) hkk (fun k hk => ?_)
          rcases List.mem_cons.1 hk with rfl | hk
          · exact hl _ hz1
          · rcases List.mem_cons.1 hk with rfl | hk
            · exact hl _ hz2
            · cases hk
        cases nt
        · exact key 5 _ _ (.inl rfl) c1 c2
        · exact key 6 _ _ (.inr rfl) (opp_canon c1) (opp_canon c2)
    · obtain ⟨k, hk1⟩ := List.length_eq_one_iff.1 hkl
      simp only at hk1 hkd
      subst hk1; subst hkd
      have w := ans_not (f := (⟨4, l, [k]⟩ : Node (FT n))) (nt := nt) rfl rfl
      have e3 : farF n k = false := w.2.symm.trans hfar
      have w1 := w.1
      unfold ansF at w1
      rw [hfar, e3, if_neg (by decide), if_neg (by decide)] at w1
      rw [w1]
      exact only_to _ _ (norm_only n k (!nt) (hks k (by simp)) e3)
    · have w := ans_many (f := (⟨kd, l, ks⟩ : Node (FT n))) (nt := nt) hkd
      have e3 : ks.any (farF n) = false := w.1.symm.trans hfar
      have w2 := w.2
      unfold ansF at w2
      simp only at w2 hkd
      rw [hfar, e3, if_neg (by decide), if_neg (by decide)] at w2
      rw [w2]
      refine only_gate (3 + n) (by split <;> omega) (fun k hk => ?_)
      obtain ⟨k', hk', rfl⟩ := List.mem_map.1 hk
      exact norm_only n k' nt (hks k' hk') (by
        have := List.any_eq_false.1 e3 k' hk'
        simpa using this)
/-- Normalized again. -/
theorem res_zero {n : Nat} {f : FT n} (h : resE n f = 0) : chkF n f = 0 ∧ farF n f = false ∧ resF n f = normF n f false := by
  unfold resE at h
  split at h
  · rename_i hc
    have hf : farF n f = false := by
      cases hh : farF n f
      · rfl
      · rw [hh, if_pos rfl] at h; omega
    refine ⟨hc, hf, ?_⟩
    unfold resF ansF
    rw [if_pos hc, hf, if_neg (by decide)]
  · rename_i hc; exact absurd h hc
theorem twice_law {n : Nat} {f : FT n} (h : resE n f = 0) (g : resE (3 + n) (resF n f) = 0) : resF (3 + n) (resF n f) = toF (3 + (3 + n)) (3 + n) (resF n f) := by
  obtain ⟨h1, h2, h3⟩ := res_zero h
  obtain ⟨_, _, g3⟩ := res_zero g
  rw [g3]
  rw [h3]
  exact (norm_self _ _ (norm_only n f false (chkF_zero h1).2.2 h2)).2
end Go.Proofs.Ytobkihmmdlacnaa
