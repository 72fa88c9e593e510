/-
  Plain law: norm.Is is the reference's Is; the clauses of a formula, as a function.
-/
import Derived.Test.YtlejcnbpodmleaaCnfB
import Derived.Test.YtlejcnbpodmleaaFind
namespace Go.Proofs.Ytlejcnbpodmleaa
open Go Go.RowKit

theorem goF_zero {α : Type} (s : α → Int → Int) : ∀ (ks : List α) (l : Int), 0 ≤ goF s ks l → 0 ≤ l ∧ ∀ k ∈ ks, ∃ l', 0 ≤ l' ∧ 0 ≤ s k l'
  | [], l, h => ⟨h, fun k hk => by cases hk⟩
  | k :: ks, l, h => by
    unfold goF at h
    split at h
    · rename_i h0
      obtain ⟨h1, h2⟩ := goF_zero s ks _ h
      refine ⟨h0, fun x hx => ?_⟩
      rcases List.mem_cons.1 hx with rfl | hx
      · exact ⟨l, h0, h1⟩
      · exact h2 x hx
    · exact ⟨h, fun _ _ => absurd h (by assumption)⟩
theorem goF_congr {α : Type} {s s' : α → Int → Int} : ∀ (ks : List α) (l : Int), (∀ k ∈ ks, ∀ l, 0 ≤ l → s k l = s' k l) → goF s ks l = goF s' ks l
  | [], l, _ => rfl
  | k :: ks, l, h => by
    unfold goF
    split
    · rename_i h0
      rw [h k (by simp) l h0]
      exact goF_congr ks _ (fun x hx => h x (by simp [hx]))
    · rfl
theorem depthF_iff {n : Nat} {f : FT (n + 1)} {d : Nat} : depthF (n + 1) f d ≤ d ↔ 1 ≤ d ∧ ∀ k ∈ Node.kids f, depthF n k (d - 1) ≤ d - 1 := by
  cases d with
  | zero => exact ⟨fun h => by have : (1 : Nat) ≤ 0 := h; omega, fun h => by omega⟩
  | succ d =>
    have := foldl_max_le (fun k => depthF n k d) d (Node.kids f) 0
    constructor
    · intro h
      refine ⟨by omega, (this.1 ?_).2⟩
      have h2 : (Node.kids f).foldl (fun m k => max m (depthF n k d)) 0 + 1 ≤ d + 1 := h
      omega
    · intro h
      have h2 := this.2 ⟨Nat.zero_le _, h.2⟩
      show (Node.kids f).foldl (fun m k => max m (depthF n k d)) 0 + 1 ≤ d + 1
      omega
theorem walk_law : ∀ (n d : Nat) (f : FT n), (∀ l, 0 ≤ l → 0 ≤ walkF n d f l → onlyF n f = true ∧ depthF n f d ≤ d) ∧ (onlyF n f = true → depthF n f d ≤ d → ∀ l, 0 ≤ l → walkF n d f l = sizeF n f l)
  | 0, d, f => ⟨fun l _ h => by unfold walkF at h; omega, fun h => by unfold onlyF at h; cases h⟩
  | n + 1, d, f => by
    constructor
    · intro l h0 h
      unfold walkF at h
      split at h
      · rename_i hc
        obtain ⟨_, h2⟩ := goF_zero _ _ _ h
        refine ⟨?_, depthF_iff.2 ⟨hc.2, fun k hk => ?_⟩⟩
        · unfold onlyF
          rw [hc.1, Bool.true_and, List.all_eq_true]
          intro k hk
          obtain ⟨l', g1, g2⟩ := h2 k hk
          exact ((walk_law n (d - 1) k).1 l' g1 g2).1
        · obtain ⟨l', g1, g2⟩ := h2 k hk
          exact ((walk_law n (d - 1) k).1 l' g1 g2).2
      · omega
    · intro ho hd l h0
      unfold onlyF at ho
      rw [Bool.and_eq_true, List.all_eq_true] at ho
      obtain ⟨h1, h2⟩ := depthF_iff.1 hd
      unfold walkF sizeF
      rw [if_pos ⟨ho.1, h1⟩]
      exact goF_congr _ _ (fun k hk l hl => (walk_law n (d - 1) k).2 (ho.2 k hk) (h2 k hk) l hl)
theorem is_eq (n : Nat) (f : FT n) : isB n f = ref03IsB n f := by
  unfold isB ref03IsB
  rw [Bool.eq_iff_iff]
  have h := walk_law n 128 f
  simp only [Bool.and_eq_true, decide_eq_true_eq]
  constructor
  · intro h0
    obtain ⟨h1, h2⟩ := h.1 20480 (by omega) h0
    exact ⟨⟨h2, by rw [← h.2 h1 h2 20480 (by omega)]; exact h0⟩, h1⟩
  · rintro ⟨⟨h2, h3⟩, h1⟩
    rw [h.2 h1 h2 20480 (by omega)]
    exact h3
/-- How many formulas there are. -/
def cntF : (n : Nat) → FT n → Nat
  | 0, _ => 0
  | n + 1, f => 1 + ((Node.kids f).map (cntF n)).sum
theorem goF_size {α : Type} {s : α → Int → Int} {c : α → Nat} : ∀ (ks : List α) (l : Int), (∀ k ∈ ks, ∀ l, 0 ≤ l → 0 ≤ s k l → s k l = l - c k) → 0 ≤ goF s ks l → goF s ks l = l - (ks.map c).sum
  | [], l, _, _ => by simp [goF]
  | k :: ks, l, h, h0 => by
    have hz := (goF_zero s (k :: ks) l h0).1
    unfold goF at h0 ⊢
    rw [if_pos hz] at h0 ⊢
    have h1 := (goF_zero s ks _ h0).1
    rw [goF_size ks _ (fun x hx => h x (by simp [hx])) h0, h k (by simp) l hz h1]
    simp only [List.map_cons, List.sum_cons]
    omega
theorem size_cnt : ∀ (n : Nat) (f : FT n) (l : Int), 0 ≤ l → 0 ≤ sizeF n f l → sizeF n f l = l - cntF n f
  | 0, _, l, _, _ => by simp [sizeF, cntF]
  | n + 1, f, l, h0, h => by
    unfold sizeF at h ⊢
    rw [goF_size (c := cntF n) _ _ (fun k _ l h0 h => size_cnt n k l h0 h) h]
    unfold cntF
    omega
theorem is_only {n : Nat} {f : FT n} (h : isB n f = true) : onlyF n f = true ∧ cntF n f ≤ 20480 := by
  rw [is_eq] at h
  simp only [ref03IsB, Bool.and_eq_true, decide_eq_true_eq] at h
  have := size_cnt n f 20480 (by omega) h.1.2
  exact ⟨h.2, by omega⟩

/-- Where a form stands among atoms, from 1 on. -/
def atI (l : List Lin) (a : Lin) : Int := 1 + findI (fun o => decide (a.1 = o.1 ∧ a.2 = o.2)) l
theorem findI_range {α : Type} (p : α → Bool) (l : List α) : -1 ≤ findI p l ∧ findI p l < l.length := by
  unfold findI
  cases h : l.findIdx? p with
  | none => simp only; omega
  | some k =>
    rw [List.findIdx?_eq_some_iff_getElem] at h
    obtain ⟨hk, _⟩ := h
    simp only; omega
theorem atI_range (l : List Lin) (a : Lin) : 0 ≤ atI l a ∧ atI l a ≤ l.length := by
  have := findI_range (fun o : Lin => decide (a.1 = o.1 ∧ a.2 = o.2)) l
  unfold atI; omega
/-- A formula's atoms, behind those that are there. -/
def atomsF : (n : Nat) → FT n → List Lin → List Lin
  | 0, _, l => l
  | n + 1, f, l => (Node.kids f).foldl (fun l k => atomsF n k l) (if Node.kind f = 2 ∧ atI l (Node.lin f) = 0 then l ++ [Node.lin f] else l)
theorem foldl_len {α β : Type} {s : List β → α → List β} {c : α → Nat} : ∀ (ks : List α) (l : List β), (∀ k ∈ ks, ∀ l, (s l k).length ≤ l.length + c k) → (ks.foldl s l).length ≤ l.length + (ks.map c).sum
  | [], l, _ => by simp
  | k :: ks, l, h => by
    have h1 := foldl_len (s := s) (c := c) ks (s l k) (fun x hx => h x (by simp [hx]))
    have h2 := h k (by simp) l
    simp only [List.foldl_cons, List.map_cons, List.sum_cons]
    omega
theorem atoms_len : ∀ (n : Nat) (f : FT n) (l : List Lin), (atomsF n f l).length ≤ l.length + cntF n f
  | 0, _, l => by simp [atomsF]
  | n + 1, f, l => by
    unfold atomsF cntF
    refine Nat.le_trans (foldl_len (c := cntF n) _ _ (fun k _ l => atoms_len n k l)) ?_
    split
    · simp; omega
    · omega

/-- The clauses of a part that is no literal. -/
def gate (kd : Int) (v : Int) (ks : List Int) : List (List Int) :=
  if kd = 6 ∨ kd = 1 then ks.map (fun k => [v, -k]) ++ [-v :: ks] else ks.map (fun k => [-v, k]) ++ [v :: ks.map (fun k => -k)]
/-- A formula's clauses behind those that are there: how many variables; the clauses; its literal. -/
def litF : (n : Nat) → FT n → List Lin → Int → List (List Int) → Int × List (List Int) × Int
  | 0, _, _, N, out => (N, out, 0)
  | n + 1, f, A, N, out =>
    if Node.kind f = 2 then (N, out, atI A (Node.lin f))
    else if Node.kind f = 4 then
      match Node.kids f with
      | [] => (N, out, 0)
      | k :: _ => ((litF n k A N out).1, (litF n k A N out).2.1, -(litF n k A N out).2.2)
    else
      let r := (Node.kids f).foldl (fun (s : Int × List (List Int) × List Int) k => ((litF n k A s.1 s.2.1).1, (litF n k A s.1 s.2.1).2.1, s.2.2 ++ [(litF n k A s.1 s.2.1).2.2])) (N, out, [])
      (r.1 + 1, r.2.1 ++ gate (Node.kind f) (r.1 + 1) r.2.2, r.1 + 1)
/-- Through the kids. -/
def litL (n : Nat) (A : List Lin) (ks : List (FT n)) (s : Int × List (List Int) × List Int) : Int × List (List Int) × List Int :=
  ks.foldl (fun s k => ((litF n k A s.1 s.2.1).1, (litF n k A s.1 s.2.1).2.1, s.2.2 ++ [(litF n k A s.1 s.2.1).2.2])) s
theorem litL_take {n : Nat} {A : List Lin} {ks : List (FT n)} {s : Int × List (List Int) × List Int} {i : Nat} (hi : i < ks.length) :
    litL n A (ks.take (i + 1)) s = ((litF n ks[i] A (litL n A (ks.take i) s).1 (litL n A (ks.take i) s).2.1).1, (litF n ks[i] A (litL n A (ks.take i) s).1 (litL n A (ks.take i) s).2.1).2.1, (litL n A (ks.take i) s).2.2 ++ [(litF n ks[i] A (litL n A (ks.take i) s).1 (litL n A (ks.take i) s).2.1).2.2]) := by
  unfold litL
  rw [List.take_succ_eq_append_getElem hi, List.foldl_append]
  rfl
theorem gate_len (kd v : Int) (ks : List Int) : (gate kd v ks).length = ks.length + 1 := by
  unfold gate; split <;> simp
/-- What holds of a formula's clauses: how many variables, clauses; its literal. -/
def LitR (A : List Lin) (n : Nat) (k : FT n) : Prop := ∀ (N : Int) (out : List (List Int)), A.length ≤ N → N ≤ (litF n k A N out).1 ∧ (litF n k A N out).1 ≤ N + cntF n k ∧ (litF n k A N out).2.1.length + 1 ≤ out.length + 2 * cntF n k ∧ -(litF n k A N out).1 ≤ (litF n k A N out).2.2 ∧ (litF n k A N out).2.2 ≤ (litF n k A N out).1
theorem litL_range {n : Nat} {A : List Lin} :
    ∀ (ks : List (FT n)) (s : Int × List (List Int) × List Int), (∀ k ∈ ks, LitR A n k) → A.length ≤ s.1 → (∀ x ∈ s.2.2, -s.1 ≤ x ∧ x ≤ s.1) →
      s.1 ≤ (litL n A ks s).1 ∧ (litL n A ks s).1 ≤ s.1 + (ks.map (cntF n)).sum ∧ (litL n A ks s).2.1.length + ks.length ≤ s.2.1.length + 2 * (ks.map (cntF n)).sum ∧ (litL n A ks s).2.2.length = s.2.2.length + ks.length ∧ ∀ x ∈ (litL n A ks s).2.2, -(litL n A ks s).1 ≤ x ∧ x ≤ (litL n A ks s).1
  | [], s, _, h1, h2 => by
    refine ⟨Int.le_refl _, by simp [litL], by simp [litL], by simp [litL], h2⟩
  | k :: ks, s, h, h1, h2 => by
    have g := h k (by simp) s.1 s.2.1 h1
    have r := litL_range ks ((litF n k A s.1 s.2.1).1, (litF n k A s.1 s.2.1).2.1, s.2.2 ++ [(litF n k A s.1 s.2.1).2.2]) (fun x hx => h x (by simp [hx])) (by simp only; omega) (fun x hx => by
      simp only at hx ⊢
      rcases List.mem_append.1 hx with hx | hx
      · have := h2 x hx; omega
      · simp at hx; subst hx; omega)
    have e : litL n A (k :: ks) s = litL n A ks ((litF n k A s.1 s.2.1).1, (litF n k A s.1 s.2.1).2.1, s.2.2 ++ [(litF n k A s.1 s.2.1).2.2]) := rfl
    rw [e]
    simp only [List.length_append, List.length_cons, List.length_nil, List.map_cons, List.sum_cons] at r ⊢
    obtain ⟨r1, r2, r3, r4, r5⟩ := r
    exact ⟨by omega, by omega, by omega, by omega, r5⟩
theorem sum_cnt_len : ∀ {n : Nat} (ks : List (FT n)), (∀ k ∈ ks, onlyF n k = true) → ks.length ≤ (ks.map (cntF n)).sum
  | _, [], _ => by simp
  | 0, k :: ks, h => by have := h k (by simp); unfold onlyF at this; cases this
  | n + 1, k :: ks, h => by
    have := sum_cnt_len ks (fun x hx => h x (by simp [hx]))
    simp only [List.length_cons, List.map_cons, List.sum_cons]
    have : 1 ≤ cntF (n + 1) k := by unfold cntF; omega
    omega
theorem only_kids {n : Nat} {f : FT (n + 1)} (h : onlyF (n + 1) f = true) : okN f = true ∧ ∀ k ∈ Node.kids f, onlyF n k = true := by
  unfold onlyF at h
  rw [Bool.and_eq_true, List.all_eq_true] at h
  exact h
theorem only_le {n : Nat} {f : FT (n + 1)} (h : okN f = true) (hk : Node.kind f = 2) : Node.kids f = [] := by
  unfold okN okB at h
  rw [hk] at h
  simp at h
  exact h.2
theorem only_not {n : Nat} {f : FT (n + 1)} (h : okN f = true) (hk : Node.kind f = 4) : (Node.kids f).length = 1 := by
  unfold okN okB at h
  rw [hk] at h
  simp at h
  exact h.1.2
theorem only_kind {n : Nat} {f : FT (n + 1)} (h : okN f = true) : Node.kind f = 0 ∧ Node.kids f = [] ∨ Node.kind f = 1 ∧ Node.kids f = [] ∨ Node.kind f = 2 ∨ Node.kind f = 4 ∨ Node.kind f = 5 ∨ Node.kind f = 6 := by
  unfold okN okB at h
  simp at h
  rcases h with ((⟨⟨h, _⟩, hk⟩ | h) | h) | h
  · rcases h with h | h
    · exact .inl ⟨h, hk⟩
    · exact .inr (.inl ⟨h, hk⟩)
  · exact .inr (.inr (.inl h.1.1))
  · exact .inr (.inr (.inr (.inl h.1.1.1)))
  · rcases h.1 with h | h
    · exact .inr (.inr (.inr (.inr (.inl h))))
    · exact .inr (.inr (.inr (.inr (.inr h))))
theorem litF_range (A : List Lin) : ∀ (n : Nat) (f : FT n), onlyF n f = true → LitR A n f
  | 0, _, h => by unfold onlyF at h; cases h
  | n + 1, f, h => by
    intro N out hN
    obtain ⟨h1, h2⟩ := only_kids h
    have ih : ∀ k ∈ Node.kids f, LitR A n k := fun k hk => litF_range A n k (h2 k hk)
    have hs := sum_cnt_len (Node.kids f) h2
    have hr := litL_range (A := A) (Node.kids f) (N, out, []) ih hN (by simp)
    have hc : cntF (n + 1) f = 1 + ((Node.kids f).map (cntF n)).sum := rfl
    unfold litF
    split
    · have := atI_range A (Node.lin f)
      simp only
      omega
    · split
      · have hl := only_not h1 (by assumption)
        rw [hc]
        cases hk : Node.kids f with
        | nil => rw [hk] at hl; simp at hl
        | cons k ks =>
          have := ih k (by rw [hk]; simp) N out hN
          simp only [List.map_cons, List.sum_cons]
          omega
      · obtain ⟨r1, r2, r3, r4, r5⟩ := hr
        simp only [List.length_append, gate_len]
        have r4' : (litL n A (Node.kids f) (N, out, [])).2.2.length = (Node.kids f).length := by rw [r4]; simp
        clear r4
        unfold litL at r1 r2 r3 r4' r5
        simp only at r1 r2 r3
        omega
end Go.Proofs.Ytlejcnbpodmleaa
