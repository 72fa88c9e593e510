/-
  Plain law of the search: what a branch comes to.
-/
import Derived.Test.YtiklknilnmkbmaaSatE
namespace Go.Proofs.Ytiklknilnmkbmaa
open Go Go.RowKit

theorem negL_neg (D : List Int) : negL (negL D) = D := by
  unfold negL
  rw [List.map_map]
  have : ((fun x : Int => -x) ∘ fun x => -x) = id := funext fun x => by simp
  rw [this, List.map_id]
/-- All that was learned follows, step by step. -/
def Chain (n : Int) (base L : List (List Int)) : Prop := ∀ i, i < L.length → RefI n base L i
theorem RefI.left {n : Int} {base L M : List (List Int)} {i : Nat} (hi : i < L.length) : RefI n base (L ++ M) i ↔ RefI n base L i := by
  unfold RefI
  rw [List.take_append_of_le_length (by omega)]
  have : (L ++ M).getD i [] = L.getD i [] := by
    rw [List.getD_eq_getElem?_getD, List.getD_eq_getElem?_getD, List.getElem?_append_left hi]
  rw [this]
theorem Chain.push {n : Int} {base L : List (List Int)} {D : List Int} (h : Chain n base L) (hD : ¬ ∃ a, Fol n.toNat (base ++ L) D a) : Chain n base (L ++ [negL D]) := by
  intro i hi
  rcases Nat.lt_or_ge i L.length with g | g
  · exact (RefI.left g).2 (h i g)
  · obtain rfl : i = L.length := by simp at hi; omega
    unfold RefI
    rw [List.take_append_of_le_length (Nat.le_refl _), List.take_length]
    have : (L ++ [negL D]).getD L.length [] = negL D := by
      rw [List.getD_eq_getElem?_getD, List.getElem?_append_right (Nat.le_refl _)]; simp
    rw [this, negL_neg]
    exact hD
/-- Where both of a variable's literals were refuted. -/
theorem both_refuted {n : Nat} {cl : List (List Int)} {D : List Int} {v : Int} (h0 : v ≠ 0) (hv : v.natAbs ≤ n) (h1 : negL (D ++ [v]) ∈ cl) (h2 : negL (D ++ [-v]) ∈ cl) : ¬ ∃ a, Fol n cl D a := by
  rintro ⟨a, ha⟩
  have hd : ∀ u : Int, negL (D ++ [u]) ∈ cl → Drv cl D (-u) := fun u hu => by
    refine .unit hu (by unfold negL; simp) (fun m hm hne => ?_)
    unfold negL at hm
    rw [List.map_append] at hm
    rcases List.mem_append.1 hm with h | h
    · obtain ⟨d, hd, rfl⟩ := List.mem_map.1 h
      rw [Int.neg_neg]
      exact .lit hd
    · simp at h; exact absurd h hne
  have d1 := hd v h1
  have d2 := hd (-v) h2
  rw [Int.neg_neg] at d2
  have t1 := (ha.tells v h0 hv).2 d2
  have t2 := (ha.tells (-v) (by omega) (by omega)).2 d1
  rw [val_neg _ _ h0] at t2
  omega

/-- Literals of n variables, each variable once. -/
def Apart (N : Nat) (D : List Int) : Prop := (∀ l ∈ D, l ≠ 0 ∧ l.natAbs ≤ N) ∧ (D.map Int.natAbs).Nodup
theorem nodup_le {N : Nat} : ∀ {l : List Nat}, l.Nodup → (∀ x ∈ l, 1 ≤ x ∧ x ≤ N) → l.length ≤ N := by
  intro l h hx
  have h1 : l ⊆ List.range' 1 N := fun x hm => by
    have := hx x hm
    rw [List.mem_range'_1]; omega
  have h2 := h.length_le_of_subset h1
  simpa using h2
theorem Apart.len {N : Nat} {D : List Int} (h : Apart N D) : D.length ≤ N := by
  have := nodup_le (N := N) h.2 (fun x hx => by
    obtain ⟨l, hl, rfl⟩ := List.mem_map.1 hx
    have := h.1 l hl
    omega)
  simpa using this
theorem Apart.push {N : Nat} {cl : List (List Int)} {D a : List Int} {v : Int} (h : Apart N D) (ha : Fol N cl D a) (h0 : v ≠ 0) (hv : v.natAbs ≤ N) (hz : val a v = 0) (u : Int) (hu : u.natAbs = v.natAbs) : Apart N (D ++ [u]) := by
  refine ⟨fun l hl => ?_, ?_⟩
  · rcases List.mem_append.1 hl with g | g
    · exact h.1 l g
    · simp at g; subst g; omega
  · rw [List.map_append]
    have hnot : v.natAbs ∉ D.map Int.natAbs := fun hm => by
      obtain ⟨d, hd, he⟩ := List.mem_map.1 hm
      have hd0 := h.1 d hd
      have h1 := (ha.tells d hd0.1 hd0.2).2 (.lit hd)
      have : d = v ∨ d = -v := by omega
      rcases this with rfl | rfl
      · omega
      · rw [val_neg _ _ h0] at h1; omega
    rw [List.nodup_append]
    refine ⟨h.2, by simp, fun x hx y hy => ?_⟩
    simp at hy
    subst hy
    rw [hu]
    intro e
    subst e
    exact hnot hx
/-- Room for so many clauses more. -/
def Room (n : Int) (base L : List (List Int)) (k : Nat) : Prop := ∀ M : List (List Int), M.length ≤ k → (∀ c ∈ M, c.length ≤ n.toNat ∧ ∀ l ∈ c, l ≠ 0 ∧ l.natAbs ≤ n.toNat) → chk n (base ++ (L ++ M)) = 0 ∧ (base ++ (L ++ M)).length < 16384
/-- Fuel and room are enough. -/
def Enough (n : Int) (base L : List (List Int)) (f : Int) (D : List Int) : Prop := Apart n.toNat D ∧ (2 : Int) ^ (n.toNat - D.length + 1) - 1 ≤ f ∧ Room n base L (2 ^ (n.toNat - D.length + 1) - 1)
/-- What a branch comes to. -/
structure BrLaw (n : Int) (base L : List (List Int)) (f : Int) (D : List Int) (out f' : Int) (L' : List (List Int)) (vs : List Bool) : Prop where
  out3 : out = 0 ∨ out = 1 ∨ out = 2
  fuel : -1 ≤ f' ∧ f' < f
  ok : out ≠ 0 → 0 ≤ f'
  grow : ∃ M, L' = L ++ M ∧ (M.length : Int) + f' ≤ f
  chain : out = 2 → Chain n base L → Chain n base L'
  last : out = 2 → negL D ∈ L'
  found : out = 1 → allB base vs = true ∧ (vs.length : Int) = n
  enough : Enough n base L f D → out ≠ 0 ∧ f - f' ≤ (2 : Int) ^ (n.toNat - D.length + 1) - 1 ∧ ∃ M, L' = L ++ M ∧ (M.length : Int) ≤ (2 : Int) ^ (n.toNat - D.length + 1) - 1 ∧ ∀ c ∈ M, c.length ≤ n.toNat ∧ ∀ l ∈ c, l ≠ 0 ∧ l.natAbs ≤ n.toNat

theorem pow_pos' (k : Nat) : (1 : Int) ≤ 2 ^ k := by
  induction k with
  | zero => simp
  | succ k ih => rw [Int.pow_succ]; omega
theorem pow_cast (k : Nat) : ((2 ^ k - 1 : Nat) : Int) = (2 : Int) ^ k - 1 := by
  have h : 1 ≤ 2 ^ k := Nat.one_le_two_pow
  rw [Int.ofNat_sub h]
  simp
theorem Room.nil {n : Int} {base L : List (List Int)} {k : Nat} (h : Room n base L k) : chk n (base ++ L) = 0 ∧ (base ++ L).length < 16384 := by
  have := h [] (Nat.zero_le _) (fun c hc => by cases hc)
  simpa using this
/-- It gave up. -/
theorem brLaw_gave {n : Int} {base L : List (List Int)} {f f' : Int} {D : List Int} (hf : f' = f - 1) (h1 : 0 ≤ f) (vs : List Bool) (hno : ¬ Enough n base L f D) : BrLaw n base L f D 0 f' L vs where
  out3 := .inl rfl
  fuel := by omega
  ok := fun h => absurd rfl h
  grow := ⟨[], by simp, by simp; omega⟩
  chain := fun h => by cases h
  last := fun h => by cases h
  found := fun h => by cases h
  enough := fun h => absurd h hno
theorem clause_ok {N : Nat} {D : List Int} (h : Apart N D) : (negL D).length ≤ N ∧ ∀ l ∈ negL D, l ≠ 0 ∧ l.natAbs ≤ N := by
  refine ⟨by rw [negL_len]; exact h.len, fun l hl => ?_⟩
  unfold negL at hl
  obtain ⟨d, hd, rfl⟩ := List.mem_map.1 hl
  have := h.1 d hd
  omega
/-- A conflict at once. -/
theorem brLaw_conf {n : Int} {base L : List (List Int)} {f f' : Int} {D : List Int} (hf : f' = f - 1) (h1 : 1 ≤ f) (vs : List Bool) (hc : ¬ ∃ a, Fol n.toNat (base ++ L) D a) : BrLaw n base L f D 2 f' (L ++ [negL D]) vs where
  out3 := .inr (.inr rfl)
  fuel := by omega
  ok := fun _ => by omega
  grow := ⟨[negL D], rfl, by simp; omega⟩
  chain := fun _ h => h.push hc
  last := fun _ => by simp
  found := fun h => by cases h
  enough := fun h => by
    have := pow_pos' (n.toNat - D.length)
    have e : (2 : Int) ^ (n.toNat - D.length + 1) = 2 ^ (n.toNat - D.length) * 2 := Int.pow_succ _ _
    refine ⟨by decide, by omega, [negL D], rfl, by simp; omega, fun c hc => ?_⟩
    simp at hc
    subst hc
    exact clause_ok h.1
/-- Values were found. -/
theorem brLaw_found {n : Int} {base L : List (List Int)} {f f' : Int} {D : List Int} (hf : f' = f - 1) (h1 : 1 ≤ f) {vs : List Bool} (ha : allB base vs = true) (hl : (vs.length : Int) = n) : BrLaw n base L f D 1 f' L vs where
  out3 := .inr (.inl rfl)
  fuel := by omega
  ok := fun _ => by omega
  grow := ⟨[], by simp, by simp; omega⟩
  chain := fun h => by cases h
  last := fun h => by cases h
  found := fun _ => ⟨ha, hl⟩
  enough := fun h => by
    have := pow_pos' (n.toNat - D.length)
    have e : (2 : Int) ^ (n.toNat - D.length + 1) = 2 ^ (n.toNat - D.length) * 2 := Int.pow_succ _ _
    exact ⟨by decide, by omega, [], by simp, by simp; omega, fun c hc => by cases hc⟩
theorem enough_child {n : Int} {base L : List (List Int)} {f : Int} {D a : List Int} {v : Int} (h : Enough n base L f D) (ha : Fol n.toNat (base ++ L) D a) (h0 : v ≠ 0) (hv : v.natAbs ≤ n.toNat) (hz : val a v = 0) :
    D.length + 1 ≤ n.toNat ∧ ∀ (u : Int) (M : List (List Int)) (f1 : Int), u.natAbs = v.natAbs → (M.length : Int) ≤ (2 : Int) ^ (n.toNat - D.length) - 1 → (∀ c ∈ M, c.length ≤ n.toNat ∧ ∀ l ∈ c, l ≠ 0 ∧ l.natAbs ≤ n.toNat) → f - (2 : Int) ^ (n.toNat - D.length) ≤ f1 → Enough n base (L ++ M) f1 (D ++ [u]) := by
  have hap := h.1.push ha h0 hv hz v rfl
  have hlen := hap.len
  rw [List.length_append] at hlen
  simp at hlen
  refine ⟨hlen, fun u M f1 hu hM hc hf => ?_⟩
  have hm : n.toNat - (D ++ [u]).length + 1 = n.toNat - D.length := by rw [List.length_append]; simp; omega
  have e : (2 : Int) ^ (n.toNat - D.length + 1) = 2 ^ (n.toNat - D.length) * 2 := Int.pow_succ _ _
  refine ⟨h.1.push ha h0 hv hz u hu, ?_, fun M2 hM2 hc2 => ?_⟩
  · rw [hm]; have := h.2.1; omega
  · rw [hm] at hM2
    have := h.2.2 (M ++ M2) (by
      have p1 := pow_cast (n.toNat - D.length)
      have p2 := pow_cast (n.toNat - D.length + 1)
      rw [List.length_append]
      have q : (M2.length : Int) ≤ ((2 ^ (n.toNat - D.length) - 1 : Nat) : Int) := by exact_mod_cast hM2
      have : ((M.length + M2.length : Nat) : Int) ≤ ((2 ^ (n.toNat - D.length + 1) - 1 : Nat) : Int) := by
        rw [p2]; rw [p1] at q; push_cast; omega
      exact_mod_cast this) (fun c hcc => by
        rcases List.mem_append.1 hcc with g | g
        · exact hc c g
        · exact hc2 c g)
    simpa [List.append_assoc] using this
/-- The first branch didn't end in 'none'. -/
theorem brLaw_first {n : Int} {base L : List (List Int)} {f f1 : Int} {D a : List Int} {v : Int} {out : Int} {L1 : List (List Int)} {vs : List Bool} (_h1 : 1 ≤ f) (ha : Fol n.toNat (base ++ L) D a) (h0 : v ≠ 0) (hv : v.natAbs ≤ n.toNat) (hz : val a v = 0)
    (hb : BrLaw n base L (f - 1) (D ++ [v]) out f1 L1 vs) (ho : out ≠ 2) : BrLaw n base L f D out f1 L1 vs where
  out3 := hb.out3
  fuel := by have := hb.fuel; omega
  ok := hb.ok
  grow := by obtain ⟨M, e, hM⟩ := hb.grow; exact ⟨M, e, by omega⟩
  chain := fun h => absurd h ho
  last := fun h => absurd h ho
  found := hb.found
  enough := fun h => by
    obtain ⟨hl, hch⟩ := enough_child h ha h0 hv hz
    have hp := pow_pos' (n.toNat - D.length)
    have e : (2 : Int) ^ (n.toNat - D.length + 1) = 2 ^ (n.toNat - D.length) * 2 := Int.pow_succ _ _
    have hE := hch v [] (f - 1) rfl (by simp; omega) (fun c hc => by cases hc) (by omega)
    rw [List.append_nil] at hE
    have hm : n.toNat - (D ++ [v]).length + 1 = n.toNat - D.length := by rw [List.length_append]; simp; omega
    obtain ⟨g1, g2, M, g3, g4, g5⟩ := hb.enough hE
    rw [hm] at g2 g4
    exact ⟨g1, by omega, M, g3, by omega, g5⟩
/-- The second one didn't. -/
theorem brLaw_second {n : Int} {base L : List (List Int)} {f f1 f2 : Int} {D a : List Int} {v : Int} {out : Int} {L1 L2 : List (List Int)} {vs vs1 : List Bool} (_h1 : 1 ≤ f) (ha : Fol n.toNat (base ++ L) D a) (h0 : v ≠ 0) (hv : v.natAbs ≤ n.toNat) (hz : val a v = 0)
    (hb : BrLaw n base L (f - 1) (D ++ [v]) 2 f1 L1 vs1) (hb2 : BrLaw n base L1 f1 (D ++ [-v]) out f2 L2 vs) (ho : out ≠ 2) : BrLaw n base L f D out f2 L2 vs where
  out3 := hb2.out3
  fuel := by have := hb.fuel; have := hb2.fuel; omega
  ok := hb2.ok
  grow := by
    obtain ⟨M, e, hM⟩ := hb.grow
    obtain ⟨M2, e2, hM2⟩ := hb2.grow
    exact ⟨M ++ M2, by rw [e2, e, List.append_assoc], by rw [List.length_append]; push_cast; omega⟩
  chain := fun h => absurd h ho
  last := fun h => absurd h ho
  found := hb2.found
  enough := fun h => by
    obtain ⟨hl, hch⟩ := enough_child h ha h0 hv hz
    have hp := pow_pos' (n.toNat - D.length)
    have e : (2 : Int) ^ (n.toNat - D.length + 1) = 2 ^ (n.toNat - D.length) * 2 := Int.pow_succ _ _
    have hE := hch v [] (f - 1) rfl (by simp; omega) (fun c hc => by cases hc) (by omega)
    rw [List.append_nil] at hE
    have hm : ∀ u : Int, n.toNat - (D ++ [u]).length + 1 = n.toNat - D.length := fun u => by rw [List.length_append]; simp; omega
    obtain ⟨g1, g2, M, g3, g4, g5⟩ := hb.enough hE
    rw [hm] at g2 g4
    have hE2 := hch (-v) M f1 (by omega) g4 g5 (by omega)
    rw [← g3] at hE2
    obtain ⟨k1, k2, M2, k3, k4, k5⟩ := hb2.enough hE2
    rw [hm] at k2 k4
    refine ⟨k1, by omega, M ++ M2, by rw [k3, g3, List.append_assoc], by rw [List.length_append]; push_cast; omega, fun c hc => ?_⟩
    rcases List.mem_append.1 hc with g | g
    · exact g5 c g
    · exact k5 c g
/-- Both did: it is learned. -/
theorem brLaw_both {n : Int} {base L : List (List Int)} {f f1 f2 : Int} {D a : List Int} {v : Int} {L1 L2 : List (List Int)} {vs1 vs2 vs : List Bool} (_h1 : 1 ≤ f) (ha : Fol n.toNat (base ++ L) D a) (h0 : v ≠ 0) (hv : v.natAbs ≤ n.toNat) (hz : val a v = 0)
    (hb : BrLaw n base L (f - 1) (D ++ [v]) 2 f1 L1 vs1) (hb2 : BrLaw n base L1 f1 (D ++ [-v]) 2 f2 L2 vs2) : BrLaw n base L f D 2 f2 (L2 ++ [negL D]) vs where
  out3 := .inr (.inr rfl)
  fuel := by have := hb.fuel; have := hb2.fuel; omega
  ok := fun _ => hb2.ok (by decide)
  grow := by
    obtain ⟨M, e, hM⟩ := hb.grow
    obtain ⟨M2, e2, hM2⟩ := hb2.grow
    exact ⟨M ++ M2 ++ [negL D], by rw [e2, e]; simp, by simp only [List.length_append, List.length_cons, List.length_nil]; push_cast; omega⟩
  chain := fun _ h => by
    have hc := hb2.chain rfl (hb.chain rfl h)
    refine hc.push (both_refuted h0 hv ?_ ?_)
    · obtain ⟨M2, e2, _⟩ := hb2.grow
      rw [e2]
      exact List.mem_append_right _ (List.mem_append_left _ (hb.last rfl))
    · exact List.mem_append_right _ (hb2.last rfl)
  last := fun _ => by simp
  found := fun h => by cases h
  enough := fun h => by
    obtain ⟨hl, hch⟩ := enough_child h ha h0 hv hz
    have hp := pow_pos' (n.toNat - D.length)
    have e : (2 : Int) ^ (n.toNat - D.length + 1) = 2 ^ (n.toNat - D.length) * 2 := Int.pow_succ _ _
    have hE := hch v [] (f - 1) rfl (by simp; omega) (fun c hc => by cases hc) (by omega)
    rw [List.append_nil] at hE
    have hm : ∀ u : Int, n.toNat - (D ++ [u]).length + 1 = n.toNat - D.length := fun u => by rw [List.length_append]; simp; omega
    obtain ⟨g1, g2, M, g3, g4, g5⟩ := hb.enough hE
    rw [hm] at g2 g4
    have hE2 := hch (-v) M f1 (by omega) g4 g5 (by omega)
    rw [← g3] at hE2
    obtain ⟨k1, k2, M2, k3, k4, k5⟩ := hb2.enough hE2
    rw [hm] at k2 k4
    refine ⟨by decide, by omega, M ++ M2 ++ [negL D], by rw [k3, g3]; simp, by simp only [List.length_append, List.length_cons, List.length_nil]; push_cast; omega, fun c hc => ?_⟩
    rcases List.mem_append.1 hc with hc | hc
    · rcases List.mem_append.1 hc with g | g
      · exact g5 c g
      · exact k5 c g
    · simp at hc
      subst hc
      exact clause_ok h.1
/-- Values by which all clauses are true. -/
theorem found_true {N : Nat} {base L : List (List Int)} {D a : List Int} (ha : Fol N (base ++ L) D a) (hcl : ∀ c ∈ base ++ L, ∀ l ∈ c, l ≠ 0 ∧ l.natAbs ≤ N) (ho : OpenIs (base ++ L) a 0) :
    allB base ((a.drop 1).map (fun x => x == 1)) = true ∧ ((a.drop 1).map (fun x => x == 1)).length = N := by
  have hlen := ha.len
  refine ⟨?_, by simp [hlen]⟩
  rcases ho with ⟨_, h⟩ | ⟨h, _⟩
  rotate_left
  · exact absurd rfl h
  rcases h with h | ⟨c, hc, h⟩
  rotate_left
  · -- a clause all false: a conflict
    exact absurd (.inr ⟨c, hc, fun l hl => (ha.tells (-l) (by have := hcl c hc l hl; omega) (by have := hcl c hc l hl; omega)).1 (by
      rw [val_neg _ _ (hcl c hc l hl).1, h l hl]; rfl)⟩) ha.fine
  unfold allB
  rw [List.all_eq_true]
  intro c hc
  rw [List.any_eq_true]
  obtain ⟨l, hl, hv⟩ := h c (List.mem_append_left _ hc)
  obtain ⟨l0, l1⟩ := hcl c (List.mem_append_left _ hc) l hl
  refine ⟨l, hl, ?_⟩
  have hk : l.natAbs < a.length := by omega
  have hg : ((a.drop 1).map (fun x => x == 1)).getD (l.natAbs - 1) false = (a.getD l.natAbs 0 == 1) := by
    rw [List.getD_eq_getElem?_getD, List.getElem?_map, List.getElem?_drop, show 1 + (l.natAbs - 1) = l.natAbs by omega, List.getElem?_eq_getElem hk, List.getD_eq_getElem?_getD, List.getElem?_eq_getElem hk]
    rfl
  have hl2 : l.natAbs ≤ ((a.drop 1).map (fun x => x == 1)).length := by simp; omega
  unfold val at hv
  unfold valB
  rw [hg, decide_eq_true (show 1 ≤ l.natAbs by omega), decide_eq_true hl2]
  by_cases hn : l < 0
  · rw [if_pos hn] at hv
    rw [show a.getD l.natAbs 0 = -1 by omega, decide_eq_false (show ¬ 0 < l by omega)]
    rfl
  · rw [if_neg hn] at hv
    rw [hv, decide_eq_true (show 0 < l by omega)]
    rfl
end Go.Proofs.Ytiklknilnmkbmaa
