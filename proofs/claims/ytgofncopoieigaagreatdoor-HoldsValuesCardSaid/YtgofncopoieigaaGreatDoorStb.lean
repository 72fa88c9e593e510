/-
  A stable sort's plain half: rotating, merging in place, runs. No program is named here.
-/
import Derived.Sort.LotA
namespace Go.Proofs.YtgofncopoieigaaGreatDoor
open Go Go.Sort
variable {α : Type} [Inhabited α] {lt : α → α → Bool}

omit [Inhabited α] in
theorem ltLe (hS : SWO lt) {x y z : α} (h1 : lt x y = true) (h2 : lt z y = false) : lt x z = true := by
  cases h : lt x z with
  | true => rfl
  | false => have := hS.ntrans x z y h h2; rw [h1] at this; cases this

/-- Two ranges of n places exchanged. -/
structure SwR (a b n : Nat) (d d' : Array α) : Prop where
  size : d'.size = d.size
  perm : PermIn a (b + n) d d'
  at_ : ∀ k, d'[k]! = if a ≤ k ∧ k < a + n then d[k + (b - a)]! else if b ≤ k ∧ k < b + n then d[k - (b - a)]! else d[k]!

theorem SwR.zero (a b : Nat) (d : Array α) : SwR a b 0 d d := ⟨rfl, permIn_refl _ _ _, fun k => by rw [if_neg (by omega), if_neg (by omega)]⟩
theorem SwR.succ {a b i : Nat} {d d1 : Array α} (h : SwR a b i d d1) (hab : a + (i + 1) ≤ b) (hb : b + (i + 1) ≤ d.size) : SwR a b (i + 1) d (swp d1 (a + i) (b + i)) := by
  have hs := h.size
  refine ⟨by rw [size_swp, hs], ?_, fun k => ?_⟩
  · exact permIn_trans _ _ _ _ _ (permIn_mono _ _ a (b + i) a (b + (i + 1)) (Nat.le_refl _) (by omega) (by omega) h.perm) (swp_permIn _ _ _ _ _ (by omega) (by omega) (by omega) (by omega) (by omega))
  · have e1 : d1[a + i]! = d[a + i]! := by rw [h.at_, if_neg (by omega), if_neg (by omega)]
    have e2 : d1[b + i]! = d[b + i]! := by rw [h.at_, if_neg (by omega), if_neg (by omega)]
    rw [swp_get d1 (by omega) (by omega) k, e1, e2, h.at_ k]
    by_cases h1 : k = b + i
    · subst h1
      rw [if_pos rfl, if_neg (by omega), if_pos (by omega)]
      congr 1; omega
    · rw [if_neg h1]
      by_cases h2 : k = a + i
      · subst h2
        rw [if_pos rfl, if_pos (by omega)]
        congr 1; omega
      · rw [if_neg h2]
        by_cases h3 : a ≤ k ∧ k < a + i
        · rw [if_pos h3, if_pos (by omega)]
        · by_cases h4 : b ≤ k ∧ k < b + i
          · rw [if_neg h3, if_pos h4, if_neg (by omega), if_pos (by omega)]
          · rw [if_neg h3, if_neg h4, if_neg (by omega), if_neg (by omega)]

/-- Where a place's element comes from, when [a, b) is rotated at m. -/
def rotAt (a m b : Nat) (k : Nat) : Nat := if a ≤ k ∧ k < a + (b - m) then k + (m - a) else if a + (b - m) ≤ k ∧ k < b then k - (b - m) else k

/-- [a, b) rotated at m. -/
structure Rot (a m b : Nat) (d d' : Array α) : Prop where
  size : d'.size = d.size
  perm : PermIn a b d d'
  at_ : ∀ k, d'[k]! = d[rotAt a m b k]!

/-- The rotation under way: the window [m - i, m + j) is to be rotated at m. -/
structure RotI (a m b i j : Nat) (d d' : Array α) : Prop where
  size : d'.size = d.size
  perm : PermIn a b d d'
  i1 : 1 ≤ i
  j1 : 1 ≤ j
  il : i ≤ m - a
  jl : j ≤ b - m
  out : ∀ k, k < m - i ∨ m + j ≤ k → d'[k]! = d[rotAt a m b k]!
  lo : ∀ k, m - i ≤ k → k < m - i + j → d'[k + i]! = d[rotAt a m b k]!
  hi : ∀ k, m - i + j ≤ k → k < m + j → d'[k - j]! = d[rotAt a m b k]!

theorem RotI.start {a m b : Nat} {d : Array α} (h1 : a < m) (h2 : m < b) : RotI a m b (m - a) (b - m) d d := by
  refine ⟨rfl, permIn_refl _ _ _, by omega, by omega, Nat.le_refl _, Nat.le_refl _, fun k hk => ?_, fun k h1 h2 => ?_, fun k h1 h2 => ?_⟩
  all_goals (congr 1; unfold rotAt; repeat' split) <;> omega

theorem RotI.left {a m b i j : Nat} {d d1 d2 : Array α} (h : RotI a m b i j d d1) (hij : j < i) (hm : i ≤ m) (hb : b ≤ d.size) (hmb : m ≤ b) (s : SwR (m - i) m j d1 d2) : RotI a m b (i - j) j d d2 := by
  have hi1 := h.i1; have hj1 := h.j1; have hil := h.il; have hjl := h.jl
  refine ⟨s.size.trans h.size, permIn_trans _ _ _ _ _ h.perm (permIn_mono _ _ (m - i) (m + j) a b (by omega) (by omega) (by rw [h.size]; exact hb) s.perm), by omega, by omega, by omega, by omega, fun k hk => ?_, fun k h1 h2 => ?_, fun k h1 h2 => ?_⟩
  · rw [s.at_]
    by_cases c1 : m - i ≤ k ∧ k < m - i + j
    · rw [if_pos c1, ← h.lo k c1.1 c1.2]; congr 1; omega
    · rw [if_neg c1, if_neg (by omega)]; exact h.out k (by omega)
  · rw [s.at_, if_neg (by omega), if_pos (by omega), ← h.hi k (by omega) (by omega)]; congr 1; omega
  · rw [s.at_, if_neg (by omega), if_neg (by omega)]; exact h.hi k (by omega) h2

theorem RotI.right {a m b i j : Nat} {d d1 d2 : Array α} (h : RotI a m b i j d d1) (hij : i < j) (hm : i ≤ m) (hb : b ≤ d.size) (hmb : m ≤ b) (s : SwR (m - i) (m + j - i) i d1 d2) : RotI a m b i (j - i) d d2 := by
  have hi1 := h.i1; have hj1 := h.j1; have hil := h.il; have hjl := h.jl
  refine ⟨s.size.trans h.size, permIn_trans _ _ _ _ _ h.perm (permIn_mono _ _ (m - i) (m + j - i + i) a b (by omega) (by omega) (by rw [h.size]; exact hb) s.perm), by omega, by omega, by omega, by omega, fun k hk => ?_, fun k h1 h2 => ?_, fun k h1 h2 => ?_⟩
  · rw [s.at_]
    by_cases c1 : m + j - i ≤ k ∧ k < m + j - i + i
    · rw [if_neg (by omega), if_pos c1, ← h.hi k (by omega) (by omega)]; congr 1; omega
    · rw [if_neg (by omega), if_neg c1]; exact h.out k (by omega)
  · rw [s.at_, if_neg (by omega), if_neg (by omega)]; exact h.lo k h1 (by omega)
  · rw [s.at_, if_pos (by omega), ← h.lo k (by omega) (by omega)]; congr 1; omega

theorem RotI.done {a m b i : Nat} {d d1 d2 : Array α} (h : RotI a m b i i d d1) (hm : i ≤ m) (hb : b ≤ d.size) (hmb : m ≤ b) (s : SwR (m - i) m i d1 d2) : Rot a m b d d2 := by
  have hi1 := h.i1; have hil := h.il; have hjl := h.jl
  refine ⟨s.size.trans h.size, permIn_trans _ _ _ _ _ h.perm (permIn_mono _ _ (m - i) (m + i) a b (by omega) (by omega) (by rw [h.size]; exact hb) s.perm), fun k => ?_⟩
  rw [s.at_]
  by_cases c1 : m - i ≤ k ∧ k < m - i + i
  · rw [if_pos c1, ← h.lo k c1.1 c1.2]; congr 1; omega
  · rw [if_neg c1]
    by_cases c2 : m ≤ k ∧ k < m + i
    · rw [if_pos c2, ← h.hi k (by omega) (by omega)]; congr 1; omega
    · rw [if_neg c2]; exact h.out k (by omega)

theorem Rot.none {a m b : Nat} {d : Array α} (h : a = m ∨ b = m) (h1 : a ≤ m) (h2 : m ≤ b) : Rot a m b d d :=
  ⟨rfl, permIn_refl _ _ _, fun k => by congr 1; unfold rotAt; (repeat' split) <;> omega⟩

/-- What a rotation at the place that the search found leaves: four runs, and the lower half at most the upper one. -/
structure Halves (lt : α → α → Bool) (a start mid en b : Nat) (d : Array α) : Prop where
  s1 : SortedIn lt a start d
  s2 : SortedIn lt start mid d
  s3 : SortedIn lt mid en d
  s4 : SortedIn lt en b d
  cross : ∀ x y, a ≤ x → x < mid → mid ≤ y → y < b → lt d[y]! d[x]! = false

theorem SortedIn.le (hS : SWO lt) {a b : Nat} {d : Array α} (h : SortedIn lt a b d) {x y : Nat} (hx : a ≤ x) (hxy : x ≤ y) (hy : y < b) : lt d[y]! d[x]! = false := by
  rcases Nat.lt_or_eq_of_le hxy with g | rfl
  · exact h x y hx g hy
  · exact hS.irrefl _

theorem halves_of (hS : SWO lt) {a m b mid start en s0 r0 : Nat} {d d1 : Array α} (h1 : SortedIn lt a m d) (h2 : SortedIn lt m b d) (ham : a < m) (hmb : m < b) (hmid : mid = (a + b) / 2)
    (hs : m > mid ∧ s0 = mid + m - b ∧ r0 = mid ∨ m ≤ mid ∧ s0 = a ∧ r0 = m) (hst : s0 ≤ start) (hsr : start ≤ r0) (hen : en = mid + m - start)
    (hl : start = s0 ∨ lt d[mid + m - 1 - (start - 1)]! d[start - 1]! = false) (hr : start = r0 ∨ lt d[mid + m - 1 - start]! d[start]! = true) (hrot : Rot start m en d d1) :
    a ≤ start ∧ start ≤ mid ∧ mid ≤ en ∧ en ≤ b ∧ Halves lt a start mid en b d1 := by
  have hmd : a + b = 2 * mid ∨ a + b = 2 * mid + 1 := by omega
  have e0 : a ≤ start ∧ start ≤ mid ∧ mid ≤ en ∧ en ≤ b ∧ start ≤ m ∧ m ≤ en := by omega
  obtain ⟨e1, e2, e3, e4, e5, e6⟩ := e0
  have g : ∀ k, d1[k]! = d[rotAt start m en k]! := hrot.at_
  have r1 : ∀ k, k < start → rotAt start m en k = k := fun k hk => by unfold rotAt; rw [if_neg (by omega), if_neg (by omega)]
  have r2 : ∀ k, start ≤ k → k < mid → rotAt start m en k = k + (m - start) := fun k _ _ => by unfold rotAt; rw [if_pos (by omega)]
  have r3 : ∀ k, mid ≤ k → k < en → rotAt start m en k = k - (en - m) := fun k _ _ => by unfold rotAt; rw [if_neg (by omega), if_pos (by omega)]
  have r4 : ∀ k, en ≤ k → rotAt start m en k = k := fun k _ => by unfold rotAt; rw [if_neg (by omega), if_neg (by omega)]
  -- the lower run's head is at most the upper run's rest, and the other way round
  have c2 : ∀ x y, a ≤ x → x < start → en ≤ y → y < b → lt d[y]! d[x]! = false := fun x y k1 k2 k3 k4 => by
    rcases hl with hl | hl
    · omega
    · rw [show mid + m - 1 - (start - 1) = en by omega] at hl
      exact hS.ntrans _ _ _ (SortedIn.le hS h2 (x := en) (by omega) k3 k4) (hS.ntrans _ _ _ hl (SortedIn.le hS h1 (y := start - 1) k1 (by omega) (by omega)))
  have c3 : ∀ x y, m ≤ x → x < en → start ≤ y → y < m → lt d[y]! d[x]! = false := fun x y k1 k2 k3 k4 => by
    rcases hr with hr | hr
    · omega
    · rw [show mid + m - 1 - start = en - 1 by omega] at hr
      exact hS.ntrans _ _ _ (SortedIn.le hS h1 (x := start) (by omega) k3 k4) (hS.ntrans _ _ _ (hS.asymmA hr) (SortedIn.le hS h2 (y := en - 1) k1 (by omega) (by omega)))
  refine ⟨e1, e2, e3, e4, ⟨fun x y k1 k2 k3 => ?_, fun x y k1 k2 k3 => ?_, fun x y k1 k2 k3 => ?_, fun x y k1 k2 k3 => ?_, fun x y k1 k2 k3 k4 => ?_⟩⟩
  · rw [g, g, r1 x (by omega), r1 y (by omega)]; exact h1 x y k1 k2 (by omega)
  · rw [g, g, r2 x (by omega) (by omega), r2 y (by omega) (by omega)]; exact h2 _ _ (by omega) (by omega) (by omega)
  · rw [g, g, r3 x (by omega) (by omega), r3 y (by omega) (by omega)]; exact h1 _ _ (by omega) (by omega) (by omega)
  · rw [g, g, r4 x (by omega), r4 y (by omega)]; exact h2 _ _ (by omega) (by omega) (by omega)
  · rw [g, g]
    rcases Nat.lt_or_ge x start with hx | hx <;> rcases Nat.lt_or_ge y en with hy | hy
    · rw [r1 x hx, r3 y k3 hy]; exact h1 _ _ k1 (by omega) (by omega)
    · rw [r1 x hx, r4 y hy]; exact c2 _ _ k1 hx hy k4
    · rw [r2 x hx k2, r3 y k3 hy]; exact c3 _ _ (by omega) (by omega) (by omega) (by omega)
    · rw [r2 x hx k2, r4 y hy]; exact h2 _ _ (by omega) (by omega) k4

theorem sorted_congr {a b : Nat} {d d' : Array α} (h : SortedIn lt a b d) (e : ∀ k, a ≤ k → k < b → d'[k]! = d[k]!) : SortedIn lt a b d' := fun x y h1 h2 h3 => by
  rw [e x h1 (by omega), e y (by omega) h3]; exact h x y h1 h2 h3

/-- A run of one, or of none. -/
theorem sorted_triv {a b : Nat} (d : Array α) (h : b ≤ a + 1) : SortedIn lt a b d := fun x y h1 h2 h3 => by omega

/-- Halves that are sorted, of halves of which the lower is at most the upper. -/
theorem sorted_halves {a mid b : Nat} {d d2 d3 : Array α} (ham : a ≤ mid) (hmb : mid ≤ b) (hb : b ≤ d.size) (hc : ∀ x y, a ≤ x → x < mid → mid ≤ y → y < b → lt d[y]! d[x]! = false)
    (p2 : PermIn a mid d d2) (s2 : SortedIn lt a mid d2) (p3 : PermIn mid b d2 d3) (s3 : SortedIn lt mid b d3) : PermIn a b d d3 ∧ SortedIn lt a b d3 := by
  have hz2 := p2.1
  have hz3 := p3.1
  refine ⟨permIn_trans _ _ _ _ _ (permIn_mono _ _ a mid a b (Nat.le_refl _) hmb hb p2) (permIn_mono _ _ mid b a b ham (Nat.le_refl _) (by omega) p3), ?_⟩
  have c2 : ∀ x y, a ≤ x → x < mid → mid ≤ y → y < b → lt d2[y]! d2[x]! = false := fun x y k1 k2 k3 k4 => by
    rw [p2.2.1 y (.inr k3)]
    exact permIn_all d d2 a mid (fun u => lt d[y]! u = false) (by omega) p2 (fun i hi1 hi2 => hc i y hi1 hi2 k3 k4) x k1 k2
  have c3 : ∀ x y, a ≤ x → x < mid → mid ≤ y → y < b → lt d3[y]! d3[x]! = false := fun x y k1 k2 k3 k4 => by
    rw [p3.2.1 x (.inl k2)]
    exact permIn_all d2 d3 mid b (fun u => lt u d2[x]! = false) (by omega) p3 (fun i hi1 hi2 => c2 x i k1 k2 hi1 hi2) y k3 k4
  intro x y k1 k2 k3
  rcases Nat.lt_or_ge x mid with hx | hx <;> rcases Nat.lt_or_ge y mid with hy | hy
  · rw [p3.2.1 x (.inl hx), p3.2.1 y (.inl hy)]; exact s2 x y k1 k2 hy
  · exact c3 x y k1 hx hy k3
  · omega
  · exact s3 x y hx k2 k3

/-- One element goes up, from a to the place ahead of i. -/
structure UpI (a k : Nat) (b : Nat) (d d' : Array α) : Prop where
  size : d'.size = d.size
  perm : PermIn a b d d'
  at_ : ∀ x, d'[x]! = if a ≤ x ∧ x < k then d[x + 1]! else if x = k then d[a]! else d[x]!
theorem UpI.start (a b : Nat) (d : Array α) : UpI a a b d d := ⟨rfl, permIn_refl _ _ _, fun x => by rw [if_neg (by omega)]; split <;> simp_all⟩
theorem UpI.step {a k b : Nat} {d d1 : Array α} (h : UpI a k b d d1) (hak : a ≤ k) (hk : k + 1 < b) (hb : b ≤ d.size) : UpI a (k + 1) b d (swp d1 k (k + 1)) := by
  have hz := h.size
  refine ⟨by rw [size_swp, hz], permIn_trans _ _ _ _ _ h.perm (swp_permIn _ _ _ _ _ hak (by omega) (by omega) hk (by omega)), fun x => ?_⟩
  have e1 : d1[k]! = d[a]! := by rw [h.at_, if_neg (by omega), if_pos rfl]
  have e2 : d1[k + 1]! = d[k + 1]! := by rw [h.at_, if_neg (by omega), if_neg (by omega)]
  rw [swp_get d1 (by omega) (by omega) x, e1, e2, h.at_ x]
  by_cases h1 : x = k + 1
  · subst h1; rw [if_pos rfl, if_neg (by omega), if_pos rfl]
  · rw [if_neg h1]
    by_cases h2 : x = k
    · subst h2; rw [if_pos rfl, if_pos (by omega)]
    · rw [if_neg h2]
      by_cases h3 : a ≤ x ∧ x < k
      · rw [if_pos h3, if_pos (by omega)]
      · rw [if_neg h3, if_neg h2, if_neg (by omega), if_neg h1]
theorem UpI.sorted (hS : SWO lt) {a i b : Nat} {d d1 : Array α} (h : UpI a (i - 1) b d d1) (hs : SortedIn lt (a + 1) b d) (hi : a + 1 ≤ i) (hib : i ≤ b) (hl : i = a + 1 ∨ lt d[i - 1]! d[a]! = true) (hr : i = b ∨ lt d[i]! d[a]! = false) : SortedIn lt a b d1 := by
  have e1 : ∀ x, a ≤ x → x < i - 1 → lt d[a]! d[x + 1]! = false := fun x h1 h2 => by
    rcases hl with hl | hl
    · omega
    · exact hS.ntrans _ _ _ (hS.asymmA hl) (SortedIn.le hS hs (by omega) (by omega) (by omega))
  have e2 : ∀ y, i ≤ y → y < b → lt d[y]! d[a]! = false := fun y h1 h2 => by
    rcases hr with hr | hr
    · omega
    · exact hS.ntrans _ _ _ (SortedIn.le hS hs (by omega) h1 h2) hr
  intro x y k1 k2 k3
  rw [h.at_ x, h.at_ y]
  by_cases hx : a ≤ x ∧ x < i - 1
  · rw [if_pos hx]
    by_cases hy : a ≤ y ∧ y < i - 1
    · rw [if_pos hy]; exact hs _ _ (by omega) (by omega) (by omega)
    · rw [if_neg hy]
      by_cases hy2 : y = i - 1
      · rw [if_pos hy2]; exact e1 x hx.1 hx.2
      · rw [if_neg hy2]; exact SortedIn.le hS hs (by omega) (by omega) k3
  · rw [if_neg hx]
    by_cases hx2 : x = i - 1
    · rw [if_pos hx2, if_neg (by omega), if_neg (by omega)]; exact e2 y (by omega) k3
    · rw [if_neg hx2, if_neg (by omega), if_neg (by omega)]; exact hs x y (by omega) k2 k3

/-- One element goes down, from m to the place i. -/
structure DnI (a k m : Nat) (d d' : Array α) : Prop where
  size : d'.size = d.size
  perm : PermIn a (m + 1) d d'
  at_ : ∀ x, d'[x]! = if k < x ∧ x ≤ m then d[x - 1]! else if x = k then d[m]! else d[x]!
theorem DnI.start (a m : Nat) (d : Array α) : DnI a m m d d := ⟨rfl, permIn_refl _ _ _, fun x => by rw [if_neg (by omega)]; split <;> simp_all⟩
theorem DnI.step {a k m : Nat} {d d1 : Array α} (h : DnI a (k + 1) m d d1) (hak : a ≤ k) (hk : k + 1 ≤ m) (hb : m < d.size) : DnI a k m d (swp d1 (k + 1) k) := by
  have hz := h.size
  refine ⟨by rw [size_swp, hz], permIn_trans _ _ _ _ _ h.perm (swp_permIn _ _ _ _ _ (by omega) (by omega) (by omega) (by omega) (by omega)), fun x => ?_⟩
  have e1 : d1[k]! = d[k]! := by rw [h.at_, if_neg (by omega), if_neg (by omega)]
  have e2 : d1[k + 1]! = d[m]! := by rw [h.at_, if_neg (by omega), if_pos rfl]
  rw [swp_get d1 (by omega) (by omega) x, e1, e2, h.at_ x]
  by_cases h1 : x = k
  · subst h1; rw [if_pos rfl, if_neg (by omega), if_pos rfl]
  · rw [if_neg h1]
    by_cases h2 : x = k + 1
    · subst h2; rw [if_pos rfl, if_pos (by omega)]; rfl
    · rw [if_neg h2]
      by_cases h3 : k + 1 < x ∧ x ≤ m
      · rw [if_pos h3, if_pos (by omega)]
      · rw [if_neg h3, if_neg h2, if_neg (by omega), if_neg h1]
theorem DnI.sorted (hS : SWO lt) {a i m : Nat} {d d1 : Array α} (h : DnI a i m d d1) (hs : SortedIn lt a m d) (hi : a ≤ i) (him : i ≤ m) (hl : i = a ∨ lt d[m]! d[i - 1]! = false) (hr : i = m ∨ lt d[m]! d[i]! = true) : SortedIn lt a (m + 1) d1 := by
  have e1 : ∀ x, a ≤ x → x < i → lt d[m]! d[x]! = false := fun x h1 h2 => by
    rcases hl with hl | hl
    · omega
    · exact hS.ntrans _ _ _ hl (SortedIn.le hS hs h1 (by omega) (by omega))
  have e2 : ∀ y, i ≤ y → y < m → lt d[y]! d[m]! = false := fun y h1 h2 => by
    rcases hr with hr | hr
    · omega
    · exact hS.ntrans _ _ _ (SortedIn.le hS hs hi h1 h2) (hS.asymmA hr)
  intro x y k1 k2 k3
  rw [h.at_ x, h.at_ y]
  by_cases hx : i < x ∧ x ≤ m
  · rw [if_pos hx, if_pos (by omega)]; exact hs _ _ (by omega) (by omega) (by omega)
  · rw [if_neg hx]
    by_cases hx2 : x = i
    · rw [if_pos hx2, if_pos (by omega)]; exact e2 _ (by omega) (by omega)
    · rw [if_neg hx2]
      by_cases hy : i < y ∧ y ≤ m
      · rw [if_pos hy]; exact SortedIn.le hS hs k1 (by omega) (by omega)
      · rw [if_neg hy]
        by_cases hy2 : y = i
        · rw [if_pos hy2]; exact e1 x k1 (by omega)
        · rw [if_neg hy2]; exact hs x y k1 k2 (by omega)

/-- Runs of s, from the q-th on. -/
def Runs (lt : α → α → Bool) (s n t : Nat) (d : Array α) : Prop := ∀ q, t ≤ q → SortedIn lt (q * s) (min (q * s + s) n) d
def RunsTo (lt : α → α → Bool) (s n t : Nat) (d : Array α) : Prop := ∀ q, q < t → SortedIn lt (q * s) (min (q * s + s) n) d

theorem RunsTo.push {s n t : Nat} {d d' : Array α} (h : RunsTo lt s n t d) (hn : t * s + s ≤ n) (p : PermIn (t * s) (t * s + s) d d') (hs : SortedIn lt (t * s) (t * s + s) d') : RunsTo lt s n (t + 1) d' := fun q hq => by
  rcases Nat.lt_or_ge q t with g | g
  · have h1 : q * s + s ≤ t * s := by have := Nat.mul_le_mul_right s (show q + 1 ≤ t from g); rwa [Nat.add_mul, Nat.one_mul] at this
    exact sorted_congr (h q g) (fun k _ k2 => p.2.1 k (.inl (by omega)))
  · obtain rfl : q = t := by omega
    rw [Nat.min_eq_left hn]; exact hs
theorem RunsTo.close {s n t : Nat} {d d' : Array α} (h : RunsTo lt s n t d) (hn : n < t * s + s) (hts : t * s ≤ n) (p : PermIn (t * s) n d d') (hs : SortedIn lt (t * s) n d') : Runs lt s n 0 d' := fun q _ => by
  rcases Nat.lt_or_ge q t with g | g
  · have h1 : q * s + s ≤ t * s := by have := Nat.mul_le_mul_right s (show q + 1 ≤ t from g); rwa [Nat.add_mul, Nat.one_mul] at this
    exact sorted_congr (h q g) (fun k _ k2 => p.2.1 k (.inl (by omega)))
  · rcases Nat.lt_or_ge t q with g2 | g2
    · have h1 : t * s + s ≤ q * s := by have := Nat.mul_le_mul_right s (show t + 1 ≤ q from g2); rwa [Nat.add_mul, Nat.one_mul] at this
      exact fun x y h1 h2 h3 => by omega
    · obtain rfl : q = t := by omega
      rw [Nat.min_eq_right (by omega)]; exact hs
theorem Runs.later {s n t k : Nat} {d d' : Array α} {lo hi : Nat} (h : Runs lt s n t d) (hk : t ≤ k) (p : PermIn lo hi d d') (hhi : hi ≤ k * s) : Runs lt s n k d' := fun q hq => by
  have h1 : k * s ≤ q * s := Nat.mul_le_mul_right s hq
  exact sorted_congr (h q (by omega)) (fun x k1 _ => p.2.1 x (.inr (by omega)))
theorem Runs.two {s n t : Nat} {d : Array α} (h : Runs lt s n (2 * t) d) (hn : t * (2 * s) + 2 * s ≤ n) : SortedIn lt (t * (2 * s)) (t * (2 * s) + s) d ∧ SortedIn lt (t * (2 * s) + s) (t * (2 * s) + 2 * s) d := by
  have e1 : 2 * t * s = t * (2 * s) := by rw [Nat.mul_comm 2 t, Nat.mul_assoc]
  have h1 := h (2 * t) (Nat.le_refl _)
  have h2 := h (2 * t + 1) (by omega)
  rw [Nat.add_mul, Nat.one_mul, e1, Nat.min_eq_left (by omega)] at h2
  rw [e1, Nat.min_eq_left (by omega)] at h1
  rw [show t * (2 * s) + s + s = t * (2 * s) + 2 * s by omega] at h2
  exact ⟨h1, h2⟩
theorem Runs.rest {s n t : Nat} {d : Array α} (h : Runs lt s n (2 * t) d) (hn : t * (2 * s) + s < n) (hn2 : n < t * (2 * s) + 2 * s) : SortedIn lt (t * (2 * s)) (t * (2 * s) + s) d ∧ SortedIn lt (t * (2 * s) + s) n d := by
  have e1 : 2 * t * s = t * (2 * s) := by rw [Nat.mul_comm 2 t, Nat.mul_assoc]
  have h1 := h (2 * t) (Nat.le_refl _)
  have h2 := h (2 * t + 1) (by omega)
  rw [Nat.add_mul, Nat.one_mul, e1, Nat.min_eq_right (by omega)] at h2
  rw [e1, Nat.min_eq_left (by omega)] at h1
  exact ⟨h1, h2⟩
theorem Runs.one {s n t : Nat} {d : Array α} (h : Runs lt s n (2 * t) d) (hn : n ≤ t * (2 * s) + s) : SortedIn lt (t * (2 * s)) n d := by
  have e1 : 2 * t * s = t * (2 * s) := by rw [Nat.mul_comm 2 t, Nat.mul_assoc]
  have h1 := h (2 * t) (Nat.le_refl _)
  rw [e1, Nat.min_eq_right (by omega)] at h1
  exact h1
theorem Runs.all {s n : Nat} {d : Array α} (h : Runs lt s n 0 d) (hn : n ≤ s) : SortedIn lt 0 n d := by
  have := h 0 (Nat.le_refl _)
  rwa [Nat.zero_mul, Nat.zero_add, Nat.min_eq_right hn] at this
end Go.Proofs.YtgofncopoieigaaGreatDoor
