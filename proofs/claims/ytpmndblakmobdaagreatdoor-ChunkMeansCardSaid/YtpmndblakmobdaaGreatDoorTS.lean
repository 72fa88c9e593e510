/-
  Stb, StbM1, StbM2, StbM3, in one file.
-/
import Derived.Sort.LotA
import Derived.Test.YtpmndblakmobdaaGreatDoorProg
import Derived.Shelf.SlSortCmp.KitK
import Derived.Deep.LoopGhost
import Derived.WalkKit
import Derived.Lib.Hide
import Derived.WalkSpells
import Derived.WalkLawsBesides
/- Stb -/
namespace Go.Proofs.YtpmndblakmobdaaGreatDoor
open Go Go.Sort
variable {α : Type} [Inhabited α] {lt : α → α → Bool}

omit [Inhabited α] in
theorem ltLe (hS : SWO lt) {x y z : α} (h1 : lt x y = true) (h2 : lt z y = false) : lt x z = true := by
  cases h : lt x z with
  | true => rfl
  | false => have := hS.ntrans x z y h h2; rw [h1] at this; cases this

/-- Two ranges of n places exchanged. -/
structure SwR (a b n : Nat) (d d' : Array α) : Prop where
  size : d'.size = d.size
  perm : PermIn a (b + n) d d'
  at_ : ∀ k, d'[k]! = if a ≤ k ∧ k < a + n then d[k + (b - a)]! else if b ≤ k ∧ k < b + n then d[k - (b - a)]! else d[k]!

theorem SwR.zero (a b : Nat) (d : Array α) : SwR a b 0 d d := ⟨rfl, permIn_refl _ _ _, fun k => by rw [if_neg (by omega), if_neg (by omega)]⟩
theorem SwR.succ {a b i : Nat} {d d1 : Array α} (h : SwR a b i d d1) (hab : a + (i + 1) ≤ b) (hb : b + (i + 1) ≤ d.size) : SwR a b (i + 1) d (swp d1 (a + i) (b + i)) := by
  have hs := h.size
  refine ⟨by rw [size_swp, hs], ?_, fun k => ?_⟩
  · exact permIn_trans _ _ _ _ _ (permIn_mono _ _ a (b + i) a (b + (i + 1)) (Nat.le_refl _) (by omega) (by omega) h.perm) (swp_permIn _ _ _ _ _ (by omega) (by omega) (by omega) (by omega) (by omega))
  · have e1 : d1[a + i]! = d[a + i]! := by rw [h.at_, if_neg (by omega), if_neg (by omega)]
    have e2 : d1[b + i]! = d[b + i]! := by rw [h.at_, if_neg (by omega), if_neg (by omega)]
    rw [swp_get d1 (by omega) (by omega) k, e1, e2, h.at_ k]
    by_cases h1 : k = b + i
    · subst h1
      rw [if_pos rfl, if_neg (by omega), if_pos (by omega)]
      congr 1; omega
    · rw [if_neg h1]
      by_cases h2 : k = a + i
      · subst h2
        rw [if_pos rfl, if_pos (by omega)]
        congr 1; omega
      · rw [if_neg h2]
        by_cases h3 : a ≤ k ∧ k < a + i
        · rw [if_pos h3, if_pos (by omega)]
        · by_cases h4 : b ≤ k ∧ k < b + i
          · rw [if_neg h3, if_pos h4, if_neg (by omega), if_pos (by omega)]
          · rw [if_neg h3, if_neg h4, if_neg (by omega), if_neg (by omega)]

/-- Where a place's element comes from, when [a, b) is rotated at m. -/
def rotAt (a m b : Nat) (k : Nat) : Nat := if a ≤ k ∧ k < a + (b - m) then k + (m - a) else if a + (b - m) ≤ k ∧ k < b then k - (b - m) else k

/-- [a, b) rotated at m. -/
structure Rot (a m b : Nat) (d d' : Array α) : Prop where
  size : d'.size = d.size
  perm : PermIn a b d d'
  at_ : ∀ k, d'[k]! = d[rotAt a m b k]!

/-- The rotation under way: the window [m - i, m + j) is to be rotated at m. -/
structure RotI (a m b i j : Nat) (d d' : Array α) : Prop where
  size : d'.size = d.size
  perm : PermIn a b d d'
  i1 : 1 ≤ i
  j1 : 1 ≤ j
  il : i ≤ m - a
  jl : j ≤ b - m
  out : ∀ k, k < m - i ∨ m + j ≤ k → d'[k]! = d[rotAt a m b k]!
  lo : ∀ k, m - i ≤ k → k < m - i + j → d'[k + i]! = d[rotAt a m b k]!
  hi : ∀ k, m - i + j ≤ k → k < m + j → d'[k - j]! = d[rotAt a m b k]!

theorem RotI.start {a m b : Nat} {d : Array α} (h1 : a < m) (h2 : m < b) : RotI a m b (m - a) (b - m) d d := by
  refine ⟨rfl, permIn_refl _ _ _, by omega, by omega, Nat.le_refl _, Nat.le_refl _, fun k hk => ?_, fun k h1 h2 => ?_, fun k h1 h2 => ?_⟩
  all_goals (congr 1; unfold rotAt; repeat' split) <;> omega

theorem RotI.left {a m b i j : Nat} {d d1 d2 : Array α} (h : RotI a m b i j d d1) (hij : j < i) (hm : i ≤ m) (hb : b ≤ d.size) (hmb : m ≤ b) (s : SwR (m - i) m j d1 d2) : RotI a m b (i - j) j d d2 := by
  have hi1 := h.i1; have hj1 := h.j1; have hil := h.il; have hjl := h.jl
  refine ⟨s.size.trans h.size, permIn_trans _ _ _ _ _ h.perm (permIn_mono _ _ (m - i) (m + j) a b (by omega) (by omega) (by rw [h.size]; exact hb) s.perm), by omega, by omega, by omega, by omega, fun k hk => ?_, fun k h1 h2 => ?_, fun k h1 h2 => ?_⟩
  · rw [s.at_]
    by_cases c1 : m - i ≤ k ∧ k < m - i + j
    · rw [if_pos c1, ← h.lo k c1.1 c1.2]; congr 1; omega
    · rw [if_neg c1, if_neg (by omega)]; exact h.out k (by omega)
  · rw [s.at_, if_neg (by omega), if_pos (by omega), ← h.hi k (by omega) (by omega)]; congr 1; omega
  · rw [s.at_, if_neg (by omega), if_neg (by omega)]; exact h.hi k (by omega) h2

theorem RotI.right {a m b i j : Nat} {d d1 d2 : Array α} (h : RotI a m b i j d d1) (hij : i < j) (hm : i ≤ m) (hb : b ≤ d.size) (hmb : m ≤ b) (s : SwR (m - i) (m + j - i) i d1 d2) : RotI a m b i (j - i) d d2 := by
  have hi1 := h.i1; have hj1 := h.j1; have hil := h.il; have hjl := h.jl
  refine ⟨s.size.trans h.size, permIn_trans _ _ _ _ _ h.perm (permIn_mono _ _ (m - i) (m + j - i + i) a b (by omega) (by omega) (by rw [h.size]; exact hb) s.perm), by omega, by omega, by omega, by omega, fun k hk => ?_, fun k h1 h2 => ?_, fun k h1 h2 => ?_⟩
  · rw [s.at_]
    by_cases c1 : m + j - i ≤ k ∧ k < m + j - i + i
    · rw [if_neg (by omega), if_pos c1, ← h.hi k (by omega) (by omega)]; congr 1; omega
    · rw [if_neg (by omega), if_neg c1]; exact h.out k (by omega)
  · rw [s.at_, if_neg (by omega), if_neg (by omega)]; exact h.lo k h1 (by omega)
  · rw [s.at_, if_pos (by omega), ← h.lo k (by omega) (by omega)]; congr 1; omega

theorem RotI.done {a m b i : Nat} {d d1 d2 : Array α} (h : RotI a m b i i d d1) (hm : i ≤ m) (hb : b ≤ d.size) (hmb : m ≤ b) (s : SwR (m - i) m i d1 d2) : Rot a m b d d2 := by
  have hi1 := h.i1; have hil := h.il; have hjl := h.jl
  refine ⟨s.size.trans h.size, permIn_trans _ _ _ _ _ h.perm (permIn_mono _ _ (m - i) (m + i) a b (by omega) (by omega) (by rw [h.size]; exact hb) s.perm), fun k => ?_⟩
  rw [s.at_]
  by_cases c1 : m - i ≤ k ∧ k < m - i + i
  · rw [if_pos c1, ← h.lo k c1.1 c1.2]; congr 1; omega
  · rw [if_neg c1]
    by_cases c2 : m ≤ k ∧ k < m + i
    · rw [if_pos c2, ← h.hi k (by omega) (by omega)]; congr 1; omega
    · rw [if_neg c2]; exact h.out k (by omega)

theorem Rot.none {a m b : Nat} {d : Array α} (h : a = m ∨ b = m) (h1 : a ≤ m) (h2 : m ≤ b) : Rot a m b d d :=
  ⟨rfl, permIn_refl _ _ _, fun k => by congr 1; unfold rotAt; (repeat' split) <;> omega⟩

/-- What a rotation at the place that the search found leaves: four runs, and the lower half at most the upper one. -/
structure Halves (lt : α → α → Bool) (a start mid en b : Nat) (d : Array α) : Prop where
  s1 : SortedIn lt a start d
  s2 : SortedIn lt start mid d
  s3 : SortedIn lt mid en d
  s4 : SortedIn lt en b d
  cross : ∀ x y, a ≤ x → x < mid → mid ≤ y → y < b → lt d[y]! d[x]! = false

theorem SortedIn.le (hS : SWO lt) {a b : Nat} {d : Array α} (h : SortedIn lt a b d) {x y : Nat} (hx : a ≤ x) (hxy : x ≤ y) (hy : y < b) : lt d[y]! d[x]! = false := by
  rcases Nat.lt_or_eq_of_le hxy with g | rfl
  · exact h x y hx g hy
  · exact hS.irrefl _

theorem halves_of (hS : SWO lt) {a m b mid start en s0 r0 : Nat} {d d1 : Array α} (h1 : SortedIn lt a m d) (h2 : SortedIn lt m b d) (ham : a < m) (hmb : m < b) (hmid : mid = (a + b) / 2)
    (hs : m > mid ∧ s0 = mid + m - b ∧ r0 = mid ∨ m ≤ mid ∧ s0 = a ∧ r0 = m) (hst : s0 ≤ start) (hsr : start ≤ r0) (hen : en = mid + m - start)
    (hl : start = s0 ∨ lt d[mid + m - 1 - (start - 1)]! d[start - 1]! = false) (hr : start = r0 ∨ lt d[mid + m - 1 - start]! d[start]! = true) (hrot : Rot start m en d d1) :
    a ≤ start ∧ start ≤ mid ∧ mid ≤ en ∧ en ≤ b ∧ Halves lt a start mid en b d1 := by
  have hmd : a + b = 2 * mid ∨ a + b = 2 * mid + 1 := by omega
  have e0 : a ≤ start ∧ start ≤ mid ∧ mid ≤ en ∧ en ≤ b ∧ start ≤ m ∧ m ≤ en := by omega
  obtain ⟨e1, e2, e3, e4, e5, e6⟩ := e0
  have g : ∀ k, d1[k]! = d[rotAt start m en k]! := hrot.at_
  have r1 : ∀ k, k < start → rotAt start m en k = k := fun k hk => by unfold rotAt; rw [if_neg (by omega), if_neg (by omega)]
  have r2 : ∀ k, start ≤ k → k < mid → rotAt start m en k = k + (m - start) := fun k _ _ => by unfold rotAt; rw [if_pos (by omega)]
  have r3 : ∀ k, mid ≤ k → k < en → rotAt start m en k = k - (en - m) := fun k _ _ => by unfold rotAt; rw [if_neg (by omega), if_pos (by omega)]
  have r4 : ∀ k, en ≤ k → rotAt start m en k = k := fun k _ => by unfold rotAt; rw [if_neg (by omega), if_neg (by omega)]
  -- the lower run's head is at most the upper run's rest, and the other way round
  have c2 : ∀ x y, a ≤ x → x < start → en ≤ y → y < b → lt d[y]! d[x]! = false := fun x y k1 k2 k3 k4 => by
    rcases hl with hl | hl
    · omega
    · rw [show mid + m - 1 - (start - 1) = en by omega] at hl
      exact hS.ntrans _ _ _ (SortedIn.le hS h2 (x := en) (by omega) k3 k4) (hS.ntrans _ _ _ hl (SortedIn.le hS h1 (y := start - 1) k1 (by omega) (by omega)))
  have c3 : ∀ x y, m ≤ x → x < en → start ≤ y → y < m → lt d[y]! d[x]! = false := fun x y k1 k2 k3 k4 => by
    rcases hr with hr | hr
    · omega
    · rw [show mid + m - 1 - start = en - 1 by omega] at hr
      exact hS.ntrans _ _ _ (SortedIn.le hS h1 (x := start) (by omega) k3 k4) (hS.ntrans _ _ _ (hS.asymmA hr) (SortedIn.le hS h2 (y := en - 1) k1 (by omega) (by omega)))
  refine ⟨e1, e2, e3, e4, ⟨fun x y k1 k2 k3 => ?_, fun x y k1 k2 k3 => ?_, fun x y k1 k2 k3 => ?_, fun x y k1 k2 k3 => ?_, fun x y k1 k2 k3 k4 => ?_⟩⟩
  · rw [g, g, r1 x (by omega), r1 y (by omega)]; exact h1 x y k1 k2 (by omega)
  · rw [g, g, r2 x (by omega) (by omega), r2 y (by omega) (by omega)]; exact h2 _ _ (by omega) (by omega) (by omega)
  · rw [g, g, r3 x (by omega) (by omega), r3 y (by omega) (by omega)]; exact h1 _ _ (by omega) (by omega) (by omega)
  · rw [g, g, r4 x (by omega), r4 y (by omega)]; exact h2 _ _ (by omega) (by omega) (by omega)
  · rw [g, g]
    rcases Nat.lt_or_ge x start with hx | hx <;> rcases Nat.lt_or_ge y en with hy | hy
    · rw [r1 x hx, r3 y k3 hy]; exact h1 _ _ k1 (by omega) (by omega)
    · rw [r1 x hx, r4 y hy]; exact c2 _ _ k1 hx hy k4
    · rw [r2 x hx k2, r3 y k3 hy]; exact c3 _ _ (by omega) (by omega) (by omega) (by omega)
    · rw [r2 x hx k2, r4 y hy]; exact h2 _ _ (by omega) (by omega) k4

theorem sorted_congr {a b : Nat} {d d' : Array α} (h : SortedIn lt a b d) (e : ∀ k, a ≤ k → k < b → d'[k]! = d[k]!) : SortedIn lt a b d' := fun x y h1 h2 h3 => by
  rw [e x h1 (by omega), e y (by omega) h3]; exact h x y h1 h2 h3

/-- A run of one, or of none. -/
theorem sorted_triv {a b : Nat} (d : Array α) (h : b ≤ a + 1) : SortedIn lt a b d := fun x y h1 h2 h3 => by omega

/-- Halves that are sorted, of halves of which the lower is at most the upper. -/
theorem sorted_halves {a mid b : Nat} {d d2 d3 : Array α} (ham : a ≤ mid) (hmb : mid ≤ b) (hb : b ≤ d.size) (hc : ∀ x y, a ≤ x → x < mid → mid ≤ y → y < b → lt d[y]! d[x]! = false)
    (p2 : PermIn a mid d d2) (s2 : SortedIn lt a mid d2) (p3 : PermIn mid b d2 d3) (s3 : SortedIn lt mid b d3) : PermIn a b d d3 ∧ SortedIn lt a b d3 := by
  have hz2 := p2.1
  have hz3 := p3.1
  refine ⟨permIn_trans _ _ _ _ _ (permIn_mono _ _ a mid a b (Nat.le_refl _) hmb hb p2) (permIn_mono _ _ mid b a b ham (Nat.le_refl _) (by omega) p3), ?_⟩
  have c2 : ∀ x y, a ≤ x → x < mid → mid ≤ y → y < b → lt d2[y]! d2[x]! = false := fun x y k1 k2 k3 k4 => by
    rw [p2.2.1 y (.inr k3)]
    exact permIn_all d d2 a mid (fun u => lt d[y]! u = false) (by omega) p2 (fun i hi1 hi2 => hc i y hi1 hi2 k3 k4) x k1 k2
  have c3 : ∀ x y, a ≤ x → x < mid → mid ≤ y → y < b → lt d3[y]! d3[x]! = false := fun x y k1 k2 k3 k4 => by
    rw [p3.2.1 x (.inl k2)]
    exact permIn_all d2 d3 mid b (fun u => lt u d2[x]! = false) (by omega) p3 (fun i hi1 hi2 => c2 x i k1 k2 hi1 hi2) y k3 k4
  intro x y k1 k2 k3
  rcases Nat.lt_or_ge x mid with hx | hx <;> rcases Nat.lt_or_ge y mid with hy | hy
  · rw [p3.2.1 x (.inl hx), p3.2.1 y (.inl hy)]; exact s2 x y k1 k2 hy
  · exact c3 x y k1 hx hy k3
  · omega
  · exact s3 x y hx k2 k3

/-- One element goes up, from a to the place ahead of i. -/
structure UpI (a k : Nat) (b : Nat) (d d' : Array α) : Prop where
  size : d'.size = d.size
  perm : PermIn a b d d'
  at_ : ∀ x, d'[x]! = if a ≤ x ∧ x < k then d[x + 1]! else if x = k then d[a]! else d[x]!
theorem UpI.start (a b : Nat) (d : Array α) : UpI a a b d d := ⟨rfl, permIn_refl _ _ _, fun x => by rw [if_neg (by omega)]; split <;> simp_all⟩
theorem UpI.step {a k b : Nat} {d d1 : Array α} (h : UpI a k b d d1) (hak : a ≤ k) (hk : k + 1 < b) (hb : b ≤ d.size) : UpI a (k + 1) b d (swp d1 k (k + 1)) := by
  have hz := h.size
  refine ⟨by rw [size_swp, hz], permIn_trans _ _ _ _ _ h.perm (swp_permIn _ _ _ _ _ hak (by omega) (by omega) hk (by omega)), fun x => ?_⟩
  have e1 : d1[k]! = d[a]! := by rw [h.at_, if_neg (by omega), if_pos rfl]
  have e2 : d1[k + 1]! = d[k + 1]! := by rw [h.at_, if_neg (by omega), if_neg (by omega)]
  rw [swp_get d1 (by omega) (by omega) x, e1, e2, h.at_ x]
  by_cases h1 : x = k + 1
  · subst h1; rw [if_pos rfl, if_neg (by omega), if_pos rfl]
  · rw [if_neg h1]
    by_cases h2 : x = k
    · subst h2; rw [if_pos rfl, if_pos (by omega)]
    · rw [if_neg h2]
      by_cases h3 : a ≤ x ∧ x < k
      · rw [if_pos h3, if_pos (by omega)]
      · rw [if_neg h3, if_neg h2, if_neg (by omega), if_neg h1]
theorem UpI.sorted (hS : SWO lt) {a i b : Nat} {d d1 : Array α} (h : UpI a (i - 1) b d d1) (hs : SortedIn lt (a + 1) b d) (hi : a + 1 ≤ i) (hib : i ≤ b) (hl : i = a + 1 ∨ lt d[i - 1]! d[a]! = true) (hr : i = b ∨ lt d[i]! d[a]! = false) : SortedIn lt a b d1 := by
  have e1 : ∀ x, a ≤ x → x < i - 1 → lt d[a]! d[x + 1]! = false := fun x h1 h2 => by
    rcases hl with hl | hl
    · omega
    · exact hS.ntrans _ _ _ (hS.asymmA hl) (SortedIn.le hS hs (by omega) (by omega) (by omega))
  have e2 : ∀ y, i ≤ y → y < b → lt d[y]! d[a]! = false := fun y h1 h2 => by
    rcases hr with hr | hr
    · omega
    · exact hS.ntrans _ _ _ (SortedIn.le hS hs (by omega) h1 h2) hr
  intro x y k1 k2 k3
  rw [h.at_ x, h.at_ y]
  by_cases hx : a ≤ x ∧ x < i - 1
  · rw [if_pos hx]
    by_cases hy : a ≤ y ∧ y < i - 1
    · rw [if_pos hy]; exact hs _ _ (by omega) (by omega) (by omega)
    · rw [if_neg hy]
      by_cases hy2 : y = i - 1
      · rw [if_pos hy2]; exact e1 x hx.1 hx.2
      · rw [if_neg hy2]; exact SortedIn.le hS hs (by omega) (by omega) k3
  · rw [if_neg hx]
    by_cases hx2 : x = i - 1
    · rw [if_pos hx2, if_neg (by omega), if_neg (by omega)]; exact e2 y (by omega) k3
    · rw [if_neg hx2, if_neg (by omega), if_neg (by omega)]; exact hs x y (by omega) k2 k3

/-- One element goes down, from m to the place i. -/
structure DnI (a k m : Nat) (d d' : Array α) : Prop where
  size : d'.size = d.size
  perm : PermIn a (m + 1) d d'
  at_ : ∀ x, d'[x]! = if k < x ∧ x ≤ m then d[x - 1]! else if x = k then d[m]! else d[x]!
theorem DnI.start (a m : Nat) (d : Array α) : DnI a m m d d := ⟨rfl, permIn_refl _ _ _, fun x => by rw [if_neg (by omega)]; split <;> simp_all⟩
theorem DnI.step {a k m : Nat} {d d1 : Array α} (h : DnI a (k + 1) m d d1) (hak : a ≤ k) (hk : k + 1 ≤ m) (hb : m < d.size) : DnI a k m d (swp d1 (k + 1) k) := by
  have hz := h.size
  refine ⟨by rw [size_swp, hz], permIn_trans _ _ _ _ _ h.perm (swp_permIn _ _ _ _ _ (by omega) (by omega) (by omega) (by omega) (by omega)), fun x => ?_⟩
  have e1 : d1[k]! = d[k]! := by rw [h.at_, if_neg (by omega), if_neg (by omega)]
  have e2 : d1[k + 1]! = d[m]! := by rw [h.at_, if_neg (by omega), if_pos rfl]
  rw [swp_get d1 (by omega) (by omega) x, e1, e2, h.at_ x]
  by_cases h1 : x = k
  · subst h1; rw [if_pos rfl, if_neg (by omega), if_pos rfl]
  · rw [if_neg h1]
    by_cases h2 : x = k + 1
    · subst h2; rw [if_pos rfl, if_pos (by omega)]; rfl
    · rw [if_neg h2]
      by_cases h3 : k + 1 < x ∧ x ≤ m
      · rw [if_pos h3, if_pos (by omega)]
      · rw [if_neg h3, if_neg h2, if_neg (by omega), if_neg h1]
theorem DnI.sorted (hS : SWO lt) {a i m : Nat} {d d1 : Array α} (h : DnI a i m d d1) (hs : SortedIn lt a m d) (hi : a ≤ i) (him : i ≤ m) (hl : i = a ∨ lt d[m]! d[i - 1]! = false) (hr : i = m ∨ lt d[m]! d[i]! = true) : SortedIn lt a (m + 1) d1 := by
  have e1 : ∀ x, a ≤ x → x < i → lt d[m]! d[x]! = false := fun x h1 h2 => by
    rcases hl with hl | hl
    · omega
    · exact hS.ntrans _ _ _ hl (SortedIn.le hS hs h1 (by omega) (by omega))
  have e2 : ∀ y, i ≤ y → y < m → lt d[y]! d[m]! = false := fun y h1 h2 => by
    rcases hr with hr | hr
    · omega
    · exact hS.ntrans _ _ _ (SortedIn.le hS hs hi h1 h2) (hS.asymmA hr)
  intro x y k1 k2 k3
  rw [h.at_ x, h.at_ y]
  by_cases hx : i < x ∧ x ≤ m
  · rw [if_pos hx, if_pos (by omega)]; exact hs _ _ (by omega) (by omega) (by omega)
  · rw [if_neg hx]
    by_cases hx2 : x = i
    · rw [if_pos hx2, if_pos (by omega)]; exact e2 _ (by omega) (by omega)
    · rw [if_neg hx2]
      by_cases hy : i < y ∧ y ≤ m
      · rw [if_pos hy]; exact SortedIn.le hS hs k1 (by omega) (by omega)
      · rw [if_neg hy]
        by_cases hy2 : y = i
        · rw [if_pos hy2]; exact e1 x k1 (by omega)
        · rw [if_neg hy2]; exact hs x y k1 k2 (by omega)

/-- Runs of s, from the q-th on. -/
def Runs (lt : α → α → Bool) (s n t : Nat) (d : Array α) : Prop := ∀ q, t ≤ q → SortedIn lt (q * s) (min (q * s + s) n) d
def RunsTo (lt : α → α → Bool) (s n t : Nat) (d : Array α) : Prop := ∀ q, q < t → SortedIn lt (q * s) (min (q * s + s) n) d

theorem RunsTo.push {s n t : Nat} {d d' : Array α} (h : RunsTo lt s n t d) (hn : t * s + s ≤ n) (p : PermIn (t * s) (t * s + s) d d') (hs : SortedIn lt (t * s) (t * s + s) d') : RunsTo lt s n (t + 1) d' := fun q hq => by
  rcases Nat.lt_or_ge q t with g | g
  · have h1 : q * s + s ≤ t * s := by have := Nat.mul_le_mul_right s (show q + 1 ≤ t from g); rwa [Nat.add_mul, Nat.one_mul] at this
    exact sorted_congr (h q g) (fun k _ k2 => p.2.1 k (.inl (by omega)))
  · obtain rfl : q = t := by omega
    rw [Nat.min_eq_left hn]; exact hs
theorem RunsTo.close {s n t : Nat} {d d' : Array α} (h : RunsTo lt s n t d) (hn : n < t * s + s) (hts : t * s ≤ n) (p : PermIn (t * s) n d d') (hs : SortedIn lt (t * s) n d') : Runs lt s n 0 d' := fun q _ => by
  rcases Nat.lt_or_ge q t with g | g
  · have h1 : q * s + s ≤ t * s := by have := Nat.mul_le_mul_right s (show q + 1 ≤ t from g); rwa [Nat.add_mul, Nat.one_mul] at this
    exact sorted_congr (h q g) (fun k _ k2 => p.2.1 k (.inl (by omega)))
  · rcases Nat.lt_or_ge t q with g2 | g2
    · have h1 : t * s + s ≤ q * s := by have := Nat.mul_le_mul_right s (show t + 1 ≤ q from g2); rwa [Nat.add_mul, Nat.one_mul] at this
      exact fun x y h1 h2 h3 => by omega
    · obtain rfl : q = t := by omega
      rw [Nat.min_eq_right (by omega)]; exact hs
theorem Runs.later {s n t k : Nat} {d d' : Array α} {lo hi : Nat} (h : Runs lt s n t d) (hk : t ≤ k) (p : PermIn lo hi d d') (hhi : hi ≤ k * s) : Runs lt s n k d' := fun q hq => by
  have h1 : k * s ≤ q * s := Nat.mul_le_mul_right s hq
  exact sorted_congr (h q (by omega)) (fun x k1 _ => p.2.1 x (.inr (by omega)))
theorem Runs.two {s n t : Nat} {d : Array α} (h : Runs lt s n (2 * t) d) (hn : t * (2 * s) + 2 * s ≤ n) : SortedIn lt (t * (2 * s)) (t * (2 * s) + s) d ∧ SortedIn lt (t * (2 * s) + s) (t * (2 * s) + 2 * s) d := by
  have e1 : 2 * t * s = t * (2 * s) := by rw [Nat.mul_comm 2 t, Nat.mul_assoc]
  have h1 := h (2 * t) (Nat.le_refl _)
  have h2 := h (2 * t + 1) (by omega)
  rw [Nat.add_mul, Nat.one_mul, e1, Nat.min_eq_left (by omega)] at h2
  rw [e1, Nat.min_eq_left (by omega)] at h1
  rw [show t * (2 * s) + s + s = t * (2 * s) + 2 * s by omega] at h2
  exact ⟨h1, h2⟩
theorem Runs.rest {s n t : Nat} {d : Array α} (h : Runs lt s n (2 * t) d) (hn : t * (2 * s) + s < n) (hn2 : n < t * (2 * s) + 2 * s) : SortedIn lt (t * (2 * s)) (t * (2 * s) + s) d ∧ SortedIn lt (t * (2 * s) + s) n d := by
  have e1 : 2 * t * s = t * (2 * s) := by rw [Nat.mul_comm 2 t, Nat.mul_assoc]
  have h1 := h (2 * t) (Nat.le_refl _)
  have h2 := h (2 * t + 1) (by omega)
  rw [Nat.add_mul, Nat.one_mul, e1, Nat.min_eq_right (by omega)] at h2
  rw [e1, Nat.min_eq_left (by omega)] at h1
  exact ⟨h1, h2⟩
theorem Runs.one {s n t : Nat} {d : Array α} (h : Runs lt s n (2 * t) d) (hn : n ≤ t * (2 * s) + s) : SortedIn lt (t * (2 * s)) n d := by
  have e1 : 2 * t * s = t * (2 * s) := by rw [Nat.mul_comm 2 t, Nat.mul_assoc]
  have h1 := h (2 * t) (Nat.le_refl _)
  rw [e1, Nat.min_eq_right (by omega)] at h1
  exact h1
theorem Runs.all {s n : Nat} {d : Array α} (h : Runs lt s n 0 d) (hn : n ≤ s) : SortedIn lt 0 n d := by
  have := h 0 (Nat.le_refl _)
  rwa [Nat.zero_mul, Nat.zero_add, Nat.min_eq_right hn] at this
end Go.Proofs.YtpmndblakmobdaaGreatDoor
/- StbM1 -/
namespace Go.Proofs.YtpmndblakmobdaaGreatDoor
open Go Go.RowKit Go.Lib Go.Sort Go.Proofs

/-- What the walks of the sort ask of a program: its bodies, its types; an element has k cells. -/
structure StbM (P : Program) (k : Nat) : Prop where
  mixed : P.follows .mixedOrders = true
  fr : P.funcs[125]? = some Tryz.f125
  fo : P.funcs[123]? = some Tryz.f123
  fi : P.funcs[115]? = some Tryz.f115
  fm : P.funcs[116]? = some Tryz.f116
  fs : P.funcs[100]? = some Tryz.f100
  ft : P.funcs[78]? = some Tryz.f78
  t0 : P.underlying 0 = some (TypeDesc.tuple #[])
  a0 : ∀ w, (isAgg 0).run P w = .ok false w
  z0 : ∀ w, (Go.sizeOf 0).run P w = .ok 1 w
  v0 : ∀ w, (zeroValue 0).run P w = .ok (Value.tuple #[]) w
  t3 : P.underlying 3 = some (TypeDesc.int IntKind.i64)
  a3 : ∀ w, (isAgg 3).run P w = .ok false w
  z3 : ∀ w, (Go.sizeOf 3).run P w = .ok 1 w
  v3 : ∀ w, (zeroValue 3).run P w = .ok (Value.int IntKind.i64 0) w
  t4 : P.underlying 4 = some (TypeDesc.bool)
  a4 : ∀ w, (isAgg 4).run P w = .ok false w
  z4 : ∀ w, (Go.sizeOf 4).run P w = .ok 1 w
  v4 : ∀ w, (zeroValue 4).run P w = .ok (Value.bool false) w
  t5 : P.underlying 170 = some (TypeDesc.int IntKind.u64)
  a5 : ∀ w, (isAgg 170).run P w = .ok false w
  z5 : ∀ w, (Go.sizeOf 170).run P w = .ok 1 w
  v5 : ∀ w, (zeroValue 170).run P w = .ok (Value.int IntKind.u64 0) w
  t22 : P.underlying 30 = some (TypeDesc.slice 71)
  a22 : ∀ w, (isAgg 30).run P w = .ok false w
  z22 : ∀ w, (Go.sizeOf 30).run P w = .ok 1 w
  v22 : ∀ w, (zeroValue 30).run P w = .ok (Value.slice none 0 0) w
  t25 : P.underlying 143 = some (TypeDesc.func #[71, 71] #[3] false)
  a25 : ∀ w, (isAgg 143).run P w = .ok false w
  z25 : ∀ w, (Go.sizeOf 143).run P w = .ok 1 w
  v25 : ∀ w, (zeroValue 143).run P w = .ok (Value.nilFunc) w
  ae : ∀ w, (isAgg 71).run P w = .ok true w
  ze : ∀ w, (Go.sizeOf 71).run P w = .ok k w

theorem stbM : StbM Tryz.prog 2 where
  mixed := by kernel_rfl
  fr := Tryz.func125
  fo := Tryz.func123
  fi := Tryz.func115
  fm := Tryz.func116
  fs := Tryz.func100
  ft := Tryz.func78
  t0 := Tryz.underlying0
  a0 := Tryz.isAgg0
  z0 := Tryz.sizeOf0
  v0 := Tryz.zeroValue0
  t3 := Tryz.underlying3
  a3 := Tryz.isAgg3
  z3 := Tryz.sizeOf3
  v3 := Tryz.zeroValue3
  t4 := Tryz.underlying4
  a4 := Tryz.isAgg4
  z4 := Tryz.sizeOf4
  v4 := Tryz.zeroValue4
  t5 := Tryz.underlying170
  a5 := Tryz.isAgg170
  z5 := Tryz.sizeOf170
  v5 := Tryz.zeroValue170
  t22 := Tryz.underlying30
  a22 := Tryz.isAgg30
  z22 := Tryz.sizeOf30
  v22 := Tryz.zeroValue30
  t25 := Tryz.underlying143
  a25 := Tryz.isAgg143
  z25 := Tryz.sizeOf143
  v25 := Tryz.zeroValue143
  ae := Tryz.isAgg71
  ze := Tryz.sizeOf71

variable {P : Program} {k : Nat} {α : Type} [Inhabited α]

set_option maxHeartbeats 4000000 in
set_option maxRecDepth 1000000 in
theorem swapRangeM (L : StbM P k) {enc : α → List Value} {g : Nat} {cb : Array Value} {blk off cap a b n : Nat} {d0 d : Array α} {w0 w : World}
    (R : RowK enc k w0 blk off d0) (hs : d.size = d0.size) (S : SWK enc k w0 blk off d w) (hab : a + n ≤ b) (hb : b + n ≤ d.size) (hsz : d.size < 4611686018427387904) :
    Calls P 125 #[.slice (some ⟨blk, off, none⟩) d.size cap, .int .i64 a, .int .i64 b, .int .i64 n, .func (.func g) #[] cb] w fun e w' => e = .returned (.tuple #[]) ∧ ∃ d', SwR a b n d d' ∧ SWK enc k w0 blk off d' w' := by
  have S0 : Aside (SWK enc k w0 blk off d w) := S
  have mixed := L.mixed; have t0 := L.t0; have a0 := L.a0; have z0 := L.z0; have v0 := L.v0; have t3 := L.t3; have a3 := L.a3; have z3 := L.z3; have v3 := L.v3; have t4 := L.t4; have a4 := L.a4; have z4 := L.z4; have v4 := L.v4; have t5 := L.t5; have a5 := L.a5; have z5 := L.z5; have v5 := L.v5; have t22 := L.t22; have a22 := L.a22; have z22 := L.z22; have v22 := L.v22; have t25 := L.t25; have a25 := L.a25; have z25 := L.z25; have v25 := L.v25; have ae := L.ae; have ze := L.ze
  have FG := L.fr
  clear L
  have HR : Aside (RowK enc k w0 blk off d0) := R
  have HS : Hid (d.size = d0.size) := hs
  clear S R hs
  go_enter FG, Tryz.ntmps125
  go_wp2
  go_loopw [10] (fun s wr => ∃ (i : Nat) (dk : Array α), s = .int .i64 i ∧ i ≤ n ∧ Hid (SwR a b i d dk) ∧ Aside (SWK enc k w0 blk off dk wr)) (fun s _ => n - (intOf s).toNat)
  case atStart => exact ⟨0, d, rfl, Nat.zero_le _, SwR.zero _ _ _, S0⟩
  case round =>
    clear S0
    obtain ⟨i, dk, rfl, hin, HW, S1⟩ := hrel
    by_cases hlt : i < n
    · have hds : Hid (dk.size = d.size) := HW.out.size
      have hd0 : dk.size = d0.size := hds.out.trans HS.out
      have HD0 := Lib.hid hd0
      clear hd0
      have wa : IntKind.i64.wrap ((a : Int) + (i : Int)) = ((a + i : Nat) : Int) := by rw [IntKind.wrap_i64]; omega
      have wb : IntKind.i64.wrap ((b : Int) + (i : Int)) = ((b + i : Nat) : Int) := by rw [IntKind.wrap_i64]; omega
      have hda : a + i < dk.size := by rw [hds.out]; omega
      have hdb : b + i < dk.size := by rw [hds.out]; omega
      have pa : (0 : Int) ≤ ((a + i : Nat) : Int) := by omega
      have pb : (0 : Int) ≤ ((b + i : Nat) : Int) := by omega
      have ba : ((a + i : Nat) : Int) < (d.size : Int) := by omega
      have bb : ((b + i : Nat) : Int) < (d.size : Int) := by omega
      have ea : (((a + i : Nat) : Int)).toNat = a + i := by omega
      have eb : (((b + i : Nat) : Int)).toNat = b + i := by omega
      have S2 : Aside (SWK enc k w0 blk off (swp dk (a + i) (b + i)) ((wr.drew.setCells blk (off + (a + i) * k) (enc dk[b + i]!)).setCells blk (off + (b + i) * k) (enc dk[a + i]!))) := S1.out.swapped HR.out (a + i) (b + i) hda hdb
      have la := S1.out.ld1 HR.out HD0.out P (a + i) hda
      have lb := S1.out.ld1 HR.out HD0.out P (b + i) hdb
      have sa := S1.out.st1 HR.out HD0.out P (a + i) hda dk[b + i]!
      have sb := S1.out.st2 HR.out HD0.out P (a + i) (b + i) hda hdb dk[b + i]! dk[a + i]!
      have na : (enc dk[a + i]!).length = k := HR.out.hk _
      have nb : (enc dk[b + i]!).length = k := HR.out.hk _
      generalize enc dk[a + i]! = cI at S2 la sb na
      generalize enc dk[b + i]! = cJ at S2 lb sa sb nb
      have HN : Hid (SwR a b (i + 1) d (swp dk (a + i) (b + i))) := HW.out.succ (by omega) (by omega)
      generalize a + i = ai at *
      generalize b + i = bi at *
      have hnd : n < 4611686018427387904 := by omega
      clear S1 hda hdb HW hab hb
      go_wp2_with fail
      go_big_region_o
      all_goals go_wp2
      all_goals go_roundw
      case rel => exact ⟨i + 1, _, by go_num, hlt, HN, S2⟩
      case measure => simp [intOf]; omega
    · obtain rfl : i = n := by omega
      go_wp2
      go_end0
      exact ⟨rfl, dk, HW.out, S1.out⟩
set_option maxHeartbeats 4000000 in
set_option maxRecDepth 1000000 in
theorem rotateM (L : StbM P k) {enc : α → List Value} {g : Nat} {cb : Array Value} {blk off cap a m b : Nat} {d0 d : Array α} {w0 w : World}
    (R : RowK enc k w0 blk off d0) (hs : d.size = d0.size) (S : SWK enc k w0 blk off d w) (ham : a < m) (hmb : m < b) (hb : b ≤ d.size) (hsz : d.size < 4611686018427387904) :
    Calls P 123 #[.slice (some ⟨blk, off, none⟩) d.size cap, .int .i64 a, .int .i64 m, .int .i64 b, .func (.func g) #[] cb] w fun e w' => e = .returned (.tuple #[]) ∧ ∃ d', Rot a m b d d' ∧ SWK enc k w0 blk off d' w' := by
  have S0 : Aside (SWK enc k w0 blk off d w) := S
  have HC : Aside (∀ (x y n : Nat) (dk : Array α) (W : World), dk.size = d.size → SWK enc k w0 blk off dk W → x + n ≤ y → y + n ≤ d.size →
      Calls P 125 #[.slice (some ⟨blk, off, none⟩) d.size cap, .int .i64 x, .int .i64 y, .int .i64 n, .func (.func g) #[] cb] W fun e w' => e = .returned (.tuple #[]) ∧ ∃ d', SwR x y n dk d' ∧ SWK enc k w0 blk off d' w') :=
    fun x y n dk W h1 h2 h3 h4 => by
      have := swapRangeM L (g := g) (cb := cb) (cap := cap) (a := x) (b := y) (n := n) R (h1.trans hs) h2 h3 (by omega) (by omega)
      rw [h1] at this
      exact this
  have mixed := L.mixed; have t0 := L.t0; have a0 := L.a0; have z0 := L.z0; have v0 := L.v0; have t3 := L.t3; have a3 := L.a3; have z3 := L.z3; have v3 := L.v3; have t4 := L.t4; have a4 := L.a4; have z4 := L.z4; have v4 := L.v4; have t5 := L.t5; have a5 := L.a5; have z5 := L.z5; have v5 := L.v5; have t22 := L.t22; have a22 := L.a22; have z22 := L.z22; have v22 := L.v22; have t25 := L.t25; have a25 := L.a25; have z25 := L.z25; have v25 := L.v25; have ae := L.ae; have ze := L.ze
  have FG := L.fo
  have e44 : ∀ args w, (callFunc 125 args).run P w = .ok (.enter 125 args) w := enters_of L.fr (by kernel_rfl) rfl
  clear L S R hs
  go_enter FG, Tryz.ntmps123
  go_wp2
  go_loopw [10, 11] (fun s t wr => ∃ (i j : Nat) (dk : Array α), s = .int .i64 i ∧ t = .int .i64 j ∧ Hid (RotI a m b i j d dk) ∧ Aside (SWK enc k w0 blk off dk wr) ∧ 1 ≤ i ∧ 1 ≤ j ∧ i ≤ m - a ∧ j ≤ b - m) (fun s t _ => (intOf s).toNat + (intOf t).toNat)
  case atStart => exact ⟨m - a, b - m, d, by go_num, by go_num, RotI.start ham hmb, S0, by omega, by omega, Nat.le_refl _, Nat.le_refl _⟩
  case round =>
    clear S0
    obtain ⟨i, j, dk, rfl, rfl, HI, S1, hi1, hj1, hil, hjl⟩ := hrel
    by_cases hij : i = j
    · subst hij
      have hd : ((i : Int) != (i : Int)) = false := by simp
      have hw1 : IntKind.i64.wrap ((m : Int) - (i : Int)) = ((m - i : Nat) : Int) := by rw [IntKind.wrap_i64]; omega
      have hc := HC.out (m - i) m i dk wr HI.out.size S1.out (by omega) (by omega)
      have hf : Hid (∀ d', SwR (m - i) m i dk d' → Rot a m b d d') := fun d' h => HI.out.done (by omega) hb (by omega) h
      generalize hmi : m - i = mi at *
      clear hmi HI hil hjl hi1 hj1
      go_wp2_with (go_at_call 125; refine hc.mono ?_; rintro e w' ⟨rfl, d', h1, h2⟩)
      go_end0
      exact ⟨rfl, d', hf.out d' h1, h2⟩
    · have hd : ((i : Int) != (j : Int)) = true := by simp; omega
      by_cases hlt : j < i
      · have hg : decide ((j : Int) < (i : Int)) = true := decide_eq_true (by omega)
        have hw1 : IntKind.i64.wrap ((m : Int) - (i : Int)) = ((m - i : Nat) : Int) := by rw [IntKind.wrap_i64]; omega
        have hw2 : IntKind.i64.wrap ((i : Int) - (j : Int)) = ((i - j : Nat) : Int) := by rw [IntKind.wrap_i64]; omega
        have hc := HC.out (m - i) m j dk wr HI.out.size S1.out (by omega) (by omega)
        have hf : Hid (∀ d', SwR (m - i) m j dk d' → RotI a m b (i - j) j d d') := fun d' h => HI.out.left hlt (by omega) hb (by omega) h
        have hmeas : Hid (1 ≤ i - j ∧ i - j ≤ m - a ∧ i - j + j < i + j) := by unfold Hid; omega
        generalize hmi : m - i = mi at *
        generalize hij : i - j = ij at *
        clear hmi hij HI hil
        go_wp2_with (go_at_call 125; refine hc.mono ?_; rintro e w' ⟨rfl, d', h1, h2⟩)
        go_roundw
        case rel => exact ⟨ij, j, d', by go_num, rfl, hf.out d' h1, h2, hmeas.out.1, hj1, hmeas.out.2.1, hjl⟩
        case measure => have := hmeas.out.2.2; simp [intOf]; omega
      · have hg : decide ((j : Int) < (i : Int)) = false := decide_eq_false (by omega)
        have hw1 : IntKind.i64.wrap ((m : Int) - (i : Int)) = ((m - i : Nat) : Int) := by rw [IntKind.wrap_i64]; omega
        have hw3 : IntKind.i64.wrap ((m : Int) + (j : Int)) = ((m + j : Nat) : Int) := by rw [IntKind.wrap_i64]; omega
        have hw4 : IntKind.i64.wrap (((m + j : Nat) : Int) - (i : Int)) = ((m + j - i : Nat) : Int) := by rw [IntKind.wrap_i64]; omega
        have hw2 : IntKind.i64.wrap ((j : Int) - (i : Int)) = ((j - i : Nat) : Int) := by rw [IntKind.wrap_i64]; omega
        have hc := HC.out (m - i) (m + j - i) i dk wr HI.out.size S1.out (by omega) (by omega)
        have hf : Hid (∀ d', SwR (m - i) (m + j - i) i dk d' → RotI a m b i (j - i) d d') := fun d' h => HI.out.right (by omega) (by omega) hb (by omega) h
        have hmeas : Hid (1 ≤ j - i ∧ j - i ≤ b - m ∧ i + (j - i) < i + j) := by unfold Hid; omega
        generalize hmi : m - i = mi at *
        generalize hmj : m + j - i = mj at *
        generalize hmk : m + j = mk at *
        generalize hji : j - i = ji at *
        clear hmi hmj hmk hji HI hjl
        go_wp2_with (go_at_call 125; refine hc.mono ?_; rintro e w' ⟨rfl, d', h1, h2⟩)
        go_roundw
        case rel => exact ⟨i, ji, d', rfl, by go_num, hf.out d' h1, h2, hi1, hmeas.out.1, hil, hmeas.out.2.1⟩
        case measure => have := hmeas.out.2.2; simp [intOf]; omega
end Go.Proofs.YtpmndblakmobdaaGreatDoor
/- StbM2 -/
namespace Go.Proofs.YtpmndblakmobdaaGreatDoor
open Go Go.RowKit Go.Lib Go.Sort Go.Proofs
variable {P : Program} {k : Nat} {α : Type} [Inhabited α]

/-- What is asked of the comparison: in whatever world it hands back one plain function's number; it may draw, it may lay blocks. -/
def CmpAny (P : Program) (g : Nat) (cb : Array Value) (enc : α → List Value) (cf : α → α → Int) : Prop :=
  ∀ (x y : α) (W : World), Calls P g (#[.agg (enc x).toArray, .agg (enc y).toArray] ++ cb) W fun e w' => e = .returned (.int .i64 (cf x y)) ∧ ∃ q os', w' = grow (W.drewN q) os'

omit [Inhabited α] in
theorem CmpAny.grown {g : Nat} {cb : Array Value} {enc : α → List Value} {cf : α → α → Int} (h : CmpAny P g cb enc cf) (x y : α) (W : World) (n : Nat) (os : Array Obj) :
    Calls P g (#[.agg (enc x).toArray, .agg (enc y).toArray] ++ cb) (grow (W.drewN n) os) fun e w' => e = .returned (.int .i64 (cf x y)) ∧ ∃ q os', w' = grow ((grow (W.drewN n) os).drewN q) os' := h x y _

set_option maxHeartbeats 4000000 in
set_option maxRecDepth 1000000 in
theorem insertionM (L : StbM P k) (enc : α → List Value) (hk : ∀ x, (enc x).length = k) (h1 : ∀ x, ∀ v ∈ enc x, v.oneCell' = true)
    (cf : α → α → Int) (g : Nat) (cb : Array Value) (blk off cap a b : Nat) (d : Array α) (w : World)
    (eg : ∀ args w, (callFunc g args).run P w = .ok (.enter g args) w) (hcm : CmpAny P g cb enc cf) (hH : HoldsK enc k w blk off d) (hblk : blk < w.heap.size) (hab : a ≤ b) (hb : b ≤ d.size) (hsz : d.size < 4611686018427387904) :
    Calls P 115 #[.slice (some ⟨blk, off, none⟩) d.size cap, .int .i64 a, .int .i64 b, .func (.func g) #[] cb] w fun e w' =>
      e = .returned (.tuple #[]) ∧ ∃ n os, w' = sortWorldK enc k w blk off n (Sort.insertionSort (ltOf cf) d a b) os := by
  have hcmp : CmpLays P g cb enc k cf blk off d.size w := fun _ _ _ _ x y => hcm x y _
  clear hcm
  have mixed := L.mixed; have t0 := L.t0; have a0 := L.a0; have z0 := L.z0; have v0 := L.v0; have t3 := L.t3; have a3 := L.a3; have z3 := L.z3; have v3 := L.v3; have t4 := L.t4; have a4 := L.a4; have z4 := L.z4; have v4 := L.v4; have t5 := L.t5; have a5 := L.a5; have z5 := L.z5; have v5 := L.v5; have t22 := L.t22; have a22 := L.a22; have z22 := L.z22; have v22 := L.v22; have t25 := L.t25; have a25 := L.a25; have z25 := L.z25; have v25 := L.v25; have ae := L.ae; have ze := L.ze
  have F20 := L.fi
  clear L
  have HC : Aside _ := hcmp
  have HST : Hid (w = sortWorldK enc k w blk off 0 d #[]) := by show w = _; unfold sortWorldK; rw [grow_empty]; exact (putRowK_self enc k w blk off d hH).symm
  have HH : Hid (HoldsK enc k w blk off d) := hH
  have HK : Hid (∀ x, (enc x).length = k) := hk
  have H1 : Hid (∀ x, ∀ v ∈ enc x, v.oneCell' = true) := h1
  clear hcmp hH hk h1
  go_enter F20, Tryz.ntmps115
  go_wp2
  go_loopg [8] (b - a) (fun g1 vi wr => ∃ (i n : Nat) (dk : Array α) (os : Array Obj), vi = .int .i64 i ∧ a < i ∧ i ≤ b + 1 ∧ b + 1 - i ≤ g1 + 1 ∧ dk.size = d.size ∧ wr = sortWorldK enc k w blk off n dk os ∧ Hid (insOuter (ltOf cf) a b i dk = insOuter (ltOf cf) a b (a + 1) d))
  case atStart => exact ⟨a + 1, 0, d, #[], by go_num, by omega, by omega, by omega, rfl, HST.out, rfl⟩
  case round =>
    obtain ⟨i, n, dk, os, rfl, hai, hib, hg1, hsk, rfl, HO⟩ := hrel
    by_cases hlt : i < b
    · have hltz : (i : Int) < (b : Int) := by omega
      go_wp2
      -- the inner loop
      go_loopg [9] i (fun g2 vj wr2 => ∃ (j m : Nat) (dj : Array α) (oj : Array Obj), vj = .int .i64 j ∧ a ≤ j ∧ j ≤ i ∧ j ≤ g2 ∧ dj.size = d.size ∧ wr2 = sortWorldK enc k w blk off m dj oj ∧ Hid (insInner (ltOf cf) a j dj = insInner (ltOf cf) a i dk))
      case atStart => exact ⟨i, n, dk, os, rfl, by omega, Nat.le_refl _, Nat.le_refl _, hsk, rfl, rfl⟩
      case round =>
        obtain ⟨j, m, dj, oj, rfl, haj, hji, hg2, hsj, rfl, HI⟩ := hrel
        have out : (j ≤ a ∨ ltOf cf dj[j]! dj[j - 1]! = false) → Hid (insOuter (ltOf cf) a b (i + 1) dj = insOuter (ltOf cf) a b (a + 1) d) := fun hs => by
          show _ = _
          rw [← HO.out, insOuter_go _ _ _ _ _ hlt, ← HI.out, insInner_stop _ _ _ _ hs]
        have OUT : Aside _ := out
        clear out
        by_cases hja : a < j
        · have hjaz : (a : Int) < (j : Int) := by omega
          obtain ⟨jp, rfl⟩ : ∃ jp, j = jp + 1 := ⟨j - 1, by omega⟩
          obtain ⟨xj, hxj⟩ : ∃ x, dj[jp + 1]! = x := ⟨_, rfl⟩
          obtain ⟨xp, hxp⟩ : ∃ x, dj[jp]! = x := ⟨_, rfl⟩
          have hwp : IntKind.i64.wrap (jp : Int) = (jp : Int) := by rw [IntKind.wrap_i64]; omega
          have jz : (jp : Int) + 1 < (d.size : Int) := by omega
          have jz1 : (jp : Int) < (d.size : Int) := by omega
          have hjaz' : (a : Int) < (jp : Int) + 1 := by omega
          have p0 : (0 : Int) ≤ (jp : Int) + 1 := by omega
          have e0 : ((jp : Int) + 1).toNat = jp + 1 := by omega
          -- every world of the class is one of the sort's
          have hcls : ∀ n' os', grow ((sortWorldK enc k w blk off m dj oj).drewN n') os' = sortWorldK enc k w blk off (m + n') dj (oj ++ os') := fun n' os' => sortWorldK_grown_c enc k w blk off m n' dj oj os'
          have hHc : ∀ n' os', HoldsK enc k (grow ((sortWorldK enc k w blk off m dj oj).drewN n') os') blk off dj := fun n' os' => by rw [hcls]; exact holdsK_sortWorldK_c enc k w blk off d dj _ _ HH.out hblk hsj
          have lj : ∀ n' os', Sem.run P (loadCellsFrom ⟨blk, off + (jp + 1) * k, none⟩ 0 k #[]) (grow ((sortWorldK enc k w blk off m dj oj).drewN n') os') = .ok (enc xj).toArray (grow ((sortWorldK enc k w blk off m dj oj).drewN n') os') := fun n' os' => by
            rw [← hxj]; exact run_loadCellsFrom_list P _ _ _ k (HK.out _) (HoldsK.cells (hHc n' os') HK.out (by omega))
          have lp : ∀ n' os', Sem.run P (loadCellsFrom ⟨blk, off + jp * k, none⟩ 0 k #[]) (grow ((sortWorldK enc k w blk off m dj oj).drewN n') os') = .ok (enc xp).toArray (grow ((sortWorldK enc k w blk off m dj oj).drewN n') os') := fun n' os' => by
            rw [← hxp]; exact run_loadCellsFrom_list P _ _ _ k (HK.out _) (HoldsK.cells (hHc n' os') HK.out (by omega))
          have hcg : ∀ n' os', Calls P g (#[.agg (enc xj).toArray, .agg (enc xp).toArray] ++ cb) (grow ((sortWorldK enc k w blk off m dj oj).drewN n') os') fun e w' => e = .returned (.int .i64 (cf xj xp)) ∧ ∃ q os'', w' = grow ((grow ((sortWorldK enc k w blk off m dj oj).drewN n') os').drewN q) os'' := fun n' os' => by
            rw [hcls]; exact HC.out _ _ dj hsj xj xp
          have CLS : Hid _ := hcls
          clear hcls hHc
          generalize hwq : sortWorldK enc k w blk off m dj oj = wq at lj lp hcg CLS ⊢
          by_cases hlv : cf xj xp < 0
          · go_wp2_with fail
            go_quiet_grown (first | (go_at_fn g; refine Calls.grown_of (hcg _ _)))
            go_wp2_with fail
            have hw2 : grow (wq.drewN nq) osq = sortWorldK enc k w blk off (m + nq) dj (oj ++ osq) := CLS.out nq osq
            have hHd : HoldsK enc k (grow (wq.drewN nq) osq).drew blk off dj := by
              have : HoldsK enc k (grow (wq.drewN nq) osq) blk off dj := by rw [hw2]; exact holdsK_sortWorldK_c enc k w blk off d dj _ _ HH.out hblk hsj
              exact this
            have bnd : ∀ x, x < dj.size → x * k + k ≤ dj.size * k := fun x hx => by
              have := Nat.mul_le_mul_right k (show x + 1 ≤ dj.size from hx); rwa [Nat.add_mul, Nat.one_mul] at this
            clear lj lp hcg
            generalize grow (wq.drewN nq) osq = wq2 at hw2 hHd ⊢
            have lj2 : Sem.run P (loadCellsFrom ⟨blk, off + (jp + 1) * k, none⟩ 0 k #[]) wq2.drew = .ok (enc xj).toArray wq2.drew := by rw [← hxj]; exact run_loadCellsFrom_list P _ _ _ k (HK.out _) (HoldsK.cells hHd HK.out (by omega))
            have lp2 : Sem.run P (loadCellsFrom ⟨blk, off + jp * k, none⟩ 0 k #[]) wq2.drew = .ok (enc xp).toArray wq2.drew := by rw [← hxp]; exact run_loadCellsFrom_list P _ _ _ k (HK.out _) (HoldsK.cells hHd HK.out (by omega))
            have s1 : Sem.run P (storeCells ⟨blk, off + (jp + 1) * k, none⟩ (enc xp) 0) wq2.drew = .ok () (wq2.drew.setCells blk (off + (jp + 1) * k) (enc xp)) := stores_of_holds P hHd ((jp + 1) * k) _ (by rw [HK.out, size_flatK]; exact bnd (jp + 1) (by omega)) (H1.out _)
            have s2 : Sem.run P (storeCells ⟨blk, off + jp * k, none⟩ (enc xj) 0) (wq2.drew.setCells blk (off + (jp + 1) * k) (enc xp)) = .ok () ((wq2.drew.setCells blk (off + (jp + 1) * k) (enc xp)).setCells blk (off + jp * k) (enc xj)) :=
              stores_of_holds P (holds_setCells_c hHd ((jp + 1) * k) _ (by rw [HK.out, size_flatK]; exact bnd (jp + 1) (by omega))) (jp * k) _ (by rw [HK.out, size_setMany, size_flatK]; exact bnd jp (by omega)) (H1.out _)
            have hsJ : (enc xj).length = k := HK.out _
            have hsP : (enc xp).length = k := HK.out _
            have HW2 : Hid (wq2 = sortWorldK enc k w blk off (m + nq) dj (oj ++ osq)) := hw2
            clear hw2 hHd bnd
            obtain ⟨cJ, hcJ⟩ : ∃ c, c = enc xj := ⟨_, rfl⟩
            obtain ⟨cP, hcP⟩ : ∃ c, c = enc xp := ⟨_, rfl⟩
            rw [← hcP] at s1 lp2 hsP
            rw [← hcJ] at lj2 hsJ
            rw [← hcJ, ← hcP] at s2
            have CC : Hid (cJ = enc xj ∧ cP = enc xp) := ⟨hcJ, hcP⟩
            clear hcJ hcP
            go_big_region_o
            all_goals go_wp2
            go_roundg jp
            case measure => omega
            case rel =>
              refine ⟨jp, m + nq + 1, swp dj (jp + 1) jp, oj ++ osq, by first | rfl | go_num | (congr 1; omega), by omega, by omega, Nat.le_refl _, by rw [size_swp]; exact hsj, ?_, (show Hid _ from ?_)⟩
              · rw [CC.out.1, CC.out.2, HW2.out, ← hxp, ← hxj]
                exact sortWorldK_swp_c enc k w blk off HK.out (m + nq) dj (oj ++ osq) hblk (jp + 1) jp (by omega) (by omega)
              · show _ = _
                have := insInner_go (ltOf cf) a (jp + 1) dj hja (by simp only [Nat.add_sub_cancel]; rw [hxj, hxp]; exact decide_eq_true hlv)
                simp only [Nat.add_sub_cancel] at this
                rw [← HI.out, this]
          · -- not less: out of the inner loop
            go_wp2_with fail
            go_quiet_grown (first | (go_at_fn g; refine Calls.grown_of (hcg _ _)))
            go_wp2
            go_roundg (b - (i + 1))
            case measure => omega
            case rel => exact ⟨i + 1, _, dj, _, by go_num, by omega, by omega, by omega, hsj, CLS.out nq osq, OUT.out (Or.inr (by simp only [Nat.add_sub_cancel]; rw [hxj, hxp]; exact decide_eq_false (by omega)))⟩
        · -- j = a: out of the inner loop (the guard is false: 'cmp' is not called)
          have hjaz : decide ((j : Int) > (a : Int)) = false := decide_eq_false (by omega)
          have hjaz' : ¬ (a : Int) < (j : Int) := by omega
          have hdr : (sortWorldK enc k w blk off m dj oj).drew = sortWorldK enc k w blk off (m + 1) dj oj := rfl
          generalize hwq : sortWorldK enc k w blk off m dj oj = wq at hdr
          have HDR : Hid _ := hdr
          clear hdr
          go_wp2_with fail
          go_big_region_o
          all_goals go_wp2
          go_roundg (b - (i + 1))
          case measure => omega
          case rel => exact ⟨i + 1, m + 1, dj, oj, by go_num, by omega, by omega, by omega, hsj, HDR.out, OUT.out (Or.inl (by omega))⟩
    · have hltz : ¬ (i : Int) < (b : Int) := by omega
      go_wp2
      go_end0
      exact ⟨rfl, n, os, by unfold Sort.insertionSort; rw [← HO.out, insOuter_stop _ _ _ _ _ hlt]⟩


/-- The same, from a world of the sort's to a world of the sort's. -/
theorem insertM (L : StbM P k) {enc : α → List Value} {cf : α → α → Int} (hO : SWO (ltOf cf)) {g : Nat} {cb : Array Value} {blk off cap a b : Nat} {d0 d : Array α} {w0 w : World}
    (eg : ∀ args w, (callFunc g args).run P w = .ok (.enter g args) w) (hcm : CmpAny P g cb enc cf) (R : RowK enc k w0 blk off d0) (hs : d.size = d0.size) (S : SWK enc k w0 blk off d w) (hab : a ≤ b) (hb : b ≤ d.size) (hsz : d.size < 4611686018427387904) :
    Calls P 115 #[.slice (some ⟨blk, off, none⟩) d.size cap, .int .i64 a, .int .i64 b, .func (.func g) #[] cb] w fun e w' =>
      e = .returned (.tuple #[]) ∧ ∃ d', PermIn a b d d' ∧ SortedIn (ltOf cf) a b d' ∧ SWK enc k w0 blk off d' w' :=
  (insertionM L enc R.hk R.h1 cf g cb blk off cap a b d w eg hcm (S.holds R.hblk R.hH hs) (S.lt R.hblk) hab hb hsz).mono fun _ _ ⟨he, n, os, hw⟩ => by
    have h := insertionSort_holds (lt := ltOf cf) hO d a b hab hb
    exact ⟨he, _, h.1, h.2, by rw [hw]; exact S.on R.hblk n _ os h.1.1⟩
end Go.Proofs.YtpmndblakmobdaaGreatDoor
/- StbM3 -/
namespace Go.Proofs.YtpmndblakmobdaaGreatDoor
open Go Go.RowKit Go.Lib Go.Sort Go.Proofs
variable {P : Program} {k : Nat} {α : Type} [Inhabited α]

set_option maxHeartbeats 4000000 in
set_option maxRecDepth 1000000 in
theorem symMergeM1 (L : StbM P k) {enc : α → List Value} {cf : α → α → Int} (hO : SWO (ltOf cf)) {g : Nat} {cb : Array Value} {blk off cap a m b : Nat} {d0 d : Array α} {w0 w : World}
    (eg : ∀ args w, (callFunc g args).run P w = .ok (.enter g args) w) (hcm : CmpAny P g cb enc cf) (R : RowK enc k w0 blk off d0) (hs : d.size = d0.size) (S : SWK enc k w0 blk off d w)
    (hm : m = a + 1) (hmb : m < b) (h2 : SortedIn (ltOf cf) m b d) (hb : b ≤ d.size) (hsz : d.size < 4611686018427387904) :
    Calls P 116 #[.slice (some ⟨blk, off, none⟩) d.size cap, .int .i64 a, .int .i64 m, .int .i64 b, .func (.func g) #[] cb] w fun e w' =>
      e = .returned (.tuple #[]) ∧ ∃ d', PermIn a b d d' ∧ SortedIn (ltOf cf) a b d' ∧ SWK enc k w0 blk off d' w' := by
  have S0 : Aside (SWK enc k w0 blk off d w) := S
  have HR : Aside (RowK enc k w0 blk off d0) := R
  have HS : Hid (d.size = d0.size) := hs
  have HC := Lib.hid hcm
  have HO := Lib.hid hO
  have HM := Lib.hid hm
  have H2 := Lib.hid h2
  have mixed := L.mixed; have t0 := L.t0; have a0 := L.a0; have z0 := L.z0; have v0 := L.v0; have t3 := L.t3; have a3 := L.a3; have z3 := L.z3; have v3 := L.v3; have t4 := L.t4; have a4 := L.a4; have z4 := L.z4; have v4 := L.v4; have t5 := L.t5; have a5 := L.a5; have z5 := L.z5; have v5 := L.v5; have t22 := L.t22; have a22 := L.a22; have z22 := L.z22; have v22 := L.v22; have t25 := L.t25; have a25 := L.a25; have z25 := L.z25; have v25 := L.v25; have ae := L.ae; have ze := L.ze
  have FG := L.fm
  clear L S R hs hcm hO
  have ham : a < m := by omega
  have g0 : ((m : Int) - (a : Int) == 1) = true := by rw [beq_iff_eq]; omega
  clear hm h2
  go_enter FG, Tryz.ntmps116
  go_wp2_with fail
  go_loopw [10, 11] (fun s t wr => ∃ (i j : Nat), s = .int .i64 i ∧ t = .int .i64 j ∧ m ≤ i ∧ i ≤ j ∧ j ≤ b ∧ Hid (i = m ∨ ltOf cf d[i - 1]! d[a]! = true) ∧ Hid (j = b ∨ ltOf cf d[j]! d[a]! = false) ∧ Aside (SWK enc k w0 blk off d wr)) (fun s t _ => (intOf t).toNat - (intOf s).toNat)
  case atStart => exact ⟨m, b, rfl, rfl, Nat.le_refl _, by omega, Nat.le_refl _, .inl rfl, .inl rfl, S0⟩
  case round =>
    clear S0
    obtain ⟨i, j, rfl, rfl, hmi, hij, hjb, Hi, Hj, S1⟩ := hrel
    by_cases hlt : i < j
    · obtain ⟨h, hh⟩ : ∃ h, h = (i + j) / 2 := ⟨_, rfl⟩
      have hh2 : ((i : Int) + (j : Int)) / 2 = ((h : Nat) : Int) := by omega
      have hih : i ≤ h := by omega
      have hhj : h < j := by omega
      clear hh
      cases hlv : ltOf cf d[h]! d[a]! with
      | true =>
        have eax : ((h : Nat) : Int).toNat = h := by omega
        have pax : (0 : Int) ≤ ((h : Nat) : Int) := by omega
        have bax : ((h : Nat) : Int) < (d.size : Int) := by omega
        have rax : IntKind.i64.wrap ((h : Nat) : Int) = ((h : Nat) : Int) := by rw [IntKind.wrap_i64]; omega
        have eay : ((a : Nat) : Int).toNat = a := by omega
        have pay : (0 : Int) ≤ ((a : Nat) : Int) := by omega
        have bay : ((a : Nat) : Int) < (d.size : Int) := by omega
        have ray : IntKind.i64.wrap ((a : Nat) : Int) = ((a : Nat) : Int) := by rw [IntKind.wrap_i64]; omega
        obtain ⟨xv, hxv⟩ : ∃ v, v = d[h]! := ⟨_, rfl⟩
        obtain ⟨yv, hyv⟩ : ∃ v, v = d[a]! := ⟨_, rfl⟩
        have lx := S1.out.ld HR.out HS.out P h (by omega)
        have ly := S1.out.ld HR.out HS.out P a (by omega)
        rw [← hxv] at lx
        rw [← hyv] at ly
        have hcc : ∀ n os, Calls P g (#[.agg (enc xv).toArray, .agg (enc yv).toArray] ++ cb) (grow (wr.drewN n) os) fun e w' => e = .returned (.int .i64 (cf xv yv)) ∧ ∃ q os', w' = grow ((grow (wr.drewN n) os).drewN q) os' := HC.out.grown xv yv wr
        have hvv : cf xv yv < 0 := by rw [hxv, hyv]; exact of_decide_eq_true hlv
        have hdd : decide (cf xv yv < 0) = true := decide_eq_true hvv
        have HLV := Lib.hid hlv
        clear hlv hxv hyv hvv
        go_wp2_with fail
        go_quiet_grown (first | (go_at_fn g; refine Calls.grown_of (hcc _ _)))
        have S2 : Aside (SWK enc k w0 blk off d (grow (wr.drewN nq) osq)) := S1.out.grown nq osq
        clear lx ly hcc S1 eax pax bax rax eay pay bay ray
        generalize grow (wr.drewN nq) osq = w2 at S2 ⊢
        clear nq osq
        go_wp2
        go_roundw
        case rel => exact ⟨h + 1, j, by go_num, rfl, by omega, by omega, hjb, .inr HLV.out, Hj, S2⟩
        case measure => simp [intOf]; omega
      | false =>
        have eax : ((h : Nat) : Int).toNat = h := by omega
        have pax : (0 : Int) ≤ ((h : Nat) : Int) := by omega
        have bax : ((h : Nat) : Int) < (d.size : Int) := by omega
        have rax : IntKind.i64.wrap ((h : Nat) : Int) = ((h : Nat) : Int) := by rw [IntKind.wrap_i64]; omega
        have eay : ((a : Nat) : Int).toNat = a := by omega
        have pay : (0 : Int) ≤ ((a : Nat) : Int) := by omega
        have bay : ((a : Nat) : Int) < (d.size : Int) := by omega
        have ray : IntKind.i64.wrap ((a : Nat) : Int) = ((a : Nat) : Int) := by rw [IntKind.wrap_i64]; omega
        obtain ⟨xv, hxv⟩ : ∃ v, v = d[h]! := ⟨_, rfl⟩
        obtain ⟨yv, hyv⟩ : ∃ v, v = d[a]! := ⟨_, rfl⟩
        have lx := S1.out.ld HR.out HS.out P h (by omega)
        have ly := S1.out.ld HR.out HS.out P a (by omega)
        rw [← hxv] at lx
        rw [← hyv] at ly
        have hcc : ∀ n os, Calls P g (#[.agg (enc xv).toArray, .agg (enc yv).toArray] ++ cb) (grow (wr.drewN n) os) fun e w' => e = .returned (.int .i64 (cf xv yv)) ∧ ∃ q os', w' = grow ((grow (wr.drewN n) os).drewN q) os' := HC.out.grown xv yv wr
        have hvv : ¬ cf xv yv < 0 := by rw [hxv, hyv]; exact of_decide_eq_false hlv
        have hdd : decide (cf xv yv < 0) = false := decide_eq_false hvv
        have HLV := Lib.hid hlv
        clear hlv hxv hyv hvv
        go_wp2_with fail
        go_quiet_grown (first | (go_at_fn g; refine Calls.grown_of (hcc _ _)))
        have S2 : Aside (SWK enc k w0 blk off d (grow (wr.drewN nq) osq)) := S1.out.grown nq osq
        clear lx ly hcc S1 eax pax bax rax eay pay bay ray
        generalize grow (wr.drewN nq) osq = w2 at S2 ⊢
        clear nq osq
        go_wp2
        go_roundw
        case rel => exact ⟨i, h, rfl, rfl, hmi, by omega, by omega, Hi, .inr HLV.out, S2⟩
        case measure => simp [intOf]; omega
    · obtain rfl : i = j := by omega
      clear hlt hij
      go_wp2_with fail
      obtain ⟨wo, rfl⟩ : ∃ wo : World, wo = wr := ⟨_, rfl⟩
      go_loopw [13] (fun s wr => ∃ (q : Nat) (dk : Array α), s = .int .i64 q ∧ a ≤ q ∧ q + 1 ≤ i ∧ Hid (UpI a q b d dk) ∧ Aside (SWK enc k w0 blk off dk wr)) (fun s _ => i - (intOf s).toNat)
      case atStart => exact ⟨a, d, rfl, Nat.le_refl _, by omega, UpI.start _ _ _, S1⟩
      case round =>
        clear S1
        obtain ⟨q, dk, rfl, haq, hqi, HU, S1⟩ := hrel
        by_cases hlt : q + 1 < i
        · have HZ : Hid (dk.size = d.size) := HU.out.size
          obtain ⟨q1, hq1⟩ : ∃ q1, q1 = q + 1 := ⟨_, rfl⟩
          have hq2 : ((q : Int) + 1) = ((q1 : Nat) : Int) := by omega
          have ht : decide ((q : Int) < (i : Int) - 1) = true := decide_eq_true (by omega)
          have HN : Hid (UpI a q1 b d (swp dk q q1)) := by subst hq1; exact HU.out.step haq (by omega) hb
          have hqq : q < q1 := by omega
          have hqi1 : q1 < i := by omega
          have HQ := Lib.hid hq1
          clear hq1 HU
          have S2 : Aside (SWK enc k w0 blk off (swp dk q q1) ((wr.drew.setCells blk (off + q * k) (enc dk[q1]!)).setCells blk (off + q1 * k) (enc dk[q]!))) := S1.out.swapped HR.out q q1 (by rw [HZ.out]; omega) (by rw [HZ.out]; omega)
          have lx := S1.out.ld1 HR.out (HZ.out.trans HS.out) P q (by rw [HZ.out]; omega)
          have ly := S1.out.ld1 HR.out (HZ.out.trans HS.out) P q1 (by rw [HZ.out]; omega)
          have sx := S1.out.st1 HR.out (HZ.out.trans HS.out) P q (by rw [HZ.out]; omega) dk[q1]!
          have sy := S1.out.st2 HR.out (HZ.out.trans HS.out) P q q1 (by rw [HZ.out]; omega) (by rw [HZ.out]; omega) dk[q1]! dk[q]!
          have nx : (enc dk[q]!).length = k := HR.out.hk _
          have ny : (enc dk[q1]!).length = k := HR.out.hk _
          generalize enc dk[q]! = cI at S2 lx sy nx
          generalize enc dk[q1]! = cJ at S2 ly sx sy ny
          have eax : ((q : Nat) : Int).toNat = q := by omega
          have pax : (0 : Int) ≤ ((q : Nat) : Int) := by omega
          have bax : ((q : Nat) : Int) < (d.size : Int) := by omega
          have rax : IntKind.i64.wrap ((q : Nat) : Int) = ((q : Nat) : Int) := by rw [IntKind.wrap_i64]; omega
          have eay : ((q1 : Nat) : Int).toNat = q1 := by omega
          have pay : (0 : Int) ≤ ((q1 : Nat) : Int) := by omega
          have bay : ((q1 : Nat) : Int) < (d.size : Int) := by omega
          have ray : IntKind.i64.wrap ((q1 : Nat) : Int) = ((q1 : Nat) : Int) := by rw [IntKind.wrap_i64]; omega
          clear S1
          go_wp2_with fail
          go_big_region_o
          all_goals clear lx ly sx sy nx ny eax pax bax rax eay pay bay ray
          all_goals go_wp2
          all_goals go_roundw
          case rel => exact ⟨q1, _, by go_num, by omega, by omega, HN, S2⟩
          case measure => have := HQ.out; simp [intOf]; omega
        · have ht : decide ((q : Int) < (i : Int) - 1) = false := decide_eq_false (by omega)
          go_wp2
          (try simp only [Exit.inBlock, Exit.then]); refine bodyPost_ret (results_none rfl _ _ _) rfl ?_
          obtain rfl : q = i - 1 := by omega
          have hm := HM.out
          subst hm
          exact ⟨rfl, dk, HU.out.perm, HU.out.sorted HO.out H2.out hmi hjb Hi.out Hj.out, S1.out⟩

set_option maxHeartbeats 4000000 in
set_option maxRecDepth 1000000 in
theorem symMergeM2 (L : StbM P k) {enc : α → List Value} {cf : α → α → Int} (hO : SWO (ltOf cf)) {g : Nat} {cb : Array Value} {blk off cap a m b : Nat} {d0 d : Array α} {w0 w : World}
    (eg : ∀ args w, (callFunc g args).run P w = .ok (.enter g args) w) (hcm : CmpAny P g cb enc cf) (R : RowK enc k w0 blk off d0) (hs : d.size = d0.size) (S : SWK enc k w0 blk off d w)
    (ham : a + 1 < m) (hm : b = m + 1) (h1 : SortedIn (ltOf cf) a m d) (hb : b ≤ d.size) (hsz : d.size < 4611686018427387904) :
    Calls P 116 #[.slice (some ⟨blk, off, none⟩) d.size cap, .int .i64 a, .int .i64 m, .int .i64 b, .func (.func g) #[] cb] w fun e w' =>
      e = .returned (.tuple #[]) ∧ ∃ d', PermIn a b d d' ∧ SortedIn (ltOf cf) a b d' ∧ SWK enc k w0 blk off d' w' := by
  have S0 : Aside (SWK enc k w0 blk off d w) := S
  have HR : Aside (RowK enc k w0 blk off d0) := R
  have HS : Hid (d.size = d0.size) := hs
  have HC := Lib.hid hcm
  have HO := Lib.hid hO
  have HM := Lib.hid hm
  have H2 := Lib.hid h1
  have mixed := L.mixed; have t0 := L.t0; have a0 := L.a0; have z0 := L.z0; have v0 := L.v0; have t3 := L.t3; have a3 := L.a3; have z3 := L.z3; have v3 := L.v3; have t4 := L.t4; have a4 := L.a4; have z4 := L.z4; have v4 := L.v4; have t5 := L.t5; have a5 := L.a5; have z5 := L.z5; have v5 := L.v5; have t22 := L.t22; have a22 := L.a22; have z22 := L.z22; have v22 := L.v22; have t25 := L.t25; have a25 := L.a25; have z25 := L.z25; have v25 := L.v25; have ae := L.ae; have ze := L.ze
  have FG := L.fm
  clear L S R hs hcm hO
  have hmb : m < b := by omega
  have g0 : ((m : Int) - (a : Int) == 1) = false := by rw [beq_eq_false_iff_ne]; omega
  have g1 : ((b : Int) - (m : Int) == 1) = true := by rw [beq_iff_eq]; omega
  clear hm h1
  go_enter FG, Tryz.ntmps116
  go_wp2_with fail
  go_loopw [14, 15] (fun s t wr => ∃ (i j : Nat), s = .int .i64 i ∧ t = .int .i64 j ∧ a ≤ i ∧ i ≤ j ∧ j ≤ m ∧ Hid (i = a ∨ ltOf cf d[m]! d[i - 1]! = false) ∧ Hid (j = m ∨ ltOf cf d[m]! d[j]! = true) ∧ Aside (SWK enc k w0 blk off d wr)) (fun s t _ => (intOf t).toNat - (intOf s).toNat)
  case atStart => exact ⟨a, m, rfl, rfl, Nat.le_refl _, by omega, Nat.le_refl _, .inl rfl, .inl rfl, S0⟩
  case round =>
    clear S0
    obtain ⟨i, j, rfl, rfl, hmi, hij, hjb, Hi, Hj, S1⟩ := hrel
    by_cases hlt : i < j
    · obtain ⟨h, hh⟩ : ∃ h, h = (i + j) / 2 := ⟨_, rfl⟩
      have hh2 : ((i : Int) + (j : Int)) / 2 = ((h : Nat) : Int) := by omega
      have hih : i ≤ h := by omega
      have hhj : h < j := by omega
      clear hh
      cases hlv : ltOf cf d[m]! d[h]! with
      | false =>
        have eax : ((m : Nat) : Int).toNat = m := by omega
        have pax : (0 : Int) ≤ ((m : Nat) : Int) := by omega
        have bax : ((m : Nat) : Int) < (d.size : Int) := by omega
        have rax : IntKind.i64.wrap ((m : Nat) : Int) = ((m : Nat) : Int) := by rw [IntKind.wrap_i64]; omega
        have eay : ((h : Nat) : Int).toNat = h := by omega
        have pay : (0 : Int) ≤ ((h : Nat) : Int) := by omega
        have bay : ((h : Nat) : Int) < (d.size : Int) := by omega
        have ray : IntKind.i64.wrap ((h : Nat) : Int) = ((h : Nat) : Int) := by rw [IntKind.wrap_i64]; omega
        obtain ⟨xv, hxv⟩ : ∃ v, v = d[m]! := ⟨_, rfl⟩
        obtain ⟨yv, hyv⟩ : ∃ v, v = d[h]! := ⟨_, rfl⟩
        have lx := S1.out.ld HR.out HS.out P m (by omega)
        have ly := S1.out.ld HR.out HS.out P h (by omega)
        rw [← hxv] at lx
        rw [← hyv] at ly
        have hcc : ∀ n os, Calls P g (#[.agg (enc xv).toArray, .agg (enc yv).toArray] ++ cb) (grow (wr.drewN n) os) fun e w' => e = .returned (.int .i64 (cf xv yv)) ∧ ∃ q os', w' = grow ((grow (wr.drewN n) os).drewN q) os' := HC.out.grown xv yv wr
        have hvv : ¬ cf xv yv < 0 := by rw [hxv, hyv]; exact of_decide_eq_false hlv
        have hdd : decide (cf xv yv < 0) = false := decide_eq_false hvv
        have HLV := Lib.hid hlv
        clear hlv hxv hyv hvv
        go_wp2_with fail
        go_quiet_grown (first | (go_at_fn g; refine Calls.grown_of (hcc _ _)))
        have S2 : Aside (SWK enc k w0 blk off d (grow (wr.drewN nq) osq)) := S1.out.grown nq osq
        clear lx ly hcc S1 eax pax bax rax eay pay bay ray
        generalize grow (wr.drewN nq) osq = w2 at S2 ⊢
        clear nq osq
        go_wp2
        go_roundw
        case rel => exact ⟨h + 1, j, by go_num, rfl, by omega, by omega, hjb, .inr HLV.out, Hj, S2⟩
        case measure => simp [intOf]; omega
      | true =>
        have eax : ((m : Nat) : Int).toNat = m := by omega
        have pax : (0 : Int) ≤ ((m : Nat) : Int) := by omega
        have bax : ((m : Nat) : Int) < (d.size : Int) := by omega
        have rax : IntKind.i64.wrap ((m : Nat) : Int) = ((m : Nat) : Int) := by rw [IntKind.wrap_i64]; omega
        have eay : ((h : Nat) : Int).toNat = h := by omega
        have pay : (0 : Int) ≤ ((h : Nat) : Int) := by omega
        have bay : ((h : Nat) : Int) < (d.size : Int) := by omega
        have ray : IntKind.i64.wrap ((h : Nat) : Int) = ((h : Nat) : Int) := by rw [IntKind.wrap_i64]; omega
        obtain ⟨xv, hxv⟩ : ∃ v, v = d[m]! := ⟨_, rfl⟩
        obtain ⟨yv, hyv⟩ : ∃ v, v = d[h]! := ⟨_, rfl⟩
        have lx := S1.out.ld HR.out HS.out P m (by omega)
        have ly := S1.out.ld HR.out HS.out P h (by omega)
        rw [← hxv] at lx
        rw [← hyv] at ly
        have hcc : ∀ n os, Calls P g (#[.agg (enc xv).toArray, .agg (enc yv).toArray] ++ cb) (grow (wr.drewN n) os) fun e w' => e = .returned (.int .i64 (cf xv yv)) ∧ ∃ q os', w' = grow ((grow (wr.drewN n) os).drewN q) os' := HC.out.grown xv yv wr
        have hvv : cf xv yv < 0 := by rw [hxv, hyv]; exact of_decide_eq_true hlv
        have hdd : decide (cf xv yv < 0) = true := decide_eq_true hvv
        have HLV := Lib.hid hlv
        clear hlv hxv hyv hvv
        go_wp2_with fail
        go_quiet_grown (first | (go_at_fn g; refine Calls.grown_of (hcc _ _)))
        have S2 : Aside (SWK enc k w0 blk off d (grow (wr.drewN nq) osq)) := S1.out.grown nq osq
        clear lx ly hcc S1 eax pax bax rax eay pay bay ray
        generalize grow (wr.drewN nq) osq = w2 at S2 ⊢
        clear nq osq
        go_wp2
        go_roundw
        case rel => exact ⟨i, h, rfl, rfl, hmi, by omega, by omega, Hi, .inr HLV.out, S2⟩
        case measure => simp [intOf]; omega
    · obtain rfl : i = j := by omega
      clear hlt hij
      go_wp2_with fail
      obtain ⟨wo, rfl⟩ : ∃ wo : World, wo = wr := ⟨_, rfl⟩
      go_loopw [17] (fun s wr => ∃ (q : Nat) (dk : Array α), s = .int .i64 q ∧ i ≤ q ∧ q ≤ m ∧ Hid (DnI a q m d dk) ∧ Aside (SWK enc k w0 blk off dk wr)) (fun s _ => (intOf s).toNat)
      case atStart => exact ⟨m, d, rfl, hjb, Nat.le_refl _, DnI.start _ _ _, S1⟩
      case round =>
        clear S1
        obtain ⟨q, dk, rfl, haq, hqi, HU, S1⟩ := hrel
        by_cases hlt : i < q
        · have HZ : Hid (dk.size = d.size) := HU.out.size
          obtain ⟨q1, hq1⟩ : ∃ q1, q = q1 + 1 := ⟨q - 1, by omega⟩
          have hq2 : ((q : Int) - 1) = ((q1 : Nat) : Int) := by omega
          have HN : Hid (DnI a q1 m d (swp dk q q1)) := by subst hq1; exact HU.out.step (by omega) (by omega) (by omega)
          have hqq : q1 < q := by omega
          have hqi1 : i ≤ q1 := by omega
          clear hq1 HU
          have S2 : Aside (SWK enc k w0 blk off (swp dk q q1) ((wr.drew.setCells blk (off + q * k) (enc dk[q1]!)).setCells blk (off + q1 * k) (enc dk[q]!))) := S1.out.swapped HR.out q q1 (by rw [HZ.out]; omega) (by rw [HZ.out]; omega)
          have lx := S1.out.ld1 HR.out (HZ.out.trans HS.out) P q (by rw [HZ.out]; omega)
          have ly := S1.out.ld1 HR.out (HZ.out.trans HS.out) P q1 (by rw [HZ.out]; omega)
          have sx := S1.out.st1 HR.out (HZ.out.trans HS.out) P q (by rw [HZ.out]; omega) dk[q1]!
          have sy := S1.out.st2 HR.out (HZ.out.trans HS.out) P q q1 (by rw [HZ.out]; omega) (by rw [HZ.out]; omega) dk[q1]! dk[q]!
          have nx : (enc dk[q]!).length = k := HR.out.hk _
          have ny : (enc dk[q1]!).length = k := HR.out.hk _
          generalize enc dk[q]! = cI at S2 lx sy nx
          generalize enc dk[q1]! = cJ at S2 ly sx sy ny
          have eax : ((q : Nat) : Int).toNat = q := by omega
          have pax : (0 : Int) ≤ ((q : Nat) : Int) := by omega
          have bax : ((q : Nat) : Int) < (d.size : Int) := by omega
          have rax : IntKind.i64.wrap ((q : Nat) : Int) = ((q : Nat) : Int) := by rw [IntKind.wrap_i64]; omega
          have eay : ((q1 : Nat) : Int).toNat = q1 := by omega
          have pay : (0 : Int) ≤ ((q1 : Nat) : Int) := by omega
          have bay : ((q1 : Nat) : Int) < (d.size : Int) := by omega
          have ray : IntKind.i64.wrap ((q1 : Nat) : Int) = ((q1 : Nat) : Int) := by rw [IntKind.wrap_i64]; omega
          clear S1
          go_wp2_with fail
          go_big_region_o
          all_goals clear lx ly sx sy nx ny eax pax bax rax eay pay bay ray
          all_goals go_wp2
          all_goals go_roundw
          case rel => exact ⟨q1, _, by go_num, by omega, by omega, HN, S2⟩
          case measure => simp [intOf]; omega
        · obtain rfl : i = q := by omega
          go_wp2
          (try simp only [Exit.inBlock, Exit.then]); refine bodyPost_ret (results_none rfl _ _ _) rfl ?_
          have hm := HM.out
          subst hm
          exact ⟨rfl, dk, HU.out.perm, HU.out.sorted HO.out H2.out hmi hjb Hi.out Hj.out, S1.out⟩
end Go.Proofs.YtpmndblakmobdaaGreatDoor
