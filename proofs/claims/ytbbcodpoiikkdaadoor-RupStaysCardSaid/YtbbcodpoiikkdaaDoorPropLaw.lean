/-
  What follows from clauses and literals, in plain terms: the least set of literals; an assignment that is closed tells it.
-/
import Derived.Test.YtbbcodpoiikkdaaDoorProp2
namespace Go.Proofs.YtbbcodpoiikkdaaDoor
open Go Go.RowKit

/-- What follows: the literals; and a clause's literal, where the opposites of all others follow. -/
inductive Drv (cl : List (List Int)) (lits : List Int) : Int → Prop
  | lit {l : Int} (h : l ∈ lits) : Drv cl lits l
  | unit {c : List Int} {l : Int} (hc : c ∈ cl) (hl : l ∈ c) (h : ∀ m ∈ c, m ≠ l → Drv cl lits (-m)) : Drv cl lits l

/-- A conflict. -/
def Confl (cl : List (List Int)) (lits : List Int) : Prop := (∃ l, l ≠ 0 ∧ Drv cl lits l ∧ Drv cl lits (-l)) ∨ ∃ c ∈ cl, ∀ l ∈ c, Drv cl lits (-l)

/-- An assignment tells but what follows. -/
def Sound (cl : List (List Int)) (lits : List Int) (a : List Int) : Prop := ∀ l, l ≠ 0 → l.natAbs < a.length → val a l = 1 → Drv cl lits l

/-- An assignment tells just what follows, and there is no conflict. -/
structure Fol (n : Nat) (cl : List (List Int)) (lits : List Int) (a : List Int) : Prop where
  len : a.length = n + 1
  zero : a.getD 0 0 = 0
  vals : ∀ x ∈ a, x = 0 ∨ x = 1 ∨ x = -1
  tells : ∀ l, l ≠ 0 → l.natAbs ≤ n → (val a l = 1 ↔ Drv cl lits l)
  fine : ¬ Confl cl lits

theorem val_neg (a : List Int) (l : Int) (h : l ≠ 0) : val a (-l) = -val a l := by
  unfold val
  rw [Int.natAbs_neg]
  by_cases h0 : l < 0
  · rw [if_neg (by omega), if_pos h0]; omega
  · rw [if_pos (by omega), if_neg h0]

theorem val_assign_self {a : List Int} {x : Int} (h0 : x ≠ 0) (h : x.natAbs < a.length) : val (assign a x) x = 1 := by
  unfold val assign
  simp only [List.getD, List.getElem?_set]
  by_cases hx : x < 0
  · rw [if_pos hx, if_neg (show ¬ 0 < x by omega)]; simp [h]
  · rw [if_neg hx, if_pos (show 0 < x by omega)]; simp [h]
theorem val_assign_other {a : List Int} {x l : Int} (h1 : l ≠ x) (h2 : l ≠ -x) : val (assign a x) l = val a l := by
  have hne : x.natAbs ≠ l.natAbs := by omega
  unfold val assign
  simp only [List.getD, List.getElem?_set]
  rw [if_neg hne]
theorem val_assign_neg {a : List Int} {x : Int} (h0 : x ≠ 0) (h : x.natAbs < a.length) : val (assign a x) (-x) = -1 := by
  rw [val_neg _ _ h0, val_assign_self h0 h]
theorem assign_len (a : List Int) (x : Int) : (assign a x).length = a.length := by simp [assign]
theorem assign_zero {a : List Int} {x : Int} (h0 : x ≠ 0) : (assign a x).getD 0 0 = a.getD 0 0 := by
  have : x.natAbs ≠ 0 := by omega
  simp [assign, List.getD, this]

section
variable {cl : List (List Int)} {lits a : List Int}
theorem Sound.assign {x : Int} (h : Sound cl lits a) (h0 : x ≠ 0) (hd : Drv cl lits x) (hx : x.natAbs < a.length) : Sound cl lits (Go.Proofs.YtbbcodpoiikkdaaDoor.assign a x) := by
  intro l l0 ll lv
  rw [assign_len] at ll
  by_cases e1 : l = x
  · rw [e1]; exact hd
  by_cases e2 : l = -x
  · rw [e2, val_assign_neg h0 hx] at lv; omega
  rw [val_assign_other e1 e2] at lv
  exact h l l0 ll lv
theorem Sound.neg (h : Sound cl lits a) {l : Int} (h0 : l ≠ 0) (hl : l.natAbs < a.length) (hv : val a l = -1) : Drv cl lits (-l) :=
  h (-l) (by omega) (by rwa [Int.natAbs_neg]) (by rw [val_neg _ _ h0, hv]; rfl)
theorem Sound.unit (h : Sound cl lits a) {c : List Int} (hc : c ∈ cl) (hlit : ∀ l ∈ c, l ≠ 0 ∧ l.natAbs < a.length) {x : Int} (hx : x ∈ c) (hall : allBut a x c) : Drv cl lits x :=
  .unit hc hx (fun m hm hne => h.neg (hlit m hm).1 (hlit m hm).2 (hall m hm hne))
theorem Sound.clash (h : Sound cl lits a) {c : List Int} (hc : c ∈ cl) (hlit : ∀ l ∈ c, l ≠ 0 ∧ l.natAbs < a.length) (hall : ∀ l ∈ c, val a l = -1) : Confl cl lits :=
  .inr ⟨c, hc, fun l hl => h.neg (hlit l hl).1 (hlit l hl).2 (hall l hl)⟩
theorem Sound.against (h : Sound cl lits a) {l : Int} (hl : l ∈ lits) (h0 : l ≠ 0) (hlen : l.natAbs < a.length) (hv : val a l = -1) : Confl cl lits :=
  .inl ⟨l, h0, .lit hl, h.neg h0 hlen hv⟩

theorem Settled.assign {c : List Int} (h : Settled a c) {x : Int} (h0 : x ≠ 0) (hx : x.natAbs < a.length) : Settled (Go.Proofs.YtbbcodpoiikkdaaDoor.assign a x) c ∨ -x ∈ c := by
  by_cases hn : -x ∈ c
  · exact .inr hn
  left
  by_cases hp : x ∈ c
  · exact .inl ⟨x, hp, val_assign_self h0 hx⟩
  have keep : ∀ l ∈ c, val (Go.Proofs.YtbbcodpoiikkdaaDoor.assign a x) l = val a l := fun l hl => val_assign_other (fun e => hp (e ▸ hl)) (fun e => hn (e ▸ hl))
  rcases h with ⟨l, hl, h1⟩ | ⟨l, hl, m, hm, hne, h1, h2⟩
  · exact .inl ⟨l, hl, by rw [keep l hl, h1]⟩
  · exact .inr ⟨l, hl, m, hm, hne, by rw [keep l hl, h1], by rw [keep m hm, h2]⟩

theorem fol_of {n : Nat} (hs : Sound cl lits a) (hlen : a.length = n + 1) (hz : a.getD 0 0 = 0) (hvals : ∀ x ∈ a, x = 0 ∨ x = 1 ∨ x = -1)
    (hl : ∀ l ∈ lits, l ≠ 0 ∧ l.natAbs < a.length ∧ val a l = 1) (hc : ∀ c ∈ cl, (∀ l ∈ c, l ≠ 0 ∧ l.natAbs < a.length) ∧ Settled a c) : Fol n cl lits a := by
  have all : ∀ l, Drv cl lits l → l ≠ 0 ∧ l.natAbs < a.length ∧ val a l = 1 := by
    intro l h
    induction h with
    | lit h => exact hl _ h
    | @unit c l hcc hlc _ ih =>
      obtain ⟨hv, hset⟩ := hc c hcc
      refine ⟨(hv l hlc).1, (hv l hlc).2, ?_⟩
      have others : ∀ m ∈ c, m ≠ l → val a m = -1 := fun m hm hne => by
        have h1 := (ih m hm hne).2.2
        rw [val_neg _ _ (hv m hm).1] at h1
        omega
      rcases hset with ⟨m, hm, h1⟩ | ⟨m, hm, k, hk, hne, h1, h2⟩
      · by_cases e : m = l
        · rw [← e]; exact h1
        · have := others m hm e; omega
      · by_cases e : m = l
        · have := others k hk (fun e2 => hne (e.trans e2.symm)); omega
        · have := others m hm e; omega
  refine ⟨hlen, hz, hvals, fun l h0 hn => ⟨fun hv => hs l h0 (by omega) hv, fun hd => (all l hd).2.2⟩, ?_⟩
  rintro (⟨l, h0, h1, h2⟩ | ⟨c, hcc, h⟩)
  · have e1 := (all l h1).2.2
    have e2 := (all _ h2).2.2
    rw [val_neg _ _ h0] at e2
    omega
  · obtain ⟨hv, hset⟩ := hc c hcc
    have others : ∀ m ∈ c, val a m = -1 := fun m hm => by
      have h1 := (all _ (h m hm)).2.2
      rw [val_neg _ _ (hv m hm).1] at h1
      omega
    rcases hset with ⟨m, hm, h1⟩ | ⟨m, hm, _, _, _, h1, _⟩
    · have := others m hm; omega
    · have := others m hm; omega

theorem Fol.unique {n : Nat} {b : List Int} (h : Fol n cl lits a) (g : Fol n cl lits b) : a = b := by
  apply List.ext_getElem (by rw [h.len, g.len])
  intro i h1 h2
  have key : ∀ {c : List Int}, Fol n cl lits c → ∀ (hi : i < c.length), c[i] = if i = 0 then 0 else (open Classical in if Drv cl lits i then 1 else if Drv cl lits (-(i : Int)) then -1 else 0) := by
    intro c hc hi
    have hgd : c.getD i 0 = c[i] := by simp [List.getD, hi]
    by_cases h0 : i = 0
    · subst h0
      rw [if_pos rfl, ← hgd]; exact hc.zero
    rw [if_neg h0]
    have hlen := hc.len
    have hvi : val c (i : Int) = c[i] := by
      unfold val
      rw [if_neg (by omega), Int.natAbs_natCast, hgd]
    have t1 := hc.tells (i : Int) (by omega) (by simp; omega)
    have t2 := hc.tells (-(i : Int)) (by omega) (by simp; omega)
    rw [val_neg _ _ (by omega)] at t2
    rw [hvi] at t1 t2
    have hv := hc.vals c[i] (List.getElem_mem hi)
    by_cases d1 : Drv cl lits (i : Int)
    · rw [if_pos d1]; exact t1.2 d1
    rw [if_neg d1]
    by_cases d2 : Drv cl lits (-(i : Int))
    · rw [if_pos d2]; have := t2.2 d2; omega
    rw [if_neg d2]
    rcases hv with h | h | h
    · exact h
    · exact absurd (t1.1 h) d1
    · exact absurd (t2.1 (by omega)) d2
  rw [key h h1, key g h2]
end

/-- The rows by literal: how many there are, how long they may be, that they name clauses. -/
def WOk (N L m : Nat) (W : List (List Int)) : Prop := W.length = 2 * N + 1 ∧ ∀ r ∈ W, r.length ≤ m ∧ ∀ x ∈ r, 0 ≤ x ∧ x < (L : Int)
/-- The row of the literal l names the clause i. -/
def WHas (N : Nat) (W : List (List Int)) (i : Nat) (l : Int) : Prop := (i : Int) ∈ W.getD ((N : Int) + l).toNat []

theorem WOk.mono {N L m m' : Nat} {W : List (List Int)} (h : WOk N L m W) (hm : m ≤ m') : WOk N L m' W := ⟨h.1, fun r hr => ⟨Nat.le_trans (h.2 r hr).1 hm, (h.2 r hr).2⟩⟩
theorem WOk.push {N L m j : Nat} {W : List (List Int)} (h : WOk N L m W) (hj : j < W.length) {i : Nat} (hi : i < L) : WOk N L (m + 1) (W.set j (W[j] ++ [(i : Int)])) := by
  refine ⟨by simpa using h.1, fun r hr => ?_⟩
  rcases List.mem_or_eq_of_mem_set hr with hr | hr
  · exact ⟨Nat.le_succ_of_le (h.2 r hr).1, (h.2 r hr).2⟩
  · subst hr
    have := h.2 _ (List.getElem_mem hj)
    refine ⟨by simp; exact this.1, fun x hx => ?_⟩
    rcases List.mem_append.1 hx with hx | hx
    · exact this.2 x hx
    · simp at hx; subst hx; omega
theorem WHas.keep {N i j : Nat} {W : List (List Int)} {l x : Int} (h : WHas N W i l) (hj : j < W.length) : WHas N (W.set j (W[j] ++ [x])) i l := by
  unfold WHas at *
  by_cases e : j = ((N : Int) + l).toNat
  · subst e
    simp only [List.getD, List.getElem?_set_self hj, Option.getD_some]
    simp only [List.getD, List.getElem?_eq_getElem hj, Option.getD_some] at h
    exact List.mem_append.2 (.inl h)
  · simp only [List.getD, List.getElem?_set_ne e]
    exact h
theorem WHas.new {N i : Nat} {W : List (List Int)} {l : Int} (hj : ((N : Int) + l).toNat < W.length) : WHas N (W.set ((N : Int) + l).toNat (W[((N : Int) + l).toNat] ++ [(i : Int)])) i l := by
  unfold WHas
  simp only [List.getD, List.getElem?_set_self hj, Option.getD_some]
  simp

/-- The invariant of what was assigned, and of the queue. -/
structure FI (cl : List (List Int)) (lits : List Int) (N : Nat) (a q : List Int) : Prop where
  sound : Sound cl lits a
  len : a.length = N + 1
  zero : a.getD 0 0 = 0
  left : q.length + a.count 0 ≤ N + 1
  fits : ∀ l ∈ q, l ≠ 0 ∧ l.natAbs ≤ N

theorem count_set_zero : ∀ (a : List Int) (i : Nat) (y : Int), i < a.length → a.getD i 0 = 0 → y ≠ 0 → (a.set i y).count 0 + 1 = a.count 0
  | [], i, y, h, _, _ => by simp at h
  | x :: a, 0, y, _, h0, hy => by
    simp only [List.getD_cons_zero] at h0
    subst h0
    simp [hy]
  | x :: a, i + 1, y, h, h0, hy => by
    have := count_set_zero a i y (by simpa using h) (by simpa using h0) hy
    simp only [List.set_cons_succ, List.count_cons]
    omega
theorem val_zero {a : List Int} {x : Int} (h : val a x = 0) : a.getD x.natAbs 0 = 0 := by
  unfold val at h
  split at h <;> omega
theorem FI.push {cl : List (List Int)} {lits : List Int} {N : Nat} {a q : List Int} (h : FI cl lits N a q) {x : Int} (hx : x ≠ 0) (hN : x.natAbs ≤ N) (hv : val a x = 0) (hd : Drv cl lits x) : FI cl lits N (assign a x) (q ++ [x]) := by
  have hl := h.len
  have hlt : x.natAbs < a.length := by omega
  refine ⟨h.sound.assign hx hd hlt, by rw [assign_len]; exact hl, by rw [assign_zero hx]; exact h.zero, ?_, fun l hl' => ?_⟩
  · have := count_set_zero a x.natAbs (if 0 < x then 1 else -1) hlt (val_zero hv) (by split <;> omega)
    have hle := h.left
    unfold assign
    simp only [List.length_append, List.length_cons, List.length_nil]
    omega
  · rcases List.mem_append.1 hl' with h1 | h1
    · exact h.fits l h1
    · simp at h1; subst h1; exact ⟨hx, hN⟩
theorem FI.start (cl : List (List Int)) (lits : List Int) (N : Nat) : FI cl lits N (List.replicate (N + 1) 0) [] where
  sound := fun l _ _ hv => by
    exfalso
    unfold val at hv
    have : ∀ i, (List.replicate (N + 1) (0 : Int)).getD i 0 = 0 := fun i => by
      simp only [List.getD, List.getElem?_replicate]; split <;> rfl
    rw [this] at hv
    split at hv <;> omega
  len := by simp
  zero := by simp [List.replicate_succ]
  left := by simp
  fits := fun l h => by simp at h
theorem true_keep {a : List Int} {x l : Int} (h0 : x ≠ 0) (hv : val a x = 0) (h : val a l = 1) : val (assign a x) l = 1 := by
  have h1 : l ≠ x := fun e => by rw [e] at h; omega
  have h2 : l ≠ -x := fun e => by rw [e, val_neg _ _ h0] at h; omega
  rw [val_assign_other h1 h2, h]
/-- A clause is settled, or an opposite of its literals waits in the queue. -/
def Waits (a q c : List Int) : Prop := Settled a c ∨ ∃ l ∈ c, -l ∈ q
theorem Waits.push {a q c : List Int} (h : Waits a q c) {x : Int} (h0 : x ≠ 0) (hx : x.natAbs < a.length) : Waits (assign a x) (q ++ [x]) c := by
  rcases h with h | ⟨l, hl, hq⟩
  · rcases h.assign h0 hx with h | h
    · exact .inl h
    · exact .inr ⟨-x, h, by simp⟩
  · exact .inr ⟨l, hl, List.mem_append.2 (.inl hq)⟩
theorem settled_unit {a c : List Int} {x : Int} (h0 : x ≠ 0) (hx : x.natAbs < a.length) (hc : x ∈ c) : Settled (assign a x) c := .inl ⟨x, hc, val_assign_self h0 hx⟩

theorem push_sum {a q : List Int} {x : Int} (hx : x.natAbs < a.length) (hv : val a x = 0) : (q ++ [x]).length + (assign a x).count 0 = q.length + a.count 0 := by
  have := count_set_zero a x.natAbs (if 0 < x then 1 else -1) hx (val_zero hv) (by split <;> omega)
  unfold assign
  simp only [List.length_append, List.length_cons, List.length_nil]
  omega
theorem FI.pop {cl : List (List Int)} {lits : List Int} {N : Nat} {a q : List Int} {l : Int} (h : FI cl lits N a (l :: q)) : FI cl lits N a q :=
  ⟨h.sound, h.len, h.zero, by have := h.left; simp at this; omega, fun x hx => h.fits x (by simp [hx])⟩

/-- The queue, its first one taken. -/
theorem St.pop {M : Nat → Prop} {w : World} {p ba : Nat} {a q : List Int} {l : Int} (h : St M w p ba a (l :: q)) :
    ∃ g o cap, w.cell? ⟨p, 1, none⟩ = some (.slice (some ⟨g, o, none⟩) (q.length + 1) cap) ∧ w.frozen? ⟨p, 1, none⟩ = false ∧ w.cell? ⟨g, o, none⟩ = some (.int .i64 l) ∧ q.length + 1 ≤ cap ∧ cap ≤ maxLen ∧
      ∀ A, (A = if cap = 1 then some ⟨g, o, none⟩ else some ⟨g, o + 1, none⟩) → St M (w.setCell ⟨p, 1, none⟩ (.slice A q.length (cap - 1))) p ba a q ∧ Chg M w (w.setCell ⟨p, 1, none⟩ (.slice A q.length (cap - 1))) := by
  obtain ⟨Q, hp, hown⟩ := h.ex
  have hne := h.ne
  rcases hown.2 with ⟨_, h0⟩ | ⟨g, o, cap, cur, rfl, hM, hg, hnc, hcm, hcs, hx⟩
  · simp at h0
  have hnc' : q.length + 1 ≤ cap := by simpa using hnc
  have hw : World.heap w = w.heap := rfl
  refine ⟨g, o, cap, by simp [World.cell?, hp], by simp [World.frozen?, hp], by have := hx 0 (.int .i64 l) (by simp); simp [World.cell?, hg]; simpa using this, hnc', hcm, ?_⟩
  intro A hA
  have hgp : g ≠ p := hM.2.1
  have hc : Chg M w (w.setCell ⟨p, 1, none⟩ (.slice A q.length (cap - 1))) := (Chg.refl _ _).setCell _ _ (fun _ => h.mp)
  have hg1 : (w.setCell ⟨p, 1, none⟩ (.slice A q.length (cap - 1))).heap[g]? = some (.cells cur 3 (0, 0)) := by rw [Below.heap_setCell _ _ _ _ (by simpa using hgp)]; exact hg
  refine ⟨⟨⟨.slice A q.length (cap - 1), by simp [World.setCell, Array.getElem?_modify, hp], ?_⟩, ?_, h.mp, h.mb, hne, h.vals, h.len⟩, hc⟩
  · refine ⟨by simp, .inr ?_⟩
    by_cases h1 : cap = 1
    · rw [if_pos h1] at hA
      subst hA
      refine ⟨g, o, cap - 1, cur, rfl, hM, hg1, by omega, by unfold maxLen at *; omega, by omega, fun j u hj => ?_⟩
      have : q = [] := List.eq_nil_of_length_eq_zero (by omega)
      subst this
      simp at hj
    · rw [if_neg h1] at hA
      subst hA
      refine ⟨g, o + 1, cap - 1, cur, rfl, hM, hg1, by omega, by unfold maxLen at *; omega, by omega, fun j u hj => ?_⟩
      rw [show o + 1 + j = o + (j + 1) by omega]
      exact hx (j + 1) u (by simpa using hj)
  · rw [Below.heap_setCell _ _ _ _ (by simpa using hne.symm)]; exact h.arr

theorem litB_iff {n : Nat} {l : Int} : litB n l = true ↔ l ≠ 0 ∧ l.natAbs ≤ n := by
  simp only [litB, Bool.and_eq_true, decide_eq_true_eq, bne_iff_ne]
  omega

theorem many_le : ∀ (cl : List (List Int)) (m : Int), manyB cl m = false → ∀ c ∈ cl, 0 ≤ m → (c.length : Int) ≤ 131072
  | [], _, _, c, hc, _ => by cases hc
  | d :: cl, m, h, c, hc, h0 => by
    simp only [manyB] at h
    split at h
    · cases h
    · rename_i hd
      rcases List.mem_cons.1 hc with rfl | hc
      · omega
      · exact many_le cl _ h c hc (by omega)

theorem chk_zero {n : Int} {cl : List (List Int)} (h : chk n cl = 0) : ∃ N : Nat, n = N ∧ N ≤ 8192 ∧ cl.length ≤ 16384 ∧ ∀ c ∈ cl, c.length ≤ 131072 ∧ ∀ l ∈ c, l ≠ 0 ∧ l.natAbs ≤ N := by
  unfold chk at h
  by_cases h1 : n < 0 ∨ 8192 < n
  · rw [if_pos h1] at h; cases h
  rw [if_neg h1] at h
  by_cases h2 : 16384 < cl.length
  · rw [if_pos h2] at h; cases h
  rw [if_neg h2] at h
  by_cases h3 : manyB cl 0 = true
  · rw [if_pos h3] at h; cases h
  rw [if_neg h3] at h
  by_cases h4 : (cl.any fun c => c.any fun l => !litB n l) = true
  · rw [if_pos h4] at h; cases h
  obtain ⟨N, rfl⟩ := Int.eq_ofNat_of_zero_le (show 0 ≤ n by omega)
  refine ⟨N, rfl, by omega, by omega, fun c hc => ⟨?_, fun l hl => ?_⟩⟩
  · have := many_le cl 0 (by simpa using h3) c hc (by omega)
    omega
  · apply litB_iff.1
    have h5 : (cl.any fun c => c.any fun l => !litB N l) = false := by simpa using h4
    rw [List.any_eq_false] at h5
    have h6 := h5 c hc
    have h7 : (c.any fun l => !litB N l) = false := by simpa using h6
    rw [List.any_eq_false] at h7
    simpa using h7 l hl

end Go.Proofs.YtbbcodpoiikkdaaDoor
