/-
  Chapter 17, plain law: shares joined in order are the shares joined one by one.
-/
import Derived.Test.YtgofncopoieigaaGreatDoorHpH
namespace Go.Proofs.YtgofncopoieigaaGreatDoor
open Go Go.RowKit

abbrev Strict (l : List Tri) : Prop := l.Pairwise fun a b => ltT a b = true
theorem eqT_iff {x y : Tri} : eqT x y = true ↔ x.1 = y.1 ∧ x.2.1 = y.2.1 := by
  unfold eqT
  rw [eqK_iff]
  exact ⟨fun h => ⟨h.1, toList_inj h.2⟩, fun h => ⟨h.1, by rw [h.2]⟩⟩
theorem eqT_symm {x y : Tri} (h : eqT x y = true) : eqT y x = true := by
  rw [eqT_iff] at *
  exact ⟨h.1.symm, h.2.symm⟩
theorem eqT_trans {x y z : Tri} (h : eqT x y = true) (g : eqT y z = true) : eqT x z = true := by
  rw [eqT_iff] at *
  exact ⟨h.1.trans g.1, h.2.trans g.2⟩
theorem eqT_lt {x y z : Tri} (h : eqT x y = true) : ltT x z = ltT y z := eqK_lt h
theorem eqT_lt' {x y z : Tri} (h : eqT x y = true) : ltT z x = ltT z y := eqK_lt' h
theorem ltT_asymm {x y : Tri} (h : ltT x y = true) : ltT y x = false := ltK_asymm h
theorem ltT_ne {x y : Tri} (h : ltT x y = true) : eqT x y = false := ltK_ne h
theorem eqT_comm (x y : Tri) : eqT x y = eqT y x := by
  rw [Bool.eq_iff_iff]
  exact ⟨eqT_symm, eqT_symm⟩

/-- One share more, in its place. -/
def addR : List Tri → Tri → List Tri
  | [], s => [s]
  | x :: t, s => if eqT x s = true then (s.1, s.2.1, addN x.2.2 s.2.2) :: t else if ltT s x = true then s :: x :: t else x :: addR t s

theorem fold_done {s : Tri} : ∀ (t acc : List Tri), (∀ x ∈ t, eqT x s = false) → t.foldl (stepA s) (acc, true) = (acc ++ t, true)
  | [], acc, _ => by simp
  | x :: t, acc, h => by
    rw [List.foldl_cons]
    have e : stepA s (acc, true) x = (acc ++ [x], true) := by unfold stepA; rw [if_neg (by rw [h x (by simp)]; simp), if_neg (by simp)]
    rw [e, fold_done t _ (fun y hy => h y (by simp [hy]))]
    simp
theorem fold_addR {s : Tri} : ∀ (o acc : List Tri), Strict o → (if (o.foldl (stepA s) (acc, false)).2 = true then (o.foldl (stepA s) (acc, false)).1 else (o.foldl (stepA s) (acc, false)).1 ++ [s]) = acc ++ addR o s
  | [], acc, _ => by simp [addR]
  | x :: t, acc, h => by
    obtain ⟨h1, h2⟩ := List.pairwise_cons.1 h
    rw [List.foldl_cons]
    unfold addR
    by_cases he : eqT x s = true
    · have e : stepA s (acc, false) x = (acc ++ [(s.1, s.2.1, addN x.2.2 s.2.2)], true) := by unfold stepA; rw [if_pos he]
      rw [e, if_pos he, fold_done t _ (fun y hy => by
        have := ltT_ne (h1 y hy)
        cases hys : eqT y s
        · rfl
        · rw [eqT_trans he (eqT_symm hys)] at this; cases this)]
      simp
    · rw [if_neg he]
      by_cases hl : ltT s x = true
      · have e : stepA s (acc, false) x = (acc ++ [s] ++ [x], true) := by unfold stepA; rw [if_neg he, if_pos ⟨rfl, hl⟩]
        rw [e, if_pos hl, fold_done t _ (fun y hy => by
          have h3 := ltT_ne (ltT_trans hl (h1 y hy))
          rwa [eqT_comm] at h3)]
        simp
      · have e : stepA s (acc, false) x = (acc ++ [x], false) := by unfold stepA; rw [if_neg he, if_neg (fun h => hl h.2)]
        rw [e, if_neg hl, fold_addR t _ h2]
        simp
theorem addS_eq {o : List Tri} (h : Strict o) (s : Tri) : addS o s = addR o s := by
  have := fold_addR (s := s) o [] h
  unfold addS foldA
  rw [this]
  simp

theorem addR_mem {s m : Tri} : ∀ {o : List Tri}, Strict o → m ∈ addR o s → (m ∈ o ∧ eqT m s = false) ∨ (∃ x ∈ o, eqT x s = true ∧ m = (s.1, s.2.1, addN x.2.2 s.2.2)) ∨ (m = s ∧ ∀ x ∈ o, eqT x s = false)
  | [], _, h => .inr (.inr ⟨by simpa [addR] using h, by simp⟩)
  | x :: t, hs, h => by
    obtain ⟨h1, h2⟩ := List.pairwise_cons.1 hs
    unfold addR at h
    by_cases he : eqT x s = true
    · rw [if_pos he] at h
      rcases List.mem_cons.1 h with h | h
      · exact .inr (.inl ⟨x, by simp, he, h⟩)
      · refine .inl ⟨by simp [h], ?_⟩
        have := ltT_ne (h1 m h)
        cases hms : eqT m s
        · rfl
        · rw [eqT_trans he (eqT_symm hms)] at this; cases this
    · rw [if_neg he] at h
      by_cases hl : ltT s x = true
      · rw [if_pos hl] at h
        have h3 : ∀ y ∈ x :: t, eqT y s = false := fun y hy => by
          rcases List.mem_cons.1 hy with rfl | hy
          · rw [eqT_comm]; exact ltT_ne hl
          · rw [eqT_comm]; exact ltT_ne (ltT_trans hl (h1 y hy))
        rcases List.mem_cons.1 h with rfl | h
        · exact .inr (.inr ⟨rfl, h3⟩)
        · exact .inl ⟨h, h3 m h⟩
      · rw [if_neg hl] at h
        rcases List.mem_cons.1 h with rfl | h
        · exact .inl ⟨by simp, by simpa using he⟩
        · rcases addR_mem h2 h with ⟨g1, g2⟩ | ⟨y, g1, g2, g3⟩ | ⟨g1, g2⟩
          · exact .inl ⟨by simp [g1], g2⟩
          · exact .inr (.inl ⟨y, by simp [g1], g2, g3⟩)
          · refine .inr (.inr ⟨g1, fun y hy => ?_⟩)
            rcases List.mem_cons.1 hy with rfl | hy
            · simpa using he
            · exact g2 y hy
theorem addR_strict {s : Tri} : ∀ {o : List Tri}, Strict o → Strict (addR o s)
  | [], _ => by simp [addR]
  | x :: t, hs => by
    obtain ⟨h1, h2⟩ := List.pairwise_cons.1 hs
    unfold addR
    by_cases he : eqT x s = true
    · rw [if_pos he]
      refine List.pairwise_cons.2 ⟨fun y hy => ?_, h2⟩
      rw [← eqT_lt (show eqT x (s.1, s.2.1, addN x.2.2 s.2.2) = true from eqT_iff.2 (eqT_iff.1 he))]
      exact h1 y hy
    · rw [if_neg he]
      by_cases hl : ltT s x = true
      · rw [if_pos hl]
        refine List.pairwise_cons.2 ⟨fun y hy => ?_, hs⟩
        rcases List.mem_cons.1 hy with rfl | hy
        · exact hl
        · exact ltT_trans hl (h1 y hy)
      · rw [if_neg hl]
        have hxs : ltT x s = true := by
          cases h : ltT x s
          · exact absurd (ltT_tri h (by simpa using hl)) he
          · rfl
        refine List.pairwise_cons.2 ⟨fun y hy => ?_, addR_strict h2⟩
        rcases addR_mem h2 hy with ⟨g1, _⟩ | ⟨z, g1, g2, rfl⟩ | ⟨rfl, _⟩
        · exact h1 y g1
        · rw [eqT_lt' (show eqT (s.1, s.2.1, addN z.2.2 s.2.2) s = true from eqT_iff.2 ⟨rfl, rfl⟩)]
          exact hxs
        · exact hxs

def hasK (l : List Tri) (k : Tri) : Prop := ∃ m ∈ l, eqT m k = true
theorem addR_has {s : Tri} : ∀ {o : List Tri}, Strict o → hasK (addR o s) s ∧ ∀ x ∈ o, hasK (addR o s) x
  | [], _ => ⟨⟨s, by simp [addR], eqT_iff.2 ⟨rfl, rfl⟩⟩, by simp⟩
  | x :: t, hs => by
    obtain ⟨h1, h2⟩ := List.pairwise_cons.1 hs
    unfold addR
    by_cases he : eqT x s = true
    · rw [if_pos he]
      refine ⟨⟨_, List.mem_cons_self, eqT_iff.2 ⟨rfl, rfl⟩⟩, fun y hy => ?_⟩
      rcases List.mem_cons.1 hy with rfl | hy
      · exact ⟨_, List.mem_cons_self, eqT_symm (eqT_iff.2 (eqT_iff.1 he))⟩
      · exact ⟨y, by simp [hy], eqT_iff.2 ⟨rfl, rfl⟩⟩
    · rw [if_neg he]
      by_cases hl : ltT s x = true
      · rw [if_pos hl]
        exact ⟨⟨_, List.mem_cons_self, eqT_iff.2 ⟨rfl, rfl⟩⟩, fun y hy => ⟨y, List.mem_cons_of_mem _ hy, eqT_iff.2 ⟨rfl, rfl⟩⟩⟩
      · rw [if_neg hl]
        obtain ⟨⟨m, g1, g2⟩, g3⟩ := addR_has (s := s) h2
        refine ⟨⟨m, List.mem_cons_of_mem _ g1, g2⟩, fun y hy => ?_⟩
        rcases List.mem_cons.1 hy with rfl | hy
        · exact ⟨_, List.mem_cons_self, eqT_iff.2 ⟨rfl, rfl⟩⟩
        · obtain ⟨m, g4, g5⟩ := g3 y hy
          exact ⟨m, List.mem_cons_of_mem _ g4, g5⟩

def sumZ (k : Tri) : List Tri → Int
  | [] => 0
  | x :: t => (if eqT x k = true then x.2.2 else 0) + sumZ k t
theorem sumZ_append (k : Tri) : ∀ (l r : List Tri), sumZ k (l ++ r) = sumZ k l + sumZ k r
  | [], r => by simp [sumZ]
  | x :: t, r => by rw [List.cons_append, sumZ, sumZ, sumZ_append k t r, Int.add_assoc]
theorem sumZ_perm (k : Tri) {l r : List Tri} (h : l.Perm r) : sumZ k l = sumZ k r := by
  induction h with
  | nil => rfl
  | cons x _ ih => simp [sumZ, ih]
  | swap x y t => simp only [sumZ]; omega
  | trans _ _ h1 h2 => exact h1.trans h2
theorem sumZ_key {k k' : Tri} (h : eqT k k' = true) : ∀ l : List Tri, sumZ k l = sumZ k' l
  | [] => rfl
  | x :: t => by
    have e : eqT x k = eqT x k' := by
      rw [Bool.eq_iff_iff]
      exact ⟨fun g => eqT_trans g h, fun g => eqT_trans g (eqT_symm h)⟩
    rw [sumZ, sumZ, sumZ_key h t, e]
theorem sumZ_none {k : Tri} : ∀ {l : List Tri}, (∀ x ∈ l, eqT x k = false) → sumZ k l = 0
  | [], _ => rfl
  | x :: t, h => by
    rw [sumZ, if_neg (by rw [h x (by simp)]; simp), sumZ_none (fun y hy => h y (by simp [hy]))]
    rfl

structure IsJoin (l r : List Tri) : Prop where
  strict : Strict r
  val : ∀ m ∈ r, hasK l m ∧ m.2.2 = wrap64 (sumZ m l)
  has : ∀ k ∈ l, hasK r k
theorem IsJoin.nil : IsJoin [] [] := ⟨List.Pairwise.nil, by simp, by simp⟩
theorem wrap64_I64 {x : Int} (h : I64 x) : wrap64 x = x := by unfold I64 at h; unfold wrap64; omega
theorem IsJoin.add {l r : List Tri} (h : IsJoin l r) {s : Tri} (hs : TriOk s) : IsJoin (l ++ [s]) (addR r s) := by
  refine ⟨addR_strict h.strict, fun m hm => ?_, fun k hk => ?_⟩
  · rcases addR_mem h.strict hm with ⟨g1, g2⟩ | ⟨x, g1, g2, rfl⟩ | ⟨rfl, g2⟩
    · obtain ⟨⟨y, hy, hy2⟩, hv⟩ := h.val m g1
      refine ⟨⟨y, by simp [hy], hy2⟩, ?_⟩
      rw [hv, sumZ_append, show sumZ m [s] = 0 by simp [sumZ, eqT_comm s m, g2]]
      simp
    · obtain ⟨_, hv⟩ := h.val x g1
      refine ⟨⟨s, by simp, eqT_iff.2 ⟨rfl, rfl⟩⟩, ?_⟩
      have e1 : eqT (s.1, s.2.1, addN x.2.2 s.2.2) s = true := eqT_iff.2 ⟨rfl, rfl⟩
      rw [sumZ_key e1, sumZ_append, ← sumZ_key g2 l, show sumZ s [s] = s.2.2 by simp [sumZ, show eqT s s = true from eqT_iff.2 ⟨rfl, rfl⟩]]
      show addN x.2.2 s.2.2 = _
      rw [hv]
      unfold addN wrap64
      omega
    · refine ⟨⟨m, by simp, eqT_iff.2 ⟨rfl, rfl⟩⟩, ?_⟩
      have e0 : sumZ m l = 0 := sumZ_none (fun x hx => by
        obtain ⟨y, hy, hy2⟩ := h.has x hx
        cases hxm : eqT x m
        · rfl
        · have := g2 y hy
          rw [eqT_trans hy2 hxm] at this; cases this)
      rw [sumZ_append, e0, show sumZ m [m] = m.2.2 by simp [sumZ, show eqT m m = true from eqT_iff.2 ⟨rfl, rfl⟩]]
      rw [Int.zero_add, wrap64_I64 hs.2.2]
  · obtain ⟨g1, g2⟩ := addR_has (s := s) h.strict
    rcases List.mem_append.1 hk with hk | hk
    · obtain ⟨m, hm, hm2⟩ := h.has k hk
      obtain ⟨m', hm', hm2'⟩ := g2 m hm
      exact ⟨m', hm', eqT_trans hm2' hm2⟩
    · rw [List.mem_singleton.1 hk]
      exact g1
theorem strict_ext : ∀ {r r' : List Tri}, Strict r → Strict r' → (∀ m, m ∈ r ↔ m ∈ r') → r = r'
  | [], [], _, _, _ => rfl
  | [], b :: t, _, _, h => by have := (h b).2 (by simp); simp at this
  | a :: t, [], _, _, h => by have := (h a).1 (by simp); simp at this
  | a :: t, b :: t', h1, h2, h => by
    obtain ⟨g1, g2⟩ := List.pairwise_cons.1 h1
    obtain ⟨k1, k2⟩ := List.pairwise_cons.1 h2
    have hab : a = b := by
      rcases List.mem_cons.1 ((h a).1 (by simp)) with e | e
      · exact e
      · rcases List.mem_cons.1 ((h b).2 (by simp)) with e' | e'
        · exact e'.symm
        · have := ltT_asymm (k1 a e)
          rw [g1 b e'] at this; cases this
    subst hab
    refine congrArg (a :: ·) (strict_ext g2 k2 (fun m => ⟨fun hm => ?_, fun hm => ?_⟩))
    · rcases List.mem_cons.1 ((h m).1 (by simp [hm])) with rfl | e
      · have := g1 m hm; rw [ltT_irrefl] at this; cases this
      · exact e
    · rcases List.mem_cons.1 ((h m).2 (by simp [hm])) with rfl | e
      · have := k1 m hm; rw [ltT_irrefl] at this; cases this
      · exact e
theorem IsJoin.sub {l r r' : List Tri} (h : IsJoin l r) (h' : IsJoin l r') {m : Tri} (hm : m ∈ r) : m ∈ r' := by
  obtain ⟨⟨x, hx, hx2⟩, hv⟩ := h.val m hm
  obtain ⟨y, hy, hy2⟩ := h'.has x hx
  obtain ⟨_, hv'⟩ := h'.val y hy
  have e := eqT_trans hy2 hx2
  have : m = y := by
    obtain ⟨e1, e2⟩ := eqT_iff.1 e
    have hc : m.2.2 = y.2.2 := by rw [hv, hv', sumZ_key e l]
    exact Prod.ext e1.symm (Prod.ext e2.symm hc)
  rw [this]
  exact hy
theorem IsJoin.unique {l r r' : List Tri} (h : IsJoin l r) (h' : IsJoin l r') : r = r' :=
  strict_ext h.strict h'.strict (fun _ => ⟨h.sub h', h'.sub h⟩)
theorem IsJoin.perm {l l' r : List Tri} (h : IsJoin l r) (p : l.Perm l') : IsJoin l' r :=
  ⟨h.strict, fun m hm => by
    obtain ⟨⟨x, hx, hx2⟩, hv⟩ := h.val m hm
    exact ⟨⟨x, p.mem_iff.1 hx, hx2⟩, by rw [hv, sumZ_perm m p]⟩, fun k hk => h.has k (p.mem_iff.2 hk)⟩

theorem addsS_join (l : List Tri) (h : ∀ m ∈ l, TriOk m) : IsJoin l (addsS l) := by
  have : ∀ (t p : List Tri), (∀ m ∈ t, TriOk m) → ∀ o, IsJoin p o → IsJoin (p ++ t) (t.foldl addS o) := by
    intro t
    induction t with
    | nil => intro p _ o ho; simpa using ho
    | cons x t ih =>
      intro p hp o ho
      rw [List.foldl_cons, addS_eq ho.strict]
      have := ih (p ++ [x]) (fun m hm => hp m (by simp [hm])) _ (ho.add (hp x (by simp)))
      simpa using this
  have := this l [] h [] IsJoin.nil
  simpa [addsS] using this
theorem mrg1_addR {s : Tri} : ∀ {o : List Tri}, Strict o → (∀ x ∈ o, ltT s x = false) → mrg1 o s = addR o s
  | [], _, _ => rfl
  | [x], _, h => by
    unfold mrg1 addR
    have hl := h x (by simp)
    simp only [List.getLast?_singleton, List.dropLast_singleton, List.nil_append]
    by_cases he : eqT x s = true
    · rw [if_pos he, if_pos he]
      obtain ⟨e1, e2⟩ := eqT_iff.1 he
      rw [e1, e2]
    · rw [if_neg he, if_neg he, if_neg (by rw [hl]; simp)]
      simp [addR]
  | x :: y :: t, hs, h => by
    obtain ⟨h1, h2⟩ := List.pairwise_cons.1 hs
    have he : ¬ eqT x s = true := fun he => by
      have := h1 y (by simp)
      rw [eqT_lt he, h y (by simp)] at this; cases this
    have ih := mrg1_addR (s := s) h2 (fun z hz => h z (by simp [hz]))
    unfold addR
    rw [if_neg he, if_neg (by rw [h x (by simp)]; simp), ← ih]
    unfold mrg1
    rw [List.getLast?_cons_cons]
    cases hgl : (y :: t).getLast? with
    | none => simp at hgl
    | some z =>
      simp only
      by_cases hz : eqT z s = true
      · rw [if_pos hz, if_pos hz]; rfl
      · rw [if_neg hz, if_neg hz]; rfl
theorem mrg_join (l : List Tri) (h : ∀ m ∈ l, TriOk m) (hs : l.Pairwise fun a b => ltT b a = false) : IsJoin l (mrg l) := by
  have : ∀ (t p : List Tri), (∀ m ∈ t, TriOk m) → (p ++ t).Pairwise (fun a b => ltT b a = false) → ∀ o, IsJoin p o → IsJoin (p ++ t) (t.foldl mrg1 o) := by
    intro t
    induction t with
    | nil => intro p _ _ o ho; simpa using ho
    | cons x t ih =>
      intro p hp hw o ho
      have hle : ∀ y ∈ o, ltT x y = false := fun y hy => by
        obtain ⟨⟨z, hz, hz2⟩, _⟩ := ho.val y hy
        rw [← eqT_lt' hz2]
        exact (List.pairwise_append.1 hw).2.2 z hz x (by simp)
      rw [List.foldl_cons, mrg1_addR ho.strict hle]
      have := ih (p ++ [x]) (fun m hm => hp m (by simp [hm])) (by simpa using hw) _ (ho.add (hp x (by simp)))
      simpa using this
  have := this l [] h (by simpa using hs) [] IsJoin.nil
  simpa [mrg] using this
theorem join_eq {s l : List Tri} (p : s.Perm l) (hs : s.Pairwise fun a b => ltT b a = false) (h : ∀ m ∈ l, TriOk m) : mrg s = addsS l :=
  ((mrg_join s (fun m hm => h m (p.mem_iff.1 hm)) hs).perm p).unique (addsS_join l h)
theorem addsS_strict (l : List Tri) (h : ∀ m ∈ l, TriOk m) : Strict (addsS l) := (addsS_join l h).strict

/-- heap.Join tells trammelref17.Join's answer. -/
theorem join_ref {R : Nat → Prop} {w : World} {A B : Option Addr} {a b : List Tri} {ca cb : Nat} (ha : Tris R w A a ca) (hb : Tris R w B b cb) (hlen : a.length + b.length ≤ 100000) :
    Calls Tryz.prog 38 #[.slice A a.length ca, .slice B b.length cb] w fun e w' => ∃ A' cap', e = .returned (.slice A' (addsS (a ++ b)).length cap') ∧ OTris 50 (fun k => w.heap.size ≤ k) w' (.slice A' (addsS (a ++ b)).length cap') (addsS (a ++ b)) ∧ Chg No w w' := by
  have hok : ∀ m ∈ a ++ b, TriOk m := fun m hm => by
    rcases List.mem_append.1 hm with hm | hm
    · obtain ⟨i, hi, rfl⟩ := List.getElem_of_mem hm
      exact ha.tri_ok i hi
    · obtain ⟨i, hi, rfl⟩ := List.getElem_of_mem hm
      exact hb.tri_ok i hi
  refine (join_any ha hb hlen).mono ?_
  rintro e w' ⟨A', cap', s, he, hp, hs, ho, hc⟩
  rw [join_eq hp hs hok] at he ho
  exact ⟨A', cap', he, ho, hc⟩
end Go.Proofs.YtgofncopoieigaaGreatDoor
