/-
  Shares of cells of which no more than the whole is had have their facts: the plain law of ChunkHolds.
-/
import Derived.Test.YtpmndblakmobdaaGreatDoorTC
import Derived.Test.YtpmndblakmobdaaGreatDoorTP
import Derived.Test.YtpmndblakmobdaaGreatDoorTQ
namespace Go.Proofs.YtpmndblakmobdaaGreatDoor
open Go Go.RowKit

theorem setP_strict {l : List Tri} (h : Strict l) (k : Tri) : Strict (setP l k) := by
  rw [← addR_drop h]
  exact addR_strict (strict_drop h k)
theorem setP_mem (k : Tri) : ∀ l : List Tri, k ∈ setP l k
  | [] => by simp [setP]
  | x :: t => by
    unfold setP
    split
    · simp
    · split
      · simp
      · exact List.mem_cons_of_mem _ (setP_mem k t)
theorem find_strict {k m : Tri} : ∀ {r : List Tri}, Strict r → m ∈ r → eqT m k = true → r.find? (fun x => eqT x k) = some m
  | [], _, h, _ => by simp at h
  | x :: t, hs, h, he => by
    obtain ⟨h1, h2⟩ := List.pairwise_cons.1 hs
    rcases List.mem_cons.1 h with rfl | h
    · rw [List.find?_cons_of_pos (p := fun x => eqT x k) he]
    · rw [List.find?_cons_of_neg (p := fun x => eqT x k) (fun hx => by
        have := ltT_ne (h1 m h)
        rw [eqT_trans hx (eqT_symm he)] at this; cases this)]
      exact find_strict h2 h he
theorem hasL_find (l : List Tri) (k : Tri) : hasL l k = (l.find? (fun x => eqT x k)).isSome := by
  unfold hasL
  rw [Bool.eq_iff_iff, List.any_eq_true, List.find?_isSome]
theorem get_set {l : List Tri} (h : Strict l) (a : Int) (f : ByteArray) (z : Int) : getP (setP l (a, f, z)) (a, f, 0) = z ∧ hasL (setP l (a, f, z)) (a, f, 0) = true := by
  have e := find_strict (k := (a, f, 0)) (setP_strict h (a, f, z)) (setP_mem (a, f, z) l) (eqT_iff.2 ⟨rfl, rfl⟩)
  refine ⟨by unfold getP; rw [e], by rw [hasL_find, e]; rfl⟩
theorem find_setP {k k2 : Tri} (hk : eqT k k2 = false) : ∀ l : List Tri, (setP l k).find? (fun x => eqT x k2) = l.find? (fun x => eqT x k2)
  | [] => by simp [setP, hk]
  | x :: t => by
    have hn : ¬ (fun x => eqT x k2) k = true := by simp [hk]
    unfold setP
    by_cases he : eqT x k = true
    · rw [if_pos he, List.find?_cons_of_neg (p := fun x => eqT x k2) hn, List.find?_cons_of_neg (p := fun x => eqT x k2) (fun hx => by
        have := eqT_trans (eqT_symm he) hx
        rw [hk] at this; cases this)]
    · rw [if_neg he]
      by_cases hl : ltT k x = true
      · rw [if_pos hl, List.find?_cons_of_neg (p := fun x => eqT x k2) hn]
      · rw [if_neg hl]
        by_cases hx : eqT x k2 = true
        · rw [List.find?_cons_of_pos (p := fun x => eqT x k2) hx, List.find?_cons_of_pos (p := fun x => eqT x k2) hx]
        · rw [List.find?_cons_of_neg (p := fun x => eqT x k2) hx, List.find?_cons_of_neg (p := fun x => eqT x k2) hx, find_setP hk t]
theorem get_else {k k2 : Tri} (hk : eqT k k2 = false) (l : List Tri) : getP (setP l k) k2 = getP l k2 ∧ hasL (setP l k) k2 = hasL l k2 := by
  refine ⟨by unfold getP; rw [find_setP hk l], by rw [hasL_find, hasL_find, find_setP hk l]⟩
/-- A form's value, where it is told. -/
abbrev lvl (vs : List Int) (r : Lin) : Int := r.1 + val (valOf vs) r.2
theorem linVal_ok {r : Lin} {vs : List Int} (h : (linVal r.1 r.2 vs).2 = 0) : (linVal r.1 r.2 vs).1 = lvl vs r := by
  unfold linVal at h ⊢
  split at h
  · rename_i h1
    rw [if_pos h1]
    split at h
    · exact absurd h (by decide)
    · rename_i h2
      rw [if_neg h2]
  · exact absurd h (by decide)
theorem sumO_val {a b r : Lin} {n : Int} (h : sumO a b n = some r) (vs : List Int) : lvl vs r = lvl vs a + n * lvl vs b := by
  unfold sumO at h
  split at h
  · rename_i h1
    injection h with h; subst h
    have e1 : addLin a b 1 n = (1 * a.1 + n * b.1, nf (scale 1 a.2 ++ scale n b.2)) := by
      have hA : linB a.1 a.2 = true := by
        cases h : linB a.1 a.2
        · rw [addErr, h] at h1; simp at h1
        · rfl
      have hB : linB b.1 b.2 = true := by
        cases h : linB b.1 b.2
        · rw [addErr, h] at h1; simp at h1
        · rfl
      have hT : (timesB 1 && timesB n) = true := by
        cases h : (timesB 1 && timesB n)
        · rw [addErr, hA, hB, h] at h1; simp at h1
        · rfl
      have e1 : addErr a b 1 n = sumErr (1 * a.1 + n * b.1) (scale 1 a.2 ++ scale n b.2) := by unfold addErr; rw [hA, hB, hT]; rfl
      have e2 : addLin a b 1 n = sumLin (1 * a.1 + n * b.1) (scale 1 a.2 ++ scale n b.2) := by unfold addLin; rw [hA, hB, hT]; rfl
      rw [e1] at h1
      rw [e2, sumLin, if_pos h1]
    have hap : ∀ (f : Int → Int) (s t : List Mono), val f (s ++ t) = val f s + val f t := fun f s t => by
      induction s with
      | nil => simp [val_nil]
      | cons m s ih => rw [List.cons_append, val_cons, val_cons, ih, Int.add_assoc]
    unfold lvl
    rw [e1]
    show 1 * a.1 + n * b.1 + val (valOf vs) (nf (scale 1 a.2 ++ scale n b.2)) = _
    rw [val_nf, hap, val_scale, val_scale, Int.mul_add]
    omega
  · cases h
/-- Values of a chunk that may be had. -/
structure OkC (vs : List Int) (c : Chunk) : Prop where
  a : (linVal c.1.1 c.1.2 vs).2 = 0
  v : (linVal c.2.2.2.1 c.2.2.2.2 vs).2 = 0
  pos : 1 ≤ (linVal c.1.1 c.1.2 vs).1
  n : 1 ≤ c.2.2.1
def shC (vs : List Int) (c : Chunk) : Tri := ((linVal c.1.1 c.1.2 vs).1, c.2.1, c.2.2.1)
def keyC (vs : List Int) (c : Chunk) : Tri := ((linVal c.1.1 c.1.2 vs).1, c.2.1, 0)
def celC (vs : List Int) (c : Chunk) : Tri := ((linVal c.1.1 c.1.2 vs).1, c.2.1, (linVal c.2.2.2.1 c.2.2.2.2 vs).1)
/-- Chunks laid down one behind the other: a heap's cells, and shares. -/
structure Laid (vs : List Int) (p : List Chunk) (h s : List Tri) : Prop where
  ok : ∀ c ∈ p, OkC vs c
  tri : ∀ c ∈ p, TriOk (shC vs c)
  hs : Strict h
  hg : ∀ c ∈ p, hasL h (keyC vs c) = true ∧ getP h (keyC vs c) = (linVal c.2.2.2.1 c.2.2.2.2 vs).1
  js : IsJoin (p.map (shC vs)) s
theorem Laid.nil (vs : List Int) : Laid vs [] [] [] := ⟨by simp, by simp, List.Pairwise.nil, by simp, IsJoin.nil⟩
theorem IsJoin.ok {l r : List Tri} (h : IsJoin l r) (hl : ∀ m ∈ l, TriOk m) : ∀ m ∈ r, TriOk m := fun m hm => by
  obtain ⟨⟨x, hx, hxm⟩, hv⟩ := h.val m hm
  obtain ⟨e1, e2⟩ := eqT_iff.1 hxm
  obtain ⟨t1, t2, _⟩ := hl x hx
  refine ⟨e1 ▸ t1, e2 ▸ t2, ?_⟩
  rw [hv]
  unfold wrap64 I64
  omega
theorem sumZ_strict : ∀ {r : List Tri} {m : Tri}, Strict r → m ∈ r → sumZ m r = m.2.2
  | x :: t, m, hs, hm => by
    obtain ⟨h1, h2⟩ := List.pairwise_cons.1 hs
    rcases List.mem_cons.1 hm with rfl | hm
    · rw [sumZ, if_pos (eqT_iff.2 ⟨rfl, rfl⟩), sumZ_none (fun y hy => by rw [eqT_comm]; exact ltT_ne (h1 y hy)), Int.add_zero]
    · rw [sumZ, if_neg (by rw [ltT_ne (h1 m hm)]; simp), sumZ_strict h2 hm, Int.zero_add]
theorem IsJoin.self {r : List Tri} (hs : Strict r) (hr : ∀ m ∈ r, TriOk m) : IsJoin r r :=
  ⟨hs, fun m hm => ⟨⟨m, hm, eqT_iff.2 ⟨rfl, rfl⟩⟩, by rw [sumZ_strict hs hm, wrap64_I64 (hr m hm).2.2]⟩, fun k hk => ⟨k, hk, eqT_iff.2 ⟨rfl, rfl⟩⟩⟩
theorem addsS_self {r : List Tri} (hs : Strict r) (hr : ∀ m ∈ r, TriOk m) : addsS r = r := (addsS_join r hr).unique (IsJoin.self hs hr)
theorem addsS_one {r : List Tri} (hs : Strict r) (hr : ∀ m ∈ r, TriOk m) (x : Tri) : addsS (r ++ [x]) = addR r x := by
  have e : addsS (r ++ [x]) = addS (addsS r) x := by unfold addsS; rw [List.foldl_append]; rfl
  rw [e, addsS_self hs hr, addS_eq hs]
theorem getP_key (l : List Tri) {a b : Tri} (h : eqT a b = true) : getP l a = getP l b ∧ hasL l a = hasL l b := by
  have e : (fun x => eqT x a) = (fun x => eqT x b) := by
    funext x
    rw [Bool.eq_iff_iff]
    exact ⟨fun g => eqT_trans g h, fun g => eqT_trans g (eqT_symm h)⟩
  exact ⟨by unfold getP; rw [e], by rw [hasL_find, hasL_find, e]⟩
theorem Laid.add {vs : List Int} {p : List Chunk} {h s : List Tri} (L : Laid vs p h s) {c : Chunk} (hc : OkC vs c) (ht : TriOk (shC vs c)) (hv : hasL h (keyC vs c) = true → getP h (keyC vs c) = (linVal c.2.2.2.1 c.2.2.2.2 vs).1) :
    Laid vs (p ++ [c]) (setR h (celC vs c)) (addsS (s ++ [shC vs c])) := by
  have hall : ∀ m ∈ p.map (shC vs), TriOk m := fun m hm => by
    obtain ⟨c', h1, rfl⟩ := List.mem_map.1 hm
    exact L.tri c' h1
  rw [setR_eq L.hs, addsS_one L.js.strict (L.js.ok hall)]
  refine ⟨fun x hx => ?_, fun x hx => ?_, setP_strict L.hs _, fun x hx => ?_, ?_⟩
  · rcases List.mem_append.1 hx with hx | hx
    · exact L.ok x hx
    · rw [List.mem_singleton.1 hx]; exact hc
  · rcases List.mem_append.1 hx with hx | hx
    · exact L.tri x hx
    · rw [List.mem_singleton.1 hx]; exact ht
  · rcases List.mem_append.1 hx with hx | hx
    · obtain ⟨g1, g2⟩ := L.hg x hx
      cases hk : eqT (celC vs c) (keyC vs x)
      · obtain ⟨e1, e2⟩ := get_else hk h
        rw [e1, e2]
        exact ⟨g1, g2⟩
      · have hk2 : eqT (keyC vs c) (keyC vs x) = true := eqT_iff.2 (eqT_iff.1 hk)
        obtain ⟨e1, e2⟩ := getP_key h hk2
        have e3 : (linVal c.2.2.2.1 c.2.2.2.2 vs).1 = (linVal x.2.2.2.1 x.2.2.2.2 vs).1 := by rw [← hv (e2 ▸ g1), ← g2, e1]
        obtain ⟨e4, e5⟩ := getP_key (setP h (celC vs c)) hk2
        obtain ⟨e6, e7⟩ := get_set L.hs (linVal c.1.1 c.1.2 vs).1 c.2.1 (linVal c.2.2.2.1 c.2.2.2.2 vs).1
        exact ⟨e5 ▸ e7, by rw [← e4, ← e3]; exact e6⟩
    · rw [List.mem_singleton.1 hx]
      exact ⟨(get_set L.hs _ _ _).2, (get_set L.hs _ _ _).1⟩
  · rw [List.map_append]
    exact L.js.add ht

theorem sumZ_nonneg {k : Tri} : ∀ {l : List Tri}, (∀ m ∈ l, 1 ≤ m.2.2) → 0 ≤ sumZ k l
  | [], _ => Int.le_refl _
  | x :: t, h => by
    have h1 := h x (by simp)
    have h2 := sumZ_nonneg (k := k) (l := t) (fun m hm => h m (by simp [hm]))
    rw [sumZ]
    split <;> omega
theorem sumZ_one {k m : Tri} : ∀ {l : List Tri}, (∀ m ∈ l, 1 ≤ m.2.2) → m ∈ l → eqT m k = true → m.2.2 ≤ sumZ k l
  | x :: t, h, hm, hk => by
    have h2 := sumZ_nonneg (k := k) (l := t) (fun m hm => h m (by simp [hm]))
    rw [sumZ]
    rcases List.mem_cons.1 hm with rfl | hm
    · rw [if_pos hk]; omega
    · have h1 := h x (by simp)
      have h3 := sumZ_one (k := k) (l := t) (fun m hm => h m (by simp [hm])) hm hk
      split <;> omega
theorem sumZ_two {k m x : Tri} {l r : List Tri} (hl : ∀ m ∈ l, 1 ≤ m.2.2) (hm : m ∈ l) (hk : eqT m k = true) (hr : ∀ m ∈ r, 1 ≤ m.2.2) (hx : x ∈ r) (hxk : eqT x k = true) : m.2.2 + x.2.2 ≤ sumZ k (l ++ r) := by
  rw [sumZ_append]
  have := sumZ_one hl hm hk
  have := sumZ_one hr hx hxk
  omega
theorem sumZ_le {k : Tri} : ∀ {l : List Tri}, (∀ m ∈ l, 0 ≤ m.2.2 ∧ m.2.2 ≤ 1099511627776) → sumZ k l ≤ 1099511627776 * (l.length : Int)
  | [], _ => Int.le_refl _
  | x :: t, h => by
    have h1 := h x (by simp)
    have h2 := sumZ_le (k := k) (l := t) (fun m hm => h m (by simp [hm]))
    rw [sumZ, List.length_cons]
    split <;> omega

theorem truF_le {vs : List Int} {n : Nat} {r : Lin} : truF (n + 1) (valOf vs) (leafF n 2 r) = decide (lvl vs r ≤ 0) := rfl
theorem truF_not {vs : List Int} {n : Nat} {r : Lin} : truF (n + 2) (valOf vs) (notF n r) = !decide (lvl vs r = 0) := rfl
theorem truF_or {vs : List Int} {r s : Lin} : truF 3 (valOf vs) (orF r s) = (!decide (lvl vs r = 0) || (decide (lvl vs s = 0) || false)) := rfl
theorem sameK {vs : List Int} {c o : Chunk} (hc : OkC vs c) (ho : OkC vs o) (hf : o.2.1.toList = c.2.1.toList) {r : Lin} (hr : sumO o.1 c.1 (-1) = some r) (h0 : lvl vs r = 0) : eqT (keyC vs o) (keyC vs c) = true := by
  refine eqT_iff.2 ⟨?_, toList_inj hf⟩
  show (linVal o.1.1 o.1.2 vs).1 = (linVal c.1.1 c.1.2 vs).1
  rw [linVal_ok (r := o.1) ho.a, linVal_ok (r := c.1) hc.a]
  have := sumO_val hr vs
  omega
/-- What one chunk says of another one is so. -/
theorem fact1_law {vs : List Int} {c o : Chunk} (hc : OkC vs c) (ho : OkC vs o) (hN : eqT (keyC vs o) (keyC vs c) = true → o.2.2.1 + c.2.2.1 ≤ 64)
    (hV : eqT (keyC vs o) (keyC vs c) = true → (linVal o.2.2.2.1 o.2.2.2.2 vs).1 = (linVal c.2.2.2.1 c.2.2.2.2 vs).1) {F : List (FT 3)} (hF : fact1 c o = some F) : ∀ f ∈ F, truF 3 (valOf vs) f = true := by
  unfold fact1 at hF
  split at hF
  · rename_i hf
    split at hF
    · cases hF
    · rename_i r hr
      split at hF
      · rename_i h64
        injection hF with hF; subst hF
        intro f hm
        rw [List.mem_singleton.1 hm, truF_not]
        by_cases h0 : lvl vs r = 0
        · have := hN (sameK hc ho hf hr h0)
          omega
        · simp [h0]
      · split at hF
        · cases hF
        · rename_i s hs
          injection hF with hF; subst hF
          intro f hm
          rw [List.mem_singleton.1 hm, truF_or]
          by_cases h0 : lvl vs r = 0
          · have h1 := hV (sameK hc ho hf hr h0)
            rw [linVal_ok (r := o.2.2.2) ho.v, linVal_ok (r := c.2.2.2) hc.v] at h1
            have h2 := sumO_val hs vs
            have h3 : lvl vs s = 0 := by omega
            rw [decide_eq_true h3]; simp
          · rw [decide_eq_false h0]; simp
  · injection hF with hF; subst hF
    intro f hm; simp at hm
theorem factsL_law {vs : List Int} {c : Chunk} : ∀ {l : List Chunk} {F : List (FT 3)}, (∀ o ∈ l, ∀ G, fact1 c o = some G → ∀ f ∈ G, truF 3 (valOf vs) f = true) → factsL c l = some F → ∀ f ∈ F, truF 3 (valOf vs) f = true
  | [], F, _, hF, f, hm => by
    injection hF with hF; subst hF
    simp at hm
  | o :: t, F, h, hF, f, hm => by
    unfold factsL at hF
    split at hF
    · cases hF
    · rename_i G hG
      cases hT : factsL c t with
      | none => rw [hT] at hF; cases hF
      | some D =>
        rw [hT] at hF
        injection hF with hF; subst hF
        rcases List.mem_append.1 hm with hm | hm
        · exact h o (by simp) G hG f hm
        · exact factsL_law (fun o ho => h o (by simp [ho])) hT f hm
theorem valR_tru {n : Nat} {f : FT n} {vs : List Int} (h : truF n (valOf vs) f = true) (h0 : (valR n f vs).2 = 0) : (valR n f vs).1 = true := by
  unfold valR at h0 ⊢
  split at h0
  · rename_i h1
    rw [if_pos h1]
    split at h0
    · rename_i h2
      rw [if_pos h2]; exact h
    · exact absurd h0 (by decide)
  · rename_i h1
    exact absurd h0 h1
theorem holds_law {vs : List Int} {l : List Chunk} {h s : List Tri} (L : Laid vs l h s) (hlen : l.length ≤ 12) (hN : ∀ c ∈ l, c.2.2.1 ≤ 1099511627776) (h64 : ∀ m ∈ s, m.2.2 ≤ 64) {i : Nat} (hi : i < l.length) (h0 : (factsR (l.take i) l[i]).2 = 0) :
    ∀ f ∈ (factsR (l.take i) l[i]).1, (valR 3 f vs).2 = 0 → (valR 3 f vs).1 = true := by
  have hc := L.ok l[i] (List.getElem_mem hi)
  have hof : ∀ o ∈ l.take i, ∀ G, fact1 l[i] o = some G → ∀ f ∈ G, truF 3 (valOf vs) f = true := fun o ho G hG => by
    have hol := List.mem_of_mem_take ho
    refine fact1_law hc (L.ok o hol) (fun hk => ?_) (fun hk => ?_) hG
    · obtain ⟨m, hm, hmk⟩ := L.js.has (shC vs o) (List.mem_map.2 ⟨o, hol, rfl⟩)
      obtain ⟨_, hv⟩ := L.js.val m hm
      have hok : eqT (shC vs o) m = true := eqT_symm hmk
      have hck : eqT (shC vs l[i]) m = true := eqT_trans (eqT_iff.2 (eqT_iff.1 (eqT_symm hk))) hok
      have e : l.map (shC vs) = (l.take i).map (shC vs) ++ (l.drop i).map (shC vs) := by rw [← List.map_append, List.take_append_drop]
      have hp : ∀ m ∈ l.map (shC vs), 1 ≤ m.2.2 := fun m hm => by
        obtain ⟨c, h1, rfl⟩ := List.mem_map.1 hm
        exact (L.ok c h1).n
      have h2 := sumZ_two (k := m) (m := shC vs o) (x := shC vs l[i]) (l := (l.take i).map (shC vs)) (r := (l.drop i).map (shC vs)) (fun m hm => hp m (by rw [e]; exact List.mem_append_left _ hm)) (List.mem_map.2 ⟨o, ho, rfl⟩) hok
        (fun m hm => hp m (by rw [e]; exact List.mem_append_right _ hm)) (List.mem_map.2 ⟨l[i], by rw [List.drop_eq_getElem_cons hi]; exact List.mem_cons_self, rfl⟩) hck
      rw [← e] at h2
      have h3 := sumZ_le (k := m) (l := l.map (shC vs)) (fun m hm => by
        have h1 := hp m hm
        obtain ⟨c, h2, rfl⟩ := List.mem_map.1 hm
        exact ⟨by omega, hN c h2⟩)
      rw [List.length_map] at h3
      have h4 := h64 m hm
      have h5 := sumZ_nonneg (k := m) hp
      rw [hv, wrap64_I64 (by unfold I64; omega)] at h4
      have h6 : (shC vs o).2.2 = o.2.2.1 := rfl
      have h7 : (shC vs l[i]).2.2 = l[i].2.2.1 := rfl
      omega
    · obtain ⟨_, g1⟩ := L.hg o hol
      obtain ⟨_, g2⟩ := L.hg l[i] (List.getElem_mem hi)
      rw [← g1, ← g2]
      exact (getP_key h hk).1
  intro f hf hz
  refine valR_tru ?_ hz
  generalize hF : factsR (l.take i) l[i] = R at *
  unfold factsR at hF
  split at hF
  · split at hF
    · subst hF; exact absurd h0 (by decide)
    · rename_i x hx
      split at hF
      · subst hF; exact absurd h0 (by decide)
      · rename_i d hd
        subst hF
        rcases List.mem_cons.1 hf with rfl | hf
        · rw [truF_le]
          have e := sumO_val hx vs
          have p := hc.pos
          rw [linVal_ok (r := l[i].1) hc.a] at p
          have e1 : lvl vs ((1, []) : Lin) = 1 := by unfold lvl; simp [val_nil]
          rw [e1] at e
          exact decide_eq_true (by omega)
        · exact factsL_law hof hd f hf
  · subst hF; exact absurd h0 (by decide)
theorem linVal_I64 (r : Lin) (vs : List Int) : I64 (linVal r.1 r.2 vs).1 := by
  cases hB : linB r.1 r.2
  · rw [show linVal r.1 r.2 vs = (0, 5) by unfold linVal; rw [hB]; rfl]; exact I64.of (by decide) (by decide)
  · cases hf : farAny vs r.2
    · rw [show linVal r.1 r.2 vs = (r.1 + val (valOf vs) r.2, 0) by unfold linVal; rw [hB, hf]; rfl]
      have hg : ∀ i (hi : i < r.2.length), farB (valOf vs r.2[i].1) = false := fun i hi => by
        unfold farAny at hf
        rw [List.any_eq_false] at hf
        simpa using hf r.2[i] (List.getElem_mem hi)
      have h := part_bound (valWay (vs := vs) hB) (Nat.le_refl _) (fun i hi _ => hg i hi)
      rw [List.take_of_length_le (Nat.le_refl _)] at h
      exact I64.of (by show _ ≤ r.1 + val (valOf vs) r.2; omega) (by show r.1 + val (valOf vs) r.2 ≤ _; omega)
    · rw [show linVal r.1 r.2 vs = (0, 1) by unfold linVal; rw [hB, hf]; rfl]; exact I64.of (by decide) (by decide)
end Go.Proofs.YtpmndblakmobdaaGreatDoor
