/-
  NrmR, NrmS, NrmW, in one file.
-/
import Derived.Test.YtobkihmmdlacnaaNfH
import Derived.Test.YtobkihmmdlacnaaNrRa


/- NrmR -/
namespace Go.Proofs.Ytobkihmmdlacnaa
open Go Go.RowKit

/-- Is it no deeper than that? -/
def deepLe : (n : Nat) → Nat → FT n → Prop
  | 0, _, _ => True
  | _ + 1, 0, _ => False
  | n + 1, b + 1, f => ∀ k ∈ Node.kids f, deepLe n b k
theorem deep_iff : ∀ (n b : Nat) (f : FT n), depthF n f b ≤ b ↔ deepLe n b f
  | 0, _, _ => by simp [depthF, deepLe]
  | _ + 1, 0, _ => by simp [depthF, deepLe]
  | n + 1, b + 1, f => by
    unfold depthF deepLe
    have h := foldl_max_le (fun k => depthF n k b) b (Node.kids f) 0
    constructor
    · intro g k hk
      exact (deep_iff n b k).1 ((h.1 (by omega)).2 k hk)
    · intro g
      have := h.2 ⟨Nat.zero_le _, fun k hk => (deep_iff n b k).2 (g k hk)⟩
      omega
theorem deep_mono : ∀ (n b : Nat) (f : FT n), deepLe n b f → deepLe n (b + 1) f
  | 0, _, _, _ => trivial
  | _ + 1, 0, _, h => h.elim
  | n + 1, b + 1, _, h => fun k hk => deep_mono n b k (h k hk)

/-- All that is said of a tree that was made. -/
structure GoodT (v : List Int) (N : Nat) (x : FT N) (b : Bool) (d c : Nat) : Prop where
  tru : truF N (valOf v) x = b
  near : nearF N v x = true
  deep : deepLe N d x
  cnt : cntF N x ≤ c

theorem far_divT (vs : List Int) (t : List Mono) (g : Int) : farAny vs (divT t g) = farAny vs t := by
  unfold farAny divT
  rw [List.any_map]
  rfl
theorem far_scale (vs : List Int) (x : Int) (t : List Mono) : farAny vs (scale x t) = farAny vs t := by
  unfold farAny scale
  rw [List.any_map]
  rfl
theorem val_scaleQ (f : Int → Int) (x : Int) (t : List Mono) : val f (scale x t) = x * val f t := by
  induction t with
  | nil => simp [scale, val_nil]
  | cons m t ih =>
    have e : scale x (m :: t) = (m.1, x * m.2) :: scale x t := rfl
    rw [e, val_cons, val_cons, ih, Int.mul_add, Int.mul_assoc]
theorem val_div (v : Int → Int) {g : Int} (hg : 1 ≤ g) : ∀ {t : List Mono}, (∀ m ∈ t, g ∣ m.2) → val v t = g * val v (divT t g)
  | [], _ => by simp [divT, val_nil]
  | m :: t, h => by
    have ih := val_div v hg (t := t) (fun x hx => h x (by simp [hx]))
    have e : divT (m :: t) g = (m.1, Int.tdiv m.2 g) :: divT t g := rfl
    rw [e, val_cons, val_cons, ih]
    have hm : m.2 = g * Int.tdiv m.2 g := (Int.mul_tdiv_cancel' (h m (by simp))).symm
    have : m.2 * v m.1 = g * (Int.tdiv m.2 g * v m.1) := by
      rw [← Int.mul_assoc, ← hm]
    show m.2 * v m.1 + g * val v (divT t g) = g * (Int.tdiv m.2 g * v m.1 + val v (divT t g))
    rw [this, Int.mul_add]
theorem up_sign {c g S : Int} (hg : 1 ≤ g) : upI c g + S ≤ 0 ↔ c + g * S ≤ 0 := by
  obtain ⟨h1, h2, _⟩ := up_parts (a := c) hg
  generalize upI c g = u at *
  constructor
  · intro h
    have h3 : u * g ≤ (-S) * g := Int.mul_le_mul_of_nonneg_right (by omega) (by omega)
    have e : (-S) * g = -(g * S) := by rw [Int.neg_mul, Int.mul_comm]
    omega
  · intro h
    by_cases hh : u + S ≤ 0
    · exact hh
    · have h3 : (-S) * g ≤ (u - 1) * g := Int.mul_le_mul_of_nonneg_right (by omega) (by omega)
      have e : (-S) * g = -(g * S) := by rw [Int.neg_mul, Int.mul_comm]
      omega

theorem lit_good {c : Int} {t : List Mono} {vs : List Int} (h : litErr c t = 0) (hn : farAny vs t = false) : GoodT vs 2 (litForm c t) (decide (c + val (valOf vs) t ≤ 0)) 2 2 ∧ LitC (litForm c t) := by
  refine ⟨?_, litForm_canon h⟩
  unfold litErr at h
  unfold litForm
  split at h
  · rename_i hB
    rw [if_pos hB]
    split at h
    · rename_i hl
      rw [if_pos hl]
      have : t = [] := List.eq_nil_of_length_eq_zero hl
      subst this
      rw [val_nil, Int.add_zero]
      by_cases hc : c ≤ 0
      · rw [if_pos hc, decide_eq_true hc]
        exact ⟨rfl, rfl, fun k hk => (by cases hk), by decide⟩
      · rw [if_neg hc, decide_eq_false hc]
        exact ⟨rfl, rfl, fun k hk => (by cases hk), by decide⟩
    · rename_i hl
      rw [if_neg hl]
      have hne : 0 < t.length := by omega
      have hg := gcdN_pos hB hne
      have hd := val_div (valOf vs) (g := (gcdN t : Int)) (by omega) (t := t) (fun m hm => gcdN_dvd hm)
      have hs := up_sign (c := c) (S := val (valOf vs) (divT t (gcdN t))) (show (1 : Int) ≤ (gcdN t : Int) by omega)
      rw [← hd] at hs
      split at h
      · rename_i hp
        rw [if_pos hp]
        refine ⟨?_, ?_, fun k hk => (by cases hk), by show 1 + 0 ≤ 2; omega⟩
        · show decide (upI c (gcdN t) + val (valOf vs) (divT t (gcdN t)) ≤ 0) = _
          rw [Bool.eq_iff_iff, decide_eq_true_eq, decide_eq_true_eq]
          exact hs
        · show (!farAny vs (divT t (gcdN t)) && true) = true
          rw [far_divT, hn]
          rfl
      · rename_i hp
        rw [if_neg hp]
        split at h
        · rename_i hc
          rw [if_pos hc]
          refine ⟨?_, ?_, fun k hk => ?_, by show 1 + (1 + 0 + 0) ≤ 2; omega⟩
          · show (!decide (1 - upI c (gcdN t) + val (valOf vs) (scale (-1) (divT t (gcdN t))) ≤ 0)) = _
            rw [val_scaleQ, Bool.eq_iff_iff, Bool.not_eq_true', decide_eq_false_iff_not, decide_eq_true_eq, ← hs]
            omega
          · show (!farAny vs [] && ((!farAny vs (scale (-1) (divT t (gcdN t))) && true) && true)) = true
            rw [far_scale, far_divT, hn]
            rfl
          · intro k' hk'
            obtain rfl : k = le1 (1 - upI c (gcdN t), scale (-1) (divT t (gcdN t))) := List.mem_singleton.1 hk
            cases hk'
        · omega
  · omega
theorem opp_good {x : FT 2} {vs : List Int} {b : Bool} (h : LitC x) (g : GoodT vs 2 x b 2 2) : GoodT vs 2 (oppL x) (!b) 2 2 := by
  obtain ⟨g1, g2, g3, g4⟩ := g
  rcases h with rfl | rfl | ⟨l, hl, rfl | rfl⟩
  · rw [← g1]; exact ⟨rfl, rfl, fun k hk => (by cases hk), by decide⟩
  · rw [← g1]; exact ⟨rfl, rfl, fun k hk => (by cases hk), by decide⟩
  · rw [← g1]
    refine ⟨rfl, ?_, fun k hk => ?_, by show 1 + (1 + 0 + 0) ≤ 2; omega⟩
    · show (!farAny vs [] && ((!farAny vs l.2 && true) && true)) = true
      have : (!farAny vs l.2 && true) = true := g2
      rw [this]
      rfl
    · intro k' hk'
      obtain rfl : k = (⟨2, l, []⟩ : Node (FT 0)) := List.mem_singleton.1 hk
      cases hk'
  · rw [← g1]
    refine ⟨?_, ?_, fun k hk => (by cases hk), by show 1 + 0 ≤ 2; omega⟩
    · show decide (l.1 + val (valOf vs) l.2 ≤ 0) = !(!decide (l.1 + val (valOf vs) l.2 ≤ 0))
      simp
    · have : (!farAny vs [] && ((!farAny vs l.2 && true) && true)) = true := g2
      show (!farAny vs l.2 && true) = true
      simpa [farAny] using this
theorem to_good {x : FT 2} {vs : List Int} {b : Bool} (h : LitC x) (g : GoodT vs 2 x b 2 2) (N : Nat) : GoodT vs (N + 2) (toF (N + 2) 2 x) b 2 2 := by
  obtain ⟨g1, g2, g3, g4⟩ := g
  rcases h with rfl | rfl | ⟨l, hl, rfl | rfl⟩
  · exact ⟨g1, g2, fun k hk => (by cases hk), g4⟩
  · exact ⟨g1, g2, fun k hk => (by cases hk), g4⟩
  · exact ⟨g1, g2, fun k hk => (by cases hk), g4⟩
  · refine ⟨g1, g2, fun k hk => ?_, g4⟩
    intro k' hk'
    obtain rfl : k = (⟨2, l, []⟩ : Node (FT N)) := List.mem_singleton.1 hk
    cases hk'
/-- A floor more changes nothing. -/
theorem up_good : ∀ (N : Nat) (x : FT N) (vs : List Int) (b : Bool) (d c : Nat), onlyF N x = true → GoodT vs N x b d c → GoodT vs (N + 1) (upF N x) b d c
  | 0, _, _, _, _, _, h, _ => by cases h
  | N + 1, (⟨kd, l, ks⟩ : Node (FT N)), vs, b, d, c, h, ⟨g1, g2, g3, g4⟩ => by
    obtain ⟨hok, hks⟩ := only_parts h
    have hk : ∀ k ∈ ks, ∀ d', deepLe N d' k → GoodT vs (N + 1) (upF N k) (truF N (valOf vs) k) d' (cntF N k) := fun k hk d' hd' => by
      refine up_good N k vs _ d' _ (hks k hk) ⟨rfl, ?_, hd', Nat.le_refl _⟩
      have : (!farAny vs l.2 && ks.all (nearF N vs)) = true := g2
      rw [Bool.and_eq_true] at this
      exact List.all_eq_true.1 this.2 k hk
    obtain ⟨d, rfl⟩ : ∃ e, d = e + 1 := by
      cases d with
      | zero => exact g3.elim
      | succ e => exact ⟨e, rfl⟩
    have g3' : ∀ k ∈ ks, deepLe N d k := g3
    have ht : ∀ k ∈ ks, truF (N + 1) (valOf vs) (upF N k) = truF N (valOf vs) k := fun k hk' => (hk k hk' d (g3' k hk')).tru
    refine ⟨?_, ?_, ?_, ?_⟩
    · rw [← g1]
      show truF (N + 2) (valOf vs) (⟨kd, l, ks.map (upF N)⟩ : Node (FT (N + 1))) = truF (N + 1) (valOf vs) (⟨kd, l, ks⟩ : Node (FT N))
      rw [truF_succ, truF_succ]
      have e1 : ((ks.map (upF N)).head?.map (truF (N + 1) (valOf vs))).getD false = (ks.head?.map (truF N (valOf vs))).getD false := by
        cases ks with
        | nil => rfl
        | cons k t => exact ht k (by simp)
      have e2 : (ks.map (upF N)).all (truF (N + 1) (valOf vs)) = ks.all (truF N (valOf vs)) := by
        rw [List.all_map, Bool.eq_iff_iff, List.all_eq_true, List.all_eq_true]
        exact ⟨fun q k hk' => by rw [← ht k hk']; exact q k hk', fun q k hk' => by show truF (N + 1) (valOf vs) (upF N k) = true; rw [ht k hk']; exact q k hk'⟩
      have e3 : (ks.map (upF N)).any (truF (N + 1) (valOf vs)) = ks.any (truF N (valOf vs)) := by
        rw [List.any_map, Bool.eq_iff_iff, List.any_eq_true, List.any_eq_true]
        exact ⟨fun ⟨k, hk', q⟩ => ⟨k, hk', by rw [← ht k hk']; exact q⟩, fun ⟨k, hk', q⟩ => ⟨k, hk', by show truF (N + 1) (valOf vs) (upF N k) = true; rw [ht k hk']; exact q⟩⟩
      rw [e1, e2, e3]
    · have : (!farAny vs l.2 && ks.all (nearF N vs)) = true := g2
      rw [Bool.and_eq_true] at this
      show (!farAny vs l.2 && (ks.map (upF N)).all (nearF (N + 1) vs)) = true
      rw [this.1, Bool.true_and, List.all_eq_true]
      intro k' hk'
      obtain ⟨k, hk2, rfl⟩ := List.mem_map.1 hk'
      exact (hk k hk2 d (g3' k hk2)).near
    · intro k' hk'
      obtain ⟨k, hk2, rfl⟩ := List.mem_map.1 hk'
      exact (hk k hk2 d (g3' k hk2)).deep
    · have e : cntF (N + 2) (upF (N + 1) (⟨kd, l, ks⟩ : Node (FT N))) = 1 + ((ks.map (upF N)).map (cntF (N + 1))).sum := rfl
      have e2 : cntF (N + 1) (⟨kd, l, ks⟩ : Node (FT N)) = 1 + (ks.map (cntF N)).sum := rfl
      rw [e]
      rw [e2] at g4
      have : ∀ l : List (FT N), (∀ k ∈ l, k ∈ ks) → ((l.map (upF N)).map (cntF (N + 1))).sum ≤ (l.map (cntF N)).sum := by
        intro l
        induction l with
        | nil => intro _; exact Nat.le_refl _
        | cons k t ih =>
          intro hl
          have h1 := ih (fun k hk => hl k (by simp [hk]))
          have h2 := (hk k (hl k (by simp)) d (g3' k (hl k (by simp)))).cnt
          simp only [List.map_cons, List.sum_cons]
          omega
      have := this ks (fun _ h => h)
      omega
end Go.Proofs.Ytobkihmmdlacnaa
/- NrmS -/
namespace Go.Proofs.Ytobkihmmdlacnaa
open Go Go.RowKit

theorem deep_le {n b : Nat} {f : FT n} (h : deepLe n b f) : ∀ {b' : Nat}, b ≤ b' → deepLe n b' f := fun {b'} hb => by
  obtain ⟨j, rfl⟩ := Nat.le.dest hb
  clear hb
  induction j with
  | zero => exact h
  | succ j ih => exact deep_mono n (b + j) f ih
theorem GoodT.mono {v : List Int} {N : Nat} {x : FT N} {b : Bool} {d c d' c' : Nat} (h : GoodT v N x b d c) (hd : d ≤ d') (hc : c ≤ c') : GoodT v N x b d' c' :=
  ⟨h.tru, h.near, deep_le h.deep hd, Nat.le_trans h.cnt hc⟩
theorem is_of {N : Nat} {x : FT N} (h : onlyF N x = true) (hd : deepLe N 128 x) (hc : cntF N x ≤ 20480) : isB N x = true := by
  rw [is_eq]
  have h1 := (deep_iff N 128 x).2 hd
  have h2 := size_of_cnt N x 20480 (by omega)
  simp only [ref03IsB, Bool.and_eq_true, decide_eq_true_eq]
  exact ⟨⟨h1, by omega⟩, h⟩
theorem near_nil : ∀ (n : Nat) (f : FT n), nearF n [] f = true
  | 0, _ => rfl
  | n + 1, f => by
    show (!farAny [] (Node.lin f).2 && (Node.kids f).all (nearF n [])) = true
    have e : farAny [] (Node.lin f).2 = false := by
      unfold farAny
      rw [List.any_eq_false]
      intro m _
      have : valOf [] m.1 = 0 := by unfold valOf; split <;> simp
      rw [this]
      decide
    rw [e, Bool.not_false, Bool.true_and, List.all_eq_true]
    exact fun k _ => near_nil n k
theorem near_mk {n : Nat} {vs : List Int} (kd : Int) (ks : List (FT n)) (h : ∀ k ∈ ks, nearF n vs k = true) : nearF (n + 1) vs (⟨kd, (0, []), ks⟩ : Node (FT n)) = true := by
  show (!farAny vs [] && ks.all (nearF n vs)) = true
  have : farAny vs [] = false := rfl
  rw [this, Bool.not_false, Bool.true_and, List.all_eq_true]
  exact h
theorem deep_pos {n b : Nat} {f : FT (n + 1)} (h : deepLe (n + 1) b f) : ∃ e, b = e + 1 ∧ ∀ k ∈ Node.kids f, deepLe n e k := by
  cases b with
  | zero => exact h.elim
  | succ e => exact ⟨e, rfl, h⟩

def notIf (nt b : Bool) : Bool := if nt = true then !b else b

/-- A gate of good formulas. -/
theorem gate_good {n d c : Nat} {vs : List Int} {b : Bool} (kd : Int) (ks : List (FT n)) (hn : ∀ k ∈ ks, nearF n vs k = true) (hd : ∀ k ∈ ks, deepLe n d k) (hc : 1 + (ks.map (cntF n)).sum ≤ c) (ht : truF (n + 1) (valOf vs) (⟨kd, (0, []), ks⟩ : Node (FT n)) = b) :
    GoodT vs (n + 1) (⟨kd, (0, []), ks⟩ : Node (FT n)) b (d + 1) c :=
  ⟨ht, near_mk kd ks hn, hd, hc⟩

theorem norm_good : ∀ (n : Nat) (f : FT n) (nt : Bool) (vs : List Int) (b : Nat), fineF n f = true → farF n f = false → nearF n vs f = true → deepLe n b f →
    GoodT vs (3 + n) (normF n f nt) (notIf nt (truF n (valOf vs) f)) (b + 2) (5 * cntF n f)
  | 0, _, _, _, _, h, _, _, _ => by cases h
  | n + 1, (⟨kd, l, ks⟩ : Node (FT n)), nt, vs, b, hf, hfar, hnear, hdeep => by
    obtain ⟨hok, hks⟩ := fine_kids hf
    obtain ⟨hn1, hn2⟩ := near_parts hnear
    obtain ⟨d, rfl, hd⟩ := deep_pos hdeep
    have ecnt : cntF (n + 1) (⟨kd, l, ks⟩ : Node (FT n)) = 1 + (ks.map (cntF n)).sum := rfl
    rw [ecnt]
    rcases okS_cases hok with ⟨hkd, hnb, hkl⟩ | ⟨hkd, hlb, hkl⟩ | ⟨hkd, hnb, hkl⟩ | ⟨hkd, hnb⟩
    · have e1 : ks = [] := List.eq_nil_of_length_eq_zero hkl
      subst e1
      have g := (ans_const (f := (⟨kd, l, []⟩ : Node (FT n))) (nt := nt) hkd rfl).2
      unfold ansF at g
      rw [hfar, if_neg (by decide)] at g
      rw [g]
      refine (gate_good (d := 0) (c := 1) (n := 3 + n) _ [] (fun k hk => by cases hk) (fun k hk => by cases hk) (by simp) ?_).mono (by omega) (by simp)
      rw [truF_succ, truF_succ]
      simp only at hkd ⊢
      rcases hkd with rfl | rfl <;> cases nt <;> rfl
    · have g := ans_leaf (f := (⟨kd, l, ks⟩ : Node (FT n))) (nt := nt) hkd
      have g1 := g.1
      have g2 := g.2
      unfold ansF at g1
      rw [hfar, if_neg (by decide)] at g1 g2
      rw [g1, liftF_to]
      simp only at g2 hkd hlb hn1 ⊢
      rw [truF_succ]
      clear g g1 hok hks hf hfar hkl hnear hdeep hd hn2 ecnt
      have hfive : 5 ≤ 5 * (1 + (ks.map (cntF n)).sum) := by omega
      generalize 5 * (1 + (ks.map (cntF n)).sum) = C at *
      have g3 : leafErr kd l.1 l.2 = 0 := g2.symm
      unfold leafForm
      rw [g3, if_neg (by decide)]
      unfold leafErr at g3
      have h1 : litErr l.1 l.2 = 0 := by
        rcases litErr_two hlb with h | h
        · exact h
        · rw [h, if_pos (by decide)] at g3; omega
      obtain ⟨c1, l1⟩ := lit_good h1 hn1
      by_cases hk2 : kd = 2
      · subst hk2
        rw [if_neg (by decide : ¬ (2 : Int) = 0), if_neg (by decide : ¬ (2 : Int) = 1)]
        repeat rw [if_pos (rfl : (2 : Int) = 2)]
        have hy : GoodT vs 2 (if nt = true then oppL (litForm l.1 l.2) else litForm l.1 l.2) (notIf nt (decide (l.1 + val (valOf vs) l.2 ≤ 0))) 2 2 ∧ LitC (if nt = true then oppL (litForm l.1 l.2) else litForm l.1 l.2) := by
          cases nt
          · exact ⟨c1, l1⟩
          · exact ⟨opp_good l1 c1, opp_canon l1⟩
        generalize (if nt = true then oppL (litForm l.1 l.2) else litForm l.1 l.2) = y at *
        rw [upF_to, toF_toF _ _ _ _ (by omega)]
        obtain ⟨q, hq⟩ : ∃ q, 3 + (n + 1) = q + 2 := ⟨n + 2, by omega⟩
        rw [hq]
        exact (to_good hy.2 hy.1 q).mono (by omega) (by omega)
      · repeat rw [if_neg hk2]
        obtain rfl : kd = 3 := hkd.resolve_left hk2
        have h2 : litErr (-l.1) (scale (-1) l.2) = 0 := by
          rcases litErr_two (linB_neg hlb) with h | h
          · exact h
          · rw [h1, if_neg (by decide), if_neg hk2, h, if_pos (by decide)] at g3; omega
        obtain ⟨c2, l2⟩ := lit_good h2 (by rw [far_scale]; exact hn1)
        rw [val_scaleQ] at c2
        rw [if_neg (by decide : ¬ (3 : Int) = 0), if_neg (by decide : ¬ (3 : Int) = 1), if_pos (rfl : (3 : Int) = 3)]
        generalize val (valOf vs) l.2 = V at *
        generalize litForm l.1 l.2 = y1 at *
        generalize litForm (-l.1) (scale (-1) l.2) = y2 at *
        have key : ∀ (kk : Int) (z1 z2 : FT 2) (b1 b2 bb : Bool), (kk = 5 ∧ bb = (b1 && b2) ∨ kk = 6 ∧ bb = (b1 || b2)) → LitC z1 → LitC z2 → GoodT vs 2 z1 b1 2 2 → GoodT vs 2 z2 b2 2 2 → GoodT vs (3 + (n + 1)) (toF (3 + (n + 1)) 3 (⟨kk, (0, []), [z1, z2]⟩ : Node (FT 2))) bb (d + 1 + 2) C := fun kk z1 z2 b1 b2 bb hkk hz1 hz2 q1 q2 => by
          have e : toF (3 + (n + 1)) 3 (⟨kk, (0, []), [z1, z2]⟩ : Node (FT 2)) = (⟨kk, (0, []), [toF (3 + n) 2 z1, toF (3 + n) 2 z2]⟩ : Node (FT (3 + n))) := rfl
          rw [e]
          obtain ⟨r1, r2⟩ : GoodT vs (3 + n) (toF (3 + n) 2 z1) b1 2 2 ∧ GoodT vs (3 + n) (toF (3 + n) 2 z2) b2 2 2 := by
            obtain ⟨q, hq⟩ : ∃ q, 3 + n = q + 2 := ⟨n + 1, by omega⟩
            rw [hq]
            exact ⟨to_good hz1 q1 q, to_good hz2 q2 q⟩
          generalize toF (3 + n) 2 z1 = x1 at *
          generalize toF (3 + n) 2 z2 = x2 at *
          refine (gate_good (d := 2) (c := 5) kk [x1, x2] (fun k hk => ?_) (fun k hk => ?_) ?_ ?_).mono (by omega) hfive
          · rcases List.mem_cons.1 hk with rfl | hk
            · exact r1.near
            · rcases List.mem_cons.1 hk with rfl | hk
              · exact r2.near
              · cases hk
          · rcases List.mem_cons.1 hk with rfl | hk
            · exact r1.deep
            · rcases List.mem_cons.1 hk with rfl | hk
              · exact r2.deep
              · cases hk
          · have := r1.cnt; have := r2.cnt
            simp only [List.map_cons, List.sum_cons, List.map_nil, List.sum_nil]
            omega
          · rw [truF_succ]
            rcases hkk with ⟨rfl, rfl⟩ | ⟨rfl, rfl⟩
            · rw [if_neg (by decide), if_neg (by decide), if_neg (by decide), if_neg (by decide), if_neg (by decide), if_pos rfl]
              simp only [List.all_cons, List.all_nil, Bool.and_true, r1.tru, r2.tru]
            · rw [if_neg (by decide), if_neg (by decide), if_neg (by decide), if_neg (by decide), if_neg (by decide), if_neg (by decide)]
              simp only [List.any_cons, List.any_nil, Bool.or_false, r1.tru, r2.tru]
        cases nt
        · refine key 5 _ _ _ _ _ (.inl ⟨rfl, ?_⟩) l1 l2 c1 c2
          show decide (l.1 + V = 0) = _
          rw [Bool.eq_iff_iff, Bool.and_eq_true, decide_eq_true_eq, decide_eq_true_eq, decide_eq_true_eq]
          omega
        · refine key 6 _ _ _ _ _ (.inr ⟨rfl, ?_⟩) (opp_canon l1) (opp_canon l2) (opp_good l1 c1) (opp_good l2 c2)
          show (!decide (l.1 + V = 0)) = _
          rw [← Bool.not_and]
          congr 1
          rw [Bool.eq_iff_iff, Bool.and_eq_true, decide_eq_true_eq, decide_eq_true_eq, decide_eq_true_eq]
          omega
    · obtain ⟨k, hk1⟩ := List.length_eq_one_iff.1 hkl
      simp only at hk1 hkd
      subst hk1; subst hkd
      have w := ans_not (f := (⟨4, l, [k]⟩ : Node (FT n))) (nt := nt) rfl rfl
      have e3 : farF n k = false := w.2.symm.trans hfar
      have w1 := w.1
      unfold ansF at w1
      rw [hfar, e3, if_neg (by decide), if_neg (by decide)] at w1
      rw [w1]
      have ih := norm_good n k (!nt) vs d (hks k (by simp)) e3 (hn2 k (by simp)) (hd k List.mem_cons_self)
      have ho := norm_only n k (!nt) (hks k (by simp)) e3
      have := (up_good _ _ _ _ _ _ ho ih).mono (d' := d + 1 + 2) (c' := 5 * (1 + (([k] : List (FT n)).map (cntF n)).sum)) (by omega) (by simp only [List.map_cons, List.sum_cons, List.map_nil, List.sum_nil]; omega)
      have e : notIf (!nt) (truF n (valOf vs) k) = notIf nt (truF (n + 1) (valOf vs) (⟨4, l, [k]⟩ : Node (FT n))) := by
        rw [truF_succ]
        show _ = notIf nt (!truF n (valOf vs) k)
        cases nt <;> simp [notIf]
      rw [← e]
      exact this
    · have w := ans_many (f := (⟨kd, l, ks⟩ : Node (FT n))) (nt := nt) hkd
      have e3 : ks.any (farF n) = false := w.1.symm.trans hfar
      have w2 := w.2
      unfold ansF at w2
      simp only at w2 hkd
      rw [hfar, e3, if_neg (by decide), if_neg (by decide)] at w2
      rw [w2]
      have ih : ∀ k ∈ ks, GoodT vs (3 + n) (normF n k nt) (notIf nt (truF n (valOf vs) k)) (d + 2) (5 * cntF n k) := fun k hk =>
        norm_good n k nt vs d (hks k hk) (by
          have := List.any_eq_false.1 e3 k hk
          simpa using this) (hn2 k hk) (hd k hk)
      refine gate_good (d := d + 2) (n := 3 + n) _ _ (fun k hk => ?_) (fun k hk => ?_) ?_ ?_
      · obtain ⟨k', hk', rfl⟩ := List.mem_map.1 hk
        exact (ih k' hk').near
      · obtain ⟨k', hk', rfl⟩ := List.mem_map.1 hk
        exact (ih k' hk').deep
      · have : ∀ l : List (FT n), (∀ k ∈ l, k ∈ ks) → ((l.map (fun k => normF n k nt)).map (cntF (3 + n))).sum ≤ 5 * (l.map (cntF n)).sum := by
          intro l
          induction l with
          | nil => intro _; exact Nat.le_refl _
          | cons k t iht =>
            intro hl
            have h1 := iht (fun k hk => hl k (by simp [hk]))
            have h2 := (ih k (hl k (by simp))).cnt
            simp only [List.map_cons, List.sum_cons]
            omega
        have := this ks (fun _ h => h)
        omega
      · have ea : ∀ k ∈ ks, truF (3 + n) (valOf vs) (normF n k nt) = notIf nt (truF n (valOf vs) k) := fun k hk => (ih k hk).tru
        have al : (ks.map (fun k => normF n k nt)).all (truF (3 + n) (valOf vs)) = ks.all (fun k => notIf nt (truF n (valOf vs) k)) := by
          rw [List.all_map]
          clear hn1 hks hok hnb hf hfar hnear hdeep hd ecnt w w2 hn2 ih e3
          induction ks with
          | nil => rfl
          | cons k t iht =>
            rw [List.all_cons, List.all_cons, iht (fun k hk => ea k (by simp [hk]))]
            show (truF (3 + n) (valOf vs) (normF n k nt) && _) = _
            rw [ea k (by simp)]
        have an : (ks.map (fun k => normF n k nt)).any (truF (3 + n) (valOf vs)) = ks.any (fun k => notIf nt (truF n (valOf vs) k)) := by
          rw [List.any_map]
          clear hn1 hks hok hnb hf hfar hnear hdeep hd ecnt w w2 hn2 ih e3 al
          induction ks with
          | nil => rfl
          | cons k t iht =>
            rw [List.any_cons, List.any_cons, iht (fun k hk => ea k (by simp [hk]))]
            show (truF (3 + n) (valOf vs) (normF n k nt) || _) = _
            rw [ea k (by simp)]
        rw [truF_succ, truF_succ, al, an]
        have n1 : ∀ t : List (FT n), t.all (fun k => !truF n (valOf vs) k) = !t.any (truF n (valOf vs)) := fun t => by
          induction t with
          | nil => rfl
          | cons k t ih => rw [List.all_cons, List.any_cons, ih, Bool.not_or]
        have n2 : ∀ t : List (FT n), t.any (fun k => !truF n (valOf vs) k) = !t.all (truF n (valOf vs)) := fun t => by
          induction t with
          | nil => rfl
          | cons k t ih => rw [List.any_cons, List.all_cons, ih, Bool.not_and]
        rcases hkd with rfl | rfl <;> cases nt
        · rfl
        · exact n2 ks
        · rfl
        · exact n1 ks
/-- A formula normalized is normalized, and as true as it was. -/
theorem norm_right {n : Nat} {f : FT n} (h : resE n f = 0) : isB (3 + n) (resF n f) = true ∧ ∀ vs, nearF n vs f = true → truF (3 + n) (valOf vs) (resF n f) = truF n (valOf vs) f ∧ nearF (3 + n) vs (resF n f) = true := by
  obtain ⟨h1, h2, h3⟩ := res_zero h
  obtain ⟨c1, c2, c3⟩ := chkF_zero h1
  rw [h3]
  have hd := (deep_iff n 64 f).1 c1
  refine ⟨?_, fun vs hv => ?_⟩
  · have g := norm_good n f false [] 64 c3 h2 (near_nil n f) hd
    exact is_of (norm_only n f false c3 h2) (deep_le g.deep (by omega)) (by have := g.cnt; omega)
  · have g := norm_good n f false vs 64 c3 h2 hv hd
    exact ⟨g.tru, g.near⟩
theorem lit_right {c : Int} {t : List Mono} (h : litErr c t = 0) : isB 2 (litForm c t) = true ∧ ∀ vs, farAny vs t = false → truF 2 (valOf vs) (litForm c t) = decide (c + val (valOf vs) t ≤ 0) ∧ nearF 2 vs (litForm c t) = true := by
  refine ⟨?_, fun vs hv => ?_⟩
  · have hn : farAny [] t = false := by
      unfold farAny
      rw [List.any_eq_false]
      intro m _
      have : valOf [] m.1 = 0 := by unfold valOf; split <;> simp
      rw [this]
      decide
    obtain ⟨g, hl⟩ := lit_good h hn
    have ho := only_lit 0 hl
    rw [toF_self] at ho
    exact is_of ho (deep_le g.deep (by omega)) (by have := g.cnt; omega)
  · obtain ⟨g, _⟩ := lit_good h hv
    exact ⟨g.tru, g.near⟩
end Go.Proofs.Ytobkihmmdlacnaa
/- NrmW -/
namespace Go.Proofs.Ytobkihmmdlacnaa
open Go Go.RowKit

theorem LitRet.shapeW {w w' : World} {f : FT 2} {E : Value} {e : Ending} (h : LitRet w f E e w') : ∃ k c A l ca B m cb, e = .returned (.tuple #[.agg #[.int .i64 k, .int .i64 c, .slice A l ca, .slice B m cb], E]) ∧ (formV 2) (fun k => w.heap.size ≤ k) w' [.int .i64 k, .int .i64 c, .slice A l ca, .slice B m cb] f ∧ Chg No w w' := by
  obtain ⟨cs, rfl, hf, hc⟩ := h
  obtain ⟨k, c, A, l, ca, B, m, cb, rfl⟩ := shape4 hf
  exact ⟨k, c, A, l, ca, B, m, cb, rfl, hf, hc⟩
theorem only_fine : ∀ (N : Nat) (x : FT N), onlyF N x = true → fineF N x = true
  | 0, _, h => by cases h
  | N + 1, (⟨kd, l, ks⟩ : Node (FT N)), h => by
    obtain ⟨hok, hks⟩ := only_parts h
    have e : fineF (N + 1) (⟨kd, l, ks⟩ : Node (FT N)) = (okS kd (noneB l.1 l.2.length) (linB l.1 l.2) ks.length && ks.all (fineF N)) := rfl
    have e2 : ks.all (fineF N) = true := by
      rw [List.all_eq_true]
      exact fun k hk => only_fine N k (hks k hk)
    rw [e, e2, Bool.and_true]
    simp only at hok
    rcases okB_cases hok with ⟨hkd, hnb, hkl⟩ | ⟨hkd, hcn, hkl⟩ | ⟨hkd, hnb, hkl, hk0⟩ | ⟨hkd, hnb⟩
    · rw [hnb, hkl]; rcases hkd with rfl | rfl <;> simp [okS]
    · rw [(canon_parts hcn).1, hkl, hkd]; simp [okS]
    · rw [hnb, hkl, hkd]; simp [okS]
    · rw [hnb]; rcases hkd with rfl | rfl <;> simp [okS]
theorem valR_zero {n : Nat} {f : FT n} {vs : List Int} (h : (valR n f vs).2 = 0) : nearF n vs f = true ∧ (valR n f vs).1 = truF n (valOf vs) f := by
  unfold valR at h ⊢
  split
  · rename_i hc
    rw [if_pos hc] at h
    split
    · rename_i hn; exact ⟨hn, rfl⟩
    · rename_i hn; rw [if_neg hn] at h; cases h
  · rename_i hc
    rw [if_neg hc] at h
    exact absurd h hc
theorem linVal_zero {c : Int} {t : List Mono} {vs : List Int} (h : (linVal c t vs).2 = 0) : farAny vs t = false ∧ (linVal c t vs).1 = c + val (valOf vs) t := by
  unfold linVal at h ⊢
  split
  · rename_i hc
    rw [if_pos hc] at h
    split
    · rename_i hn; rw [if_pos hn] at h; cases h
    · rename_i hn; exact ⟨by simpa using hn, rfl⟩
  · rename_i hc
    rw [if_neg hc] at h
    cases h
theorem is_fine {N : Nat} {x : FT N} (h : isB N x = true) : fineF N x = true := only_fine N x (is_only h).1

theorem errV_zero' {T : TypeId} {c : Int} (h : c = 0) : errV T c = .nilIface := by rw [h]; exact errV_zero T
set_option maxRecDepth 100000 in
set_option maxHeartbeats 8000000 in
theorem normRight_walk {n : Nat} {f : FT n} {vs : List Int} {t : List Mono} {R R' R2 : Nat → Prop} {w : World} {cs : List Value} {A' A0 : Option Addr} {cap' cap0 : Nat} (h : (formV n) R w cs f) (c0 : Int) (ht : Monos R2 w A0 t cap0) (hvs : Ints R' w A' vs cap') :
    Calls Try.prog 8 #[.agg cs.toArray, .agg #[.int .i64 c0, .slice A0 t.length cap0], .slice A' vs.length cap'] w fun e w' => e = .returned (.bool true) ∧ Chg No w w' := by
  have hg := formV_good n
  obtain ⟨kd, c, A, tl, cap, B, kl, capk, rfl⟩ := shape4 h
  have HU := Lib.hid (fun W => shown_any W)
  have HS := Lib.hid (fun W (hc : Chg No w W) => small3_any (hg.no h hc))
  have HN := Lib.hid (fun W (hc : Chg No w W) => (normNorm_any (hg.no h hc)).mono (fun _ _ g => g.shape))
  have HV := Lib.hid (fun W (hc : Chg No w W) => formValue_any (hg.no h hc) (hvs.no intE_good hc))
  have HL := Lib.hid (fun W (hc : Chg No w W) => (normLiteral_any c0 (ht.no monoE_good hc)).mono (fun _ _ g => g.shapeW))
  have HLV := Lib.hid (fun W (hc : Chg No w W) => ref01Value_any c0 (ht.no monoE_good hc) (hvs.no intE_good hc))
  have HVS := Lib.hid (fun W (hc : Chg No w W) => hvs.no intE_good hc)
  have hb3 := hvs.big
  have hb4 := ht.big
  unfold big at hb3 hb4
  obtain ⟨xf, hxf⟩ : ∃ xf, xf = resF n f := ⟨_, rfl⟩
  obtain ⟨yf, hyf⟩ : ∃ yf, yf = litForm c0 t := ⟨_, rfl⟩
  have HISN : Hid (resE n f = 0 → ∀ W R cs, (formV (3 + n)) R W cs xf → Calls Try.prog 15 #[.agg cs.toArray] W fun e w' => e = .returned (.bool true) ∧ Chg No W w') := fun he W R cs hx => by
    have := normIs_any hx
    rwa [hxf, (norm_right he).1] at this
  have HIS : Hid (resE n f = 0 → (valR n f vs).2 = 0 → ∀ W (hc : Chg No w W) R cs, (formV (3 + n)) R W cs xf → Calls Try.prog 22 #[.agg cs.toArray, .slice A' vs.length cap'] W fun e w' => e = .returned (.bool (valR n f vs).1) ∧ Chg No W w') := fun he hv W hc R cs hx => by
    obtain ⟨v1, v2⟩ := valR_zero hv
    obtain ⟨g1, g2⟩ := (norm_right he).2 vs v1
    rw [v2, ← g1, ← hxf]
    rw [← hxf] at g2
    refine refIs_any (3 + n) xf vs R R' W cs A' cap' hx (hvs.no intE_good hc) ?_ g2
    rw [hxf]
    exact is_fine (norm_right he).1
  have HLN : Hid (litErr c0 t = 0 → ∀ W R cs, (formV 2) R W cs yf → Calls Try.prog 15 #[.agg cs.toArray] W fun e w' => e = .returned (.bool true) ∧ Chg No W w') := fun he W R cs hx => by
    have := normIs_any hx
    rwa [hyf, (lit_right he).1] at this
  have HLI : Hid (litErr c0 t = 0 → (linVal c0 t vs).2 = 0 → ∀ W (hc : Chg No w W) R cs, (formV 2) R W cs yf → Calls Try.prog 22 #[.agg cs.toArray, .slice A' vs.length cap'] W fun e w' => e = .returned (.bool (decide ((linVal c0 t vs).1 ≤ 0))) ∧ Chg No W w') := fun he hv W hc R cs hx => by
    obtain ⟨v1, v2⟩ := linVal_zero hv
    obtain ⟨g1, g2⟩ := (lit_right he).2 vs v1
    rw [v2, ← g1, ← hyf]
    rw [← hyf] at g2
    refine refIs_any 2 yf vs R R' W cs A' cap' hx (hvs.no intE_good hc) ?_ g2
    rw [hyf]
    exact is_fine (lit_right he).1
  rw [← hxf] at HN
  rw [← hyf] at HL
  clear h ht hvs hxf hyf hg
  generalize resE n f = er at *
  generalize valR n f vs = vr at *
  generalize litErr c0 t = el at *
  generalize linVal c0 t vs = lr at *
  generalize vs.length = vl at *
  generalize t.length = ttl at *
  obtain ⟨vb, vg⟩ := vr
  obtain ⟨lx, lb⟩ := lr
  simp only at HV HIS HLV HLI
  obtain ⟨w0, hw0⟩ : ∃ w0, w0 = (w.alloc (.cells #[.int .i64 kd, .int .i64 c, .slice A tl cap, .slice B kl capk] 28)).alloc (.cells #[.int .i64 c0, .slice A0 ttl cap0] 24) := ⟨_, rfl⟩
  have h0 : Hid (Chg No w w0 ∧ w0.heap[w.heap.size]? = some (.cells #[.int .i64 kd, .int .i64 c, .slice A tl cap, .slice B kl capk] 28 (0, 0)) ∧ w0.heap[w.heap.size + 1]? = some (.cells #[.int .i64 c0, .slice A0 ttl cap0] 24 (0, 0))) := by
    rw [hw0]; exact ⟨((Chg.refl _ _).alloc _).alloc _, at_old (heap_alloc_new _ _), at_new (by simp)⟩
  have ST : Hid (∀ W W', (Chg No w W ∧ W.heap[w.heap.size]? = some (.cells #[.int .i64 kd, .int .i64 c, .slice A tl cap, .slice B kl capk] 28 (0, 0)) ∧ W.heap[w.heap.size + 1]? = some (.cells #[.int .i64 c0, .slice A0 ttl cap0] 24 (0, 0))) → Chg No W W' → (Chg No w W' ∧ W'.heap[w.heap.size]? = some (.cells #[.int .i64 kd, .int .i64 c, .slice A tl cap, .slice B kl capk] 28 (0, 0)) ∧ W'.heap[w.heap.size + 1]? = some (.cells #[.int .i64 c0, .slice A0 ttl cap0] 24 (0, 0)))) := fun W W' h h' => ⟨h.1.thenNo h', h'.obj h.2.1 id, h'.obj h.2.2 id⟩
  go_enter Try.func8, Try.ntmps8
  go_upto_region 1 with fail
  rw [← hw0]
  clear hw0
  go_upto_region 3 with (first
    | (go_at_call 9; refine (HU.out _).mono ?_; rintro e w1 ⟨rfl, h1⟩; have H1 := Lib.hid (ST.out _ _ h0.out h1); obtain ⟨p0, p1, p2, p3⟩ := obj_four H1.out.2.1; clear h1)
    | (go_at_call 14; refine (HS.out _ H1.out.1).mono ?_; rintro e w2 ⟨q, rfl, h2⟩; have H2 := Lib.hid (ST.out _ _ H1.out h2); clear p0 p1 p2 p3; obtain ⟨p0, p1, p2, p3⟩ := obj_four H2.out.2.1; clear h2))
  cases q
  · go_wp2_with fail
    go_ret
    exact ⟨rfl, H2.out.1⟩
  have N1 := Lib.hid (HN.out w2 H2.out.1)
  go_upto_region 6 with (go_at_call 17; (with_reducible refine N1.out.mono ?_); rintro e w3 ⟨k1, c1, A1, l1, a1, B1, m1, b1, rfl, g_, h_⟩; have G1 := Lib.hid g_; have I1 := Lib.hid h_; clear g_ h_)
  have K1 : Hid (Chg No w2 (w3.alloc (.cells #[.int .i64 k1, .int .i64 c1, .slice A1 l1 a1, .slice B1 m1 b1] 28)) ∧ (w3.alloc (.cells #[.int .i64 k1, .int .i64 c1, .slice A1 l1 a1, .slice B1 m1 b1] 28)).heap[w3.heap.size]? = some (.cells #[.int .i64 k1, .int .i64 c1, .slice A1 l1 a1, .slice B1 m1 b1] 28 (0, 0)) ∧ (formV (3 + n)) (fun k => R k ∨ w2.heap.size ≤ k) (w3.alloc (.cells #[.int .i64 k1, .int .i64 c1, .slice A1 l1 a1, .slice B1 m1 b1] 28)) [.int .i64 k1, .int .i64 c1, .slice A1 l1 a1, .slice B1 m1 b1] xf) := ⟨I1.out.alloc _, heap_alloc_new _ _, (formV_good _).no G1.out ((Chg.refl _ _).alloc _)⟩
  generalize w3.alloc (.cells #[.int .i64 k1, .int .i64 c1, .slice A1 l1 a1, .slice B1 m1 b1] 28) = w4 at *
  clear p0 p1 p2 p3 G1 I1
  have H4 := Lib.hid (ST.out _ _ H2.out K1.out.1)
  obtain ⟨p0, p1, p2, p3⟩ := obj_four H4.out.2.1
  go_upto_region 7 with (go_at_call 21; (with_reducible refine (HV.out w4 H4.out.1).mono ?_); rintro e w5 ⟨rfl, h5⟩; have H5 := Lib.hid (ST.out _ _ H4.out h5); have K5 := Lib.hid (And.intro (h5.obj K1.out.2.1 id) ((formV_good _).no K1.out.2.2 h5)); clear h5)
  clear p0 p1 p2 p3
  obtain ⟨p0, p1, p2, p3⟩ := obj_four K5.out.1
  by_cases he : er = 0
  · rw [errV_zero' he]
    have HI1 := Lib.hid (HISN.out he _ _ _ K5.out.2)
    by_cases hv : vg = 0
    · rw [errV_zero' hv]
      have HI2 := Lib.hid (fun W (hW : Chg No w5 W) => HIS.out he hv W (H5.out.1.thenNo hW) _ _ ((formV_good _).no K5.out.2 hW))
      clear he hv HISN HIS
      go_upto_region 9 with (go_at_call 15; (with_reducible refine HI1.out.mono ?_); rintro e w6 ⟨rfl, h6⟩; have H6 := Lib.hid (ST.out _ _ H5.out h6); have C6 := Lib.hid h6; clear h6)
      obtain ⟨q0, q1, q2, q3⟩ := obj_four (C6.out.obj K5.out.1 id)
      clear p0 p1 p2 p3
      cases vb
      all_goals
        go_upto_region 11 with (go_at_call 22; (with_reducible refine (HI2.out _ C6.out).mono ?_); rintro e wm ⟨rfl, h7⟩; have Hm := Lib.hid (ST.out _ _ H6.out h7); clear h7)
        clear q0 q1 q2 q3 HI2 HI1 HV HN HS N1
        obtain ⟨r0, r1⟩ := objtwo Hm.out.2.2
        have L1 := Lib.hid (HL.out wm Hm.out.1)
        go_upto_region 12 with (go_at_call 10; (with_reducible refine L1.out.mono ?_); rintro e w7 ⟨k2, c2, A2, l2, a2, B2, m2, b2, rfl, g_, h_⟩; have G7 := Lib.hid g_; have I7 := Lib.hid h_; clear g_ h_)
        have K2 : Hid (Chg No wm (w7.alloc (.cells #[.int .i64 k2, .int .i64 c2, .slice A2 l2 a2, .slice B2 m2 b2] 28)) ∧ (w7.alloc (.cells #[.int .i64 k2, .int .i64 c2, .slice A2 l2 a2, .slice B2 m2 b2] 28)).heap[w7.heap.size]? = some (.cells #[.int .i64 k2, .int .i64 c2, .slice A2 l2 a2, .slice B2 m2 b2] 28 (0, 0)) ∧ (formV 2) (fun k => wm.heap.size ≤ k) (w7.alloc (.cells #[.int .i64 k2, .int .i64 c2, .slice A2 l2 a2, .slice B2 m2 b2] 28)) [.int .i64 k2, .int .i64 c2, .slice A2 l2 a2, .slice B2 m2 b2] yf) := ⟨I7.out.alloc _, heap_alloc_new _ _, (formV_good _).no G7.out ((Chg.refl _ _).alloc _)⟩
        generalize w7.alloc (.cells #[.int .i64 k2, .int .i64 c2, .slice A2 l2 a2, .slice B2 m2 b2] 28) = w8 at *
        clear r0 r1 G7 I7
        have H8 := Lib.hid (ST.out _ _ Hm.out K2.out.1)
        obtain ⟨r0, r1⟩ := objtwo H8.out.2.2
        go_upto_region 13 with (go_at_call 23; (with_reducible refine (HLV.out w8 H8.out.1).mono ?_); rintro e w9 ⟨rfl, h9⟩; have H9 := Lib.hid (H8.out.1.thenNo h9); have K9 := Lib.hid (And.intro (h9.obj K2.out.2.1 id) ((formV_good _).no K2.out.2.2 h9)); clear h9)
        clear r0 r1
        obtain ⟨r0, r1, r2, r3⟩ := obj_four K9.out.1
        by_cases hel : el = 0
        · rw [errV_zero' hel]
          by_cases hlb : lb = 0
          · have HA := Lib.hid (HLN.out hel _ _ _ K9.out.2)
            have HB := Lib.hid (fun W (hW : Chg No w9 W) => HLI.out hel hlb W (H9.out.thenNo hW) _ _ ((formV_good _).no K9.out.2 hW))
            have e1 : (lb != 0) = false := by simp [hlb]
            clear hlb hel HLN HLI
            obtain ⟨dx, hdx⟩ : ∃ dx, dx = decide (lx ≤ 0) := ⟨_, rfl⟩
            rw [← hdx] at HB
            have hdx2 := hdx.symm
            clear hdx
            cases dx
            all_goals
              go_wp2_with (first
                | (go_at_call 15; (with_reducible refine HA.out.mono ?_); rintro e wa ⟨rfl, ha⟩; have s0 := ha.cell r0 id; have s1 := ha.cell r1 id; have s2 := ha.cell r2 id; have s3 := ha.cell r3 id; have Ha := Lib.hid ha; clear ha)
                | (go_at_call 22; (with_reducible refine (HB.out _ Ha.out).mono ?_); rintro e wb ⟨rfl, hb⟩; have Hb := Lib.hid hb; clear hb))
              go_ret
              exact ⟨rfl, (H9.out.thenNo Ha.out).thenNo Hb.out⟩
          · have e1 : (lb != 0) = true := by simp [hlb]
            clear HLN HLI
            go_wp2_with fail
            go_ret
            exact ⟨rfl, H9.out⟩
        · rw [errV_of _ hel]
          clear HLN HLI
          go_wp2_with fail
          go_ret
          exact ⟨rfl, H9.out⟩
    · rw [errV_of _ hv]
      clear he hv HISN HIS
      go_upto_region 11 with (go_at_call 15; (with_reducible refine HI1.out.mono ?_); rintro e wm ⟨rfl, h6⟩; have Hm := Lib.hid (ST.out _ _ H5.out h6); clear h6)
      clear p0 p1 p2 p3 HI1 HV HN HS N1
      obtain ⟨r0, r1⟩ := objtwo Hm.out.2.2
      have L1 := Lib.hid (HL.out wm Hm.out.1)
      go_upto_region 12 with (go_at_call 10; (with_reducible refine L1.out.mono ?_); rintro e w7 ⟨k2, c2, A2, l2, a2, B2, m2, b2, rfl, g_, h_⟩; have G7 := Lib.hid g_; have I7 := Lib.hid h_; clear g_ h_)
      have K2 : Hid (Chg No wm (w7.alloc (.cells #[.int .i64 k2, .int .i64 c2, .slice A2 l2 a2, .slice B2 m2 b2] 28)) ∧ (w7.alloc (.cells #[.int .i64 k2, .int .i64 c2, .slice A2 l2 a2, .slice B2 m2 b2] 28)).heap[w7.heap.size]? = some (.cells #[.int .i64 k2, .int .i64 c2, .slice A2 l2 a2, .slice B2 m2 b2] 28 (0, 0)) ∧ (formV 2) (fun k => wm.heap.size ≤ k) (w7.alloc (.cells #[.int .i64 k2, .int .i64 c2, .slice A2 l2 a2, .slice B2 m2 b2] 28)) [.int .i64 k2, .int .i64 c2, .slice A2 l2 a2, .slice B2 m2 b2] yf) := ⟨I7.out.alloc _, heap_alloc_new _ _, (formV_good _).no G7.out ((Chg.refl _ _).alloc _)⟩
      generalize w7.alloc (.cells #[.int .i64 k2, .int .i64 c2, .slice A2 l2 a2, .slice B2 m2 b2] 28) = w8 at *
      clear r0 r1 G7 I7
      have H8 := Lib.hid (ST.out _ _ Hm.out K2.out.1)
      obtain ⟨r0, r1⟩ := objtwo H8.out.2.2
      go_upto_region 13 with (go_at_call 23; (with_reducible refine (HLV.out w8 H8.out.1).mono ?_); rintro e w9 ⟨rfl, h9⟩; have H9 := Lib.hid (H8.out.1.thenNo h9); have K9 := Lib.hid (And.intro (h9.obj K2.out.2.1 id) ((formV_good _).no K2.out.2.2 h9)); clear h9)
      clear r0 r1
      obtain ⟨r0, r1, r2, r3⟩ := obj_four K9.out.1
      by_cases hel : el = 0
      · rw [errV_zero' hel]
        by_cases hlb : lb = 0
        · have HA := Lib.hid (HLN.out hel _ _ _ K9.out.2)
          have HB := Lib.hid (fun W (hW : Chg No w9 W) => HLI.out hel hlb W (H9.out.thenNo hW) _ _ ((formV_good _).no K9.out.2 hW))
          have e1 : (lb != 0) = false := by simp [hlb]
          clear hlb hel HLN HLI
          obtain ⟨dx, hdx⟩ : ∃ dx, dx = decide (lx ≤ 0) := ⟨_, rfl⟩
          rw [← hdx] at HB
          have hdx2 := hdx.symm
          clear hdx
          cases dx
          all_goals
            go_wp2_with (first
              | (go_at_call 15; (with_reducible refine HA.out.mono ?_); rintro e wa ⟨rfl, ha⟩; have s0 := ha.cell r0 id; have s1 := ha.cell r1 id; have s2 := ha.cell r2 id; have s3 := ha.cell r3 id; have Ha := Lib.hid ha; clear ha)
              | (go_at_call 22; (with_reducible refine (HB.out _ Ha.out).mono ?_); rintro e wb ⟨rfl, hb⟩; have Hb := Lib.hid hb; clear hb))
            go_ret
            exact ⟨rfl, (H9.out.thenNo Ha.out).thenNo Hb.out⟩
        · have e1 : (lb != 0) = true := by simp [hlb]
          clear HLN HLI
          go_wp2_with fail
          go_ret
          exact ⟨rfl, H9.out⟩
      · rw [errV_of _ hel]
        clear HLN HLI
        go_wp2_with fail
        go_ret
        exact ⟨rfl, H9.out⟩
  · rw [errV_of _ he]
    clear he HISN HIS
    go_upto_region 11 with fail
    obtain ⟨wm, rfl⟩ : ∃ wm, wm = w5 := ⟨_, rfl⟩
    have Hm := Lib.hid H5.out
    clear p0 p1 p2 p3 HV HN HS N1
    obtain ⟨r0, r1⟩ := objtwo Hm.out.2.2
    have L1 := Lib.hid (HL.out wm Hm.out.1)
    go_upto_region 12 with (go_at_call 10; (with_reducible refine L1.out.mono ?_); rintro e w7 ⟨k2, c2, A2, l2, a2, B2, m2, b2, rfl, g_, h_⟩; have G7 := Lib.hid g_; have I7 := Lib.hid h_; clear g_ h_)
    have K2 : Hid (Chg No wm (w7.alloc (.cells #[.int .i64 k2, .int .i64 c2, .slice A2 l2 a2, .slice B2 m2 b2] 28)) ∧ (w7.alloc (.cells #[.int .i64 k2, .int .i64 c2, .slice A2 l2 a2, .slice B2 m2 b2] 28)).heap[w7.heap.size]? = some (.cells #[.int .i64 k2, .int .i64 c2, .slice A2 l2 a2, .slice B2 m2 b2] 28 (0, 0)) ∧ (formV 2) (fun k => wm.heap.size ≤ k) (w7.alloc (.cells #[.int .i64 k2, .int .i64 c2, .slice A2 l2 a2, .slice B2 m2 b2] 28)) [.int .i64 k2, .int .i64 c2, .slice A2 l2 a2, .slice B2 m2 b2] yf) := ⟨I7.out.alloc _, heap_alloc_new _ _, (formV_good _).no G7.out ((Chg.refl _ _).alloc _)⟩
    generalize w7.alloc (.cells #[.int .i64 k2, .int .i64 c2, .slice A2 l2 a2, .slice B2 m2 b2] 28) = w8 at *
    clear r0 r1 G7 I7
    have H8 := Lib.hid (ST.out _ _ Hm.out K2.out.1)
    obtain ⟨r0, r1⟩ := objtwo H8.out.2.2
    go_upto_region 13 with (go_at_call 23; (with_reducible refine (HLV.out w8 H8.out.1).mono ?_); rintro e w9 ⟨rfl, h9⟩; have H9 := Lib.hid (H8.out.1.thenNo h9); have K9 := Lib.hid (And.intro (h9.obj K2.out.2.1 id) ((formV_good _).no K2.out.2.2 h9)); clear h9)
    clear r0 r1
    obtain ⟨r0, r1, r2, r3⟩ := obj_four K9.out.1
    by_cases hel : el = 0
    · rw [errV_zero' hel]
      by_cases hlb : lb = 0
      · have HA := Lib.hid (HLN.out hel _ _ _ K9.out.2)
        have HB := Lib.hid (fun W (hW : Chg No w9 W) => HLI.out hel hlb W (H9.out.thenNo hW) _ _ ((formV_good _).no K9.out.2 hW))
        have e1 : (lb != 0) = false := by simp [hlb]
        clear hlb hel HLN HLI
        obtain ⟨dx, hdx⟩ : ∃ dx, dx = decide (lx ≤ 0) := ⟨_, rfl⟩
        rw [← hdx] at HB
        have hdx2 := hdx.symm
        clear hdx
        cases dx
        all_goals
          go_wp2_with (first
            | (go_at_call 15; (with_reducible refine HA.out.mono ?_); rintro e wa ⟨rfl, ha⟩; have s0 := ha.cell r0 id; have s1 := ha.cell r1 id; have s2 := ha.cell r2 id; have s3 := ha.cell r3 id; have Ha := Lib.hid ha; clear ha)
            | (go_at_call 22; (with_reducible refine (HB.out _ Ha.out).mono ?_); rintro e wb ⟨rfl, hb⟩; have Hb := Lib.hid hb; clear hb))
          go_ret
          exact ⟨rfl, (H9.out.thenNo Ha.out).thenNo Hb.out⟩
      · have e1 : (lb != 0) = true := by simp [hlb]
        clear HLN HLI
        go_wp2_with fail
        go_ret
        exact ⟨rfl, H9.out⟩
    · rw [errV_of _ hel]
      clear HLN HLI
      go_wp2_with fail
      go_ret
      exact ⟨rfl, H9.out⟩
end Go.Proofs.Ytobkihmmdlacnaa
