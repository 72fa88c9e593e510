/-
  norm.leaf.
-/
import Derived.Test.YtlejcnbpodmleaaNfA
import Derived.Test.YtlejcnbpodmleaaNrmH
import Derived.Deep.RegionLaw
import Derived.Deep.DeepCutAuto
namespace Go.Proofs.Ytlejcnbpodmleaa
open Go Go.RowKit

theorem neg_coef {c : Int} (h : coefB c = true) : coefB (-c) = true := by
  have := coefB_le h
  unfold coefB; simp; omega
/-- The opposite form is sound, too. -/
theorem linB_neg {c : Int} {t : List Mono} (hB : linB c t = true) : linB (-c) (scale (-1) t) = true := by
  obtain ⟨h1, h2, h3⟩ := linB_sound hB
  refine linB_good (neg_coef h1) (by rw [scale_len]; exact h2) (fun i hi => ?_)
  have hi' : i < t.length := by rw [scale_len] at hi; exact hi
  obtain ⟨hv, hk, hz, ha⟩ := h3 i hi'
  have e1 : (scale (-1) t).getD i (0, 0) = (t[i].1, -1 * t[i].2) := by
    rw [List.getD_eq_getElem?_getD, List.getElem?_eq_getElem hi, scale_get hi]; rfl
  have e2 : ((scale (-1) t).getD (i - 1) (0, 0)).1 = (t.getD (i - 1) (0, 0)).1 := by
    have h1 : i - 1 < (scale (-1) t).length := by omega
    have h2 : i - 1 < t.length := by omega
    rw [List.getD_eq_getElem?_getD, List.getElem?_eq_getElem h1, scale_get h1, List.getD_eq_getElem?_getD, List.getElem?_eq_getElem h2]; rfl
  rw [goodAt_of e1, e2]
  have hcb : coefB (-1 * t[i].2) = true := by have := coefB_le hk; unfold coefB; simp; omega
  simp only [hv, hcb, Bool.true_and, Bool.and_eq_true, decide_eq_true_eq, Bool.or_eq_true]
  exact ⟨by omega, ha⟩
theorem add_neg0 {c : Int} {t : List Mono} (hB : linB c t = true) : addErr (c, t) (0, []) (-1) 0 = 0 ∧ addLin (c, t) (0, []) (-1) 0 = (-c, scale (-1) t) := by
  have hb1 : linB 0 [] = true := by decide
  have ht1 : timesB (-1) = true := by decide
  have ht2 : timesB 0 = true := by decide
  obtain ⟨hc, hl, hall⟩ := linB_sound hB
  have hasc : Asc (scale (-1) t) := by
    have := asc_of hB
    unfold Asc scale at *
    rw [List.pairwise_map]
    exact this
  have hnz : ∀ m ∈ scale (-1) t, m.2 ≠ 0 := fun m hm => by
    obtain ⟨i, hi, rfl⟩ := List.getElem_of_mem hm
    rw [scale_get hi]
    have := (hall i (by rw [scale_len] at hi; exact hi)).2.2.1
    simp only
    omega
  have hnf : nf (scale (-1) t ++ scale 0 []) = scale (-1) t := by
    rw [show scale 0 [] = [] from rfl, List.append_nil]
    exact nf_self hasc hnz
  have hany : ((scale (-1) t).any fun m => !coefB m.2) = false := by
    rw [List.any_eq_false]
    intro m hm
    obtain ⟨i, hi, rfl⟩ := List.getElem_of_mem hm
    rw [scale_get hi]
    have := coefB_le (hall i (by rw [scale_len] at hi; exact hi)).2.1
    have h9 : coefB (-1 * (t[i]'(by rw [scale_len] at hi; exact hi)).2) = true := by unfold coefB; simp; omega
    rw [h9]
    decide
  have hce : -1 * c + 0 * 0 = -c := by omega
  have hse : sumErr (-c) (scale (-1) t ++ scale 0 []) = 0 := by
    rw [sumErr_eq _ hnf, hany, neg_coef hc]
    rw [if_pos (by decide), if_neg (by decide), if_neg (by rw [scale_len]; omega)]
  constructor
  · unfold addErr
    simp only [hB, hb1, ht1, ht2, Bool.and_true, if_true, hce, hse]
  · unfold addLin
    simp only [hB, hb1, ht1, ht2, Bool.and_true, if_true, hce]
    unfold sumLin
    rw [hse, hnf, if_pos rfl]
theorem litErr_two {c : Int} {t : List Mono} (hB : linB c t = true) : litErr c t = 0 ∨ litErr c t = 3 := by
  unfold litErr
  rw [if_pos hB]
  repeat' split
  all_goals first | exact .inl rfl | exact .inr rfl
theorem litForm_far {c : Int} {t : List Mono} (h : litErr c t ≠ 0) : litForm c t = leaf2 0 := by
  unfold litErr at h
  unfold litForm
  split at h
  · rename_i hB
    rw [if_pos hB]
    split at h
    · exact absurd rfl h
    · rename_i hl
      rw [if_neg hl]
      split at h
      · exact absurd rfl h
      · rename_i hp
        rw [if_neg hp]
        split at h
        · exact absurd rfl h
        · rename_i hq
          rw [if_neg hq]
  · rename_i hB
    rw [if_neg hB]
/-- What a leaf is normalized as. -/
def leafErr (kd c : Int) (t : List Mono) : Int := if litErr c t ≠ 0 then 3 else if kd = 2 then 0 else if litErr (-c) (scale (-1) t) ≠ 0 then 3 else 0
def zF (n : Nat) : FT (n + 1) := (⟨0, (0, []), []⟩ : Node (FT n))
def leafForm (kd c : Int) (t : List Mono) (nt : Bool) : FT 3 :=
  if leafErr kd c t ≠ 0 then zF 2 else if kd = 2 then upF 2 (if nt = true then oppL (litForm c t) else litForm c t)
  else if nt = true then (⟨6, (0, []), [oppL (litForm c t), oppL (litForm (-c) (scale (-1) t))]⟩ : Node (FT 2)) else (⟨5, (0, []), [litForm c t, litForm (-c) (scale (-1) t)]⟩ : Node (FT 2))
/-- What answers a formula in new memory, and something else. -/
def NRet (n : Nat) (R : Nat → Prop) (w : World) (x : FT n) (E : Value) (e : Ending) (w' : World) : Prop :=
  ∃ cs', e = .returned (.tuple #[.agg cs'.toArray, E]) ∧ (formV n) (fun k => R k ∨ w.heap.size ≤ k) w' cs' x ∧ Chg No w w'
theorem FRet.shape {n : Nat} {R : Nat → Prop} {w w' : World} {f : FT n} {e : Ending} (h : FRet n R w f e w') : ∃ k c A l ca B m cb, e = .returned (.agg #[.int .i64 k, .int .i64 c, .slice A l ca, .slice B m cb]) ∧ (formV n) (fun k => R k ∨ w.heap.size ≤ k) w' [.int .i64 k, .int .i64 c, .slice A l ca, .slice B m cb] f ∧ Chg No w w' := by
  obtain ⟨cs, rfl, hf, hc⟩ := h
  obtain ⟨k, c, A, l, ca, B, m, cb, rfl⟩ := shape4 hf
  exact ⟨k, c, A, l, ca, B, m, cb, rfl, hf, hc⟩
theorem NRet.shape {n : Nat} {R : Nat → Prop} {w w' : World} {f : FT n} {E : Value} {e : Ending} (h : NRet n R w f E e w') : ∃ k c A l ca B m cb, e = .returned (.tuple #[.agg #[.int .i64 k, .int .i64 c, .slice A l ca, .slice B m cb], E]) ∧ (formV n) (fun k => R k ∨ w.heap.size ≤ k) w' [.int .i64 k, .int .i64 c, .slice A l ca, .slice B m cb] f ∧ Chg No w w' := by
  obtain ⟨cs, rfl, hf, hc⟩ := h
  obtain ⟨k, c, A, l, ca, B, m, cb, rfl⟩ := shape4 hf
  exact ⟨k, c, A, l, ca, B, m, cb, rfl, hf, hc⟩

set_option maxRecDepth 100000 in
set_option maxHeartbeats 4000000 in
theorem normLeaf_any (kd : Int) (hkd : kd = 2 ∨ kd = 3) {R : Nat → Prop} {w : World} {c : Int} {A : Option Addr} {t : List Mono} {cap : Nat} (hB : linB c t = true) (ht : Monos R w A t cap) (B : Option Addr) (kl capk : Nat) (nt : Bool) :
    Calls Try.prog 54 #[.agg #[.int .i64 kd, .int .i64 c, .slice A t.length cap, .slice B kl capk], .bool nt] w (NRet 3 No w (leafForm kd c t nt) (errV 43 (leafErr kd c t))) := by
  have HL := Lib.hid (fun W (h : Chg No w W) => (normLiteral_any c (ht.no monoE_good h)).mono (fun _ _ g => g.shape))
  have HAd : Hid (∀ W, Chg No w W → Calls Try.prog 71 #[.agg #[.int .i64 c, .slice A t.length cap], .agg #[.int .i64 0, .slice none 0 0], .int .i64 (-1), .int .i64 0] W (LinRet W (-c, scale (-1) t) .nilIface)) := fun W hW => by
    have h := linAdd_any (w := W) (c, t) (0, []) (R' := No) (A' := none) (cap' := 0) (ht.no monoE_good hW) Sl.empty (-1) 0
    rw [(add_neg0 hB).1, (add_neg0 hB).2, errV_zero] at h
    exact h
  have HL2 := Lib.hid (fun (W : World) A' cap' R' (h : Monos R' W A' (scale (-1) t) cap') => (normLiteral_any (-c) h).mono (fun _ _ g => g.shape))
  have hl2 : (scale (-1) t).length = t.length := scale_len _ _
  rw [hl2] at HL2
  obtain ⟨x, hx⟩ : ∃ x, x = leafForm kd c t nt := ⟨_, rfl⟩
  obtain ⟨er, her⟩ : ∃ er, er = leafErr kd c t := ⟨_, rfl⟩
  rw [← hx, ← her]
  have HX := Lib.hid hx
  have HE := Lib.hid her
  clear hx her
  have hO1 := litForm_ok c t
  have hO2 := litForm_ok (-c) (scale (-1) t)
  have h1 := litErr_two hB
  have h2 := litErr_two (linB_neg hB)
  have HI : Hid (I64 0 ∧ I64 5 ∧ I64 6) := by unfold Hid I64; decide
  have HF0 : Hid (litErr c t ≠ 0 → litForm c t = leaf2 0) := fun h => litForm_far h
  unfold Hid at HX HE
  unfold leafForm at HX
  rw [← HE] at HX
  unfold leafErr at HE
  clear ht hB
  generalize litErr c t = e1 at *
  generalize litErr (-c) (scale (-1) t) = e2 at *
  generalize litForm c t = fa at *
  generalize litForm (-c) (scale (-1) t) = fb at *
  generalize hsc : scale (-1) t = st at *
  clear hsc HF0
  generalize t.length = tl at *
  have HX' := Lib.hid HX
  have HE' := Lib.hid HE
  have HO1 := Lib.hid hO1
  have HO2 := Lib.hid hO2
  have HLS := Lib.hid hl2
  clear HX HE hO1 hO2 hl2
  obtain ⟨w3, hw3⟩ : ∃ w3, w3 = (w.alloc (.cells #[.int .i64 kd, .int .i64 c, .slice A tl cap, .slice B kl capk] 27)).alloc (.cells #[.int .i64 0, .int .i64 0, .slice none 0 0, .slice none 0 0] 27) := ⟨_, rfl⟩
  have h3 : Hid (Chg No w w3 ∧ w3.heap[w.heap.size]? = some (.cells #[.int .i64 kd, .int .i64 c, .slice A tl cap, .slice B kl capk] 27 (0, 0)) ∧ w3.heap[w.heap.size + 1]? = some (.cells #[.int .i64 0, .int .i64 0, .slice none 0 0, .slice none 0 0] 27 (0, 0)) ∧ w3.heap.size = w.heap.size + 2) := by
    rw [hw3]; exact ⟨((Chg.refl _ _).alloc _).alloc _, at_old (heap_alloc_new _ _), at_new (by simp), by simp⟩
  have HSET : Hid (∀ W u0 u1 u2 u3, Chg No w3 W → Chg No w ((((W.setCell ⟨w.heap.size + 1, 0, none⟩ u0).setCell ⟨w.heap.size + 1, 1, none⟩ u1).setCell ⟨w.heap.size + 1, 2, none⟩ u2).setCell ⟨w.heap.size + 1, 3, none⟩ u3)) := fun W u0 u1 u2 u3 hW =>
    chgpast (h3.out.1.thenNo hW) (set4_chg _ W u0 u1 u2 u3) (fun k hk => by omega)
  -- what is returned
  have HRET : Hid (∀ (n : Nat) (y : FT n) (W : World) (R5 : Nat → Prop) (u0 u1 u2 u3 : Value), Chg No w3 W → (∀ k, R5 k → w3.heap.size ≤ k) → (formV n) R5 W [u0, u1, u2, u3] y →
      (formV n) (fun k => No k ∨ w.heap.size ≤ k) ((((W.setCell ⟨w.heap.size + 1, 0, none⟩ u0).setCell ⟨w.heap.size + 1, 1, none⟩ u1).setCell ⟨w.heap.size + 1, 2, none⟩ u2).setCell ⟨w.heap.size + 1, 3, none⟩ u3) [u0, u1, u2, u3] y) := fun n y W R5 u0 u1 u2 u3 hW h5 hy => by
    have hz := h3.out.2.2.2
    exact (formV_good n).mono ((formV_good n).chg hy (set4_chg (w.heap.size + 1) W u0 u1 u2 u3) (fun k hk e => by have := h5 k hk; omega)) (fun k _ hk => .inr (by have := h5 k hk; omega))
  have HFIN2 : Hid (∀ (kk : Int) (x y : FT 2) (cx cy : List Value) (W : World) (q : Nat) (R5 : Nat → Prop), I64 kk → Chg No w3 W → (∀ k, R5 k → w3.heap.size ≤ k) → R5 q → W.heap[q]? = some (.cells (cx ++ cy).toArray 27 (0, 0)) → (formV 2) R5 W cx x → (formV 2) R5 W cy y →
      (formV 3) (fun k => No k ∨ w.heap.size ≤ k) ((((W.setCell ⟨w.heap.size + 1, 0, none⟩ (.int .i64 kk)).setCell ⟨w.heap.size + 1, 1, none⟩ (.int .i64 0)).setCell ⟨w.heap.size + 1, 2, none⟩ (.slice none 0 0)).setCell ⟨w.heap.size + 1, 3, none⟩ (.slice (some ⟨q, 0, none⟩) 2 2)) [.int .i64 kk, .int .i64 0, .slice none 0 0, .slice (some ⟨q, 0, none⟩) 2 2] (⟨kk, (0, []), [x, y]⟩ : Node (FT 2))) := fun kk x y cx cy W q R5 hkk hW h5 hq hb hx hy =>
    HRET.out 3 _ W R5 _ _ _ _ hW h5 ⟨none, 0, some ⟨q, 0, none⟩, 2, rfl, hkk, HI.out.1, Sl.empty, by rw [formV_sz]; exact forms_two hb hq hx hy⟩
  have hz3 := Lib.hid h3.out.2.2.2
  go_enter Try.func54, Try.ntmps54
  go_upto_region 1 with fail
  rw [← hw3]
  clear hw3
  obtain ⟨p0, p1, p2, p3⟩ := obj_four h3.out.2.1
  go_upto_region 2 with (go_at_call 70; refine (HL.out _ h3.out.1).mono ?_; rintro e w4 ⟨ka, ca, Aa, la, aa, Ba, ma, ba, rfl, g4, h4⟩; have G4 := Lib.hid g4; have H4 := Lib.hid h4; clear g4 h4)
  obtain ⟨w5, hw5⟩ : ∃ w5, w5 = w4.alloc (.cells #[.int .i64 ka, .int .i64 ca, .slice Aa la aa, .slice Ba ma ba] 27) := ⟨_, rfl⟩
  rw [← hw5]
  have h5 : Hid (Chg No w3 w5 ∧ w5.heap[w4.heap.size]? = some (.cells #[.int .i64 ka, .int .i64 ca, .slice Aa la aa, .slice Ba ma ba] 27 (0, 0)) ∧ (formV 2) (fun k => w3.heap.size ≤ k ∧ k < w4.heap.size) w5 [.int .i64 ka, .int .i64 ca, .slice Aa la aa, .slice Ba ma ba] fa ∧ w3.heap.size ≤ w4.heap.size ∧ w5.heap.size = w4.heap.size + 1) := by
    rw [hw5]
    exact ⟨H4.out.alloc _, heap_alloc_new _ _, (formV_good 2).no ((formV_good 2).mono G4.out (fun k hk h => ⟨h, hk⟩)) ((Chg.refl _ _).alloc _), H4.out.size, by simp⟩
  clear hw5 p0 p1 p2 p3
  obtain ⟨p0, p1, p2, p3⟩ := obj_four (h5.out.1.obj h3.out.2.1 id)
  obtain ⟨⟨q0, q1, q2, q3⟩, y0, y1, y2, y3⟩ := obj_frm h5.out.2.1
  obtain ⟨⟨r0, r1, r2, r3⟩, f0, f1, f2, f3⟩ := obj_frm (h5.out.1.obj h3.out.2.2.1 id)
  rcases h1 with rfl | rfl
  rotate_left
  · -- the literal is far
    have er3 : er = 3 := by rw [HE'.out]; simp
    have ex : x = zF 2 := by rw [HX'.out, er3]; simp
    subst er3; subst ex
    rw [show errV 43 3 = .iface 43 (.int .i64 3) from errV_of _ (by decide)]
    clear y0 y1 y2 y3
    go_wp2_with fail
    exact bodyPost_ret (v := .tuple #[.agg #[.int .i64 0, .int .i64 0, .slice none 0 0, .slice none 0 0], .iface 43 (.int .i64 3)]) (by simp [results, Try.results54, go_sem, r0, r1, r2, r3]) rfl ⟨[.int .i64 0, .int .i64 0, .slice none 0 0, .slice none 0 0], rfl, leaf_cells 0 HI.out.1, HSET.out _ _ _ _ _ h5.out.1⟩
  rw [errV_zero]
  rcases hkd with rfl | rfl
  · have er0 : er = 0 := by rw [HE'.out]; simp
    have ex : x = upF 2 (if nt = true then oppL fa else fa) := by rw [HX'.out, er0]; simp
    subst er0; subst ex
    rw [errV_zero]
    cases nt
    · clear y0 y1 y2 y3
      go_wp2_with fail
      exact bodyPost_ret (v := .tuple #[.agg #[.int .i64 ka, .int .i64 ca, .slice Aa la aa, .slice Ba ma ba], .nilIface]) (by simp [results, Try.results54, go_sem, r0, r1, r2, r3]) rfl ⟨[.int .i64 ka, .int .i64 ca, .slice Aa la aa, .slice Ba ma ba], rfl, HRET.out 3 _ _ _ _ _ _ _ h5.out.1 (fun k hk => hk.1) (formV_up 2 _ _ _ _ h5.out.2.2.1), HSET.out _ _ _ _ _ h5.out.1⟩
    · have HOp := Lib.hid ((opposite_any fa HO1.out h5.out.2.2.1).mono (fun _ _ g => g.shape))
      clear r0 r1 r2 r3 f0 f1 f2 f3 p1 p2 p3 y0 y1 y2 y3
      go_upto_region 7 with (go_at_call 55; refine HOp.out.mono ?_; rintro e w6 ⟨ko, co, Ao, lo, ao, Bo, mo, bo, rfl, g6, h6⟩; have G6 := Lib.hid g6; have H6 := Lib.hid h6; clear g6 h6; obtain ⟨⟨z0, z1, z2, z3⟩, y0, y1, y2, y3⟩ := obj_frm (H6.out.obj h5.out.2.1 id))
      obtain ⟨w7, hw7⟩ : ∃ w7, w7 = (((w6.setCell ⟨w4.heap.size, 0, none⟩ (.int .i64 ko)).setCell ⟨w4.heap.size, 1, none⟩ (.int .i64 co)).setCell ⟨w4.heap.size, 2, none⟩ (.slice Ao lo ao)).setCell ⟨w4.heap.size, 3, none⟩ (.slice Bo mo bo) := ⟨_, rfl⟩
      rw [← hw7]
      have h7 : Hid (Chg No w3 w7 ∧ w7.heap[w4.heap.size]? = some (.cells #[.int .i64 ko, .int .i64 co, .slice Ao lo ao, .slice Bo mo bo] 27 (0, 0)) ∧ (formV 2) (fun k => (w3.heap.size ≤ k ∧ k < w4.heap.size) ∨ w5.heap.size ≤ k) w7 [.int .i64 ko, .int .i64 co, .slice Ao lo ao, .slice Bo mo bo] (oppL fa)) := by
        rw [hw7]
        have hs := set4_chg w4.heap.size w6 (.int .i64 ko) (.int .i64 co) (.slice Ao lo ao) (.slice Bo mo bo)
        have h48 := h5.out.2.2.2.2
        have h34 := h5.out.2.2.2.1
        exact ⟨chgpast (h5.out.1.thenNo H6.out) hs (fun k hk => by omega), objset _ (objset _ (objset _ (objset _ (H6.out.obj h5.out.2.1 id)))), (formV_good 2).chg G6.out hs (fun k hk e => by omega)⟩
      clear hw7 z0 z1 z2 z3 y0 y1 y2 y3 q0 q1 q2 q3
      obtain ⟨q0, q1, q2, q3⟩ := obj_four h7.out.2.1
      obtain ⟨⟨r0, r1, r2, r3⟩, f0, f1, f2, f3⟩ := obj_frm (h7.out.1.obj h3.out.2.2.1 id)
      go_wp2_with fail
      exact bodyPost_ret (v := .tuple #[.agg #[.int .i64 ko, .int .i64 co, .slice Ao lo ao, .slice Bo mo bo], .nilIface]) (by simp [results, Try.results54, go_sem, r0, r1, r2, r3]) rfl ⟨[.int .i64 ko, .int .i64 co, .slice Ao lo ao, .slice Bo mo bo], rfl, HRET.out 3 _ _ _ _ _ _ _ h7.out.1 (fun k hk => by have := h5.out.2.2.2.1; have := h5.out.2.2.2.2; omega) (formV_up 2 _ _ _ _ h7.out.2.2), HSET.out _ _ _ _ _ h7.out.1⟩
  -- an equation
  clear r0 r1 r2 r3 f0 f1 f2 f3 y0 y1 y2 y3 q0 q1 q2 q3
  go_upto_region 9 with (go_at_call 71; (with_reducible refine (HAd.out _ (h3.out.1.thenNo h5.out.1)).mono ?_); rintro e w8 ⟨Ar, cr, rfl, g8, h8⟩; have G8 := Lib.hid g8; have H8 := Lib.hid h8; clear g8 h8)
  obtain ⟨wl, hwl⟩ : ∃ wl, wl = w8.alloc (.cells #[.int .i64 (-c), .slice Ar st.length cr] 24) := ⟨_, rfl⟩
  rw [← hwl]
  have hl : Hid (Chg No w5 wl ∧ wl.heap[w8.heap.size]? = some (.cells #[.int .i64 (-c), .slice Ar st.length cr] 24 (0, 0)) ∧ Monos (fun k => w5.heap.size ≤ k) wl Ar st cr) := by
    rw [hwl]
    exact ⟨H8.out.alloc _, heap_alloc_new _ _, G8.out.no monoE_good ((Chg.refl _ _).alloc _)⟩
  clear hwl p0 p1 p2 p3
  obtain ⟨l0, l1⟩ := objtwo hl.out.2.1
  have HLb := Lib.hid (HL2.out wl Ar cr _ hl.out.2.2)
  rw [← HLS.out] at HLb
  go_upto_region 12 with (go_at_call 70; (with_reducible refine HLb.out.mono ?_); rintro e w9 ⟨kb, cb, Ab, lb, ab, Bb, mb, bb, rfl, g9, h9⟩; have G9 := Lib.hid g9; have H9 := Lib.hid h9; clear g9 h9)
  obtain ⟨wm, hwm⟩ : ∃ wm, wm = w9.alloc (.cells #[.int .i64 kb, .int .i64 cb, .slice Ab lb ab, .slice Bb mb bb] 27) := ⟨_, rfl⟩
  rw [← hwm]
  have hm : Hid (Chg No w5 wm ∧ wm.heap[w9.heap.size]? = some (.cells #[.int .i64 kb, .int .i64 cb, .slice Ab lb ab, .slice Bb mb bb] 27 (0, 0)) ∧ (formV 2) (fun k => w3.heap.size ≤ k) wm [.int .i64 ka, .int .i64 ca, .slice Aa la aa, .slice Ba ma ba] fa ∧ (formV 2) (fun k => w3.heap.size ≤ k) wm [.int .i64 kb, .int .i64 cb, .slice Ab lb ab, .slice Bb mb bb] fb ∧ w3.heap.size ≤ wm.heap.size) := by
    rw [hwm]
    have hc := (hl.out.1.thenNo H9.out).alloc (.cells #[.int .i64 kb, .int .i64 cb, .slice Ab lb ab, .slice Bb mb bb] 27)
    have z1 := h5.out.1.size
    have z2 := hl.out.1.size
    refine ⟨hc, heap_alloc_new _ _, (formV_good 2).mono ((formV_good 2).no h5.out.2.2.1 hc) (fun k _ h => h.1), (formV_good 2).mono ((formV_good 2).no G9.out ((Chg.refl _ _).alloc _)) (fun k _ h => by have : wl.heap.size ≤ k := h; omega), ?_⟩
    have := hc.size; omega
  clear hwm l0 l1
  obtain ⟨q0, q1, q2, q3⟩ := obj_four (hm.out.1.obj h5.out.2.1 id)
  obtain ⟨m0, m1, m2, m3⟩ := obj_four hm.out.2.1
  obtain ⟨⟨r0, r1, r2, r3⟩, f0, f1, f2, f3⟩ := obj_frm ((h5.out.1.thenNo hm.out.1).obj h3.out.2.2.1 id)
  rcases h2 with rfl | rfl
  rotate_left
  · have er3 : er = 3 := by rw [HE'.out]; simp
    have ex : x = zF 2 := by rw [HX'.out, er3]; simp
    subst er3; subst ex
    rw [show errV 43 3 = .iface 43 (.int .i64 3) from errV_of _ (by decide)]
    go_wp2_with fail
    exact bodyPost_ret (v := .tuple #[.agg #[.int .i64 0, .int .i64 0, .slice none 0 0, .slice none 0 0], .iface 43 (.int .i64 3)]) (by simp [results, Try.results54, go_sem, r0, r1, r2, r3]) rfl ⟨[.int .i64 0, .int .i64 0, .slice none 0 0, .slice none 0 0], rfl, leaf_cells 0 HI.out.1, HSET.out _ _ _ _ _ (h5.out.1.thenNo hm.out.1)⟩
  rw [errV_zero]
  have er0 : er = 0 := by rw [HE'.out]; simp
  have ex : x = (if nt = true then (⟨6, (0, []), [oppL fa, oppL fb]⟩ : Node (FT 2)) else (⟨5, (0, []), [fa, fb]⟩ : Node (FT 2))) := by rw [HX'.out, er0, if_neg (by decide), if_neg (by decide)]; rfl
  subst er0; subst ex
  rw [errV_zero]
  cases nt
  · clear r0 r1 r2 r3 f0 f1 f2 f3
    have HKB : Hid (Chg No wm (wm.alloc (.cells #[.int .i64 ka, .int .i64 ca, .slice Aa la aa, .slice Ba ma ba, .int .i64 kb, .int .i64 cb, .slice Ab lb ab, .slice Bb mb bb] 27)) ∧ (wm.alloc (.cells #[.int .i64 ka, .int .i64 ca, .slice Aa la aa, .slice Ba ma ba, .int .i64 kb, .int .i64 cb, .slice Ab lb ab, .slice Bb mb bb] 27)).heap[wm.heap.size]? = some (.cells ([Value.int .i64 ka, .int .i64 ca, .slice Aa la aa, .slice Ba ma ba] ++ [Value.int .i64 kb, .int .i64 cb, .slice Ab lb ab, .slice Bb mb bb]).toArray 27 (0, 0))) := ⟨(Chg.refl _ _).alloc _, heap_alloc_new _ _⟩
    obtain ⟨⟨r0, r1, r2, r3⟩, f0, f1, f2, f3⟩ := obj_frm (HKB.out.1.obj ((h5.out.1.thenNo hm.out.1).obj h3.out.2.2.1 id) id)
    have HW := Lib.hid (HFIN2.out 5 fa fb _ _ _ wm.heap.size (fun k => w3.heap.size ≤ k) HI.out.2.1 ((h5.out.1.thenNo hm.out.1).thenNo HKB.out.1) (fun k h => h) hm.out.2.2.2.2 HKB.out.2 ((formV_good 2).no hm.out.2.2.1 HKB.out.1) ((formV_good 2).no hm.out.2.2.2.1 HKB.out.1))
    have HS2 := Lib.hid (HSET.out _ (.int .i64 5) (.int .i64 0) (.slice none 0 0) (.slice (some ⟨wm.heap.size, 0, none⟩) 2 2) ((h5.out.1.thenNo hm.out.1).thenNo HKB.out.1))
    clear HKB
    go_wp2_with fail
    exact bodyPost_ret (v := .tuple #[.agg #[.int .i64 5, .int .i64 0, .slice none 0 0, .slice (some ⟨wm.heap.size, 0, none⟩) 2 2], .nilIface]) (by simp [results, Try.results54, go_sem, r0, r1, r2, r3]) rfl ⟨[.int .i64 5, .int .i64 0, .slice none 0 0, .slice (some ⟨wm.heap.size, 0, none⟩) 2 2], rfl, HW.out, HS2.out⟩
  · clear r0 r1 r2 r3 f0 f1 f2 f3
    have HS := Lib.hid (h5.out.1.thenNo hm.out.1)
    have HOA : Hid (∀ W, Chg No wm W → Calls Try.prog 55 #[.agg #[.int .i64 ka, .int .i64 ca, .slice Aa la aa, .slice Ba ma ba]] W fun e w_ => (∃ k1 c1 A1 l1 a1 B1 m1 b1, e = .returned (.agg #[.int .i64 k1, .int .i64 c1, .slice A1 l1 a1, .slice B1 m1 b1]) ∧ (w_.cell? ⟨w4.heap.size, 0, none⟩ = some (.int .i64 ka) ∧ w_.cell? ⟨w4.heap.size, 1, none⟩ = some (.int .i64 ca) ∧ w_.cell? ⟨w4.heap.size, 2, none⟩ = some (.slice Aa la aa) ∧ w_.cell? ⟨w4.heap.size, 3, none⟩ = some (.slice Ba ma ba)) ∧ (w_.cell? ⟨w9.heap.size, 0, none⟩ = some (.int .i64 kb) ∧ w_.cell? ⟨w9.heap.size, 1, none⟩ = some (.int .i64 cb) ∧ w_.cell? ⟨w9.heap.size, 2, none⟩ = some (.slice Ab lb ab) ∧ w_.cell? ⟨w9.heap.size, 3, none⟩ = some (.slice Bb mb bb)) ∧ Hid ((formV 2) (fun k => w3.heap.size ≤ k) w_ [.int .i64 k1, .int .i64 c1, .slice A1 l1 a1, .slice B1 m1 b1] (oppL fa) ∧ Chg No wm w_ ∧ Chg No W w_))) := fun W hW => by
      refine (opposite_any _ HO1.out ((formV_good 2).no hm.out.2.2.1 hW)).mono ?_
      rintro e w_ g
      obtain ⟨k1, c1, A1, l1, a1, B1, m1, b1, rfl, g1, g2⟩ := g.shape
      have h_ := hW.thenNo g2
      refine ⟨k1, c1, A1, l1, a1, B1, m1, b1, rfl, obj_four (h_.obj (hm.out.1.obj h5.out.2.1 id) id), obj_four (h_.obj hm.out.2.1 id), (formV_good 2).mono g1 (fun k _ hk => ?_), h_, g2⟩
      have z := hm.out.2.2.2.2
      have z2 := hW.size
      rcases hk with hk | hk <;> omega
    have HOB : Hid (∀ W, Chg No wm W → Calls Try.prog 55 #[.agg #[.int .i64 kb, .int .i64 cb, .slice Ab lb ab, .slice Bb mb bb]] W fun e w_ => (∃ k2 c2 A2 l2 a2 B2 m2 b2, e = .returned (.agg #[.int .i64 k2, .int .i64 c2, .slice A2 l2 a2, .slice B2 m2 b2]) ∧ (w_.cell? ⟨w4.heap.size, 0, none⟩ = some (.int .i64 ka) ∧ w_.cell? ⟨w4.heap.size, 1, none⟩ = some (.int .i64 ca) ∧ w_.cell? ⟨w4.heap.size, 2, none⟩ = some (.slice Aa la aa) ∧ w_.cell? ⟨w4.heap.size, 3, none⟩ = some (.slice Ba ma ba)) ∧ (w_.cell? ⟨w9.heap.size, 0, none⟩ = some (.int .i64 kb) ∧ w_.cell? ⟨w9.heap.size, 1, none⟩ = some (.int .i64 cb) ∧ w_.cell? ⟨w9.heap.size, 2, none⟩ = some (.slice Ab lb ab) ∧ w_.cell? ⟨w9.heap.size, 3, none⟩ = some (.slice Bb mb bb)) ∧ Hid ((formV 2) (fun k => w3.heap.size ≤ k) w_ [.int .i64 k2, .int .i64 c2, .slice A2 l2 a2, .slice B2 m2 b2] (oppL fb) ∧ Chg No wm w_ ∧ Chg No W w_))) := fun W hW => by
      refine (opposite_any _ HO2.out ((formV_good 2).no hm.out.2.2.2.1 hW)).mono ?_
      rintro e w_ g
      obtain ⟨k2, c2, A2, l2, a2, B2, m2, b2, rfl, g1, g2⟩ := g.shape
      have h_ := hW.thenNo g2
      refine ⟨k2, c2, A2, l2, a2, B2, m2, b2, rfl, obj_four (h_.obj (hm.out.1.obj h5.out.2.1 id) id), obj_four (h_.obj hm.out.2.1 id), (formV_good 2).mono g1 (fun k _ hk => ?_), h_, g2⟩
      have z := hm.out.2.2.2.2
      have z2 := hW.size
      rcases hk with hk | hk <;> omega
    have HEND : Hid (∀ (W : World) (k1 c1 : Int) (A1 : Option Addr) (l1 a1 : Nat) (B1 : Option Addr) (m1 b1 : Nat) (k2 c2 : Int) (A2 : Option Addr) (l2 a2 : Nat) (B2 : Option Addr) (m2 b2 : Nat), (formV 2) (fun k => w3.heap.size ≤ k) W [.int .i64 k1, .int .i64 c1, .slice A1 l1 a1, .slice B1 m1 b1] (oppL fa) → (formV 2) (fun k => w3.heap.size ≤ k) W [.int .i64 k2, .int .i64 c2, .slice A2 l2 a2, .slice B2 m2 b2] (oppL fb) → Chg No wm W →
        (((W.alloc (.cells #[.int .i64 k1, .int .i64 c1, .slice A1 l1 a1, .slice B1 m1 b1, .int .i64 k2, .int .i64 c2, .slice A2 l2 a2, .slice B2 m2 b2] 27)).cell? ⟨w.heap.size + 1, 0, none⟩ = some (.int .i64 0) ∧ (W.alloc (.cells #[.int .i64 k1, .int .i64 c1, .slice A1 l1 a1, .slice B1 m1 b1, .int .i64 k2, .int .i64 c2, .slice A2 l2 a2, .slice B2 m2 b2] 27)).cell? ⟨w.heap.size + 1, 1, none⟩ = some (.int .i64 0) ∧ (W.alloc (.cells #[.int .i64 k1, .int .i64 c1, .slice A1 l1 a1, .slice B1 m1 b1, .int .i64 k2, .int .i64 c2, .slice A2 l2 a2, .slice B2 m2 b2] 27)).cell? ⟨w.heap.size + 1, 2, none⟩ = some (.slice none 0 0) ∧ (W.alloc (.cells #[.int .i64 k1, .int .i64 c1, .slice A1 l1 a1, .slice B1 m1 b1, .int .i64 k2, .int .i64 c2, .slice A2 l2 a2, .slice B2 m2 b2] 27)).cell? ⟨w.heap.size + 1, 3, none⟩ = some (.slice none 0 0)) ∧ (W.alloc (.cells #[.int .i64 k1, .int .i64 c1, .slice A1 l1 a1, .slice B1 m1 b1, .int .i64 k2, .int .i64 c2, .slice A2 l2 a2, .slice B2 m2 b2] 27)).frozen? ⟨w.heap.size + 1, 0, none⟩ = false ∧ (W.alloc (.cells #[.int .i64 k1, .int .i64 c1, .slice A1 l1 a1, .slice B1 m1 b1, .int .i64 k2, .int .i64 c2, .slice A2 l2 a2, .slice B2 m2 b2] 27)).frozen? ⟨w.heap.size + 1, 1, none⟩ = false ∧ (W.alloc (.cells #[.int .i64 k1, .int .i64 c1, .slice A1 l1 a1, .slice B1 m1 b1, .int .i64 k2, .int .i64 c2, .slice A2 l2 a2, .slice B2 m2 b2] 27)).frozen? ⟨w.heap.size + 1, 2, none⟩ = false ∧ (W.alloc (.cells #[.int .i64 k1, .int .i64 c1, .slice A1 l1 a1, .slice B1 m1 b1, .int .i64 k2, .int .i64 c2, .slice A2 l2 a2, .slice B2 m2 b2] 27)).frozen? ⟨w.heap.size + 1, 3, none⟩ = false) ∧
        Hid ((formV 3) (fun k => No k ∨ w.heap.size ≤ k) (((((W.alloc (.cells #[.int .i64 k1, .int .i64 c1, .slice A1 l1 a1, .slice B1 m1 b1, .int .i64 k2, .int .i64 c2, .slice A2 l2 a2, .slice B2 m2 b2] 27)).setCell ⟨w.heap.size + 1, 0, none⟩ (.int .i64 6)).setCell ⟨w.heap.size + 1, 1, none⟩ (.int .i64 0)).setCell ⟨w.heap.size + 1, 2, none⟩ (.slice none 0 0)).setCell ⟨w.heap.size + 1, 3, none⟩ (.slice (some ⟨W.heap.size, 0, none⟩) 2 2)) [.int .i64 6, .int .i64 0, .slice none 0 0, .slice (some ⟨W.heap.size, 0, none⟩) 2 2] (⟨6, (0, []), [oppL fa, oppL fb]⟩ : Node (FT 2)) ∧ Chg No w (((((W.alloc (.cells #[.int .i64 k1, .int .i64 c1, .slice A1 l1 a1, .slice B1 m1 b1, .int .i64 k2, .int .i64 c2, .slice A2 l2 a2, .slice B2 m2 b2] 27)).setCell ⟨w.heap.size + 1, 0, none⟩ (.int .i64 6)).setCell ⟨w.heap.size + 1, 1, none⟩ (.int .i64 0)).setCell ⟨w.heap.size + 1, 2, none⟩ (.slice none 0 0)).setCell ⟨w.heap.size + 1, 3, none⟩ (.slice (some ⟨W.heap.size, 0, none⟩) 2 2)))) := fun W k1 c1 A1 l1 a1 B1 m1 b1 k2 c2 A2 l2 a2 B2 m2 b2 g1 g2 hW => by
      have hA := (Chg.refl No W).alloc (.cells #[.int .i64 k1, .int .i64 c1, .slice A1 l1 a1, .slice B1 m1 b1, .int .i64 k2, .int .i64 c2, .slice A2 l2 a2, .slice B2 m2 b2] 27)
      have hc := (HS.out.thenNo hW).thenNo hA
      refine ⟨obj_frm (hA.obj ((HS.out.thenNo hW).obj h3.out.2.2.1 id) id), HFIN2.out 6 _ _ [.int .i64 k1, .int .i64 c1, .slice A1 l1 a1, .slice B1 m1 b1] [.int .i64 k2, .int .i64 c2, .slice A2 l2 a2, .slice B2 m2 b2] _ W.heap.size (fun k => w3.heap.size ≤ k) HI.out.2.2 hc (fun k h => h) ?_ (heap_alloc_new _ _) ((formV_good 2).no g1 hA) ((formV_good 2).no g2 hA), HSET.out _ _ _ _ _ hc⟩
      have z := hm.out.2.2.2.2
      have z2 := hW.size
      omega
    have HOA1 := Lib.hid (HOA.out wm.drew (Chg.refl _ _).drew)
    have HOB1 := Lib.hid (HOB.out wm.drew (Chg.refl _ _).drew)
    rw [if_pos rfl]
    clear HL2 HAd G8 H8 hl HLb G9 H9 HRET HFIN2 HSET h5 hm HI HO1 HO2 HX' HE' h3 G4 H4 HLS HL
    go_wp2_with fail
    go_region_law
      ((first
        | (go_simp; go_at_call 55; (with_reducible refine HOA2.out.mono ?_); rintro e wA ⟨k1, c1, A1, l1, a1, B1, m1, b1, rfl, ⟨s0, s1, s2, s3⟩, ⟨t0, t1, t2, t3⟩, GA⟩; obtain ⟨⟨⟨r0, r1, r2, r3⟩, f0, f1, f2, f3⟩, GE⟩ := HEND.out wA k1 c1 A1 l1 a1 B1 m1 b1 k2 c2 A2 l2 a2 B2 m2 b2 GA.out.1 ((formV_good 2).no GB.out.1 GA.out.2.2) GA.out.2.1)
        | (go_simp; go_at_call 55; (with_reducible refine HOB2.out.mono ?_); rintro e wB ⟨k2, c2, A2, l2, a2, B2, m2, b2, rfl, ⟨s0, s1, s2, s3⟩, ⟨t0, t1, t2, t3⟩, GB⟩; obtain ⟨⟨⟨r0, r1, r2, r3⟩, f0, f1, f2, f3⟩, GE⟩ := HEND.out wB k1 c1 A1 l1 a1 B1 m1 b1 k2 c2 A2 l2 a2 B2 m2 b2 ((formV_good 2).no GA.out.1 GB.out.2.2) GB.out.1 GB.out.2.1)
        | (go_simp; go_at_call 55; (with_reducible refine HOA1.out.mono ?_); rintro e wA ⟨k1, c1, A1, l1, a1, B1, m1, b1, rfl, ⟨s0, s1, s2, s3⟩, ⟨t0, t1, t2, t3⟩, GA⟩; have HOB2 := Lib.hid (HOB.out wA GA.out.2.1))
        | (go_simp; go_at_call 55; (with_reducible refine HOB1.out.mono ?_); rintro e wB ⟨k2, c2, A2, l2, a2, B2, m2, b2, rfl, ⟨s0, s1, s2, s3⟩, ⟨t0, t1, t2, t3⟩, GB⟩; have HOA2 := Lib.hid (HOA.out wB GB.out.2.1))))
    all_goals
      clear HOA HOB HOA1 HOB1 HEND
      go_wp2_with fail
      first
        | exact bodyPost_ret (v := .tuple #[.agg #[.int .i64 6, .int .i64 0, .slice none 0 0, .slice (some ⟨wA.heap.size, 0, none⟩) 2 2], .nilIface]) (by simp [results, Try.results54, go_sem, r0, r1, r2, r3]) rfl ⟨[.int .i64 6, .int .i64 0, .slice none 0 0, .slice (some ⟨wA.heap.size, 0, none⟩) 2 2], rfl, GE.out⟩
        | exact bodyPost_ret (v := .tuple #[.agg #[.int .i64 6, .int .i64 0, .slice none 0 0, .slice (some ⟨wB.heap.size, 0, none⟩) 2 2], .nilIface]) (by simp [results, Try.results54, go_sem, r0, r1, r2, r3]) rfl ⟨[.int .i64 6, .int .i64 0, .slice none 0 0, .slice (some ⟨wB.heap.size, 0, none⟩) 2 2], rfl, GE.out⟩
end Go.Proofs.Ytlejcnbpodmleaa
