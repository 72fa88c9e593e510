/-
  The reference's norm: what it makes of a sound formula.
-/
import Derived.Test.YtobkihmmdlacnaaNfC
import Derived.Deep.RegionLaw
import Derived.Deep.DeepCutAuto
namespace Go.Proofs.Ytobkihmmdlacnaa
open Go Go.RowKit

theorem ht_neg {c : Int} {t : List Mono} (hB : linB c t = true) : t.length ≤ 100000 ∧ ∀ m ∈ t, -4611686018427387904 ≤ -1 * m.2 ∧ -1 * m.2 ≤ 4611686018427387904 := by
  obtain ⟨_, h2, h3⟩ := linB_sound hB
  refine ⟨by omega, fun m hm => ?_⟩
  obtain ⟨i, hi, rfl⟩ := List.getElem_of_mem hm
  have := coefB_le (h3 i hi).2.1
  omega

set_option maxRecDepth 100000 in
set_option maxHeartbeats 4000000 in
theorem refNormLeaf_any (kd : Int) (hkd : kd = 2 ∨ kd = 3) {R : Nat → Prop} {w : World} {c : Int} {A : Option Addr} {t : List Mono} {cap : Nat} (hB : linB c t = true) (ht : Monos R w A t cap) (B : Option Addr) (kl capk : Nat) (nt : Bool) :
    Calls Try.prog 41 #[.agg #[.int .i64 kd, .int .i64 c, .slice A t.length cap, .slice B kl capk], .bool nt] w (NRet 3 No w (leafForm kd c t nt) (.bool (decide (leafErr kd c t = 0)))) := by
  have HL := Lib.hid (fun W (h : Chg No w W) => (refLiteral_any c (ht.no monoE_good h)).mono (fun _ _ g => g.shape))
  have HT : Hid (∀ W, Chg No w W → Calls Try.prog 31 #[.agg #[.int .i64 c, .slice A t.length cap], .int .i64 (-1)] W fun e w' => ∃ AT capT, e = .returned (.slice AT (scale (-1) t).length capT) ∧ Monos (fun k => W.heap.size ≤ k) w' AT (scale (-1) t) capT ∧ Chg No W w') := fun W hW => by
    refine (ref01Times_any c (ht.no monoE_good hW) (-1) (ht_neg hB).1 (ht_neg hB).2).mono ?_
    rintro e w' ⟨v, rfl, g, hc⟩
    obtain ⟨AN, capN, e', hs⟩ := g.sl monoV_good (by show (scale (-1) t).length * 16 ≤ big; rw [scale_len]; have := (linB_sound hB).2.1; unfold big; omega)
    exact ⟨AN, capN, by rw [e'], hs.mono monoE_good (fun k _ hk => hk.elim id (fun f => f.elim)), hc⟩
  have HL2 := Lib.hid (fun (W : World) A' cap' R' (h : Monos R' W A' (scale (-1) t) cap') => (refLiteral_any (-c) h).mono (fun _ _ g => g.shape))
  have hcn : IntKind.i64.wrap (-c) = -c := by rw [IntKind.wrap_i64]; have := coefB_le (linB_sound hB).1; omega
  have hc1 := (coefB_le (linB_sound hB).1).1
  have hc2 := (coefB_le (linB_sound hB).1).2
  obtain ⟨x, hx⟩ : ∃ x, x = leafForm kd c t nt := ⟨_, rfl⟩
  obtain ⟨er, her⟩ : ∃ er, er = leafErr kd c t := ⟨_, rfl⟩
  obtain ⟨eb, heb⟩ : ∃ eb, eb = decide (leafErr kd c t = 0) := ⟨_, rfl⟩
  rw [← hx, ← heb]
  have HX := Lib.hid hx
  have HE := Lib.hid her
  rw [← her] at heb
  have HEB := Lib.hid heb
  clear hx her heb
  have hO1 := litForm_ok c t
  have hO2 := litForm_ok (-c) (scale (-1) t)
  have h1 := litErr_two hB
  have h2 := litErr_two (linB_neg hB)
  have HI : Hid (I64 0 ∧ I64 5 ∧ I64 6) := by unfold Hid I64; decide
  have HF0 : Hid (litErr c t ≠ 0 → litForm c t = leaf2 0) := fun h => litForm_far h
  unfold Hid at HX HE
  unfold leafForm at HX
  rw [← HE] at HX
  unfold leafErr at HE
  clear ht hB
  generalize litErr c t = e1 at *
  generalize litErr (-c) (scale (-1) t) = e2 at *
  generalize litForm c t = fa at *
  generalize litForm (-c) (scale (-1) t) = fb at *
  generalize hsc : scale (-1) t = st at *
  have hl2 : st.length = t.length := by rw [← hsc, scale_len]
  rw [hl2] at HT HL2
  clear hsc
  generalize t.length = tl at *
  have HX' := Lib.hid HX
  have HE' := Lib.hid HE
  have HO1 := Lib.hid hO1
  have HO2 := Lib.hid hO2
  have HLS := Lib.hid hl2
  clear HX HE hO1 hO2 hl2
  obtain ⟨w3, hw3⟩ : ∃ w3, w3 = (w.alloc (.cells #[.int .i64 kd, .int .i64 c, .slice A tl cap, .slice B kl capk] 28)).alloc (.cells #[.int .i64 0, .int .i64 0, .slice none 0 0, .slice none 0 0] 28) := ⟨_, rfl⟩
  have h3 : Hid (Chg No w w3 ∧ w3.heap[w.heap.size]? = some (.cells #[.int .i64 kd, .int .i64 c, .slice A tl cap, .slice B kl capk] 28 (0, 0)) ∧ w3.heap[w.heap.size + 1]? = some (.cells #[.int .i64 0, .int .i64 0, .slice none 0 0, .slice none 0 0] 28 (0, 0)) ∧ w3.heap.size = w.heap.size + 2) := by
    rw [hw3]; exact ⟨((Chg.refl _ _).alloc _).alloc _, at_old (heap_alloc_new _ _), at_new (by simp), by simp⟩
  have HSET : Hid (∀ W u0 u1 u2 u3, Chg No w3 W → Chg No w ((((W.setCell ⟨w.heap.size + 1, 0, none⟩ u0).setCell ⟨w.heap.size + 1, 1, none⟩ u1).setCell ⟨w.heap.size + 1, 2, none⟩ u2).setCell ⟨w.heap.size + 1, 3, none⟩ u3)) := fun W u0 u1 u2 u3 hW =>
    chgpast (h3.out.1.thenNo hW) (set4_chg _ W u0 u1 u2 u3) (fun k hk => by omega)
  have HRET : Hid (∀ (n : Nat) (y : FT n) (W : World) (R5 : Nat → Prop) (u0 u1 u2 u3 : Value), Chg No w3 W → (∀ k, R5 k → w3.heap.size ≤ k) → (formV n) R5 W [u0, u1, u2, u3] y →
      (formV n) (fun k => No k ∨ w.heap.size ≤ k) ((((W.setCell ⟨w.heap.size + 1, 0, none⟩ u0).setCell ⟨w.heap.size + 1, 1, none⟩ u1).setCell ⟨w.heap.size + 1, 2, none⟩ u2).setCell ⟨w.heap.size + 1, 3, none⟩ u3) [u0, u1, u2, u3] y) := fun n y W R5 u0 u1 u2 u3 hW h5 hy => by
    have hz := h3.out.2.2.2
    exact (formV_good n).mono ((formV_good n).chg hy (set4_chg (w.heap.size + 1) W u0 u1 u2 u3) (fun k hk e => by have := h5 k hk; omega)) (fun k _ hk => .inr (by have := h5 k hk; omega))
  have HFIN2 : Hid (∀ (kk : Int) (x y : FT 2) (cx cy : List Value) (W : World) (q : Nat) (R5 : Nat → Prop), I64 kk → Chg No w3 W → (∀ k, R5 k → w3.heap.size ≤ k) → R5 q → W.heap[q]? = some (.cells (cx ++ cy).toArray 28 (0, 0)) → (formV 2) R5 W cx x → (formV 2) R5 W cy y →
      (formV 3) (fun k => No k ∨ w.heap.size ≤ k) ((((W.setCell ⟨w.heap.size + 1, 0, none⟩ (.int .i64 kk)).setCell ⟨w.heap.size + 1, 1, none⟩ (.int .i64 0)).setCell ⟨w.heap.size + 1, 2, none⟩ (.slice none 0 0)).setCell ⟨w.heap.size + 1, 3, none⟩ (.slice (some ⟨q, 0, none⟩) 2 2)) [.int .i64 kk, .int .i64 0, .slice none 0 0, .slice (some ⟨q, 0, none⟩) 2 2] (⟨kk, (0, []), [x, y]⟩ : Node (FT 2))) := fun kk x y cx cy W q R5 hkk hW h5 hq hb hx hy =>
    HRET.out 3 _ W R5 _ _ _ _ hW h5 ⟨none, 0, some ⟨q, 0, none⟩, 2, rfl, hkk, HI.out.1, Sl.empty, by rw [formV_sz]; exact forms_two hb hq hx hy⟩
  obtain ⟨p0, p1, p2, p3⟩ := obj_four h3.out.2.1
  rcases hkd with rfl | rfl
  · clear HT HL2 h2 hc1 hc2 hcn
    go_enter Try.func41, Try.ntmps41
    go_upto_region 1 with fail
    rw [← hw3]
    clear hw3
    go_upto_region 9 with (go_at_call 11; refine (HL.out _ h3.out.1).mono ?_; rintro e w4 ⟨ka, ca, Aa, la, aa, Ba, ma, ba, rfl, g4, h4⟩; have G4 := Lib.hid g4; have H4 := Lib.hid h4; clear g4 h4)
    obtain ⟨w5, hw5⟩ : ∃ w5, w5 = w4.alloc (.cells #[.int .i64 ka, .int .i64 ca, .slice Aa la aa, .slice Ba ma ba] 28) := ⟨_, rfl⟩
    rw [← hw5]
    have h5 : Hid (Chg No w3 w5 ∧ w5.heap[w4.heap.size]? = some (.cells #[.int .i64 ka, .int .i64 ca, .slice Aa la aa, .slice Ba ma ba] 28 (0, 0)) ∧ (formV 2) (fun k => w3.heap.size ≤ k ∧ k < w4.heap.size) w5 [.int .i64 ka, .int .i64 ca, .slice Aa la aa, .slice Ba ma ba] fa ∧ w3.heap.size ≤ w4.heap.size ∧ w5.heap.size = w4.heap.size + 1) := by
      rw [hw5]
      exact ⟨H4.out.alloc _, heap_alloc_new _ _, (formV_good 2).no ((formV_good 2).mono G4.out (fun k hk h => ⟨h, hk⟩)) ((Chg.refl _ _).alloc _), H4.out.size, by simp⟩
    clear hw5 p0 p1 p2 p3
    obtain ⟨⟨q0, q1, q2, q3⟩, y0, y1, y2, y3⟩ := obj_frm h5.out.2.1
    obtain ⟨⟨r0, r1, r2, r3⟩, f0, f1, f2, f3⟩ := obj_frm (h5.out.1.obj h3.out.2.2.1 id)
    rcases h1 with rfl | rfl
    rotate_left
    · have er3 : er = 3 := by rw [HE'.out]; simp
      have ex : x = zF 2 := by rw [HX'.out, er3]; simp
      have eb3 : eb = false := by rw [HEB.out, er3]; rfl
      have ea : fa = leaf2 0 := HF0.out (by decide)
      subst eb3; subst ex; subst ea
      clear HE' HX' HEB er3
      have HU := Lib.hid (formV_up 2 _ _ _ _ h5.out.2.2.1)
      cases nt
      all_goals
        go_wp2_with fail
        exact bodyPost_ret (v := .tuple #[.agg #[.int .i64 ka, .int .i64 ca, .slice Aa la aa, .slice Ba ma ba], .bool false]) (by simp [results, Try.results41, go_sem, r0, r1, r2, r3]) rfl ⟨[.int .i64 ka, .int .i64 ca, .slice Aa la aa, .slice Ba ma ba], rfl, HRET.out 3 _ _ _ _ _ _ _ h5.out.1 (fun k hk => hk.1) HU.out, HSET.out _ _ _ _ _ h5.out.1⟩
    · have er0 : er = 0 := by rw [HE'.out]; simp
      have ex : x = upF 2 (if nt = true then oppL fa else fa) := by rw [HX'.out, er0]; simp
      have eb3 : eb = true := by rw [HEB.out, er0]; rfl
      subst eb3; subst ex
      clear HE' HX' HEB er0 HF0
      cases nt
      · clear y0 y1 y2 y3
        go_wp2_with fail
        exact bodyPost_ret (v := .tuple #[.agg #[.int .i64 ka, .int .i64 ca, .slice Aa la aa, .slice Ba ma ba], .bool true]) (by simp [results, Try.results41, go_sem, r0, r1, r2, r3]) rfl ⟨[.int .i64 ka, .int .i64 ca, .slice Aa la aa, .slice Ba ma ba], rfl, HRET.out 3 _ _ _ _ _ _ _ h5.out.1 (fun k hk => hk.1) (formV_up 2 _ _ _ _ h5.out.2.2.1), HSET.out _ _ _ _ _ h5.out.1⟩
      · have HOp := Lib.hid ((refOpposite_any fa HO1.out h5.out.2.2.1).mono (fun _ _ g => g.shape))
        clear r0 r1 r2 r3 f0 f1 f2 f3 y0 y1 y2 y3
        go_upto_region 11 with (go_at_call 57; refine HOp.out.mono ?_; rintro e w6 ⟨ko, co, Ao, lo, ao, Bo, mo, bo, rfl, g6, h6⟩; have G6 := Lib.hid g6; have H6 := Lib.hid h6; clear g6 h6; obtain ⟨⟨z0, z1, z2, z3⟩, y0, y1, y2, y3⟩ := obj_frm (H6.out.obj h5.out.2.1 id))
        obtain ⟨w7, hw7⟩ : ∃ w7, w7 = (((w6.setCell ⟨w4.heap.size, 0, none⟩ (.int .i64 ko)).setCell ⟨w4.heap.size, 1, none⟩ (.int .i64 co)).setCell ⟨w4.heap.size, 2, none⟩ (.slice Ao lo ao)).setCell ⟨w4.heap.size, 3, none⟩ (.slice Bo mo bo) := ⟨_, rfl⟩
        rw [← hw7]
        have h7 : Hid (Chg No w3 w7 ∧ w7.heap[w4.heap.size]? = some (.cells #[.int .i64 ko, .int .i64 co, .slice Ao lo ao, .slice Bo mo bo] 28 (0, 0)) ∧ (formV 2) (fun k => (w3.heap.size ≤ k ∧ k < w4.heap.size) ∨ w5.heap.size ≤ k) w7 [.int .i64 ko, .int .i64 co, .slice Ao lo ao, .slice Bo mo bo] (oppL fa)) := by
          rw [hw7]
          have hs := set4_chg w4.heap.size w6 (.int .i64 ko) (.int .i64 co) (.slice Ao lo ao) (.slice Bo mo bo)
          have h48 := h5.out.2.2.2.2
          have h34 := h5.out.2.2.2.1
          exact ⟨chgpast (h5.out.1.thenNo H6.out) hs (fun k hk => by omega), objset _ (objset _ (objset _ (objset _ (H6.out.obj h5.out.2.1 id)))), (formV_good 2).chg G6.out hs (fun k hk e => by omega)⟩
        clear hw7 z0 z1 z2 z3 y0 y1 y2 y3 q0 q1 q2 q3
        obtain ⟨q0, q1, q2, q3⟩ := obj_four h7.out.2.1
        obtain ⟨⟨r0, r1, r2, r3⟩, f0, f1, f2, f3⟩ := obj_frm (h7.out.1.obj h3.out.2.2.1 id)
        go_wp2_with fail
        exact bodyPost_ret (v := .tuple #[.agg #[.int .i64 ko, .int .i64 co, .slice Ao lo ao, .slice Bo mo bo], .bool true]) (by simp [results, Try.results41, go_sem, r0, r1, r2, r3]) rfl ⟨[.int .i64 ko, .int .i64 co, .slice Ao lo ao, .slice Bo mo bo], rfl, HRET.out 3 _ _ _ _ _ _ _ h7.out.1 (fun k hk => by have := h5.out.2.2.2.1; have := h5.out.2.2.2.2; omega) (formV_up 2 _ _ _ _ h7.out.2.2), HSET.out _ _ _ _ _ h7.out.1⟩
  -- an equation
  go_enter Try.func41, Try.ntmps41
  go_upto_region 1 with fail
  rw [← hw3]
  clear hw3
  go_upto_region 14 with (go_at_call 11; refine (HL.out _ h3.out.1).mono ?_; rintro e w4 ⟨ka, ca, Aa, la, aa, Ba, ma, ba, rfl, g4, h4⟩; have G4 := Lib.hid g4; have H4 := Lib.hid h4; clear g4 h4)
  obtain ⟨w5, hw5⟩ : ∃ w5, w5 = w4.alloc (.cells #[.int .i64 ka, .int .i64 ca, .slice Aa la aa, .slice Ba ma ba] 28) := ⟨_, rfl⟩
  rw [← hw5]
  have h5 : Hid (Chg No w3 w5 ∧ w5.heap[w4.heap.size]? = some (.cells #[.int .i64 ka, .int .i64 ca, .slice Aa la aa, .slice Ba ma ba] 28 (0, 0)) ∧ (formV 2) (fun k => w3.heap.size ≤ k ∧ k < w4.heap.size) w5 [.int .i64 ka, .int .i64 ca, .slice Aa la aa, .slice Ba ma ba] fa ∧ w3.heap.size ≤ w4.heap.size ∧ w5.heap.size = w4.heap.size + 1) := by
    rw [hw5]
    exact ⟨H4.out.alloc _, heap_alloc_new _ _, (formV_good 2).no ((formV_good 2).mono G4.out (fun k hk h => ⟨h, hk⟩)) ((Chg.refl _ _).alloc _), H4.out.size, by simp⟩
  clear hw5 p0 p1 p2 p3
  obtain ⟨p0, p1, p2, p3⟩ := obj_four (h5.out.1.obj h3.out.2.1 id)
  have HCUT := Lib.hid (Chg.refl No w5)
  go_cut [10, 11] (fun s10 s11 wx => ∃ pb kb cb Ab lb ab Bb mb bb, s10 = .pointer (some ⟨pb, 0, none⟩) ∧ s11 = .int .i64 e2 ∧ Hid (wx.heap[pb]? = some (.cells #[.int .i64 kb, .int .i64 cb, .slice Ab lb ab, .slice Bb mb bb] 28 (0, 0)) ∧ (formV 2) (fun k => w5.heap.size ≤ k) wx [.int .i64 kb, .int .i64 cb, .slice Ab lb ab, .slice Bb mb bb] fb ∧ Chg No w5 wx))
  case first =>
    have HP5 : Hid (∀ W, Chg No w5 W → W.cell? ⟨w.heap.size, 0, none⟩ = some (.int .i64 3) ∧ W.cell? ⟨w.heap.size, 1, none⟩ = some (.int .i64 c) ∧ W.cell? ⟨w.heap.size, 2, none⟩ = some (.slice A tl cap)) := fun W hW => ⟨hW.cell p0 id, hW.cell p1 id, hW.cell p2 id⟩
    have HT5 : Hid (∀ W, Chg No w5 W → Calls Try.prog 31 #[.agg #[.int .i64 c, .slice A tl cap], .int .i64 (-1)] W fun e w' => ∃ AT capT, e = .returned (.slice AT tl capT) ∧ (w'.cell? ⟨w.heap.size, 0, none⟩ = some (.int .i64 3) ∧ w'.cell? ⟨w.heap.size, 1, none⟩ = some (.int .i64 c) ∧ w'.cell? ⟨w.heap.size, 2, none⟩ = some (.slice A tl cap)) ∧ Hid (Monos (fun k => w5.heap.size ≤ k) w' AT st capT ∧ Chg No w5 w' ∧ Chg No W w')) := fun W hW => by
      refine (HT.out W ((h3.out.1.thenNo h5.out.1).thenNo hW)).mono ?_
      rintro e w' ⟨AT, capT, rfl, g, hc⟩
      have z := hW.size
      exact ⟨AT, capT, rfl, HP5.out _ (hW.thenNo hc), g.mono monoE_good (fun k _ h => Nat.le_trans z h), hW.thenNo hc, hc⟩
    have HL5 : Hid (∀ W AT capT, Monos (fun k => w5.heap.size ≤ k) W AT st capT → Chg No w5 W → Calls Try.prog 11 #[.agg #[.int .i64 (-c), .slice AT tl capT]] W fun e w' => ∃ kb cb Ab lb ab Bb mb bb, e = .returned (.tuple #[.agg #[.int .i64 kb, .int .i64 cb, .slice Ab lb ab, .slice Bb mb bb], .int .i64 e2]) ∧ Hid ((formV 2) (fun k => W.heap.size ≤ k) w' [.int .i64 kb, .int .i64 cb, .slice Ab lb ab, .slice Bb mb bb] fb ∧ Chg No w5 w' ∧ Chg No W w')) := fun W AT capT hM hW => by
      refine (HL2.out W AT capT _ hM).mono ?_
      rintro e w' ⟨kb, cb, Ab, lb, ab, Bb, mb, bb, rfl, g, hc⟩
      exact ⟨kb, cb, Ab, lb, ab, Bb, mb, bb, rfl, g, hW.thenNo hc, hc⟩
    have HZB : Hid (∀ (p : Nat) (W : World), W.heap[p]? = some (.cells #[.int .i64 0, .int .i64 0, .slice none 0 0, .slice none 0 0] 28 (0, 0)) → (W.cell? ⟨p, 0, none⟩ = some (.int .i64 0) ∧ W.cell? ⟨p, 1, none⟩ = some (.int .i64 0) ∧ W.cell? ⟨p, 2, none⟩ = some (.slice none 0 0) ∧ W.cell? ⟨p, 3, none⟩ = some (.slice none 0 0)) ∧ W.frozen? ⟨p, 0, none⟩ = false ∧ W.frozen? ⟨p, 1, none⟩ = false ∧ W.frozen? ⟨p, 2, none⟩ = false ∧ W.frozen? ⟨p, 3, none⟩ = false) := fun p W h => obj_frm h
    -- the ends
    have HEA : Hid (∀ (W W0 : World) (kb cb : Int) (Ab : Option Addr) (lb ab : Nat) (Bb : Option Addr) (mb bb : Nat), Chg No w5 W0 → Chg No w5 W → (formV 2) (fun k => W0.heap.size ≤ k) W [.int .i64 kb, .int .i64 cb, .slice Ab lb ab, .slice Bb mb bb] fb → Hid ((W.alloc (.cells #[.int .i64 kb, .int .i64 cb, .slice Ab lb ab, .slice Bb mb bb] 28)).heap[W.heap.size]? = some (.cells #[.int .i64 kb, .int .i64 cb, .slice Ab lb ab, .slice Bb mb bb] 28 (0, 0)) ∧ (formV 2) (fun k => w5.heap.size ≤ k) (W.alloc (.cells #[.int .i64 kb, .int .i64 cb, .slice Ab lb ab, .slice Bb mb bb] 28)) [.int .i64 kb, .int .i64 cb, .slice Ab lb ab, .slice Bb mb bb] fb ∧ Chg No w5 (W.alloc (.cells #[.int .i64 kb, .int .i64 cb, .slice Ab lb ab, .slice Bb mb bb] 28)))) := fun W W0 kb cb Ab lb ab Bb mb bb h0 h1 g =>
      ⟨heap_alloc_new _ _, (formV_good 2).no ((formV_good 2).mono g (fun k _ h => Nat.le_trans h0.size h)) ((Chg.refl _ _).alloc _), h1.alloc _⟩
    have HEB2 : Hid (∀ (p : Nat) (W W0 : World) (kb cb : Int) (Ab : Option Addr) (lb ab : Nat) (Bb : Option Addr) (mb bb : Nat), w5.heap.size ≤ p → p < W0.heap.size → Chg No w5 W0 → Chg No w5 W → (formV 2) (fun k => W0.heap.size ≤ k) W [.int .i64 kb, .int .i64 cb, .slice Ab lb ab, .slice Bb mb bb] fb → W.heap[p]? = some (.cells #[.int .i64 0, .int .i64 0, .slice none 0 0, .slice none 0 0] 28 (0, 0)) → ∀ V, ((((W.setCell ⟨p, 0, none⟩ (.int .i64 kb)).setCell ⟨p, 1, none⟩ (.int .i64 cb)).setCell ⟨p, 2, none⟩ (.slice Ab lb ab)).setCell ⟨p, 3, none⟩ (.slice Bb mb bb)) = V → Hid (V.heap[p]? = some (.cells #[.int .i64 kb, .int .i64 cb, .slice Ab lb ab, .slice Bb mb bb] 28 (0, 0)) ∧ (formV 2) (fun k => w5.heap.size ≤ k) V [.int .i64 kb, .int .i64 cb, .slice Ab lb ab, .slice Bb mb bb] fb ∧ Chg No w5 V)) := fun p W W0 kb cb Ab lb ab Bb mb bb hp hpl h0 h1 g hz V hV => by
      subst hV
      have hs := set4_chg p W (.int .i64 kb) (.int .i64 cb) (.slice Ab lb ab) (.slice Bb mb bb)
      exact ⟨objset (j := 3) _ (objset (j := 2) _ (objset (j := 1) _ (objset (j := 0) _ hz))), (formV_good 2).mono ((formV_good 2).chg g hs (fun k hk e => by have hk' : W0.heap.size ≤ k := hk; omega)) (fun k _ h => Nat.le_trans h0.size h), chgpast h1 hs (fun k hk => by omega)⟩
    have HT1 := Lib.hid (HT5.out w5.drew (Chg.refl No w5).drew)
    have HT2 := Lib.hid (HT5.out (w5.alloc (.cells #[.int .i64 0, .int .i64 0, .slice none 0 0, .slice none 0 0] 28)).drew ((Chg.refl No w5).alloc (.cells #[.int .i64 0, .int .i64 0, .slice none 0 0, .slice none 0 0] 28)).drew)
    have HAL : Hid (∀ W : World, Chg No W (W.alloc (.cells #[.int .i64 0, .int .i64 0, .slice none 0 0, .slice none 0 0] 28)) ∧ (W.alloc (.cells #[.int .i64 0, .int .i64 0, .slice none 0 0, .slice none 0 0] 28)).heap[W.heap.size]? = some (.cells #[.int .i64 0, .int .i64 0, .slice none 0 0, .slice none 0 0] 28 (0, 0)) ∧ W.heap.size < (W.alloc (.cells #[.int .i64 0, .int .i64 0, .slice none 0 0, .slice none 0 0] 28)).heap.size) := fun W => ⟨(Chg.refl _ _).alloc _, heap_alloc_new _ _, by simp⟩
    obtain ⟨k0, k1, k2⟩ := HP5.out _ (HAL.out w5).1
    clear HL HT HL2 HSET HRET HFIN2 h3 h5 h1 h2 HF0 HO1 HO2 HX' HE' HEB HI G4 H4 p3 HCUT HLS
    go_region_law
      ((first
        | (go_simp; go_at_call 11; (with_reducible refine HL7.out.mono ?_); rintro e w8 ⟨kb, cb, Ab, lb, ab, Bb, mb, bb, rfl, G8⟩; first | (have Z8 := Lib.hid (G8.out.2.2.obj Z7.out id); obtain ⟨⟨z0, z1, z2, z3⟩, y0, y1, y2, y3⟩ := HZB.out _ w8 Z8.out) | skip)
        | (go_simp; go_at_call 11; (with_reducible refine HL7a.out.mono ?_); rintro e w8 ⟨kb, cb, Ab, lb, ab, Bb, mb, bb, rfl, G8⟩; have Z8a := Lib.hid (G8.out.2.2.obj (HAL.out w7).2.1 id); obtain ⟨⟨z0, z1, z2, z3⟩, y0, y1, y2, y3⟩ := HZB.out _ w8 Z8a.out)
        | (go_simp; go_at_call 31; (with_reducible refine HT1.out.mono ?_); rintro e w7 ⟨AT, capT, rfl, ⟨s0, s1, s2⟩, G7⟩; have HL7 := Lib.hid (HL5.out w7 AT capT G7.out.1 G7.out.2.1); have HL7a := Lib.hid (HL5.out (w7.alloc (.cells #[.int .i64 0, .int .i64 0, .slice none 0 0, .slice none 0 0] 28)) AT capT (G7.out.1.no monoE_good (HAL.out w7).1) (G7.out.2.1.thenNo (HAL.out w7).1)); obtain ⟨t0, t1, t2⟩ := HP5.out _ (G7.out.2.1.thenNo (HAL.out w7).1))
        | (go_simp; go_at_call 31; (with_reducible refine HT2.out.mono ?_); rintro e w7 ⟨AT, capT, rfl, ⟨s0, s1, s2⟩, G7⟩; have HL7 := Lib.hid (HL5.out w7 AT capT G7.out.1 G7.out.2.1); have Z7 := Lib.hid (G7.out.2.2.obj (HAL.out w5).2.1 id); have Z9 : Hid (w5.heap.size < w7.heap.size) := Nat.lt_of_lt_of_le (HAL.out w5).2.2 G7.out.2.2.size)))
    all_goals
      go_wp2_with fail
      go_meet
      first
        | with_reducible exact ⟨_, _, _, _, _, _, _, _, _, rfl, rfl, HEA.out w8 w7 _ _ _ _ _ _ _ _ G7.out.2.1 G8.out.2.1 G8.out.1⟩
        | with_reducible exact ⟨_, _, _, _, _, _, _, _, _, rfl, rfl, HEB2.out w5.heap.size w8 w7 _ _ _ _ _ _ _ _ (Nat.le_refl _) Z9.out G7.out.2.1 G8.out.2.1 G8.out.1 Z8.out _ rfl⟩
        | with_reducible exact ⟨_, _, _, _, _, _, _, _, _, rfl, rfl, HEB2.out w7.heap.size w8 (w7.alloc (.cells #[.int .i64 0, .int .i64 0, .slice none 0 0, .slice none 0 0] 28)) _ _ _ _ _ _ _ _ G7.out.2.1.size (HAL.out w7).2.2 (G7.out.2.1.thenNo (HAL.out w7).1) G8.out.2.1 G8.out.1 Z8a.out _ rfl⟩
  case rest =>
  obtain ⟨pb, kb, cb, Ab, lb, ab, Bb, mb, bb, rfl, rfl, GB⟩ := hcut
  obtain ⟨wm, rfl⟩ : ∃ wm, wm = wc := ⟨_, rfl⟩
  have hm : Hid (wm.heap[w4.heap.size]? = some (.cells #[.int .i64 ka, .int .i64 ca, .slice Aa la aa, .slice Ba ma ba] 28 (0, 0)) ∧ wm.heap[pb]? = some (.cells #[.int .i64 kb, .int .i64 cb, .slice Ab lb ab, .slice Bb mb bb] 28 (0, 0)) ∧ (formV 2) (fun k => w3.heap.size ≤ k) wm [.int .i64 ka, .int .i64 ca, .slice Aa la aa, .slice Ba ma ba] fa ∧ (formV 2) (fun k => w3.heap.size ≤ k) wm [.int .i64 kb, .int .i64 cb, .slice Ab lb ab, .slice Bb mb bb] fb ∧ w3.heap.size ≤ wm.heap.size ∧ Chg No w3 wm) := by
    have hc := GB.out.2.2
    have z1 := h5.out.1.size
    refine ⟨hc.obj h5.out.2.1 id, GB.out.1, (formV_good 2).mono ((formV_good 2).no h5.out.2.2.1 hc) (fun k _ h => h.1), (formV_good 2).mono GB.out.2.1 (fun k _ h => by omega), ?_, h5.out.1.thenNo hc⟩
    have := hc.size; omega
  clear p0 p1 p2 p3 GB HT hc1 hc2 hcn
  obtain ⟨q0, q1, q2, q3⟩ := obj_four hm.out.1
  obtain ⟨m0, m1, m2, m3⟩ := obj_four hm.out.2.1
  obtain ⟨⟨r0, r1, r2, r3⟩, f0, f1, f2, f3⟩ := obj_frm (hm.out.2.2.2.2.2.obj h3.out.2.2.1 id)
  by_cases hfar : e1 = 3 ∨ e2 = 3
  · have er3 : er = 3 := by rw [HE'.out]; rcases hfar with h | h <;> rcases h1 with g | g <;> simp [h, g]
    have ex : x = zF 2 := by rw [HX'.out, er3]; simp
    have eb3 : eb = false := by rw [HEB.out, er3]; rfl
    subst eb3; subst ex
    clear HE' HX' HEB er3
    have HS2 := Lib.hid (HSET.out wm (.int .i64 0) (.int .i64 0) (.slice none 0 0) (.slice none 0 0) hm.out.2.2.2.2.2)
    have h3' : e1 = 3 ∨ (e1 = 0 ∧ e2 = 3) := by omega
    clear h1 h2 hfar
    rcases h3' with rfl | ⟨rfl, rfl⟩
    all_goals
      go_wp2_with fail
      exact bodyPost_ret (v := .tuple #[.agg #[.int .i64 0, .int .i64 0, .slice none 0 0, .slice none 0 0], .bool false]) (by simp [results, Try.results41, go_sem, r0, r1, r2, r3]) rfl ⟨[.int .i64 0, .int .i64 0, .slice none 0 0, .slice none 0 0], rfl, leaf_cells 0 HI.out.1, HS2.out⟩
  obtain ⟨rfl, rfl⟩ : e1 = 0 ∧ e2 = 0 := by omega
  have er0 : er = 0 := by rw [HE'.out]; simp
  have eb3 : eb = true := by rw [HEB.out, er0]; rfl
  subst eb3
  have HX2 : Hid (x = (if nt = true then (⟨6, (0, []), [oppL fa, oppL fb]⟩ : Node (FT 2)) else (⟨5, (0, []), [fa, fb]⟩ : Node (FT 2)))) := by unfold Hid; rw [HX'.out, er0, if_neg (by decide), if_neg (by decide)]; rfl
  clear h1 h2 hfar er0 HEB HF0 HX'
  cases nt
  · obtain rfl : x = (⟨5, (0, []), [fa, fb]⟩ : Node (FT 2)) := HX2.out
    clear r0 r1 r2 r3 f0 f1 f2 f3
    have HKB : Hid (Chg No wm (wm.alloc (.cells #[.int .i64 ka, .int .i64 ca, .slice Aa la aa, .slice Ba ma ba, .int .i64 kb, .int .i64 cb, .slice Ab lb ab, .slice Bb mb bb] 28)) ∧ (wm.alloc (.cells #[.int .i64 ka, .int .i64 ca, .slice Aa la aa, .slice Ba ma ba, .int .i64 kb, .int .i64 cb, .slice Ab lb ab, .slice Bb mb bb] 28)).heap[wm.heap.size]? = some (.cells ([Value.int .i64 ka, .int .i64 ca, .slice Aa la aa, .slice Ba ma ba] ++ [Value.int .i64 kb, .int .i64 cb, .slice Ab lb ab, .slice Bb mb bb]).toArray 28 (0, 0))) := ⟨(Chg.refl _ _).alloc _, heap_alloc_new _ _⟩
    obtain ⟨⟨r0, r1, r2, r3⟩, f0, f1, f2, f3⟩ := obj_frm (HKB.out.1.obj (hm.out.2.2.2.2.2.obj h3.out.2.2.1 id) id)
    have HW := Lib.hid (HFIN2.out 5 fa fb _ _ _ wm.heap.size (fun k => w3.heap.size ≤ k) HI.out.2.1 (hm.out.2.2.2.2.2.thenNo HKB.out.1) (fun k h => h) hm.out.2.2.2.2.1 HKB.out.2 ((formV_good 2).no hm.out.2.2.1 HKB.out.1) ((formV_good 2).no hm.out.2.2.2.1 HKB.out.1))
    have HS2 := Lib.hid (HSET.out _ (.int .i64 5) (.int .i64 0) (.slice none 0 0) (.slice (some ⟨wm.heap.size, 0, none⟩) 2 2) (hm.out.2.2.2.2.2.thenNo HKB.out.1))
    clear HKB
    go_wp2_with fail
    exact bodyPost_ret (v := .tuple #[.agg #[.int .i64 5, .int .i64 0, .slice none 0 0, .slice (some ⟨wm.heap.size, 0, none⟩) 2 2], .bool true]) (by simp [results, Try.results41, go_sem, r0, r1, r2, r3]) rfl ⟨[.int .i64 5, .int .i64 0, .slice none 0 0, .slice (some ⟨wm.heap.size, 0, none⟩) 2 2], rfl, HW.out, HS2.out⟩
  · obtain rfl : x = (⟨6, (0, []), [oppL fa, oppL fb]⟩ : Node (FT 2)) := HX2.out
    clear r0 r1 r2 r3 f0 f1 f2 f3
    have HS := Lib.hid hm.out.2.2.2.2.2
    have HOA : Hid (∀ W, Chg No wm W → Calls Try.prog 57 #[.agg #[.int .i64 ka, .int .i64 ca, .slice Aa la aa, .slice Ba ma ba]] W fun e w_ => (∃ k1 c1 A1 l1 a1 B1 m1 b1, e = .returned (.agg #[.int .i64 k1, .int .i64 c1, .slice A1 l1 a1, .slice B1 m1 b1]) ∧ (w_.cell? ⟨w4.heap.size, 0, none⟩ = some (.int .i64 ka) ∧ w_.cell? ⟨w4.heap.size, 1, none⟩ = some (.int .i64 ca) ∧ w_.cell? ⟨w4.heap.size, 2, none⟩ = some (.slice Aa la aa) ∧ w_.cell? ⟨w4.heap.size, 3, none⟩ = some (.slice Ba ma ba)) ∧ (w_.cell? ⟨pb, 0, none⟩ = some (.int .i64 kb) ∧ w_.cell? ⟨pb, 1, none⟩ = some (.int .i64 cb) ∧ w_.cell? ⟨pb, 2, none⟩ = some (.slice Ab lb ab) ∧ w_.cell? ⟨pb, 3, none⟩ = some (.slice Bb mb bb)) ∧ Hid ((formV 2) (fun k => w3.heap.size ≤ k) w_ [.int .i64 k1, .int .i64 c1, .slice A1 l1 a1, .slice B1 m1 b1] (oppL fa) ∧ Chg No wm w_ ∧ Chg No W w_))) := fun W hW => by
      refine (refOpposite_any _ HO1.out ((formV_good 2).no hm.out.2.2.1 hW)).mono ?_
      rintro e w_ g
      obtain ⟨k1, c1, A1, l1, a1, B1, m1, b1, rfl, g1, g2⟩ := g.shape
      have h_ := hW.thenNo g2
      refine ⟨k1, c1, A1, l1, a1, B1, m1, b1, rfl, obj_four (h_.obj hm.out.1 id), obj_four (h_.obj hm.out.2.1 id), (formV_good 2).mono g1 (fun k _ hk => ?_), h_, g2⟩
      have z := hm.out.2.2.2.2.1
      have z2 := hW.size
      rcases hk with hk | hk <;> omega
    have HOB : Hid (∀ W, Chg No wm W → Calls Try.prog 57 #[.agg #[.int .i64 kb, .int .i64 cb, .slice Ab lb ab, .slice Bb mb bb]] W fun e w_ => (∃ k2 c2 A2 l2 a2 B2 m2 b2, e = .returned (.agg #[.int .i64 k2, .int .i64 c2, .slice A2 l2 a2, .slice B2 m2 b2]) ∧ (w_.cell? ⟨w4.heap.size, 0, none⟩ = some (.int .i64 ka) ∧ w_.cell? ⟨w4.heap.size, 1, none⟩ = some (.int .i64 ca) ∧ w_.cell? ⟨w4.heap.size, 2, none⟩ = some (.slice Aa la aa) ∧ w_.cell? ⟨w4.heap.size, 3, none⟩ = some (.slice Ba ma ba)) ∧ (w_.cell? ⟨pb, 0, none⟩ = some (.int .i64 kb) ∧ w_.cell? ⟨pb, 1, none⟩ = some (.int .i64 cb) ∧ w_.cell? ⟨pb, 2, none⟩ = some (.slice Ab lb ab) ∧ w_.cell? ⟨pb, 3, none⟩ = some (.slice Bb mb bb)) ∧ Hid ((formV 2) (fun k => w3.heap.size ≤ k) w_ [.int .i64 k2, .int .i64 c2, .slice A2 l2 a2, .slice B2 m2 b2] (oppL fb) ∧ Chg No wm w_ ∧ Chg No W w_))) := fun W hW => by
      refine (refOpposite_any _ HO2.out ((formV_good 2).no hm.out.2.2.2.1 hW)).mono ?_
      rintro e w_ g
      obtain ⟨k2, c2, A2, l2, a2, B2, m2, b2, rfl, g1, g2⟩ := g.shape
      have h_ := hW.thenNo g2
      refine ⟨k2, c2, A2, l2, a2, B2, m2, b2, rfl, obj_four (h_.obj hm.out.1 id), obj_four (h_.obj hm.out.2.1 id), (formV_good 2).mono g1 (fun k _ hk => ?_), h_, g2⟩
      have z := hm.out.2.2.2.2.1
      have z2 := hW.size
      rcases hk with hk | hk <;> omega
    have HEND : Hid (∀ (W : World) (k1 c1 : Int) (A1 : Option Addr) (l1 a1 : Nat) (B1 : Option Addr) (m1 b1 : Nat) (k2 c2 : Int) (A2 : Option Addr) (l2 a2 : Nat) (B2 : Option Addr) (m2 b2 : Nat), (formV 2) (fun k => w3.heap.size ≤ k) W [.int .i64 k1, .int .i64 c1, .slice A1 l1 a1, .slice B1 m1 b1] (oppL fa) → (formV 2) (fun k => w3.heap.size ≤ k) W [.int .i64 k2, .int .i64 c2, .slice A2 l2 a2, .slice B2 m2 b2] (oppL fb) → Chg No wm W →
        (((W.alloc (.cells #[.int .i64 k1, .int .i64 c1, .slice A1 l1 a1, .slice B1 m1 b1, .int .i64 k2, .int .i64 c2, .slice A2 l2 a2, .slice B2 m2 b2] 28)).cell? ⟨w.heap.size + 1, 0, none⟩ = some (.int .i64 0) ∧ (W.alloc (.cells #[.int .i64 k1, .int .i64 c1, .slice A1 l1 a1, .slice B1 m1 b1, .int .i64 k2, .int .i64 c2, .slice A2 l2 a2, .slice B2 m2 b2] 28)).cell? ⟨w.heap.size + 1, 1, none⟩ = some (.int .i64 0) ∧ (W.alloc (.cells #[.int .i64 k1, .int .i64 c1, .slice A1 l1 a1, .slice B1 m1 b1, .int .i64 k2, .int .i64 c2, .slice A2 l2 a2, .slice B2 m2 b2] 28)).cell? ⟨w.heap.size + 1, 2, none⟩ = some (.slice none 0 0) ∧ (W.alloc (.cells #[.int .i64 k1, .int .i64 c1, .slice A1 l1 a1, .slice B1 m1 b1, .int .i64 k2, .int .i64 c2, .slice A2 l2 a2, .slice B2 m2 b2] 28)).cell? ⟨w.heap.size + 1, 3, none⟩ = some (.slice none 0 0)) ∧ (W.alloc (.cells #[.int .i64 k1, .int .i64 c1, .slice A1 l1 a1, .slice B1 m1 b1, .int .i64 k2, .int .i64 c2, .slice A2 l2 a2, .slice B2 m2 b2] 28)).frozen? ⟨w.heap.size + 1, 0, none⟩ = false ∧ (W.alloc (.cells #[.int .i64 k1, .int .i64 c1, .slice A1 l1 a1, .slice B1 m1 b1, .int .i64 k2, .int .i64 c2, .slice A2 l2 a2, .slice B2 m2 b2] 28)).frozen? ⟨w.heap.size + 1, 1, none⟩ = false ∧ (W.alloc (.cells #[.int .i64 k1, .int .i64 c1, .slice A1 l1 a1, .slice B1 m1 b1, .int .i64 k2, .int .i64 c2, .slice A2 l2 a2, .slice B2 m2 b2] 28)).frozen? ⟨w.heap.size + 1, 2, none⟩ = false ∧ (W.alloc (.cells #[.int .i64 k1, .int .i64 c1, .slice A1 l1 a1, .slice B1 m1 b1, .int .i64 k2, .int .i64 c2, .slice A2 l2 a2, .slice B2 m2 b2] 28)).frozen? ⟨w.heap.size + 1, 3, none⟩ = false) ∧
        Hid ((formV 3) (fun k => No k ∨ w.heap.size ≤ k) ((((((W.alloc (.cells #[.int .i64 k1, .int .i64 c1, .slice A1 l1 a1, .slice B1 m1 b1, .int .i64 k2, .int .i64 c2, .slice A2 l2 a2, .slice B2 m2 b2] 28)).setCell ⟨w.heap.size + 1, 0, none⟩ (.int .i64 6)).setCell ⟨w.heap.size + 1, 1, none⟩ (.int .i64 0)).setCell ⟨w.heap.size + 1, 2, none⟩ (.slice none 0 0)).setCell ⟨w.heap.size + 1, 3, none⟩ (.slice (some ⟨W.heap.size, 0, none⟩) 2 2))) [.int .i64 6, .int .i64 0, .slice none 0 0, .slice (some ⟨W.heap.size, 0, none⟩) 2 2] (⟨6, (0, []), [oppL fa, oppL fb]⟩ : Node (FT 2)) ∧ Chg No w ((((((W.alloc (.cells #[.int .i64 k1, .int .i64 c1, .slice A1 l1 a1, .slice B1 m1 b1, .int .i64 k2, .int .i64 c2, .slice A2 l2 a2, .slice B2 m2 b2] 28)).setCell ⟨w.heap.size + 1, 0, none⟩ (.int .i64 6)).setCell ⟨w.heap.size + 1, 1, none⟩ (.int .i64 0)).setCell ⟨w.heap.size + 1, 2, none⟩ (.slice none 0 0)).setCell ⟨w.heap.size + 1, 3, none⟩ (.slice (some ⟨W.heap.size, 0, none⟩) 2 2))))) := fun W k1 c1 A1 l1 a1 B1 m1 b1 k2 c2 A2 l2 a2 B2 m2 b2 g1 g2 hW => by
      have hA := (Chg.refl No W).alloc (.cells #[.int .i64 k1, .int .i64 c1, .slice A1 l1 a1, .slice B1 m1 b1, .int .i64 k2, .int .i64 c2, .slice A2 l2 a2, .slice B2 m2 b2] 28)
      have hc := (HS.out.thenNo hW).thenNo hA
      refine ⟨obj_frm (hA.obj ((HS.out.thenNo hW).obj h3.out.2.2.1 id) id), HFIN2.out 6 _ _ [.int .i64 k1, .int .i64 c1, .slice A1 l1 a1, .slice B1 m1 b1] [.int .i64 k2, .int .i64 c2, .slice A2 l2 a2, .slice B2 m2 b2] _ W.heap.size (fun k => w3.heap.size ≤ k) HI.out.2.2 hc (fun k h => h) ?_ (heap_alloc_new _ _) ((formV_good 2).no g1 hA) ((formV_good 2).no g2 hA), HSET.out _ _ _ _ _ hc⟩
      have z := hm.out.2.2.2.2.1
      have z2 := hW.size
      omega
    have HOA1 := Lib.hid (HOA.out wm.drew (Chg.refl _ _).drew)
    have HOB1 := Lib.hid (HOB.out wm.drew (Chg.refl _ _).drew)
    clear HL2 HRET HFIN2 HSET h5 hm HI HO1 HO2 HE' h3 G4 H4 HLS HL HCUT
    go_wp2_with fail
    go_region_law
      ((first
        | (go_simp; go_at_call 57; (with_reducible refine HOA2.out.mono ?_); rintro e wA ⟨k1, c1, A1, l1, a1, B1, m1, b1, rfl, ⟨s0, s1, s2, s3⟩, ⟨t0, t1, t2, t3⟩, GA⟩; obtain ⟨⟨⟨r0, r1, r2, r3⟩, f0, f1, f2, f3⟩, GE⟩ := HEND.out wA k1 c1 A1 l1 a1 B1 m1 b1 k2 c2 A2 l2 a2 B2 m2 b2 GA.out.1 ((formV_good 2).no GB.out.1 GA.out.2.2) GA.out.2.1)
        | (go_simp; go_at_call 57; (with_reducible refine HOB2.out.mono ?_); rintro e wB ⟨k2, c2, A2, l2, a2, B2, m2, b2, rfl, ⟨s0, s1, s2, s3⟩, ⟨t0, t1, t2, t3⟩, GB⟩; obtain ⟨⟨⟨r0, r1, r2, r3⟩, f0, f1, f2, f3⟩, GE⟩ := HEND.out wB k1 c1 A1 l1 a1 B1 m1 b1 k2 c2 A2 l2 a2 B2 m2 b2 ((formV_good 2).no GA.out.1 GB.out.2.2) GB.out.1 GB.out.2.1)
        | (go_simp; go_at_call 57; (with_reducible refine HOA1.out.mono ?_); rintro e wA ⟨k1, c1, A1, l1, a1, B1, m1, b1, rfl, ⟨s0, s1, s2, s3⟩, ⟨t0, t1, t2, t3⟩, GA⟩; have HOB2 := Lib.hid (HOB.out wA GA.out.2.1))
        | (go_simp; go_at_call 57; (with_reducible refine HOB1.out.mono ?_); rintro e wB ⟨k2, c2, A2, l2, a2, B2, m2, b2, rfl, ⟨s0, s1, s2, s3⟩, ⟨t0, t1, t2, t3⟩, GB⟩; have HOA2 := Lib.hid (HOA.out wB GB.out.2.1))))
    all_goals
      clear HOA HOB HOA1 HOB1 HEND
      go_wp2_with fail
      first
        | exact bodyPost_ret (v := .tuple #[.agg #[.int .i64 6, .int .i64 0, .slice none 0 0, .slice (some ⟨wA.heap.size, 0, none⟩) 2 2], .bool true]) (by simp [results, Try.results41, go_sem, r0, r1, r2, r3]) rfl ⟨[.int .i64 6, .int .i64 0, .slice none 0 0, .slice (some ⟨wA.heap.size, 0, none⟩) 2 2], rfl, GE.out⟩
        | exact bodyPost_ret (v := .tuple #[.agg #[.int .i64 6, .int .i64 0, .slice none 0 0, .slice (some ⟨wB.heap.size, 0, none⟩) 2 2], .bool true]) (by simp [results, Try.results41, go_sem, r0, r1, r2, r3]) rfl ⟨[.int .i64 6, .int .i64 0, .slice none 0 0, .slice (some ⟨wB.heap.size, 0, none⟩) 2 2], rfl, GE.out⟩
end Go.Proofs.Ytobkihmmdlacnaa
