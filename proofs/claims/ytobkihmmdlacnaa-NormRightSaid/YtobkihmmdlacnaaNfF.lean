/-
  norm.Norm and the reference's Norm.
-/
import Derived.Test.YtobkihmmdlacnaaNfE
namespace Go.Proofs.Ytobkihmmdlacnaa
open Go Go.RowKit

theorem zN_cells : ∀ (n : Nat) (R : Nat → Prop) (w : World), (formV (3 + n)) R w [.int .i64 0, .int .i64 0, .slice none 0 0, .slice none 0 0] (zN n)
  | 0, _, _ => leaf_cells 0 (by unfold I64; decide)
  | _ + 1, _, _ => leaf_cells 0 (by unfold I64; decide)
/-- What Norm answers. -/
def resE (n : Nat) (f : FT n) : Int := if chkF n f = 0 then (if farF n f = true then 3 else 0) else chkF n f
def resF (n : Nat) (f : FT n) : FT (3 + n) := if chkF n f = 0 then ansF n f false else zN n
theorem resE_range (n : Nat) (f : FT n) : 0 ≤ resE n f ∧ resE n f ≤ 16 := by
  have := chkF_range n f
  unfold resE
  split
  · split <;> omega
  · exact this

set_option maxRecDepth 100000 in
set_option maxHeartbeats 2000000 in
theorem normNorm_any {n : Nat} {f : FT n} {R : Nat → Prop} {w : World} {cs : List Value} (h : (formV n) R w cs f) :
    Calls Try.prog 17 #[.agg cs.toArray] w (NRet (3 + n) R w (resF n f) (errV 60 (resE n f))) := by
  obtain ⟨kd, c, A, tl, cap, B, kl, capk, rfl⟩ := shape4 h
  have h' := (formV_good n).mono h (R' := fun k => R k ∧ k < w.heap.size) (fun k hk hR => ⟨hR, hk⟩)
  have HC := Lib.hid (fun W (hc : Chg No w W) => formCheck_any ((formV_good n).no h' hc))
  have HN := Lib.hid (fun (hf : fineF n f = true) W (hc : Chg No w W) => (norm_any n f _ W _ false ((formV_good n).no h' hc) hf).mono (fun _ _ g => g.shape))
  obtain ⟨w3, hw3⟩ : ∃ w3, w3 = (w.alloc (.cells #[.int .i64 kd, .int .i64 c, .slice A tl cap, .slice B kl capk] 28)).alloc (.cells #[.int .i64 0, .int .i64 0, .slice none 0 0, .slice none 0 0] 28) := ⟨_, rfl⟩
  have h3 : Hid (Chg No w w3 ∧ w3.heap[w.heap.size]? = some (.cells #[.int .i64 kd, .int .i64 c, .slice A tl cap, .slice B kl capk] 28 (0, 0)) ∧ w3.heap[w.heap.size + 1]? = some (.cells #[.int .i64 0, .int .i64 0, .slice none 0 0, .slice none 0 0] 28 (0, 0)) ∧ w3.heap.size = w.heap.size + 2) := by
    rw [hw3]; exact ⟨((Chg.refl _ _).alloc _).alloc _, at_old (heap_alloc_new _ _), at_new (by simp), by simp⟩
  have HSET : Hid (∀ W u0 u1 u2 u3, Chg No w3 W → Chg No w ((((W.setCell ⟨w.heap.size + 1, 0, none⟩ u0).setCell ⟨w.heap.size + 1, 1, none⟩ u1).setCell ⟨w.heap.size + 1, 2, none⟩ u2).setCell ⟨w.heap.size + 1, 3, none⟩ u3)) := fun W u0 u1 u2 u3 hW =>
    chgpast (h3.out.1.thenNo hW) (set4_chg _ W u0 u1 u2 u3) (fun k hk => by omega)
  have HRET : Hid (∀ (m : Nat) (y : FT m) (W : World) (u0 u1 u2 u3 : Value), Chg No w3 W → (formV m) (fun k => (R k ∧ k < w.heap.size) ∨ w3.heap.size ≤ k) W [u0, u1, u2, u3] y →
      (formV m) (fun k => R k ∨ w.heap.size ≤ k) ((((W.setCell ⟨w.heap.size + 1, 0, none⟩ u0).setCell ⟨w.heap.size + 1, 1, none⟩ u1).setCell ⟨w.heap.size + 1, 2, none⟩ u2).setCell ⟨w.heap.size + 1, 3, none⟩ u3) [u0, u1, u2, u3] y) := fun m y W u0 u1 u2 u3 hW hy => by
    have hz := h3.out.2.2.2
    exact (formV_good m).mono ((formV_good m).chg hy (set4_chg (w.heap.size + 1) W u0 u1 u2 u3) (fun k hk e => by rcases hk with hk | hk <;> omega)) (fun k _ hk => by rcases hk with hk | hk; exact .inl hk.1; exact .inr (by omega))
  obtain ⟨p0, p1, p2, p3⟩ := obj_four h3.out.2.1
  have HB3 := Lib.hid h3.out.2.2.1
  have HB2 := Lib.hid h3.out.2.1
  have hcz := @chkF_zero n f
  have hcr := chkF_range n f
  unfold resE resF
  generalize chkF n f = ck at *
  by_cases hck : ck = 0
  · rw [if_pos hck, if_pos hck]
    have HN1 := Lib.hid (HN.out (hcz hck).2.2)
    subst hck
    rw [errV_zero] at HC
    clear h h' hcz hcr HN
    have H3c := Lib.hid h3.out.1
    clear h3
    generalize ansF n f false = x at *
    generalize errV 60 (if farF n f = true then 3 else 0) = E at *
    go_enter Try.func17, Try.ntmps17
    go_upto_region 1 with fail
    rw [← hw3]
    clear hw3
    go_upto_region 2 with (go_at_call 38; (with_reducible refine (HC.out _ H3c.out).mono ?_); rintro e w4 ⟨rfl, h4⟩; have H4 := Lib.hid h4; clear h4)
    clear p0 p1 p2 p3
    obtain ⟨p0, p1, p2, p3⟩ := obj_four (H4.out.obj HB2.out id)
    have HN2 := Lib.hid (HN1.out w4 (H3c.out.thenNo H4.out))
    go_wp2_with (go_at_call 39; (with_reducible refine HN2.out.mono ?_); rintro e w6 ⟨ko, co, Ao, lo, ao, Bo, mo, bo, rfl, g6, h6⟩; have G6 := Lib.hid g6; have H6 := Lib.hid (H4.out.thenNo h6); clear g6 h6; obtain ⟨⟨r0, r1, r2, r3⟩, f0, f1, f2, f3⟩ := obj_frm (H6.out.obj HB3.out id))
    exact bodyPost_ret (v := .tuple #[.agg #[.int .i64 ko, .int .i64 co, .slice Ao lo ao, .slice Bo mo bo], E]) (by simp [results, Try.results17, go_sem, r0, r1, r2, r3]) rfl ⟨[.int .i64 ko, .int .i64 co, .slice Ao lo ao, .slice Bo mo bo], rfl, HRET.out _ _ _ _ _ _ _ H6.out ((formV_good _).mono G6.out (fun k _ hk => by
      rcases hk with hk | hk
      · exact .inl hk
      · exact .inr (Nat.le_trans H4.out.size hk))), HSET.out _ _ _ _ _ H6.out⟩
  · rw [if_neg hck, if_neg hck]
    rw [errV_of _ hck] at HC ⊢
    have H3c := Lib.hid h3.out.1
    clear h h' hcz hcr HN h3 hck
    go_enter Try.func17, Try.ntmps17
    go_upto_region 1 with fail
    rw [← hw3]
    clear hw3
    go_upto_region 2 with (go_at_call 38; (with_reducible refine (HC.out _ H3c.out).mono ?_); rintro e w4 ⟨rfl, h4⟩; have H4 := Lib.hid h4; clear h4)
    obtain ⟨⟨r0, r1, r2, r3⟩, f0, f1, f2, f3⟩ := obj_frm (H4.out.obj HB3.out id)
    go_wp2_with fail
    exact bodyPost_ret (v := .tuple #[.agg #[.int .i64 0, .int .i64 0, .slice none 0 0, .slice none 0 0], .iface 60 (.int .i64 ck)]) (by simp [results, Try.results17, go_sem, r0, r1, r2, r3]) rfl ⟨[.int .i64 0, .int .i64 0, .slice none 0 0, .slice none 0 0], rfl, zN_cells _ _ _, HSET.out _ _ _ _ _ H4.out⟩

set_option maxRecDepth 100000 in
set_option maxHeartbeats 2000000 in
theorem refNormNorm_any {n : Nat} {f : FT n} {R : Nat → Prop} {w : World} {cs : List Value} (h : (formV n) R w cs f) :
    Calls Try.prog 18 #[.agg cs.toArray] w (NRet (3 + n) R w (resF n f) (.int .i64 (resE n f))) := by
  obtain ⟨kd, c, A, tl, cap, B, kl, capk, rfl⟩ := shape4 h
  have h' := (formV_good n).mono h (R' := fun k => R k ∧ k < w.heap.size) (fun k hk hR => ⟨hR, hk⟩)
  have HC := Lib.hid (fun W (hc : Chg No w W) => refFormCheck_any ((formV_good n).no h' hc))
  have HN := Lib.hid (fun (hf : fineF n f = true) W (hc : Chg No w W) => (refNorm_any n f _ W _ false ((formV_good n).no h' hc) hf).mono (fun _ _ g => g.shape))
  obtain ⟨w3, hw3⟩ : ∃ w3, w3 = (w.alloc (.cells #[.int .i64 kd, .int .i64 c, .slice A tl cap, .slice B kl capk] 28)).alloc (.cells #[.int .i64 0, .int .i64 0, .slice none 0 0, .slice none 0 0] 28) := ⟨_, rfl⟩
  have h3 : Hid (Chg No w w3 ∧ w3.heap[w.heap.size]? = some (.cells #[.int .i64 kd, .int .i64 c, .slice A tl cap, .slice B kl capk] 28 (0, 0)) ∧ w3.heap[w.heap.size + 1]? = some (.cells #[.int .i64 0, .int .i64 0, .slice none 0 0, .slice none 0 0] 28 (0, 0)) ∧ w3.heap.size = w.heap.size + 2) := by
    rw [hw3]; exact ⟨((Chg.refl _ _).alloc _).alloc _, at_old (heap_alloc_new _ _), at_new (by simp), by simp⟩
  have HSET : Hid (∀ W u0 u1 u2 u3, Chg No w3 W → Chg No w ((((W.setCell ⟨w.heap.size + 1, 0, none⟩ u0).setCell ⟨w.heap.size + 1, 1, none⟩ u1).setCell ⟨w.heap.size + 1, 2, none⟩ u2).setCell ⟨w.heap.size + 1, 3, none⟩ u3)) := fun W u0 u1 u2 u3 hW =>
    chgpast (h3.out.1.thenNo hW) (set4_chg _ W u0 u1 u2 u3) (fun k hk => by omega)
  have HRET : Hid (∀ (m : Nat) (y : FT m) (W : World) (u0 u1 u2 u3 : Value), Chg No w3 W → (formV m) (fun k => (R k ∧ k < w.heap.size) ∨ w3.heap.size ≤ k) W [u0, u1, u2, u3] y →
      (formV m) (fun k => R k ∨ w.heap.size ≤ k) ((((W.setCell ⟨w.heap.size + 1, 0, none⟩ u0).setCell ⟨w.heap.size + 1, 1, none⟩ u1).setCell ⟨w.heap.size + 1, 2, none⟩ u2).setCell ⟨w.heap.size + 1, 3, none⟩ u3) [u0, u1, u2, u3] y) := fun m y W u0 u1 u2 u3 hW hy => by
    have hz := h3.out.2.2.2
    exact (formV_good m).mono ((formV_good m).chg hy (set4_chg (w.heap.size + 1) W u0 u1 u2 u3) (fun k hk e => by rcases hk with hk | hk <;> omega)) (fun k _ hk => by rcases hk with hk | hk; exact .inl hk.1; exact .inr (by omega))
  obtain ⟨p0, p1, p2, p3⟩ := obj_four h3.out.2.1
  have HB3 := Lib.hid h3.out.2.2.1
  have HB2 := Lib.hid h3.out.2.1
  have hcz := @chkF_zero n f
  have hcr := chkF_range n f
  have hff : farF n f = true → ansF n f false = zN n := fun h => by unfold ansF; rw [if_pos h]
  unfold resE resF
  generalize chkF n f = ck at *
  by_cases hck : ck = 0
  · rw [if_pos hck, if_pos hck]
    have HN1 := Lib.hid (HN.out (hcz hck).2.2)
    subst hck
    clear h h' hcz hcr HN
    have H3c := Lib.hid h3.out.1
    clear h3
    generalize ansF n f false = x at *
    generalize farF n f = ff at *
    have HFF := Lib.hid hff
    clear hff
    obtain ⟨er, her⟩ : ∃ er : Int, er = (if ff = true then 3 else 0) := ⟨_, rfl⟩
    rw [← her]
    have HER := Lib.hid her
    clear her
    go_enter Try.func18, Try.ntmps18
    go_upto_region 1 with fail
    rw [← hw3]
    clear hw3
    go_upto_region 2 with (go_at_call 40; (with_reducible refine (HC.out _ H3c.out).mono ?_); rintro e w4 ⟨rfl, h4⟩; have H4 := Lib.hid h4; clear h4)
    clear p0 p1 p2 p3
    obtain ⟨p0, p1, p2, p3⟩ := obj_four (H4.out.obj HB2.out id)
    have HN2 := Lib.hid (HN1.out w4 (H3c.out.thenNo H4.out))
    go_upto_region 5 with (go_at_call 41; (with_reducible refine HN2.out.mono ?_); rintro e w6 ⟨ko, co, Ao, lo, ao, Bo, mo, bo, rfl, g6, h6⟩; have G6 := Lib.hid g6; have H6 := Lib.hid (H4.out.thenNo h6); clear g6 h6)
    have HG : Hid (Chg No w3 (w6.alloc (.cells #[.int .i64 ko, .int .i64 co, .slice Ao lo ao, .slice Bo mo bo] 28)) ∧ (w6.alloc (.cells #[.int .i64 ko, .int .i64 co, .slice Ao lo ao, .slice Bo mo bo] 28)).heap[w6.heap.size]? = some (.cells #[.int .i64 ko, .int .i64 co, .slice Ao lo ao, .slice Bo mo bo] 28 (0, 0)) ∧ (formV (3 + n)) (fun k => (R k ∧ k < w.heap.size) ∨ w3.heap.size ≤ k) (w6.alloc (.cells #[.int .i64 ko, .int .i64 co, .slice Ao lo ao, .slice Bo mo bo] 28)) [.int .i64 ko, .int .i64 co, .slice Ao lo ao, .slice Bo mo bo] x) :=
      ⟨H6.out.alloc _, heap_alloc_new _ _, (formV_good _).no ((formV_good _).mono G6.out (fun k _ hk => by
        rcases hk with hk | hk
        · exact .inl hk
        · exact .inr (Nat.le_trans H4.out.size hk))) ((Chg.refl _ _).alloc _)⟩
    generalize w6.alloc (.cells #[.int .i64 ko, .int .i64 co, .slice Ao lo ao, .slice Bo mo bo] 28) = w7 at *
    obtain ⟨m0, m1, m2, m3⟩ := obj_four HG.out.2.1
    obtain ⟨⟨r0, r1, r2, r3⟩, f0, f1, f2, f3⟩ := obj_frm (HG.out.1.obj HB3.out id)
    clear p0 p1 p2 p3
    cases ff
    · obtain rfl : er = 0 := HER.out
      go_wp2_with fail
      exact bodyPost_ret (v := .tuple #[.agg #[.int .i64 ko, .int .i64 co, .slice Ao lo ao, .slice Bo mo bo], .int .i64 0]) (by simp [results, Try.results18, go_sem, r0, r1, r2, r3]) rfl ⟨[.int .i64 ko, .int .i64 co, .slice Ao lo ao, .slice Bo mo bo], rfl, HRET.out _ _ _ _ _ _ _ HG.out.1 HG.out.2.2, HSET.out _ _ _ _ _ HG.out.1⟩
    · obtain rfl : er = 3 := HER.out
      obtain rfl := HFF.out rfl
      go_wp2_with fail
      exact bodyPost_ret (v := .tuple #[.agg #[.int .i64 0, .int .i64 0, .slice none 0 0, .slice none 0 0], .int .i64 3]) (by simp [results, Try.results18, go_sem, r0, r1, r2, r3]) rfl ⟨[.int .i64 0, .int .i64 0, .slice none 0 0, .slice none 0 0], rfl, zN_cells _ _ _, HSET.out _ _ _ _ _ HG.out.1⟩
  · rw [if_neg hck, if_neg hck]
    have H3c := Lib.hid h3.out.1
    have hne : (ck != 0) = true := by simpa using hck
    clear h h' hcz hcr HN h3 hck hff
    go_enter Try.func18, Try.ntmps18
    go_upto_region 1 with fail
    rw [← hw3]
    clear hw3
    go_upto_region 2 with (go_at_call 40; (with_reducible refine (HC.out _ H3c.out).mono ?_); rintro e w4 ⟨rfl, h4⟩; have H4 := Lib.hid h4; clear h4)
    obtain ⟨⟨r0, r1, r2, r3⟩, f0, f1, f2, f3⟩ := obj_frm (H4.out.obj HB3.out id)
    go_wp2_with fail
    exact bodyPost_ret (v := .tuple #[.agg #[.int .i64 0, .int .i64 0, .slice none 0 0, .slice none 0 0], .int .i64 ck]) (by simp [results, Try.results18, go_sem, r0, r1, r2, r3]) rfl ⟨[.int .i64 0, .int .i64 0, .slice none 0 0, .slice none 0 0], rfl, zN_cells _ _ _, HSET.out _ _ _ _ _ H4.out⟩
end Go.Proofs.Ytobkihmmdlacnaa
