/-
  norm.norm: what it makes of a sound formula.
-/
import Derived.Test.YtlejcnbpodmleaaNfB
import Derived.Test.YtlejcnbpodmleaaFrmC
namespace Go.Proofs.Ytlejcnbpodmleaa
open Go Go.RowKit

def liftF : (k : Nat) → {m : Nat} → FT m → FT (m + k)
  | 0, _, x => x
  | k + 1, m, x => upF (m + k) (liftF k x)
theorem formV_lift : ∀ (k m : Nat) (R : Nat → Prop) (w : World) (cs : List Value) (x : FT m), (formV m) R w cs x → (formV (m + k)) R w cs (liftF k x)
  | 0, _, _, _, _, _, h => h
  | k + 1, m, R, w, cs, x, h => formV_up (m + k) R w cs _ (formV_lift k m R w cs x h)
def zN : (n : Nat) → FT (3 + n)
  | 0 => zF 2
  | n + 1 => zF (3 + n)
theorem up_zN : ∀ n, upF (3 + n) (zN n) = zN (n + 1)
  | 0 => rfl
  | _ + 1 => rfl
theorem lift_zF : ∀ k, liftF k (zF 2) = zN k
  | 0 => rfl
  | k + 1 => by
    show upF (3 + k) (liftF k (zF 2)) = _
    rw [lift_zF k, up_zN]
def mkN (n : Nat) (kd : Int) (ks : List (FT (3 + n))) : FT (3 + (n + 1)) := (⟨kd, (0, []), ks⟩ : Node (FT (3 + n)))
/-- A sound formula normalized, as it is or as not. -/
def normF : (n : Nat) → FT n → Bool → FT (3 + n)
  | 0, _, _ => zF 2
  | n + 1, f, nt => if Node.kind f = 2 ∨ Node.kind f = 3 then liftF (n + 1) (leafForm (Node.kind f) (Node.lin f).1 (Node.lin f).2 nt)
    else if Node.kind f = 4 then (match Node.kids f with | k :: _ => upF (3 + n) (normF n k (!nt)) | [] => zF (3 + n))
    else if Node.kind f = 5 ∨ Node.kind f = 6 then mkN n (if nt = true then 11 - Node.kind f else Node.kind f) ((Node.kids f).map (fun k => normF n k nt))
    else mkN n (if nt = true then 1 - Node.kind f else Node.kind f) []
/-- Whether a literal of it is too far. -/
def farF : (n : Nat) → FT n → Bool
  | 0, _ => false
  | n + 1, f => if Node.kind f = 2 ∨ Node.kind f = 3 then decide (leafErr (Node.kind f) (Node.lin f).1 (Node.lin f).2 ≠ 0) else (Node.kids f).any (farF n)
def ansF (n : Nat) (f : FT n) (nt : Bool) : FT (3 + n) := if farF n f = true then zN n else normF n f nt
theorem okS_cases {kd : Int} {nb lb : Bool} {kl : Nat} (h : okS kd nb lb kl = true) : (kd = 0 ∨ kd = 1) ∧ nb = true ∧ kl = 0 ∨ (kd = 2 ∨ kd = 3) ∧ lb = true ∧ kl = 0 ∨ kd = 4 ∧ nb = true ∧ kl = 1 ∨ (kd = 5 ∨ kd = 6) ∧ nb = true := by
  unfold okS at h
  simp only [Bool.or_eq_true, Bool.and_eq_true, decide_eq_true_eq] at h
  rcases h with ((h | h) | h) | h
  · exact .inl ⟨h.1.1, h.1.2, h.2⟩
  · exact .inr (.inl ⟨h.1.1, h.1.2, h.2⟩)
  · exact .inr (.inr (.inl ⟨h.1.1, h.1.2, h.2⟩))
  · exact .inr (.inr (.inr h))
theorem noneB_eq {c : Int} {tl : Nat} (h : noneB c tl = true) : c = 0 ∧ tl = 0 := by
  unfold noneB at h
  simpa using h
theorem leaf_any {m m' : Nat} {R : Nat → Prop} {w : World} {cs : List Value} {kd : Int} {l : Lin} (h : (formV (m + 1)) R w cs (⟨kd, l, []⟩ : Node (FT m))) : (formV (m' + 1)) R w cs (⟨kd, l, []⟩ : Node (FT m')) := by
  obtain ⟨A, cap, B, capk, e, i1, i2, hm, hk⟩ := node_cells h
  exact ⟨A, cap, B, capk, e, i1, i2, hm, by rw [formV_sz]; exact forms_nil hk⟩
theorem leafErr_two {kd c : Int} {t : List Mono} : leafErr kd c t = 0 ∨ leafErr kd c t = 3 := by
  unfold leafErr
  repeat' split
  all_goals first | exact .inl rfl | exact .inr rfl
theorem ans_leaf {n : Nat} {f : Node (FT n)} {nt : Bool} (hk : Node.kind f = 2 ∨ Node.kind f = 3) : ansF (n + 1) f nt = liftF (n + 1) (leafForm (Node.kind f) (Node.lin f).1 (Node.lin f).2 nt) ∧ (if farF (n + 1) f = true then (3 : Int) else 0) = leafErr (Node.kind f) (Node.lin f).1 (Node.lin f).2 := by
  have e1 : farF (n + 1) f = decide (leafErr (Node.kind f) (Node.lin f).1 (Node.lin f).2 ≠ 0) := by
    show (if _ then _ else _) = _
    rw [if_pos hk]
  have e2 : normF (n + 1) f nt = liftF (n + 1) (leafForm (Node.kind f) (Node.lin f).1 (Node.lin f).2 nt) := by
    show (if _ then _ else _) = _
    rw [if_pos hk]
  rcases leafErr_two (kd := Node.kind f) (c := (Node.lin f).1) (t := (Node.lin f).2) with h | h
  · have e3 : farF (n + 1) f = false := by rw [e1, h]; rfl
    unfold ansF
    rw [e3, if_neg (by decide), if_neg (by decide), e2, h]
    exact ⟨rfl, rfl⟩
  · have e3 : farF (n + 1) f = true := by rw [e1, h]; rfl
    unfold ansF
    rw [e3, if_pos rfl, if_pos rfl, h]
    refine ⟨?_, rfl⟩
    have e4 : leafForm (Node.kind f) (Node.lin f).1 (Node.lin f).2 nt = zF 2 := by
      unfold leafForm; rw [h, if_pos (by decide)]
    rw [e4, lift_zF]
theorem ans_not {n : Nat} {f : Node (FT n)} {nt : Bool} {k : FT n} (hk : Node.kind f = 4) (hks : Node.kids f = [k]) : ansF (n + 1) f nt = upF (3 + n) (ansF n k (!nt)) ∧ farF (n + 1) f = farF n k := by
  have e1 : farF (n + 1) f = farF n k := by
    show (if _ then _ else _) = _
    rw [if_neg (by omega), hks]
    simp
  have e2 : normF (n + 1) f nt = upF (3 + n) (normF n k (!nt)) := by
    show (if _ then _ else _) = _
    rw [if_neg (by omega), if_pos hk, hks]
  refine ⟨?_, e1⟩
  unfold ansF
  rw [e1, e2]
  split
  · exact (up_zN n).symm
  · rfl
theorem ans_many {n : Nat} {f : Node (FT n)} {nt : Bool} (hk : Node.kind f = 5 ∨ Node.kind f = 6) : farF (n + 1) f = (Node.kids f).any (farF n) ∧ ansF (n + 1) f nt = (if (Node.kids f).any (farF n) = true then zN (n + 1) else mkN n (if nt = true then 11 - Node.kind f else Node.kind f) ((Node.kids f).map (fun k => normF n k nt))) := by
  have e1 : farF (n + 1) f = (Node.kids f).any (farF n) := by
    show (if _ then _ else _) = _
    rw [if_neg (by omega)]
  refine ⟨e1, ?_⟩
  have e2 : normF (n + 1) f nt = mkN n (if nt = true then 11 - Node.kind f else Node.kind f) ((Node.kids f).map (fun k => normF n k nt)) := by
    show (if _ then _ else _) = _
    rw [if_neg (by omega), if_neg (by omega), if_pos hk]
  unfold ansF
  rw [e1, e2]
theorem ans_const {n : Nat} {f : Node (FT n)} {nt : Bool} (hk : Node.kind f = 0 ∨ Node.kind f = 1) (hks : Node.kids f = []) : farF (n + 1) f = false ∧ ansF (n + 1) f nt = mkN n (if nt = true then 1 - Node.kind f else Node.kind f) [] := by
  have e1 : farF (n + 1) f = false := by
    show (if _ then _ else _) = _
    rw [if_neg (by omega), hks]
    rfl
  refine ⟨e1, ?_⟩
  have e2 : normF (n + 1) f nt = mkN n (if nt = true then 1 - Node.kind f else Node.kind f) [] := by
    show (if _ then _ else _) = _
    rw [if_neg (by omega), if_neg (by omega), if_neg (by omega)]
  unfold ansF
  rw [e1, if_neg (by decide), e2]
theorem fine_kids {n : Nat} {f : FT (n + 1)} (h : fineF (n + 1) f = true) : okS (Node.kind f) (noneB (Node.lin f).1 (Node.lin f).2.length) (linB (Node.lin f).1 (Node.lin f).2) (Node.kids f).length = true ∧ ∀ k ∈ Node.kids f, fineF n k = true := by
  have e : fineF (n + 1) f = (okSN f && (Node.kids f).all (fineF n)) := rfl
  rw [e, Bool.and_eq_true, List.all_eq_true] at h
  exact h

def NormOk (n : Nat) : Prop := ∀ (f : FT n) (R : Nat → Prop) (w : World) (cs : List Value) (nt : Bool), (formV n) R w cs f → fineF n f = true →
    Calls Try.prog 32 #[.agg cs.toArray, .bool nt] w (NRet (3 + n) R w (ansF n f nt) (errV 43 (if farF n f = true then 3 else 0)))

set_option maxRecDepth 100000 in
set_option maxHeartbeats 4000000 in
theorem norm_step (n : Nat) (IH : Hid (NormOk n)) : NormOk (n + 1) := by
    rintro f R w cs nt h hf
    obtain ⟨hok, hkf⟩ := fine_kids hf
    have h0 := (formV_good (n + 1)).mono h (R' := fun k => R k ∧ k < w.heap.size) (fun k hk hR => ⟨hR, hk⟩)
    obtain ⟨A, cap, B, capk, rfl, i1, i2, hm, hk⟩ := node_cells h0
    clear h h0 hf
    obtain ⟨w3, hw3⟩ : ∃ w3, w3 = (w.alloc (.cells #[.int .i64 (Node.kind f), .int .i64 (Node.lin f).1, .slice A (Node.lin f).2.length cap, .slice B (Node.kids f).length capk] 27)).alloc (.cells #[.int .i64 0, .int .i64 0, .slice none 0 0, .slice none 0 0] 27) := ⟨_, rfl⟩
    have h3 : Hid (Chg No w w3 ∧ w3.heap[w.heap.size]? = some (.cells #[.int .i64 (Node.kind f), .int .i64 (Node.lin f).1, .slice A (Node.lin f).2.length cap, .slice B (Node.kids f).length capk] 27 (0, 0)) ∧ w3.heap[w.heap.size + 1]? = some (.cells #[.int .i64 0, .int .i64 0, .slice none 0 0, .slice none 0 0] 27 (0, 0)) ∧ w3.heap.size = w.heap.size + 2) := by
      rw [hw3]; exact ⟨((Chg.refl _ _).alloc _).alloc _, at_old (heap_alloc_new _ _), at_new (by simp), by simp⟩
    have HSET : Hid (∀ W u0 u1 u2 u3, Chg No w3 W → Chg No w ((((W.setCell ⟨w.heap.size + 1, 0, none⟩ u0).setCell ⟨w.heap.size + 1, 1, none⟩ u1).setCell ⟨w.heap.size + 1, 2, none⟩ u2).setCell ⟨w.heap.size + 1, 3, none⟩ u3)) := fun W u0 u1 u2 u3 hW =>
      chgpast (h3.out.1.thenNo hW) (set4_chg _ W u0 u1 u2 u3) (fun k hk => by omega)
    have HRET : Hid (∀ (m : Nat) (y : FT m) (W : World) (u0 u1 u2 u3 : Value), Chg No w3 W → (formV m) (fun k => (R k ∧ k < w.heap.size) ∨ w3.heap.size ≤ k) W [u0, u1, u2, u3] y →
        (formV m) (fun k => R k ∨ w.heap.size ≤ k) ((((W.setCell ⟨w.heap.size + 1, 0, none⟩ u0).setCell ⟨w.heap.size + 1, 1, none⟩ u1).setCell ⟨w.heap.size + 1, 2, none⟩ u2).setCell ⟨w.heap.size + 1, 3, none⟩ u3) [u0, u1, u2, u3] y) := fun m y W u0 u1 u2 u3 hW hy => by
      have hz := h3.out.2.2.2
      exact (formV_good m).mono ((formV_good m).chg hy (set4_chg (w.heap.size + 1) W u0 u1 u2 u3) (fun k hk e => by rcases hk with hk | hk <;> omega)) (fun k _ hk => by rcases hk with hk | hk; exact .inl hk.1; exact .inr (by omega))
    have HI : Hid (∀ k : Int, 0 ≤ k → k ≤ 10 → I64 k) := fun k h1 h2 => I64.of (by omega) (by omega)
    obtain ⟨p0, p1, p2, p3⟩ := obj_four h3.out.2.1
    rcases okS_cases hok with ⟨hkd, hnb, hkl⟩ | ⟨hkd, hlb, hkl⟩ | ⟨hkd, hnb, hkl⟩ | ⟨hkd, hnb⟩
    · -- FTrue, FFalse
      have hks : Node.kids f = [] := List.eq_nil_of_length_eq_zero hkl
      obtain ⟨hc, htl⟩ := noneB_eq hnb
      have ht : (Node.lin f).2 = [] := List.eq_nil_of_length_eq_zero htl
      have hff := (ans_const (nt := nt) hkd hks).1
      have haa := (ans_const (nt := nt) hkd hks).2
      rw [hff, haa, show (if false = true then (3 : Int) else 0) = 0 from rfl, errV_zero]
      have HX : Hid (∀ W, Chg No w W → (formV 2) (fun k => R k ∧ k < w.heap.size) W [.int .i64 (Node.kind f), .int .i64 0, .slice A 0 cap, .slice B 0 capk] (⟨Node.kind f, (0, []), []⟩ : Node (FT 1))) := fun W hW => by
        refine ⟨A, cap, B, capk, rfl, i1, HI.out 0 (by omega) (by omega), ?_, ?_⟩
        · have := hm.no monoE_good hW
          rw [ht] at this
          exact this
        · rw [formV_sz]
          have := hk.no (formE_good n) hW
          rw [hks] at this
          exact forms_nil this
      rw [hc, htl, hkl] at hw3
      rw [hc] at p1
      rw [htl] at p2
      rw [hkl] at p3
      have HB3 := Lib.hid h3.out.2.2.1
      have HC3 := Lib.hid h3.out.1
      have HZ3 := Lib.hid h3.out.2.2.2
      rw [hc, htl, hkl]
      clear hff haa hok hkf hnb hkl hc htl ht hks hm hk h3 i1 i2 IH
      generalize Node.kind f = kd at *
      obtain ⟨⟨r0, r1, r2, r3⟩, f0, f1, f2, f3⟩ := obj_frm HB3.out
      have n2 : (kd == 2) = false := by simp; omega
      have n3 : (kd == 3) = false := by simp; omega
      have n4 : (kd == 4) = false := by simp; omega
      have n5 : (kd == 5) = false := by simp; omega
      have n6 : (kd == 6) = false := by simp; omega
      cases nt
      · rw [if_neg (by decide)]
        clear hkd
        go_enter Try.func32, Try.ntmps32
        go_upto_region 1 with fail
        rw [← hw3]
        clear hw3
        go_wp2_with fail
        exact bodyPost_ret (v := .tuple #[.agg #[.int .i64 kd, .int .i64 0, .slice A 0 cap, .slice B 0 capk], .nilIface]) (by simp [results, Try.results32, go_sem, r0, r1, r2, r3]) rfl ⟨[.int .i64 kd, .int .i64 0, .slice A 0 cap, .slice B 0 capk], rfl, HRET.out _ _ _ _ _ _ _ (Chg.refl _ _) ((formV_good _).mono (leaf_any (HX.out _ HC3.out)) (fun k _ hk => .inl hk)), HSET.out _ _ _ _ _ (Chg.refl _ _)⟩
      · rw [if_pos rfl]
        have HOp := Lib.hid ((opposite_any _ (.inl ⟨by rcases hkd with h | h; exact .inl h; exact .inr (.inl h), rfl⟩) (HX.out _ HC3.out)).mono (fun _ _ g => g.shape))
        have hop : oppL (⟨kd, (0, []), []⟩ : Node (FT 1)) = (⟨1 - kd, (0, []), []⟩ : Node (FT 1)) := by rcases hkd with rfl | rfl <;> rfl
        rw [hop] at HOp
        clear hkd hop
        go_enter Try.func32, Try.ntmps32
        go_upto_region 1 with fail
        rw [← hw3]
        clear hw3
        go_wp2_with (go_at_call 55; (with_reducible refine HOp.out.mono ?_); rintro e w6 ⟨ko, co, Ao, lo, ao, Bo, mo, bo, rfl, g6, h6⟩; have G6 := Lib.hid g6; have H6 := Lib.hid h6; clear g6 h6 r0 r1 r2 r3 f0 f1 f2 f3; obtain ⟨⟨r0, r1, r2, r3⟩, f0, f1, f2, f3⟩ := obj_frm (H6.out.obj HB3.out id))
        exact bodyPost_ret (v := .tuple #[.agg #[.int .i64 ko, .int .i64 co, .slice Ao lo ao, .slice Bo mo bo], .nilIface]) (by simp [results, Try.results32, go_sem, r0, r1, r2, r3]) rfl ⟨[.int .i64 ko, .int .i64 co, .slice Ao lo ao, .slice Bo mo bo], rfl, HRET.out _ _ _ _ _ _ _ H6.out (leaf_any G6.out), HSET.out _ _ _ _ _ H6.out⟩
    · -- leaves
      have haa := (ans_leaf (nt := nt) hkd)
      rw [haa.1, haa.2]
      have HLf := Lib.hid ((normLeaf_any (Node.kind f) hkd hlb (hm.no monoE_good h3.out.1) B (Node.kids f).length capk nt).mono (fun _ _ g => g.shape))
      clear haa hlb hkl
      have HB3 := Lib.hid h3.out.2.2.1
      clear hok hkf hm hk h3 i1 i2 IH
      generalize leafForm (Node.kind f) (Node.lin f).1 (Node.lin f).2 nt = lf at *
      generalize leafErr (Node.kind f) (Node.lin f).1 (Node.lin f).2 = le at *
      generalize Node.kind f = kd at *
      generalize (Node.lin f).1 = c at *
      generalize (Node.lin f).2.length = tl at *
      generalize (Node.kids f).length = kl at *
      generalize errV 43 le = E at *
      rcases hkd with rfl | rfl
      all_goals
        go_enter Try.func32, Try.ntmps32
        go_upto_region 1 with fail
        rw [← hw3]
        clear hw3
        go_wp2_with (go_at_call 54; (with_reducible refine HLf.out.mono ?_); rintro e w6 ⟨ko, co, Ao, lo, ao, Bo, mo, bo, rfl, g6, h6⟩; have G6 := Lib.hid g6; have H6 := Lib.hid h6; clear g6 h6; obtain ⟨⟨r0, r1, r2, r3⟩, f0, f1, f2, f3⟩ := obj_frm (H6.out.obj HB3.out id))
        exact bodyPost_ret (v := .tuple #[.agg #[.int .i64 ko, .int .i64 co, .slice Ao lo ao, .slice Bo mo bo], E]) (by simp [results, Try.results32, go_sem, r0, r1, r2, r3]) rfl ⟨[.int .i64 ko, .int .i64 co, .slice Ao lo ao, .slice Bo mo bo], rfl, HRET.out _ _ _ _ _ _ _ H6.out (formV_lift _ _ _ _ _ _ ((formV_good 3).mono G6.out (fun k _ hk => .inr (hk.elim (fun f => f.elim) id)))), HSET.out _ _ _ _ _ H6.out⟩
    · -- FNot
      have hlt : 0 < (Node.kids f).length := by omega
      have hks : Node.kids f = [(Node.kids f)[0]] := by
        obtain ⟨k, hk1⟩ := List.length_eq_one_iff.1 hkl
        have e : (Node.kids f)[0] = k := by simp [hk1]
        rw [e, hk1]
      have haa := (ans_not (nt := nt) hkd hks)
      rw [haa.1, haa.2]
      obtain ⟨b, o, v0, v1, v2, v3, rfl, hv, x0, x1, x2, x3⟩ := forms_at (hk.no (formE_good n) h3.out.1) 0 hlt
      have HN := Lib.hid ((IH.out _ _ _ _ (!nt) hv (hkf _ (List.getElem_mem hlt))).mono (fun _ _ g => g.shape))
      have HB3 := Lib.hid h3.out.2.2.1
      simp only [Nat.zero_mul, Nat.add_zero] at x0 x1 x2 x3
      have hj : (0 : Int) < ((Node.kids f).length : Int) := by omega
      clear haa hok hkf hm hk h3 i1 i2 IH hks hv hkl hnb
      generalize ansF n (Node.kids f)[0] (!nt) = fa at *
      generalize farF n (Node.kids f)[0] = ff at *
      clear hlt
      rw [hkd] at p0 hw3 ⊢
      clear hkd
      generalize (Node.lin f).1 = c at *
      generalize (Node.lin f).2.length = tl at *
      generalize (Node.kids f).length = kl at *
      generalize errV 43 (if ff = true then 3 else 0) = E at *
      go_enter Try.func32, Try.ntmps32
      go_upto_region 1 with fail
      rw [← hw3]
      clear hw3
      go_wp2_with (go_at_call 32; (with_reducible refine HN.out.mono ?_); rintro e w6 ⟨ko, co, Ao, lo, ao, Bo, mo, bo, rfl, g6, h6⟩; have G6 := Lib.hid g6; have H6 := Lib.hid h6; clear g6 h6; obtain ⟨⟨r0, r1, r2, r3⟩, f0, f1, f2, f3⟩ := obj_frm (H6.out.obj HB3.out id))
      exact bodyPost_ret (v := .tuple #[.agg #[.int .i64 ko, .int .i64 co, .slice Ao lo ao, .slice Bo mo bo], E]) (by simp [results, Try.results32, go_sem, r0, r1, r2, r3]) rfl ⟨[.int .i64 ko, .int .i64 co, .slice Ao lo ao, .slice Bo mo bo], rfl, HRET.out _ _ _ _ _ _ _ H6.out (formV_up _ _ _ _ _ G6.out), HSET.out _ _ _ _ _ H6.out⟩
    · -- FAnd, FOr
      have hfe := (ans_many (nt := nt) hkd).1
      have haa := (ans_many (nt := nt) hkd).2
      rw [hfe, haa]
      obtain ⟨g, hg⟩ : ∃ g : FT n → FT (3 + n), g = fun k => normF n k nt := ⟨_, rfl⟩
      rw [← hg]
      obtain ⟨kk, hkk⟩ : ∃ kk, kk = (if nt = true then 11 - Node.kind f else Node.kind f) := ⟨_, rfl⟩
      rw [← hkk]
      have IHg : Hid (∀ i (h : i < (Node.kids f).length) R' W cs, (formV n) R' W cs (Node.kids f)[i] → Calls Try.prog 32 #[.agg cs.toArray, .bool nt] W fun e w' => ∃ ko co Ao lo ao Bo mo bo, e = .returned (.tuple #[.agg #[.int .i64 ko, .int .i64 co, .slice Ao lo ao, .slice Bo mo bo], errV 43 (if farF n (Node.kids f)[i] = true then 3 else 0)]) ∧ (formV (3 + n)) (fun q => R' q ∨ W.heap.size ≤ q) w' [.int .i64 ko, .int .i64 co, .slice Ao lo ao, .slice Bo mo bo] (if farF n (Node.kids f)[i] = true then zN n else g (Node.kids f)[i]) ∧ Chg No W w') := fun i h R' W cs hcs => by
        have := (IH.out _ _ _ _ nt hcs (hkf _ (List.getElem_mem h))).mono (fun _ _ g => g.shape)
        unfold ansF at this
        rw [hg]
        exact this
      have HKs := Lib.hid (fun W (hW : Chg No w W) => hk.no (formE_good n) hW)
      have hb2 := hk.big
      have hkr : (Node.kids f).length * 64 ≤ 140737488355328 := by
        have := hk.room
        have e : (formV n).mem.bytes = 64 := formV_bytes n
        rw [e] at this
        exact this
      unfold big at hb2
      have HKK := Lib.hid hkk
      have HI2 : Hid (I64 kk) := by
        unfold Hid; rw [hkk]
        split <;> exact HI.out _ (by omega) (by omega)
      clear hfe haa hg hkk hok hkf hm hk i1 i2 IH hnb
      generalize Node.kids f = ks at *
      generalize Node.kind f = kd at *
      generalize (Node.lin f).1 = c at *
      generalize (Node.lin f).2.length = tl at *
      obtain ⟨far, hfar⟩ : ∃ far, far = ks.any (farF n) := ⟨_, rfl⟩
      rw [← hfar]
      have HFT : Hid (∀ i (h : i < ks.length), farF n ks[i] = true → far = true) := fun i h hx => by
        rw [hfar, List.any_eq_true]; exact ⟨_, List.getElem_mem h, hx⟩
      have HFF : Hid ((∀ i (h : i < ks.length), farF n ks[i] = false) → far = false) := fun hx => by
        rw [hfar, List.any_eq_false]
        intro k hk
        obtain ⟨i, hi, rfl⟩ := List.getElem_of_mem hk
        rw [hx i hi]; decide
      clear hfar
      have HB3 := Lib.hid h3.out.2.2.1
      have HB2 := Lib.hid h3.out.2.1
      have HC3 := Lib.hid h3.out.1
      have HZ3 := Lib.hid h3.out.2.2.2
      clear h3
      have HQG : Hid (∀ kd0 : Int, ∃ wq, wq = w3.alloc (.cells #[.int .i64 kd0, .int .i64 0, .slice none 0 0, .slice none 0 0] 27) ∧ Hid (Chg No w3 wq ∧ wq.heap[w3.heap.size]? = some (.cells #[.int .i64 kd0, .int .i64 0, .slice none 0 0, .slice none 0 0] 27 (0, 0)) ∧ w3.heap.size < wq.heap.size)) := fun kd0 => ⟨_, rfl, (Chg.refl _ _).alloc _, heap_alloc_new _ _, by simp⟩
      have HSG : Hid (∀ (wq : World) (kd0 k1 : Int), (Chg No w3 wq ∧ wq.heap[w3.heap.size]? = some (.cells #[.int .i64 kd0, .int .i64 0, .slice none 0 0, .slice none 0 0] 27 (0, 0)) ∧ w3.heap.size < wq.heap.size) → ∃ wr0, wr0 = wq.setCell ⟨w3.heap.size, 0, none⟩ (.int .i64 k1) ∧ Hid (Chg No w3 wr0 ∧ wr0.heap[w3.heap.size]? = some (.cells #[.int .i64 k1, .int .i64 0, .slice none 0 0, .slice none 0 0] 27 (0, 0)) ∧ w3.heap.size < wr0.heap.size)) := fun wq kd0 k1 h => by
        have hs := (Chg.refl (fun k => k = w3.heap.size) wq).setCell ⟨w3.heap.size, 0, none⟩ (.int .i64 k1) (fun _ => rfl)
        exact ⟨_, rfl, chgpast h.1 hs (fun k hk => by omega), objset _ h.2.1, by have := hs.size; have := h.2.2; omega⟩
      have HSTEP : Hid (∀ (wr0 wr w7 : World) (vK : Value) (T T' : List (FT (3 + n))) (x : FT (3 + n)), T' = T ++ [x] → w3.heap.size < wr0.heap.size → Chg No wr w7 → (wr.heap[w3.heap.size]? = some (.cells #[.int .i64 kk, .int .i64 0, .slice none 0 0, vK] 27 (0, 0)) ∧ OwnL (formV (3 + n)) 27 (fun k => wr0.heap.size ≤ k) (fun k => (R k ∧ k < w.heap.size) ∨ wr0.heap.size ≤ k) wr vK T ∧ Chg No w3 wr ∧ wr0.heap.size ≤ wr.heap.size) →
          ∀ w8 A8 cap8, OwnL (formV (3 + n)) 27 (fun k => wr0.heap.size ≤ k) (fun k => (R k ∧ k < w.heap.size) ∨ wr0.heap.size ≤ k) w8 (.slice A8 (T.length + 1) cap8) (T ++ [x]) → Chg (fun q => vK.ownBlock = some q) w7 w8 →
          (w8.cell? ⟨w3.heap.size, 3, none⟩ = some vK ∧ w8.frozen? ⟨w3.heap.size, 3, none⟩ = false) ∧ Hid ((w8.setCell ⟨w3.heap.size, 3, none⟩ (.slice A8 (T.length + 1) cap8)).heap[w3.heap.size]? = some (.cells #[.int .i64 kk, .int .i64 0, .slice none 0 0, (.slice A8 (T.length + 1) cap8)] 27 (0, 0)) ∧ OwnL (formV (3 + n)) 27 (fun k => wr0.heap.size ≤ k) (fun k => (R k ∧ k < w.heap.size) ∨ wr0.heap.size ≤ k) (w8.setCell ⟨w3.heap.size, 3, none⟩ (.slice A8 (T.length + 1) cap8)) (.slice A8 (T.length + 1) cap8) T' ∧ Chg No w3 (w8.setCell ⟨w3.heap.size, 3, none⟩ (.slice A8 (T.length + 1) cap8)) ∧ wr0.heap.size ≤ (w8.setCell ⟨w3.heap.size, 3, none⟩ (.slice A8 (T.length + 1) cap8)).heap.size)) := fun wr0 wr w7 vK T T' x hT h0 h7 hst w8 A8 cap8 g1 g2 => by
        have hmine : ∀ q, vK.ownBlock = some q → wr0.heap.size ≤ q := fun q hq => (hst.2.1.mine q hq).1
        have o8 := g2.obj (h7.obj hst.1 id) (fun e => by have := hmine _ e; omega)
        have hs := (Chg.refl (fun q => q = w3.heap.size) w8).setCell ⟨w3.heap.size, 3, none⟩ (.slice A8 (T.length + 1) cap8) (fun _ => rfl)
        have hz3 := HZ3.out
        refine ⟨⟨(obj_four o8).2.2.2, objfrozen o8 3⟩, objset _ o8, ?_, ?_, ?_⟩
        · rw [hT]
          exact g1.chg (formV_good _) hs (fun k hk e => by have h1 : wr0.heap.size ≤ k := (g1.mine k hk).1; omega) (fun k hk _ e => by rcases hk with hk | hk <;> omega)
        · exact chgpast (chgpast (hst.2.2.1.thenNo h7) g2 (fun k hk => by have := hmine k hk; omega)) hs (fun k hk => by omega)
        · have := g2.size; have := hs.size; have := h7.size; have := hst.2.2.2; omega
      obtain ⟨xA, hxA⟩ : ∃ xA, xA = (if far = true then zN (n + 1) else mkN n kk (ks.map g)) := ⟨_, rfl⟩
      obtain ⟨EA, hEA⟩ : ∃ EA, EA = errV 43 (if far = true then 3 else 0) := ⟨_, rfl⟩
      rw [← hxA, ← hEA]
      have HXT : Hid (far = true → zN (n + 1) = xA ∧ .iface 43 (.int .i64 3) = EA) := fun h => by
        rw [hxA, hEA, h, if_pos rfl, if_pos rfl, errV_of _ (by decide)]; exact ⟨rfl, rfl⟩
      have HXF : Hid (far = false → mkN n kk (ks.map g) = xA ∧ .nilIface = EA) := fun h => by
        rw [hxA, hEA, h, if_neg (by decide), if_neg (by decide), errV_zero]; exact ⟨rfl, rfl⟩
      clear hxA hEA
      have HIc := HI
      rcases hkd with rfl | rfl
      all_goals cases nt
      all_goals
        go_enter Try.func32, Try.ntmps32
        go_upto_region 1 with fail
        rw [← hw3]
        clear hw3
        go_upto_region 10 with fail
        first
          | (obtain ⟨wq, hwq, HQ⟩ := HQG.out 5; rw [← hwq])
          | (obtain ⟨wq, hwq, HQ⟩ := HQG.out 6; rw [← hwq])
        clear hwq HQG
        clear p0 p1 p2 p3
        obtain ⟨p0, p1, p2, p3⟩ := obj_four (HQ.out.1.obj HB2.out id)
        obtain ⟨⟨q0, q1, q2, q3⟩, y0, y1, y2, y3⟩ := obj_frm HQ.out.2.1
        go_upto_region 12 with fail
        clear q0 q1 q2 q3 y0 y1 y2 y3 p0 p1 p2 p3
        first
          | (obtain ⟨wr0, hwr0, HR0⟩ := HSG.out wq _ 5 HQ.out; rw [← hwr0]; have hk5 : kk = 5 := HKK.out)
          | (obtain ⟨wr0, hwr0, HR0⟩ := HSG.out wq _ 6 HQ.out; rw [← hwr0]; have hk5 : kk = 6 := HKK.out)
          | (obtain ⟨wr0, hwr0, HR0⟩ : ∃ wr0, wr0 = wq ∧ Hid (Chg No w3 wr0 ∧ wr0.heap[w3.heap.size]? = some (.cells #[.int .i64 5, .int .i64 0, .slice none 0 0, .slice none 0 0] 27 (0, 0)) ∧ w3.heap.size < wr0.heap.size) := ⟨wq, rfl, HQ.out⟩
             rw [← hwr0]
             have hk5 : kk = 5 := HKK.out)
          | (obtain ⟨wr0, hwr0, HR0⟩ : ∃ wr0, wr0 = wq ∧ Hid (Chg No w3 wr0 ∧ wr0.heap[w3.heap.size]? = some (.cells #[.int .i64 6, .int .i64 0, .slice none 0 0, .slice none 0 0] 27 (0, 0)) ∧ w3.heap.size < wr0.heap.size) := ⟨wq, rfl, HQ.out⟩
             rw [← hwr0]
             have hk5 : kk = 6 := HKK.out)
        rw [← hk5] at HR0
        clear hk5 hwr0 HQ HKK HSG
        obtain ⟨p0, p1, p2, p3⟩ := obj_four (HR0.out.1.obj HB2.out id)
        go_wp2_with fail
        clear p0 p1 p2 p3
        go_loopw [46] (fun s46 wr => ∃ (i : Nat) (vK : Value), s46 = .int .i64 i ∧ i ≤ ks.length ∧ Hid (∀ j (h : j < ks.length), j < i → farF n ks[j] = false) ∧ Hid (wr.heap[w3.heap.size]? = some (.cells #[.int .i64 kk, .int .i64 0, .slice none 0 0, vK] 27 (0, 0)) ∧ OwnL (formV (3 + n)) 27 (fun k => wr0.heap.size ≤ k) (fun k => (R k ∧ k < w.heap.size) ∨ wr0.heap.size ≤ k) wr vK ((ks.take i).map g) ∧ Chg No w3 wr ∧ wr0.heap.size ≤ wr.heap.size)) (fun s46 _ => ks.length - (intOf s46).toNat)
        case atStart => exact ⟨0, _, rfl, Nat.zero_le _, fun j _ h => absurd h (Nat.not_lt_zero j), HR0.out.2.1, OwnL.nil _ _ _ _ _, HR0.out.1, Nat.le_refl _⟩
        case round =>
          obtain ⟨i, vK, rfl, gi, hnf, hst⟩ := hrel
          by_cases hlt : i < ks.length
          · obtain ⟨b, o, v0, v1, v2, v3, rfl, hv, x0, x1, x2, x3⟩ := forms_at (HKs.out wr (HC3.out.thenNo hst.out.2.2.1)) i hlt
            obtain ⟨k1, c1, A1, l1, a1, B1, m1, b1, e4⟩ := shape4 hv
            obtain ⟨rfl, rfl, rfl, rfl⟩ : v0 = .int .i64 k1 ∧ v1 = .int .i64 c1 ∧ v2 = .slice A1 l1 a1 ∧ v3 = .slice B1 m1 b1 := by simpa using e4
            clear e4
            have i0 : (0 : Int) ≤ (i : Int) := by omega
            have i1 : (i : Int) < (ks.length : Int) := by omega
            have HI0 := Lib.hid (fun W (hW : Chg No wr W) => IHg.out i hlt _ W _ ((formV_good n).no hv hW))
            have HFT1 := Lib.hid (HFT.out i hlt)
            have HNF1 : Hid (farF n ks[i] = false → ∀ j (h : j < ks.length), j < i + 1 → farF n ks[j] = false) := fun hp j h hj => by
              rcases Nat.lt_or_ge j i with g | g
              · exact hnf.out j h g
              · obtain rfl : j = i := by omega
                exact hp
            have HTK : Hid ((ks.take (i + 1)).map g = (ks.take i).map g ++ [g ks[i]]) := by
              unfold Hid
              rw [List.take_succ_eq_append_getElem hlt, List.map_append]; rfl
            have hTl : ((ks.take i).map g).length = i := by rw [List.length_map, List.length_take]; omega
            have HBY : Hid ((((ks.take i).map g).length + 1) * (formV (3 + n)).bytes ≤ 140737488355328) := by unfold Hid; rw [formV_bytes, hTl]; omega
            have HST1 := Lib.hid (fun w7 h7 => HSTEP.out wr0 wr w7 vK _ _ _ HTK.out HR0.out.2.2 h7 hst.out)
            generalize hT' : (ks.take (i + 1)).map g = T' at *
            have HT' := Lib.hid hT'
            clear hT' hTl HTK hv hnf
            generalize (ks.take i).map g = T at *
            generalize g ks[i] = gx at *
            generalize farF n ks[i] = fr at *
            obtain ⟨w5, hw5⟩ : ∃ w5, w5 = wr.alloc (.cells #[.int .i64 k1, .int .i64 c1, .slice A1 l1 a1, .slice B1 m1 b1] 27) := ⟨_, rfl⟩
            have H5 : Hid (Chg No wr w5 ∧ w5.heap[wr.heap.size]? = some (.cells #[.int .i64 k1, .int .i64 c1, .slice A1 l1 a1, .slice B1 m1 b1] 27 (0, 0)) ∧ wr.heap.size < w5.heap.size) := by
              rw [hw5]; exact ⟨(Chg.refl _ _).alloc _, heap_alloc_new _ _, by simp⟩
            have HI := Lib.hid (HI0.out w5 H5.out.1)
            clear HI0
            go_upto_region 15 with fail
            rw [← hw5]
            clear hw5
            obtain ⟨s0, s1, s2, s3⟩ := obj_four H5.out.2.1
            go_upto_region 16 with (go_at_call 32; (with_reducible refine HI.out.mono ?_); rintro e w6 ⟨ko, co, Ao, lo, ao, Bo, mo, bo, rfl, g6, h6⟩; have G6 := Lib.hid g6; have H6 := Lib.hid h6; clear g6 h6)
            obtain ⟨w7, hw7⟩ : ∃ w7, w7 = w6.alloc (.cells #[.int .i64 ko, .int .i64 co, .slice Ao lo ao, .slice Bo mo bo] 27) := ⟨_, rfl⟩
            have H7 : Hid (Chg No wr w7 ∧ w7.heap[w6.heap.size]? = some (.cells #[.int .i64 ko, .int .i64 co, .slice Ao lo ao, .slice Bo mo bo] 27 (0, 0)) ∧ Chg No w6 w7 ∧ w5.heap.size ≤ w6.heap.size ∧ wr0.heap.size ≤ w7.heap.size) := by
              have hc := (H5.out.1.thenNo H6.out).alloc (.cells #[.int .i64 ko, .int .i64 co, .slice Ao lo ao, .slice Bo mo bo] 27)
              rw [hw7]; exact ⟨hc, heap_alloc_new _ _, (Chg.refl _ _).alloc _, H6.out.size, by have := hc.size; have := hst.out.2.2.2; omega⟩
            rw [← hw7]
            clear hw7 s0 s1 s2 s3
            obtain ⟨s0, s1, s2, s3⟩ := obj_four H7.out.2.1
            cases fr
            · rw [if_neg (by decide)] at G6
              rw [show (if false = true then (3 : Int) else 0) = 0 from rfl, errV_zero]
              have HX : Hid ((formV (3 + n)) (fun k => ((R k ∧ k < w.heap.size) ∨ wr0.heap.size ≤ k) ∧ vK.ownBlock ≠ some k) w7 [.int .i64 ko, .int .i64 co, .slice Ao lo ao, .slice Bo mo bo] gx) := by
                have hm2 : ∀ q, vK.ownBlock = some q → wr0.heap.size ≤ q ∧ q < wr.heap.size := fun q hq => hst.out.2.1.mine q hq
                have hz := HR0.out.2.2
                have hz3 := HZ3.out
                have hz5 := H5.out.2.2
                have hz0 := hst.out.2.2.2
                refine (formV_good _).no ((formV_good _).mono G6.out (fun k _ hk => ?_)) H7.out.2.2.1
                rcases hk with hk | hk
                · exact ⟨.inl hk, fun e => by have := hm2 k e; omega⟩
                · exact ⟨.inr (by omega), fun e => by have := hm2 k e; omega⟩
              have HOW : Hid (OwnL (formV (3 + n)) 27 (fun k => wr0.heap.size ≤ k) (fun k => (R k ∧ k < w.heap.size) ∨ wr0.heap.size ≤ k) w7 vK T) := hst.out.2.1.no (formV_good _) H7.out.1
              have HFR : Hid (∀ k, w7.heap.size ≤ k → wr0.heap.size ≤ k) := fun k hk => by have := H7.out.2.2.2.2; omega
              have HP := Lib.hid (HST1.out w7 H7.out.1)
              obtain ⟨m0, m1, m2, m3⟩ := obj_four (H7.out.1.obj hst.out.1 id)
              have HN1 := Lib.hid (HNF1.out rfl)
              clear HI G6 HST1 H7 HNF1 HFT1 hst x0 x1 x2 x3 HSTEP
              go_wp2_with (at_builtin; refine wpList_pushL (formV_good (3 + n)) (formsTyN (3 + n)) rfl (.tmp 61) (.tmp 63) rfl HFR.out HOW.out rfl HX.out (by simp [Value.oneCell']) rfl HBY.out ?_; intro A8 cap8 w8 g1 g2; obtain ⟨⟨f1, f2⟩, G8⟩ := HP.out w8 A8 cap8 g1 g2; clear g1 g2)
              go_roundw
              case rel => exact ⟨i + 1, _, by go_num, hlt, HN1.out, by rw [HT'.out]; exact G8⟩
              case measure => simp [intOf]; omega
            · obtain ⟨rfl, rfl⟩ := HXT.out (HFT1.out rfl)
              rw [show (if true = true then (3 : Int) else 0) = 3 from rfl, errV_of _ (by decide)]
              obtain ⟨⟨r0, r1, r2, r3⟩, f0, f1, f2, f3⟩ := obj_frm ((hst.out.2.2.1.thenNo H7.out.1).obj HB3.out id)
              have HCF := Lib.hid (HSET.out w7 (.int .i64 0) (.int .i64 0) (.slice none 0 0) (.slice none 0 0) (hst.out.2.2.1.thenNo H7.out.1))
              clear HI G6 HST1 H7 HNF1 HFT1 hst x0 x1 x2 x3 HSTEP
              go_wp2_with fail
              exact bodyPost_ret (v := .tuple #[.agg #[.int .i64 0, .int .i64 0, .slice none 0 0, .slice none 0 0], .iface 43 (.int .i64 3)]) (by simp [results, Try.results32, go_sem, r0, r1, r2, r3]) rfl ⟨[.int .i64 0, .int .i64 0, .slice none 0 0, .slice none 0 0], rfl, leaf_cells 0 (HIc.out 0 (by omega) (by omega)), HCF.out⟩
          · obtain rfl : i = ks.length := by omega
            rw [List.take_of_length_le (Nat.le_refl _)] at hst
            obtain ⟨rfl, rfl⟩ := HXF.out (HFF.out (fun j h => hnf.out j h h))
            obtain ⟨BK, capK, rfl⟩ : ∃ BK capK, vK = .slice BK (ks.map g).length capK := by
              obtain ⟨BK, capK, e, _⟩ := hst.out.2.1.value
              exact ⟨BK, capK, e⟩
            obtain ⟨⟨r0, r1, r2, r3⟩, f0, f1, f2, f3⟩ := obj_frm (hst.out.2.2.1.obj HB3.out id)
            obtain ⟨q0, q1, q2, q3⟩ := obj_four hst.out.1
            have HFIN : Hid ((formV (3 + (n + 1))) (fun k => (R k ∧ k < w.heap.size) ∨ w3.heap.size ≤ k) wr [.int .i64 kk, .int .i64 0, .slice none 0 0, .slice BK (ks.map g).length capK] (mkN n kk (ks.map g))) := by
              have g3 := (hst.out.2.1.sl_of (formV_good _) (by rw [formV_bytes, List.length_map]; unfold big; omega)).2
              rw [formV_sz] at g3
              have hz := HR0.out.2.2
              refine ⟨none, 0, BK, capK, rfl, HI2.out, HIc.out 0 (by omega) (by omega), Sl.empty, ?_⟩
              rw [formV_sz]
              exact g3.mono (formE_good _) (fun k _ hk => by
                rcases hk with hk | hk | hk
                · exact .inr (by omega)
                · exact .inl hk
                · exact .inr (by omega))
            have HR2 := Lib.hid (HRET.out _ _ wr _ _ _ _ hst.out.2.2.1 HFIN.out)
            have HCF := Lib.hid (HSET.out wr (.int .i64 kk) (.int .i64 0) (.slice none 0 0) (.slice BK (ks.map g).length capK) hst.out.2.2.1)
            clear hst HFIN HSTEP HRET HSET
            generalize (ks.map g).length = gl at *
            go_wp2_with fail
            exact bodyPost_ret (v := .tuple #[.agg #[.int .i64 kk, .int .i64 0, .slice none 0 0, .slice BK gl capK], .nilIface]) (by simp [results, Try.results32, go_sem, r0, r1, r2, r3]) rfl ⟨[.int .i64 kk, .int .i64 0, .slice none 0 0, .slice BK gl capK], rfl, HR2.out, HCF.out⟩
theorem norm_any : ∀ n, NormOk n
  | 0 => fun _ _ _ _ _ h => h.elim
  | n + 1 => norm_step n (Lib.hid (norm_any n))
end Go.Proofs.Ytlejcnbpodmleaa
