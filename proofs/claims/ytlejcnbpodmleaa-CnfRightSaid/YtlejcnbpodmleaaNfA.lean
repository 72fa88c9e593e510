/-
  Lifted formulas; the opposite of a literal.
-/
import Derived.Test.YtlejcnbpodmleaaNrmE
import Derived.Test.YtlejcnbpodmleaaFrmG
namespace Go.Proofs.Ytlejcnbpodmleaa
open Go Go.RowKit

/-- With one floor more. -/
def upF : (n : Nat) → FT n → FT (n + 1)
  | 0, _ => (⟨0, (0, []), []⟩ : Node (FT 0))
  | n + 1, x => (⟨Node.kind x, Node.lin x, (Node.kids x).map (upF n)⟩ : Node (FT (n + 1)))
theorem forms_map {n m : Nat} {R : Nat → Prop} {w : World} {A : Option Addr} {l : List (FT n)} {cap : Nat} (g : FT n → FT m) (hg : ∀ cs x, (formV n) R w cs x → (formV m) R w cs (g x)) (h : Forms R w A l cap) : Forms R w A (l.map g) cap := by
  refine ⟨by simpa using h.le, h.max, ?_, h.nil, fun i hi => ?_⟩
  · have h1 := h.room
    have e : (formV n).mem.bytes = 64 := formV_bytes n
    have e' : (formV m).mem.bytes = 64 := formV_bytes m
    rw [e] at h1
    rw [e', List.length_map]
    exact h1
  · have hi' : i < l.length := by simpa using hi
    obtain ⟨b, o, e, hb, cs, h1, h2, h3⟩ := h.at_ i hi'
    refine ⟨b, o, e, hb, cs, ?_, h2, ?_⟩
    · rw [formV_sz] at h1 ⊢; exact h1
    · rw [List.getElem_map]; exact hg _ _ h3
theorem forms_one {n : Nat} {R : Nat → Prop} {w : World} {b : Nat} {cs : List Value} {x : FT n} {t : TypeId} {fr : Nat × Nat} (h : w.heap[b]? = some (.cells cs.toArray t fr)) (hb : R b) (hx : (formV n) R w cs x) : Forms R w (some ⟨b, 0, none⟩) [x] 1 := by
  have hlen := (formV_good n).len hx
  refine ⟨by simp, by simp [maxLen], ?_, (fun h => by cases h), fun i hi => ?_⟩
  · have e : (formV n).mem.bytes = 64 := formV_bytes n
    rw [e]; simp [big]
  · have h0 : i = 0 := by simp at hi; omega
    subst h0
    exact ⟨b, 0, rfl, hb, cs, hlen, fun j u hj => by simp [World.cell?, h, hj], hx⟩
theorem forms_two {n : Nat} {R : Nat → Prop} {w : World} {b : Nat} {cs cs' : List Value} {x x' : FT n} {t : TypeId} {fr : Nat × Nat} (h : w.heap[b]? = some (.cells (cs ++ cs').toArray t fr)) (hb : R b) (hx : (formV n) R w cs x) (hx' : (formV n) R w cs' x') : Forms R w (some ⟨b, 0, none⟩) [x, x'] 2 := by
  have hlen := (formV_good n).len hx
  have hlen' := (formV_good n).len hx'
  have h4 := formV_sz n
  refine ⟨by simp, by simp [maxLen], ?_, (fun h => by cases h), fun i hi => ?_⟩
  · have e : (formV n).mem.bytes = 64 := formV_bytes n
    rw [e]; simp [big]
  · rcases i with _ | _ | i
    · refine ⟨b, 0, rfl, hb, cs, hlen, fun j u hj => ?_, hx⟩
      have hj' := (List.getElem?_eq_some_iff.1 hj).1
      have : (cs ++ cs')[j]? = some u := by rw [List.getElem?_append_left hj']; exact hj
      simp [World.cell?, h, this]
    · refine ⟨b, 0, rfl, hb, cs', hlen', fun j u hj => ?_, hx'⟩
      have : (cs ++ cs')[4 + j]? = some u := by rw [List.getElem?_append_right (by omega), hlen, h4]; simpa using hj
      simp [World.cell?, h, this]
    · exfalso
      have : i + 1 + 1 < 2 := hi
      omega
theorem formV_up : ∀ (n : Nat) (R : Nat → Prop) (w : World) (cs : List Value) (x : FT n), (formV n) R w cs x → (formV (n + 1)) R w cs (upF n x)
  | 0, _, _, _, _, h => h.elim
  | n + 1, R, w, cs, x, h => by
    obtain ⟨A, cap, B, capk, rfl, i1, i2, hm, hk⟩ := node_cells h
    refine ⟨A, cap, B, capk, ?_, i1, i2, hm, ?_⟩
    · have e : (Node.kids (upF (n + 1) x)).length = (Node.kids x).length := by show ((Node.kids x).map (upF n)).length = _; rw [List.length_map]
      rw [e]; rfl
    · rw [formV_sz]
      exact forms_map (upF n) (fun cs x h => formV_up n R w cs x h) hk

/-- A literal, or FTrue or FFalse. -/
def LitOk (x : FT 2) : Prop := (Node.kind x = 0 ∨ Node.kind x = 1 ∨ Node.kind x = 2) ∧ Node.kids x = [] ∨ Node.kind x = 4 ∧ ∃ k, Node.kids x = [k]
theorem litForm_ok (c : Int) (t : List Mono) : LitOk (litForm c t) := by
  unfold litForm
  repeat' split
  all_goals first
    | exact .inl ⟨.inl rfl, rfl⟩
    | exact .inl ⟨.inr (.inl rfl), rfl⟩
    | exact .inl ⟨.inr (.inr rfl), rfl⟩
    | exact .inr ⟨rfl, _, rfl⟩
/-- Its opposite. -/
def oppL (x : FT 2) : FT 2 := if Node.kind x = 0 then leaf2 1 else if Node.kind x = 1 then leaf2 0 else if Node.kind x = 4 then (match Node.kids x with | k :: _ => upF 1 k | [] => leaf2 0)
  else (⟨4, (0, []), [(⟨Node.kind x, Node.lin x, []⟩ : Node (FT 0))]⟩ : Node (FT 1))
/-- What answers a formula, of the argument's blocks or new ones. -/
def FRet (n : Nat) (R : Nat → Prop) (w : World) (x : FT n) (e : Ending) (w' : World) : Prop :=
  ∃ cs', e = .returned (.agg cs'.toArray) ∧ (formV n) (fun k => R k ∨ w.heap.size ≤ k) w' cs' x ∧ Chg No w w'
theorem leaf_cells {n : Nat} {R : Nat → Prop} {w : World} (kd : Int) (hk : I64 kd) : (formV (n + 1)) R w [.int .i64 kd, .int .i64 0, .slice none 0 0, .slice none 0 0] (⟨kd, (0, []), []⟩ : Node (FT n)) :=
  ⟨none, 0, none, 0, rfl, hk, by show I64 0; unfold I64; decide, Sl.empty, Sl.empty⟩
theorem forms_nil {n m : Nat} {R : Nat → Prop} {w : World} {A : Option Addr} {cap : Nat} (h : Sl (formV n).mem 4 R w A [] cap) : Sl (formV m).mem 4 R w A [] cap :=
  ⟨Nat.zero_le _, h.max, by simp, h.nil, fun i hi => absurd hi (Nat.not_lt_zero i)⟩

set_option maxRecDepth 100000 in
set_option maxHeartbeats 2000000 in
theorem opposite_any (x : FT 2) (hx : LitOk x) {R : Nat → Prop} {w : World} {cs : List Value} (h : (formV 2) R w cs x) : Calls Try.prog 55 #[.agg cs.toArray] w (FRet 2 R w (oppL x)) := by
  obtain ⟨A, cap, B, capk, rfl, i1, i2, hm, hk⟩ := node_cells h
  clear h
  obtain ⟨w3, hw3⟩ : ∃ w3, w3 = (w.alloc (.cells #[.int .i64 (Node.kind x), .int .i64 (Node.lin x).1, .slice A (Node.lin x).2.length cap, .slice B (Node.kids x).length capk] 27)).alloc (.cells #[.int .i64 0, .int .i64 0, .slice none 0 0, .slice none 0 0] 27) := ⟨_, rfl⟩
  have h3 : Hid (Chg No w w3 ∧ w3.heap[w.heap.size]? = some (.cells #[.int .i64 (Node.kind x), .int .i64 (Node.lin x).1, .slice A (Node.lin x).2.length cap, .slice B (Node.kids x).length capk] 27 (0, 0)) ∧ w3.heap[w.heap.size + 1]? = some (.cells #[.int .i64 0, .int .i64 0, .slice none 0 0, .slice none 0 0] 27 (0, 0)) ∧ w3.heap.size = w.heap.size + 2) := by
    rw [hw3]; exact ⟨((Chg.refl _ _).alloc _).alloc _, at_old (heap_alloc_new _ _), at_new (by simp), by simp⟩
  have HSET : Hid (∀ W u0 u1 u2 u3, Chg No w3 W → Chg No w ((((W.setCell ⟨w.heap.size + 1, 0, none⟩ u0).setCell ⟨w.heap.size + 1, 1, none⟩ u1).setCell ⟨w.heap.size + 1, 2, none⟩ u2).setCell ⟨w.heap.size + 1, 3, none⟩ u3)) := fun W u0 u1 u2 u3 hW =>
    chgpast (h3.out.1.thenNo hW) (set4_chg _ W u0 u1 u2 u3) (fun k hk => by omega)
  obtain ⟨⟨r0, r1, r2, r3⟩, f0, f1, f2, f3⟩ := obj_frm h3.out.2.2.1
  obtain ⟨p0, p1, p2, p3⟩ := obj_four h3.out.2.1
  rcases hx with ⟨hkd, hks⟩ | ⟨hkd, k, hks⟩
  · rcases hkd with hkd | hkd | hkd
    · have e : oppL x = leaf2 1 := by unfold oppL; rw [if_pos hkd]
      rw [e]
      rw [hkd] at p0 hw3 ⊢
      clear e hkd hks hk hm h3 i1 i2
      generalize (Node.lin x).2.length = tl at *
      generalize (Node.lin x).1 = c at *
      generalize (Node.kids x).length = kl at *
      go_enter Try.func55, Try.ntmps55
      go_upto_region 1 with fail
      rw [← hw3]
      clear hw3
      go_wp2_with fail
      exact bodyPost_ret (v := .agg #[.int .i64 1, .int .i64 0, .slice none 0 0, .slice none 0 0]) (by simp [results, Try.results55, go_sem, r0, r1, r2, r3]) rfl ⟨[.int .i64 1, .int .i64 0, .slice none 0 0, .slice none 0 0], rfl, leaf_cells 1 (by unfold I64; decide), HSET.out _ _ _ _ _ (Chg.refl _ _)⟩
    · have e : oppL x = leaf2 0 := by unfold oppL; rw [if_neg (by omega), if_pos hkd]
      rw [e]
      rw [hkd] at p0 hw3 ⊢
      clear e hkd hks hk hm h3 i1 i2
      generalize (Node.lin x).2.length = tl at *
      generalize (Node.lin x).1 = c at *
      generalize (Node.kids x).length = kl at *
      go_enter Try.func55, Try.ntmps55
      go_upto_region 1 with fail
      rw [← hw3]
      clear hw3
      go_wp2_with fail
      exact bodyPost_ret (v := .agg #[.int .i64 0, .int .i64 0, .slice none 0 0, .slice none 0 0]) (by simp [results, Try.results55, go_sem, r0, r1, r2, r3]) rfl ⟨[.int .i64 0, .int .i64 0, .slice none 0 0, .slice none 0 0], rfl, leaf_cells 0 (by unfold I64; decide), HSET.out _ _ _ _ _ (Chg.refl _ _)⟩
    · have e : oppL x = (⟨4, (0, []), [(⟨2, Node.lin x, []⟩ : Node (FT 0))]⟩ : Node (FT 1)) := by unfold oppL; simp [hkd]; rfl
      rw [e]
      have hz := h3.out.2.2.2
      have HX : Hid (∀ W, W.heap[w3.heap.size]? = some (.cells [.int .i64 2, .int .i64 (Node.lin x).1, .slice A (Node.lin x).2.length cap, .slice B (Node.kids x).length capk].toArray 27 (0, 0)) → Chg No w W → (formV 2) (fun k => R k ∨ w.heap.size ≤ k) W [.int .i64 4, .int .i64 0, .slice none 0 0, .slice (some ⟨w3.heap.size, 0, none⟩) 1 1] (⟨4, (0, []), [(⟨2, Node.lin x, []⟩ : Node (FT 0))]⟩ : Node (FT 1))) := fun W hb hW => by
        refine ⟨none, 0, some ⟨w3.heap.size, 0, none⟩, 1, rfl, by show I64 4; unfold I64; decide, by show I64 0; unfold I64; decide, Sl.empty, ?_⟩
        rw [formV_sz]
        refine forms_one hb (.inr (by omega)) ⟨A, cap, B, capk, ?_, by show I64 2; unfold I64; decide, i2, (hm.no monoE_good hW).mono monoE_good (fun k _ h => .inl h), ?_⟩
        · rw [hks]; rfl
        · rw [formV_sz]
          have := (hk.no (formE_good 1) hW).mono (formE_good 1) (R' := fun k => R k ∨ w.heap.size ≤ k) (fun k _ h => .inl h)
          rw [hks] at this
          exact forms_nil this
      have hz' := hz
      clear hz
      have o3 := Lib.hid h3.out.2.2.1
      rw [hkd] at p0 hw3 ⊢
      clear e hkd hks hk hm h3 i1 i2
      generalize Node.lin x = lx at *
      generalize (Node.kids x).length = kl at *
      go_enter Try.func55, Try.ntmps55
      go_upto_region 1 with fail
      rw [← hw3]
      clear hw3
      clear r0 r1 r2 r3 f0 f1 f2 f3
      have HKB : Hid (Chg No w3 (w3.alloc (.cells #[.int .i64 2, .int .i64 lx.1, .slice A lx.2.length cap, .slice B kl capk] 27)) ∧ (w3.alloc (.cells #[.int .i64 2, .int .i64 lx.1, .slice A lx.2.length cap, .slice B kl capk] 27)).heap[w3.heap.size]? = some (.cells #[.int .i64 2, .int .i64 lx.1, .slice A lx.2.length cap, .slice B kl capk] 27 (0, 0))) := ⟨(Chg.refl _ _).alloc _, heap_alloc_new _ _⟩
      obtain ⟨⟨r0, r1, r2, r3⟩, f0, f1, f2, f3⟩ := obj_frm (HKB.out.1.obj o3.out id)
      have HW : Hid (∀ W, (((((w3.alloc (.cells #[.int .i64 2, .int .i64 lx.1, .slice A lx.2.length cap, .slice B kl capk] 27)).setCell ⟨w.heap.size + 1, 0, none⟩ (.int .i64 4)).setCell ⟨w.heap.size + 1, 1, none⟩ (.int .i64 0)).setCell ⟨w.heap.size + 1, 2, none⟩ (.slice none 0 0)).setCell ⟨w.heap.size + 1, 3, none⟩ (.slice (some ⟨w3.heap.size, 0, none⟩) 1 1)) = W → (formV 2) (fun k => R k ∨ w.heap.size ≤ k) W [.int .i64 4, .int .i64 0, .slice none 0 0, .slice (some ⟨w3.heap.size, 0, none⟩) 1 1] (⟨4, (0, []), [(⟨2, lx, []⟩ : Node (FT 0))]⟩ : Node (FT 1)) ∧ Chg No w W) := fun W hW => by
        subst hW
        have hc := HSET.out _ (.int .i64 4) (.int .i64 0) (.slice none 0 0) (.slice (some ⟨w3.heap.size, 0, none⟩) 1 1) HKB.out.1
        exact ⟨HX.out _ ((set4_chg (w.heap.size + 1) _ _ _ _ _).obj HKB.out.2 (by omega)) hc, hc⟩
      clear hz' HKB
      go_wp2_with fail
      exact bodyPost_ret (v := .agg #[.int .i64 4, .int .i64 0, .slice none 0 0, .slice (some ⟨w3.heap.size, 0, none⟩) 1 1]) (by simp [results, Try.results55, go_sem, r0, r1, r2, r3]) rfl ⟨[.int .i64 4, .int .i64 0, .slice none 0 0, .slice (some ⟨w3.heap.size, 0, none⟩) 1 1], rfl, HW.out _ rfl⟩
  · have e : oppL x = upF 1 k := by unfold oppL; simp [hkd, hks]
    rw [e]
    have hlt : 0 < (Node.kids x).length := by rw [hks]; simp
    obtain ⟨b, o, v0, v1, v2, v3, rfl, hv, x0, x1, x2, x3⟩ := forms_at (hk.no (formE_good 1) h3.out.1) 0 hlt
    obtain ⟨ka, ca, Aa, la, aa, Ba, ma, ba, e4⟩ := shape4 hv
    obtain ⟨rfl, rfl, rfl, rfl⟩ : v0 = .int .i64 ka ∧ v1 = .int .i64 ca ∧ v2 = .slice Aa la aa ∧ v3 = .slice Ba ma ba := by simpa using e4
    clear e4
    have HV : Hid (∀ W, Chg No w W → Chg No w3 W → (formV 2) (fun k => R k ∨ w.heap.size ≤ k) W [.int .i64 ka, .int .i64 ca, .slice Aa la aa, .slice Ba ma ba] (upF 1 k)) := fun W hW hW3 => by
      have e1 : (Node.kids x)[0] = k := by simp [hks]
      rw [e1] at hv
      exact formV_up 1 _ _ _ _ ((formV_good 1).mono ((formV_good 1).no hv hW3) (fun k _ h => .inl h))
    have hl1 : (Node.kids x).length = 1 := by rw [hks]; rfl
    have hz := h3.out.2.2.2
    have HL : Hid (∀ u0 u1 u2 u3, Chg No w3 ((((w3.setCell ⟨w.heap.size + 1, 0, none⟩ u0).setCell ⟨w.heap.size + 1, 1, none⟩ u1).setCell ⟨w.heap.size + 1, 2, none⟩ u2).setCell ⟨w.heap.size + 1, 3, none⟩ u3) ∨ True) := fun _ _ _ _ => .inr trivial
    simp only [Nat.zero_mul, Nat.add_zero] at x0 x1 x2 x3
    have HV2 : Hid (∀ u0 u1 u2 u3, (formV 2) (fun k => R k ∨ w.heap.size ≤ k) ((((w3.setCell ⟨w.heap.size + 1, 0, none⟩ u0).setCell ⟨w.heap.size + 1, 1, none⟩ u1).setCell ⟨w.heap.size + 1, 2, none⟩ u2).setCell ⟨w.heap.size + 1, 3, none⟩ u3) [.int .i64 ka, .int .i64 ca, .slice Aa la aa, .slice Ba ma ba] (upF 1 k)) := fun u0 u1 u2 u3 => by
      have e1 : (Node.kids x)[0] = k := by simp [hks]
      have hv0 : ∃ b' o' u0' u1' u2' u3', (some (⟨b, o, none⟩ : Addr)) = some ⟨b', o', none⟩ ∧ (formV 1) R w [u0', u1', u2', u3'] (Node.kids x)[0] ∧ w.cell? ⟨b', o' + 0 * 4, none⟩ = some u0' ∧ w.cell? ⟨b', o' + 0 * 4 + 1, none⟩ = some u1' ∧ w.cell? ⟨b', o' + 0 * 4 + 2, none⟩ = some u2' ∧ w.cell? ⟨b', o' + 0 * 4 + 3, none⟩ = some u3' := forms_at hk 0 hlt
      obtain ⟨b', o', u0', u1', u2', u3', e2, hv', y0, y1, y2, y3⟩ := hv0
      cases e2
      simp only [Nat.zero_mul, Nat.add_zero] at y0 y1 y2 y3
      have z0 := (h3.out.1.cell y0 id).symm.trans x0
      have z1 := (h3.out.1.cell y1 id).symm.trans x1
      have z2 := (h3.out.1.cell y2 id).symm.trans x2
      have z3 := (h3.out.1.cell y3 id).symm.trans x3
      cases z0; cases z1; cases z2; cases z3
      rw [e1] at hv'
      exact formV_up 1 _ _ _ _ ((formV_good 1).mono ((formV_good 1).no hv' (HSET.out w3 u0 u1 u2 u3 (Chg.refl _ _))) (fun k _ h => .inl h))
    rw [hkd] at p0 hw3 ⊢
    have hj : (0 : Int) < ((Node.kids x).length : Int) := by omega
    clear e hkd hks hk hm h3 i1 i2 hv HV HL hlt hl1 hz
    generalize (Node.kids x).length = kl at *
    generalize (Node.lin x).2.length = tl at *
    generalize (Node.lin x).1 = c at *
    go_enter Try.func55, Try.ntmps55
    go_upto_region 1 with fail
    rw [← hw3]
    clear hw3
    go_wp2_with fail
    exact bodyPost_ret (v := .agg #[.int .i64 ka, .int .i64 ca, .slice Aa la aa, .slice Ba ma ba]) (by simp [results, Try.results55, go_sem, r0, r1, r2, r3]) rfl ⟨[.int .i64 ka, .int .i64 ca, .slice Aa la aa, .slice Ba ma ba], rfl, HV2.out _ _ _ _, HSET.out _ _ _ _ _ (Chg.refl _ _)⟩

end Go.Proofs.Ytlejcnbpodmleaa
