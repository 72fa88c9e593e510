/-
  The look's value of a condition.
-/
import Derived.Test.YtgofncopoieigaaDoorHlC
namespace Go.Proofs.YtgofncopoieigaaDoor
open Go Go.RowKit

theorem intsTyH : SliceTy Tryd.prog 87 3 intV.sz intV.bytes (.int .i64 0) := ⟨Tryd.underlying87, by kernel_rfl, rfl, by decide, by decide⟩
theorem boolsTyH : SliceTy Tryd.prog 88 4 boolV.sz boolV.bytes (.bool false) := ⟨Tryd.underlying88, by kernel_rfl, rfl, by decide, by decide⟩
theorem intV_goodH : intV.Good := intV_good
theorem boolV_goodH : boolV.Good := boolV_good
theorem beqDec (a b : Int) : (a == b) = decide (a = b) := by by_cases h : a = b <;> simp [h]
theorem own_int2 {M : Nat → Prop} {w : World} {v : Value} {a b : Int} (h : OwnL intV 3 M No w v [a, b]) : ∃ g o c, v = .slice (some ⟨g, o, none⟩) 2 c ∧ w.cell? ⟨g, o, none⟩ = some (.int .i64 a) ∧ w.cell? ⟨g, o + 1, none⟩ = some (.int .i64 b) := by
  obtain ⟨g, o, c, cs, e, _, _, hv, hc⟩ := h.at_ intV_goodH 0 (by simp)
  obtain ⟨g', o', c', cs', e', _, _, hv', hc'⟩ := h.at_ intV_goodH 1 (by simp)
  rw [e] at e'
  injection e' with e1 _ e3
  injection e1 with e1
  injection e1 with e1 e2
  subst e1; subst e2; subst e3
  obtain ⟨rfl, _⟩ := hv
  obtain ⟨rfl, _⟩ := hv'
  exact ⟨g, o, c, e, hc 0 _ rfl, hc' 0 _ rfl⟩
theorem own_bool1 {M : Nat → Prop} {w : World} {v : Value} {a : Bool} (h : OwnL boolV 4 M No w v [a]) : ∃ g o c, v = .slice (some ⟨g, o, none⟩) 1 c ∧ w.cell? ⟨g, o, none⟩ = some (.bool a) := by
  obtain ⟨g, o, c, cs, e, _, _, hv, hc⟩ := h.at_ boolV_goodH 0 (by simp)
  have hv : cs = [.bool a] := hv
  subst hv
  exact ⟨g, o, c, e, hc 0 _ rfl⟩
theorem own_bool2 {M : Nat → Prop} {w : World} {v : Value} {a b : Bool} (h : OwnL boolV 4 M No w v [a, b]) : ∃ g o c, v = .slice (some ⟨g, o, none⟩) 2 c ∧ w.cell? ⟨g, o, none⟩ = some (.bool a) ∧ w.cell? ⟨g, o + 1, none⟩ = some (.bool b) := by
  obtain ⟨g, o, c, cs, e, _, _, hv, hc⟩ := h.at_ boolV_goodH 0 (by simp)
  obtain ⟨g', o', c', cs', e', _, _, hv', hc'⟩ := h.at_ boolV_goodH 1 (by simp)
  rw [e] at e'
  injection e' with e1 _ e3
  injection e1 with e1
  injection e1 with e1 e2
  subst e1; subst e2; subst e3
  have hv : cs = [.bool a] := hv
  have hv' : cs' = [.bool b] := hv'
  subst hv; subst hv'
  exact ⟨g, o, c, e, hc 0 _ rfl, hc' 0 _ rfl⟩
theorem okC_parts {m n : Nat} {x : CNode (ET m) (CT m n)} (h : okC m (n + 1) x = true) : cShape x.kind x.es.length x.kids.length = true ∧ (∀ e ∈ x.es, okE m e = true) ∧ ∀ k ∈ x.kids, okC m n k = true := by
  have h' : (cShape x.kind x.es.length x.kids.length && (x.es.all (okE m) && x.kids.all (okC m n))) = true := h
  rw [Bool.and_eq_true, Bool.and_eq_true] at h'
  exact ⟨h'.1, List.all_eq_true.1 h'.2.1, List.all_eq_true.1 h'.2.2⟩
theorem cShape_cases {kd : Int} {el kl : Nat} (h : cShape kd el kl = true) :
    (kd = 0 ∧ el = 0 ∧ kl = 0) ∨ (kd = 1 ∧ el = 0 ∧ kl = 0) ∨ ((kd = 2 ∨ kd = 3 ∨ kd = 4 ∨ kd = 5) ∧ el = 2 ∧ kl = 0) ∨ (kd = 6 ∧ el = 0 ∧ kl = 1) ∨ ((kd = 7 ∨ kd = 8) ∧ el = 0 ∧ kl = 2) := by
  unfold cShape at h
  split at h
  · simp only [Bool.and_eq_true, decide_eq_true_eq] at h; omega
  split at h
  · simp only [Bool.and_eq_true, decide_eq_true_eq] at h; omega
  split at h
  · simp only [Bool.and_eq_true, decide_eq_true_eq] at h; omega
  split at h
  · simp only [Bool.and_eq_true, decide_eq_true_eq] at h; omega
  · cases h
theorem conds_someH {m n : Nat} {R : Nat → Prop} {w : World} {b o : Nat} {l : List (CT m n)} {cap : Nat} (h : Conds R w (some ⟨b, o, none⟩) l cap) (i : Nat) (hi : i < l.length) :
    ∃ k A' el cape B kl capk, (condV m n) R w [.int .i64 k, .slice A' el cape, .slice B kl capk] l[i] ∧ w.cell? ⟨b, o + i * 3, none⟩ = some (.int .i64 k) ∧ w.cell? ⟨b, o + i * 3 + 1, none⟩ = some (.slice A' el cape) ∧ w.cell? ⟨b, o + i * 3 + 2, none⟩ = some (.slice B kl capk) := by
  obtain ⟨b', o', k, A', el, cape, B, kl, capk, e, hv, x0, x1, x2⟩ := conds_at h i hi
  injection e with e
  injection e with e1 e2
  subst e1; subst e2
  exact ⟨k, A', el, cape, B, kl, capk, hv, x0, x1, x2⟩
theorem coH_eq (l : List Vr) (m : Nat) {n : Nat} (x : CNode (ET m) (CT m n)) : coH l m (n + 1) x = (truthH x.kind (x.es.map fun e => (exH l m e).1) (x.kids.map fun c => (coH l m n c).1), x.es.any (fun e => (exH l m e).2) || x.kids.any (fun c => (coH l m n c).2)) := rfl
def HCoOk (m n : Nat) : Prop := ∀ (x : CT m n) (R Rs : Nat → Prop) (w : World) (cs : List Value) (bx : Nat) (A : Option Addr) (l : List Vr) (cap : Nat) (f : Bool), okC m n x = true → (condV m n) R w cs x → (∀ k, R k → k ≠ bx) → LookAt w bx A l.length cap f → Vars Rs w A l cap → (∀ k, Rs k → k ≠ bx) →
    Calls Tryd.prog 19 #[.pointer (some ⟨bx, 0, none⟩), .agg cs.toArray] w (LkRet bx A l.length cap (f || (coH l m n x).2) w (.bool (coH l m n x).1))
theorem take_map_succ {α β : Type} (f : α → β) {l : List α} {k : Nat} (h : k < l.length) : (l.take (k + 1)).map f = (l.take k).map f ++ [f l[k]] := by
  rw [List.take_succ_eq_append_getElem h, List.map_append]; rfl
theorem take_any_succ {α : Type} (f : α → Bool) {l : List α} {k : Nat} (h : k < l.length) : (l.take (k + 1)).any f = ((l.take k).any f || f l[k]) := by
  rw [List.take_succ_eq_append_getElem h, List.any_append]; simp

set_option maxRecDepth 100000 in
set_option maxHeartbeats 8000000 in
theorem hco_walk (m n : Nat) (IH : Hid (HCoOk m n)) : HCoOk m (n + 1) := by
  rintro f R Rs w cs bx A l cap fl hok h hR hb hl hRs
  obtain ⟨Ae, cape, B, capk, rfl, i1, he, hk⟩ := cnode_cells h
  obtain ⟨hs, heok, hkok⟩ := okC_parts hok
  have hbx : bx < w.heap.size := (Array.getElem?_eq_some_iff.1 hb).1
  have HES := Lib.hid (fun W (hW : Chg (fun k => k = bx) w W) => he.chg (exprE_good m) hW (fun k hk e => hR k hk e))
  have HKS := Lib.hid (fun W (hW : Chg (fun k => k = bx) w W) => hk.chg (condE_good m n) hW (fun k hk e => hR k hk e))
  have HVS := Lib.hid (fun W (hW : Chg (fun k => k = bx) w W) => hl.chg varE_good hW (fun k hk e => hRs k hk e))
  have HEX : Hid (∀ x : ET m, okE m x = true → ∀ W cs' g, Chg (fun k => k = bx) w W → (exprV m) R W cs' x → LookAt W bx A l.length cap g → Calls Tryd.prog 15 #[.pointer (some ⟨bx, 0, none⟩), .agg cs'.toArray] W (LkRet bx A l.length cap (g || (exH l m x).2) W (.int .i64 (exH l m x).1))) := fun x hx W cs' g hW hcs hg => hex_any m x R Rs W cs' bx A l cap g hx hcs hR hg (HVS.out W hW) hRs
  have HCO : Hid (∀ x : CT m n, okC m n x = true → ∀ W cs' g, Chg (fun k => k = bx) w W → (condV m n) R W cs' x → LookAt W bx A l.length cap g → Calls Tryd.prog 19 #[.pointer (some ⟨bx, 0, none⟩), .agg cs'.toArray] W (LkRet bx A l.length cap (g || (coH l m n x).2) W (.bool (coH l m n x).1))) := fun x hx W cs' g hW hcs hg => IH.out x R Rs W cs' bx A l cap g hx hcs hR hg (HVS.out W hW) hRs
  have hans0 := coH_eq l m f
  have HEO := Lib.hid heok
  have HKO := Lib.hid hkok
  have HLE := Lib.hid (fun x : ET m => exH_le l m x)
  have HB := Lib.hid hb
  obtain ⟨ans, hans⟩ : ∃ ans, ans = coH l m (n + 1) f := ⟨_, rfl⟩
  rw [← hans] at hans0 ⊢
  have HA := Lib.hid hans0
  clear hans hans0 h hk he IH hok hl heok hkok hb
  generalize CNode.kind f = kd at *
  generalize CNode.es f = es at *
  generalize CNode.kids f = ks at *
  have hbe : es.length ≤ 2 := by rcases cShape_cases hs with h | h | h | h | h <;> omega
  have hbk : ks.length ≤ 2 := by rcases cShape_cases hs with h | h | h | h | h <;> omega
  obtain ⟨w3, hw3⟩ : ∃ w3, w3 = w.alloc (.cells #[.int .i64 kd, .slice Ae es.length cape, .slice B ks.length capk] 25) := ⟨_, rfl⟩
  have h3 : Hid (Chg No w w3 ∧ w3.heap[w.heap.size]? = some (.cells #[.int .i64 kd, .slice Ae es.length cape, .slice B ks.length capk] 25 (0, 0)) ∧ LookAt w3 bx A l.length cap fl ∧ w3.heap.size = w.heap.size + 1) := by
    rw [hw3]
    exact ⟨(Chg.refl _ _).alloc _, heap_alloc_new _ _, HB.out.chg (S := No) ((Chg.refl _ _).alloc _) id, by simp⟩
  have HO : Hid (∀ W, Chg (fun k => k = bx) w3 W → W.cell? ⟨w.heap.size, 0, none⟩ = some (.int .i64 kd) ∧ W.cell? ⟨w.heap.size, 1, none⟩ = some (.slice Ae es.length cape) ∧ W.cell? ⟨w.heap.size, 2, none⟩ = some (.slice B ks.length capk)) := fun W hW =>
    obj_3 (hW.obj h3.out.2.1 (fun e => by omega))
  obtain ⟨p0, p1, p2⟩ := HO.out w3 (Chg.refl _ _)
  go_enter Tryd.func19, Tryd.ntmps19
  go_upto_region 1 with fail
  rw [← hw3]
  clear hw3
  go_wp2_with fail
  clear p0 p1 p2
  go_loopw [5, 14] (fun s5 s14 wr => ∃ (k : Nat) (v : Value), v = s5 ∧ s14 = .int .i64 k ∧ k ≤ es.length ∧ Hid (OwnL intV 3 (fun q => w3.heap.size ≤ q) No wr v ((es.take k).map fun e => (exH l m e).1) ∧ Chg (fun q => q = bx) w3 wr ∧ LookAt wr bx A l.length cap (fl || (es.take k).any fun e => (exH l m e).2))) (fun _ s14 _ => es.length - (intOf s14).toNat)
  case atStart => exact ⟨0, _, rfl, rfl, Nat.zero_le _, OwnL.nil _ _ _ _ _, Chg.refl _ _, by simpa using h3.out.2.2.1⟩
  case round =>
    obtain ⟨k, v, rfl, rfl, gk, hst⟩ := hrel
    by_cases hlt : k < es.length
    · have HW : Hid (Chg (fun q => q = bx) w wr) := h3.out.1.no.trans hst.out.2.1 (fun _ h _ => h)
      obtain ⟨b, o, k0, m0, s0, B0, l0, d0, rfl, hv, x0, x1, x2, x3⟩ := exprs_at (HES.out wr HW.out) k hlt
      have i0 : (0 : Int) ≤ (k : Int) := by omega
      have i1 : (k : Int) < (es.length : Int) := by omega
      have hLk : ((es.take k).map fun e => (exH l m e).1).length ≤ es.length := by simp; omega
      have HE1 := Lib.hid (take_map_succ (fun e => (exH l m e).1) hlt)
      have HE2 := Lib.hid (take_any_succ (fun e => (exH l m e).2) hlt)
      have HOW := Lib.hid hst.out.1
      have HCH := Lib.hid hst.out.2.1
      have HLK := Lib.hid hst.out.2.2
      have HVR : Hid (∀ q, v.ownBlock = some q → w3.heap.size ≤ q ∧ q < wr.heap.size) := fun q hq => hst.out.1.mine q hq
      have HEV := Lib.hid (HLE.out es[k])
      have HXO := Lib.hid (HEO.out es[k] (List.getElem_mem hlt))
      clear hst
      generalize ((es.take k).map fun e => (exH l m e).1) = Lk at *
      generalize ((es.take k).any fun e => (exH l m e).2) = gk1 at *
      have HIX := Lib.hid (fun W (hW : Chg No wr W) => HEX.out es[k] HXO.out W _ (fl || gk1) (HW.out.thenNo hW) ((exprV_good m).no hv hW) (HLK.out.chg hW id))
      clear hv HXO
      generalize exH l m es[k] = ek at *
      obtain ⟨va, fa⟩ := ek
      simp only at HE1 HE2 HEV HIX
      go_upto_region 5 with fail
      obtain ⟨w5, hw5⟩ : ∃ w5, w5 = wr.alloc (.cells #[.int .i64 k0, .int .i64 m0, .string s0, .slice B0 l0 d0] 27) := ⟨_, rfl⟩
      rw [← hw5]
      obtain ⟨b5, hb5⟩ : ∃ b5, b5 = wr.heap.size := ⟨_, rfl⟩
      rw [← hb5]
      have C5 : Hid (Chg No wr w5 ∧ w5.heap[b5]? = some (.cells #[.int .i64 k0, .int .i64 m0, .string s0, .slice B0 l0 d0] 27 (0, 0))) := by
        rw [hw5, hb5]; exact ⟨(Chg.refl _ _).alloc _, heap_alloc_new _ _⟩
      clear hw5 hb5 x0 x1 x2 x3
      obtain ⟨q0, q1, q2, q3⟩ := obj_4 C5.out.2
      have HC := Lib.hid (HIX.out w5 C5.out.1)
      have HVB : Hid (∀ q, v.ownBlock = some q → q ≠ bx) := fun q hq e => by have := (HVR.out q hq).1; have := h3.out.2.2.2; omega
      have HG : Hid (∀ w6, Chg (fun q => q = bx) w5 w6 → OwnL intV 3 (fun q => w3.heap.size ≤ q) No w6 v Lk ∧ Chg (fun q => q = bx) w3 w6 ∧ ∀ q, w6.heap.size ≤ q → w3.heap.size ≤ q) := fun w6 h6 => by
        have h56 : Chg (fun q => q = bx) wr w6 := C5.out.1.no.trans h6 (fun _ h _ => h)
        have h36 : Chg (fun q => q = bx) w3 w6 := HCH.out.trans h56 (fun _ h _ => h)
        exact ⟨HOW.out.chg intV_goodH h56 (fun q hq e => HVB.out q hq e) (fun _ h => h.elim), h36, fun q hq => by have := h36.size; omega⟩
      go_wp2_with (first
        | (go_at_call 15; (with_reducible refine HC.out.mono ?_); rintro e w6 ⟨rfl, h6, g6⟩; have H6 := Lib.hid (HG.out w6 h6); have G6 := Lib.hid g6; clear h6 g6)
        | (at_builtin; refine wpList_pushL intV_goodH intsTyH rfl (.tmp 18) (.tmp 22) rfl (M := fun q => w3.heap.size ≤ q) (R := No) (e' := 3) H6.out.2.2 H6.out.1 rfl (x := va) (cs := [.int .i64 va]) ⟨rfl, I64.of (by have := HEV.out.1; omega) (by have := HEV.out.2; omega)⟩ (by simp [Value.oneCell']) rfl (show (Lk.length + 1) * 8 ≤ 140737488355328 by omega) ?_; intro A2 cap2 w7 g1 g2; have G1 := Lib.hid g1; have G2 := Lib.hid g2; clear g1 g2))
      go_roundw
      case rel =>
        refine ⟨k + 1, _, rfl, by go_num, hlt, by rw [HE1.out]; exact G1.out, H6.out.2.1.trans G2.out (fun q hq hlt => absurd (HVR.out q hq).1 (by omega)), ?_⟩
        rw [HE2.out, ← Bool.or_assoc]
        exact G6.out.chg G2.out (fun e => HVB.out _ e rfl)
      case measure => simp [intOf]; omega
    · obtain rfl : k = es.length := by omega
      obtain ⟨wa, hwa⟩ : ∃ wa, wa = wr := ⟨_, rfl⟩
      subst hwa
      have HO1 : Hid (OwnL intV 3 (fun q => w3.heap.size ≤ q) No wa v (es.map fun e => (exH l m e).1) ∧ Chg (fun q => q = bx) w3 wa ∧ LookAt wa bx A l.length cap (fl || es.any fun e => (exH l m e).2)) := by
        have := hst.out
        rwa [List.take_length] at this
      clear hst HEX HES HEO HLE
      generalize hL1 : (es.map fun e => (exH l m e).1) = L1 at *
      generalize hF1 : (es.any fun e => (exH l m e).2) = F1 at *
      have HL1 : Hid (L1.length = es.length) := by rw [← hL1]; simp [Hid]
      clear hL1 hF1
      obtain ⟨p0, p1, p2⟩ := HO.out wa HO1.out.2.1
      go_wp2_with fail
      clear p0 p1 p2
      go_loopw [8, 28] (fun s8 s28 wr => ∃ (k : Nat) (v2 : Value), v2 = s8 ∧ s28 = .int .i64 k ∧ k ≤ ks.length ∧ Hid (OwnL intV 3 (fun q => w3.heap.size ≤ q) No wr v L1 ∧ OwnL boolV 4 (fun q => wa.heap.size ≤ q) No wr v2 ((ks.take k).map fun c => (coH l m n c).1) ∧ Chg (fun q => q = bx) w3 wr ∧ LookAt wr bx A l.length cap (fl || F1 || (ks.take k).any fun c => (coH l m n c).2) ∧ wa.heap.size ≤ wr.heap.size)) (fun _ s28 _ => ks.length - (intOf s28).toNat)
      case atStart => exact ⟨0, _, rfl, rfl, Nat.zero_le _, HO1.out.1, OwnL.nil _ _ _ _ _, HO1.out.2.1, by simpa using HO1.out.2.2, Nat.le_refl _⟩
      case round =>
        obtain ⟨k, v2, rfl, rfl, gk2, hst⟩ := hrel
        have HVA : Hid (∀ q, v.ownBlock = some q → q < wa.heap.size) := fun q hq => (HO1.out.1.mine q hq).2
        by_cases hlt : k < ks.length
        · have HW : Hid (Chg (fun q => q = bx) w wr) := h3.out.1.no.trans hst.out.2.2.1 (fun _ h _ => h)
          obtain ⟨b, o, k0, A0, el0, ce0, B0, l0, d0, rfl, hv, x0, x1, x2⟩ := conds_at (HKS.out wr HW.out) k hlt
          have i0 : (0 : Int) ≤ (k : Int) := by omega
          have i1 : (k : Int) < (ks.length : Int) := by omega
          have hLk : ((ks.take k).map fun c => (coH l m n c).1).length ≤ ks.length := by simp; omega
          have HE1 := Lib.hid (take_map_succ (fun c => (coH l m n c).1) hlt)
          have HE2 := Lib.hid (take_any_succ (fun c => (coH l m n c).2) hlt)
          have HOI := Lib.hid hst.out.1
          have HOW := Lib.hid hst.out.2.1
          have HCH := Lib.hid hst.out.2.2.1
          have HLK := Lib.hid hst.out.2.2.2.1
          have HSZ := Lib.hid hst.out.2.2.2.2
          have HVR : Hid (∀ q, v2.ownBlock = some q → wa.heap.size ≤ q ∧ q < wr.heap.size) := fun q hq => hst.out.2.1.mine q hq
          have HXO := Lib.hid (HKO.out ks[k] (List.getElem_mem hlt))
          clear hst
          generalize ((ks.take k).map fun c => (coH l m n c).1) = Lk at *
          generalize ((ks.take k).any fun c => (coH l m n c).2) = gk1 at *
          have HIX := Lib.hid (fun W (hW : Chg No wr W) => HCO.out ks[k] HXO.out W _ (fl || F1 || gk1) (HW.out.thenNo hW) ((condV_good m n).no hv hW) (HLK.out.chg hW id))
          clear hv HXO
          generalize coH l m n ks[k] = ek at *
          obtain ⟨va, fa⟩ := ek
          simp only at HE1 HE2 HIX
          go_upto_region 11 with fail
          obtain ⟨w5, hw5⟩ : ∃ w5, w5 = wr.alloc (.cells #[.int .i64 k0, .slice A0 el0 ce0, .slice B0 l0 d0] 25) := ⟨_, rfl⟩
          rw [← hw5]
          obtain ⟨b5, hb5⟩ : ∃ b5, b5 = wr.heap.size := ⟨_, rfl⟩
          rw [← hb5]
          have C5 : Hid (Chg No wr w5 ∧ w5.heap[b5]? = some (.cells #[.int .i64 k0, .slice A0 el0 ce0, .slice B0 l0 d0] 25 (0, 0))) := by
            rw [hw5, hb5]; exact ⟨(Chg.refl _ _).alloc _, heap_alloc_new _ _⟩
          clear hw5 hb5 x0 x1 x2
          obtain ⟨q0, q1, q2⟩ := obj_3 C5.out.2
          have HC := Lib.hid (HIX.out w5 C5.out.1)
          have HWZ : Hid (w3.heap.size ≤ wa.heap.size) := HO1.out.2.1.size
          have HVB : Hid (∀ q, v2.ownBlock = some q → q ≠ bx) := fun q hq e => by have := (HVR.out q hq).1; have := HWZ.out; have := h3.out.2.2.2; omega
          have HVB1 : Hid (∀ q, v.ownBlock = some q → q ≠ bx) := fun q hq e => by have := (HOI.out.mine q hq).1; have := h3.out.2.2.2; omega
          have HG : Hid (∀ w6, Chg (fun q => q = bx) w5 w6 → (OwnL intV 3 (fun q => w3.heap.size ≤ q) No w6 v L1 ∧ OwnL boolV 4 (fun q => wa.heap.size ≤ q) No w6 v2 Lk) ∧ (Chg (fun q => q = bx) w3 w6 ∧ wa.heap.size ≤ w6.heap.size) ∧ ∀ q, w6.heap.size ≤ q → wa.heap.size ≤ q) := fun w6 h6 => by
            have h56 : Chg (fun q => q = bx) wr w6 := C5.out.1.no.trans h6 (fun _ h _ => h)
            have h36 : Chg (fun q => q = bx) w3 w6 := HCH.out.trans h56 (fun _ h _ => h)
            have hz := h56.size
            have hz2 := HSZ.out
            exact ⟨⟨HOI.out.chg intV_goodH h56 (fun q hq e => HVB1.out q hq e) (fun _ h => h.elim), HOW.out.chg boolV_goodH h56 (fun q hq e => HVB.out q hq e) (fun _ h => h.elim)⟩, ⟨h36, by omega⟩, fun q hq => by omega⟩
          go_wp2_with (first
            | (go_at_call 19; (with_reducible refine HC.out.mono ?_); rintro e w6 ⟨rfl, h6, g6⟩; have H6 := Lib.hid (HG.out w6 h6); have G6 := Lib.hid g6; clear h6 g6)
            | (at_builtin; refine wpList_pushL boolV_goodH boolsTyH rfl (.tmp 32) (.tmp 36) rfl (M := fun q => wa.heap.size ≤ q) (R := No) (e' := 4) H6.out.2.2 H6.out.1.2 rfl (x := va) (cs := [.bool va]) rfl (by simp [Value.oneCell']) rfl (show (Lk.length + 1) * 1 ≤ 140737488355328 by omega) ?_; intro A2 cap2 w7 g1 g2; have G1 := Lib.hid g1; have G2 := Lib.hid g2; clear g1 g2))
          go_roundw
          case rel =>
            have hfar : ∀ q, v2.ownBlock = some q → w3.heap.size ≤ q := fun q hq => by have := (HVR.out q hq).1; have := HWZ.out; omega
            refine ⟨k + 1, _, rfl, by go_num, hlt, H6.out.1.1.chg intV_goodH G2.out (fun q hq e => by have := HVA.out q hq; have := (HVR.out q e).1; omega) (fun _ h => h.elim), by rw [HE1.out]; exact G1.out, H6.out.2.1.1.trans G2.out (fun q hq hlt => absurd (hfar q hq) (by omega)), ?_, ?_⟩
            · rw [HE2.out, ← Bool.or_assoc]
              exact G6.out.chg G2.out (fun e => HVB.out _ e rfl)
            · have := G2.out.size; have := H6.out.2.1.2; omega
          case measure => simp [intOf]; omega
        · obtain rfl : k = ks.length := by omega
          have HO2 : Hid (OwnL intV 3 (fun q => w3.heap.size ≤ q) No wr v L1 ∧ OwnL boolV 4 (fun q => wa.heap.size ≤ q) No wr v2 (ks.map fun c => (coH l m n c).1) ∧ Chg (fun q => q = bx) w wr ∧ LookAt wr bx A l.length cap (fl || F1 || ks.any fun c => (coH l m n c).2)) := by
            have := hst.out
            rw [List.take_length] at this
            exact ⟨this.1, this.2.1, h3.out.1.no.trans this.2.2.1 (fun _ h _ => h), this.2.2.2.1⟩
          have HOP := Lib.hid (HO.out wr hst.out.2.2.1)
          clear hst HCO HKS HKO HO HVS
          obtain ⟨p0, p1, p2⟩ := HOP.out
          have HL2 : Hid ((ks.map fun c => (coH l m n c).1).length = ks.length) := by simp [Hid]
          have HAN : Hid (∀ W u, Chg No wr W → u = truthH kd L1 (ks.map fun c => (coH l m n c).1) → LkRet bx A l.length cap (fl || ans.2) w (.bool ans.1) (.returned (.bool u)) W) := fun W u hW hu => by
            rw [HA.out]
            exact ⟨by rw [hu], HO2.out.2.2.1.thenNo hW, by rw [← Bool.or_assoc]; exact HO2.out.2.2.2.chg hW id⟩
          have HOI := Lib.hid HO2.out.1
          have HOB := Lib.hid HO2.out.2.1
          clear HO2 HA HO1
          generalize (ks.map fun c => (coH l m n c).1) = L2 at *
          rcases cShape_cases hs with ⟨rfl, _, _⟩ | ⟨rfl, _, _⟩ | ⟨hkd, e1, _⟩ | ⟨rfl, _, e2⟩ | ⟨hkd, _, e2⟩
          · go_wp2_with fail
            go_ret
            exact HAN.out _ _ (Chg.refl _ _) rfl
          · go_wp2_with fail
            go_ret
            exact HAN.out _ _ (Chg.refl _ _) rfl
          · obtain ⟨a, b2, rfl⟩ : ∃ a b2, L1 = [a, b2] := by
              have := HL1.out.trans e1
              match L1, this with
              | [a, b2], _ => exact ⟨a, b2, rfl⟩
            obtain ⟨g, o, c, rfl, y0, y1⟩ := own_int2 HOI.out
            clear HOI HOB HL1 HL2
            rcases hkd with rfl | rfl | rfl | rfl
            · go_wp2_with fail
              go_quiet (fail)
              go_wp2_with fail
              go_ret
              exact HAN.out _ _ ((Chg.refl _ _).drewN _) (by simp [truthH, beqDec])
            · go_wp2_with fail
              go_quiet (fail)
              go_wp2_with fail
              go_ret
              exact HAN.out _ _ ((Chg.refl _ _).drewN _) (by simp [truthH, bne, beqDec])
            · go_wp2_with fail
              go_quiet (fail)
              go_wp2_with fail
              go_ret
              exact HAN.out _ _ ((Chg.refl _ _).drewN _) (by simp [truthH])
            · go_wp2_with fail
              go_quiet (fail)
              go_wp2_with fail
              go_ret
              exact HAN.out _ _ ((Chg.refl _ _).drewN _) (by simp [truthH])
          · obtain ⟨a, rfl⟩ : ∃ a, L2 = [a] := List.length_eq_one_iff.1 (HL2.out.trans e2)
            obtain ⟨g, o, c, rfl, y0⟩ := own_bool1 HOB.out
            clear HOI HOB HL1 HL2
            go_wp2_with fail
            go_ret
            exact HAN.out _ _ (Chg.refl _ _) (by simp [truthH])
          · obtain ⟨a, b2, rfl⟩ : ∃ a b2, L2 = [a, b2] := by
              have := HL2.out.trans e2
              match L2, this with
              | [a, b2], _ => exact ⟨a, b2, rfl⟩
            obtain ⟨g, o, c, rfl, y0, y1⟩ := own_bool2 HOB.out
            clear HOI HOB HL1 HL2
            rcases hkd with rfl | rfl
            · cases a
              · go_wp2_with fail
                go_ret
                exact HAN.out _ _ (Chg.refl _ _) (by simp [truthH])
              · go_wp2_with fail
                go_ret
                exact HAN.out _ _ (Chg.refl _ _) (by simp [truthH])
            · cases a
              · go_wp2_with fail
                go_ret
                exact HAN.out _ _ (Chg.refl _ _) (by simp [truthH])
              · go_wp2_with fail
                go_ret
                exact HAN.out _ _ (Chg.refl _ _) (by simp [truthH])
theorem hco_any (m : Nat) : ∀ n, HCoOk m n
  | 0 => fun _ _ _ _ _ _ _ _ _ _ _ h => h.elim
  | n + 1 => hco_walk m n (Lib.hid (hco_any m n))
end Go.Proofs.YtgofncopoieigaaDoor
