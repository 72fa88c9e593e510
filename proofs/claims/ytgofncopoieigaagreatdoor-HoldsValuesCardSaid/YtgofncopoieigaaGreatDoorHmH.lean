/-
  The reference's values of conditions.
-/
import Derived.Test.YtgofncopoieigaaGreatDoorHmG
namespace Go.Proofs.YtgofncopoieigaaGreatDoor
open Go Go.RowKit

/-- A call returns a truth, and whether nothing was far. -/
def TrRet (w : World) (r : Bool × Bool) (e : Ending) (w' : World) : Prop := ∃ t : Bool, e = .returned (.tuple #[.bool t, .bool (!r.2)]) ∧ (r.2 = false → t = r.1) ∧ Chg No w w'
def Tru18Ok (m n : Nat) : Prop := ∀ (x : CT m n) (R Rs : Nat → Prop) (w : World) (cs : List Value) (A : Option Addr) (l : List Vr) (cap : Nat), okC m n x = true → (condV m n) R w cs x → Vars Rs w A l cap →
    Calls Tryz.prog 33 #[.agg cs.toArray, .slice A l.length cap] w (TrRet w (coH l m n x))
theorem chgpastHm {S : Nat → Prop} {w w1 w2 : World} (h : Chg No w w1) (g : Chg S w1 w2) (hS : ∀ k, S k → w.heap.size ≤ k) : Chg No w w2 :=
  h.trans g (fun k hk hlt => by have := hS k hk; omega)

set_option maxRecDepth 100000 in
set_option maxHeartbeats 8000000 in
theorem tru18_walk (m n : Nat) (IH : Hid (Tru18Ok m n)) : Tru18Ok m (n + 1) := by
  rintro f R Rs w cs A l cap hok h hl
  obtain ⟨Ae, cape, B, capk, rfl, i1, he, hk⟩ := cnode_cells h
  obtain ⟨hs, heok, hkok⟩ := okC_parts hok
  have HES := Lib.hid (fun W (hW : Chg No w W) => he.no (exprE_good m) hW)
  have HKS := Lib.hid (fun W (hW : Chg No w W) => hk.no (condE_good m n) hW)
  have HEX : Hid (∀ x : ET m, okE m x = true → ∀ W cs', Chg No w W → (exprV m) R W cs' x → Calls Tryz.prog 32 #[.agg cs'.toArray, .slice A l.length cap] W (VlRet W (exH l m x))) := fun x hx W cs' hW hcs => val18_any m x R Rs W cs' A l cap hx hcs (hl.no varE_good hW)
  have HCO : Hid (∀ x : CT m n, okC m n x = true → ∀ W cs', Chg No w W → (condV m n) R W cs' x → Calls Tryz.prog 33 #[.agg cs'.toArray, .slice A l.length cap] W (TrRet W (coH l m n x))) := fun x hx W cs' hW hcs => IH.out x R Rs W cs' A l cap hx hcs (hl.no varE_good hW)
  have hans0 := coH_eq l m f
  have HEO := Lib.hid heok
  have HKO := Lib.hid hkok
  obtain ⟨ans, hans⟩ : ∃ ans, ans = coH l m (n + 1) f := ⟨_, rfl⟩
  rw [← hans] at hans0 ⊢
  have HA := Lib.hid hans0
  clear hans hans0 h hk he IH hok hl heok hkok
  generalize CNode.kind f = kd at *
  generalize CNode.es f = es at *
  generalize CNode.kids f = ks at *
  have hbe : es.length ≤ 2 := by rcases cShape_cases hs with h | h | h | h | h <;> omega
  have hbk : ks.length ≤ 2 := by rcases cShape_cases hs with h | h | h | h | h <;> omega
  obtain ⟨w3, hw3⟩ : ∃ w3, w3 = w.alloc (.cells #[.int .i64 kd, .slice Ae es.length cape, .slice B ks.length capk] 25) := ⟨_, rfl⟩
  have h3 : Hid (Chg No w w3 ∧ w3.heap[w.heap.size]? = some (.cells #[.int .i64 kd, .slice Ae es.length cape, .slice B ks.length capk] 25 (0, 0))) := by
    rw [hw3]
    exact ⟨(Chg.refl _ _).alloc _, heap_alloc_new _ _⟩
  have HO : Hid (∀ W, Chg No w3 W → W.cell? ⟨w.heap.size, 0, none⟩ = some (.int .i64 kd) ∧ W.cell? ⟨w.heap.size, 1, none⟩ = some (.slice Ae es.length cape) ∧ W.cell? ⟨w.heap.size, 2, none⟩ = some (.slice B ks.length capk)) := fun W hW => obj_3 (hW.obj h3.out.2 id)
  obtain ⟨p0, p1, p2⟩ := HO.out w3 (Chg.refl _ _)
  go_enter Tryz.func33, Tryz.ntmps33
  go_upto_region 1 with fail
  rw [← hw3]
  clear hw3
  go_wp2_with fail
  clear p0 p1 p2
  go_loopw [6, 7, 8] (fun s6 s7 s8 wr => ∃ (i : Nat) (v : Value) (L : List Int) (g : Bool), s6 = .bool (!g) ∧ v = s7 ∧ s8 = .int .i64 i ∧ i ≤ es.length ∧ L.length = i ∧ Hid (OwnL intV 3 (fun q => w3.heap.size ≤ q) No wr v L ∧ Chg No w3 wr ∧ g = ((es.take i).any fun e => (exH l m e).2) ∧ (g = false → L = (es.take i).map fun e => (exH l m e).1))) (fun _ _ s8 _ => es.length - (intOf s8).toNat)
  case atStart => exact ⟨0, _, [], false, rfl, rfl, rfl, Nat.zero_le _, rfl, OwnL.nil _ _ _ _ _, Chg.refl _ _, rfl, fun _ => rfl⟩
  case round =>
    obtain ⟨i, v, L, g, rfl, rfl, rfl, gi, gL, hst⟩ := hrel
    obtain ⟨p0, p1, p2⟩ := HO.out wr hst.out.2.1
    by_cases hlt : i < es.length
    · obtain ⟨b, o, k0, m0, s0, B0, l0, d0, rfl, hv, x0, x1, x2, x3⟩ := exprs_at (HES.out wr (h3.out.1.thenNo hst.out.2.1)) i hlt
      have i0 : (0 : Int) ≤ (i : Int) := by omega
      have i1 : (i : Int) < (es.length : Int) := by omega
      have HE1 := Lib.hid (take_map_succ (fun e => (exH l m e).1) hlt)
      have HE2 := Lib.hid (take_any_succ (fun e => (exH l m e).2) hlt)
      have HOW := Lib.hid hst.out.1
      have HCH := Lib.hid hst.out.2.1
      have HG := Lib.hid hst.out.2.2
      have HVR : Hid (∀ q, v.ownBlock = some q → w3.heap.size ≤ q) := fun q hq => (hst.out.1.mine q hq).1
      have HC := Lib.hid (HEX.out es[i] (HEO.out es[i] (List.getElem_mem hlt)) wr _ (h3.out.1.thenNo hst.out.2.1) hv)
      clear hst hv
      generalize ((es.take i).map fun e => (exH l m e).1) = Lm at *
      generalize ((es.take i).any fun e => (exH l m e).2) = gm at *
      generalize exH l m es[i] = ek at *
      obtain ⟨va, fa⟩ := ek
      unfold VlRet at HC
      simp only at HE1 HE2 HC
      go_upto_region 7 with (go_at_call 32; (with_reducible refine HC.out.mono ?_); rintro e w4 ⟨v4, rfl, hI, hv4, h4⟩; have H4 := Lib.hid h4; have HI4 := Lib.hid hI; have HV4 := Lib.hid hv4; clear h4 hI hv4)
      have HOW4 := Lib.hid (HOW.out.no intV_goodH H4.out)
      have HFR : Hid (∀ q, w4.heap.size ≤ q → w3.heap.size ≤ q) := fun q hq => by have := (HCH.out.thenNo H4.out).size; omega
      clear p0 p1 p2 x0 x1 x2 x3
      go_upto_region 8 with (at_builtin; refine wpList_pushL intV_goodH intsTyH rfl (.tmp 33) (.tmp 35) rfl (M := fun q => w3.heap.size ≤ q) (R := No) (e' := 3) HFR.out HOW4.out rfl (x := v4) (cs := [.int .i64 v4]) ⟨rfl, HI4.out⟩ (by simp [Value.oneCell']) rfl (show (L.length + 1) * 8 ≤ 140737488355328 by omega) ?_; intro A2 cap2 w7 g1 g2; have G1 := Lib.hid g1; have G2 := Lib.hid (chgpastHm (HCH.out.thenNo H4.out) g2 (fun q hq => HVR.out q hq)); clear g1 g2)
      have HR : Hid ((L ++ [v4]).length = i + 1 ∧ (g || fa) = (gm || fa) ∧ ((g || fa) = false → L ++ [v4] = Lm ++ [va])) := by
        obtain ⟨e1, e2⟩ := HG.out
        refine ⟨by simp [gL], by rw [e1], fun h => ?_⟩
        rw [Bool.or_eq_false_iff] at h
        rw [e2 h.1, HV4.out h.2]
      cases g
      · go_wp2_with fail
        go_roundw
        case rel => exact ⟨i + 1, _, L ++ [v4], fa, by simp, rfl, by go_num, hlt, HR.out.1, by have := G1.out; rw [gL] at this; exact this, G2.out, by rw [HE2.out]; exact HR.out.2.1, fun h => by rw [HE1.out]; exact HR.out.2.2 (by rw [h]; rfl)⟩
        case measure => simp [intOf]; omega
      · go_wp2_with fail
        go_roundw
        case rel => exact ⟨i + 1, _, L ++ [v4], true, by simp, rfl, by go_num, hlt, HR.out.1, by have := G1.out; rw [gL] at this; exact this, G2.out, by rw [HE2.out, ← HR.out.2.1]; rfl, fun h => absurd h (by simp)⟩
        case measure => simp [intOf]; omega
    · obtain rfl : i = es.length := by omega
      obtain ⟨wa, hwa⟩ : ∃ wa, wa = wr := ⟨_, rfl⟩
      subst hwa
      have HO1 : Hid (OwnL intV 3 (fun q => w3.heap.size ≤ q) No wa v L ∧ Chg No w3 wa ∧ g = (es.any fun e => (exH l m e).2) ∧ (g = false → L = es.map fun e => (exH l m e).1)) := by
        have := hst.out
        rwa [List.take_length] at this
      clear hst HEX HES HEO
      generalize (es.map fun e => (exH l m e).1) = L1 at *
      generalize (es.any fun e => (exH l m e).2) = F1 at *
      go_wp2_with fail
      clear p0 p1 p2
      go_loopw [6, 11, 12] (fun s6 s11 s12 wr => ∃ (i : Nat) (v2 : Value) (K : List Bool) (g2 : Bool), s6 = .bool (!g2) ∧ v2 = s11 ∧ s12 = .int .i64 i ∧ i ≤ ks.length ∧ K.length = i ∧ Hid (OwnL intV 3 (fun q => w3.heap.size ≤ q) No wr v L ∧ OwnL boolV 4 (fun q => wa.heap.size ≤ q) No wr v2 K ∧ Chg No w3 wr ∧ g2 = (g || (ks.take i).any fun c => (coH l m n c).2) ∧ (g2 = false → K = (ks.take i).map fun c => (coH l m n c).1) ∧ wa.heap.size ≤ wr.heap.size)) (fun _ _ s12 _ => ks.length - (intOf s12).toNat)
      case atStart => exact ⟨0, _, [], g, rfl, rfl, rfl, Nat.zero_le _, rfl, HO1.out.1, OwnL.nil _ _ _ _ _, HO1.out.2.1, by simp, fun _ => rfl, Nat.le_refl _⟩
      case round =>
        obtain ⟨i, v2, K, g2, rfl, rfl, rfl, gi2, gK, hst⟩ := hrel
        obtain ⟨p0, p1, p2⟩ := HO.out wr hst.out.2.2.1
        by_cases hlt : i < ks.length
        · obtain ⟨b, o, k0, A0, el0, ce0, B0, l0, d0, rfl, hv, x0, x1, x2⟩ := conds_at (HKS.out wr (h3.out.1.thenNo hst.out.2.2.1)) i hlt
          have i0 : (0 : Int) ≤ (i : Int) := by omega
          have i1 : (i : Int) < (ks.length : Int) := by omega
          have HE1 := Lib.hid (take_map_succ (fun c => (coH l m n c).1) hlt)
          have HE2 := Lib.hid (take_any_succ (fun c => (coH l m n c).2) hlt)
          have HOI := Lib.hid hst.out.1
          have HOW := Lib.hid hst.out.2.1
          have HCH := Lib.hid hst.out.2.2.1
          have HG := Lib.hid hst.out.2.2.2
          have HVA : Hid (∀ q, v.ownBlock = some q → q < wa.heap.size) := fun q hq => (HO1.out.1.mine q hq).2
          have HVR : Hid (∀ q, v2.ownBlock = some q → wa.heap.size ≤ q) := fun q hq => (hst.out.2.1.mine q hq).1
          have HWZ : Hid (w3.heap.size ≤ wa.heap.size) := HO1.out.2.1.size
          have HC := Lib.hid (HCO.out ks[i] (HKO.out ks[i] (List.getElem_mem hlt)) wr _ (h3.out.1.thenNo hst.out.2.2.1) hv)
          clear hst hv
          generalize ((ks.take i).map fun c => (coH l m n c).1) = Lm at *
          generalize ((ks.take i).any fun c => (coH l m n c).2) = gm at *
          generalize coH l m n ks[i] = ek at *
          obtain ⟨va, fa⟩ := ek
          unfold TrRet at HC
          simp only at HE1 HE2 HC
          go_upto_region 14 with (go_at_call 33; (with_reducible refine HC.out.mono ?_); rintro e w4 ⟨v4, rfl, hv4, h4⟩; have H4 := Lib.hid h4; have HV4 := Lib.hid hv4; clear h4 hv4)
          have HOW4 := Lib.hid (HOW.out.no boolV_goodH H4.out)
          have HOI4 := Lib.hid (HOI.out.no intV_goodH H4.out)
          have HFR : Hid (∀ q, w4.heap.size ≤ q → wa.heap.size ≤ q) := fun q hq => by have := H4.out.size; have := HG.out.2.2; omega
          have HZ4 : Hid (wa.heap.size ≤ w4.heap.size) := by have := H4.out.size; have := HG.out.2.2; unfold Hid; omega
          clear p0 p1 p2 x0 x1 x2
          go_upto_region 15 with (at_builtin; refine wpList_pushL boolV_goodH boolsTyH rfl (.tmp 58) (.tmp 60) rfl (M := fun q => wa.heap.size ≤ q) (R := No) (e' := 4) HFR.out HOW4.out rfl (x := v4) (cs := [.bool v4]) rfl (by simp [Value.oneCell']) rfl (show (K.length + 1) * 1 ≤ 140737488355328 by omega) ?_; intro A2 cap2 w7 g1 g3; have G1 := Lib.hid g1; have G2 := Lib.hid (chgpastHm (HCH.out.thenNo H4.out) g3 (fun q hq => Nat.le_trans HWZ.out (HVR.out q hq))); have G3 := Lib.hid (HOI4.out.chg intV_goodH g3 (fun q hq e => by have := HVA.out q hq; have := HVR.out q e; omega) (fun _ h => h.elim)); have G4 := Lib.hid (Nat.le_trans HZ4.out g3.size); clear g1 g3)
          have HR : Hid ((K ++ [v4]).length = i + 1 ∧ (g2 || fa) = (g || (gm || fa)) ∧ ((g2 || fa) = false → K ++ [v4] = Lm ++ [va])) := by
            obtain ⟨e1, e2, _⟩ := HG.out
            refine ⟨by simp [gK], by rw [e1, Bool.or_assoc], fun h => ?_⟩
            rw [Bool.or_eq_false_iff] at h
            rw [e2 h.1, HV4.out h.2]
          cases g2
          · go_wp2_with fail
            go_roundw
            case rel => exact ⟨i + 1, _, K ++ [v4], fa, by simp, rfl, by go_num, hlt, HR.out.1, G3.out, by have := G1.out; rw [gK] at this; exact this, G2.out, by rw [HE2.out]; exact HR.out.2.1, fun h => by rw [HE1.out]; exact HR.out.2.2 (by rw [h]; rfl), G4.out⟩
            case measure => simp [intOf]; omega
          · go_wp2_with fail
            go_roundw
            case rel => exact ⟨i + 1, _, K ++ [v4], true, by simp, rfl, by go_num, hlt, HR.out.1, G3.out, by have := G1.out; rw [gK] at this; exact this, G2.out, by rw [HE2.out, ← HR.out.2.1]; rfl, fun h => absurd h (by simp), G4.out⟩
            case measure => simp [intOf]; omega
        · obtain rfl : i = ks.length := by omega
          have HO2 : Hid (OwnL intV 3 (fun q => w3.heap.size ≤ q) No wr v L ∧ OwnL boolV 4 (fun q => wa.heap.size ≤ q) No wr v2 K ∧ Chg No w3 wr ∧ g2 = (g || ks.any fun c => (coH l m n c).2) ∧ (g2 = false → K = ks.map fun c => (coH l m n c).1)) := by
            have := hst.out
            rw [List.take_length] at this
            exact ⟨this.1, this.2.1, this.2.2.1, this.2.2.2.1, this.2.2.2.2.1⟩
          clear hst HCO HKS HKO HO
          have HAN : Hid (∀ W u, Chg No wr W → u = truthH kd L K → TrRet w ans (.returned (.tuple #[.bool u, .bool (!g2)])) W) := fun W u hW hu => by
            obtain ⟨_, _, e3, e4, e5⟩ := HO2.out
            obtain ⟨_, _, d3, d4⟩ := HO1.out
            have hg : ans.2 = g2 := by rw [HA.out, e4, d3]
            refine ⟨u, by rw [hg], fun h => ?_, h3.out.1.thenNo (e3.thenNo hW)⟩
            rw [hg] at h
            have h2 := h
            rw [e4, Bool.or_eq_false_iff] at h2
            rw [hu, HA.out, e5 h, d4 h2.1]
          have HOI := Lib.hid HO2.out.1
          have HOB := Lib.hid HO2.out.2.1
          clear HO2 HA HO1
          rcases cShape_cases hs with ⟨rfl, _, _⟩ | ⟨rfl, _, _⟩ | ⟨hkd, e1, _⟩ | ⟨rfl, _, e2⟩ | ⟨hkd, _, e2⟩
          · go_wp2_with fail
            go_ret2
            exact HAN.out _ _ (Chg.refl _ _) rfl
          · go_wp2_with fail
            go_ret2
            exact HAN.out _ _ (Chg.refl _ _) rfl
          · obtain ⟨a, b2, rfl⟩ : ∃ a b2, L = [a, b2] := by
              have := gL.trans e1
              match L, this with
              | [a, b2], _ => exact ⟨a, b2, rfl⟩
            obtain ⟨gb, o, c, rfl, y0, y1⟩ := own_int2 HOI.out
            clear HOI HOB gL e1
            rcases hkd with rfl | rfl | rfl | rfl
            · go_wp2_with fail
              go_quiet (fail)
              go_wp2_with fail
              go_ret2
              exact HAN.out _ _ ((Chg.refl _ _).drewN _) (by simp [truthH, beqDec])
            · go_wp2_with fail
              go_quiet (fail)
              go_wp2_with fail
              go_ret2
              exact HAN.out _ _ ((Chg.refl _ _).drewN _) (by simp [truthH, bne, beqDec])
            · go_wp2_with fail
              go_quiet (fail)
              go_wp2_with fail
              go_ret2
              exact HAN.out _ _ ((Chg.refl _ _).drewN _) (by simp [truthH])
            · go_wp2_with fail
              go_quiet (fail)
              go_wp2_with fail
              go_ret2
              exact HAN.out _ _ ((Chg.refl _ _).drewN _) (by simp [truthH])
          · obtain ⟨a, rfl⟩ : ∃ a, K = [a] := List.length_eq_one_iff.1 (gK.trans e2)
            obtain ⟨gb, o, c, rfl, y0⟩ := own_bool1 HOB.out
            clear HOI HOB gK e2
            go_wp2_with fail
            go_ret2
            exact HAN.out _ _ (Chg.refl _ _) (by simp [truthH])
          · obtain ⟨a, b2, rfl⟩ : ∃ a b2, K = [a, b2] := by
              have := gK.trans e2
              match K, this with
              | [a, b2], _ => exact ⟨a, b2, rfl⟩
            obtain ⟨gb, o, c, rfl, y0, y1⟩ := own_bool2 HOB.out
            clear HOI HOB gK e2
            rcases hkd with rfl | rfl
            · cases a
              · go_wp2_with fail
                go_ret2
                exact HAN.out _ _ (Chg.refl _ _) (by simp [truthH])
              · go_wp2_with fail
                go_ret2
                exact HAN.out _ _ (Chg.refl _ _) (by simp [truthH])
            · cases a
              · go_wp2_with fail
                go_ret2
                exact HAN.out _ _ (Chg.refl _ _) (by simp [truthH])
              · go_wp2_with fail
                go_ret2
                exact HAN.out _ _ (Chg.refl _ _) (by simp [truthH])
theorem tru18_any (m : Nat) : ∀ n, Tru18Ok m n
  | 0 => fun _ _ _ _ _ _ _ _ _ h => h.elim
  | n + 1 => tru18_walk m n (Lib.hid (tru18_any m n))
end Go.Proofs.YtgofncopoieigaaGreatDoor
