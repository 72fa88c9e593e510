/-
  chunk.cond: a condition's formula.
-/
import Derived.Test.YtpmndblakmobdaaGreatDoorHoD
namespace Go.Proofs.YtpmndblakmobdaaGreatDoor
open Go Go.RowKit

/-- A call returns a formula in new memory, and what is amiss. -/
def CdRet (n : Nat) (w : World) (f : FT n) (E : Value) (e : Ending) (w' : World) : Prop :=
  ∃ (k c : Int) (A : Option Addr) (lA cA : Nat) (B : Option Addr) (lB cB : Nat), e = .returned (.tuple #[.agg #[.int .i64 k, .int .i64 c, .slice A lA cA, .slice B lB cB], E]) ∧
    (formV n) (fun q => w.heap.size ≤ q) w' [.int .i64 k, .int .i64 c, .slice A lA cA, .slice B lB cB] f ∧ Chg No w w'
noncomputable def ansC (m n : Nat) (x : CT m n) (l : List Sym) : FT (n + 1) := if cndB m n x l = true then zeroF n else cndG m n x l
def CndOk (m n : Nat) : Prop := ∀ (x : CT m n) (R Rs : Nat → Prop) (w : World) (cs : List Value) (As : Option Addr) (l : List Sym) (caps : Nat), (condV m n) R w cs x → okC m n x = true → Syms Rs w As l caps → (∀ k, Rs k → k < w.heap.size) → l.all symB = true →
    Calls Tryz.prog 37 #[.agg cs.toArray, .slice As l.length caps] w (CdRet (n + 1) w (ansC m n x l) (errV 83 (if cndB m n x l = true then 3 else 0)))
theorem formsTyM (n : Nat) : SliceTy Tryz.prog 41 49 (formV n).sz (formV n).bytes (.agg #[.int .i64 0, .int .i64 0, .slice none 0 0, .slice none 0 0]) := by
  rw [formV_sz, formV_bytes]
  exact ⟨Tryz.underlying41, by kernel_rfl, rfl, by decide, by decide⟩
theorem objfrozenM {w : World} {b : Nat} {cs : Array Value} {t : TypeId} (h : w.heap[b]? = some (.cells cs t (0, 0))) (i : Nat) : w.frozen? ⟨b, i, none⟩ = false := by
  simp [World.frozen?, h]
theorem conds_some {m n : Nat} {R : Nat → Prop} {w : World} {b o : Nat} {l : List (CT m n)} {cap : Nat} (h : Conds R w (some ⟨b, o, none⟩) l cap) (i : Nat) (hi : i < l.length) :
    ∃ k A' el cape B kl capk, (condV m n) R w [.int .i64 k, .slice A' el cape, .slice B kl capk] l[i] ∧ w.cell? ⟨b, o + i * 3, none⟩ = some (.int .i64 k) ∧ w.cell? ⟨b, o + i * 3 + 1, none⟩ = some (.slice A' el cape) ∧ w.cell? ⟨b, o + i * 3 + 2, none⟩ = some (.slice B kl capk) := conds_someH h i hi

set_option maxRecDepth 100000 in
set_option maxHeartbeats 8000000 in
theorem cnd_walk (m n : Nat) (IH : Hid (CndOk m n)) : CndOk m (n + 1) := by
    rintro f R Rs w cs As l caps h hok hl hRs hsB
    obtain ⟨Ae, cape, B, capk, rfl, ik, he, hk⟩ := cnode_cells h
    obtain ⟨hs, heok, hkok⟩ := okC_parts hok
    have HKS := Lib.hid (fun W (hW : Chg No w W) => hk.no (condE_good m n) hW)
    have HSY := Lib.hid (fun W (hW : Chg No w W) => hl.no symE_good hW)
    have HIH : Hid (∀ x : CT m n, okC m n x = true → ∀ (W : World) (R' : Nat → Prop) cs', Chg No w W → (condV m n) R' W cs' x → Calls Tryz.prog 37 #[.agg cs'.toArray, .slice As l.length caps] W (CdRet (n + 1) W (ansC m n x l) (errV 83 (if cndB m n x l = true then 3 else 0)))) := fun x hx W R' cs' hW hcs =>
      IH.out x R' Rs W cs' As l caps hcs hx (hl.no symE_good hW) (fun k hk => Nat.lt_of_lt_of_le (hRs k hk) hW.size) hsB
    have HKO := Lib.hid hkok
    have hB0 := cndB_eq f l
    have hG0 := cndG_eq f l
    have hbig := hl.big
    unfold big at hbig
    have HCP : Hid (∀ kd, (kd = 2 ∨ kd = 3 ∨ kd = 4 ∨ kd = 5) → (CNode.es f).length = 2 → ∀ W kl, Chg No w W → Calls Tryz.prog 61 #[.agg #[.int .i64 kd, .slice Ae 2 cape, .slice B kl capk], .slice As l.length caps] W (CpRet n W (cmpE m n kd (CNode.es f) l))) := fun kd hkd hel W kl hW => by
      generalize CNode.es f = es at *
      obtain ⟨a, b, rfl⟩ : ∃ a b, es = [a, b] := by
        match es, hel with
        | [a, b], _ => exact ⟨a, b, rfl⟩
      exact compared_any n hkd (he.no (exprE_good m) hW) (heok a (by simp)) (heok b (by simp)) B kl capk (hl.no symE_good hW) (fun k hk => Nat.lt_of_lt_of_le (hRs k hk) hW.size) hsB
    obtain ⟨far, hfar⟩ : ∃ far, far = cndB m (n + 1) f l := ⟨_, rfl⟩
    obtain ⟨ans, hans⟩ : ∃ ans, ans = ansC m (n + 1) f l := ⟨_, rfl⟩
    have HAE : ans = if far = true then zeroF (n + 1) else cndG m (n + 1) f l := by rw [hans, hfar]; rfl
    rw [← hfar, ← hans]
    rw [← hfar] at hB0
    rw [hG0] at HAE
    have HB := Lib.hid hB0
    have HA := Lib.hid HAE
    clear hfar hans HAE hB0 hG0 h hk IH hok hl hRs hsB he heok hkok
    generalize CNode.kind f = kd at *
    generalize CNode.es f = es at *
    generalize CNode.kids f = ks at *
    obtain ⟨w3, hw3⟩ : ∃ w3, w3 = (w.alloc (.cells #[.int .i64 kd, .slice Ae es.length cape, .slice B ks.length capk] 56)).alloc (.cells #[.int .i64 0, .int .i64 0, .slice none 0 0, .slice none 0 0] 49) := ⟨_, rfl⟩
    have h3 : Hid (Chg No w w3 ∧ w3.heap[w.heap.size]? = some (.cells #[.int .i64 kd, .slice Ae es.length cape, .slice B ks.length capk] 56 (0, 0)) ∧ w3.heap[w.heap.size + 1]? = some (.cells #[.int .i64 0, .int .i64 0, .slice none 0 0, .slice none 0 0] 49 (0, 0)) ∧ w3.heap.size = w.heap.size + 2) := by
      rw [hw3]
      exact ⟨((Chg.refl _ _).alloc _).alloc _, at_old (heap_alloc_new _ _), at_new (by simp), by simp⟩
    have HSET : Hid (∀ W u0 u1 u2 u3, Chg No w3 W → Chg No w ((((W.setCell ⟨w.heap.size + 1, 0, none⟩ u0).setCell ⟨w.heap.size + 1, 1, none⟩ u1).setCell ⟨w.heap.size + 1, 2, none⟩ u2).setCell ⟨w.heap.size + 1, 3, none⟩ u3)) := fun W u0 u1 u2 u3 hW =>
      chgpast2 (h3.out.1.thenNo hW) (set4_chg W _ u0 u1 u2 u3) (fun k hk => by omega)
    have HRET : Hid (∀ (y : FT (n + 2)) (W : World) (u0 u1 u2 u3 : Value), Chg No w3 W → (formV (n + 2)) (fun k => w3.heap.size ≤ k) W [u0, u1, u2, u3] y →
        (formV (n + 2)) (fun k => w.heap.size ≤ k) ((((W.setCell ⟨w.heap.size + 1, 0, none⟩ u0).setCell ⟨w.heap.size + 1, 1, none⟩ u1).setCell ⟨w.heap.size + 1, 2, none⟩ u2).setCell ⟨w.heap.size + 1, 3, none⟩ u3) [u0, u1, u2, u3] y) := fun y W u0 u1 u2 u3 hW hy => by
      have hz := h3.out.2.2.2
      exact (formV_good _).mono ((formV_good _).chg hy (set4_chg W (w.heap.size + 1) u0 u1 u2 u3) (fun k hk e => by omega)) (fun k _ hk => by omega)
    have HO : Hid (∀ W, Chg No w3 W → (W.cell? ⟨w.heap.size, 0, none⟩ = some (.int .i64 kd) ∧ W.cell? ⟨w.heap.size, 1, none⟩ = some (.slice Ae es.length cape) ∧ W.cell? ⟨w.heap.size, 2, none⟩ = some (.slice B ks.length capk)) ∧
        (W.cell? ⟨w.heap.size + 1, 0, none⟩ = some (.int .i64 0) ∧ W.cell? ⟨w.heap.size + 1, 1, none⟩ = some (.int .i64 0) ∧ W.cell? ⟨w.heap.size + 1, 2, none⟩ = some (.slice none 0 0) ∧ W.cell? ⟨w.heap.size + 1, 3, none⟩ = some (.slice none 0 0)) ∧ W.frozen? ⟨w.heap.size + 1, 0, none⟩ = false ∧ W.frozen? ⟨w.heap.size + 1, 1, none⟩ = false ∧ W.frozen? ⟨w.heap.size + 1, 2, none⟩ = false ∧ W.frozen? ⟨w.heap.size + 1, 3, none⟩ = false) := fun W hW =>
      ⟨obj_3 (hW.obj h3.out.2.1 id), obj_4f (hW.obj h3.out.2.2.1 id)⟩
    have HIc : Hid (∀ k : Int, 0 ≤ k → k ≤ 16 → I64 k) := fun k h1 h2 => I64.of (by omega) (by omega)
    have HZ : Hid (∀ (kd : Int) W, 0 ≤ kd → kd ≤ 16 → (formV (n + 2)) (fun k => w3.heap.size ≤ k) W [.int .i64 kd, .int .i64 0, .slice none 0 0, .slice none 0 0] (leafF (n + 1) kd (0, []))) := fun kd W h1 h2 => leaf_is (r := (0, [])) (HIc.out kd h1 h2) (HIc.out 0 (by omega) (by omega)) Sl.empty
    have HC3 := Lib.hid h3.out.1
    have HZ3 := Lib.hid h3.out.2.2.2
    have HB3 := Lib.hid h3.out.2.2.1
    obtain ⟨⟨p0, p1, p2⟩, ⟨r0, r1, r2, r3⟩, f0, f1, f2, f3⟩ := HO.out w3 (Chg.refl _ _)
    obtain ⟨wq, hwq, HQ⟩ : ∃ wq, wq = w3.alloc (.cells #[.int .i64 0, .int .i64 0, .slice none 0 0, .slice none 0 0] 49) ∧ Hid (Chg No w3 wq ∧ wq.heap[w3.heap.size]? = some (.cells #[.int .i64 0, .int .i64 0, .slice none 0 0, .slice none 0 0] 49 (0, 0)) ∧ w3.heap.size < wq.heap.size) := ⟨_, rfl, (Chg.refl _ _).alloc _, heap_alloc_new _ _, by simp⟩
    clear p0 p1 p2 r0 r1 r2 r3 f0 f1 f2 f3
    obtain ⟨⟨p0, p1, p2⟩, ⟨r0, r1, r2, r3⟩, f0, f1, f2, f3⟩ := HO.out wq HQ.out.1
    obtain ⟨⟨q0, q1, q2, q3⟩, y0, y1, y2, y3⟩ := obj_4f HQ.out.2.1
    rcases cShape_cases hs with ⟨rfl, hel, hkl⟩ | ⟨rfl, hel, hkl⟩ | ⟨hkd, hel, hkl⟩ | hkd
    · have hks : ks = [] := List.eq_nil_of_length_eq_zero hkl
      obtain rfl : far = false := by rw [HB.out, if_neg (by decide), hks]; rfl
      obtain rfl : ans = leafF (n + 1) 0 (0, []) := by rw [HA.out, if_neg (by decide), if_neg (by decide), if_pos (.inl rfl)]
      rw [if_neg (by decide), errV_zero]
      clear HA HB HIH HCP HKS HSY HKO hs hel hkl hks
      go_enter Tryz.func37, Tryz.ntmps37
      go_upto_region 1 with fail
      rw [← hw3]
      clear hw3
      go_upto_region 2 with fail
      rw [← hwq]
      clear hwq
      go_wp2_with fail
      exact bodyPost_ret (v := .tuple #[.agg #[.int .i64 0, .int .i64 0, .slice none 0 0, .slice none 0 0], .nilIface]) (by simp [results, Tryz.results37, go_sem, r0, r1, r2, r3]) rfl ⟨_, _, _, _, _, _, _, _, rfl, HRET.out _ _ _ _ _ _ HQ.out.1 (HZ.out 0 _ (by omega) (by omega)), HSET.out _ _ _ _ _ HQ.out.1⟩
    · have hks : ks = [] := List.eq_nil_of_length_eq_zero hkl
      obtain rfl : far = false := by rw [HB.out, if_neg (by decide), hks]; rfl
      obtain rfl : ans = leafF (n + 1) 1 (0, []) := by rw [HA.out, if_neg (by decide), if_neg (by decide), if_pos (.inr rfl)]
      rw [if_neg (by decide), errV_zero]
      clear HA HB HIH HCP HKS HSY HKO hs hel hkl hks
      go_enter Tryz.func37, Tryz.ntmps37
      go_upto_region 1 with fail
      rw [← hw3]
      clear hw3
      go_upto_region 2 with fail
      rw [← hwq]
      clear hwq
      go_wp2_with fail
      exact bodyPost_ret (v := .tuple #[.agg #[.int .i64 1, .int .i64 0, .slice none 0 0, .slice none 0 0], .nilIface]) (by simp [results, Tryz.results37, go_sem, r0, r1, r2, r3]) rfl ⟨_, _, _, _, _, _, _, _, rfl, HRET.out _ _ _ _ _ _ HQ.out.1 (HZ.out 1 _ (by omega) (by omega)), HSET.out _ _ _ _ _ HQ.out.1⟩
    · have hic := isCmp_iff.2 hkd
      have HCW := Lib.hid (HCP.out kd hkd hel wq ks.length (HC3.out.thenNo HQ.out.1))
      have hB1 := HB.out
      have hA1 := HA.out
      rw [if_pos hic] at hB1
      rw [if_pos hic] at hA1
      obtain ⟨oc, hoc⟩ : ∃ oc, oc = cmpE m n kd es l := ⟨_, rfl⟩
      rw [← hoc] at hB1 hA1 HCW
      have n0 : (kd == 0) = false := by simp; omega
      have n1 : (kd == 1) = false := by simp; omega
      have n6 : (kd == 6) = false := by simp; omega
      have n7 : (kd == 7) = false := by simp; omega
      have n8 : (kd == 8) = false := by simp; omega
      rw [hel] at hw3 p1 HO
      clear hoc HA HB HIH HCP HKS HSY HKO hs hic hkd hkl
      unfold CpRet at HCW
      obtain ⟨EC, hEC⟩ : ∃ EC, EC = errV 83 (if oc.isNone = true then 3 else 0) := ⟨_, rfl⟩
      rw [← hEC] at HCW
      have HEC := Lib.hid hEC
      clear hEC
      go_enter Tryz.func37, Tryz.ntmps37
      go_upto_region 1 with fail
      rw [← hw3]
      clear hw3
      go_upto_region 2 with fail
      rw [← hwq]
      clear hwq
      go_upto_region 4 with (go_at_call 61; refine HCW.out.mono ?_; rintro e w6 ⟨k6, c6, A6, l6, a6, B6, m6, b6, rfl, g6, h6⟩; have G6 := Lib.hid g6; have H6 := Lib.hid h6; clear g6 h6)
      obtain ⟨w7, hw7⟩ : ∃ w7, w7 = w6.alloc (.cells #[.int .i64 k6, .int .i64 c6, .slice A6 l6 a6, .slice B6 m6 b6] 49) := ⟨_, rfl⟩
      rw [← hw7]
      obtain ⟨b7, hb7⟩ : ∃ b7, b7 = w6.heap.size := ⟨_, rfl⟩
      rw [← hb7]
      have C7 : Hid (Chg No w3 w7 ∧ w7.heap[b7]? = some (.cells #[.int .i64 k6, .int .i64 c6, .slice A6 l6 a6, .slice B6 m6 b6] 49 (0, 0)) ∧ Chg No w6 w7) := by
        rw [hw7, hb7]; exact ⟨(HQ.out.1.thenNo H6.out).alloc _, heap_alloc_new _ _, (Chg.refl _ _).alloc _⟩
      clear hw7 hb7 p0 p1 p2 r0 r1 r2 r3 f0 f1 f2 f3 q0 q1 q2 q3 y0 y1 y2 y3
      obtain ⟨⟨p0, p1, p2⟩, ⟨r0, r1, r2, r3⟩, f0, f1, f2, f3⟩ := HO.out w7 C7.out.1
      obtain ⟨q0, q1, q2, q3⟩ := (obj_4f C7.out.2.1).1
      cases oc with
      | none =>
        obtain rfl : far = true := hB1
        obtain rfl : ans = zeroF (n + 1) := hA1
        obtain rfl : EC = .iface 83 (.int .i64 3) := by rw [HEC.out]; exact errV_of (c := 3) _ (by decide)
        rw [if_pos rfl, errV_of _ (by decide)]
        go_wp2_with fail
        exact bodyPost_ret (v := .tuple #[.agg #[.int .i64 0, .int .i64 0, .slice none 0 0, .slice none 0 0], .iface 83 (.int .i64 3)]) (by simp [results, Tryz.results37, go_sem, r0, r1, r2, r3]) rfl ⟨_, _, _, _, _, _, _, _, rfl, HRET.out _ _ _ _ _ _ C7.out.1 (HZ.out 0 _ (by omega) (by omega)), HSET.out _ _ _ _ _ C7.out.1⟩
      | some y =>
        obtain rfl : far = false := hB1
        obtain rfl : ans = y := hA1
        obtain rfl : EC = .nilIface := by rw [HEC.out]; exact errV_zero _
        rw [if_neg (by decide), errV_zero]
        go_wp2_with fail
        exact bodyPost_ret (v := .tuple #[.agg #[.int .i64 k6, .int .i64 c6, .slice A6 l6 a6, .slice B6 m6 b6], .nilIface]) (by simp [results, Tryz.results37, go_sem, r0, r1, r2, r3]) rfl ⟨_, _, _, _, _, _, _, _, rfl, HRET.out _ _ _ _ _ _ C7.out.1 ((formV_good _).mono ((formV_good _).no (G6.out _ rfl) C7.out.2.2) (fun k _ hk => Nat.le_trans HQ.out.1.size hk)), HSET.out _ _ _ _ _ C7.out.1⟩
    · have hk678 : kd = 6 ∨ kd = 7 ∨ kd = 8 := by omega
      have hnc : ¬ isCmp kd = true := fun h => by have := isCmp_iff.1 h; omega
      have hB1 := HB.out
      have hA1 := HA.out
      rw [if_neg hnc] at hB1
      rw [if_neg hnc, if_neg (show ¬ (kd = 0 ∨ kd = 1) by omega)] at hA1
      have hkl2 : ks.length ≤ 2 := by omega
      obtain ⟨g, hg⟩ : ∃ g : CT m n → FT (n + 1), g = fun k => cndG m n k l := ⟨_, rfl⟩
      obtain ⟨fa, hfa⟩ : ∃ fa : CT m n → Bool, fa = fun k => cndB m n k l := ⟨_, rfl⟩
      rw [← hg] at hA1
      rw [← hfa] at hB1
      have HIK : Hid (∀ i (hi : i < ks.length) (W : World) (R' : Nat → Prop) cs', Chg No w W → (condV m n) R' W cs' ks[i] → Calls Tryz.prog 37 #[.agg cs'.toArray, .slice As l.length caps] W (CdRet (n + 1) W (if fa ks[i] = true then zeroF n else g ks[i]) (errV 83 (if fa ks[i] = true then 3 else 0)))) := fun i hi W R' cs' hW hcs => by
        rw [hg, hfa]
        exact HIH.out ks[i] (HKO.out _ (List.getElem_mem hi)) W R' cs' hW hcs
      clear hg hfa HIH HKO HCP HB HA hs hnc hkd HSY
      obtain ⟨kk, hkk⟩ : ∃ kk : Int, kk = kd - 2 := ⟨_, rfl⟩
      rw [← hkk] at hA1
      have HFT : Hid (∀ i (hi : i < ks.length), fa ks[i] = true → far = true) := fun i hi h => by rw [hB1, List.any_eq_true]; exact ⟨_, List.getElem_mem hi, h⟩
      have HFF : Hid ((∀ j (hj : j < ks.length), fa ks[j] = false) → far = false) := fun h => by
        rw [hB1, List.any_eq_false]
        intro x hx
        obtain ⟨j, hj, rfl⟩ := List.getElem_of_mem hx
        rw [h j hj]; simp
      clear hB1
      obtain ⟨EA, hEA⟩ : ∃ EA, EA = errV 83 (if far = true then 3 else 0) := ⟨_, rfl⟩
      rw [← hEA]
      have HXT : Hid (far = true → zeroF (n + 1) = ans ∧ .iface 83 (.int .i64 3) = EA) := fun h => by
        rw [hA1, hEA, h, if_pos rfl, if_pos rfl, errV_of _ (by decide)]; exact ⟨rfl, rfl⟩
      have HXF : Hid (far = false → manyF n kk (ks.map g) = ans ∧ .nilIface = EA) := fun h => by
        rw [hA1, hEA, h, if_neg (by decide), if_neg (by decide), errV_zero]; exact ⟨rfl, rfl⟩
      clear hA1 hEA
      have HSG : Hid (∀ (k1 : Int), ∃ wr0, wr0 = wq.setCell ⟨w3.heap.size, 0, none⟩ (.int .i64 k1) ∧ Hid (Chg No w3 wr0 ∧ wr0.heap[w3.heap.size]? = some (.cells #[.int .i64 k1, .int .i64 0, .slice none 0 0, .slice none 0 0] 49 (0, 0)) ∧ w3.heap.size < wr0.heap.size)) := fun k1 => by
        have hs := (Chg.refl (fun k => k = w3.heap.size) wq).setCell ⟨w3.heap.size, 0, none⟩ (.int .i64 k1) (fun _ => rfl)
        exact ⟨_, rfl, chgpast2 HQ.out.1 hs (fun k hk => by omega), objset2 _ HQ.out.2.1, by have := hs.size; have := HQ.out.2.2; omega⟩
      have HSTEP : Hid (∀ (wr0 wr w7 : World) (vK : Value) (T T' : List (FT (n + 1))) (x : FT (n + 1)), T' = T ++ [x] → w3.heap.size < wr0.heap.size → Chg No wr w7 → (wr.heap[w3.heap.size]? = some (.cells #[.int .i64 kk, .int .i64 0, .slice none 0 0, vK] 49 (0, 0)) ∧ OwnL (formV (n + 1)) 49 (fun k => wr0.heap.size ≤ k) (fun k => wr0.heap.size ≤ k) wr vK T ∧ Chg No w3 wr ∧ wr0.heap.size ≤ wr.heap.size) →
          ∀ w8 A8 cap8, OwnL (formV (n + 1)) 49 (fun k => wr0.heap.size ≤ k) (fun k => wr0.heap.size ≤ k) w8 (.slice A8 (T.length + 1) cap8) (T ++ [x]) → Chg (fun q => vK.ownBlock = some q) w7 w8 →
          (w8.cell? ⟨w3.heap.size, 3, none⟩ = some vK ∧ w8.frozen? ⟨w3.heap.size, 3, none⟩ = false) ∧ Hid ((w8.setCell ⟨w3.heap.size, 3, none⟩ (.slice A8 (T.length + 1) cap8)).heap[w3.heap.size]? = some (.cells #[.int .i64 kk, .int .i64 0, .slice none 0 0, (.slice A8 (T.length + 1) cap8)] 49 (0, 0)) ∧ OwnL (formV (n + 1)) 49 (fun k => wr0.heap.size ≤ k) (fun k => wr0.heap.size ≤ k) (w8.setCell ⟨w3.heap.size, 3, none⟩ (.slice A8 (T.length + 1) cap8)) (.slice A8 (T.length + 1) cap8) T' ∧ Chg No w3 (w8.setCell ⟨w3.heap.size, 3, none⟩ (.slice A8 (T.length + 1) cap8)) ∧ wr0.heap.size ≤ (w8.setCell ⟨w3.heap.size, 3, none⟩ (.slice A8 (T.length + 1) cap8)).heap.size)) := fun wr0 wr w7 vK T T' x hT h0 h7 hst w8 A8 cap8 g1 g2 => by
        have hmine : ∀ q, vK.ownBlock = some q → wr0.heap.size ≤ q := fun q hq => (hst.2.1.mine q hq).1
        have o8 := g2.obj (h7.obj hst.1 id) (fun e => by have := hmine _ e; omega)
        have hs := (Chg.refl (fun q => q = w3.heap.size) w8).setCell ⟨w3.heap.size, 3, none⟩ (.slice A8 (T.length + 1) cap8) (fun _ => rfl)
        refine ⟨⟨(obj_4f o8).1.2.2.2, objfrozenM o8 3⟩, objset2 _ o8, ?_, ?_, ?_⟩
        · rw [hT]
          exact g1.chg (formV_good _) hs (fun k hk e => by have h1 : wr0.heap.size ≤ k := (g1.mine k hk).1; omega) (fun k hk _ e => by omega)
        · exact chgpast2 (chgpast2 (hst.2.2.1.thenNo h7) g2 (fun k hk => by have := hmine k hk; omega)) hs (fun k hk => by omega)
        · have := g2.size; have := hs.size; have := h7.size; have := hst.2.2.2; omega
      have HKK : Hid (kk = kd - 2) := hkk
      have HIK2 : Hid (I64 kk) := I64.of (by omega) (by omega)
      clear hkk
      rcases hk678 with rfl | rfl | rfl
      all_goals
        go_enter Tryz.func37, Tryz.ntmps37
        go_upto_region 1 with fail
        rw [← hw3]
        clear hw3
        go_upto_region 2 with fail
        rw [← hwq]
        clear hwq
        go_upto_region 17 with fail
        clear q0 q1 q2 q3 y0 y1 y2 y3 p0 p1 p2 r0 r1 r2 r3 f0 f1 f2 f3
        first
          | (obtain ⟨wr0, hwr0, HR0⟩ := HSG.out 4; rw [← hwr0]; have hk5 : kk = 4 := HKK.out)
          | (obtain ⟨wr0, hwr0, HR0⟩ := HSG.out 5; rw [← hwr0]; have hk5 : kk = 5 := HKK.out)
          | (obtain ⟨wr0, hwr0, HR0⟩ := HSG.out 6; rw [← hwr0]; have hk5 : kk = 6 := HKK.out)
        rw [← hk5] at HR0
        clear hk5 hwr0 HQ HKK HSG
        obtain ⟨⟨p0, p1, p2⟩, ⟨r0, r1, r2, r3⟩, f0, f1, f2, f3⟩ := HO.out wr0 HR0.out.1
        go_wp2_with fail
        clear p0 p1 p2 r0 r1 r2 r3 f0 f1 f2 f3
        go_loopw [45] (fun s45 wr => ∃ (i : Nat) (vK : Value), s45 = .int .i64 i ∧ i ≤ ks.length ∧ Hid (∀ j (h : j < ks.length), j < i → fa ks[j] = false) ∧ Hid (wr.heap[w3.heap.size]? = some (.cells #[.int .i64 kk, .int .i64 0, .slice none 0 0, vK] 49 (0, 0)) ∧ OwnL (formV (n + 1)) 49 (fun k => wr0.heap.size ≤ k) (fun k => wr0.heap.size ≤ k) wr vK ((ks.take i).map g) ∧ Chg No w3 wr ∧ wr0.heap.size ≤ wr.heap.size)) (fun s45 _ => ks.length - (intOf s45).toNat)
        case atStart => exact ⟨0, _, rfl, Nat.zero_le _, fun j _ h => absurd h (Nat.not_lt_zero j), HR0.out.2.1, OwnL.nil _ _ _ _ _, HR0.out.1, Nat.le_refl _⟩
        case round =>
          obtain ⟨i, vK, rfl, gi, hnf, hst⟩ := hrel
          by_cases hlt : i < ks.length
          · obtain ⟨b, o, k1, A1, l1, a1, B1, m1, b1, rfl, hv, x0, x1, x2⟩ := conds_at (HKS.out wr (HC3.out.thenNo hst.out.2.2.1)) i hlt
            have i0 : (0 : Int) ≤ (i : Int) := by omega
            have i1 : (i : Int) < (ks.length : Int) := by omega
            have HI0 := Lib.hid (fun W (hW : Chg No wr W) => HIK.out i hlt W _ _ (HC3.out.thenNo (hst.out.2.2.1.thenNo hW)) ((condV_good m n).no hv hW))
            have HFT1 := Lib.hid (HFT.out i hlt)
            have HNF1 : Hid (fa ks[i] = false → ∀ j (h : j < ks.length), j < i + 1 → fa ks[j] = false) := fun hp j h hj => by
              rcases Nat.lt_or_ge j i with g | g
              · exact hnf.out j h g
              · obtain rfl : j = i := by omega
                exact hp
            have HTK : Hid ((ks.take (i + 1)).map g = (ks.take i).map g ++ [g ks[i]]) := by
              unfold Hid
              rw [List.take_succ_eq_append_getElem hlt, List.map_append]; rfl
            have hTl : ((ks.take i).map g).length = i := by rw [List.length_map, List.length_take]; omega
            have HBY : Hid ((((ks.take i).map g).length + 1) * (formV (n + 1)).bytes ≤ 140737488355328) := by unfold Hid; rw [formV_bytes, hTl]; omega
            have HST1 := Lib.hid (fun w7 h7 => HSTEP.out wr0 wr w7 vK _ _ _ HTK.out HR0.out.2.2 h7 hst.out)
            generalize hT' : (ks.take (i + 1)).map g = T' at *
            have HT' := Lib.hid hT'
            clear hT' hTl HTK hv hnf
            generalize (ks.take i).map g = T at *
            generalize g ks[i] = gx at *
            generalize fa ks[i] = fr at *
            obtain ⟨w5, hw5⟩ : ∃ w5, w5 = wr.alloc (.cells #[.int .i64 k1, .slice A1 l1 a1, .slice B1 m1 b1] 56) := ⟨_, rfl⟩
            have H5 : Hid (Chg No wr w5 ∧ w5.heap[wr.heap.size]? = some (.cells #[.int .i64 k1, .slice A1 l1 a1, .slice B1 m1 b1] 56 (0, 0)) ∧ wr.heap.size < w5.heap.size) := by
              rw [hw5]; exact ⟨(Chg.refl _ _).alloc _, heap_alloc_new _ _, by simp⟩
            have HI := Lib.hid (HI0.out w5 H5.out.1)
            unfold CdRet at HI
            clear HI0
            go_upto_region 20 with fail
            rw [← hw5]
            clear hw5
            obtain ⟨s0, s1, s2⟩ := obj_3 H5.out.2.1
            go_upto_region 21 with (go_at_call 37; (with_reducible refine HI.out.mono ?_); rintro e w6 ⟨ko, co, Ao, lo, ao, Bo, mo, bo, rfl, g6, h6⟩; have G6 := Lib.hid g6; have H6 := Lib.hid h6; clear g6 h6)
            obtain ⟨w7, hw7⟩ : ∃ w7, w7 = w6.alloc (.cells #[.int .i64 ko, .int .i64 co, .slice Ao lo ao, .slice Bo mo bo] 49) := ⟨_, rfl⟩
            have H7 : Hid (Chg No wr w7 ∧ w7.heap[w6.heap.size]? = some (.cells #[.int .i64 ko, .int .i64 co, .slice Ao lo ao, .slice Bo mo bo] 49 (0, 0)) ∧ Chg No w6 w7 ∧ w5.heap.size ≤ w6.heap.size ∧ wr0.heap.size ≤ w7.heap.size) := by
              have hc := (H5.out.1.thenNo H6.out).alloc (.cells #[.int .i64 ko, .int .i64 co, .slice Ao lo ao, .slice Bo mo bo] 49)
              rw [hw7]; exact ⟨hc, heap_alloc_new _ _, (Chg.refl _ _).alloc _, H6.out.size, by have := hc.size; have := hst.out.2.2.2; omega⟩
            rw [← hw7]
            clear hw7 s0 s1 s2
            obtain ⟨⟨s0, s1, s2, s3⟩, _⟩ := obj_4f H7.out.2.1
            cases fr
            · rw [if_neg (by decide)] at G6
              rw [show (if false = true then (3 : Int) else 0) = 0 from rfl, errV_zero]
              have HX : Hid ((formV (n + 1)) (fun k => wr0.heap.size ≤ k ∧ vK.ownBlock ≠ some k) w7 [.int .i64 ko, .int .i64 co, .slice Ao lo ao, .slice Bo mo bo] gx) := by
                have hm2 : ∀ q, vK.ownBlock = some q → wr0.heap.size ≤ q ∧ q < wr.heap.size := fun q hq => hst.out.2.1.mine q hq
                have hz5 := H5.out.2.2
                have hz0 := hst.out.2.2.2
                refine (formV_good _).no ((formV_good _).mono G6.out (fun k _ hk => ?_)) H7.out.2.2.1
                exact ⟨by omega, fun e => by have := hm2 k e; omega⟩
              have HOW : Hid (OwnL (formV (n + 1)) 49 (fun k => wr0.heap.size ≤ k) (fun k => wr0.heap.size ≤ k) w7 vK T) := hst.out.2.1.no (formV_good _) H7.out.1
              have HFR : Hid (∀ k, w7.heap.size ≤ k → wr0.heap.size ≤ k) := fun k hk => by have := H7.out.2.2.2.2; omega
              have HP := Lib.hid (HST1.out w7 H7.out.1)
              obtain ⟨⟨m0, m1, m2, m3⟩, _⟩ := obj_4f (H7.out.1.obj hst.out.1 id)
              have HN1 := Lib.hid (HNF1.out rfl)
              clear HI G6 HST1 H7 HNF1 HFT1 hst x0 x1 x2 HSTEP
              go_wp2_with (at_builtin; refine wpList_pushL (formV_good (n + 1)) (formsTyM (n + 1)) rfl (.tmp 60) (.tmp 62) rfl HFR.out HOW.out rfl HX.out (by simp [Value.oneCell']) rfl HBY.out ?_; intro A8 cap8 w8 g1 g2; obtain ⟨⟨f1, f2⟩, G8⟩ := HP.out w8 A8 cap8 g1 g2; clear g1 g2)
              go_roundw
              case rel => exact ⟨i + 1, _, by go_num, hlt, HN1.out, by rw [HT'.out]; exact G8⟩
              case measure => simp [intOf]; omega
            · obtain ⟨rfl, rfl⟩ := HXT.out (HFT1.out rfl)
              rw [show (if true = true then (3 : Int) else 0) = 3 from rfl, errV_of _ (by decide)]
              obtain ⟨_, ⟨r0, r1, r2, r3⟩, f0, f1, f2, f3⟩ := HO.out w7 (hst.out.2.2.1.thenNo H7.out.1)
              have HCF := Lib.hid (HSET.out w7 (.int .i64 0) (.int .i64 0) (.slice none 0 0) (.slice none 0 0) (hst.out.2.2.1.thenNo H7.out.1))
              have HCG := Lib.hid (HRET.out _ w7 _ _ _ _ (hst.out.2.2.1.thenNo H7.out.1) (HZ.out 0 w7 (by omega) (by omega)))
              clear HI G6 HST1 H7 HNF1 HFT1 hst x0 x1 x2 HSTEP
              go_wp2_with fail
              exact bodyPost_ret (v := .tuple #[.agg #[.int .i64 0, .int .i64 0, .slice none 0 0, .slice none 0 0], .iface 83 (.int .i64 3)]) (by simp [results, Tryz.results37, go_sem, r0, r1, r2, r3]) rfl ⟨_, _, _, _, _, _, _, _, rfl, HCG.out, HCF.out⟩
          · obtain rfl : i = ks.length := by omega
            rw [List.take_of_length_le (Nat.le_refl _)] at hst
            obtain ⟨rfl, rfl⟩ := HXF.out (HFF.out (fun j h => hnf.out j h h))
            obtain ⟨BK, capK, rfl⟩ : ∃ BK capK, vK = .slice BK (ks.map g).length capK := by
              obtain ⟨BK, capK, e, _⟩ := hst.out.2.1.value
              exact ⟨BK, capK, e⟩
            obtain ⟨_, ⟨r0, r1, r2, r3⟩, f0, f1, f2, f3⟩ := HO.out wr hst.out.2.2.1
            obtain ⟨⟨q0, q1, q2, q3⟩, _⟩ := obj_4f hst.out.1
            have HFIN : Hid ((formV (n + 2)) (fun k => w3.heap.size ≤ k) wr [.int .i64 kk, .int .i64 0, .slice none 0 0, .slice BK (ks.map g).length capK] (manyF n kk (ks.map g))) := by
              have g3 := (hst.out.2.1.sl_of (formV_good _) (by rw [formV_bytes, List.length_map]; unfold big; omega)).2
              rw [formV_sz] at g3
              have hz := HR0.out.2.2
              refine ⟨none, 0, BK, capK, rfl, HIK2.out, HIc.out 0 (by omega) (by omega), Sl.empty, ?_⟩
              rw [formV_sz]
              exact g3.mono (formE_good _) (fun k _ hk => by rcases hk with hk | hk <;> omega)
            have HR2 := Lib.hid (HRET.out _ wr _ _ _ _ hst.out.2.2.1 HFIN.out)
            have HCF := Lib.hid (HSET.out wr (.int .i64 kk) (.int .i64 0) (.slice none 0 0) (.slice BK (ks.map g).length capK) hst.out.2.2.1)
            clear hst HFIN HSTEP HRET HSET
            generalize (ks.map g).length = gl at *
            go_wp2_with fail
            exact bodyPost_ret (v := .tuple #[.agg #[.int .i64 kk, .int .i64 0, .slice none 0 0, .slice BK gl capK], .nilIface]) (by simp [results, Tryz.results37, go_sem, r0, r1, r2, r3]) rfl ⟨_, _, _, _, _, _, _, _, rfl, HR2.out, HCF.out⟩
theorem ccond_any (m : Nat) : ∀ n, CndOk m n
  | 0 => fun _ _ _ _ _ _ _ _ h => h.elim
  | n + 1 => cnd_walk m n (Lib.hid (ccond_any m n))
end Go.Proofs.YtpmndblakmobdaaGreatDoor
