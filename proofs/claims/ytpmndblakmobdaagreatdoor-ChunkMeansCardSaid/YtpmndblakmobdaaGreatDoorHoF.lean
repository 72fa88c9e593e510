/-
  chunk.Cond; law20.small, law20.values.
-/
import Derived.Test.YtpmndblakmobdaaGreatDoorHoE
import Derived.Test.YtpmndblakmobdaaGreatDoorHnE
import Derived.Test.YtpmndblakmobdaaGreatDoorTD
namespace Go.Proofs.YtpmndblakmobdaaGreatDoor
open Go Go.RowKit

/-- A condition's formula, and what is amiss. -/
noncomputable def condR (m n : Nat) (x : CT m n) (l : List Sym) : FT (n + 1) × Int := if (okP2 (deepC m n x 99) (okC m n x) && l.all symB) = true then (ansC m n x l, if cndB m n x l = true then 3 else 0) else (zeroF n, 5)

set_option maxRecDepth 100000 in
set_option maxHeartbeats 4000000 in
theorem chunkCond_any {m n : Nat} {x : CT m n} {R Rs : Nat → Prop} {w : World} {ck : Int} {cA : Option Addr} {cel cca : Nat} {cB : Option Addr} {ckl cck : Nat} (hK : Keys w) (hx : (condV m n) R w [.int .i64 ck, .slice cA cel cca, .slice cB ckl cck] x) {As : Option Addr} {l : List Sym} {caps : Nat} (hl : Syms Rs w As l caps) (hRs : ∀ k, Rs k → k < w.heap.size) :
    Calls Tryz.prog 17 #[.agg #[.int .i64 ck, .slice cA cel cca, .slice cB ckl cck], .slice As l.length caps] w (CdRet (n + 1) w (condR m n x l).1 (errV 83 (condR m n x l).2)) := by
  have HF := Lib.hid (fun W (hW : Chg No w W) => cfine_8 (hK.no hW) ((condV_good m n).no hx hW) (hl.no symE_good hW))
  obtain ⟨ans, hans⟩ : ∃ ans, ans = (condR m n x l).1 := ⟨_, rfl⟩
  obtain ⟨EA, hEA⟩ : ∃ EA, EA = errV 83 (condR m n x l).2 := ⟨_, rfl⟩
  rw [← hans, ← hEA]
  have HX : Hid ((okP2 (deepC m n x 99) (okC m n x) && l.all symB) = true → ∀ W, Chg No w W → Calls Tryz.prog 37 #[.agg #[.int .i64 ck, .slice cA cel cca, .slice cB ckl cck], .slice As l.length caps] W (CdRet (n + 1) W ans EA)) := fun hq W hW => by
    have hq' := hq
    rw [Bool.and_eq_true] at hq'
    have hok : okC m n x = true := by
      have := hq'.1
      unfold okP2 at this
      rw [Bool.and_eq_true] at this
      exact this.2
    have h := ccond_any m n x R Rs W _ As l caps ((condV_good m n).no hx hW) hok (hl.no symE_good hW) (fun k hk => Nat.lt_of_lt_of_le (hRs k hk) hW.size) hq'.2
    have e1 : ansC m n x l = ans := by rw [hans]; unfold condR; rw [if_pos hq]
    have e2 : errV 83 (if cndB m n x l = true then 3 else 0) = EA := by rw [hEA]; unfold condR; rw [if_pos hq]
    rw [e1, e2] at h
    exact h
  have hbad : (okP2 (deepC m n x 99) (okC m n x) && l.all symB) = false → ans = zeroF n ∧ EA = .iface 83 (.int .i64 5) := fun hq => by
    rw [hans, hEA]; unfold condR; rw [hq]
    exact ⟨rfl, errV_of _ (show (5 : Int) ≠ 0 by decide)⟩
  clear hans hEA hx hK hl hRs
  generalize (okP2 (deepC m n x 99) (okC m n x) && l.all symB) = q at *
  generalize l.length = ll at *
  obtain ⟨w3, hw3⟩ : ∃ w3, w3 = (w.alloc (.cells #[.int .i64 ck, .slice cA cel cca, .slice cB ckl cck] 56)).alloc (.cells #[.int .i64 0, .int .i64 0, .slice none 0 0, .slice none 0 0] 49) := ⟨_, rfl⟩
  have h3 : Hid (Chg No w w3 ∧ w3.heap[w.heap.size]? = some (.cells #[.int .i64 ck, .slice cA cel cca, .slice cB ckl cck] 56 (0, 0)) ∧ w3.heap[w.heap.size + 1]? = some (.cells #[.int .i64 0, .int .i64 0, .slice none 0 0, .slice none 0 0] 49 (0, 0)) ∧ w3.heap.size = w.heap.size + 2) := by
    rw [hw3]
    exact ⟨((Chg.refl _ _).alloc _).alloc _, at_old (heap_alloc_new _ _), at_new (by simp), by simp⟩
  have HSET : Hid (∀ W u0 u1 u2 u3, Chg No w3 W → Chg No w ((((W.setCell ⟨w.heap.size + 1, 0, none⟩ u0).setCell ⟨w.heap.size + 1, 1, none⟩ u1).setCell ⟨w.heap.size + 1, 2, none⟩ u2).setCell ⟨w.heap.size + 1, 3, none⟩ u3)) := fun W u0 u1 u2 u3 hW =>
    chgpast2 (h3.out.1.thenNo hW) (set4_chg W _ u0 u1 u2 u3) (fun k hk => by omega)
  have HRET : Hid (∀ (y : FT (n + 1)) (W : World) (u0 u1 u2 u3 : Value), Chg No w3 W → (formV (n + 1)) (fun k => w3.heap.size ≤ k) W [u0, u1, u2, u3] y →
      (formV (n + 1)) (fun k => w.heap.size ≤ k) ((((W.setCell ⟨w.heap.size + 1, 0, none⟩ u0).setCell ⟨w.heap.size + 1, 1, none⟩ u1).setCell ⟨w.heap.size + 1, 2, none⟩ u2).setCell ⟨w.heap.size + 1, 3, none⟩ u3) [u0, u1, u2, u3] y) := fun y W u0 u1 u2 u3 hW hy => by
    have hz := h3.out.2.2.2
    exact (formV_good _).mono ((formV_good _).chg hy (set4_chg W (w.heap.size + 1) u0 u1 u2 u3) (fun k hk e => by omega)) (fun k _ hk => by omega)
  have HO : Hid (∀ W, Chg No w3 W → (W.cell? ⟨w.heap.size, 0, none⟩ = some (.int .i64 ck) ∧ W.cell? ⟨w.heap.size, 1, none⟩ = some (.slice cA cel cca) ∧ W.cell? ⟨w.heap.size, 2, none⟩ = some (.slice cB ckl cck)) ∧
      (W.cell? ⟨w.heap.size + 1, 0, none⟩ = some (.int .i64 0) ∧ W.cell? ⟨w.heap.size + 1, 1, none⟩ = some (.int .i64 0) ∧ W.cell? ⟨w.heap.size + 1, 2, none⟩ = some (.slice none 0 0) ∧ W.cell? ⟨w.heap.size + 1, 3, none⟩ = some (.slice none 0 0)) ∧ W.frozen? ⟨w.heap.size + 1, 0, none⟩ = false ∧ W.frozen? ⟨w.heap.size + 1, 1, none⟩ = false ∧ W.frozen? ⟨w.heap.size + 1, 2, none⟩ = false ∧ W.frozen? ⟨w.heap.size + 1, 3, none⟩ = false) := fun W hW =>
    ⟨obj_3 (hW.obj h3.out.2.1 id), obj_4f (hW.obj h3.out.2.2.1 id)⟩
  obtain ⟨⟨p0, p1, p2⟩, ⟨r0, r1, r2, r3⟩, f0, f1, f2, f3⟩ := HO.out w3 (Chg.refl _ _)
  cases q
  · obtain ⟨rfl, rfl⟩ := hbad rfl
    clear HX
    go_enter Tryz.func17, Tryz.ntmps17
    go_upto_region 1 with fail
    rw [← hw3]
    clear hw3
    go_wp2_with (go_at_call 33; refine (HF.out _ h3.out.1).mono ?_; rintro e w4 ⟨rfl, h4⟩; have H4 := Lib.hid h4; clear p0 p1 p2 r0 r1 r2 r3 f0 f1 f2 f3; obtain ⟨⟨p0, p1, p2⟩, ⟨r0, r1, r2, r3⟩, f0, f1, f2, f3⟩ := HO.out w4 h4; clear h4)
    exact bodyPost_ret (v := .tuple #[.agg #[.int .i64 0, .int .i64 0, .slice none 0 0, .slice none 0 0], .iface 83 (.int .i64 5)]) (by simp [results, Tryz.results17, go_sem, r0, r1, r2, r3]) rfl ⟨_, _, _, _, _, _, _, _, rfl, HRET.out _ _ _ _ _ _ H4.out (leaf_is (r := (0, [])) (I64.of (show (-9000000000000000000 : Int) ≤ 0 by decide) (show (0 : Int) ≤ 9000000000000000000 by decide)) (I64.of (show (-9000000000000000000 : Int) ≤ 0 by decide) (show (0 : Int) ≤ 9000000000000000000 by decide)) Sl.empty), HSET.out _ _ _ _ _ H4.out⟩
  · have HX1 := Lib.hid (HX.out rfl)
    unfold CdRet at HX1
    clear hbad HX
    go_enter Tryz.func17, Tryz.ntmps17
    go_upto_region 1 with fail
    rw [← hw3]
    clear hw3
    go_wp2_with (first
      | (go_at_call 33; refine (HF.out _ h3.out.1).mono ?_; rintro e w4 ⟨rfl, h4⟩; have H4 := Lib.hid h4; clear p0 p1 p2 r0 r1 r2 r3 f0 f1 f2 f3; obtain ⟨⟨p0, p1, p2⟩, ⟨r0, r1, r2, r3⟩, f0, f1, f2, f3⟩ := HO.out w4 h4; clear h4)
      | (go_at_call 37; refine (HX1.out _ (h3.out.1.thenNo H4.out)).mono ?_; rintro e w6 ⟨k6, c6, A6, l6, a6, B6, m6, b6, rfl, g6, h6⟩; have G6 : Hid (Chg No w3 w6 ∧ (formV (n + 1)) (fun k => w3.heap.size ≤ k) w6 [.int .i64 k6, .int .i64 c6, .slice A6 l6 a6, .slice B6 m6 b6] ans) := ⟨H4.out.thenNo h6, (formV_good _).mono g6 (fun k _ hk => Nat.le_trans H4.out.size hk)⟩; clear g6 h6 p0 p1 p2 r0 r1 r2 r3 f0 f1 f2 f3; obtain ⟨⟨p0, p1, p2⟩, ⟨r0, r1, r2, r3⟩, f0, f1, f2, f3⟩ := HO.out w6 G6.out.1))
    exact bodyPost_ret (v := .tuple #[.agg #[.int .i64 k6, .int .i64 c6, .slice A6 l6 a6, .slice B6 m6 b6], EA]) (by simp [results, Tryz.results17, go_sem, r0, r1, r2, r3]) rfl ⟨_, _, _, _, _, _, _, _, rfl, HRET.out _ _ _ _ _ _ G6.out.1 G6.out.2, HSET.out _ _ _ _ _ G6.out.1⟩

set_option maxRecDepth 100000 in
set_option maxHeartbeats 2000000 in
theorem small20_any {me mc n : Nat} {x : ET me} {y : CT mc n} {R R2 : Nat → Prop} {w : World} {ek en : Int} {es : ByteArray} {eB : Option Addr} {ekl eck : Nat} {ck : Int} {cA : Option Addr} {cel cca : Nat} {cB : Option Addr} {ckl cck : Nat} (hx : (exprV me) R w [.int .i64 ek, .int .i64 en, .string es, .slice eB ekl eck] x) (hy : (condV mc n) R2 w [.int .i64 ck, .slice cA cel cca, .slice cB ckl cck] y) (As : Option Addr) (ll caps : Nat) (hll : ll ≤ 140737488355328) :
    Calls Tryz.prog 13 #[.agg #[.int .i64 ek, .int .i64 en, .string es, .slice eB ekl eck], .agg #[.int .i64 ck, .slice cA cel cca, .slice cB ckl cck], .slice As ll caps] w fun e w' => ∃ q, e = .returned (.bool q) ∧ (q = true → ll < 50) ∧ Chg No w w' := by
  have HS : Hid (∀ W bs, Chg No w W → W.heap[bs]? = some (.cells (stmG 0 ⟨#[]⟩ ek en es eB ekl eck ck cA cel cca cB ckl cck) 96 (0, 0)) → Calls Tryz.prog 32 #[.slice (some ⟨bs, 0, none⟩) 1 1, .int .i64 300, .int .i64 300] W (SzRet W 300)) := fun W bs hW hb =>
    sizeS_one rfl ((exprV_good me).no hx hW) ((condV_good mc n).no hy hW) hb (left := 300) (z := 300) rfl rfl
  clear hx hy
  obtain ⟨w3, hw3⟩ : ∃ w3, w3 = (w.alloc (.cells #[.int .i64 ek, .int .i64 en, .string es, .slice eB ekl eck] 53)).alloc (.cells #[.int .i64 ck, .slice cA cel cca, .slice cB ckl cck] 56) := ⟨_, rfl⟩
  obtain ⟨g, hg⟩ : ∃ g, g = w.heap.size + 1 := ⟨_, rfl⟩
  have h3 : Hid (Chg No w w3 ∧ w3.heap[w.heap.size]? = some (.cells #[.int .i64 ek, .int .i64 en, .string es, .slice eB ekl eck] 53 (0, 0)) ∧ w3.heap[g]? = some (.cells #[.int .i64 ck, .slice cA cel cca, .slice cB ckl cck] 56 (0, 0))) := by
    rw [hw3, hg]; exact ⟨((Chg.refl _ _).alloc _).alloc _, at_old (heap_alloc_new _ _), at_new (by simp)⟩
  obtain ⟨p0, p1, p2, p3⟩ := obj_4 h3.out.2.1
  obtain ⟨q0, q1, q2⟩ := obj_3 h3.out.2.2
  by_cases h50 : ll < 50
  · have d1 : decide ((ll : Int) < 50) = true := decide_eq_true (by omega)
    go_enter Tryz.func13, Tryz.ntmps13
    go_upto_region 1 with fail
    rw [← hw3, ← hg]
    clear hw3 hg
    go_wp2_with (go_at_call 32; (refine (HS.out _ w3.heap.size (h3.out.1.alloc _) (heap_alloc_new _ _)).mono ?_); rintro e w4 ⟨v, rfl, g1, g2, h4⟩; have H4 : Hid (Chg No w w4) := (h3.out.1.alloc _).thenNo h4; clear h4)
    go_ret
    exact ⟨_, rfl, fun _ => h50, H4.out⟩
  · have d1 : decide ((ll : Int) < 50) = false := decide_eq_false (by omega)
    go_enter Tryz.func13, Tryz.ntmps13
    go_upto_region 1 with fail
    rw [← hw3, ← hg]
    clear hw3 hg
    go_wp2_with fail
    go_ret
    exact ⟨false, rfl, fun h => by simp at h, h3.out.1⟩

theorem varsTyV : SliceTy Tryz.prog 59 98 varV.sz varV.bytes (.agg #[.string ByteArray.empty, .int .i64 0]) := ⟨Tryz.underlying59, by kernel_rfl, rfl, by decide, by decide⟩
/-- A call returns the values of variables, if all are told. -/
def VlsRet (w : World) (vs : List Int) (l : List Sym) (e : Ending) (w' : World) : Prop :=
  (l.all (tldB vs) = true ∧ ∃ A cap, e = .returned (.tuple #[.slice A (varsOf vs l).length cap, .bool true]) ∧ Vars (fun k => w.heap.size ≤ k) w' A (varsOf vs l) cap ∧ Chg No w w') ∨
  (l.all (tldB vs) = false ∧ e = .returned (.tuple #[.slice none 0 0, .bool false]) ∧ Chg No w w')

set_option maxRecDepth 100000 in
set_option maxHeartbeats 4000000 in
theorem values20_any {Rs R' : Nat → Prop} {w : World} {As : Option Addr} {l : List Sym} {caps : Nat} (hl : Syms Rs w As l caps) (hlen : l.length ≤ 50) {A' : Option Addr} {vs : List Int} {cap' : Nat} (hu : Ints R' w A' vs cap') :
    Calls Tryz.prog 14 #[.slice As l.length caps, .slice A' vs.length cap'] w (VlsRet w vs l) := by
  have HSA := Lib.hid (fun W (hW : Chg No w W) i (hi : i < l.length) => syms_at (hl.no symE_good hW) i hi)
  have HSZ := Lib.hid (fun i (hi : i < l.length) => show l[i].1.size ≤ maxLen by
    obtain ⟨b, o, cs, e, _, hv, hc⟩ := vmem_of (V := symV) rfl hl i hi
    obtain ⟨B, c, rfl, h0, h1, h2⟩ := sym_cells hv
    exact h0)
  have HUU := Lib.hid (fun W (hW : Chg No w W) => hu.no intE_good hW)
  have hb' := hu.big
  unfold big at hb'
  clear hl hu
  go_enter Tryz.func14, Tryz.ntmps14
  go_wp2_with fail
  go_loopw [6, 7] (fun s6 s7 wr => ∃ (i : Nat) (v : Value), v = s6 ∧ s7 = .int .i64 i ∧ i ≤ l.length ∧ Hid (OwnL varV 98 (fun b => w.heap.size ≤ b) No wr v (varsOf vs (l.take i)) ∧ Chg No w wr) ∧ Hid ((l.take i).all (tldB vs) = true)) (fun _ s7 _ => l.length - (intOf s7).toNat)
  case atStart => exact ⟨0, _, rfl, rfl, Nat.zero_le _, ⟨OwnL.nil _ _ _ _ _, Chg.refl _ _⟩, rfl⟩
  case round =>
    obtain ⟨i, v, rfl, rfl, gi, hst, hall⟩ := hrel
    by_cases hlt : i < l.length
    · obtain ⟨b, o, A2, c2, rfl, i2, g4, x0, x1, x2⟩ := HSA.out wr hst.out.2 i hlt
      have i0 : (0 : Int) ≤ (i : Int) := by omega
      have i1 : (i : Int) < (l.length : Int) := by omega
      have HV := Lib.hid (ref01Value_any l[i].2.1 g4 (HUU.out wr hst.out.2))
      have HI := Lib.hid (linVal_I64 l[i].2 vs)
      have HZ := Lib.hid (HSZ.out i hlt)
      have HX := Lib.hid (fun W (hW : Chg No wr W) => hW.cell x0 id)
      have HT : Hid ((linVal l[i].2.1 l[i].2.2 vs).2 = 0 → ¬ 4294967296 < (linVal l[i].2.1 l[i].2.2 vs).1 → ¬ (linVal l[i].2.1 l[i].2.2 vs).1 < -4294967296 → (l.take (i + 1)).all (tldB vs) = true ∧ varsOf vs (l.take (i + 1)) = varsOf vs (l.take i) ++ [(l[i].1, (linVal l[i].2.1 l[i].2.2 vs).1)]) := fun h1 h2 h3 => by
        rw [List.take_succ_eq_append_getElem hlt, List.all_append, hall.out]
        refine ⟨?_, by unfold varsOf; rw [List.map_append]; rfl⟩
        have : tldB vs l[i] = true := by
          unfold tldB farH
          rw [Bool.and_eq_true, decide_eq_true_eq]
          refine ⟨h1, ?_⟩
          rw [decide_eq_false h2, decide_eq_false h3]; rfl
        simp [this]
      have HF : Hid (¬ ((linVal l[i].2.1 l[i].2.2 vs).2 = 0 ∧ ¬ 4294967296 < (linVal l[i].2.1 l[i].2.2 vs).1 ∧ ¬ (linVal l[i].2.1 l[i].2.2 vs).1 < -4294967296) → l.all (tldB vs) = false) := fun h => by
        rw [Bool.eq_false_iff]
        intro hh
        have := List.all_eq_true.1 hh l[i] (List.getElem_mem hlt)
        unfold tldB farH at this
        rw [Bool.and_eq_true, decide_eq_true_eq] at this
        obtain ⟨t1, t2⟩ := this
        simp at t2
        exact h ⟨t1, by omega, by omega⟩
      have hLk : (varsOf vs (l.take i)).length ≤ 50 := by unfold varsOf; rw [List.length_map, List.length_take]; omega
      clear g4 i2 hall
      generalize varsOf vs (l.take i) = V1 at *
      generalize l[i] = si at *
      obtain ⟨sn, sc, st⟩ := si
      simp only at x0 x1 x2 HV HI HZ HX HT HF
      generalize linVal sc st vs = r at *
      obtain ⟨lv, le⟩ := r
      simp only at HV HI HT HF
      go_upto_region 6 with (go_at_call 7; with_reducible refine HV.out.mono ?_; rintro e w5 ⟨rfl, h5⟩; have H5 := Lib.hid h5; clear h5)
      clear x0 x1 x2
      have x0 := HX.out w5 H5.out
      by_cases e1 : le = 0
      · by_cases e2 : 4294967296 < lv
        · have HFL := Lib.hid (HF.out (fun h => by omega))
          clear HF HT HX
          go_wp2_with fail
          go_ret2
          exact .inr ⟨HFL.out, rfl, hst.out.2.thenNo H5.out⟩
        by_cases e3 : lv < -4294967296
        · have HFL := Lib.hid (HF.out (fun h => by omega))
          clear HF HT HX
          go_wp2_with fail
          go_ret2
          exact .inr ⟨HFL.out, rfl, hst.out.2.thenNo H5.out⟩
        · obtain ⟨t1, t2⟩ := HT.out e1 (by omega) (by omega)
          have HT1 := Lib.hid t1
          have HT2 := Lib.hid t2
          have HFR : Hid (∀ k, w5.heap.size ≤ k → w.heap.size ≤ k) := fun k hk => Nat.le_trans (hst.out.2.thenNo H5.out).size hk
          have HOW := Lib.hid (hst.out.1.no varV_good H5.out)
          have HEL : Hid (varV (fun k => No k ∧ v.ownBlock ≠ some k) w5 [.string sn, .int .i64 lv] (sn, lv)) := ⟨[.string sn], [.int .i64 lv], rfl, rfl, ⟨rfl, HZ.out⟩, ⟨rfl, HI.out⟩⟩
          have HBY : Hid ((V1.length + 1) * varV.bytes ≤ 140737488355328) := by unfold Hid; show (V1.length + 1) * 24 ≤ _; omega
          have HCH := Lib.hid (hst.out.2.thenNo H5.out)
          have HMN : Hid (∀ q, v.ownBlock = some q → w.heap.size ≤ q) := fun q hq => (hst.out.1.mine q hq).1
          clear HF HT HX t1 t2 hst
          go_wp2_with (at_builtin; refine wpList_pushL varV_good varsTyV rfl (.tmp 36) (.tmp 44) rfl HFR.out HOW.out rfl HEL.out (by simp [Value.oneCell']) rfl HBY.out ?_; intro A8 cap8 w8 g1 g2; have G1 := Lib.hid g1; have G2 := Lib.hid g2; clear g1 g2)
          go_roundw
          case rel => exact ⟨i + 1, _, rfl, by go_num, hlt, ⟨by rw [HT2.out]; exact G1.out, HCH.out.trans G2.out (fun k hk hlt => by have := HMN.out k hk; omega)⟩, HT1.out⟩
          case measure => simp [intOf]; omega
      · have m1 : (le != 0) = true := by simp [e1]
        have HFL := Lib.hid (HF.out (fun h => e1 h.1))
        clear HF HT HX
        go_wp2_with fail
        go_ret2
        exact .inr ⟨HFL.out, rfl, hst.out.2.thenNo H5.out⟩
    · have ht : l.take i = l := List.take_of_length_le (by omega)
      rw [ht] at hall hst
      obtain ⟨A2, cap2, rfl, hsl⟩ := hst.out.1.sl varV_good (by show (varsOf vs l).length * 24 ≤ big; unfold varsOf big; rw [List.length_map]; omega)
      have HFIN : Hid (VlsRet w vs l (.returned (.tuple #[.slice A2 (varsOf vs l).length cap2, .bool true])) wr) := .inl ⟨hall.out, A2, cap2, rfl, hsl.mono varE_good (fun k _ hk => by rcases hk with hk | hk; exact hk; exact hk.elim), hst.out.2⟩
      obtain ⟨nn, hnn⟩ : ∃ nn, nn = (varsOf vs l).length := ⟨_, rfl⟩
      rw [← hnn] at HFIN
      rw [← hnn]
      clear hnn hst hall hsl ht
      go_wp2_with fail
      go_ret2
      exact HFIN.out
end Go.Proofs.YtpmndblakmobdaaGreatDoor
