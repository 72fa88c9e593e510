/-
  The walk over the law ChunkHolds.
-/
import Derived.Test.YtpmndblakmobdaaGreatDoorHoA
import Derived.Test.YtpmndblakmobdaaGreatDoorTD
import Derived.Deep.DeepCutAuto
import Derived.Deep.RegionHeldLaw
namespace Go.Proofs.YtpmndblakmobdaaGreatDoor
open Go Go.RowKit

theorem linVal_I64 (r : Lin) (vs : List Int) : I64 (linVal r.1 r.2 vs).1 := by
  cases hB : linB r.1 r.2
  · rw [show linVal r.1 r.2 vs = (0, 5) by unfold linVal; rw [hB]; rfl]; exact I64.of (by decide) (by decide)
  · cases hf : farAny vs r.2
    · rw [show linVal r.1 r.2 vs = (r.1 + val (valOf vs) r.2, 0) by unfold linVal; rw [hB, hf]; rfl]
      have hg : ∀ i (hi : i < r.2.length), farB (valOf vs r.2[i].1) = false := fun i hi => by
        unfold farAny at hf
        rw [List.any_eq_false] at hf
        simpa using hf r.2[i] (List.getElem_mem hi)
      have h := part_bound (valWay (vs := vs) hB) (Nat.le_refl _) (fun i hi _ => hg i hi)
      rw [List.take_of_length_le (Nat.le_refl _)] at h
      exact I64.of (by show _ ≤ r.1 + val (valOf vs) r.2; omega) (by show r.1 + val (valOf vs) r.2 ≤ _; omega)
    · rw [show linVal r.1 r.2 vs = (0, 1) by unfold linVal; rw [hB, hf]; rfl]; exact I64.of (by decide) (by decide)
theorem setP_lenH (s : Tri) : ∀ l : List Tri, (setP l s).length ≤ l.length + 1
  | [] => by simp [setP]
  | x :: t => by
    have := setP_lenH s t
    unfold setP
    split
    · simp
    · split
      · simp
      · simp only [List.length_cons]; omega
theorem ownL_oneK {α : Type} {V : ElV α} {e : TypeId} {M R : Nat → Prop} {w : World} {g : Nat} {cs : List Value} {x : α} (hg : w.heap[g]? = some (.cells cs.toArray e (0, 0))) (hM : M g) (hlen : cs.length = V.sz) (hx : V (fun k => R k ∧ k ≠ g) w cs x) (G : V.Good) :
    OwnL V e M R w (.slice (some ⟨g, 0, none⟩) 1 1) [x] := ownL_one hg hM hlen hx G
theorem Sl.takeH {α : Type} {E : Elem α} {sz cap : Nat} {R : Nat → Prop} {w : World} {A : Option Addr} {l : List α} (h : Sl E sz R w A l cap) (k : Nat) : Sl E sz R w A (l.take k) cap :=
  ⟨Nat.le_trans (by simp; omega) h.le, h.max, Nat.le_trans (Nat.mul_le_mul_right _ (by simp; omega)) h.room, h.nil, fun i hi => by
    obtain ⟨b, o, e, x⟩ := h.at_ i (by simp at hi; omega)
    refine ⟨b, o, e, ?_⟩
    rw [List.getElem_take]
    exact x⟩

set_option maxRecDepth 100000 in
set_option maxHeartbeats 8000000 in
theorem chunkHolds_walk {R R' : Nat → Prop} {w : World} (hK : Keys w) {A : Option Addr} {l : List Chunk} {cap : Nat} (hl : Chunks R w A l cap) {A' : Option Addr} {vs : List Int} {cap' : Nat} (hu : Ints R' w A' vs cap') :
    Calls Tryz.prog 3 #[.slice A l.length cap, .slice A' vs.length cap'] w fun e w' => e = .returned (.bool true) ∧ Chg No w w' := by
  have HL := Lib.hid (fun W (hW : Chg No w W) => light20_any (hl.no chE_good hW))
  have HU := Lib.hid (up20_any hK)
  have HAT := Lib.hid (fun W (hW : Chg No w W) i (hi : i < l.length) => chs_at (hl.no chE_good hW) i hi)
  have HUU := Lib.hid (fun W (hW : Chg No w W) => hu.no intE_good hW)
  have HLL := Lib.hid (fun W (hW : Chg No w W) => hl.no chE_good hW)
  have hb := hl.big
  have hb' := hu.big
  unfold big at hb hb'
  have HLT : Hid (lightB l = true → l.length ≤ 60 ∧ ∀ o ∈ l, -1099511627776 ≤ o.2.2.1 ∧ o.2.2.1 ≤ 1099511627776) := fun h => by
    unfold lightB at h
    rw [Bool.and_eq_true, decide_eq_true_eq] at h
    exact ⟨h.1, fun o ho => numB_le (List.all_eq_true.1 h.2 o ho)⟩
  clear hl hu hK
  generalize lightB l = q at *
  cases q
  · clear HLT HAT HUU HLL
    go_enter Tryz.func3, Tryz.ntmps3
    go_wp2_with (first
      | (go_at_call 5; with_reducible refine HU.out.mono ?_; rintro e w4 ⟨rfl, h4⟩; have H4 := Lib.hid h4; clear h4)
      | (go_at_call 6; with_reducible refine (HL.out _ H4.out).mono ?_; rintro e w5 ⟨rfl, rfl⟩))
    go_ret
    exact ⟨rfl, H4.out⟩
  by_cases h12 : 12 < l.length
  · have d12 : decide ((12 : Int) < (l.length : Int)) = true := decide_eq_true (by omega)
    clear HLT HAT HUU HLL
    go_enter Tryz.func3, Tryz.ntmps3
    go_wp2_with (first
      | (go_at_call 5; with_reducible refine HU.out.mono ?_; rintro e w4 ⟨rfl, h4⟩; have H4 := Lib.hid h4; clear h4)
      | (go_at_call 6; with_reducible refine (HL.out _ H4.out).mono ?_; rintro e w5 ⟨rfl, rfl⟩))
    go_ret
    exact ⟨rfl, H4.out⟩
  have hlen : l.length ≤ 12 := by omega
  have d12 : decide ((12 : Int) < (l.length : Int)) = false := decide_eq_false (by omega)
  have HNN := Lib.hid (HLT.out rfl).2
  clear HLT h12
  go_enter Tryz.func3, Tryz.ntmps3
  go_upto_region 8 with (first
      | (go_at_call 5; with_reducible refine HU.out.mono ?_; rintro e w4 ⟨rfl, h4⟩; have H4 := Lib.hid h4; clear h4)
      | (go_at_call 6; with_reducible refine (HL.out _ H4.out).mono ?_; rintro e w5 ⟨rfl, rfl⟩))
  clear HU HL
  go_loopw [7, 8, 9] (fun s7 s8 s9 wr => ∃ (k nh ch ns cs : Nat) (Ah As : Option Addr) (h s : List Tri), s9 = .int .i64 k ∧ s7 = .slice Ah nh ch ∧ s8 = .slice As ns cs ∧ k ≤ l.length ∧ Hid (nh = h.length) ∧ Hid (ns = s.length) ∧ Hid (Chg No w wr) ∧ Hid (Tris (fun _ => True) wr Ah h ch) ∧ Hid (Tris (fun _ => True) wr As s cs) ∧ Hid (Laid vs (l.take k) h s) ∧ Hid (h.length ≤ k) ∧ Hid (s.length ≤ k)) (fun _ _ s9 _ => l.length - (intOf s9).toNat)
  case atStart => exact ⟨0, 0, 0, 0, 0, none, none, [], [], rfl, rfl, rfl, Nat.zero_le _, rfl, rfl, H4.out, Sl.empty, Sl.empty, Laid.nil vs, Nat.zero_le _, Nat.zero_le _⟩
  case round =>
    clear H4
    obtain ⟨k, nh, ch, ns, cs, Ah, As, h, s, rfl, rfl, rfl, hks, hnh, hns, hch, HH, HS, HLD, hlh, hls⟩ := hrel
    by_cases hlt : k < l.length
    · obtain ⟨b, o, B, c, C, d, rfl, ⟨t1, t2, t3, t4, t5, t6⟩, x0, x1, x2, x3, x4, x5⟩ := HAT.out wr hch.out k hlt
      have i0 : (0 : Int) ≤ (k : Int) := by omega
      have i1 : (k : Int) < (l.length : Int) := by omega
      have HXX := Lib.hid (fun W (hW : Chg No wr W) => And.intro (hW.cell x3 id) (And.intro (hW.cell x4 id) (And.intro (hW.cell x5 id) (And.intro (hW.cell x2 id) (hW.cell x1 id)))))
      have HVA := Lib.hid (ref01Value_any l[k].1.1 t2 (HUU.out wr hch.out))
      have HVV := Lib.hid (fun W (hW : Chg No wr W) => ref01Value_any l[k].2.2.2.1 (t6.no monoE_good hW) (HUU.out W (hch.out.thenNo hW)))
      have HI1 := Lib.hid (linVal_I64 l[k].1 vs)
      have HI2 := Lib.hid (linVal_I64 l[k].2.2.2 vs)
      have HADD : Hid ((linVal l[k].1.1 l[k].1.2 vs).2 = 0 → (linVal l[k].2.2.2.1 l[k].2.2.2.2 vs).2 = 0 → 1 ≤ (linVal l[k].1.1 l[k].1.2 vs).1 → 1 ≤ l[k].2.2.1 → (hasL h ((linVal l[k].1.1 l[k].1.2 vs).1, l[k].2.1, 0) = true → getP h ((linVal l[k].1.1 l[k].1.2 vs).1, l[k].2.1, 0) = (linVal l[k].2.2.2.1 l[k].2.2.2.2 vs).1) →
          Laid vs (l.take (k + 1)) (setR h ((linVal l[k].1.1 l[k].1.2 vs).1, l[k].2.1, (linVal l[k].2.2.2.1 l[k].2.2.2.2 vs).1)) (addsS (s ++ [((linVal l[k].1.1 l[k].1.2 vs).1, l[k].2.1, l[k].2.2.1)]))) := fun e1 e2 e3 e4 e5 => by
        rw [List.take_succ_eq_append_getElem hlt]
        exact HLD.out.add ⟨e1, e2, e3, e4⟩ ⟨HI1.out, t3, t4⟩ e5
      have HF3 := Lib.hid t3
      have HF4 := Lib.hid t4
      have HST := Lib.hid HLD.out.hs
      clear t1 t2 t3 t4 t5 t6 HAT HLL HLD
      generalize l[k] = ck at *
      obtain ⟨⟨aC, aT⟩, fd, num, vC, vT⟩ := ck
      simp only at x0 x1 x2 x3 x4 x5 HXX HVA HVV HI1 HI2 HADD HF3 HF4
      generalize linVal aC aT vs = ra at *
      generalize linVal vC vT vs = rv at *
      obtain ⟨av, ae⟩ := ra
      obtain ⟨vv, ve⟩ := rv
      simp only at HVA HVV HI1 HI2 HADD
      go_upto_region 11 with (go_at_call 7; with_reducible refine HVA.out.mono ?_; rintro e w4 ⟨rfl, h4⟩; have H4 := Lib.hid h4; clear h4)
      obtain ⟨y3, y4, y5, y2, _⟩ := HXX.out w4 H4.out
      have HVV4 := Lib.hid (HVV.out w4 H4.out)
      clear HVA HVV
      go_upto_region 12 with (go_at_call 7; with_reducible refine HVV4.out.mono ?_; rintro e w5 ⟨rfl, h5⟩; have H5 := Lib.hid (H4.out.thenNo h5); clear h5)
      clear HVV4 H4 x0 x1 x2 x3 x4 x5 y2 y3 y4 y5
      obtain ⟨x3, x4, x5, x2, x1⟩ := HXX.out w5 H5.out
      have HC5 := Lib.hid (hch.out.thenNo H5.out)
      by_cases e1 : ae = 0
      · by_cases e2 : ve = 0
        · by_cases e3 : av < 1
          · clear HXX HADD HST HH HS HUU HNN
            go_wp2_with fail
            go_ret
            exact ⟨rfl, HC5.out⟩
          by_cases e4 : num < 1
          · clear HXX HADD HST HH HS HUU HNN
            go_wp2_with fail
            go_ret
            exact ⟨rfl, HC5.out⟩
          have HADD2 := Lib.hid (HADD.out e1 e2 (by omega) (by omega))
          have HGET : Hid (Calls Tryz.prog 8 #[.slice Ah nh ch, .int .i64 av, .string fd] w5 fun e w' => e = .returned (.tuple #[.int .i64 (getP h (av, fd, 0)), .bool (hasL h (av, fd, 0))]) ∧ Chg No w5 w') := by
            rw [hnh.out]
            exact refGet_any (HH.out.no triE_good H5.out) av fd
          have HSET : Hid (∀ W, Chg No wr W → Calls Tryz.prog 9 #[.slice Ah nh ch, .int .i64 av, .string fd, .int .i64 vv] W (SetRet W (setR h (av, fd, vv)))) := fun W hW => by
            rw [hnh.out]
            exact refSet_any (HH.out.no triE_good hW) (by have := hlh.out; omega) av fd vv ⟨HI1.out, HF3.out, HI2.out⟩
          have HLN : Hid ((setR h (av, fd, vv)).length ≤ k + 1) := by
            have h1 := setP_lenH (av, fd, vv) h
            rw [← setR_eq HST.out] at h1
            have := hlh.out
            unfold Hid
            omega
          have HJN : Hid (∀ W, Chg No wr W → Calls Tryz.prog 10 #[.slice As ns cs, .slice (some ⟨W.heap.size, 0, none⟩) 1 1] (W.alloc (.cells #[.int .i64 av, .string fd, .int .i64 num] 40)).drew fun e w' => ∃ A' cap', e = .returned (.slice A' (addsS (s ++ [(av, fd, num)])).length cap') ∧ Tris (fun _ => True) w' A' (addsS (s ++ [(av, fd, num)])) cap' ∧ (addsS (s ++ [(av, fd, num)])).length ≤ k + 1 ∧ Chg No W w') := fun W hW => by
            rw [hns.out]
            have hx : triV (fun _ => True) (W.alloc (.cells #[.int .i64 av, .string fd, .int .i64 num] 40)).drew [.int .i64 av, .string fd, .int .i64 num] (av, fd, num) := tri_of (m := (av, fd, num)) HI1.out HF3.out HF4.out
            have h1 : OTris 40 (fun _ => True) (W.alloc (.cells #[.int .i64 av, .string fd, .int .i64 num] 40)).drew (.slice (some ⟨W.heap.size, 0, none⟩) 1 1) [(av, fd, num)] := ownL_oneK (cs := [.int .i64 av, .string fd, .int .i64 num]) (heap_alloc_new W _) trivial rfl (tri_of (m := (av, fd, num)) HI1.out HF3.out HF4.out) triV_good
            have h2 := refJoin_any (HS.out.no triE_good ((hW.alloc (.cells #[.int .i64 av, .string fd, .int .i64 num] 40)).drew)) (h1.tris (by show 1 * 32 ≤ big; decide)) (by have := hls.out; simp; omega)
            have h3 := addsS_len (s ++ [(av, fd, num)])
            rw [List.length_append] at h3
            have h4 := hls.out
            simp only [List.length_cons, List.length_nil] at h3
            refine h2.mono ?_
            rintro e w' ⟨A2, c2, rfl, g1, g2⟩
            exact ⟨A2, c2, rfl, (g1.tris (by unfold big; omega)).mono triE_good (fun _ _ _ => trivial), by omega, ((Chg.refl No W).alloc _).drew.thenNo g2⟩
          have HSZ := Lib.hid hlen
          generalize setR h (av, fd, vv) = h2 at *
          generalize addsS (s ++ [(av, fd, num)]) = s2 at *
          generalize getP h (av, fd, 0) = gv at *
          generalize hasL h (av, fd, 0) = hv at *
          clear HADD HST HH HS HF3 HF4 HI1 HI2 HUU HNN
          unfold SetRet at HSET
          by_cases hbad : hv = true ∧ ¬ gv = vv
          · obtain ⟨rfl, hne⟩ := hbad
            have hne2 : (gv != vv) = true := by simp [hne]
            clear HSET HJN HADD2 HXX
            go_wp2_with (go_at_call 8; with_reducible refine HGET.out.mono ?_; rintro e w6 ⟨rfl, h6⟩; have H6 := Lib.hid (HC5.out.thenNo h6); clear h6)
            go_ret
            exact ⟨rfl, H6.out⟩
          have HADD3 : Hid (Laid vs (l.take (k + 1)) h2 s2) := HADD2.out (fun h => by
            by_cases e : gv = vv
            · exact e
            · exact absurd ⟨h, e⟩ hbad)
          clear HADD2
          have hcond : (hv = false) ∨ (hv = true ∧ (gv != vv) = false) := by
            cases hv
            · exact .inl rfl
            · refine .inr ⟨rfl, ?_⟩
              by_cases e : gv = vv
              · simp [e]
              · exact absurd ⟨rfl, e⟩ hbad
          have HCD := Lib.hid hcond
          clear hbad hcond
          go_upto_region 15 with (go_at_call 8; with_reducible refine HGET.out.mono ?_; rintro e w6 ⟨rfl, h6⟩; have H6 := Lib.hid (H5.out.thenNo h6); clear h6)
          clear x1 x2 x3 x4 x5
          obtain ⟨x3, x4, x5, x2, x1⟩ := HXX.out w6 H6.out
          have HSE := Lib.hid (HSET.out w6 H6.out)
          clear HGET HSET HC5 H5
          have hcond := HCD.out
          clear HCD
          rcases hcond with rfl | ⟨rfl, hgv⟩
          all_goals
            go_upto_region 18 with (go_at_call 9; with_reducible refine HSE.out.mono ?_; rintro e w7 ⟨A7, n7, c7, rfl, g71, g72, g73⟩; have G71 := Lib.hid g71; have G72 := Lib.hid g72; have H67 := Lib.hid g73; clear g71 g72 g73)
            clear x1 x2 x3 x4 x5
            have H7 := Lib.hid (H6.out.thenNo H67.out)
            obtain ⟨x3, x4, x5, x2, x1⟩ := HXX.out w7 H7.out
            have HT7 : Hid (Tris (fun _ => True) w7 A7 h2 c7) := (G72.out.tris (by have := HLN.out; unfold big; omega)).mono triE_good (fun _ _ _ => trivial)
            have HJ7 := Lib.hid (HJN.out w7 H7.out)
            clear G72 HJN HSE H6 HXX
            go_region_law
              ((go_simp; go_at_call 10; refine HJ7.out.mono ?_; rintro e w8 ⟨A8, c8, rfl, g81, g82, g83⟩; have G81 := Lib.hid g81; have G82 := Lib.hid g82; have G83 := Lib.hid g83; clear g81 g82 g83))
            all_goals
              go_wp2
              go_roundw
              case rel => exact ⟨k + 1, n7, c7, _, c8, A7, A8, h2, s2, by go_num, rfl, rfl, hlt, G71.out, rfl, hch.out.thenNo (H7.out.thenNo G83.out), HT7.out.no triE_good G83.out, G81.out, HADD3.out, HLN.out, G82.out⟩
              case measure => simp [intOf]; omega
        · clear HXX HADD HST HH HS HUU HNN
          have m2 : (ve != 0) = true := by simp [e2]
          go_wp2_with fail
          go_ret
          exact ⟨rfl, HC5.out⟩
      · clear HXX HADD HST HH HS HUU HNN
        have m1 : (ae != 0) = true := by simp [e1]
        go_wp2_with fail
        go_ret
        exact ⟨rfl, HC5.out⟩
    · obtain rfl : k = l.length := by omega
      have HLA : Hid (Laid vs l h s) := by have := HLD.out; rwa [List.take_length] at this
      have HT2 := Lib.hid (HS.out.no triE_good (Chg.refl No wr))
      have hsb := HS.out.big
      unfold big at hsb
      obtain ⟨w3, hw3⟩ : ∃ w3, w3 = wr := ⟨_, rfl⟩
      have HTI := Lib.hid (fun i (hi : i < s.length) => HS.out.tri_at i hi)
      have HCW : Hid (Chg No w w3) := by rw [hw3]; exact hch.out
      obtain ⟨n, hn⟩ : ∃ n, n = s.length := ⟨_, rfl⟩
      have hnn : Hid (ns = n) := by rw [hn]; exact hns.out
      obtain rfl := hnn.out
      rw [← hw3] at HTI ⊢
      clear hw3 HH HS HLD hnh hns hlh hls hlt hks HT2 hch hnn
      go_wp2_with fail
      go_loopw [16] (fun s16 wr => ∃ i : Nat, s16 = .int .i64 i ∧ i ≤ ns ∧ w3 = wr ∧ Hid (∀ m ∈ s.take i, m.2.2 ≤ 64)) (fun s16 _ => ns - (intOf s16).toNat)
      case atStart => exact ⟨0, rfl, Nat.zero_le _, by first | rfl | trivial, by simp [Hid]⟩
      case round =>
        obtain ⟨i, rfl, gi, rfl, hall⟩ := hrel
        by_cases hlt : i < ns
        · have hlt' : i < s.length := by omega
          obtain ⟨b, o, rfl, c0, c1, c2⟩ := HTI.out i hlt'
          have i0 : (0 : Int) ≤ (i : Int) := by omega
          have i1 : (i : Int) < (ns : Int) := by omega
          have HNX : Hid (s[i].2.2 ≤ 64 → ∀ m ∈ s.take (i + 1), m.2.2 ≤ 64) := fun h m hm => by
            rw [List.take_succ_eq_append_getElem hlt'] at hm
            rcases List.mem_append.1 hm with hm | hm
            · exact hall.out m hm
            · rw [List.mem_singleton.1 hm]; exact h
          generalize s[i] = m at *
          obtain ⟨z1, z2, z3⟩ := m
          simp only at c0 c1 c2 HNX
          by_cases h64 : 64 < z3
          · clear HNX HTI hn
            go_wp2_with fail
            go_ret
            exact ⟨rfl, HCW.out⟩
          · have HM := Lib.hid (HNX.out (by omega))
            clear HNX HTI hn
            go_wp2_with fail
            go_roundw
            case rel => exact ⟨i + 1, by go_num, hlt, by first | rfl | trivial, HM.out⟩
            case measure => simp [intOf]; omega
        · have H64 : Hid (∀ m ∈ s, m.2.2 ≤ 64) := by
            have := hall.out
            rwa [List.take_of_length_le (by omega)] at this
          have HLAW := Lib.hid (fun i (hi : i < l.length) h0 => holds_law HLA.out hlen (fun c hc => (HNN.out c hc).2) H64.out hi h0)
          clear HTI hall gi hn H64 HLA hsb
          go_wp2_with fail
          clear hlt
          go_loopw [17] (fun s17 wr => ∃ i : Nat, s17 = .int .i64 i ∧ i ≤ l.length ∧ Hid (Chg No w3 wr)) (fun s17 _ => l.length - (intOf s17).toNat)
          case atStart => exact ⟨0, rfl, Nat.zero_le _, Chg.refl _ _⟩
          case round =>
            obtain ⟨i, rfl, gi, hch⟩ := hrel
            by_cases hlt : i < l.length
            · obtain ⟨b, o, B, c, C, d, rfl, ⟨t1, t2, t3, t4, t5, t6⟩, x0, x1, x2, x3, x4, x5⟩ := HAT.out wr (HCW.out.thenNo hch.out) i hlt
              have i0 : (0 : Int) ≤ (i : Int) := by omega
              have i1 : (i : Int) < (l.length : Int) := by omega
              have i2 : (i : Int) ≤ (l.length : Int) := by omega
              have i3 : i ≤ cap := Nat.le_trans (Nat.le_of_lt hlt) (HLL.out w (Chg.refl _ _)).le
              have HFC : Hid (∀ W, Chg No wr W → Calls Tryz.prog 11 #[.slice (some ⟨b, o, none⟩) i cap, .agg #[.int .i64 l[i].1.1, .slice B l[i].1.2.length c, .string l[i].2.1, .int .i64 l[i].2.2.1, .int .i64 l[i].2.2.2.1, .slice C l[i].2.2.2.2.length d]] W (FsRet W (factsR (l.take i) l[i]))) := fun W hW => by
                have h1 := facts_any (Sl.takeH (HLL.out W (HCW.out.thenNo (hch.out.thenNo hW))) i) (chV_good.no (ch_of t1 t2 t3 t4 t5 t6) hW) (by rw [List.length_take]; omega) (HNN.out _ (List.getElem_mem hlt)) (fun o ho => HNN.out o (List.mem_of_mem_take ho))
                rwa [show (l.take i).length = i by rw [List.length_take]; omega] at h1
              have HLW := Lib.hid (HLAW.out i hlt)
              clear t1 t2 t3 t4 t5 t6
              generalize factsR (l.take i) l[i] = F at *
              generalize l[i] = ci at *
              obtain ⟨⟨aC, aT⟩, fd, num, vC, vT⟩ := ci
              simp only at x0 x1 x2 x3 x4 x5 HFC
              obtain ⟨F, fe⟩ := F
              unfold FsRet at HFC
              simp only at HFC HLW
              go_upto_region 27 with fail
              go_cut [18, 19] (fun s18 s19 wx => ∃ (A5 : Option Addr) (c5 : Nat), s18 = .slice A5 F.length c5 ∧ s19 = errV 83 fe ∧ Hid (Chg No wr wx ∧ Forms (fun _ => True) wx A5 F c5))
              case first =>
                go_region_with
                  ((go_at_call 11; refine (HFC.out _ ((Chg.refl No wr).drew)).mono ?_; rintro e w6 ⟨A6, c6, rfl, g6, h6⟩; have G6 := Lib.hid (g6.mono (formE_good 3) (R' := fun _ => True) (fun _ _ _ => trivial)); have H6 := Lib.hid (((Chg.refl No wr).drew).thenNo h6); clear g6 h6))
                all_goals (go_wp2_with fail)
                all_goals go_meet
                all_goals exact ⟨A6, c6, rfl, rfl, H6.out, G6.out⟩
              case rest =>
                obtain ⟨A5, c5, rfl, rfl, G5⟩ := hcut
                obtain ⟨w6, rfl⟩ : ∃ w6, w6 = wc := ⟨_, rfl⟩
                clear HFC x0 x1 x2 x3 x4 x5
                have HC6 := Lib.hid (hch.out.thenNo G5.out.1)
                by_cases hfe : fe = 0
                · rw [hfe, errV_zero]
                  have HLW2 := Lib.hid (HLW.out hfe)
                  have hfb := G5.out.2.big
                  unfold big at hfb
                  clear HLW hfe
                  go_wp2_with fail
                  go_loopw [20] (fun s20 wr => ∃ j : Nat, s20 = .int .i64 j ∧ j ≤ F.length ∧ Hid (Chg No w6 wr)) (fun s20 _ => F.length - (intOf s20).toNat)
                  case atStart => exact ⟨0, rfl, Nat.zero_le _, Chg.refl _ _⟩
                  case round =>
                    obtain ⟨j, rfl, gj, hcj⟩ := hrel
                    by_cases hj : j < F.length
                    · obtain ⟨b', o', v0, v1, v2, v3, rfl, hv, y0, y1, y2, y3⟩ := forms_at (G5.out.2.no (formE_good 3) hcj.out) j hj
                      have j0 : (0 : Int) ≤ (j : Int) := by omega
                      have j1 : (j : Int) < (F.length : Int) := by omega
                      have HV := Lib.hid (formValue_any (vs := vs) hv (HUU.out _ (HCW.out.thenNo (HC6.out.thenNo hcj.out))))
                      have HOKK := Lib.hid (HLW2.out F[j] (List.getElem_mem hj))
                      clear hv HLW2
                      generalize valR 3 F[j] vs = r at *
                      obtain ⟨rb, re⟩ := r
                      simp only at HV HOKK
                      by_cases hre : re = 0
                      · have hrb := HOKK.out hre
                        subst hrb
                        rw [hre, errV_zero] at HV
                        clear HOKK hre
                        go_wp2_with (go_at_call 12; refine HV.out.mono ?_; rintro e w8 ⟨rfl, h8⟩; have H8 := Lib.hid (hcj.out.thenNo h8); clear h8)
                        go_roundw
                        case rel => first | exact ⟨j + 1, by go_num, hj, H8.out⟩ | (repeat apply Exists.intro); refine ⟨?_, rfl⟩; exact ⟨j + 1, by go_num, hj, H8.out⟩
                        case measure => simp [intOf]; omega
                      · rw [errV_of _ hre] at HV
                        clear HOKK
                        go_wp2_with (go_at_call 12; refine HV.out.mono ?_; rintro e w8 ⟨rfl, h8⟩; have H8 := Lib.hid (hcj.out.thenNo h8); clear h8)
                        go_roundw
                        case rel => first | exact ⟨j + 1, by go_num, hj, H8.out⟩ | (repeat apply Exists.intro); refine ⟨?_, rfl⟩; exact ⟨j + 1, by go_num, hj, H8.out⟩
                        case measure => simp [intOf]; omega
                    · clear HLW2
                      go_wp2_with fail
                      go_roundw
                      case rel => first | exact ⟨i + 1, by go_num, hlt, HC6.out.thenNo hcj.out⟩ | (repeat apply Exists.intro); refine ⟨?_, rfl⟩; exact ⟨i + 1, by go_num, hlt, HC6.out.thenNo hcj.out⟩
                      case measure => simp [intOf]; omega
                · rw [errV_of _ hfe]
                  clear HLW
                  go_wp2_with fail
                  go_roundw
                  case rel => first | exact ⟨i + 1, by go_num, hlt, HC6.out⟩ | (repeat apply Exists.intro); refine ⟨?_, rfl⟩; exact ⟨i + 1, by go_num, hlt, HC6.out⟩
                  case measure => simp [intOf]; omega
            · go_wp2_with fail
              go_ret
              exact ⟨rfl, HCW.out.thenNo hch.out⟩
end Go.Proofs.YtpmndblakmobdaaGreatDoor
