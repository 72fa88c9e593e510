/-
  branch: the search under decisions.
-/
import Derived.Test.YtiklknilnmkbmaaSatG
import Derived.Deep.RegionLaw
import Derived.Deep.DeepCutAuto
namespace Go.Proofs.Ytiklknilnmkbmaa
open Go Go.RowKit

theorem boolsTyC' : SliceTy Try.prog 25 4 boolV.sz boolV.bytes (.bool false) := boolsTyC
/-- The values so far, in p's last field: bits. -/
structure VlSt (w4 : World) (p : Nat) (n : Int) (vC vS : Value) (f : Int) (bits : List Bool) (wr : World) (vV : Value) : Prop where
  obj : wr.heap[p]? = some (.cells #[.int .i64 n, vC, vS, .int .i64 f, vV] 45 (0, 0))
  own : OwnL boolV 4 (fun k => w4.heap.size ≤ k) (fun _ => False) wr vV bits
  chg : Chg (fun k => k = p) w4 wr
theorem VlSt.push {w4 : World} {p : Nat} {n : Int} {vC vS : Value} {f : Int} {bits : List Bool} {wr : World} {vV : Value} (h : VlSt w4 p n vC vS f bits wr vV) (hp : p < w4.heap.size) {b : Bool} {A8 : Option Addr} {m cap8 : Nat} {w8 : World}
    (g1 : OwnL boolV 4 (fun k => w4.heap.size ≤ k) (fun _ => False) w8 (.slice A8 m cap8) (bits ++ [b])) (g2 : Chg (fun k => vV.ownBlock = some k) wr w8) :
    w8.frozen? ⟨p, 4, none⟩ = false ∧ w8.cell? ⟨p, 4, none⟩ = some vV ∧ Hid (VlSt w4 p n vC vS f (bits ++ [b]) (w8.setCell ⟨p, 4, none⟩ (.slice A8 m cap8)) (.slice A8 m cap8)) := by
  have o8 := g2.obj h.obj (fun e => by have := (h.own.mine p e).1; omega)
  have hset := (Chg.refl (fun k => k = p) w8).setCell ⟨p, 4, none⟩ (.slice A8 m cap8) (fun _ => rfl)
  refine ⟨(obj_five o8).2 4, (obj_five o8).1.2.2.2.2, obj_set5 _ o8, g1.chg boolV_good hset (fun k hk e => ?_) (fun _ hk => hk.elim), ?_⟩
  · have h1 : w4.heap.size ≤ k := (g1.mine k hk).1
    have h2 : k = p := e
    omega
  · have h1 : Chg (fun k => k = p) w4 w8 := h.chg.trans g2 (fun k hk hlt => by have h1 : w4.heap.size ≤ k := (h.own.mine k hk).1; omega)
    exact h1.trans hset (fun k hk _ => hk)

set_option maxRecDepth 100000 in
set_option maxHeartbeats 8000000 in
theorem branch_step (k : Nat) (IH : Hid (∀ j, j < k → BrOk j)) : BrOk k := by
  intro f hfk Rb Rd B w p n base L D vC vS vV A cap hs hD hRd hDf hLf
  obtain ⟨w1, hw1⟩ : ∃ w1, w1 = w.setCell ⟨p, 3, none⟩ (.int .i64 ((f : Int) - 1)) := ⟨_, rfl⟩
  have hset : Chg (fun k => k = p) w w1 := by rw [hw1]; exact (Chg.refl _ _).setCell _ _ (fun _ => rfl)
  have hs1 : Sol Rb B w1 p n base L ((f : Int) - 1) vC vS vV := hs.put hset (by rw [hw1]; exact obj_set5 _ hs.obj)
  have hD1 := hD.chg intE_good hset (fun k hk e => (hRd k hk).1 e)
  obtain ⟨⟨p0, p1, p2, p3, p4⟩, hfz⟩ := obj_five hs.obj
  obtain ⟨⟨q0, q1, q2, q3, q4⟩, hfz1⟩ := obj_five hs1.obj
  have f3 := hfz 3
  obtain ⟨Ac, cc, Rc, hvC, hcl⟩ := hs1.rows (by omega)
  have hlc : (base ++ L).length = base.length + L.length := List.length_append
  have hsz1 : w.heap.size ≤ w1.heap.size := hset.size
  have hpw : p < w.heap.size := (Array.getElem?_eq_some_iff.1 hs.obj).1
  rw [hvC, hlc] at q1
  have HNX : Hid (∀ W, Chg No w1 W → Sol Rb B W p n base L ((f : Int) - 1) vC vS vV ∧ Chg (Mine p vC vS) w W ∧ Ints Rd W A D cap) := fun W hW =>
    ⟨hs1.no hW, (hset.mono (fun k hk _ => .inl hk)).trans hW (fun _ hk _ => absurd hk id), hD1.no intE_good hW⟩
  have HFR0 : Hid (∀ v, Fresh w v v) := fun v k hk => .inl hk
  have HW1 := Lib.hid hw1
  have HVC := Lib.hid hvC
  have HD1 := Lib.hid hD1
  have HD0 := Lib.hid hD
  have HRD := Lib.hid hRd
  have hDl : D.length ≤ 20000 := by omega
  have h0f : (0 : Int) ≤ (f : Int) := by omega
  have hf2 : (f : Int) ≤ 20000 := by omega
  have HCL := Lib.hid hcl
  have HGV : Hid (¬ Enough n base L f D → ∀ W, Chg No w1 W → BrPost Rb B w p n base L f D vC vS (.returned (.int .i64 0)) W) := fun hno W hW =>
    ⟨0, _, L, [], _, _, _, rfl, (HNX.out W hW).1, (HNX.out W hW).2.1, HFR0.out _, HFR0.out _, (fun h => by cases h), brLaw_gave rfl h0f [] hno⟩
  clear hs hD hset hs1 hD1 hcl hfz hRd hw1 hvC
  by_cases hgv : f = 0 ∨ 16384 ≤ base.length + L.length
  · have hno : ¬ Enough n base L f D := fun h => by
      have h1 := h.2.1
      have h2 := (h.2.2.nil).2
      have h3 := pow_pos' (n.toNat - D.length)
      have e : (2 : Int) ^ (n.toNat - D.length + 1) = 2 ^ (n.toNat - D.length) * 2 := Int.pow_succ _ _
      omega
    have HEND := Lib.hid (HGV.out hno w1 (Chg.refl _ _))
    clear hno HNX HD1 HD0 HCL IH HFR0 HRD HGV
    have hgl : (f : Int) - 1 < 0 ∨ (¬ (f : Int) - 1 < 0 ∧ (16384 : Int) ≤ (base.length : Int) + (L.length : Int)) := by
      rcases hgv with h | h
      · exact .inl (by omega)
      · by_cases h0 : f = 0
        · exact .inl (by omega)
        · exact .inr ⟨by omega, by omega⟩
    clear hgv hfk
    go_enter Try.func17, Try.ntmps17
    go_upto_region 2 with fail
    rw [← HW1.out]
    rcases hgl with h | ⟨h1, h2⟩
    · go_wp2_with fail
      go_ret
      exact HEND.out
    · go_wp2_with fail
      go_ret
      exact HEND.out
  have hf0 : 1 ≤ f := by omega
  have hlm : base.length + L.length < 16384 := by omega
  clear hgv
  obtain ⟨conf, a, c, hans⟩ := isAns_ex n (base ++ L) D
  have HFo : Hid (Calls Try.prog 25 #[.int .i64 n, .slice Ac (base ++ L).length cc, .slice A D.length cap] w1.drew fun e w' => ∃ S, e = .returned (.tuple #[.slice S a.length a.length, .bool conf, errV 49 c]) ∧ Hid (AnsAt S a w1.heap.size w' ∧ Chg No w1 w')) :=
    (follow_ans hans (HCL.out.no rowE_good (Chg.refl _ _).drew) (HD1.out.no intE_good (Chg.refl _ _).drew)).mono (by
      rintro e w' ⟨S, rfl, h1, h2⟩
      exact ⟨S, rfl, h1, ((Chg.refl _ _).drew).trans h2 (fun _ hk _ => hk)⟩)
  have hal := isAns_len hans
  have HANS := Lib.hid hans
  clear hans
  rw [hlc] at HFo
  clear HD1
  go_enter Try.func17, Try.ntmps17
  go_upto_region 2 with fail
  rw [← HW1.out]
  have hge : ¬ (f : Int) - 1 < 0 := by omega
  have hle : ¬ (16384 : Int) ≤ (base.length : Int) + (L.length : Int) := by omega
  go_upto_region 4 with fail
  clear p0 p1 p2 p3 p4 f3
  generalize hev : errV 49 c = ev at *
  have HEV := Lib.hid hev
  clear hev
  go_cut [5, 6, 7] (fun s5 s6 s7 wx => ∃ S, s5 = .slice S a.length a.length ∧ s6 = .bool conf ∧ s7 = ev ∧ Hid (AnsAt S a w1.heap.size wx ∧ Chg No w1 wx))
  case first =>
    go_region_law ((go_simp; go_at_call 25; refine HFo.out.mono ?_; rintro e w4 ⟨S, rfl, H4⟩))
    all_goals (go_wp2_with fail; go_meet; exact ⟨S, rfl, rfl, rfl, H4⟩)
  case rest =>
    obtain ⟨S, rfl, rfl, h7, H4⟩ := hcut
    clear q0 q1 q2 q3 q4 hfz1 HFo hge hle
    have hans := HANS.out
    unfold IsAns at hans
    rcases hans with ⟨h1, rfl, rfl, rfl⟩ | ⟨h1, h2, rfl, rfl, rfl⟩ | ⟨h1, h2, rfl, rfl, h5⟩ | ⟨h1, h2, rfl, rfl, rfl, h6⟩
    · have hev : ev = .iface 49 (.int .i64 (chk n (base ++ L))) := by rw [← HEV.out, errV_of _ h1]
      have HEND := Lib.hid (HGV.out (fun h => h1 h.2.2.nil.1) _ H4.out.2)
      clear h1 HANS HGV HEV
      rw [hev] at h7; clear hev; subst h7
      generalize chk n (base ++ L) = c at *
      go_wp2_with fail
      go_ret
      exact HEND.out
    · have hev : ev = .iface 49 (.int .i64 5) := by rw [← HEV.out, errV_of _ (by decide)]
      have HEND := Lib.hid (HGV.out (fun h => by
        obtain ⟨N, rfl, _⟩ := chk_zero h1
        rw [h.1.lits (by omega)] at h2
        cases h2) _ H4.out.2)
      clear h1 h2 HANS HGV HEV
      rw [hev] at h7; clear hev; subst h7
      go_wp2_with fail
      go_ret
      exact HEND.out
    · have hev : ev = .nilIface := by rw [← HEV.out, errV_zero]
      rw [hev] at h7; clear hev; subst h7
      have hchk := chk_zero h1
      obtain ⟨N, rfl, hN, _, hlits⟩ := hchk
      rw [Int.toNat_natCast] at *
      have hlen := h5.len
      have hans2 := H4.out.1
      obtain ⟨ba, rfl, hba, ho⟩ : ∃ ba, S = some ⟨ba, 0, none⟩ ∧ w1.heap.size ≤ ba ∧ wc.heap[ba]? = some (.cells (a.map (Value.int .i64)).toArray 3 (0, 0)) := by
        rcases hans2 with ⟨h, _⟩ | h
        · rw [h] at hlen; simp at hlen
        · exact h
      have hvals := h5.vals
      have hIa : Ints (fun k => w1.heap.size ≤ k) wc (some ⟨ba, 0, none⟩) a a.length := ints_of_block ho hba (by unfold big; omega) (fun x hx => by have := hvals x hx; exact I64.of (by omega) (by omega))
      obtain ⟨n1, n2, n3⟩ := HNX.out _ H4.out.2
      have hcl4 := HCL.out.no rowE_good H4.out.2
      have HOP : Hid (Calls Try.prog 27 #[.pointer (some ⟨p, 0, none⟩), .slice (some ⟨ba, 0, none⟩) a.length a.length] wc fun e w' => ∃ v, e = .returned (.int .i64 v) ∧ Hid (OpenIs (base ++ L) a v) ∧ wc = w') :=
        open_any (p := p) (by rw [(obj_five n1.obj).1.2.1, HVC.out]) hcl4 hIa hvals (fun c hc l hl => by have := (hlits c hc).2 l hl; exact ⟨this.1, by rw [hlen]; omega⟩) (by rw [hlen]; omega)
      have HFOL := Lib.hid h5
      have HLR := Lib.hid (lits_room h1 h2)
      have HLITS := Lib.hid hlits
      have HIA := Lib.hid hIa
      have HVALS := Lib.hid hvals
      have HN4 := Lib.hid n2
      have HS4 := Lib.hid n1
      have HO := Lib.hid ho
      have hpc : p < wc.heap.size := by have := n2.size; omega
      obtain ⟨⟨q0, q1, q2, q3, q4⟩, hfz⟩ := obj_five n1.obj
      have f4 := hfz 4
      clear h1 h2 h5 hlits hans2 ho hvals hIa n1 n2 n3 hcl4 hfz HEV HANS HGV q0 q1 q2 q3
      generalize hm : a.length = m at *
      have HM := Lib.hid hm
      have hm1 : 1 ≤ m := by omega
      have hm2 : m ≤ 8193 := by omega
      have HLEN := Lib.hid hlen
      clear hm hlen
      go_upto_region 11 with (go_at_call 27; refine HOP.out.mono ?_; rintro e w5 ⟨v, rfl, HO5, rfl⟩)
      clear HOP
      by_cases hv0 : v = 0
      · subst hv0
        obtain ⟨hft1, hft2⟩ := found_true HFOL.out (fun c hc l hl => (HLITS.out c hc).2 l hl) HO5.out
        have ht1 : (1 : Int) ≤ (m : Int) := by omega
        have HBP : Hid (∀ W vV', VlSt wc p N vC vS ((f : Int) - 1) ((a.drop 1).map (fun x => x == 1)) W vV' → BrPost Rb B w p N base L f D vC vS (.returned (.int .i64 1)) W) := fun W vV' hv => by
          obtain ⟨Av, cv, e1, hB⟩ := hv.own.sl boolV_good (by rw [hft2]; show N * 1 ≤ big; unfold big; omega)
          have hz := HN4.out.size
          refine ⟨1, _, L, (a.drop 1).map (fun x => x == 1), vC, vS, vV', rfl, HS4.out.put hv.chg hv.obj, HN4.out.trans hv.chg (fun k hk _ => .inl hk), HFR0.out vC, HFR0.out vS, fun _ => ⟨Av, cv, e1, ?_⟩, brLaw_found rfl (by omega) hft1 (by rw [hft2])⟩
          exact ⟨hB.le, hB.max, hB.room, hB.nil, fun i hi => by
            obtain ⟨b, o, e, hR, cs, _, g1, g2⟩ := hB.at_ i hi
            have g3 : cs = [.bool ((a.drop 1).map (fun x => x == 1))[i]] := g2
            subst g3
            refine ⟨b, o, e, ?_, by simpa [show boolV.sz = 1 from rfl] using g1 0 _ rfl⟩
            have h1 : wc.heap.size ≤ b ∨ False := hR
            have h2 : wc.heap.size ≤ b := h1.resolve_right id
            exact Nat.le_trans hz h2⟩
        have ht1 : (1 : Int) ≤ (m : Int) := by omega
        have HV0 : Hid (VlSt wc p N vC vS ((f : Int) - 1) [] (wc.setCell ⟨p, 4, none⟩ (.slice none 0 0)) (.slice none 0 0)) :=
          ⟨obj_set5 _ HS4.out.obj, OwnL.nil _ _ _ _ _, (Chg.refl _ _).setCell _ _ (fun _ => rfl)⟩
        have HBA : Hid (∀ wr bits vV', VlSt wc p N vC vS ((f : Int) - 1) bits wr vV' → ∀ i (h : 1 + i < a.length), wr.cell? ⟨ba, 1 + i, none⟩ = some (.int .i64 a[1 + i])) := fun wr bits vV' hv i hi => by
          have h1 : ba ≠ p := by omega
          have h2 := hv.chg.obj HO.out h1
          simp [World.cell?, h2, hi]
        go_upto_region 13 with fail
        generalize wc.setCell ⟨p, 4, none⟩ (.slice none 0 0) = w5 at HV0 ⊢
        clear q4 f4
        have HPU : Hid (∀ bits wr vV, VlSt wc p N vC vS ((f : Int) - 1) bits wr vV → (wr.cell? ⟨p, 4, none⟩ = some vV ∧ Hid (∀ k, wr.heap.size ≤ k → wc.heap.size ≤ k) ∧ Hid (OwnL boolV 4 (fun k => wc.heap.size ≤ k) (fun _ => False) wr vV bits)) ∧ Hid (∀ (b : Bool) A8 m cap8 w8, OwnL boolV 4 (fun k => wc.heap.size ≤ k) (fun _ => False) w8 (.slice A8 m cap8) (bits ++ [b]) → Chg (fun k => vV.ownBlock = some k) wr w8 →
            w8.frozen? ⟨p, 4, none⟩ = false ∧ w8.cell? ⟨p, 4, none⟩ = some vV ∧ Hid (VlSt wc p N vC vS ((f : Int) - 1) (bits ++ [b]) (w8.setCell ⟨p, 4, none⟩ (.slice A8 m cap8)) (.slice A8 m cap8)))) := fun bits wr vV hv =>
          ⟨⟨(obj_five hv.obj).1.2.2.2.2, fun k hk => Nat.le_trans hv.chg.size hk, hv.own⟩, fun b A8 m cap8 w8 g1 g2 => hv.push hpc g1 g2⟩
        have HBT : Hid (∀ i (h : 1 + i < a.length), ((a.drop 1).take (i + 1)).map (fun x => x == 1) = ((a.drop 1).take i).map (fun x => x == 1) ++ [a[1 + i] == 1]) := fun i h => by
          rw [List.take_succ_eq_append_getElem (by rw [List.length_drop]; omega), List.map_append]; simp only [List.getElem_drop, List.map_cons, List.map_nil]
        have HV1 : Hid (∀ i (h : 1 + i < a.length), a[1 + i] = 0 ∨ a[1 + i] = 1 ∨ a[1 + i] = -1) := fun i h => HVALS.out _ (List.getElem_mem h)
        have HTL : Hid (∀ i, 1 + i = a.length → (a.drop 1).take i = a.drop 1) := fun i h => List.take_of_length_le (by rw [List.length_drop]; omega)
        have HLT : Hid (∀ i, i ≤ m → (((a.drop 1).take i).map (fun x => x == 1)).length ≤ m) := fun i h => by rw [List.length_map, List.length_take]; omega
        clear HNX HFOL HLITS HVALS HN4 HS4 HO HO5 HVC HRD HD0 HFR0 HW1 IH HCL HIA hft1 hft2 H4
        by_cases hm0 : m = 1
        · have hd : a.drop 1 = [] := List.drop_eq_nil_of_le (by rw [HM.out]; omega)
          have HEND : Hid (BrPost Rb B w p N base L f D vC vS (.returned (.int .i64 1)) w5) := HBP.out _ _ (by rw [hd]; exact HV0.out)
          subst hm0
          clear hd HBP HPU HBT HV1 HTL HLT HBA HV0
          go_wp2_with fail
          go_loopw [67] (fun s67 wr => s67 = .int .i64 (0 : Nat) ∧ wr = w5) (fun _ _ => 0)
          case atStart => exact ⟨rfl, rfl⟩
          case round =>
            obtain ⟨rfl, rfl⟩ := hrel
            go_wp2_with fail
            go_ret
            exact HEND.out
        go_wp2_with fail
        go_loopw [67] (fun s67 wr => ∃ (i : Nat) (vV' : Value), s67 = .int .i64 i ∧ 1 + i ≤ m ∧ Hid (VlSt wc p N vC vS ((f : Int) - 1) (((a.drop 1).take i).map (fun x => x == 1)) wr vV')) (fun s67 _ => m - (intOf s67).toNat)
        case atStart => exact ⟨0, _, rfl, by omega, HV0.out⟩
        case round =>
          obtain ⟨i, vV', rfl, gi, hst⟩ := hrel
          by_cases hlt : 1 + i < m
          · have hlt2 : 1 + i < a.length := by rw [HM.out]; exact hlt
            have hx := HBA.out _ _ _ hst.out i hlt2
            have HBTi := Lib.hid (HBT.out i hlt2)
            have hv3 := HV1.out i hlt2
            obtain ⟨⟨x4, HMo, HOw⟩, HPo⟩ := HPU.out _ _ _ hst.out
            have hbl := HLT.out i (by omega)
            have i0 : (0 : Int) ≤ (i : Int) := by omega
            have i1 : (i : Int) < (m : Int) - 1 := by omega
            have i2 : (i : Int) + 1 < (m : Int) := by omega
            generalize hbits' : ((a.drop 1).take (i + 1)).map (fun x => x == 1) = bits' at *
            have HBITS := Lib.hid hbits'
            clear hbits'
            generalize ((a.drop 1).take i).map (fun x => x == 1) = bits at *
            generalize a[1 + i] = x at *
            clear hst hlt2
            rcases hv3 with rfl | rfl | rfl
            all_goals
              go_wp2_with (at_builtin; refine wpList_pushL' boolV_good boolsTyC' rfl (.tmp 75) (.tmp 78) rfl HMo.out HOw.out rfl (R := fun _ => False) (by rfl) (by simp [Value.oneCell']) rfl rfl (show (bits.length + 1) * 1 ≤ 140737488355328 by omega) ?_; intro A8 cap8 w8 g1 g2; obtain ⟨c2, c3, G8⟩ := HPo.out _ A8 _ cap8 w8 g1 g2; clear g1 g2)
              go_roundw
              case rel => exact ⟨i + 1, _, by go_num, by omega, by rw [HBITS.out, HBTi.out]; exact G8⟩
              case measure => simp [intOf]; omega
          · obtain rfl : m = 1 + i := by omega
            have HEND : Hid (BrPost Rb B w p N base L f D vC vS (.returned (.int .i64 1)) wr) := HBP.out _ _ (by have := hst.out; rw [HTL.out i HM.out.symm] at this; exact this)
            clear HBP HPU HBT HV1 HTL HLT HBA HV0 hst
            go_wp2_with fail
            go_ret
            exact HEND.out
      · obtain ⟨hvz, hvN⟩ : val a v = 0 ∧ v.natAbs ≤ N := by
          rcases HO5.out with ⟨h, _⟩ | ⟨_, c, hc, hvc, hz⟩
          · exact absurd h hv0
          · exact ⟨hz, ((HLITS.out c hc).2 v hvc).2⟩
        have hvb : -8192 ≤ v ∧ v ≤ 8192 := by omega
        obtain ⟨hvb1, hvb2⟩ := hvb
        have hownC : ∀ k, vC.ownBlock = some k → k < wc.heap.size := fun k hk => (HS4.out.cl.mine k hk).2
        have hownS : ∀ k, vS.ownBlock = some k → k < wc.heap.size := fun k hk => (HS4.out.st.mine k hk).2
        have HALL : Hid (∀ w5, w5 = wc.alloc (.cells #[.int .i64 v, .int .i64 (-v)] 3) → BrSt Rb B w5 p N base L f D v vC vS 0 w5 ((f : Int) - 1) L vC vS vV ∧ Chg (Mine p vC vS) w w5 ∧
            ∀ wr, Chg (Mine p vC vS) w5 wr → wr.cell? ⟨wc.heap.size, 0, none⟩ = some (.int .i64 v) ∧ wr.cell? ⟨wc.heap.size, 1, none⟩ = some (.int .i64 (-v))) := fun w5 hw5 => by
          have hno : Chg No wc w5 := by rw [hw5]; exact (Chg.refl _ _).alloc _
          have ho5 : w5.heap[wc.heap.size]? = some (.cells #[.int .i64 v, .int .i64 (-v)] 3 (0, 0)) := by rw [hw5]; exact heap_alloc_new _ _
          refine ⟨⟨HS4.out.no hno, Chg.refl _ _, fun k hk => .inl hk, fun k hk => .inl hk, by omega, ⟨[], by simp, by simp⟩, fun _ => ⟨rfl, rfl⟩, fun h => absurd h (by omega), fun h => absurd h (by omega)⟩, HN4.out.trans hno (fun _ hk _ => absurd hk id), fun wr hwr => ?_⟩
          have h2 := hwr.obj ho5 (fun h => by
            rcases h with h | h | h
            · omega
            · have := hownC _ h; omega
            · have := hownS _ h; omega)
          simp [World.cell?, h2]
        have HVZ := Lib.hid hvz
        have HVN := Lib.hid hvN
        have HV0 := Lib.hid hv0
        clear hownC hownS HS4 HO5 HLITS HVALS HO HIA HCL HNX hvz hvN HW1 HVC H4 hm1 hm2 hal HM HLEN q4 f4 hba
        have hb0 : (v == 0) = false := by simpa using HV0.out
        go_upto_region 20 with fail
        clear hb0
        obtain ⟨w5, hw5⟩ : ∃ w5, w5 = wc.alloc (.cells #[.int .i64 v, .int .i64 (-v)] 3) := ⟨_, rfl⟩
        have HA5 := Lib.hid (HALL.out _ hw5)
        rw [← hw5]
        clear hw5 HALL HN4
        generalize hz0 : wc.heap.size = z at *
        clear hz0
        go_loopw [88] (fun s88 wr => ∃ i : Nat, s88 = .int .i64 i ∧ i ≤ 2 ∧ Hid (∃ fi Li vC' vS' vV', BrSt Rb B w5 p N base L f D v vC vS i wr fi Li vC' vS' vV')) (fun s88 _ => 2 - (intOf s88).toNat)
        case atStart => exact ⟨0, rfl, by omega, _, _, _, _, _, HA5.out.1⟩
        case round =>
          obtain ⟨i, rfl, gi, hst⟩ := hrel
          obtain ⟨fi, Li, vC', vS', vV', hb⟩ := hst.out
          have hbw : Chg (Mine p vC vS) w wr := HA5.out.2.1.trans hb.chg (fun k hk _ => hk)
          have hDr : Ints Rd wr A D cap := HD0.out.chg intE_good hbw (fun k hk h => by
            obtain ⟨g1, g2, g3⟩ := HRD.out k hk
            rcases h with h | h | h
            · exact g1 h
            · exact g2 h
            · exact g3 h)
          obtain ⟨M, hLi, hM⟩ := hb.grow
          have hpos := hb.pos
          have hlb : base.length + Li.length + fi.toNat ≤ 50000 := by rw [hLi, List.length_append]; omega
          by_cases hlt : i < 2
          · have hcell := HA5.out.2.2 wr hb.chg
            obtain ⟨u, hu⟩ : ∃ u : Int, u = if i = 0 then v else -v := ⟨_, rfl⟩
            have hx : wr.cell? ⟨z, i, none⟩ = some (.int .i64 u) := by
              rcases Nat.lt_or_ge i 1 with g | g
              · obtain rfl : i = 0 := by omega
                rw [hu]; exact hcell.1
              · obtain rfl : i = 1 := by omega
                rw [hu]; exact hcell.2
            have hub : -8192 ≤ u ∧ u ≤ 8192 := by rw [hu]; split <;> omega
            obtain ⟨hub1, hub2⟩ := hub
            have HCLO : Hid (Calls Try.prog 28 #[.slice A D.length cap] wr fun e w6 => ∃ A' cap', e = .returned (.slice A' D.length cap') ∧ Hid (OInts 3 (fun k => wr.heap.size ≤ k) w6 (.slice A' D.length cap') D ∧ Chg No wr w6) ∧ Hid (∀ k, w6.heap.size ≤ k → wr.heap.size ≤ k)) :=
              (cloneInts_any hDr).mono (by rintro e w6 ⟨A', cap', rfl, g1, g2⟩; exact ⟨A', cap', rfl, ⟨g1, g2⟩, fun k hk => Nat.le_trans g2.size hk⟩)
            have hpr : p < wr.heap.size := by have := hbw.size; omega
            have HCH : Hid (∀ A7 cap7 w7, OInts 3 (fun k => wr.heap.size ≤ k) w7 (.slice A7 (D.length + 1) cap7) (D ++ [u]) → Chg No wr w7 → Calls Try.prog 17 #[.pointer (some ⟨p, 0, none⟩), .slice A7 (D.length + 1) cap7] w7 fun e w8 => ∃ out, e = .returned (.int .i64 out) ∧ (out = 0 ∨ out = 1 ∨ out = 2) ∧
                Hid ((out = 2 → ∃ fi Li vC' vS' vV', BrSt Rb B w5 p N base L f D v vC vS (i + 1) w8 fi Li vC' vS' vV') ∧ (out ≠ 2 → BrPost Rb B w p N base L f D vC vS e w8))) := fun A7 cap7 w7 g1 g2 => by
              have hI7 := g1.ints_of (by rw [List.length_append]; unfold big; simp; omega)
              have hlen : (D ++ [u]).length = D.length + 1 := by simp
              have hbr := IH.out fi.toNat (by omega) fi.toNat (Nat.le_refl _) Rb (fun k => wr.heap.size ≤ k) B w7 p N base Li (D ++ [u]) vC' vS' vV' A7 cap7 (by rw [Int.toNat_of_nonneg hpos]; exact hb.sol.no g2) hI7 (fun k hk => by
                have hk' : wr.heap.size ≤ k := hk
                exact ⟨by omega, fun e => by have := (hb.sol.cl.mine k e).2; omega, fun e => by have := (hb.sol.st.mine k e).2; omega⟩) (by rw [hlen]; omega) hlb
              rw [hlen, Int.toNat_of_nonneg hpos] at hbr
              rw [hu] at hbr
              exact hbr.mono (fun e w8 hp => by
                obtain ⟨out, e1, e2, e3, e4⟩ := brSt_child hb hlt g2 hp (show (1 : Int) ≤ (f : Int) by omega) (by rw [Int.toNat_natCast]; exact HFOL.out) HV0.out (by rw [Int.toNat_natCast]; exact HVN.out) HVZ.out HA5.out.2.1
                exact ⟨out, e1, e2, e3, e4⟩)
            have i0 : (0 : Int) ≤ (i : Int) := by omega
            have i1 : (i : Int) < 2 := by omega
            have HPO : Hid (∀ (A' : Option Addr) (m cap' : Nat) w6 w7, Hid (OInts 3 (fun k => wr.heap.size ≤ k) w6 (.slice A' m cap') D ∧ Chg No wr w6) → Chg (fun k => (Value.slice A' m cap').ownBlock = some k) w6 w7 → Chg No wr w7) := fun A' m cap' w6 w7 g1 g2 =>
              g1.out.2.trans g2 (fun k hk hlt => by have := (g1.out.1.mine k hk).1; omega)
            clear hb hst hbw hDr hLi hM hpos hlb hcell hu HFOL HVZ HVN HV0 HA5 HRD HD0 HLR HFR0 IH
            go_wp2_with (first
              | (go_at_call 28; refine HCLO.out.mono ?_; rintro e w6 ⟨A6, cap6, rfl, G6, HM6⟩)
              | (go_at_call 17; refine HC7.out.mono ?_; rintro e w8 ⟨out, rfl, hout, H8⟩)
              | (at_builtin; refine wpList_push_int' intsTyC rfl (.tmp 94) (.tmp 96) rfl HM6.out G6.out.1 rfl rfl rfl (I64.of (show -9000000000000000000 ≤ u by omega) (show u ≤ 9000000000000000000 by omega)) (show (D.length + 1) * 8 ≤ 140737488355328 by omega) ?_; intro A7 cap7 w7 g1 g2; have HC7 := Lib.hid (HCH.out A7 cap7 w7 g1 (HPO.out _ _ _ _ _ G6 g2)); clear g1 g2))
            · rename_i hne
              go_ret
              exact H8.out.2 (by simpa using hne)
            · rename_i hne
              go_roundw
              case rel =>
                exact ⟨i + 1, by go_num, hlt, H8.out.1 (by simpa using hne)⟩
              case measure => simp [intOf]; omega
          · obtain rfl : i = 2 := by omega
            have hL1 : (base ++ Li).length ≤ 100000 := by rw [List.length_append]; omega
            have HLE : Hid (Calls Try.prog 26 #[.pointer (some ⟨p, 0, none⟩), .slice A D.length cap] wr fun e w' => e = .returned (.tuple #[]) ∧ Hid (BrPost Rb B w p N base L f D vC vS (.returned (.int .i64 2)) w')) :=
              (learn_any hb.sol hDr HLR.out (by omega) hL1).mono (by
                rintro e w9 ⟨vC2, vS2, rfl, g1, g2, g3, g4⟩
                exact ⟨rfl, brSt_end hb g1 g2 g3 g4 (show (1 : Int) ≤ (f : Int) by omega) (by rw [Int.toNat_natCast]; exact HFOL.out) HV0.out (by rw [Int.toNat_natCast]; exact HVN.out) HVZ.out HA5.out.2.1⟩)
            clear hb hst hbw hDr hLi hM hpos hlb hL1 HFOL HVZ HVN HV0 HA5 HRD HD0 HLR HFR0 IH
            go_wp2_with (go_at_call 26; refine HLE.out.mono ?_; rintro e w9 ⟨rfl, HEND⟩)
            go_ret
            exact HEND.out
    · have hev : ev = .nilIface := by rw [← HEV.out, errV_zero]
      obtain ⟨n1, n2, n3⟩ := HNX.out _ H4.out.2
      have HLE : Hid (Calls Try.prog 26 #[.pointer (some ⟨p, 0, none⟩), .slice A D.length cap] wc fun e w' => e = .returned (.tuple #[]) ∧ Hid (BrPost Rb B w p n base L f D vC vS (.returned (.int .i64 2)) w')) :=
        (learn_any n1 n3 (lits_room h1 h2) (by omega) (by rw [hlc]; omega)).mono (by
          rintro e w5 ⟨vC', vS', rfl, g1, g2, g3, g4⟩
          have z := n2.size
          exact ⟨rfl, 2, _, _, [], vC', vS', _, rfl, g1, n2.trans g2 (fun _ hk _ => hk), (HFR0.out vC).trans g3 z, (HFR0.out vS).trans g4 z, (fun h => by cases h), brLaw_conf rfl (by omega) [] h6⟩)
      clear h1 h2 h6 HANS HGV HEV n1 n2 n3
      rw [hev] at h7; clear hev; subst h7
      go_wp2_with (go_at_call 26; refine HLE.out.mono ?_; rintro e w5 ⟨rfl, HEND⟩)
      go_ret
      exact HEND.out
/-- branch, whatever the fuel. -/
theorem branch_any (k : Nat) : BrOk k := by
  induction k using Nat.strongRecOn with
  | _ k ih => exact branch_step k ih
end Go.Proofs.Ytiklknilnmkbmaa
