/-
  ChF, ChG, ChH, ChL, in one file.
-/
import Derived.Test.YtpmndblakmobdaaGreatDoorTO
import Derived.Test.YtpmndblakmobdaaGreatDoorMB
import Derived.Test.YtpmndblakmobdaaGreatDoorShE
import Derived.Test.YtpmndblakmobdaaGreatDoorTL
import Derived.Test.YtpmndblakmobdaaGreatDoorTF
import Derived.Deep.DeepCutAuto
import Derived.Test.YtpmndblakmobdaaGreatDoorMA
import Derived.StillTailTactics
/- ChF -/
namespace Go.Proofs.YtpmndblakmobdaaGreatDoor
open Go Go.RowKit

/-- So much of a cell, by forms: the address, the field, how much, the value. -/
abbrev Chunk := Lin × (ByteArray × (Int × Lin))
def chV : ElV Chunk := pairV linV (pairV strV (pairV intV linV 40 (by decide)) 56 (by decide)) 88 (by decide)
theorem chV_good : chV.Good := pairV_good linV_good (pairV_good strV_good (pairV_good intV_good linV_good _ _) _ _) _ _
abbrev Chunks (R : Nat → Prop) (w : World) (A : Option Addr) (l : List Chunk) (cap : Nat) : Prop := Sl chV.mem 6 R w A l cap
theorem chE_good : chV.mem.Good := chV_good.mem
theorem ch_cells {R : Nat → Prop} {w : World} {cs : List Value} {x : Chunk} (h : chV R w cs x) :
    ∃ A c B d, cs = [.int .i64 x.1.1, .slice A x.1.2.length c, .string x.2.1, .int .i64 x.2.2.1, .int .i64 x.2.2.2.1, .slice B x.2.2.2.2.length d] ∧ I64 x.1.1 ∧ Monos R w A x.1.2 c ∧ x.2.1.size ≤ maxLen ∧ I64 x.2.2.1 ∧ I64 x.2.2.2.1 ∧ Monos R w B x.2.2.2.2 d := by
  obtain ⟨c1, c2, rfl, _, h1, c3, c4, rfl, _, ⟨rfl, h2⟩, c5, c6, rfl, _, ⟨rfl, h3⟩, h4⟩ := h
  obtain ⟨A, c, rfl, g1, g2⟩ := lin_cells h1
  obtain ⟨B, d, rfl, g3, g4⟩ := lin_cells h4
  exact ⟨A, c, B, d, rfl, g1, g2, h2, h3, g3, g4⟩
theorem ch_of {R : Nat → Prop} {w : World} {x : Chunk} {A B : Option Addr} {c d : Nat} (g1 : I64 x.1.1) (g2 : Monos R w A x.1.2 c) (h2 : x.2.1.size ≤ maxLen) (h3 : I64 x.2.2.1) (g3 : I64 x.2.2.2.1) (g4 : Monos R w B x.2.2.2.2 d) :
    chV R w [.int .i64 x.1.1, .slice A x.1.2.length c, .string x.2.1, .int .i64 x.2.2.1, .int .i64 x.2.2.2.1, .slice B x.2.2.2.2.length d] x :=
  ⟨[.int .i64 x.1.1, .slice A x.1.2.length c], _, rfl, rfl, lin_of g1 g2, [.string x.2.1], _, rfl, rfl, ⟨rfl, h2⟩, [.int .i64 x.2.2.1], _, rfl, rfl, ⟨rfl, h3⟩, lin_of g3 g4⟩
theorem chs_at {R : Nat → Prop} {w : World} {A : Option Addr} {l : List Chunk} {cap : Nat} (h : Chunks R w A l cap) (i : Nat) (hi : i < l.length) :
    ∃ b o B c C d, A = some ⟨b, o, none⟩ ∧ (I64 l[i].1.1 ∧ Monos R w B l[i].1.2 c ∧ l[i].2.1.size ≤ maxLen ∧ I64 l[i].2.2.1 ∧ I64 l[i].2.2.2.1 ∧ Monos R w C l[i].2.2.2.2 d) ∧
      w.cell? ⟨b, o + i * 6, none⟩ = some (.int .i64 l[i].1.1) ∧ w.cell? ⟨b, o + i * 6 + 1, none⟩ = some (.slice B l[i].1.2.length c) ∧ w.cell? ⟨b, o + i * 6 + 2, none⟩ = some (.string l[i].2.1) ∧ w.cell? ⟨b, o + i * 6 + 3, none⟩ = some (.int .i64 l[i].2.2.1) ∧
      w.cell? ⟨b, o + i * 6 + 4, none⟩ = some (.int .i64 l[i].2.2.2.1) ∧ w.cell? ⟨b, o + i * 6 + 5, none⟩ = some (.slice C l[i].2.2.2.2.length d) := by
  obtain ⟨b, o, cs, e, _, hv, hc⟩ := vmem_of (V := chV) rfl h i hi
  obtain ⟨B, c, C, d, rfl, h1, h2, h3, h4, h5, h6⟩ := ch_cells hv
  exact ⟨b, o, B, c, C, d, e, ⟨h1, h2, h3, h4, h5, h6⟩, hc 0 _ rfl, hc 1 _ rfl, hc 2 _ rfl, hc 3 _ rfl, hc 4 _ rfl, hc 5 _ rfl⟩
theorem obj_6 {w : World} {b : Nat} {u0 u1 u2 u3 u4 u5 : Value} {t : TypeId} (h : w.heap[b]? = some (.cells #[u0, u1, u2, u3, u4, u5] t (0, 0))) :
    w.cell? ⟨b, 0, none⟩ = some u0 ∧ w.cell? ⟨b, 1, none⟩ = some u1 ∧ w.cell? ⟨b, 2, none⟩ = some u2 ∧ w.cell? ⟨b, 3, none⟩ = some u3 ∧ w.cell? ⟨b, 4, none⟩ = some u4 ∧ w.cell? ⟨b, 5, none⟩ = some u5 := by
  simp [World.cell?, h]
def chB (x : Chunk) : Bool := linB x.1.1 x.1.2 && linB x.2.2.2.1 x.2.2.2.2

theorem list_chk0 (cs : List Value) (h : cs.length = 6) : ∃ v0 v1 v2 v3 v4 v5, cs = [v0, v1, v2, v3, v4, v5] := by
  match cs, h with
  | [v0, v1, v2, v3, v4, v5], _ => exact ⟨v0, v1, v2, v3, v4, v5, rfl⟩
set_option maxHeartbeats 1000000 in
theorem indexFunc_chk0 {α : Type} {V : ElV α} (hk : V.sz = 6) (g : V.Good) {R : Nat → Prop} {w : World} {A : Option Addr} {l : List α} {cap : Nat} (hl : Sl V.mem 6 R w A l cap) (fv : FuncId) (hf : Entered fv) (p : α → Bool)
    (hp : ∀ w', Chg No w w' → ∀ i (h : i < l.length) cs, V R w' cs l[i] → Calls Tryz.prog fv #[.agg cs.toArray] w' fun e w'' => e = .returned (.bool (p l[i])) ∧ Chg No w' w'') :
    Calls Tryz.prog 41 #[.slice A l.length cap, .func (.func fv) #[] #[]] w fun e w' => e = .returned (.int .i64 (findI p l)) ∧ Chg No w w' := by
  have hb := hl.big
  unfold big at hb
  have Hp := Lib.hid hp
  have HL := Lib.hid (fun W (h : Chg No w W) => hl.no g.mem h)
  clear hp hl
  unfold Entered at hf
  go_enter Tryz.func41, Tryz.ntmps41
  go_wp2
  go_loopw [8] (fun i wr => ∃ k : Nat, k ≤ l.length ∧ i = .int .i64 k ∧ Hid (Chg No w wr) ∧ Hid (∀ j (h : j < l.length), j < k → p l[j] = false)) (fun i _ => l.length - (intOf i).toNat)
  case atStart => exact ⟨0, Nat.zero_le _, rfl, Chg.refl _ _, fun j h hk => absurd hk (by omega)⟩
  case round =>
    obtain ⟨kk, hkk, rfl, hch, hall⟩ := hrel
    by_cases hlt : kk < l.length
    · obtain ⟨b, o, cs, rfl, hlen, hv, hc⟩ := vmem_of hk (HL.out wr hch.out) kk hlt
      obtain ⟨v0, v1, v2, v3, v4, v5, rfl⟩ := list_chk0 cs hlen
      have x0 : wr.cell? ⟨b, o + kk * 6, none⟩ = some v0 := hc 0 _ rfl
      have x1 : wr.cell? ⟨b, o + kk * 6 + 1, none⟩ = some v1 := hc 1 _ rfl
      have x2 : wr.cell? ⟨b, o + kk * 6 + 2, none⟩ = some v2 := hc 2 _ rfl
      have x3 : wr.cell? ⟨b, o + kk * 6 + 3, none⟩ = some v3 := hc 3 _ rfl
      have x4 : wr.cell? ⟨b, o + kk * 6 + 4, none⟩ = some v4 := hc 4 _ rfl
      have x5 : wr.cell? ⟨b, o + kk * 6 + 5, none⟩ = some v5 := hc 5 _ rfl
      clear hc hlen
      have i0 : (0 : Int) ≤ (kk : Int) := by omega
      have i1 : (kk : Int) < (l.length : Int) := by omega
      have HP := Lib.hid (Hp.out wr hch.out kk hlt _ hv)
      have Hhit : Hid (p l[kk] = true → findI p l = kk) := fun h => findI_hit hlt h hall.out
      have Hmiss : Hid (p l[kk] = false → ∀ j (h : j < l.length), j < kk + 1 → p l[j] = false) := fun hpk j h hj => by
        rcases Nat.lt_or_ge j kk with g | g
        · exact hall.out j h g
        · obtain rfl : j = kk := by omega
          exact hpk
      clear hv
      generalize p l[kk] = pk at *
      cases pk with
      | true =>
        have HE := Lib.hid (Hhit.out rfl)
        clear Hmiss Hhit
        go_wp2_with (refine HP.out.mono ?_; rintro e w1 ⟨rfl, h1⟩)
        go_ret
        exact ⟨ret_int HE.out.symm, hch.out.thenNo h1⟩
      | false =>
        have HM := Lib.hid (Hmiss.out rfl)
        clear Hmiss Hhit
        go_wp2_with (refine HP.out.mono ?_; rintro e w1 ⟨rfl, h1⟩)
        go_roundw
        case rel => exact ⟨kk + 1, hlt, by go_num, hch.out.thenNo h1, HM.out⟩
        case measure => simp [intOf]; omega
    · go_wp2
      go_ret
      exact ⟨ret_int (findI_miss (fun j h => hall.out j h (by omega))).symm, hch.out⟩
theorem containsFunc_chk0 {α : Type} {V : ElV α} (hk : V.sz = 6) (g : V.Good) {R : Nat → Prop} {w : World} {A : Option Addr} {l : List α} {cap : Nat} (hl : Sl V.mem 6 R w A l cap) (fv : FuncId) (hf : Entered fv) (p : α → Bool)
    (hp : ∀ w', Chg No w w' → ∀ i (h : i < l.length) cs, V R w' cs l[i] → Calls Tryz.prog fv #[.agg cs.toArray] w' fun e w'' => e = .returned (.bool (p l[i])) ∧ Chg No w' w'') :
    Calls Tryz.prog 25 #[.slice A l.length cap, .func (.func fv) #[] #[]] w fun e w' => e = .returned (.bool (l.any p)) ∧ Chg No w w' := by
  have H := Lib.hid (indexFunc_chk0 hk g hl fv hf p hp)
  clear hp hl
  go_enter Tryz.func25, Tryz.ntmps25
  go_wp2_with (refine H.out.mono ?_; rintro e w1 ⟨rfl, h1⟩)
  go_ret
  exact ⟨ret_bool (findI_ge p l), h1⟩

set_option maxRecDepth 100000 in
set_option maxHeartbeats 1000000 in
theorem sound_any {R : Nat → Prop} {w : World} {cs : List Value} {x : Chunk} (h : chV R w cs x) : Calls Tryz.prog 24 #[.agg cs.toArray] w fun e w' => e = .returned (.bool (chB x)) ∧ Chg No w w' := by
  obtain ⟨A, c, B, d, rfl, h1, h2, h3, h4, h5, h6⟩ := ch_cells h
  have HA := Lib.hid (fun W (hW : Chg No w W) => linCheck_any x.1.1 (h2.no monoE_good hW))
  have HB := Lib.hid (fun W (hW : Chg No w W) => linCheck_any x.2.2.2.1 (h6.no monoE_good hW))
  unfold chB
  generalize linB x.1.1 x.1.2 = q1 at *
  generalize linB x.2.2.2.1 x.2.2.2.2 = q2 at *
  generalize x.1.1 = a0 at *
  generalize x.1.2.length = a1 at *
  generalize x.2.1 = a2 at *
  generalize x.2.2.1 = a3 at *
  generalize x.2.2.2.1 = a4 at *
  generalize x.2.2.2.2.length = a5 at *
  clear h h2 h6
  obtain ⟨w3, hw3⟩ : ∃ w3, w3 = w.alloc (.cells #[.int .i64 a0, .slice A a1 c, .string a2, .int .i64 a3, .int .i64 a4, .slice B a5 d] 34) := ⟨_, rfl⟩
  have h3' : Hid (Chg No w w3 ∧ w3.heap[w.heap.size]? = some (.cells #[.int .i64 a0, .slice A a1 c, .string a2, .int .i64 a3, .int .i64 a4, .slice B a5 d] 34 (0, 0))) := by
    rw [hw3]; exact ⟨(Chg.refl _ _).alloc _, heap_alloc_new _ _⟩
  obtain ⟨p0, p1, p2, p3, p4, p5⟩ := obj_6 h3'.out.2
  cases q1
  · rw [show (if false = true then (0 : Int) else 5) = 5 from rfl, errV_of _ (by decide)] at HA
    clear HB
    go_enter Tryz.func24, Tryz.ntmps24
    go_upto_region 1 with fail
    rw [← hw3]
    clear hw3
    go_wp2_with (go_at_call 40; refine (HA.out _ h3'.out.1).mono ?_; rintro e w4 ⟨rfl, h4⟩)
    go_ret
    exact ⟨rfl, h3'.out.1.thenNo h4⟩
  · rw [show (if true = true then (0 : Int) else 5) = 0 from rfl, errV_zero] at HA
    have hq : (q2 = true ∧ errV 83 (if q2 = true then 0 else 5) = .nilIface) ∨ (q2 = false ∧ errV 83 (if q2 = true then 0 else 5) = .iface 83 (.int .i64 5)) := by
      cases q2
      · exact .inr ⟨rfl, errV_of _ (show (5 : Int) ≠ 0 by decide)⟩
      · exact .inl ⟨rfl, errV_zero _⟩
    rcases hq with ⟨rfl, hq⟩ | ⟨rfl, hq⟩
    all_goals
      rw [hq] at HB
      clear hq
      go_enter Tryz.func24, Tryz.ntmps24
      go_upto_region 1 with fail
      rw [← hw3]
      clear hw3
      go_wp2_with (first
        | (go_at_call 40; with_reducible refine (HA.out _ h3'.out.1).mono ?_; rintro e w4 ⟨rfl, h4⟩; have H4 := Lib.hid (h3'.out.1.thenNo h4); clear p0 p1 p2 p3 p4 p5 HA; obtain ⟨p0, p1, p2, p3, p4, p5⟩ := obj_6 (h4.obj h3'.out.2 id); clear h4)
        | (go_at_call 40; with_reducible refine (HB.out _ H4.out).mono ?_; rintro e w5 ⟨rfl, h5⟩))
      go_ret
      exact ⟨rfl, H4.out.thenNo h5⟩
set_option maxRecDepth 10000 in
theorem entered_facts1 : Entered 26 := fun _ _ => rfl
theorem sounds_any {R : Nat → Prop} {w : World} {A : Option Addr} {l : List Chunk} {cap : Nat} (hl : Chunks R w A l cap) :
    Calls Tryz.prog 25 #[.slice A l.length cap, .func (.func 26) #[] #[]] w fun e w' => e = .returned (.bool (!l.all chB)) ∧ Chg No w w' := by
  have HCF := containsFunc_chk0 (V := chV) rfl chV_good hl 26 entered_facts1 (fun k => !chB k) (fun W hW i hi cs hcs => by
    have HS := Lib.hid (fun W' (hW' : Chg No W W') => sound_any (chV_good.no hcs hW'))
    obtain ⟨A1, c1, B1, d1, rfl, _⟩ := ch_cells hcs
    generalize chB l[i] = q at *
    generalize l[i].1.1 = a0 at *
    generalize l[i].1.2.length = a1 at *
    generalize l[i].2.1 = a2 at *
    generalize l[i].2.2.1 = a3 at *
    generalize l[i].2.2.2.1 = a4 at *
    generalize l[i].2.2.2.2.length = a5 at *
    clear hcs hl
    go_enter Tryz.func26, Tryz.ntmps26
    go_wp2_with (go_at_call 24; refine (HS.out _ ((Chg.refl _ _).alloc _)).mono ?_; rintro e w1 ⟨rfl, h1⟩)
    go_ret
    exact ⟨rfl, ((Chg.refl _ _).alloc _).thenNo h1⟩)
  rw [any_not] at HCF
  exact HCF

/-- What says that two forms are the same; what is amiss. -/
noncomputable def sameR (a b : Lin) : Int × Lin × Int := if (linB a.1 a.2 && linB b.1 b.2) = true then (match sumO a b (-1) with | none => (0, (0, []), 3) | some r => (3, r, 0)) else (0, (0, []), 5)
end Go.Proofs.YtpmndblakmobdaaGreatDoor
/- ChG -/
namespace Go.Proofs.YtpmndblakmobdaaGreatDoor
open Go Go.RowKit

/-- A call returns a formula without parts, beside E; its form lies in new memory. -/
def SRet (w : World) (s : Int × Lin × Int) (e : Ending) (w' : World) : Prop :=
  ∃ A cap, e = .returned (.tuple #[.agg #[.int .i64 s.1, .int .i64 s.2.1.1, .slice A s.2.1.2.length cap, .slice none 0 0], errV 83 s.2.2]) ∧ Monos (fun k => w.heap.size ≤ k) w' A s.2.1.2 cap ∧ Chg No w w'
theorem obj_4f {w : World} {b : Nat} {x y z u : Value} {t : TypeId} (h : w.heap[b]? = some (.cells #[x, y, z, u] t (0, 0))) :
    (w.cell? ⟨b, 0, none⟩ = some x ∧ w.cell? ⟨b, 1, none⟩ = some y ∧ w.cell? ⟨b, 2, none⟩ = some z ∧ w.cell? ⟨b, 3, none⟩ = some u) ∧ w.frozen? ⟨b, 0, none⟩ = false ∧ w.frozen? ⟨b, 1, none⟩ = false ∧ w.frozen? ⟨b, 2, none⟩ = false ∧ w.frozen? ⟨b, 3, none⟩ = false := by
  simp [World.cell?, World.frozen?, h]
theorem set4_chg (w : World) (b : Nat) (u0 u1 u2 u3 : Value) : Chg (fun k => k = b) w ((((w.setCell ⟨b, 0, none⟩ u0).setCell ⟨b, 1, none⟩ u1).setCell ⟨b, 2, none⟩ u2).setCell ⟨b, 3, none⟩ u3) :=
  ((((Chg.refl (fun k => k = b) _).setCell _ _ (fun _ => rfl)).setCell _ _ (fun _ => rfl)).setCell _ _ (fun _ => rfl)).setCell _ _ (fun _ => rfl)

set_option maxRecDepth 100000 in
set_option maxHeartbeats 4000000 in
theorem csame_any {R R' : Nat → Prop} {w : World} (a b : Lin) {A A' : Option Addr} {cap cap' : Nat} (ht : Monos R w A a.2 cap) (ht' : Monos R' w A' b.2 cap') :
    Calls Tryz.prog 28 #[.agg #[.int .i64 a.1, .slice A a.2.length cap], .agg #[.int .i64 b.1, .slice A' b.2.length cap']] w (SRet w (sameR a b)) := by
  have HA := Lib.hid (fun W (hW : Chg No w W) => linCheck_any a.1 (ht.no monoE_good hW))
  have HB := Lib.hid (fun W (hW : Chg No w W) => linCheck_any b.1 (ht'.no monoE_good hW))
  have HS := Lib.hid (fun W (hW : Chg No w W) => csum_any (w := W) a b (ht.no monoE_good hW) (ht'.no monoE_good hW) (-1))
  obtain ⟨ans, hans⟩ : ∃ ans, ans = sameR a b := ⟨_, rfl⟩
  rw [← hans]
  unfold sameR at hans
  have HAN := Lib.hid hans
  clear hans ht ht'
  generalize sumO a b (-1) = so at *
  obtain ⟨ca, ta⟩ := a
  obtain ⟨cb, tb⟩ := b
  simp only at HA HB HS HAN ⊢
  generalize linB ca ta = q1 at *
  generalize linB cb tb = q2 at *
  generalize ta.length = la at *
  generalize tb.length = lb at *
  obtain ⟨w3, hw3⟩ : ∃ w3, w3 = ((w.alloc (.cells #[.int .i64 ca, .slice A la cap] 32)).alloc (.cells #[.int .i64 cb, .slice A' lb cap'] 32)).alloc (.cells #[.int .i64 0, .int .i64 0, .slice none 0 0, .slice none 0 0] 49) := ⟨_, rfl⟩
  have h3 : Hid (Chg No w w3 ∧ w3.heap[w.heap.size]? = some (.cells #[.int .i64 ca, .slice A la cap] 32 (0, 0)) ∧ w3.heap[w.heap.size + 1]? = some (.cells #[.int .i64 cb, .slice A' lb cap'] 32 (0, 0)) ∧ w3.heap[w.heap.size + 1 + 1]? = some (.cells #[.int .i64 0, .int .i64 0, .slice none 0 0, .slice none 0 0] 49 (0, 0)) ∧ w3.heap.size = w.heap.size + 1 + 1 + 1) := by
    rw [hw3]
    exact ⟨(((Chg.refl _ _).alloc _).alloc _).alloc _, at_old (at_old (heap_alloc_new _ _)), at_old (at_new (by simp)), at_new (by simp), by simp⟩
  have HO : Hid (∀ W, Chg No w3 W → (W.cell? ⟨w.heap.size, 0, none⟩ = some (.int .i64 ca) ∧ W.cell? ⟨w.heap.size, 1, none⟩ = some (.slice A la cap)) ∧ (W.cell? ⟨w.heap.size + 1, 0, none⟩ = some (.int .i64 cb) ∧ W.cell? ⟨w.heap.size + 1, 1, none⟩ = some (.slice A' lb cap'))) := fun W hW => by
    obtain ⟨a1, a2, _, _⟩ := obj_2 (hW.obj h3.out.2.1 id)
    obtain ⟨b1, b2, _, _⟩ := obj_2 (hW.obj h3.out.2.2.1 id)
    exact ⟨⟨a1, a2⟩, b1, b2⟩
  have HR : Hid (∀ W, Chg No w3 W → (W.cell? ⟨w.heap.size + 1 + 1, 0, none⟩ = some (.int .i64 0) ∧ W.cell? ⟨w.heap.size + 1 + 1, 1, none⟩ = some (.int .i64 0) ∧ W.cell? ⟨w.heap.size + 1 + 1, 2, none⟩ = some (.slice none 0 0) ∧ W.cell? ⟨w.heap.size + 1 + 1, 3, none⟩ = some (.slice none 0 0)) ∧ W.frozen? ⟨w.heap.size + 1 + 1, 0, none⟩ = false ∧ W.frozen? ⟨w.heap.size + 1 + 1, 1, none⟩ = false ∧ W.frozen? ⟨w.heap.size + 1 + 1, 2, none⟩ = false ∧ W.frozen? ⟨w.heap.size + 1 + 1, 3, none⟩ = false) := fun W hW =>
    obj_4f (hW.obj h3.out.2.2.2.1 id)
  have HW : Hid (∀ W u0 u1 u2 u3 A8 (o : Lin) c8, Chg No w3 W → Monos (fun k => w3.heap.size ≤ k) W A8 o.2 c8 → Chg No w ((((W.setCell ⟨w.heap.size + 1 + 1, 0, none⟩ u0).setCell ⟨w.heap.size + 1 + 1, 1, none⟩ u1).setCell ⟨w.heap.size + 1 + 1, 2, none⟩ u2).setCell ⟨w.heap.size + 1 + 1, 3, none⟩ u3) ∧
      Monos (fun k => w.heap.size ≤ k) ((((W.setCell ⟨w.heap.size + 1 + 1, 0, none⟩ u0).setCell ⟨w.heap.size + 1 + 1, 1, none⟩ u1).setCell ⟨w.heap.size + 1 + 1, 2, none⟩ u2).setCell ⟨w.heap.size + 1 + 1, 3, none⟩ u3) A8 o.2 c8) := fun W u0 u1 u2 u3 A8 o c8 hW hm => by
    have hz := h3.out.2.2.2.2
    have hs := set4_chg W (w.heap.size + 1 + 1) u0 u1 u2 u3
    exact ⟨chgpast2 (h3.out.1.thenNo hW) hs (fun k hk => by omega), (hm.chg monoE_good hs (fun k hk e => by omega)).mono monoE_good (fun k _ hk => by omega)⟩
  obtain ⟨⟨p0, p1⟩, s0, s1⟩ := HO.out w3 (Chg.refl _ _)
  cases q1
  · obtain rfl : ans = (0, (0, []), 5) := HAN.out
    rw [show (if false = true then (0 : Int) else 5) = 5 from rfl, errV_of _ (by decide)] at HA
    clear HB HS HAN
    go_enter Tryz.func28, Tryz.ntmps28
    go_upto_region 1 with fail
    rw [← hw3]
    clear hw3
    go_wp2_with (go_at_call 40; refine (HA.out _ h3.out.1).mono ?_; rintro e w4 ⟨rfl, h4⟩; have H4 := Lib.hid h4; obtain ⟨⟨r0, r1, r2, r3⟩, f0, f1, f2, f3⟩ := HR.out w4 h4; clear h4)
    refine bodyPost_ret (v := .tuple #[.agg #[.int .i64 0, .int .i64 0, .slice none 0 0, .slice none 0 0], .iface 83 (.int .i64 5)]) (by simp [results, Tryz.results28, go_sem, r0, r1, r2, r3]) rfl ⟨none, 0, ?_, (HW.out _ _ _ _ _ none (0, []) 0 H4.out Sl.empty).2, (HW.out _ _ _ _ _ none (0, []) 0 H4.out Sl.empty).1⟩
    rw [errV_of _ (show (5 : Int) ≠ 0 by decide)]
    rfl
  rw [show (if true = true then (0 : Int) else 5) = 0 from rfl, errV_zero] at HA
  cases q2
  · obtain rfl : ans = (0, (0, []), 5) := HAN.out
    rw [show (if false = true then (0 : Int) else 5) = 5 from rfl, errV_of _ (by decide)] at HB
    clear HS HAN
    go_enter Tryz.func28, Tryz.ntmps28
    go_upto_region 1 with fail
    rw [← hw3]
    clear hw3
    go_wp2_with (first
      | (go_at_call 40; with_reducible refine (HA.out _ h3.out.1).mono ?_; rintro e w4 ⟨rfl, h4⟩; have H4 := Lib.hid h4; clear p0 p1 s0 s1 HA; obtain ⟨⟨p0, p1⟩, s0, s1⟩ := HO.out w4 h4; clear h4)
      | (go_at_call 40; with_reducible refine (HB.out _ (h3.out.1.thenNo H4.out)).mono ?_; rintro e w5 ⟨rfl, h5⟩; have H5 := Lib.hid (H4.out.thenNo h5); obtain ⟨⟨r0, r1, r2, r3⟩, f0, f1, f2, f3⟩ := HR.out w5 H5.out; clear h5))
    refine bodyPost_ret (v := .tuple #[.agg #[.int .i64 0, .int .i64 0, .slice none 0 0, .slice none 0 0], .iface 83 (.int .i64 5)]) (by simp [results, Tryz.results28, go_sem, r0, r1, r2, r3]) rfl ⟨none, 0, ?_, (HW.out _ _ _ _ _ none (0, []) 0 H5.out Sl.empty).2, (HW.out _ _ _ _ _ none (0, []) 0 H5.out Sl.empty).1⟩
    rw [errV_of _ (show (5 : Int) ≠ 0 by decide)]
    rfl
  rw [show (if true = true then (0 : Int) else 5) = 0 from rfl, errV_zero] at HB
  cases so with
  | none =>
    obtain rfl : ans = (0, (0, []), 3) := HAN.out
    unfold LinRet at HS
    rw [show optE (none : Option Lin) = 3 from rfl, show optL none = (0, []) from rfl, errV_of _ (by decide)] at HS
    clear HAN
    go_enter Tryz.func28, Tryz.ntmps28
    go_upto_region 1 with fail
    rw [← hw3]
    clear hw3
    go_upto_region 4 with (first
      | (go_at_call 40; with_reducible refine (HA.out _ h3.out.1).mono ?_; rintro e w4 ⟨rfl, h4⟩; have H4 := Lib.hid h4; clear p0 p1 s0 s1 HA; obtain ⟨⟨p0, p1⟩, s0, s1⟩ := HO.out w4 h4; clear h4)
      | (go_at_call 40; with_reducible refine (HB.out _ (h3.out.1.thenNo H4.out)).mono ?_; rintro e w5 ⟨rfl, h5⟩; have H5 := Lib.hid (H4.out.thenNo h5); clear p0 p1 s0 s1 HB; obtain ⟨⟨p0, p1⟩, s0, s1⟩ := HO.out w5 H5.out; clear h5)
      | (go_at_call 27; refine (HS.out _ (h3.out.1.thenNo H5.out)).mono ?_; rintro e w6 ⟨A6, c6, rfl, g6, h6⟩; have H6 := Lib.hid (H5.out.thenNo h6); clear g6 h6))
    obtain ⟨w7, hw7⟩ : ∃ w7, w7 = w6.alloc (.cells #[.int .i64 0, .slice A6 0 c6] 32) := ⟨_, rfl⟩
    rw [← hw7]
    have H7 : Hid (Chg No w3 w7) := by rw [hw7]; exact H6.out.alloc _
    clear hw7 p0 p1 s0 s1
    obtain ⟨⟨r0, r1, r2, r3⟩, f0, f1, f2, f3⟩ := HR.out w7 H7.out
    go_wp2_with fail
    refine bodyPost_ret (v := .tuple #[.agg #[.int .i64 0, .int .i64 0, .slice none 0 0, .slice none 0 0], .iface 83 (.int .i64 3)]) (by simp [results, Tryz.results28, go_sem, r0, r1, r2, r3]) rfl ⟨none, 0, ?_, (HW.out _ _ _ _ _ none (0, []) 0 H7.out Sl.empty).2, (HW.out _ _ _ _ _ none (0, []) 0 H7.out Sl.empty).1⟩
    rw [errV_of _ (show (3 : Int) ≠ 0 by decide)]
    rfl
  | some r =>
    obtain rfl : ans = (3, r, 0) := HAN.out
    unfold LinRet at HS
    rw [show optE (some r) = 0 from rfl, show optL (some r) = r from rfl, errV_zero] at HS
    clear HAN
    go_enter Tryz.func28, Tryz.ntmps28
    go_upto_region 1 with fail
    rw [← hw3]
    clear hw3
    go_upto_region 4 with (first
      | (go_at_call 40; with_reducible refine (HA.out _ h3.out.1).mono ?_; rintro e w4 ⟨rfl, h4⟩; have H4 := Lib.hid h4; clear p0 p1 s0 s1 HA; obtain ⟨⟨p0, p1⟩, s0, s1⟩ := HO.out w4 h4; clear h4)
      | (go_at_call 40; with_reducible refine (HB.out _ (h3.out.1.thenNo H4.out)).mono ?_; rintro e w5 ⟨rfl, h5⟩; have H5 := Lib.hid (H4.out.thenNo h5); clear p0 p1 s0 s1 HB; obtain ⟨⟨p0, p1⟩, s0, s1⟩ := HO.out w5 H5.out; clear h5)
      | (go_at_call 27; refine (HS.out _ (h3.out.1.thenNo H5.out)).mono ?_; rintro e w6 ⟨A6, c6, rfl, g6, h6⟩; have H6 := Lib.hid (H5.out.thenNo h6); have G6 := Lib.hid (g6.mono monoE_good (R' := fun k => w3.heap.size ≤ k) (fun k _ hk => Nat.le_trans H5.out.size hk)); clear g6 h6))
    obtain ⟨w7, hw7⟩ : ∃ w7, w7 = w6.alloc (.cells #[.int .i64 r.1, .slice A6 r.2.length c6] 32) := ⟨_, rfl⟩
    rw [← hw7]
    have H7 : Hid (Chg No w3 w7 ∧ Monos (fun k => w3.heap.size ≤ k) w7 A6 r.2 c6 ∧ w7.heap[w6.heap.size]? = some (.cells #[.int .i64 r.1, .slice A6 r.2.length c6] 32 (0, 0))) := by
      rw [hw7]; exact ⟨H6.out.alloc _, G6.out.no monoE_good ((Chg.refl _ _).alloc _), heap_alloc_new _ _⟩
    clear hw7 p0 p1 s0 s1
    obtain ⟨⟨r0, r1, r2, r3⟩, f0, f1, f2, f3⟩ := HR.out w7 H7.out.1
    obtain ⟨y0, y1, _, _⟩ := obj_2 H7.out.2.2
    go_wp2_with fail
    refine bodyPost_ret (v := .tuple #[.agg #[.int .i64 3, .int .i64 r.1, .slice A6 r.2.length c6, .slice none 0 0], .nilIface]) (by simp [results, Tryz.results28, go_sem, r0, r1, r2, r3]) rfl ⟨A6, c6, ?_, (HW.out _ _ _ _ _ A6 r c6 H7.out.1 H7.out.2.1).2, (HW.out _ _ _ _ _ A6 r c6 H7.out.1 H7.out.2.1).1⟩
    rw [errV_zero]
end Go.Proofs.YtpmndblakmobdaaGreatDoor
/- ChH -/
namespace Go.Proofs.YtpmndblakmobdaaGreatDoor
open Go Go.RowKit

def leafF (n : Nat) (k : Int) (r : Lin) : FT (n + 1) := (⟨k, r, []⟩ : Node (FT n))
def notF (n : Nat) (r : Lin) : FT (n + 2) := (⟨4, (0, []), [leafF n 3 r]⟩ : Node (FT (n + 1)))
def orF (r s : Lin) : FT 3 := (⟨6, (0, []), [notF 0 r, leafF 1 3 s]⟩ : Node (FT 2))
/-- What one chunk says of another one; none: it is far. -/
noncomputable def fact1 (c o : Chunk) : Option (List (FT 3)) :=
  if o.2.1.toList = c.2.1.toList then
    match sumO o.1 c.1 (-1) with
    | none => none
    | some r => if 64 < o.2.2.1 + c.2.2.1 then some [notF 1 r] else match sumO o.2.2.2 c.2.2.2 (-1) with
      | none => none
      | some s => some [orF r s]
  else some []
noncomputable def factsL (c : Chunk) : List Chunk → Option (List (FT 3))
  | [] => some []
  | o :: l => match fact1 c o with
    | none => none
    | some f => (factsL c l).map (f ++ ·)
noncomputable def factsR (l : List Chunk) (c : Chunk) : List (FT 3) × Int :=
  if (chB c && l.all chB) = true then
    match sumO (1, []) c.1 (-1) with
    | none => ([], 3)
    | some x => match factsL c l with
      | none => ([], 3)
      | some d => (leafF 2 2 x :: d, 0)
  else ([], 5)
theorem factsL_step {c : Chunk} {l : List Chunk} {i : Nat} (hi : i < l.length) : factsL c (l.drop i) = match fact1 c l[i] with | none => none | some f => (factsL c (l.drop (i + 1))).map (f ++ ·) := by
  rw [List.drop_eq_getElem_cons hi]
  rfl
theorem fact1_len {c o : Chunk} {f : List (FT 3)} (h : fact1 c o = some f) : f.length ≤ 1 := by
  unfold fact1 at h
  split at h
  · split at h
    · cases h
    · split at h
      · injection h with h; subst h; simp
      · split at h
        · cases h
        · injection h with h; subst h; simp
  · injection h with h; subst h; simp

theorem leaf_is {n : Nat} {R : Nat → Prop} {w : World} {k : Int} {r : Lin} {A : Option Addr} {cap : Nat} (hk : I64 k) (hr : I64 r.1) (h : Monos R w A r.2 cap) : (formV (n + 1)) R w [.int .i64 k, .int .i64 r.1, .slice A r.2.length cap, .slice none 0 0] (leafF n k r) :=
  ⟨A, cap, none, 0, rfl, hk, hr, h, by rw [formV_sz]; exact Sl.empty⟩
theorem sl_one {n : Nat} {R : Nat → Prop} {w : World} {b : Nat} {cs : List Value} {x : FT n} {t : TypeId} (hb : w.heap[b]? = some (.cells cs.toArray t (0, 0))) (hR : R b) (hx : (formV n) R w cs x) : Sl (formV n).mem (formV n).sz R w (some ⟨b, 0, none⟩) [x] 1 := by
  refine ⟨Nat.le_refl _, by decide, ?_, (fun h => by cases h), fun i hi => ?_⟩
  · show 1 * (formV n).bytes ≤ big
    rw [formV_bytes]; decide
  match i, hi with
  | 0, _ =>
    refine ⟨b, 0, rfl, hR, cs, (formV_good n).len hx, fun j u hj => ?_, hx⟩
    simp only [Nat.zero_mul, Nat.zero_add]
    simp [World.cell?, hb]
    exact hj
theorem not_is {n : Nat} {R : Nat → Prop} {w : World} {r : Lin} {b : Nat} {cs : List Value} {t : TypeId} (hb : w.heap[b]? = some (.cells cs.toArray t (0, 0))) (hR : R b) (hx : (formV (n + 1)) R w cs (leafF n 3 r)) : (formV (n + 2)) R w [.int .i64 4, .int .i64 0, .slice none 0 0, .slice (some ⟨b, 0, none⟩) 1 1] (notF n r) :=
  ⟨none, 0, some ⟨b, 0, none⟩, 1, rfl, I64.of (show -9000000000000000000 ≤ (4 : Int) by decide) (show (4 : Int) ≤ 9000000000000000000 by decide), I64.of (show -9000000000000000000 ≤ (0 : Int) by decide) (show (0 : Int) ≤ 9000000000000000000 by decide), Sl.empty, sl_one hb hR hx⟩
theorem or_is {R : Nat → Prop} {w : World} {r s : Lin} {b : Nat} {v0 v1 v2 v3 u0 u1 u2 u3 : Value} {t : TypeId} (hb : w.heap[b]? = some (.cells #[v0, v1, v2, v3, u0, u1, u2, u3] t (0, 0))) (hR : R b) (hx : (formV 2) R w [v0, v1, v2, v3] (notF 0 r)) (hy : (formV 2) R w [u0, u1, u2, u3] (leafF 1 3 s)) :
    (formV 3) R w [.int .i64 6, .int .i64 0, .slice none 0 0, .slice (some ⟨b, 0, none⟩) 2 2] (orF r s) := by
  refine ⟨none, 0, some ⟨b, 0, none⟩, 2, rfl, I64.of (show -9000000000000000000 ≤ (6 : Int) by decide) (show (6 : Int) ≤ 9000000000000000000 by decide), I64.of (show -9000000000000000000 ≤ (0 : Int) by decide) (show (0 : Int) ≤ 9000000000000000000 by decide), Sl.empty, ?_⟩
  refine ⟨Nat.le_refl _, by decide, show 2 * 64 ≤ big by decide, (fun h => by cases h), fun i hi => ?_⟩
  match i, hi with
  | 0, _ =>
    refine ⟨b, 0, rfl, hR, [v0, v1, v2, v3], rfl, fun j u hj => ?_, hx⟩
    match j, hj with
    | 0, hj => simp at hj; subst hj; simp [World.cell?, hb]
    | 1, hj => simp at hj; subst hj; simp [World.cell?, hb]
    | 2, hj => simp at hj; subst hj; simp [World.cell?, hb]
    | 3, hj => simp at hj; subst hj; simp [World.cell?, hb]
  | 1, _ =>
    refine ⟨b, 0, rfl, hR, [u0, u1, u2, u3], rfl, fun j u hj => ?_, hy⟩
    match j, hj with
    | 0, hj => simp at hj; subst hj; simp [World.cell?, hb, formV, nodeV]
    | 1, hj => simp at hj; subst hj; simp [World.cell?, hb, formV, nodeV]
    | 2, hj => simp at hj; subst hj; simp [World.cell?, hb, formV, nodeV]
    | 3, hj => simp at hj; subst hj; simp [World.cell?, hb, formV, nodeV]
theorem ownL_one {α : Type} {V : ElV α} {e : TypeId} {M R : Nat → Prop} {w : World} {g : Nat} {cs : List Value} {x : α} (hg : w.heap[g]? = some (.cells cs.toArray e (0, 0))) (hM : M g) (hlen : cs.length = V.sz) (hx : V (fun k => R k ∧ k ≠ g) w cs x) (G : V.Good) :
    OwnL V e M R w (.slice (some ⟨g, 0, none⟩) 1 1) [x] := by
  refine ⟨[cs], ⟨by simp [hlen], .inr ⟨g, 0, 1, cs.toArray, rfl, hM, hg, Nat.le_refl _, by decide, by simp [hlen], fun j u hj => ?_⟩⟩, rfl, fun i hi hi' => ?_⟩
  · simp at hj ⊢
    exact hj
  · match i, hi with
    | 0, _ => exact G.mono hx (fun k _ hk => ⟨hk.1, fun e => by simp [Value.ownBlock] at e; exact hk.2 e.symm⟩)
theorem formsTy3 : SliceTy Tryz.prog 41 49 (formV 3).sz (formV 3).bytes (.agg #[.int .i64 0, .int .i64 0, .slice none 0 0, .slice none 0 0]) := ⟨Tryz.underlying41, by kernel_rfl, rfl, by decide, by decide⟩

/-- A call returns formulas in new memory, and what is amiss. -/
def FsRet (w : World) (r : List (FT 3) × Int) (e : Ending) (w' : World) : Prop :=
  ∃ A cap, e = .returned (.tuple #[.slice A r.1.length cap, errV 83 r.2]) ∧ Forms (fun k => w.heap.size ≤ k) w' A r.1 cap ∧ Chg No w w'
theorem FsRet.none {w w' : World} {c : Int} (h : Chg No w w') : FsRet w ([], c) (.returned (.tuple #[.slice none 0 0, errV 83 c])) w' := ⟨Option.none, 0, rfl, Sl.empty, h⟩
/-- Of sound forms. -/
theorem sameR_sound {a b : Lin} (h1 : linB a.1 a.2 = true) (h2 : linB b.1 b.2 = true) : sameR a b = (match sumO a b (-1) with | none => (0, (0, []), 3) | some r => (3, r, 0)) := by
  unfold sameR
  rw [h1, h2]
  rfl
set_option maxRecDepth 100000 in
set_option maxHeartbeats 16000000 in
theorem facts_any {R R' : Nat → Prop} {w : World} {A : Option Addr} {l : List Chunk} {cap : Nat} {cs : List Value} {c : Chunk} (hl : Chunks R w A l cap) (hc : chV R' w cs c) (hlen : l.length ≤ 60)
    (hN : -1099511627776 ≤ c.2.2.1 ∧ c.2.2.1 ≤ 1099511627776) (hNs : ∀ o ∈ l, -1099511627776 ≤ o.2.2.1 ∧ o.2.2.1 ≤ 1099511627776) :
    Calls Tryz.prog 11 #[.slice A l.length cap, .agg cs.toArray] w (FsRet w (factsR l c)) := by
  have HSC := Lib.hid (fun W (hW : Chg No w W) => sound_any (chV_good.no hc hW))
  have HSL := Lib.hid (fun W (hW : Chg No w W) => sounds_any (hl.no chE_good hW))
  have HL := Lib.hid (fun W (hW : Chg No w W) => hl.no chE_good hW)
  obtain ⟨cA, cc, cB, cd, rfl, g1, g2, g3, g4, g5, g6⟩ := ch_cells hc
  have HMA := Lib.hid (fun W (hW : Chg No w W) => g2.no monoE_good hW)
  have HMB := Lib.hid (fun W (hW : Chg No w W) => g6.no monoE_good hW)
  obtain ⟨ans, hans⟩ : ∃ ans, ans = factsR l c := ⟨_, rfl⟩
  rw [← hans]
  unfold factsR at hans
  have HAN := Lib.hid hans
  have HNS := Lib.hid hNs
  obtain ⟨hN1, hN2⟩ := hN
  clear hans hl hc hNs g2 g6
  obtain ⟨⟨aC, aT⟩, fd, num, vC, vT⟩ := c
  simp only at HSC HSL HMA HMB HAN g1 g3 g4 g5 hN1 hN2 ⊢
  obtain ⟨w3, hw3⟩ : ∃ w3, w3 = w.alloc (.cells #[.int .i64 aC, .slice cA aT.length cc, .string fd, .int .i64 num, .int .i64 vC, .slice cB vT.length cd] 34) := ⟨_, rfl⟩
  have h3 : Hid (Chg No w w3 ∧ w3.heap[w.heap.size]? = some (.cells #[.int .i64 aC, .slice cA aT.length cc, .string fd, .int .i64 num, .int .i64 vC, .slice cB vT.length cd] 34 (0, 0))) := by
    rw [hw3]; exact ⟨(Chg.refl _ _).alloc _, heap_alloc_new _ _⟩
  have HO : Hid (∀ W, Chg No w3 W → W.cell? ⟨w.heap.size, 0, none⟩ = some (.int .i64 aC) ∧ W.cell? ⟨w.heap.size, 1, none⟩ = some (.slice cA aT.length cc) ∧ W.cell? ⟨w.heap.size, 2, none⟩ = some (.string fd) ∧ W.cell? ⟨w.heap.size, 3, none⟩ = some (.int .i64 num) ∧ W.cell? ⟨w.heap.size, 4, none⟩ = some (.int .i64 vC) ∧ W.cell? ⟨w.heap.size, 5, none⟩ = some (.slice cB vT.length cd)) := fun W hW => obj_6 (hW.obj h3.out.2 id)
  obtain ⟨p0, p1, p2, p3, p4, p5⟩ := HO.out w3 (Chg.refl _ _)
  cases hq1 : chB ((aC, aT), fd, num, vC, vT)
  · obtain rfl : ans = ([], 5) := by rw [HAN.out, hq1]; rfl
    rw [hq1] at HSC
    clear HAN hq1 HSL HL HMA HMB
    go_enter Tryz.func11, Tryz.ntmps11
    go_upto_region 1 with fail
    rw [← hw3]
    clear hw3
    go_wp2_with (go_at_call 24; refine (HSC.out _ h3.out.1).mono ?_; rintro e w4 ⟨rfl, h4⟩)
    go_ret2
    have h := FsRet.none (c := 5) (h3.out.1.thenNo h4)
    rw [errV_of _ (by decide)] at h
    exact h
  rw [hq1] at HSC
  cases hq2 : l.all chB
  · obtain rfl : ans = ([], 5) := by rw [HAN.out, hq1, hq2]; rfl
    rw [hq2] at HSL
    clear HAN hq1 hq2 HL HMA HMB
    go_enter Tryz.func11, Tryz.ntmps11
    go_upto_region 1 with fail
    rw [← hw3]
    clear hw3
    go_wp2_with (first
      | (go_at_call 24; refine (HSC.out _ h3.out.1).mono ?_; rintro e w4 ⟨rfl, h4⟩; have H4 := Lib.hid (h3.out.1.thenNo h4); clear h4)
      | (go_at_call 25; refine (HSL.out _ H4.out).mono ?_; rintro e w5 ⟨rfl, h5⟩))
    go_ret2
    have h := FsRet.none (c := 5) (H4.out.thenNo h5)
    rw [errV_of _ (by decide)] at h
    exact h
  rw [hq2] at HSL
  have HQA : Hid (linB aC aT = true ∧ linB vC vT = true) := by
    unfold chB at hq1
    rw [Bool.and_eq_true] at hq1
    exact hq1
  have HQL : Hid (∀ i (hi : i < l.length), linB l[i].1.1 l[i].1.2 = true ∧ linB l[i].2.2.2.1 l[i].2.2.2.2 = true) := fun i hi => by
    have := List.all_eq_true.1 hq2 _ (List.getElem_mem hi)
    unfold chB at this
    rw [Bool.and_eq_true] at this
    exact this
  rw [hq1, hq2] at HAN
  clear hq1 hq2
  have HS1 := Lib.hid (fun W (hW : Chg No w W) => csum_any (w := W) (1, []) (aC, aT) (A := none) (cap := 0) (R := No) Sl.empty (HMA.out W hW) (-1))
  cases hx : sumO (1, []) (aC, aT) (-1) with
  | none =>
    obtain rfl : ans = ([], 3) := by rw [HAN.out, hx]; rfl
    rw [hx] at HS1
    unfold LinRet at HS1
    rw [show optE (none : Option Lin) = 3 from rfl, show optL none = (0, []) from rfl, errV_of _ (by decide)] at HS1
    clear HAN hx HL HMA HMB HQA HQL
    go_enter Tryz.func11, Tryz.ntmps11
    go_upto_region 1 with fail
    rw [← hw3]
    clear hw3
    go_wp2_with (first
      | (go_at_call 24; refine (HSC.out _ h3.out.1).mono ?_; rintro e w4 ⟨rfl, h4⟩; have H4 := Lib.hid h4; clear h4)
      | (go_at_call 25; refine (HSL.out _ (h3.out.1.thenNo H4.out)).mono ?_; rintro e w5 ⟨rfl, h5⟩; have H5 := Lib.hid (H4.out.thenNo h5); clear h5 p0 p1 p2 p3 p4 p5; obtain ⟨p0, p1, p2, p3, p4, p5⟩ := HO.out w5 H5.out)
      | (go_at_call 27; refine (HS1.out _ (h3.out.1.thenNo H5.out)).mono ?_; rintro e w6 ⟨A6, c6, rfl, g7, h6⟩; have H6 := Lib.hid (H5.out.thenNo h6); clear g7 h6))
    go_ret2
    have h := FsRet.none (c := 3) (h3.out.1.thenNo (H6.out.alloc (.cells #[.int .i64 0, .slice A6 0 c6] 32)))
    rw [errV_of _ (by decide)] at h
    exact h
  | some x =>
    obtain ⟨c0, hc0⟩ : ∃ c0 : Chunk, c0 = ((aC, aT), fd, num, vC, vT) := ⟨_, rfl⟩
    rw [← hc0] at HAN
    have HC0 := Lib.hid hc0
    clear hc0
    have HXS := Lib.hid hx
    have HANn : Hid (factsL c0 l = none → ans = ([], 3)) := fun h => by rw [HAN.out, hx, h]; rfl
    have HANs : Hid (∀ d, factsL c0 l = some d → ans = (leafF 2 2 x :: d, 0)) := fun d h => by rw [HAN.out, hx, h]; rfl
    have HST : Hid (∀ i (hi : i < l.length) D, factsL c0 l = (factsL c0 (l.drop i)).map (D ++ ·) → (∀ f, fact1 c0 l[i] = some f → factsL c0 l = (factsL c0 (l.drop (i + 1))).map ((D ++ f) ++ ·)) ∧ (fact1 c0 l[i] = none → factsL c0 l = none)) := fun i hi D h => by
      rw [factsL_step hi] at h
      refine ⟨fun f hf => ?_, fun hf => ?_⟩
      · rw [hf] at h
        rw [h]
        cases factsL c0 (l.drop (i + 1)) <;> simp
      · rw [hf] at h
        rw [h]; rfl
    rw [hx] at HS1
    unfold LinRet at HS1
    rw [show optE (some x) = 0 from rfl, show optL (some x) = x from rfl, errV_zero] at HS1
    clear HAN hx
    go_enter Tryz.func11, Tryz.ntmps11
    go_upto_region 1 with fail
    rw [← hw3]
    clear hw3
    go_upto_region 4 with (first
      | (go_at_call 24; refine (HSC.out _ h3.out.1).mono ?_; rintro e w4 ⟨rfl, h4⟩; have H4 := Lib.hid h4; clear h4)
      | (go_at_call 25; refine (HSL.out _ (h3.out.1.thenNo H4.out)).mono ?_; rintro e w5 ⟨rfl, h5⟩; have H5 := Lib.hid (H4.out.thenNo h5); clear h5 p0 p1 p2 p3 p4 p5; obtain ⟨p0, p1, p2, p3, p4, p5⟩ := HO.out w5 H5.out)
      | (go_at_call 27; refine (HS1.out _ (h3.out.1.thenNo H5.out)).mono ?_; rintro e w6 ⟨A6, c6, rfl, g7, h6⟩; have H6 := Lib.hid (H5.out.thenNo h6); have G6 := Lib.hid (g7.mono monoE_good (R' := fun k => w3.heap.size ≤ k) (fun k _ hk => Nat.le_trans H5.out.size hk)); clear g7 h6))
    obtain ⟨w7, hw7⟩ : ∃ w7, w7 = w6.alloc (.cells #[.int .i64 x.1, .slice A6 x.2.length c6] 32) := ⟨_, rfl⟩
    rw [← hw7]
    have H7 : Hid (Chg No w3 w7 ∧ Monos (fun k => w3.heap.size ≤ k) w7 A6 x.2 c6 ∧ w7.heap[w6.heap.size]? = some (.cells #[.int .i64 x.1, .slice A6 x.2.length c6] 32 (0, 0))) := by
      rw [hw7]; exact ⟨H6.out.alloc _, G6.out.no monoE_good ((Chg.refl _ _).alloc _), heap_alloc_new _ _⟩
    have hxI : I64 x.1 := by
      have := coefB_le (linB_sound (sumO_sound (a := (1, [])) (b := (aC, aT)) (n := -1) HXS.out)).1
      exact I64.of (by omega) (by omega)
    have HXI := Lib.hid hxI
    clear hw7 p0 p1 p2 p3 p4 p5 hxI HXS
    obtain ⟨y0, y1, _, _⟩ := obj_2 H7.out.2.2
    go_upto_region 7 with fail
    obtain ⟨w8, hw8⟩ : ∃ w8, w8 = w7.alloc (.cells #[.int .i64 2, .int .i64 x.1, .slice A6 x.2.length c6, .slice none 0 0] 49) := ⟨_, rfl⟩
    rw [← hw8]
    obtain ⟨g8, hg8⟩ : ∃ g8, g8 = w7.heap.size := ⟨_, rfl⟩
    rw [← hg8]
    have H8 : Hid (Chg No w3 w8 ∧ OwnL (formV 3) 49 (fun k => w3.heap.size ≤ k) (fun k => w3.heap.size ≤ k) w8 (.slice (some ⟨g8, 0, none⟩) 1 1) [leafF 2 2 x]) := by
      rw [hw8, hg8]
      have ha : Chg No w7 (w7.alloc (.cells #[.int .i64 2, .int .i64 x.1, .slice A6 x.2.length c6, .slice none 0 0] 49)) := (Chg.refl _ _).alloc _
      refine ⟨H7.out.1.thenNo ha, ownL_one (cs := [.int .i64 2, .int .i64 x.1, .slice A6 x.2.length c6, .slice none 0 0]) (heap_alloc_new _ _) H7.out.1.size rfl ?_ (formV_good 3)⟩
      exact leaf_is (I64.of (by decide) (by decide)) HXI.out ((H7.out.2.1.mono monoE_good (R' := fun k => w3.heap.size ≤ k ∧ k ≠ w7.heap.size) (fun k hk h => ⟨h, by omega⟩)).no monoE_good ha)
    clear hw8 hg8 y0 y1 HS1 HSC HSL H7 H6 H5 H4 G6 HXI
    have hbl : (l.length : Int) ≤ 60 := by omega
    go_wp2_with fail
    go_loopw [8, 38] (fun s8 s38 wr => ∃ (i : Nat) (v : Value), v = s8 ∧ s38 = .int .i64 i ∧ i ≤ l.length ∧ Hid (∃ D : List (FT 3), D.length ≤ i ∧ OwnL (formV 3) 49 (fun k => w3.heap.size ≤ k) (fun k => w3.heap.size ≤ k) wr v (leafF 2 2 x :: D) ∧ Chg No w3 wr ∧ factsL c0 l = (factsL c0 (l.drop i)).map (D ++ ·))) (fun _ s38 _ => l.length - (intOf s38).toNat)
    case atStart => exact ⟨0, _, rfl, rfl, Nat.zero_le _, [], Nat.le_refl _, H8.out.2, H8.out.1, by rw [List.drop_zero]; cases factsL c0 l <;> simp⟩
    case round =>
      obtain ⟨i, v, rfl, rfl, gi, hst⟩ := hrel
      clear H8
      obtain ⟨D, hD, hown, hch, heq⟩ := hst.out
      clear hst
      by_cases hlt : i < l.length
      · obtain ⟨b, o, B1, d1, C1, e1, rfl, hk, x0, x1, x2, x3, x4, x5⟩ := chs_at (HL.out wr (h3.out.1.thenNo hch)) i hlt
        obtain ⟨hq1, hq2⟩ := HQL.out i hlt
        obtain ⟨n1, n2⟩ := HNS.out _ (List.getElem_mem hlt)
        obtain ⟨hs1, hs2⟩ := HST.out i hlt D heq
        have i0 : (0 : Int) ≤ (i : Int) := by omega
        have i1 : (i : Int) < (l.length : Int) := by omega
        generalize l[i] = ob at *
        obtain ⟨⟨oC, oT⟩, ofd, on, ovC, ovT⟩ := ob
        simp only at hk x0 x1 x2 x3 x4 x5 hq1 hq2 n1 n2
        obtain ⟨m1, m2, m3, m4, m5, m6⟩ := hk
        have HOW := Lib.hid hown
        have HCH := Lib.hid hch
        have HS1 := Lib.hid hs1
        have HS2 := Lib.hid hs2
        have HQ := Lib.hid (And.intro hq1 hq2)
        have HM := Lib.hid (And.intro m2 m6)
        have hD2 : D.length ≤ 60 := by omega
        clear hown hch hs1 hs2 heq hq1 hq2 m1 m2 m3 m4 m5 m6
        go_upto_region 10 with fail
        obtain ⟨w5, hw5⟩ : ∃ w5, w5 = wr.alloc (.cells #[.int .i64 oC, .slice B1 oT.length d1, .string ofd, .int .i64 on, .int .i64 ovC, .slice C1 ovT.length e1] 34) := ⟨_, rfl⟩
        rw [← hw5]
        obtain ⟨b5, hb5⟩ : ∃ b5, b5 = wr.heap.size := ⟨_, rfl⟩
        rw [← hb5]
        have C5 : Hid (Chg No wr w5 ∧ w5.heap[b5]? = some (.cells #[.int .i64 oC, .slice B1 oT.length d1, .string ofd, .int .i64 on, .int .i64 ovC, .slice C1 ovT.length e1] 34 (0, 0))) := by
          rw [hw5, hb5]; exact ⟨(Chg.refl _ _).alloc _, heap_alloc_new _ _⟩
        have HB5 : Hid (wr.heap.size ≤ b5) := by unfold Hid; omega
        clear hw5 hb5 x0 x1 x2 x3 x4 x5
        obtain ⟨p0, p1, p2, p3, p4, p5⟩ := HO.out w5 (HCH.out.thenNo C5.out.1)
        obtain ⟨x0, x1, x2, x3, x4, x5⟩ := obj_6 C5.out.2
        by_cases hf : ofd.toList = fd.toList
        rotate_left
        · have hf1 : (ofd.toList == fd.toList) = false := by simpa using hf
          have HE := Lib.hid (HS1.out [] (by rw [HC0.out]; unfold fact1; exact if_neg hf))
          rw [List.append_nil] at HE
          clear hf
          go_wp2_with fail
          go_roundw
          case rel => exact ⟨i + 1, _, rfl, by go_num, hlt, D, by omega, HOW.out.no (formV_good 3) C5.out.1, HCH.out.thenNo C5.out.1, HE.out⟩
          case measure => simp [intOf]; omega
        have hf1 : (ofd.toList == fd.toList) = true := by simpa using hf
        have HSM := Lib.hid (csame_any (w := w5) (oC, oT) (aC, aT) (HM.out.1.no monoE_good C5.out.1) (HMA.out w5 (h3.out.1.thenNo (HCH.out.thenNo C5.out.1))))
        rw [sameR_sound (a := (oC, oT)) (b := (aC, aT)) HQ.out.1 HQA.out.1] at HSM
        unfold SRet at HSM
        cases hr : sumO (oC, oT) (aC, aT) (-1) with
        | none =>
          have HE := Lib.hid (HANn.out (HS2.out (by rw [HC0.out]; unfold fact1; rw [if_pos hf]; show (match sumO (oC, oT) (aC, aT) (-1) with | none => none | some r => _) = none; rw [hr])))
          rw [hr] at HSM
          rw [errV_of _ (show (3 : Int) ≠ 0 by decide)] at HSM
          clear hr hf
          go_wp2_with (go_at_call 28; refine HSM.out.mono ?_; rintro e w6 ⟨A6, c6, rfl, _, h6⟩; have H6 := Lib.hid ((h3.out.1.thenNo (HCH.out.thenNo C5.out.1)).thenNo h6); clear h6)
          go_ret2
          have h := FsRet.none (c := 3) (H6.out.alloc (.cells #[.int .i64 0, .int .i64 0, .slice A6 0 c6, .slice none 0 0] 49))
          rw [errV_of _ (by decide), ← HE.out] at h
          exact h
        | some r =>
          rw [hr] at HSM
          rw [errV_zero] at HSM
          have hrI : I64 r.1 := by
            have := coefB_le (linB_sound (sumO_sound hr)).1
            exact I64.of (by omega) (by omega)
          have HF1 : Hid (fact1 c0 ((oC, oT), ofd, on, ovC, ovT) = if 64 < on + num then some [notF 1 r] else match sumO (ovC, ovT) (vC, vT) (-1) with | none => none | some s => some [orF r s]) := by
            unfold Hid
            rw [HC0.out]; unfold fact1; rw [if_pos hf]
            show (match sumO (oC, oT) (aC, aT) (-1) with | none => none | some r => _) = _
            rw [hr]
          have HRI := Lib.hid hrI
          clear hf hr hrI
          have HVR : Hid (∀ q, v.ownBlock = some q → w3.heap.size ≤ q ∧ q < wr.heap.size) := fun q hq => HOW.out.mine q hq
          go_upto_region 12 with (go_at_call 28; refine HSM.out.mono ?_; rintro e w6 ⟨A6, c6, rfl, g6, h6⟩; have G6 := Lib.hid g6; have H6 := Lib.hid h6; clear g6 h6)
          obtain ⟨w7, hw7⟩ : ∃ w7, w7 = w6.alloc (.cells #[.int .i64 3, .int .i64 r.1, .slice A6 r.2.length c6, .slice none 0 0] 49) := ⟨_, rfl⟩
          rw [← hw7]
          obtain ⟨b7, hb7⟩ : ∃ b7, b7 = w6.heap.size := ⟨_, rfl⟩
          rw [← hb7]
          have C7 : Hid (Chg No w5 w7 ∧ w7.heap[b7]? = some (.cells #[.int .i64 3, .int .i64 r.1, .slice A6 r.2.length c6, .slice none 0 0] 49 (0, 0)) ∧ Monos (fun k => w5.heap.size ≤ k) w7 A6 r.2 c6) := by
            rw [hw7, hb7]; exact ⟨H6.out.alloc _, heap_alloc_new _ _, G6.out.no monoE_good ((Chg.refl _ _).alloc _)⟩
          clear hw7 hb7 p0 p1 p2 p3 p4 p5 x0 x1 x2 x3 x4 x5 H6 G6
          obtain ⟨⟨y0, y1, y2, y3⟩, _⟩ := obj_4f C7.out.2.1
          obtain ⟨p0, p1, p2, p3, p4, p5⟩ := HO.out w7 (HCH.out.thenNo (C5.out.1.thenNo C7.out.1))
          obtain ⟨x0, x1, x2, x3, x4, x5⟩ := obj_6 (C7.out.1.obj C5.out.2 id)
          go_upto_region 15 with fail
          obtain ⟨w8, hw8⟩ : ∃ w8, w8 = (w7.alloc (.cells #[.int .i64 3, .int .i64 r.1, .slice A6 r.2.length c6, .slice none 0 0] 49)).alloc (.cells #[.int .i64 4, .int .i64 0, .slice none 0 0, .slice (some ⟨w7.heap.size, 0, none⟩) 1 1] 49) := ⟨_, rfl⟩
          rw [← hw8]
          obtain ⟨b8, hb8⟩ : ∃ b8, b8 = w7.heap.size := ⟨_, rfl⟩
          rw [← hb8]
          have C8 : Hid (Chg No w5 w8 ∧ w8.heap[b8]? = some (.cells #[.int .i64 3, .int .i64 r.1, .slice A6 r.2.length c6, .slice none 0 0] 49 (0, 0)) ∧ w8.heap[b8 + 1]? = some (.cells #[.int .i64 4, .int .i64 0, .slice none 0 0, .slice (some ⟨b8, 0, none⟩) 1 1] 49 (0, 0)) ∧ Monos (fun k => w5.heap.size ≤ k) w8 A6 r.2 c6 ∧ w5.heap.size ≤ b8) := by
            rw [hw8, hb8]
            have ha : Chg No w7 ((w7.alloc (.cells #[.int .i64 3, .int .i64 r.1, .slice A6 r.2.length c6, .slice none 0 0] 49)).alloc (.cells #[.int .i64 4, .int .i64 0, .slice none 0 0, .slice (some ⟨w7.heap.size, 0, none⟩) 1 1] 49)) := ((Chg.refl _ _).alloc _).alloc _
            exact ⟨C7.out.1.thenNo ha, at_old (heap_alloc_new _ _), at_new (by simp), C7.out.2.2.no monoE_good ha, C7.out.1.size⟩
          clear hw8 hb8 p0 p1 p2 p3 p4 p5 x0 x1 x2 x3 x4 x5 y0 y1 y2 y3
          obtain ⟨⟨y0, y1, y2, y3⟩, _⟩ := obj_4f C8.out.2.2.1
          obtain ⟨p0, p1, p2, p3, p4, p5⟩ := HO.out w8 (HCH.out.thenNo (C5.out.1.thenNo C8.out.1))
          obtain ⟨x0, x1, x2, x3, x4, x5⟩ := obj_6 (C8.out.1.obj C5.out.2 id)
          have HZR : Hid (w3.heap.size ≤ wr.heap.size ∧ wr.heap.size < w5.heap.size) := ⟨HCH.out.size, by
            have := (Array.getElem?_eq_some_iff.1 C5.out.2).1
            have h0 := C5.out.1.size
            have hb : wr.heap.size ≤ b5 := HB5.out
            omega⟩
          by_cases hgt : 64 < on + num
          · have HE := Lib.hid (HS1.out [notF 1 r] (by rw [HF1.out, if_pos hgt]))
            have HOWN : Hid (OwnL (formV 3) 49 (fun k => w3.heap.size ≤ k) (fun k => w3.heap.size ≤ k) w8 v (leafF 2 2 x :: D)) := HOW.out.no (formV_good 3) (C5.out.1.thenNo C8.out.1)
            have HZ : Hid (∀ q, w8.heap.size ≤ q → w3.heap.size ≤ q) := fun q hq => by have := C8.out.1.size; have := C5.out.1.size; have := HZR.out.1; omega
            have HXV : Hid ((formV 3) (fun k => w3.heap.size ≤ k ∧ v.ownBlock ≠ some k) w8 [.int .i64 4, .int .i64 0, .slice none 0 0, .slice (some ⟨b8, 0, none⟩) 1 1] (notF 1 r)) := by
              have hz := HZR.out
              have far : ∀ k, w5.heap.size ≤ k → w3.heap.size ≤ k ∧ v.ownBlock ≠ some k := fun k hk => ⟨by omega, fun e => by have := (HVR.out k e).2; omega⟩
              exact not_is (cs := [.int .i64 3, .int .i64 r.1, .slice A6 r.2.length c6, .slice none 0 0]) C8.out.2.1 (far _ C8.out.2.2.2.2) (leaf_is (I64.of (by decide) (by decide)) HRI.out (C8.out.2.2.2.1.mono monoE_good (fun k _ hk => far k hk)))
            have HNX : Hid (∀ w12, Chg (fun q => v.ownBlock = some q) w8 w12 → Chg No w3 w12) := fun w12 g => chgpast2 (HCH.out.thenNo (C5.out.1.thenNo C8.out.1)) g (fun k hk => (HVR.out k hk).1)
            go_wp2_with (at_builtin; refine wpList_pushLn (formV_good 3) formsTy3 rfl (.tmp 67) (.tmp 69) rfl (M := fun k => w3.heap.size ≤ k) (R := fun k => w3.heap.size ≤ k) (w := w8) (fun q hq => HZ.out q hq) HOWN.out rfl (cs := [.int .i64 4, .int .i64 0, .slice none 0 0, .slice (some ⟨b8, 0, none⟩) 1 1]) (x := notF 1 r) HXV.out (by simp [Value.oneCell']) (by simp) rfl (show ((leafF 2 2 x :: D).length + 1) * 64 ≤ 140737488355328 by simp only [List.length_cons]; omega) ?_; intro A2 cap2 w12 g1 g2; have G1 := Lib.hid g1; have G2 := Lib.hid g2; clear g1 g2)
            go_roundw
            case rel => exact ⟨i + 1, _, rfl, by go_num, hlt, D ++ [notF 1 r], by simp; omega, G1.out, HNX.out _ G2.out, HE.out⟩
            case measure => simp [intOf]; omega
          have HSV := Lib.hid (csame_any (w := w8) (ovC, ovT) (vC, vT) (HM.out.2.no monoE_good (C5.out.1.thenNo C8.out.1)) (HMB.out w8 (h3.out.1.thenNo (HCH.out.thenNo (C5.out.1.thenNo C8.out.1)))))
          rw [sameR_sound (a := (ovC, ovT)) (b := (vC, vT)) HQ.out.2 HQA.out.2] at HSV
          unfold SRet at HSV
          have hle : ¬ (64 : Int) < on + num := hgt
          cases hs : sumO (ovC, ovT) (vC, vT) (-1) with
          | none =>
            have HE := Lib.hid (HANn.out (HS2.out (by rw [HF1.out, if_neg hgt, hs])))
            rw [hs] at HSV
            rw [errV_of _ (show (3 : Int) ≠ 0 by decide)] at HSV
            clear hs hgt
            go_wp2_with (go_at_call 28; refine HSV.out.mono ?_; rintro e w9 ⟨A9, c9, rfl, _, h9⟩; have H9 := Lib.hid ((h3.out.1.thenNo (HCH.out.thenNo (C5.out.1.thenNo C8.out.1))).thenNo h9); clear h9)
            go_ret2
            have h := FsRet.none (c := 3) (H9.out.alloc (.cells #[.int .i64 0, .int .i64 0, .slice A9 0 c9, .slice none 0 0] 49))
            rw [errV_of _ (by decide), ← HE.out] at h
            exact h
          | some s =>
            have HE := Lib.hid (HS1.out [orF r s] (by rw [HF1.out, if_neg hgt, hs]))
            rw [hs] at HSV
            rw [errV_zero] at HSV
            have hsI : I64 s.1 := by
              have := coefB_le (linB_sound (sumO_sound hs)).1
              exact I64.of (by omega) (by omega)
            have HSI := Lib.hid hsI
            clear hs hgt hsI
            go_upto_region 18 with (go_at_call 28; refine HSV.out.mono ?_; rintro e w9 ⟨A9, c9, rfl, g9, h9⟩; have G9 := Lib.hid g9; have H9 := Lib.hid h9; clear g9 h9)
            obtain ⟨w10, hw10⟩ : ∃ w10, w10 = w9.alloc (.cells #[.int .i64 3, .int .i64 s.1, .slice A9 s.2.length c9, .slice none 0 0] 49) := ⟨_, rfl⟩
            rw [← hw10]
            obtain ⟨b10, hb10⟩ : ∃ b10, b10 = w9.heap.size := ⟨_, rfl⟩
            rw [← hb10]
            have C10 : Hid (Chg No w8 w10 ∧ w10.heap[b10]? = some (.cells #[.int .i64 3, .int .i64 s.1, .slice A9 s.2.length c9, .slice none 0 0] 49 (0, 0)) ∧ Monos (fun k => w8.heap.size ≤ k) w10 A9 s.2 c9) := by
              rw [hw10, hb10]; exact ⟨H9.out.alloc _, heap_alloc_new _ _, G9.out.no monoE_good ((Chg.refl _ _).alloc _)⟩
            clear hw10 hb10 p0 p1 p2 p3 p4 p5 x0 x1 x2 x3 x4 x5 y0 y1 y2 y3 H9 G9
            obtain ⟨⟨y0, y1, y2, y3⟩, _⟩ := obj_4f (C10.out.1.obj C8.out.2.2.1 id)
            obtain ⟨⟨z0, z1, z2, z3⟩, _⟩ := obj_4f C10.out.2.1
            obtain ⟨w11, hw11⟩ : ∃ w11, w11 = w10.alloc (.cells #[.int .i64 4, .int .i64 0, .slice none 0 0, .slice (some ⟨b8, 0, none⟩) 1 1, .int .i64 3, .int .i64 s.1, .slice A9 s.2.length c9, .slice none 0 0] 49) := ⟨_, rfl⟩
            have H11 : Hid (Chg No w8 w11 ∧ w11.heap[w10.heap.size]? = some (.cells #[.int .i64 4, .int .i64 0, .slice none 0 0, .slice (some ⟨b8, 0, none⟩) 1 1, .int .i64 3, .int .i64 s.1, .slice A9 s.2.length c9, .slice none 0 0] 49 (0, 0)) ∧ Monos (fun k => w8.heap.size ≤ k) w11 A9 s.2 c9) := by
              rw [hw11]; exact ⟨C10.out.1.alloc _, heap_alloc_new _ _, C10.out.2.2.no monoE_good ((Chg.refl _ _).alloc _)⟩
            have HOWN : Hid (OwnL (formV 3) 49 (fun k => w3.heap.size ≤ k) (fun k => w3.heap.size ≤ k) w11 v (leafF 2 2 x :: D)) := HOW.out.no (formV_good 3) (C5.out.1.thenNo (C8.out.1.thenNo H11.out.1))
            have HZ : Hid (∀ q, w11.heap.size ≤ q → w3.heap.size ≤ q) := fun q hq => by have := H11.out.1.size; have := C8.out.1.size; have := C5.out.1.size; have := HZR.out.1; omega
            have HXV : Hid ((formV 3) (fun k => w3.heap.size ≤ k ∧ v.ownBlock ≠ some k) w11 [.int .i64 6, .int .i64 0, .slice none 0 0, .slice (some ⟨w10.heap.size, 0, none⟩) 2 2] (orF r s)) := by
              have hz := HZR.out
              have z8 := C8.out.1.size
              have z10 := C10.out.1.size
              have far : ∀ k, w5.heap.size ≤ k → w3.heap.size ≤ k ∧ v.ownBlock ≠ some k := fun k hk => ⟨by omega, fun e => by have := (HVR.out k e).2; omega⟩
              refine or_is H11.out.2.1 (far _ (by omega)) ?_ (leaf_is (I64.of (by decide) (by decide)) HSI.out (H11.out.2.2.mono monoE_good (fun k _ hk => far k (by omega))))
              exact not_is (cs := [.int .i64 3, .int .i64 r.1, .slice A6 r.2.length c6, .slice none 0 0]) (H11.out.1.obj C8.out.2.1 id) (far _ C8.out.2.2.2.2) (leaf_is (I64.of (by decide) (by decide)) HRI.out ((C8.out.2.2.2.1.no monoE_good H11.out.1).mono monoE_good (fun k _ hk => far k hk)))
            have HNX : Hid (∀ w12, Chg (fun q => v.ownBlock = some q) w11 w12 → Chg No w3 w12) := fun w12 g => chgpast2 (HCH.out.thenNo (C5.out.1.thenNo (C8.out.1.thenNo H11.out.1))) g (fun k hk => (HVR.out k hk).1)
            rw [hw11] at HOWN HZ HXV HNX
            clear hw11 H11
            go_wp2_with (at_builtin; refine wpList_pushLn (formV_good 3) formsTy3 rfl (.tmp 82) (.tmp 87) rfl (M := fun k => w3.heap.size ≤ k) (R := fun k => w3.heap.size ≤ k) (w := w10.alloc (.cells #[.int .i64 4, .int .i64 0, .slice none 0 0, .slice (some ⟨b8, 0, none⟩) 1 1, .int .i64 3, .int .i64 s.1, .slice A9 s.2.length c9, .slice none 0 0] 49)) (fun q hq => HZ.out q hq) HOWN.out rfl (cs := [.int .i64 6, .int .i64 0, .slice none 0 0, .slice (some ⟨w10.heap.size, 0, none⟩) 2 2]) (x := orF r s) HXV.out (by simp [Value.oneCell']) (by simp) rfl (show ((leafF 2 2 x :: D).length + 1) * 64 ≤ 140737488355328 by simp only [List.length_cons]; omega) ?_; intro A2 cap2 w12 g1 g2; have G1 := Lib.hid g1; have G2 := Lib.hid g2; clear g1 g2)
            go_roundw
            case rel => exact ⟨i + 1, _, rfl, by go_num, hlt, D ++ [orF r s], by simp; omega, G1.out, HNX.out _ G2.out, HE.out⟩
            case measure => simp [intOf]; omega
      · have hdr : l.drop i = [] := List.drop_eq_nil_of_le (by omega)
        have hfl : factsL c0 l = some D := by rw [heq, hdr]; simp [factsL]
        have HE := Lib.hid (HANs.out D hfl)
        obtain ⟨A2, cap2, rfl, hsl⟩ := hown.sl (formV_good 3) (by show (leafF 2 2 x :: D).length * 64 ≤ big; unfold big; simp only [List.length_cons]; omega)
        have hz := h3.out.1.size
        have HFIN : Hid (FsRet w ans (.returned (.tuple #[.slice A2 (leafF 2 2 x :: D).length cap2, .nilIface])) wr) := by
          rw [HE.out]
          refine ⟨A2, cap2, by rw [errV_zero], hsl.mono (formE_good 3) (fun k _ hk => ?_), h3.out.1.thenNo hch⟩
          rcases hk with hk | hk <;> exact Nat.le_trans hz hk
        obtain ⟨nn, hnn⟩ : ∃ nn, nn = (leafF 2 2 x :: D).length := ⟨_, rfl⟩
        rw [← hnn] at HFIN
        rw [← hnn]
        clear hnn hown hch heq hsl hfl hdr
        go_wp2_with fail
        go_ret2
        exact HFIN.out
end Go.Proofs.YtpmndblakmobdaaGreatDoor
/- ChL -/
namespace Go.Proofs.YtpmndblakmobdaaGreatDoor
open Go Go.RowKit

def numB (n : Int) : Bool := decide (n ≤ 1099511627776) && decide (-1099511627776 ≤ n)
theorem numB_le {n : Int} (h : numB n = true) : -1099511627776 ≤ n ∧ n ≤ 1099511627776 := by unfold numB at h; simp at h; omega
def lightB (l : List Chunk) : Bool := decide (l.length ≤ 60) && l.all fun o => numB o.2.2.1

set_option maxRecDepth 100000 in
set_option maxHeartbeats 1000000 in
theorem light20_any {R : Nat → Prop} {w : World} {A : Option Addr} {l : List Chunk} {cap : Nat} (hl : Chunks R w A l cap) :
    Calls Tryz.prog 6 #[.slice A l.length cap] w fun e w' => e = .returned (.bool (lightB l)) ∧ w = w' := by
  have hb := hl.big
  unfold big at hb
  obtain ⟨q, hq⟩ : ∃ q, q = lightB l := ⟨_, rfl⟩
  rw [← hq]
  have HQ := Lib.hid hq
  have HL := Lib.hid hl
  clear hl hq
  by_cases h60 : l.length ≤ 60
  · have h1 : (l.length : Int) ≤ 60 := by omega
    have h2 : decide ((60 : Int) < (l.length : Int)) = false := decide_eq_false (by omega)
    have HB : Hid (∀ i (hi : i < l.length), numB l[i].2.2.1 = false → q = false) := fun i hi h => by
      rw [HQ.out]; unfold lightB
      have : l.all (fun o => numB o.2.2.1) = false := by
        cases hh : l.all (fun o => numB o.2.2.1) with
        | false => rfl
        | true => have := List.all_eq_true.1 hh _ (List.getElem_mem hi); rw [this] at h; cases h
      rw [this, Bool.and_false]
    have HG : Hid ((∀ i (hi : i < l.length), numB l[i].2.2.1 = true) → q = true) := fun h => by
      rw [HQ.out]; unfold lightB
      rw [List.all_eq_true.2 (fun o ho => by obtain ⟨i, hi, rfl⟩ := List.getElem_of_mem ho; exact h i hi), decide_eq_true h60]; rfl
    clear HQ
    go_enter Tryz.func6, Tryz.ntmps6
    go_wp2
    go_loop [3] (fun s3 => ∃ i : Nat, s3 = .int .i64 i ∧ i ≤ l.length ∧ Hid (∀ j (h : j < l.length), j < i → numB l[j].2.2.1 = true)) (fun s3 => l.length - (intOf s3).toNat)
    case atStart => exact ⟨0, rfl, Nat.zero_le _, fun j h hk => absurd hk (by omega)⟩
    case round =>
      obtain ⟨i, rfl, gi, hall⟩ := hrel
      by_cases hlt : i < l.length
      · obtain ⟨b, o, B1, d1, C1, e1, rfl, hk, x0, x1, x2, x3, x4, x5⟩ := chs_at HL.out i hlt
        have i0 : (0 : Int) ≤ (i : Int) := by omega
        have i1 : (i : Int) < (l.length : Int) := by omega
        have HB1 : Hid (numB l[i].2.2.1 = false → q = false) := fun h => HB.out i hlt h
        have HNX : Hid (numB l[i].2.2.1 = true → ∀ j (h : j < l.length), j < i + 1 → numB l[j].2.2.1 = true) := fun hp j h hj => by
          rcases Nat.lt_or_ge j i with g | g
          · exact hall.out j h g
          · obtain rfl : j = i := by omega
            exact hp
        clear hk x0 x1 x2 x4 x5
        generalize l[i].2.2.1 = n at *
        by_cases hn1 : (1099511627776 : Int) < n
        · have HE := Lib.hid (HB1.out (by unfold numB; rw [decide_eq_false (by omega)]; rfl))
          clear HNX HB1
          go_wp2
          go_ret
          exact ⟨ret_bool HE.out.symm, rfl⟩
        by_cases hn2 : n < -1099511627776
        · have HE := Lib.hid (HB1.out (by unfold numB; rw [show decide (-1099511627776 ≤ n) = false from decide_eq_false (by omega), Bool.and_false]))
          clear HNX HB1
          go_wp2
          go_ret
          exact ⟨ret_bool HE.out.symm, rfl⟩
        · have HE := Lib.hid (HNX.out (by unfold numB; rw [show decide (-1099511627776 ≤ n) = true from decide_eq_true (by omega), decide_eq_true (show n ≤ 1099511627776 by omega)]; rfl))
          clear HNX HB1
          go_wp2
          go_round
          case rel => exact ⟨i + 1, by go_num, hlt, HE.out⟩
          case measure => simp [intOf]; omega
      · have HE := Lib.hid (HG.out (fun j h => hall.out j h (by omega)))
        go_wp2
        go_ret
        exact ⟨ret_bool HE.out.symm, rfl⟩
  · have h2 : decide ((60 : Int) < (l.length : Int)) = true := decide_eq_true (by omega)
    have HE : Hid (q = false) := by unfold Hid; rw [HQ.out]; unfold lightB; rw [decide_eq_false h60]; rfl
    clear HQ
    go_enter Tryz.func6, Tryz.ntmps6
    go_wp2
    go_ret
    exact ⟨ret_bool HE.out.symm, rfl⟩

end Go.Proofs.YtpmndblakmobdaaGreatDoor
