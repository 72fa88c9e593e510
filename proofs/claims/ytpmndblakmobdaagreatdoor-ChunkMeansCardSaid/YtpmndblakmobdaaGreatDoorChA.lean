/-
  Variables that are forms, in memory; chunk.fine.
-/
import Derived.Test.YtpmndblakmobdaaGreatDoorShK
import Derived.Test.YtpmndblakmobdaaGreatDoorTL
namespace Go.Proofs.YtpmndblakmobdaaGreatDoor
open Go Go.RowKit

abbrev Sym := ByteArray × Lin
def symV : ElV Sym := pairV strV linV 48 (by decide)
theorem symV_good : symV.Good := pairV_good strV_good linV_good _ _
abbrev Syms (R : Nat → Prop) (w : World) (A : Option Addr) (l : List Sym) (cap : Nat) : Prop := Sl symV.mem 3 R w A l cap
theorem symE_good : symV.mem.Good := symV_good.mem
theorem sym_cells {R : Nat → Prop} {w : World} {cs : List Value} {x : Sym} (h : symV R w cs x) : ∃ A cap, cs = [.string x.1, .int .i64 x.2.1, .slice A x.2.2.length cap] ∧ x.1.size ≤ maxLen ∧ I64 x.2.1 ∧ Monos R w A x.2.2 cap := by
  obtain ⟨c1, c2, rfl, _, ⟨rfl, h1⟩, h2⟩ := h
  obtain ⟨A, cap, rfl, h3, h4⟩ := lin_cells h2
  exact ⟨A, cap, rfl, h1, h3, h4⟩
theorem syms_at {R : Nat → Prop} {w : World} {A : Option Addr} {l : List Sym} {cap : Nat} (h : Syms R w A l cap) (i : Nat) (hi : i < l.length) :
    ∃ b o B c, A = some ⟨b, o, none⟩ ∧ I64 l[i].2.1 ∧ Monos R w B l[i].2.2 c ∧ w.cell? ⟨b, o + i * 3, none⟩ = some (.string l[i].1) ∧ w.cell? ⟨b, o + i * 3 + 1, none⟩ = some (.int .i64 l[i].2.1) ∧ w.cell? ⟨b, o + i * 3 + 2, none⟩ = some (.slice B l[i].2.2.length c) := by
  obtain ⟨b, o, cs, e, _, hv, hc⟩ := vmem_of (V := symV) rfl h i hi
  obtain ⟨B, c, rfl, _, h1, h2⟩ := sym_cells hv
  exact ⟨b, o, B, c, e, h1, h2, hc 0 _ rfl, hc 1 _ rfl, hc 2 _ rfl⟩
def symB (x : Sym) : Bool := linB x.2.1 x.2.2

theorem list_sym0 (cs : List Value) (h : cs.length = 3) : ∃ v0 v1 v2, cs = [v0, v1, v2] := by
  match cs, h with
  | [v0, v1, v2], _ => exact ⟨v0, v1, v2, rfl⟩
set_option maxHeartbeats 1000000 in
theorem indexFunc_sym0 {α : Type} {V : ElV α} (hk : V.sz = 3) (g : V.Good) {R : Nat → Prop} {w : World} {A : Option Addr} {l : List α} {cap : Nat} (hl : Sl V.mem 3 R w A l cap) (fv : FuncId) (hf : Entered fv) (p : α → Bool)
    (hp : ∀ w', Chg No w w' → ∀ i (h : i < l.length) cs, V R w' cs l[i] → Calls Tryz.prog fv #[.agg cs.toArray] w' fun e w'' => e = .returned (.bool (p l[i])) ∧ Chg No w' w'') :
    Calls Tryz.prog 56 #[.slice A l.length cap, .func (.func fv) #[] #[]] w fun e w' => e = .returned (.int .i64 (findI p l)) ∧ Chg No w w' := by
  have hb := hl.big
  unfold big at hb
  have Hp := Lib.hid hp
  have HL := Lib.hid (fun W (h : Chg No w W) => hl.no g.mem h)
  clear hp hl
  unfold Entered at hf
  go_enter Tryz.func56, Tryz.ntmps56
  go_wp2
  go_loopw [8] (fun i wr => ∃ k : Nat, k ≤ l.length ∧ i = .int .i64 k ∧ Hid (Chg No w wr) ∧ Hid (∀ j (h : j < l.length), j < k → p l[j] = false)) (fun i _ => l.length - (intOf i).toNat)
  case atStart => exact ⟨0, Nat.zero_le _, rfl, Chg.refl _ _, fun j h hk => absurd hk (by omega)⟩
  case round =>
    obtain ⟨kk, hkk, rfl, hch, hall⟩ := hrel
    by_cases hlt : kk < l.length
    · obtain ⟨b, o, cs, rfl, hlen, hv, hc⟩ := vmem_of hk (HL.out wr hch.out) kk hlt
      obtain ⟨v0, v1, v2, rfl⟩ := list_sym0 cs hlen
      have x0 : wr.cell? ⟨b, o + kk * 3, none⟩ = some v0 := hc 0 _ rfl
      have x1 : wr.cell? ⟨b, o + kk * 3 + 1, none⟩ = some v1 := hc 1 _ rfl
      have x2 : wr.cell? ⟨b, o + kk * 3 + 2, none⟩ = some v2 := hc 2 _ rfl
      clear hc hlen
      have i0 : (0 : Int) ≤ (kk : Int) := by omega
      have i1 : (kk : Int) < (l.length : Int) := by omega
      have HP := Lib.hid (Hp.out wr hch.out kk hlt _ hv)
      have Hhit : Hid (p l[kk] = true → findI p l = kk) := fun h => findI_hit hlt h hall.out
      have Hmiss : Hid (p l[kk] = false → ∀ j (h : j < l.length), j < kk + 1 → p l[j] = false) := fun hpk j h hj => by
        rcases Nat.lt_or_ge j kk with g | g
        · exact hall.out j h g
        · obtain rfl : j = kk := by omega
          exact hpk
      clear hv
      generalize p l[kk] = pk at *
      cases pk with
      | true =>
        have HE := Lib.hid (Hhit.out rfl)
        clear Hmiss Hhit
        go_wp2_with (refine HP.out.mono ?_; rintro e w1 ⟨rfl, h1⟩)
        go_ret
        exact ⟨ret_int HE.out.symm, hch.out.thenNo h1⟩
      | false =>
        have HM := Lib.hid (Hmiss.out rfl)
        clear Hmiss Hhit
        go_wp2_with (refine HP.out.mono ?_; rintro e w1 ⟨rfl, h1⟩)
        go_roundw
        case rel => exact ⟨kk + 1, hlt, by go_num, hch.out.thenNo h1, HM.out⟩
        case measure => simp [intOf]; omega
    · go_wp2
      go_ret
      exact ⟨ret_int (findI_miss (fun j h => hall.out j h (by omega))).symm, hch.out⟩
theorem containsFunc_sym0 {α : Type} {V : ElV α} (hk : V.sz = 3) (g : V.Good) {R : Nat → Prop} {w : World} {A : Option Addr} {l : List α} {cap : Nat} (hl : Sl V.mem 3 R w A l cap) (fv : FuncId) (hf : Entered fv) (p : α → Bool)
    (hp : ∀ w', Chg No w w' → ∀ i (h : i < l.length) cs, V R w' cs l[i] → Calls Tryz.prog fv #[.agg cs.toArray] w' fun e w'' => e = .returned (.bool (p l[i])) ∧ Chg No w' w'') :
    Calls Tryz.prog 54 #[.slice A l.length cap, .func (.func fv) #[] #[]] w fun e w' => e = .returned (.bool (l.any p)) ∧ Chg No w w' := by
  have H := Lib.hid (indexFunc_sym0 hk g hl fv hf p hp)
  clear hp hl
  go_enter Tryz.func54, Tryz.ntmps54
  go_wp2_with (refine H.out.mono ?_; rintro e w1 ⟨rfl, h1⟩)
  go_ret
  exact ⟨ret_bool (findI_ge p l), h1⟩

theorem list_sym1 (cs : List Value) (h : cs.length = 3) : ∃ v0 v1 v2, cs = [v0, v1, v2] := by
  match cs, h with
  | [v0, v1, v2], _ => exact ⟨v0, v1, v2, rfl⟩
set_option maxHeartbeats 1000000 in
theorem indexFunc_sym1 {α : Type} {V : ElV α} (hk : V.sz = 3) (g : V.Good) {R : Nat → Prop} {w : World} {A : Option Addr} {l : List α} {cap : Nat} (hl : Sl V.mem 3 R w A l cap) (fv : FuncId) (hf : Entered fv) (c : Value) (p : α → Bool)
    (hp : ∀ w', Chg No w w' → ∀ i (h : i < l.length) cs, V R w' cs l[i] → Calls Tryz.prog fv #[.agg cs.toArray, c] w' fun e w'' => e = .returned (.bool (p l[i])) ∧ Chg No w' w'') :
    Calls Tryz.prog 56 #[.slice A l.length cap, .func (.func fv) #[] #[c]] w fun e w' => e = .returned (.int .i64 (findI p l)) ∧ Chg No w w' := by
  have hb := hl.big
  unfold big at hb
  have Hp := Lib.hid hp
  have HL := Lib.hid (fun W (h : Chg No w W) => hl.no g.mem h)
  clear hp hl
  unfold Entered at hf
  go_enter Tryz.func56, Tryz.ntmps56
  go_wp2
  go_loopw [8] (fun i wr => ∃ k : Nat, k ≤ l.length ∧ i = .int .i64 k ∧ Hid (Chg No w wr) ∧ Hid (∀ j (h : j < l.length), j < k → p l[j] = false)) (fun i _ => l.length - (intOf i).toNat)
  case atStart => exact ⟨0, Nat.zero_le _, rfl, Chg.refl _ _, fun j h hk => absurd hk (by omega)⟩
  case round =>
    obtain ⟨kk, hkk, rfl, hch, hall⟩ := hrel
    by_cases hlt : kk < l.length
    · obtain ⟨b, o, cs, rfl, hlen, hv, hc⟩ := vmem_of hk (HL.out wr hch.out) kk hlt
      obtain ⟨v0, v1, v2, rfl⟩ := list_sym1 cs hlen
      have x0 : wr.cell? ⟨b, o + kk * 3, none⟩ = some v0 := hc 0 _ rfl
      have x1 : wr.cell? ⟨b, o + kk * 3 + 1, none⟩ = some v1 := hc 1 _ rfl
      have x2 : wr.cell? ⟨b, o + kk * 3 + 2, none⟩ = some v2 := hc 2 _ rfl
      clear hc hlen
      have i0 : (0 : Int) ≤ (kk : Int) := by omega
      have i1 : (kk : Int) < (l.length : Int) := by omega
      have HP := Lib.hid (Hp.out wr hch.out kk hlt _ hv)
      have Hhit : Hid (p l[kk] = true → findI p l = kk) := fun h => findI_hit hlt h hall.out
      have Hmiss : Hid (p l[kk] = false → ∀ j (h : j < l.length), j < kk + 1 → p l[j] = false) := fun hpk j h hj => by
        rcases Nat.lt_or_ge j kk with g | g
        · exact hall.out j h g
        · obtain rfl : j = kk := by omega
          exact hpk
      clear hv
      generalize p l[kk] = pk at *
      cases pk with
      | true =>
        have HE := Lib.hid (Hhit.out rfl)
        clear Hmiss Hhit
        go_wp2_with (refine HP.out.mono ?_; rintro e w1 ⟨rfl, h1⟩)
        go_ret
        exact ⟨ret_int HE.out.symm, hch.out.thenNo h1⟩
      | false =>
        have HM := Lib.hid (Hmiss.out rfl)
        clear Hmiss Hhit
        go_wp2_with (refine HP.out.mono ?_; rintro e w1 ⟨rfl, h1⟩)
        go_roundw
        case rel => exact ⟨kk + 1, hlt, by go_num, hch.out.thenNo h1, HM.out⟩
        case measure => simp [intOf]; omega
    · go_wp2
      go_ret
      exact ⟨ret_int (findI_miss (fun j h => hall.out j h (by omega))).symm, hch.out⟩

set_option maxRecDepth 10000 in
theorem entered_cfine1 : Entered 55 := fun _ _ => rfl
set_option maxRecDepth 100000 in
set_option maxHeartbeats 1000000 in
theorem symsOk_any {R : Nat → Prop} {w : World} {A : Option Addr} {l : List Sym} {cap : Nat} (hl : Syms R w A l cap) :
    Calls Tryz.prog 54 #[.slice A l.length cap, .func (.func 55) #[] #[]] w fun e w' => e = .returned (.bool (!l.all symB)) ∧ Chg No w w' := by
  have HCF := containsFunc_sym0 (V := symV) rfl symV_good hl 55 entered_cfine1 (fun k => !symB k) (fun W hW i hi cs hcs => by
    obtain ⟨B, c, rfl, _, _, hm⟩ := sym_cells hcs
    have HC := Lib.hid (fun W' (hW' : Chg No W W') => linCheck_any l[i].2.1 (hm.no monoE_good hW'))
    rw [show linB l[i].2.1 l[i].2.2 = symB l[i] from rfl] at HC
    generalize symB l[i] = q at *
    generalize l[i].1 = nm at *
    generalize l[i].2.1 = lc at *
    generalize l[i].2.2.length = ll at *
    clear hcs hm hl
    cases q
    · rw [show (if false = true then (0 : Int) else 5) = 5 from rfl, show errV 83 5 = .iface 83 (.int .i64 5) by simp [errV]] at HC
      go_enter Tryz.func55, Tryz.ntmps55
      go_wp2_with (go_at_call 40; refine (HC.out _ ((Chg.refl _ _).alloc _)).mono ?_; rintro e w1 ⟨rfl, h1⟩)
      go_ret
      exact ⟨rfl, ((Chg.refl _ _).alloc _).thenNo h1⟩
    · rw [show (if true = true then (0 : Int) else 5) = 0 from rfl, errV_zero] at HC
      go_enter Tryz.func55, Tryz.ntmps55
      go_wp2_with (go_at_call 40; refine (HC.out _ ((Chg.refl _ _).alloc _)).mono ?_; rintro e w1 ⟨rfl, h1⟩)
      go_ret
      exact ⟨rfl, ((Chg.refl _ _).alloc _).thenNo h1⟩)
  rw [any_not] at HCF
  exact HCF
/-- Nothing is amiss with what is asked, and the forms are sound. -/
def okP2 (d a : Bool) : Bool := !d && a
theorem chk2 (d a : Bool) : (okP2 d a = true ∧ chkP false d true a = 0) ∨ (okP2 d a = false ∧ chkP false d true a ≠ 0) := by
  cases d <;> cases a <;> simp [okP2, chkP]

set_option maxRecDepth 100000 in
set_option maxHeartbeats 4000000 in
theorem cfine_1 {m : Nat} {x : ET m} {R R' : Nat → Prop} {w : World} {ek en : Int} {es : ByteArray} {eB : Option Addr} {ekl eck : Nat} (hK : Keys w) (hx : (exprV m) R w [.int .i64 ek, .int .i64 en, .string es, .slice eB ekl eck] x) {A' : Option Addr} {l : List Sym} {cap' : Nat} (hl : Syms R' w A' l cap') :
    Calls Tryz.prog 33 #[.agg #[.int .i64 1, .string ⟨#[120]⟩, .string ⟨#[]⟩, .string ⟨#[]⟩, .int .i64 ek, .int .i64 en, .string es, .slice eB ekl eck, .int .i64 0, .int .i64 0, .string ⟨#[]⟩, .slice none 0 0, .int .i64 0, .slice none 0 0, .slice none 0 0, .int .i64 0, .int .i64 0, .slice none 0 0, .slice none 0 0, .int .i64 0, .int .i64 0, .string ⟨#[]⟩, .slice none 0 0, .int .i64 0, .int .i64 0, .string ⟨#[]⟩, .slice none 0 0, .string ⟨#[]⟩, .int .i64 0, .slice none 0 0, .slice none 0 0, .slice none 0 0, .slice none 0 0, .slice none 0 0, .slice none 0 0], .slice A' l.length cap'] w fun e w' => e = .returned (.bool (okP2 (deepE m x 99) (okE m x) && l.all symB)) ∧ Chg No w w' := by
  have HCK : Hid (∀ (W : World) (bs bp : Nat), Chg No w W → W.heap[bs]? = some (.cells (stm1 ek en es eB ekl eck) 96 (0, 0)) → W.heap[bp]? = some (.cells #[.string ⟨#[112]⟩, .slice none 0 0, .slice none 0 0, .int .i64 0, .int .i64 0, .slice none 0 0, .slice none 0 0, .int .i64 0, .int .i64 0, .string ⟨#[]⟩, .slice none 0 0, .int .i64 0, .int .i64 0, .string ⟨#[]⟩, .slice none 0 0, .string ⟨#[]⟩, .int .i64 0, .slice none 0 0, .int .i64 0, .int .i64 0, .slice none 0 0, .slice none 0 0, .int .i64 0, .int .i64 0, .string ⟨#[]⟩, .slice none 0 0, .int .i64 0, .int .i64 0, .string ⟨#[]⟩, .slice none 0 0, .string ⟨#[]⟩, .int .i64 0, .slice none 0 0, .slice (some ⟨bs, 0, none⟩) 1 1] 120 (0, 0)) →
      Calls Tryz.prog 53 #[.agg #[.slice (some ⟨bp, 0, none⟩) 1 1]] W fun e w' => e = .returned (errV 83 (chkP false (deepE m x 99) true (okE m x))) ∧ Chg No W w') := fun W bs bp hW hb hp => by
    have h := check_any (w := W) (A0 := some ⟨bs, 0, none⟩) (n0 := 1) (c0 := 1) rfl (hK.no hW) (zA_is No W) hp (deepE m x 99) (okE m x)
      (fun W' h' => deepS_1 rfl ((exprV_good m).no ((exprV_good m).no hx hW) h') (h'.obj hb id) 100 100 rfl (by omega) (by omega)) (fun W' h' => stmts_1 rfl ((hK.no hW).no h') ((exprV_good m).no ((exprV_good m).no hx hW) h') (h'.obj hb id))
    rw [zA_ok, zA_deep (by omega)] at h
    exact h
  have HSY := Lib.hid (fun W (hW : Chg No w W) => symsOk_any (hl.no symE_good hW))
  obtain ⟨w3, hw3⟩ : ∃ w3, w3 = w.alloc (.cells #[.int .i64 1, .string ⟨#[120]⟩, .string ⟨#[]⟩, .string ⟨#[]⟩, .int .i64 ek, .int .i64 en, .string es, .slice eB ekl eck, .int .i64 0, .int .i64 0, .string ⟨#[]⟩, .slice none 0 0, .int .i64 0, .slice none 0 0, .slice none 0 0, .int .i64 0, .int .i64 0, .slice none 0 0, .slice none 0 0, .int .i64 0, .int .i64 0, .string ⟨#[]⟩, .slice none 0 0, .int .i64 0, .int .i64 0, .string ⟨#[]⟩, .slice none 0 0, .string ⟨#[]⟩, .int .i64 0, .slice none 0 0, .slice none 0 0, .slice none 0 0, .slice none 0 0, .slice none 0 0, .slice none 0 0] 96) := ⟨_, rfl⟩
  have h3 : Hid (Chg No w w3 ∧ w3.heap[w.heap.size]? = some (.cells #[.int .i64 1, .string ⟨#[120]⟩, .string ⟨#[]⟩, .string ⟨#[]⟩, .int .i64 ek, .int .i64 en, .string es, .slice eB ekl eck, .int .i64 0, .int .i64 0, .string ⟨#[]⟩, .slice none 0 0, .int .i64 0, .slice none 0 0, .slice none 0 0, .int .i64 0, .int .i64 0, .slice none 0 0, .slice none 0 0, .int .i64 0, .int .i64 0, .string ⟨#[]⟩, .slice none 0 0, .int .i64 0, .int .i64 0, .string ⟨#[]⟩, .slice none 0 0, .string ⟨#[]⟩, .int .i64 0, .slice none 0 0, .slice none 0 0, .slice none 0 0, .slice none 0 0, .slice none 0 0, .slice none 0 0] 96 (0, 0))) := by
    rw [hw3]; exact ⟨(Chg.refl _ _).alloc _, heap_alloc_new _ _⟩
  have HI : Hid ((Tryz.prog.info? 96).map (·.size) = some (#[.int .i64 1, .string ⟨#[120]⟩, .string ⟨#[]⟩, .string ⟨#[]⟩, .int .i64 ek, .int .i64 en, .string es, .slice eB ekl eck, .int .i64 0, .int .i64 0, .string ⟨#[]⟩, .slice none 0 0, .int .i64 0, .slice none 0 0, .slice none 0 0, .int .i64 0, .int .i64 0, .slice none 0 0, .slice none 0 0, .int .i64 0, .int .i64 0, .string ⟨#[]⟩, .slice none 0 0, .int .i64 0, .int .i64 0, .string ⟨#[]⟩, .slice none 0 0, .string ⟨#[]⟩, .int .i64 0, .slice none 0 0, .slice none 0 0, .slice none 0 0, .slice none 0 0, .slice none 0 0, .slice none 0 0] : Array Value).size) := by unfold Hid; kernel_rfl
  have hq := chk2 (deepE m x 99) (okE m x)
  generalize chkP false (deepE m x 99) true (okE m x) = c at *
  generalize okP2 (deepE m x 99) (okE m x) = q at *
  generalize l.all symB = sb at *
  clear hx hK hl
  have HB := Lib.hid h3.out.2
  rcases hq with ⟨rfl, hc⟩ | ⟨rfl, hc⟩
  · rw [hc, errV_zero] at HCK
    clear hc
    go_enter Tryz.func33, Tryz.ntmps33
    go_upto_region 1 with fail
    rw [← hw3]
    clear hw3
    go_wp2_with (first
      | (refine wpList_load_row rfl 96 _ rfl w.heap.size rfl 96 _ (0, 0) _ HB.out Tryz.underlying96 rfl HI.out ?_)
      | (go_at_call 53; refine (HCK.out _ w3.heap.size (w3.heap.size + 1) ((h3.out.1.alloc _).alloc _) (at_old (heap_alloc_new _ _)) (at_new (by simp))).mono ?_; rintro e w4 ⟨rfl, h4⟩; have G4 := Lib.hid (((h3.out.1.alloc _).alloc _).thenNo h4); clear h4)
      | (go_at_call 54; refine (HSY.out _ G4.out).mono ?_; rintro e w5 ⟨rfl, h5⟩))
    go_ret
    exact ⟨by simp, G4.out.thenNo h5⟩
  · rw [errV_of _ hc] at HCK
    clear hc
    go_enter Tryz.func33, Tryz.ntmps33
    go_upto_region 1 with fail
    rw [← hw3]
    clear hw3
    go_wp2_with (first
      | (refine wpList_load_row rfl 96 _ rfl w.heap.size rfl 96 _ (0, 0) _ HB.out Tryz.underlying96 rfl HI.out ?_)
      | (go_at_call 53; refine (HCK.out _ w3.heap.size (w3.heap.size + 1) ((h3.out.1.alloc _).alloc _) (at_old (heap_alloc_new _ _)) (at_new (by simp))).mono ?_; rintro e w4 ⟨rfl, h4⟩; have G4 := Lib.hid (((h3.out.1.alloc _).alloc _).thenNo h4); clear h4))
    go_ret
    exact ⟨by simp, G4.out⟩

set_option maxRecDepth 100000 in
set_option maxHeartbeats 4000000 in
theorem cfine_8 {m n : Nat} {x : CT m n} {R R' : Nat → Prop} {w : World} {ck : Int} {cA : Option Addr} {cel cca : Nat} {cB : Option Addr} {ckl cck : Nat} (hK : Keys w) (hx : (condV m n) R w [.int .i64 ck, .slice cA cel cca, .slice cB ckl cck] x) {A' : Option Addr} {l : List Sym} {cap' : Nat} (hl : Syms R' w A' l cap') :
    Calls Tryz.prog 33 #[.agg #[.int .i64 8, .string ⟨#[]⟩, .string ⟨#[]⟩, .string ⟨#[]⟩, .int .i64 0, .int .i64 0, .string ⟨#[]⟩, .slice none 0 0, .int .i64 0, .int .i64 0, .string ⟨#[]⟩, .slice none 0 0, .int .i64 ck, .slice cA cel cca, .slice cB ckl cck, .int .i64 0, .int .i64 0, .slice none 0 0, .slice none 0 0, .int .i64 0, .int .i64 0, .string ⟨#[]⟩, .slice none 0 0, .int .i64 0, .int .i64 0, .string ⟨#[]⟩, .slice none 0 0, .string ⟨#[]⟩, .int .i64 0, .slice none 0 0, .slice none 0 0, .slice none 0 0, .slice none 0 0, .slice none 0 0, .slice none 0 0], .slice A' l.length cap'] w fun e w' => e = .returned (.bool (okP2 (deepC m n x 99) (okC m n x) && l.all symB)) ∧ Chg No w w' := by
  have HCK : Hid (∀ (W : World) (bs bp : Nat), Chg No w W → W.heap[bs]? = some (.cells (stm8 ck cA cel cca cB ckl cck) 96 (0, 0)) → W.heap[bp]? = some (.cells #[.string ⟨#[112]⟩, .slice none 0 0, .slice none 0 0, .int .i64 0, .int .i64 0, .slice none 0 0, .slice none 0 0, .int .i64 0, .int .i64 0, .string ⟨#[]⟩, .slice none 0 0, .int .i64 0, .int .i64 0, .string ⟨#[]⟩, .slice none 0 0, .string ⟨#[]⟩, .int .i64 0, .slice none 0 0, .int .i64 0, .int .i64 0, .slice none 0 0, .slice none 0 0, .int .i64 0, .int .i64 0, .string ⟨#[]⟩, .slice none 0 0, .int .i64 0, .int .i64 0, .string ⟨#[]⟩, .slice none 0 0, .string ⟨#[]⟩, .int .i64 0, .slice none 0 0, .slice (some ⟨bs, 0, none⟩) 1 1] 120 (0, 0)) →
      Calls Tryz.prog 53 #[.agg #[.slice (some ⟨bp, 0, none⟩) 1 1]] W fun e w' => e = .returned (errV 83 (chkP false (deepC m n x 99) true (okC m n x))) ∧ Chg No W w') := fun W bs bp hW hb hp => by
    have h := check_any (w := W) (A0 := some ⟨bs, 0, none⟩) (n0 := 1) (c0 := 1) rfl (hK.no hW) (zA_is No W) hp (deepC m n x 99) (okC m n x)
      (fun W' h' => deepS_8 rfl ((condV_good m n).no ((condV_good m n).no hx hW) h') (h'.obj hb id) 100 100 rfl (by omega) (by omega)) (fun W' h' => stmts_8 rfl ((hK.no hW).no h') ((condV_good m n).no ((condV_good m n).no hx hW) h') (h'.obj hb id))
    rw [zA_ok, zA_deep (by omega)] at h
    exact h
  have HSY := Lib.hid (fun W (hW : Chg No w W) => symsOk_any (hl.no symE_good hW))
  obtain ⟨w3, hw3⟩ : ∃ w3, w3 = w.alloc (.cells #[.int .i64 8, .string ⟨#[]⟩, .string ⟨#[]⟩, .string ⟨#[]⟩, .int .i64 0, .int .i64 0, .string ⟨#[]⟩, .slice none 0 0, .int .i64 0, .int .i64 0, .string ⟨#[]⟩, .slice none 0 0, .int .i64 ck, .slice cA cel cca, .slice cB ckl cck, .int .i64 0, .int .i64 0, .slice none 0 0, .slice none 0 0, .int .i64 0, .int .i64 0, .string ⟨#[]⟩, .slice none 0 0, .int .i64 0, .int .i64 0, .string ⟨#[]⟩, .slice none 0 0, .string ⟨#[]⟩, .int .i64 0, .slice none 0 0, .slice none 0 0, .slice none 0 0, .slice none 0 0, .slice none 0 0, .slice none 0 0] 96) := ⟨_, rfl⟩
  have h3 : Hid (Chg No w w3 ∧ w3.heap[w.heap.size]? = some (.cells #[.int .i64 8, .string ⟨#[]⟩, .string ⟨#[]⟩, .string ⟨#[]⟩, .int .i64 0, .int .i64 0, .string ⟨#[]⟩, .slice none 0 0, .int .i64 0, .int .i64 0, .string ⟨#[]⟩, .slice none 0 0, .int .i64 ck, .slice cA cel cca, .slice cB ckl cck, .int .i64 0, .int .i64 0, .slice none 0 0, .slice none 0 0, .int .i64 0, .int .i64 0, .string ⟨#[]⟩, .slice none 0 0, .int .i64 0, .int .i64 0, .string ⟨#[]⟩, .slice none 0 0, .string ⟨#[]⟩, .int .i64 0, .slice none 0 0, .slice none 0 0, .slice none 0 0, .slice none 0 0, .slice none 0 0, .slice none 0 0] 96 (0, 0))) := by
    rw [hw3]; exact ⟨(Chg.refl _ _).alloc _, heap_alloc_new _ _⟩
  have HI : Hid ((Tryz.prog.info? 96).map (·.size) = some (#[.int .i64 8, .string ⟨#[]⟩, .string ⟨#[]⟩, .string ⟨#[]⟩, .int .i64 0, .int .i64 0, .string ⟨#[]⟩, .slice none 0 0, .int .i64 0, .int .i64 0, .string ⟨#[]⟩, .slice none 0 0, .int .i64 ck, .slice cA cel cca, .slice cB ckl cck, .int .i64 0, .int .i64 0, .slice none 0 0, .slice none 0 0, .int .i64 0, .int .i64 0, .string ⟨#[]⟩, .slice none 0 0, .int .i64 0, .int .i64 0, .string ⟨#[]⟩, .slice none 0 0, .string ⟨#[]⟩, .int .i64 0, .slice none 0 0, .slice none 0 0, .slice none 0 0, .slice none 0 0, .slice none 0 0, .slice none 0 0] : Array Value).size) := by unfold Hid; kernel_rfl
  have hq := chk2 (deepC m n x 99) (okC m n x)
  generalize chkP false (deepC m n x 99) true (okC m n x) = c at *
  generalize okP2 (deepC m n x 99) (okC m n x) = q at *
  generalize l.all symB = sb at *
  clear hx hK hl
  have HB := Lib.hid h3.out.2
  rcases hq with ⟨rfl, hc⟩ | ⟨rfl, hc⟩
  · rw [hc, errV_zero] at HCK
    clear hc
    go_enter Tryz.func33, Tryz.ntmps33
    go_upto_region 1 with fail
    rw [← hw3]
    clear hw3
    go_wp2_with (first
      | (refine wpList_load_row rfl 96 _ rfl w.heap.size rfl 96 _ (0, 0) _ HB.out Tryz.underlying96 rfl HI.out ?_)
      | (go_at_call 53; refine (HCK.out _ w3.heap.size (w3.heap.size + 1) ((h3.out.1.alloc _).alloc _) (at_old (heap_alloc_new _ _)) (at_new (by simp))).mono ?_; rintro e w4 ⟨rfl, h4⟩; have G4 := Lib.hid (((h3.out.1.alloc _).alloc _).thenNo h4); clear h4)
      | (go_at_call 54; refine (HSY.out _ G4.out).mono ?_; rintro e w5 ⟨rfl, h5⟩))
    go_ret
    exact ⟨by simp, G4.out.thenNo h5⟩
  · rw [errV_of _ hc] at HCK
    clear hc
    go_enter Tryz.func33, Tryz.ntmps33
    go_upto_region 1 with fail
    rw [← hw3]
    clear hw3
    go_wp2_with (first
      | (refine wpList_load_row rfl 96 _ rfl w.heap.size rfl 96 _ (0, 0) _ HB.out Tryz.underlying96 rfl HI.out ?_)
      | (go_at_call 53; refine (HCK.out _ w3.heap.size (w3.heap.size + 1) ((h3.out.1.alloc _).alloc _) (at_old (heap_alloc_new _ _)) (at_new (by simp))).mono ?_; rintro e w4 ⟨rfl, h4⟩; have G4 := Lib.hid (((h3.out.1.alloc _).alloc _).thenNo h4); clear h4))
    go_ret
    exact ⟨by simp, G4.out⟩
end Go.Proofs.YtpmndblakmobdaaGreatDoor
