/-
  holds.Foot, holds.Holds.
-/
import Derived.Test.YtgofncopoieigaaGreatDoorHlE
import Derived.Test.YtgofncopoieigaaGreatDoorMP
import Derived.Test.YtgofncopoieigaaGreatDoorShL
namespace Go.Proofs.YtgofncopoieigaaGreatDoor
open Go Go.RowKit

theorem list_share0 (cs : List Value) (h : cs.length = 3) : ∃ v0 v1 v2, cs = [v0, v1, v2] := by
  match cs, h with
  | [v0, v1, v2], _ => exact ⟨v0, v1, v2, rfl⟩
set_option maxHeartbeats 1000000 in
theorem indexFunc_share0 {α : Type} {V : ElV α} (hk : V.sz = 3) (g : V.Good) {R : Nat → Prop} {w : World} {A : Option Addr} {l : List α} {cap : Nat} (hl : Sl V.mem 3 R w A l cap) (fv : FuncId) (hf : Entered fv) (p : α → Bool)
    (hp : ∀ w', Chg No w w' → ∀ i (h : i < l.length) cs, V R w' cs l[i] → Calls Tryz.prog fv #[.agg cs.toArray] w' fun e w'' => e = .returned (.bool (p l[i])) ∧ Chg No w' w'') :
    Calls Tryz.prog 40 #[.slice A l.length cap, .func (.func fv) #[] #[]] w fun e w' => e = .returned (.int .i64 (findI p l)) ∧ Chg No w w' := by
  have hb := hl.big
  unfold big at hb
  have Hp := Lib.hid hp
  have HL := Lib.hid (fun W (h : Chg No w W) => hl.no g.mem h)
  clear hp hl
  unfold Entered at hf
  go_enter Tryz.func40, Tryz.ntmps40
  go_wp2
  go_loopw [8] (fun i wr => ∃ k : Nat, k ≤ l.length ∧ i = .int .i64 k ∧ Hid (Chg No w wr) ∧ Hid (∀ j (h : j < l.length), j < k → p l[j] = false)) (fun i _ => l.length - (intOf i).toNat)
  case atStart => exact ⟨0, Nat.zero_le _, rfl, Chg.refl _ _, fun j h hk => absurd hk (by omega)⟩
  case round =>
    obtain ⟨kk, hkk, rfl, hch, hall⟩ := hrel
    by_cases hlt : kk < l.length
    · obtain ⟨b, o, cs, rfl, hlen, hv, hc⟩ := vmem_of hk (HL.out wr hch.out) kk hlt
      obtain ⟨v0, v1, v2, rfl⟩ := list_share0 cs hlen
      have x0 : wr.cell? ⟨b, o + kk * 3, none⟩ = some v0 := hc 0 _ rfl
      have x1 : wr.cell? ⟨b, o + kk * 3 + 1, none⟩ = some v1 := hc 1 _ rfl
      have x2 : wr.cell? ⟨b, o + kk * 3 + 2, none⟩ = some v2 := hc 2 _ rfl
      clear hc hlen
      have i0 : (0 : Int) ≤ (kk : Int) := by omega
      have i1 : (kk : Int) < (l.length : Int) := by omega
      have HP := Lib.hid (Hp.out wr hch.out kk hlt _ hv)
      have Hhit : Hid (p l[kk] = true → findI p l = kk) := fun h => findI_hit hlt h hall.out
      have Hmiss : Hid (p l[kk] = false → ∀ j (h : j < l.length), j < kk + 1 → p l[j] = false) := fun hpk j h hj => by
        rcases Nat.lt_or_ge j kk with g | g
        · exact hall.out j h g
        · obtain rfl : j = kk := by omega
          exact hpk
      clear hv
      generalize p l[kk] = pk at *
      cases pk with
      | true =>
        have HE := Lib.hid (Hhit.out rfl)
        clear Hmiss Hhit
        go_wp2_with (refine HP.out.mono ?_; rintro e w1 ⟨rfl, h1⟩)
        go_ret
        exact ⟨ret_int HE.out.symm, hch.out.thenNo h1⟩
      | false =>
        have HM := Lib.hid (Hmiss.out rfl)
        clear Hmiss Hhit
        go_wp2_with (refine HP.out.mono ?_; rintro e w1 ⟨rfl, h1⟩)
        go_roundw
        case rel => exact ⟨kk + 1, hlt, by go_num, hch.out.thenNo h1, HM.out⟩
        case measure => simp [intOf]; omega
    · go_wp2
      go_ret
      exact ⟨ret_int (findI_miss (fun j h => hall.out j h (by omega))).symm, hch.out⟩
theorem containsFunc_share0 {α : Type} {V : ElV α} (hk : V.sz = 3) (g : V.Good) {R : Nat → Prop} {w : World} {A : Option Addr} {l : List α} {cap : Nat} (hl : Sl V.mem 3 R w A l cap) (fv : FuncId) (hf : Entered fv) (p : α → Bool)
    (hp : ∀ w', Chg No w w' → ∀ i (h : i < l.length) cs, V R w' cs l[i] → Calls Tryz.prog fv #[.agg cs.toArray] w' fun e w'' => e = .returned (.bool (p l[i])) ∧ Chg No w' w'') :
    Calls Tryz.prog 24 #[.slice A l.length cap, .func (.func fv) #[] #[]] w fun e w' => e = .returned (.bool (l.any p)) ∧ Chg No w w' := by
  have H := Lib.hid (indexFunc_share0 hk g hl fv hf p hp)
  clear hp hl
  go_enter Tryz.func24, Tryz.ntmps24
  go_wp2_with (refine H.out.mono ?_; rintro e w1 ⟨rfl, h1⟩)
  go_ret
  exact ⟨ret_bool (findI_ge p l), h1⟩

theorem chgpastH {S : Nat → Prop} {w w1 w2 : World} (h : Chg No w w1) (g : Chg S w1 w2) (hS : ∀ k, S k → w.heap.size ≤ k) : Chg No w w2 :=
  h.trans g (fun k hk hlt => by have := hS k hk; omega)
def fineA (m n k : Nat) (x : AT m n k) : Bool := !deepA m n k x 100 && okA m n k x
/-- What an assertion takes; what is amiss. -/
def footR (l : List Vr) (m n k : Nat) (x : AT m n k) : List Tri × Int :=
  if fineA m n k x = true then (if (wkH l [] m n k x).2 = true then ([], 3) else ((wkH l [] m n k x).1.1, 0)) else ([], 5)
/-- Whether it holds; what is amiss. -/
def holdsR (l : List Vr) (h : List Tri) (m n k : Nat) (x : AT m n k) : Bool × Int :=
  if fineA m n k x = true ∧ heapB h = true then (if (wkH l h m n k x).2 = true then (false, 3) else ((wkH l h m n k x).1.2 && !(wkH l h m n k x).1.1.any (fun s => decide (64 < s.2.2)), 0)) else (false, 5)
def FootRet (w : World) (r : List Tri × Int) (e : Ending) (w' : World) : Prop :=
  ∃ A cap, e = .returned (.tuple #[.slice A r.1.length cap, errV 70 r.2]) ∧ OTris 50 (fun q => w.heap.size ≤ q) w' (.slice A r.1.length cap) r.1 ∧ Chg No w w'
theorem strict_heap {h : List Tri} (hb : heapB h = true) : Strict h := by
  rw [heapB_eq, Bool.and_eq_true] at hb
  exact of_decide_eq_true hb.1

set_option maxRecDepth 100000 in
set_option maxHeartbeats 4000000 in
theorem foot_any {m n k : Nat} {x : AT m n k} {R Rs : Nat → Prop} {w : World} {cs : List Value} (hK : Keys w) (hx : (assnV m n k) R w cs x) (hlv : lvA m n k x ≤ 100000) {A : Option Addr} {l : List Vr} {cap : Nat} (hl : Vars Rs w A l cap) :
    Calls Tryz.prog 8 #[.agg cs.toArray, .slice A l.length cap] w (FootRet w (footR l m n k x)) := by
  have hx2 := (assnV_good m n k).mono hx (R' := fun q => q < w.heap.size) (fun q hq _ => hq)
  have hl2 := hl.mono varE_good (R' := fun q => q < w.heap.size) (fun q hq _ => hq)
  obtain ⟨kd, ck, cA, cel, cca, cB, ckl, cck, ek, en, es, eB, ekl, eck, vk, vn, vs, vB, vkl, vck, fd, nm, B, kl, capk, rfl⟩ := assn_shape hx
  obtain ⟨w3, hw3⟩ : ∃ w3, w3 = w.alloc (.cells #[.int .i64 kd, .int .i64 ck, .slice cA cel cca, .slice cB ckl cck, .int .i64 ek, .int .i64 en, .string es, .slice eB ekl eck, .int .i64 vk, .int .i64 vn, .string vs, .slice vB vkl vck, .string fd, .int .i64 nm, .slice B kl capk] 30) := ⟨_, rfl⟩
  have h3 : Hid (Chg No w w3 ∧ w3.heap[w.heap.size]? = some (.cells #[.int .i64 kd, .int .i64 ck, .slice cA cel cca, .slice cB ckl cck, .int .i64 ek, .int .i64 en, .string es, .slice eB ekl eck, .int .i64 vk, .int .i64 vn, .string vs, .slice vB vkl vck, .string fd, .int .i64 nm, .slice B kl capk] 30 (0, 0))) := by
    rw [hw3]; exact ⟨(Chg.refl _ _).alloc _, heap_alloc_new _ _⟩
  have HO := Lib.hid (fun W (hW : Chg No w3 W) => obj_15 (hW.obj h3.out.2 id))
  obtain ⟨p0, p1, p2, p3, p4, p5, p6, p7, p8, p9, p10, p11, p12, p13, p14⟩ := HO.out w3 (Chg.refl _ _)
  have HF : Hid (Calls Tryz.prog 21 #[.slice none 0 0, .agg #[.int .i64 kd, .int .i64 ck, .slice cA cel cca, .slice cB ckl cck, .int .i64 ek, .int .i64 en, .string es, .slice eB ekl eck, .int .i64 vk, .int .i64 vn, .string vs, .slice vB vkl vck, .string fd, .int .i64 nm, .slice B kl capk]] w3 fun e w' => e = .returned (.bool (fineA m n k x)) ∧ Chg No w3 w') := hfine_a (hK.no h3.out.1) ((assnV_good m n k).no hx h3.out.1)
  have HW : Hid (fineA m n k x = true → ∀ W bx, Chg No w W → LookAt W bx A l.length cap false → w.heap.size ≤ bx → Calls Tryz.prog 22 #[.pointer (some ⟨bx, 0, none⟩), .agg #[.int .i64 kd, .int .i64 ck, .slice cA cel cca, .slice cB ckl cck, .int .i64 ek, .int .i64 en, .string es, .slice eB ekl eck, .int .i64 vk, .int .i64 vn, .string vs, .slice vB vkl vck, .string fd, .int .i64 nm, .slice B kl capk], .slice none 0 0] W (WkRet bx A l.length cap false W (wkH l [] m n k x))) := fun hf W bx hW hlk hbx => by
    unfold fineA at hf
    rw [Bool.and_eq_true] at hf
    exact hwk_any m n k x _ _ (fun _ => False) W _ bx A l cap false none [] 0 hf.2 hlv ((assnV_good m n k).no hx2 hW) (fun q hq => by omega) hlk (hl2.no varE_good hW) (fun q hq => by omega) Sl.empty (fun _ h => h.elim) List.Pairwise.nil
  obtain ⟨ans, hans⟩ : ∃ ans, ans = footR l m n k x := ⟨_, rfl⟩
  rw [← hans]
  unfold footR at hans
  have HA := Lib.hid hans
  clear hans hx hK hx2 hl2 hl
  generalize fineA m n k x = q at *
  generalize wkH l [] m n k x = r at *
  cases q
  · obtain rfl : ans = ([], 5) := by rw [HA.out]; rfl
    clear HA HW
    go_enter Tryz.func8, Tryz.ntmps8
    go_upto_region 1 with fail
    rw [← hw3]
    clear hw3
    go_wp2_with (go_at_call 21; (with_reducible refine HF.out.mono ?_); rintro e w4 ⟨rfl, h4⟩)
    go_ret2
    exact ⟨none, 0, by rw [errV_of _ (by decide)]; rfl, OwnL.nil _ _ _ _ _, h3.out.1.thenNo h4⟩
  · have HW1 := Lib.hid (HW.out rfl)
    rw [if_pos rfl] at HA
    clear HW
    obtain ⟨⟨sl, ok⟩, far⟩ := r
    unfold WkRet at HW1
    simp only at HW1 HA
    go_enter Tryz.func8, Tryz.ntmps8
    go_upto_region 1 with fail
    rw [← hw3]
    clear hw3
    go_upto_region 4 with (go_at_call 21; (with_reducible refine HF.out.mono ?_); rintro e w4 ⟨rfl, h4⟩; have H4 := Lib.hid h4; clear h4)
    obtain ⟨w5, hw5⟩ : ∃ w5, w5 = w4.alloc (.cells #[.slice A l.length cap, .bool false] 73) := ⟨_, rfl⟩
    rw [← hw5]
    obtain ⟨b5, hb5⟩ : ∃ b5, b5 = w4.heap.size := ⟨_, rfl⟩
    rw [← hb5]
    have C5 : Hid (Chg No w3 w5 ∧ LookAt w5 b5 A l.length cap false ∧ w.heap.size ≤ b5) := by
      rw [hw5, hb5]
      exact ⟨H4.out.alloc _, heap_alloc_new _ _, (h3.out.1.thenNo H4.out).size⟩
    clear hw5 hb5 p0 p1 p2 p3 p4 p5 p6 p7 p8 p9 p10 p11 p12 p13 p14
    obtain ⟨p0, p1, p2, p3, p4, p5, p6, p7, p8, p9, p10, p11, p12, p13, p14⟩ := HO.out w5 C5.out.1
    have HC := Lib.hid (HW1.out w5 b5 (h3.out.1.thenNo C5.out.1) C5.out.2.1 C5.out.2.2)
    go_upto_region 5 with (go_at_call 22; (with_reducible refine HC.out.mono ?_); rintro e w6 ⟨A6, c6, rfl, s6, h6, g6⟩; have H6 := Lib.hid (chgpastH (h3.out.1.thenNo C5.out.1) h6 (fun q hq => by rw [hq]; exact C5.out.2.2)); have S6 : Hid (OTris 50 (fun q => w.heap.size ≤ q) w6 (.slice A6 sl.length c6) sl) := s6.mono triV_good (fun q _ hq => Nat.le_trans (h3.out.1.thenNo C5.out.1).size hq) (fun _ _ h => h); obtain ⟨g60, g61, _, _⟩ := g6.cells; clear h6 g6 s6)
    rw [Bool.false_or] at g61
    cases far
    · obtain rfl : ans = (sl, 0) := by rw [HA.out]; rfl
      clear HA
      go_wp2_with fail
      go_ret2
      exact ⟨A6, c6, by rw [errV_zero]; rfl, S6.out, H6.out⟩
    · obtain rfl : ans = ([], 3) := by rw [HA.out]; rfl
      clear HA
      go_wp2_with fail
      go_ret2
      exact ⟨none, 0, by rw [errV_of _ (by decide)]; rfl, OwnL.nil _ _ _ _ _, H6.out⟩
set_option maxRecDepth 10000 in
theorem entered_holds1 : Entered 25 := fun _ _ => rfl
theorem tooMuch_any {R : Nat → Prop} {w : World} {A : Option Addr} {l : List Tri} {cap : Nat} (hl : Tris R w A l cap) :
    Calls Tryz.prog 24 #[.slice A l.length cap, .func (.func 25) #[] #[]] w fun e w' => e = .returned (.bool (l.any fun s => decide (64 < s.2.2))) ∧ Chg No w w' :=
  containsFunc_share0 (V := triV) rfl triV_good hl 25 entered_holds1 (fun s => decide (64 < s.2.2)) (fun W hW i hi cs hcs => by
    obtain ⟨rfl, _⟩ := tri_cells hcs
    generalize l[i].1 = a at *
    generalize l[i].2.1 = b at *
    generalize l[i].2.2 = c at *
    clear hcs hl
    go_enter Tryz.func25, Tryz.ntmps25
    go_wp2_with fail
    go_ret
    exact ⟨rfl, (Chg.refl _ _).alloc _⟩)
set_option maxRecDepth 100000 in
set_option maxHeartbeats 4000000 in
theorem holds_any {m n k : Nat} {x : AT m n k} {R Rs Rh : Nat → Prop} {w : World} {cs : List Value} (hK : Keys w) (hx : (assnV m n k) R w cs x) (hlv : lvA m n k x ≤ 100000) {A : Option Addr} {l : List Vr} {cap : Nat} (hl : Vars Rs w A l cap) {Ah : Option Addr} {h : List Tri} {hcap : Nat} (hh : Tris Rh w Ah h hcap) :
    Calls Tryz.prog 9 #[.agg cs.toArray, .slice A l.length cap, .slice Ah h.length hcap] w fun e w' => e = .returned (.tuple #[.bool (holdsR l h m n k x).1, errV 70 (holdsR l h m n k x).2]) ∧ Chg No w w' := by
  have hx2 := (assnV_good m n k).mono hx (R' := fun q => q < w.heap.size) (fun q hq _ => hq)
  have hl2 := hl.mono varE_good (R' := fun q => q < w.heap.size) (fun q hq _ => hq)
  have hh2 := hh.mono triE_good (R' := fun q => q < w.heap.size) (fun q hq _ => hq)
  obtain ⟨kd, ck, cA, cel, cca, cB, ckl, cck, ek, en, es, eB, ekl, eck, vk, vn, vs, vB, vkl, vck, fd, nm, B, kl, capk, rfl⟩ := assn_shape hx
  obtain ⟨w3, hw3⟩ : ∃ w3, w3 = w.alloc (.cells #[.int .i64 kd, .int .i64 ck, .slice cA cel cca, .slice cB ckl cck, .int .i64 ek, .int .i64 en, .string es, .slice eB ekl eck, .int .i64 vk, .int .i64 vn, .string vs, .slice vB vkl vck, .string fd, .int .i64 nm, .slice B kl capk] 30) := ⟨_, rfl⟩
  have h3 : Hid (Chg No w w3 ∧ w3.heap[w.heap.size]? = some (.cells #[.int .i64 kd, .int .i64 ck, .slice cA cel cca, .slice cB ckl cck, .int .i64 ek, .int .i64 en, .string es, .slice eB ekl eck, .int .i64 vk, .int .i64 vn, .string vs, .slice vB vkl vck, .string fd, .int .i64 nm, .slice B kl capk] 30 (0, 0))) := by
    rw [hw3]; exact ⟨(Chg.refl _ _).alloc _, heap_alloc_new _ _⟩
  have HO := Lib.hid (fun W (hW : Chg No w3 W) => obj_15 (hW.obj h3.out.2 id))
  obtain ⟨p0, p1, p2, p3, p4, p5, p6, p7, p8, p9, p10, p11, p12, p13, p14⟩ := HO.out w3 (Chg.refl _ _)
  have HF : Hid (Calls Tryz.prog 21 #[.slice none 0 0, .agg #[.int .i64 kd, .int .i64 ck, .slice cA cel cca, .slice cB ckl cck, .int .i64 ek, .int .i64 en, .string es, .slice eB ekl eck, .int .i64 vk, .int .i64 vn, .string vs, .slice vB vkl vck, .string fd, .int .i64 nm, .slice B kl capk]] w3 fun e w' => e = .returned (.bool (fineA m n k x)) ∧ Chg No w3 w') := hfine_a (hK.no h3.out.1) ((assnV_good m n k).no hx h3.out.1)
  have HCH : Hid (∀ W, Chg No w W → Calls Tryz.prog 23 #[.slice Ah h.length hcap] W fun e w' => e = .returned (heapV (heapB h)) ∧ Chg No W w') := fun W hW => hpCheck_any (hh.no triE_good hW)
  have HW : Hid (fineA m n k x = true → heapB h = true → ∀ W bx, Chg No w W → LookAt W bx A l.length cap false → w.heap.size ≤ bx → Calls Tryz.prog 22 #[.pointer (some ⟨bx, 0, none⟩), .agg #[.int .i64 kd, .int .i64 ck, .slice cA cel cca, .slice cB ckl cck, .int .i64 ek, .int .i64 en, .string es, .slice eB ekl eck, .int .i64 vk, .int .i64 vn, .string vs, .slice vB vkl vck, .string fd, .int .i64 nm, .slice B kl capk], .slice Ah h.length hcap] W (WkRet bx A l.length cap false W (wkH l h m n k x))) := fun hf hb W bx hW hlk hbx => by
    unfold fineA at hf
    rw [Bool.and_eq_true] at hf
    exact hwk_any m n k x _ _ _ W _ bx A l cap false Ah h hcap hf.2 hlv ((assnV_good m n k).no hx2 hW) (fun q hq => by omega) hlk (hl2.no varE_good hW) (fun q hq => by omega) (hh2.no triE_good hW) (fun q hq => by omega) (strict_heap hb)
  have hlen : fineA m n k x = true → (wkH l h m n k x).1.1.length ≤ 100000 := fun hf => by
    unfold fineA at hf
    rw [Bool.and_eq_true] at hf
    exact Nat.le_trans (wkH_len l h m n k x hf.2) hlv
  obtain ⟨ans, hans⟩ : ∃ ans, ans = holdsR l h m n k x := ⟨_, rfl⟩
  rw [← hans]
  unfold holdsR at hans
  have HA := Lib.hid hans
  clear hans hx hK hx2 hl2 hl hh hh2
  generalize fineA m n k x = q at *
  generalize wkH l h m n k x = r at *
  generalize heapB h = hb at *
  cases q
  · obtain rfl : ans = (false, 5) := by rw [HA.out, if_neg (by simp)]
    clear HA HW HCH
    rw [errV_of _ (show (5 : Int) ≠ 0 by decide)]
    go_enter Tryz.func9, Tryz.ntmps9
    go_upto_region 1 with fail
    rw [← hw3]
    clear hw3
    go_wp2_with (go_at_call 21; (with_reducible refine HF.out.mono ?_); rintro e w4 ⟨rfl, h4⟩)
    go_ret2
    exact ⟨rfl, h3.out.1.thenNo h4⟩
  cases hb
  · obtain rfl : ans = (false, 5) := by rw [HA.out, if_neg (by simp)]
    clear HA HW
    rw [errV_of _ (show (5 : Int) ≠ 0 by decide)]
    rw [show heapV false = .iface 70 (.int .i64 5) from rfl] at HCH
    go_enter Tryz.func9, Tryz.ntmps9
    go_upto_region 1 with fail
    rw [← hw3]
    clear hw3
    go_wp2_with (first
      | (go_at_call 21; (with_reducible refine HF.out.mono ?_); rintro e w4 ⟨rfl, h4⟩; have H4 := Lib.hid (h3.out.1.thenNo h4); clear h4)
      | (go_at_call 23; (with_reducible refine (HCH.out _ H4.out).mono ?_); rintro e w5 ⟨rfl, h5⟩))
    go_ret2
    exact ⟨rfl, H4.out.thenNo h5⟩
  · have HW1 := Lib.hid (HW.out rfl rfl)
    rw [if_pos ⟨rfl, rfl⟩] at HA
    rw [show heapV true = .nilIface from rfl] at HCH
    clear HW
    have hlen := hlen rfl
    obtain ⟨⟨sl, ok⟩, far⟩ := r
    unfold WkRet at HW1
    simp only at HW1 HA hlen
    go_enter Tryz.func9, Tryz.ntmps9
    go_upto_region 1 with fail
    rw [← hw3]
    clear hw3
    go_upto_region 4 with (first
      | (go_at_call 21; (with_reducible refine HF.out.mono ?_); rintro e w4 ⟨rfl, h4⟩; have H34 := Lib.hid h4; have H4 := Lib.hid (h3.out.1.thenNo h4); clear h4)
      | (go_at_call 23; (with_reducible refine (HCH.out _ H4.out).mono ?_); rintro e w5 ⟨rfl, h5⟩; have H5 := Lib.hid (H34.out.thenNo h5); clear h5))
    obtain ⟨w6, hw6⟩ : ∃ w6, w6 = w5.alloc (.cells #[.slice A l.length cap, .bool false] 73) := ⟨_, rfl⟩
    rw [← hw6]
    obtain ⟨b5, hb5⟩ : ∃ b5, b5 = w5.heap.size := ⟨_, rfl⟩
    rw [← hb5]
    have C5 : Hid (Chg No w3 w6 ∧ LookAt w6 b5 A l.length cap false ∧ w.heap.size ≤ b5) := by
      rw [hw6, hb5]
      exact ⟨H5.out.alloc _, heap_alloc_new _ _, (h3.out.1.thenNo H5.out).size⟩
    clear hw6 hb5 p0 p1 p2 p3 p4 p5 p6 p7 p8 p9 p10 p11 p12 p13 p14
    obtain ⟨p0, p1, p2, p3, p4, p5, p6, p7, p8, p9, p10, p11, p12, p13, p14⟩ := HO.out w6 C5.out.1
    have HC := Lib.hid (HW1.out w6 b5 (h3.out.1.thenNo C5.out.1) C5.out.2.1 C5.out.2.2)
    go_upto_region 5 with (go_at_call 22; (with_reducible refine HC.out.mono ?_); rintro e w7 ⟨A6, c6, rfl, s6, h6, g6⟩; have H6 := Lib.hid (chgpastH (h3.out.1.thenNo C5.out.1) h6 (fun q hq => by rw [hq]; exact C5.out.2.2)); have S6 := Lib.hid (OTris.tris s6 (by unfold big; omega)); obtain ⟨g60, g61, _, _⟩ := g6.cells; clear h6 g6 s6)
    rw [Bool.false_or] at g61
    cases far
    · have HT := Lib.hid (tooMuch_any S6.out)
      obtain ⟨tm, htm⟩ : ∃ tm, tm = sl.any (fun s => decide (64 < s.2.2)) := ⟨_, rfl⟩
      obtain rfl : ans = (ok && !tm, 0) := by rw [HA.out, htm]; rfl
      rw [← htm] at HT
      clear HA htm
      cases ok
      · go_wp2_with fail
        go_ret2
        exact ⟨by rw [errV_zero]; rfl, H6.out⟩
      · go_wp2_with (go_at_call 24; (with_reducible refine HT.out.mono ?_); rintro e w8 ⟨rfl, h8⟩)
        go_ret2
        exact ⟨by rw [errV_zero]; rfl, H6.out.thenNo h8⟩
    · obtain rfl : ans = (false, 3) := by rw [HA.out]; rfl
      clear HA
      go_wp2_with fail
      go_ret2
      exact ⟨by rw [errV_of _ (show (3 : Int) ≠ 0 by decide)]; rfl, H6.out⟩
end Go.Proofs.YtgofncopoieigaaGreatDoor
