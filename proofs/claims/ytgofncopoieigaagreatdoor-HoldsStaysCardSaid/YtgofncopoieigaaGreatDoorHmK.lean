/-
  The reference's Shown, Foot, Holds.
-/
import Derived.Test.YtgofncopoieigaaGreatDoorHmJ
import Derived.Test.YtgofncopoieigaaGreatDoorHmI
import Derived.Test.YtgofncopoieigaaGreatDoorHlF
import Derived.Test.YtgofncopoieigaaGreatDoorMP
namespace Go.Proofs.YtgofncopoieigaaGreatDoor
open Go Go.RowKit

set_option maxRecDepth 100000 in
set_option maxHeartbeats 2000000 in
theorem shown18_any {m n k : Nat} {x : AT m n k} {R : Nat → Prop} {w : World} {kd ck : Int} {cA : Option Addr} {cel cca : Nat} {cB : Option Addr} {ckl cck : Nat} {ek en : Int} {es : ByteArray} {eB : Option Addr} {ekl eck : Nat} {vk vn : Int} {vs : ByteArray} {vB : Option Addr} {vkl vck : Nat} {fd : ByteArray} {nm : Int} {B : Option Addr} {kl capk : Nat} (hx : (assnV m n k) R w [.int .i64 kd, .int .i64 ck, .slice cA cel cca, .slice cB ckl cck, .int .i64 ek, .int .i64 en, .string es, .slice eB ekl eck, .int .i64 vk, .int .i64 vn, .string vs, .slice vB vkl vck, .string fd, .int .i64 nm, .slice B kl capk] x) :
    Calls Tryz.prog 26 #[.slice none 0 0, .agg #[.int .i64 kd, .int .i64 ck, .slice cA cel cca, .slice cB ckl cck, .int .i64 ek, .int .i64 en, .string es, .slice eB ekl eck, .int .i64 vk, .int .i64 vn, .string vs, .slice vB vkl vck, .string fd, .int .i64 nm, .slice B kl capk]] w fun e w' => e = .returned (.bool (fineA m n k x)) ∧ Chg No w w' := by
  obtain ⟨w3, hw3⟩ : ∃ w3, w3 = w.alloc (.cells #[.int .i64 kd, .int .i64 ck, .slice cA cel cca, .slice cB ckl cck, .int .i64 ek, .int .i64 en, .string es, .slice eB ekl eck, .int .i64 vk, .int .i64 vn, .string vs, .slice vB vkl vck, .string fd, .int .i64 nm, .slice B kl capk] 30) := ⟨_, rfl⟩
  have h3 : Hid (Chg No w w3 ∧ w3.heap[w.heap.size]? = some (.cells #[.int .i64 kd, .int .i64 ck, .slice cA cel cca, .slice cB ckl cck, .int .i64 ek, .int .i64 en, .string es, .slice eB ekl eck, .int .i64 vk, .int .i64 vn, .string vs, .slice vB vkl vck, .string fd, .int .i64 nm, .slice B kl capk] 30 (0, 0))) := by
    rw [hw3]; exact ⟨(Chg.refl _ _).alloc _, heap_alloc_new _ _⟩
  obtain ⟨p0, p1, p2, p3, p4, p5, p6, p7, p8, p9, p10, p11, p12, p13, p14⟩ := obj_15 h3.out.2
  have HCK : Hid (Calls Tryz.prog 41 #[.agg #[.slice (some ⟨w3.heap.size, 0, none⟩) 1 1]] (w3.alloc (.cells #[.string ⟨#[112]⟩, .slice none 0 0, .slice none 0 0, .int .i64 kd, .int .i64 ck, .slice cA cel cca, .slice cB ckl cck, .int .i64 ek, .int .i64 en, .string es, .slice eB ekl eck, .int .i64 vk, .int .i64 vn, .string vs, .slice vB vkl vck, .string fd, .int .i64 nm, .slice B kl capk, .int .i64 0, .int .i64 0, .slice none 0 0, .slice none 0 0, .int .i64 0, .int .i64 0, .string ⟨#[]⟩, .slice none 0 0, .int .i64 0, .int .i64 0, .string ⟨#[]⟩, .slice none 0 0, .string ⟨#[]⟩, .int .i64 0, .slice none 0 0, .slice none 0 0] 93)) fun e w' => e = .returned (.int .i64 (chkP (deepA m n k x 100) false (okA m n k x) true)) ∧ Chg No (w3.alloc (.cells #[.string ⟨#[112]⟩, .slice none 0 0, .slice none 0 0, .int .i64 kd, .int .i64 ck, .slice cA cel cca, .slice cB ckl cck, .int .i64 ek, .int .i64 en, .string es, .slice eB ekl eck, .int .i64 vk, .int .i64 vn, .string vs, .slice vB vkl vck, .string fd, .int .i64 nm, .slice B kl capk, .int .i64 0, .int .i64 0, .slice none 0 0, .slice none 0 0, .int .i64 0, .int .i64 0, .string ⟨#[]⟩, .slice none 0 0, .int .i64 0, .int .i64 0, .string ⟨#[]⟩, .slice none 0 0, .string ⟨#[]⟩, .int .i64 0, .slice none 0 0, .slice none 0 0] 93)) w') :=
    check15_nil (ps := prcA kd ck cA cel cca cB ckl cck ek en es eB ekl eck vk vn vs vB vkl vck fd nm B kl capk (.slice none 0 0)) rfl ((assnV_good m n k).no hx (h3.out.1.thenNo ((Chg.refl _ _).alloc _))) (heap_alloc_new w3 (.cells (prcA kd ck cA cel cca cB ckl cck ek en es eB ekl eck vk vn vs vB vkl vck fd nm B kl capk (.slice none 0 0)) 93))
  have HC : Hid (Chg No w (w3.alloc (.cells #[.string ⟨#[112]⟩, .slice none 0 0, .slice none 0 0, .int .i64 kd, .int .i64 ck, .slice cA cel cca, .slice cB ckl cck, .int .i64 ek, .int .i64 en, .string es, .slice eB ekl eck, .int .i64 vk, .int .i64 vn, .string vs, .slice vB vkl vck, .string fd, .int .i64 nm, .slice B kl capk, .int .i64 0, .int .i64 0, .slice none 0 0, .slice none 0 0, .int .i64 0, .int .i64 0, .string ⟨#[]⟩, .slice none 0 0, .int .i64 0, .int .i64 0, .string ⟨#[]⟩, .slice none 0 0, .string ⟨#[]⟩, .int .i64 0, .slice none 0 0, .slice none 0 0] 93))) := h3.out.1.alloc _
  unfold fineA
  generalize deepA m n k x 100 = d at *
  generalize okA m n k x = a at *
  clear hx
  cases d
  · cases a
    · rw [show chkP false false false true = 5 from rfl] at HCK
      go_enter Tryz.func26, Tryz.ntmps26
      go_upto_region 1 with fail
      rw [← hw3]
      clear hw3
      go_wp2_with (go_at_call 41; (with_reducible refine HCK.out.mono ?_); rintro e w4 ⟨rfl, h4⟩)
      go_ret
      exact ⟨rfl, HC.out.thenNo h4⟩
    · rw [show chkP false false true true = 0 from rfl] at HCK
      go_enter Tryz.func26, Tryz.ntmps26
      go_upto_region 1 with fail
      rw [← hw3]
      clear hw3
      go_wp2_with (go_at_call 41; (with_reducible refine HCK.out.mono ?_); rintro e w4 ⟨rfl, h4⟩)
      go_ret
      exact ⟨rfl, HC.out.thenNo h4⟩
  · rw [show chkP true false a true = 4 from rfl] at HCK
    go_enter Tryz.func26, Tryz.ntmps26
    go_upto_region 1 with fail
    rw [← hw3]
    clear hw3
    go_wp2_with (go_at_call 41; (with_reducible refine HCK.out.mono ?_); rintro e w4 ⟨rfl, h4⟩)
    go_ret
    exact ⟨rfl, HC.out.thenNo h4⟩
def FootRetI (w : World) (r : List Tri × Int) (e : Ending) (w' : World) : Prop :=
  ∃ A cap, e = .returned (.tuple #[.slice A r.1.length cap, .int .i64 r.2]) ∧ OTris 50 (fun q => w.heap.size ≤ q) w' (.slice A r.1.length cap) r.1 ∧ Chg No w w'

set_option maxRecDepth 100000 in
set_option maxHeartbeats 4000000 in
theorem refFoot18_any {m n k : Nat} {x : AT m n k} {R Rs : Nat → Prop} {w : World} {cs : List Value} (hx : (assnV m n k) R w cs x) (hlv : lvA m n k x ≤ 100000) {A : Option Addr} {l : List Vr} {cap : Nat} (hl : Vars Rs w A l cap) :
    Calls Tryz.prog 10 #[.agg cs.toArray, .slice A l.length cap] w (FootRetI w (footR l m n k x)) := by
  obtain ⟨kd, ck, cA, cel, cca, cB, ckl, cck, ek, en, es, eB, ekl, eck, vk, vn, vs, vB, vkl, vck, fd, nm, B, kl, capk, rfl⟩ := assn_shape hx
  obtain ⟨w3, hw3⟩ : ∃ w3, w3 = w.alloc (.cells #[.int .i64 kd, .int .i64 ck, .slice cA cel cca, .slice cB ckl cck, .int .i64 ek, .int .i64 en, .string es, .slice eB ekl eck, .int .i64 vk, .int .i64 vn, .string vs, .slice vB vkl vck, .string fd, .int .i64 nm, .slice B kl capk] 30) := ⟨_, rfl⟩
  have h3 : Hid (Chg No w w3 ∧ w3.heap[w.heap.size]? = some (.cells #[.int .i64 kd, .int .i64 ck, .slice cA cel cca, .slice cB ckl cck, .int .i64 ek, .int .i64 en, .string es, .slice eB ekl eck, .int .i64 vk, .int .i64 vn, .string vs, .slice vB vkl vck, .string fd, .int .i64 nm, .slice B kl capk] 30 (0, 0))) := by
    rw [hw3]; exact ⟨(Chg.refl _ _).alloc _, heap_alloc_new _ _⟩
  have HO := Lib.hid (fun W (hW : Chg No w3 W) => obj_15 (hW.obj h3.out.2 id))
  obtain ⟨p0, p1, p2, p3, p4, p5, p6, p7, p8, p9, p10, p11, p12, p13, p14⟩ := HO.out w3 (Chg.refl _ _)
  have HF := Lib.hid (shown18_any ((assnV_good m n k).no hx h3.out.1))
  have HW : Hid (fineA m n k x = true → ∀ W, Chg No w W → Calls Tryz.prog 27 #[.agg #[.int .i64 kd, .int .i64 ck, .slice cA cel cca, .slice cB ckl cck, .int .i64 ek, .int .i64 en, .string es, .slice eB ekl eck, .int .i64 vk, .int .i64 vn, .string vs, .slice vB vkl vck, .string fd, .int .i64 nm, .slice B kl capk], .slice A l.length cap, .slice none 0 0] W (TkRet W (lvA m n k x) (wkH l [] m n k x))) := fun hf W hW => by
    unfold fineA at hf
    rw [Bool.and_eq_true] at hf
    exact tk18_any m n k x R Rs (fun _ => False) W _ A l cap none [] 0 hf.2 hlv ((assnV_good m n k).no hx hW) (hl.no varE_good hW) Sl.empty
  obtain ⟨ans, hans⟩ : ∃ ans, ans = footR l m n k x := ⟨_, rfl⟩
  rw [← hans]
  unfold footR at hans
  have HA := Lib.hid hans
  clear hans hx hl
  generalize fineA m n k x = q at *
  generalize wkH l [] m n k x = r at *
  generalize lvA m n k x = lv at *
  cases q
  · obtain rfl : ans = ([], 5) := by rw [HA.out]; rfl
    clear HA HW
    go_enter Tryz.func10, Tryz.ntmps10
    go_upto_region 1 with fail
    rw [← hw3]
    clear hw3
    go_wp2_with (go_at_call 26; (with_reducible refine HF.out.mono ?_); rintro e w4 ⟨rfl, h4⟩)
    go_ret2
    exact ⟨none, 0, rfl, OwnL.nil _ _ _ _ _, h3.out.1.thenNo h4⟩
  · have HW1 := Lib.hid (HW.out rfl)
    rw [if_pos rfl] at HA
    clear HW
    obtain ⟨⟨sl, ok⟩, far⟩ := r
    unfold TkRet at HW1
    simp only at HW1 HA
    go_enter Tryz.func10, Tryz.ntmps10
    go_upto_region 1 with fail
    rw [← hw3]
    clear hw3
    go_upto_region 4 with (go_at_call 26; (with_reducible refine HF.out.mono ?_); rintro e w4 ⟨rfl, h4⟩; have H4 := Lib.hid h4; clear h4)
    clear p0 p1 p2 p3 p4 p5 p6 p7 p8 p9 p10 p11 p12 p13 p14
    obtain ⟨p0, p1, p2, p3, p4, p5, p6, p7, p8, p9, p10, p11, p12, p13, p14⟩ := HO.out w4 H4.out
    have HT := Lib.hid (HW1.out w4 (h3.out.1.thenNo H4.out))
    cases far
    · go_wp2_with (go_at_call 27; (with_reducible refine HT.out.mono ?_); rintro e w6 ⟨A6, c6, s6, o6, rfl, _, hv6, t6, h6⟩; obtain ⟨rfl, _⟩ := hv6 rfl)
      go_ret2
      rw [HA.out]
      exact ⟨A6, c6, rfl, t6.mono triV_good (fun q _ hq => Nat.le_trans (h3.out.1.thenNo H4.out).size hq) (fun _ _ h => h), h3.out.1.thenNo (H4.out.thenNo h6)⟩
    · go_wp2_with (go_at_call 27; (with_reducible refine HT.out.mono ?_); rintro e w6 ⟨A6, c6, s6, o6, rfl, _, _, _, h6⟩)
      go_ret2
      rw [HA.out]
      exact ⟨none, 0, rfl, OwnL.nil _ _ _ _ _, h3.out.1.thenNo (H4.out.thenNo h6)⟩

set_option maxRecDepth 100000 in
set_option maxHeartbeats 4000000 in
theorem refHolds18_any {m n k : Nat} {x : AT m n k} {R Rs Rh : Nat → Prop} {w : World} {cs : List Value} (hx : (assnV m n k) R w cs x) (hlv : lvA m n k x ≤ 100000) {A : Option Addr} {l : List Vr} {cap : Nat} (hl : Vars Rs w A l cap) {Ah : Option Addr} {h : List Tri} {hcap : Nat} (hh : Tris Rh w Ah h hcap) :
    Calls Tryz.prog 11 #[.agg cs.toArray, .slice A l.length cap, .slice Ah h.length hcap] w fun e w' => e = .returned (.tuple #[.bool (holdsR l h m n k x).1, .int .i64 (holdsR l h m n k x).2]) ∧ Chg No w w' := by
  obtain ⟨kd, ck, cA, cel, cca, cB, ckl, cck, ek, en, es, eB, ekl, eck, vk, vn, vs, vB, vkl, vck, fd, nm, B, kl, capk, rfl⟩ := assn_shape hx
  obtain ⟨w3, hw3⟩ : ∃ w3, w3 = w.alloc (.cells #[.int .i64 kd, .int .i64 ck, .slice cA cel cca, .slice cB ckl cck, .int .i64 ek, .int .i64 en, .string es, .slice eB ekl eck, .int .i64 vk, .int .i64 vn, .string vs, .slice vB vkl vck, .string fd, .int .i64 nm, .slice B kl capk] 30) := ⟨_, rfl⟩
  have h3 : Hid (Chg No w w3 ∧ w3.heap[w.heap.size]? = some (.cells #[.int .i64 kd, .int .i64 ck, .slice cA cel cca, .slice cB ckl cck, .int .i64 ek, .int .i64 en, .string es, .slice eB ekl eck, .int .i64 vk, .int .i64 vn, .string vs, .slice vB vkl vck, .string fd, .int .i64 nm, .slice B kl capk] 30 (0, 0))) := by
    rw [hw3]; exact ⟨(Chg.refl _ _).alloc _, heap_alloc_new _ _⟩
  have HO := Lib.hid (fun W (hW : Chg No w3 W) => obj_15 (hW.obj h3.out.2 id))
  obtain ⟨p0, p1, p2, p3, p4, p5, p6, p7, p8, p9, p10, p11, p12, p13, p14⟩ := HO.out w3 (Chg.refl _ _)
  have HF := Lib.hid (shown18_any ((assnV_good m n k).no hx h3.out.1))
  have HCH : Hid (∀ W, Chg No w W → Calls Tryz.prog 28 #[.slice Ah h.length hcap] W fun e w' => e = .returned (.bool (heapB h)) ∧ Chg No W w') := fun W hW => by
    have := refCheck_any (hh.no triE_good hW)
    exact this
  have HW : Hid (fineA m n k x = true → ∀ W, Chg No w W → Calls Tryz.prog 27 #[.agg #[.int .i64 kd, .int .i64 ck, .slice cA cel cca, .slice cB ckl cck, .int .i64 ek, .int .i64 en, .string es, .slice eB ekl eck, .int .i64 vk, .int .i64 vn, .string vs, .slice vB vkl vck, .string fd, .int .i64 nm, .slice B kl capk], .slice A l.length cap, .slice Ah h.length hcap] W (TkRet W (lvA m n k x) (wkH l h m n k x))) := fun hf W hW => by
    unfold fineA at hf
    rw [Bool.and_eq_true] at hf
    exact tk18_any m n k x R Rs Rh W _ A l cap Ah h hcap hf.2 hlv ((assnV_good m n k).no hx hW) (hl.no varE_good hW) (hh.no triE_good hW)
  obtain ⟨ans, hans⟩ : ∃ ans, ans = holdsR l h m n k x := ⟨_, rfl⟩
  rw [← hans]
  unfold holdsR at hans
  have HA := Lib.hid hans
  clear hans hx hl hh
  generalize fineA m n k x = q at *
  generalize wkH l h m n k x = r at *
  generalize lvA m n k x = lv at *
  generalize heapB h = hb at *
  cases q
  · obtain rfl : ans = (false, 5) := by rw [HA.out, if_neg (by simp)]
    clear HA HW
    go_enter Tryz.func11, Tryz.ntmps11
    go_upto_region 1 with fail
    rw [← hw3]
    clear hw3
    go_wp2_with (first
      | (go_at_call 26; (with_reducible refine HF.out.mono ?_); rintro e w4 ⟨rfl, h4⟩; have H4 := Lib.hid (h3.out.1.thenNo h4); clear h4)
      | (go_at_call 28; (with_reducible refine (HCH.out _ H4.out).mono ?_); rintro e w5 ⟨rfl, h5⟩))
    go_ret2
    exact ⟨rfl, H4.out.thenNo h5⟩
  cases hb
  · obtain rfl : ans = (false, 5) := by rw [HA.out, if_neg (by simp)]
    clear HA HW
    go_enter Tryz.func11, Tryz.ntmps11
    go_upto_region 1 with fail
    rw [← hw3]
    clear hw3
    go_wp2_with (first
      | (go_at_call 26; (with_reducible refine HF.out.mono ?_); rintro e w4 ⟨rfl, h4⟩; have H4 := Lib.hid (h3.out.1.thenNo h4); clear h4)
      | (go_at_call 28; (with_reducible refine (HCH.out _ H4.out).mono ?_); rintro e w5 ⟨rfl, h5⟩))
    go_ret2
    exact ⟨rfl, H4.out.thenNo h5⟩
  · have HW1 := Lib.hid (HW.out rfl)
    rw [if_pos ⟨rfl, rfl⟩] at HA
    clear HW
    obtain ⟨⟨sl, ok⟩, far⟩ := r
    unfold TkRet at HW1
    simp only at HW1 HA
    go_enter Tryz.func11, Tryz.ntmps11
    go_upto_region 1 with fail
    rw [← hw3]
    clear hw3
    go_upto_region 5 with (first
      | (go_at_call 26; (with_reducible refine HF.out.mono ?_); rintro e w4 ⟨rfl, h4⟩; have H34 := Lib.hid h4; have H4 := Lib.hid (h3.out.1.thenNo h4); clear h4)
      | (go_at_call 28; (with_reducible refine (HCH.out _ H4.out).mono ?_); rintro e w5 ⟨rfl, h5⟩; have H5 := Lib.hid (H34.out.thenNo h5); clear h5))
    clear p0 p1 p2 p3 p4 p5 p6 p7 p8 p9 p10 p11 p12 p13 p14
    obtain ⟨p0, p1, p2, p3, p4, p5, p6, p7, p8, p9, p10, p11, p12, p13, p14⟩ := HO.out w5 H5.out
    have HT := Lib.hid (HW1.out w5 (h3.out.1.thenNo H5.out))
    cases far
    rotate_left
    · go_wp2_with (go_at_call 27; (with_reducible refine HT.out.mono ?_); rintro e w6 ⟨A6, c6, s6, o6, rfl, _, _, _, h6⟩)
      go_ret2
      rw [HA.out]
      exact ⟨rfl, h3.out.1.thenNo (H5.out.thenNo h6)⟩
    have hA2 : ans = (ok && !sl.any (fun s => decide (64 < s.2.2)), 0) := by rw [HA.out]; rfl
    have HA2 := Lib.hid hA2
    clear HA hA2
    go_upto_region 8 with (go_at_call 27; (with_reducible refine HT.out.mono ?_); rintro e w6 ⟨A6, c6, s6, o6, rfl, hl6, hv6, t6, h6⟩; obtain ⟨rfl, rfl⟩ := hv6 rfl; have H6 := Lib.hid (h3.out.1.thenNo (H5.out.thenNo h6)); have S6 := Lib.hid (OTris.tris t6 (by unfold big; omega)); clear h6 t6 hv6)
    clear p0 p1 p2 p3 p4 p5 p6 p7 p8 p9 p10 p11 p12 p13 p14
    go_wp2_with fail
    go_loopw [11, 13] (fun s11 s13 wr => ∃ i : Nat, s13 = .int .i64 i ∧ i ≤ s6.length ∧ s11 = .bool (o6 && !(s6.take i).any fun s => decide (64 < s.2.2)) ∧ w6 = wr) (fun _ s13 _ => s6.length - (intOf s13).toNat)
    case atStart => exact ⟨0, rfl, Nat.zero_le _, by simp, rfl⟩
    case round =>
      obtain ⟨i, rfl, gi, rfl, rfl⟩ := hrel
      by_cases hlt : i < s6.length
      · obtain ⟨b, o, rfl, x0, x1, x2⟩ := S6.out.tri_at i hlt
        have i0 : (0 : Int) ≤ (i : Int) := by omega
        have i1 : (i : Int) < (s6.length : Int) := by omega
        have HE : Hid ((o6 && !(s6.take (i + 1)).any fun s => decide (64 < s.2.2)) = ((o6 && !(s6.take i).any fun s => decide (64 < s.2.2)) && !decide (64 < s6[i].2.2))) := by
          unfold Hid
          rw [take_any_succ _ hlt]
          cases o6 <;> simp [Bool.not_or]
        generalize s6[i].2.2 = z at *
        generalize (o6 && !(s6.take i).any fun s => decide (64 < s.2.2)) = q at *
        by_cases hz : 64 < z
        · have HE2 : Hid ((o6 && !(s6.take (i + 1)).any fun s => decide (64 < s.2.2)) = false) := by unfold Hid; rw [HE.out, decide_eq_true hz]; simp
          clear HE
          go_wp2_with fail
          go_roundw
          case rel => exact ⟨i + 1, by go_num, hlt, by rw [HE2.out], trivial⟩
          case measure => simp [intOf]; omega
        · have HE2 : Hid ((o6 && !(s6.take (i + 1)).any fun s => decide (64 < s.2.2)) = q) := by unfold Hid; rw [HE.out, decide_eq_false hz]; simp
          clear HE
          go_wp2_with fail
          go_roundw
          case rel => exact ⟨i + 1, by go_num, hlt, by rw [HE2.out], trivial⟩
          case measure => simp [intOf]; omega
      · obtain rfl : i = s6.length := by omega
        have HQ : Hid ((o6 && !(s6.take s6.length).any fun s => decide (64 < s.2.2)) = ans.1 ∧ ans.2 = 0) := by
          unfold Hid
          rw [List.take_length, HA2.out]
          exact ⟨rfl, rfl⟩
        generalize (o6 && !(s6.take s6.length).any fun s => decide (64 < s.2.2)) = q at *
        go_wp2_with fail
        go_ret2
        exact ⟨by rw [HQ.out.1, HQ.out.2]; rfl, H6.out⟩
end Go.Proofs.YtgofncopoieigaaGreatDoor
