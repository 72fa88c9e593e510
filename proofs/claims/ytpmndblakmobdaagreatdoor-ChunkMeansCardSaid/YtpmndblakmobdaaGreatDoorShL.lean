/-
  holds.fine.
-/
import Derived.Test.YtpmndblakmobdaaGreatDoorShK
namespace Go.Proofs.YtpmndblakmobdaaGreatDoor
open Go Go.RowKit

/-- Nothing is amiss. -/
def okP (d1 d2 a1 s1 : Bool) : Bool := !d1 && !d2 && a1 && s1
theorem okP_chk (d1 d2 a1 s1 : Bool) : (okP d1 d2 a1 s1 = true ∧ chkP d1 d2 a1 s1 = 0) ∨ (okP d1 d2 a1 s1 = false ∧ chkP d1 d2 a1 s1 ≠ 0) := by
  cases d1 <;> cases d2 <;> cases a1 <;> cases s1 <;> simp [okP, chkP]

set_option maxRecDepth 100000 in
set_option maxHeartbeats 4000000 in
theorem hfine_any {m n k : Nat} {x : AT m n k} {R : Nat → Prop} {w : World} {kd ck : Int} {cA : Option Addr} {cel cca : Nat} {cB : Option Addr} {ckl cck : Nat} {ek en : Int} {es : ByteArray} {eB : Option Addr} {ekl eck : Nat} {vk vn : Int} {vs : ByteArray} {vB : Option Addr} {vkl vck : Nat} {fd : ByteArray} {nm : Int} {B : Option Addr} {kl capk : Nat} {A0 : Option Addr} {n0 c0 : Nat} (hK : Keys w) (hx : (assnV m n k) R w [.int .i64 kd, .int .i64 ck, .slice cA cel cca, .slice cB ckl cck, .int .i64 ek, .int .i64 en, .string es, .slice eB ekl eck, .int .i64 vk, .int .i64 vn, .string vs, .slice vB vkl vck, .string fd, .int .i64 nm, .slice B kl capk] x)
    (d2 s1 : Bool) (hd2 : ∀ W, Chg No w W → Calls Tryz.prog 70 #[.slice A0 n0 c0, .int .i64 100] W fun e w' => e = .returned (.bool d2) ∧ Chg No W w')
    (hs1 : ∀ W, Chg No w W → Calls Tryz.prog 74 #[.slice A0 n0 c0] W fun e w' => e = .returned (.bool s1) ∧ Chg No W w') :
    Calls Tryz.prog 35 #[.slice A0 n0 c0, .agg #[.int .i64 kd, .int .i64 ck, .slice cA cel cca, .slice cB ckl cck, .int .i64 ek, .int .i64 en, .string es, .slice eB ekl eck, .int .i64 vk, .int .i64 vn, .string vs, .slice vB vkl vck, .string fd, .int .i64 nm, .slice B kl capk]] w fun e w' => e = .returned (.bool (okP (deepA m n k x 100) d2 (okA m n k x) s1)) ∧ Chg No w w' := by
  have HCK := Lib.hid (fun (W : World) (bp : Nat) (hW : Chg No w W) (hb : W.heap[bp]? = some (.cells (prcA kd ck cA cel cca cB ckl cck ek en es eB ekl eck vk vn vs vB vkl vck fd nm B kl capk (.slice A0 n0 c0)) 120 (0, 0))) => check_any (w := W) rfl (hK.no hW) ((assnV_good m n k).no hx hW) hb d2 s1 (fun W' h => hd2 W' (hW.thenNo h)) (fun W' h => hs1 W' (hW.thenNo h)))
  obtain ⟨w3, hw3⟩ : ∃ w3, w3 = w.alloc (.cells #[.int .i64 kd, .int .i64 ck, .slice cA cel cca, .slice cB ckl cck, .int .i64 ek, .int .i64 en, .string es, .slice eB ekl eck, .int .i64 vk, .int .i64 vn, .string vs, .slice vB vkl vck, .string fd, .int .i64 nm, .slice B kl capk] 92) := ⟨_, rfl⟩
  have h3 : Hid (Chg No w w3 ∧ w3.heap[w.heap.size]? = some (.cells #[.int .i64 kd, .int .i64 ck, .slice cA cel cca, .slice cB ckl cck, .int .i64 ek, .int .i64 en, .string es, .slice eB ekl eck, .int .i64 vk, .int .i64 vn, .string vs, .slice vB vkl vck, .string fd, .int .i64 nm, .slice B kl capk] 92 (0, 0))) := by
    rw [hw3]; exact ⟨(Chg.refl _ _).alloc _, heap_alloc_new _ _⟩
  obtain ⟨p0, p1, p2, p3, p4, p5, p6, p7, p8, p9, p10, p11, p12, p13, p14⟩ := obj_15 h3.out.2
  have hq := okP_chk (deepA m n k x 100) d2 (okA m n k x) s1
  generalize chkP (deepA m n k x 100) d2 (okA m n k x) s1 = c at *
  generalize okP (deepA m n k x 100) d2 (okA m n k x) s1 = q at *
  clear hx hK hd2 hs1
  rcases hq with ⟨rfl, hc⟩ | ⟨rfl, hc⟩
  · rw [hc, errV_zero] at HCK
    clear hc
    go_enter Tryz.func35, Tryz.ntmps35
    go_upto_region 1 with fail
    rw [← hw3]
    clear hw3
    go_wp2_with (go_at_call 53; refine (HCK.out _ _ (h3.out.1.alloc _) (heap_alloc_new _ _)).mono ?_; rintro e w4 ⟨rfl, h4⟩)
    go_ret
    exact ⟨rfl, (h3.out.1.alloc _).thenNo h4⟩
  · rw [errV_of _ hc] at HCK
    clear hc
    go_enter Tryz.func35, Tryz.ntmps35
    go_upto_region 1 with fail
    rw [← hw3]
    clear hw3
    go_wp2_with (go_at_call 53; refine (HCK.out _ _ (h3.out.1.alloc _) (heap_alloc_new _ _)).mono ?_; rintro e w4 ⟨rfl, h4⟩)
    go_ret
    exact ⟨rfl, (h3.out.1.alloc _).thenNo h4⟩
/-- 'x := e' beside the empty precondition. -/
theorem hfine_1 {m : Nat} {x : ET m} {R : Nat → Prop} {w : World} {ek en : Int} {es : ByteArray} {eB : Option Addr} {ekl eck : Nat} (hK : Keys w) (hx : (exprV m) R w [.int .i64 ek, .int .i64 en, .string es, .slice eB ekl eck] x) {bs : Nat} (hbs : w.heap[bs]? = some (.cells (stm1 ek en es eB ekl eck) 96 (0, 0))) :
    Calls Tryz.prog 35 #[.slice (some ⟨bs, 0, none⟩) 1 1, .agg #[.int .i64 0, .int .i64 0, .slice none 0 0, .slice none 0 0, .int .i64 0, .int .i64 0, .string ⟨#[]⟩, .slice none 0 0, .int .i64 0, .int .i64 0, .string ⟨#[]⟩, .slice none 0 0, .string ⟨#[]⟩, .int .i64 0, .slice none 0 0]] w fun e w' => e = .returned (.bool (!deepE m x 99 && okE m x)) ∧ Chg No w w' := by
  have h := hfine_any (w := w) (A0 := some ⟨bs, 0, none⟩) (n0 := 1) (c0 := 1) hK (zA_is No w) (deepE m x 99) (okE m x)
    (fun W hW => deepS_1 rfl ((exprV_good m).no hx hW) (hW.obj hbs id) 100 100 rfl (by omega) (by omega)) (fun W hW => stmts_1 rfl (hK.no hW) ((exprV_good m).no hx hW) (hW.obj hbs id))
  rw [zA_ok, zA_deep (by omega)] at h
  simpa [okP] using h
/-- 'assert c'. -/
theorem hfine_8 {m n : Nat} {x : CT m n} {R : Nat → Prop} {w : World} {ck : Int} {cA : Option Addr} {cel cca : Nat} {cB : Option Addr} {ckl cck : Nat} (hK : Keys w) (hx : (condV m n) R w [.int .i64 ck, .slice cA cel cca, .slice cB ckl cck] x) {bs : Nat} (hbs : w.heap[bs]? = some (.cells (stm8 ck cA cel cca cB ckl cck) 96 (0, 0))) :
    Calls Tryz.prog 35 #[.slice (some ⟨bs, 0, none⟩) 1 1, .agg #[.int .i64 0, .int .i64 0, .slice none 0 0, .slice none 0 0, .int .i64 0, .int .i64 0, .string ⟨#[]⟩, .slice none 0 0, .int .i64 0, .int .i64 0, .string ⟨#[]⟩, .slice none 0 0, .string ⟨#[]⟩, .int .i64 0, .slice none 0 0]] w fun e w' => e = .returned (.bool (!deepC m n x 99 && okC m n x)) ∧ Chg No w w' := by
  have h := hfine_any (w := w) (A0 := some ⟨bs, 0, none⟩) (n0 := 1) (c0 := 1) hK (zA_is No w) (deepC m n x 99) (okC m n x)
    (fun W hW => deepS_8 rfl ((condV_good m n).no hx hW) (hW.obj hbs id) 100 100 rfl (by omega) (by omega)) (fun W hW => stmts_8 rfl (hK.no hW) ((condV_good m n).no hx hW) (hW.obj hbs id))
  rw [zA_ok, zA_deep (by omega)] at h
  simpa [okP] using h
/-- A precondition. -/
theorem hfine_a {m n k : Nat} {x : AT m n k} {R : Nat → Prop} {w : World} {kd ck : Int} {cA : Option Addr} {cel cca : Nat} {cB : Option Addr} {ckl cck : Nat} {ek en : Int} {es : ByteArray} {eB : Option Addr} {ekl eck : Nat} {vk vn : Int} {vs : ByteArray} {vB : Option Addr} {vkl vck : Nat} {fd : ByteArray} {nm : Int} {B : Option Addr} {kl capk : Nat} (hK : Keys w) (hx : (assnV m n k) R w [.int .i64 kd, .int .i64 ck, .slice cA cel cca, .slice cB ckl cck, .int .i64 ek, .int .i64 en, .string es, .slice eB ekl eck, .int .i64 vk, .int .i64 vn, .string vs, .slice vB vkl vck, .string fd, .int .i64 nm, .slice B kl capk] x) :
    Calls Tryz.prog 35 #[.slice none 0 0, .agg #[.int .i64 kd, .int .i64 ck, .slice cA cel cca, .slice cB ckl cck, .int .i64 ek, .int .i64 en, .string es, .slice eB ekl eck, .int .i64 vk, .int .i64 vn, .string vs, .slice vB vkl vck, .string fd, .int .i64 nm, .slice B kl capk]] w fun e w' => e = .returned (.bool (!deepA m n k x 100 && okA m n k x)) ∧ Chg No w w' := by
  have h := hfine_any (w := w) (A0 := none) (n0 := 0) (c0 := 0) hK hx false true (fun W _ => deepS_nil W 100) (fun W _ => stmts_nil W)
  simpa [okP] using h
end Go.Proofs.YtpmndblakmobdaaGreatDoor
