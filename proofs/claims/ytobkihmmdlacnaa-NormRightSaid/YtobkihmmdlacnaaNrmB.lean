/-
  The document's example of layer 3, and the walk over NormIs.
-/
import Derived.Test.YtobkihmmdlacnaaNrmA
import Derived.Test.YtobkihmmdlacnaaCnfC
import Derived.Test.YtobkihmmdlacnaaLater
namespace Go.Proofs.Ytobkihmmdlacnaa
open Go Go.RowKit

theorem monos_one {w : World} {b : Nat} {v k : Int} {e : TypeId} {fr : Nat × Nat} (h : w.heap[b]? = some (.cells #[.int .i64 v, .int .i64 k] e fr)) (hv : I64 v) (hk : I64 k) : Monos (fun q => q = b) w (some ⟨b, 0, none⟩) [(v, k)] 1 := by
  refine ⟨Nat.le_refl _, by decide, (by show 1 * 16 ≤ big; decide), (fun h => by cases h), fun i hi => ⟨b, 0, rfl, ?_⟩⟩
  obtain rfl : i = 0 := by simpa using hi
  exact monoE_of rfl (by simp [World.cell?, h]) (by simp [World.cell?, h]) hv hk
theorem form_of {n : Nat} {R : Nat → Prop} {w : World} {x : Node (FT n)} {A B : Option Addr} {cap capk : Nat} (h1 : I64 x.kind) (h2 : I64 x.lin.1) (h3 : Monos R w A x.lin.2 cap) (h4 : Forms R w B x.kids capk) :
    (formV (n + 1)) R w [.int .i64 x.kind, .int .i64 x.lin.1, .slice A x.lin.2.length cap, .slice B x.kids.length capk] x :=
  ⟨A, cap, B, capk, rfl, h1, h2, h3, by rw [formV_sz]; exact h4⟩
theorem shape_f : ∀ {n : Nat} {R : Nat → Prop} {w : World} {cs : List Value} {x : FT n}, (formV n) R w cs x → ∃ kd c A tl cap B kl capk, cs = [.int .i64 kd, .int .i64 c, .slice A tl cap, .slice B kl capk]
  | 0, _, _, _, _, h => h.elim
  | n + 1, _, _, _, _, h => by
    obtain ⟨A, cap, B, capk, e, _⟩ := node_cells h
    exact ⟨_, _, _, _, _, _, _, _, e⟩

def shownF : FT 1 := ⟨2, (2, [(0, 1)]), []⟩
theorem shown_is : isB 1 shownF = true := by decide
theorem shown_lin : linB 3 [(0, 2)] = true ∧ gcdN [(0, 2)] = 2 ∧ upI 3 2 = 2 ∧ divT [(0, 2)] 2 = [(0, 1)] := by decide

set_option maxHeartbeats 1000000 in
theorem shown_any (w : World) : Calls Try.prog 9 #[] w fun e w' => e = .returned (.bool true) ∧ Chg No w w' := by
  have HL : Hid (∀ W b, W.heap[b]? = some (.cells #[.int .i64 0, .int .i64 2] 51 (0, 0)) → Calls Try.prog 10 #[.agg #[.int .i64 3, .slice (some ⟨b, 0, none⟩) 1 1]] W fun e w' => ∃ A' cap', e = .returned (.tuple #[.agg #[.int .i64 2, .int .i64 2, .slice A' 1 cap', .slice none 0 0], .nilIface]) ∧
      Monos (fun k => W.heap.size ≤ k) w' A' [(0, 1)] cap' ∧ Chg No W w') := fun W b hb => by
    have h := literal_pos (w := W) 3 (monos_one hb (by unfold I64; decide) (by unfold I64; decide)) shown_lin.1 (by decide) (by rw [shown_lin.2.1]; decide) (by rw [shown_lin.2.1]; decide)
    rw [shown_lin.2.1] at h
    rw [show ((2 : Nat) : Int) = 2 from rfl, shown_lin.2.2.1, shown_lin.2.2.2] at h
    exact h
  have HI : Hid (∀ R W A' cap', Monos R W A' [(0, 1)] cap' → Calls Try.prog 15 #[.agg #[.int .i64 2, .int .i64 2, .slice A' 1 cap', .slice none 0 0]] W fun e w' => e = .returned (.bool true) ∧ Chg No W w') := fun R W A' cap' h => by
    have := normIs_any (n := 1) (f := shownF) (form_of (n := 0) (x := shownF) (B := none) (capk := 0) (by show I64 2; unfold I64; decide) (by show I64 2; unfold I64; decide) h Sl.empty)
    rw [shown_is] at this
    exact this
  go_enter Try.func9, Try.ntmps9
  go_wp2_with (first
    | (go_at_call 10; refine (HL.out _ _ (heap_alloc_new _ _)).mono ?_; rintro e w1 ⟨A1, c1, rfl, g1, h1⟩; have G1 := Lib.hid g1; have H1 := Lib.hid (((Chg.refl No w).alloc (.cells #[.int .i64 0, .int .i64 2] 51)).thenNo h1); clear g1 h1)
    | (go_at_call 15; refine (HI.out _ _ _ _ (G1.out.no monoE_good ((Chg.refl No w1).alloc _))).mono ?_; rintro e w2 ⟨rfl, h2⟩; have H2 := Lib.hid h2; clear h2))
  go_ret
  exact ⟨rfl, (H1.out.alloc _).thenNo H2.out⟩

theorem small3_any {n : Nat} {f : FT n} {R : Nat → Prop} {w : World} {cs : List Value} (h : (formV n) R w cs f) :
    Calls Try.prog 14 #[.agg cs.toArray] w fun e w' => ∃ q, e = .returned (.bool q) ∧ Chg No w w' := by
  have hg := formV_good n
  obtain ⟨kd, c, A, tl, cap, B, kl, capk, rfl⟩ := shape_f h
  have HL := Lib.hid (fun W (hc : Chg No w W) => lightF_any n f R W _ (hg.no h hc) 30000 200 (by omega) (by omega) (by omega) (by omega))
  clear h
  go_enter Try.func14, Try.ntmps14
  go_wp2_with (go_at_call 19; refine (HL.out _ ((Chg.refl _ _).alloc _)).mono ?_; rintro e w1 ⟨m, rfl, _, _, h1⟩)
  go_ret
  exact ⟨_, rfl, ((Chg.refl _ _).alloc _).thenNo h1⟩

set_option maxRecDepth 100000 in
set_option maxHeartbeats 1000000 in
theorem normIs_walk {n : Nat} {f : FT n} {R : Nat → Prop} {w : World} {cs : List Value} (h : (formV n) R w cs f) :
    Calls Try.prog 4 #[.agg cs.toArray] w fun e w' => e = .returned (.bool true) ∧ Chg No w w' := by
  have hg := formV_good n
  obtain ⟨kd, c, A, tl, cap, B, kl, capk, rfl⟩ := shape_f h
  have HU := Lib.hid (fun W => shown_any W)
  have HS := Lib.hid (fun W (hc : Chg No w W) => small3_any (hg.no h hc))
  have HN := Lib.hid (fun W (hc : Chg No w W) => normIs_any (hg.no h hc))
  have HR := Lib.hid (fun W (hc : Chg No w W) => ref03Is_any (hg.no h hc))
  rw [← is_eq] at HR
  clear h
  generalize isB n f = ib at *
  have h0 : Hid (Chg No w (w.alloc (.cells #[.int .i64 kd, .int .i64 c, .slice A tl cap, .slice B kl capk] 28)) ∧ (w.alloc (.cells #[.int .i64 kd, .int .i64 c, .slice A tl cap, .slice B kl capk] 28)).heap[w.heap.size]? = some (.cells #[.int .i64 kd, .int .i64 c, .slice A tl cap, .slice B kl capk] 28 (0, 0))) := ⟨(Chg.refl _ _).alloc _, heap_alloc_new _ _⟩
  go_enter Try.func4, Try.ntmps4
  go_upto_region 3 with (first
    | (go_at_call 9; refine (HU.out _).mono ?_; rintro e w1 ⟨rfl, h1⟩; have O1 := Lib.hid (h1.obj h0.out.2 id); obtain ⟨p0, p1, p2, p3⟩ := obj_four O1.out; have H1 := Lib.hid (h0.out.1.thenNo h1); clear h1)
    | (go_at_call 14; refine (HS.out _ H1.out).mono ?_; rintro e w2 ⟨q, rfl, h2⟩; have O2 := Lib.hid (h2.obj O1.out id); clear p0 p1 p2 p3; obtain ⟨p0, p1, p2, p3⟩ := obj_four O2.out; have H2 := Lib.hid (H1.out.thenNo h2); clear h2))
  have l0 := cell_later p0
  have l1 := cell_later p1
  have l2 := cell_later p2
  have l3 := cell_later p3
  have HNl : Hid (∀ d os, _) := fun d os => Calls.later_of (HN.out (later w2 d os) (H2.out.thenNo (chg_later w2 d os)))
  have HRl : Hid (∀ d os, _) := fun d os => Calls.later_of (HR.out (later w2 d os) (H2.out.thenNo (chg_later w2 d os)))
  cases q
  all_goals
    refine wp_region_later (by kernel_rfl) (by kernel_rfl) ?_
    repeat (go_big_quiet_step ((first | (go_at_call 15; exact HNl.out _ _) | (go_at_call 16; exact HRl.out _ _))))
    refine wpQuiet_nil ?_
    intro _ hw'
    obtain ⟨⟨dq, osq⟩, hw''⟩ := hw'
    subst hw''
    have Hc := Lib.hid (H2.out.thenNo (chg_later w2 dq osq))
    go_wp2
    go_ret
    exact ⟨by simp, Hc.out⟩
end Go.Proofs.Ytobkihmmdlacnaa
