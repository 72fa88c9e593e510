/-
  The walks over the statements of layer 6.
-/
import Derived.Test.YtcapcghaihmfeaaPropUp
import Derived.Test.YtcapcghaihmfeaaProp5
import Derived.Test.YtcapcghaihmfeaaProp6
import Derived.Test.YtcapcghaihmfeaaCode
import Derived.Test.YtcapcghaihmfeaaOpen
import Derived.Deep.QuietTactic
import Derived.BigQuiet
namespace Go.Proofs.Ytcapcghaihmfeaa
open Go Go.RowKit

theorem lits_all (n : Int) (lits : List Int) : badLits n lits = !lits.all (litB n) := by
  unfold badLits; exact all_litB n lits

section
variable {R R' : Nat → Prop} {w : World} (n : Int) {A A' : Option Addr} {cl : List (List Int)} {cap cap' : Nat} (hcl : Rows2 R w A cl cap) {lits : List Int} (hlits : Ints R' w A' lits cap') (hgood : chk n cl = 0)
include hcl hlits hgood
theorem follow_confl (hfine : lits.all (litB n) = true) (hC : ¬ ∃ a, Fol n.toNat cl lits a) :
    Calls Try.prog 12 #[.int .i64 n, .slice A cl.length cap, .slice A' lits.length cap'] w fun e w' => e = .returned (.tuple #[.slice none 0 0, .bool true, .nilIface]) ∧ Chg No w w' :=
  (follow_good n hcl hlits hgood (by rw [lits_all, hfine]; rfl)).mono (by
    rintro e w' ⟨hch, ⟨rfl, _⟩ | ⟨a, ba, rfl, hf, _⟩⟩
    · exact ⟨rfl, hch⟩
    · exact absurd ⟨a, hf⟩ hC)
theorem follow_fine {a : List Int} (hfine : lits.all (litB n) = true) (hf : Fol n.toNat cl lits a) :
    Calls Try.prog 12 #[.int .i64 n, .slice A cl.length cap, .slice A' lits.length cap'] w fun e w' => ∃ ba, e = .returned (.tuple #[.slice (some ⟨ba, 0, none⟩) a.length a.length, .bool false, .nilIface]) ∧ w.heap.size ≤ ba ∧ w'.heap[ba]? = some (.cells (a.map (Value.int .i64)).toArray 3 (0, 0)) ∧ Chg No w w' :=
  (follow_good n hcl hlits hgood (by rw [lits_all, hfine]; rfl)).mono (by
    rintro e w' ⟨hch, ⟨rfl, h⟩ | ⟨a, ba, rfl, hf', h1, h2⟩⟩
    · exact absurd h hf.fine
    · obtain rfl := hf'.unique hf
      exact ⟨ba, rfl, h1, h2, hch⟩)
theorem refFollow_confl (hfine : lits.all (litB n) = true) (hC : ¬ ∃ a, Fol n.toNat cl lits a) :
    Calls Try.prog 16 #[.int .i64 n, .slice A cl.length cap, .slice A' lits.length cap'] w fun e w' => e = .returned (.tuple #[.slice none 0 0, .bool true]) ∧ Chg No w w' :=
  (refFollow_any n hcl hlits hgood hfine).mono (by
    rintro e w' ⟨hch, ⟨rfl, _⟩ | ⟨a, ba, rfl, hf, _⟩⟩
    · exact ⟨rfl, hch⟩
    · exact absurd ⟨a, hf⟩ hC)
theorem refFollow_fine {a : List Int} (hfine : lits.all (litB n) = true) (hf : Fol n.toNat cl lits a) :
    Calls Try.prog 16 #[.int .i64 n, .slice A cl.length cap, .slice A' lits.length cap'] w fun e w' => ∃ ba, e = .returned (.tuple #[.slice (some ⟨ba, 0, none⟩) a.length a.length, .bool false]) ∧ w.heap.size ≤ ba ∧ w'.heap[ba]? = some (.cells (a.map (Value.int .i64)).toArray 3 (0, 0)) ∧ Chg No w w' :=
  (refFollow_any n hcl hlits hgood hfine).mono (by
    rintro e w' ⟨hch, ⟨rfl, h⟩ | ⟨a, ba, rfl, hf', h1, h2⟩⟩
    · exact absurd h hf.fine
    · obtain rfl := hf'.unique hf
      exact ⟨ba, rfl, h1, h2, hch⟩)
end

set_option maxHeartbeats 4000000 in
theorem propFollows_walk {w : World} (n : Int) (_ : I64 n) {A : Option Addr} {cl : List (List Int)} {cap : Nat} (hcl : Rows2 (Old w) w A cl cap) {A' : Option Addr} {lits : List Int} {cap' : Nat} (hlits : Ints (Old w) w A' lits cap') :
    Calls Try.prog 4 #[.int .i64 n, .slice A cl.length cap, .slice A' lits.length cap'] w fun e w' => e = .returned (.bool true) ∧ Chg No w w' := by
  have HU := Lib.hid (up_any w)
  have HCL := Lib.hid (fun W (h : Chg No w W) => hcl.no rowE_good h)
  have HLI := Lib.hid (fun W (h : Chg No w W) => hlits.no intE_good h)
  have hlb := hlits.big
  unfold big at hlb
  clear hcl hlits
  have hv := chk_vals n cl
  by_cases hgood : chk n cl = 0
  · have HR := Lib.hid (fun W (h : Chg No w W) => refCheck_any n _ W A cl cap (HCL.out W h))
    rw [hgood] at HR
    obtain ⟨N, hnN, hN, _, _⟩ := chk_zero hgood
    have hn0 : 0 ≤ n ∧ n ≤ 8192 := by omega
    have HLt := Lib.hid (fun W (h : Chg No w W) => lits_any n _ W A' lits cap' (HLI.out W h) hn0.1 hn0.2)
    have hlit := lits_all n lits
    cases hall : lits.all (litB n)
    · rw [hall] at hlit HLt
      have HF := Lib.hid (fun W (h : Chg No w W) => follow_lits n (HCL.out W h) (HLI.out W h) hgood hlit)
      have HC5 := Lib.hid (fun W => code_any W 5 (by omega) (by omega))
      clear hgood hlit hall hv hnN hN hn0
      go_enter Try.func4, Try.ntmps4
      go_wp2_with (first
        | (go_at_call 9; refine HU.out.mono ?_; rintro e w1 ⟨rfl, h1⟩)
        | (go_at_call 11; refine (light_any n _ w1 A cl cap (HCL.out w1 h1)).mono ?_; rintro e w2 ⟨b, rfl, rfl⟩)
        | (go_at_call 12; refine (HF.out w1 h1).mono ?_; rintro e w3 ⟨rfl, h3⟩; have h4 := h1.thenNo h3)
        | (go_at_call 13; refine (HR.out w3 h4).mono ?_; rintro e w5 ⟨rfl, rfl⟩)
        | (go_at_call 14; refine (HLt.out w3 h4).mono ?_; rintro e w5 ⟨rfl, rfl⟩)
        | (go_at_call 15; refine (HC5.out w3).mono ?_; rintro e w5 ⟨rfl, rfl⟩))
      all_goals
        go_ret
        first | exact ⟨rfl, h4⟩ | exact ⟨rfl, h1⟩
    · rw [hall] at hlit HLt
      by_cases hC : ¬ ∃ a, Fol n.toNat cl lits a
      · have HF := Lib.hid (fun W (h : Chg No w W) => follow_confl n (HCL.out W h) (HLI.out W h) hgood hall hC)
        have HG := Lib.hid (fun W (h : Chg No w W) => refFollow_confl n (HCL.out W h) (HLI.out W h) hgood hall hC)
        clear hgood hlit hall hv hnN hN hn0 hC
        go_enter Try.func4, Try.ntmps4
        go_wp2_with (first
          | (go_at_call 9; refine HU.out.mono ?_; rintro e w1 ⟨rfl, h1⟩)
          | (go_at_call 11; refine (light_any n _ w1 A cl cap (HCL.out w1 h1)).mono ?_; rintro e w2 ⟨b, rfl, rfl⟩)
          | (go_at_call 12; refine (HF.out w1 h1).mono ?_; rintro e w3 ⟨rfl, h3⟩; have h4 := h1.thenNo h3)
          | (go_at_call 13; refine (HR.out w3 h4).mono ?_; rintro e w5 ⟨rfl, rfl⟩)
          | (go_at_call 14; refine (HLt.out w3 h4).mono ?_; rintro e w5 ⟨rfl, rfl⟩)
          | (go_at_call 16; refine (HG.out w3 h4).mono ?_; rintro e w6 ⟨rfl, h5⟩; have h6 := h4.thenNo h5))
        · go_ret
          exact ⟨rfl, h1⟩
        · go_loop [15] (fun i => i = .int .i64 0) (fun _ => 0)
          case atStart => exact rfl
          case round =>
            obtain rfl := hrel
            go_wp2
            go_ret
            exact ⟨rfl, h6⟩
        · go_ret
          exact ⟨rfl, h1⟩
      · obtain ⟨a, hf⟩ := Classical.not_not.1 hC
        have HF := Lib.hid (fun W (h : Chg No w W) => follow_fine n (HCL.out W h) (HLI.out W h) hgood hall hf)
        have HG := Lib.hid (fun W (h : Chg No w W) => refFollow_fine n (HCL.out W h) (HLI.out W h) hgood hall hf)
        have Hf := Lib.hid hf
        have hal : a.length ≤ 9000 := by have := hf.len; omega
        clear hgood hlit hall hv hC hf hnN hN hn0
        go_enter Try.func4, Try.ntmps4
        go_wp2_with (first
          | (go_at_call 9; refine HU.out.mono ?_; rintro e w1 ⟨rfl, h1⟩)
          | (go_at_call 11; refine (light_any n _ w1 A cl cap (HCL.out w1 h1)).mono ?_; rintro e w2 ⟨b, rfl, rfl⟩)
          | (go_at_call 12; refine (HF.out w1 h1).mono ?_; rintro e w3 ⟨ba, rfl, hba, hbl, h3⟩; have Hbl := Lib.hid hbl; clear hbl; have h4 := h1.thenNo h3)
          | (go_at_call 13; refine (HR.out w3 h4).mono ?_; rintro e w5 ⟨rfl, rfl⟩)
          | (go_at_call 14; refine (HLt.out w3 h4).mono ?_; rintro e w5 ⟨rfl, rfl⟩)
          | (go_at_call 16; refine (HG.out w3 h4).mono ?_; rintro e w6 ⟨bb, rfl, hbb, hbl', h5⟩; have Hbl' := Lib.hid hbl'; clear hbl'; have h6 := h4.thenNo h5))
        · go_ret
          exact ⟨rfl, h1⟩
        · have Hc1 : Hid (∀ k, k < a.length → w6.cell? ⟨ba, k, none⟩ = some (.int .i64 (a.getD k 0))) := fun k hk => by
            have h := h5.obj Hbl.out id
            simp [World.cell?, h, hk, List.getD]
          have Hc2 : Hid (∀ k, k < a.length → w6.cell? ⟨bb, k, none⟩ = some (.int .i64 (a.getD k 0))) := fun k hk => by
            simp [World.cell?, Hbl'.out, hk, List.getD]
          go_loopw [15] (fun i wr => ∃ k : Nat, k ≤ a.length ∧ i = .int .i64 k ∧ Chg No w6 wr) (fun i _ => a.length - (intOf i).toNat)
          case atStart => exact ⟨0, Nat.zero_le _, rfl, Chg.refl _ _⟩
          case round =>
            obtain ⟨k, hk, rfl, hch⟩ := hrel
            by_cases hlt : k < a.length
            · have c1 := hch.cell (Hc1.out k hlt) id
              have c2 := hch.cell (Hc2.out k hlt) id
              have hk1 : (k : Int) < (a.length : Int) := by omega
              have hk0 : (0 : Int) ≤ (k : Int) := by omega
              generalize a.getD k 0 = x at *
              go_wp2
              go_quiet (fail)
              go_wp2
              go_roundw
              case rel => exact ⟨k + 1, hlt, by go_num, hch.drewN _⟩
              case measure => simp [intOf]; omega
            · go_wp2
              go_ret
              exact ⟨rfl, h6.thenNo hch⟩
        · go_ret
          exact ⟨rfl, h1⟩
  · have HR := Lib.hid (fun W (h : Chg No w W) => refCheck_any n _ W A cl cap (HCL.out W h))
    have HF := Lib.hid (fun W (h : Chg No w W) => follow_bad n (A' := A') (cap' := cap') (HCL.out W h) lits hgood)
    have HCd := Lib.hid (fun W => code_any W (chk n cl) (by omega) (by omega))
    generalize chk n cl = c at *
    have hcb : (c == 0) = false := by simpa using hgood
    have hcb2 : (c != 0) = true := by simpa using hgood
    clear hv hgood
    go_enter Try.func4, Try.ntmps4
    go_wp2_with (first
      | (go_at_call 9; refine HU.out.mono ?_; rintro e w1 ⟨rfl, h1⟩)
      | (go_at_call 11; refine (light_any n _ w1 A cl cap (HCL.out w1 h1)).mono ?_; rintro e w2 ⟨b, rfl, rfl⟩)
      | (go_at_call 12; refine (HF.out w1 h1).mono ?_; rintro e w3 ⟨rfl, h3⟩; have h4 := h1.thenNo h3)
      | (go_at_call 13; refine (HR.out w3 h4).mono ?_; rintro e w5 ⟨rfl, rfl⟩)
      | (go_at_call 15; refine (HCd.out w3).mono ?_; rintro e w5 ⟨rfl, rfl⟩))
    all_goals
      go_ret
      first | exact ⟨rfl, h4⟩ | exact ⟨rfl, h1⟩
end Go.Proofs.Ytcapcghaihmfeaa
