/-
  Errors that are codes: the walk over the statements' Code.
-/
import Derived.Test.YtpmndblakmobdaaDoorRows
import Derived.Test.YtpmndblakmobdaaDoorBase
import Derived.LaidEql
namespace Go.Proofs.YtpmndblakmobdaaDoor
open Go Go.RowKit
section
variable {P : Program} (w : World)

theorem run_equalIn_iface_ints (d : Nat) {ti tn : TypeId} {ms : Array (String × TypeId)} {i : TypeInfo} {k : IntKind} (a b : Int)
    (hi : P.underlying ti = some (.interface ms)) (hn : P.underlying tn = some (.int k)) (hinfo : P.info? tn = some i) (hcomp : i.comparable = true) :
    (Op.equalIn (d + 2) ti (.iface tn (.int k a)) (.iface tn (.int k b))).run P w = .ok (a == b) w := by
  simp [Op.equalIn, run_underlying hi, run_underlying hn, typeInfo, hinfo, hcomp]

theorem run_eql_iface_ints {ti tn : TypeId} {ms : Array (String × TypeId)} {i : TypeInfo} {k : IntKind} (a b : Int)
    (hi : P.underlying ti = some (.interface ms)) (hn : P.underlying tn = some (.int k)) (hinfo : P.info? tn = some i) (hcomp : i.comparable = true) :
    (binOp .eql ti (.iface tn (.int k a)) (.iface tn (.int k b))).run P w = .ok (.bool (a == b)) w := by
  simp only [binOp]
  simp [Op.equal, Op.maxDepth, run_equalIn_iface_ints w 9998 a b hi hn hinfo hcomp]
theorem run_neq_iface_ints {ti tn : TypeId} {ms : Array (String × TypeId)} {i : TypeInfo} {k : IntKind} (a b : Int)
    (hi : P.underlying ti = some (.interface ms)) (hn : P.underlying tn = some (.int k)) (hinfo : P.info? tn = some i) (hcomp : i.comparable = true) :
    (binOp .neq ti (.iface tn (.int k a)) (.iface tn (.int k b))).run P w = .ok (.bool (!(a == b))) w := by
  simp only [binOp]
  simp [Op.equal, Op.maxDepth, run_equalIn_iface_ints w 9998 a b hi hn hinfo hcomp]
end

theorem errInfo : ∃ i, Tryd.prog.info? 64 = some i ∧ i.comparable = true :=
  Option.map_eq_some_iff.1 (show (Tryd.prog.info? 64).map (·.comparable) = some true by kernel_rfl)

theorem code_nil (w : World) : Calls Tryd.prog 11 #[.nilIface] w fun e w' => e = .returned (.int .i64 0) ∧ w = w' := by
  go_enter Tryd.func11, Tryd.ntmps11
  go_wp2
  go_ret
  exact ⟨rfl, rfl⟩

set_option maxHeartbeats 400000 in
theorem code_code (w : World) (c : Int) (h1 : 1 ≤ c) (h2 : c ≤ 16) : Calls Tryd.prog 11 #[.iface 64 (.int .i64 c)] w fun e w' => e = .returned (.int .i64 c) ∧ w = w' := by
  obtain ⟨i, hi, hc⟩ := errInfo
  have he : ∀ (w : World) (b : Int), (binOp .eql 26 (.iface 64 (.int .i64 c)) (.iface 64 (.int .i64 b))).run Tryd.prog w = .ok (.bool (c == b)) w := fun w b => run_eql_iface_ints w c b Tryd.underlying26 Tryd.underlying64 hi hc
  clear hi hc
  go_enter Tryd.func11, Tryd.ntmps11
  go_wp2
  go_loop [3] (fun i => ∃ k : Int, i = .int .i64 k ∧ 1 ≤ k ∧ k ≤ c) (fun i => (17 - intOf i).toNat)
  case atStart => exact ⟨1, rfl, by omega, h1⟩
  case round =>
    obtain ⟨k, rfl, hk1, hk2⟩ := hrel
    go_wp2
    · have h : (c == k) = true := by assumption
      go_ret
      have h' : c = k := by simpa using h
      exact ⟨by rw [h']; rfl, rfl⟩
    · have h : (c == k) = false := by assumption
      have h' : c ≠ k := by simpa using h
      go_round
      case rel => exact ⟨k + 1, rfl, by omega, by omega⟩
      case measure => simp [intOf]; omega

theorem code_any (w : World) (c : Int) (h1 : 0 ≤ c) (h2 : c ≤ 16) : Calls Tryd.prog 11 #[errV 64 c] w fun e w' => e = .returned (.int .i64 c) ∧ w = w' := by
  by_cases h : c = 0
  · subst h; exact code_nil w
  · rw [show errV 64 c = .iface 64 (.int .i64 c) by simp [errV, h]]
    exact code_code w c (by omega) h2
end Go.Proofs.YtpmndblakmobdaaDoor
