/-
  What the rows' listed variable (scan.keys) gives a walk; the heap that the door's own run leaves meets the condition (after the guide's worked examples of tied tables).
-/
import Derived.Test.YtpmndblakmobdaaGreatDoorRows
import Derived.Test.YtpmndblakmobdaaGreatDoorShN
import Derived.SliceStrings
import Derived.ProofKit
import Derived.LaidMore
import Derived.Stop.Joined
namespace Go.Proofs.YtpmndblakmobdaaGreatDoor
open Go Go.ChangeShapes Go.WideShapes Go.ChangeAt Go.RowKit

theorem gKeys : Tryz.prog.globalNamed "trammel/scan.keys" = some 0 := by kernel_rfl
theorem tKeys : (Tryz.prog.globals[0]?).map (·.type) = some 93 := by kernel_rfl
theorem door_met (os : Os) (args : Array Value) : laidMetH Tryz.prog [("trammel/scan.keys", Rows.laid_trammel_scan_keys)] ((World.doorLaid Tryz.prog 400 os).forCall (fun _ _ => 0) ⟨#[], args, []⟩).memory :=
  laidMetH_of_parts3 (fuel := 8) (laidMet_of_run' 8 (by kernel_rfl) (by kernel_rfl)) (by kernel_rfl) (by kernel_rfl)
theorem strs_inj : ∀ {a b : List ByteArray}, (strs (H := Unit) a) = strs b → a = b
  | [], [], _ => rfl
  | [], _ :: _, h => by simp [strs] at h
  | _ :: _, [], h => by simp [strs] at h
  | x :: a, y :: b, h => by
    simp only [strs, List.map_cons, List.cons.injEq] at h
    obtain ⟨h1, h2⟩ := h
    have e : x = y := by
      injection h1 with h1
      injection h1 with h1
      exact ByteArray.ext (Array.toList_inj.1 h1)
    rw [e, strs_inj h2]
theorem keys_of_laid {W : World} (h : laidMetH Tryz.prog [("trammel/scan.keys", Rows.laid_trammel_scan_keys)] W) : Keys W := by
  rw [MakeChecks.laidMetH_plain _ _ _ (by kernel_rfl)] at h
  obtain ⟨ps, ⟨g0, t0, cs0, f0, p0, q0, hg0, ht0, hv0, hd0, _, _⟩, _, _⟩ := h
  obtain rfl := Option.some.inj (gKeys.symm.trans hg0)
  obtain rfl := Option.some.inj (tKeys.symm.trans ht0)
  rcases open_strings Tryz.underlying93 Tryz.underlying9 (by kernel_rfl) hd0 with ⟨_, hx⟩ | ⟨a, len, cap, ss, hcs, _, hl, hm, hz, hx, hcell, hsz⟩
  · simp [Rows.laid_trammel_scan_keys] at hx
  simp only [Prod.mk.injEq] at hx
  have hx1 : (DataW.slice (strs keyL) [] : DataW Unit) = .slice (strs (ss.take len)) (strs (ss.drop len)) := hx.1
  injection hx1 with e1 e2
  have e3 := strs_inj e1
  have e4 : ss.drop len = [] := by
    cases hd : ss.drop len with
    | nil => rfl
    | cons x y => rw [hd] at e2; simp [strs] at e2
  have e5 : ss = keyL := by
    have := List.take_append_drop len ss
    rw [e4, List.append_nil, ← e3] at this
    exact this.symm
  have hlen : len = 19 := by
    have h1 : (ss.take len).length = 19 := by rw [← e3]; rfl
    have h2 : ss.length = 19 := by rw [e5]; rfl
    have h3 : ss.length ≤ len := by
      have := congrArg List.length e4
      simp at this
      omega
    rw [List.length_take] at h1
    have h4 : len ≤ ss.length := by
      rw [hz]; split <;> omega
    omega
  subst hlen
  have hc0 := World.var?_cell hg0 hv0 0
  rw [Array.eq_one_of_toList hcs] at hc0
  have hnone : a.spot = none := by
    have h0 := hcell 0 (by rw [e5]; decide)
    simpa [Addr.add] using World.cell?_spot h0
  obtain ⟨b, off, spot⟩ := a
  simp only at hnone
  subst hnone
  refine ⟨some ⟨b, off, none⟩, cap, by simpa using hc0, hl, hm, by decide, (fun h => by cases h), fun i hi => ⟨b, off, rfl, trivial, ?_, ?_⟩⟩
  · have h1 := hcell i (by rw [e5]; exact hi)
    rw [e5] at h1
    have e6 : keyL.getD i ByteArray.empty = keyL[i] := by simp [List.getD, hi]
    rw [e6] at h1
    rw [Nat.mul_one]
    rw [addr_add] at h1
    exact h1
  · exact hsz _ (by rw [e5]; exact List.getElem_mem hi)
end Go.Proofs.YtpmndblakmobdaaGreatDoor
