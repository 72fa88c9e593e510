/-
  The reference's Same of formulas that are the same, and its Copy.
-/
import Derived.Test.YtpmndblakmobdaaDoorFrmA
import Derived.Test.YtpmndblakmobdaaDoorLater
import Derived.Test.YtpmndblakmobdaaDoorLin3
import Derived.Test.YtpmndblakmobdaaDoorOwnL
import Derived.Deep.RegionLaw
import Derived.Deep.DeepCutAuto
namespace Go.Proofs.YtpmndblakmobdaaDoor
open Go Go.RowKit

theorem shape4 : ∀ {n : Nat} {R : Nat → Prop} {w : World} {cs : List Value} {x : FT n}, (formV n) R w cs x → ∃ kd c A tl cap B kl capk, cs = [.int .i64 kd, .int .i64 c, .slice A tl cap, .slice B kl capk]
  | 0, _, _, _, _, h => h.elim
  | n + 1, _, _, _, _, h => by
    obtain ⟨A, cap, B, capk, e, _⟩ := node_cells h
    exact ⟨_, _, _, _, _, _, _, _, e⟩
theorem obj4_frozen {w : World} {b : Nat} {x y z u : Value} {t : TypeId} (h : w.heap[b]? = some (.cells #[x, y, z, u] t (0, 0))) (i : Nat) : w.frozen? ⟨b, i, none⟩ = false := by
  simp [World.frozen?, h]
def SameOk (n : Nat) : Prop := ∀ (f : FT n) (R R' : Nat → Prop) (w : World) (cs cs' : List Value), (formV n) R w cs f → (formV n) R' w cs' f →
    Calls Tryd.prog 17 #[.agg cs.toArray, .agg cs'.toArray] w fun e w' => e = .returned (.bool true) ∧ Chg No w w'
set_option maxRecDepth 100000 in
set_option maxHeartbeats 2000000 in
theorem same_step (n : Nat) (IH : Hid (SameOk n)) : SameOk (n + 1) := by
    rintro f R R' w cs cs' h h'
    obtain ⟨A, cap, B, capk, rfl, i1, i2, hm, hk⟩ := node_cells h
    obtain ⟨A', cap', B', capk', rfl, _, _, hm', hk'⟩ := node_cells h'
    have HK := Lib.hid (fun W (h : Chg No w W) => hk.no (formE_good n) h)
    have HK' := Lib.hid (fun W (h : Chg No w W) => hk'.no (formE_good n) h)
    have hb2 := hk.big
    unfold big at hb2
    have HS : Hid (∀ W, Chg No w W → Calls Tryd.prog 21 #[.agg #[.int .i64 (Node.lin f).1, .slice A (Node.lin f).2.length cap], .agg #[.int .i64 (Node.lin f).1, .slice A' (Node.lin f).2.length cap']] W fun e w' => e = .returned (.bool true) ∧ Chg No W w') := fun W hW => by
      have := ref01Same_any (c := (Node.lin f).1) (c' := (Node.lin f).1) (hm.no monoE_good hW) (hm'.no monoE_good hW)
      simpa using this
    clear h h' hm hk hm' hk'
    generalize Node.kind f = kd at *
    generalize (Node.lin f).1 = c at *
    generalize (Node.lin f).2.length = tl at *
    generalize Node.kids f = ks at *
    obtain ⟨w3, hw3⟩ : ∃ w3, w3 = (w.alloc (.cells #[.int .i64 kd, .int .i64 c, .slice A tl cap, .slice B ks.length capk] 45)).alloc (.cells #[.int .i64 kd, .int .i64 c, .slice A' tl cap', .slice B' ks.length capk'] 45) := ⟨_, rfl⟩
    have h3 : Hid (Chg No w w3 ∧ w3.heap[w.heap.size]? = some (.cells #[.int .i64 kd, .int .i64 c, .slice A tl cap, .slice B ks.length capk] 45 (0, 0)) ∧ w3.heap[w.heap.size + 1]? = some (.cells #[.int .i64 kd, .int .i64 c, .slice A' tl cap', .slice B' ks.length capk'] 45 (0, 0))) := by
      rw [hw3]; exact ⟨((Chg.refl _ _).alloc _).alloc _, at_old (heap_alloc_new _ _), at_new (by simp)⟩
    go_enter Tryd.func17, Tryd.ntmps17
    go_upto_region 1 with fail
    rw [← hw3]
    clear hw3
    obtain ⟨p0, p1, p2, p3⟩ := obj_four h3.out.2.1
    obtain ⟨q0, q1, q2, q3⟩ := obj_four h3.out.2.2
    go_wp2_with (go_at_call 21; refine (HS.out _ h3.out.1).mono ?_; rintro e w4 ⟨rfl, h4⟩; have H4 := Lib.hid h4; clear h4)
    clear p0 p1 p2 p3 q0 q1 q2 q3
    go_loopw [5] (fun s5 wr => ∃ i : Nat, s5 = .int .i64 i ∧ i ≤ ks.length ∧ Hid (Chg No w4 wr)) (fun s5 _ => ks.length - (intOf s5).toNat)
    case atStart => exact ⟨0, rfl, Nat.zero_le _, Chg.refl _ _⟩
    case round =>
      obtain ⟨i, rfl, gi, hch⟩ := hrel
      have HC := Lib.hid (H4.out.thenNo hch.out)
      obtain ⟨p0, p1, p2, p3⟩ := obj_four (HC.out.obj h3.out.2.1 id)
      obtain ⟨q0, q1, q2, q3⟩ := obj_four (HC.out.obj h3.out.2.2 id)
      by_cases hlt : i < ks.length
      · obtain ⟨b, o, v0, v1, v2, v3, rfl, hv, x0, x1, x2, x3⟩ := forms_at (HK.out wr (h3.out.1.thenNo HC.out)) i hlt
        obtain ⟨b', o', u0, u1, u2, u3, rfl, hu, y0, y1, y2, y3⟩ := forms_at (HK'.out wr (h3.out.1.thenNo HC.out)) i hlt
        have i0 : (0 : Int) ≤ (i : Int) := by omega
        have i1 : (i : Int) < (ks.length : Int) := by omega
        have HSl : Hid (∀ d os, Calls Tryd.prog 17 #[.agg #[v0, v1, v2, v3], .agg #[u0, u1, u2, u3]] (later wr d os) fun e w'' => e = .returned (.bool true) ∧ ∃ p : Lat, w'' = later wr p.d p.os) := fun d os =>
          Calls.later_of (IH.out _ _ _ _ _ _ ((formV_good n).no hv (chg_later wr d os)) ((formV_good n).no hu (chg_later wr d os)))
        clear hv hu
        have lp := cell_later p3
        have lq := cell_later q3
        have l0 := cell_later x0
        have l1 := cell_later x1
        have l2 := cell_later x2
        have l3 := cell_later x3
        have k0 := cell_later y0
        have k1 := cell_later y1
        have k2 := cell_later y2
        have k3 := cell_later y3
        go_wp2_with fail
        refine wp_region_later (by kernel_rfl) (by kernel_rfl) ?_
        repeat (go_big_quiet_step ((go_at_call 17; exact HSl.out _ _)))
        refine wpQuiet_nil ?_
        intro _ hw'
        obtain ⟨⟨dq, osq⟩, hw''⟩ := hw'
        subst hw''
        have Hc := Lib.hid (hch.out.thenNo (chg_later wr dq osq))
        go_wp2
        go_roundw
        case rel => exact ⟨i + 1, by go_num, hlt, Hc.out⟩
        case measure => simp [intOf]; omega
      · go_wp2
        go_ret
        exact ⟨rfl, h3.out.1.thenNo HC.out⟩
theorem refSame_any : ∀ n, SameOk n
  | 0 => fun _ _ _ _ _ _ h => h.elim
  | n + 1 => same_step n (Lib.hid (refSame_any n))

section
variable {P : Program} {α : Type} {V : ElV α} {t e : TypeId} {z : Value} {ops : Array Oper} {o : Oper} {act : Act} {Q : Exit → Act → World → Prop} {K : Act → World → Prop} {F : Prop}
/-- append([]T{}, src...) at a step of a region that draws its order. -/
theorem step_copyL (g : V.Good) (h1 : ∀ {R w cs x}, V R w cs x → ∀ u ∈ cs, u.oneCell' = true) (T : SliceTy P t e V.sz V.bytes z) (hgd : o.guard = none) (s xo : Operand)
    (ho : o.op = .call { callee := .builtin .append, args := #[s, xo], argTypes := #[t, t] })
    {M : Nat → Prop} {w W0 : World} {b : Nat} (hb : w.heap[b]? = some (.cells #[] e (0, 0))) (hMb : M b) (hM : ∀ k, w.heap.size ≤ k → M k) (hMW : ∀ k, M k → W0.heap.size ≤ k) (hw : Chg No W0 w) (hs : act.eval s = .slice (some ⟨b, 0, none⟩) 0 0) {R : Nat → Prop} {A : Option Addr} {l : List α} {n cap : Nat} (hn : n = l.length) (hl : Sl V.mem V.sz R W0 A l cap) (hx : act.eval xo = .slice A n cap)
    (h : ∀ A' cap' w', OwnL V e M R w' (.slice A' l.length cap') l → Chg No W0 w' → Chg (fun k => k = b) w w' → K (act.put o.dst (.slice A' n cap')) w') :
    if Region.wanted o (yielded ops act.tmps) = true then Oper.wp P o act w K Q else F := by
  subst hn
  have hown : Own M e V.sz w (.slice (some ⟨b, 0, none⟩) 0 0) 0 [] :=
    ⟨by simp, .inr ⟨b, 0, 0, #[], rfl, hMb, hb, Nat.le_refl _, Nat.zero_le _, by simp, by simp⟩⟩
  obtain ⟨C, hC1, hC2, hC3, hC4⟩ := hl.cellsOf
  have hroom : l.length * V.bytes ≤ 140737488355328 := hl.room
  have keep : ∀ {w' : World} {A' : Option Addr} {n' cap' : Nat}, Chg No W0 w' → (∀ k, (Value.slice A' n' cap').ownBlock = some k → W0.heap.size ≤ k) → ∀ i (h1 : i < l.length) (h2 : i < C.length), V (fun k => R k ∧ (Value.slice A' n' cap').ownBlock ≠ some k) w' C[i] l[i] := fun hcw hfar i h1 h2 => by
    have e1 := g.mono (hC3 i h1 h2) (R' := fun k => R k ∧ k < W0.heap.size) (fun k hk hR => ⟨hR, hk⟩)
    exact g.mono (g.no e1 hcw) (fun k _ hk => ⟨hk.1, fun e => by have := hfar k e; omega⟩)
  cases A with
  | none =>
    have h0 : l = [] := List.eq_nil_of_length_eq_zero (by have := hl.le; have := hl.nil rfl; omega)
    subst h0
    have hwt : Region.wanted o (yielded ops act.tmps) = true := by simp [Region.wanted, hgd]
    rw [if_pos hwt]
    have hrun := run_append_none (P := P) T o.type hown cap
    unfold Oper.wp execOp
    simp only [ho, resolve, invoke, builtin, Sem.run_bind, Sem.run_pure, Result.andThen_ok, List.map_toArray, List.map_cons, List.map_nil, hs, hx, List.length_nil, hrun]
    exact h (some ⟨b, 0, none⟩) 0 _ ⟨[], hown, rfl, fun i h => absurd h (Nat.not_lt_zero i)⟩ hw (Chg.refl _ _)
  | some a =>
    refine step_append_Own T hgd s xo ho hM hown hs (a := a) (m := l.length) (c := cap) (news := C.flatten) hx (by rw [flatten_length hC2, hC1]) (fun j u hj => ?_) (fun u hu => ?_) (by rw [Nat.zero_add]; exact hroom) (fun A cap' w' g1 g2 g3 => ?_)
    · rcases hC4 with h0 | ⟨b, o, hA, hcell⟩
      · subst h0
        have : C = [] := List.eq_nil_of_length_eq_zero (by simpa using hC1)
        subst this; simp at hj
      · injection hA with hA
        rw [hA, addr_add]
        exact hw.cell (hcell j u hj) id
    · obtain ⟨c, hcC, huc⟩ := List.mem_flatten.1 hu
      obtain ⟨i, hi, rfl⟩ := List.getElem_of_mem hcC
      exact h1 (hC3 i (by omega) hi) u huc
    · simp only [Nat.zero_add, List.nil_append] at g1 g3 ⊢
      have hcw : Chg No W0 w' := hw.trans g2 (fun k hk hlt => by simp [Value.ownBlock] at hk; have := hMW b hMb; omega)
      exact h A cap' w' ⟨C, g1, hC1, keep hcw (fun k hk => hMW k (g1.mine k hk).1)⟩ hcw (g2.mono (fun k hk _ => by simp [Value.ownBlock] at hk; exact hk.symm))
end
end Go.Proofs.YtpmndblakmobdaaDoor
