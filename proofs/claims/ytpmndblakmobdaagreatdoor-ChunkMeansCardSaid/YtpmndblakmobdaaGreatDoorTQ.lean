/-
  NrmQ, NrmT, NrmV, in one file.
-/
import Derived.Test.YtpmndblakmobdaaGreatDoorTG
import Derived.Test.YtpmndblakmobdaaGreatDoorTN
import Derived.Test.YtpmndblakmobdaaGreatDoorMA
import Derived.Deep.RegionLaw
import Derived.Deep.DeepCutAuto
/- NrmQ -/
namespace Go.Proofs.YtpmndblakmobdaaGreatDoor
open Go Go.RowKit

/-- Is a formula true, by values of variables? -/
def truF : (n : Nat) → (Int → Int) → FT n → Bool
  | 0, _, _ => false
  | n + 1, v, f => if Node.kind f = 0 then true else if Node.kind f = 1 then false else if Node.kind f = 2 then decide ((Node.lin f).1 + val v (Node.lin f).2 ≤ 0)
    else if Node.kind f = 3 then decide ((Node.lin f).1 + val v (Node.lin f).2 = 0)
    else if Node.kind f = 4 then !(((Node.kids f).head?.map (truF n v)).getD false)
    else if Node.kind f = 5 then (Node.kids f).all (truF n v) else (Node.kids f).any (truF n v)
/-- Are all its variables' values near? -/
def nearF : (n : Nat) → List Int → FT n → Bool
  | 0, _, _ => true
  | n + 1, vs, f => !farAny vs (Node.lin f).2 && (Node.kids f).all (nearF n vs)
theorem truF_succ (n : Nat) (v : Int → Int) (kd : Int) (l : Lin) (ks : List (FT n)) : truF (n + 1) v (⟨kd, l, ks⟩ : Node (FT n)) = if kd = 0 then true else if kd = 1 then false else if kd = 2 then decide (l.1 + val v l.2 ≤ 0)
    else if kd = 3 then decide (l.1 + val v l.2 = 0) else if kd = 4 then !((ks.head?.map (truF n v)).getD false) else if kd = 5 then ks.all (truF n v) else ks.any (truF n v) := rfl

theorem near_parts {n : Nat} {vs : List Int} {f : Node (FT n)} (h : nearF (n + 1) vs f = true) : farAny vs f.lin.2 = false ∧ ∀ k ∈ f.kids, nearF n vs k = true := by
  have : (!farAny vs f.lin.2 && f.kids.all (nearF n vs)) = true := h
  rw [Bool.and_eq_true, Bool.not_eq_true', List.all_eq_true] at this
  exact this
theorem okS_casesQ {kd : Int} {nb lb : Bool} {kl : Nat} (h : okS kd nb lb kl = true) : (kd = 0 ∨ kd = 1) ∧ nb = true ∧ kl = 0 ∨ (kd = 2 ∨ kd = 3) ∧ lb = true ∧ kl = 0 ∨ kd = 4 ∧ nb = true ∧ kl = 1 ∨ (kd = 5 ∨ kd = 6) ∧ nb = true := by
  unfold okS at h
  simp only [Bool.or_eq_true, Bool.and_eq_true, decide_eq_true_eq] at h
  rcases h with ((h | h) | h) | h
  · exact .inl ⟨h.1.1, h.1.2, h.2⟩
  · exact .inr (.inl ⟨h.1.1, h.1.2, h.2⟩)
  · exact .inr (.inr (.inl ⟨h.1.1, h.1.2, h.2⟩))
  · exact .inr (.inr (.inr h))
theorem noneB_eqQ {c : Int} {tl : Nat} (h : noneB c tl = true) : c = 0 ∧ tl = 0 := by
  unfold noneB at h
  simpa using h
theorem fine_kidsQ {n : Nat} {f : FT (n + 1)} (h : fineF (n + 1) f = true) : okS (Node.kind f) (noneB (Node.lin f).1 (Node.lin f).2.length) (linB (Node.lin f).1 (Node.lin f).2) (Node.kids f).length = true ∧ ∀ k ∈ Node.kids f, fineF n k = true := by
  have e : fineF (n + 1) f = (okSN f && (Node.kids f).all (fineF n)) := rfl
  rw [e, Bool.and_eq_true, List.all_eq_true] at h
  exact h
end Go.Proofs.YtpmndblakmobdaaGreatDoor
/- NrmT -/
namespace Go.Proofs.YtpmndblakmobdaaGreatDoor
open Go Go.RowKit

theorem val_near {c : Int} {t : List Mono} {vs : List Int} (h : linB c t = true) (hf : farAny vs t = false) : linVal c t vs = (c + val (valOf vs) t, 0) := by
  unfold linVal
  rw [if_pos h, hf, if_neg (by decide)]
set_option maxRecDepth 10000 in
theorem entered_value1 : Entered 47 := fun _ _ => rfl
set_option maxRecDepth 10000 in
theorem entered_value2 : Entered 48 := fun _ _ => rfl
def ValueOk (n : Nat) : Prop := ∀ (f : FT n) (vs : List Int) (R R' : Nat → Prop) (w : World) (cs : List Value) (A' : Option Addr) (cap' : Nat), (formV n) R w cs f → Ints R' w A' vs cap' → fineF n f = true → nearF n vs f = true →
    Calls Tryz.prog 31 #[.agg cs.toArray, .slice A' vs.length cap'] w fun e w' => e = .returned (.bool (truF n (valOf vs) f)) ∧ Chg No w w'
set_option maxRecDepth 100000 in
set_option maxHeartbeats 4000000 in
theorem value_step (n : Nat) (IH : Hid (ValueOk n)) : ValueOk (n + 1) := by
    rintro f vs R R' w cs A' cap' h hvs hfine hnear
    obtain ⟨A, cap, B, capk, rfl, i1, i2, hm, hk⟩ := node_cells h
    obtain ⟨hok, hks⟩ := fine_kidsQ hfine
    obtain ⟨hn1, hn2⟩ := near_parts hnear
    have hb1 := hm.big
    have hb2 := hk.big
    have hb3 := hvs.big
    unfold big at hb1 hb2 hb3
    obtain ⟨w3, hw3⟩ : ∃ w3, w3 = (w.alloc (.cells #[.int .i64 (Node.kind f), .int .i64 (Node.lin f).1, .slice A (Node.lin f).2.length cap, .slice B (Node.kids f).length capk] 49)).alloc (.cells #[.slice A' vs.length cap'] 23) := ⟨_, rfl⟩
    have h3 : Hid (Chg No w w3 ∧ w3.heap[w.heap.size]? = some (.cells #[.int .i64 (Node.kind f), .int .i64 (Node.lin f).1, .slice A (Node.lin f).2.length cap, .slice B (Node.kids f).length capk] 49 (0, 0)) ∧ w3.heap[w.heap.size + 1]? = some (.cells #[.slice A' vs.length cap'] 23 (0, 0))) := by
      rw [hw3]; exact ⟨((Chg.refl _ _).alloc _).alloc _, at_old (heap_alloc_new _ _), at_new (by simp)⟩
    obtain ⟨p0, p1, p2, p3⟩ := obj_four h3.out.2.1
    have q0 : w3.cell? ⟨w.heap.size + 1, 0, none⟩ = some (.slice A' vs.length cap') := by simp [World.cell?, h3.out.2.2]
    have hcases := okS_casesQ hok
    obtain ⟨ans, hans⟩ : ∃ ans, ans = truF (n + 1) (valOf vs) f := ⟨_, rfl⟩
    rw [← hans]
    have RET : Hid (∀ (q : Bool) (W : World), q = ans → Chg No w W → Ending.returned (.bool q) = Ending.returned (.bool ans) ∧ Chg No w W) := fun q W h g => ⟨by rw [h], g⟩
    rcases hcases with ⟨hkd, hnb, hkl⟩ | ⟨hkd, hlb, hkl⟩ | ⟨hkd, hnb, hkl⟩ | ⟨hkd, hnb⟩
    · have HE : Hid (ans = decide (Node.kind f = 0)) := by
        unfold Hid; rw [hans, truF]
        rcases hkd with g | g <;> rw [g] <;> rfl
      generalize Node.kind f = kd at *
      generalize (Node.lin f).1 = c at *
      generalize (Node.lin f).2.length = tl at *
      generalize (Node.kids f).length = kl at *
      clear h hm hk hvs hans IH hok hks hn1 hn2 hnear hfine hnb hkl
      rcases hkd with rfl | rfl
      all_goals
        go_enter Tryz.func31, Tryz.ntmps31
        go_upto_region 1 with fail
        rw [← hw3]
        clear hw3
        go_wp2_with fail
        go_ret
        exact RET.out _ _ (by rw [HE.out]; rfl) h3.out.1
    · have HL := Lib.hid (linValue_any (Node.lin f).1 (hm.no monoE_good h3.out.1) (hvs.no intE_good h3.out.1))
      rw [val_near hlb hn1, show errV 83 0 = .nilIface by simp [errV]] at HL
      simp only at HL
      have HE : Hid (ans = if Node.kind f = 2 then decide ((Node.lin f).1 + val (valOf vs) (Node.lin f).2 ≤ 0) else decide ((Node.lin f).1 + val (valOf vs) (Node.lin f).2 = 0)) := by
        unfold Hid; rw [hans, truF]
        rcases hkd with g | g <;> rw [g] <;> rfl
      generalize (Node.lin f).1 + val (valOf vs) (Node.lin f).2 = V at *
      generalize Node.kind f = kd at *
      generalize (Node.lin f).1 = c at *
      generalize (Node.lin f).2.length = tl at *
      generalize (Node.kids f).length = kl at *
      clear h hm hk hvs hans IH hok hks hn1 hn2 hnear hfine hlb hkl
      rcases hkd with rfl | rfl
      all_goals
        rcases Int.lt_trichotomy V 0 with hV | hV | hV
        all_goals
          first
          | (have e1 : decide (V < 0) = true := by simpa using hV
             have e2 : (V == 0) = false := by simp; omega)
          | (have e1 : decide (V < 0) = false := by simp; omega
             have e2 : (V == 0) = true := by simpa using hV)
          | (have e1 : decide (V < 0) = false := by simp; omega
             have e2 : (V == 0) = false := by simp; omega)
        all_goals
          go_enter Tryz.func31, Tryz.ntmps31
          go_upto_region 1 with fail
          rw [← hw3]
          clear hw3
          go_wp2_with (go_at_call 49; refine HL.out.mono ?_; rintro e w1 ⟨rfl, h1⟩; have r0 := h1.cell p0 id; have H1 := Lib.hid (h3.out.1.thenNo h1); clear h1)
          go_ret
          exact RET.out _ _ (by rw [HE.out]; simp; omega) H1.out
    · obtain ⟨k, hk1⟩ := List.length_eq_one_iff.1 hkl
      have HE : Hid (ans = !truF n (valOf vs) k) := by
        unfold Hid; rw [hans, truF, hkd, hk1]; rfl
      have hk0 := hk.no (formE_good n) h3.out.1
      rw [hk1] at hk0
      obtain ⟨b, o, v0, v1, v2, v3, rfl, hv, x0, x1, x2, x3⟩ := forms_at hk0 0 (by simp)
      have HI : Hid (∀ d os, Calls Tryz.prog 31 #[.agg #[v0, v1, v2, v3], .slice A' vs.length cap'] (later w3 d os) fun e w'' => e = .returned (.bool (truF n (valOf vs) k)) ∧ ∃ p : Lat, w'' = later w3 p.d p.os) := fun d os =>
        Calls.later_of (IH.out k vs R R' _ [v0, v1, v2, v3] A' cap' ((formV_good n).no hv (chg_later w3 d os)) (hvs.no intE_good (h3.out.1.thenNo (chg_later w3 d os))) (hks k (by rw [hk1]; simp)) (hn2 k (by rw [hk1]; simp)))
      have hl1 : (Node.kids f).length = 1 := hkl
      rw [hl1, hkd] at hw3 h3 ⊢
      rw [hl1] at p3
      rw [hkd] at p0
      have x0' : w3.cell? ⟨b, o, none⟩ = some v0 := by simpa using x0
      have x1' : w3.cell? ⟨b, o + 1, none⟩ = some v1 := by simpa using x1
      have x2' : w3.cell? ⟨b, o + 2, none⟩ = some v2 := by simpa using x2
      have x3' : w3.cell? ⟨b, o + 3, none⟩ = some v3 := by simpa using x3
      generalize truF n (valOf vs) k = tk at *
      generalize (Node.lin f).1 = c at *
      generalize (Node.lin f).2.length = tl at *
      clear h hm hk hvs hans IH hok hks hn1 hn2 hnear hfine hkd hnb hkl hk1 hk0 hv hl1 x0 x1 x2 x3
      go_enter Tryz.func31, Tryz.ntmps31
      go_upto_region 1 with fail
      rw [← hw3]
      clear hw3
      have lq := cell_later q0
      have l4 := cell_later p3
      have l0 := cell_later x0'
      have l1 := cell_later x1'
      have l2 := cell_later x2'
      have l3 := cell_later x3'
      go_wp2_with fail
      refine wp_region_later (by kernel_rfl) (by kernel_rfl) ?_
      repeat (go_big_quiet_step ((go_at_call 31; exact HI.out _ _)))
      refine wpQuiet_nil ?_
      intro _ hw'
      obtain ⟨⟨dq, osq⟩, hw''⟩ := hw'
      subst hw''
      have Hc := Lib.hid (h3.out.1.thenNo (chg_later w3 dq osq))
      go_wp2
      go_ret
      exact RET.out _ _ HE.out.symm Hc.out
    · have HI := Lib.hid (fun W (hW : Chg No w3 W) i (hi : i < (Node.kids f).length) cs (hcs : (formV n) R W cs (Node.kids f)[i]) W' (hW' : Chg No W W') => IH.out _ vs R R' W' cs A' cap' ((formV_good n).no hcs hW') (hvs.no intE_good ((h3.out.1.thenNo hW).thenNo hW')) (hks _ (List.getElem_mem hi)) (hn2 _ (List.getElem_mem hi)))
      have HK := Lib.hid (hk.no (formE_good n) h3.out.1)
      have HE : Hid (ans = if Node.kind f = 5 then (Node.kids f).all (truF n (valOf vs)) else (Node.kids f).any (truF n (valOf vs))) := by
        unfold Hid; rw [hans, truF]
        rcases hkd with g | g <;> rw [g] <;> rfl
      have hnot : (Node.kids f).any (fun k => !truF n (valOf vs) k) = !(Node.kids f).all (truF n (valOf vs)) := by
        induction Node.kids f with
        | nil => rfl
        | cons k ks ih => simp only [List.any_cons, List.all_cons, ih, Bool.not_and]
      have HCF1 := Lib.hid (containsFunc_forms1 HK.out 47 entered_value1 (.pointer (some ⟨w.heap.size + 1, 0, none⟩)) (fun k => !truF n (valOf vs) k) (fun W hW i hi cs hcs => by
        have x0 : (W.alloc (.cells cs.toArray 49)).cell? ⟨w.heap.size + 1, 0, none⟩ = some (.slice A' vs.length cap') := ((Chg.refl No W).alloc _).cell (hW.cell q0 id) id
        have HJ := Lib.hid (HI.out W hW i hi cs hcs)
        obtain ⟨kd', c', A1, tl', cap1, B', kl', capk', rfl⟩ := shape4 hcs
        generalize truF n (valOf vs) (Node.kids f)[i] = dd at *
        clear hcs hk hm h HI HK HE hans hvs
        go_enter Tryz.func47, Tryz.ntmps47
        go_wp2_with (go_at_call 31; refine (HJ.out _ ((Chg.refl _ _).alloc _)).mono ?_; rintro e w1 ⟨rfl, h1⟩)
        go_ret
        exact ⟨rfl, ((Chg.refl _ _).alloc _).thenNo h1⟩))
      have HCF2 := Lib.hid (containsFunc_forms1 HK.out 48 entered_value2 (.pointer (some ⟨w.heap.size + 1, 0, none⟩)) (fun k => truF n (valOf vs) k) (fun W hW i hi cs hcs => by
        have x0 : (W.alloc (.cells cs.toArray 49)).cell? ⟨w.heap.size + 1, 0, none⟩ = some (.slice A' vs.length cap') := ((Chg.refl No W).alloc _).cell (hW.cell q0 id) id
        have HJ := Lib.hid (HI.out W hW i hi cs hcs)
        obtain ⟨kd', c', A1, tl', cap1, B', kl', capk', rfl⟩ := shape4 hcs
        generalize truF n (valOf vs) (Node.kids f)[i] = dd at *
        clear hcs hk hm h HI HK HE hans hvs
        go_enter Tryz.func48, Tryz.ntmps48
        go_wp2_with (go_at_call 31; refine (HJ.out _ ((Chg.refl _ _).alloc _)).mono ?_; rintro e w1 ⟨rfl, h1⟩)
        go_ret
        exact ⟨rfl, ((Chg.refl _ _).alloc _).thenNo h1⟩))
      rw [hnot] at HCF1
      generalize (Node.kids f).all (truF n (valOf vs)) = al at *
      have HCF2' : Hid (Calls Tryz.prog 46 #[.slice B (Node.kids f).length capk, .func (.func 48) #[] #[.pointer (some ⟨w.heap.size + 1, 0, none⟩)]] w3 fun e w' => e = .returned (.bool ((Node.kids f).any (truF n (valOf vs)))) ∧ Chg No w3 w') := HCF2.out
      clear HCF2
      generalize (Node.kids f).any (truF n (valOf vs)) = an at *
      clear HI HK hk hks hn2 h hvs hnot
      generalize Node.kind f = kd at *
      generalize (Node.lin f).1 = c at *
      generalize (Node.lin f).2.length = tl at *
      generalize (Node.kids f).length = kl at *
      clear hm hans IH hok hn1 hnear hfine hnb
      rcases hkd with rfl | rfl
      all_goals
        go_enter Tryz.func31, Tryz.ntmps31
        go_upto_region 1 with fail
        rw [← hw3]
        clear hw3
        go_wp2_with (go_at_call 46; (first | (with_reducible refine HCF1.out.mono ?_) | (with_reducible refine HCF2'.out.mono ?_)); rintro e w1 ⟨rfl, h1⟩; have H1 := Lib.hid (h3.out.1.thenNo h1); clear h1)
        go_ret
        exact RET.out _ _ (by rw [HE.out]; simp) H1.out
theorem value_any : ∀ n, ValueOk n
  | 0 => fun _ _ _ _ _ _ _ _ h => h.elim
  | n + 1 => value_step n (Lib.hid (value_any n))
end Go.Proofs.YtpmndblakmobdaaGreatDoor
/- NrmV -/
namespace Go.Proofs.YtpmndblakmobdaaGreatDoor
open Go Go.RowKit

theorem intsTyN : SliceTy Tryz.prog 23 3 1 8 (.int .i64 0) := ⟨Tryz.underlying23, by kernel_rfl, rfl, by decide, by decide⟩
theorem alloc_at (w : World) (o : Obj) : Value.slice (some ⟨w.heap.size + 1, 0, none⟩) 1 1 = .slice (some ⟨(w.alloc o).heap.size, 0, none⟩) 1 1 := by simp
section
variable {P : Program} {t e : TypeId} {bytes : Nat} {z : Value} {ops : Array Oper} {rest : List Oper} {o : Oper} {act : Act} {Q : Exit → Act → World → Prop}
/-- append(s, r...) of ints. -/
theorem wpList_extend_ints (T : SliceTy P t e 1 8 z) (hgd : o.guard = none) (s xo : Operand)
    (ho : o.op = .call { callee := .builtin .append, args := #[s, xo], argTypes := #[t, t] })
    {M : Nat → Prop} {w : World} (hM : ∀ k, w.heap.size ≤ k → M k) {v : Value} {l : List Int} (hown : OInts e M w v l) (hs : act.eval s = v)
    {R : Nat → Prop} {A : Option Addr} {r : List Int} {rn cap : Nat} (hrn : rn = r.length) (hr : Ints R w A r cap) (hx : act.eval xo = .slice A rn cap) (hbytes : (l.length + r.length) * 8 ≤ 140737488355328)
    (h : ∀ v' w', OInts e M w' v' (l ++ r) → Chg (fun k => v.ownBlock = some k) w w' → wpList P ops Q rest (act.put o.dst v') w') :
    wpList P ops Q (o :: rest) act w := by
  subst hrn
  cases A with
  | none =>
    have h0 : r = [] := List.eq_nil_of_length_eq_zero (by have := hr.le; have := hr.nil rfl; omega)
    subst h0
    refine wpList_plain hgd fun _ hK => ?_
    have hrun := run_append_Own_none (P := P) T o.type hown.1 cap
    unfold Oper.wp execOp
    simp only [ho, resolve, invoke, builtin, Sem.run_bind, Sem.run_pure, Result.andThen_ok, List.map_toArray, List.map_cons, List.map_nil, hs, hx, List.length_nil, hrun]
    exact hK _ _ (h v w (by simpa using hown) (Chg.refl _ _))
  | some a =>
    refine wpList_append_Own T hgd s xo ho hM hown.1 hs (a := a) (m := r.length) (c := cap) (news := r.map (Value.int .i64)) hx (by simp) (fun j u hj => ?_) (by simp [Value.oneCell']) hbytes (fun A cap w' g1 g2 _ => ?_)
    · simp only [List.getElem?_map, Option.map_eq_some_iff] at hj
      obtain ⟨y, hj, rfl⟩ := hj
      obtain ⟨hlt, rfl⟩ := List.getElem?_eq_some_iff.1 hj
      obtain ⟨b, o, e1, e2⟩ := hr.int_at j hlt
      injection e1 with e1
      rw [e1, addr_add]
      exact e2
    · refine h _ w' ⟨by rw [List.length_append, List.map_append]; exact g1, fun y hy => ?_⟩ g2
      rcases List.mem_append.1 hy with hy | hy
      · exact hown.2 y hy
      · obtain ⟨i, hi, rfl⟩ := List.getElem_of_mem hy
        exact hr.int_ok i hi
end

/-- A formula's variables, as they stand. -/
def gatF : (n : Nat) → FT n → List Int
  | 0, _ => []
  | n + 1, f => (Node.lin f).2.map (fun m => m.1) ++ ((Node.kids f).map (gatF n)).flatten
theorem fine_len {n : Nat} {f : FT (n + 1)} (h : fineF (n + 1) f = true) : (Node.lin f).2.length ≤ 64 ∧ ∀ m ∈ (Node.lin f).2, ∃ k : Nat, m.1 = (k : Int) ∧ k < 1048576 := by
  obtain ⟨hok, _⟩ := fine_kidsQ h
  have key : noneB (Node.lin f).1 (Node.lin f).2.length = true → (Node.lin f).2.length ≤ 64 ∧ ∀ m ∈ (Node.lin f).2, ∃ k : Nat, m.1 = (k : Int) ∧ k < 1048576 := fun hn => by
    have h0 := (noneB_eqQ hn).2
    refine ⟨by omega, fun m hm => ?_⟩
    rw [List.eq_nil_of_length_eq_zero h0] at hm
    cases hm
  rcases okS_casesQ hok with ⟨_, hn, _⟩ | ⟨_, hl, _⟩ | ⟨_, hn, _⟩ | ⟨_, hn⟩
  · exact key hn
  · have V := valWay (vs := []) hl
    refine ⟨V.len, fun m hm => ?_⟩
    obtain ⟨i, hi, rfl⟩ := List.getElem_of_mem hm
    exact V.var i hi
  · exact key hn
  · exact key hn
theorem flat_len {α β : Type} (g : α → List β) (c : α → Nat) : ∀ ks : List α, (∀ k ∈ ks, (g k).length ≤ 64 * c k) → (ks.map g).flatten.length ≤ 64 * (ks.map c).sum
  | [], _ => by simp
  | k :: ks, h => by
    have h1 := flat_len g c ks (fun x hx => h x (by simp [hx]))
    have h2 := h k (by simp)
    simp only [List.map_cons, List.flatten_cons, List.length_append, List.sum_cons]
    omega
theorem gat_len : ∀ (n : Nat) (f : FT n), fineF n f = true → (gatF n f).length ≤ 64 * cntF n f
  | 0, _, _ => by simp [gatF]
  | n + 1, f, h => by
    have h1 := (fine_len h).1
    have h2 := flat_len (gatF n) (cntF n) (Node.kids f) (fun k hk => gat_len n k ((fine_kidsQ h).2 k hk))
    have e1 : (gatF (n + 1) f).length = (Node.lin f).2.length + ((Node.kids f).map (gatF n)).flatten.length := by
      show ((Node.lin f).2.map (fun m => m.1) ++ ((Node.kids f).map (gatF n)).flatten).length = _
      rw [List.length_append, List.length_map]
    have e2 : cntF (n + 1) f = 1 + ((Node.kids f).map (cntF n)).sum := rfl
    rw [e1, e2]
    omega
theorem gat_pos : ∀ (n : Nat) (f : FT n), fineF n f = true → ∀ v ∈ gatF n f, ∃ k : Nat, v = (k : Int) ∧ k < 1048576
  | 0, _, _ => fun v hv => by cases hv
  | n + 1, f, h => fun v hv => by
    have hv' : v ∈ (Node.lin f).2.map (fun m => m.1) ++ ((Node.kids f).map (gatF n)).flatten := hv
    rcases List.mem_append.1 hv' with hv | hv
    · obtain ⟨m, hm, rfl⟩ := List.mem_map.1 hv
      exact (fine_len h).2 m hm
    · obtain ⟨l, hl, hv⟩ := List.mem_flatten.1 hv
      obtain ⟨k, hk, rfl⟩ := List.mem_map.1 hl
      exact gat_pos n k ((fine_kidsQ h).2 k hk) v hv
theorem near_gat (vs : List Int) : ∀ (n : Nat) (f : FT n), nearF n vs f = !(gatF n f).any (fun v => farB (valOf vs v))
  | 0, _ => rfl
  | n + 1, f => by
    show (!farAny vs (Node.lin f).2 && (Node.kids f).all (nearF n vs)) = !((Node.lin f).2.map (fun m => m.1) ++ ((Node.kids f).map (gatF n)).flatten).any (fun v => farB (valOf vs v))
    rw [List.any_append, Bool.not_or]
    congr 1
    · unfold farAny
      rw [List.any_map]
      rfl
    · induction Node.kids f with
      | nil => rfl
      | cons k ks ih => rw [List.all_cons, List.map_cons, List.flatten_cons, List.any_append, Bool.not_or, ih, near_gat vs n k]

theorem sum_takeQ {α : Type} (c : α → Nat) (ks : List α) (i : Nat) (hi : i < ks.length) : ((ks.take i).map c).sum + c ks[i] ≤ (ks.map c).sum := by
  have h1 : ks = ks.take i ++ ks[i] :: ks.drop (i + 1) := by rw [← List.drop_eq_getElem_cons hi, List.take_append_drop]
  have h2 : (ks.map c).sum = ((ks.take i).map c).sum + (c ks[i] + ((ks.drop (i + 1)).map c).sum) := by
    conv => lhs; rw [h1]
    rw [List.map_append, List.sum_append, List.map_cons, List.sum_cons]
  omega
def GatherFOk (n : Nat) : Prop := ∀ (f : FT n) (R : Nat → Prop) (w : World) (cs : List Value), (formV n) R w cs f → fineF n f = true → cntF n f ≤ 100000 →
    Calls Tryz.prog 30 #[.agg cs.toArray] w fun e w' => ∃ A cap, e = .returned (.slice A (gatF n f).length cap) ∧ Ints (fun k => w.heap.size ≤ k) w' A (gatF n f) cap ∧ Chg No w w'
set_option maxRecDepth 100000 in
set_option maxHeartbeats 4000000 in
theorem gatherF_step (n : Nat) (IH : Hid (GatherFOk n)) : GatherFOk (n + 1) := by
    rintro f R w cs h hfine hcnt
    obtain ⟨A, cap, B, capk, rfl, i1, i2, hm, hk⟩ := node_cells h
    obtain ⟨hok, hks⟩ := fine_kidsQ hfine
    have hlen := gat_len (n + 1) f hfine
    obtain ⟨hl64, hpos⟩ := fine_len hfine
    have hcnt' : 1 + ((Node.kids f).map (cntF n)).sum ≤ 100000 := hcnt
    have hb1 := hm.big
    have hb2 := hk.big
    unfold big at hb1 hb2
    obtain ⟨w3, hw3⟩ : ∃ w3, w3 = (w.alloc (.cells #[.int .i64 (Node.kind f), .int .i64 (Node.lin f).1, .slice A (Node.lin f).2.length cap, .slice B (Node.kids f).length capk] 49)) := ⟨_, rfl⟩
    have h3 : Hid (Chg No w w3 ∧ w3.heap[w.heap.size]? = some (.cells #[.int .i64 (Node.kind f), .int .i64 (Node.lin f).1, .slice A (Node.lin f).2.length cap, .slice B (Node.kids f).length capk] 49 (0, 0))) := by
      rw [hw3]; exact ⟨(Chg.refl _ _).alloc _, heap_alloc_new _ _⟩
    have HM := Lib.hid (fun W (h : Chg No w3 W) => hm.no monoE_good (h3.out.1.thenNo h))
    have HK := Lib.hid (fun W (h : Chg No w3 W) => hk.no (formE_good n) (h3.out.1.thenNo h))
    have HIF := Lib.hid (fun i (hi : i < (Node.kids f).length) R W cs (hcs : (formV n) R W cs (Node.kids f)[i]) => IH.out (Node.kids f)[i] R W cs hcs (hks _ (List.getElem_mem hi)) (by
      have h1 := sum_takeQ (cntF n) (Node.kids f) i hi
      omega))
    have HLT := Lib.hid (fun i (hi : i < (Node.kids f).length) => by
      have h1 := flat_len (gatF n) (cntF n) ((Node.kids f).take i) (fun k hk => gat_len n k (hks k (List.mem_of_mem_take hk)))
      have h2 := gat_len n (Node.kids f)[i] (hks _ (List.getElem_mem hi))
      have h3 := sum_takeQ (cntF n) (Node.kids f) i hi
      have : ((Node.lin f).2.map (fun m => m.1) ++ (((Node.kids f).take i).map (gatF n)).flatten).length + (gatF n (Node.kids f)[i]).length ≤ 64 * 100001 := by
        rw [List.length_append, List.length_map]
        omega
      exact this)
    have HNX : Hid (∀ i (hi : i < (Node.kids f).length), (Node.lin f).2.map (fun m => m.1) ++ (((Node.kids f).take (i + 1)).map (gatF n)).flatten = ((Node.lin f).2.map (fun m => m.1) ++ (((Node.kids f).take i).map (gatF n)).flatten) ++ gatF n (Node.kids f)[i]) := fun i hi => by
      rw [List.take_add_one, List.getElem?_eq_getElem hi, List.map_append, List.flatten_append, List.append_assoc]
      simp
    have HOKI : Hid (∀ m ∈ (Node.lin f).2, I64 m.1) := fun m hm => by
      obtain ⟨k, h1, h2⟩ := hpos m hm
      rw [h1]
      exact I64.of (by omega) (by omega)
    have hg : gatF (n + 1) f = (Node.lin f).2.map (fun m => m.1) ++ ((Node.kids f).map (gatF n)).flatten := rfl
    have hsz : Hid (w.heap.size ≤ w3.heap.size) := h3.out.1.size
    rw [hg] at hlen ⊢
    have hlen2 : Hid (((Node.lin f).2.map (fun m => m.1) ++ ((Node.kids f).map (gatF n)).flatten).length * 8 ≤ big) := by
      unfold Hid big
      have : cntF (n + 1) f ≤ 100000 := hcnt
      omega
    clear h hm hk hok hks hfine hcnt hcnt' hlen hg hpos
    generalize Node.kind f = kd at *
    generalize Node.lin f = lin at *
    generalize Node.kids f = ks at *
    obtain ⟨c, t⟩ := lin
    simp only at *
    go_enter Tryz.func30, Tryz.ntmps30
    go_upto_region 1 with fail
    rw [← hw3]
    clear hw3
    obtain ⟨p0, p1, p2, p3⟩ := obj_four h3.out.2
    go_wp2_with fail
    go_loopw [3, 12] (fun s3 s12 wr => ∃ (k : Nat) (v : Value), v = s3 ∧ s12 = .int .i64 k ∧ k ≤ t.length ∧ Hid (OInts 3 (fun b => w3.heap.size ≤ b) wr v ((t.take k).map (fun m => m.1))) ∧ Hid (Chg No w3 wr)) (fun _ s12 _ => t.length - (intOf s12).toNat)
    case atStart => exact ⟨0, _, rfl, rfl, Nat.zero_le _, OInts.nil _ _ _, Chg.refl _ _⟩
    case round =>
      obtain ⟨k, v, rfl, rfl, gk, hown, hch⟩ := hrel
      by_cases hlt : k < t.length
      · obtain ⟨b, o, rfl, hv, hk⟩ := (HM.out wr hch.out).mono_at k hlt
        have hnx : Hid ((t.take (k + 1)).map (fun m => m.1) = (t.take k).map (fun m => m.1) ++ [t[k].1]) := by
          unfold Hid; rw [List.take_add_one, List.getElem?_eq_getElem hlt, List.map_append]; rfl
        have hI : Hid (I64 t[k].1) := HOKI.out _ (List.getElem_mem hlt)
        have hul : Hid (((t.take k).map (fun m => m.1)).length = k) := by unfold Hid; rw [List.length_map, List.length_take]; omega
        generalize t[k] = m at *
        have i0 : (0 : Int) ≤ (k : Int) := by omega
        have i1 : (k : Int) < (t.length : Int) := by omega
        have hs3 : Hid (w3.heap.size ≤ wr.heap.size) := hch.out.size
        go_wp2_with (at_builtin; refine wpList_push_int intsTyN rfl (.tmp 16) (.tmp 19) rfl (M := fun b => w3.heap.size ≤ b) (fun b hb => Nat.le_trans hs3.out (Nat.le_trans ((Chg.refl No wr).alloc _).size hb)) (hown.out.no ((Chg.refl _ _).alloc _)) rfl (alloc_at _ _) hI.out (by rw [hul.out]; omega) ?_; intro A7 cap7 w7 g1 g2; rw [hul.out] at g1; have G1 := Lib.hid g1; have G2 := Lib.hid g2; clear g1 g2)
        go_roundw
        case rel => exact ⟨k + 1, _, rfl, by go_num, hlt, by rw [hnx.out]; exact G1, hch.out.trans (((Chg.refl No wr).alloc _).no.trans G2.out (fun b hb _ => hb)) (fun b hb hlt => by have := (hown.out.mine b hb).1; omega)⟩
        case measure => simp [intOf]; omega
      · obtain rfl : k = t.length := by omega
        rw [List.take_length] at hown
        have hown2 : Hid (OInts 3 (fun b => w3.heap.size ≤ b) wr v (t.map (fun m => m.1) ++ ((ks.take 0).map (gatF n)).flatten)) := by
          unfold Hid; simpa using hown.out
        clear hown HM HOKI
        have q3 := hch.out.cell p3 id
        go_wp2_with fail
        go_loopw [3, 25] (fun s3 s25 wr => ∃ (k : Nat) (v : Value), v = s3 ∧ s25 = .int .i64 k ∧ k ≤ ks.length ∧ Hid (OInts 3 (fun b => w3.heap.size ≤ b) wr v (t.map (fun m => m.1) ++ ((ks.take k).map (gatF n)).flatten)) ∧ Hid (Chg No w3 wr)) (fun _ s25 _ => ks.length - (intOf s25).toNat)
        case atStart => exact ⟨0, _, rfl, rfl, Nat.zero_le _, hown2.out, hch.out⟩
        case round =>
          clear hown2 hch
          obtain ⟨k, v, rfl, rfl, gk, hown, hch⟩ := hrel
          by_cases hlt : k < ks.length
          · obtain ⟨b, o, v0, v1, v2, v3, rfl, hv, x0, x1, x2, x3⟩ := forms_at (HK.out wr hch.out) k hlt
            have HI := Lib.hid (fun W (hW : Chg No wr W) => HIF.out k hlt R W _ ((formV_good n).no hv hW))
            have hnx := Lib.hid (HNX.out k hlt)
            have hLT := Lib.hid (HLT.out k hlt)
            obtain ⟨kd', c', A1, tl', cap1, B1, kl', capk1, e⟩ := shape4 hv
            obtain ⟨rfl, rfl, rfl, rfl⟩ : v0 = .int .i64 kd' ∧ v1 = .int .i64 c' ∧ v2 = .slice A1 tl' cap1 ∧ v3 = .slice B1 kl' capk1 := by simpa using e
            clear e
            generalize gatF n ks[k] = g at *
            generalize t.map (fun m => m.1) ++ ((ks.take k).map (gatF n)).flatten = g0 at *
            have i0 : (0 : Int) ≤ (k : Int) := by omega
            have i1 : (k : Int) < (ks.length : Int) := by omega
            have hs3 : Hid (w3.heap.size ≤ wr.heap.size) := hch.out.size
            clear hv
            go_wp2_with (first
              | (go_at_call 30; refine (HI.out _ ((Chg.refl _ _).alloc _)).mono ?_; rintro e w5 ⟨A5, cap5, rfl, hI5, h5⟩; have H5 := Lib.hid (((Chg.refl No wr).alloc _).thenNo h5); have HI5 := Lib.hid hI5; clear h5 hI5)
              | (at_builtin; refine wpList_extend_ints intsTyN rfl (.tmp 29) (.tmp 31) rfl (M := fun b => w3.heap.size ≤ b) (fun b hb => Nat.le_trans hs3.out (Nat.le_trans H5.out.size hb)) (hown.out.no H5.out) rfl rfl HI5.out rfl (by have := hLT.out; omega) ?_; intro v7 w7 g1 g2; have G1 := Lib.hid g1; have G2 := Lib.hid g2; clear g1 g2))
            go_roundw
            case rel => exact ⟨k + 1, _, rfl, by go_num, hlt, by rw [hnx.out]; exact G1, hch.out.trans (H5.out.no.trans G2.out (fun b hb _ => hb)) (fun b hb hlt => by have := (hown.out.mine b hb).1; omega)⟩
            case measure => simp [intOf]; omega
          · obtain rfl : k = ks.length := by omega
            rw [List.take_length] at hown
            obtain ⟨A3, cap3, rfl, hI3⟩ := hown.out.ints hlen2.out
            have HI3 := Lib.hid hI3
            clear hI3 hown
            go_wp2_with fail
            go_ret
            exact ⟨A3, cap3, rfl, HI3.out.mono intE_good (fun b _ hb => Nat.le_trans hsz.out hb), h3.out.1.thenNo hch.out⟩
theorem gatherF_any : ∀ n, GatherFOk n
  | 0 => fun _ _ _ _ h => h.elim
  | n + 1 => gatherF_step n (Lib.hid (gatherF_any n))
/-- formula.Value's answer. -/
def valR (n : Nat) (f : FT n) (vs : List Int) : Bool × Int := if chkF n f = 0 then (if nearF n vs f = true then (truF n (valOf vs) f, 0) else (false, 1)) else (false, chkF n f)
set_option maxRecDepth 100000 in
set_option maxHeartbeats 2000000 in
theorem formValue_any {n : Nat} {f : FT n} {vs : List Int} {R R' : Nat → Prop} {w : World} {cs : List Value} {A' : Option Addr} {cap' : Nat} (h : (formV n) R w cs f) (hvs : Ints R' w A' vs cap') :
    Calls Tryz.prog 12 #[.agg cs.toArray, .slice A' vs.length cap'] w fun e w' => e = .returned (.tuple #[.bool (valR n f vs).1, errV 83 (valR n f vs).2]) ∧ Chg No w w' := by
  have hg := formV_good n
  have HC := Lib.hid (fun W (hW : Chg No w W) => formCheck_any (hg.no h hW))
  have HV := Lib.hid (fun W (hW : Chg No w W) => hvs.no intE_good hW)
  have HX := Lib.hid (fun (h1 : fineF n f = true) (h2 : cntF n f ≤ 100000) W (hW : Chg No w W) => gatherF_any n f R W cs (hg.no h hW) h1 h2)
  have HY := Lib.hid (fun (h1 : fineF n f = true) (h2 : nearF n vs f = true) W (hW : Chg No w W) => value_any n f vs R R' W cs A' cap' (hg.no h hW) (hvs.no intE_good hW) h1 h2)
  have hb3 := hvs.big
  unfold big at hb3
  have HNG := Lib.hid (near_gat vs n f)
  have HGP := Lib.hid (gat_pos n f)
  have HGL := Lib.hid (gat_len n f)
  obtain ⟨kd, c, A, tl, cap, B, kl, capk, rfl⟩ := shape4 h
  have hcw : Hid (Chg No w (w.alloc (.cells #[.int .i64 kd, .int .i64 c, .slice A tl cap, .slice B kl capk] 49)) ∧ (w.alloc (.cells #[.int .i64 kd, .int .i64 c, .slice A tl cap, .slice B kl capk] 49)).heap[w.heap.size]? = some (.cells #[.int .i64 kd, .int .i64 c, .slice A tl cap, .slice B kl capk] 49 (0, 0))) := ⟨(Chg.refl _ _).alloc _, heap_alloc_new _ _⟩
  have ST : Hid (∀ W W', (Chg No w W ∧ W.heap[w.heap.size]? = some (.cells #[.int .i64 kd, .int .i64 c, .slice A tl cap, .slice B kl capk] 49 (0, 0))) → Chg No W W' → (Chg No w W' ∧ W'.heap[w.heap.size]? = some (.cells #[.int .i64 kd, .int .i64 c, .slice A tl cap, .slice B kl capk] 49 (0, 0)))) := fun W W' h h' => ⟨h.1.thenNo h', h'.obj h.2 id⟩
  have hck := chkF_range n f
  have hz := Lib.hid (fun h => chkF_zero (n := n) (f := f) h)
  unfold valR
  clear h hvs hg
  generalize chkF n f = ck at *
  by_cases hc : ck = 0
  · subst hc
    obtain ⟨_, z2, z3⟩ := hz.out rfl
    have HX1 := Lib.hid (HX.out z3 (by omega))
    have HY1 := Lib.hid (HY.out z3)
    have HGP1 := Lib.hid (HGP.out z3)
    have HGL1 : Hid ((gatF n f).length ≤ 262144) := by have := HGL.out z3; unfold Hid; omega
    rw [if_pos rfl]
    rw [errV_zero] at HC
    clear hz HX HY HGP HGL z2 z3 hck
    generalize truF n (valOf vs) f = tr at *
    generalize gatF n f = g at *
    generalize nearF n vs f = nr at *
    obtain ⟨r, hr⟩ : ∃ r : Bool × Int, r = if nr = true then (tr, 0) else (false, 1) := ⟨_, rfl⟩
    have HR := Lib.hid hr
    rw [← hr]
    clear hr
    go_enter Tryz.func12, Tryz.ntmps12
    go_wp2_with (first
      | (go_at_call 29; refine (HC.out _ hcw.out.1).mono ?_; rintro e w1 ⟨rfl, h1⟩; have H1 := Lib.hid (ST.out _ _ hcw.out h1); obtain ⟨p0, p1, p2, p3⟩ := obj_four H1.out.2; clear h1)
      | (go_at_call 30; refine (HX1.out _ H1.out.1).mono ?_; rintro e w2 ⟨A5, cap5, rfl, hI5, h5⟩; have H2 := Lib.hid (ST.out _ _ H1.out h5); have HI5 := Lib.hid hI5; clear h5 hI5; obtain ⟨q0, q1, q2, q3⟩ := obj_four H2.out.2))
    go_loopw [17] (fun s17 wr => ∃ k : Nat, s17 = .int .i64 k ∧ k ≤ g.length ∧ wr = w2 ∧ Hid (∀ j (h : j < g.length), j < k → farB (valOf vs g[j]) = false)) (fun s17 _ => g.length - (intOf s17).toNat)
    case atStart => exact ⟨0, rfl, Nat.zero_le _, rfl, fun j h hk => absurd hk (by omega)⟩
    case round =>
      obtain ⟨k, rfl, gk, rfl, hall⟩ := hrel
      have HVv := Lib.hid (HV.out _ H2.out.1)
      by_cases hlt : k < g.length
      · obtain ⟨b, o, rfl, hx⟩ := HI5.out.int_at k hlt
        obtain ⟨m, hm, hm2⟩ := HGP1.out _ (List.getElem_mem hlt)
        have hgl := HGL1.out
        unfold Hid at hgl
        have i0 : (0 : Int) ≤ (k : Int) := by omega
        have i1 : (k : Int) < (g.length : Int) := by omega
        have HNX : Hid (farB (valOf vs (m : Int)) = false → ∀ j (h : j < g.length), j < k + 1 → farB (valOf vs g[j]) = false) := fun hf j h hj => by
          rcases Nat.lt_or_ge j k with q | q
          · exact hall.out j h q
          · obtain rfl : j = k := by omega
            rw [hm]; exact hf
        have HHIT : Hid (farB (valOf vs (m : Int)) = true → r = (false, 1)) := fun hf => by
          have : nr = false := by
            rw [HNG.out, Bool.not_eq_false', List.any_eq_true]
            exact ⟨_, List.getElem_mem hlt, by rw [hm]; exact hf⟩
          rw [HR.out, this]; rfl
        rw [hm] at hx
        clear hm hall HR HNG HGP1 HI5
        by_cases hin : m < vs.length
        · obtain ⟨b2, o2, rfl, hy⟩ := HVv.out.int_at m hin
          have j0 : (0 : Int) ≤ (m : Int) := by omega
          have j1 : (m : Int) < (vs.length : Int) := by omega
          rw [valOf_in hin] at HNX HHIT
          generalize vs[m] = x at *
          rcases farB_cases x with ⟨f1, f2⟩ | ⟨f1, f2, f3⟩ | ⟨f1, f2, f3, _, _⟩
          · have HE := HHIT.out f1
            subst HE
            clear HNX HHIT
            go_wp2_with fail
            go_ret2
            exact ⟨rfl, H2.out.1⟩
          · have HE := HHIT.out f1
            subst HE
            clear HNX HHIT
            go_wp2_with fail
            go_ret2
            exact ⟨rfl, H2.out.1⟩
          · have HM := Lib.hid (HNX.out f1)
            clear HNX HHIT
            go_wp2_with fail
            go_roundw
            case rel => exact ⟨k + 1, by go_num, hlt, by first | rfl | trivial, HM.out⟩
            case measure => simp [intOf]; omega
        · have j1 : ¬ (m : Int) < (vs.length : Int) := by omega
          have HM := Lib.hid (HNX.out (by rw [valOf_out hin]; decide))
          clear HNX HHIT HVv
          go_wp2_with fail
          go_roundw
          case rel => exact ⟨k + 1, by go_num, hlt, by first | rfl | trivial, HM.out⟩
          case measure => simp [intOf]; omega
      · have hn : nr = true := by
          rw [HNG.out, Bool.not_eq_true', List.any_eq_false]
          intro v hv
          obtain ⟨i, hi, rfl⟩ := List.getElem_of_mem hv
          rw [hall.out i hi (by omega)]
          decide
        have HYY := Lib.hid (HY1.out hn)
        have HE : r = (tr, 0) := by rw [HR.out, hn]; rfl
        subst HE
        clear HR HNG HY1 hn hall HVv
        go_wp2_with (go_at_call 31; refine (HYY.out _ H2.out.1).mono ?_; rintro e w3 ⟨rfl, h3⟩; have H3 := Lib.hid (H2.out.1.thenNo h3); clear h3)
        go_ret2
        exact ⟨by simp [errV_zero], H3.out⟩
  · rw [if_neg hc]
    rw [errV_of _ hc] at HC ⊢
    clear HX HY HGP HGL HNG HV hz
    go_enter Tryz.func12, Tryz.ntmps12
    go_wp2_with (go_at_call 29; refine (HC.out _ hcw.out.1).mono ?_; rintro e w1 ⟨rfl, h1⟩; have H1 := Lib.hid (ST.out _ _ hcw.out h1); clear h1)
    go_ret2
    exact ⟨rfl, H1.out.1⟩
end Go.Proofs.YtpmndblakmobdaaGreatDoor
