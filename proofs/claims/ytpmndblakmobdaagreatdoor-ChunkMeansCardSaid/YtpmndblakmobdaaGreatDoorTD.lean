/-
  ChC, ChD, ChE, in one file.
-/
import Derived.Test.YtpmndblakmobdaaGreatDoorTO
import Derived.Test.YtpmndblakmobdaaGreatDoorChA
import Derived.Deep.DeepCutAuto
/- ChC -/
namespace Go.Proofs.YtpmndblakmobdaaGreatDoor
open Go Go.RowKit

/-- A variable's form. -/
def symOf (l : List Sym) (name : ByteArray) : Lin := match l.find? (fun s => s.1.toList == name.toList) with | some s => s.2 | none => (0, [])
/-- An expression's form; none: it is far. -/
noncomputable def lexp : (n : Nat) → ET n → List Sym → Option Lin
  | 0, _, _ => none
  | n + 1, x, l => if ENode.kind x = 0 then some (ENode.num x, []) else if ENode.kind x = 1 then some (symOf l (ENode.name x)) else
    match ENode.kids x with
    | [] => none
    | a :: ks => match lexp n a l with
      | none => none
      | some A => if ENode.kind x = 4 then sclO (ENode.num x) A else match ks with
        | [] => none
        | b :: _ => match lexp n b l with
          | none => none
          | some B => sumO A B (if ENode.kind x = 3 then -1 else 1)
theorem find_findI {α : Type} {p : α → Bool} {l : List α} : (findI p l = -1 ∧ l.find? p = none) ∨ ∃ k, ∃ h : k < l.length, findI p l = (k : Int) ∧ l.find? p = some l[k] := by
  unfold findI
  cases h : l.findIdx? p with
  | none =>
    left
    rw [List.findIdx?_eq_none_iff] at h
    refine ⟨rfl, ?_⟩
    rw [List.find?_eq_none]
    exact fun x hx => by simp [h x hx]
  | some k =>
    right
    rw [List.findIdx?_eq_some_iff_getElem] at h
    obtain ⟨hk, hp, hall⟩ := h
    refine ⟨k, hk, rfl, ?_⟩
    rw [List.find?_eq_some_iff_getElem]
    exact ⟨hp, k, hk, rfl, fun j hj => by simpa using hall j hj⟩
theorem symOf_sound {l : List Sym} (h : l.all symB = true) (name : ByteArray) : linB (symOf l name).1 (symOf l name).2 = true := by
  unfold symOf
  cases hf : l.find? (fun s => s.1.toList == name.toList) with
  | none => exact linB_good (by decide) (by simp) (fun i hi => absurd hi (by simp))
  | some s => exact List.all_eq_true.1 h s (List.mem_of_find?_eq_some hf)
theorem ok_parts {n : Nat} {x : ENode (ET n)} (h : okE (n + 1) x = true) : eShape x.kind x.num x.name x.kids.length = true ∧ ∀ k ∈ x.kids, okE n k = true := by
  have h' : (eShape x.kind x.num x.name x.kids.length && x.kids.all (okE n)) = true := h
  rw [Bool.and_eq_true] at h'
  exact ⟨h'.1, List.all_eq_true.1 h'.2⟩
theorem eShape_cases {kd num : Int} {name : ByteArray} {kl : Nat} (h : eShape kd num name kl = true) :
    (kd = 0 ∧ coefS num = true ∧ kl = 0) ∨ (kd = 1 ∧ kl = 0) ∨ ((kd = 2 ∨ kd = 3) ∧ kl = 2) ∨ (kd = 4 ∧ coefS num = true ∧ kl = 1) := by
  unfold eShape at h
  split at h
  · simp only [Bool.and_eq_true, decide_eq_true_eq] at h
    exact .inl ⟨by assumption, h.1.1, h.2⟩
  split at h
  · simp only [Bool.and_eq_true, decide_eq_true_eq] at h
    exact .inr (.inl ⟨by assumption, h.2⟩)
  split at h
  · simp only [Bool.and_eq_true, decide_eq_true_eq] at h
    exact .inr (.inr (.inl ⟨by assumption, h.2⟩))
  split at h
  · simp only [Bool.and_eq_true, decide_eq_true_eq] at h
    exact .inr (.inr (.inr ⟨by assumption, h.1.1, h.2⟩))
  · cases h
theorem lexp_sound : ∀ (n : Nat) (x : ET n) (l : List Sym), l.all symB = true → okE n x = true → ∀ r, lexp n x l = some r → linB r.1 r.2 = true
  | 0, _, _, _, _, r, h => by cases h
  | n + 1, x, l, hl, hx, r, h => by
    obtain ⟨hs, hk⟩ := ok_parts hx
    obtain ⟨kd, num, name, ks⟩ := x
    simp only [lexp] at h hs hk
    split at h
    · injection h with h; subst h
      rename_i h0
      rcases eShape_cases hs with ⟨_, hc, _⟩ | ⟨h1, _⟩ | ⟨h1, _⟩ | ⟨h1, _⟩ <;> try omega
      exact linB_good hc (by simp) (fun i hi => absurd hi (by simp))
    split at h
    · injection h with h; subst h
      exact symOf_sound hl _
    · split at h
      · cases h
      · split at h
        · cases h
        · split at h
          · exact sclO_sound h
          · split at h
            · cases h
            · split at h
              · cases h
              · exact sumO_sound h

/-- A call returns a form, or that it is far; the form lies in Rs or in new memory. -/
def XRet (Rs : Nat → Prop) (w : World) (o : Option Lin) (e : Ending) (w' : World) : Prop :=
  ∃ A cap, e = .returned (.tuple #[.agg #[.int .i64 (optL o).1, .slice A (optL o).2.length cap], errV 83 (optE o)]) ∧ Monos (fun k => Rs k ∨ w.heap.size ≤ k) w' A (optL o).2 cap ∧ Chg No w w'
theorem XRet.of {Rs : Nat → Prop} {w : World} {o : Option Lin} {e : Ending} {w' : World} (h : LinRet w (optL o) (errV 83 (optE o)) e w') : XRet Rs w o e w' := by
  obtain ⟨A, cap, h1, h2, h3⟩ := h
  exact ⟨A, cap, h1, h2.mono monoE_good (fun k _ hk => .inr hk), h3⟩

/-- A part's cells, where the slice's address is known. -/
theorem exprs_some {n : Nat} {R : Nat → Prop} {w : World} {b o : Nat} {l : List (ET n)} {cap : Nat} (h : Exprs R w (some ⟨b, o, none⟩) l cap) (i : Nat) (hi : i < l.length) :
    ∃ k m s B kl capk, (exprV n) R w [.int .i64 k, .int .i64 m, .string s, .slice B kl capk] l[i] ∧ w.cell? ⟨b, o + i * 4, none⟩ = some (.int .i64 k) ∧ w.cell? ⟨b, o + i * 4 + 1, none⟩ = some (.int .i64 m) ∧ w.cell? ⟨b, o + i * 4 + 2, none⟩ = some (.string s) ∧ w.cell? ⟨b, o + i * 4 + 3, none⟩ = some (.slice B kl capk) := by
  obtain ⟨b', o', k, m, s, B, kl, capk, e, hv, x0, x1, x2, x3⟩ := exprs_at h i hi
  injection e with e
  injection e with e1 e2
  subst e1; subst e2
  exact ⟨k, m, s, B, kl, capk, hv, x0, x1, x2, x3⟩
def ExprLOk (n : Nat) : Prop := ∀ (x : ET n) (R Rs : Nat → Prop) (w : World) (cs : List Value) (As : Option Addr) (l : List Sym) (caps : Nat), (exprV n) R w cs x → okE n x = true → Syms Rs w As l caps → (∀ k, Rs k → k < w.heap.size) → l.all symB = true →
    Calls Tryz.prog 34 #[.agg cs.toArray, .slice As l.length caps] w (XRet Rs w (lexp n x l))
set_option maxRecDepth 10000 in
theorem entered_cexpr1 : Entered 57 := fun _ _ => rfl
theorem lexp_eq {n : Nat} (f : ENode (ET n)) (l : List Sym) : lexp (n + 1) f l = (if ENode.kind f = 0 then some (ENode.num f, []) else if ENode.kind f = 1 then some (symOf l (ENode.name f)) else
    match ENode.kids f with
    | [] => none
    | a :: ks => match lexp n a l with
      | none => none
      | some A => if ENode.kind f = 4 then sclO (ENode.num f) A else match ks with
        | [] => none
        | b :: _ => match lexp n b l with
          | none => none
          | some B => sumO A B (if ENode.kind f = 3 then -1 else 1)) := rfl
/-- A variable is looked up. -/
theorem symIndex_any {Rs : Nat → Prop} {w : World} {As : Option Addr} {l : List Sym} {caps : Nat} (hl : Syms Rs w As l caps) {b0 : Nat} {v0 v1 v3 : Value} {name : ByteArray} (hb : w.heap[b0]? = some (.cells #[v0, v1, .string name, v3] 53 (0, 0))) :
    Calls Tryz.prog 56 #[.slice As l.length caps, .func (.func 57) #[] #[.pointer (some ⟨b0, 0, none⟩)]] w fun e w' => e = .returned (.int .i64 (findI (fun s => s.1.toList == name.toList) l)) ∧ Chg No w w' :=
  indexFunc_sym1 (V := symV) rfl symV_good hl 57 entered_cexpr1 (.pointer (some ⟨b0, 0, none⟩)) (fun s => s.1.toList == name.toList) (fun W hW i hi cs hcs => by
    obtain ⟨B, c, rfl, _, _, hm⟩ := sym_cells hcs
    obtain ⟨_, _, q2, _⟩ := obj_4 (hW.obj hb id)
    have x2 := ((Chg.refl No W).alloc (.cells #[.string l[i].1, .int .i64 l[i].2.1, .slice B l[i].2.2.length c] 73)).cell q2 id
    generalize l[i].1 = nm at *
    generalize l[i].2.1 = lc at *
    generalize l[i].2.2.length = ll at *
    clear hcs hm hl hb q2
    go_enter Tryz.func57, Tryz.ntmps57
    go_wp2_with fail
    go_ret
    exact ⟨rfl, (Chg.refl _ _).alloc _⟩)

set_option maxRecDepth 100000 in
set_option maxHeartbeats 8000000 in
theorem lexp_walk (n : Nat) (IH : Hid (ExprLOk n)) : ExprLOk (n + 1) := by
    rintro f R Rs w cs As l caps h hok hl hRs hsB
    obtain ⟨B, capk, rfl, i1, i2, hm, hk⟩ := enode_cells h
    obtain ⟨hs, hkok⟩ := ok_parts hok
    have HKA := Lib.hid (fun W (hW : Chg No w W) => hk.no (exprE_good n) hW)
    have HSY := Lib.hid (fun W (hW : Chg No w W) => hl.no symE_good hW)
    have HIH : Hid (∀ x : ET n, okE n x = true → ∀ (W : World) (R' : Nat → Prop) cs', Chg No w W → (exprV n) R' W cs' x → Calls Tryz.prog 34 #[.agg cs'.toArray, .slice As l.length caps] W (XRet Rs W (lexp n x l))) := fun x hx W R' cs' hW hcs =>
      IH.out x R' Rs W cs' As l caps hcs hx (hl.no symE_good hW) (fun k hk => Nat.lt_of_lt_of_le (hRs k hk) hW.size) hsB
    have hans := lexp_eq f l
    obtain ⟨ans, hans2⟩ : ∃ ans, ans = lexp (n + 1) f l := ⟨_, rfl⟩
    rw [← hans2]
    rw [← hans2] at hans
    have HA := Lib.hid hans
    have HSND := Lib.hid (fun (x : ET n) (hx : x ∈ ENode.kids f) r (hr : lexp n x l = some r) => lexp_sound n x l hsB (hkok x hx) r hr)
    have HKO := Lib.hid hkok
    have hbig := hl.big
    unfold big at hbig
    clear hans hans2 h hk IH hok hm
    generalize ENode.kind f = kd at *
    generalize ENode.num f = num at *
    generalize ENode.name f = name at *
    generalize ENode.kids f = ks at *
    obtain ⟨w3, hw3⟩ : ∃ w3, w3 = (w.alloc (.cells #[.int .i64 kd, .int .i64 num, .string name, .slice B ks.length capk] 53)).alloc (.cells #[.int .i64 0, .slice none 0 0] 32) := ⟨_, rfl⟩
    have h3 : Hid (Chg No w w3 ∧ w3.heap[w.heap.size]? = some (.cells #[.int .i64 kd, .int .i64 num, .string name, .slice B ks.length capk] 53 (0, 0)) ∧ w3.heap[w.heap.size + 1]? = some (.cells #[.int .i64 0, .slice none 0 0] 32 (0, 0)) ∧ w3.heap.size = w.heap.size + 1 + 1) := by
      rw [hw3]
      exact ⟨((Chg.refl _ _).alloc _).alloc _, at_old (heap_alloc_new _ _), at_new (by simp), by simp⟩
    have HR := Lib.hid hRs
    -- the answer's cell is written last
    have HW : Hid (∀ W u v A (o : Lin) cap, Chg No w3 W → Monos (fun k => Rs k ∨ w3.heap.size ≤ k) W A o.2 cap → Chg No w ((W.setCell ⟨w.heap.size + 1, 0, none⟩ u).setCell ⟨w.heap.size + 1, 1, none⟩ v) ∧ Monos (fun k => Rs k ∨ w.heap.size ≤ k) ((W.setCell ⟨w.heap.size + 1, 0, none⟩ u).setCell ⟨w.heap.size + 1, 1, none⟩ v) A o.2 cap) := fun W u v A o cap hW hm => by
      have hz := h3.out.2.2.2
      have hs : Chg (fun q => q = w.heap.size + 1) W ((W.setCell ⟨w.heap.size + 1, 0, none⟩ u).setCell ⟨w.heap.size + 1, 1, none⟩ v) := ((Chg.refl (fun q => q = w.heap.size + 1) W).setCell _ _ (fun _ => rfl)).setCell _ _ (fun _ => rfl)
      exact ⟨chgpast2 (h3.out.1.thenNo hW) hs (fun k hk => by omega), (hm.chg monoE_good hs (fun k hk e => by
        rcases hk with hk | hk
        · have := HR.out k hk; omega
        · omega)).mono monoE_good (fun k _ hk => hk.elim .inl (fun h => .inr (by omega)))⟩
    have HO : Hid (∀ W, Chg No w3 W → (W.cell? ⟨w.heap.size, 0, none⟩ = some (.int .i64 kd) ∧ W.cell? ⟨w.heap.size, 1, none⟩ = some (.int .i64 num) ∧ W.cell? ⟨w.heap.size, 2, none⟩ = some (.string name) ∧ W.cell? ⟨w.heap.size, 3, none⟩ = some (.slice B ks.length capk)) ∧ W.cell? ⟨w.heap.size + 1, 0, none⟩ = some (.int .i64 0) ∧ W.cell? ⟨w.heap.size + 1, 1, none⟩ = some (.slice none 0 0) ∧ W.frozen? ⟨w.heap.size + 1, 0, none⟩ = false ∧ W.frozen? ⟨w.heap.size + 1, 1, none⟩ = false) := fun W hW =>
      ⟨obj_4 (hW.obj h3.out.2.1 id), obj_2 (hW.obj h3.out.2.2.1 id)⟩
    have HF : Hid (∀ (A : Option Addr) (cap : Nat), True) := fun _ _ => trivial
    clear hl hRs hsB hkok
    obtain ⟨⟨p0, p1, p2, p3⟩, r0, r1, rf0, rf1⟩ := HO.out w3 (Chg.refl _ _)
    rcases eShape_cases hs with ⟨rfl, hcx, hkx⟩ | ⟨rfl, hkx⟩ | ⟨hkd, hkl⟩ | ⟨rfl, hc, hkl⟩
    · clear hcx hkx
      obtain rfl : ans = some (num, []) := HA.out
      clear HA HIH HSND HKO HKA HSY hs
      go_enter Tryz.func34, Tryz.ntmps34
      go_upto_region 1 with fail
      rw [← hw3]
      clear hw3
      go_wp2_with fail
      refine bodyPost_ret (v := .tuple #[.agg #[.int .i64 num, .slice none 0 0], .nilIface]) (by simp [results, Tryz.results34, go_sem, r0, r1]) rfl ⟨none, 0, ?_, (HW.out _ _ _ none (num, []) 0 (Chg.refl _ _) Sl.empty).2, (HW.out _ _ _ none (num, []) 0 (Chg.refl _ _) Sl.empty).1⟩
      rw [show optE (some (num, ([] : List Mono))) = 0 from rfl, errV_zero]
      rfl
    · clear hkx
      obtain rfl : ans = some (symOf l name) := HA.out
      have HIX := Lib.hid (symIndex_any (HSY.out w3 h3.out.1) h3.out.2.1)
      have hfi := find_findI (p := fun s : Sym => s.1.toList == name.toList) (l := l)
      clear HA HIH HSND HKO HKA hs
      rcases hfi with ⟨e1, e2⟩ | ⟨k, hk, e1, e2⟩
      · have hso : symOf l name = (0, []) := by unfold symOf; rw [e2]
        rw [e1] at HIX
        rw [hso]
        clear hso e1 e2 HSY
        go_enter Tryz.func34, Tryz.ntmps34
        go_upto_region 1 with fail
        rw [← hw3]
        clear hw3
        go_wp2_with (go_at_call 56; refine HIX.out.mono ?_; rintro e w4 ⟨rfl, h4⟩; have H4 := Lib.hid h4; clear p0 p1 p2 p3 r0 r1 rf0 rf1; obtain ⟨⟨p0, p1, p2, p3⟩, r0, r1, rf0, rf1⟩ := HO.out w4 h4; clear h4)
        refine bodyPost_ret (v := .tuple #[.agg #[.int .i64 0, .slice none 0 0], .nilIface]) (by simp [results, Tryz.results34, go_sem, r0, r1]) rfl ⟨none, 0, ?_, (HW.out _ _ _ none (0, []) 0 H4.out Sl.empty).2, (HW.out _ _ _ none (0, []) 0 H4.out Sl.empty).1⟩
        rw [show optE (some ((0 : Int), ([] : List Mono))) = 0 from rfl, errV_zero]
        rfl
      · have hso : symOf l name = l[k].2 := by unfold symOf; rw [e2]
        rw [e1] at HIX
        rw [hso]
        have HSA := Lib.hid (fun W (hW : Chg No w3 W) => syms_at (HSY.out W (h3.out.1.thenNo hW)) k hk)
        have i0 : (0 : Int) ≤ (k : Int) := by omega
        have i1 : (k : Int) < (l.length : Int) := by omega
        clear hso e1 e2 HSY
        generalize l[k] = sk at *
        obtain ⟨sn, sc, st⟩ := sk
        simp only at HSA ⊢
        go_enter Tryz.func34, Tryz.ntmps34
        go_upto_region 1 with fail
        rw [← hw3]
        clear hw3
        go_wp2_with (go_at_call 56; refine HIX.out.mono ?_; rintro e w4 ⟨rfl, h4⟩; have H4 := Lib.hid h4; clear p0 p1 p2 p3 r0 r1 rf0 rf1; obtain ⟨⟨p0, p1, p2, p3⟩, r0, r1, rf0, rf1⟩ := HO.out w4 h4; obtain ⟨b, o, A2, c2, rfl, _, g4, x0, x1, x2⟩ := HSA.out w4 h4; have G4 := Lib.hid g4; clear h4 g4)
        refine bodyPost_ret (v := .tuple #[.agg #[.int .i64 sc, .slice A2 st.length c2], .nilIface]) (by simp [results, Tryz.results34, go_sem, r0, r1]) rfl ⟨A2, c2, ?_, (HW.out _ _ _ A2 (sc, st) c2 H4.out (G4.out.mono monoE_good (fun k _ hk => .inl hk))).2, (HW.out _ _ _ A2 (sc, st) c2 H4.out (G4.out.mono monoE_good (fun k _ hk => .inl hk))).1⟩
        rw [show optE (some (sc, st)) = 0 from rfl, errV_zero]
        rfl
    rotate_left
    · obtain ⟨a, rfl⟩ : ∃ a, ks = [a] := List.length_eq_one_iff.1 hkl
      have HA1 : Hid (ans = (match lexp n a l with | none => none | some A => sclO num A)) := HA.out
      obtain ⟨n1, n2⟩ := coefS_le hc
      clear HA hc hkl HSY hs
      rw [show ([a] : List (ET n)).length = 1 from rfl] at hw3 h3 HO p3
      obtain ⟨b, o, hB⟩ : ∃ b o, B = some ⟨b, o, none⟩ := by
        obtain ⟨b, o, _, _, _, _, _, _, hB, _⟩ := exprs_at (HKA.out w3 h3.out.1) 0 (by simp)
        exact ⟨b, o, hB⟩
      subst hB
      obtain ⟨k0, m0, s0, B0, l0, d0, hv, x0, x1, x2, x3⟩ := exprs_some (HKA.out w3 h3.out.1) 0 (by simp)
      have HI := Lib.hid (HIH.out a (HKO.out a (by simp)) w3 R _ h3.out.1 hv)
      simp only [Nat.zero_mul, Nat.add_zero] at x0 x1 x2 x3
      clear hv
      unfold XRet at HI
      cases hla : lexp n a l with
      | none =>
        rw [hla, show optE (none : Option Lin) = 3 from rfl, errV_of _ (by decide), show optL none = (0, []) from rfl] at HI
        obtain rfl : ans = none := by rw [HA1.out, hla]
        clear HA1 hla HIH HSND HKO
        go_enter Tryz.func34, Tryz.ntmps34
        go_upto_region 1 with fail
        rw [← hw3]
        clear hw3
        go_upto_region 10 with (go_at_call 34; refine HI.out.mono ?_; rintro e w4 ⟨A4, c4, rfl, g4, h4⟩; have G4 := Lib.hid g4; have H4 := Lib.hid h4; clear g4 h4)
        obtain ⟨w5, hw5⟩ : ∃ w5, w5 = w4.alloc (.cells #[.int .i64 0, .slice A4 0 c4] 32) := ⟨_, rfl⟩
        rw [← hw5]
        obtain ⟨b5, hb5⟩ : ∃ b5, b5 = w4.heap.size := ⟨_, rfl⟩
        rw [← hb5]
        have C5 : Hid (Chg No w3 w5) := by rw [hw5]; exact H4.out.alloc _
        clear hw5 hb5 p0 p1 p2 p3 r0 r1 rf0 rf1 x0 x1 x2 x3
        obtain ⟨⟨p0, p1, p2, p3⟩, r0, r1, rf0, rf1⟩ := HO.out w5 C5.out
        go_wp2_with fail
        refine bodyPost_ret (v := .tuple #[.agg #[.int .i64 0, .slice none 0 0], .iface 83 (.int .i64 3)]) (by simp [results, Tryz.results34, go_sem, r0, r1]) rfl ⟨none, 0, ?_, (HW.out _ _ _ none (0, []) 0 C5.out Sl.empty).2, (HW.out _ _ _ none (0, []) 0 C5.out Sl.empty).1⟩
        rw [show optE (none : Option Lin) = 3 from rfl, errV_of _ (by decide)]
        rfl
      | some LA =>
        rw [hla, show optE (some LA) = 0 from rfl, errV_zero, show optL (some LA) = LA from rfl] at HI
        have hsA := HSND.out a (by simp) LA hla
        obtain ⟨ansL, hL⟩ : ∃ ansL, ansL = optL ans := ⟨_, rfl⟩
        obtain ⟨ansE, hE⟩ : ∃ ansE, ansE = errV 83 (optE ans) := ⟨_, rfl⟩
        have HAL := Lib.hid hL
        have HAE := Lib.hid hE
        have hans : ans = sclO num LA := by rw [HA1.out, hla]
        have HAN := Lib.hid hans
        clear hL hE hans HA1 hla HIH HSND HKO
        go_enter Tryz.func34, Tryz.ntmps34
        go_upto_region 1 with fail
        rw [← hw3]
        clear hw3
        go_upto_region 10 with (go_at_call 34; refine HI.out.mono ?_; rintro e w4 ⟨A4, c4, rfl, g4, h4⟩; have G4 := Lib.hid g4; have H4 := Lib.hid h4; clear g4 h4)
        obtain ⟨w5, hw5⟩ : ∃ w5, w5 = w4.alloc (.cells #[.int .i64 LA.1, .slice A4 LA.2.length c4] 32) := ⟨_, rfl⟩
        rw [← hw5]
        obtain ⟨b5, hb5⟩ : ∃ b5, b5 = w4.heap.size := ⟨_, rfl⟩
        rw [← hb5]
        have C5 : Hid (Chg No w3 w5 ∧ w5.heap[b5]? = some (.cells #[.int .i64 LA.1, .slice A4 LA.2.length c4] 32 (0, 0)) ∧ Monos (fun k => Rs k ∨ w3.heap.size ≤ k) w5 A4 LA.2 c4) := by
          rw [hw5, hb5]; exact ⟨H4.out.alloc _, heap_alloc_new _ _, G4.out.no monoE_good ((Chg.refl _ _).alloc _)⟩
        have HSC : Hid (Calls Tryz.prog 58 #[.agg #[.int .i64 LA.1, .slice A4 LA.2.length c4], .int .i64 num] w5 (LinRet w5 ansL ansE)) := by
          have h := cscaled_any (w := w5) LA C5.out.2.2 hsA num n1 n2
          rw [← HAN.out, ← HAL.out, ← HAE.out] at h
          exact h
        clear hw5 hb5 p0 p1 p2 p3 r0 r1 rf0 rf1 x0 x1 x2 x3 hsA
        obtain ⟨⟨p0, p1, p2, p3⟩, r0, r1, rf0, rf1⟩ := HO.out w5 C5.out.1
        obtain ⟨q0, q1, _, _⟩ := obj_2 C5.out.2.1
        go_wp2_with (go_at_call 58; refine HSC.out.mono ?_; rintro e w6 ⟨A6, c6, rfl, g6, h6⟩; have G6 : Hid (Chg No w3 w6 ∧ Monos (fun k => Rs k ∨ w3.heap.size ≤ k) w6 A6 ansL.2 c6) := ⟨C5.out.1.thenNo h6, g6.mono monoE_good (fun k _ hk => .inr (Nat.le_trans C5.out.1.size hk))⟩; clear g6 h6 p0 p1 p2 p3 r0 r1 rf0 rf1; obtain ⟨⟨p0, p1, p2, p3⟩, r0, r1, rf0, rf1⟩ := HO.out w6 G6.out.1)
        refine bodyPost_ret (v := .tuple #[.agg #[.int .i64 ansL.1, .slice A6 ansL.2.length c6], ansE]) (by simp [results, Tryz.results34, go_sem, r0, r1]) rfl ⟨A6, c6, ?_, ?_, (HW.out _ _ _ A6 ansL c6 G6.out.1 G6.out.2).1⟩
        · rw [← HAL.out, ← HAE.out]
        · rw [← HAL.out]; exact (HW.out _ _ _ A6 ansL c6 G6.out.1 G6.out.2).2
    · obtain ⟨a, b2, rfl⟩ : ∃ a b2, ks = [a, b2] := by
        match ks, hkl with
        | [a, b2], _ => exact ⟨a, b2, rfl⟩
      have hk0 : (kd == 0) = false := beqF (by omega)
      have hk1 : (kd == 1) = false := beqF (by omega)
      have hk4 : (kd == 4) = false := beqF (by omega)
      obtain ⟨sg, hsg⟩ : ∃ sg : Int, (kd = 3 ∧ sg = -1) ∨ (kd ≠ 3 ∧ sg = 1) := by
        by_cases h : kd = 3
        · exact ⟨-1, .inl ⟨h, rfl⟩⟩
        · exact ⟨1, .inr ⟨h, rfl⟩⟩
      have HA1 : Hid (ans = (match lexp n a l with | none => none | some A => match lexp n b2 l with | none => none | some B => sumO A B sg)) := by
        unfold Hid
        rw [HA.out, if_neg (by omega), if_neg (by omega)]
        have e : (if kd = 3 then (-1 : Int) else 1) = sg := by
          rcases hsg with ⟨h1, h2⟩ | ⟨h1, h2⟩
          · rw [if_pos h1, h2]
          · rw [if_neg h1, h2]
        show (match lexp n a l with | none => none | some A => if kd = 4 then sclO num A else match lexp n b2 l with | none => none | some B => sumO A B (if kd = 3 then -1 else 1)) = _
        rw [e]
        cases lexp n a l with
        | none => rfl
        | some A =>
          show (if kd = 4 then sclO num A else match lexp n b2 l with | none => none | some B => sumO A B sg) = _
          rw [if_neg (by omega)]
      clear HA hkl HSY hs hkd
      rw [show ([a, b2] : List (ET n)).length = 2 from rfl] at hw3 h3 HO p3
      obtain ⟨b, o, hB⟩ : ∃ b o, B = some ⟨b, o, none⟩ := by
        obtain ⟨b, o, _, _, _, _, _, _, hB, _⟩ := exprs_at (HKA.out w3 h3.out.1) 0 (by simp)
        exact ⟨b, o, hB⟩
      subst hB
      obtain ⟨k0, m0, s0, B0, l0, d0, hv, x0, x1, x2, x3⟩ := exprs_some (HKA.out w3 h3.out.1) 0 (by simp)
      have HI := Lib.hid (HIH.out a (HKO.out a (by simp)) w3 R _ h3.out.1 hv)
      simp only [Nat.zero_mul, Nat.add_zero] at x0 x1 x2 x3
      clear hv
      unfold XRet at HI
      cases hla : lexp n a l with
      | none =>
        rw [hla, show optE (none : Option Lin) = 3 from rfl, errV_of _ (by decide), show optL none = (0, []) from rfl] at HI
        obtain rfl : ans = none := by rw [HA1.out, hla]
        clear HA1 hla HIH HSND HKO
        go_enter Tryz.func34, Tryz.ntmps34
        go_upto_region 1 with fail
        rw [← hw3]
        clear hw3
        go_upto_region 10 with (go_at_call 34; refine HI.out.mono ?_; rintro e w4 ⟨A4, c4, rfl, g4, h4⟩; have G4 := Lib.hid g4; have H4 := Lib.hid h4; clear g4 h4)
        obtain ⟨w5, hw5⟩ : ∃ w5, w5 = w4.alloc (.cells #[.int .i64 0, .slice A4 0 c4] 32) := ⟨_, rfl⟩
        rw [← hw5]
        obtain ⟨b5, hb5⟩ : ∃ b5, b5 = w4.heap.size := ⟨_, rfl⟩
        rw [← hb5]
        have C5 : Hid (Chg No w3 w5) := by rw [hw5]; exact H4.out.alloc _
        clear hw5 hb5 p0 p1 p2 p3 r0 r1 rf0 rf1 x0 x1 x2 x3
        obtain ⟨⟨p0, p1, p2, p3⟩, r0, r1, rf0, rf1⟩ := HO.out w5 C5.out
        go_wp2_with fail
        refine bodyPost_ret (v := .tuple #[.agg #[.int .i64 0, .slice none 0 0], .iface 83 (.int .i64 3)]) (by simp [results, Tryz.results34, go_sem, r0, r1]) rfl ⟨none, 0, ?_, (HW.out _ _ _ none (0, []) 0 C5.out Sl.empty).2, (HW.out _ _ _ none (0, []) 0 C5.out Sl.empty).1⟩
        rw [show optE (none : Option Lin) = 3 from rfl, errV_of _ (by decide)]
        rfl
      | some LA =>
        rw [hla, show optE (some LA) = 0 from rfl, errV_zero, show optL (some LA) = LA from rfl] at HI
        have hsA := HSND.out a (by simp) LA hla
        go_enter Tryz.func34, Tryz.ntmps34
        go_upto_region 1 with fail
        rw [← hw3]
        clear hw3
        go_upto_region 10 with (go_at_call 34; refine HI.out.mono ?_; rintro e w4 ⟨A4, c4, rfl, g4, h4⟩; have G4 := Lib.hid g4; have H4 := Lib.hid h4; clear g4 h4)
        obtain ⟨w5, hw5⟩ : ∃ w5, w5 = w4.alloc (.cells #[.int .i64 LA.1, .slice A4 LA.2.length c4] 32) := ⟨_, rfl⟩
        rw [← hw5]
        obtain ⟨b5, hb5⟩ : ∃ b5, b5 = w4.heap.size := ⟨_, rfl⟩
        rw [← hb5]
        have C5 : Hid (Chg No w3 w5 ∧ w5.heap[b5]? = some (.cells #[.int .i64 LA.1, .slice A4 LA.2.length c4] 32 (0, 0)) ∧ Monos (fun k => Rs k ∨ w3.heap.size ≤ k) w5 A4 LA.2 c4) := by
          rw [hw5, hb5]; exact ⟨H4.out.alloc _, heap_alloc_new _ _, G4.out.no monoE_good ((Chg.refl _ _).alloc _)⟩
        clear hw5 hb5 p0 p1 p2 p3 r0 r1 rf0 rf1 x0 x1 x2 x3 hsA
        obtain ⟨⟨p0, p1, p2, p3⟩, r0, r1, rf0, rf1⟩ := HO.out w5 C5.out.1
        obtain ⟨k0, m0, s0, B0, l0, d0, hv, x0, x1, x2, x3⟩ := exprs_some (HKA.out w5 (h3.out.1.thenNo C5.out.1)) 1 (by simp)
        have HI2 := Lib.hid (HIH.out b2 (HKO.out b2 (by simp)) w5 R _ (h3.out.1.thenNo C5.out.1) hv)
        simp only [Nat.one_mul] at x0 x1 x2 x3
        clear hv
        unfold XRet at HI2
        cases hlb : lexp n b2 l with
        | none =>
          rw [hlb, show optE (none : Option Lin) = 3 from rfl, errV_of _ (by decide), show optL none = (0, []) from rfl] at HI2
          obtain rfl : ans = none := by rw [HA1.out, hla]; show (match lexp n b2 l with | none => none | some B => sumO LA B sg) = none; rw [hlb]
          clear HA1 hla hlb HIH HSND HKO hsg
          go_upto_region 15 with (go_at_call 34; refine HI2.out.mono ?_; rintro e w6 ⟨A6, c6, rfl, g6, h6⟩; have G6 := Lib.hid g6; have H6 := Lib.hid h6; clear g6 h6)
          obtain ⟨w7, hw7⟩ : ∃ w7, w7 = w6.alloc (.cells #[.int .i64 0, .slice A6 0 c6] 32) := ⟨_, rfl⟩
          rw [← hw7]
          obtain ⟨b7, hb7⟩ : ∃ b7, b7 = w6.heap.size := ⟨_, rfl⟩
          rw [← hb7]
          have C7 : Hid (Chg No w3 w7) := by rw [hw7]; exact (C5.out.1.thenNo H6.out).alloc _
          clear hw7 hb7 p0 p1 p2 p3 r0 r1 rf0 rf1 x0 x1 x2 x3
          obtain ⟨⟨p0, p1, p2, p3⟩, r0, r1, rf0, rf1⟩ := HO.out w7 C7.out
          go_wp2_with fail
          refine bodyPost_ret (v := .tuple #[.agg #[.int .i64 0, .slice none 0 0], .iface 83 (.int .i64 3)]) (by simp [results, Tryz.results34, go_sem, r0, r1]) rfl ⟨none, 0, ?_, (HW.out _ _ _ none (0, []) 0 C7.out Sl.empty).2, (HW.out _ _ _ none (0, []) 0 C7.out Sl.empty).1⟩
          rw [show optE (none : Option Lin) = 3 from rfl, errV_of _ (by decide)]
          rfl
        | some LB =>
          rw [hlb, show optE (some LB) = 0 from rfl, errV_zero, show optL (some LB) = LB from rfl] at HI2
          obtain ⟨ansL, hL⟩ : ∃ ansL, ansL = optL ans := ⟨_, rfl⟩
          obtain ⟨ansE, hE⟩ : ∃ ansE, ansE = errV 83 (optE ans) := ⟨_, rfl⟩
          have HAL := Lib.hid hL
          have HAE := Lib.hid hE
          have hans : ans = sumO LA LB sg := by rw [HA1.out, hla]; show (match lexp n b2 l with | none => none | some B => sumO LA B sg) = _; rw [hlb]
          have HAN := Lib.hid hans
          clear hL hE hans HA1 hla hlb HIH HSND HKO
          go_upto_region 15 with (go_at_call 34; refine HI2.out.mono ?_; rintro e w6 ⟨A6, c6, rfl, g6, h6⟩; have G6 := Lib.hid g6; have H6 := Lib.hid h6; clear g6 h6)
          obtain ⟨w7, hw7⟩ : ∃ w7, w7 = w6.alloc (.cells #[.int .i64 LB.1, .slice A6 LB.2.length c6] 32) := ⟨_, rfl⟩
          rw [← hw7]
          obtain ⟨b7, hb7⟩ : ∃ b7, b7 = w6.heap.size := ⟨_, rfl⟩
          rw [← hb7]
          have C7 : Hid (Chg No w3 w7 ∧ w7.heap[b7]? = some (.cells #[.int .i64 LB.1, .slice A6 LB.2.length c6] 32 (0, 0)) ∧ w7.heap[b5]? = some (.cells #[.int .i64 LA.1, .slice A4 LA.2.length c4] 32 (0, 0)) ∧ Monos (fun k => Rs k ∨ w5.heap.size ≤ k) w7 A6 LB.2 c6 ∧ Monos (fun k => Rs k ∨ w3.heap.size ≤ k) w7 A4 LA.2 c4) := by
            rw [hw7, hb7]
            have ha : Chg No w6 (w6.alloc (.cells #[.int .i64 LB.1, .slice A6 LB.2.length c6] 32)) := (Chg.refl _ _).alloc _
            exact ⟨(C5.out.1.thenNo H6.out).alloc _, heap_alloc_new _ _, (H6.out.alloc _).obj C5.out.2.1 id, G6.out.no monoE_good ha, C5.out.2.2.no monoE_good (H6.out.alloc _)⟩
          have HSC : Hid (Calls Tryz.prog 27 #[.agg #[.int .i64 LA.1, .slice A4 LA.2.length c4], .agg #[.int .i64 LB.1, .slice A6 LB.2.length c6], .int .i64 sg] w7 (LinRet w7 ansL ansE)) := by
            have h := csum_any (w := w7) LA LB C7.out.2.2.2.2 C7.out.2.2.2.1 sg
            rw [← HAN.out, ← HAL.out, ← HAE.out] at h
            exact h
          clear hw7 hb7 p0 p1 p2 p3 r0 r1 rf0 rf1 x0 x1 x2 x3
          obtain ⟨⟨p0, p1, p2, p3⟩, r0, r1, rf0, rf1⟩ := HO.out w7 C7.out.1
          obtain ⟨q0, q1, _, _⟩ := obj_2 C7.out.2.1
          obtain ⟨u0, u1, _, _⟩ := obj_2 C7.out.2.2.1
          clear G6 H6
          rcases hsg with ⟨rfl, rfl⟩ | ⟨hk3, rfl⟩
          · go_wp2_with (go_at_call 27; refine HSC.out.mono ?_; rintro e w8 ⟨A8, c8, rfl, g8, h8⟩; have G6 : Hid (Chg No w3 w8 ∧ Monos (fun k => Rs k ∨ w3.heap.size ≤ k) w8 A8 ansL.2 c8) := ⟨C7.out.1.thenNo h8, g8.mono monoE_good (fun k _ hk => .inr (Nat.le_trans C7.out.1.size hk))⟩; clear g8 h8 p0 p1 p2 p3 r0 r1 rf0 rf1; obtain ⟨⟨p0, p1, p2, p3⟩, r0, r1, rf0, rf1⟩ := HO.out w8 G6.out.1)
            refine bodyPost_ret (v := .tuple #[.agg #[.int .i64 ansL.1, .slice A8 ansL.2.length c8], ansE]) (by simp [results, Tryz.results34, go_sem, r0, r1]) rfl ⟨A8, c8, ?_, ?_, (HW.out _ _ _ A8 ansL c8 G6.out.1 G6.out.2).1⟩
            · rw [← HAL.out, ← HAE.out]
            · rw [← HAL.out]; exact (HW.out _ _ _ A8 ansL c8 G6.out.1 G6.out.2).2
          · have hk3' : (kd == 3) = false := beqF hk3
            clear hk3
            go_wp2_with (go_at_call 27; refine HSC.out.mono ?_; rintro e w8 ⟨A8, c8, rfl, g8, h8⟩; have G6 : Hid (Chg No w3 w8 ∧ Monos (fun k => Rs k ∨ w3.heap.size ≤ k) w8 A8 ansL.2 c8) := ⟨C7.out.1.thenNo h8, g8.mono monoE_good (fun k _ hk => .inr (Nat.le_trans C7.out.1.size hk))⟩; clear g8 h8 p0 p1 p2 p3 r0 r1 rf0 rf1; obtain ⟨⟨p0, p1, p2, p3⟩, r0, r1, rf0, rf1⟩ := HO.out w8 G6.out.1)
            refine bodyPost_ret (v := .tuple #[.agg #[.int .i64 ansL.1, .slice A8 ansL.2.length c8], ansE]) (by simp [results, Tryz.results34, go_sem, r0, r1]) rfl ⟨A8, c8, ?_, ?_, (HW.out _ _ _ A8 ansL c8 G6.out.1 G6.out.2).1⟩
            · rw [← HAL.out, ← HAE.out]
            · rw [← HAL.out]; exact (HW.out _ _ _ A8 ansL c8 G6.out.1 G6.out.2).2
theorem cexpr_any : ∀ n, ExprLOk n
  | 0 => fun _ _ _ _ _ _ _ _ h => h.elim
  | n + 1 => lexp_walk n (Lib.hid (cexpr_any n))
end Go.Proofs.YtpmndblakmobdaaGreatDoor
/- ChD -/
namespace Go.Proofs.YtpmndblakmobdaaGreatDoor
open Go Go.RowKit

/-- An expression's form, and what is amiss. -/
noncomputable def exprR (n : Nat) (x : ET n) (l : List Sym) : Lin × Int := if (okP2 (deepE n x 99) (okE n x) && l.all symB) = true then (optL (lexp n x l), optE (lexp n x l)) else ((0, []), 5)
def XRetE (Rs : Nat → Prop) (w : World) (r : Lin × Int) (e : Ending) (w' : World) : Prop :=
  ∃ A cap, e = .returned (.tuple #[.agg #[.int .i64 r.1.1, .slice A r.1.2.length cap], errV 83 r.2]) ∧ Monos (fun k => Rs k ∨ w.heap.size ≤ k) w' A r.1.2 cap ∧ Chg No w w'

set_option maxRecDepth 100000 in
set_option maxHeartbeats 4000000 in
theorem chunkExpr_any {n : Nat} {x : ET n} {R Rs : Nat → Prop} {w : World} {ek en : Int} {es : ByteArray} {eB : Option Addr} {ekl eck : Nat} (hK : Keys w) (hx : (exprV n) R w [.int .i64 ek, .int .i64 en, .string es, .slice eB ekl eck] x) {As : Option Addr} {l : List Sym} {caps : Nat} (hl : Syms Rs w As l caps) (hRs : ∀ k, Rs k → k < w.heap.size) :
    Calls Tryz.prog 15 #[.agg #[.int .i64 ek, .int .i64 en, .string es, .slice eB ekl eck], .slice As l.length caps] w (XRetE Rs w (exprR n x l)) := by
  have HF := Lib.hid (fun W (hW : Chg No w W) => cfine_1 (hK.no hW) ((exprV_good n).no hx hW) (hl.no symE_good hW))
  obtain ⟨ansL, hL⟩ : ∃ ansL, ansL = (exprR n x l).1 := ⟨_, rfl⟩
  obtain ⟨ansE, hE⟩ : ∃ ansE, ansE = errV 83 (exprR n x l).2 := ⟨_, rfl⟩
  have HX : Hid ((okP2 (deepE n x 99) (okE n x) && l.all symB) = true → ∀ W, Chg No w W → Calls Tryz.prog 34 #[.agg #[.int .i64 ek, .int .i64 en, .string es, .slice eB ekl eck], .slice As l.length caps] W (fun e w' => ∃ A cap, e = .returned (.tuple #[.agg #[.int .i64 ansL.1, .slice A ansL.2.length cap], ansE]) ∧ Monos (fun k => Rs k ∨ W.heap.size ≤ k) w' A ansL.2 cap ∧ Chg No W w')) := fun hq W hW => by
    have hq' := hq
    rw [Bool.and_eq_true] at hq'
    have hok : okE n x = true := by
      have := hq'.1
      unfold okP2 at this
      rw [Bool.and_eq_true] at this
      exact this.2
    have h := cexpr_any n x R Rs W _ As l caps ((exprV_good n).no hx hW) hok (hl.no symE_good hW) (fun k hk => Nat.lt_of_lt_of_le (hRs k hk) hW.size) hq'.2
    have e1 : optL (lexp n x l) = ansL := by rw [hL]; unfold exprR; rw [if_pos hq]
    have e2 : errV 83 (optE (lexp n x l)) = ansE := by rw [hE]; unfold exprR; rw [if_pos hq]
    unfold XRet at h
    rw [e1, e2] at h
    exact h
  have hbad : (okP2 (deepE n x 99) (okE n x) && l.all symB) = false → ansL = (0, []) ∧ ansE = .iface 83 (.int .i64 5) := fun hq => by
    rw [hL, hE]; unfold exprR; rw [hq]
    exact ⟨rfl, errV_of _ (show (5 : Int) ≠ 0 by decide)⟩
  have HL := Lib.hid hL
  have HE := Lib.hid hE
  have HR := Lib.hid hRs
  clear hL hE hx hK hl hRs
  generalize (okP2 (deepE n x 99) (okE n x) && l.all symB) = q at *
  generalize l.length = ll at *
  obtain ⟨w3, hw3⟩ : ∃ w3, w3 = (w.alloc (.cells #[.int .i64 ek, .int .i64 en, .string es, .slice eB ekl eck] 53)).alloc (.cells #[.int .i64 0, .slice none 0 0] 32) := ⟨_, rfl⟩
  have h3 : Hid (Chg No w w3 ∧ w3.heap[w.heap.size]? = some (.cells #[.int .i64 ek, .int .i64 en, .string es, .slice eB ekl eck] 53 (0, 0)) ∧ w3.heap[w.heap.size + 1]? = some (.cells #[.int .i64 0, .slice none 0 0] 32 (0, 0)) ∧ w3.heap.size = w.heap.size + 1 + 1) := by
    rw [hw3]
    exact ⟨((Chg.refl _ _).alloc _).alloc _, at_old (heap_alloc_new _ _), at_new (by simp), by simp⟩
  have HW : Hid (∀ W u v A (o : Lin) cap, Chg No w3 W → Monos (fun k => Rs k ∨ w3.heap.size ≤ k) W A o.2 cap → Chg No w ((W.setCell ⟨w.heap.size + 1, 0, none⟩ u).setCell ⟨w.heap.size + 1, 1, none⟩ v) ∧ Monos (fun k => Rs k ∨ w.heap.size ≤ k) ((W.setCell ⟨w.heap.size + 1, 0, none⟩ u).setCell ⟨w.heap.size + 1, 1, none⟩ v) A o.2 cap) := fun W u v A o cap hW hm => by
    have hz := h3.out.2.2.2
    have hs : Chg (fun q => q = w.heap.size + 1) W ((W.setCell ⟨w.heap.size + 1, 0, none⟩ u).setCell ⟨w.heap.size + 1, 1, none⟩ v) := ((Chg.refl (fun q => q = w.heap.size + 1) W).setCell _ _ (fun _ => rfl)).setCell _ _ (fun _ => rfl)
    exact ⟨chgpast2 (h3.out.1.thenNo hW) hs (fun k hk => by omega), (hm.chg monoE_good hs (fun k hk e => by
      rcases hk with hk | hk
      · have := HR.out k hk; omega
      · omega)).mono monoE_good (fun k _ hk => hk.elim .inl (fun h => .inr (by omega)))⟩
  have HO : Hid (∀ W, Chg No w3 W → (W.cell? ⟨w.heap.size, 0, none⟩ = some (.int .i64 ek) ∧ W.cell? ⟨w.heap.size, 1, none⟩ = some (.int .i64 en) ∧ W.cell? ⟨w.heap.size, 2, none⟩ = some (.string es) ∧ W.cell? ⟨w.heap.size, 3, none⟩ = some (.slice eB ekl eck)) ∧ W.cell? ⟨w.heap.size + 1, 0, none⟩ = some (.int .i64 0) ∧ W.cell? ⟨w.heap.size + 1, 1, none⟩ = some (.slice none 0 0) ∧ W.frozen? ⟨w.heap.size + 1, 0, none⟩ = false ∧ W.frozen? ⟨w.heap.size + 1, 1, none⟩ = false) := fun W hW =>
    ⟨obj_4 (hW.obj h3.out.2.1 id), obj_2 (hW.obj h3.out.2.2.1 id)⟩
  obtain ⟨⟨p0, p1, p2, p3⟩, r0, r1, rf0, rf1⟩ := HO.out w3 (Chg.refl _ _)
  cases q
  · obtain ⟨rfl, rfl⟩ := hbad rfl
    clear HX
    go_enter Tryz.func15, Tryz.ntmps15
    go_upto_region 1 with fail
    rw [← hw3]
    clear hw3
    go_wp2_with (go_at_call 33; refine (HF.out _ h3.out.1).mono ?_; rintro e w4 ⟨rfl, h4⟩; have H4 := Lib.hid h4; clear p0 p1 p2 p3 r0 r1 rf0 rf1; obtain ⟨⟨p0, p1, p2, p3⟩, r0, r1, rf0, rf1⟩ := HO.out w4 h4; clear h4)
    refine bodyPost_ret (v := .tuple #[.agg #[.int .i64 0, .slice none 0 0], .iface 83 (.int .i64 5)]) (by simp [results, Tryz.results15, go_sem, r0, r1]) rfl ⟨none, 0, ?_, ?_, (HW.out _ _ _ none (0, []) 0 H4.out Sl.empty).1⟩
    · rw [← HL.out, ← HE.out]; rfl
    · rw [← HL.out]; exact (HW.out _ _ _ none (0, []) 0 H4.out Sl.empty).2
  · have HX1 := Lib.hid (HX.out rfl)
    clear hbad HX
    go_enter Tryz.func15, Tryz.ntmps15
    go_upto_region 1 with fail
    rw [← hw3]
    clear hw3
    go_wp2_with (first
      | (go_at_call 33; refine (HF.out _ h3.out.1).mono ?_; rintro e w4 ⟨rfl, h4⟩; have H4 := Lib.hid h4; clear p0 p1 p2 p3 r0 r1 rf0 rf1; obtain ⟨⟨p0, p1, p2, p3⟩, r0, r1, rf0, rf1⟩ := HO.out w4 h4; clear h4)
      | (go_at_call 34; refine (HX1.out _ (h3.out.1.thenNo H4.out)).mono ?_; rintro e w6 ⟨A6, c6, rfl, g6, h6⟩; have G6 : Hid (Chg No w3 w6 ∧ Monos (fun k => Rs k ∨ w3.heap.size ≤ k) w6 A6 ansL.2 c6) := ⟨H4.out.thenNo h6, g6.mono monoE_good (fun k _ hk => hk.elim .inl (fun h => .inr (Nat.le_trans H4.out.size h)))⟩; clear g6 h6 p0 p1 p2 p3 r0 r1 rf0 rf1; obtain ⟨⟨p0, p1, p2, p3⟩, r0, r1, rf0, rf1⟩ := HO.out w6 G6.out.1))
    refine bodyPost_ret (v := .tuple #[.agg #[.int .i64 ansL.1, .slice A6 ansL.2.length c6], ansE]) (by simp [results, Tryz.results15, go_sem, r0, r1]) rfl ⟨A6, c6, ?_, ?_, (HW.out _ _ _ A6 ansL c6 G6.out.1 G6.out.2).1⟩
    · rw [← HL.out, ← HE.out]
    · rw [← HL.out]; exact (HW.out _ _ _ A6 ansL c6 G6.out.1 G6.out.2).2

/-- The document's example. -/
def upX : ET 1 := (⟨1, 0, ⟨#[120]⟩, []⟩ : ENode (ET 0))
def upM : ET 2 := (⟨4, 2, ⟨#[]⟩, [upX]⟩ : ENode (ET 1))
def upN : ET 2 := (⟨0, 1, ⟨#[]⟩, []⟩ : ENode (ET 1))
def upE : ET 3 := (⟨3, 0, ⟨#[]⟩, [upM, upN]⟩ : ENode (ET 2))
def upL : List Sym := [(⟨#[120]⟩, (3, [(0, 1)]))]
theorem upE_ok : okP2 (deepE 3 upE 99) (okE 3 upE) = true := by kernel_rfl
theorem upL_ok : upL.all symB = true := by kernel_rfl
theorem upE_form : lexp 3 upE upL = some (5, [(0, 2)]) := by
  have h1 : lexp 1 upX upL = some (3, [(0, 1)]) := by
    show some (symOf upL ⟨#[120]⟩) = _
    have : upL.find? (fun s => s.1.toList == (⟨#[120]⟩ : ByteArray).toList) = some (⟨#[120]⟩, (3, [(0, 1)])) := by
      unfold upL
      rw [List.find?_cons_of_pos (by simp)]
    unfold symOf
    rw [this]
  have h2 : lexp 2 upM upL = some (6, [(0, 2)]) := by
    show (match lexp 1 upX upL with | none => none | some A => sclO 2 A) = _
    rw [h1]
    show sclO 2 (3, [(0, 1)]) = _
    unfold sclO
    rw [if_pos (by kernel_rfl)]
    rfl
  have h3 : lexp 2 upN upL = some (1, []) := rfl
  show (match lexp 2 upM upL with | none => none | some A => match lexp 2 upN upL with | none => none | some B => sumO A B (-1)) = _
  rw [h2, h3]
  show sumO (6, [(0, 2)]) (1, []) (-1) = _
  have hn : nf (scale 1 [(0, 2)] ++ scale (-1) []) = [(0, 2)] := nf_self (by simp [scale, Asc]) (by simp [scale])
  have he : sumErr (1 * 6 + -1 * 1) (scale 1 [(0, 2)] ++ scale (-1) []) = 0 := by unfold sumErr; rw [hn]; rfl
  have e1 : addErr (6, [(0, 2)]) (1, []) 1 (-1) = 0 := by
    unfold addErr
    rw [if_pos (by kernel_rfl), if_pos (by kernel_rfl)]
    exact he
  have e2 : addLin (6, [(0, 2)]) (1, []) 1 (-1) = (5, [(0, 2)]) := by
    unfold addLin
    rw [if_pos (by kernel_rfl), if_pos (by kernel_rfl)]
    show sumLin (1 * 6 + -1 * 1) (scale 1 [(0, 2)] ++ scale (-1) []) = _
    unfold sumLin
    rw [if_pos he, hn]
    rfl
  unfold sumO
  rw [if_pos e1, e2]
theorem upE_res : exprR 3 upE upL = ((5, [(0, 2)]), 0) := by
  unfold exprR
  rw [upE_ok, upL_ok, upE_form]
  rfl
end Go.Proofs.YtpmndblakmobdaaGreatDoor
/- ChE -/
namespace Go.Proofs.YtpmndblakmobdaaGreatDoor
open Go Go.RowKit

theorem cells_of {w : World} {b : Nat} {vs : Array Value} {t : TypeId} (h : w.heap[b]? = some (.cells vs t (0, 0))) (j : Nat) : w.cell? ⟨b, j, none⟩ = vs[j]? := by simp [World.cell?, h]
theorem four_at {w : World} {b o : Nat} {v0 v1 v2 v3 : Value} (h0 : w.cell? ⟨b, o, none⟩ = some v0) (h1 : w.cell? ⟨b, o + 1, none⟩ = some v1) (h2 : w.cell? ⟨b, o + 2, none⟩ = some v2) (h3 : w.cell? ⟨b, o + 3, none⟩ = some v3) :
    ∀ j u, ([v0, v1, v2, v3] : List Value)[j]? = some u → w.cell? ⟨b, o + j, none⟩ = some u := by
  intro j u hj
  match j, hj with
  | 0, hj => simp at hj; subst hj; exact h0
  | 1, hj => simp at hj; subst hj; exact h1
  | 2, hj => simp at hj; subst hj; exact h2
  | 3, hj => simp at hj; subst hj; exact h3
theorem upE_is {W : World} {p q : Nat} (hp : W.heap[p]? = some (.cells #[.int .i64 1, .int .i64 0, .string ⟨#[120]⟩, .slice none 0 0] 53 (0, 0)))
    (hq : W.heap[q]? = some (.cells #[.int .i64 4, .int .i64 2, .string ⟨#[]⟩, .slice (some ⟨p, 0, none⟩) 1 1, .int .i64 0, .int .i64 1, .string ⟨#[]⟩, .slice none 0 0] 53 (0, 0))) :
    (exprV 3) (fun _ => True) W [.int .i64 3, .int .i64 0, .string ⟨#[]⟩, .slice (some ⟨q, 0, none⟩) 2 2] upE := by
  have hs : ∀ s : ByteArray, s.size = 0 ∨ s.size = 1 → s.size ≤ maxLen := fun s h => by unfold maxLen; omega
  have hX : (exprV 1) (fun _ => True) W [.int .i64 1, .int .i64 0, .string ⟨#[120]⟩, .slice none 0 0] upX :=
    ⟨none, 0, rfl, I64.of (by decide) (by decide), I64.of (by decide) (by decide), hs _ (.inr rfl), Sl.empty⟩
  have hM : (exprV 2) (fun _ => True) W [.int .i64 4, .int .i64 2, .string ⟨#[]⟩, .slice (some ⟨p, 0, none⟩) 1 1] upM := by
    refine ⟨some ⟨p, 0, none⟩, 1, rfl, I64.of (by decide) (by decide), I64.of (by decide) (by decide), hs _ (.inl rfl), ⟨Nat.le_refl _, by decide, by decide, (fun h => by cases h), fun i hi => ?_⟩⟩
    match i, hi with
    | 0, _ => exact ⟨p, 0, rfl, trivial, _, rfl, four_at (cells_of hp 0) (cells_of hp 1) (cells_of hp 2) (cells_of hp 3), hX⟩
  have hN : (exprV 2) (fun _ => True) W [.int .i64 0, .int .i64 1, .string ⟨#[]⟩, .slice none 0 0] upN :=
    ⟨none, 0, rfl, I64.of (by decide) (by decide), I64.of (by decide) (by decide), hs _ (.inl rfl), Sl.empty⟩
  refine ⟨some ⟨q, 0, none⟩, 2, rfl, I64.of (by decide) (by decide), I64.of (by decide) (by decide), hs _ (.inl rfl), ⟨Nat.le_refl _, by decide, by decide, (fun h => by cases h), fun i hi => ?_⟩⟩
  match i, hi with
  | 0, _ => exact ⟨q, 0, rfl, trivial, _, rfl, four_at (cells_of hq 0) (cells_of hq 1) (cells_of hq 2) (cells_of hq 3), hM⟩
  | 1, _ => exact ⟨q, 0, rfl, trivial, _, rfl, four_at (cells_of hq 4) (cells_of hq 5) (cells_of hq 6) (cells_of hq 7), hN⟩
theorem upL_is {W : World} {p q : Nat} (hp : W.heap[p]? = some (.cells #[.int .i64 0, .int .i64 1] 71 (0, 0))) (hq : W.heap[q]? = some (.cells #[.string ⟨#[120]⟩, .int .i64 3, .slice (some ⟨p, 0, none⟩) 1 1] 73 (0, 0))) :
    Syms (fun k => k = p ∨ k = q) W (some ⟨q, 0, none⟩) upL 1 := by
  refine ⟨Nat.le_refl _, by decide, by decide, (fun h => by cases h), fun i hi => ?_⟩
  match i, hi with
  | 0, _ =>
    refine ⟨q, 0, rfl, .inr rfl, [.string ⟨#[120]⟩, .int .i64 3, .slice (some ⟨p, 0, none⟩) 1 1], rfl, ?_, [.string ⟨#[120]⟩], [.int .i64 3, .slice (some ⟨p, 0, none⟩) 1 1], rfl, rfl, ⟨rfl, show (⟨#[120]⟩ : ByteArray).size ≤ maxLen by decide⟩, [.int .i64 3], [.slice (some ⟨p, 0, none⟩) 1 1], rfl, rfl, ⟨rfl, I64.of (show -9000000000000000000 ≤ (3 : Int) by decide) (show (3 : Int) ≤ 9000000000000000000 by decide)⟩, some ⟨p, 0, none⟩, 1, rfl, ?_⟩
    · intro j u hj
      match j, hj with
      | 0, hj => exact (cells_of hq 0).trans hj
      | 1, hj => exact (cells_of hq 1).trans hj
      | 2, hj => exact (cells_of hq 2).trans hj
    · refine ⟨Nat.le_refl _, by decide, show 1 * 16 ≤ big by decide, (fun h => by cases h), fun i hi => ?_⟩
      match i, hi with
      | 0, _ =>
        refine ⟨p, 0, rfl, .inl rfl, [.int .i64 0, .int .i64 1], rfl, ?_, mono_of (m := (0, 1)) (I64.of (by decide) (by decide)) (I64.of (by decide) (by decide))⟩
        intro j u hj
        match j, hj with
        | 0, hj => exact (cells_of hp 0).trans hj
        | 1, hj => exact (cells_of hp 1).trans hj

set_option maxRecDepth 100000 in
set_option maxHeartbeats 4000000 in
theorem up20_any {w : World} (hK : Keys w) : Calls Tryz.prog 5 #[] w fun e w' => e = .returned (.bool true) ∧ Chg No w w' := by
  obtain ⟨w3, hw3⟩ : ∃ w3, w3 = (w.alloc (.cells #[.int .i64 0, .int .i64 1] 71)).alloc (.cells #[.string ⟨#[120]⟩, .int .i64 3, .slice (some ⟨w.heap.size, 0, none⟩) 1 1] 73) := ⟨_, rfl⟩
  have h3 : Hid (Chg No w w3 ∧ w3.heap[w.heap.size]? = some (.cells #[.int .i64 0, .int .i64 1] 71 (0, 0)) ∧ w3.heap[w.heap.size + 1]? = some (.cells #[.string ⟨#[120]⟩, .int .i64 3, .slice (some ⟨w.heap.size, 0, none⟩) 1 1] 73 (0, 0)) ∧ w3.heap.size = w.heap.size + 1 + 1) := by
    rw [hw3]
    exact ⟨((Chg.refl _ _).alloc _).alloc _, at_old (heap_alloc_new _ _), at_new (by simp), by simp⟩
  have HX : Hid (∀ (W : World) (p q : Nat), Chg No w3 W → W.heap[p]? = some (.cells #[.int .i64 1, .int .i64 0, .string ⟨#[120]⟩, .slice none 0 0] 53 (0, 0)) →
      W.heap[q]? = some (.cells #[.int .i64 4, .int .i64 2, .string ⟨#[]⟩, .slice (some ⟨p, 0, none⟩) 1 1, .int .i64 0, .int .i64 1, .string ⟨#[]⟩, .slice none 0 0] 53 (0, 0)) →
      Calls Tryz.prog 15 #[.agg #[.int .i64 3, .int .i64 0, .string ⟨#[]⟩, .slice (some ⟨q, 0, none⟩) 2 2], .slice (some ⟨w.heap.size + 1, 0, none⟩) 1 1] W fun e w' => ∃ b o cap, e = .returned (.tuple #[.agg #[.int .i64 5, .slice (some ⟨b, o, none⟩) 1 cap], .nilIface]) ∧ w'.cell? ⟨b, o + 1, none⟩ = some (.int .i64 2) ∧ Chg No W w') := fun W p q hW hp hq => by
    have hz := h3.out.2.2.2
    have h := chunkExpr_any ((hK.no h3.out.1).no hW) (upE_is hp hq) (upL_is (hW.obj h3.out.2.1 id) (hW.obj h3.out.2.2.1 id)) (fun k hk => by have := hW.size; omega)
    refine h.mono ?_
    rintro e w' ⟨A, cap, h1, h2, h4⟩
    rw [upE_res] at h1 h2
    obtain ⟨b, o, rfl, _, hm⟩ := h2.mono_at 0 (by decide)
    refine ⟨b, o, cap, ?_, hm, h4⟩
    rw [errV_zero] at h1
    exact h1
  clear hK
  go_enter Tryz.func5, Tryz.ntmps5
  go_upto_region 2 with fail
  rw [← hw3]
  clear hw3
  go_upto_region 3 with (go_at_call 15; refine (HX.out _ w3.heap.size (w3.heap.size + 1) (((Chg.refl No w3).alloc _).alloc _) (at_old (heap_alloc_new _ _)) (at_new (by simp))).mono ?_; rintro e w4 ⟨b, o, cap, rfl, x1, h4⟩; have H4 := Lib.hid ((h3.out.1.thenNo (((Chg.refl No w3).alloc _).alloc _)).thenNo h4); clear h4)
  have y1 := ((Chg.refl No w4).alloc (.cells #[.int .i64 5, .slice (some ⟨b, o, none⟩) 1 cap] 32)).cell x1 id
  go_wp2_with fail
  go_ret
  exact ⟨rfl, H4.out.alloc _⟩
end Go.Proofs.YtpmndblakmobdaaGreatDoor
