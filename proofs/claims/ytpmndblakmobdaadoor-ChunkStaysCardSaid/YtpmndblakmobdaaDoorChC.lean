/-
  An expression's form (plain); chunk.expr, chunk.Expr.
-/
import Derived.Test.YtpmndblakmobdaaDoorChB
import Derived.Test.YtpmndblakmobdaaDoorChA
import Derived.Deep.DeepCutAuto
namespace Go.Proofs.YtpmndblakmobdaaDoor
open Go Go.RowKit

/-- A variable's form. -/
def symOf (l : List Sym) (name : ByteArray) : Lin := match l.find? (fun s => s.1.toList == name.toList) with | some s => s.2 | none => (0, [])
/-- An expression's form; none: it is far. -/
noncomputable def lexp : (n : Nat) → ET n → List Sym → Option Lin
  | 0, _, _ => none
  | n + 1, x, l => if ENode.kind x = 0 then some (ENode.num x, []) else if ENode.kind x = 1 then some (symOf l (ENode.name x)) else
    match ENode.kids x with
    | [] => none
    | a :: ks => match lexp n a l with
      | none => none
      | some A => if ENode.kind x = 4 then sclO (ENode.num x) A else match ks with
        | [] => none
        | b :: _ => match lexp n b l with
          | none => none
          | some B => sumO A B (if ENode.kind x = 3 then -1 else 1)
theorem find_findI {α : Type} {p : α → Bool} {l : List α} : (findI p l = -1 ∧ l.find? p = none) ∨ ∃ k, ∃ h : k < l.length, findI p l = (k : Int) ∧ l.find? p = some l[k] := by
  unfold findI
  cases h : l.findIdx? p with
  | none =>
    left
    rw [List.findIdx?_eq_none_iff] at h
    refine ⟨rfl, ?_⟩
    rw [List.find?_eq_none]
    exact fun x hx => by simp [h x hx]
  | some k =>
    right
    rw [List.findIdx?_eq_some_iff_getElem] at h
    obtain ⟨hk, hp, hall⟩ := h
    refine ⟨k, hk, rfl, ?_⟩
    rw [List.find?_eq_some_iff_getElem]
    exact ⟨hp, k, hk, rfl, fun j hj => by simpa using hall j hj⟩
theorem symOf_sound {l : List Sym} (h : l.all symB = true) (name : ByteArray) : linB (symOf l name).1 (symOf l name).2 = true := by
  unfold symOf
  cases hf : l.find? (fun s => s.1.toList == name.toList) with
  | none => exact linB_good (by decide) (by simp) (fun i hi => absurd hi (by simp))
  | some s => exact List.all_eq_true.1 h s (List.mem_of_find?_eq_some hf)
theorem ok_parts {n : Nat} {x : ENode (ET n)} (h : okE (n + 1) x = true) : eShape x.kind x.num x.name x.kids.length = true ∧ ∀ k ∈ x.kids, okE n k = true := by
  have h' : (eShape x.kind x.num x.name x.kids.length && x.kids.all (okE n)) = true := h
  rw [Bool.and_eq_true] at h'
  exact ⟨h'.1, List.all_eq_true.1 h'.2⟩
theorem eShape_cases {kd num : Int} {name : ByteArray} {kl : Nat} (h : eShape kd num name kl = true) :
    (kd = 0 ∧ coefS num = true ∧ kl = 0) ∨ (kd = 1 ∧ kl = 0) ∨ ((kd = 2 ∨ kd = 3) ∧ kl = 2) ∨ (kd = 4 ∧ coefS num = true ∧ kl = 1) := by
  unfold eShape at h
  split at h
  · simp only [Bool.and_eq_true, decide_eq_true_eq] at h
    exact .inl ⟨by assumption, h.1.1, h.2⟩
  split at h
  · simp only [Bool.and_eq_true, decide_eq_true_eq] at h
    exact .inr (.inl ⟨by assumption, h.2⟩)
  split at h
  · simp only [Bool.and_eq_true, decide_eq_true_eq] at h
    exact .inr (.inr (.inl ⟨by assumption, h.2⟩))
  split at h
  · simp only [Bool.and_eq_true, decide_eq_true_eq] at h
    exact .inr (.inr (.inr ⟨by assumption, h.1.1, h.2⟩))
  · cases h
theorem lexp_sound : ∀ (n : Nat) (x : ET n) (l : List Sym), l.all symB = true → okE n x = true → ∀ r, lexp n x l = some r → linB r.1 r.2 = true
  | 0, _, _, _, _, r, h => by cases h
  | n + 1, x, l, hl, hx, r, h => by
    obtain ⟨hs, hk⟩ := ok_parts hx
    obtain ⟨kd, num, name, ks⟩ := x
    simp only [lexp] at h hs hk
    split at h
    · injection h with h; subst h
      rename_i h0
      rcases eShape_cases hs with ⟨_, hc, _⟩ | ⟨h1, _⟩ | ⟨h1, _⟩ | ⟨h1, _⟩ <;> try omega
      exact linB_good hc (by simp) (fun i hi => absurd hi (by simp))
    split at h
    · injection h with h; subst h
      exact symOf_sound hl _
    · split at h
      · cases h
      · split at h
        · cases h
        · split at h
          · exact sclO_sound h
          · split at h
            · cases h
            · split at h
              · cases h
              · exact sumO_sound h

/-- A call returns a form, or that it is far; the form lies in Rs or in new memory. -/
def XRet (Rs : Nat → Prop) (w : World) (o : Option Lin) (e : Ending) (w' : World) : Prop :=
  ∃ A cap, e = .returned (.tuple #[.agg #[.int .i64 (optL o).1, .slice A (optL o).2.length cap], errV 64 (optE o)]) ∧ Monos (fun k => Rs k ∨ w.heap.size ≤ k) w' A (optL o).2 cap ∧ Chg No w w'
theorem XRet.of {Rs : Nat → Prop} {w : World} {o : Option Lin} {e : Ending} {w' : World} (h : LinRet w (optL o) (errV 64 (optE o)) e w') : XRet Rs w o e w' := by
  obtain ⟨A, cap, h1, h2, h3⟩ := h
  exact ⟨A, cap, h1, h2.mono monoE_good (fun k _ hk => .inr hk), h3⟩

/-- A part's cells, where the slice's address is known. -/
theorem exprs_some {n : Nat} {R : Nat → Prop} {w : World} {b o : Nat} {l : List (ET n)} {cap : Nat} (h : Exprs R w (some ⟨b, o, none⟩) l cap) (i : Nat) (hi : i < l.length) :
    ∃ k m s B kl capk, (exprV n) R w [.int .i64 k, .int .i64 m, .string s, .slice B kl capk] l[i] ∧ w.cell? ⟨b, o + i * 4, none⟩ = some (.int .i64 k) ∧ w.cell? ⟨b, o + i * 4 + 1, none⟩ = some (.int .i64 m) ∧ w.cell? ⟨b, o + i * 4 + 2, none⟩ = some (.string s) ∧ w.cell? ⟨b, o + i * 4 + 3, none⟩ = some (.slice B kl capk) := by
  obtain ⟨b', o', k, m, s, B, kl, capk, e, hv, x0, x1, x2, x3⟩ := exprs_at h i hi
  injection e with e
  injection e with e1 e2
  subst e1; subst e2
  exact ⟨k, m, s, B, kl, capk, hv, x0, x1, x2, x3⟩
def ExprLOk (n : Nat) : Prop := ∀ (x : ET n) (R Rs : Nat → Prop) (w : World) (cs : List Value) (As : Option Addr) (l : List Sym) (caps : Nat), (exprV n) R w cs x → okE n x = true → Syms Rs w As l caps → (∀ k, Rs k → k < w.heap.size) → l.all symB = true →
    Calls Tryd.prog 31 #[.agg cs.toArray, .slice As l.length caps] w (XRet Rs w (lexp n x l))
set_option maxRecDepth 10000 in
theorem entered_cexpr1 : Entered 43 := fun _ _ => rfl
theorem lexp_eq {n : Nat} (f : ENode (ET n)) (l : List Sym) : lexp (n + 1) f l = (if ENode.kind f = 0 then some (ENode.num f, []) else if ENode.kind f = 1 then some (symOf l (ENode.name f)) else
    match ENode.kids f with
    | [] => none
    | a :: ks => match lexp n a l with
      | none => none
      | some A => if ENode.kind f = 4 then sclO (ENode.num f) A else match ks with
        | [] => none
        | b :: _ => match lexp n b l with
          | none => none
          | some B => sumO A B (if ENode.kind f = 3 then -1 else 1)) := rfl
/-- A variable is looked up. -/
theorem symIndex_any {Rs : Nat → Prop} {w : World} {As : Option Addr} {l : List Sym} {caps : Nat} (hl : Syms Rs w As l caps) {b0 : Nat} {v0 v1 v3 : Value} {name : ByteArray} (hb : w.heap[b0]? = some (.cells #[v0, v1, .string name, v3] 63 (0, 0))) :
    Calls Tryd.prog 42 #[.slice As l.length caps, .func (.func 43) #[] #[.pointer (some ⟨b0, 0, none⟩)]] w fun e w' => e = .returned (.int .i64 (findI (fun s => s.1.toList == name.toList) l)) ∧ Chg No w w' :=
  indexFunc_sym1 (V := symV) rfl symV_good hl 43 entered_cexpr1 (.pointer (some ⟨b0, 0, none⟩)) (fun s => s.1.toList == name.toList) (fun W hW i hi cs hcs => by
    obtain ⟨B, c, rfl, _, _, hm⟩ := sym_cells hcs
    obtain ⟨_, _, q2, _⟩ := obj_4 (hW.obj hb id)
    have x2 := ((Chg.refl No W).alloc (.cells #[.string l[i].1, .int .i64 l[i].2.1, .slice B l[i].2.2.length c] 57)).cell q2 id
    generalize l[i].1 = nm at *
    generalize l[i].2.1 = lc at *
    generalize l[i].2.2.length = ll at *
    clear hcs hm hl hb q2
    go_enter Tryd.func43, Tryd.ntmps43
    go_wp2_with fail
    go_ret
    exact ⟨rfl, (Chg.refl _ _).alloc _⟩)

set_option maxRecDepth 100000 in
set_option maxHeartbeats 8000000 in
theorem lexp_walk (n : Nat) (IH : Hid (ExprLOk n)) : ExprLOk (n + 1) := by
    rintro f R Rs w cs As l caps h hok hl hRs hsB
    obtain ⟨B, capk, rfl, i1, i2, hm, hk⟩ := enode_cells h
    obtain ⟨hs, hkok⟩ := ok_parts hok
    have HKA := Lib.hid (fun W (hW : Chg No w W) => hk.no (exprE_good n) hW)
    have HSY := Lib.hid (fun W (hW : Chg No w W) => hl.no symE_good hW)
    have HIH : Hid (∀ x : ET n, okE n x = true → ∀ (W : World) (R' : Nat → Prop) cs', Chg No w W → (exprV n) R' W cs' x → Calls Tryd.prog 31 #[.agg cs'.toArray, .slice As l.length caps] W (XRet Rs W (lexp n x l))) := fun x hx W R' cs' hW hcs =>
      IH.out x R' Rs W cs' As l caps hcs hx (hl.no symE_good hW) (fun k hk => Nat.lt_of_lt_of_le (hRs k hk) hW.size) hsB
    have hans := lexp_eq f l
    obtain ⟨ans, hans2⟩ : ∃ ans, ans = lexp (n + 1) f l := ⟨_, rfl⟩
    rw [← hans2]
    rw [← hans2] at hans
    have HA := Lib.hid hans
    have HSND := Lib.hid (fun (x : ET n) (hx : x ∈ ENode.kids f) r (hr : lexp n x l = some r) => lexp_sound n x l hsB (hkok x hx) r hr)
    have HKO := Lib.hid hkok
    have hbig := hl.big
    unfold big at hbig
    clear hans hans2 h hk IH hok hm
    generalize ENode.kind f = kd at *
    generalize ENode.num f = num at *
    generalize ENode.name f = name at *
    generalize ENode.kids f = ks at *
    obtain ⟨w3, hw3⟩ : ∃ w3, w3 = (w.alloc (.cells #[.int .i64 kd, .int .i64 num, .string name, .slice B ks.length capk] 63)).alloc (.cells #[.int .i64 0, .slice none 0 0] 36) := ⟨_, rfl⟩
    have h3 : Hid (Chg No w w3 ∧ w3.heap[w.heap.size]? = some (.cells #[.int .i64 kd, .int .i64 num, .string name, .slice B ks.length capk] 63 (0, 0)) ∧ w3.heap[w.heap.size + 1]? = some (.cells #[.int .i64 0, .slice none 0 0] 36 (0, 0)) ∧ w3.heap.size = w.heap.size + 1 + 1) := by
      rw [hw3]
      exact ⟨((Chg.refl _ _).alloc _).alloc _, at_old (heap_alloc_new _ _), at_new (by simp), by simp⟩
    have HR := Lib.hid hRs
    -- the answer's cell is written last
    have HW : Hid (∀ W u v A (o : Lin) cap, Chg No w3 W → Monos (fun k => Rs k ∨ w3.heap.size ≤ k) W A o.2 cap → Chg No w ((W.setCell ⟨w.heap.size + 1, 0, none⟩ u).setCell ⟨w.heap.size + 1, 1, none⟩ v) ∧ Monos (fun k => Rs k ∨ w.heap.size ≤ k) ((W.setCell ⟨w.heap.size + 1, 0, none⟩ u).setCell ⟨w.heap.size + 1, 1, none⟩ v) A o.2 cap) := fun W u v A o cap hW hm => by
      have hz := h3.out.2.2.2
      have hs : Chg (fun q => q = w.heap.size + 1) W ((W.setCell ⟨w.heap.size + 1, 0, none⟩ u).setCell ⟨w.heap.size + 1, 1, none⟩ v) := ((Chg.refl (fun q => q = w.heap.size + 1) W).setCell _ _ (fun _ => rfl)).setCell _ _ (fun _ => rfl)
      exact ⟨chgpast2 (h3.out.1.thenNo hW) hs (fun k hk => by omega), (hm.chg monoE_good hs (fun k hk e => by
        rcases hk with hk | hk
        · have := HR.out k hk; omega
        · omega)).mono monoE_good (fun k _ hk => hk.elim .inl (fun h => .inr (by omega)))⟩
    have HO : Hid (∀ W, Chg No w3 W → (W.cell? ⟨w.heap.size, 0, none⟩ = some (.int .i64 kd) ∧ W.cell? ⟨w.heap.size, 1, none⟩ = some (.int .i64 num) ∧ W.cell? ⟨w.heap.size, 2, none⟩ = some (.string name) ∧ W.cell? ⟨w.heap.size, 3, none⟩ = some (.slice B ks.length capk)) ∧ W.cell? ⟨w.heap.size + 1, 0, none⟩ = some (.int .i64 0) ∧ W.cell? ⟨w.heap.size + 1, 1, none⟩ = some (.slice none 0 0) ∧ W.frozen? ⟨w.heap.size + 1, 0, none⟩ = false ∧ W.frozen? ⟨w.heap.size + 1, 1, none⟩ = false) := fun W hW =>
      ⟨obj_4 (hW.obj h3.out.2.1 id), obj_2 (hW.obj h3.out.2.2.1 id)⟩
    have HF : Hid (∀ (A : Option Addr) (cap : Nat), True) := fun _ _ => trivial
    clear hl hRs hsB hkok
    obtain ⟨⟨p0, p1, p2, p3⟩, r0, r1, rf0, rf1⟩ := HO.out w3 (Chg.refl _ _)
    rcases eShape_cases hs with ⟨rfl, hcx, hkx⟩ | ⟨rfl, hkx⟩ | ⟨hkd, hkl⟩ | ⟨rfl, hc, hkl⟩
    · clear hcx hkx
      obtain rfl : ans = some (num, []) := HA.out
      clear HA HIH HSND HKO HKA HSY hs
      go_enter Tryd.func31, Tryd.ntmps31
      go_upto_region 1 with fail
      rw [← hw3]
      clear hw3
      go_wp2_with fail
      refine bodyPost_ret (v := .tuple #[.agg #[.int .i64 num, .slice none 0 0], .nilIface]) (by simp [results, Tryd.results31, go_sem, r0, r1]) rfl ⟨none, 0, ?_, (HW.out _ _ _ none (num, []) 0 (Chg.refl _ _) Sl.empty).2, (HW.out _ _ _ none (num, []) 0 (Chg.refl _ _) Sl.empty).1⟩
      rw [show optE (some (num, ([] : List Mono))) = 0 from rfl, errV_zero]
      rfl
    · clear hkx
      obtain rfl : ans = some (symOf l name) := HA.out
      have HIX := Lib.hid (symIndex_any (HSY.out w3 h3.out.1) h3.out.2.1)
      have hfi := find_findI (p := fun s : Sym => s.1.toList == name.toList) (l := l)
      clear HA HIH HSND HKO HKA hs
      rcases hfi with ⟨e1, e2⟩ | ⟨k, hk, e1, e2⟩
      · have hso : symOf l name = (0, []) := by unfold symOf; rw [e2]
        rw [e1] at HIX
        rw [hso]
        clear hso e1 e2 HSY
        go_enter Tryd.func31, Tryd.ntmps31
        go_upto_region 1 with fail
        rw [← hw3]
        clear hw3
        go_wp2_with (go_at_call 42; refine HIX.out.mono ?_; rintro e w4 ⟨rfl, h4⟩; have H4 := Lib.hid h4; clear p0 p1 p2 p3 r0 r1 rf0 rf1; obtain ⟨⟨p0, p1, p2, p3⟩, r0, r1, rf0, rf1⟩ := HO.out w4 h4; clear h4)
        refine bodyPost_ret (v := .tuple #[.agg #[.int .i64 0, .slice none 0 0], .nilIface]) (by simp [results, Tryd.results31, go_sem, r0, r1]) rfl ⟨none, 0, ?_, (HW.out _ _ _ none (0, []) 0 H4.out Sl.empty).2, (HW.out _ _ _ none (0, []) 0 H4.out Sl.empty).1⟩
        rw [show optE (some ((0 : Int), ([] : List Mono))) = 0 from rfl, errV_zero]
        rfl
      · have hso : symOf l name = l[k].2 := by unfold symOf; rw [e2]
        rw [e1] at HIX
        rw [hso]
        have HSA := Lib.hid (fun W (hW : Chg No w3 W) => syms_at (HSY.out W (h3.out.1.thenNo hW)) k hk)
        have i0 : (0 : Int) ≤ (k : Int) := by omega
        have i1 : (k : Int) < (l.length : Int) := by omega
        clear hso e1 e2 HSY
        generalize l[k] = sk at *
        obtain ⟨sn, sc, st⟩ := sk
        simp only at HSA ⊢
        go_enter Tryd.func31, Tryd.ntmps31
        go_upto_region 1 with fail
        rw [← hw3]
        clear hw3
        go_wp2_with (go_at_call 42; refine HIX.out.mono ?_; rintro e w4 ⟨rfl, h4⟩; have H4 := Lib.hid h4; clear p0 p1 p2 p3 r0 r1 rf0 rf1; obtain ⟨⟨p0, p1, p2, p3⟩, r0, r1, rf0, rf1⟩ := HO.out w4 h4; obtain ⟨b, o, A2, c2, rfl, _, g4, x0, x1, x2⟩ := HSA.out w4 h4; have G4 := Lib.hid g4; clear h4 g4)
        refine bodyPost_ret (v := .tuple #[.agg #[.int .i64 sc, .slice A2 st.length c2], .nilIface]) (by simp [results, Tryd.results31, go_sem, r0, r1]) rfl ⟨A2, c2, ?_, (HW.out _ _ _ A2 (sc, st) c2 H4.out (G4.out.mono monoE_good (fun k _ hk => .inl hk))).2, (HW.out _ _ _ A2 (sc, st) c2 H4.out (G4.out.mono monoE_good (fun k _ hk => .inl hk))).1⟩
        rw [show optE (some (sc, st)) = 0 from rfl, errV_zero]
        rfl
    rotate_left
    · obtain ⟨a, rfl⟩ : ∃ a, ks = [a] := List.length_eq_one_iff.1 hkl
      have HA1 : Hid (ans = (match lexp n a l with | none => none | some A => sclO num A)) := HA.out
      obtain ⟨n1, n2⟩ := coefS_le hc
      clear HA hc hkl HSY hs
      rw [show ([a] : List (ET n)).length = 1 from rfl] at hw3 h3 HO p3
      obtain ⟨b, o, hB⟩ : ∃ b o, B = some ⟨b, o, none⟩ := by
        obtain ⟨b, o, _, _, _, _, _, _, hB, _⟩ := exprs_at (HKA.out w3 h3.out.1) 0 (by simp)
        exact ⟨b, o, hB⟩
      subst hB
      obtain ⟨k0, m0, s0, B0, l0, d0, hv, x0, x1, x2, x3⟩ := exprs_some (HKA.out w3 h3.out.1) 0 (by simp)
      have HI := Lib.hid (HIH.out a (HKO.out a (by simp)) w3 R _ h3.out.1 hv)
      simp only [Nat.zero_mul, Nat.add_zero] at x0 x1 x2 x3
      clear hv
      unfold XRet at HI
      cases hla : lexp n a l with
      | none =>
        rw [hla, show optE (none : Option Lin) = 3 from rfl, errV_of _ (by decide), show optL none = (0, []) from rfl] at HI
        obtain rfl : ans = none := by rw [HA1.out, hla]
        clear HA1 hla HIH HSND HKO
        go_enter Tryd.func31, Tryd.ntmps31
        go_upto_region 1 with fail
        rw [← hw3]
        clear hw3
        go_upto_region 10 with (go_at_call 31; refine HI.out.mono ?_; rintro e w4 ⟨A4, c4, rfl, g4, h4⟩; have G4 := Lib.hid g4; have H4 := Lib.hid h4; clear g4 h4)
        obtain ⟨w5, hw5⟩ : ∃ w5, w5 = w4.alloc (.cells #[.int .i64 0, .slice A4 0 c4] 36) := ⟨_, rfl⟩
        rw [← hw5]
        obtain ⟨b5, hb5⟩ : ∃ b5, b5 = w4.heap.size := ⟨_, rfl⟩
        rw [← hb5]
        have C5 : Hid (Chg No w3 w5) := by rw [hw5]; exact H4.out.alloc _
        clear hw5 hb5 p0 p1 p2 p3 r0 r1 rf0 rf1 x0 x1 x2 x3
        obtain ⟨⟨p0, p1, p2, p3⟩, r0, r1, rf0, rf1⟩ := HO.out w5 C5.out
        go_wp2_with fail
        refine bodyPost_ret (v := .tuple #[.agg #[.int .i64 0, .slice none 0 0], .iface 64 (.int .i64 3)]) (by simp [results, Tryd.results31, go_sem, r0, r1]) rfl ⟨none, 0, ?_, (HW.out _ _ _ none (0, []) 0 C5.out Sl.empty).2, (HW.out _ _ _ none (0, []) 0 C5.out Sl.empty).1⟩
        rw [show optE (none : Option Lin) = 3 from rfl, errV_of _ (by decide)]
        rfl
      | some LA =>
        rw [hla, show optE (some LA) = 0 from rfl, errV_zero, show optL (some LA) = LA from rfl] at HI
        have hsA := HSND.out a (by simp) LA hla
        obtain ⟨ansL, hL⟩ : ∃ ansL, ansL = optL ans := ⟨_, rfl⟩
        obtain ⟨ansE, hE⟩ : ∃ ansE, ansE = errV 64 (optE ans) := ⟨_, rfl⟩
        have HAL := Lib.hid hL
        have HAE := Lib.hid hE
        have hans : ans = sclO num LA := by rw [HA1.out, hla]
        have HAN := Lib.hid hans
        clear hL hE hans HA1 hla HIH HSND HKO
        go_enter Tryd.func31, Tryd.ntmps31
        go_upto_region 1 with fail
        rw [← hw3]
        clear hw3
        go_upto_region 10 with (go_at_call 31; refine HI.out.mono ?_; rintro e w4 ⟨A4, c4, rfl, g4, h4⟩; have G4 := Lib.hid g4; have H4 := Lib.hid h4; clear g4 h4)
        obtain ⟨w5, hw5⟩ : ∃ w5, w5 = w4.alloc (.cells #[.int .i64 LA.1, .slice A4 LA.2.length c4] 36) := ⟨_, rfl⟩
        rw [← hw5]
        obtain ⟨b5, hb5⟩ : ∃ b5, b5 = w4.heap.size := ⟨_, rfl⟩
        rw [← hb5]
        have C5 : Hid (Chg No w3 w5 ∧ w5.heap[b5]? = some (.cells #[.int .i64 LA.1, .slice A4 LA.2.length c4] 36 (0, 0)) ∧ Monos (fun k => Rs k ∨ w3.heap.size ≤ k) w5 A4 LA.2 c4) := by
          rw [hw5, hb5]; exact ⟨H4.out.alloc _, heap_alloc_new _ _, G4.out.no monoE_good ((Chg.refl _ _).alloc _)⟩
        have HSC : Hid (Calls Tryd.prog 44 #[.agg #[.int .i64 LA.1, .slice A4 LA.2.length c4], .int .i64 num] w5 (LinRet w5 ansL ansE)) := by
          have h := cscaled_any (w := w5) LA C5.out.2.2 hsA num n1 n2
          rw [← HAN.out, ← HAL.out, ← HAE.out] at h
          exact h
        clear hw5 hb5 p0 p1 p2 p3 r0 r1 rf0 rf1 x0 x1 x2 x3 hsA
        obtain ⟨⟨p0, p1, p2, p3⟩, r0, r1, rf0, rf1⟩ := HO.out w5 C5.out.1
        obtain ⟨q0, q1, _, _⟩ := obj_2 C5.out.2.1
        go_wp2_with (go_at_call 44; refine HSC.out.mono ?_; rintro e w6 ⟨A6, c6, rfl, g6, h6⟩; have G6 : Hid (Chg No w3 w6 ∧ Monos (fun k => Rs k ∨ w3.heap.size ≤ k) w6 A6 ansL.2 c6) := ⟨C5.out.1.thenNo h6, g6.mono monoE_good (fun k _ hk => .inr (Nat.le_trans C5.out.1.size hk))⟩; clear g6 h6 p0 p1 p2 p3 r0 r1 rf0 rf1; obtain ⟨⟨p0, p1, p2, p3⟩, r0, r1, rf0, rf1⟩ := HO.out w6 G6.out.1)
        refine bodyPost_ret (v := .tuple #[.agg #[.int .i64 ansL.1, .slice A6 ansL.2.length c6], ansE]) (by simp [results, Tryd.results31, go_sem, r0, r1]) rfl ⟨A6, c6, ?_, ?_, (HW.out _ _ _ A6 ansL c6 G6.out.1 G6.out.2).1⟩
        · rw [← HAL.out, ← HAE.out]
        · rw [← HAL.out]; exact (HW.out _ _ _ A6 ansL c6 G6.out.1 G6.out.2).2
    · obtain ⟨a, b2, rfl⟩ : ∃ a b2, ks = [a, b2] := by
        match ks, hkl with
        | [a, b2], _ => exact ⟨a, b2, rfl⟩
      have hk0 : (kd == 0) = false := beqF (by omega)
      have hk1 : (kd == 1) = false := beqF (by omega)
      have hk4 : (kd == 4) = false := beqF (by omega)
      obtain ⟨sg, hsg⟩ : ∃ sg : Int, (kd = 3 ∧ sg = -1) ∨ (kd ≠ 3 ∧ sg = 1) := by
        by_cases h : kd = 3
        · exact ⟨-1, .inl ⟨h, rfl⟩⟩
        · exact ⟨1, .inr ⟨h, rfl⟩⟩
      have HA1 : Hid (ans = (match lexp n a l with | none => none | some A => match lexp n b2 l with | none => none | some B => sumO A B sg)) := by
        unfold Hid
        rw [HA.out, if_neg (by omega), if_neg (by omega)]
        have e : (if kd = 3 then (-1 : Int) else 1) = sg := by
          rcases hsg with ⟨h1, h2⟩ | ⟨h1, h2⟩
          · rw [if_pos h1, h2]
          · rw [if_neg h1, h2]
        show (match lexp n a l with | none => none | some A => if kd = 4 then sclO num A else match lexp n b2 l with | none => none | some B => sumO A B (if kd = 3 then -1 else 1)) = _
        rw [e]
        cases lexp n a l with
        | none => rfl
        | some A =>
          show (if kd = 4 then sclO num A else match lexp n b2 l with | none => none | some B => sumO A B sg) = _
          rw [if_neg (by omega)]
      clear HA hkl HSY hs hkd
      rw [show ([a, b2] : List (ET n)).length = 2 from rfl] at hw3 h3 HO p3
      obtain ⟨b, o, hB⟩ : ∃ b o, B = some ⟨b, o, none⟩ := by
        obtain ⟨b, o, _, _, _, _, _, _, hB, _⟩ := exprs_at (HKA.out w3 h3.out.1) 0 (by simp)
        exact ⟨b, o, hB⟩
      subst hB
      obtain ⟨k0, m0, s0, B0, l0, d0, hv, x0, x1, x2, x3⟩ := exprs_some (HKA.out w3 h3.out.1) 0 (by simp)
      have HI := Lib.hid (HIH.out a (HKO.out a (by simp)) w3 R _ h3.out.1 hv)
      simp only [Nat.zero_mul, Nat.add_zero] at x0 x1 x2 x3
      clear hv
      unfold XRet at HI
      cases hla : lexp n a l with
      | none =>
        rw [hla, show optE (none : Option Lin) = 3 from rfl, errV_of _ (by decide), show optL none = (0, []) from rfl] at HI
        obtain rfl : ans = none := by rw [HA1.out, hla]
        clear HA1 hla HIH HSND HKO
        go_enter Tryd.func31, Tryd.ntmps31
        go_upto_region 1 with fail
        rw [← hw3]
        clear hw3
        go_upto_region 10 with (go_at_call 31; refine HI.out.mono ?_; rintro e w4 ⟨A4, c4, rfl, g4, h4⟩; have G4 := Lib.hid g4; have H4 := Lib.hid h4; clear g4 h4)
        obtain ⟨w5, hw5⟩ : ∃ w5, w5 = w4.alloc (.cells #[.int .i64 0, .slice A4 0 c4] 36) := ⟨_, rfl⟩
        rw [← hw5]
        obtain ⟨b5, hb5⟩ : ∃ b5, b5 = w4.heap.size := ⟨_, rfl⟩
        rw [← hb5]
        have C5 : Hid (Chg No w3 w5) := by rw [hw5]; exact H4.out.alloc _
        clear hw5 hb5 p0 p1 p2 p3 r0 r1 rf0 rf1 x0 x1 x2 x3
        obtain ⟨⟨p0, p1, p2, p3⟩, r0, r1, rf0, rf1⟩ := HO.out w5 C5.out
        go_wp2_with fail
        refine bodyPost_ret (v := .tuple #[.agg #[.int .i64 0, .slice none 0 0], .iface 64 (.int .i64 3)]) (by simp [results, Tryd.results31, go_sem, r0, r1]) rfl ⟨none, 0, ?_, (HW.out _ _ _ none (0, []) 0 C5.out Sl.empty).2, (HW.out _ _ _ none (0, []) 0 C5.out Sl.empty).1⟩
        rw [show optE (none : Option Lin) = 3 from rfl, errV_of _ (by decide)]
        rfl
      | some LA =>
        rw [hla, show optE (some LA) = 0 from rfl, errV_zero, show optL (some LA) = LA from rfl] at HI
        have hsA := HSND.out a (by simp) LA hla
        go_enter Tryd.func31, Tryd.ntmps31
        go_upto_region 1 with fail
        rw [← hw3]
        clear hw3
        go_upto_region 10 with (go_at_call 31; refine HI.out.mono ?_; rintro e w4 ⟨A4, c4, rfl, g4, h4⟩; have G4 := Lib.hid g4; have H4 := Lib.hid h4; clear g4 h4)
        obtain ⟨w5, hw5⟩ : ∃ w5, w5 = w4.alloc (.cells #[.int .i64 LA.1, .slice A4 LA.2.length c4] 36) := ⟨_, rfl⟩
        rw [← hw5]
        obtain ⟨b5, hb5⟩ : ∃ b5, b5 = w4.heap.size := ⟨_, rfl⟩
        rw [← hb5]
        have C5 : Hid (Chg No w3 w5 ∧ w5.heap[b5]? = some (.cells #[.int .i64 LA.1, .slice A4 LA.2.length c4] 36 (0, 0)) ∧ Monos (fun k => Rs k ∨ w3.heap.size ≤ k) w5 A4 LA.2 c4) := by
          rw [hw5, hb5]; exact ⟨H4.out.alloc _, heap_alloc_new _ _, G4.out.no monoE_good ((Chg.refl _ _).alloc _)⟩
        clear hw5 hb5 p0 p1 p2 p3 r0 r1 rf0 rf1 x0 x1 x2 x3 hsA
        obtain ⟨⟨p0, p1, p2, p3⟩, r0, r1, rf0, rf1⟩ := HO.out w5 C5.out.1
        obtain ⟨k0, m0, s0, B0, l0, d0, hv, x0, x1, x2, x3⟩ := exprs_some (HKA.out w5 (h3.out.1.thenNo C5.out.1)) 1 (by simp)
        have HI2 := Lib.hid (HIH.out b2 (HKO.out b2 (by simp)) w5 R _ (h3.out.1.thenNo C5.out.1) hv)
        simp only [Nat.one_mul] at x0 x1 x2 x3
        clear hv
        unfold XRet at HI2
        cases hlb : lexp n b2 l with
        | none =>
          rw [hlb, show optE (none : Option Lin) = 3 from rfl, errV_of _ (by decide), show optL none = (0, []) from rfl] at HI2
          obtain rfl : ans = none := by rw [HA1.out, hla]; show (match lexp n b2 l with | none => none | some B => sumO LA B sg) = none; rw [hlb]
          clear HA1 hla hlb HIH HSND HKO hsg
          go_upto_region 15 with (go_at_call 31; refine HI2.out.mono ?_; rintro e w6 ⟨A6, c6, rfl, g6, h6⟩; have G6 := Lib.hid g6; have H6 := Lib.hid h6; clear g6 h6)
          obtain ⟨w7, hw7⟩ : ∃ w7, w7 = w6.alloc (.cells #[.int .i64 0, .slice A6 0 c6] 36) := ⟨_, rfl⟩
          rw [← hw7]
          obtain ⟨b7, hb7⟩ : ∃ b7, b7 = w6.heap.size := ⟨_, rfl⟩
          rw [← hb7]
          have C7 : Hid (Chg No w3 w7) := by rw [hw7]; exact (C5.out.1.thenNo H6.out).alloc _
          clear hw7 hb7 p0 p1 p2 p3 r0 r1 rf0 rf1 x0 x1 x2 x3
          obtain ⟨⟨p0, p1, p2, p3⟩, r0, r1, rf0, rf1⟩ := HO.out w7 C7.out
          go_wp2_with fail
          refine bodyPost_ret (v := .tuple #[.agg #[.int .i64 0, .slice none 0 0], .iface 64 (.int .i64 3)]) (by simp [results, Tryd.results31, go_sem, r0, r1]) rfl ⟨none, 0, ?_, (HW.out _ _ _ none (0, []) 0 C7.out Sl.empty).2, (HW.out _ _ _ none (0, []) 0 C7.out Sl.empty).1⟩
          rw [show optE (none : Option Lin) = 3 from rfl, errV_of _ (by decide)]
          rfl
        | some LB =>
          rw [hlb, show optE (some LB) = 0 from rfl, errV_zero, show optL (some LB) = LB from rfl] at HI2
          obtain ⟨ansL, hL⟩ : ∃ ansL, ansL = optL ans := ⟨_, rfl⟩
          obtain ⟨ansE, hE⟩ : ∃ ansE, ansE = errV 64 (optE ans) := ⟨_, rfl⟩
          have HAL := Lib.hid hL
          have HAE := Lib.hid hE
          have hans : ans = sumO LA LB sg := by rw [HA1.out, hla]; show (match lexp n b2 l with | none => none | some B => sumO LA B sg) = _; rw [hlb]
          have HAN := Lib.hid hans
          clear hL hE hans HA1 hla hlb HIH HSND HKO
          go_upto_region 15 with (go_at_call 31; refine HI2.out.mono ?_; rintro e w6 ⟨A6, c6, rfl, g6, h6⟩; have G6 := Lib.hid g6; have H6 := Lib.hid h6; clear g6 h6)
          obtain ⟨w7, hw7⟩ : ∃ w7, w7 = w6.alloc (.cells #[.int .i64 LB.1, .slice A6 LB.2.length c6] 36) := ⟨_, rfl⟩
          rw [← hw7]
          obtain ⟨b7, hb7⟩ : ∃ b7, b7 = w6.heap.size := ⟨_, rfl⟩
          rw [← hb7]
          have C7 : Hid (Chg No w3 w7 ∧ w7.heap[b7]? = some (.cells #[.int .i64 LB.1, .slice A6 LB.2.length c6] 36 (0, 0)) ∧ w7.heap[b5]? = some (.cells #[.int .i64 LA.1, .slice A4 LA.2.length c4] 36 (0, 0)) ∧ Monos (fun k => Rs k ∨ w5.heap.size ≤ k) w7 A6 LB.2 c6 ∧ Monos (fun k => Rs k ∨ w3.heap.size ≤ k) w7 A4 LA.2 c4) := by
            rw [hw7, hb7]
            have ha : Chg No w6 (w6.alloc (.cells #[.int .i64 LB.1, .slice A6 LB.2.length c6] 36)) := (Chg.refl _ _).alloc _
            exact ⟨(C5.out.1.thenNo H6.out).alloc _, heap_alloc_new _ _, (H6.out.alloc _).obj C5.out.2.1 id, G6.out.no monoE_good ha, C5.out.2.2.no monoE_good (H6.out.alloc _)⟩
          have HSC : Hid (Calls Tryd.prog 25 #[.agg #[.int .i64 LA.1, .slice A4 LA.2.length c4], .agg #[.int .i64 LB.1, .slice A6 LB.2.length c6], .int .i64 sg] w7 (LinRet w7 ansL ansE)) := by
            have h := csum_any (w := w7) LA LB C7.out.2.2.2.2 C7.out.2.2.2.1 sg
            rw [← HAN.out, ← HAL.out, ← HAE.out] at h
            exact h
          clear hw7 hb7 p0 p1 p2 p3 r0 r1 rf0 rf1 x0 x1 x2 x3
          obtain ⟨⟨p0, p1, p2, p3⟩, r0, r1, rf0, rf1⟩ := HO.out w7 C7.out.1
          obtain ⟨q0, q1, _, _⟩ := obj_2 C7.out.2.1
          obtain ⟨u0, u1, _, _⟩ := obj_2 C7.out.2.2.1
          clear G6 H6
          rcases hsg with ⟨rfl, rfl⟩ | ⟨hk3, rfl⟩
          · go_wp2_with (go_at_call 25; refine HSC.out.mono ?_; rintro e w8 ⟨A8, c8, rfl, g8, h8⟩; have G6 : Hid (Chg No w3 w8 ∧ Monos (fun k => Rs k ∨ w3.heap.size ≤ k) w8 A8 ansL.2 c8) := ⟨C7.out.1.thenNo h8, g8.mono monoE_good (fun k _ hk => .inr (Nat.le_trans C7.out.1.size hk))⟩; clear g8 h8 p0 p1 p2 p3 r0 r1 rf0 rf1; obtain ⟨⟨p0, p1, p2, p3⟩, r0, r1, rf0, rf1⟩ := HO.out w8 G6.out.1)
            refine bodyPost_ret (v := .tuple #[.agg #[.int .i64 ansL.1, .slice A8 ansL.2.length c8], ansE]) (by simp [results, Tryd.results31, go_sem, r0, r1]) rfl ⟨A8, c8, ?_, ?_, (HW.out _ _ _ A8 ansL c8 G6.out.1 G6.out.2).1⟩
            · rw [← HAL.out, ← HAE.out]
            · rw [← HAL.out]; exact (HW.out _ _ _ A8 ansL c8 G6.out.1 G6.out.2).2
          · have hk3' : (kd == 3) = false := beqF hk3
            clear hk3
            go_wp2_with (go_at_call 25; refine HSC.out.mono ?_; rintro e w8 ⟨A8, c8, rfl, g8, h8⟩; have G6 : Hid (Chg No w3 w8 ∧ Monos (fun k => Rs k ∨ w3.heap.size ≤ k) w8 A8 ansL.2 c8) := ⟨C7.out.1.thenNo h8, g8.mono monoE_good (fun k _ hk => .inr (Nat.le_trans C7.out.1.size hk))⟩; clear g8 h8 p0 p1 p2 p3 r0 r1 rf0 rf1; obtain ⟨⟨p0, p1, p2, p3⟩, r0, r1, rf0, rf1⟩ := HO.out w8 G6.out.1)
            refine bodyPost_ret (v := .tuple #[.agg #[.int .i64 ansL.1, .slice A8 ansL.2.length c8], ansE]) (by simp [results, Tryd.results31, go_sem, r0, r1]) rfl ⟨A8, c8, ?_, ?_, (HW.out _ _ _ A8 ansL c8 G6.out.1 G6.out.2).1⟩
            · rw [← HAL.out, ← HAE.out]
            · rw [← HAL.out]; exact (HW.out _ _ _ A8 ansL c8 G6.out.1 G6.out.2).2
theorem cexpr_any : ∀ n, ExprLOk n
  | 0 => fun _ _ _ _ _ _ _ _ h => h.elim
  | n + 1 => lexp_walk n (Lib.hid (cexpr_any n))
end Go.Proofs.YtpmndblakmobdaaDoor
