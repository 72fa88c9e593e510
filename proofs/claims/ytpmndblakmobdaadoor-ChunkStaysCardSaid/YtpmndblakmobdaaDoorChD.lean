/-
  chunk.Expr; up of chapter 20.
-/
import Derived.Test.YtpmndblakmobdaaDoorChC
namespace Go.Proofs.YtpmndblakmobdaaDoor
open Go Go.RowKit

/-- An expression's form, and what is amiss. -/
noncomputable def exprR (n : Nat) (x : ET n) (l : List Sym) : Lin × Int := if (okP2 (deepE n x 99) (okE n x) && l.all symB) = true then (optL (lexp n x l), optE (lexp n x l)) else ((0, []), 5)
def XRetE (Rs : Nat → Prop) (w : World) (r : Lin × Int) (e : Ending) (w' : World) : Prop :=
  ∃ A cap, e = .returned (.tuple #[.agg #[.int .i64 r.1.1, .slice A r.1.2.length cap], errV 64 r.2]) ∧ Monos (fun k => Rs k ∨ w.heap.size ≤ k) w' A r.1.2 cap ∧ Chg No w w'

set_option maxRecDepth 100000 in
set_option maxHeartbeats 4000000 in
theorem chunkExpr_any {n : Nat} {x : ET n} {R Rs : Nat → Prop} {w : World} {ek en : Int} {es : ByteArray} {eB : Option Addr} {ekl eck : Nat} (hK : Keys w) (hx : (exprV n) R w [.int .i64 ek, .int .i64 en, .string es, .slice eB ekl eck] x) {As : Option Addr} {l : List Sym} {caps : Nat} (hl : Syms Rs w As l caps) (hRs : ∀ k, Rs k → k < w.heap.size) :
    Calls Tryd.prog 18 #[.agg #[.int .i64 ek, .int .i64 en, .string es, .slice eB ekl eck], .slice As l.length caps] w (XRetE Rs w (exprR n x l)) := by
  have HF := Lib.hid (fun W (hW : Chg No w W) => cfine_1 (hK.no hW) ((exprV_good n).no hx hW) (hl.no symE_good hW))
  obtain ⟨ansL, hL⟩ : ∃ ansL, ansL = (exprR n x l).1 := ⟨_, rfl⟩
  obtain ⟨ansE, hE⟩ : ∃ ansE, ansE = errV 64 (exprR n x l).2 := ⟨_, rfl⟩
  have HX : Hid ((okP2 (deepE n x 99) (okE n x) && l.all symB) = true → ∀ W, Chg No w W → Calls Tryd.prog 31 #[.agg #[.int .i64 ek, .int .i64 en, .string es, .slice eB ekl eck], .slice As l.length caps] W (fun e w' => ∃ A cap, e = .returned (.tuple #[.agg #[.int .i64 ansL.1, .slice A ansL.2.length cap], ansE]) ∧ Monos (fun k => Rs k ∨ W.heap.size ≤ k) w' A ansL.2 cap ∧ Chg No W w')) := fun hq W hW => by
    have hq' := hq
    rw [Bool.and_eq_true] at hq'
    have hok : okE n x = true := by
      have := hq'.1
      unfold okP2 at this
      rw [Bool.and_eq_true] at this
      exact this.2
    have h := cexpr_any n x R Rs W _ As l caps ((exprV_good n).no hx hW) hok (hl.no symE_good hW) (fun k hk => Nat.lt_of_lt_of_le (hRs k hk) hW.size) hq'.2
    have e1 : optL (lexp n x l) = ansL := by rw [hL]; unfold exprR; rw [if_pos hq]
    have e2 : errV 64 (optE (lexp n x l)) = ansE := by rw [hE]; unfold exprR; rw [if_pos hq]
    unfold XRet at h
    rw [e1, e2] at h
    exact h
  have hbad : (okP2 (deepE n x 99) (okE n x) && l.all symB) = false → ansL = (0, []) ∧ ansE = .iface 64 (.int .i64 5) := fun hq => by
    rw [hL, hE]; unfold exprR; rw [hq]
    exact ⟨rfl, errV_of _ (show (5 : Int) ≠ 0 by decide)⟩
  have HL := Lib.hid hL
  have HE := Lib.hid hE
  have HR := Lib.hid hRs
  clear hL hE hx hK hl hRs
  generalize (okP2 (deepE n x 99) (okE n x) && l.all symB) = q at *
  generalize l.length = ll at *
  obtain ⟨w3, hw3⟩ : ∃ w3, w3 = (w.alloc (.cells #[.int .i64 ek, .int .i64 en, .string es, .slice eB ekl eck] 63)).alloc (.cells #[.int .i64 0, .slice none 0 0] 36) := ⟨_, rfl⟩
  have h3 : Hid (Chg No w w3 ∧ w3.heap[w.heap.size]? = some (.cells #[.int .i64 ek, .int .i64 en, .string es, .slice eB ekl eck] 63 (0, 0)) ∧ w3.heap[w.heap.size + 1]? = some (.cells #[.int .i64 0, .slice none 0 0] 36 (0, 0)) ∧ w3.heap.size = w.heap.size + 1 + 1) := by
    rw [hw3]
    exact ⟨((Chg.refl _ _).alloc _).alloc _, at_old (heap_alloc_new _ _), at_new (by simp), by simp⟩
  have HW : Hid (∀ W u v A (o : Lin) cap, Chg No w3 W → Monos (fun k => Rs k ∨ w3.heap.size ≤ k) W A o.2 cap → Chg No w ((W.setCell ⟨w.heap.size + 1, 0, none⟩ u).setCell ⟨w.heap.size + 1, 1, none⟩ v) ∧ Monos (fun k => Rs k ∨ w.heap.size ≤ k) ((W.setCell ⟨w.heap.size + 1, 0, none⟩ u).setCell ⟨w.heap.size + 1, 1, none⟩ v) A o.2 cap) := fun W u v A o cap hW hm => by
    have hz := h3.out.2.2.2
    have hs : Chg (fun q => q = w.heap.size + 1) W ((W.setCell ⟨w.heap.size + 1, 0, none⟩ u).setCell ⟨w.heap.size + 1, 1, none⟩ v) := ((Chg.refl (fun q => q = w.heap.size + 1) W).setCell _ _ (fun _ => rfl)).setCell _ _ (fun _ => rfl)
    exact ⟨chgpast2 (h3.out.1.thenNo hW) hs (fun k hk => by omega), (hm.chg monoE_good hs (fun k hk e => by
      rcases hk with hk | hk
      · have := HR.out k hk; omega
      · omega)).mono monoE_good (fun k _ hk => hk.elim .inl (fun h => .inr (by omega)))⟩
  have HO : Hid (∀ W, Chg No w3 W → (W.cell? ⟨w.heap.size, 0, none⟩ = some (.int .i64 ek) ∧ W.cell? ⟨w.heap.size, 1, none⟩ = some (.int .i64 en) ∧ W.cell? ⟨w.heap.size, 2, none⟩ = some (.string es) ∧ W.cell? ⟨w.heap.size, 3, none⟩ = some (.slice eB ekl eck)) ∧ W.cell? ⟨w.heap.size + 1, 0, none⟩ = some (.int .i64 0) ∧ W.cell? ⟨w.heap.size + 1, 1, none⟩ = some (.slice none 0 0) ∧ W.frozen? ⟨w.heap.size + 1, 0, none⟩ = false ∧ W.frozen? ⟨w.heap.size + 1, 1, none⟩ = false) := fun W hW =>
    ⟨obj_4 (hW.obj h3.out.2.1 id), obj_2 (hW.obj h3.out.2.2.1 id)⟩
  obtain ⟨⟨p0, p1, p2, p3⟩, r0, r1, rf0, rf1⟩ := HO.out w3 (Chg.refl _ _)
  cases q
  · obtain ⟨rfl, rfl⟩ := hbad rfl
    clear HX
    go_enter Tryd.func18, Tryd.ntmps18
    go_upto_region 1 with fail
    rw [← hw3]
    clear hw3
    go_wp2_with (go_at_call 30; refine (HF.out _ h3.out.1).mono ?_; rintro e w4 ⟨rfl, h4⟩; have H4 := Lib.hid h4; clear p0 p1 p2 p3 r0 r1 rf0 rf1; obtain ⟨⟨p0, p1, p2, p3⟩, r0, r1, rf0, rf1⟩ := HO.out w4 h4; clear h4)
    refine bodyPost_ret (v := .tuple #[.agg #[.int .i64 0, .slice none 0 0], .iface 64 (.int .i64 5)]) (by simp [results, Tryd.results18, go_sem, r0, r1]) rfl ⟨none, 0, ?_, ?_, (HW.out _ _ _ none (0, []) 0 H4.out Sl.empty).1⟩
    · rw [← HL.out, ← HE.out]; rfl
    · rw [← HL.out]; exact (HW.out _ _ _ none (0, []) 0 H4.out Sl.empty).2
  · have HX1 := Lib.hid (HX.out rfl)
    clear hbad HX
    go_enter Tryd.func18, Tryd.ntmps18
    go_upto_region 1 with fail
    rw [← hw3]
    clear hw3
    go_wp2_with (first
      | (go_at_call 30; refine (HF.out _ h3.out.1).mono ?_; rintro e w4 ⟨rfl, h4⟩; have H4 := Lib.hid h4; clear p0 p1 p2 p3 r0 r1 rf0 rf1; obtain ⟨⟨p0, p1, p2, p3⟩, r0, r1, rf0, rf1⟩ := HO.out w4 h4; clear h4)
      | (go_at_call 31; refine (HX1.out _ (h3.out.1.thenNo H4.out)).mono ?_; rintro e w6 ⟨A6, c6, rfl, g6, h6⟩; have G6 : Hid (Chg No w3 w6 ∧ Monos (fun k => Rs k ∨ w3.heap.size ≤ k) w6 A6 ansL.2 c6) := ⟨H4.out.thenNo h6, g6.mono monoE_good (fun k _ hk => hk.elim .inl (fun h => .inr (Nat.le_trans H4.out.size h)))⟩; clear g6 h6 p0 p1 p2 p3 r0 r1 rf0 rf1; obtain ⟨⟨p0, p1, p2, p3⟩, r0, r1, rf0, rf1⟩ := HO.out w6 G6.out.1))
    refine bodyPost_ret (v := .tuple #[.agg #[.int .i64 ansL.1, .slice A6 ansL.2.length c6], ansE]) (by simp [results, Tryd.results18, go_sem, r0, r1]) rfl ⟨A6, c6, ?_, ?_, (HW.out _ _ _ A6 ansL c6 G6.out.1 G6.out.2).1⟩
    · rw [← HL.out, ← HE.out]
    · rw [← HL.out]; exact (HW.out _ _ _ A6 ansL c6 G6.out.1 G6.out.2).2

/-- The document's example. -/
def upX : ET 1 := (⟨1, 0, ⟨#[120]⟩, []⟩ : ENode (ET 0))
def upM : ET 2 := (⟨4, 2, ⟨#[]⟩, [upX]⟩ : ENode (ET 1))
def upN : ET 2 := (⟨0, 1, ⟨#[]⟩, []⟩ : ENode (ET 1))
def upE : ET 3 := (⟨3, 0, ⟨#[]⟩, [upM, upN]⟩ : ENode (ET 2))
def upL : List Sym := [(⟨#[120]⟩, (3, [(0, 1)]))]
theorem upE_ok : okP2 (deepE 3 upE 99) (okE 3 upE) = true := by kernel_rfl
theorem upL_ok : upL.all symB = true := by kernel_rfl
theorem upE_form : lexp 3 upE upL = some (5, [(0, 2)]) := by
  have h1 : lexp 1 upX upL = some (3, [(0, 1)]) := by
    show some (symOf upL ⟨#[120]⟩) = _
    have : upL.find? (fun s => s.1.toList == (⟨#[120]⟩ : ByteArray).toList) = some (⟨#[120]⟩, (3, [(0, 1)])) := by
      unfold upL
      rw [List.find?_cons_of_pos (by simp)]
    unfold symOf
    rw [this]
  have h2 : lexp 2 upM upL = some (6, [(0, 2)]) := by
    show (match lexp 1 upX upL with | none => none | some A => sclO 2 A) = _
    rw [h1]
    show sclO 2 (3, [(0, 1)]) = _
    unfold sclO
    rw [if_pos (by kernel_rfl)]
    rfl
  have h3 : lexp 2 upN upL = some (1, []) := rfl
  show (match lexp 2 upM upL with | none => none | some A => match lexp 2 upN upL with | none => none | some B => sumO A B (-1)) = _
  rw [h2, h3]
  show sumO (6, [(0, 2)]) (1, []) (-1) = _
  have hn : nf (scale 1 [(0, 2)] ++ scale (-1) []) = [(0, 2)] := nf_self (by simp [scale, Asc]) (by simp [scale])
  have he : sumErr (1 * 6 + -1 * 1) (scale 1 [(0, 2)] ++ scale (-1) []) = 0 := by unfold sumErr; rw [hn]; rfl
  have e1 : addErr (6, [(0, 2)]) (1, []) 1 (-1) = 0 := by
    unfold addErr
    rw [if_pos (by kernel_rfl), if_pos (by kernel_rfl)]
    exact he
  have e2 : addLin (6, [(0, 2)]) (1, []) 1 (-1) = (5, [(0, 2)]) := by
    unfold addLin
    rw [if_pos (by kernel_rfl), if_pos (by kernel_rfl)]
    show sumLin (1 * 6 + -1 * 1) (scale 1 [(0, 2)] ++ scale (-1) []) = _
    unfold sumLin
    rw [if_pos he, hn]
    rfl
  unfold sumO
  rw [if_pos e1, e2]
theorem upE_res : exprR 3 upE upL = ((5, [(0, 2)]), 0) := by
  unfold exprR
  rw [upE_ok, upL_ok, upE_form]
  rfl
end Go.Proofs.YtpmndblakmobdaaDoor
