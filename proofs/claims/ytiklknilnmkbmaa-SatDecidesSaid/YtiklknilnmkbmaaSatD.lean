/-
  The solver's state in memory; learn.
-/
import Derived.Test.YtiklknilnmkbmaaSatC
namespace Go.Proofs.Ytiklknilnmkbmaa
open Go Go.RowKit

/-- Blocks that the solver's rows may lie in, apart from p and from another slice's own. -/
def RowsIn (Rb : Nat → Prop) (B p : Nat) (v : Value) : Nat → Prop := fun k => ((Rb k ∧ k < B) ∨ B ≤ k) ∧ k ≠ p ∧ v.ownBlock ≠ some k
def OwnIn (B p : Nat) (v : Value) : Nat → Prop := fun k => B ≤ k ∧ k ≠ p ∧ v.ownBlock ≠ some k
/-- The solver at p: n, the clauses (base, and what was learned: L), the steps L, fuel f. -/
structure Sol (Rb : Nat → Prop) (B : Nat) (w : World) (p : Nat) (n : Int) (base L : List (List Int)) (f : Int) (vC vS vV : Value) : Prop where
  obj : w.heap[p]? = some (.cells #[.int .i64 n, vC, vS, .int .i64 f, vV] 45 (0, 0))
  cl : OwnL rowV 40 (OwnIn B p vS) (RowsIn Rb B p vS) w vC (base ++ L)
  st : OwnL rowV 40 (OwnIn B p vC) (RowsIn Rb B p vC) w vS L
  pB : B ≤ p
/-- What the solver's calls may change. -/
def Mine (p : Nat) (vC vS : Value) : Nat → Prop := fun k => k = p ∨ vC.ownBlock = some k ∨ vS.ownBlock = some k
/-- A slice's new block is its old one, or new. -/
def Fresh (w : World) (v v' : Value) : Prop := ∀ k, v'.ownBlock = some k → v.ownBlock = some k ∨ w.heap.size ≤ k

theorem OwnL.self {α : Type} {V : ElV α} {e : TypeId} {M R : Nat → Prop} {w : World} {v : Value} {l : List α} (h : OwnL V e M R w v l) (M' : Nat → Prop) (hM : ∀ k, v.ownBlock = some k → M' k) : OwnL V e M' R w v l := by
  obtain ⟨C, ho, hl, hv⟩ := h
  refine ⟨C, ⟨ho.1, ?_⟩, hl, hv⟩
  rcases ho.2 with h0 | ⟨g, o, cap, cur, rfl, hg, rest⟩
  · exact .inl h0
  · exact .inr ⟨g, o, cap, cur, rfl, hM g rfl, rest⟩
/-- The one slice, where the other was appended to. -/
theorem keep_other {Rb : Nat → Prop} {B p : Nat} {w w' : World} {v u u' : Value} {l : List (List Int)} {S : Nat → Prop} (h : OwnL rowV 40 (OwnIn B p u) (RowsIn Rb B p u) w v l) (hc : Chg S w w') (hS : ∀ k, S k → k = p ∨ u.ownBlock = some k) (hu : Fresh w u u') :
    OwnL rowV 40 (OwnIn B p u') (RowsIn Rb B p u') w' v l := by
  have h1 := h.mono rowV_good (M' := fun k => OwnIn B p u k ∧ k < w.heap.size) (R' := fun k => RowsIn Rb B p u k ∧ k < w.heap.size) (fun k hk hM => ⟨hM, hk⟩) (fun k hk hR => ⟨hR, hk⟩)
  have h2 := h1.chg rowV_good hc (fun k hk hs => by
    have hm := (h1.mine k hk).1.1
    rcases hS k hs with e | e
    · exact hm.2.1 e
    · exact hm.2.2 e) (fun k hk _ hs => by
    rcases hS k hs with e | e
    · exact hk.1.2.1 e
    · exact hk.1.2.2 e)
  refine h2.mono rowV_good (fun k _ hM => ⟨hM.1.1, hM.1.2.1, fun e => ?_⟩) (fun k _ hR => ⟨hR.1.1, hR.1.2.1, fun e => ?_⟩)
  · rcases hu k e with g | g
    · exact hM.1.2.2 g
    · omega
  · rcases hu k e with g | g
    · exact hR.1.2.2 g
    · omega
theorem obj_five {w : World} {b : Nat} {x0 x1 x2 x3 x4 : Value} {t : TypeId} (h : w.heap[b]? = some (.cells #[x0, x1, x2, x3, x4] t (0, 0))) :
    (w.cell? ⟨b, 0, none⟩ = some x0 ∧ w.cell? ⟨b, 1, none⟩ = some x1 ∧ w.cell? ⟨b, 2, none⟩ = some x2 ∧ w.cell? ⟨b, 3, none⟩ = some x3 ∧ w.cell? ⟨b, 4, none⟩ = some x4) ∧ ∀ i, w.frozen? ⟨b, i, none⟩ = false := by
  simp [World.cell?, World.frozen?, h]
theorem obj_set5 {w : World} {b j : Nat} {cs : Array Value} {t : TypeId} (u : Value) (h : w.heap[b]? = some (.cells cs t (0, 0))) : (w.setCell ⟨b, j, none⟩ u).heap[b]? = some (.cells (cs.setIfInBounds j u) t (0, 0)) := by
  simp [World.setCell, Array.getElem?_modify, h]

set_option maxRecDepth 100000 in
set_option maxHeartbeats 4000000 in
theorem learn_any {Rb Rd : Nat → Prop} {B : Nat} {w : World} {p : Nat} {n : Int} {base L : List (List Int)} {f : Int} {vC vS vV : Value} (h : Sol Rb B w p n base L f vC vS vV) {A : Option Addr} {D : List Int} {cap : Nat} (hD : Ints Rd w A D cap)
    (hb : ∀ l ∈ D, -9000 ≤ l ∧ l ≤ 9000) (hD2 : D.length ≤ 100000) (hL : (base ++ L).length ≤ 100000) :
    Calls Try.prog 26 #[.pointer (some ⟨p, 0, none⟩), .slice A D.length cap] w fun e w' => ∃ vC' vS', e = .returned (.tuple #[]) ∧ Sol Rb B w' p n base (L ++ [negL D]) f vC' vS' vV ∧ Chg (Mine p vC vS) w w' ∧ Fresh w vC vC' ∧ Fresh w vS vS' := by
  have HD := Lib.hid (fun W (h : Chg No w W) => hD.no intE_good h)
  have HB := Lib.hid hb
  have HS := Lib.hid h
  have hLl : L.length ≤ 100000 := by rw [List.length_append] at hL; omega
  have hpl : p < w.heap.size := (Array.getElem?_eq_some_iff.1 h.obj).1
  have hBp := h.pB
  have h3 : Hid (Chg No w (w.alloc (.cells #[] 3)) ∧ OInts 3 (fun q => w.heap.size ≤ q) (w.alloc (.cells #[] 3)) (.slice (some ⟨w.heap.size, 0, none⟩) 0 0) []) :=
    ⟨(Chg.refl _ _).alloc _, ⟨by simp, .inr ⟨w.heap.size, 0, 0, #[], rfl, Nat.le_refl _, at_new rfl, Nat.le_refl _, Nat.zero_le _, by simp, by simp⟩⟩, fun x hx => by cases hx⟩
  clear h hD hb
  go_enter Try.func26, Try.ntmps26
  go_wp2_with fail
  go_loopw [4, 10] (fun s4 s10 wr => ∃ k : Nat, s10 = .int .i64 k ∧ k ≤ D.length ∧ Hid (OInts 3 (fun q => w.heap.size ≤ q) wr s4 (negL (D.take k)) ∧ Chg No w wr)) (fun _ s10 _ => D.length - (intOf s10).toNat)
  case atStart => exact ⟨0, rfl, Nat.zero_le _, h3.out.2, h3.out.1⟩
  case round =>
    obtain ⟨k, rfl, gk, hin⟩ := hrel
    by_cases hkl : k < D.length
    · obtain ⟨b', o', rfl, hx'⟩ := (HD.out wr hin.out.2).int_at k hkl
      have k0 : (0 : Int) ≤ (k : Int) := by omega
      have k1 : (k : Int) < (D.length : Int) := by omega
      obtain ⟨l0, l1⟩ := HB.out D[k] (List.getElem_mem hkl)
      have HT := Lib.hid (negL_take hkl)
      have hnl : (negL (D.take k)).length ≤ 131072 := by rw [negL_len, List.length_take]; omega
      generalize D[k] = x at *
      generalize hT' : negL (D.take (k + 1)) = T' at *
      have HT' := Lib.hid hT'
      clear hT'
      generalize negL (D.take k) = T at *
      have HM : Hid (∀ q, wr.heap.size ≤ q → w.heap.size ≤ q) := fun q hq => Nat.le_trans hin.out.2.size hq
      have HPO : Hid (∀ w', Chg (fun q => u4.ownBlock = some q) wr w' → Chg No w w') := fun w' h => hin.out.2.trans h (fun q hq hlt => by have := (hin.out.1.mine q hq).1; omega)
      go_wp2_with (at_builtin; refine wpList_push_int' intsTyC rfl (.tmp 14) (.tmp 17) rfl HM.out hin.out.1 rfl rfl rfl (I64.of (show -9000000000000000000 ≤ -x by omega) (show -x ≤ 9000000000000000000 by omega)) (show (T.length + 1) * 8 ≤ 140737488355328 by omega) ?_; intro A7 cap7 w7 g1 g2; have G7 := Lib.hid (And.intro g1 (HPO.out w7 g2)); clear g1 g2)
      go_roundw
      case rel => exact ⟨k + 1, by go_num, hkl, by rw [HT'.out, HT.out]; exact G7⟩
      case measure => simp [intOf]; omega
    · obtain rfl : k = D.length := by omega
      rw [List.take_of_length_le (Nat.le_refl _)] at hin
      obtain ⟨Ac, cc, e4, hI⟩ := hin.out.1.ints (by rw [negL_len]; unfold big; omega)
      rw [negL_len] at e4
      subst e4
      have hs := HS.out
      have ho := hin.out.2.obj hs.obj id
      obtain ⟨⟨p0, p1, p2, p3, p4⟩, hfz⟩ := obj_five ho
      have hwr := hin.out.2.size
      have hcl := hs.cl.no rowV_good hin.out.2
      have hst := hs.st.no rowV_good hin.out.2
      have hcm : ∀ k, vC.ownBlock = some k → k < w.heap.size := fun k hk => (hs.cl.mine k hk).2
      have hsm : ∀ k, vS.ownBlock = some k → k < w.heap.size := fun k hk => (hs.st.mine k hk).2
      -- the steps
      have HO1 : Hid (OwnL rowV 40 (fun k => vS.ownBlock = some k ∨ wr.heap.size ≤ k) (RowsIn Rb B p vC) wr vS L) := hst.self _ (fun k hk => .inl hk)
      have HR1 : Hid (rowV (fun k => RowsIn Rb B p vC k ∧ vS.ownBlock ≠ some k) wr [.slice Ac D.length cc] (negL D)) := row_of (negL_len D).symm (hI.mono intE_good (fun k _ hk => ⟨⟨.inr (by omega), by omega, fun e => by have := hcm k e; omega⟩, fun e => by have := hsm k e; omega⟩))
      have HP1 : Hid (∀ A8 cap8 w8, OwnL rowV 40 (fun k => vS.ownBlock = some k ∨ wr.heap.size ≤ k) (RowsIn Rb B p vC) w8 (.slice A8 (L.length + 1) cap8) (L ++ [negL D]) → Chg (fun k => vS.ownBlock = some k) wr w8 →
          (w8.cell? ⟨p, 2, none⟩ = some vS ∧ w8.frozen? ⟨p, 2, none⟩ = false) ∧
          Hid ((w8.setCell ⟨p, 2, none⟩ (.slice A8 (L.length + 1) cap8)).heap[p]? = some (.cells #[.int .i64 n, vC, .slice A8 (L.length + 1) cap8, .int .i64 f, vV] 45 (0, 0)) ∧ OwnL rowV 40 (OwnIn B p (.slice A8 (L.length + 1) cap8)) (RowsIn Rb B p (.slice A8 (L.length + 1) cap8)) (w8.setCell ⟨p, 2, none⟩ (.slice A8 (L.length + 1) cap8)) vC (base ++ L) ∧
            OwnL rowV 40 (OwnIn B p vC) (RowsIn Rb B p vC) (w8.setCell ⟨p, 2, none⟩ (.slice A8 (L.length + 1) cap8)) (.slice A8 (L.length + 1) cap8) (L ++ [negL D]) ∧ Chg (Mine p vC vS) w (w8.setCell ⟨p, 2, none⟩ (.slice A8 (L.length + 1) cap8)) ∧ Fresh w vS (.slice A8 (L.length + 1) cap8) ∧
            Ints (fun k => w.heap.size ≤ k ∧ k < wr.heap.size) (w8.setCell ⟨p, 2, none⟩ (.slice A8 (L.length + 1) cap8)) Ac (negL D) cc ∧ (∀ k, (Value.slice A8 (L.length + 1) cap8).ownBlock = some k → vS.ownBlock = some k ∨ wr.heap.size ≤ k))) := fun A8 cap8 w8 g1 g2 => by
        have hfr : ∀ k, (Value.slice A8 (L.length + 1) cap8).ownBlock = some k → vS.ownBlock = some k ∨ wr.heap.size ≤ k := fun k hk => (g1.mine k hk).1
        have o8 := g2.obj ho (fun e => by have := (hs.st.mine p e).1; exact this.2.1 rfl)
        have hset := (Chg.refl (fun k => k = p) w8).setCell ⟨p, 2, none⟩ (.slice A8 (L.length + 1) cap8) (fun _ => rfl)
        have hc1 : Chg (fun k => k = p ∨ vS.ownBlock = some k) wr (w8.setCell ⟨p, 2, none⟩ (.slice A8 (L.length + 1) cap8)) := (g2.mono (fun k hk _ => .inr hk)).trans hset (fun k hk _ => .inl hk)
        refine ⟨⟨(obj_five o8).1.2.2.1, (obj_five o8).2 2⟩, obj_set5 _ o8, ?_, ?_, ?_, ?_, ?_, hfr⟩
        · exact keep_other hcl hc1 (fun k hk => hk) hfr
        · refine (g1.chg rowV_good hset (fun k hk e => ?_) (fun k hk _ e => hk.2.1 e)).self _ (fun k hk => ?_)
          · rcases hfr k hk with e2 | e2
            · exact (hs.st.mine k e2).1.2.1 e
            · omega
          · rcases hfr k hk with e2 | e2
            · exact (hs.st.mine k e2).1
            · exact ⟨by omega, by omega, fun e => by have := hcm k e; omega⟩
        · exact hin.out.2.no.trans hc1 (fun k hk _ => by rcases hk with e | e; exact .inl e; exact .inr (.inr e))
        · exact fun k hk => by rcases hfr k hk with e | e; exact .inl e; exact .inr (by omega)
        · have h1 := hI.mono intE_good (R' := fun k => w.heap.size ≤ k ∧ k < wr.heap.size) (fun k hk h => ⟨h, hk⟩)
          exact h1.chg intE_good hc1 (fun k hk e => by
            rcases e with e | e
            · omega
            · have := hsm k e; omega)
      have HFR1 : Hid (∀ k, wr.heap.size ≤ k → (vS.ownBlock = some k ∨ wr.heap.size ≤ k)) := fun k hk => .inr hk
      have f2 := hfz 2
      clear hcl hst ho hI hin hs
      go_upto_region 7 with (at_builtin; refine wpList_pushL' rowV_good rowsTyC rfl (.tmp 24) (.tmp 26) rfl HFR1.out HO1.out rfl HR1.out (by simp [Value.oneCell']) rfl rfl (show (L.length + 1) * 24 ≤ 140737488355328 by omega) ?_; intro A8 cap8 w8 g1 g2; obtain ⟨⟨c2, c3⟩, G8⟩ := HP1.out A8 cap8 w8 g1 g2; clear g1 g2)
      obtain ⟨w9, hw9⟩ : ∃ w9, w9 = w8.setCell ⟨p, 2, none⟩ (.slice A8 (L.length + 1) cap8) := ⟨_, rfl⟩
      rw [← hw9] at G8 ⊢
      clear hw9 c2 c3 p0 p1 p2 p3 p4 f2 hfz HP1 HO1 HR1 HFR1
      have hg := G8.out
      obtain ⟨⟨p0, p1, p2, p3, p4⟩, hfz⟩ := obj_five hg.1
      have h9 := hg.2.2.2.1.size
      have hcm9 : ∀ k, vC.ownBlock = some k → k < w9.heap.size := fun k hk => (hg.2.1.mine k hk).2
      have hsm9 : ∀ k, (Value.slice A8 (L.length + 1) cap8).ownBlock = some k → k < w9.heap.size := fun k hk => (hg.2.2.1.mine k hk).2
      have hbl : (base ++ (L ++ [negL D])) = (base ++ L) ++ [negL D] := (List.append_assoc _ _ _).symm
      have HO2 : Hid (OwnL rowV 40 (fun k => vC.ownBlock = some k ∨ w9.heap.size ≤ k) (RowsIn Rb B p (.slice A8 (L.length + 1) cap8)) w9 vC (base ++ L)) := hg.2.1.self _ (fun k hk => .inl hk)
      have HR2 : Hid (rowV (fun k => RowsIn Rb B p (.slice A8 (L.length + 1) cap8) k ∧ vC.ownBlock ≠ some k) w9 [.slice Ac D.length cc] (negL D)) := row_of (negL_len D).symm (hg.2.2.2.2.2.1.mono intE_good (fun k _ hk => ⟨⟨.inr (by omega), by omega, fun e => by
        rcases hg.2.2.2.2.2.2 k e with g | g
        · have := hsm k g; omega
        · omega⟩, fun e => by have := hcm k e; omega⟩))
      have HP2 : Hid (∀ A7 cap7 w7, OwnL rowV 40 (fun k => vC.ownBlock = some k ∨ w9.heap.size ≤ k) (RowsIn Rb B p (.slice A8 (L.length + 1) cap8)) w7 (.slice A7 ((base ++ L).length + 1) cap7) ((base ++ L) ++ [negL D]) → Chg (fun k => vC.ownBlock = some k) w9 w7 →
          (w7.cell? ⟨p, 1, none⟩ = some vC ∧ w7.frozen? ⟨p, 1, none⟩ = false) ∧
          Hid (Sol Rb B (w7.setCell ⟨p, 1, none⟩ (.slice A7 ((base ++ L).length + 1) cap7)) p n base (L ++ [negL D]) f (.slice A7 ((base ++ L).length + 1) cap7) (.slice A8 (L.length + 1) cap8) vV ∧ Chg (Mine p vC vS) w (w7.setCell ⟨p, 1, none⟩ (.slice A7 ((base ++ L).length + 1) cap7)) ∧ Fresh w vC (.slice A7 ((base ++ L).length + 1) cap7) ∧ Fresh w vS (.slice A8 (L.length + 1) cap8))) := fun A7 cap7 w7 g1 g2 => by
        have hfr : ∀ k, (Value.slice A7 ((base ++ L).length + 1) cap7).ownBlock = some k → vC.ownBlock = some k ∨ w9.heap.size ≤ k := fun k hk => (g1.mine k hk).1
        have o7 := g2.obj hg.1 (fun e => (hg.2.1.mine p e).1.2.1 rfl)
        have hset := (Chg.refl (fun k => k = p) w7).setCell ⟨p, 1, none⟩ (.slice A7 ((base ++ L).length + 1) cap7) (fun _ => rfl)
        have hc1 : Chg (fun k => k = p ∨ vC.ownBlock = some k) w9 (w7.setCell ⟨p, 1, none⟩ (.slice A7 ((base ++ L).length + 1) cap7)) := (g2.mono (fun k hk _ => .inr hk)).trans hset (fun k hk _ => .inl hk)
        refine ⟨⟨(obj_five o7).1.2.1, (obj_five o7).2 1⟩, ⟨obj_set5 _ o7, ?_, ?_, hBp⟩, ?_, ?_, hg.2.2.2.2.1⟩
        · rw [hbl]
          refine (g1.chg rowV_good hset (fun k hk e => ?_) (fun k hk _ e => hk.2.1 e)).self _ (fun k hk => ?_)
          · rcases hfr k hk with e2 | e2
            · exact (hg.2.1.mine k e2).1.2.1 e
            · omega
          · rcases hfr k hk with e2 | e2
            · exact (hg.2.1.mine k e2).1
            · exact ⟨by omega, by omega, fun e => by have := hsm9 k e; omega⟩
        · exact keep_other hg.2.2.1 hc1 (fun k hk => hk) hfr
        · exact hg.2.2.2.1.trans hc1 (fun k hk _ => by rcases hk with e | e; exact .inl e; exact .inr (.inl e))
        · exact fun k hk => by rcases hfr k hk with e | e; exact .inl e; exact .inr (by omega)
      have HFR2 : Hid (∀ k, w9.heap.size ≤ k → (vC.ownBlock = some k ∨ w9.heap.size ≤ k)) := fun k hk => .inr hk
      have f1 := hfz 1
      clear hg G8 hbl
      have HBY : Hid (((base ++ L).length + 1) * 24 ≤ 140737488355328) := by unfold Hid; omega
      clear hLl hL
      go_wp2_with (at_builtin; refine wpList_pushL' rowV_good rowsTyC rfl (.tmp 34) (.tmp 36) rfl HFR2.out HO2.out rfl HR2.out (by simp [Value.oneCell']) rfl rfl HBY.out ?_; intro A7 cap7 w7 g1 g2; obtain ⟨⟨c2, c3⟩, G7⟩ := HP2.out A7 cap7 w7 g1 g2; clear g1 g2)
      go_end0
      have G := G7.out
      simp only [List.length_append] at G
      exact ⟨_, _, rfl, G⟩
end Go.Proofs.Ytiklknilnmkbmaa
