/-
  branch: its states.
-/
import Derived.Test.YtiklknilnmkbmaaSatF
namespace Go.Proofs.Ytiklknilnmkbmaa
open Go Go.RowKit

theorem boolsTyC : SliceTy Try.prog 25 4 1 1 (.bool false) := ⟨Try.underlying25, by kernel_rfl, rfl, by decide, by decide⟩
/-- What branch answers. -/
def BrPost (Rb : Nat → Prop) (B : Nat) (w : World) (p : Nat) (n : Int) (base L : List (List Int)) (f : Int) (D : List Int) (vC vS : Value) (e : Ending) (w' : World) : Prop :=
  ∃ out f' L' vs vC' vS' vV', e = .returned (.int .i64 out) ∧ Sol Rb B w' p n base L' f' vC' vS' vV' ∧ Chg (Mine p vC vS) w w' ∧ Fresh w vC vC' ∧ Fresh w vS vS' ∧
    (out = 1 → ∃ Av cv, vV' = .slice Av vs.length cv ∧ Bools (fun k => w.heap.size ≤ k) w' Av vs cv) ∧ BrLaw n base L f D out f' L' vs
def BrOk (k : Nat) : Prop := ∀ (f : Nat), f ≤ k → ∀ (Rb Rd : Nat → Prop) (B : Nat) (w : World) (p : Nat) (n : Int) (base L : List (List Int)) (D : List Int) (vC vS vV : Value) (A : Option Addr) (cap : Nat),
  Sol Rb B w p n base L f vC vS vV → Ints Rd w A D cap → (∀ k, Rd k → k ≠ p ∧ vC.ownBlock ≠ some k ∧ vS.ownBlock ≠ some k) → D.length + f ≤ 20000 → base.length + L.length + f ≤ 50000 →
  Calls Try.prog 17 #[.pointer (some ⟨p, 0, none⟩), .slice A D.length cap] w (BrPost Rb B w p n base L f D vC vS)
theorem Sol.put {Rb : Nat → Prop} {B : Nat} {w w' : World} {p : Nat} {n : Int} {base L : List (List Int)} {f f' : Int} {vC vS vV vV' : Value} (h : Sol Rb B w p n base L f vC vS vV) (hc : Chg (fun k => k = p) w w') (ho : w'.heap[p]? = some (.cells #[.int .i64 n, vC, vS, .int .i64 f', vV'] 45 (0, 0))) : Sol Rb B w' p n base L f' vC vS vV' :=
  ⟨ho, h.cl.chg rowV_good hc (fun k hk e => (h.cl.mine k hk).1.2.1 e) (fun _ hk _ e => hk.2.1 e), h.st.chg rowV_good hc (fun k hk e => (h.st.mine k hk).1.2.1 e) (fun _ hk _ e => hk.2.1 e), h.pB⟩
theorem Sol.no {Rb : Nat → Prop} {B : Nat} {w w' : World} {p : Nat} {n : Int} {base L : List (List Int)} {f : Int} {vC vS vV : Value} (h : Sol Rb B w p n base L f vC vS vV) (hc : Chg No w w') : Sol Rb B w' p n base L f vC vS vV :=
  ⟨hc.obj h.obj id, h.cl.no rowV_good hc, h.st.no rowV_good hc, h.pB⟩
theorem Sol.rows {Rb : Nat → Prop} {B : Nat} {w : World} {p : Nat} {n : Int} {base L : List (List Int)} {f : Int} {vC vS vV : Value} (h : Sol Rb B w p n base L f vC vS vV) (hb : base.length + L.length ≤ 100000) :
    ∃ A cap R, vC = .slice A (base ++ L).length cap ∧ Rows2 R w A (base ++ L) cap := by
  obtain ⟨A, cap, e, hs⟩ := h.cl.sl rowV_good (by rw [List.length_append]; show (base.length + L.length) * 24 ≤ big; unfold big; omega)
  exact ⟨A, cap, _, e, rows_mem hs⟩


theorem Fresh.trans {w w' : World} {v v' v'' : Value} (h : Fresh w v v') (h2 : Fresh w' v' v'') (hw : w.heap.size ≤ w'.heap.size) : Fresh w v v'' := fun k hk => by
  rcases h2 k hk with g | g
  · exact h k g
  · exact .inr (by omega)
theorem Mine.back {w : World} {p : Nat} {vC vS vC' vS' : Value} (hc : Fresh w vC vC') (hs : Fresh w vS vS') {k : Nat} (h : Mine p vC' vS' k) (hk : k < w.heap.size) : Mine p vC vS k := by
  rcases h with h | h | h
  · exact .inl h
  · rcases hc k h with g | g
    · exact .inr (.inl g)
    · omega
  · rcases hs k h with g | g
    · exact .inr (.inr g)
    · omega
theorem Apart.lits {n : Int} {D : List Int} (h : Apart n.toNat D) (h0 : 0 ≤ n) : D.all (litB n) = true := by
  rw [List.all_eq_true]
  intro l hl
  have := h.1 l hl
  obtain ⟨m, rfl⟩ : ∃ m : Nat, n = m := ⟨n.toNat, by omega⟩
  exact litB_iff.2 (by rw [Int.toNat_natCast] at this; exact this)
theorem lits_room {n : Int} {cl : List (List Int)} {D : List Int} (hk : chk n cl = 0) (h : D.all (litB n) = true) : ∀ l ∈ D, -9000 ≤ l ∧ l ≤ 9000 := fun l hl => by
  obtain ⟨N, rfl, hN, _⟩ := chk_zero hk
  have := litB_iff.1 (List.all_eq_true.1 h l hl)
  omega
/-- Between the two branches: w5 is the world ahead of them. -/
structure BrSt (Rb : Nat → Prop) (B : Nat) (w5 : World) (p : Nat) (n : Int) (base L : List (List Int)) (f : Int) (D : List Int) (v : Int) (vC vS : Value) (i : Nat) (wr : World) (fi : Int) (Li : List (List Int)) (vC' vS' vV' : Value) : Prop where
  sol : Sol Rb B wr p n base Li fi vC' vS' vV'
  chg : Chg (Mine p vC vS) w5 wr
  fc : Fresh w5 vC vC'
  fs : Fresh w5 vS vS'
  pos : 0 ≤ fi
  grow : ∃ M, Li = L ++ M ∧ (M.length : Int) + fi ≤ f - 1
  st0 : i = 0 → fi = f - 1 ∧ Li = L
  st1 : i = 1 → ∃ vs, BrLaw n base L (f - 1) (D ++ [v]) 2 fi Li vs
  st2 : i = 2 → ∃ f1 L1 vs1 vs2, BrLaw n base L (f - 1) (D ++ [v]) 2 f1 L1 vs1 ∧ BrLaw n base L1 f1 (D ++ [-v]) 2 fi Li vs2
theorem brSt_child {Rb : Nat → Prop} {B : Nat} {w w5 : World} {p : Nat} {n : Int} {base L : List (List Int)} {f : Int} {D a : List Int} {v : Int} {vC vS : Value} {i : Nat} {wr : World} {fi : Int} {Li : List (List Int)} {vC' vS' vV' : Value}
    (h : BrSt Rb B w5 p n base L f D v vC vS i wr fi Li vC' vS' vV') (hi : i < 2) {w7 : World} (hc7 : Chg No wr w7) {e : Ending} {w8 : World} (hb : BrPost Rb B w7 p n base Li fi (D ++ [if i = 0 then v else -v]) vC' vS' e w8)
    (h1 : 1 ≤ f) (ha : Fol n.toNat (base ++ L) D a) (h0 : v ≠ 0) (hv : v.natAbs ≤ n.toNat) (hz : val a v = 0) (hw : Chg (Mine p vC vS) w w5) :
    ∃ out, e = .returned (.int .i64 out) ∧ (out = 0 ∨ out = 1 ∨ out = 2) ∧ (out = 2 → ∃ fi' Li' vC2 vS2 vV2, BrSt Rb B w5 p n base L f D v vC vS (i + 1) w8 fi' Li' vC2 vS2 vV2) ∧ (out ≠ 2 → BrPost Rb B w p n base L f D vC vS e w8) := by
  obtain ⟨out, f', L', vs, vC2, vS2, vV2, rfl, hs, hc, hf1, hf2, hval, hbr⟩ := hb
  have z5 := hw.size
  have zr := h.chg.size
  have z7 := hc7.size
  have z8 := hc.size
  have hch : Chg (Mine p vC vS) w5 w8 := (h.chg.thenNo hc7).trans hc (fun k hk hlt => Mine.back h.fc h.fs hk hlt)
  have fc2 : Fresh w5 vC vC2 := h.fc.trans hf1 (by omega)
  have fs2 : Fresh w5 vS vS2 := h.fs.trans hf2 (by omega)
  have grow2 : ∃ M, L' = L ++ M ∧ (M.length : Int) + f' ≤ f - 1 := by
    obtain ⟨M, e1, hM⟩ := h.grow
    obtain ⟨M2, e2, hM2⟩ := hbr.grow
    exact ⟨M ++ M2, by rw [e2, e1, List.append_assoc], by rw [List.length_append]; push_cast; omega⟩
  refine ⟨out, rfl, hbr.out3, fun h2 => ?_, fun h2 => ?_⟩
  · subst h2
    refine ⟨f', L', vC2, vS2, vV2, hs, hch, fc2, fs2, hbr.ok (by decide), grow2, fun hh => absurd hh (Nat.succ_ne_zero i), fun hh => ?_, fun hh => ?_⟩
    · obtain rfl : i = 0 := by omega
      obtain ⟨e1, e2⟩ := h.st0 rfl
      subst e1; subst e2
      exact ⟨vs, hbr⟩
    · obtain rfl : i = 1 := by omega
      obtain ⟨vs1, hb1⟩ := h.st1 rfl
      exact ⟨fi, Li, vs1, vs, hb1, hbr⟩
  · refine ⟨out, f', L', vs, vC2, vS2, vV2, rfl, hs, hw.trans hch (fun k hk _ => hk), fun k hk => ?_, fun k hk => ?_, fun h1 => ?_, ?_⟩
    · rcases fc2 k hk with g | g
      · exact .inl g
      · exact .inr (by omega)
    · rcases fs2 k hk with g | g
      · exact .inl g
      · exact .inr (by omega)
    · obtain ⟨Av, cv, e1, hB⟩ := hval h1
      exact ⟨Av, cv, e1, hB.mono boolE_good (fun k _ (hk : w7.heap.size ≤ k) => show w.heap.size ≤ k by omega)⟩
    · rcases Nat.lt_or_ge i 1 with g | g
      · obtain rfl : i = 0 := by omega
        obtain ⟨e1, e2⟩ := h.st0 rfl
        subst e1; subst e2
        exact brLaw_first h1 ha h0 hv hz hbr h2
      · obtain rfl : i = 1 := by omega
        obtain ⟨vs1, hb1⟩ := h.st1 rfl
        exact brLaw_second h1 ha h0 hv hz hb1 hbr h2
theorem brSt_end {Rb : Nat → Prop} {B : Nat} {w w5 : World} {p : Nat} {n : Int} {base L : List (List Int)} {f : Int} {D a : List Int} {v : Int} {vC vS : Value} {wr : World} {fi : Int} {Li : List (List Int)} {vC' vS' vV' : Value}
    (h : BrSt Rb B w5 p n base L f D v vC vS 2 wr fi Li vC' vS' vV') {w9 : World} {vC2 vS2 : Value} (hs : Sol Rb B w9 p n base (Li ++ [negL D]) fi vC2 vS2 vV') (hc : Chg (Mine p vC' vS') wr w9) (hf1 : Fresh wr vC' vC2) (hf2 : Fresh wr vS' vS2)
    (h1 : 1 ≤ f) (ha : Fol n.toNat (base ++ L) D a) (h0 : v ≠ 0) (hv : v.natAbs ≤ n.toNat) (hz : val a v = 0) (hw : Chg (Mine p vC vS) w w5) : BrPost Rb B w p n base L f D vC vS (.returned (.int .i64 2)) w9 := by
  obtain ⟨f1, L1, vs1, vs2, hb1, hb2⟩ := h.st2 rfl
  have z5 := hw.size
  have zr := h.chg.size
  have hch : Chg (Mine p vC vS) w5 w9 := h.chg.trans hc (fun k hk hlt => Mine.back h.fc h.fs hk hlt)
  have fc2 : Fresh w5 vC vC2 := h.fc.trans hf1 (by omega)
  have fs2 : Fresh w5 vS vS2 := h.fs.trans hf2 (by omega)
  refine ⟨2, fi, _, [], vC2, vS2, vV', rfl, hs, hw.trans hch (fun k hk _ => hk), fun k hk => ?_, fun k hk => ?_, (fun h1 => by cases h1), brLaw_both h1 ha h0 hv hz hb1 hb2⟩
  · rcases fc2 k hk with g | g
    · exact .inl g
    · exact .inr (by omega)
  · rcases fs2 k hk with g | g
    · exact .inl g
    · exact .inr (by omega)
end Go.Proofs.Ytiklknilnmkbmaa
