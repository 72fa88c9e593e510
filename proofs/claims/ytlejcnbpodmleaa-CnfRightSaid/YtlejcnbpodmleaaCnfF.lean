/-
  The maker's literal.
-/
import Derived.Test.YtlejcnbpodmleaaCnfE
import Derived.Test.YtlejcnbpodmleaaOwnRows
import Derived.Deep.RegionLaw
namespace Go.Proofs.Ytlejcnbpodmleaa
open Go Go.RowKit

theorem intsTyC : SliceTy Try.prog 47 3 1 8 (.int .i64 0) := ⟨Try.underlying47, by kernel_rfl, rfl, by decide, by decide⟩
theorem rowsTyC : SliceTy Try.prog 31 47 1 24 (.slice none 0 0) := ⟨Try.underlying31, by kernel_rfl, rfl, by decide, by decide⟩
/-- Such a thing, in a block that may be written. -/
def WrE {α : Type} (E : Elem α) : Elem α := ⟨E.bytes, E.pos, fun R w b o x => E R w b o x ∧ ∀ j, w.frozen? ⟨b, j, none⟩ = false⟩
theorem frozen_of_heap {w w' : World} {b j : Nat} (h : w'.heap[b]? = w.heap[b]?) : w'.frozen? ⟨b, j, none⟩ = w.frozen? ⟨b, j, none⟩ := by simp [World.frozen?, h]
theorem wrE_good {α : Type} {E : Elem α} (g : E.Good) : (WrE E).Good where
  stay := fun h hs => ⟨g.stay h.1 hs, fun j => (frozen_of_heap (hs _ (g.lies h.1).1 (g.lies h.1).2)).trans (h.2 j)⟩
  mono := fun h hm => ⟨g.mono h.1 hm, h.2⟩
  lies := fun h => g.lies h.1
theorem Sl.wr {α : Type} {E : Elem α} {sz cap : Nat} {R : Nat → Prop} {w : World} {A : Option Addr} {l : List α} (h : Sl E sz R w A l cap) (hf : ∀ g o, A = some ⟨g, o, none⟩ → ∀ j, w.frozen? ⟨g, j, none⟩ = false) : Sl (WrE E) sz R w A l cap :=
  ⟨h.le, h.max, h.room, h.nil, fun i hi => let ⟨b, o, e, x⟩ := h.at_ i hi; ⟨b, o, e, x, hf b o e⟩⟩
theorem Sl.unwr {α : Type} {E : Elem α} {sz cap : Nat} {R : Nat → Prop} {w : World} {A : Option Addr} {l : List α} (h : Sl (WrE E) sz R w A l cap) : Sl E sz R w A l cap :=
  ⟨h.le, h.max, h.room, h.nil, fun i hi => let ⟨b, o, e, x⟩ := h.at_ i hi; ⟨b, o, e, x.1⟩⟩
theorem Own.frozen {M : Nat → Prop} {e : TypeId} {sz n n' cap : Nat} {w : World} {A : Option Addr} {xs : List Value} (h : Own M e sz w (.slice A n cap) n' xs) : ∀ g o, A = some ⟨g, o, none⟩ → ∀ j, w.frozen? ⟨g, j, none⟩ = false := fun g o e j => by
  subst e
  rcases h.2 with ⟨e, _⟩ | ⟨g', o', cap', cur, e, _, hg, _⟩
  · cases e
  · injection e with e1
    injection e1 with e1
    injection e1 with e1
    subst e1
    simp [World.frozen?, hg]
theorem block_frozen {w : World} {b : Nat} {cs : Array Value} {t : TypeId} (h : w.heap[b]? = some (.cells cs t (0, 0))) : ∀ g o, (some ⟨b, 0, none⟩ : Option Addr) = some ⟨g, o, none⟩ → ∀ j, w.frozen? ⟨g, j, none⟩ = false := fun g o e j => by
  injection e with e
  injection e with e1
  subst e1
  simp [World.frozen?, h]
theorem intsW_of_block {R : Nat → Prop} {w : World} {b : Nat} {l : List Int} {e : TypeId} (h : w.heap[b]? = some (.cells (l.map (Value.int .i64)).toArray e (0, 0))) (hR : R b) (hl : l.length * 8 ≤ big) (hi : ∀ x ∈ l, I64 x) :
    Sl (WrE IntE) 1 R w (some ⟨b, 0, none⟩) l l.length := (ints_of_block h hR hl hi).wr (block_frozen h)
theorem Own.intsW {M : Nat → Prop} {e : TypeId} {w : World} {v : Value} {l : List Int} (h : Own M e 1 w v l.length (l.map (Value.int .i64))) (hl : l.length * 8 ≤ big) (hi : ∀ x ∈ l, I64 x) : ∃ A cap, v = .slice A l.length cap ∧ Sl (WrE IntE) 1 M w A l cap := by
  obtain ⟨A, cap, e, hs⟩ := h.ints hl hi
  subst e
  exact ⟨A, cap, rfl, hs.wr h.frozen⟩
abbrev rowV : ElV (List Int) := slV (WrE IntE) 1
theorem rowV_good : rowV.Good := slV_good (wrE_good intE_good) 1
theorem row_of {R : Nat → Prop} {w : World} {A : Option Addr} {l : List Int} {n cap : Nat} (hn : n = l.length) (h : Sl (WrE IntE) 1 R w A l cap) : rowV R w [.slice A n cap] l := by
  subst hn; exact ⟨A, cap, rfl, h⟩
/-- The clauses that are made: outside what X tells of. -/
abbrev ORows (X : Nat → Prop) (w : World) (v : Value) (l : List (List Int)) : Prop := OwnL rowV 47 (fun k => ¬ X k) (fun k => ¬ X k) w v l
theorem ORows.after {X X' S : Nat → Prop} {w w' : World} {v : Value} {l : List (List Int)} (h : ORows X w v l) (c : Chg S w w') (hS : ∀ k, k < w.heap.size → S k → X k) (hX : ∀ k, X' k → X k ∨ w.heap.size ≤ k) : ORows X' w' v l := by
  have h1 := h.mono rowV_good (M' := fun k => ¬ X k ∧ k < w.heap.size) (R' := fun k => ¬ X k ∧ k < w.heap.size) (fun k hk g => ⟨g, hk⟩) (fun k hk g => ⟨g, hk⟩)
  have h2 := h1.chg rowV_good c (fun k hk hs => by have := (h1.mine k hk).1; exact this.1 (hS k this.2 hs)) (fun k hk _ hs => hk.1 (hS k hk.2 hs))
  exact h2.mono rowV_good (fun k _ g g' => (hX k g').elim g.1 (fun e => by have := g.2; omega)) (fun k _ g g' => (hX k g').elim g.1 (fun e => by have := g.2; omega))
theorem OInts.keep {e : TypeId} {M S : Nat → Prop} {w w' : World} {v : Value} {l : List Int} (h : OInts e M w v l) (c : Chg S w w') (hd : ∀ k, v.ownBlock = some k → ¬ S k) : OInts e M w' v l := ⟨h.1.chg c hd, h.2⟩
theorem OInts.to {e : TypeId} {M M' : Nat → Prop} {w : World} {v : Value} {l : List Int} (h : OInts e M w v l) (hm : ∀ k, v.ownBlock = some k → k < w.heap.size → M' k) : OInts e M' w v l := by
  have h1 : OInts e (fun k => v.ownBlock = some k) w v l := by
    refine ⟨⟨h.1.1, ?_⟩, h.2⟩
    rcases h.1.2 with h0 | ⟨g, o, cap, cur, e1, hg, rest⟩
    · exact .inl h0
    · exact .inr ⟨g, o, cap, cur, e1, by subst e1; rfl, rest⟩
  exact ⟨h1.1.mono (fun k hk g => hm k g hk), h.2⟩
theorem litF_succ (n : Nat) (f : FT (n + 1)) (A : List Lin) (N : Int) (out : List (List Int)) : litF (n + 1) f A N out =
    if Node.kind f = 2 then (N, out, atI A (Node.lin f))
    else if Node.kind f = 4 then
      match Node.kids f with
      | [] => (N, out, 0)
      | k :: _ => ((litF n k A N out).1, (litF n k A N out).2.1, -(litF n k A N out).2.2)
    else ((litL n A (Node.kids f) (N, out, [])).1 + 1, (litL n A (Node.kids f) (N, out, [])).2.1 ++ gate (Node.kind f) ((litL n A (Node.kids f) (N, out, [])).1 + 1) (litL n A (Node.kids f) (N, out, [])).2.2, (litL n A (Node.kids f) (N, out, [])).1 + 1) := rfl
theorem lit_full {n : Nat} {A : List Lin} {f : FT (n + 1)} {N : Int} {out : List (List Int)} (h2 : Node.kind f ≠ 2) (h4 : Node.kind f ≠ 4) :
    litF (n + 1) f A N out = ((litL n A (Node.kids f) (N, out, [])).1 + 1, (litL n A (Node.kids f) (N, out, [])).2.1 ++ gate (Node.kind f) ((litL n A (Node.kids f) (N, out, [])).1 + 1) (litL n A (Node.kids f) (N, out, [])).2.2, (litL n A (Node.kids f) (N, out, [])).1 + 1) := by
  rw [litF_succ, if_neg h2, if_neg h4]
theorem lit_not {n : Nat} {A : List Lin} {f : FT (n + 1)} {N : Int} {out : List (List Int)} (h4 : Node.kind f = 4) (hl : (Node.kids f).length = 1) (hlt : 0 < (Node.kids f).length) :
    litF (n + 1) f A N out = ((litF n (Node.kids f)[0] A N out).1, (litF n (Node.kids f)[0] A N out).2.1, -(litF n (Node.kids f)[0] A N out).2.2) ∧ cntF n (Node.kids f)[0] + 1 = cntF (n + 1) f := by
  rw [litF_succ, if_neg (by omega), if_pos h4, show cntF (n + 1) f = 1 + ((Node.kids f).map (cntF n)).sum from rfl]
  revert hlt hl
  generalize Node.kids f = ks
  intro hl hlt
  match ks, hl with
  | [k], _ => exact ⟨rfl, by simp; omega⟩

section
variable {P : Program} {α : Type} {V : ElV α} {t e : TypeId} {z : Value} {ops : Array Oper} {rest : List Oper} {o : Oper} {act : Act} {Q : Exit → Act → World → Prop}
/-- append(s, x), the block of the one element by its number. -/
theorem wpList_pushL' (g : V.Good) (T : SliceTy P t e V.sz V.bytes z) (hgd : o.guard = none) (s xo : Operand)
    (ho : o.op = .call { callee := .builtin .append, args := #[s, xo], argTypes := #[t, t] })
    {M R : Nat → Prop} {w : World} (hM : ∀ k, w.heap.size ≤ k → M k) {v : Value} {l : List α} (hown : OwnL V e M R w v l) (hs : act.eval s = v)
    {x : α} {cs : List Value} (hx : V (fun k => R k ∧ v.ownBlock ≠ some k) w cs x) (h1 : ∀ u ∈ cs, u.oneCell' = true) {e' : TypeId} {p : Nat} (hp : w.heap.size = p) (hxo : act.eval xo = .slice (some ⟨p, 0, none⟩) 1 1) (hbytes : (l.length + 1) * V.bytes ≤ 140737488355328)
    (h : ∀ A cap w', OwnL V e M R w' (.slice A (l.length + 1) cap) (l ++ [x]) → Chg (fun k => v.ownBlock = some k) w w' → wpList P ops Q rest (act.put o.dst (.slice A (l.length + 1) cap)) w') :
    wpList P ops Q (o :: rest) act (w.alloc (.cells cs.toArray e')) := by
  subst hp
  exact wpList_pushL g T hgd s xo ho hM hown hs hx h1 hxo hbytes h
theorem wpList_push_int' (T : SliceTy P t e 1 8 z) (hgd : o.guard = none) (s xo : Operand)
    (ho : o.op = .call { callee := .builtin .append, args := #[s, xo], argTypes := #[t, t] })
    {M : Nat → Prop} {w : World} (hM : ∀ k, w.heap.size ≤ k → M k) {v : Value} {l : List Int} (hown : OInts e M w v l) (hs : act.eval s = v)
    {x : Int} {e' : TypeId} {p : Nat} (hp : w.heap.size = p) (hx : act.eval xo = .slice (some ⟨p, 0, none⟩) 1 1) (hok : I64 x) (hbytes : (l.length + 1) * 8 ≤ 140737488355328)
    (h : ∀ A cap w', OInts e M w' (.slice A (l.length + 1) cap) (l ++ [x]) → Chg (fun k => v.ownBlock = some k) w w' → wpList P ops Q rest (act.put o.dst (.slice A (l.length + 1) cap)) w') :
    wpList P ops Q (o :: rest) act (w.alloc (.cells #[.int .i64 x] e')) := by
  subst hp
  exact wpList_push_int T hgd s xo ho hM hown hs hx hok hbytes h
theorem size_set (w : World) (a : Addr) (u : Value) : (w.setCell a u).heap.size = w.heap.size := by simp [World.setCell]
end

/-- A kid's literal in the clauses of a part. -/
def sgn (neg : Bool) (k : Int) : Int := if neg then -k else k
def isNeg (kd : Int) : Bool := decide (kd = 6) || decide (kd = 1)
theorem gate_eq (kd v : Int) (L : List Int) : gate kd v L = L.map (fun k => [-(sgn (isNeg kd) v), sgn (isNeg kd) k]) ++ [sgn (isNeg kd) v :: L.map (fun k => -(sgn (isNeg kd) k))] := by
  unfold gate isNeg sgn
  by_cases h : kd = 6 ∨ kd = 1
  · have e : (decide (kd = 6) || decide (kd = 1)) = true := by simpa using h
    rw [if_pos h, e]
    simp
  · have e : (decide (kd = 6) || decide (kd = 1)) = false := by simp; omega
    rw [if_neg h, e]
    simp

def LitsOk (n : Nat) : Prop := ∀ (f : FT n) (X : Nat → Prop) (mb : Nat) (w : World) (cs : List Value), (formV n) (St9 X mb) w cs f → onlyF n f = true → X mb → (∀ k, X k → k < w.heap.size) →
  ∀ (A : List Lin) (AA : Option Addr) (capA : Nat), Lins (St9 X mb) w AA A capA → ∀ (N : Int) (v : Value) (out : List (List Int)) (vL : Value),
    w.heap[mb]? = some (.cells #[.int .i64 N, .slice AA A.length capA, v, vL] 61 (0, 0)) → ORows X w v out → A.length ≤ N → N + cntF n f ≤ 100000 → out.length + 2 * cntF n f ≤ 300000 →
    Calls Try.prog 23 #[.pointer (some ⟨mb, 0, none⟩), .agg cs.toArray] w fun e w' => ∃ v', e = .returned (.int .i64 (litF n f A N out).2.2) ∧
      w'.heap[mb]? = some (.cells #[.int .i64 (litF n f A N out).1, .slice AA A.length capA, v', vL] 61 (0, 0)) ∧ ORows X w' v' (litF n f A N out).2.1 ∧ Chg (Mk X mb) w w'

theorem ElV.of_st {α : Type} {V : ElV α} (g : V.Good) {R R' : Nat → Prop} {w : World} {cs : List Value} {x : α} (h : V R w cs x) (hm : ∀ k, R k → R' k) : V R' w cs x := g.mono h (fun k _ hk => hm k hk)
/-- What the first loop holds. -/
structure Lp1 (X1 : Nat → Prop) (mb : Nat) (w3 : World) (AA : Option Addr) (la capA : Nat) (vL : Value) (r : Int × List (List Int) × List Int) (vK vC : Value) (w : World) : Prop where
  obj : w.heap[mb]? = some (.cells #[.int .i64 r.1, .slice AA la capA, vC, vL] 61 (0, 0))
  rows : ORows (fun k => X1 k ∨ vK.ownBlock = some k) w vC r.2.1
  kids : OInts 3 (fun k => ¬ X1 k) w vK r.2.2
  chg : Chg (Mk X1 mb) w3 w

set_option maxRecDepth 100000 in
set_option maxHeartbeats 4000000 in
theorem lit_step (n : Nat) (IH : Hid (LitsOk n)) : LitsOk (n + 1) := by
    rintro f X mb w cs h hon hX hXs At AA capA hAt N v out vL hobj hown hAN hN hout
    have hR := litF_range At (n + 1) f hon N out hAN
    obtain ⟨A, cap, B, capk, rfl, i1, i2, hm, hk⟩ := node_cells h
    obtain ⟨hok, hkids⟩ := only_kids hon
    have hcnt : cntF (n + 1) f = 1 + ((Node.kids f).map (cntF n)).sum := rfl
    have hb1 := hm.big
    have hb2 := hk.big
    unfold big at hb1 hb2
    have hmbs : mb < w.heap.size := hXs mb hX
    obtain ⟨w3, hw3⟩ : ∃ w3, w3 = w.alloc (.cells #[.int .i64 (Node.kind f), .int .i64 (Node.lin f).1, .slice A (Node.lin f).2.length cap, .slice B (Node.kids f).length capk] 27) := ⟨_, rfl⟩
    have h3 : Hid (Chg No w w3 ∧ w3.heap[w.heap.size]? = some (.cells #[.int .i64 (Node.kind f), .int .i64 (Node.lin f).1, .slice A (Node.lin f).2.length cap, .slice B (Node.kids f).length capk] 27 (0, 0)) ∧ w3.heap[mb]? = some (.cells #[.int .i64 N, .slice AA At.length capA, v, vL] 61 (0, 0))) := by
      rw [hw3]; exact ⟨(Chg.refl _ _).alloc _, heap_alloc_new _ _, ((Chg.refl No w).alloc _).obj hobj id⟩
    have HW3 := Lib.hid hw3
    clear hw3
    by_cases hk2 : Node.kind f = 2
    · have hlit : litF (n + 1) f At N out = (N, out, atI At (Node.lin f)) := by unfold litF; rw [if_pos hk2]
      rw [hlit]
      have HAt := Lib.hid (atom_any (a := Node.lin f) (hAt.no linE_good h3.out.1) (hm.no monoE_good h3.out.1) mb h3.out.2.2)
      have HS1 := Lib.hid (hown.no rowV_good h3.out.1)
      clear hR hAt hlit hk hkids hown hobj hX hXs h hm IH
      rw [hk2] at h3 HW3 ⊢
      generalize atI At (Node.lin f) = ai at *
      generalize Node.lin f = lin at *
      generalize Node.kids f = ks at *
      obtain ⟨c, t⟩ := lin
      simp only at hb1 i2 h3 HW3 HAt ⊢
      go_enter Try.func23, Try.ntmps23
      go_upto_region 1 with fail
      rw [← HW3.out]
      obtain ⟨p0, p1, p2, p3⟩ := obj_four h3.out.2.1
      go_wp2_with (go_at_call 43; refine HAt.out.mono ?_; rintro e w4 ⟨rfl, h4⟩)
      go_ret
      exact ⟨v, rfl, h4.obj h3.out.2.2 id, HS1.out.no rowV_good h4, (h3.out.1.thenNo h4).no⟩
    by_cases hk4 : Node.kind f = 4
    · have hl := only_not hok hk4
      have hlt : 0 < (Node.kids f).length := by omega
      obtain ⟨hlit, hc1⟩ := lit_not (A := At) (N := N) (out := out) hk4 hl hlt
      have hkr := litF_range At n (Node.kids f)[0] (hkids _ (List.getElem_mem hlt)) N out hAN
      rw [hlit]
      obtain ⟨b, o, v0, v1, v2, v3, rfl, hv, x0, x1, x2, x3⟩ := forms_at (hk.no (formE_good n) h3.out.1) 0 hlt
      obtain ⟨kd', c', A', tl', cap', B', kl', capk', ev⟩ := form_shape hv
      cases ev
      simp only [Nat.zero_mul, Nat.add_zero] at x0 x1 x2 x3
      have HI := Lib.hid (IH.out (Node.kids f)[0] X mb w3 _ hv (hkids _ (List.getElem_mem hlt)) hX (fun k hk => Nat.lt_of_lt_of_le (hXs k hk) h3.out.1.size) At AA capA (hAt.no linE_good h3.out.1) N v out vL h3.out.2.2 (hown.no rowV_good h3.out.1) hAN (by omega) (by omega))
      rw [hk4] at h3 HW3 ⊢
      have j1 : (0 : Int) < ((Node.kids f).length : Int) := by omega
      generalize litF n (Node.kids f)[0] At N out = r at *
      have r1 : -100000 ≤ r.2.2 := by omega
      have r2 : r.2.2 ≤ 100000 := by omega
      clear hR hAt hlit hk hkids hown hobj hX hXs h hm IH hkr hc1 hv hlt hl hk4 hk2
      generalize (Node.lin f).1 = c at *
      generalize (Node.lin f).2 = t at *
      generalize (Node.kids f).length = kl at *
      go_enter Try.func23, Try.ntmps23
      go_upto_region 1 with fail
      rw [← HW3.out]
      obtain ⟨p0, p1, p2, p3⟩ := obj_four h3.out.2.1
      obtain ⟨rN, rO, rK⟩ := r
      simp only at r1 r2 HI ⊢
      go_wp2_with (go_at_call 23; refine HI.out.mono ?_; rintro e w4 ⟨v4, rfl, h4⟩; have H4 := Lib.hid h4; clear h4)
      go_ret
      exact ⟨rfl, v4, H4.out.1, H4.out.2.1, h3.out.1.no.trans H4.out.2.2 (fun k hk _ => hk)⟩
    have h01 := only_kind hok
    have hrec : ∀ i (hi : i < (Node.kids f).length), N ≤ (litL n At ((Node.kids f).take i) (N, out, [])).1 ∧ (litL n At ((Node.kids f).take i) (N, out, [])).1 + cntF n (Node.kids f)[i] + 1 ≤ 100000 ∧ (litL n At ((Node.kids f).take i) (N, out, [])).2.1.length + 2 * cntF n (Node.kids f)[i] ≤ 300000 ∧ (litL n At ((Node.kids f).take i) (N, out, [])).2.2.length = i ∧ -100000 ≤ (litL n At ((Node.kids f).take (i + 1)) (N, out, [])).1 ∧ ∀ x ∈ (litL n At ((Node.kids f).take (i + 1)) (N, out, [])).2.2, -100000 ≤ x ∧ x ≤ 100000 := fun i hi => by
      have ih : ∀ k ∈ Node.kids f, LitR At n k := fun k hk => litF_range At n k (hkids k hk)
      have r0 := litL_range ((Node.kids f).take i) (N, out, []) (fun k hk => ih k (List.mem_of_mem_take hk)) hAN (by simp)
      have r1 := litL_range ((Node.kids f).take (i + 1)) (N, out, []) (fun k hk => ih k (List.mem_of_mem_take hk)) hAN (by simp)
      have hs := sum_take (cntF n) (Node.kids f) i hi
      have hs2 : (((Node.kids f).take (i + 1)).map (cntF n)).sum = (((Node.kids f).take i).map (cntF n)).sum + cntF n (Node.kids f)[i] := by
        rw [List.take_succ_eq_append_getElem hi, List.map_append, List.sum_append]; simp
      simp only [List.length_take, List.length_nil, Nat.zero_add] at r0 r1
      refine ⟨r0.1, by omega, by omega, by rw [r0.2.2.2.1]; omega, by omega, fun x hx => ?_⟩
      have := r1.2.2.2.2 x hx
      omega
    have hend := litL_range (Node.kids f) (N, out, []) (fun k hk => litF_range At n k (hkids k hk)) hAN (by simp)
    have hlen := sum_cnt_len (Node.kids f) hkids
    rw [lit_full hk2 hk4, gate_eq]
    obtain ⟨r, hr⟩ : ∃ r, r = litL n At (Node.kids f) (N, out, []) := ⟨_, rfl⟩
    obtain ⟨neg, hneg⟩ : ∃ neg, neg = isNeg (Node.kind f) := ⟨_, rfl⟩
    obtain ⟨rN, rO, rK⟩ := r
    rw [← hr] at hend ⊢
    rw [← hneg]
    obtain ⟨sv, hsv⟩ : ∃ sv, sv = sgn neg (rN + 1) := ⟨_, rfl⟩
    simp only
    rw [← hsv]
    have HRR := Lib.hid hr
    have HNEG := Lib.hid hneg
    have HSV := Lib.hid hsv
    clear hr hneg hsv
    have hkd : (Node.kind f == 2) = false ∧ (Node.kind f == 4) = false := ⟨by simpa using hk2, by simpa using hk4⟩
    clear hR h hm hon hok
    have HX1 : Hid (∃ X1 : Nat → Prop, (∀ k, X1 k ↔ X k ∨ k = w.heap.size)) := ⟨fun k => X k ∨ k = w.heap.size, fun k => Iff.rfl⟩
    obtain ⟨X1, hX1⟩ := HX1.out
    have HX1 := Lib.hid hX1
    have hsz : Hid (w.heap.size < w3.heap.size) := (Array.getElem?_eq_some_iff.1 h3.out.2.1).1
    have HX1s : Hid (∀ k, X1 k → k < w3.heap.size) := fun k hk => by
      have h1 := h3.out.1.size
      have h2 := hsz.out
      rcases (hX1 k).1 hk with h | h
      · have := hXs k h; omega
      · omega
    have hXmb : X1 mb := (hX1 mb).2 (.inl hX)
    have hXne : ¬ (mb = w.heap.size) := by omega
    have HXmb := Lib.hid (And.intro hXmb hXne)
    have hst01 : ∀ k, St9 X mb k → St9 X1 mb k := fun k h => ⟨(hX1 k).2 (.inl h.1), h.2⟩
    have hstart : Hid (Lp1 X1 mb w3 AA At.length capA vL (litL n At ((Node.kids f).take 0) (N, out, [])) (.slice none 0 0) v w3) := by
      refine ⟨h3.out.2.2, ?_, OInts.nil _ _ _, Chg.refl _ _⟩
      exact hown.after h3.out.1 (fun _ _ g => g.elim) (fun k hk => by
        rcases hk with hk | hk
        · rcases (hX1 k).1 hk with g | g
          · exact .inl g
          · exact .inr (by omega)
        · simp [Value.ownBlock] at hk)
    have HKi2 : Hid (∀ W, Chg (Mk X1 mb) w3 W → Forms (St9 X1 mb) W B (Node.kids f) capk) := fun W hW =>
      ((hk.no (formE_good n) h3.out.1).mono (formE_good n) (fun k _ h => hst01 k h)).chg (formE_good n) hW st_mk
    have HA2 : Hid (∀ W, Chg (Mk X1 mb) w3 W → Lins (St9 X1 mb) W AA At capA) := fun W hW =>
      ((hAt.no linE_good h3.out.1).mono linE_good (fun k _ h => hst01 k h)).chg linE_good hW st_mk
    have HBX : Hid (∀ W, Chg (Mk X1 mb) w3 W → W.cell? ⟨w.heap.size, 0, none⟩ = some (.int .i64 (Node.kind f))) := fun W hW =>
      hW.cell (obj_four h3.out.2.1).1 (fun g => g.elim (fun e => hXne e.symm) (fun g => g ((hX1 _).2 (.inr rfl))))
    have HKd := Lib.hid hkids
    have HREC := Lib.hid hrec
    have HEND := Lib.hid hend
    have HLEN := Lib.hid hlen
    have HCN := Lib.hid hcnt
    have HN := Lib.hid (And.intro hN hout)
    have HAN := Lib.hid hAN
    have h01' := Lib.hid h01
    clear hX1 hXmb hXne hst01 hown hobj hX hXs hAt hk hkids hrec hend hlen hcnt hk2 hk4 hN hout hAN h01
    obtain ⟨e2, e4⟩ := hkd
    generalize Node.kind f = kd at *
    generalize (Node.lin f).1 = c at *
    generalize (Node.lin f).2 = t at *
    generalize Node.kids f = ks at *
    have hksl : ks.length ≤ 100000 := by have := HLEN.out; have := HCN.out; have := HN.out.1; have := HAN.out; omega
    go_enter Try.func23, Try.ntmps23
    go_upto_region 1 with fail
    rw [← HW3.out]
    clear HW3
    obtain ⟨p0, p1, p2, p3⟩ := obj_four h3.out.2.1
    go_wp2_with fail
    go_loopw [5, 32] (fun s5 s32 wr => ∃ (i : Nat) (vK vC : Value), vK = s5 ∧ s32 = .int .i64 i ∧ i ≤ ks.length ∧ Hid (Lp1 X1 mb w3 AA At.length capA vL (litL n At (ks.take i) (N, out, [])) vK vC wr)) (fun _ s32 _ => ks.length - (intOf s32).toNat)
    case atStart => exact ⟨0, _, v, rfl, rfl, Nat.zero_le _, hstart⟩
    case round =>
      obtain ⟨i, vK, vC, rfl, rfl, gi, hst⟩ := hrel
      clear hstart
      by_cases hlt : i < ks.length
      · obtain ⟨b, o, v0, v1, v2, v3, rfl, hv, x0, x1, x2, x3⟩ := forms_at (HKi2.out wr hst.out.chg) i hlt
        obtain ⟨kd', c', A', tl', cap', B', kl', capk', ev⟩ := form_shape hv
        cases ev
        have i0 : (0 : Int) ≤ (i : Int) := by omega
        have i1 : (i : Int) < (ks.length : Int) := by omega
        obtain ⟨q1, q2, q3, q4, q5, q6⟩ := HREC.out i hlt
        have HG := Lib.hid (litL_take (A := At) (s := (N, out, [])) hlt)
        have HT6 := Lib.hid q6
        generalize hgr : litL n At (ks.take (i + 1)) (N, out, []) = r' at *
        have HGR := Lib.hid hgr
        clear hgr
        generalize litL n At (ks.take i) (N, out, []) = r at *
        have HI : Hid (∀ W, Chg No wr W → Calls Try.prog 23 #[.pointer (some ⟨mb, 0, none⟩), .agg #[.int .i64 kd', .int .i64 c', .slice A' tl' cap', .slice B' kl' capk']] W fun e w' => ∃ v', e = .returned (.int .i64 (litF n ks[i] At r.1 r.2.1).2.2) ∧
            Hid (w'.heap[mb]? = some (.cells #[.int .i64 (litF n ks[i] At r.1 r.2.1).1, .slice AA At.length capA, v', vL] 61 (0, 0)) ∧ ORows (fun k => X1 k ∨ vK.ownBlock = some k) w' v' (litF n ks[i] At r.1 r.2.1).2.1 ∧ Chg (Mk X1 mb) w3 w' ∧ OInts 3 (fun k => ¬ X1 k) w' vK r.2.2)) := fun W hW => by
          have hXK : ∀ k, vK.ownBlock = some k → ¬ X1 k ∧ k < wr.heap.size := fun k hk => hst.out.kids.mine k hk
          have hst' : ∀ k, St9 X1 mb k → St9 (fun k => X1 k ∨ vK.ownBlock = some k) mb k := fun k h => ⟨.inl h.1, h.2⟩
          have hr1 := hst.out.chg.size
          refine (IH.out ks[i] (fun k => X1 k ∨ vK.ownBlock = some k) mb W _ (ElV.of_st (formV_good n) ((formV_good n).no hv hW) hst') (HKd.out _ (List.getElem_mem hlt)) (.inl HXmb.out.1) (fun k hk => ?_) At AA capA (((HA2.out wr hst.out.chg).no linE_good hW).mono linE_good (fun k _ h => hst' k h)) r.1 vC r.2.1 vL (hW.obj hst.out.obj id) (hst.out.rows.no rowV_good hW) (by have := HAN.out; omega) (by omega) (by omega)).mono ?_
          · have := hW.size
            rcases hk with hk | hk
            · have := HX1s.out k hk; omega
            · have := (hXK k hk).2; omega
          · rintro e w' ⟨v', rfl, g1, g2, g3⟩
            have hc : Chg (Mk (fun k => X1 k ∨ vK.ownBlock = some k) mb) wr w' := (hW.no).trans g3 (fun k hk _ => hk)
            refine ⟨v', rfl, g1, g2, hst.out.chg.trans hc (fun k hk _ => hk.elim .inl (fun h => .inr (fun g => h (.inl g)))), hst.out.kids.keep hc (fun k hk g => ?_)⟩
            rcases g with g | g
            · exact (hXK k hk).1 (by rw [g]; exact HXmb.out.1)
            · exact g (.inr hk)
        generalize litF n ks[i] At r.1 r.2.1 = s at *
        have hs2 : -100000 ≤ s.2.2 ∧ s.2.2 ≤ 100000 := q6 s.2.2 (by rw [HG.out]; simp)
        have HP : Hid (∀ w5 v5 A7 cap7 w7, Hid (w5.heap[mb]? = some (.cells #[.int .i64 s.1, .slice AA At.length capA, v5, vL] 61 (0, 0)) ∧ ORows (fun k => X1 k ∨ vK.ownBlock = some k) w5 v5 s.2.1 ∧ Chg (Mk X1 mb) w3 w5 ∧ OInts 3 (fun k => ¬ X1 k) w5 vK r.2.2) →
            OInts 3 (fun k => vK.ownBlock = some k ∨ w5.heap.size ≤ k) w7 (.slice A7 (r.2.2.length + 1) cap7) (r.2.2 ++ [s.2.2]) → Chg (fun k => vK.ownBlock = some k) w5 w7 → Hid (Lp1 X1 mb w3 AA At.length capA vL r' (.slice A7 (r.2.2.length + 1) cap7) v5 w7)) := by
          rintro w5 v5 A7 cap7 w7 ⟨g1, g2, g3, g4⟩ h1 h2
          rw [HG.out]
          have hXK : ∀ k, vK.ownBlock = some k → ¬ X1 k := fun k hk => (g4.mine k hk).1
          have h5 := g3.size
          refine ⟨h2.obj g1 (fun g => hXK mb g HXmb.out.1), g2.after h2 (fun k _ g => .inr g) (fun k hk => ?_), h1.to (fun k hk _ g => ?_), g3.trans h2 (fun k hk _ => .inr (hXK k hk))⟩
          · rcases hk with hk | hk
            · exact .inl (.inl hk)
            · exact ((h1.mine k hk).1).elim (fun g => .inl (.inr g)) .inr
          · rcases (h1.mine k hk).1 with g' | g'
            · exact hXK k g' g
            · have := HX1s.out k g; omega
        have HK : Hid (∀ w5 v5, Hid (w5.heap[mb]? = some (.cells #[.int .i64 s.1, .slice AA At.length capA, v5, vL] 61 (0, 0)) ∧ ORows (fun k => X1 k ∨ vK.ownBlock = some k) w5 v5 s.2.1 ∧ Chg (Mk X1 mb) w3 w5 ∧ OInts 3 (fun k => ¬ X1 k) w5 vK r.2.2) → OInts 3 (fun k => vK.ownBlock = some k ∨ w5.heap.size ≤ k) w5 vK r.2.2) :=
          fun w5 v5 h => h.2.2.2.to (fun k hk _ => .inl hk)
        obtain ⟨sN, sO, sK⟩ := s
        simp only at hs2 HI HP HK
        have hrl : r.2.2.length ≤ 100000 := by omega
        clear hv IH hst HREC HX1s HA2 HKi2 HG q1 q2 q3 q4 q5 q6 HT6
        go_wp2_with (first
          | (go_at_call 23; refine (HI.out _ ((Chg.refl _ _).alloc _)).mono ?_; rintro e w5 ⟨v5, rfl, h5⟩)
          | (at_builtin; (refine wpList_push_int intsTyC rfl (.tmp 36) (.tmp 40) rfl (M := fun k => vK.ownBlock = some k ∨ w5.heap.size ≤ k) (w := w5) (fun k hk => .inr hk) (HK.out w5 v5 h5) rfl rfl (I64.of (by omega) (by omega)) (by omega) ?_); intro A7 cap7 w7 g1 g2; have h7 := HP.out w5 v5 A7 cap7 w7 h5 g1 g2; clear g1 g2))
        go_roundw
        case rel => exact ⟨i + 1, _, v5, rfl, by go_num, hlt, by rw [HGR.out]; exact h7⟩
        case measure => simp [intOf]; omega
      · obtain rfl : i = ks.length := by omega
        rw [List.take_of_length_le (Nat.le_refl _)] at hst
        have HB := HEND.out
        have hN' := HN.out
        have hcn := HCN.out
        have hlen := HLEN.out
        have hAN' := HAN.out
        simp only [List.length_nil, Nat.zero_add] at HB
        clear IH HREC HKi2 HA2 HKd HEND HN HCN HLEN
        rw [← HRR.out] at hst
        have hrN0 : 0 ≤ rN := by omega
        have hrN : rN ≤ 99999 := by omega
        have hrO : rO.length ≤ 300000 := by omega
        have hrK : rK.length ≤ 100000 := by have : rK.length = ks.length := HB.2.2.2.1.trans (by simp); omega
        have HKB : Hid (∀ x ∈ rK, -100000 ≤ x ∧ x ≤ 100000) := fun x hx => by have := HB.2.2.2.2 x hx; omega
        have hrO2 : rO.length + rK.length + 1 ≤ 300000 := by have : rK.length = ks.length := HB.2.2.2.1.trans (by simp); omega
        clear HB hN' hcn hlen hAN' HAN hb2 gi hlt h01'
        obtain ⟨q0, q1, q2, q3⟩ := obj_four hst.out.obj
        have qf := obj_frozen hst.out.obj 0
        have HST1 : Hid (Lp1 X1 mb w3 AA At.length capA vL (rN + 1, rO, rK) vK vC (wr.setCell ⟨mb, 0, none⟩ (.int .i64 (rN + 1)))) := by
          have hset := (Chg.refl (fun q => q = mb) wr).setCell ⟨mb, 0, none⟩ (.int .i64 (rN + 1)) (fun _ => rfl)
          refine ⟨obj_setC _ hst.out.obj, hst.out.rows.after hset (fun k _ h => by rw [h]; exact .inl HXmb.out.1) (fun k hk => .inl hk), hst.out.kids.keep hset (fun k hk h => (hst.out.kids.mine k hk).1 (by rw [h]; exact HXmb.out.1)), hst.out.chg.trans hset (fun k hk _ => .inl hk)⟩
        clear hst p0 p1 p2 p3
        go_upto_region 12 with fail
        go_cut [] (fun wx => Hid (Lp1 X1 mb w3 AA At.length capA vL (rN + 1, rO, rK) vK vC wx))
        case first =>
          go_wp2_with fail
          go_meet
          exact HST1
        case rest =>
        have HST2 := hcut
        clear HST1 hcut q0 q1 q2 q3 qf
        obtain ⟨q0, q1, q2, q3⟩ := obj_four HST2.out.obj
        have p0 := HBX.out wc HST2.out.chg
        obtain ⟨w6, rfl⟩ : ∃ w6, w6 = wc := ⟨_, rfl⟩
        go_upto_region 14 with fail
        go_cut [64] (fun s64 wx => s64 = .bool neg ∧ w6 = wx)
        case first =>
          by_cases h6 : kd = 6
          · subst h6
            go_wp2_with fail
            go_meet
            exact ⟨by rw [HNEG.out]; rfl, rfl⟩
          · have e6 : (kd == 6) = false := by simpa using h6
            by_cases h1 : kd = 1
            · subst h1
              go_wp2_with fail
              go_meet
              exact ⟨by rw [HNEG.out]; rfl, rfl⟩
            · have e1 : (kd == 1) = false := by simpa using h1
              go_wp2_with fail
              go_meet
              exact ⟨by rw [HNEG.out]; simp [isNeg, h6, h1], rfl⟩
        case rest =>
        obtain ⟨rfl, rfl⟩ := hcut
        go_upto_if 64 with fail
        go_cut [8] (fun s8 wx => s8 = .int .i64 sv ∧ w6 = wx)
        case first =>
          cases neg
          · go_wp2_with fail
            go_meet
            exact ⟨by rw [HSV.out]; rfl, rfl⟩
          · go_wp2_with fail
            go_meet
            exact ⟨by rw [HSV.out]; rfl, rfl⟩
        case rest =>
        obtain ⟨rfl, rfl⟩ := hcut
        clear q0 q1 q2 q3 p0 HNEG
        have hsv1 : -100000 ≤ sv := by rw [HSV.out]; unfold sgn; split <;> omega
        have hsv2 : sv ≤ 100000 := by rw [HSV.out]; unfold sgn; split <;> omega
        have hsvn : neg = decide (sv < 0) := by
          rw [HSV.out]; unfold sgn
          cases neg
          · simp; omega
          · simp; omega
        have HSVN := Lib.hid hsvn
        clear hsvn
        obtain ⟨AK, capK, rfl, hKs⟩ := HST2.out.kids.1.ints (l := rK) (by unfold big; omega) HST2.out.kids.2
        obtain ⟨Xk, hXk⟩ : ∃ Xk : Nat → Prop, ∀ k, Xk k ↔ X1 k ∨ (Value.slice AK rK.length capK).ownBlock = some k := ⟨fun k => X1 k ∨ (Value.slice AK rK.length capK).ownBlock = some k, fun k => Iff.rfl⟩
        have HXk := Lib.hid hXk
        have HXks : Hid (∀ k, Xk k → k < w6.heap.size) := fun k hk => by
          have := HST2.out.chg.size
          rcases (hXk k).1 hk with g | g
          · have := HX1s.out k g; omega
          · exact (HST2.out.kids.mine k g).2
        have HXkm : Hid (Xk mb) := (hXk mb).2 (.inl HXmb.out.1)
        have hkids : OInts 3 (fun k => ¬ X1 k) w6 (.slice AK rK.length capK) rK := HST2.out.kids
        have HKs : Hid (∀ W, Chg (Mk Xk mb) w6 W → Ints (fun k => Xk k ∧ k ≠ mb) W AK rK capK) := fun W hW => by
          obtain ⟨A', c', e, h'⟩ := (hkids.to (M' := fun k => Xk k ∧ k ≠ mb) (fun k hk _ => ⟨(hXk k).2 (.inr hk), fun e => (HST2.out.kids.mine k hk).1 (by rw [e]; exact HXmb.out.1)⟩)).ints (by unfold big; omega)
          cases e
          exact h'.chg intE_good hW st_mk
        have HST3 : Hid (w6.heap[mb]? = some (.cells #[.int .i64 (rN + 1), .slice AA At.length capA, vC, vL] 61 (0, 0)) ∧ ORows Xk w6 vC rO ∧ Chg (Mk X mb) w w6) :=
          ⟨HST2.out.obj, HST2.out.rows.mono rowV_good (fun k _ h g => h ((hXk k).1 g)) (fun k _ h g => h ((hXk k).1 g)), h3.out.1.no.trans HST2.out.chg (fun k hk _ => hk.elim .inl (fun h => .inr (fun g => h ((HX1.out k).2 (.inl g)))))⟩
        have HXX : Hid (∀ k, X k → Xk k) := fun k hk => (hXk k).2 (.inl ((HX1.out k).2 (.inl hk)))
        have HSTA : Hid (Lp1 Xk mb w6 AA At.length capA vL (rN + 1, rO ++ (rK.take 0).map (fun k => [-sv, sgn neg k]), sv :: (rK.take 0).map (fun k => -(sgn neg k))) (.slice (some ⟨w6.heap.size, 0, none⟩) 1 1) vC (w6.alloc (.cells #[.int .i64 sv] 3))) := by
          have hal : Chg No w6 (w6.alloc (.cells #[.int .i64 sv] 3)) := (Chg.refl _ _).alloc _
          refine ⟨hal.obj HST3.out.1 id, ?_, ?_, hal.no⟩
          · simp only [List.take_zero, List.map_nil, List.append_nil]
            exact HST3.out.2.1.after hal (fun _ _ g => g.elim) (fun k hk => hk.imp id (fun e => by simp [Value.ownBlock] at e; omega))
          · refine ⟨⟨by simp, .inr ⟨w6.heap.size, 0, 1, #[.int .i64 sv], rfl, fun g => absurd (HXks.out _ g) (Nat.lt_irrefl _), heap_alloc_new _ _, Nat.le_refl _, by decide, by simp, by simp⟩⟩, fun x hx => ?_⟩
            simp at hx; subst hx
            exact I64.of (by omega) (by omega)
        clear hXk hKs HST2 HX1 HX1s HBX HXmb hkids
        go_wp2_with fail
        go_loopw [9, 71] (fun s9 s71 wr => ∃ (i : Nat) (vA vC : Value), vA = s9 ∧ s71 = .int .i64 i ∧ i ≤ rK.length ∧ Hid (Lp1 Xk mb w6 AA At.length capA vL (rN + 1, rO ++ (rK.take i).map (fun k => [-sv, sgn neg k]), sv :: (rK.take i).map (fun k => -(sgn neg k))) vA vC wr)) (fun _ s71 _ => rK.length - (intOf s71).toNat)
        case atStart => exact ⟨0, _, vC, rfl, rfl, Nat.zero_le _, HSTA⟩
        case round =>
          clear HSTA
          obtain ⟨i, vA, vC, rfl, rfl, gi, hst⟩ := hrel
          obtain ⟨m0, m1, m2, m3⟩ := obj_four hst.out.obj
          have hzr : w6.heap.size ≤ wr.heap.size := hst.out.chg.size
          by_cases hlt : i < rK.length
          · obtain ⟨b, o, rfl, hx⟩ := (HKs.out wr hst.out.chg).int_at i hlt
            have i0 : (0 : Int) ≤ (i : Int) := by omega
            have i1 : (i : Int) < (rK.length : Int) := by omega
            obtain ⟨k1, k2⟩ := HKB.out _ (List.getElem_mem hlt)
            have HTK : Hid (rK.take (i + 1) = rK.take i ++ [rK[i]]) := List.take_succ_eq_append_getElem hlt
            have hti : (rK.take i).length = i := by rw [List.length_take]; omega
            generalize rK[i] = k at *
            generalize hT' : rK.take (i + 1) = T' at *
            have HT' := Lib.hid hT'
            clear hT'
            generalize rK.take i = T at *
            have hTl : T.length ≤ 100000 := by omega
            have hrl : (rO ++ T.map (fun k => [-sv, sgn neg k])).length ≤ 299998 := by simp; omega
            have hal : (sv :: T.map (fun k => -(sgn neg k))).length ≤ 200000 := by simp; omega
            clear hti
            obtain ⟨sk, hsk⟩ : ∃ sk, sk = sgn neg k := ⟨_, rfl⟩
            have HSK := Lib.hid hsk
            obtain ⟨px, hpx⟩ : ∃ px, px = -sk := ⟨_, rfl⟩
            have HPX := Lib.hid hpx
            have hsk1 : -100000 ≤ sk := by rw [hsk]; unfold sgn; split <;> omega
            have hsk2 : sk ≤ 100000 := by rw [hsk]; unfold sgn; split <;> omega
            have HR' : Hid ((rN + 1, rO ++ T'.map (fun k => [-sv, sgn neg k]), sv :: T'.map (fun k => -(sgn neg k))) = (rN + 1, (rO ++ T.map (fun k => [-sv, sgn neg k])) ++ [[-sv, sk]], (sv :: T.map (fun k => -(sgn neg k))) ++ [px])) := by
              unfold Hid; rw [HTK.out, hpx, hsk]; simp
            have hpx1 : -100000 ≤ px := by omega
            have hpx2 : px ≤ 100000 := by omega
            clear hsk hpx HTK
            generalize rO ++ T.map (fun k => [-sv, sgn neg k]) = rowsL at *
            generalize sv :: T.map (fun k => -(sgn neg k)) = allL at *
            generalize hq1 : rO ++ T'.map (fun k => [-sv, sgn neg k]) = rowsL' at *
            generalize hq2 : sv :: T'.map (fun k => -(sgn neg k)) = allL' at *
            have HQ1 := Lib.hid hq1
            have HQ2 := Lib.hid hq2
            clear hq1 hq2
            have HW1 : Hid (Chg No wr (wr.alloc (.cells #[.int .i64 (-sv), .int .i64 sk] 3))) := (Chg.refl _ _).alloc _
            have HSZ1 : Hid ((wr.alloc (.cells #[.int .i64 (-sv), .int .i64 sk] 3)).heap.size = wr.heap.size + 1) := by unfold Hid; simp
            have HROW : Hid (rowV (fun q => (¬ (Xk q ∨ vA.ownBlock = some q)) ∧ vC.ownBlock ≠ some q) (wr.alloc (.cells #[.int .i64 (-sv), .int .i64 sk] 3)) [.slice (some ⟨wr.heap.size, 0, none⟩) 2 2] [-sv, sk]) :=
              row_of rfl (intsW_of_block (l := [-sv, sk]) (heap_alloc_new _ _) ⟨fun g => g.elim (fun g => by have := HXks.out _ g; omega) (fun g => by have := (hst.out.kids.mine _ g).2; omega), fun g => by have := (hst.out.rows.mine _ g).2; omega⟩ (by simp [big]) (by simp; exact ⟨I64.of (by omega) (by omega), I64.of (by omega) (by omega)⟩))
            have HOW1 : Hid (ORows (fun q => Xk q ∨ vA.ownBlock = some q) (wr.alloc (.cells #[.int .i64 (-sv), .int .i64 sk] 3)) vC rowsL) := hst.out.rows.no rowV_good HW1.out
            have HFR : Hid (∀ q, (wr.alloc (.cells #[.int .i64 (-sv), .int .i64 sk] 3)).heap.size ≤ q → ¬ (Xk q ∨ vA.ownBlock = some q)) := fun q hq g => by
              have := HW1.out.size
              rcases g with g | g
              · have := HXks.out _ g; omega
              · have := (hst.out.kids.mine _ g).2; omega
            have HP : Hid (∀ w7 A7 cap7, ORows (fun q => Xk q ∨ vA.ownBlock = some q) w7 (.slice A7 (rowsL.length + 1) cap7) (rowsL ++ [[-sv, sk]]) → Chg (fun q => vC.ownBlock = some q) (wr.alloc (.cells #[.int .i64 (-sv), .int .i64 sk] 3)) w7 →
                (w7.cell? ⟨mb, 2, none⟩ = some vC ∧ w7.frozen? ⟨mb, 2, none⟩ = false) ∧ Hid (OInts 3 (fun q => vA.ownBlock = some q ∨ (w7.setCell ⟨mb, 2, none⟩ (.slice A7 (rowsL.length + 1) cap7)).heap.size ≤ q) (w7.setCell ⟨mb, 2, none⟩ (.slice A7 (rowsL.length + 1) cap7)) vA allL) ∧
                Hid (∀ w9 A9 cap9, OInts 3 (fun q => vA.ownBlock = some q ∨ (w7.setCell ⟨mb, 2, none⟩ (.slice A7 (rowsL.length + 1) cap7)).heap.size ≤ q) w9 (.slice A9 (allL.length + 1) cap9) (allL ++ [px]) → Chg (fun q => vA.ownBlock = some q) (w7.setCell ⟨mb, 2, none⟩ (.slice A7 (rowsL.length + 1) cap7)) w9 →
                  Hid (Lp1 Xk mb w6 AA At.length capA vL (rN + 1, rowsL', allL') (.slice A9 (allL.length + 1) cap9) (.slice A7 (rowsL.length + 1) cap7) w9))) := fun w7 A7 cap7 g1 g2 => by
              have hvC : ∀ q, vC.ownBlock = some q → ¬ (Xk q ∨ vA.ownBlock = some q) ∧ q < wr.heap.size := fun q hq => hst.out.rows.mine q hq
              have hvA : ∀ q, vA.ownBlock = some q → ¬ Xk q ∧ q < wr.heap.size := fun q hq => hst.out.kids.mine q hq
              have hob7 : w7.heap[mb]? = some (.cells #[.int .i64 (rN + 1), .slice AA At.length capA, vC, vL] 61 (0, 0)) := g2.obj (HW1.out.obj hst.out.obj id) (fun g => (hvC mb g).1 (.inl HXkm.out))
              have hset := (Chg.refl (fun q => q = mb) w7).setCell ⟨mb, 2, none⟩ (.slice A7 (rowsL.length + 1) cap7) (fun _ => rfl)
              have hrows8 : ORows (fun q => Xk q ∨ vA.ownBlock = some q) (w7.setCell ⟨mb, 2, none⟩ (.slice A7 (rowsL.length + 1) cap7)) (.slice A7 (rowsL.length + 1) cap7) (rowsL ++ [[-sv, sk]]) :=
                g1.after hset (fun q _ g => by rw [g]; exact .inl HXkm.out) (fun q hq => .inl hq)
              have hch8 : Chg (Mk Xk mb) wr (w7.setCell ⟨mb, 2, none⟩ (.slice A7 (rowsL.length + 1) cap7)) :=
                (HW1.out.no.trans g2 (fun q hq _ => .inr (fun g => (hvC q hq).1 (.inl g)))).trans hset (fun q hq _ => .inl hq)
              have hall8 : OInts 3 (fun q => ¬ Xk q) (w7.setCell ⟨mb, 2, none⟩ (.slice A7 (rowsL.length + 1) cap7)) vA allL :=
                ((hst.out.kids.no HW1.out).keep g2 (fun q hq g => (hvC q g).1 (.inr hq))).keep hset (fun q hq g => (hvA q hq).1 (by rw [g]; exact HXkm.out))
              refine ⟨⟨(obj_four hob7).2.2.1, obj_frozen hob7 2⟩, hall8.to (fun q hq _ => .inl hq), fun w9 A9 cap9 h1 h2 => ?_⟩
              rw [HR'.out]
              have hsz8 := hch8.size
              refine ⟨h2.obj (obj_setC _ hob7) (fun g => (hvA mb g).1 HXkm.out), hrows8.after h2 (fun q _ g => .inr g) (fun q hq => ?_), h1.to (fun q hq _ g => ?_), (hst.out.chg.trans hch8 (fun q hq _ => hq)).trans h2 (fun q hq _ => .inr (hvA q hq).1)⟩
              · rcases hq with hq | hq
                · exact .inl (.inl hq)
                · exact ((h1.mine q hq).1).elim (fun g => .inl (.inr g)) .inr
              · rcases (h1.mine q hq).1 with g' | g'
                · exact (hvA q g').1 g
                · have := HXks.out q g; omega
            have HSVN' := HSVN.out
            clear hst HR' HXX HXks
            cases neg
            case' false =>
              have hs0 : ¬ sv < 0 := by simpa using HSVN'
              obtain rfl : sk = k := HSK.out
              obtain rfl : px = -sk := HPX.out
            case' true =>
              have hs0 : sv < 0 := by simpa using HSVN'
              obtain rfl : sk = -k := HSK.out
              obtain rfl : px = k := by rw [HPX.out]; omega
            all_goals
              clear HSVN' HSK HPX
              go_wp2_with (at_builtin; first
                | ((refine wpList_pushL' rowV_good rowsTyC rfl (.tmp 84) (.tmp 89) rfl HFR.out HOW1.out rfl HROW.out (by simp [Value.oneCell']) HSZ1.out rfl (show (rowsL.length + 1) * 24 ≤ 140737488355328 by omega) ?_); intro A7 cap7 w7 g1 g2; obtain ⟨⟨f1, f2⟩, G3, G4⟩ := HP.out w7 A7 cap7 g1 g2; clear g1 g2)
                | (refine wpList_push_int' intsTyC rfl (.tmp 94) (.tmp 97) rfl (fun q hq => .inr hq) G3.out rfl (size_set _ _ _) rfl (I64.of (by omega) (by omega)) (by omega) ?_; intro A9 cap9 w9 g1 g2; have h9 := G4.out w9 A9 cap9 g1 g2; clear g1 g2))
              go_roundw
              case rel => exact ⟨i + 1, _, _, rfl, by go_num, hlt, by rw [HT'.out, HQ1.out, HQ2.out]; exact h9⟩
              case measure => simp [intOf]; omega
          · obtain rfl : i = rK.length := by omega
            rw [List.take_of_length_le (Nat.le_refl _)] at hst
            have hrl : (rO ++ rK.map (fun k => [-sv, sgn neg k])).length ≤ 299999 := by simp; omega
            have hal : (sv :: rK.map (fun k => -(sgn neg k))).length ≤ 200000 := by simp; omega
            generalize hq1 : rO ++ rK.map (fun k => [-sv, sgn neg k]) = rowsL at *
            generalize hq2 : sv :: rK.map (fun k => -(sgn neg k)) = allL at *
            have HQ1 := Lib.hid hq1
            have HQ2 := Lib.hid hq2
            have HANS : Hid (rO ++ (rK.map (fun k => [-sv, sgn neg k]) ++ [sv :: rK.map (fun k => -(sgn neg k))]) = rowsL ++ [allL]) := by unfold Hid; rw [← hq1, ← hq2]; simp
            clear hq1 hq2 HKs
            obtain ⟨AA2, cap2, rfl, hall⟩ := hst.out.kids.1.ints (l := allL) (by unfold big; omega) hst.out.kids.2
            have HALL : Hid (rowV (fun q => (¬ Xk q) ∧ vC.ownBlock ≠ some q) wr [.slice AA2 allL.length cap2] allL) := by
              obtain ⟨A', c', e, h'⟩ := (hst.out.kids.to (M' := fun q => (¬ Xk q) ∧ vC.ownBlock ≠ some q) (fun q hq _ => ⟨(hst.out.kids.mine q hq).1, fun g => (hst.out.rows.mine q g).1 (.inr hq)⟩)).1.intsW (l := allL) (by unfold big; omega) hst.out.kids.2
              cases e
              exact row_of rfl h'
            have HOW1 : Hid (ORows Xk wr vC rowsL) := hst.out.rows.mono rowV_good (fun q _ h g => h (.inl g)) (fun q _ h g => h (.inl g))
            have HFR : Hid (∀ q, wr.heap.size ≤ q → ¬ Xk q) := fun q hq g => by
              have := HXks.out _ g; omega
            have HP : Hid (∀ w7 A7 cap7, ORows Xk w7 (.slice A7 (rowsL.length + 1) cap7) (rowsL ++ [allL]) → Chg (fun q => vC.ownBlock = some q) wr w7 →
                (w7.cell? ⟨mb, 2, none⟩ = some vC ∧ w7.frozen? ⟨mb, 2, none⟩ = false) ∧ (w7.setCell ⟨mb, 2, none⟩ (.slice A7 (rowsL.length + 1) cap7)).cell? ⟨mb, 0, none⟩ = some (.int .i64 (rN + 1)) ∧
                Hid ((w7.setCell ⟨mb, 2, none⟩ (.slice A7 (rowsL.length + 1) cap7)).heap[mb]? = some (.cells #[.int .i64 (rN + 1), .slice AA At.length capA, .slice A7 (rowsL.length + 1) cap7, vL] 61 (0, 0)) ∧
                  ORows X (w7.setCell ⟨mb, 2, none⟩ (.slice A7 (rowsL.length + 1) cap7)) (.slice A7 (rowsL.length + 1) cap7) (rowsL ++ [allL]) ∧ Chg (Mk X mb) w (w7.setCell ⟨mb, 2, none⟩ (.slice A7 (rowsL.length + 1) cap7)))) := fun w7 A7 cap7 g1 g2 => by
              have hvC : ∀ q, vC.ownBlock = some q → ¬ Xk q := fun q hq g => (hst.out.rows.mine q hq).1 (.inl g)
              have hob7 : w7.heap[mb]? = some (.cells #[.int .i64 (rN + 1), .slice AA At.length capA, vC, vL] 61 (0, 0)) := g2.obj hst.out.obj (fun g => hvC mb g HXkm.out)
              have hset := (Chg.refl (fun q => q = mb) w7).setCell ⟨mb, 2, none⟩ (.slice A7 (rowsL.length + 1) cap7) (fun _ => rfl)
              have hob8 := obj_setC (j := 2) (.slice A7 (rowsL.length + 1) cap7) hob7
              have hch8 : Chg (Mk Xk mb) w6 (w7.setCell ⟨mb, 2, none⟩ (.slice A7 (rowsL.length + 1) cap7)) :=
                (hst.out.chg.trans g2 (fun q hq _ => .inr (hvC q hq))).trans hset (fun q hq _ => .inl hq)
              refine ⟨⟨(obj_four hob7).2.2.1, obj_frozen hob7 2⟩, (obj_four hob8).1, hob8, ?_, HST3.out.2.2.trans hch8 (fun q hq _ => hq.imp id (fun h g => h (HXX.out q g)))⟩
              exact (g1.after hset (fun q _ g => by rw [g]; exact HXkm.out) (fun q hq => .inl hq)).mono rowV_good (fun q _ h g => h (HXX.out q g)) (fun q _ h g => h (HXX.out q g))
            clear hst hall HXX HXks HST3 hlt gi HKB HSV HSVN HRR
            go_wp2_with (at_builtin; refine wpList_pushL' rowV_good rowsTyC rfl (.tmp 105) (.tmp 107) rfl HFR.out HOW1.out rfl HALL.out (by simp [Value.oneCell']) rfl rfl (show (rowsL.length + 1) * 24 ≤ 140737488355328 by omega) ?_; intro A7 cap7 w7 g1 g2; obtain ⟨⟨f1, f2⟩, f3, G3⟩ := HP.out w7 A7 cap7 g1 g2; clear g1 g2)
            go_ret
            exact ⟨rfl, _, G3.out.1, by rw [HANS.out]; exact G3.out.2.1, G3.out.2.2⟩
theorem lit_any : ∀ n, LitsOk n
  | 0 => fun _ _ _ _ _ h => h.elim
  | n + 1 => lit_step n (Lib.hid (lit_any n))
end Go.Proofs.Ytlejcnbpodmleaa
