/-
  Chapter 18: up, smallA.
-/
import Derived.Test.YtpmndblakmobdaaGreatDoorHlG
import Derived.Test.YtpmndblakmobdaaGreatDoorHlH
import Derived.Test.YtpmndblakmobdaaGreatDoorMA
namespace Go.Proofs.YtpmndblakmobdaaGreatDoor
open Go Go.RowKit

theorem cells_ofH {w : World} {b : Nat} {vs : Array Value} {t : TypeId} (h : w.heap[b]? = some (.cells vs t (0, 0))) (j : Nat) : w.cell? ⟨b, j, none⟩ = vs[j]? := by simp [World.cell?, h]
theorem four_atH {w : World} {b o : Nat} {v0 v1 v2 v3 : Value} (h0 : w.cell? ⟨b, o, none⟩ = some v0) (h1 : w.cell? ⟨b, o + 1, none⟩ = some v1) (h2 : w.cell? ⟨b, o + 2, none⟩ = some v2) (h3 : w.cell? ⟨b, o + 3, none⟩ = some v3) :
    ∀ j u, ([v0, v1, v2, v3] : List Value)[j]? = some u → w.cell? ⟨b, o + j, none⟩ = some u := by
  intro j u hj
  match j, hj with
  | 0, hj => simp at hj; subst hj; exact h0
  | 1, hj => simp at hj; subst hj; exact h1
  | 2, hj => simp at hj; subst hj; exact h2
  | 3, hj => simp at hj; subst hj; exact h3
def upXH : ET 1 := (⟨1, 0, ⟨#[120]⟩, []⟩ : ENode (ET 0))
def upMH : ET 2 := (⟨4, 2, ⟨#[]⟩, [upXH]⟩ : ENode (ET 1))
def upNH : ET 2 := (⟨0, 1, ⟨#[]⟩, []⟩ : ENode (ET 1))
def upEH : ET 3 := (⟨3, 0, ⟨#[]⟩, [upMH, upNH]⟩ : ENode (ET 2))
def upSH : ET 1 := (⟨0, 7, ⟨#[]⟩, []⟩ : ENode (ET 0))
def upCH : CT 1 1 := (⟨0, [], []⟩ : CNode (ET 1) (CT 1 0))
def upAH : AT 1 1 1 := (⟨3, upCH, upXH, upSH, ⟨#[102]⟩, 32, []⟩ : ANode (CT 1 1) (ET 1) (AT 1 1 0))
def upVH : List Vr := [(⟨#[120]⟩, 3)]
def upHH : List Tri := [(3, ⟨#[102]⟩, 7)]
theorem upEH_is {W : World} {p q : Nat} (hp : W.heap[p]? = some (.cells #[.int .i64 1, .int .i64 0, .string ⟨#[120]⟩, .slice none 0 0] 53 (0, 0)))
    (hq : W.heap[q]? = some (.cells #[.int .i64 4, .int .i64 2, .string ⟨#[]⟩, .slice (some ⟨p, 0, none⟩) 1 1, .int .i64 0, .int .i64 1, .string ⟨#[]⟩, .slice none 0 0] 53 (0, 0))) :
    (exprV 3) (fun _ => True) W [.int .i64 3, .int .i64 0, .string ⟨#[]⟩, .slice (some ⟨q, 0, none⟩) 2 2] upEH := by
  have hs : ∀ s : ByteArray, s.size = 0 ∨ s.size = 1 → s.size ≤ maxLen := fun s h => by unfold maxLen; omega
  have hX : (exprV 1) (fun _ => True) W [.int .i64 1, .int .i64 0, .string ⟨#[120]⟩, .slice none 0 0] upXH :=
    ⟨none, 0, rfl, I64.of (by decide) (by decide), I64.of (by decide) (by decide), hs _ (.inr rfl), Sl.empty⟩
  have hM : (exprV 2) (fun _ => True) W [.int .i64 4, .int .i64 2, .string ⟨#[]⟩, .slice (some ⟨p, 0, none⟩) 1 1] upMH := by
    refine ⟨some ⟨p, 0, none⟩, 1, rfl, I64.of (by decide) (by decide), I64.of (by decide) (by decide), hs _ (.inl rfl), ⟨Nat.le_refl _, by decide, by decide, (fun h => by cases h), fun i hi => ?_⟩⟩
    match i, hi with
    | 0, _ => exact ⟨p, 0, rfl, trivial, _, rfl, four_atH (cells_ofH hp 0) (cells_ofH hp 1) (cells_ofH hp 2) (cells_ofH hp 3), hX⟩
  have hN : (exprV 2) (fun _ => True) W [.int .i64 0, .int .i64 1, .string ⟨#[]⟩, .slice none 0 0] upNH :=
    ⟨none, 0, rfl, I64.of (by decide) (by decide), I64.of (by decide) (by decide), hs _ (.inl rfl), Sl.empty⟩
  refine ⟨some ⟨q, 0, none⟩, 2, rfl, I64.of (by decide) (by decide), I64.of (by decide) (by decide), hs _ (.inl rfl), ⟨Nat.le_refl _, by decide, by decide, (fun h => by cases h), fun i hi => ?_⟩⟩
  match i, hi with
  | 0, _ => exact ⟨q, 0, rfl, trivial, _, rfl, four_atH (cells_ofH hq 0) (cells_ofH hq 1) (cells_ofH hq 2) (cells_ofH hq 3), hM⟩
  | 1, _ => exact ⟨q, 0, rfl, trivial, _, rfl, four_atH (cells_ofH hq 4) (cells_ofH hq 5) (cells_ofH hq 6) (cells_ofH hq 7), hN⟩
theorem upAH_is (W : World) : (assnV 1 1 1) (fun _ => True) W [.int .i64 3, .int .i64 0, .slice none 0 0, .slice none 0 0, .int .i64 1, .int .i64 0, .string ⟨#[120]⟩, .slice none 0 0, .int .i64 0, .int .i64 7, .string ⟨#[]⟩, .slice none 0 0, .string ⟨#[102]⟩, .int .i64 32, .slice none 0 0] upAH := by
  have hs : ∀ s : ByteArray, s.size = 0 ∨ s.size = 1 → s.size ≤ maxLen := fun s h => by unfold maxLen; omega
  exact ⟨[.int .i64 0, .slice none 0 0, .slice none 0 0], [.int .i64 1, .int .i64 0, .string ⟨#[120]⟩, .slice none 0 0], [.int .i64 0, .int .i64 7, .string ⟨#[]⟩, .slice none 0 0], none, 0, rfl, rfl, rfl, rfl,
    I64.of (by decide) (by decide), ⟨none, 0, none, 0, rfl, I64.of (by decide) (by decide), Sl.empty, Sl.empty⟩, ⟨none, 0, rfl, I64.of (by decide) (by decide), I64.of (by decide) (by decide), hs _ (.inr rfl), Sl.empty⟩, ⟨none, 0, rfl, I64.of (by decide) (by decide), I64.of (by decide) (by decide), hs _ (.inl rfl), Sl.empty⟩, hs _ (.inr rfl), I64.of (by decide) (by decide), Sl.empty⟩
theorem upVH_is {W : World} {q : Nat} (hq : W.heap[q]? = some (.cells #[.string ⟨#[120]⟩, .int .i64 3] 98 (0, 0))) : Vars (fun k => k = q) W (some ⟨q, 0, none⟩) upVH 1 := by
  refine ⟨Nat.le_refl _, by decide, show 1 * 24 ≤ big by decide, (fun h => by cases h), fun i hi => ?_⟩
  match i, hi with
  | 0, _ =>
    refine ⟨q, 0, rfl, rfl, [.string ⟨#[120]⟩, .int .i64 3], rfl, ?_, [.string ⟨#[120]⟩], [.int .i64 3], rfl, rfl, ⟨rfl, show (⟨#[120]⟩ : ByteArray).size ≤ maxLen by decide⟩, ⟨rfl, I64.of (show -9000000000000000000 ≤ (3 : Int) by decide) (show (3 : Int) ≤ 9000000000000000000 by decide)⟩⟩
    intro j u hj
    match j, hj with
    | 0, hj => exact (cells_ofH hq 0).trans hj
    | 1, hj => exact (cells_ofH hq 1).trans hj
theorem upHH_is {W : World} {q : Nat} (hq : W.heap[q]? = some (.cells #[.int .i64 3, .string ⟨#[102]⟩, .int .i64 7] 77 (0, 0))) : Tris (fun _ => True) W (some ⟨q, 0, none⟩) upHH 1 := by
  have h := ownL_oneH (V := triV) (M := fun _ => True) (R := No) (cs := [.int .i64 3, .string ⟨#[102]⟩, .int .i64 7]) (x := ((3, ⟨#[102]⟩, 7) : Tri)) hq trivial rfl (tri_of (m := (3, ⟨#[102]⟩, 7)) (I64.of (by decide) (by decide)) (show (⟨#[102]⟩ : ByteArray).size ≤ maxLen by decide) (I64.of (by decide) (by decide))) triV_good
  exact OTris.tris h (show 1 * 32 ≤ big by decide)
theorem upEH_res : hexR upVH 3 upEH = (5, 0) := by kernel_rfl
theorem upAH_holds : holdsR upVH upHH 1 1 1 upAH = (true, 0) := by kernel_rfl
theorem upAH_foot : footR upVH 1 1 1 upAH = ([(3, ⟨#[102]⟩, 32)], 0) := by kernel_rfl
theorem upAH_lv : lvA 1 1 1 upAH ≤ 100000 := by decide

theorem sza_one {m n k : Nat} {x : AT m n k} {R : Nat → Prop} {W : World} {cs : List Value} {c : Nat} (hx : (assnV m n k) R W cs x) (hR : ∀ q, R q → q ≠ c) (ho : W.heap[c]? = some (.cells cs.toArray 92 (0, 0))) : SzCallA W (.slice (some ⟨c, 0, none⟩) 1 1) (lvA m n k x) := by
  have hlen : cs.length = (assnV m n k).sz := (assnV_good m n k).len hx
  have h1 := ownL_oneH (M := fun _ => True) (R := R) ho trivial hlen ((assnV_good m n k).mono hx (fun q _ hq => ⟨hq, hR q hq⟩)) (assnV_good m n k)
  have h2 := (h1.sl_of (assnV_good m n k) (by rw [assnV_bytes]; exact (show 1 * 224 ≤ big by decide))).2
  rw [assnV_sz] at h2
  have h3 := sza_any m n k h2
  rw [show [x].length = 1 from rfl, show ([x].map (lvA m n k)).sum = lvA m n k x by simp] at h3
  exact h3
end Go.Proofs.YtpmndblakmobdaaGreatDoor
