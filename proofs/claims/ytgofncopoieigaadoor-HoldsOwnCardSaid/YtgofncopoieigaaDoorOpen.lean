/-
  Arguments that came in, read as data: what memory holds of them. General: no program is named here.
-/
import Derived.Test.YtgofncopoieigaaDoorBase
import Derived.ProofKit
import Derived.SizedLaws
import Derived.Deep.Slices
namespace Go.Proofs.YtgofncopoieigaaDoor
open Go Go.RowKit

section
variable {H : Type} {enc : TypeId × Value → H} {P : Program}

/-- The region of all memory that is there. -/
def Old (W : World) : Nat → Prop := fun k => k < W.heap.size

/-- What can be read as a datum of the type e, and weighs no more than may be, is an E in memory. -/
structure OpensE {α : Type} (enc : TypeId × Value → H) (P : Program) (e : TypeId) (sz : Nat) (E : Elem α) : Prop where
  cells : P.cellsOf e = sz
  bytes : P.bytesOf e = E.bytes
  open_ : ∀ (W : World) (fuel b o : Nat) cs y, W.cells? 0 ⟨b, o, none⟩ sz = some cs → DataW.trod enc P W 0 (fun _ => true) true fuel e cs = some y → (∀ n ∈ y.1.weights P e, n ≤ reachBytes) → ∃ x, E (Old W) W b o x

theorem wf_i64 {n : Int} (h : (Lit.int .i64 n).wf = true) : I64 n := by
  simp only [Lit.wf, IntKind.min, IntKind.max, IntKind.signed, IntKind.bits, Bool.and_eq_true, decide_eq_true_eq, if_true] at h
  unfold I64
  omega

theorem cells_one {W : World} {b o : Nat} {cs : List Value} (h : W.cells? 0 ⟨b, o, none⟩ 1 = some cs) : ∃ v, cs = [v] ∧ W.cell? ⟨b, o, none⟩ = some v := by
  obtain ⟨_, hl, hc⟩ := World.cells?_some h
  match cs, hl with
  | [v], _ => exact ⟨v, rfl, by simpa [Addr.add] using hc 0 (by omega)⟩

theorem opensE_int {e : TypeId} (ht : P.underlying e = some (.int .i64)) (hc : P.cellsOf e = 1) (hb : P.bytesOf e = 8) : OpensE enc P e 1 IntE where
  cells := hc
  bytes := hb
  open_ := fun W fuel b o cs y hcs hy _ => by
    obtain ⟨v, rfl, hv⟩ := cells_one hcs
    obtain ⟨n, hn, _, hw⟩ := DataW.trod_int ht hy
    simp at hn
    subst hn
    exact ⟨n, cell_lt hv, hv, wf_i64 hw⟩
theorem opensE_bool {e : TypeId} (ht : P.underlying e = some .bool) (hc : P.cellsOf e = 1) (hb : P.bytesOf e = 1) : OpensE enc P e 1 BoolE where
  cells := hc
  bytes := hb
  open_ := fun W fuel b o cs y hcs hy _ => by
    obtain ⟨v, rfl, hv⟩ := cells_one hcs
    obtain ⟨n, hn, _⟩ := DataW.trod_bool ht hy
    simp at hn
    subst hn
    exact ⟨n, cell_lt hv, hv⟩
theorem opensE_string {e : TypeId} (ht : P.underlying e = some .string) (hc : P.cellsOf e = 1) (hb : P.bytesOf e = 16) : OpensE enc P e 1 StrE where
  cells := hc
  bytes := hb
  open_ := fun W fuel b o cs y hcs hy _ => by
    obtain ⟨v, rfl, hv⟩ := cells_one hcs
    obtain ⟨n, hn, _, hw⟩ := DataW.trod_string ht hy
    simp at hn
    subst hn
    exact ⟨n, cell_lt hv, hv, hw⟩

theorem weightsAll_mem {e : TypeId} : ∀ {ds : List (DataW H)} {d : DataW H}, d ∈ ds → ∀ n ∈ d.weights P e, n ∈ DataW.weightsAll P e ds
  | d0 :: ds, d, hd, n, hn => by
    simp only [DataW.weightsAll, List.mem_append]
    rcases List.mem_cons.1 hd with rfl | hd
    · exact .inl hn
    · exact .inr (weightsAll_mem hd n hn)

theorem cells_spot {W : World} {a : Addr} {n : Nat} {cs : List Value} (h : W.cells? 0 a n = some cs) (hn : 0 < n) : a.spot = none := by
  obtain ⟨_, hl, hc⟩ := World.cells?_some h
  have h0 := hc 0 hn
  rw [List.getElem?_eq_getElem (by omega)] at h0
  have := World.cell?_spot h0
  simpa [Addr.add] using this

theorem open_sl {α : Type} {t e : TypeId} {sz : Nat} {E : Elem α} (ht : P.underlying t = some (.slice e)) (hsz : 0 < sz) (hE : OpensE enc P e sz E)
    {W : World} {fuel : Nat} {cs : List Value} {y : DataW H × List MemPlace} (hy : DataW.trod enc P W 0 (fun _ => true) true fuel t cs = some y) (hw : ∀ n ∈ y.1.weights P t, n ≤ reachBytes) :
    ∃ A l cap, cs = [.slice A l.length cap] ∧ Sl E sz (Old W) W A l cap := by
  rcases Go.Deep.open_slice ht hy with ⟨rfl, _⟩ | ⟨a, len, cap, m, k, D, Pl, rfl, _, hl, hm, hmm, rfl, hx⟩
  · exact ⟨none, [], 0, rfl, Sl.empty⟩
  simp only [if_true] at hmm
  subst hmm
  have hsum : (len + (m - len)) * P.bytesOf e ≤ reachBytes := by
    have := hw ((len + (m - len)) * P.bytesOf e) (by simp [DataW.weights, ht])
    exact this
  have hlb : len * E.bytes ≤ big := by
    rw [← hE.bytes]
    have h2 : len * P.bytesOf e ≤ (len + (m - len)) * P.bytesOf e := Nat.mul_le_mul_right _ (by omega)
    have h3 := reachBytes_lt
    unfold big
    omega
  have each : ∀ i, i < len → ∃ x : α, ∃ b o, a = ⟨b, o, none⟩ ∧ E (Old W) W b (o + i * sz) x := by
    intro i hi
    obtain ⟨cs', h1, h2⟩ := hx i (by omega)
    rw [hE.cells] at h1
    have hsp := cells_spot h1 hsz
    obtain ⟨b, o, s⟩ := a
    have hs : s = none := by
      by_cases hz : i * sz = 0
      · simpa [Addr.add, hz] using hsp
      · obtain ⟨cs0, g1, _⟩ := hx 0 (by omega)
        rw [hE.cells] at g1
        have := cells_spot g1 hsz
        simpa [Addr.add] using this
    subst hs
    rw [show (⟨b, o, none⟩ : Addr).add (i * sz) = ⟨b, o + i * sz, none⟩ by unfold Addr.add; split <;> simp_all] at h1
    obtain ⟨x, hx'⟩ := hE.open_ W k b (o + i * sz) cs' (D i, Pl i) h1 h2 (fun n hn => hw n (by
      simp only [DataW.weights, ht, List.mem_cons, List.mem_append]
      exact .inr (.inl (weightsAll_mem (d := D i) (List.mem_map.2 ⟨i, List.mem_range.2 hi, rfl⟩) n hn))))
    exact ⟨x, b, o, rfl, hx'⟩
  by_cases h0 : len = 0
  · subst h0
    exact ⟨some a, [], m, rfl, ⟨hl, hm, by simp, (fun h => by cases h), fun i hi => absurd hi (Nat.not_lt_zero i)⟩⟩
  · obtain ⟨x0, _⟩ := each 0 (by omega)
    haveI : Inhabited α := ⟨x0⟩
    obtain ⟨f, hf⟩ := Go.Deep.choose_lt each
    have hlen : ((List.range len).map f).length = len := by simp
    refine ⟨some a, (List.range len).map f, m, by rw [hlen], ⟨by rw [hlen]; exact hl, hm, by rw [hlen]; exact hlb, (fun h => by cases h), fun i hi => ?_⟩⟩
    rw [hlen] at hi
    obtain ⟨b, o, rfl, hE'⟩ := hf i hi
    exact ⟨b, o, rfl, by simpa using hE'⟩

theorem opensE_sl {α : Type} {t e : TypeId} {sz : Nat} {E : Elem α} (ht : P.underlying t = some (.slice e)) (hsz : 0 < sz) (hct : P.cellsOf t = 1) (hb : P.bytesOf t = 24) (hE : OpensE enc P e sz E) : OpensE enc P t 1 (SlE E sz) where
  cells := hct
  bytes := hb
  open_ := fun W fuel b o cs y hcs hy hw => by
    obtain ⟨v, rfl, hv⟩ := cells_one hcs
    obtain ⟨A, l, cap, hc, hs⟩ := open_sl ht hsz hE hy hw
    simp at hc
    subst hc
    exact ⟨l, cell_lt hv, A, cap, hv, hs⟩
end
end Go.Proofs.YtgofncopoieigaaDoor
