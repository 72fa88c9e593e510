/-
  Arguments that are chunks, read as data.
-/
import Derived.Test.YtpmndblakmobdaaGreatDoorTL
import Derived.Test.YtpmndblakmobdaaGreatDoorTC
namespace Go.Proofs.YtpmndblakmobdaaGreatDoor
open Go Go.RowKit
section
variable {P : Program} {H : Type} {enc : TypeId × Value → H}
/-- A struct of four fields. -/
theorem opensV_struct4 {α β γ δ : Type} {t : TypeId} {f0 f1 f2 f3 : Field} {V : ElV α} {U : ElV β} {T : ElV γ} {S : ElV δ} {bytes ib ic : Nat} (hic : 0 < ic) (hib : 0 < ib) (hbp : 0 < bytes) (ht : P.underlying t = some (.struct #[f0, f1, f2, f3])) (o0 : f0.offset = 0) (o1 : f1.offset = V.sz) (o2 : f2.offset = V.sz + U.sz) (o3 : f3.offset = V.sz + (U.sz + T.sz))
    (hc : P.cellsOf t = V.sz + (U.sz + (T.sz + S.sz))) (hb : P.bytesOf t = bytes) (h0 : OpensV enc P f0.type V) (h1 : OpensV enc P f1.type U) (h2 : OpensV enc P f2.type T) (h3 : OpensV enc P f3.type S) : OpensV enc P t (pairV V (pairV U (pairV T S ic hic) ib hib) bytes hbp) where
  cells := hc
  bytes := hb
  open_ := fun W fuel cs y hl hy hw => by
    obtain ⟨xs, n, hn, rfl, hl', hxl, hf⟩ := DataW.trod_struct ht hy
    obtain ⟨y0, y1, y2, y3, rfl⟩ : ∃ y0 y1 y2 y3, xs = [y0, y1, y2, y3] := by
      match xs, hxl with
      | [y0, y1, y2, y3], _ => exact ⟨y0, y1, y2, y3, rfl⟩
    have g0 := hf 0 f0 rfl
    have g1 := hf 1 f1 rfl
    have g2 := hf 2 f2 rfl
    have g3 := hf 3 f3 rfl
    rw [o0, h0.cells, List.drop_zero] at g0
    rw [o1, h1.cells] at g1
    rw [o2, h2.cells] at g2
    rw [o3, h3.cells] at g3
    simp only [List.getElem?_cons_zero, List.getElem?_cons_succ] at g0 g1 g2 g3
    have hl2 : cs.length = V.sz + (U.sz + (T.sz + S.sz)) := hl
    obtain ⟨x0, hx0⟩ := h0.open_ W n _ y0 (by simp; omega) g0 (fun m hm => hw m (by simp only [DataW.weights, ht, List.map_cons, List.map_nil, weightsEach_cons, List.mem_append]; exact .inl hm))
    obtain ⟨x1, hx1⟩ := h1.open_ W n _ y1 (by simp; omega) g1 (fun m hm => hw m (by simp only [DataW.weights, ht, List.map_cons, List.map_nil, weightsEach_cons, List.mem_append]; exact .inr (.inl hm)))
    obtain ⟨x2, hx2⟩ := h2.open_ W n _ y2 (by simp; omega) g2 (fun m hm => hw m (by simp only [DataW.weights, ht, List.map_cons, List.map_nil, weightsEach_cons, List.mem_append]; exact .inr (.inr (.inl hm))))
    obtain ⟨x3, hx3⟩ := h3.open_ W n _ y3 (by simp; omega) g3 (fun m hm => hw m (by simp only [DataW.weights, ht, List.map_cons, List.map_nil, weightsEach_cons, List.mem_append]; exact .inr (.inr (.inr (.inl hm)))))
    refine ⟨(x0, x1, x2, x3), cs.take V.sz, cs.drop V.sz, by rw [List.take_append_drop], by simp; omega, hx0, (cs.drop V.sz).take U.sz, cs.drop (V.sz + U.sz), by rw [← List.drop_drop, List.take_append_drop], by simp; omega, hx1, (cs.drop (V.sz + U.sz)).take T.sz, (cs.drop (V.sz + (U.sz + T.sz))).take S.sz, ?_, by simp; omega, hx2, hx3⟩
    rw [List.take_of_length_le (l := cs.drop (V.sz + (U.sz + T.sz))) (by simp; omega), ← Nat.add_assoc, ← List.drop_drop (i := T.sz), List.take_append_drop]
end
section
variable {H : Type} {enc : TypeId × Value → H}
theorem opensV_chunk : OpensV enc Tryz.prog 34 chV :=
  opensV_struct4 (by decide) (by decide) (by decide) Tryz.underlying34 rfl rfl rfl rfl (by kernel_rfl) (by kernel_rfl) opensV_lin (opensV_string Tryz.underlying9 (by kernel_rfl) (by kernel_rfl)) (opensV_int Tryz.underlying3 (by kernel_rfl) (by kernel_rfl)) opensV_lin
theorem opensE_chunk : OpensE enc Tryz.prog 34 6 chV.mem := opensE_of opensV_chunk
end
end Go.Proofs.YtpmndblakmobdaaGreatDoor
