/-
  show.hasA, empty of what is empty; show.stmt, stmts over one of the two makes that are asked.
-/
import Derived.Test.YtpmndblakmobdaaGreatDoorShI
namespace Go.Proofs.YtpmndblakmobdaaGreatDoor
open Go Go.RowKit

set_option maxRecDepth 100000 in
set_option maxHeartbeats 1000000 in
theorem hasA_zero (w : World) : Calls Tryz.prog 122 #[.agg #[.int .i64 0, .int .i64 0, .slice none 0 0, .slice none 0 0, .int .i64 0, .int .i64 0, .string ⟨#[]⟩, .slice none 0 0, .int .i64 0, .int .i64 0, .string ⟨#[]⟩, .slice none 0 0, .string ⟨#[]⟩, .int .i64 0, .slice none 0 0]] w fun e w' => e = .returned (.bool false) ∧ Chg No w w' := by
  have HC := Lib.hid (fun W => hasC_any (zC_is No W))
  have HE := Lib.hid (fun W => hasE_any (zE_is No W))
  have HE2 := Lib.hid (fun W => hasE_any (zE_is No W))
  rw [zC_has] at HC
  rw [zE_has] at HE HE2
  obtain ⟨w3, hw3⟩ : ∃ w3, w3 = w.alloc (.cells #[.int .i64 0, .int .i64 0, .slice none 0 0, .slice none 0 0, .int .i64 0, .int .i64 0, .string ⟨#[]⟩, .slice none 0 0, .int .i64 0, .int .i64 0, .string ⟨#[]⟩, .slice none 0 0, .string ⟨#[]⟩, .int .i64 0, .slice none 0 0] 92) := ⟨_, rfl⟩
  have h3 : Hid (Chg No w w3 ∧ w3.heap[w.heap.size]? = some (.cells #[.int .i64 0, .int .i64 0, .slice none 0 0, .slice none 0 0, .int .i64 0, .int .i64 0, .string ⟨#[]⟩, .slice none 0 0, .int .i64 0, .int .i64 0, .string ⟨#[]⟩, .slice none 0 0, .string ⟨#[]⟩, .int .i64 0, .slice none 0 0] 92 (0, 0))) := by
    rw [hw3]; exact ⟨(Chg.refl _ _).alloc _, heap_alloc_new _ _⟩
  have HO := Lib.hid (fun W (hW : Chg No w3 W) => obj_15 (hW.obj h3.out.2 id))
  have G0 : Hid (Chg No w3 w3) := Chg.refl _ _
  obtain ⟨p0, p1, p2, p3, p4, p5, p6, p7, p8, p9, p10, p11, p12, p13, p14⟩ := HO.out _ G0.out
  go_enter Tryz.func122, Tryz.ntmps122
  go_upto_region 1 with fail
  rw [← hw3]
  clear hw3
  go_wp2_with (first
    | (go_at_call 94; with_reducible refine (HC.out _).mono ?_; rintro e w4 ⟨rfl, h4⟩; have G1 := Lib.hid (G0.out.thenNo h4); clear h4 p0 p1 p2 p3 p4 p5 p6 p7 p8 p9 p10 p11 p12 p13 p14 HC; obtain ⟨p0, p1, p2, p3, p4, p5, p6, p7, p8, p9, p10, p11, p12, p13, p14⟩ := HO.out _ G1.out)
    | (go_at_call 96; with_reducible refine (HE.out _).mono ?_; rintro e w5 ⟨rfl, h5⟩; have G2 := Lib.hid (G1.out.thenNo h5); clear h5 p0 p1 p2 p3 p4 p5 p6 p7 p8 p9 p10 p11 p12 p13 p14 HE; obtain ⟨p0, p1, p2, p3, p4, p5, p6, p7, p8, p9, p10, p11, p12, p13, p14⟩ := HO.out _ G2.out)
    | (go_at_call 96; with_reducible refine (HE2.out _).mono ?_; rintro e w6 ⟨rfl, h6⟩; have G3 := Lib.hid (G2.out.thenNo h6); clear h6 p0 p1 p2 p3 p4 p5 p6 p7 p8 p9 p10 p11 p12 p13 p14 HE2; obtain ⟨p0, p1, p2, p3, p4, p5, p6, p7, p8, p9, p10, p11, p12, p13, p14⟩ := HO.out _ G3.out))
  go_ret
  exact ⟨rfl, h3.out.1.thenNo G3.out⟩

def stm0 : Array Value := #[.int .i64 0, .string ⟨#[]⟩, .string ⟨#[]⟩, .string ⟨#[]⟩, .int .i64 0, .int .i64 0, .string ⟨#[]⟩, .slice none 0 0, .int .i64 0, .int .i64 0, .string ⟨#[]⟩, .slice none 0 0, .int .i64 0, .slice none 0 0, .slice none 0 0, .int .i64 0, .int .i64 0, .slice none 0 0, .slice none 0 0, .int .i64 0, .int .i64 0, .string ⟨#[]⟩, .slice none 0 0, .int .i64 0, .int .i64 0, .string ⟨#[]⟩, .slice none 0 0, .string ⟨#[]⟩, .int .i64 0, .slice none 0 0, .slice none 0 0, .slice none 0 0, .slice none 0 0, .slice none 0 0, .slice none 0 0]
set_option maxRecDepth 100000 in
set_option maxHeartbeats 4000000 in
theorem empty_zero {w : World} {cs : Array Value} (hcs : cs = stm0) : Calls Tryz.prog 114 #[.agg cs] w fun e w' => e = .returned (.bool true) ∧ Chg No w w' := by
  have HC := Lib.hid (fun W => hasC_any (zC_is No W))
  have HE := Lib.hid (fun W => hasE_any (zE_is No W))
  have HE2 := Lib.hid (fun W => hasE_any (zE_is No W))
  have HA := Lib.hid (fun W => hasA_zero W)
  rw [zC_has] at HC
  rw [zE_has] at HE HE2
  obtain ⟨w3, hw3⟩ : ∃ w3, w3 = w.alloc (.cells cs 96) := ⟨_, rfl⟩
  have h3 : Hid (Chg No w w3 ∧ w3.heap[w.heap.size]? = some (.cells cs 96 (0, 0))) := by
    rw [hw3]; exact ⟨(Chg.refl _ _).alloc _, heap_alloc_new _ _⟩
  have HO : Hid (∀ W, Chg No w3 W → (W.cell? ⟨w.heap.size, 0, none⟩ = some (.int .i64 0) ∧ W.cell? ⟨w.heap.size, 1, none⟩ = some (.string ⟨#[]⟩) ∧ W.cell? ⟨w.heap.size, 2, none⟩ = some (.string ⟨#[]⟩) ∧ W.cell? ⟨w.heap.size, 3, none⟩ = some (.string ⟨#[]⟩) ∧ W.cell? ⟨w.heap.size, 4, none⟩ = some (.int .i64 0) ∧ W.cell? ⟨w.heap.size, 5, none⟩ = some (.int .i64 0) ∧ W.cell? ⟨w.heap.size, 6, none⟩ = some (.string ⟨#[]⟩) ∧ W.cell? ⟨w.heap.size, 7, none⟩ = some (.slice none 0 0) ∧ W.cell? ⟨w.heap.size, 8, none⟩ = some (.int .i64 0) ∧ W.cell? ⟨w.heap.size, 9, none⟩ = some (.int .i64 0) ∧ W.cell? ⟨w.heap.size, 10, none⟩ = some (.string ⟨#[]⟩) ∧ W.cell? ⟨w.heap.size, 11, none⟩ = some (.slice none 0 0) ∧ W.cell? ⟨w.heap.size, 12, none⟩ = some (.int .i64 0) ∧ W.cell? ⟨w.heap.size, 13, none⟩ = some (.slice none 0 0) ∧ W.cell? ⟨w.heap.size, 14, none⟩ = some (.slice none 0 0) ∧ W.cell? ⟨w.heap.size, 15, none⟩ = some (.int .i64 0) ∧ W.cell? ⟨w.heap.size, 16, none⟩ = some (.int .i64 0) ∧ W.cell? ⟨w.heap.size, 17, none⟩ = some (.slice none 0 0) ∧ W.cell? ⟨w.heap.size, 18, none⟩ = some (.slice none 0 0) ∧ W.cell? ⟨w.heap.size, 19, none⟩ = some (.int .i64 0) ∧ W.cell? ⟨w.heap.size, 20, none⟩ = some (.int .i64 0) ∧ W.cell? ⟨w.heap.size, 21, none⟩ = some (.string ⟨#[]⟩) ∧ W.cell? ⟨w.heap.size, 22, none⟩ = some (.slice none 0 0) ∧ W.cell? ⟨w.heap.size, 23, none⟩ = some (.int .i64 0) ∧ W.cell? ⟨w.heap.size, 24, none⟩ = some (.int .i64 0) ∧ W.cell? ⟨w.heap.size, 25, none⟩ = some (.string ⟨#[]⟩) ∧ W.cell? ⟨w.heap.size, 26, none⟩ = some (.slice none 0 0) ∧ W.cell? ⟨w.heap.size, 27, none⟩ = some (.string ⟨#[]⟩) ∧ W.cell? ⟨w.heap.size, 28, none⟩ = some (.int .i64 0) ∧ W.cell? ⟨w.heap.size, 29, none⟩ = some (.slice none 0 0) ∧ W.cell? ⟨w.heap.size, 30, none⟩ = some (.slice none 0 0) ∧ W.cell? ⟨w.heap.size, 31, none⟩ = some (.slice none 0 0) ∧ W.cell? ⟨w.heap.size, 32, none⟩ = some (.slice none 0 0) ∧ W.cell? ⟨w.heap.size, 33, none⟩ = some (.slice none 0 0) ∧ W.cell? ⟨w.heap.size, 34, none⟩ = some (.slice none 0 0))) := fun W hW => by
    have h := hW.obj h3.out.2 id
    rw [hcs] at h
    unfold stm0 at h
    simp [World.cell?, h]
  have G0 : Hid (Chg No w3 w3) := Chg.refl _ _
  obtain ⟨p0, p1, p2, p3, p4, p5, p6, p7, p8, p9, p10, p11, p12, p13, p14, p15, p16, p17, p18, p19, p20, p21, p22, p23, p24, p25, p26, p27, p28, p29, p30, p31, p32, p33, p34⟩ := HO.out _ G0.out
  clear hcs
  have hcat : (⟨#[]⟩ : ByteArray) ++ ⟨#[]⟩ = ⟨#[]⟩ := rfl
  go_enter Tryz.func114, Tryz.ntmps114
  go_upto_region 1 with fail
  rw [← hw3]
  clear hw3
  go_wp2_with (first
    | (go_at_call 96; with_reducible refine (HE.out _).mono ?_; rintro e w4 ⟨rfl, h4⟩; have G1 := Lib.hid (G0.out.thenNo h4); clear h4 p0 p1 p2 p3 p4 p5 p6 p7 p8 p9 p10 p11 p12 p13 p14 p15 p16 p17 p18 p19 p20 p21 p22 p23 p24 p25 p26 p27 p28 p29 p30 p31 p32 p33 p34 HE; obtain ⟨p0, p1, p2, p3, p4, p5, p6, p7, p8, p9, p10, p11, p12, p13, p14, p15, p16, p17, p18, p19, p20, p21, p22, p23, p24, p25, p26, p27, p28, p29, p30, p31, p32, p33, p34⟩ := HO.out _ G1.out)
    | (go_at_call 96; with_reducible refine (HE2.out _).mono ?_; rintro e w5 ⟨rfl, h5⟩; have G2 := Lib.hid (G1.out.thenNo h5); clear h5 p0 p1 p2 p3 p4 p5 p6 p7 p8 p9 p10 p11 p12 p13 p14 p15 p16 p17 p18 p19 p20 p21 p22 p23 p24 p25 p26 p27 p28 p29 p30 p31 p32 p33 p34 HE2; obtain ⟨p0, p1, p2, p3, p4, p5, p6, p7, p8, p9, p10, p11, p12, p13, p14, p15, p16, p17, p18, p19, p20, p21, p22, p23, p24, p25, p26, p27, p28, p29, p30, p31, p32, p33, p34⟩ := HO.out _ G2.out)
    | (go_at_call 94; with_reducible refine (HC.out _).mono ?_; rintro e w6 ⟨rfl, h6⟩; have G3 := Lib.hid (G2.out.thenNo h6); clear h6 p0 p1 p2 p3 p4 p5 p6 p7 p8 p9 p10 p11 p12 p13 p14 p15 p16 p17 p18 p19 p20 p21 p22 p23 p24 p25 p26 p27 p28 p29 p30 p31 p32 p33 p34 HC; obtain ⟨p0, p1, p2, p3, p4, p5, p6, p7, p8, p9, p10, p11, p12, p13, p14, p15, p16, p17, p18, p19, p20, p21, p22, p23, p24, p25, p26, p27, p28, p29, p30, p31, p32, p33, p34⟩ := HO.out _ G3.out)
    | (go_at_call 122; with_reducible refine (HA.out _).mono ?_; rintro e w7 ⟨rfl, h7⟩; have G4 := Lib.hid (G3.out.thenNo h7); clear h7 p0 p1 p2 p3 p4 p5 p6 p7 p8 p9 p10 p11 p12 p13 p14 p15 p16 p17 p18 p19 p20 p21 p22 p23 p24 p25 p26 p27 p28 p29 p30 p31 p32 p33 p34 HA; obtain ⟨p0, p1, p2, p3, p4, p5, p6, p7, p8, p9, p10, p11, p12, p13, p14, p15, p16, p17, p18, p19, p20, p21, p22, p23, p24, p25, p26, p27, p28, p29, p30, p31, p32, p33, p34⟩ := HO.out _ G4.out))
  go_ret
  exact ⟨rfl, h3.out.1.thenNo G4.out⟩

theorem objS_set {w : World} {b j : Nat} {cs : Array Value} {t : TypeId} (u : Value) (h : w.heap[b]? = some (.cells cs t (0, 0))) : (w.setCell ⟨b, j, none⟩ u).heap[b]? = some (.cells (cs.setIfInBounds j u) t (0, 0)) := by
  simp [World.setCell, Array.getElem?_modify, h]
theorem objS_far {w : World} {b c j : Nat} {x : Obj} (u : Value) (hn : b ≠ c) (h : w.heap[c]? = some x) : (w.setCell ⟨b, j, none⟩ u).heap[c]? = some x := by
  rw [Below.heap_setCell _ _ _ _ (by simpa using fun e => hn e.symm)]
  exact h
theorem objS_frozen {w : World} {b : Nat} {cs : Array Value} {t : TypeId} (h : w.heap[b]? = some (.cells cs t (0, 0))) (i : Nat) : w.frozen? ⟨b, i, none⟩ = false := by
  simp [World.frozen?, h]
theorem chg_setRow {w : World} {o : Obj} (cs : Array Value) : Chg No w ((w.alloc o).setRow w.heap.size cs) :=
  ⟨rfl, rfl, rfl, by simp [World.setRow], fun k hk _ => by
    have : k ≠ w.heap.size := by omega
    simp only [World.setRow, Array.getElem?_modify]
    rw [if_neg (fun e => this e.symm)]
    exact Below.heap_alloc _ _ _ hk⟩

/-- A whole struct is loaded, at a step that its guard wants. -/
theorem wpList_load_rowG {P : Program} {ops : Array Oper} {rest : List Oper} {o : Oper} {a : Act} {w : World} {Q : Exit → Act → World → Prop} (hw : Region.wanted o (yielded ops a.tmps) = true) (ty : TypeId) (x : Operand) (ho : o.op = .load ty x)
    (g : Nat) (hx : a.eval x = .pointer (some ⟨g, 0, none⟩)) (t : TypeId) (cs : Array Value) (fr : Nat × Nat) (d : TypeDesc) (hg : w.heap[g]? = some (.cells cs t fr))
    (hu : P.underlying ty = some d) (hd : (match d with | .struct _ | .array _ _ => true | _ => false) = true) (hi : (P.info? ty).map (·.size) = some cs.size)
    (h : wpList P ops Q rest (a.put o.dst (.agg cs)) w) : wpList P ops Q (o :: rest) a w :=
  wpList_step fun K hK => by rw [if_pos hw]; exact wp_load_row ty x ho g hx t cs fr d hg hu hd hi (hK _ _ h)

set_option maxRecDepth 100000 in
set_option maxHeartbeats 8000000 in
theorem stmt_1 {m : Nat} {x : ET m} {R : Nat → Prop} {w : World} {ek en : Int} {es : ByteArray} {eB : Option Addr} {ekl eck : Nat} {cs : Array Value} (hcs : cs = stm1 ek en es eB ekl eck) (hK : Keys w) (hx : (exprV m) R w [.int .i64 ek, .int .i64 en, .string es, .slice eB ekl eck] x) :
    Calls Tryz.prog 99 #[.agg cs] w fun e w' => e = .returned (.bool (okE m x)) ∧ Chg No w w' := by
  obtain ⟨w3, hw3⟩ : ∃ w3, w3 = w.alloc (.cells cs 96) := ⟨_, rfl⟩
  have h3 : Hid (Chg No w w3 ∧ w3.heap[w.heap.size]? = some (.cells cs 96 (0, 0)) ∧ w3.heap.size = w.heap.size + 1) := by
    rw [hw3]; exact ⟨(Chg.refl _ _).alloc _, heap_alloc_new _ _, by simp⟩
  have hinfo : (Tryz.prog.info? 96).map (·.size) = some cs.size := by rw [hcs]; kernel_rfl
  have HI := Lib.hid hinfo
  have hone : cs.all (·.oneCell') = true := by rw [hcs]; unfold stm1; simp [Value.oneCell']
  have H1 := Lib.hid hone
  have hsz : cs.size = 35 := by rw [hcs]; rfl
  have HSZ := Lib.hid hsz
  have HCS := Lib.hid hcs
  clear hinfo hone hsz hcs
  have HB3 := Lib.hid h3.out.2.1
  obtain ⟨q, hq⟩ : ∃ q, q = okE m x := ⟨_, rfl⟩
  rw [← hq]
  have HQ := Lib.hid hq
  clear hq
  go_enter Tryz.func99, Tryz.ntmps99
  go_upto_region 1 with fail
  rw [← hw3]
  clear hw3
  go_upto_region 2 with (first
    | (refine wpList_load_row rfl 96 _ rfl w.heap.size rfl 96 cs (0, 0) _ HB3.out Tryz.underlying96 rfl HI.out ?_)
    | (refine wpList_store_row rfl 96 _ _ rfl w3.heap.size cs rfl rfl 96 _ (heap_alloc_new _ _) HI.out (by rw [HSZ.out]; rfl) H1.out ?_))
  obtain ⟨w4, hw4⟩ : ∃ w4, w4 = (w3.alloc (.cells #[.int .i64 0, .string ⟨#[]⟩, .string ⟨#[]⟩, .string ⟨#[]⟩, .int .i64 0, .int .i64 0, .string ⟨#[]⟩, .slice none 0 0, .int .i64 0, .int .i64 0, .string ⟨#[]⟩, .slice none 0 0, .int .i64 0, .slice none 0 0, .slice none 0 0, .int .i64 0, .int .i64 0, .slice none 0 0, .slice none 0 0, .int .i64 0, .int .i64 0, .string ⟨#[]⟩, .slice none 0 0, .int .i64 0, .int .i64 0, .string ⟨#[]⟩, .slice none 0 0, .string ⟨#[]⟩, .int .i64 0, .slice none 0 0, .slice none 0 0, .slice none 0 0, .slice none 0 0, .slice none 0 0, .slice none 0 0] 96)).setRow w3.heap.size cs := ⟨_, rfl⟩
  rw [← hw4]
  obtain ⟨g, hg⟩ : ∃ g, g = w3.heap.size := ⟨_, rfl⟩
  rw [← hg]
  have C4 : Hid (Chg No w w4 ∧ w4.heap[g]? = some (.cells cs 96 (0, 0)) ∧ w4.heap[w.heap.size]? = some (.cells cs 96 (0, 0)) ∧ w.heap.size < g) := by
    have h : Chg No w3 w4 := by rw [hw4]; exact chg_setRow cs
    refine ⟨h3.out.1.thenNo h, ?_, h.obj h3.out.2.1 id, by have := h3.out.2.2; omega⟩
    rw [hw4, hg]
    exact setRow_heap _ _ _ _ _ _ (heap_alloc_new _ _)
  clear hw4 hg HB3 h3
  have q0 : w4.cell? ⟨g, 0, none⟩ = some (.int .i64 1) := by
    have h := C4.out.2.1
    rw [HCS.out] at h
    unfold stm1 at h
    simp [World.cell?, h]
  have f0 := objS_frozen C4.out.2.1 0
  go_upto_region 4 with fail
  obtain ⟨w5, hw5⟩ : ∃ w5, w5 = w4.setCell ⟨g, 0, none⟩ (.int .i64 0) := ⟨_, rfl⟩
  rw [← hw5]
  have C5 : Hid (Chg No w w5 ∧ w5.heap[g]? = some (.cells (cs.setIfInBounds 0 (.int .i64 0)) 96 (0, 0)) ∧ w5.heap[w.heap.size]? = some (.cells cs 96 (0, 0)) ∧ w.heap.size < g) := by
    obtain ⟨a1, a2, a3, a4⟩ := C4.out
    rw [hw5]
    exact ⟨a1.setCell _ _ (fun h => by have h' : g < w.heap.size := h; omega), objS_set _ a2, objS_far _ (by omega) a3, a4⟩
  clear hw5 q0 f0 C4
  have HO : Hid (∀ W, Chg No w5 W → W.cell? ⟨w.heap.size, 0, none⟩ = some (.int .i64 1) ∧ W.cell? ⟨w.heap.size, 1, none⟩ = some (.string ⟨#[120]⟩) ∧ W.cell? ⟨w.heap.size, 2, none⟩ = some (.string ⟨#[]⟩) ∧ W.cell? ⟨w.heap.size, 3, none⟩ = some (.string ⟨#[]⟩) ∧ W.cell? ⟨w.heap.size, 4, none⟩ = some (.int .i64 ek) ∧ W.cell? ⟨w.heap.size, 5, none⟩ = some (.int .i64 en) ∧ W.cell? ⟨w.heap.size, 6, none⟩ = some (.string es) ∧ W.cell? ⟨w.heap.size, 7, none⟩ = some (.slice eB ekl eck) ∧ W.cell? ⟨w.heap.size, 8, none⟩ = some (.int .i64 0) ∧ W.cell? ⟨w.heap.size, 9, none⟩ = some (.int .i64 0) ∧ W.cell? ⟨w.heap.size, 10, none⟩ = some (.string ⟨#[]⟩) ∧ W.cell? ⟨w.heap.size, 11, none⟩ = some (.slice none 0 0) ∧ W.cell? ⟨w.heap.size, 12, none⟩ = some (.int .i64 0) ∧ W.cell? ⟨w.heap.size, 13, none⟩ = some (.slice none 0 0) ∧ W.cell? ⟨w.heap.size, 14, none⟩ = some (.slice none 0 0) ∧ W.cell? ⟨w.heap.size, 15, none⟩ = some (.int .i64 0) ∧ W.cell? ⟨w.heap.size, 16, none⟩ = some (.int .i64 0) ∧ W.cell? ⟨w.heap.size, 17, none⟩ = some (.slice none 0 0) ∧ W.cell? ⟨w.heap.size, 18, none⟩ = some (.slice none 0 0) ∧ W.cell? ⟨w.heap.size, 19, none⟩ = some (.int .i64 0) ∧ W.cell? ⟨w.heap.size, 20, none⟩ = some (.int .i64 0) ∧ W.cell? ⟨w.heap.size, 21, none⟩ = some (.string ⟨#[]⟩) ∧ W.cell? ⟨w.heap.size, 22, none⟩ = some (.slice none 0 0) ∧ W.cell? ⟨w.heap.size, 23, none⟩ = some (.int .i64 0) ∧ W.cell? ⟨w.heap.size, 24, none⟩ = some (.int .i64 0) ∧ W.cell? ⟨w.heap.size, 25, none⟩ = some (.string ⟨#[]⟩) ∧ W.cell? ⟨w.heap.size, 26, none⟩ = some (.slice none 0 0) ∧ W.cell? ⟨w.heap.size, 27, none⟩ = some (.string ⟨#[]⟩) ∧ W.cell? ⟨w.heap.size, 28, none⟩ = some (.int .i64 0) ∧ W.cell? ⟨w.heap.size, 29, none⟩ = some (.slice none 0 0) ∧ W.cell? ⟨w.heap.size, 30, none⟩ = some (.slice none 0 0) ∧ W.cell? ⟨w.heap.size, 31, none⟩ = some (.slice none 0 0) ∧ W.cell? ⟨w.heap.size, 32, none⟩ = some (.slice none 0 0) ∧ W.cell? ⟨w.heap.size, 33, none⟩ = some (.slice none 0 0) ∧ W.cell? ⟨w.heap.size, 34, none⟩ = some (.slice none 0 0)) := fun W hW => by
    have h := hW.obj C5.out.2.2.1 id
    rw [HCS.out] at h
    unfold stm1 at h
    simp [World.cell?, h]
  have HX := Lib.hid (fun W (hW : Chg No w5 W) => expr_any m x R W _ ((hK.no C5.out.1).no hW) ((exprV_good m).no ((exprV_good m).no hx C5.out.1) hW))
  have HN := Lib.hid (fun W (hW : Chg No w5 W) => name_any ⟨#[120]⟩ (by decide) ((hK.no C5.out.1).no hW))
  rw [show nameB ⟨#[120]⟩ = true by kernel_rfl] at HN
  rw [← HQ.out] at HX
  clear hK hx
  have G0 : Hid (Chg No w5 w5) := Chg.refl _ _
  obtain ⟨p0, p1, p2, p3, p4, p5, p6, p7, p8, p9, p10, p11, p12, p13, p14, p15, p16, p17, p18, p19, p20, p21, p22, p23, p24, p25, p26, p27, p28, p29, p30, p31, p32, p33, p34⟩ := HO.out _ G0.out
  go_upto_region 9 with (first | (go_at_call 71; with_reducible refine (HN.out _ G0.out).mono ?_; rintro e w6 ⟨rfl, h6⟩; have G1 := Lib.hid (G0.out.thenNo h6); clear h6 p0 p1 p2 p3 p4 p5 p6 p7 p8 p9 p10 p11 p12 p13 p14 p15 p16 p17 p18 p19 p20 p21 p22 p23 p24 p25 p26 p27 p28 p29 p30 p31 p32 p33 p34 HN; obtain ⟨p0, p1, p2, p3, p4, p5, p6, p7, p8, p9, p10, p11, p12, p13, p14, p15, p16, p17, p18, p19, p20, p21, p22, p23, p24, p25, p26, p27, p28, p29, p30, p31, p32, p33, p34⟩ := HO.out _ G1.out) | (go_at_call 95; with_reducible refine (HX.out _ G1.out).mono ?_; rintro e w6' ⟨rfl, h7⟩; have G2 := Lib.hid (G1.out.thenNo h7); clear h7))
  obtain ⟨w7, hw7⟩ : ∃ w7, w7 = w6' := ⟨_, rfl⟩
  rw [← hw7]
  have G7 : Hid (Chg No w5 w7) := by rw [hw7]; exact G2.out
  clear p0 p1 p2 p3 p4 p5 p6 p7 p8 p9 p10 p11 p12 p13 p14 p15 p16 p17 p18 p19 p20 p21 p22 p23 p24 p25 p26 p27 p28 p29 p30 p31 p32 p33 p34 HO HX hw7 HQ G0 G1 G2
  have O7 := Lib.hid (G7.out.obj C5.out.2.1 id)
  have HF : Hid ((w7.cell? ⟨g, 1, none⟩ = some (.string ⟨#[120]⟩) ∧ w7.frozen? ⟨g, 1, none⟩ = false) ∧ (w7.cell? ⟨g, 4, none⟩ = some (.int .i64 ek) ∧ w7.frozen? ⟨g, 4, none⟩ = false) ∧ (w7.cell? ⟨g, 5, none⟩ = some (.int .i64 en) ∧ w7.frozen? ⟨g, 5, none⟩ = false) ∧ (w7.cell? ⟨g, 6, none⟩ = some (.string es) ∧ w7.frozen? ⟨g, 6, none⟩ = false) ∧ (w7.cell? ⟨g, 7, none⟩ = some (.slice eB ekl eck) ∧ w7.frozen? ⟨g, 7, none⟩ = false)) := by
    have h := O7.out
    rw [HCS.out] at h
    unfold stm1 at h
    unfold Hid
    simp [World.cell?, World.frozen?, h]
  obtain ⟨⟨c1, f1⟩, ⟨c4, f4⟩, ⟨c5, f5⟩, ⟨c6, f6⟩, ⟨c7, f7⟩⟩ := HF.out
  go_upto_region 34 with fail
  obtain ⟨w8, hw8⟩ : ∃ w8, w8 = ((((w7.setCell ⟨g, 1, none⟩ (.string ⟨#[]⟩)).setCell ⟨g, 4, none⟩ (.int .i64 0)).setCell ⟨g, 5, none⟩ (.int .i64 0)).setCell ⟨g, 6, none⟩ (.string ⟨#[]⟩)).setCell ⟨g, 7, none⟩ (.slice none 0 0) := ⟨_, rfl⟩
  rw [← hw8]
  obtain ⟨cs0, hcs0⟩ : ∃ cs0, cs0 = stm0 := ⟨_, rfl⟩
  have C8 : Hid (Chg No w w8 ∧ w8.heap[g]? = some (.cells cs0 96 (0, 0))) := by
    obtain ⟨a1, a2, a3, a4⟩ := C5.out
    rw [hw8]
    refine ⟨?_, ?_⟩
    · refine Chg.setCell ?_ _ _ (fun h => by have h1 : g < w.heap.size := h; omega); refine Chg.setCell ?_ _ _ (fun h => by have h1 : g < w.heap.size := h; omega); refine Chg.setCell ?_ _ _ (fun h => by have h1 : g < w.heap.size := h; omega); refine Chg.setCell ?_ _ _ (fun h => by have h1 : g < w.heap.size := h; omega); refine Chg.setCell ?_ _ _ (fun h => by have h1 : g < w.heap.size := h; omega); exact a1.thenNo G7.out
    · have e : cs0 = ((((((cs.setIfInBounds 0 (.int .i64 0)).setIfInBounds 1 (.string ⟨#[]⟩)).setIfInBounds 4 (.int .i64 0)).setIfInBounds 5 (.int .i64 0)).setIfInBounds 6 (.string ⟨#[]⟩)).setIfInBounds 7 (.slice none 0 0)) := by rw [hcs0, HCS.out]; rfl
      rw [e]
      refine objS_set _ ?_; refine objS_set _ ?_; refine objS_set _ ?_; refine objS_set _ ?_; refine objS_set _ ?_; exact O7.out
  have HI0 : Hid ((Tryz.prog.info? 96).map (·.size) = some cs0.size) := by unfold Hid; rw [hcs0]; kernel_rfl
  have HEM := Lib.hid (fun W => empty_zero (w := W) hcs0)
  have HB8 := Lib.hid C8.out.2
  clear hw8 hcs0 HF O7 G7 c1 f1 c4 f4 c5 f5 c6 f6 c7 f7
  cases q
  · go_wp2_with fail
    go_ret
    exact ⟨rfl, C8.out.1⟩
  · go_wp2_with (first
      | (refine wpList_load_rowG (by rfl) 96 _ rfl g rfl 96 cs0 (0, 0) _ HB8.out Tryz.underlying96 rfl HI0.out ?_)
      | (go_at_call 114; refine (HEM.out _).mono ?_; rintro e w9 ⟨rfl, h9⟩))
    go_ret
    exact ⟨rfl, C8.out.1.thenNo h9⟩

set_option maxRecDepth 100000 in
set_option maxHeartbeats 8000000 in
theorem stmt_8 {m n : Nat} {x : CT m n} {R : Nat → Prop} {w : World} {ck : Int} {cA : Option Addr} {cel cca : Nat} {cB : Option Addr} {ckl cck : Nat} {cs : Array Value} (hcs : cs = stm8 ck cA cel cca cB ckl cck) (hK : Keys w) (hx : (condV m n) R w [.int .i64 ck, .slice cA cel cca, .slice cB ckl cck] x) :
    Calls Tryz.prog 99 #[.agg cs] w fun e w' => e = .returned (.bool (okC m n x)) ∧ Chg No w w' := by
  obtain ⟨w3, hw3⟩ : ∃ w3, w3 = w.alloc (.cells cs 96) := ⟨_, rfl⟩
  have h3 : Hid (Chg No w w3 ∧ w3.heap[w.heap.size]? = some (.cells cs 96 (0, 0)) ∧ w3.heap.size = w.heap.size + 1) := by
    rw [hw3]; exact ⟨(Chg.refl _ _).alloc _, heap_alloc_new _ _, by simp⟩
  have hinfo : (Tryz.prog.info? 96).map (·.size) = some cs.size := by rw [hcs]; kernel_rfl
  have HI := Lib.hid hinfo
  have hone : cs.all (·.oneCell') = true := by rw [hcs]; unfold stm8; simp [Value.oneCell']
  have H1 := Lib.hid hone
  have hsz : cs.size = 35 := by rw [hcs]; rfl
  have HSZ := Lib.hid hsz
  have HCS := Lib.hid hcs
  clear hinfo hone hsz hcs
  have HB3 := Lib.hid h3.out.2.1
  obtain ⟨q, hq⟩ : ∃ q, q = okC m n x := ⟨_, rfl⟩
  rw [← hq]
  have HQ := Lib.hid hq
  clear hq
  go_enter Tryz.func99, Tryz.ntmps99
  go_upto_region 1 with fail
  rw [← hw3]
  clear hw3
  go_upto_region 2 with (first
    | (refine wpList_load_row rfl 96 _ rfl w.heap.size rfl 96 cs (0, 0) _ HB3.out Tryz.underlying96 rfl HI.out ?_)
    | (refine wpList_store_row rfl 96 _ _ rfl w3.heap.size cs rfl rfl 96 _ (heap_alloc_new _ _) HI.out (by rw [HSZ.out]; rfl) H1.out ?_))
  obtain ⟨w4, hw4⟩ : ∃ w4, w4 = (w3.alloc (.cells #[.int .i64 0, .string ⟨#[]⟩, .string ⟨#[]⟩, .string ⟨#[]⟩, .int .i64 0, .int .i64 0, .string ⟨#[]⟩, .slice none 0 0, .int .i64 0, .int .i64 0, .string ⟨#[]⟩, .slice none 0 0, .int .i64 0, .slice none 0 0, .slice none 0 0, .int .i64 0, .int .i64 0, .slice none 0 0, .slice none 0 0, .int .i64 0, .int .i64 0, .string ⟨#[]⟩, .slice none 0 0, .int .i64 0, .int .i64 0, .string ⟨#[]⟩, .slice none 0 0, .string ⟨#[]⟩, .int .i64 0, .slice none 0 0, .slice none 0 0, .slice none 0 0, .slice none 0 0, .slice none 0 0, .slice none 0 0] 96)).setRow w3.heap.size cs := ⟨_, rfl⟩
  rw [← hw4]
  obtain ⟨g, hg⟩ : ∃ g, g = w3.heap.size := ⟨_, rfl⟩
  rw [← hg]
  have C4 : Hid (Chg No w w4 ∧ w4.heap[g]? = some (.cells cs 96 (0, 0)) ∧ w4.heap[w.heap.size]? = some (.cells cs 96 (0, 0)) ∧ w.heap.size < g) := by
    have h : Chg No w3 w4 := by rw [hw4]; exact chg_setRow cs
    refine ⟨h3.out.1.thenNo h, ?_, h.obj h3.out.2.1 id, by have := h3.out.2.2; omega⟩
    rw [hw4, hg]
    exact setRow_heap _ _ _ _ _ _ (heap_alloc_new _ _)
  clear hw4 hg HB3 h3
  have q0 : w4.cell? ⟨g, 0, none⟩ = some (.int .i64 8) := by
    have h := C4.out.2.1
    rw [HCS.out] at h
    unfold stm8 at h
    simp [World.cell?, h]
  have f0 := objS_frozen C4.out.2.1 0
  go_upto_region 4 with fail
  obtain ⟨w5, hw5⟩ : ∃ w5, w5 = w4.setCell ⟨g, 0, none⟩ (.int .i64 0) := ⟨_, rfl⟩
  rw [← hw5]
  have C5 : Hid (Chg No w w5 ∧ w5.heap[g]? = some (.cells (cs.setIfInBounds 0 (.int .i64 0)) 96 (0, 0)) ∧ w5.heap[w.heap.size]? = some (.cells cs 96 (0, 0)) ∧ w.heap.size < g) := by
    obtain ⟨a1, a2, a3, a4⟩ := C4.out
    rw [hw5]
    exact ⟨a1.setCell _ _ (fun h => by have h' : g < w.heap.size := h; omega), objS_set _ a2, objS_far _ (by omega) a3, a4⟩
  clear hw5 q0 f0 C4
  have HO : Hid (∀ W, Chg No w5 W → W.cell? ⟨w.heap.size, 0, none⟩ = some (.int .i64 8) ∧ W.cell? ⟨w.heap.size, 1, none⟩ = some (.string ⟨#[]⟩) ∧ W.cell? ⟨w.heap.size, 2, none⟩ = some (.string ⟨#[]⟩) ∧ W.cell? ⟨w.heap.size, 3, none⟩ = some (.string ⟨#[]⟩) ∧ W.cell? ⟨w.heap.size, 4, none⟩ = some (.int .i64 0) ∧ W.cell? ⟨w.heap.size, 5, none⟩ = some (.int .i64 0) ∧ W.cell? ⟨w.heap.size, 6, none⟩ = some (.string ⟨#[]⟩) ∧ W.cell? ⟨w.heap.size, 7, none⟩ = some (.slice none 0 0) ∧ W.cell? ⟨w.heap.size, 8, none⟩ = some (.int .i64 0) ∧ W.cell? ⟨w.heap.size, 9, none⟩ = some (.int .i64 0) ∧ W.cell? ⟨w.heap.size, 10, none⟩ = some (.string ⟨#[]⟩) ∧ W.cell? ⟨w.heap.size, 11, none⟩ = some (.slice none 0 0) ∧ W.cell? ⟨w.heap.size, 12, none⟩ = some (.int .i64 ck) ∧ W.cell? ⟨w.heap.size, 13, none⟩ = some (.slice cA cel cca) ∧ W.cell? ⟨w.heap.size, 14, none⟩ = some (.slice cB ckl cck) ∧ W.cell? ⟨w.heap.size, 15, none⟩ = some (.int .i64 0) ∧ W.cell? ⟨w.heap.size, 16, none⟩ = some (.int .i64 0) ∧ W.cell? ⟨w.heap.size, 17, none⟩ = some (.slice none 0 0) ∧ W.cell? ⟨w.heap.size, 18, none⟩ = some (.slice none 0 0) ∧ W.cell? ⟨w.heap.size, 19, none⟩ = some (.int .i64 0) ∧ W.cell? ⟨w.heap.size, 20, none⟩ = some (.int .i64 0) ∧ W.cell? ⟨w.heap.size, 21, none⟩ = some (.string ⟨#[]⟩) ∧ W.cell? ⟨w.heap.size, 22, none⟩ = some (.slice none 0 0) ∧ W.cell? ⟨w.heap.size, 23, none⟩ = some (.int .i64 0) ∧ W.cell? ⟨w.heap.size, 24, none⟩ = some (.int .i64 0) ∧ W.cell? ⟨w.heap.size, 25, none⟩ = some (.string ⟨#[]⟩) ∧ W.cell? ⟨w.heap.size, 26, none⟩ = some (.slice none 0 0) ∧ W.cell? ⟨w.heap.size, 27, none⟩ = some (.string ⟨#[]⟩) ∧ W.cell? ⟨w.heap.size, 28, none⟩ = some (.int .i64 0) ∧ W.cell? ⟨w.heap.size, 29, none⟩ = some (.slice none 0 0) ∧ W.cell? ⟨w.heap.size, 30, none⟩ = some (.slice none 0 0) ∧ W.cell? ⟨w.heap.size, 31, none⟩ = some (.slice none 0 0) ∧ W.cell? ⟨w.heap.size, 32, none⟩ = some (.slice none 0 0) ∧ W.cell? ⟨w.heap.size, 33, none⟩ = some (.slice none 0 0) ∧ W.cell? ⟨w.heap.size, 34, none⟩ = some (.slice none 0 0)) := fun W hW => by
    have h := hW.obj C5.out.2.2.1 id
    rw [HCS.out] at h
    unfold stm8 at h
    simp [World.cell?, h]
  have HX := Lib.hid (fun W (hW : Chg No w5 W) => cond_any m n x R W _ ((hK.no C5.out.1).no hW) ((condV_good m n).no ((condV_good m n).no hx C5.out.1) hW))
  rw [← HQ.out] at HX
  clear hK hx
  have G0 : Hid (Chg No w5 w5) := Chg.refl _ _
  obtain ⟨p0, p1, p2, p3, p4, p5, p6, p7, p8, p9, p10, p11, p12, p13, p14, p15, p16, p17, p18, p19, p20, p21, p22, p23, p24, p25, p26, p27, p28, p29, p30, p31, p32, p33, p34⟩ := HO.out _ G0.out
  go_upto_region 30 with (go_at_call 93; with_reducible refine (HX.out _ G0.out).mono ?_; rintro e w6' ⟨rfl, h7⟩; have G1 := Lib.hid (G0.out.thenNo h7); clear h7)
  obtain ⟨w7, hw7⟩ : ∃ w7, w7 = w6' := ⟨_, rfl⟩
  rw [← hw7]
  have G7 : Hid (Chg No w5 w7) := by rw [hw7]; exact G1.out
  clear p0 p1 p2 p3 p4 p5 p6 p7 p8 p9 p10 p11 p12 p13 p14 p15 p16 p17 p18 p19 p20 p21 p22 p23 p24 p25 p26 p27 p28 p29 p30 p31 p32 p33 p34 HO HX hw7 HQ G0 G1
  have O7 := Lib.hid (G7.out.obj C5.out.2.1 id)
  have HF : Hid ((w7.cell? ⟨g, 12, none⟩ = some (.int .i64 ck) ∧ w7.frozen? ⟨g, 12, none⟩ = false) ∧ (w7.cell? ⟨g, 13, none⟩ = some (.slice cA cel cca) ∧ w7.frozen? ⟨g, 13, none⟩ = false) ∧ (w7.cell? ⟨g, 14, none⟩ = some (.slice cB ckl cck) ∧ w7.frozen? ⟨g, 14, none⟩ = false)) := by
    have h := O7.out
    rw [HCS.out] at h
    unfold stm8 at h
    unfold Hid
    simp [World.cell?, World.frozen?, h]
  obtain ⟨⟨c12, f12⟩, ⟨c13, f13⟩, ⟨c14, f14⟩⟩ := HF.out
  go_upto_region 34 with fail
  obtain ⟨w8, hw8⟩ : ∃ w8, w8 = ((w7.setCell ⟨g, 12, none⟩ (.int .i64 0)).setCell ⟨g, 13, none⟩ (.slice none 0 0)).setCell ⟨g, 14, none⟩ (.slice none 0 0) := ⟨_, rfl⟩
  rw [← hw8]
  obtain ⟨cs0, hcs0⟩ : ∃ cs0, cs0 = stm0 := ⟨_, rfl⟩
  have C8 : Hid (Chg No w w8 ∧ w8.heap[g]? = some (.cells cs0 96 (0, 0))) := by
    obtain ⟨a1, a2, a3, a4⟩ := C5.out
    rw [hw8]
    refine ⟨?_, ?_⟩
    · refine Chg.setCell ?_ _ _ (fun h => by have h1 : g < w.heap.size := h; omega); refine Chg.setCell ?_ _ _ (fun h => by have h1 : g < w.heap.size := h; omega); refine Chg.setCell ?_ _ _ (fun h => by have h1 : g < w.heap.size := h; omega); exact a1.thenNo G7.out
    · have e : cs0 = ((((cs.setIfInBounds 0 (.int .i64 0)).setIfInBounds 12 (.int .i64 0)).setIfInBounds 13 (.slice none 0 0)).setIfInBounds 14 (.slice none 0 0)) := by rw [hcs0, HCS.out]; rfl
      rw [e]
      refine objS_set _ ?_; refine objS_set _ ?_; refine objS_set _ ?_; exact O7.out
  have HI0 : Hid ((Tryz.prog.info? 96).map (·.size) = some cs0.size) := by unfold Hid; rw [hcs0]; kernel_rfl
  have HEM := Lib.hid (fun W => empty_zero (w := W) hcs0)
  have HB8 := Lib.hid C8.out.2
  clear hw8 hcs0 HF O7 G7 c12 f12 c13 f13 c14 f14
  cases q
  · go_wp2_with fail
    go_ret
    exact ⟨rfl, C8.out.1⟩
  · go_wp2_with (first
      | (refine wpList_load_rowG (by rfl) 96 _ rfl g rfl 96 cs0 (0, 0) _ HB8.out Tryz.underlying96 rfl HI0.out ?_)
      | (go_at_call 114; refine (HEM.out _).mono ?_; rintro e w9 ⟨rfl, h9⟩))
    go_ret
    exact ⟨rfl, C8.out.1.thenNo h9⟩
end Go.Proofs.YtpmndblakmobdaaGreatDoor
