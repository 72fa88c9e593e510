/-
  Chapter 17: slices.Delete over cells; Insert whole; plain setting and dropping.
-/
import Derived.Test.YtbcgffnmbmbjdaaHpK
namespace Go.Proofs.Ytbcgffnmbmbjdaa
open Go Go.RowKit

theorem insert_any {M : Nat → Prop} {w : World} (hM : ∀ k, w.heap.size ≤ k → M k) {A : Option Addr} {n cap : Nat} {l : List Tri} (h : OTris 39 M w (.slice A n cap) l) (hn : n = l.length) (hlen : l.length ≤ 100000) {vb i : Nat} (hi : i ≤ n) {c : Tri} (hv : OneAt w vb c) (hvg : (Value.slice A n cap).ownBlock ≠ some vb) (hc : TriOk c) :
    Calls Try.prog 35 #[.slice A n cap, .int .i64 i, .slice (some ⟨vb, 0, none⟩) 1 1] w fun e w' => ∃ A' cap', e = .returned (.slice A' (n + 1) cap') ∧ OTris 39 M w' (.slice A' (n + 1) cap') (l.take i ++ c :: l.drop i) ∧ Chg (fun k => (Value.slice A n cap).ownBlock = some k) w w' := by
  rcases Nat.lt_or_ge i n with hlt | hge
  · have hA : ∃ g o, A = some ⟨g, o, none⟩ := by
      rcases (OTris.iff.1 h).1.2 with ⟨e, h0⟩ | ⟨g, o, cap', cur, e, _⟩
      · omega
      · injection e with e1
        exact ⟨g, o, e1⟩
    obtain ⟨g, o, rfl⟩ := hA
    rcases Nat.lt_or_ge cap (n + 1) with g1 | g1
    · refine (insert_grow hM h hn hlen hlt g1 hv hc).mono ?_
      rintro e w' ⟨G, rfl, h1, h2⟩
      exact ⟨_, G, rfl, h1, h2.no⟩
    · refine (insert_shift h hn hlen hlt g1 hv (fun e => hvg (by simp [Value.ownBlock, e])) hc).mono ?_
      rintro e w' ⟨rfl, h1, h2⟩
      exact ⟨_, cap, rfl, h1, h2.mono (fun k hk _ => by simp [Value.ownBlock, hk])⟩
  · obtain rfl : i = n := by omega
    refine (insert_end hM h hn hlen hv hc).mono ?_
    rintro e w' ⟨A', cap', rfl, h1, h2⟩
    refine ⟨A', cap', rfl, ?_, h2⟩
    rw [hn, List.take_length, List.drop_length]
    rw [hn] at h1
    exact h1

section
variable {P : Program}
theorem step_append_runK {ops : Array Oper} {o : Oper} {a : Act} {w : World} {K : Act → World → Prop} {Q : Exit → Act → World → Prop} {E : Prop}
    (hg : o.guard = none) (d x : Operand) (dT sT : TypeId) (hop : o.op = Op.call { callee := Callee.builtin Builtin.append, args := #[d, x], argTypes := #[dT, sT] })
    (v u : Value) (hd : a.eval d = v) (hx : a.eval x = u) {v' : Value} {w' : World} (hr : (Builtin.append_ #[dT, sT] o.type #[v, u]).run P w = .ok v' w') (hK : K (a.put o.dst v') w') :
    if Region.wanted o (yielded ops a.tmps) = true then Oper.wp P o a w K Q else E := by
  have hw : Region.wanted o (yielded ops a.tmps) = true := by simp [Region.wanted, hg]
  rw [if_pos hw]
  unfold Oper.wp
  simp [execOp, hop, resolve, invoke, builtin, hd, hx, hr, Result.andThen]
  exact hK
theorem wpList_clear_runK (w : World) {ops : Array Oper} {rest : List Oper} {o : Oper} {a : Act} {Q : Exit → Act → World → Prop} (hgd : o.guard = none) (d : Operand) (t : TypeId)
    (ho : o.op = .call { callee := .builtin .clear, args := #[d], argTypes := #[t] }) (v : Value) (hd : a.eval d = v) {v' : Value} {w' : World}
    (hr : (Builtin.clear_ #[t] o.type #[v]).run P w = .ok v' w') (h : wpList P ops Q rest (a.put o.dst v') w') : wpList P ops Q (o :: rest) a w :=
  wpList_plain hgd fun _ hK => by
    unfold Oper.wp execOp
    simp only [ho, resolve, invoke, builtin, Sem.run_bind, Sem.run_pure, Result.andThen_ok, List.map_toArray, List.map_cons, List.map_nil, hd, hr]
    exact hK _ _ h
end
def zero3 : List Value := [.int .i64 0, .string ByteArray.empty, .int .i64 0]
theorem clear_one (w : World) (ty : TypeId) (b o c : Nat) (hc : ∀ j, j < 3 → (w.cell? ⟨b, o + j, none⟩).isSome = true) (hf : ∀ j, j < 3 → w.frozen? ⟨b, o + j, none⟩ = false) :
    (Builtin.clear_ #[28] ty #[.slice (some ⟨b, o, none⟩) 1 c]).run Try.prog w = .ok (.tuple #[]) (w.setCells b o zero3) := by
  have hz : (Builtin.zeroCells zT.cells 1).toList = zero3 := by
    unfold Builtin.zeroCells
    rw [Array.toList_map, Array.toList_range]
    rfl
  have hz3 : zero3.length = 3 := rfl
  have hv := Try.zeroValue39
  have hst := run_storeCells_cells (P := Try.prog) b o zero3 0 w (by rw [hz3]; simpa using hc) (by rw [hz3]; simpa using hf) (fun v hv => by
    simp [zero3] at hv
    rcases hv with rfl | rfl | rfl <;> rfl)
  simp only [Nat.add_zero] at hst
  simp [Builtin.clear_, run_underlying Try.underlying28, hv]
  have hz2 : (Builtin.zeroCells (Value.agg #[Value.int .i64 0, Value.string { data := #[] }, Value.int .i64 0]).cells 1).toList = zero3 := hz
  rw [hz2, hst]
  rfl

set_option maxRecDepth 100000 in
set_option maxHeartbeats 4000000 in
theorem delete_any {M : Nat → Prop} {w : World} {g o k cap : Nat} {l : List Tri} (h : OTris 39 M w (.slice (some ⟨g, o, none⟩) (k + 1) cap) l) (hn : k + 1 = l.length) (hlen : l.length ≤ 100000) {i : Nat} (hi : i ≤ k) :
    Calls Try.prog 36 #[.slice (some ⟨g, o, none⟩) (k + 1) cap, .int .i64 i, .int .i64 (i + 1)] w fun e w' => e = .returned (.slice (some ⟨g, o, none⟩) k cap) ∧ OTris 39 M w' (.slice (some ⟨g, o, none⟩) k cap) (l.take i ++ l.drop (i + 1)) ∧ Chg (fun k => k = g) w w' := by
  obtain ⟨hnn, hMg, hnc, hmax, hok, C, hC, hCs, hCe⟩ := h.blk
  clear h
  have hbc := blk_cell hC
  have hbf := blk_frozen hC
  obtain ⟨i0, hi0, hz0, hzs, hzb⟩ := info_parts cellsTy.info
  have hdl : ((encL l).drop ((i + 1) * 3)).length = (k - i) * 3 := by rw [List.length_drop, encL_length, ← hn]; omega
  have hap : ∀ ty a' n' c', n' = k - i → (∀ j u, ((encL l).drop ((i + 1) * 3))[j]? = some u → w.cell? ((a' : Addr).add j) = some u) → (Builtin.append_ #[28, 28] ty #[.slice (some ⟨g, o, none⟩) i cap, .slice (some a') n' c']).run Try.prog w.drew = .ok (.slice (some ⟨g, o, none⟩) k cap) (w.drew.setCells g (o + i * 3) ((encL l).drop ((i + 1) * 3))) := fun ty a' n' c' hn' hnews => by
    subst hn'
    have hs : Src Try.prog i0.size 28 (.slice (some a') (k - i) c') (k - i) ((encL l).drop ((i + 1) * 3)) w.drew := by
      rw [hzs]
      exact Src.ofSlice w.drew Try.underlying28 a' (k - i) c' _ hdl (fun j u hj => hnews j u hj) (fun u hu => encL_one l u (List.mem_of_mem_drop hu))
    have := run_append_room_src w.drew 28 28 ty 39 i0 Try.underlying28 hi0 g o i cap _ (k - i) _ hs (by omega)
      (fun j hj => by rw [hzs]; show (w.cell? _).isSome = true; rw [hbc, Array.getElem?_eq_getElem (by omega)]; rfl) (fun j hj => hbf _)
    rw [hzs, show i + (k - i) = k by omega] at this
    exact this
  obtain ⟨C1, hC1, hs1, he1⟩ := setCells_blk (e := 39) g ((encL l).drop ((i + 1) * 3)) (o + i * 3) w.drew C hC (by omega)
  have hch1 := setCells_chg g ((encL l).drop ((i + 1) * 3)) (o + i * 3) w.drew
  obtain ⟨W1, hW1⟩ : ∃ W1, W1 = w.drew.setCells g (o + i * 3) ((encL l).drop ((i + 1) * 3)) := ⟨_, rfl⟩
  rw [← hW1] at hap hC1 hch1
  have hch1' : Chg (fun k => k = g) w W1 := ((Chg.refl _ w).drew).trans hch1 (fun k hk _ => hk)
  have hl3 : zero3.length = 3 := rfl
  have hcl : ∀ ty c', (Builtin.clear_ #[28] ty #[.slice (some ⟨g, o + k * 3, none⟩) 1 c']).run Try.prog W1 = .ok (.tuple #[]) (W1.setCells g (o + k * 3) zero3) := fun ty c' =>
    clear_one W1 ty g (o + k * 3) c' (fun j hj => by rw [blk_cell hC1, Array.getElem?_eq_getElem (by omega)]; rfl) (fun j hj => blk_frozen hC1 _)
  obtain ⟨C2, hC2, hs2, he2⟩ := setCells_blk (e := 39) g zero3 (o + k * 3) W1 C1 hC1 (by omega)
  have hlen2 : (l.take i ++ l.drop (i + 1)).length = k := by simp; omega
  have hfin : OTris 39 M (W1.setCells g (o + k * 3) zero3) (.slice (some ⟨g, o, none⟩) k cap) (l.take i ++ l.drop (i + 1)) ∧ Chg (fun k => k = g) w (W1.setCells g (o + k * 3) zero3) := by
    refine ⟨?_, hch1'.trans (setCells_chg g _ _ W1) (fun k hk _ => hk)⟩
    have := OTris.mkB (o := o) (cap := cap) (l := l.take i ++ l.drop (i + 1)) hMg (by omega) hmax (fun m hm => ?_) hC2 (by omega) (fun j u hj => ?_)
    · rw [hlen2] at this; exact this
    · rcases List.mem_append.1 hm with hm | hm
      · exact hok m (List.mem_of_mem_take hm)
      · exact hok m (List.mem_of_mem_drop hm)
    · have hjl := (List.getElem?_eq_some_iff.1 hj).1
      rw [encL_length, hlen2] at hjl
      rw [encL_append, encL_take, encL_drop] at hj
      have htl : ((encL l).take (i * 3)).length = i * 3 := by rw [List.length_take, encL_length]; omega
      rw [he2, if_neg (by omega), he1]
      by_cases ha : j < i * 3
      · rw [if_neg (by omega)]
        rw [List.getElem?_append_left (by omega), List.getElem?_take_of_lt ha] at hj
        exact hCe _ _ hj
      · rw [List.getElem?_append_right (by omega), htl] at hj
        rw [if_pos (by omega), show o + j - (o + i * 3) = j - i * 3 by omega]
        exact hj
  have HFIN := Lib.hid hfin
  have HW1 := Lib.hid hW1
  have hkb : k ≤ 100000 := by omega
  have hc63 : cap ≤ 9223372036854775807 := hmax
  have hnews : ∀ j u, ((encL l).drop ((i + 1) * 3))[j]? = some u → w.cell? ((⟨g, o + (i + 1) * 3, none⟩ : Addr).add j) = some u := fun j u hj => by
    rw [addr_add, hbc, Nat.add_assoc]
    rw [List.getElem?_drop] at hj
    exact hCe _ _ hj
  have hnil : k = i → ∀ (a' : Addr) j u, ((encL l).drop ((i + 1) * 3))[j]? = some u → w.cell? (a'.add j) = some u := fun e a' j u hj => by
    rw [show (encL l).drop ((i + 1) * 3) = [] from List.eq_nil_of_length_eq_zero (by rw [hdl]; omega)] at hj
    simp at hj
  have HNE := Lib.hid hnews
  have HNI := Lib.hid hnil
  have HAP := Lib.hid hap
  clear hnn hMg hok hC hCs hCe hbc hbf hi0 hz0 hzs hzb hap hC1 hs1 he1 hch1 hW1 hch1' hC2 hs2 he2 hlen2 hfin hmax hn hlen hdl hnews hnil
  have hw1 : IntKind.i64.wrap ((i : Int) + 1) = (i : Int) + 1 := by rw [IntKind.wrap_i64]; omega
  have hne : ¬ ((i : Int) = (i : Int) + 1) := by omega
  have hb1 : (0 : Int) ≤ (i : Int) + 1 := by omega
  have htn : ((i : Int) + 1).toNat = i + 1 := by omega
  go_enter Try.func36, Try.ntmps36
  go_upto_region 5 with fail
  by_cases hcc : cap = i + 1
  case' pos =>
    obtain rfl : k = i := by omega
    subst hcc
    have hkk : (k : Int) ≤ (k : Int) + 1 := by omega
    go_region_law ((refine step_append_runK (by rfl) (.tmp 22) (.tmp 25) 28 28 (by rfl) (.slice (some ⟨g, o, none⟩) k (k + 1)) (.slice (some ⟨g, o, none⟩) 0 0) (by simp [Act.eval, Act.put]) (by simp [Act.eval, Act.put]) (HAP.out _ _ _ _ (by omega) (HNI.out rfl _)) ?_))
  case' neg =>
    have hkk : (i : Int) ≤ (cap : Int) := by omega
    have hkl : (i : Int) + 1 ≤ (k : Int) + 1 := by omega
    go_region_law ((refine step_append_runK (by rfl) (.tmp 22) (.tmp 25) 28 28 (by rfl) (.slice (some ⟨g, o, none⟩) i cap) (.slice (some ⟨g, o + (i + 1) * 3, none⟩) (k + 1 - (i + 1)) (cap - (i + 1))) (by simp [Act.eval, Act.put]) (by simp [Act.eval, Act.put]) (HAP.out _ _ _ _ (by omega) HNE.out) ?_))
  all_goals
    go_wp2_with (at_builtin; refine wpList_clear_runK _ rfl (.tmp 31) 28 rfl _ rfl (hcl _ _) ?_)
    go_ret
    exact ⟨rfl, HFIN.out⟩
end Go.Proofs.Ytbcgffnmbmbjdaa
