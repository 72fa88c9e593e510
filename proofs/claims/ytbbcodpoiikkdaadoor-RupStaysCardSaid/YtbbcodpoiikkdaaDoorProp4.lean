/-
  The walk over prop.Follow, where nothing is amiss.
-/
import Derived.Test.YtbbcodpoiikkdaaDoorProp3
namespace Go.Proofs.YtbbcodpoiikkdaaDoor
open Go Go.RowKit

/-- What prop.Follow comes to. -/
def FolPost (n : Nat) (cl : List (List Int)) (lits : List Int) (w : World) (e : Ending) (w' : World) : Prop :=
  Chg No w w' ∧ ((e = .returned (.tuple #[.slice none 0 0, .bool true, .nilIface]) ∧ Confl cl lits) ∨
    ∃ a ba, e = .returned (.tuple #[.slice (some ⟨ba, 0, none⟩) a.length a.length, .bool false, .nilIface]) ∧ Fol n cl lits a ∧ w.heap.size ≤ ba ∧ w'.heap[ba]? = some (.cells (a.map (Value.int .i64)).toArray 3 (0, 0)))

theorem follow_made {w w2 w3 w4 : World} {x : Int} {X Y o : Obj} (hc2 : Chg No w w2) (hlt : w.heap.size < w2.heap.size) (hb2 : w2.cell? ⟨w.heap.size, 0, none⟩ = some (.int .i64 x)) (hm3 : w3.heap[w2.heap.size]? = some X) (hc3 : Chg No w2 w3) (hs3 : w3.heap.size = w2.heap.size + 1)
    (hm4 : w4.heap[(w3.alloc o).heap.size]? = some Y) (hc4 : Chg No (w3.alloc o) w4) (hs4 : w4.heap.size = (w3.alloc o).heap.size + 1) :
    Chg No w w4 ∧ w4.heap.size = w2.heap.size + 3 ∧ w.heap.size < w2.heap.size ∧ w4.cell? ⟨w.heap.size, 0, none⟩ = some (.int .i64 x) ∧ w4.heap[w2.heap.size]? = some X ∧ w4.heap[w2.heap.size + 1]? = some o ∧ w4.heap[w2.heap.size + 2]? = some Y := by
  have e : (w3.alloc o).heap.size = w2.heap.size + 2 := by simp [hs3]
  rw [e] at hm4 hs4
  have c34 : Chg No w3 w4 := ((Chg.refl No w3).alloc o).thenNo hc4
  refine ⟨(hc2.thenNo hc3).thenNo c34, by omega, hlt, (hc3.thenNo c34).cell hb2 id, c34.obj hm3 id, ?_, hm4⟩
  refine hc4.obj ?_ id
  rw [← hs3]
  exact heap_alloc_new w3 o

set_option maxRecDepth 100000 in
set_option maxHeartbeats 2000000 in
theorem follow_good {R R' : Nat → Prop} {w : World} (n : Int) {A A' : Option Addr} {cl : List (List Int)} {cap cap' : Nat} (hcl : Rows2 R w A cl cap) {lits : List Int} (hlits : Ints R' w A' lits cap') (hgood : chk n cl = 0) (hfine : badLits n lits = false) :
    Calls Tryd.prog 18 #[.int .i64 n, .slice A cl.length cap, .slice A' lits.length cap'] w (FolPost n.toNat cl lits w) := by
  have H : Hid (∀ W, Chg No w W → Calls Tryd.prog 16 #[.int .i64 n, .slice A cl.length cap] W fun e w' => e = .returned .nilIface ∧ Chg No W w') := fun W hW => by
    have := check_any n R W A cl cap (hcl.no rowE_good hW)
    rw [hgood] at this
    exact this
  obtain ⟨N, rfl, hN, hlen, hcs⟩ := chk_zero hgood
  have HC : Hid (∀ W, Chg No w W → W.cell? ⟨w.heap.size, 0, none⟩ = some (.int .i64 N) → Calls Tryd.prog 26 #[.slice A' lits.length cap', .func (.func 32) #[] #[.pointer (some ⟨w.heap.size, 0, none⟩)]] W fun e w' => e = .returned (.bool (badLits N lits)) ∧ Chg No W w') := fun W hW hcell =>
    containsFunc_ints R' W A' lits cap' (hlits.no intE_good hW) 32 entered_follow1 (.pointer (some ⟨w.heap.size, 0, none⟩)) (fun l => !litB N l)
      (fun w' hw' i hi => (follow1_any N lits[i] w.heap.size w' (by omega) (by omega) (hw'.cell hcell id)).mono (by rintro e w1 ⟨rfl, rfl⟩; exact ⟨rfl, Chg.refl _ _⟩))
  rw [hfine] at HC
  have Hcs := Lib.hid hcs
  have Hlv : Hid (∀ l ∈ lits, l ≠ 0 ∧ l.natAbs ≤ N) := fun l hl => litB_iff.1 (by
    unfold badLits at hfine
    rw [List.any_eq_false] at hfine
    simpa using hfine l hl)
  have hlb := hlits.big
  unfold big at hlb
  have HCL := Lib.hid hcl
  have HLI := Lib.hid hlits
  rw [Int.toNat_natCast]
  clear hgood hfine hcl hlits hcs
  go_enter Tryd.func18, Tryd.ntmps18
  go_wp2_with (first
    | (go_at_call 16; refine (H.out _ ((Chg.refl _ _).alloc _)).mono ?_; rintro e w1 ⟨rfl, h1⟩; have hb := h1.cell (b := w.heap.size) (o := 0) (v := .int .i64 N) (by go_simp) id; have hc1 := ((Chg.refl No w).alloc (.cells #[.int .i64 N] 3)).thenNo h1; have hl1 : w.heap.size < w1.heap.size := cell_lt hb; clear h1)
    | (go_at_call 26; refine (HC.out w1 hc1 hb).mono ?_; rintro e w2 ⟨rfl, h2⟩; have hb2 := h2.cell hb id; have hc2 := hc1.thenNo h2; have hl2 : w.heap.size < w2.heap.size := cell_lt hb2; clear h2 hb hc1 hl1)
    | (at_make; refine wpList_make1 intsTy rfl rfl (.tmp 34) (.tmp 34) rfl (N + 1) rfl rfl (by omega) ?_; intro w3 hm3 hc3 hs3; have hb3 := hc3.cell hb2 id)
    | (at_make; refine wpList_make1 rowsTy rfl rfl (.tmp 40) (.tmp 40) rfl (2 * N + 1) rfl rfl (by omega) ?_; intro w4 hm4 hc4 hs4; have HF := Lib.hid (follow_made hc2 hl2 hb2 hm3 hc3 hs3 hm4 hc4 hs4); clear hc2 hl2 hb2 hm3 hc3 hm4 hc4 hs4 hb3))
  generalize w2.heap.size = B at HF ⊢
  clear hs3
  go_loopw [44] (fun i wr => ∃ (k : Nat) (W : List (List Int)), k ≤ cl.length ∧ i = .int .i64 k ∧ Hid (Chg (fun j => j = B + 1 + 1) w4 wr) ∧ Hid (Wh (fun j => j = B + 1 + 1 ∨ B + 3 ≤ j) wr (B + 1 + 1) W) ∧ Hid (WOk N cl.length (k * 131072) W) ∧ Hid (∀ i (h : i < cl.length), i < k → ∀ l ∈ cl[i], WHas N W i l)) (fun i _ => cl.length - (intOf i).toNat)
  case atStart => exact ⟨0, List.replicate (2 * N + 1) [], Nat.zero_le _, rfl, Chg.refl _ _, Wh.made (.inl rfl) HF.out.2.2.2.2.2.2, ⟨by simp, fun r hr => by simp [List.eq_of_mem_replicate hr]⟩, fun i _ h => absurd h (by omega)⟩
  case round =>
    obtain ⟨k, W, hk, rfl, hch, hwh, hwok, hhas⟩ := hrel
    by_cases hlt : k < cl.length
    · have hchw : Hid (Chg No w wr) := HF.out.1.trans hch.out (fun j hj h => by have := HF.out.2.2.1; omega)
      obtain ⟨b, o, A1, c1, rfl, hx0, hx'⟩ := HCL.out.row_at k hlt
      have hx := hchw.out.cell hx0 id
      clear hx0
      have Hx := Lib.hid hx'
      have hb' : cl[k].length ≤ 131072 := (Hcs.out _ (List.getElem_mem hlt)).1
      have hcv := Lib.hid (Hcs.out _ (List.getElem_mem hlt)).2
      have Hwr := Lib.hid hchw.out
      clear hx' hchw
      go_wp2
      obtain ⟨wo, rfl⟩ : ∃ wo : World, wo = wr := ⟨_, rfl⟩
      go_loopw [51] (fun i wr => ∃ (j : Nat) (W : List (List Int)), j ≤ cl[k].length ∧ i = .int .i64 j ∧ Hid (Chg (fun j => j = B + 1 + 1) w4 wr) ∧ Hid (Wh (fun j => j = B + 1 + 1 ∨ B + 3 ≤ j) wr (B + 1 + 1) W) ∧ Hid (WOk N cl.length (k * 131072 + j) W) ∧ Hid (∀ i (h : i < cl.length), i < k → ∀ l ∈ cl[i], WHas N W i l) ∧ Hid (∀ l ∈ cl[k].take j, WHas N W k l)) (fun i _ => cl[k].length - (intOf i).toNat)
      case atStart => exact ⟨0, W, Nat.zero_le _, rfl, hch, hwh, hwok.out.mono (by omega), hhas, fun l h => by simp at h⟩
      case round =>
        clear hch hwh hwok hhas
        obtain ⟨j, W, hj, rfl, hch, hwh, hwok, hhas, hhas2⟩ := hrel
        by_cases hjl : j < cl[k].length
        · have hchw : Hid (Chg No w wr) := HF.out.1.trans hch.out (fun j hj h => by have := HF.out.2.2.1; omega)
          obtain ⟨b', o', rfl, hx'⟩ := (Hx.out.no intE_good hchw.out).int_at j hjl
          have hl := hcv.out _ (List.getElem_mem hjl)
--REGION-BEGIN
          have hnb : wr.cell? ⟨w.heap.size, 0, none⟩ = some (.int .i64 N) := hch.out.cell HF.out.2.2.2.1 (fun e => by have := HF.out.2.2.1; omega)
          go_wp2
          generalize hxe : cl[k][j] = x at *
          have HX := Lib.hid hxe
          obtain ⟨m, hm⟩ : ∃ m : Nat, (N : Int) + x = m := ⟨((N : Int) + x).toNat, by omega⟩
          have hm2 : m < 2 * N + 1 := by omega
          have hm3 : (m : Int) < ((2 * N + 1 : Nat) : Int) := by omega
          have hm4 : (0 : Int) ≤ (m : Int) := by omega
          have hm5 : (m : Int) < 2 * (N : Int) + 1 := by omega
          have hbig : B + 1 + 1 < B + 3 := by omega
          have hwrap : IntKind.i64.wrap ((N : Int) + x) = (m : Int) := by rw [hm]; exact IntWalk.i64_in _ (by omega)
          have Hm := Lib.hid hm
          have hml : m < W.length := by rw [hwok.out.1]; exact hm2
          obtain ⟨v, hv, hvf, hown, hnext⟩ := hwh.out.row m hml
          have Hown := Lib.hid hown
          have Hnext := Lib.hid hnext
          have hrl : W[m].length ≤ 3000000000 := by have := (hwok.out.2 _ (List.getElem_mem hml)).1; omega
          have hwsz : B + 3 ≤ wr.heap.size := by have := hch.out.size; have := HF.out.2.1; omega
          have Hreg : Hid (∀ A2 cap2 w5, Own (fun k => (k = B + 1 + 1 ∨ B + 3 ≤ k) ∧ k ≠ B + 1 + 1) 3 1 w5 (.slice A2 (W[m].length + 1) cap2) (W[m].length + 1) (W[m].map (Value.int .i64) ++ [.int .i64 k]) → Chg (fun j => v.ownBlock = some j) (wr.drew.alloc (.cells #[.int .i64 k] 3)) w5 →
              ((Value.slice A2 (W[m].length + 1) cap2).ownBlock = v.ownBlock ∨ (Value.slice A2 (W[m].length + 1) cap2).ownBlock = some (wr.drew.alloc (.cells #[.int .i64 k] 3)).heap.size) →
              w5.cell? ⟨w.heap.size, 0, none⟩ = some (.int .i64 N) ∧ w5.cell? ⟨B + 1 + 1, m, none⟩ = some v ∧ w5.frozen? ⟨B + 1 + 1, m, none⟩ = false ∧
              Hid (Chg (fun j => j = B + 1 + 1) w4 (w5.setCell ⟨B + 1 + 1, m, none⟩ (.slice A2 (W[m].length + 1) cap2))) ∧ Hid (Wh (fun j => j = B + 1 + 1 ∨ B + 3 ≤ j) (w5.setCell ⟨B + 1 + 1, m, none⟩ (.slice A2 (W[m].length + 1) cap2)) (B + 1 + 1) (W.set m (W[m] ++ [(k : Int)])))) := by
            intro A2 cap2 w5 h1 h2 h3
            have h4 := ((Chg.refl (fun j => v.ownBlock = some j) wr).drew.alloc (.cells #[.int .i64 k] 3)).trans h2 (fun _ h _ => h)
            obtain ⟨g1, g2, g3, g4⟩ := hnext A2 cap2 k w5 h1 h4 (by
              rcases h3 with h3 | h3
              · exact .inl h3
              · exact .inr ⟨_, h3, by simp⟩)
            have hs4 := HF.out.2.1
            refine ⟨h4.cell hnb (fun e => by have := (Own.mine hown _ e).1; have := HF.out.2.2.1; omega), g3, g4, hch.out.trans g2 (fun j hj hlt => by omega), g1⟩
          have ha1 : (wr.alloc (.cells #[.int .i64 (k : Int)] 3)).cell? ⟨B + 1 + 1, m, none⟩ = some v := ((Chg.refl No wr).alloc _).cell hv id
          have ha2 : (wr.alloc (.cells #[.int .i64 (k : Int)] 3)).cell? ⟨w.heap.size, 0, none⟩ = some (.int .i64 N) := ((Chg.refl No wr).alloc _).cell hnb id
          clear hxe hm hown hnext
          go_region_law
            ((refine step_append_Own intsTy (by rfl) (.tmp 64) (.tmp 66) (by rfl) (M := fun k => (k = B + 1 + 1 ∨ B + 3 ≤ k) ∧ k ≠ B + 1 + 1) (by intro k hk; (have hk : wr.heap.size + 1 ≤ k := (by simpa using hk)); omega) (Hown.out.no (((Chg.refl _ _).drew).alloc (.cells #[.int .i64 k] 3))) (by rfl) (by rfl) rfl (news_alloc wr.drew [.int .i64 k] 3) (by simp [Value.oneCell']) (by omega) ?_; intro A2 cap2 w5 hown5 hch5 hblk5; obtain ⟨c5a, c5b, f5, Hc5, Hw5⟩ := Hreg.out A2 cap2 w5 hown5 hch5 hblk5; clear hown5 hch5 hblk5))
          all_goals
            go_wp2
            go_roundw
            case rel => exact ⟨j + 1, W.set m (W[m] ++ [(k : Int)]), hjl, by go_num, Hc5, Hw5, (hwok.out.push hml hlt).mono (by omega), fun i h hi l hl' => (hhas.out i h hi l hl').keep hml, fun l hl' => by
              rcases take_succ_mem hjl hl' with h | h
              · exact (hhas2.out l h).keep hml
              · rw [h, HX.out]
                have e : ((N : Int) + x).toNat = m := by rw [Hm.out]; rfl
                have := WHas.new (N := N) (i := k) (W := W) (l := x) (by rw [e]; exact hml)
                simpa only [e] using this⟩
            case measure => simp [intOf]; omega
--REGION-END
        · go_wp2
          go_roundw
          case rel => exact ⟨k + 1, W, hlt, by go_num, hch, hwh, hwok.out.mono (by omega), fun i h hi l hl' => by
            rcases Nat.lt_or_ge i k with g | g
            · exact hhas.out i h g l hl'
            · obtain rfl : i = k := by omega
              exact hhas2.out l (by rw [List.take_of_length_le (by omega)]; exact hl')⟩
          case measure => simp [intOf]; omega
    · have hhas' : Hid (∀ i (h : i < cl.length), ∀ l ∈ cl[i], WHas N W i l) := fun i h => hhas.out i h (by omega)
      clear hhas
      obtain ⟨wo, rfl⟩ : ∃ wo : World, wo = wr := ⟨_, rfl⟩
      go_wp2
      clear hlt
      have hRW : Hid (Rows2 (fun j => (j = B + 1 + 1 ∨ B + 3 ≤ j) ∧ j < wo.heap.size) wo (some ⟨B + 1 + 1, 0, none⟩) W (2 * N + 1)) := by
        have h1 := hwh.out.rows (by rw [hwok.out.1]; unfold big; omega) (fun r hr => ⟨by have := (hwok.out.2 r hr).1; unfold big; omega, fun x hx => by have := (hwok.out.2 r hr).2 x hx; exact I64.of (by omega) (by omega)⟩)
        rw [hwok.out.1] at h1
        exact h1.mono rowE_good (fun j hj h => ⟨h, hj⟩)
      have hcw : Hid (Chg No w wo) := HF.out.1.trans hch.out (fun j hj h => by have := HF.out.2.2.1; omega)
      have hRA : Hid (Rows2 (fun j => j < w.heap.size) wo A cl cap) := (HCL.out.mono rowE_good (fun j hj _ => hj)).no rowE_good hcw.out
      have hRL : Hid (Ints (fun j => j < w.heap.size) wo A' lits cap') := (HLI.out.mono intE_good (fun j hj _ => hj)).no intE_good hcw.out
      have hnb : Hid (wo.cell? ⟨w.heap.size, 0, none⟩ = some (.int .i64 N)) := hch.out.cell HF.out.2.2.2.1 (fun e => by have := HF.out.2.2.1; omega)
      have hwB : w.heap.size < B := HF.out.2.2.1
      have hoB : B + 3 ≤ wo.heap.size := by have := hch.out.size; have := HF.out.2.1; omega
      have hSt : Hid (St (fun j => j = B ∨ j = B + 1 ∨ wo.heap.size ≤ j) wo (B + 1) B (List.replicate (N + 1) 0) []) := by
        have g1 := HF.out.2.2.2.2.1
        have g2 := HF.out.2.2.2.2.2.1
        refine ⟨⟨.slice none 0 0, ?_, Own.nil _ _ _ _⟩, ?_, .inr (.inl rfl), .inl rfl, by omega, fun x hx => .inl (List.eq_of_mem_replicate hx), by simp; omega⟩
        · rw [List.length_replicate]; exact hch.out.obj g2 (by omega)
        · rw [List.map_replicate]; exact hch.out.obj g1 (by omega)
      have hWf : Hid (W.length = 2 * N + 1 ∧ (∀ r ∈ W, ∀ x ∈ r, 0 ≤ x ∧ x < (cl.length : Int)) ∧ ∀ i (h : i < cl.length), ∀ l ∈ cl[i], WHas N W i l) := ⟨hwok.out.1, fun r hr => (hwok.out.2 r hr).2, hhas'.out⟩
      clear hhas' hwok hwh hch HF H HC HCL HLI hk
      go_loopw [73] (fun i wr => ∃ (k : Nat) (a q : List Int), k ≤ lits.length ∧ i = .int .i64 k ∧ Hid (Chg (fun j => j = B ∨ j = B + 1 ∨ wo.heap.size ≤ j) wo wr) ∧ Hid (St (fun j => j = B ∨ j = B + 1 ∨ wo.heap.size ≤ j) wr (B + 1) B a q) ∧ Hid (FI cl lits N a q) ∧ Hid (∀ l ∈ lits.take k, val a l = 1)) (fun i _ => lits.length - (intOf i).toNat)
      case atStart => exact ⟨0, _, [], Nat.zero_le _, rfl, Chg.refl _ _, hSt, FI.start _ _ _, fun l h => by simp at h⟩
      case round =>
        clear hSt
        obtain ⟨k, a, q, hk, rfl, hch, hSt, hFI, htrue⟩ := hrel
        have hM : Hid (∀ j, wr.heap.size ≤ j → j = B ∨ j = B + 1 ∨ wo.heap.size ≤ j) := fun j hj => by have := hch.out.size; omega
        by_cases hlt : k < lits.length
        · obtain ⟨b, o, rfl, hx⟩ := (hRL.out.chg intE_good hch.out (fun j h1 h2 => by omega)).int_at k hlt
          have hl := Lib.hid (Hlv.out _ (List.getElem_mem hlt))
          have hlm := Lib.hid (List.getElem_mem hlt)
          generalize hxe : lits[k] = x at *
          have HX := Lib.hid hxe
          clear hxe
          have hxl : Hid (x.natAbs < a.length) := by have := hFI.out.len; have := hl.out.2; show _ < _; omega
          have hql : q.length ≤ 100000 := by have := hFI.out.left; omega
          rcases val_vals hSt.out.vals x with hv | hv | hv
          · have HS := Lib.hid (set_new hM.out hSt.out hql x hxl.out hl.out.1 hv)
            have Hv := Lib.hid hv
            clear hv
            go_wp2_with (go_at_call 33; refine HS.out.mono ?_; rintro e w6 ⟨rfl, hst6, hch6⟩)
            go_roundw
            case rel => exact ⟨k + 1, _, _, hlt, by go_num, hch.out.trans hch6 (fun j h _ => h), hst6, hFI.out.push hl.out.1 hl.out.2 Hv.out (.lit hlm.out), fun l h => by
              rcases take_succ_mem hlt h with h | h
              · exact true_keep hl.out.1 Hv.out (htrue.out l h)
              · rw [h, HX.out]; exact val_assign_self hl.out.1 hxl.out⟩
            case measure => simp [intOf]; omega
          · have HS := Lib.hid (set_yes hSt.out x hxl.out hv)
            have Hv := Lib.hid hv
            clear hv
            go_wp2_with (go_at_call 33; refine HS.out.mono ?_; rintro e w6 ⟨rfl, rfl⟩)
            go_roundw
            case rel => exact ⟨k + 1, a, q, hlt, by go_num, hch, hSt, hFI, fun l h => by
              rcases take_succ_mem hlt h with h | h
              · exact htrue.out l h
              · rw [h, HX.out]; exact Hv.out⟩
            case measure => simp [intOf]; omega
          · have HS := Lib.hid (set_no hSt.out x hxl.out hv)
            have Hv := Lib.hid hv
            clear hv
            go_wp2_with (go_at_call 33; refine HS.out.mono ?_; rintro e w6 ⟨rfl, rfl⟩)
            go_ret3
            exact ⟨hcw.out.trans hch.out (fun j hj h => by omega), .inl ⟨rfl, hFI.out.sound.against hlm.out hl.out.1 hxl.out Hv.out⟩⟩
        · have htrue' : Hid (∀ l ∈ lits, val a l = 1) := fun l h => htrue.out l (by rwa [List.take_of_length_le (by omega)])
          clear htrue
          go_wp2
          obtain ⟨k3, rfl⟩ : ∃ k3 : Nat, k3 = k := ⟨_, rfl⟩
          obtain ⟨wl, rfl⟩ : ∃ wl : World, wl = wr := ⟨_, rfl⟩
          go_loopw [84] (fun i wr => ∃ (k : Nat) (a q : List Int), k ≤ cl.length ∧ i = .int .i64 k ∧ Hid (Chg (fun j => j = B ∨ j = B + 1 ∨ wo.heap.size ≤ j) wo wr) ∧ Hid (St (fun j => j = B ∨ j = B + 1 ∨ wo.heap.size ≤ j) wr (B + 1) B a q) ∧ Hid (FI cl lits N a q) ∧ Hid (∀ l ∈ lits, val a l = 1) ∧ Hid (∀ i (h : i < cl.length), i < k → Waits a q cl[i])) (fun i _ => cl.length - (intOf i).toNat)
          case atStart => exact ⟨0, a, q, Nat.zero_le _, rfl, hch, hSt, hFI, htrue', fun i h hi => absurd hi (by omega)⟩
          case round =>
            clear hSt hFI htrue' hch hM
            obtain ⟨k, a, q, hk, rfl, hch, hSt, hFI, htrue, hwait⟩ := hrel
            have hM : Hid (∀ j, wr.heap.size ≤ j → j = B ∨ j = B + 1 ∨ wo.heap.size ≤ j) := fun j hj => by have := hch.out.size; omega
            have hql : q.length ≤ 100000 := by have := hFI.out.left; omega
            by_cases hlt : k < cl.length
            · obtain ⟨b, o, A1, c1, rfl, hx, hx'⟩ := (hRA.out.chg rowE_good hch.out (fun j h1 h2 => by omega)).row_at k hlt
              have hcm := Lib.hid (List.getElem_mem hlt)
              have hlit : Hid (∀ l ∈ cl[k], l ≠ 0 ∧ l.natAbs < a.length) := fun l hl => ⟨((Hcs.out _ hcm.out).2 l hl).1, by have := ((Hcs.out _ hcm.out).2 l hl).2; have := hFI.out.len; omega⟩
              have HL := Lib.hid (look_any hM.out hSt.out hql hx' hlit.out)
              clear hx'
              generalize hce : cl[k] = c at *
              have HCe := Lib.hid hce
              clear hce
              have hnext : Hid (∀ a' q', (∀ i (h : i < cl.length), i < k → Waits a' q' cl[i]) → Waits a' q' c → ∀ i (h : i < cl.length), i < k + 1 → Waits a' q' cl[i]) := fun a' q' h1 h2 i h hi => by
                rcases Nat.lt_or_ge i k with g | g
                · exact h1 i h g
                · obtain rfl : i = k := by omega
                  rw [HCe.out]; exact h2
              go_wp2_with (go_at_call 34; refine HL.out.mono ?_; rintro e w6 (⟨rfl, h1, h2, h3⟩ | ⟨rfl, h1, h2, h3⟩ | ⟨x, hxc, rfl, h1, h2, h3, h4⟩))
              · go_roundw
                case rel => exact ⟨k + 1, a, q, hlt, by go_num, hch.out.trans h3 (fun j h _ => h), h2, hFI, htrue, hnext.out a q hwait.out (.inl h1)⟩
                case measure => simp [intOf]; omega
              · go_ret3
                exact ⟨(hcw.out.trans hch.out (fun j hj h => by omega)).trans h3 (fun j hj h => by omega), .inl ⟨rfl, hFI.out.sound.clash hcm.out hlit.out h1⟩⟩
              · have hx0 : x ≠ 0 := (hlit.out x hxc).1
                have hxl : x.natAbs < a.length := (hlit.out x hxc).2
                have hxN : x.natAbs ≤ N := by have := hFI.out.len; omega
                go_roundw
                case rel => exact ⟨k + 1, _, _, hlt, by go_num, hch.out.trans h4 (fun j h _ => h), h3, hFI.out.push hx0 hxN h1 (hFI.out.sound.unit hcm.out hlit.out hxc h2), fun l hl => true_keep hx0 h1 (htrue.out l hl),
                  hnext.out _ _ (fun i h hi => (hwait.out i h hi).push hx0 hxl) (.inl (settled_unit hx0 hxl hxc))⟩
                case measure => simp [intOf]; omega
            · have hwait' : Hid (∀ c ∈ cl, Waits a q c) := fun c hc => by
                obtain ⟨i, hi, rfl⟩ := List.mem_iff_getElem.1 hc
                exact hwait.out i hi (by omega)
              clear hwait
              go_wp2
              obtain ⟨k4, rfl⟩ : ∃ k4 : Nat, k4 = k := ⟨_, rfl⟩
              obtain ⟨wm, rfl⟩ : ∃ wm : World, wm = wr := ⟨_, rfl⟩
              go_loopg [] (q.length + a.count 0) (fun g wr => ∃ (a q : List Int), Hid (q.length + a.count 0 = g) ∧ Hid (Chg (fun j => j = B ∨ j = B + 1 ∨ wo.heap.size ≤ j) wo wr) ∧ Hid (St (fun j => j = B ∨ j = B + 1 ∨ wo.heap.size ≤ j) wr (B + 1) B a q) ∧ Hid (FI cl lits N a q) ∧ Hid (∀ l ∈ lits, val a l = 1) ∧ Hid (∀ c ∈ cl, Waits a q c))
              case atStart => exact ⟨a, q, rfl, hch, hSt, hFI, htrue, hwait'⟩
              case round =>
                clear hSt hFI htrue hwait' hch hM hlt hql hk
                obtain ⟨a, q, hgk, hch, hSt, hFI, htrue, hwait⟩ := hrel
                have hM : Hid (∀ j, wr.heap.size ≤ j → j = B ∨ j = B + 1 ∨ wo.heap.size ≤ j) := fun j hj => by have := hch.out.size; omega
                cases q with
                | nil =>
                  have hA := hSt.out.cellA
                  have hal := hSt.out.len
                  obtain ⟨Q, hp, hown⟩ := hSt.out.ex
                  obtain ⟨A2, cap2, rfl, hA2⟩ := hown.value
                  have hq : wr.cell? ⟨B + 1, 1, none⟩ = some (.slice A2 0 cap2) := by simp [World.cell?, hp]
                  have Harr := Lib.hid hSt.out.arr
                  clear hp hown hA2
                  go_wp2
                  go_ret3
                  refine ⟨hcw.out.trans hch.out (fun j hj h => by omega), .inr ⟨a, B, rfl, ?_, Nat.le_of_lt hwB, Harr.out⟩⟩
                  refine fol_of hFI.out.sound hFI.out.len hFI.out.zero hSt.out.vals (fun l h => ⟨(Hlv.out l h).1, by have := (Hlv.out l h).2; have := hFI.out.len; omega, htrue.out l h⟩) (fun c hc => ⟨fun l h => ⟨((Hcs.out c hc).2 l h).1, by have := ((Hcs.out c hc).2 l h).2; have := hFI.out.len; omega⟩, ?_⟩)
                  rcases hwait.out c hc with h | ⟨_, _, h⟩
                  · exact h
                  · cases h
                | cons l q =>
                  obtain ⟨g, o, cap2, hq, hqf, hq0, hqc, hqm, hpop⟩ := hSt.out.pop
                  have Hpop := Lib.hid hpop
                  have hl := Lib.hid (hFI.out.fits l (by simp))
                  have hnbr : wr.cell? ⟨w.heap.size, 0, none⟩ = some (.int .i64 N) := hch.out.cell hnb.out (fun e => by omega)
                  clear hpop
                  go_upto_region 31 with fail
                  go_cut [20] (fun s20 wx => s20 = .int .i64 l ∧ wx.cell? ⟨w.heap.size, 0, none⟩ = some (.int .i64 N) ∧ Hid (Chg (fun j => j = B ∨ j = B + 1 ∨ wo.heap.size ≤ j) wo wx) ∧ Hid (St (fun j => j = B ∨ j = B + 1 ∨ wo.heap.size ≤ j) wx (B + 1) B a q))
                  case first =>
                    go_wp2_with fail
                    · go_meet
                      have h1 := Hpop.out (some ⟨g, o, none⟩) (by rw [if_pos ‹cap2 = 1›])
                      rw [show cap2 - 1 = 0 by omega] at h1
                      exact ⟨rfl, h1.2.cell hnbr (by omega), hch.out.trans h1.2 (fun j h _ => h), h1.1⟩
                    · go_meet
                      have h1 := Hpop.out (some ⟨g, o + 1, none⟩) (by rw [if_neg ‹¬ cap2 = 1›])
                      exact ⟨rfl, h1.2.cell hnbr (by omega), hch.out.trans h1.2 (fun j h _ => h), h1.1⟩
                  case rest =>
                    obtain ⟨rfl, hnbx, hchx, hStx⟩ := hcut
                    obtain ⟨m, hm⟩ : ∃ m : Nat, (N : Int) - l = m := ⟨((N : Int) - l).toNat, by have := hl.out; omega⟩
                    have hm2 : m < 2 * N + 1 := by have := hl.out; omega
                    have hm3 : (m : Int) < ((2 * N + 1 : Nat) : Int) := by omega
                    have hm5 : (m : Int) < 2 * (N : Int) + 1 := by omega
                    have hml : m < W.length := by rw [hWf.out.1]; exact hm2
                    obtain ⟨b2, o2, A2, c2, heq, hrow, hrow'⟩ := (hRW.out.chg rowE_good hchx.out (fun j h1 h2 => by omega)).row_at m hml
                    obtain ⟨rfl, rfl⟩ : b2 = B + 1 + 1 ∧ o2 = 0 := by simp at heq; omega
                    rw [Nat.zero_add] at hrow
                    have Hrow := Lib.hid ((hRW.out.row_at m hml))
                    have hb2 := hrow'.big
                    unfold big at hb2
                    have Hrow' := Lib.hid hrow'
                    have hwrap : IntKind.i64.wrap ((N : Int) - l) = (m : Int) := by rw [hm]; exact IntWalk.i64_in _ (by omega)
                    have Hm := Lib.hid hm
                    have hwx := Lib.hid hwait.out
                    clear hq hqf hq0 hqc hqm hnbr hm hrow' heq
                    go_wp2
                    obtain ⟨wx, rfl⟩ : ∃ wx : World, wx = wc := ⟨_, rfl⟩
                    have Hgk := Lib.hid hgk.out
                    have Hchx := Lib.hid hchx.out
                    go_loopw [120] (fun i wr => ∃ (j : Nat) (a q : List Int), j ≤ W[m].length ∧ i = .int .i64 j ∧ Hid (q.length + a.count 0 < gk) ∧ Hid (Chg (fun j => j = B ∨ j = B + 1 ∨ wo.heap.size ≤ j) wo wr) ∧ Hid (St (fun j => j = B ∨ j = B + 1 ∨ wo.heap.size ≤ j) wr (B + 1) B a q) ∧ Hid (FI cl lits N a q) ∧ Hid (∀ l ∈ lits, val a l = 1) ∧ Hid (∀ c ∈ cl, Waits a q c ∨ ∃ i, ∃ h : i < cl.length, cl[i] = c ∧ (i : Int) ∈ W[m].drop j)) (fun i _ => W[m].length - (intOf i).toNat)
                    case atStart =>
                      refine ⟨0, a, q, Nat.zero_le _, rfl, ?_, hchx, hStx, hFI.out.pop, htrue, fun c hc => ?_⟩
                      · have := Hgk.out; simp at this; show _ < _; omega
                      · rcases hwx.out c hc with h | ⟨l', hl', hq'⟩
                        · exact .inl (.inl h)
                        rcases List.mem_cons.1 hq' with h | h
                        · right
                          obtain ⟨i, hi, rfl⟩ := List.mem_iff_getElem.1 hc
                          refine ⟨i, hi, rfl, ?_⟩
                          have h2 := hWf.out.2.2 i hi l' hl'
                          unfold WHas at h2
                          have h3 : ((N : Int) + l').toNat = m := by have := Hm.out; omega
                          rw [h3] at h2
                          simpa [List.getD, hml] using h2
                        · exact .inl (.inr ⟨l', hl', h⟩)
                    case round =>
                      clear hSt hFI htrue hwait hch hM hStx hchx hgk hnbx
                      obtain ⟨j, a, q, hj, rfl, hgk, hch, hSt, hFI, htrue, hwait⟩ := hrel
                      have hM : Hid (∀ j, wr.heap.size ≤ j → j = B ∨ j = B + 1 ∨ wo.heap.size ≤ j) := fun j hj => by have := hch.out.size; omega
                      have hql : q.length ≤ 100000 := by have := hFI.out.left; omega
                      by_cases hlt : j < W[m].length
                      · have hbd := hWf.out.2.1 _ (List.getElem_mem hml) _ (List.getElem_mem hlt)
                        have Hmem := Lib.hid (List.getElem_mem hlt)
                        obtain ⟨b3, o3, hA2, hx⟩ := (Hrow'.out.stay intE_good (fun k _ hR => (hch.out.block k hR.2 (by have := hR.1; omega)).trans (Hchx.out.block k hR.2 (by have := hR.1; omega)).symm)).int_at j hlt
                        subst hA2
                        obtain ⟨i, hi⟩ := Int.eq_ofNat_of_zero_le hbd.1
                        rw [hi] at hx hbd
                        have Hi := Lib.hid hi
                        have hil : i < cl.length := by omega
                        obtain ⟨b4, o4, A4, c4, rfl, hcx, hcx'⟩ := (hRA.out.chg rowE_good hch.out (fun j h1 h2 => by omega)).row_at i hil
                        have hcm := Lib.hid (List.getElem_mem hil)
                        have hlit : Hid (∀ l ∈ cl[i], l ≠ 0 ∧ l.natAbs < a.length) := fun l hl => ⟨((Hcs.out _ hcm.out).2 l hl).1, by have := ((Hcs.out _ hcm.out).2 l hl).2; have := hFI.out.len; omega⟩
                        have HL := Lib.hid (look_any hM.out hSt.out hql hcx' hlit.out)
                        clear hcx' hi hbd
                        have hnext : Hid (∀ a' q', (∀ c, Waits a q c → Waits a' q' c) → Waits a' q' cl[i] → ∀ c ∈ cl, Waits a' q' c ∨ ∃ i, ∃ h : i < cl.length, cl[i] = c ∧ (i : Int) ∈ W[m].drop (j + 1)) := fun a' q' h1 h2 c hc => by
                          rcases hwait.out c hc with h | ⟨i', hi', he, hd⟩
                          · exact .inl (h1 c h)
                          · rw [List.drop_eq_getElem_cons hlt, Hi.out] at hd
                            rcases List.mem_cons.1 hd with h | h
                            · left
                              obtain rfl : i' = i := by omega
                              rw [← he]; exact h2
                            · exact .inr ⟨i', hi', he, h⟩
                        generalize hce : cl[i] = c at *
                        have HCe := Lib.hid hce
                        clear hce
                        go_wp2_with (go_at_call 34; refine HL.out.mono ?_; rintro e w6 (⟨rfl, h1, h2, h3⟩ | ⟨rfl, h1, h2, h3⟩ | ⟨x, hxc, rfl, h1, h2, h3, h4⟩))
                        · go_roundw
                          case rel => exact ⟨j + 1, a, q, hlt, by go_num, hgk, hch.out.trans h3 (fun j h _ => h), h2, hFI, htrue, hnext.out a q (fun c h => h) (.inl h1)⟩
                          case measure => simp [intOf]; omega
                        · go_ret3
                          exact ⟨(hcw.out.trans hch.out (fun j hj h => by omega)).trans h3 (fun j hj h => by omega), .inl ⟨rfl, hFI.out.sound.clash hcm.out hlit.out h1⟩⟩
                        · have hx0 : x ≠ 0 := (hlit.out x hxc).1
                          have hxl : x.natAbs < a.length := (hlit.out x hxc).2
                          have hxN : x.natAbs ≤ N := by have := hFI.out.len; omega
                          go_roundw
                          case rel => exact ⟨j + 1, _, _, hlt, by go_num, (by rw [push_sum hxl h1]; exact hgk.out), hch.out.trans h4 (fun j h _ => h), h3, hFI.out.push hx0 hxN h1 (hFI.out.sound.unit hcm.out hlit.out hxc h2), fun l hl => true_keep hx0 h1 (htrue.out l hl),
                            hnext.out _ _ (fun c h => h.push hx0 hxl) (.inl (settled_unit hx0 hxl hxc))⟩
                          case measure => simp [intOf]; omega
                      · have hwait' : Hid (∀ c ∈ cl, Waits a q c) := fun c hc => by
                          rcases hwait.out c hc with h | ⟨i, hi, he, hd⟩
                          · exact h
                          · rw [List.drop_eq_nil_of_le (by omega)] at hd; cases hd
                        clear hwait
                        go_wp2
                        go_roundg (q.length + a.count 0)
                        case measure => exact hgk.out
                        case rel => exact ⟨a, q, rfl, hch, hSt, hFI, htrue, hwait'⟩
end Go.Proofs.YtbbcodpoiikkdaaDoor
