/-
  The walk over the document's Follow.
-/
import Derived.Test.YtbbcodpoiikkdaaDoorPropLaw
import Derived.Deep.LoopGhost
namespace Go.Proofs.YtbbcodpoiikkdaaDoor
open Go Go.RowKit

/-- The assignment a in the block ba. -/
structure Arr (w : World) (ba : Nat) (a : List Int) : Prop where
  arr : w.heap[ba]? = some (.cells (a.map (Value.int .i64)).toArray 3 (0, 0))
  vals : ∀ x ∈ a, x = 0 ∨ x = 1 ∨ x = -1
  len : a.length ≤ 10000

theorem Arr.at {w : World} {ba : Nat} {a : List Int} (h : Arr w ba a) (i : Nat) (hi : i < a.length) : w.cell? ⟨ba, i, none⟩ = some (.int .i64 (a.getD i 0)) := by
  simp [World.cell?, h.arr, hi, List.getD]
theorem Arr.free {w : World} {ba : Nat} {a : List Int} (h : Arr w ba a) (i : Nat) : w.frozen? ⟨ba, i, none⟩ = false := by simp [World.frozen?, h.arr]

set_option maxHeartbeats 400000 in
theorem refOf_any {w : World} {ba : Nat} {a : List Int} (h : Arr w ba a) (l : Int) (hl : l.natAbs < a.length) :
    Calls Tryd.prog 38 #[.slice (some ⟨ba, 0, none⟩) a.length a.length, .int .i64 l] w fun e w' => e = .returned (.int .i64 (val a l)) ∧ w = w' := by
  have hc := h.at l.natAbs hl
  have hv := getD_vals h.vals l.natAbs
  have hlen := h.len
  clear h
  by_cases h0 : l < 0
  · obtain ⟨k, rfl⟩ : ∃ k : Nat, l = -(k : Int) := ⟨l.natAbs, by omega⟩
    have e1 : (-(k : Int)).natAbs = k := by omega
    rw [e1] at hl hc hv
    have Hf := Lib.hid (show val a (-(k : Int)) = -(a.getD k 0) by unfold val; rw [if_pos h0, e1])
    generalize a.getD k 0 = x at *
    have hx : -1 ≤ x ∧ x ≤ 1 := by omega
    clear hv e1
    obtain ⟨hx1, hx2⟩ := hx
    go_enter Tryd.func38, Tryd.ntmps38
    go_wp2
    go_ret
    exact ⟨ret_int Hf.out.symm, rfl⟩
  · obtain ⟨k, rfl⟩ : ∃ k : Nat, l = (k : Int) := ⟨l.natAbs, by omega⟩
    rw [Int.natAbs_natCast] at hl hc hv
    have Hf := Lib.hid (show val a (k : Int) = a.getD k 0 by unfold val; rw [if_neg h0, Int.natAbs_natCast])
    generalize a.getD k 0 = x at *
    clear hv
    go_enter Tryd.func38, Tryd.ntmps38
    go_wp2
    go_ret
    exact ⟨ret_int Hf.out.symm, rfl⟩

set_option maxHeartbeats 400000 in
theorem refSet_no {w : World} {ba : Nat} {a : List Int} (h : Arr w ba a) (l : Int) (hl : l.natAbs < a.length) (hv : val a l = -1) :
    Calls Tryd.prog 37 #[.slice (some ⟨ba, 0, none⟩) a.length a.length, .int .i64 l] w fun e w' => e = .returned (.bool false) ∧ w = w' := by
  have H := refOf_any h l hl
  rw [hv] at H
  have HH := Lib.hid H
  clear H h hv
  go_enter Tryd.func37, Tryd.ntmps37
  go_wp2_with (refine HH.out.mono ?_; rintro e w1 ⟨rfl, rfl⟩)
  go_ret
  exact ⟨rfl, rfl⟩

theorem Arr.assign {w : World} {ba : Nat} {a : List Int} (h : Arr w ba a) {l x : Int} (hx : x = if 0 < l then 1 else -1) :
    Arr (w.setCell ⟨ba, l.natAbs, none⟩ (.int .i64 x)) ba (Go.Proofs.YtbbcodpoiikkdaaDoor.assign a l) ∧ Chg (fun k => k = ba) w (w.setCell ⟨ba, l.natAbs, none⟩ (.int .i64 x)) := by
  refine ⟨⟨?_, fun y hy => ?_, by rw [assign_len]; exact h.len⟩, (Chg.refl _ _).setCell _ _ (fun _ => rfl)⟩
  · simp only [World.setCell]
    rw [Array.getElem?_modify, if_pos rfl, h.arr]
    simp [Go.Proofs.YtbbcodpoiikkdaaDoor.assign, hx, List.map_set]
  · rcases List.mem_or_eq_of_mem_set hy with hy | hy
    · exact h.vals y hy
    · rw [hy]; split <;> simp

set_option maxHeartbeats 400000 in
theorem refSet_yes {w : World} {ba : Nat} {a : List Int} (h : Arr w ba a) (l : Int) (hl : l.natAbs < a.length) (h0 : l ≠ 0) (hv : val a l ≠ -1) :
    Calls Tryd.prog 37 #[.slice (some ⟨ba, 0, none⟩) a.length a.length, .int .i64 l] w fun e w' => e = .returned (.bool true) ∧ Arr w' ba (assign a l) ∧ Chg (fun k => k = ba) w w' := by
  have HH := Lib.hid (refOf_any h l hl)
  have hvb : (val a l == -1) = false := by simpa using hv
  generalize val a l = v at *
  have hc := h.at l.natAbs hl
  have hf := h.free l.natAbs
  have Ha := Lib.hid h
  have hlen := h.len
  clear h hv
  by_cases hp : 0 < l
  · obtain ⟨k, rfl⟩ : ∃ k : Nat, l = (k : Int) := ⟨l.natAbs, by omega⟩
    rw [Int.natAbs_natCast] at hl hc hf
    go_enter Tryd.func37, Tryd.ntmps37
    go_wp2_with (refine HH.out.mono ?_; rintro e w1 ⟨rfl, rfl⟩)
    go_ret
    have := Ha.out.assign (l := (k : Int)) (x := 1) (by rw [if_pos hp])
    rw [Int.natAbs_natCast] at this
    exact ⟨rfl, this⟩
  · obtain ⟨k, rfl⟩ : ∃ k : Nat, l = -(k : Int) := ⟨l.natAbs, by omega⟩
    have e1 : (-(k : Int)).natAbs = k := by omega
    rw [e1] at hl hc hf
    clear e1
    have hneg : -(k : Int) < 0 := by omega
    go_enter Tryd.func37, Tryd.ntmps37
    go_wp2_with (refine HH.out.mono ?_; rintro e w1 ⟨rfl, rfl⟩)
    go_ret
    have := Ha.out.assign (l := -(k : Int)) (x := -1) (by rw [if_neg (by omega)])
    rw [show (-(k : Int)).natAbs = k by omega] at this
    exact ⟨rfl, this⟩

theorem assign_same {a : List Int} {l : Int} (h0 : l ≠ 0) (hl : l.natAbs < a.length) (hv : val a l = 1) : assign a l = a := by
  unfold assign
  have : a[l.natAbs] = if 0 < l then 1 else -1 := by
    unfold val at hv
    simp only [List.getD, List.getElem?_eq_getElem hl, Option.getD_some] at hv
    split at hv <;> split <;> omega
  rw [← this, List.set_getElem_self]

/-- What the document's Follow comes to. -/
def RefFol (n : Nat) (cl : List (List Int)) (lits : List Int) (w : World) (e : Ending) (w' : World) : Prop :=
  Chg No w w' ∧ ((e = .returned (.tuple #[.slice none 0 0, .bool true]) ∧ Confl cl lits) ∨
    ∃ a ba, e = .returned (.tuple #[.slice (some ⟨ba, 0, none⟩) a.length a.length, .bool false]) ∧ Fol n cl lits a ∧ w.heap.size ≤ ba ∧ w'.heap[ba]? = some (.cells (a.map (Value.int .i64)).toArray 3 (0, 0)))

/-- The invariant of what was assigned. -/
structure RI (cl : List (List Int)) (lits : List Int) (N : Nat) (a : List Int) : Prop where
  sound : Sound cl lits a
  len : a.length = N + 1
  zero : a.getD 0 0 = 0
theorem RI.put {cl : List (List Int)} {lits : List Int} {N : Nat} {a : List Int} (h : RI cl lits N a) {x : Int} (hx : x ≠ 0) (hN : x.natAbs ≤ N) (hd : Drv cl lits x) : RI cl lits N (assign a x) :=
  ⟨h.sound.assign hx hd (by have := h.len; omega), by rw [assign_len]; exact h.len, by rw [assign_zero hx]; exact h.zero⟩

/-- What was seen of a clause's literals so far. -/
structure Seen (a pre : List Int) (t : Bool) (x : Int) (m : Bool) : Prop where
  sat : t = pre.any fun l => val a l == 1
  open_ : x ≠ 0 → x ∈ pre ∧ val a x = 0
  two : m = true → ∃ l ∈ pre, ∃ k ∈ pre, l ≠ k ∧ val a l = 0 ∧ val a k = 0
  one : m = false → ∀ l ∈ pre, val a l = 0 → l = x
theorem Seen.start (a : List Int) : Seen a [] false 0 false := ⟨rfl, fun h => absurd rfl h, fun h => (by cases h), fun _ l h => (by cases h)⟩
theorem Seen.other {a pre : List Int} {t : Bool} {x : Int} {m : Bool} (h : Seen a pre t x m) {l : Int} (hv : val a l ≠ 0) : Seen a (pre ++ [l]) (t || val a l == 1) x m := by
  refine ⟨by rw [List.any_append, h.sat]; simp, fun hx => ⟨List.mem_append.2 (.inl (h.open_ hx).1), (h.open_ hx).2⟩, fun hm => ?_, fun hm k hk hk0 => ?_⟩
  · obtain ⟨k1, h1, k2, h2, r⟩ := h.two hm
    exact ⟨k1, List.mem_append.2 (.inl h1), k2, List.mem_append.2 (.inl h2), r⟩
  · rcases List.mem_append.1 hk with hk | hk
    · exact h.one hm k hk hk0
    · simp at hk; subst hk; exact absurd hk0 hv
theorem Seen.zero {a pre : List Int} {t : Bool} {x : Int} {m : Bool} (h : Seen a pre t x m) {l : Int} (hpre : ∀ k ∈ pre, k ≠ 0) (hv : val a l = 0) : Seen a (pre ++ [l]) t l (m || (x != 0 && x != l)) := by
  refine ⟨by rw [List.any_append, h.sat]; simp [hv], fun _ => ⟨by simp, hv⟩, fun hm => ?_, fun hm k hk hk0 => ?_⟩
  · cases m
    · simp at hm
      exact ⟨x, List.mem_append.2 (.inl (h.open_ hm.1).1), l, by simp, hm.2, (h.open_ hm.1).2, hv⟩
    · obtain ⟨k1, h1, k2, h2, r⟩ := h.two rfl
      exact ⟨k1, List.mem_append.2 (.inl h1), k2, List.mem_append.2 (.inl h2), r⟩
  · rcases List.mem_append.1 hk with hk | hk
    · cases m
      · have hx := h.one rfl k hk hk0
        have hk1 := hpre k hk
        subst hx
        simp at hm
        exact hm hk1
      · simp at hm
    · simpa using hk

set_option maxRecDepth 100000 in
set_option maxHeartbeats 2000000 in
theorem refFollow_any {R R' : Nat → Prop} {w : World} (n : Int) {A A' : Option Addr} {cl : List (List Int)} {cap cap' : Nat} (hcl : Rows2 R w A cl cap) {lits : List Int} (hlits : Ints R' w A' lits cap') (hgood : chk n cl = 0) (hfine : lits.all (litB n) = true) :
    Calls Tryd.prog 22 #[.int .i64 n, .slice A cl.length cap, .slice A' lits.length cap'] w (RefFol n.toNat cl lits w) := by
  obtain ⟨N, rfl, hN, hlen, hcs⟩ := chk_zero hgood
  have Hcs := Lib.hid hcs
  have Hlv : Hid (∀ l ∈ lits, l ≠ 0 ∧ l.natAbs ≤ N) := fun l hl => litB_iff.1 ((List.all_eq_true.1 hfine) l hl)
  have hlb := hlits.big
  unfold big at hlb
  have HCL := Lib.hid (hcl.mono rowE_good (R' := fun j => j < w.heap.size) (fun j hj _ => hj))
  have HLI := Lib.hid (hlits.mono intE_good (R' := fun j => j < w.heap.size) (fun j hj _ => hj))
  rw [Int.toNat_natCast]
  clear hgood hfine hcl hlits hcs
  go_enter Tryd.func22, Tryd.ntmps22
  go_wp2_with (at_make; refine wpList_make1 intsTy rfl rfl (.tmp 20) (.tmp 20) rfl (N + 1) rfl rfl (by omega) ?_; intro w3 hm3 hc3 hs3)
  generalize hB : w.heap.size = B at *
  have hArr : Hid (Arr w3 B (List.replicate (N + 1) 0)) := ⟨by rw [List.map_replicate]; exact hm3, fun x hx => .inl (List.eq_of_mem_replicate hx), by simp; omega⟩
  have HB := Lib.hid hB
  have Hc3 := Lib.hid hc3
  clear hm3 hB hc3 hs3
  go_loopw [9] (fun i wr => ∃ (k : Nat) (a : List Int), k ≤ lits.length ∧ i = .int .i64 k ∧ Hid (Chg (fun j => j = B) w3 wr) ∧ Hid (Arr wr B a) ∧ Hid (RI cl lits N a) ∧ Hid (∀ l ∈ lits.take k, val a l = 1)) (fun i _ => lits.length - (intOf i).toNat)
  case atStart => exact ⟨0, _, Nat.zero_le _, rfl, Chg.refl _ _, hArr, ⟨(FI.start cl lits N).sound, by simp, by simp [List.replicate_succ]⟩, fun l h => by simp at h⟩
  case round =>
    clear hArr
    obtain ⟨k, a, hk, rfl, hch, hArr, hRI, htrue⟩ := hrel
    have hal : a.length = N + 1 := hRI.out.len
    have Hal := Lib.hid hal
    have hcw : Hid (Chg No w wr) := Hc3.out.trans hch.out (fun j hj h => by have := HB.out; omega)
    by_cases hlt : k < lits.length
    · obtain ⟨b, o, rfl, hx⟩ := (HLI.out.no intE_good hcw.out).int_at k hlt
      have hl := Lib.hid (Hlv.out _ (List.getElem_mem hlt))
      have hlm := Lib.hid (List.getElem_mem hlt)
      generalize hxe : lits[k] = x at *
      have HX := Lib.hid hxe
      clear hxe
      have hxl : x.natAbs < a.length := by have := hl.out.2; omega
      by_cases hv : val a x = -1
      · have HS := Lib.hid (refSet_no hArr.out x hxl hv)
        rw [hal] at HS
        have Hv := Lib.hid hv
        have Hxl := Lib.hid hxl
        clear hv hal hxl
        go_wp2_with (go_at_call 37; refine HS.out.mono ?_; rintro e w6 ⟨rfl, rfl⟩)
        go_ret2
        exact ⟨hcw.out, .inl ⟨rfl, hRI.out.sound.against hlm.out hl.out.1 Hxl.out Hv.out⟩⟩
      · have HS := Lib.hid (refSet_yes hArr.out x hxl hl.out.1 hv)
        rw [hal] at HS
        have Hv := Lib.hid hv
        have Hxl := Lib.hid hxl
        clear hv hal hxl
        go_wp2_with (go_at_call 37; refine HS.out.mono ?_; rintro e w6 ⟨rfl, h6, hc6⟩)
        go_roundw
        case rel => exact ⟨k + 1, _, hlt, by go_num, hch.out.trans hc6 (fun j h _ => h), h6, hRI.out.put hl.out.1 hl.out.2 (.lit hlm.out), fun l h => by
          rcases take_succ_mem hlt h with h | h
          · have h1 := htrue.out l h
            rcases val_vals hArr.out.vals x with hv | hv | hv
            · exact true_keep hl.out.1 hv h1
            · rw [assign_same hl.out.1 Hxl.out hv]; exact h1
            · exact absurd hv Hv.out
          · rw [h, HX.out]; exact val_assign_self hl.out.1 Hxl.out⟩
        case measure => simp [intOf]; omega
    · have htrue' : Hid (∀ l ∈ lits, val a l = 1) := fun l h => htrue.out l (by rwa [List.take_of_length_le (by omega)])
      clear htrue hal
      go_wp2
      obtain ⟨wl, rfl⟩ : ∃ wl : World, wl = wr := ⟨_, rfl⟩
      go_loopg [11] (N + 3) (fun g ch wr => ∃ (a : List Int) (c : Bool), ch = .bool c ∧ 0 < g ∧ Hid (c = true → a.count 0 + 1 < g) ∧ Hid (c = false → ∀ d ∈ cl, Settled a d) ∧ Hid (Chg (fun j => j = B) w3 wr) ∧ Hid (Arr wr B a) ∧ Hid (RI cl lits N a) ∧ Hid (∀ l ∈ lits, val a l = 1))
      case atStart =>
        refine ⟨a, true, rfl, by omega, fun _ => ?_, (fun h => by cases h), hch, hArr, hRI, htrue'⟩
        have := List.count_le_length (a := (0 : Int)) (l := a)
        have := Hal.out
        omega
      case round =>
        clear hArr hRI htrue' hch hcw Hal hk hlt
        obtain ⟨a, c, rfl, hg, hcg, hset, hch, hArr, hRI, htrue⟩ := hrel
        have hcw : Hid (Chg No w wr) := Hc3.out.trans hch.out (fun j hj h => by have := HB.out; omega)
        cases c
        · have hset' : Hid (∀ d ∈ cl, Settled a d) := hset.out rfl
          clear hset hcg
          go_wp2
          go_ret2
          have hal := hRI.out.len
          refine ⟨hcw.out, .inr ⟨a, B, ?_, fol_of hRI.out.sound hal hRI.out.zero hArr.out.vals (fun l h => ⟨(Hlv.out l h).1, by have := (Hlv.out l h).2; omega, htrue.out l h⟩) (fun d hd => ⟨fun l h => ⟨((Hcs.out d hd).2 l h).1, by have := ((Hcs.out d hd).2 l h).2; omega⟩, hset'.out d hd⟩), Nat.le_of_eq HB.out, hArr.out.arr⟩⟩
          rw [hal]; rfl
        · have hcg' : Hid (a.count 0 + 1 < gk) := hcg.out rfl
          clear hcg hset
          go_wp2
          obtain ⟨wq, rfl⟩ : ∃ wq : World, wq = wr := ⟨_, rfl⟩
          obtain ⟨a0, rfl⟩ : ∃ a0 : List Int, a0 = a := ⟨_, rfl⟩
          go_loopw [11, 12] (fun ch i wr => ∃ (k : Nat) (a : List Int) (c : Bool), k ≤ cl.length ∧ i = .int .i64 k ∧ ch = .bool c ∧ Hid (c = true → a.count 0 + 1 ≤ a0.count 0) ∧ Hid (c = false → a = a0 ∧ ∀ j (h : j < cl.length), j < k → Settled a0 cl[j]) ∧ Hid (Chg (fun j => j = B) w3 wr) ∧ Hid (Arr wr B a) ∧ Hid (RI cl lits N a) ∧ Hid (∀ l ∈ lits, val a l = 1)) (fun _ i _ => cl.length - (intOf i).toNat)
          case atStart => exact ⟨0, a0, false, Nat.zero_le _, rfl, rfl, (fun h => by cases h), fun _ => ⟨rfl, fun j h hj => absurd hj (by omega)⟩, hch, hArr, hRI, htrue⟩
          case round =>
            clear hArr hRI htrue hch hcw
            obtain ⟨k, a, c, hk, rfl, rfl, hcount, hset, hch, hArr, hRI, htrue⟩ := hrel
            have hcw : Hid (Chg No w wr) := Hc3.out.trans hch.out (fun j hj h => by have := HB.out; omega)
            by_cases hlt : k < cl.length
            · obtain ⟨b, o, A1, c1, rfl, hx, hx'⟩ := (HCL.out.no rowE_good hcw.out).row_at k hlt
              have Hx := Lib.hid hx'
              have hcb : cl[k].length ≤ 131072 := (Hcs.out _ (List.getElem_mem hlt)).1
              have hcm := Lib.hid (List.getElem_mem hlt)
              have hlit : Hid (∀ l ∈ cl[k], l ≠ 0 ∧ l.natAbs ≤ N) := (Hcs.out _ hcm.out).2
              clear hx'
              go_wp2
              obtain ⟨wz, rfl⟩ : ∃ wz : World, wz = wr := ⟨_, rfl⟩
              go_loop [13, 14, 15, 16] (fun t x m i => ∃ (j : Nat) (t' : Bool) (x' : Int) (m' : Bool), j ≤ cl[k].length ∧ i = .int .i64 j ∧ t = .bool t' ∧ x = .int .i64 x' ∧ m = .bool m' ∧ Hid (Seen a (cl[k].take j) t' x' m')) (fun _ _ _ i => cl[k].length - (intOf i).toNat)
              case atStart => exact ⟨0, false, 0, false, Nat.zero_le _, rfl, rfl, rfl, rfl, Seen.start a⟩
              case round =>
                obtain ⟨j, t, x, m, hj, rfl, rfl, rfl, rfl, hseen⟩ := hrel
                by_cases hjl : j < cl[k].length
                · obtain ⟨b', o', rfl, hx'⟩ := Hx.out.int_at j hjl
                  have hl := Lib.hid (hlit.out _ (List.getElem_mem hjl))
                  have hall : a.length = N + 1 := hRI.out.len
                  have HO := Lib.hid (refOf_any hArr.out cl[k][j] (by have := hl.out.2; omega))
                  rw [hall] at HO
                  have htk := Lib.hid (List.take_succ_eq_append_getElem hjl)
                  have hpre : Hid (∀ l ∈ cl[k].take j, l ≠ 0) := fun l h => (hlit.out l (List.mem_of_mem_take h)).1
                  generalize cl[k][j] = l at *
                  have hvv := val_vals hArr.out.vals l
                  by_cases hv0 : val a l = 0
                  · have HS := Lib.hid (hseen.out.zero hpre.out hv0)
                    rw [hv0] at HO
                    clear hvv hv0 hall
                    by_cases hx0 : x = 0
                    · subst hx0
                      cases t <;> cases m
                      all_goals
                        go_wp2_with (go_at_call 38; refine HO.out.mono ?_; rintro e w6 ⟨rfl, rfl⟩)
                        go_round
                        case rel => exact ⟨j + 1, _, _, _, hjl, by go_num, rfl, rfl, rfl, by rw [htk.out]; exact HS.out⟩
                        case measure => simp [intOf]; omega
                    · have hb0 : (x != 0) = true := by simpa using hx0
                      cases t <;> cases m
                      all_goals
                        go_wp2_with (go_at_call 38; refine HO.out.mono ?_; rintro e w6 ⟨rfl, rfl⟩)
                        go_round
                        case rel => exact ⟨j + 1, _, _, _, hjl, by go_num, rfl, rfl, rfl, by rw [htk.out]; have h9 := HS.out; rw [hb0] at h9; unfold Hid; simpa using h9⟩
                        case measure => simp [intOf]; omega
                  · have HS := Lib.hid (hseen.out.other hv0)
                    generalize val a l = v at *
                    have hv1 : (v == 0) = false := by simpa using hv0
                    clear hall
                    cases t
                    · go_wp2_with (go_at_call 38; refine HO.out.mono ?_; rintro e w6 ⟨rfl, rfl⟩)
                      go_round
                      case rel => exact ⟨j + 1, _, _, _, hjl, by go_num, rfl, rfl, rfl, by rw [htk.out]; exact HS.out⟩
                      case measure => simp [intOf]; omega
                    · go_wp2_with (go_at_call 38; refine HO.out.mono ?_; rintro e w6 ⟨rfl, rfl⟩)
                      go_round
                      case rel => exact ⟨j + 1, _, _, _, hjl, by go_num, rfl, rfl, rfl, by rw [htk.out]; exact HS.out⟩
                      case measure => simp [intOf]; omega
                · have hs : Hid (Seen a cl[k] t x m) := by have := hseen.out; rwa [List.take_of_length_le (by omega)] at this
                  clear hseen
                  have hnext : Hid (Settled a cl[k] → c = false → a = a0 ∧ ∀ j (h : j < cl.length), j < k + 1 → Settled a0 cl[j]) := fun h1 h2 => by
                    obtain ⟨e, h3⟩ := hset.out h2
                    refine ⟨e, fun j h hj => ?_⟩
                    rcases Nat.lt_or_ge j k with g | g
                    · exact h3 j h g
                    · obtain rfl : j = k := by omega
                      rw [← e]; exact h1
                  have hst : Hid (t = true → Settled a cl[k]) := fun h => by
                    have h1 := hs.out.sat
                    rw [h] at h1
                    obtain ⟨l, hl, hv⟩ := List.any_eq_true.1 h1.symm
                    exact .inl ⟨l, hl, by simpa using hv⟩
                  cases t
                  case true =>
                    have HN := Lib.hid (hnext.out (hst.out rfl))
                    go_wp2
                    go_roundw
                    case rel => exact ⟨k + 1, a, c, hlt, by go_num, rfl, hcount, HN, hch, hArr, hRI, htrue⟩
                    case measure => simp [intOf]; omega
                  case false =>
                    cases m
                    case true =>
                      have HN := Lib.hid (hnext.out (.inr (hs.out.two rfl)))
                      go_wp2
                      go_roundw
                      case rel => exact ⟨k + 1, a, c, hlt, by go_num, rfl, hcount, HN, hch, hArr, hRI, htrue⟩
                      case measure => simp [intOf]; omega
                    case false =>
                      have hneg : Hid (∀ l ∈ cl[k], l ≠ x → val a l = -1) := fun l hl hne => by
                        rcases val_vals hArr.out.vals l with hv | hv | hv
                        · exact absurd (hs.out.one rfl l hl hv) hne
                        · exfalso
                          have h1 := hs.out.sat
                          have : (cl[k].any fun l => val a l == 1) = true := List.any_eq_true.2 ⟨l, hl, by simp [hv]⟩
                          rw [this] at h1; cases h1
                        · exact hv
                      have hlen2 : ∀ l ∈ cl[k], l ≠ 0 ∧ l.natAbs < a.length := fun l hl => ⟨(hlit.out l hl).1, by have := (hlit.out l hl).2; have := hRI.out.len; omega⟩
                      by_cases hx0 : x = 0
                      · subst hx0
                        have HC := Lib.hid (hRI.out.sound.clash hcm.out hlen2 (fun l hl => hneg.out l hl (hlit.out l hl).1))
                        clear hlen2
                        go_wp2
                        go_ret2
                        exact ⟨hcw.out, .inl ⟨rfl, HC.out⟩⟩
                      · have hxo := Lib.hid (hs.out.open_ hx0)
                        have hxN := Lib.hid (hlit.out x hxo.out.1)
                        have hal : a.length = N + 1 := hRI.out.len
                        have hxl : x.natAbs < a.length := by have := hxN.out.2; omega
                        have HS := Lib.hid (refSet_yes hArr.out x hxl hx0 (by rw [hxo.out.2]; decide))
                        rw [hal] at HS
                        have HD := Lib.hid (hRI.out.sound.unit hcm.out hlen2 hxo.out.1 hneg.out)
                        have Hxl := Lib.hid hxl
                        clear hlen2 hal hxl
                        go_wp2_with (go_at_call 37; refine HS.out.mono ?_; rintro e w6 ⟨rfl, h6, hc6⟩)
                        go_roundw
                        case rel =>
                          refine ⟨k + 1, assign a x, true, hlt, by go_num, rfl, fun _ => ?_, (fun h => by cases h), hch.out.trans hc6 (fun j h _ => h), h6, hRI.out.put hxN.out.1 hxN.out.2 HD.out, fun l h => true_keep hxN.out.1 hxo.out.2 (htrue.out l h)⟩
                          have h1 := push_sum (q := []) Hxl.out hxo.out.2
                          have h2 := hcount.out
                          have h3 := hset.out
                          simp at h1
                          cases c
                          · rw [(h3 rfl).1] at h1; rw [(h3 rfl).1]; omega
                          · have := h2 rfl; omega
                        case measure => simp [intOf]; omega
            · have hset' : Hid (c = false → a = a0 ∧ ∀ d ∈ cl, Settled a0 d) := fun h => ⟨(hset.out h).1, fun d hd => by
                obtain ⟨i, hi, rfl⟩ := List.mem_iff_getElem.1 hd
                exact (hset.out h).2 i hi (by omega)⟩
              clear hset
              cases c
              case true =>
                have hc2 := Lib.hid (hcount.out rfl)
                go_wp2
                go_roundg (a.count 0 + 2)
                case measure => have := hc2.out; have := hcg'.out; omega
                case rel => exact ⟨a, true, rfl, by omega, fun _ => by omega, (fun h => by cases h), hch, hArr, hRI, htrue⟩
              case false =>
                have hc2 := Lib.hid (hset'.out rfl)
                go_wp2
                go_roundg 1
                case measure => have := hcg'.out; omega
                case rel => exact ⟨a, false, rfl, by omega, (fun h => by cases h), fun _ => (by rw [hc2.out.1]; exact hc2.out.2), hch, hArr, hRI, htrue⟩
end Go.Proofs.YtbbcodpoiikkdaaDoor
