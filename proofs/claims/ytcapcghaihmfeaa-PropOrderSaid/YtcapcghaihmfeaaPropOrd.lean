/-
  The walk over PropOrder.
-/
import Derived.Test.YtcapcghaihmfeaaPropLaws
import Derived.Test.YtcapcghaihmfeaaOwnRows
namespace Go.Proofs.Ytcapcghaihmfeaa
open Go Go.RowKit

/-- Clauses the other way round, each clause too. -/
def turned (cl : List (List Int)) : List (List Int) := (cl.map List.reverse).reverse

theorem mem_turned {cl : List (List Int)} {c : List Int} : c ∈ turned cl ↔ ∃ d ∈ cl, c = d.reverse := by
  unfold turned
  rw [List.mem_reverse, List.mem_map]
  exact ⟨fun ⟨d, h, e⟩ => ⟨d, h, e.symm⟩, fun ⟨d, h, e⟩ => ⟨d, h, e.symm⟩⟩

theorem drv_turned {cl : List (List Int)} {lits : List Int} {l : Int} (h : Drv cl lits l) : Drv (turned cl) lits.reverse l := by
  induction h with
  | lit h => exact .lit (List.mem_reverse.2 h)
  | @unit c l hc hl _ ih => exact .unit (mem_turned.2 ⟨c, hc, rfl⟩) (List.mem_reverse.2 hl) (fun m hm hne => ih m (List.mem_reverse.1 hm) hne)
theorem drv_back {cl : List (List Int)} {lits : List Int} {l : Int} (h : Drv (turned cl) lits.reverse l) : Drv cl lits l := by
  induction h with
  | lit h => exact .lit (List.mem_reverse.1 h)
  | @unit c l hc hl _ ih =>
    obtain ⟨d, hd, rfl⟩ := mem_turned.1 hc
    exact .unit hd (List.mem_reverse.1 hl) (fun m hm hne => ih m (List.mem_reverse.2 hm) hne)
theorem drv_iff (cl : List (List Int)) (lits : List Int) (l : Int) : Drv (turned cl) lits.reverse l ↔ Drv cl lits l := ⟨drv_back, drv_turned⟩
theorem confl_iff (cl : List (List Int)) (lits : List Int) : Confl (turned cl) lits.reverse ↔ Confl cl lits := by
  unfold Confl
  simp only [drv_iff]
  constructor
  · rintro (h | ⟨c, hc, h⟩)
    · exact .inl h
    · obtain ⟨d, hd, rfl⟩ := mem_turned.1 hc
      exact .inr ⟨d, hd, fun l hl => h l (List.mem_reverse.2 hl)⟩
  · rintro (h | ⟨c, hc, h⟩)
    · exact .inl h
    · exact .inr ⟨c.reverse, mem_turned.2 ⟨c, hc, rfl⟩, fun l hl => h l (List.mem_reverse.1 hl)⟩
theorem fol_turned {n : Nat} {cl : List (List Int)} {lits a : List Int} (h : Fol n cl lits a) : Fol n (turned cl) lits.reverse a :=
  ⟨h.len, h.zero, h.vals, fun l h0 hn => (h.tells l h0 hn).trans (drv_iff cl lits l).symm, fun hc => h.fine ((confl_iff cl lits).1 hc)⟩

theorem many_iff : ∀ (cl : List (List Int)) (m : Int), m ≤ 131072 → (manyB cl m = false ↔ m + ((cl.map List.length).sum : Nat) ≤ 131072)
  | [], m, h => by simp [manyB]; omega
  | c :: cl, m, h => by
    simp only [manyB, List.map_cons, List.sum_cons]
    by_cases hc : 131072 - m < (c.length : Int)
    · rw [if_pos hc]; constructor
      · intro h; cases h
      · intro h; exfalso; push_cast at h; omega
    · rw [if_neg hc, many_iff cl _ (by omega)]
      push_cast
      omega
theorem sum_turned (cl : List (List Int)) : ((turned cl).map List.length).sum = (cl.map List.length).sum := by
  unfold turned
  rw [List.map_reverse, List.sum_reverse, List.map_map]
  congr 1
  apply List.map_congr_left
  intro c _
  simp
theorem chk_turned (n : Int) (cl : List (List Int)) : chk n (turned cl) = chk n cl := by
  have h1 : (turned cl).length = cl.length := by simp [turned]
  have h2 : manyB (turned cl) 0 = manyB cl 0 := by
    have e1 := many_iff (turned cl) 0 (by omega)
    have e2 := many_iff cl 0 (by omega)
    rw [sum_turned] at e1
    have e3 := e1.trans e2.symm
    cases h : manyB cl 0 <;> cases h' : manyB (turned cl) 0 <;> simp_all
  have h3 : ((turned cl).any fun c => c.any fun l => !litB n l) = (cl.any fun c => c.any fun l => !litB n l) := by
    unfold turned
    rw [List.any_reverse, List.any_map]
    congr 1
    funext c
    simp
  unfold chk
  rw [h1, h2, h3]

theorem turned_twice (cl : List (List Int)) : turned (turned cl) = cl := by
  have : (List.reverse ∘ List.reverse : List Int → List Int) = id := by funext x; simp
  simp [turned, List.map_reverse, this]
theorem turned_next (cl : List (List Int)) (k : Nat) (h : k < cl.length) : turned (cl.drop k) = turned (cl.drop (k + 1)) ++ [cl[k].reverse] := by
  unfold turned
  rw [List.drop_eq_getElem_cons h, List.map_cons, List.reverse_cons]
theorem back_next (l : List Int) (k : Nat) (h : k < l.length) : (l.drop k).reverse = (l.drop (k + 1)).reverse ++ [l[k]] := by
  rw [List.drop_eq_getElem_cons h]; simp

/-- What Follow answers: whether there is a conflict, the assignment, the code. -/
def IsAns (n : Int) (cl : List (List Int)) (lits : List Int) (conf : Bool) (a : List Int) (c : Int) : Prop :=
  (chk n cl ≠ 0 ∧ conf = false ∧ a = [] ∧ c = chk n cl) ∨
  (chk n cl = 0 ∧ lits.all (litB n) = false ∧ conf = false ∧ a = [] ∧ c = 5) ∨
  (chk n cl = 0 ∧ lits.all (litB n) = true ∧ conf = false ∧ c = 0 ∧ Fol n.toNat cl lits a) ∨
  (chk n cl = 0 ∧ lits.all (litB n) = true ∧ conf = true ∧ a = [] ∧ c = 0 ∧ ¬ ∃ a, Fol n.toNat cl lits a)
theorem isAns_ex (n : Int) (cl : List (List Int)) (lits : List Int) : ∃ conf a c, IsAns n cl lits conf a c := by
  by_cases h : chk n cl = 0
  · cases hl : lits.all (litB n)
    · exact ⟨_, _, _, .inr (.inl ⟨h, hl, rfl, rfl, rfl⟩)⟩
    · by_cases hf : ∃ a, Fol n.toNat cl lits a
      · obtain ⟨a, hf⟩ := hf
        exact ⟨_, _, _, .inr (.inr (.inl ⟨h, hl, rfl, rfl, hf⟩))⟩
      · exact ⟨_, _, _, .inr (.inr (.inr ⟨h, hl, rfl, rfl, rfl, hf⟩))⟩
  · exact ⟨_, _, _, .inl ⟨h, rfl, rfl, rfl⟩⟩
theorem isAns_turned {n : Int} {cl : List (List Int)} {lits : List Int} {conf : Bool} {a : List Int} {c : Int} (h : IsAns n cl lits conf a c) : IsAns n (turned cl) lits.reverse conf a c := by
  unfold IsAns at *
  rw [chk_turned, List.all_reverse]
  rcases h with h | h | ⟨h1, h2, h3, h4, h5⟩ | ⟨h1, h2, h3, h4, h5, h6⟩
  · exact .inl h
  · exact .inr (.inl h)
  · exact .inr (.inr (.inl ⟨h1, h2, h3, h4, fol_turned h5⟩))
  · refine .inr (.inr (.inr ⟨h1, h2, h3, h4, h5, fun ⟨b, hb⟩ => h6 ⟨b, ?_⟩⟩))
    have := fol_turned hb
    rwa [turned_twice, List.reverse_reverse] at this
theorem isAns_len {n : Int} {cl : List (List Int)} {lits : List Int} {conf : Bool} {a : List Int} {c : Int} (h : IsAns n cl lits conf a c) : a.length ≤ 9000 := by
  rcases h with ⟨_, _, rfl, _⟩ | ⟨_, _, _, rfl, _⟩ | ⟨h1, _, _, _, h5⟩ | ⟨_, _, _, rfl, _⟩
  · simp
  · simp
  · obtain ⟨N, rfl, hN, _⟩ := chk_zero h1
    have := h5.len
    rw [Int.toNat_natCast] at this
    omega
  · simp
/-- The block of what Follow answers. -/
def AnsAt (S : Option Addr) (a : List Int) (B : Nat) (w : World) : Prop := (a = [] ∧ S = none) ∨ ∃ ba, S = some ⟨ba, 0, none⟩ ∧ B ≤ ba ∧ w.heap[ba]? = some (.cells (a.map (Value.int .i64)).toArray 3 (0, 0))
theorem AnsAt.no {S : Option Addr} {a : List Int} {B : Nat} {w w' : World} (h : AnsAt S a B w) (c : Chg No w w') : AnsAt S a B w' := by
  rcases h with h | ⟨ba, h1, h2, h3⟩
  · exact .inl h
  · exact .inr ⟨ba, h1, h2, c.obj h3 id⟩
theorem AnsAt.cell {S : Option Addr} {a : List Int} {B : Nat} {w : World} (h : AnsAt S a B w) (k : Nat) (hk : k < a.length) : ∃ ba, S = some ⟨ba, 0, none⟩ ∧ w.cell? ⟨ba, k, none⟩ = some (.int .i64 a[k]) := by
  rcases h with ⟨rfl, _⟩ | ⟨ba, h1, h2, h3⟩
  · exact absurd hk (Nat.not_lt_zero k)
  · exact ⟨ba, h1, by simp [World.cell?, h3, hk]⟩

theorem follow_ans {n : Int} {cl : List (List Int)} {lits : List Int} {conf : Bool} {a : List Int} {c : Int} (h : IsAns n cl lits conf a c) {R R' : Nat → Prop} {W : World} {A A' : Option Addr} {cap cap' : Nat} (hcl : Rows2 R W A cl cap) (hlits : Ints R' W A' lits cap') :
    Calls Try.prog 12 #[.int .i64 n, .slice A cl.length cap, .slice A' lits.length cap'] W fun e w' => ∃ S, e = .returned (.tuple #[.slice S a.length a.length, .bool conf, errV 28 c]) ∧ AnsAt S a W.heap.size w' ∧ Chg No W w' := by
  rcases h with ⟨h1, rfl, rfl, rfl⟩ | ⟨h1, h2, rfl, rfl, rfl⟩ | ⟨h1, h2, rfl, rfl, h5⟩ | ⟨h1, h2, rfl, rfl, rfl, h6⟩
  · exact (follow_bad n hcl lits h1).mono (by rintro e w' ⟨rfl, h⟩; exact ⟨none, rfl, .inl ⟨rfl, rfl⟩, h⟩)
  · exact (follow_lits n hcl hlits h1 (by rw [lits_all, h2]; rfl)).mono (by rintro e w' ⟨rfl, h⟩; exact ⟨none, rfl, .inl ⟨rfl, rfl⟩, h⟩)
  · exact (follow_fine n hcl hlits h1 h2 h5).mono (by rintro e w' ⟨ba, rfl, hb, h, hc⟩; exact ⟨_, rfl, .inr ⟨ba, rfl, hb, h⟩, hc⟩)
  · exact (follow_confl n hcl hlits h1 h2 h6).mono (by rintro e w' ⟨rfl, h⟩; exact ⟨none, rfl, .inl ⟨rfl, rfl⟩, h⟩)

set_option maxRecDepth 100000 in
set_option maxHeartbeats 4000000 in
theorem propOrder_walk {w : World} (n : Int) (_ : I64 n) {A : Option Addr} {cl : List (List Int)} {cap : Nat} (hcl : Rows2 (Old w) w A cl cap) {A' : Option Addr} {lits : List Int} {cap' : Nat} (hlits : Ints (Old w) w A' lits cap') :
    Calls Try.prog 5 #[.int .i64 n, .slice A cl.length cap, .slice A' lits.length cap'] w fun e w' => e = .returned (.bool true) ∧ Chg No w w' := by
  have HU := Lib.hid (up_any w)
  have HCL := Lib.hid (fun W (h : Chg No w W) => hcl.no rowE_good h)
  have HLI := Lib.hid (fun W (h : Chg No w W) => hlits.no intE_good h)
  obtain ⟨conf, a, c, hans⟩ := isAns_ex n cl lits
  have hal := isAns_len hans
  have HF := Lib.hid (fun W (h : Chg No w W) => follow_ans hans (hcl.no rowE_good h) (hlits.no intE_good h))
  have HG := Lib.hid (fun W A2 cap2 A3 cap3 (h2 : Rows2 (fun k => w.heap.size ≤ k) W A2 (turned cl) cap2) (h3 : Ints (fun k => w.heap.size ≤ k) W A3 lits.reverse cap3) => follow_ans (isAns_turned hans) h2 h3)
  have hcb := hcl.room
  have hlb := hlits.room
  have htl : (turned cl).length = cl.length := by simp [turned]
  simp only [htl, List.length_reverse] at HG
  unfold big at hcb hlb
  simp only [RowE, SlE, IntE] at hcb hlb
  clear hcl hlits hans htl
  by_cases hll : (1000 : Int) < (lits.length : Int)
  · go_enter Try.func5, Try.ntmps5
    go_wp2_with (first
      | (go_at_call 9; refine HU.out.mono ?_; rintro e w1 ⟨rfl, h1⟩)
      | (go_at_call 11; refine (light_any n _ w1 A cl cap (HCL.out w1 h1)).mono ?_; rintro e w2 ⟨b, rfl, rfl⟩; cases b))
    all_goals
      go_ret
      exact ⟨rfl, h1⟩
  have hd3 : decide ((1000 : Int) < (lits.length : Int)) = false := decide_eq_false hll
  go_enter Try.func5, Try.ntmps5
  go_wp2_with (first
    | (go_at_call 9; refine HU.out.mono ?_; rintro e w1 ⟨rfl, h1⟩)
    | (go_at_call 11; refine (light_any n _ w1 A cl cap (HCL.out w1 h1)).mono ?_; rintro e w2 ⟨b, rfl, rfl⟩; cases b))
  · go_ret
    exact ⟨rfl, h1⟩
  have H1 := Lib.hid h1
  have hW := Lib.hid h1.size
  clear hll h1
  go_loopw [9, 10] (fun v i wr => ∃ (k : Nat) (V : List Value) (v9 : Value) (x : Int), v9 = v ∧ k ≤ cl.length ∧ i = .int .i64 x ∧ x = (k : Int) - 1 ∧ Hid (Chg No w1 wr) ∧ Hid (OwnRows 24 w1.heap.size wr v9 (turned (cl.drop k)) V)) (fun _ i _ => (intOf i + 1).toNat)
  case atStart => exact ⟨cl.length, [], _, _, rfl, Nat.le_refl _, rfl, by go_num, Chg.refl _ _, by rw [List.drop_length]; exact OwnRows.nil _ _ _⟩
  case round =>
    obtain ⟨k, V, v9, x, rfl, hk, rfl, hxk, hch, hown⟩ := hrel
    by_cases hk0 : 0 < k
    · obtain ⟨m, rfl⟩ : ∃ m, k = m + 1 := ⟨k - 1, by omega⟩
      obtain rfl : x = (m : Int) := by omega
      clear hxk
      obtain ⟨b, o, A2, cap2, rfl, hrow, hints⟩ := (HCL.out wr (H1.out.thenNo hch.out)).row_at m (by omega)
      have HIN := Lib.hid (fun W (h : Chg No wr W) => hints.no intE_good h)
      have hib := hints.room
      unfold big at hib
      simp only [IntE] at hib
      have Hnx := Lib.hid (turned_next cl m (by omega))
      have hul : Hid ((turned (cl.drop (m + 1))).length = cl.length - (m + 1)) := by unfold turned Hid; simp
      generalize cl[m] = r at *
      clear hints
      go_wp2
      obtain ⟨wo, rfl⟩ : ∃ wo : World, wo = wr := ⟨_, rfl⟩
      go_loopw [11, 12] (fun v i wx => ∃ (j : Nat) (v11 : Value) (y : Int), v11 = v ∧ j ≤ r.length ∧ i = .int .i64 y ∧ y = (j : Int) - 1 ∧ Hid (Chg No wo wx) ∧ Hid (OInts 3 (fun k => wo.heap.size ≤ k) wx v11 ((r.drop j).reverse))) (fun _ i _ => (intOf i + 1).toNat)
      case atStart => exact ⟨r.length, _, _, rfl, Nat.le_refl _, rfl, by go_num, Chg.refl _ _, by rw [List.drop_length]; exact OInts.nil _ _ _⟩
      case round =>
        obtain ⟨j, v11, y, rfl, hj, rfl, hyj, hch2, hown2⟩ := hrel
        by_cases hj0 : 0 < j
        · obtain ⟨t, rfl⟩ : ∃ t, j = t + 1 := ⟨j - 1, by omega⟩
          obtain rfl : y = (t : Int) := by omega
          clear hyj
          obtain ⟨b2, o2, rfl, hx⟩ := (HIN.out wr hch2.out).int_at t (by omega)
          have hok := Lib.hid ((HIN.out wr hch2.out).int_ok t (by omega))
          have Hnx2 := Lib.hid (back_next r t (by omega))
          have hul2 : Hid (((r.drop (t + 1)).reverse).length = r.length - (t + 1)) := by unfold Hid; simp
          have hcr := hch2.out.cell hrow id
          generalize r[t] = x at *
          go_wp2_with (at_builtin; go_must (refine wpList_push_int intsTy rfl (.tmp 51) (.tmp 59) rfl (M := fun k => wo.heap.size ≤ k) (by have := hch2.out.size; intro k hk; omega) hown2.out rfl rfl hok.out (by rw [hul2.out]; omega) ?_); intro A3 cap3 w5 ho5 hc5; have Ho5 := Lib.hid ho5; have Hc5 := Lib.hid (hch2.out.trans hc5 (fun j hj hlt => by have := (hown2.out.mine j hj).1; omega)); clear ho5 hc5)
          go_roundw
          case rel => exact ⟨t, _, _, rfl, by omega, rfl, by go_num, Hc5, by rw [Hnx2.out, ← hul2.out]; exact Ho5.out⟩
          case measure => first | (simp [intOf]; done) | (simp [intOf]; omega)
        · obtain rfl : j = 0 := by omega
          obtain rfl : y = -1 := by omega
          clear hyj
          have hd0 : r.drop 0 = r := rfl
          rw [hd0] at hown2
          have hrl : Hid (r.reverse.length = r.length) := by unfold Hid; simp
          obtain ⟨A3, cap3, rfl, hin3⟩ := hown2.out.ints (by rw [hrl.out]; unfold big; omega)
          have hsz : Hid (w1.heap.size ≤ wo.heap.size) := hch.out.size
          have hsz2 : Hid (wo.heap.size ≤ wr.heap.size) := hch2.out.size
          have Hin3 : Hid (Ints (fun k => w1.heap.size ≤ k ∧ v9.ownBlock ≠ some k) wr A3 r.reverse cap3) := hin3.mono intE_good (fun k _ hk => ⟨Nat.le_trans hsz.out hk, fun e => by have := (hown.out.own.mine k e).2; omega⟩)
          have Hown9 := Lib.hid (hown.out.no hch2.out)
          have hchr := Lib.hid (hch.out.thenNo hch2.out)
          rw [hrl.out]
          clear hin3 hd0
          go_wp2_with (at_builtin; go_must (refine wpList_push_row rowsTy rfl (.tmp 61) (.tmp 63) rfl (B := w1.heap.size) (by have := hsz.out; have := hsz2.out; omega) Hown9.out rfl hrl.out.symm Hin3.out rfl (by rw [hul.out]; omega) ?_); intro A4 cap4 w5 ho5 hc5; have Ho5 := Lib.hid ho5; have Hc5 := Lib.hid (hchr.out.trans hc5 (fun j hj hlt => by have := (Hown9.out.own.mine j hj).1; omega)); clear ho5 hc5)
          go_roundw
          case rel => exact ⟨m, _, _, _, rfl, by omega, rfl, by go_num, Hc5, by rw [Hnx.out]; exact Ho5.out⟩
          case measure => first | (simp [intOf]; done) | (simp [intOf]; omega)
    · obtain rfl : k = 0 := by omega
      obtain rfl : x = -1 := by omega
      clear hxk
      have hd0 : cl.drop 0 = cl := rfl
      rw [hd0] at hown
      have htl : Hid ((turned cl).length = cl.length) := by unfold turned Hid; simp
      obtain ⟨A3, cap3, rfl, hin3⟩ := hown.out.rows (by rw [htl.out]; unfold big; omega)
      have Hrows := Lib.hid (fun W (h : Chg No wr W) => (hin3.mono rowE_good (fun k _ hk => Nat.le_trans hW.out hk) : Rows2 (fun k => w.heap.size ≤ k) wr A3 (turned cl) cap3).no rowE_good h)
      rw [htl.out]
      have hcw : Hid (Chg No w wr) := H1.out.thenNo hch.out
      clear hin3 hd0 hown
      go_wp2
      obtain ⟨wo, rfl⟩ : ∃ wo : World, wo = wr := ⟨_, rfl⟩
      go_loopw [13, 14] (fun v i wx => ∃ (j : Nat) (v13 : Value) (y : Int), v13 = v ∧ j ≤ lits.length ∧ i = .int .i64 y ∧ y = (j : Int) - 1 ∧ Hid (Chg No wo wx) ∧ Hid (OInts 3 (fun k => wo.heap.size ≤ k) wx v13 ((lits.drop j).reverse))) (fun _ i _ => (intOf i + 1).toNat)
      case atStart => exact ⟨lits.length, _, _, rfl, Nat.le_refl _, rfl, by go_num, Chg.refl _ _, by rw [List.drop_length]; exact OInts.nil _ _ _⟩
      case round =>
        obtain ⟨j, v13, y, rfl, hj, rfl, hyj, hch2, hown2⟩ := hrel
        by_cases hj0 : 0 < j
        · obtain ⟨t, rfl⟩ : ∃ t, j = t + 1 := ⟨j - 1, by omega⟩
          obtain rfl : y = (t : Int) := by omega
          clear hyj
          have hla := HLI.out wr (hcw.out.thenNo hch2.out)
          obtain ⟨b2, o2, rfl, hx⟩ := hla.int_at t (by omega)
          have hok := Lib.hid (hla.int_ok t (by omega))
          have Hnx2 := Lib.hid (back_next lits t (by omega))
          have hul2 : Hid (((lits.drop (t + 1)).reverse).length = lits.length - (t + 1)) := by unfold Hid; simp
          generalize lits[t] = x at *
          clear hla
          go_wp2_with (at_builtin; go_must (refine wpList_push_int intsTy rfl (.tmp 72) (.tmp 77) rfl (M := fun k => wo.heap.size ≤ k) (by have := hch2.out.size; intro k hk; omega) hown2.out rfl rfl hok.out (by rw [hul2.out]; omega) ?_); intro A3 cap3 w5 ho5 hc5; have Ho5 := Lib.hid ho5; have Hc5 := Lib.hid (hch2.out.trans hc5 (fun j hj hlt => by have := (hown2.out.mine j hj).1; omega)); clear ho5 hc5)
          go_roundw
          case rel => exact ⟨t, _, _, rfl, by omega, rfl, by go_num, Hc5, by rw [Hnx2.out, ← hul2.out]; exact Ho5.out⟩
          case measure => first | (simp [intOf]; done) | (simp [intOf]; omega)
        · obtain rfl : j = 0 := by omega
          obtain rfl : y = -1 := by omega
          clear hyj
          have hd0 : lits.drop 0 = lits := rfl
          rw [hd0] at hown2
          have hrl : Hid (lits.reverse.length = lits.length) := by unfold Hid; simp
          obtain ⟨A4, cap4, rfl, hin3⟩ := hown2.out.ints (by rw [hrl.out]; unfold big; omega)
          have hcw2 : Hid (Chg No w wr) := hcw.out.thenNo hch2.out
          have Hback := Lib.hid (fun W (h : Chg No wr W) => (hin3.mono intE_good (fun k _ hk => Nat.le_trans hcw.out.size hk) : Ints (fun k => w.heap.size ≤ k) wr A4 lits.reverse cap4).no intE_good h)
          have Hrows2 := Lib.hid (fun W (h : Chg No wr W) => Hrows.out W (hch2.out.thenNo h))
          have HG2 := Lib.hid (fun W (h : Chg No wr W) => HG.out W A3 cap3 A4 cap4 (Hrows2.out W h) (Hback.out W h))
          rw [hrl.out]
          clear hin3 hd0 hown2 Hback Hrows2 Hrows HG hch hch2
          have hev : errV 28 c = .nilIface ∨ errV 28 c = .iface 28 (.int .i64 c) := by
            unfold errV; by_cases h : c = 0
            · exact .inl (if_pos h)
            · exact .inr (if_neg h)
          generalize errV 28 c = ev at *
          have hcf : conf = false ∨ conf = true := by cases conf <;> simp
          rcases hev with rfl | rfl <;> rcases hcf with rfl | rfl
          all_goals
            go_wp2_with (first
              | (go_at_call_of 12 (Value.slice A cl.length cap); refine (HF.out wr hcw2.out).mono ?_; rintro e w5 ⟨S, rfl, hS, h5⟩; have HS := Lib.hid hS; have H5 := Lib.hid h5; clear hS h5)
              | (go_at_call_of 12 (Value.slice A3 cl.length cap3); refine (HG2.out w5 H5.out).mono ?_; rintro e w6 ⟨S', rfl, hS', h6⟩; have HS' := Lib.hid hS'; have H6 := Lib.hid h6; clear hS' h6))
            go_quiet (fail)
            go_wp2
            have H7 : Hid (Chg No w w6) := (hcw2.out.thenNo H5.out).thenNo H6.out
            have HS2 := Lib.hid (fun W (h : Chg No w6 W) => (HS.out.no H6.out).no h)
            have HS3 := Lib.hid (fun W (h : Chg No w6 W) => HS'.out.no h)
            clear HS HS' H5 H6 HG2 HF
            go_loopw [21] (fun i wr => ∃ k : Nat, k ≤ a.length ∧ i = .int .i64 k ∧ Chg No w6 wr) (fun i _ => a.length - (intOf i).toNat)
            case atStart => exact ⟨0, Nat.zero_le _, rfl, (Chg.refl _ _).drewN _⟩
            case round =>
              obtain ⟨k, hk, rfl, hch⟩ := hrel
              by_cases hlt : k < a.length
              · obtain ⟨ba, rfl, hc1⟩ := (HS2.out wr hch).cell k hlt
                obtain ⟨bb, rfl, hc2⟩ := (HS3.out wr hch).cell k hlt
                generalize a[k] = x at *
                have hk1 : (k : Int) < (a.length : Int) := by omega
                have hk0 : (0 : Int) ≤ (k : Int) := by omega
                go_wp2
                go_quiet (fail)
                go_wp2
                go_roundw
                case rel => exact ⟨k + 1, hlt, by go_num, hch.drewN _⟩
                case measure => simp [intOf]; omega
              · go_wp2
                go_ret
                exact ⟨rfl, H7.out.thenNo hch⟩
end Go.Proofs.Ytcapcghaihmfeaa
