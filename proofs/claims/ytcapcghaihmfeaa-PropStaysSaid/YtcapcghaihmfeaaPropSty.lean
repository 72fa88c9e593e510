/-
  The walk over PropStays.
-/
import Derived.Test.YtcapcghaihmfeaaPropAns
namespace Go.Proofs.Ytcapcghaihmfeaa
open Go Go.RowKit

theorem take_next {α : Type} (l : List α) (k : Nat) (h : k < l.length) : l.take (k + 1) = l.take k ++ [l[k]] := List.take_succ_eq_append_getElem h

theorem AnsAt.set {ba : Nat} {a : List Int} {B : Nat} {w : World} (h : AnsAt (some ⟨ba, 0, none⟩) a B w) (k : Nat) (x : Int) : AnsAt (some ⟨ba, 0, none⟩) (a.set k x) B (w.setCell ⟨ba, k, none⟩ (.int .i64 x)) ∧ B ≤ ba ∧ w.frozen? ⟨ba, k, none⟩ = false := by
  rcases h with ⟨_, h⟩ | ⟨b, h1, h2, h3⟩
  · cases h
  · injection h1 with h1
    injection h1 with h1
    subst h1
    refine ⟨.inr ⟨ba, rfl, h2, ?_⟩, h2, by simp [World.frozen?, h3]⟩
    simp only [World.setCell]
    rw [Array.getElem?_modify, if_pos rfl, h3]
    simp [List.map_set]

set_option maxRecDepth 100000 in
set_option maxHeartbeats 4000000 in
theorem propStays_walk {w : World} (n : Int) (_ : I64 n) {A : Option Addr} {cl : List (List Int)} {cap : Nat} (hcl : Rows2 (Old w) w A cl cap) {A' : Option Addr} {lits : List Int} {cap' : Nat} (hlits : Ints (Old w) w A' lits cap') :
    Calls Try.prog 6 #[.int .i64 n, .slice A cl.length cap, .slice A' lits.length cap'] w fun e w' => e = .returned (.bool true) ∧ Chg No w w' := by
  have HU := Lib.hid (up_any w)
  have HCL := Lib.hid (fun W (h : Chg No w W) => hcl.no rowE_good h)
  have HLI := Lib.hid (fun W (h : Chg No w W) => hlits.no intE_good h)
  obtain ⟨conf, a, c, hans⟩ := isAns_ex n cl lits
  have hal := isAns_len hans
  have HG := Lib.hid (fun W A2 cap2 A3 cap3 (h2 : Rows2 (fun k => w.heap.size ≤ k) W A2 cl cap2) (h3 : Ints (fun k => w.heap.size ≤ k) W A3 lits cap3) => follow_ans hans h2 h3)
  have hcb := hcl.room
  have hlb := hlits.room
  unfold big at hcb hlb
  simp only [RowE, SlE, IntE] at hcb hlb
  clear hcl hlits hans
  by_cases hll : (1000 : Int) < (lits.length : Int)
  · go_enter Try.func6, Try.ntmps6
    go_wp2_with (first
      | (go_at_call 9; refine HU.out.mono ?_; rintro e w1 ⟨rfl, h1⟩)
      | (go_at_call 11; refine (light_any n _ w1 A cl cap (HCL.out w1 h1)).mono ?_; rintro e w2 ⟨b, rfl, rfl⟩; cases b))
    all_goals
      go_ret
      exact ⟨rfl, h1⟩
  have hd3 : decide ((1000 : Int) < (lits.length : Int)) = false := decide_eq_false hll
  go_enter Try.func6, Try.ntmps6
  go_wp2_with (first
    | (go_at_call 9; refine HU.out.mono ?_; rintro e w1 ⟨rfl, h1⟩)
    | (go_at_call 11; refine (light_any n _ w1 A cl cap (HCL.out w1 h1)).mono ?_; rintro e w2 ⟨b, rfl, rfl⟩; cases b))
  · go_ret
    exact ⟨rfl, h1⟩
  have H1 := Lib.hid h1
  clear hll h1
  go_loopw [9, 10] (fun v i wr => ∃ (k : Nat) (V : List Value) (v9 : Value), v9 = v ∧ k ≤ cl.length ∧ i = .int .i64 k ∧ Hid (Chg No w1 wr) ∧ Hid (OwnRows 24 w1.heap.size wr v9 (cl.take k) V)) (fun _ i _ => cl.length - (intOf i).toNat)
  case atStart => exact ⟨0, [], _, rfl, Nat.zero_le _, by go_num, Chg.refl _ _, OwnRows.nil _ _ _⟩
  case round =>
    obtain ⟨k, V, v9, rfl, hk, rfl, hch, hown⟩ := hrel
    by_cases hlt : k < cl.length
    · obtain ⟨b, o, A2, cap2, rfl, hrow, hints⟩ := (HCL.out wr (H1.out.thenNo hch.out)).row_at k hlt
      have Hnx := Lib.hid (take_next cl k hlt)
      have hul : Hid ((cl.take k).length = k) := by unfold Hid; simp; omega
      have Hints := Lib.hid hints
      have hrow2 : (wr.alloc (.cells #[] 3)).cell? ⟨b, o + k, none⟩ = _ := ((Chg.refl No wr).alloc (.cells #[] 3)).cell hrow id
      generalize cl[k] = r at *
      have hsz : Hid (w1.heap.size ≤ wr.heap.size) := hch.out.size
      clear hints
      go_wp2_with (first
        | (at_builtin; refine wpList_copy_ints intsTy rfl (.tmp 38) (.tmp 42) rfl rfl rfl Hints.out rfl ?_; intro A3 cap3 w4 ho4 hc4; have Hown4 := Lib.hid (hown.out.no hc4); have Hc4 := Lib.hid (hch.out.thenNo hc4); have Ho4 : Hid (Ints (fun k => w1.heap.size ≤ k ∧ v9.ownBlock ≠ some k) w4 A3 r cap3) := ho4.mono intE_good (fun k _ hk => ⟨Nat.le_trans hsz.out hk, fun e => by have := (hown.out.own.mine k e).2; omega⟩); clear ho4 hc4)
        | (at_builtin; refine wpList_push_row rowsTy rfl (.tmp 37) (.tmp 44) rfl (B := w1.heap.size) Hc4.out.size Hown4.out rfl rfl Ho4.out rfl (by rw [hul.out]; omega) ?_; intro A4 cap4 w5 ho5 hc5; rw [hul.out] at ho5; have Ho5 := Lib.hid ho5; have Hc5 := Lib.hid (Hc4.out.trans hc5 (fun j hj hlt => by have := (Hown4.out.own.mine j hj).1; omega)); clear ho5 hc5))
      go_roundw
      case rel => exact ⟨k + 1, _, _, rfl, hlt, by go_num, Hc5, by rw [Hnx.out]; exact Ho5.out⟩
      case measure => first | (simp [intOf]; done) | (simp [intOf]; omega)
    · obtain rfl : k = cl.length := by omega
      rw [List.take_length] at hown
      obtain ⟨A3, cap3, rfl, hin3⟩ := hown.out.rows (by unfold big; omega)
      have hcw : Hid (Chg No w wr) := H1.out.thenNo hch.out
      have Hrows := Lib.hid hin3
      have Hlw := Lib.hid (HLI.out wr hcw.out)
      have hw1 : Hid (w.heap.size ≤ w1.heap.size) := H1.out.size
      clear hin3 hown
      go_wp2_with (first
        | (at_builtin; refine wpList_copy_ints intsTy rfl (.tmp 46) (.tmp 47) rfl rfl rfl Hlw.out rfl ?_; intro A4 cap4 w4 ho4 hc4; have Hc4 := Lib.hid hc4; have Ho4 := Lib.hid ho4; clear ho4 hc4)
        | (go_at_call_of 12 (Value.slice A3 cl.length cap3); refine (HG.out w4 A3 cap3 A4 cap4 ((Hrows.out.no rowE_good Hc4.out).mono rowE_good (fun k _ hk => Nat.le_trans hw1.out hk)) (Ho4.out.mono intE_good (fun k _ hk => Nat.le_trans hcw.out.size hk))).mono ?_; rintro e w5 ⟨S, rfl, hS, h5⟩; have HS := Lib.hid hS; have H5 := Lib.hid h5; clear hS h5))
      have hwa : Hid (w.heap.size ≤ w4.heap.size) := Nat.le_trans hcw.out.size Hc4.out.size
      have Hbf : Hid (Chg No w w5) := (hcw.out.thenNo Hc4.out).thenNo H5.out
      have HR5 := Lib.hid (fun W (h : Chg (fun k => w4.heap.size ≤ k) w5 W) => (((Hrows.out.no rowE_good Hc4.out).mono (R' := fun k => k < w4.heap.size) rowE_good (fun k hk _ => hk)).no rowE_good H5.out).chg rowE_good h (fun k h1 h2 => by omega))
      have HI5 := Lib.hid (fun W (h : Chg (fun k => w4.heap.size ≤ k) w5 W) => (((Ho4.out).mono (R' := fun k => k < w4.heap.size) intE_good (fun k hk _ => hk)).no intE_good H5.out).chg intE_good h (fun k h1 h2 => by omega))
      have Hcw5 := Lib.hid (fun W (h : Chg (fun k => w4.heap.size ≤ k) w5 W) => (Hbf.out.trans h (fun k h1 h2 => by have := hwa.out; omega) : Chg No w W))
      clear HG Hrows Ho4 Hlw hch
      go_loopw [15] (fun i wr => ∃ (k : Nat) (a' : List Int), k ≤ a.length ∧ i = .int .i64 k ∧ Hid (a'.length = a.length) ∧ Hid (AnsAt S a' w4.heap.size wr) ∧ Hid (Chg (fun k => w4.heap.size ≤ k) w5 wr)) (fun i _ => a.length - (intOf i).toNat)
      case atStart => exact ⟨0, a, Nat.zero_le _, rfl, rfl, HS.out, Chg.refl _ _⟩
      case round =>
        obtain ⟨k, a', hk', rfl, hla, hS', hc'⟩ := hrel
        by_cases hlt' : k < a.length
        · obtain ⟨ba, rfl, hc1⟩ := hS'.out.cell k (by rw [hla.out]; exact hlt')
          obtain ⟨hset, hge, hfr⟩ := hS'.out.set k 5
          have Hset := Lib.hid hset
          have Hch := Lib.hid (hc'.out.setCell ⟨ba, k, none⟩ (.int .i64 5) (fun _ => hge))
          have Hla : Hid ((a'.set k 5).length = a.length) := by unfold Hid; rw [List.length_set]; exact hla.out
          generalize hxx : a'[k]'(by rw [hla.out]; exact hlt') = x at *
          clear hxx hset hge
          go_wp2
          go_roundw
          case rel => exact ⟨k + 1, a'.set k 5, hlt', by go_num, Hla, Hset, Hch⟩
          case measure => first | (simp [intOf]; done) | (simp [intOf]; omega)
        · clear HS hS' hla
          go_wp2
          obtain ⟨wo, rfl⟩ : ∃ wo : World, wo = wr := ⟨_, rfl⟩
          go_loopw [16] (fun i wr => ∃ k : Nat, k ≤ cl.length ∧ i = .int .i64 k ∧ Hid (Chg No wo wr)) (fun i _ => cl.length - (intOf i).toNat)
          case atStart => exact ⟨0, Nat.zero_le _, rfl, Chg.refl _ _⟩
          case round =>
            obtain ⟨m, hm, rfl, hcm⟩ := hrel
            have hcm2 : Hid (Chg (fun k => w4.heap.size ≤ k) w5 wr) := hc'.out.thenNo hcm.out
            by_cases hlm : m < cl.length
            · obtain ⟨b1, o1, A5, cap5, rfl, hrow1, hin1⟩ := (HCL.out wr (Hcw5.out wr hcm2.out)).row_at m hlm
              obtain ⟨b2, o2, A6, cap6, rfl, hrow2, hin2⟩ := (HR5.out wr hcm2.out).row_at m hlm
              have hib := hin1.big
              unfold big at hib
              generalize cl[m] = r at *
              have HN1 := Lib.hid (fun W (h : Chg No wr W) => hin1.no intE_good h)
              have HN2 := Lib.hid (fun W (h : Chg No wr W) => hin2.no intE_good h)
              clear hin1 hin2
              go_wp2
              obtain ⟨wp, rfl⟩ : ∃ wp : World, wp = wr := ⟨_, rfl⟩
              go_loopw [17] (fun i wr => ∃ k : Nat, k ≤ r.length ∧ i = .int .i64 k ∧ Hid (Chg No wp wr)) (fun i _ => r.length - (intOf i).toNat)
              case atStart => exact ⟨0, Nat.zero_le _, rfl, Chg.refl _ _⟩
              case round =>
                obtain ⟨j, hj, rfl, hcj⟩ := hrel
                have hr1 := hcj.out.cell hrow1 id
                have hr2 := hcj.out.cell hrow2 id
                by_cases hlj : j < r.length
                · obtain ⟨b3, o3, rfl, hx1⟩ := (HN1.out wr hcj.out).int_at j hlj
                  obtain ⟨b4, o4, rfl, hx2⟩ := (HN2.out wr hcj.out).int_at j hlj
                  generalize r[j] = x at *
                  have hm1 : (m : Int) < (cl.length : Int) := by omega
                  have hm0 : (0 : Int) ≤ (m : Int) := by omega
                  have hj1 : (j : Int) < (r.length : Int) := by omega
                  have hj0 : (0 : Int) ≤ (j : Int) := by omega
                  go_wp2
                  go_quiet (fail)
                  go_wp2
                  go_roundw
                  case rel => exact ⟨j + 1, hlj, by go_num, hcj.out.drewN _⟩
                  case measure => first | (simp [intOf]; done) | (simp [intOf]; omega)
                · go_wp2
                  go_roundw
                  case rel => exact ⟨m + 1, hlm, by go_num, hcm.out.thenNo hcj.out⟩
                  case measure => first | (simp [intOf]; done) | (simp [intOf]; omega)
            · go_wp2
              obtain ⟨wp, rfl⟩ : ∃ wp : World, wp = wr := ⟨_, rfl⟩
              go_loopw [18] (fun i wr => ∃ k : Nat, k ≤ lits.length ∧ i = .int .i64 k ∧ Hid (Chg No wp wr)) (fun i _ => lits.length - (intOf i).toNat)
              case atStart => exact ⟨0, Nat.zero_le _, rfl, Chg.refl _ _⟩
              case round =>
                obtain ⟨j, hj, rfl, hcj⟩ := hrel
                have hcj2 : Hid (Chg (fun k => w4.heap.size ≤ k) w5 wr) := hcm2.out.thenNo hcj.out
                by_cases hlj : j < lits.length
                · obtain ⟨b3, o3, rfl, hx1⟩ := (HLI.out wr (Hcw5.out wr hcj2.out)).int_at j hlj
                  obtain ⟨b4, o4, rfl, hx2⟩ := (HI5.out wr hcj2.out).int_at j hlj
                  generalize lits[j] = x at *
                  have hj1 : (j : Int) < (lits.length : Int) := by omega
                  have hj0 : (0 : Int) ≤ (j : Int) := by omega
                  go_wp2
                  go_quiet (fail)
                  go_wp2
                  go_roundw
                  case rel => exact ⟨j + 1, hlj, by go_num, hcj.out.drewN _⟩
                  case measure => first | (simp [intOf]; done) | (simp [intOf]; omega)
                · go_wp2
                  go_ret
                  exact ⟨rfl, Hcw5.out wr hcj2.out⟩
end Go.Proofs.Ytcapcghaihmfeaa
