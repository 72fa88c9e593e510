/-
  The walk over PropRight.
-/
import Derived.Test.YtcapcghaihmfeaaPropLaws
import Derived.Test.YtcapcghaihmfeaaOwnRows
namespace Go.Proofs.Ytcapcghaihmfeaa
open Go Go.RowKit

theorem valB_opp {values : List Bool} {l : Int} (h0 : l ≠ 0) (h : valB values l = true) : valB values (-l) = false := by
  have e : decide (0 < -l) = !decide (0 < l) := by
    by_cases hp : 0 < l
    · rw [decide_eq_true hp, decide_eq_false (by omega)]; rfl
    · rw [decide_eq_false hp, decide_eq_true (by omega)]; rfl
  unfold valB at *
  rw [Int.natAbs_neg, e]
  simp only [Bool.and_eq_true, decide_eq_true_eq, beq_iff_eq] at h
  rw [h.2]
  cases decide (0 < l) <;> simp
/-- Values by which clauses and literals are true make true what follows. -/
theorem drv_true {n : Nat} {cl : List (List Int)} {lits : List Int} {values : List Bool} (hcl : ∀ c ∈ cl, ∀ l ∈ c, l ≠ 0 ∧ l.natAbs ≤ n) (hl : ∀ l ∈ lits, valB values l = true) (hc : ∀ c ∈ cl, c.any (valB values) = true) :
    ∀ l, Drv cl lits l → valB values l = true := by
  intro l h
  induction h with
  | lit h => exact hl _ h
  | @unit c l hcc hlc _ ih =>
    obtain ⟨m, hm, hv⟩ := List.any_eq_true.1 (hc c hcc)
    by_cases e : m = l
    · rw [← e]; exact hv
    · have h1 := ih m hm e
      have hb := hcl c hcc m hm
      rw [valB_opp hb.1 hv] at h1; cases h1

theorem right_fol {n : Nat} {cl : List (List Int)} {lits : List Int} {values : List Bool} (hcl : ∀ c ∈ cl, ∀ l ∈ c, l ≠ 0 ∧ l.natAbs ≤ n) (hl : ∀ l ∈ lits, valB values l = true) (hc : ∀ c ∈ cl, c.any (valB values) = true) : ¬ Confl cl lits := by
  have ht := drv_true hcl hl hc
  rintro (⟨l, h0, h1, h2⟩ | ⟨c, hcc, h⟩)
  · have e1 := ht _ h1
    have e2 := ht _ h2
    rw [valB_opp h0 e1] at e2; cases e2
  · obtain ⟨m, hm, hv⟩ := List.any_eq_true.1 (hc c hcc)
    have e2 := ht _ (h m hm)
    rw [valB_opp (hcl c hcc m hm).1 hv] at e2; cases e2

/-- What an assignment that tells what follows says of a variable agrees with the values. -/
theorem right_at {n : Nat} {cl : List (List Int)} {lits a : List Int} {values : List Bool} (hf : Fol n cl lits a) (hcl : ∀ c ∈ cl, ∀ l ∈ c, l ≠ 0 ∧ l.natAbs ≤ n) (hl : ∀ l ∈ lits, valB values l = true) (hc : ∀ c ∈ cl, c.any (valB values) = true)
    (i : Nat) (h1 : 1 ≤ i) (h2 : i ≤ n) : (a.getD i 0 = 1 → values.getD (i - 1) false = true) ∧ (a.getD i 0 = -1 → values.getD (i - 1) false = false) := by
  have ht := drv_true hcl hl hc
  have hv : val a (i : Int) = a.getD i 0 := by unfold val; rw [if_neg (by omega), Int.natAbs_natCast]
  constructor
  · intro h
    have := ht _ ((hf.tells (i : Int) (by omega) (by simpa using h2)).1 (by rw [hv, h]))
    unfold valB at this
    simp only [Int.natAbs_natCast, Bool.and_eq_true, decide_eq_true_eq, beq_iff_eq] at this
    rw [this.2]
    exact decide_eq_true (by omega)
  · intro h
    have := ht _ ((hf.tells (-(i : Int)) (by omega) (by simpa using h2)).1 (by rw [val_neg _ _ (by omega), hv, h]; rfl))
    unfold valB at this
    rw [Int.natAbs_neg, Int.natAbs_natCast] at this
    simp only [Bool.and_eq_true, decide_eq_true_eq, beq_iff_eq] at this
    rw [this.2]
    exact decide_eq_false (by omega)

/-- The clauses of one literal each. -/
def units (l : List Int) : List (List Int) := l.map fun x => [x]
theorem units_all (lits : List Int) (values : List Bool) : allB (units lits) values = lits.all (valB values) := by
  unfold allB units
  rw [List.all_map]
  congr 1
  funext x
  simp
theorem units_next (l : List Int) (k : Nat) (h : k < l.length) : units (l.take (k + 1)) = units (l.take k) ++ [[l[k]]] := by
  unfold units
  rw [List.take_succ_eq_append_getElem h, List.map_append]; rfl

set_option maxHeartbeats 2000000 in
theorem propRight_err {w : World} (n : Int) {A : Option Addr} {cl : List (List Int)} {cap : Nat} (hcl : Rows2 (Old w) w A cl cap) {A' : Option Addr} {lits : List Int} {cap' : Nat} {A'' : Option Addr} {values : List Bool} {cap'' : Nat} (c : Int)
    (HF : ∀ W, Chg No w W → Calls Try.prog 12 #[.int .i64 n, .slice A cl.length cap, .slice A' lits.length cap'] W fun e w' => e = .returned (.tuple #[.slice none 0 0, .bool false, .iface 28 (.int .i64 c)]) ∧ Chg No W w') :
    Calls Try.prog 8 #[.int .i64 n, .slice A cl.length cap, .slice A' lits.length cap', .slice A'' values.length cap''] w fun e w' => e = .returned (.bool true) ∧ Chg No w w' := by
  have HU := Lib.hid (up_any w)
  have HCL := Lib.hid (fun W (h : Chg No w W) => hcl.no rowE_good h)
  have HF := Lib.hid HF
  clear hcl
  go_enter Try.func8, Try.ntmps8
  go_wp2_with (first
    | (go_at_call 9; refine HU.out.mono ?_; rintro e w1 ⟨rfl, h1⟩)
    | (go_at_call 11; refine (light_any n _ w1 A cl cap (HCL.out w1 h1)).mono ?_; rintro e w2 ⟨b, rfl, rfl⟩)
    | (go_at_call 12; refine (HF.out w1 h1).mono ?_; rintro e w3 ⟨rfl, h3⟩; have h4 := h1.thenNo h3))
  all_goals
    go_ret
    exact ⟨rfl, h4⟩

/-- What Follow leaves, where nothing is amiss. -/
def FolIs (n : Nat) (cl : List (List Int)) (lits : List Int) (conf : Bool) (a : List Int) (S : Option Addr) (w' : World) : Prop :=
  (conf = true ∧ a = [] ∧ S = none ∧ Confl cl lits) ∨ (conf = false ∧ Fol n cl lits a ∧ ∃ ba, S = some ⟨ba, 0, none⟩ ∧ w'.heap[ba]? = some (.cells (a.map (Value.int .i64)).toArray 3 (0, 0)))

theorem follow_is {R R' : Nat → Prop} {w : World} (n : Int) {A A' : Option Addr} {cl : List (List Int)} {cap cap' : Nat} (hcl : Rows2 R w A cl cap) {lits : List Int} (hlits : Ints R' w A' lits cap') (hgood : chk n cl = 0) (hfine : lits.all (litB n) = true) :
    ∃ conf a, ∀ W, Chg No w W → Calls Try.prog 12 #[.int .i64 n, .slice A cl.length cap, .slice A' lits.length cap'] W fun e w' => ∃ S, e = .returned (.tuple #[.slice S a.length a.length, .bool conf, .nilIface]) ∧ FolIs n.toNat cl lits conf a S w' ∧ Chg No W w' := by
  by_cases hC : ∃ a, Fol n.toNat cl lits a
  · obtain ⟨a, hf⟩ := hC
    exact ⟨false, a, fun W hW => (follow_fine n (hcl.no rowE_good hW) (hlits.no intE_good hW) hgood hfine hf).mono (fun e w' ⟨ba, he, _, hb, hc⟩ => ⟨_, he, .inr ⟨rfl, hf, ba, rfl, hb⟩, hc⟩)⟩
  · exact ⟨true, [], fun W hW => (follow_good n (hcl.no rowE_good hW) (hlits.no intE_good hW) hgood (by rw [lits_all, hfine]; rfl)).mono (by
      rintro e w' ⟨hch, ⟨rfl, h⟩ | ⟨a, ba, rfl, hf, _⟩⟩
      · exact ⟨none, rfl, .inl ⟨rfl, rfl, rfl, h⟩, hch⟩
      · exact absurd ⟨a, hf⟩ hC)⟩

set_option maxRecDepth 100000 in
set_option maxHeartbeats 4000000 in
theorem propRight_good {w : World} (n : Int) {A : Option Addr} {cl : List (List Int)} {cap : Nat} (hcl : Rows2 (Old w) w A cl cap) {A' : Option Addr} {lits : List Int} {cap' : Nat} (hlits : Ints (Old w) w A' lits cap') {A'' : Option Addr} {values : List Bool} {cap'' : Nat} (hv : Bools (Old w) w A'' values cap'')
    (hgood : chk n cl = 0) (hfine : lits.all (litB n) = true) :
    Calls Try.prog 8 #[.int .i64 n, .slice A cl.length cap, .slice A' lits.length cap', .slice A'' values.length cap''] w fun e w' => e = .returned (.bool true) ∧ Chg No w w' := by
  have HU := Lib.hid (up_any w)
  have HCL := Lib.hid (fun W (h : Chg No w W) => hcl.no rowE_good h)
  have HLI := Lib.hid (fun W (h : Chg No w W) => hlits.no intE_good h)
  have HV := Lib.hid (fun W (h : Chg No w W) => hv.no boolE_good h)
  obtain ⟨conf, a, HF0⟩ := follow_is n hcl hlits hgood hfine
  have HF := Lib.hid HF0
  obtain ⟨N, rfl, hN, _, hcs⟩ := chk_zero hgood
  have Hcs := Lib.hid hcs
  have hvb := hv.big
  unfold big at hvb
  clear hcl hlits hv hgood hfine HF0 hcs
  by_cases hvl : (values.length : Int) < (N : Int)
  · go_enter Try.func8, Try.ntmps8
    go_wp2_with (first
      | (go_at_call 9; refine HU.out.mono ?_; rintro e w1 ⟨rfl, h1⟩)
      | (go_at_call 11; refine (light_any N _ w1 A cl cap (HCL.out w1 h1)).mono ?_; rintro e w2 ⟨b, rfl, rfl⟩)
      | (go_at_call 12; refine (HF.out w1 h1).mono ?_; rintro e w3 ⟨S, rfl, hS, h3⟩; have h4 := h1.thenNo h3; have HS := Lib.hid hS; clear hS))
    all_goals
      go_ret
      exact ⟨rfl, h4⟩
  by_cases hll : (1000 : Int) < (lits.length : Int)
  · go_enter Try.func8, Try.ntmps8
    go_wp2_with (first
      | (go_at_call 9; refine HU.out.mono ?_; rintro e w1 ⟨rfl, h1⟩)
      | (go_at_call 11; refine (light_any N _ w1 A cl cap (HCL.out w1 h1)).mono ?_; rintro e w2 ⟨b, rfl, rfl⟩)
      | (go_at_call 12; refine (HF.out w1 h1).mono ?_; rintro e w3 ⟨S, rfl, hS, h3⟩; have h4 := h1.thenNo h3; have HS := Lib.hid hS; clear hS))
    all_goals
      go_ret
      exact ⟨rfl, h4⟩
  have hd1 : decide ((values.length : Int) < (N : Int)) = false := decide_eq_false hvl
  have hd2 : decide (values.length < N) = false := decide_eq_false (by omega)
  have hd3 : decide ((1000 : Int) < (lits.length : Int)) = false := decide_eq_false hll
  go_enter Try.func8, Try.ntmps8
  go_wp2_with (first
    | (go_at_call 9; refine HU.out.mono ?_; rintro e w1 ⟨rfl, h1⟩)
    | (go_at_call 11; refine (light_any N _ w1 A cl cap (HCL.out w1 h1)).mono ?_; rintro e w2 ⟨b, rfl, rfl⟩; cases b)
    | (go_at_call 12; refine (HF.out w1 h1).mono ?_; rintro e w3 ⟨S, rfl, hS, h3⟩; have h4 := h1.thenNo h3; have HS := Lib.hid hS; clear hS))
  · go_ret
    exact ⟨rfl, h4⟩
  have hlb : lits.length ≤ 1000 := by omega
  clear hvl hll
  have HW3 := Lib.hid (show w.heap.size ≤ w3.heap.size from h4.size)
  go_loopw [14, 15] (fun v i wr => ∃ (k : Nat) (V : List Value) (v14 : Value), v14 = v ∧ k ≤ lits.length ∧ i = .int .i64 k ∧ Hid (Chg No w3 wr) ∧ Hid (OwnRows 24 w3.heap.size wr v14 (units (lits.take k)) V)) (fun _ i _ => lits.length - (intOf i).toNat)
  case atStart => exact ⟨0, [], _, rfl, Nat.zero_le _, rfl, Chg.refl _ _, OwnRows.nil _ _ _⟩
  case round =>
    obtain ⟨k, V, v14, rfl, hk, rfl, hch, hown⟩ := hrel
    by_cases hlt : k < lits.length
    · obtain ⟨b, o, rfl, hx⟩ := (HLI.out wr (h4.thenNo hch.out)).int_at k hlt
      have hok := Lib.hid ((HLI.out w (Chg.refl _ _)).int_ok k hlt)
      have hnx := Lib.hid (units_next lits k hlt)
      have hul : Hid ((units (lits.take k)).length = k) := by unfold units Hid; simp; omega
      generalize lits[k] = x at *
      have hsz : w3.heap.size ≤ wr.heap.size := hch.out.size
      have Hsz := Lib.hid hsz
      have Hpush : Hid (∀ A2 cap2 w5, Own (fun k => w3.heap.size ≤ k) 24 1 w5 (.slice A2 ((units (lits.take k)).length + 1) cap2) ((units (lits.take k)).length + 1) (V ++ [.slice (some ⟨wr.heap.size, 0, none⟩) 1 1]) →
          Chg (fun k => v14.ownBlock = some k) ((wr.alloc (.cells #[.int .i64 x] 3)).alloc (.cells #[.slice (some ⟨wr.heap.size, 0, none⟩) 1 1] 24)) w5 →
          ((Value.slice A2 ((units (lits.take k)).length + 1) cap2).ownBlock = v14.ownBlock ∨ (Value.slice A2 ((units (lits.take k)).length + 1) cap2).ownBlock = some ((wr.alloc (.cells #[.int .i64 x] 3)).alloc (.cells #[.slice (some ⟨wr.heap.size, 0, none⟩) 1 1] 24)).heap.size) →
          Hid (OwnRows 24 w3.heap.size w5 (.slice A2 ((units (lits.take k)).length + 1) cap2) (units (lits.take (k + 1))) (V ++ [.slice (some ⟨wr.heap.size, 0, none⟩) 1 1])) ∧ Hid (Chg No w3 w5)) := by
        intro A2 cap2 w5 g1 g2 g3
        have hmine := hown.out.own.mine
        have hrow : Ints (fun k => w3.heap.size ≤ k ∧ v14.ownBlock ≠ some k) ((wr.alloc (.cells #[.int .i64 x] 3)).alloc (.cells #[.slice (some ⟨wr.heap.size, 0, none⟩) 1 1] 24)) (some ⟨wr.heap.size, 0, none⟩) [x] 1 :=
          ints_of_block (l := [x]) (at_old (at_new rfl)) ⟨hsz, fun e => by have := (hmine _ e).2; omega⟩ (by simp [big]) (fun y hy => by simp at hy; subst hy; exact hok.out)
        have hc2 : Chg No wr ((wr.alloc (.cells #[.int .i64 x] 3)).alloc (.cells #[.slice (some ⟨wr.heap.size, 0, none⟩) 1 1] 24)) := ((Chg.refl _ _).alloc _).alloc _
        refine ⟨?_, (hch.out.thenNo hc2).trans g2 (fun j hj hlt => by have := (hmine j hj).1; omega)⟩
        rw [hnx.out]
        exact (hown.out.no hc2).push (r := [x]) hrow g1 g2 g3
      have Hown2 := Lib.hid ((hown.out.no (((Chg.refl No wr).alloc (.cells #[.int .i64 x] 3)).alloc (.cells #[.slice (some ⟨wr.heap.size, 0, none⟩) 1 1] 24))).own)
      have Hnews : Hid (∀ j u, ([.slice (some ⟨wr.heap.size, 0, none⟩) 1 1] : List Value)[j]? = some u → ((wr.alloc (.cells #[.int .i64 x] 3)).alloc (.cells #[.slice (some ⟨wr.heap.size, 0, none⟩) 1 1] 24)).cell? ((⟨wr.heap.size + 1, 0, none⟩ : Addr).add j) = some u) := by
        have := news_alloc (wr.alloc (.cells #[.int .i64 x] 3)) [.slice (some ⟨wr.heap.size, 0, none⟩) 1 1] 24
        unfold Hid
        simpa using this
      rw [hul.out] at Hpush Hown2
      clear hsz
      go_wp2_with (at_builtin; go_must (refine wpList_append_Own rowsTy rfl (.tmp 53) (.tmp 59) rfl (M := fun k => w3.heap.size ≤ k) (by intro k hk; (have hk : wr.heap.size + 1 + 1 ≤ k := (by simpa using hk)); (have := Hsz.out); omega) Hown2.out rfl rfl rfl Hnews.out (by simp [Value.oneCell']) (by omega) ?_); intro A2 cap2 w5 ho5 hc5 hb5; obtain ⟨Ho5, Hc5⟩ := Hpush.out A2 cap2 w5 ho5 hc5 hb5; clear ho5 hc5 hb5)
      go_roundw
      case rel => exact ⟨k + 1, _, _, rfl, hlt, by go_num, Hc5, Ho5⟩
      case measure => simp [intOf]; omega
    · have hkl : lits.take k = lits := List.take_of_length_le (by omega)
      rw [hkl] at hown
      have hul : (units lits).length = lits.length := by simp [units]
      obtain ⟨A1, cap1, rfl, hR⟩ := hown.out.rows (by rw [hul]; unfold big; omega)
      have HR := Lib.hid hR
      have hcw : Hid (Chg No w wr) := h4.thenNo hch.out
      have HV1 := Lib.hid (fun W (h : Chg No w W) => value_any (HCL.out W h) (HV.out W h))
      have HV2 := Lib.hid (fun W (h : Chg No wr W) => value_any (HR.out.no rowE_good h) (HV.out W (hcw.out.thenNo h)))
      rw [units_all] at HV2
      have Hall : Hid (allB cl values = true → lits.all (valB values) = true → ¬ Confl cl lits ∧ ∀ a, Fol N cl lits a → ∀ i, 1 ≤ i → i ≤ N → (a.getD i 0 = 1 → values.getD (i - 1) false = true) ∧ (a.getD i 0 = -1 → values.getD (i - 1) false = false)) := fun h1 h2 => by
        have e1 : ∀ c ∈ cl, c.any (valB values) = true := fun c hc => List.all_eq_true.1 h1 c hc
        have e2 : ∀ l ∈ lits, valB values l = true := fun l hl => List.all_eq_true.1 h2 l hl
        exact ⟨right_fol (fun c hc => (Hcs.out c hc).2) e2 e1, fun a hf i g1 g2 => right_at hf (fun c hc => (Hcs.out c hc).2) e2 e1 i g1 g2⟩
      clear hkl hul hR hown
      by_cases hboth : allB cl values = true ∧ lits.all (valB values) = true
      · obtain ⟨hnc, hat⟩ := Hall.out hboth.1 hboth.2
        rw [hboth.1] at HV1
        rw [hboth.2] at HV2
        rcases HS.out with ⟨_, _, _, hcf⟩ | ⟨rfl, hf, ba, rfl, hbl⟩
        · exact absurd hcf hnc
        rw [Int.toNat_natCast] at hf
        have hal : (a.length : Int) = (N : Int) + 1 := by have := hf.len; omega
        have hal1 : ((a.length : Int) != (N : Int) + 1) = false := by simp [hal]
        have hvals := Lib.hid hf.vals
        have Hat := Lib.hid (hat a hf)
        have Hlen := Lib.hid hf.len
        have Hbl := Lib.hid hbl
        have Hvl : Hid (N ≤ values.length) := by have := of_decide_eq_false hd2; show _ ≤ _; omega
        clear hnc hat hf hbl hboth hal Hall HS
        go_wp2_with (first
          | (go_at_call_of 17 (Value.slice A cl.length cap); refine (HV1.out wr hcw.out).mono ?_; rintro e w6 ⟨rfl, h6⟩)
          | (go_at_call 17; refine (HV2.out w6 h6).mono ?_; rintro e w7 ⟨rfl, h7⟩))
        have hc7 : Hid (Chg No w3 w7) := (hch.out.thenNo h6).thenNo h7
        have hal3 : a.length ≤ 9000 := by have := Hlen.out; omega
        go_loop [16] (fun i => ∃ k : Nat, 1 ≤ k ∧ k ≤ N + 1 ∧ i = .int .i64 k) (fun i => N + 1 - (intOf i).toNat)
        case atStart => exact ⟨1, by omega, by omega, rfl⟩
        case round =>
          obtain ⟨j, hj1, hj2, rfl⟩ := hrel
          by_cases hjn : j ≤ N
          · have hja : j < a.length := by have := Hlen.out; omega
            have hca : w7.cell? ⟨ba, j, none⟩ = some (.int .i64 (a.getD j 0)) := by
              have h := hc7.out.obj Hbl.out id
              simp [World.cell?, h, hja, List.getD]
            have hjv : j - 1 < values.length := by have := Hvl.out; omega
            obtain ⟨b3, o3, rfl, hcv⟩ := (HV.out w7 (h4.thenNo hc7.out)).bool_at (j - 1) hjv
            have hx := Hat.out j hj1 hjn
            have hgd : values.getD (j - 1) false = values[j - 1] := by simp [List.getD, hjv]
            rw [hgd] at hx
            have hxv := getD_vals hvals.out j
            generalize a.getD j 0 = x at *
            generalize values[j - 1] = y at *
            obtain ⟨t, rfl⟩ : ∃ t, j = t + 1 := ⟨j - 1, by omega⟩
            rw [Nat.add_sub_cancel] at hcv hjv
            clear hgd
            rcases hxv with rfl | rfl | rfl
            · clear hx
              go_wp2
              go_round
              case rel => exact ⟨t + 2, by omega, by omega, by go_num⟩
              case measure => simp [intOf]; omega
            · obtain rfl := hx.1 rfl
              clear hx
              go_wp2
              go_round
              case rel => exact ⟨t + 2, by omega, by omega, by go_num⟩
              case measure => simp [intOf]; omega
            · obtain rfl := hx.2 rfl
              clear hx
              go_wp2
              go_round
              case rel => exact ⟨t + 2, by omega, by omega, by go_num⟩
              case measure => simp [intOf]; omega
          · go_wp2
            go_ret
            exact ⟨rfl, h4.thenNo hc7.out⟩
      · cases hb1 : allB cl values
        · rw [hb1] at HV1
          clear hboth hb1
          go_wp2_with (first
            | (go_at_call_of 17 (Value.slice A cl.length cap); refine (HV1.out wr hcw.out).mono ?_; rintro e w6 ⟨rfl, h6⟩))
          go_ret
          exact ⟨rfl, hcw.out.thenNo h6⟩
        · have hb2 : lits.all (valB values) = false := by
            cases h : lits.all (valB values)
            · rfl
            · exact absurd ⟨hb1, h⟩ hboth
          rw [hb1] at HV1
          rw [hb2] at HV2
          clear hboth hb1 hb2
          go_wp2_with (first
            | (go_at_call_of 17 (Value.slice A cl.length cap); refine (HV1.out wr hcw.out).mono ?_; rintro e w6 ⟨rfl, h6⟩)
            | (go_at_call 17; refine (HV2.out w6 h6).mono ?_; rintro e w7 ⟨rfl, h7⟩))
          go_ret
          exact ⟨rfl, (hcw.out.thenNo h6).thenNo h7⟩

theorem propRight_walk {w : World} (n : Int) (_ : I64 n) {A : Option Addr} {cl : List (List Int)} {cap : Nat} (hcl : Rows2 (Old w) w A cl cap) {A' : Option Addr} {lits : List Int} {cap' : Nat} (hlits : Ints (Old w) w A' lits cap') {A'' : Option Addr} {values : List Bool} {cap'' : Nat} (hv : Bools (Old w) w A'' values cap'') :
    Calls Try.prog 8 #[.int .i64 n, .slice A cl.length cap, .slice A' lits.length cap', .slice A'' values.length cap''] w fun e w' => e = .returned (.bool true) ∧ Chg No w w' := by
  by_cases hgood : chk n cl = 0
  · cases hall : lits.all (litB n)
    · have hlit := lits_all n lits
      rw [hall] at hlit
      exact propRight_err n hcl 5 (fun W h => follow_lits n (hcl.no rowE_good h) (hlits.no intE_good h) hgood hlit)
    · exact propRight_good n hcl hlits hv hgood hall
  · refine propRight_err n hcl (chk n cl) (fun W h => ?_)
    have h2 := follow_bad n (A' := A') (cap' := cap') (hcl.no rowE_good h) lits hgood
    rwa [show errV 28 (chk n cl) = .iface 28 (.int .i64 (chk n cl)) by simp [errV, hgood]] at h2
end Go.Proofs.Ytcapcghaihmfeaa
