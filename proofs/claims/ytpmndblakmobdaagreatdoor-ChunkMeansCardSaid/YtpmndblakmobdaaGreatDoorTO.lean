/-
  Lin7, Lin8, Lin9, LinD, LinA, LinG, ChB, in one file.
-/
import Derived.Test.YtpmndblakmobdaaGreatDoorTL
import Derived.Test.YtpmndblakmobdaaGreatDoorMA
import Derived.Test.YtpmndblakmobdaaGreatDoorTM
import Derived.Test.YtpmndblakmobdaaGreatDoorTN
import Derived.Laws.EntriesVeiled
import Derived.Test.YtpmndblakmobdaaGreatDoorShE
import Derived.Deep.CutBlock
/- Lin7 -/
namespace Go.Proofs.YtpmndblakmobdaaGreatDoor
open Go Go.RowKit Go.Sort

set_option maxHeartbeats 400000 in
theorem indexFunc_monos {R : Nat → Prop} {w : World} {A : Option Addr} {l : List Mono} {cap : Nat} (hl : Monos R w A l cap) (fv : FuncId) (hf : Entered fv) (p : Mono → Bool)
    (hp : ∀ w', Chg No w w' → ∀ i (h : i < l.length), Calls Tryz.prog fv #[.agg #[.int .i64 l[i].1, .int .i64 l[i].2]] w' fun e w'' => e = .returned (.bool (p l[i])) ∧ Chg No w' w'') :
    Calls Tryz.prog 101 #[.slice A l.length cap, .func (.func fv) #[] #[]] w fun e w' => e = .returned (.int .i64 (findI p l)) ∧ Chg No w w' := by
  have hb := hl.big
  unfold big at hb
  have Hp := Lib.hid hp
  have HL := Lib.hid hl
  clear hp hl
  unfold Entered at hf
  go_enter Tryz.func101, Tryz.ntmps101
  go_wp2
  go_loopw [8] (fun i wr => ∃ k : Nat, k ≤ l.length ∧ i = .int .i64 k ∧ Hid (Chg No w wr) ∧ Hid (∀ j (h : j < l.length), j < k → p l[j] = false)) (fun i _ => l.length - (intOf i).toNat)
  case atStart => exact ⟨0, Nat.zero_le _, rfl, Chg.refl _ _, fun j h hk => absurd hk (by omega)⟩
  case round =>
    obtain ⟨k, hk, rfl, hch, hall⟩ := hrel
    by_cases hlt : k < l.length
    · obtain ⟨b, o, rfl, hx0, hx1⟩ := (HL.out.no monoE_good hch.out).mono_at k hlt
      have i0 : (0 : Int) ≤ (k : Int) := by omega
      have i1 : (k : Int) < (l.length : Int) := by omega
      have HP := Lib.hid (Hp.out wr hch.out k hlt)
      have Hhit : Hid (p l[k] = true → findI p l = k) := fun h => findI_hit hlt h hall.out
      have Hmiss : Hid (p l[k] = false → ∀ j (h : j < l.length), j < k + 1 → p l[j] = false) := fun hpk j h hj => by
        rcases Nat.lt_or_ge j k with g | g
        · exact hall.out j h g
        · obtain rfl : j = k := by omega
          exact hpk
      generalize l[k].1 = v at *
      generalize l[k].2 = c at *
      generalize p l[k] = pk at *
      cases pk with
      | true =>
        have e := Hhit.out rfl
        have HE := Lib.hid e
        clear e
        go_wp2_with (refine HP.out.mono ?_; rintro e w1 ⟨rfl, h1⟩)
        go_ret
        exact ⟨ret_int HE.out.symm, hch.out.thenNo h1⟩
      | false =>
        have HM := Lib.hid (Hmiss.out rfl)
        clear Hmiss Hhit
        go_wp2_with (refine HP.out.mono ?_; rintro e w1 ⟨rfl, h1⟩)
        go_roundw
        case rel => exact ⟨k + 1, hlt, by go_num, hch.out.thenNo h1, HM.out⟩
        case measure => simp [intOf]; omega
    · go_wp2
      go_ret
      exact ⟨ret_int (findI_miss (fun j h => hall.out j h (by omega))).symm, hch.out⟩

set_option maxHeartbeats 400000 in
theorem containsFunc_monos {R : Nat → Prop} {w : World} {A : Option Addr} {l : List Mono} {cap : Nat} (hl : Monos R w A l cap) (fv : FuncId) (hf : Entered fv) (p : Mono → Bool)
    (hp : ∀ w', Chg No w w' → ∀ i (h : i < l.length), Calls Tryz.prog fv #[.agg #[.int .i64 l[i].1, .int .i64 l[i].2]] w' fun e w'' => e = .returned (.bool (p l[i])) ∧ Chg No w' w'') :
    Calls Tryz.prog 80 #[.slice A l.length cap, .func (.func fv) #[] #[]] w fun e w' => e = .returned (.bool (l.any p)) ∧ Chg No w w' := by
  have H := Lib.hid (indexFunc_monos hl fv hf p hp)
  clear hp hl
  go_enter Tryz.func80, Tryz.ntmps80
  go_wp2_with (refine H.out.mono ?_; rintro e w1 ⟨rfl, h1⟩)
  go_ret
  exact ⟨ret_bool (findI_ge p l), h1⟩

theorem entered_sum1 : Entered 79 := enters_of Tryz.func79 (by kernel_rfl) rfl
theorem entered_sum2 : Entered 81 := enters_of Tryz.func81 (by kernel_rfl) rfl

set_option maxHeartbeats 400000 in
theorem sum2_any (v k : Int) (w : World) : Calls Tryz.prog 81 #[.agg #[.int .i64 v, .int .i64 k]] w fun e w' => e = .returned (.bool (!coefB k)) ∧ Chg No w w' := by
  have HK := Lib.hid (fun W => coef_any k W)
  generalize coefB k = b1 at *
  go_enter Tryz.func81, Tryz.ntmps81
  go_wp2_with (go_at_call 62; refine (HK.out _).mono ?_; rintro e w1 ⟨rfl, rfl⟩)
  go_ret
  exact ⟨rfl, (Chg.refl _ _).alloc _⟩

/-- A term whose variable is no greater than may be. -/
structure VMono where
  val : Mono
  ok : (0 ≤ val.1 ∧ val.1 < 1048576) ∧ I64 val.2
instance : Inhabited VMono := ⟨⟨(0, 0), by decide, by unfold I64; decide⟩⟩
def encM (m : VMono) : List Value := [.int .i64 m.1.1, .int .i64 m.1.2]
def cmpM (a b : VMono) : Int := a.1.1 - b.1.1
theorem cmpM_swo : SWO (ltOf cmpM) where
  irrefl x := by unfold ltOf cmpM; simp
  trans x y z h1 h2 := by unfold ltOf cmpM at *; simp at *; omega
  ntrans x y z h1 h2 := by unfold ltOf cmpM at *; simp at *; omega
set_option maxHeartbeats 400000 in
theorem sum1_any : CmpAny Tryz.prog 79 #[] encM cmpM := by
  intro x y W
  obtain ⟨⟨v, k⟩, ⟨h1, h2⟩, _⟩ := x
  obtain ⟨⟨v', k'⟩, ⟨h3, h4⟩, _⟩ := y
  simp only at h1 h2 h3 h4
  show Calls Tryz.prog 79 #[.agg #[.int .i64 v, .int .i64 k], .agg #[.int .i64 v', .int .i64 k']] W fun e w' => e = .returned (.int .i64 (v - v')) ∧ ∃ q os', w' = grow (W.drewN q) os'
  go_enter Tryz.func79, Tryz.ntmps79
  go_wp2
  go_ret
  exact ⟨rfl, 0, _, by rw [alloc_eq_grow, alloc_eq_grow, grow_grow]; rfl⟩

theorem monosTy : SliceTy Tryz.prog 30 71 2 16 (.agg #[.int .i64 0, .int .i64 0]) := ⟨Tryz.underlying30, by kernel_rfl, rfl, by decide, by decide⟩
theorem mono_one {R : Nat → Prop} {w : World} {cs : List Value} {x : Mono} (h : monoV R w cs x) : ∀ u ∈ cs, u.oneCell' = true := by
  obtain ⟨rfl, _⟩ := mono_cells h
  simp [Value.oneCell']
/-- A slice of terms that a call owns. -/
abbrev OMonos (M : Nat → Prop) (w : World) (v : Value) (l : List Mono) : Prop := OwnL monoV 71 M No w v l
theorem OMonos.monos {M : Nat → Prop} {w : World} {A : Option Addr} {n cap : Nat} {l : List Mono} (h : OMonos M w (.slice A n cap) l) (hb : l.length * 16 ≤ big) : Monos M w A l cap :=
  (OwnL.sl_of monoV_good h hb).2.mono monoE_good (fun _ _ hk => hk.elim id (fun f => f.elim))

set_option maxHeartbeats 400000 in
theorem cloneMono_any {R : Nat → Prop} {w : World} {A : Option Addr} {l : List Mono} {cap : Nat} (hl : Monos R w A l cap) :
    Calls Tryz.prog 77 #[.slice A l.length cap] w fun e w' => ∃ A' cap', e = .returned (.slice A' l.length cap') ∧ OwnL monoV 71 (fun k => w.heap.size ≤ k) R w' (.slice A' l.length cap') l ∧ Chg No w w' := by
  cases hA : A with
  | none =>
    subst hA
    have h0 : l = [] := List.eq_nil_of_length_eq_zero (by have := hl.le; have := hl.nil rfl; omega)
    have hc : cap = 0 := hl.nil rfl
    subst h0; subst hc
    have he : ∀ W, (binOp .eql 30 (.slice none 0 0) (.slice none 0 0)).run Tryz.prog W = .ok (.bool true) W := fun W => by kernel_rfl
    clear hl
    go_enter Tryz.func77, Tryz.ntmps77
    go_wp2
    go_ret
    exact ⟨none, 0, rfl, OwnL.nil _ _ _ _ _, Chg.refl _ _⟩
  | some a =>
    subst hA
    have HL := Lib.hid hl
    have he := fun W => Lib.run_eql_slice_nil (P := Tryz.prog) W 30 71 (some a) l.length cap 0 0 Tryz.underlying30
    clear hl
    go_enter Tryz.func77, Tryz.ntmps77
    go_wp2_with (at_builtin; refine wpList_copyL monoV_good mono_one monosTy rfl (.tmp 5) (.tmp 6) rfl rfl rfl HL.out rfl ?_; intro A' cap' w' h1 h2 h3)
    go_ret
    exact ⟨A', cap', rfl, h1, h2⟩
end Go.Proofs.YtpmndblakmobdaaGreatDoor
/- Lin8 -/
namespace Go.Proofs.YtpmndblakmobdaaGreatDoor
open Go Go.RowKit Go.Sort

theorem chg_of_SWK {α : Type} [Inhabited α] {enc : α → List Value} {k : Nat} {w W : World} {blk off : Nat} {d : Array α} (h : SWK enc k w blk off d W) : Chg (fun j => j = blk) w W := by
  obtain ⟨n, os, rfl⟩ := h
  refine ⟨rfl, rfl, rfl, ?_, fun j hj hne => ?_⟩
  · unfold sortWorldK
    rw [size_grow]
    unfold putRowK putRow mapBlock
    simp
  · unfold sortWorldK
    rw [heap_grow_old _ _ (by unfold putRowK putRow mapBlock; simpa [ahead] using hj)]
    unfold putRowK putRow mapBlock
    simp [Array.getElem?_modify, Ne.symm hne]

/-- The row of terms. -/
theorem monos_of_holds {M : Nat → Prop} {W : World} {blk off cap : Nat} {d : Array VMono} (h : HoldsK encM 2 W blk off d) (hM : M blk) (hcap : d.size ≤ cap) (hmax : cap ≤ maxLen) (hroom : d.size * 16 ≤ big) :
    Monos M W (some ⟨blk, off, none⟩) (d.toList.map (·.1)) cap := by
  refine ⟨by simpa using hcap, hmax, by rw [List.length_map, Array.length_toList]; exact hroom, (fun h => by cases h), fun i hi => ⟨blk, off, rfl, ?_⟩⟩
  have hi' : i < d.size := by simpa using hi
  have h0 := (HoldsK.cell h hi' (show 0 < 2 by decide)).1
  have h1 := (HoldsK.cell h hi' (show 1 < 2 by decide)).1
  have e : d[i]! = d[i] := getElem!_pos d i hi'
  rw [e] at h0 h1
  rw [List.getElem_map, Array.getElem_toList]
  refine monoE_of hM (by simpa [encM] using h0) (by simpa [encM] using h1) ?_ d[i].2.2
  have := d[i].2.1
  exact I64.of (by omega) (by omega)

theorem holds_of_own {M : Nat → Prop} {w : World} {blk off cap : Nat} {l : List Mono} (h : OMonos M w (.slice (some ⟨blk, off, none⟩) l.length cap) l) (hv : ∀ m ∈ l, (0 ≤ m.1 ∧ m.1 < 1048576) ∧ I64 m.2) :
    ∃ d : Array VMono, d.size = l.length ∧ d.toList.map (·.1) = l ∧ HoldsK encM 2 w blk off d ∧ blk < w.heap.size ∧ M blk ∧ l.length ≤ cap ∧ cap ≤ maxLen := by
  obtain ⟨C, ⟨hlen, ho⟩, hl, hC⟩ := h
  rcases ho with ⟨e, _⟩ | ⟨g, o, cap', cur, e, hM, hg, h1, h2, h3, h4⟩
  · cases e
  injection e with e1 e2 e3
  injection e1 with e1
  injection e1 with e1 e4
  subst e1; subst e4; subst e3
  refine ⟨(l.pmap VMono.mk hv).toArray, by simp, by rw [List.map_pmap]; simp, fun t ht => ?_, (Array.getElem?_eq_some_iff.1 hg).1, hM, h1, h2⟩
  simp only [size_flatK, List.size_toArray, List.length_pmap] at ht
  rw [get_flatK _ _ _ _ (by simpa using ht)]
  have hi : t / 2 < l.length := by omega
  have hCl : ∀ c ∈ C, c.length = 2 := fun c hc => by
    obtain ⟨i, hi, rfl⟩ := List.getElem_of_mem hc
    exact monoV_good.len (hC i (by omega) hi)
  have hcc := (mono_cells (hC (t / 2) hi (by omega))).1
  have ed : (l.pmap VMono.mk hv).toArray[t / 2]! = ⟨l[t / 2], hv _ (List.getElem_mem hi)⟩ := by
    rw [getElem!_pos _ _ (by simpa using hi)]
    simp
  rw [ed]
  have hget : C.flatten[t]? = some (encM ⟨l[t / 2], hv _ (List.getElem_mem hi)⟩)[t % 2]! := by
    have h5 := flatten_get hCl (t / 2) (by omega) (t % 2) (Nat.mod_lt _ (by decide))
    rw [show t / 2 * 2 + t % 2 = t by omega, hcc] at h5
    rw [h5]
    unfold encM
    have h6 : t % 2 = 0 ∨ t % 2 = 1 := by omega
    rcases h6 with h6 | h6 <;> rw [h6] <;> rfl
  refine ⟨?_, by simp [World.frozen?, hg]⟩
  simp only [World.cell?, hg]
  simpa using h4 t _ hget

theorem sorted_pairs {d : Array VMono} (h : SortedIn (ltOf cmpM) 0 d.size d) : (d.toList.map (·.1)).Pairwise fun a b => a.1 ≤ b.1 := by
  rw [List.pairwise_iff_getElem]
  intro i j hi hj hij
  have hi' : i < d.size := by simpa using hi
  have hj' : j < d.size := by simpa using hj
  have := h i j (Nat.zero_le _) hij hj'
  rw [getElem!_pos d i hi', getElem!_pos d j hj'] at this
  unfold ltOf cmpM at this
  rw [decide_eq_false_iff_not] at this
  simp only [List.getElem_map, Array.getElem_toList]
  omega

set_option maxHeartbeats 400000 in
theorem sortNil (w : World) : Calls Tryz.prog 78 #[.slice none 0 0, .func (.func 79) #[] #[]] w fun e w' => e = .returned (.tuple #[]) ∧ w' = w := by
  have hI : Hid (∀ W, Calls Tryz.prog 115 #[.slice none 0 0, .int .i64 0, .int .i64 0, .func (.func 79) #[] #[]] W fun e w' => e = .returned (.tuple #[]) ∧ W = w') := fun W => by
    go_enter Tryz.func115, Tryz.ntmps115
    go_wp2_with fail
    refine wp_loop_rounds 1 ?_
    rw [rounds_succ]
    go_wp2_with fail
    go_end0
    exact ⟨rfl, rfl⟩
  have hS : Hid (∀ W, Calls Tryz.prog 100 #[.slice none 0 0, .int .i64 0, .func (.func 79) #[] #[]] W fun e w' => e = .returned (.tuple #[]) ∧ W = w') := fun W => by
    go_enter Tryz.func100, Tryz.ntmps100
    go_wp2_with fail
    refine wp_loop_rounds 1 ?_
    rw [rounds_succ]
    go_wp2_with (go_at_call 115; refine (hI.out _).mono ?_; rintro e w1 ⟨rfl, rfl⟩)
    refine wp_loop_rounds 1 ?_
    rw [rounds_succ]
    go_wp2_with fail
    go_end0
    exact ⟨rfl, rfl⟩
  go_enter Tryz.func78, Tryz.ntmps78
  go_wp2_with (go_at_call 100; refine (hS.out _).mono ?_; rintro e w1 ⟨rfl, rfl⟩)
  go_end0
  exact ⟨rfl, rfl⟩

theorem sortMonos_any {M : Nat → Prop} {w : World} {A : Option Addr} {cap : Nat} {l : List Mono} (h : OMonos M w (.slice A l.length cap) l) (hv : ∀ m ∈ l, (0 ≤ m.1 ∧ m.1 < 1048576) ∧ I64 m.2) (hlen : l.length * 16 ≤ big) :
    Calls Tryz.prog 78 #[.slice A l.length cap, .func (.func 79) #[] #[]] w fun e w' =>
      e = .returned (.tuple #[]) ∧ ∃ s : List Mono, s.Perm l ∧ s.Pairwise (fun a b => a.1 ≤ b.1) ∧ Monos M w' A s cap ∧ Chg (fun k => (Value.slice A l.length cap).ownBlock = some k) w w' := by
  cases A with
  | none =>
    obtain ⟨A', cap', e, h1, h2, h3⟩ := h.value
    injection e with e1 _ e3
    have hc : cap = 0 := by rw [e3]; exact h3 e1.symm
    have h0 : l = [] := List.eq_nil_of_length_eq_zero (by omega)
    subst hc; subst h0
    exact (sortNil w).mono fun e w' ⟨he, hw⟩ => ⟨he, [], List.Perm.refl _, List.Pairwise.nil, Sl.empty, by rw [hw]; exact Chg.refl _ _⟩
  | some a =>
    have ha : ∃ g o, a = ⟨g, o, none⟩ := by
      obtain ⟨C, ⟨_, ho⟩, _⟩ := h
      rcases ho with ⟨e, _⟩ | ⟨g, o, cap', cur, e, _⟩
      · cases e
      · injection e with e1
        injection e1 with e1
        exact ⟨g, o, e1⟩
    obtain ⟨g, o, rfl⟩ := ha
    obtain ⟨d, hd1, hd2, hd3, hd4, hd5, hd6, hd7⟩ := holds_of_own h hv
    have R : RowK encM 2 w g o d := ⟨fun _ => rfl, fun x v hx => by
      simp [encM] at hx
      rcases hx with rfl | rfl <;> rfl, hd3, hd4⟩
    have hlb : l.length < 1152921504606846976 := by unfold big at hlen; omega
    refine (sortStableM stbM cmpM_swo (cap := cap) (enters_of Tryz.func79 (by kernel_rfl) rfl) sum1_any R hd1 hlb).mono fun e w' ⟨he, d', h1, h2, h3⟩ => ?_
    have hz : d'.size = d.size := h1.1
    rw [← hd1] at h1 h2
    refine ⟨he, d'.toList.map (·.1), ?_, ?_, ?_, ?_⟩
    · have hp := h1.2.2
      rw [Array.extract_eq_self_of_le (by omega), Array.extract_eq_self_of_le (Nat.le_refl _)] at hp
      have := hp.map (fun x : VMono => x.1)
      rwa [hd2] at this
    · rw [← hz] at h2
      exact sorted_pairs h2
    · exact monos_of_holds (h3.holds hd4 hd3 hz) hd5 (by omega) hd7 (by rw [hz, hd1]; exact hlen)
    · exact (chg_of_SWK h3).mono (fun k hk _ => by simp [Value.ownBlock, hk])
end Go.Proofs.YtpmndblakmobdaaGreatDoor
/- Lin9 -/
namespace Go.Proofs.YtpmndblakmobdaaGreatDoor
open Go Go.RowKit

/-- What is amiss with a constant and terms together, and what they are. -/
noncomputable def sumErr (c : Int) (t : List Mono) : Int := if (coefB c && (nf t).all fun m => coefB m.2) = true then (if (nf t).length ≤ 64 then 0 else 2) else 3
noncomputable def sumLin (c : Int) (t : List Mono) : Lin := if sumErr c t = 0 then (c, nf t) else (0, [])

theorem sumErr_eq (c : Int) {t o : List Mono} (h : nf t = o) : sumErr c t = if coefB c = true then (if (o.any fun m => !coefB m.2) = true then 3 else if 64 < o.length then 2 else 0) else 3 := by
  unfold sumErr
  rw [h]
  have e : (o.any fun m => !coefB m.2) = !(o.all fun m => coefB m.2) := by rw [List.not_all_eq_any_not]
  rw [e]
  cases coefB c <;> cases (o.all fun m => coefB m.2) <;> simp
  by_cases h : o.length ≤ 64
  · rw [if_pos h, if_neg (by omega)]
  · rw [if_neg h, if_pos (by omega)]

/-- A call returns a form, beside E; it lies in new memory; nothing else has changed. -/
def LinRet (w : World) (r : Lin) (E : Value) (e : Ending) (w' : World) : Prop :=
  ∃ A cap, e = .returned (.tuple #[.agg #[.int .i64 r.1, .slice A r.2.length cap], E]) ∧ Monos (fun k => w.heap.size ≤ k) w' A r.2 cap ∧ Chg No w w'
theorem LinRet.none {w w' : World} {E : Value} (h : Chg No w w') : LinRet w (0, []) E (.returned (.tuple #[.agg #[.int .i64 0, .slice none 0 0], E])) w' := ⟨Option.none, 0, rfl, Sl.empty, h⟩

theorem obj_cell {w : World} {b : Nat} {cs : Array Value} {t : TypeId} (h : w.heap[b]? = some (.cells cs t (0, 0))) (j : Nat) : w.cell? ⟨b, j, none⟩ = cs[j]? ∧ w.frozen? ⟨b, j, none⟩ = false := by
  simp [World.cell?, World.frozen?, h]
theorem obj_two {w : World} {b : Nat} {x y : Value} {t : TypeId} (h : w.heap[b]? = some (.cells #[x, y] t (0, 0))) :
    w.cell? ⟨b, 0, none⟩ = some x ∧ w.cell? ⟨b, 1, none⟩ = some y ∧ w.frozen? ⟨b, 0, none⟩ = false ∧ w.frozen? ⟨b, 1, none⟩ = false := by
  simp [World.cell?, World.frozen?, h]
theorem obj_set {w : World} {b j : Nat} {cs : Array Value} {t : TypeId} (u : Value) (h : w.heap[b]? = some (.cells cs t (0, 0))) : (w.setCell ⟨b, j, none⟩ u).heap[b]? = some (.cells (cs.setIfInBounds j u) t (0, 0)) := by
  simp [World.setCell, Array.getElem?_modify, h]
theorem mono_any {R R' : Nat → Prop} {w w' : World} {cs : List Value} {m : Mono} (h : monoV R w cs m) : monoV R' w' cs m := by
  obtain ⟨rfl, h1, h2⟩ := mono_cells h
  exact mono_of h1 h2
theorem OMonos.of {M R : Nat → Prop} {w : World} {v : Value} {l : List Mono} (h : OwnL monoV 71 M R w v l) : OMonos M w v l := by
  obtain ⟨C, h1, h2, h3⟩ := h
  exact ⟨C, h1, h2, fun i a b => mono_any (h3 i a b)⟩
theorem Sl.mono_mem {R : Nat → Prop} {w : World} {A : Option Addr} {l : List Mono} {cap : Nat} (h : Monos R w A l cap) : ∀ m ∈ l, I64 m.1 ∧ I64 m.2 := fun m hm => by
  obtain ⟨i, hi, rfl⟩ := List.getElem_of_mem hm
  exact h.mono_ok i hi

set_option maxRecDepth 100000 in
set_option maxHeartbeats 4000000 in
theorem linSum_any {R : Nat → Prop} {w : World} (c : Int) {A : Option Addr} {t : List Mono} {cap : Nat} (ht : Monos R w A t cap) (hlen : t.length ≤ 100000) (hv : ∀ m ∈ t, 0 ≤ m.1 ∧ m.1 < 1048576) (hk : ∀ v, absAt t v ≤ 4611686018427387904) :
    Calls Tryz.prog 65 #[.int .i64 c, .slice A t.length cap] w (LinRet w (sumLin c t) (errV 83 (sumErr c t))) := by
  have HCl := Lib.hid (fun W (h : Chg No w W) => cloneMono_any (ht.no monoE_good h))
  have HV : Hid (∀ m ∈ t, (0 ≤ m.1 ∧ m.1 < 1048576) ∧ I64 m.2) := fun m hm => ⟨hv m hm, (ht.mono_mem m hm).2⟩
  have HK := Lib.hid hk
  have HCc := Lib.hid (fun W => coef_any c W)
  clear ht hv hk
  go_enter Tryz.func65, Tryz.ntmps65
  go_wp2_with (first
    | (go_at_call 77; refine (HCl.out _ ((Chg.refl _ _).alloc _)).mono ?_; rintro e w1 ⟨A1, cap1, rfl, hown, hch⟩; have h4 := Lib.hid (hch.obj (b := w.heap.size) (x := .cells #[.int .i64 0, .slice none 0 0] 32 (0, 0)) (heap_alloc_new w _) id); have hc1 := Lib.hid (((Chg.refl No w).alloc (.cells #[.int .i64 0, .slice none 0 0] 32)).thenNo hch); have HO := Lib.hid (OMonos.of hown); clear hown hch HCl)
    | (go_at_call 78; refine (sortMonos_any HO.out HV.out (by unfold big; omega)).mono ?_; rintro e w2 ⟨rfl, s, hs1, hs2, hs3, hch2⟩; have HPm := Lib.hid hs1; have HPw := Lib.hid hs2; have HM := Lib.hid hs3; have hc2 := Lib.hid hch2; clear hs1 hs2 hs3 hch2))
  have hmine : Hid (∀ k, (Value.slice A1 t.length cap1).ownBlock = some k → w.heap.size < k) := fun k hk => by have := (HO.out.mine k hk).1; simp at this; omega
  have hW2 : Hid (Chg No w w2) := hc1.out.trans hc2.out (fun k hk hlt => by have := hmine.out k hk; omega)
  have h42 : Hid (w2.heap[w.heap.size]? = some (.cells #[.int .i64 0, .slice none 0 0] 32 (0, 0))) := hc2.out.obj h4.out (fun hk => by have := hmine.out _ hk; omega)
  have hlt2 : w.heap.size < w2.heap.size := (Array.getElem?_eq_some_iff.1 h42.out).1
  have hls : s.length = t.length := HPm.out.length_eq
  obtain ⟨w3, hw3⟩ : ∃ w3, w3 = w2.alloc (.cells #[.int .i64 c, .slice none 0 0] 32) := ⟨_, rfl⟩
  have hW : Hid (Chg No w w3) := by rw [hw3]; exact hW2.out.alloc _
  have h43 : Hid (w3.heap[w.heap.size]? = some (.cells #[.int .i64 0, .slice none 0 0] 32 (0, 0))) := by rw [hw3]; exact at_old h42.out
  have h63 : Hid (w3.heap[w2.heap.size]? = some (.cells #[.int .i64 c, .slice none 0 0] 32 (0, 0))) := by rw [hw3]; exact at_new rfl
  have hM3 : Hid (Monos (fun k => k < w2.heap.size) w3 A1 s cap1) := by rw [hw3]; exact (HM.out.mono monoE_good (fun k hk _ => hk)).no monoE_good ((Chg.refl _ _).alloc _)
  have hz3 : w3.heap.size = w2.heap.size + 1 := by rw [hw3]; simp
  rw [← hw3]
  clear hw3 h4 hc1 hc2 HO hmine hW2 h42 HM
  generalize w2.heap.size = B at *
  have HLS := Lib.hid hls
  have hsl : s.length ≤ 100000 := by omega
  rw [← hls]
  clear hls
  go_loopw [7] (fun s7 wr => ∃ (k : Nat) (o : List Mono) (v : Value), s7 = .int .i64 k ∧ k ≤ s.length ∧ Hid (Chg (fun j => j = B) w3 wr) ∧ Hid (wr.heap[B]? = some (.cells #[.int .i64 c, v] 32 (0, 0))) ∧ Hid (OMonos (fun j => w3.heap.size ≤ j) wr v o) ∧ Hid (SumI s k o)) (fun s7 _ => s.length - (intOf s7).toNat)
  case atStart => exact ⟨0, [], .slice none 0 0, rfl, Nat.zero_le _, Chg.refl _ _, h63, OwnL.nil _ _ _ _ _, SumI.start s⟩
  case round =>
    clear h63
    obtain ⟨k, o, v, rfl, hks, hch, h6, hown, hI⟩ := hrel
    by_cases hlt : k < s.length
    · obtain ⟨b, off, rfl, hx0, hx1⟩ := (hM3.out.chg monoE_good hch.out (fun q h1 h2 => by omega)).mono_at k hlt
      have i0 : (0 : Int) ≤ (k : Int) := by omega
      have i1 : (k : Int) < (s.length : Int) := by omega
      have HZ := Lib.hid (hI.out.zero hlt)
      have HT := Lib.hid (kAt_take (s := s) hlt s[k].1)
      rw [if_pos rfl] at HT
      have HE : Hid (∀ h : k < s.length, s[k].1 = s[k].1) := fun _ => rfl
      obtain ⟨vv, hvv⟩ : ∃ vv, vv = s[k].1 := ⟨_, rfl⟩
      obtain ⟨kk, hkk⟩ : ∃ kk, kk = s[k].2 := ⟨_, rfl⟩
      rw [← hvv, ← hkk] at HT
      rw [← hvv] at HZ hx0
      rw [← hkk] at hx1
      have HVV := Lib.hid hvv
      clear hvv hkk HE
      have hB6 := Lib.hid (obj_two h6.out)
      go_wp2
      obtain ⟨wo, hwo⟩ : ∃ wo, wo = wr.alloc (.cells #[.int .i64 vv, .int .i64 kk] 71) := ⟨_, rfl⟩
      have hm : Hid (wo.heap[wr.heap.size]? = some (.cells #[.int .i64 vv, .int .i64 kk] 71 (0, 0))) := by rw [hwo]; exact at_new rfl
      have hco : Hid (Chg No wr wo) := by rw [hwo]; exact (Chg.refl _ _).alloc _
      have hBm : B < wr.heap.size := (Array.getElem?_eq_some_iff.1 h6.out).1
      have hwz : w3.heap.size ≤ wr.heap.size := hch.out.size
      rw [← hwo]
      clear hwo hx0 hx1
      generalize hbm : wr.heap.size = Bm at *
      have HBM := Lib.hid hbm
      clear hbm
      obtain ⟨wa, rfl⟩ : ∃ wa : World, wa = wr := ⟨_, rfl⟩
      go_loopw [7] (fun s7 wr => ∃ (j : Nat) (K : Int), s7 = .int .i64 j ∧ k + 1 ≤ j ∧ j ≤ s.length ∧ Hid (wr.heap[Bm]? = some (.cells #[.int .i64 vv, .int .i64 K] 71 (0, 0))) ∧ Hid (Chg (fun q => q = Bm) wo wr) ∧ Hid (K = kAt (s.take j) vv) ∧ Hid (∀ i (h : i < s.length), k ≤ i → i < j → s[i].1 = vv)) (fun s7 _ => s.length - (intOf s7).toNat)
      case atStart => exact ⟨k + 1, kk, by go_num, Nat.le_refl _, hlt, hm, Chg.refl _ _, by unfold Hid; rw [HT.out, HZ.out]; omega, fun i h h1 h2 => by
        obtain rfl : i = k := by omega
        exact HVV.out.symm⟩
      case round =>
        clear hm
        obtain ⟨j, K, rfl, hkj, hjs, hm, hchm, hK, hvs⟩ := hrel
        have hm2 := obj_two hm.out
        obtain ⟨hm0, hm1, hmf0, hmf1⟩ := hm2
        have hKb := kAt_take_abs s j vv
        have hab := absAt_of_perm HPm.out HK.out vv
        rw [← hK.out] at hKb
        have hK1 : -4611686018427387904 ≤ K := by omega
        have hK2 : K ≤ 4611686018427387904 := by omega
        have hcw : Hid (Chg (fun q => q = B ∨ q = Bm) w3 wr) := (hch.out.trans hco.out (T := No) (fun _ f _ => f.elim)).trans hchm.out (fun q hq hlt => by omega) |>.mono (fun q hq _ => .inl hq)
        by_cases hin : ∃ h : j < s.length, s[j].1 = vv
        · obtain ⟨hjl, hjv⟩ := hin
          obtain ⟨b', off', e, hy0, hy1⟩ := ((hM3.out.mono monoE_good (R' := fun q => q < B) (fun q _ h => h)).chg monoE_good hcw.out (fun q h1 h2 => by rcases h2 with h2 | h2 <;> omega)).mono_at j hjl
          have HT2 := Lib.hid (kAt_take (s := s) hjl vv)
          rw [if_pos hjv] at HT2
          have hKb2 := kAt_take_abs s (j + 1) vv
          rw [HT2.out, ← hK.out] at hKb2
          have hvs2 : Hid (∀ i (h : i < s.length), k ≤ i → i < j + 1 → s[i].1 = vv) := fun i h h1 h2 => by
            rcases Nat.lt_or_ge i j with g | g
            · exact hvs.out i h h1 g
            · obtain rfl : i = j := by omega
              exact hjv
          rw [hjv] at hy0
          generalize s[j].2 = kj at *
          have hS1 : -4611686018427387904 ≤ K + kj := by omega
          have hS2 : K + kj ≤ 4611686018427387904 := by omega
          have j0 : (0 : Int) ≤ (j : Int) := by omega
          have j1 : (j : Int) < (s.length : Int) := by omega
          have jd : decide (j < s.length) = true := decide_eq_true hjl
          have jv : (vv == vv) = true := by simp
          simp only [Option.some.injEq, Addr.mk.injEq] at e
          obtain ⟨rfl, rfl, _⟩ := e
          clear hKb hab hKb2 hjv hvs
          have hnx : Hid (∀ n, ((wr.drewN n).setCell ⟨Bm, 1, none⟩ (.int .i64 (K + kj))).heap[Bm]? = some (.cells #[.int .i64 vv, .int .i64 (K + kj)] 71 (0, 0)) ∧ Chg (fun q => q = Bm) wo ((wr.drewN n).setCell ⟨Bm, 1, none⟩ (.int .i64 (K + kj)))) := fun n => by
            have h1 : (wr.drewN n).heap[Bm]? = some (.cells #[.int .i64 vv, .int .i64 K] 71 (0, 0)) := hm.out
            have h2 := obj_set (j := 1) (.int .i64 (K + kj)) h1
            exact ⟨by simpa using h2, (hchm.out.drewN n).setCell _ _ (fun _ => rfl)⟩
          go_wp2
          go_quiet (fail)
          go_wp2
          go_region
          all_goals go_wp2
          all_goals go_roundw
          case rel => exact ⟨j + 1, K + kj, by go_num, by omega, hjl, (hnx.out (nq + 1)).1, (hnx.out (nq + 1)).2, by unfold Hid; rw [HT2.out, hK.out], hvs2⟩
          case measure => simp [intOf]; omega
        · have hout : Hid (∀ h : j < s.length, s[j].1 ≠ vv) := fun h e => hin ⟨h, e⟩
          have HI2 := Lib.hid (hI.out.next HPw.out (by omega) hjs hvs.out hout.out)
          rw [← hK.out] at HI2
          have HG : Hid (∀ n, (wr.drewN n).heap[B]? = some (.cells #[.int .i64 c, v] 32 (0, 0)) ∧ OMonos (fun q => w3.heap.size ≤ q ∧ q ≠ Bm) (wr.drewN n) v o ∧ Chg (fun q => q = B) w3 (wr.drewN n) ∧ (wr.drewN n).heap[Bm]? = some (.cells #[.int .i64 vv, .int .i64 K] 71 (0, 0))) := fun n => by
            refine ⟨hchm.out.obj (hco.out.obj h6.out id) (fun e => by omega), ?_, ((hch.out.thenNo hco.out).trans hchm.out (fun q hq hlt => by have := HBM.out; omega)).drewN n, hm.out⟩
            have h1 := (hown.out.mono monoV_good (M' := fun q => w3.heap.size ≤ q ∧ q ≠ Bm) (R' := No) (fun q hq h => ⟨h, fun e => by have := HBM.out; omega⟩) (fun _ _ f => f)).no monoV_good hco.out
            exact (h1.chg monoV_good hchm.out (fun q hq e => (h1.mine q hq).1.2 e) (fun _ f _ => f.elim)).no monoV_good ((Chg.refl _ _).drewN n)
          have hol : o.length ≤ 100000 := by have := hI.out.len; omega
          have HVK : Hid (I64 vv ∧ I64 K) := ⟨by have := (HV.out _ (HPm.out.mem_iff.1 (List.getElem_mem hlt))).1; rw [← HVV.out] at this; exact I64.of (by omega) (by omega), I64.of (by omega) (by omega)⟩
          have j0 : (0 : Int) ≤ (j : Int) := by omega
          have HY : Hid (∀ h : j < s.length, wr.cell? ⟨b, off + j * 2, none⟩ = some (.int .i64 s[j].1)) := fun h => by
            obtain ⟨b', off', e, hy0, hy1⟩ := ((hM3.out.mono monoE_good (R' := fun q => q < B) (fun q _ h => h)).chg monoE_good hcw.out (fun q h1 h2 => by rcases h2 with h2 | h2 <;> omega)).mono_at j h
            simp only [Option.some.injEq, Addr.mk.injEq] at e
            obtain ⟨rfl, rfl, _⟩ := e
            exact hy0
          clear hin hKb hab hvs hchm hK
          by_cases hjl : j < s.length
          case' pos =>
            have hy0 := HY.out hjl
            have hne := hout.out hjl
            generalize s[j].1 = y at *
            have jd : decide (j < s.length) = true := decide_eq_true hjl
            have j1 : (j : Int) < (s.length : Int) := by omega
            have jv : (y == vv) = false := by simpa using hne
            clear hne
          case' neg =>
            have jd : decide (j < s.length) = false := decide_eq_false hjl
          all_goals
            go_wp2
            go_quiet (fail)
            obtain ⟨f1, f2, f3, f4⟩ := HG.out nq
            have F1 := Lib.hid f1
            have F2 := Lib.hid f2
            have F3 := Lib.hid f3
            have F4 := Lib.hid f4
            clear f1 f2 f3 f4 HG HY hm hm0 hm1 hmf0 hmf1 hown hch h6 hco hcw
            generalize wr.drewN nq = wq at *
            obtain ⟨hm0, hm1, hmf0, hmf1⟩ := obj_two F4.out
            obtain ⟨hb0, hb1, hbf0, hbf1⟩ := obj_two F1.out
            by_cases hK0 : K = 0
            · have hd : (K != 0) = false := by simp [hK0]
              rw [if_pos hK0] at HI2
              clear hK0
              go_wp2
              go_roundw
              case rel => exact ⟨j, o, v, rfl, hjs, F3, F1, F2.out.mono monoV_good (fun q _ h => h.1) (fun _ _ f => f), HI2⟩
              case measure => simp [intOf]; omega
            · have hd : (K != 0) = true := by simpa using hK0
              rw [if_neg hK0] at HI2
              clear hK0
              have hMM : Hid (∀ q, wq.heap.size ≤ q → w3.heap.size ≤ q ∧ q ≠ Bm) := fun q hq => by
                have h1 := F3.out.size
                have h2 : Bm < wq.heap.size := (Array.getElem?_eq_some_iff.1 F4.out).1
                omega
              go_wp2_with (at_builtin; refine wpList_pushL monoV_good monosTy rfl (.tmp 54) (.tmp 56) rfl hMM.out F2.out rfl (mono_of (m := (vv, K)) HVK.out.1 HVK.out.2) (by simp [Value.oneCell']) rfl (show (o.length + 1) * 16 ≤ 140737488355328 by omega) ?_; intro A' cap' w5 g1 g2; have G1 := Lib.hid (g2.obj F1.out (fun e => by have := (F2.out.mine _ e).1.1; omega)); have G2 := Lib.hid g1; have G3 := Lib.hid (F3.out.trans g2 (fun q hq hlt => by have := (F2.out.mine _ hq).1.1; omega)); clear g1 g2; obtain ⟨gb0, gb1, gbf0, gbf1⟩ := obj_two G1.out)
              go_roundw
              case rel => exact ⟨j, o ++ [(vv, K)], .slice A' (o.length + 1) cap', rfl, hjs, G3.out.setCell _ _ (fun _ => rfl), by unfold Hid; have := obj_set (j := 1) (.slice A' (o.length + 1) cap') G1.out; simpa using this, (G2.out.mono monoV_good (fun q _ h => h.1) (fun _ _ f => f)).chg monoV_good ((Chg.refl (fun q => q = B) _).setCell _ _ (fun _ => rfl)) (fun q hq e => by have := (G2.out.mine q hq).1.1; omega) (fun _ f _ => f.elim), HI2⟩
              case measure => simp [intOf]; omega
    · have hnf : Hid (nf t = o) := nf_eq ((hI.out.done (by omega)).perm HPm.out)
      have hol : o.length ≤ 100000 := by have := hI.out.len; omega
      obtain ⟨A2, cap2, rfl, _⟩ := hown.out.value
      have HCf : Hid (∀ W, Chg No wr W → Calls Tryz.prog 80 #[.slice A2 o.length cap2, .func (.func 81) #[] #[]] W fun e w' => e = .returned (.bool (o.any fun m => !coefB m.2)) ∧ Chg No W w') := fun W h =>
        containsFunc_monos ((hown.out.monos (by unfold big; omega)).no monoE_good h) _ entered_sum2 (fun m => !coefB m.2) (fun w' _ i h => sum2_any _ _ _)
      have e1 := sumErr_eq c hnf.out
      have hBw : w.heap.size ≠ B := by omega
      have h4r := Lib.hid (hch.out.obj h43.out hBw)
      have hwr : Hid (Chg No w wr) := hW.out.trans hch.out (fun q hq hlt => by omega)
      have HM := Lib.hid (hown.out.monos (by unfold big; omega))
      have hbad : ∀ n : Int, n ≠ 0 → sumErr c t = n → Hid (∀ w', Chg No w w' → LinRet w (sumLin c t) (errV 83 (sumErr c t)) (.returned (.tuple #[.agg #[.int .i64 0, .slice none 0 0], .iface 83 (.int .i64 n)])) w') := fun n hn he w' hw' => by
        unfold sumLin
        rw [he, if_neg hn, errV_of _ hn]
        exact LinRet.none hw'
      have hgood : sumErr c t = 0 → Hid (∀ w', Chg (fun q => q = w.heap.size) wr w' → Chg No w w' → LinRet w (sumLin c t) (errV 83 (sumErr c t)) (.returned (.tuple #[.agg #[.int .i64 c, .slice A2 o.length cap2], .nilIface])) w') := fun he w' hw1 hw2 => by
        unfold sumLin
        rw [he, if_pos rfl, errV_zero, hnf.out]
        exact ⟨A2, cap2, rfl, (HM.out.chg monoE_good hw1 (fun q h e => by have := hW.out.size; omega)).mono monoE_good (fun q _ h => by have := hW.out.size; omega), hw2⟩
      cases hcb : coefB c
      · rw [hcb] at e1 HCc
        have HP := hbad 3 (by decide) e1
        obtain ⟨hb0, hb1, hbf0, hbf1⟩ := obj_two h6.out
        obtain ⟨hr0, hr1, hrf0, hrf1⟩ := obj_two h4r.out
        clear e1 hbad hgood hcb HCf
        go_wp2_with (go_at_call 62; refine (HCc.out _).mono ?_; rintro e w5 ⟨rfl, rfl⟩)
        exact bodyPost_ret (v := .tuple #[.agg #[.int .i64 0, .slice none 0 0], .iface 83 (.int .i64 3)]) (by simp [results, Tryz.results65, go_sem, hr0, hr1]) rfl (HP.out _ ((hwr.out.setCell _ _ (fun h => absurd h (Nat.lt_irrefl _))).setCell _ _ (fun h => absurd h (Nat.lt_irrefl _))))
      · rw [hcb] at e1 HCc
        cases hany : o.any fun m => !coefB m.2
        · rw [hany] at e1 HCf
          by_cases hlo : 64 < o.length
          · have HP := hbad 2 (by decide) (by rw [e1, if_pos rfl, if_neg (by decide), if_pos hlo])
            have hd : decide ((64 : Int) < (o.length : Int)) = true := decide_eq_true (by omega)
            obtain ⟨hb0, hb1, hbf0, hbf1⟩ := obj_two h6.out
            clear e1 hbad hgood hcb hany
            go_wp2_with (first | (go_at_call 62; refine (HCc.out _).mono ?_; rintro e w5 ⟨rfl, rfl⟩) | (go_at_call 80; refine (HCf.out _ (Chg.refl _ _)).mono ?_; rintro e w5 ⟨rfl, h5⟩; obtain ⟨hr0, hr1, hrf0, hrf1⟩ := obj_two (h5.obj h4r.out id); obtain ⟨hc0, hc1, hcf0, hcf1⟩ := obj_two (h5.obj h6.out id); have H5 := Lib.hid h5; clear h5))
            exact bodyPost_ret (v := .tuple #[.agg #[.int .i64 0, .slice none 0 0], .iface 83 (.int .i64 2)]) (by simp [results, Tryz.results65, go_sem, hr0, hr1]) rfl (HP.out _ (((hwr.out.thenNo H5.out).setCell _ _ (fun h => absurd h (Nat.lt_irrefl _))).setCell _ _ (fun h => absurd h (Nat.lt_irrefl _))))
          · have HP := hgood (by rw [e1, if_pos rfl, if_neg (by decide), if_neg hlo])
            have hd : decide ((64 : Int) < (o.length : Int)) = false := decide_eq_false (by omega)
            obtain ⟨hb0, hb1, hbf0, hbf1⟩ := obj_two h6.out
            clear e1 hbad hgood hcb hany
            go_wp2_with (first | (go_at_call 62; refine (HCc.out _).mono ?_; rintro e w5 ⟨rfl, rfl⟩) | (go_at_call 80; refine (HCf.out _ (Chg.refl _ _)).mono ?_; rintro e w5 ⟨rfl, h5⟩; obtain ⟨hr0, hr1, hrf0, hrf1⟩ := obj_two (h5.obj h4r.out id); obtain ⟨hc0, hc1, hcf0, hcf1⟩ := obj_two (h5.obj h6.out id); have H5 := Lib.hid h5; clear h5))
            exact bodyPost_ret (v := .tuple #[.agg #[.int .i64 c, .slice A2 o.length cap2], .nilIface]) (by simp [results, Tryz.results65, go_sem, hr0, hr1]) rfl (HP.out _ (((H5.out.no (S := fun q => q = w.heap.size)).setCell _ _ (fun _ => rfl)).setCell _ _ (fun _ => rfl)) (((hwr.out.thenNo H5.out).setCell _ _ (fun h => absurd h (Nat.lt_irrefl _))).setCell _ _ (fun h => absurd h (Nat.lt_irrefl _))))
        · rw [hany] at e1 HCf
          have HP := hbad 3 (by decide) (by rw [e1, if_pos rfl, if_pos rfl])
          obtain ⟨hb0, hb1, hbf0, hbf1⟩ := obj_two h6.out
          clear e1 hbad hgood hcb hany
          go_wp2_with (first | (go_at_call 62; refine (HCc.out _).mono ?_; rintro e w5 ⟨rfl, rfl⟩) | (go_at_call 80; refine (HCf.out _ (Chg.refl _ _)).mono ?_; rintro e w5 ⟨rfl, h5⟩; obtain ⟨hr0, hr1, hrf0, hrf1⟩ := obj_two (h5.obj h4r.out id); obtain ⟨hc0, hc1, hcf0, hcf1⟩ := obj_two (h5.obj h6.out id); have H5 := Lib.hid h5; clear h5))
          exact bodyPost_ret (v := .tuple #[.agg #[.int .i64 0, .slice none 0 0], .iface 83 (.int .i64 3)]) (by simp [results, Tryz.results65, go_sem, hr0, hr1]) rfl (HP.out _ (((hwr.out.thenNo H5.out).setCell _ _ (fun h => absurd h (Nat.lt_irrefl _))).setCell _ _ (fun h => absurd h (Nat.lt_irrefl _))))
end Go.Proofs.YtpmndblakmobdaaGreatDoor
/- LinD -/
namespace Go.Proofs.YtpmndblakmobdaaGreatDoor
open Go Go.RowKit

def timesB (x : Int) : Bool := decide (-4096 ≤ x) && decide (x ≤ 4096)
/-- Terms so many times. -/
def scale (x : Int) (t : List Mono) : List Mono := t.map fun m => (m.1, x * m.2)
theorem scale_take {x : Int} {t : List Mono} {k : Nat} (h : k < t.length) : scale x (t.take (k + 1)) = scale x (t.take k) ++ [(t[k].1, x * t[k].2)] := by
  unfold scale
  rw [List.take_succ_eq_append_getElem h, List.map_append]
  rfl
theorem scale_len (x : Int) (t : List Mono) : (scale x t).length = t.length := by unfold scale; simp
theorem timesB_le {x : Int} (h : timesB x = true) : -4096 ≤ x ∧ x ≤ 4096 := by unfold timesB at h; simpa using h
theorem mulT {x k : Int} (h1 : -4096 ≤ x) (h2 : x ≤ 4096) (h3 : -1073741824 ≤ k) (h4 : k ≤ 1073741824) : -4398046511104 ≤ x * k ∧ x * k ≤ 4398046511104 := by
  have h : (x * k).natAbs ≤ 4096 * 1073741824 := by
    rw [Int.natAbs_mul]
    exact Nat.mul_le_mul (by omega) (by omega)
  omega

/-- What is amiss with multiples together, and what they are. -/
noncomputable def addErr (a b : Lin) (x y : Int) : Int :=
  if (linB a.1 a.2 && linB b.1 b.2) = true then (if (timesB x && timesB y) = true then sumErr (x * a.1 + y * b.1) (scale x a.2 ++ scale y b.2) else 1) else 5
noncomputable def addLin (a b : Lin) (x y : Int) : Lin :=
  if (linB a.1 a.2 && linB b.1 b.2) = true then (if (timesB x && timesB y) = true then sumLin (x * a.1 + y * b.1) (scale x a.2 ++ scale y b.2) else (0, [])) else (0, [])
theorem addErr_range (a b : Lin) (x y : Int) : 0 ≤ addErr a b x y ∧ addErr a b x y ≤ 16 := by
  unfold addErr
  split
  · split
    · unfold sumErr
      split
      · split <;> omega
      · omega
    · omega
  · omega

/-- What the terms of sound forms, so many times, are bounded by. -/
theorem scale_ok {c c' x y : Int} {s t : List Mono} (hs : linB c s = true) (ht : linB c' t = true) (hx : timesB x = true) (hy : timesB y = true) :
    (scale x s ++ scale y t).length ≤ 128 ∧ (∀ m ∈ scale x s ++ scale y t, 0 ≤ m.1 ∧ m.1 < 1048576) ∧ ∀ v, absAt (scale x s ++ scale y t) v ≤ 4611686018427387904 := by
  have h1 := linB_sound hs
  have h2 := linB_sound ht
  have hlen : (scale x s ++ scale y t).length ≤ 128 := by rw [List.length_append, scale_len, scale_len]; omega
  have hb : ∀ {c x : Int} {s : List Mono}, linB c s = true → timesB x = true → ∀ m ∈ scale x s, (0 ≤ m.1 ∧ m.1 < 1048576) ∧ (m.2.natAbs : Int) ≤ 4398046511104 := by
    intro c x s hs hx m hm
    unfold scale at hm
    obtain ⟨q, hq, rfl⟩ := List.mem_map.1 hm
    obtain ⟨i, hi, rfl⟩ := List.getElem_of_mem hq
    have h := (linB_sound hs).2.2 i hi
    have h3 := coefB_le h.2.1
    have h4 := timesB_le hx
    have h5 := mulT h4.1 h4.2 h3.1 h3.2
    exact ⟨varB_le h.1, by show ((x * s[i].2).natAbs : Int) ≤ 4398046511104; omega⟩
  have ha : ∀ m ∈ scale x s ++ scale y t, (0 ≤ m.1 ∧ m.1 < 1048576) ∧ (m.2.natAbs : Int) ≤ 4398046511104 := fun m hm => by
    rcases List.mem_append.1 hm with hm | hm
    · exact hb hs hx m hm
    · exact hb ht hy m hm
  refine ⟨hlen, fun m hm => (ha m hm).1, fun v => ?_⟩
  have := absAt_le (fun m hm => (ha m hm).2) (by decide) v
  omega

section
variable {P : Program} {α : Type} {V : ElV α} {t e : TypeId} {z : Value} {ops : Array Oper} {rest : List Oper} {o : Oper} {act : Act} {Q : Exit → Act → World → Prop}
/-- append(s, x), where the one element has just been laid in the block bk. -/
theorem wpList_pushLn (g : V.Good) (T : SliceTy P t e V.sz V.bytes z) (hgd : o.guard = none) (s xo : Operand)
    (ho : o.op = .call { callee := .builtin .append, args := #[s, xo], argTypes := #[t, t] })
    {M R : Nat → Prop} {w : World} (hM : ∀ k, w.heap.size ≤ k → M k) {v : Value} {l : List α} (hown : OwnL V e M R w v l) (hs : act.eval s = v)
    {x : α} {cs : List Value} (hx : V (fun k => R k ∧ v.ownBlock ≠ some k) w cs x) (h1 : ∀ u ∈ cs, u.oneCell' = true) {e' : TypeId} {bk : Nat} (hbk : bk = w.heap.size) (hxo : act.eval xo = .slice (some ⟨bk, 0, none⟩) 1 1) (hbytes : (l.length + 1) * V.bytes ≤ 140737488355328)
    (h : ∀ A cap w', OwnL V e M R w' (.slice A (l.length + 1) cap) (l ++ [x]) → Chg (fun k => v.ownBlock = some k) w w' → wpList P ops Q rest (act.put o.dst (.slice A (l.length + 1) cap)) w') :
    wpList P ops Q (o :: rest) act (w.alloc (.cells cs.toArray e')) := by
  subst hbk
  exact wpList_pushL g T hgd s xo ho hM hown hs hx h1 hxo hbytes h
end

theorem times_any (k : Int) (w : World) : Calls Tryz.prog 64 #[.int .i64 k] w fun e w' => e = .returned (.bool (timesB k)) ∧ w = w' := by
  unfold timesB
  by_cases h1 : -4096 ≤ k <;> by_cases h2 : k ≤ 4096
  all_goals
    first | rw [decide_eq_true h1] | rw [decide_eq_false h1]
    first | rw [decide_eq_true h2] | rw [decide_eq_false h2]
    go_enter Tryz.func64, Tryz.ntmps64
    go_wp2
    go_ret
    exact ⟨rfl, rfl⟩

set_option maxRecDepth 100000 in
set_option maxHeartbeats 4000000 in
theorem linAdd_any {R R' : Nat → Prop} {w : World} (a b : Lin) {A A' : Option Addr} {cap cap' : Nat} (ht : Monos R w A a.2 cap) (ht' : Monos R' w A' b.2 cap') (x y : Int) :
    Calls Tryz.prog 42 #[.agg #[.int .i64 a.1, .slice A a.2.length cap], .agg #[.int .i64 b.1, .slice A' b.2.length cap'], .int .i64 x, .int .i64 y] w (LinRet w (addLin a b x y) (errV 83 (addErr a b x y))) := by
  obtain ⟨ca, ta⟩ := a
  obtain ⟨cb, tb⟩ := b
  simp only at ht ht' ⊢
  have HTa := Lib.hid (fun W (h : Chg No w W) => ht.no monoE_good h)
  have HTb := Lib.hid (fun W (h : Chg No w W) => ht'.no monoE_good h)
  have HCa := Lib.hid (fun W (h : Chg No w W) => linCheck_any ca (ht.no monoE_good h))
  have HCb := Lib.hid (fun W (h : Chg No w W) => linCheck_any cb (ht'.no monoE_good h))
  have HX := Lib.hid (fun W => times_any x W)
  have HY := Lib.hid (fun W => times_any y W)
  have hb1 := ht.big
  have hb2 := ht'.big
  unfold big at hb1 hb2
  clear ht ht'
  obtain ⟨w3, hw3⟩ : ∃ w3, w3 = ((w.alloc (.cells #[.int .i64 ca, .slice A ta.length cap] 32)).alloc (.cells #[.int .i64 cb, .slice A' tb.length cap'] 32)).alloc (.cells #[.int .i64 0, .slice none 0 0] 32) := ⟨_, rfl⟩
  have h3 : Hid (Chg No w w3 ∧ w3.heap[w.heap.size]? = some (.cells #[.int .i64 ca, .slice A ta.length cap] 32 (0, 0)) ∧ w3.heap[w.heap.size + 1]? = some (.cells #[.int .i64 cb, .slice A' tb.length cap'] 32 (0, 0)) ∧ w3.heap[w.heap.size + 1 + 1]? = some (.cells #[.int .i64 0, .slice none 0 0] 32 (0, 0)) ∧ w3.heap.size = w.heap.size + 1 + 1 + 1) := by
    rw [hw3]
    exact ⟨(((Chg.refl _ _).alloc _).alloc _).alloc _, at_old (at_old (heap_alloc_new _ _)), at_old (at_new (by simp)), at_new (by simp), by simp⟩
  have hbad : ∀ n : Int, n ≠ 0 → addErr (ca, ta) (cb, tb) x y = n → addLin (ca, ta) (cb, tb) x y = (0, []) → Hid (∀ w', Chg No w w' → LinRet w (addLin (ca, ta) (cb, tb) x y) (errV 83 (addErr (ca, ta) (cb, tb) x y)) (.returned (.tuple #[.agg #[.int .i64 0, .slice none 0 0], .iface 83 (.int .i64 n)])) w') := fun n hn he hl w' hw' => by
    rw [he, hl, errV_of _ hn]
    exact LinRet.none hw'
  have hcw : Hid (∀ W u v, Chg No w W → Chg No w ((W.setCell ⟨w.heap.size + 1 + 1, 0, none⟩ u).setCell ⟨w.heap.size + 1 + 1, 1, none⟩ v)) := fun W u v h => (h.setCell _ _ (fun h => absurd h (by simp; omega))).setCell _ _ (fun h => absurd h (by simp; omega))
  have HB3 : Hid (∀ W, Chg No w3 W → W.heap[w.heap.size]? = some (.cells #[.int .i64 ca, .slice A ta.length cap] 32 (0, 0)) ∧ W.heap[w.heap.size + 1]? = some (.cells #[.int .i64 cb, .slice A' tb.length cap'] 32 (0, 0)) ∧ W.heap[w.heap.size + 1 + 1]? = some (.cells #[.int .i64 0, .slice none 0 0] 32 (0, 0))) := fun W h =>
    ⟨h.obj h3.out.2.1 id, h.obj h3.out.2.2.1 id, h.obj h3.out.2.2.2.1 id⟩
  cases hA : linB ca ta
  · have HP := hbad 5 (by decide) (by unfold addErr; rw [hA]; rfl) (by unfold addLin; rw [hA]; rfl)
    rw [hA] at HCa
    rw [show (if false = true then (0 : Int) else 5) = 5 from rfl, errV_of _ (by decide)] at HCa
    clear hbad hA HTa HTb
    go_enter Tryz.func42, Tryz.ntmps42
    go_wp2_with fail
    rw [← hw3]
    clear hw3
    refine (HCa.out _ h3.out.1).mono ?_
    rintro e w4 ⟨rfl, h4⟩
    have H4 := Lib.hid h4
    clear h4
    obtain ⟨p0, p1, _, _⟩ := obj_two (HB3.out w4 H4.out).1; obtain ⟨q0, q1, _, _⟩ := obj_two (HB3.out w4 H4.out).2.1; obtain ⟨r0, r1, rf0, rf1⟩ := obj_two (HB3.out w4 H4.out).2.2
    go_wp2_with fail
    exact bodyPost_ret (v := .tuple #[.agg #[.int .i64 0, .slice none 0 0], .iface 83 (.int .i64 5)]) (by simp [results, Tryz.results42, go_sem, r0, r1]) rfl (HP.out _ (hcw.out _ _ _ (h3.out.1.thenNo H4.out)))
  rw [hA] at HCa
  rw [show (if true = true then (0 : Int) else 5) = 0 from rfl, errV_zero] at HCa
  cases hB : linB cb tb
  · have HP := hbad 5 (by decide) (by unfold addErr; rw [hA, hB]; rfl) (by unfold addLin; rw [hA, hB]; rfl)
    rw [hB] at HCb
    rw [show (if false = true then (0 : Int) else 5) = 5 from rfl, errV_of _ (by decide)] at HCb
    clear hbad hA hB HTa HTb
    go_enter Tryz.func42, Tryz.ntmps42
    go_wp2_with fail
    rw [← hw3]
    clear hw3
    refine (HCa.out _ h3.out.1).mono ?_
    rintro e w4 ⟨rfl, h4⟩
    have H4 := Lib.hid h4
    clear h4
    obtain ⟨p0, p1, _, _⟩ := obj_two (HB3.out w4 H4.out).1; obtain ⟨q0, q1, _, _⟩ := obj_two (HB3.out w4 H4.out).2.1; obtain ⟨r0, r1, rf0, rf1⟩ := obj_two (HB3.out w4 H4.out).2.2
    go_wp2_with (go_at_call 40; refine (HCb.out _ (h3.out.1.thenNo H4.out)).mono ?_; rintro e w5 ⟨rfl, h5⟩; have H5 := Lib.hid (H4.out.thenNo h5); clear h5 p0 p1 q0 q1 r0 r1 rf0 rf1; obtain ⟨p0, p1, _, _⟩ := obj_two (HB3.out w5 H5.out).1; obtain ⟨q0, q1, _, _⟩ := obj_two (HB3.out w5 H5.out).2.1; obtain ⟨r0, r1, rf0, rf1⟩ := obj_two (HB3.out w5 H5.out).2.2)
    exact bodyPost_ret (v := .tuple #[.agg #[.int .i64 0, .slice none 0 0], .iface 83 (.int .i64 5)]) (by simp [results, Tryz.results42, go_sem, r0, r1]) rfl (HP.out _ (hcw.out _ _ _ (h3.out.1.thenNo H5.out)))
  rw [hB] at HCb
  rw [show (if true = true then (0 : Int) else 5) = 0 from rfl, errV_zero] at HCb
  cases hx : timesB x
  · have HP := hbad 1 (by decide) (by unfold addErr; rw [hA, hB, hx]; rfl) (by unfold addLin; rw [hA, hB, hx]; rfl)
    rw [hx] at HX
    clear hbad hA hB HTa HTb hx
    go_enter Tryz.func42, Tryz.ntmps42
    go_wp2_with fail
    rw [← hw3]
    clear hw3
    refine (HCa.out _ h3.out.1).mono ?_
    rintro e w4 ⟨rfl, h4⟩
    have H4 := Lib.hid h4
    clear h4
    obtain ⟨p0, p1, _, _⟩ := obj_two (HB3.out w4 H4.out).1; obtain ⟨q0, q1, _, _⟩ := obj_two (HB3.out w4 H4.out).2.1; obtain ⟨r0, r1, rf0, rf1⟩ := obj_two (HB3.out w4 H4.out).2.2
    go_wp2_with (first | (go_at_call 40; refine (HCb.out _ (h3.out.1.thenNo H4.out)).mono ?_; rintro e w5 ⟨rfl, h5⟩; have H5 := Lib.hid (H4.out.thenNo h5); clear h5 p0 p1 q0 q1 r0 r1 rf0 rf1; obtain ⟨p0, p1, _, _⟩ := obj_two (HB3.out w5 H5.out).1; obtain ⟨q0, q1, _, _⟩ := obj_two (HB3.out w5 H5.out).2.1; obtain ⟨r0, r1, rf0, rf1⟩ := obj_two (HB3.out w5 H5.out).2.2) | (go_at_call 64; refine (HX.out _).mono ?_; rintro e w6 ⟨rfl, rfl⟩))
    exact bodyPost_ret (v := .tuple #[.agg #[.int .i64 0, .slice none 0 0], .iface 83 (.int .i64 1)]) (by simp [results, Tryz.results42, go_sem, r0, r1]) rfl (HP.out _ (hcw.out _ _ _ (h3.out.1.thenNo H5.out)))
  rw [hx] at HX
  cases hy : timesB y
  · have HP := hbad 1 (by decide) (by unfold addErr; rw [hA, hB, hx, hy]; rfl) (by unfold addLin; rw [hA, hB, hx, hy]; rfl)
    rw [hy] at HY
    clear hbad hA hB HTa HTb hx hy
    go_enter Tryz.func42, Tryz.ntmps42
    go_wp2_with fail
    rw [← hw3]
    clear hw3
    refine (HCa.out _ h3.out.1).mono ?_
    rintro e w4 ⟨rfl, h4⟩
    have H4 := Lib.hid h4
    clear h4
    obtain ⟨p0, p1, _, _⟩ := obj_two (HB3.out w4 H4.out).1; obtain ⟨q0, q1, _, _⟩ := obj_two (HB3.out w4 H4.out).2.1; obtain ⟨r0, r1, rf0, rf1⟩ := obj_two (HB3.out w4 H4.out).2.2
    go_wp2_with (first | (go_at_call 40; refine (HCb.out _ (h3.out.1.thenNo H4.out)).mono ?_; rintro e w5 ⟨rfl, h5⟩; have H5 := Lib.hid (H4.out.thenNo h5); clear h5 p0 p1 q0 q1 r0 r1 rf0 rf1; obtain ⟨p0, p1, _, _⟩ := obj_two (HB3.out w5 H5.out).1; obtain ⟨q0, q1, _, _⟩ := obj_two (HB3.out w5 H5.out).2.1; obtain ⟨r0, r1, rf0, rf1⟩ := obj_two (HB3.out w5 H5.out).2.2) | (go_at_call 64; with_reducible refine (HX.out _).mono ?_; rintro e w6 ⟨rfl, rfl⟩) | (go_at_call 64; with_reducible refine (HY.out _).mono ?_; rintro e w6 ⟨rfl, rfl⟩))
    exact bodyPost_ret (v := .tuple #[.agg #[.int .i64 0, .slice none 0 0], .iface 83 (.int .i64 1)]) (by simp [results, Tryz.results42, go_sem, r0, r1]) rfl (HP.out _ (hcw.out _ _ _ (h3.out.1.thenNo H5.out)))
  rw [hy] at HY
  have hok := scale_ok hA hB hx hy
  have HOK := Lib.hid hok
  have e1 : addLin (ca, ta) (cb, tb) x y = sumLin (x * ca + y * cb) (scale x ta ++ scale y tb) := by unfold addLin; rw [hA, hB, hx, hy]; rfl
  have e2 : addErr (ca, ta) (cb, tb) x y = sumErr (x * ca + y * cb) (scale x ta ++ scale y tb) := by unfold addErr; rw [hA, hB, hx, hy]; rfl
  rw [e1, e2]
  have hxl := timesB_le hx
  have hyl := timesB_le hy
  have hsa := linB_sound hA
  have hsb := linB_sound hB
  have HKa : Hid (∀ i (h : i < ta.length), -4398046511104 ≤ x * ta[i].2 ∧ x * ta[i].2 ≤ 4398046511104) := fun i h => mulT hxl.1 hxl.2 (coefB_le (hsa.2.2 i h).2.1).1 (coefB_le (hsa.2.2 i h).2.1).2
  have HKb : Hid (∀ i (h : i < tb.length), -4398046511104 ≤ y * tb[i].2 ∧ y * tb[i].2 ≤ 4398046511104) := fun i h => mulT hyl.1 hyl.2 (coefB_le (hsb.2.2 i h).2.1).1 (coefB_le (hsb.2.2 i h).2.1).2
  have hca := mulT hxl.1 hxl.2 (coefB_le hsa.1).1 (coefB_le hsa.1).2
  have hcb := mulT hyl.1 hyl.2 (coefB_le hsb.1).1 (coefB_le hsb.1).2
  obtain ⟨hca1, hca2⟩ := hca
  obtain ⟨hcb1, hcb2⟩ := hcb
  have hla : ta.length ≤ 64 := hsa.2.1
  have hlb : tb.length ≤ 64 := hsb.2.1
  clear hbad hok hx hy hA hB hsa hsb hxl hyl e1 e2
  go_enter Tryz.func42, Tryz.ntmps42
  go_wp2_with fail
  rw [← hw3]
  clear hw3
  refine (HCa.out _ h3.out.1).mono ?_
  rintro e w4 ⟨rfl, h4⟩
  have H4 := Lib.hid h4
  clear h4
  obtain ⟨p0, p1, _, _⟩ := obj_two (HB3.out w4 H4.out).1; obtain ⟨q0, q1, _, _⟩ := obj_two (HB3.out w4 H4.out).2.1; obtain ⟨r0, r1, rf0, rf1⟩ := obj_two (HB3.out w4 H4.out).2.2
  go_wp2_with (first | (go_at_call 40; refine (HCb.out _ (h3.out.1.thenNo H4.out)).mono ?_; rintro e w5 ⟨rfl, h5⟩; have H5 := Lib.hid (H4.out.thenNo h5); clear h5 p0 p1 q0 q1 r0 r1 rf0 rf1; obtain ⟨p0, p1, _, _⟩ := obj_two (HB3.out w5 H5.out).1; obtain ⟨q0, q1, _, _⟩ := obj_two (HB3.out w5 H5.out).2.1; obtain ⟨r0, r1, rf0, rf1⟩ := obj_two (HB3.out w5 H5.out).2.2) | (go_at_call 64; with_reducible refine (HX.out _).mono ?_; rintro e w6 ⟨rfl, rfl⟩) | (go_at_call 64; with_reducible refine (HY.out _).mono ?_; rintro e w6 ⟨rfl, rfl⟩))
  have hz5 : w3.heap.size ≤ w5.heap.size := H5.out.size
  clear p0 p1 q0 q1 r0 r1 rf0 rf1
  go_loopw [10, 40] (fun s10 s40 wr => ∃ (k : Nat) (v : Value), s10 = v ∧ s40 = .int .i64 k ∧ k ≤ ta.length ∧ Hid (Chg No w5 wr) ∧ Hid (OMonos (fun q => w5.heap.size ≤ q) wr v (scale x (ta.take k)))) (fun _ s40 _ => ta.length - (intOf s40).toNat)
  case atStart => exact ⟨0, .slice none 0 0, rfl, rfl, Nat.zero_le _, Chg.refl _ _, OwnL.nil _ _ _ _ _⟩
  case round =>
    obtain ⟨k, v, rfl, rfl, hkl, hch, hown⟩ := hrel
    by_cases hlt : k < ta.length
    · obtain ⟨b, o, rfl, hx0, hx1⟩ := (HTa.out wr (h3.out.1.thenNo (H5.out.thenNo hch.out))).mono_at k hlt
      have i0 : (0 : Int) ≤ (k : Int) := by omega
      have i1 : (k : Int) < (ta.length : Int) := by omega
      have HST := Lib.hid (scale_take (x := x) hlt)
      obtain ⟨m1, m2⟩ := HKa.out k hlt
      have hvi := ((HTa.out wr (h3.out.1.thenNo (H5.out.thenNo hch.out))).mono_ok k hlt).1
      have HVI := Lib.hid hvi
      have hsl : (scale x (ta.take k)).length ≤ 64 := by rw [scale_len, List.length_take]; omega
      generalize scale x (ta.take k) = L at *
      generalize ta[k].1 = vv at *
      generalize ta[k].2 = kk at *
      clear hvi
      have hco : Hid (∀ X, Chg No wr (wr.alloc X)) := fun X => (Chg.refl _ _).alloc X
      have hzr : w5.heap.size ≤ wr.heap.size := hch.out.size
      go_wp2_with (at_builtin; refine wpList_pushLn monoV_good monosTy rfl (.tmp 44) (.tmp 52) rfl (M := fun q => w5.heap.size ≤ q) (fun q hq => by simp at hq; omega) (hown.out.no monoV_good (hco.out _)) rfl (mono_of (m := (vv, x * kk)) HVI.out (I64.of (show -9000000000000000000 ≤ x * kk by omega) (show x * kk ≤ 9000000000000000000 by omega))) (by simp [Value.oneCell']) (by simp) rfl (show (L.length + 1) * 16 ≤ 140737488355328 by omega) ?_; intro A2 cap2 w7 g1 g2; have G1 := Lib.hid g1; have G2 := Lib.hid ((hch.out.thenNo (hco.out _)).trans (S := No) g2 (fun q hq hlt => by have := (hown.out.mine _ hq).1; omega)); clear g1 g2)
      go_roundw
      case rel => exact ⟨k + 1, _, rfl, by go_num, hlt, G2, by rw [HST.out]; exact G1⟩
      case measure => simp [intOf]; omega
    · obtain rfl : k = ta.length := by omega
      rw [List.take_of_length_le (Nat.le_refl _)] at hown
      have hsl : (scale x ta).length ≤ 64 := by rw [scale_len]; omega
      obtain ⟨p0, p1, _, _⟩ := obj_two (HB3.out wr (H5.out.thenNo hch.out)).1
      obtain ⟨q0, q1, _, _⟩ := obj_two (HB3.out wr (H5.out.thenNo hch.out)).2.1
      generalize scale x ta = La at *
      clear hlt hkl HKa
      go_wp2
      clear p0 p1 q0 q1
      obtain ⟨wo, rfl⟩ : ∃ wo : World, wo = wr := ⟨_, rfl⟩
      go_loopw [10, 58] (fun s10 s40 wr => ∃ (k : Nat) (v : Value), s10 = v ∧ s40 = .int .i64 k ∧ k ≤ tb.length ∧ Hid (Chg No w5 wr) ∧ Hid (OMonos (fun q => w5.heap.size ≤ q) wr v (La ++ scale y (tb.take k)))) (fun _ s40 _ => tb.length - (intOf s40).toNat)
      case atStart => exact ⟨0, _, rfl, rfl, Nat.zero_le _, hch, by rw [List.take_zero, show scale y [] = [] from rfl, List.append_nil]; exact hown⟩
      case round =>
        clear hown hch
        obtain ⟨k, v, rfl, rfl, hkl, hch, hown⟩ := hrel
        by_cases hlt : k < tb.length
        · obtain ⟨b, o, rfl, hx0, hx1⟩ := (HTb.out wr (h3.out.1.thenNo (H5.out.thenNo hch.out))).mono_at k hlt
          have i0 : (0 : Int) ≤ (k : Int) := by omega
          have i1 : (k : Int) < (tb.length : Int) := by omega
          have HST : Hid (La ++ scale y (tb.take (k + 1)) = La ++ scale y (tb.take k) ++ [(tb[k].1, y * tb[k].2)]) := by unfold Hid; rw [scale_take hlt, List.append_assoc]
          obtain ⟨m1, m2⟩ := HKb.out k hlt
          have HVI := Lib.hid ((HTb.out wr (h3.out.1.thenNo (H5.out.thenNo hch.out))).mono_ok k hlt).1
          have hsl2 : (La ++ scale y (tb.take k)).length ≤ 128 := by rw [List.length_append, scale_len, List.length_take]; omega
          generalize La ++ scale y (tb.take k) = L at *
          generalize tb[k].1 = vv at *
          generalize tb[k].2 = kk at *
          have hco : Hid (∀ X, Chg No wr (wr.alloc X)) := fun X => (Chg.refl _ _).alloc X
          have hzr : w5.heap.size ≤ wr.heap.size := hch.out.size
          go_wp2_with (at_builtin; refine wpList_pushLn monoV_good monosTy rfl (.tmp 62) (.tmp 70) rfl (M := fun q => w5.heap.size ≤ q) (fun q hq => by simp at hq; omega) (hown.out.no monoV_good (hco.out _)) rfl (mono_of (m := (vv, y * kk)) HVI.out (I64.of (show -9000000000000000000 ≤ y * kk by omega) (show y * kk ≤ 9000000000000000000 by omega))) (by simp [Value.oneCell']) (by simp) rfl (show (L.length + 1) * 16 ≤ 140737488355328 by omega) ?_; intro A2 cap2 w7 g1 g2; have G1 := Lib.hid g1; have G2 := Lib.hid ((hch.out.thenNo (hco.out _)).trans (S := No) g2 (fun q hq hlt => by have := (hown.out.mine _ hq).1; omega)); clear g1 g2)
          go_roundw
          case rel => exact ⟨k + 1, _, rfl, by go_num, hlt, G2, by rw [HST.out]; exact G1⟩
          case measure => simp [intOf]; omega
        · obtain rfl : k = tb.length := by omega
          rw [List.take_of_length_le (Nat.le_refl _)] at hown
          obtain ⟨A2, cap2, rfl, _⟩ := hown.out.value
          have hW : Hid (Chg No w wr) := h3.out.1.thenNo (H5.out.thenNo hch.out)
          generalize La ++ scale y tb = L2 at *
          have HS := Lib.hid (linSum_any (w := wr) (x * ca + y * cb) (hown.out.monos (by have := HOK.out.1; unfold big; omega)) (by have := HOK.out.1; omega) HOK.out.2.1 HOK.out.2.2)
          obtain ⟨p0, p1, _, _⟩ := obj_two (HB3.out wr (H5.out.thenNo hch.out)).1
          obtain ⟨q0, q1, _, _⟩ := obj_two (HB3.out wr (H5.out.thenNo hch.out)).2.1
          clear HKb
          generalize errV 83 (sumErr (x * ca + y * cb) L2) = E at *
          generalize sumLin (x * ca + y * cb) L2 = r at *
          go_wp2_with (go_at_call 65; refine HS.out.mono ?_; rintro e w8 ⟨A1, cap1, rfl, g8, c8⟩; have G8 := Lib.hid g8; have H8 := Lib.hid (H5.out.thenNo (hch.out.thenNo c8)); obtain ⟨r0, r1, rf0, rf1⟩ := obj_two (HB3.out w8 (H5.out.thenNo (hch.out.thenNo c8))).2.2; clear g8 c8)
          refine bodyPost_ret (v := .tuple #[.agg #[.int .i64 r.1, .slice A1 r.2.length cap1], E]) (by simp [results, Tryz.results42, go_sem, r0, r1]) rfl ⟨A1, cap1, rfl, ?_, hcw.out _ _ _ (h3.out.1.thenNo H8.out)⟩
          have hs1 := hW.out.size
          have hs3 := h3.out.2.2.2.2
          have hs5 := hch.out.size
          exact (G8.out.chg monoE_good (S := fun q => q = w.heap.size + 1 + 1) (((Chg.refl (fun q => q = w.heap.size + 1 + 1) _).setCell _ _ (fun _ => rfl)).setCell _ _ (fun _ => rfl)) (fun q h e => by omega)).mono monoE_good (fun q _ h => by omega)
end Go.Proofs.YtpmndblakmobdaaGreatDoor
/- LinA -/
namespace Go.Proofs.YtpmndblakmobdaaGreatDoor
open Go Go.RowKit

/-- May a constant and terms be taken? -/
def makeOk (c : Int) (t : List Mono) : Bool := coefB c && decide (t.length ≤ 4096) && !(t.any fun m => !coefB m.2 || !varB m.1)
noncomputable def makeErr (c : Int) (t : List Mono) : Int := if makeOk c t = true then sumErr c t else 1
noncomputable def makeLin (c : Int) (t : List Mono) : Lin := if makeOk c t = true then sumLin c t else (0, [])

theorem makeOk_ok {c : Int} {t : List Mono} (h : makeOk c t = true) : t.length ≤ 4096 ∧ (∀ m ∈ t, 0 ≤ m.1 ∧ m.1 < 1048576) ∧ ∀ v, absAt t v ≤ 4611686018427387904 := by
  unfold makeOk at h
  rw [Bool.and_eq_true, Bool.and_eq_true, decide_eq_true_iff, Bool.not_eq_true', List.any_eq_false] at h
  obtain ⟨⟨_, h1⟩, h2⟩ := h
  have h3 : ∀ m ∈ t, coefB m.2 = true ∧ varB m.1 = true := fun m hm => by
    have := h2 m hm
    simp only [Bool.or_eq_true, Bool.not_eq_true', not_or, Bool.not_eq_false] at this
    exact this
  refine ⟨h1, fun m hm => varB_le (h3 m hm).2, fun v => ?_⟩
  have := absAt_le (t := t) (K := 1073741824) (fun m hm => by have := coefB_le (h3 m hm).1; omega) (by decide) v
  omega

end Go.Proofs.YtpmndblakmobdaaGreatDoor
/- LinG -/
namespace Go.Proofs.YtpmndblakmobdaaGreatDoor
open Go Go.RowKit

theorem val_split (f : Int → Int) (t : List Mono) (v : Int) : val f t = kAt t v * f v + val f (t.filter fun m => !decide (m.1 = v)) := by
  induction t with
  | nil => simp [val_nil, kAt_nil]
  | cons m t ih =>
    rw [val_cons, kAt_cons, ih]
    by_cases h : m.1 = v
    · rw [List.filter_cons_of_neg (by simp [h]), if_pos h, h, Int.add_mul, Int.add_assoc]
    · rw [List.filter_cons_of_pos (by simp [h]), if_neg h, val_cons, Int.zero_add]
      omega
theorem kAt_filter (t : List Mono) (v u : Int) : kAt (t.filter fun m => !decide (m.1 = v)) u = if u = v then 0 else kAt t u := by
  induction t with
  | nil => simp [kAt_nil]
  | cons m t ih =>
    by_cases h : m.1 = v
    · rw [List.filter_cons_of_neg (by simp [h]), ih, kAt_cons]
      by_cases hu : u = v
      · simp [hu]
      · simp [hu, show ¬ m.1 = u from fun e => hu (e ▸ h)]
    · rw [List.filter_cons_of_pos (by simp [h]), kAt_cons, kAt_cons, ih]
      by_cases hu : u = v
      · rw [if_pos hu, if_pos hu, if_neg (fun e => h (e.trans hu))]; rfl
      · rw [if_neg hu, if_neg hu]
theorem filter_lt {t : List Mono} {m : Mono} (h : m ∈ t) : (t.filter fun x => !decide (x.1 = m.1)).length < t.length := by
  have h1 : (t.filter fun x => !decide (x.1 = m.1)).length ≤ t.length := List.length_filter_le _ _
  have h2 : (t.filter fun x => !decide (x.1 = m.1)).length ≠ t.length := fun e => by
    have := List.length_filter_eq_length_iff.1 e m h
    simp at this
  omega
theorem val_kAt (f : Int → Int) : ∀ (n : Nat) (s t : List Mono), s.length + t.length ≤ n → (∀ v, kAt s v = kAt t v) → val f s = val f t := by
  intro n
  induction n with
  | zero =>
    intro s t h _
    rw [List.eq_nil_of_length_eq_zero (by omega : s.length = 0), List.eq_nil_of_length_eq_zero (by omega : t.length = 0)]
  | succ n ih =>
    intro s t h hk
    have step : ∀ v, (s.filter fun m => !decide (m.1 = v)).length + (t.filter fun m => !decide (m.1 = v)).length ≤ n → val f s = val f t := fun v hl => by
      rw [val_split f s v, val_split f t v, hk v, ih _ _ hl (fun u => by rw [kAt_filter, kAt_filter, hk u])]
    cases s with
    | cons m s =>
      refine step m.1 ?_
      have h1 := filter_lt (t := m :: s) (m := m) (by simp)
      have h2 : (t.filter fun x => !decide (x.1 = m.1)).length ≤ t.length := List.length_filter_le _ _
      omega
    | nil =>
      cases t with
      | nil => rfl
      | cons m t =>
        refine step m.1 ?_
        have h1 := filter_lt (t := m :: t) (m := m) (by simp)
        have h2 : (([] : List Mono).filter fun x => !decide (x.1 = m.1)).length = 0 := rfl
        simp only [List.length_nil] at h h2 ⊢
        omega
theorem val_nf (f : Int → Int) (t : List Mono) : val f (nf t) = val f t := val_kAt f _ _ _ (Nat.le_refl _) (nf_is t).eq
theorem val_scale (f : Int → Int) (x : Int) (t : List Mono) : val f (scale x t) = x * val f t := by
  induction t with
  | nil => simp [scale, val_nil]
  | cons m t ih =>
    show val f ((m.1, x * m.2) :: scale x t) = _
    rw [val_cons, val_cons, ih, Int.mul_add, Int.mul_assoc]

theorem linB_nf {c : Int} {t : List Mono} (hc : coefB c = true) (hl : (nf t).length ≤ 64) (hk : ((nf t).all fun m => coefB m.2) = true) (hv : ∀ m ∈ t, varB m.1 = true) : linB c (nf t) = true := by
  refine linB_good hc hl fun i hi => ?_
  have hN := nf_is t
  have hm : (nf t)[i] ∈ nf t := List.getElem_mem hi
  have e : (nf t).getD i (0, 0) = (nf t)[i] := by simp [List.getD, hi]
  unfold goodAt
  rw [e]
  obtain ⟨x, hx, hxe⟩ := nf_v t hm
  rw [← hxe, hv x hx, List.all_eq_true.1 hk _ hm, decide_eq_true (hN.nz _ hm), Bool.true_and, Bool.true_and, Bool.true_and, hxe]
  by_cases h0 : i = 0
  · rw [decide_eq_true h0]; rfl
  · have hj : i - 1 < (nf t).length := by omega
    have e2 : (nf t).getD (i - 1) (0, 0) = (nf t)[i - 1] := by simp [List.getD, hj]
    rw [e2, decide_eq_true (List.pairwise_iff_getElem.1 hN.asc (i - 1) i hj hi (by omega)), Bool.or_true]

/-- What multiples together are worth. -/
theorem spread_law {a b : Lin} {x y : Int} {vs : List Int} (h1 : addErr a b x y = 0) (h2 : (linVal a.1 a.2 vs).2 = 0) (h3 : (linVal b.1 b.2 vs).2 = 0) :
    (linVal (addLin a b x y).1 (addLin a b x y).2 vs).1 = x * (linVal a.1 a.2 vs).1 + y * (linVal b.1 b.2 vs).1 ∧ (linVal (addLin a b x y).1 (addLin a b x y).2 vs).2 = 0 := by
  have hA : linB a.1 a.2 = true := by
    cases h : linB a.1 a.2
    · rw [addErr, h] at h1; simp at h1
    · rfl
  have hB : linB b.1 b.2 = true := by
    cases h : linB b.1 b.2
    · rw [addErr, h] at h1; simp at h1
    · rfl
  have hT : (timesB x && timesB y) = true := by
    cases h : (timesB x && timesB y)
    · rw [addErr, hA, hB, h] at h1; simp at h1
    · rfl
  have e1 : addErr a b x y = sumErr (x * a.1 + y * b.1) (scale x a.2 ++ scale y b.2) := by unfold addErr; rw [hA, hB, hT]; rfl
  have e2 : addLin a b x y = sumLin (x * a.1 + y * b.1) (scale x a.2 ++ scale y b.2) := by unfold addLin; rw [hA, hB, hT]; rfl
  rw [e1] at h1
  have e3 : addLin a b x y = (x * a.1 + y * b.1, nf (scale x a.2 ++ scale y b.2)) := by rw [e2, sumLin, if_pos h1]
  have hvar : ∀ (x : Int) (t : List Mono) (m : Mono), m ∈ scale x t → ∃ q ∈ t, q.1 = m.1 := fun x t m hm => by
    unfold scale at hm
    obtain ⟨q, hq, rfl⟩ := List.mem_map.1 hm
    exact ⟨q, hq, rfl⟩
  have hvarB : ∀ {c : Int} {t : List Mono}, linB c t = true → ∀ m ∈ t, varB m.1 = true := fun h m hm => by
    obtain ⟨i, hi, rfl⟩ := List.getElem_of_mem hm
    exact ((linB_sound h).2.2 i hi).1
  have hS : linB (x * a.1 + y * b.1) (nf (scale x a.2 ++ scale y b.2)) = true := by
    unfold sumErr at h1
    by_cases hc : (coefB (x * a.1 + y * b.1) && (nf (scale x a.2 ++ scale y b.2)).all fun m => coefB m.2) = true
    · rw [if_pos hc] at h1
      by_cases hl : (nf (scale x a.2 ++ scale y b.2)).length ≤ 64
      · rw [Bool.and_eq_true] at hc
        refine linB_nf hc.1 hl hc.2 fun m hm => ?_
        rcases List.mem_append.1 hm with hm | hm
        · obtain ⟨q, hq, e⟩ := hvar _ _ m hm
          rw [← e]; exact hvarB hA q hq
        · obtain ⟨q, hq, e⟩ := hvar _ _ m hm
          rw [← e]; exact hvarB hB q hq
      · rw [if_neg hl] at h1; simp at h1
    · rw [if_neg hc] at h1; simp at h1
  have hfar : ∀ {c : Int} {t : List Mono}, linB c t = true → (linVal c t vs).2 = 0 → farAny vs t = false := fun {c t} h h' => by
    cases hf : farAny vs t
    · rfl
    · unfold linVal at h'; rw [if_pos h, hf] at h'; simp at h'
  have hfA := hfar hA h2
  have hfB := hfar hB h3
  have hfS : farAny vs (nf (scale x a.2 ++ scale y b.2)) = false := by
    unfold farAny at hfA hfB ⊢
    rw [List.any_eq_false] at hfA hfB ⊢
    intro m hm
    obtain ⟨q, hq, e⟩ := nf_v _ hm
    rw [← e]
    rcases List.mem_append.1 hq with hq | hq
    · obtain ⟨q', hq', e'⟩ := hvar _ _ q hq
      rw [← e']; exact hfA q' hq'
    · obtain ⟨q', hq', e'⟩ := hvar _ _ q hq
      rw [← e']; exact hfB q' hq'
  rw [e3]
  unfold linVal
  simp only [hA, hB, hS, hfA, hfB, hfS]
  simp only [if_true, Bool.false_eq_true, if_false, and_true]
  rw [val_nf, val_append, val_scale, val_scale, Int.mul_add, Int.mul_add]
  omega
end Go.Proofs.YtpmndblakmobdaaGreatDoor
/- ChB -/
namespace Go.Proofs.YtpmndblakmobdaaGreatDoor
open Go Go.RowKit

/-- Multiples that are sound come to a sound form. -/
theorem add_sound {a b : Lin} {x y : Int} (h1 : addErr a b x y = 0) : linB (addLin a b x y).1 (addLin a b x y).2 = true := by
  have hA : linB a.1 a.2 = true := by
    cases h : linB a.1 a.2
    · rw [addErr, h] at h1; simp at h1
    · rfl
  have hB : linB b.1 b.2 = true := by
    cases h : linB b.1 b.2
    · rw [addErr, h] at h1; simp at h1
    · rfl
  have hT : (timesB x && timesB y) = true := by
    cases h : (timesB x && timesB y)
    · rw [addErr, hA, hB, h] at h1; simp at h1
    · rfl
  have e1 : addErr a b x y = sumErr (x * a.1 + y * b.1) (scale x a.2 ++ scale y b.2) := by unfold addErr; rw [hA, hB, hT]; rfl
  have e2 : addLin a b x y = sumLin (x * a.1 + y * b.1) (scale x a.2 ++ scale y b.2) := by unfold addLin; rw [hA, hB, hT]; rfl
  rw [e1] at h1
  have e3 : addLin a b x y = (x * a.1 + y * b.1, nf (scale x a.2 ++ scale y b.2)) := by rw [e2, sumLin, if_pos h1]
  have hvar : ∀ (x : Int) (t : List Mono) (m : Mono), m ∈ scale x t → ∃ q ∈ t, q.1 = m.1 := fun x t m hm => by
    unfold scale at hm
    obtain ⟨q, hq, rfl⟩ := List.mem_map.1 hm
    exact ⟨q, hq, rfl⟩
  have hvarB : ∀ {c : Int} {t : List Mono}, linB c t = true → ∀ m ∈ t, varB m.1 = true := fun h m hm => by
    obtain ⟨i, hi, rfl⟩ := List.getElem_of_mem hm
    exact ((linB_sound h).2.2 i hi).1
  rw [e3]
  unfold sumErr at h1
  by_cases hc : (coefB (x * a.1 + y * b.1) && (nf (scale x a.2 ++ scale y b.2)).all fun m => coefB m.2) = true
  · rw [if_pos hc] at h1
    by_cases hl : (nf (scale x a.2 ++ scale y b.2)).length ≤ 64
    · rw [Bool.and_eq_true] at hc
      refine linB_nf hc.1 hl hc.2 fun m hm => ?_
      rcases List.mem_append.1 hm with hm | hm
      · obtain ⟨q, hq, e⟩ := hvar _ _ m hm
        rw [← e]; exact hvarB hA q hq
      · obtain ⟨q, hq, e⟩ := hvar _ _ m hm
        rw [← e]; exact hvarB hB q hq
    · rw [if_neg hl] at h1; simp at h1
  · rw [if_neg hc] at h1; simp at h1

noncomputable def sumO (a b : Lin) (n : Int) : Option Lin := if addErr a b 1 n = 0 then some (addLin a b 1 n) else none
def sclLin (n : Int) (l : Lin) : Lin := (n * l.1, if n = 0 then [] else scale n l.2)
def sclO (n : Int) (l : Lin) : Option Lin := if linB (sclLin n l).1 (sclLin n l).2 = true then some (sclLin n l) else none
def optL (o : Option Lin) : Lin := o.getD (0, [])
def optE {α : Type} (o : Option α) : Int := if o.isSome = true then 0 else 3
theorem sumO_sound {a b : Lin} {n : Int} {r : Lin} (h : sumO a b n = some r) : linB r.1 r.2 = true := by
  unfold sumO at h
  split at h
  · rename_i h1
    injection h with h; subst h
    exact add_sound h1
  · cases h
theorem sclO_sound {l : Lin} {n : Int} {r : Lin} (h : sclO n l = some r) : linB r.1 r.2 = true := by
  unfold sclO at h
  split at h
  · injection h with h; subst h; assumption
  · cases h
theorem obj_2 {w : World} {b : Nat} {x y : Value} {t : TypeId} (h : w.heap[b]? = some (.cells #[x, y] t (0, 0))) :
    w.cell? ⟨b, 0, none⟩ = some x ∧ w.cell? ⟨b, 1, none⟩ = some y ∧ w.frozen? ⟨b, 0, none⟩ = false ∧ w.frozen? ⟨b, 1, none⟩ = false := obj_two h

set_option maxRecDepth 100000 in
set_option maxHeartbeats 4000000 in
theorem csum_any {R R' : Nat → Prop} {w : World} (a b : Lin) {A A' : Option Addr} {cap cap' : Nat} (ht : Monos R w A a.2 cap) (ht' : Monos R' w A' b.2 cap') (n : Int) :
    Calls Tryz.prog 27 #[.agg #[.int .i64 a.1, .slice A a.2.length cap], .agg #[.int .i64 b.1, .slice A' b.2.length cap'], .int .i64 n] w (LinRet w (optL (sumO a b n)) (errV 83 (optE (sumO a b n)))) := by
  have HAD := Lib.hid (fun W (hW : Chg No w W) => linAdd_any (w := W) a b (ht.no monoE_good hW) (ht'.no monoE_good hW) 1 n)
  have hs : (addErr a b 1 n = 0 ∧ sumO a b n = some (addLin a b 1 n)) ∨ (addErr a b 1 n ≠ 0 ∧ sumO a b n = none) := by
    unfold sumO
    by_cases h : addErr a b 1 n = 0
    · exact .inl ⟨h, by rw [if_pos h]⟩
    · exact .inr ⟨h, by rw [if_neg h]⟩
  clear ht ht'
  generalize sumO a b n = so at *
  generalize addLin a b 1 n = r at *
  generalize addErr a b 1 n = er at *
  obtain ⟨ca, ta⟩ := a
  obtain ⟨cb, tb⟩ := b
  simp only at HAD ⊢
  generalize ta.length = la at *
  generalize tb.length = lb at *
  obtain ⟨w3, hw3⟩ : ∃ w3, w3 = ((w.alloc (.cells #[.int .i64 ca, .slice A la cap] 32)).alloc (.cells #[.int .i64 cb, .slice A' lb cap'] 32)).alloc (.cells #[.int .i64 0, .slice none 0 0] 32) := ⟨_, rfl⟩
  have h3 : Hid (Chg No w w3 ∧ w3.heap[w.heap.size]? = some (.cells #[.int .i64 ca, .slice A la cap] 32 (0, 0)) ∧ w3.heap[w.heap.size + 1]? = some (.cells #[.int .i64 cb, .slice A' lb cap'] 32 (0, 0)) ∧ w3.heap[w.heap.size + 1 + 1]? = some (.cells #[.int .i64 0, .slice none 0 0] 32 (0, 0)) ∧ w3.heap.size = w.heap.size + 1 + 1 + 1) := by
    rw [hw3]
    exact ⟨(((Chg.refl _ _).alloc _).alloc _).alloc _, at_old (at_old (heap_alloc_new _ _)), at_old (at_new (by simp)), at_new (by simp), by simp⟩
  have hcw : Hid (∀ W u v, Chg No w W → Chg No w ((W.setCell ⟨w.heap.size + 1 + 1, 0, none⟩ u).setCell ⟨w.heap.size + 1 + 1, 1, none⟩ v)) := fun W u v h => (h.setCell _ _ (fun h => absurd h (by simp; omega))).setCell _ _ (fun h => absurd h (by simp; omega))
  obtain ⟨p0, p1, _, _⟩ := obj_2 h3.out.2.1
  obtain ⟨q0, q1, _, _⟩ := obj_2 h3.out.2.2.1
  rcases hs with ⟨rfl, rfl⟩ | ⟨he, rfl⟩
  · rw [errV_zero] at HAD
    rw [show optE (some r) = 0 from rfl, show optL (some r) = r from rfl, errV_zero]
    go_enter Tryz.func27, Tryz.ntmps27
    go_upto_region 1 with fail
    rw [← hw3]
    clear hw3
    go_upto_region 2 with (go_at_call 42; refine (HAD.out _ h3.out.1).mono ?_; rintro e w4 ⟨A1, cap1, rfl, g4, h4⟩; have G4 := Lib.hid g4; have H4 := Lib.hid h4; clear g4 h4)
    obtain ⟨w5, hw5⟩ : ∃ w5, w5 = w4.alloc (.cells #[.int .i64 r.1, .slice A1 r.2.length cap1] 32) := ⟨_, rfl⟩
    rw [← hw5]
    have h5 : Hid (Chg No w3 w5 ∧ w5.heap[w4.heap.size]? = some (.cells #[.int .i64 r.1, .slice A1 r.2.length cap1] 32 (0, 0)) ∧ Monos (fun k => w3.heap.size ≤ k) w5 A1 r.2 cap1) := by
      rw [hw5]; exact ⟨H4.out.alloc _, heap_alloc_new _ _, G4.out.no monoE_good ((Chg.refl _ _).alloc _)⟩
    clear hw5 p0 p1 q0 q1
    obtain ⟨s0, s1, _, _⟩ := obj_2 h5.out.2.1
    obtain ⟨r0, r1, rf0, rf1⟩ := obj_2 (h5.out.1.obj h3.out.2.2.2.1 id)
    go_wp2_with fail
    refine bodyPost_ret (v := .tuple #[.agg #[.int .i64 r.1, .slice A1 r.2.length cap1], .nilIface]) (by simp [results, Tryz.results27, go_sem, r0, r1]) rfl ⟨A1, cap1, rfl, ?_, hcw.out _ _ _ (h3.out.1.thenNo h5.out.1)⟩
    have hs3 := h3.out.2.2.2.2
    exact (h5.out.2.2.chg monoE_good (S := fun q => q = w.heap.size + 1 + 1) (((Chg.refl (fun q => q = w.heap.size + 1 + 1) _).setCell _ _ (fun _ => rfl)).setCell _ _ (fun _ => rfl)) (fun q h e => by omega)).mono monoE_good (fun q _ h => by omega)
  · rw [errV_of _ he] at HAD
    rw [show optE (none : Option Lin) = 3 from rfl, show optL none = (0, []) from rfl, errV_of _ (by decide)]
    go_enter Tryz.func27, Tryz.ntmps27
    go_upto_region 1 with fail
    rw [← hw3]
    clear hw3
    go_upto_region 2 with (go_at_call 42; refine (HAD.out _ h3.out.1).mono ?_; rintro e w4 ⟨A1, cap1, rfl, g4, h4⟩; have H4 := Lib.hid h4; clear g4 h4)
    obtain ⟨w5, hw5⟩ : ∃ w5, w5 = w4.alloc (.cells #[.int .i64 r.1, .slice A1 r.2.length cap1] 32) := ⟨_, rfl⟩
    rw [← hw5]
    have h5 : Hid (Chg No w3 w5) := by
      rw [hw5]; exact H4.out.alloc _
    clear hw5 p0 p1 q0 q1
    obtain ⟨r0, r1, rf0, rf1⟩ := obj_2 (h5.out.obj h3.out.2.2.2.1 id)
    go_wp2_with fail
    exact bodyPost_ret (v := .tuple #[.agg #[.int .i64 0, .slice none 0 0], .iface 83 (.int .i64 3)]) (by simp [results, Tryz.results27, go_sem, r0, r1]) rfl (LinRet.none (hcw.out _ _ _ (h3.out.1.thenNo h5.out)))

theorem mulN {n k : Int} (h1 : -1073741824 ≤ n) (h2 : n ≤ 1073741824) (h3 : -1073741824 ≤ k) (h4 : k ≤ 1073741824) : -1152921504606846976 ≤ n * k ∧ n * k ≤ 1152921504606846976 := by
  have h : (n * k).natAbs ≤ 1073741824 * 1073741824 := by
    rw [Int.natAbs_mul]
    exact Nat.mul_le_mul (by omega) (by omega)
  omega
theorem objset2 {w : World} {b j : Nat} {cs : Array Value} {t : TypeId} (u : Value) (h : w.heap[b]? = some (.cells cs t (0, 0))) : (w.setCell ⟨b, j, none⟩ u).heap[b]? = some (.cells (cs.setIfInBounds j u) t (0, 0)) := by
  simp [World.setCell, Array.getElem?_modify, h]
theorem chgpast2 {S : Nat → Prop} {w w1 w2 : World} (h : Chg No w w1) (g : Chg S w1 w2) (hS : ∀ k, S k → w.heap.size ≤ k) : Chg No w w2 :=
  h.trans g (fun k hk hlt => by have := hS k hk; omega)
def sclT (n : Int) (t : List Mono) : List Mono := if n = 0 then [] else scale n t
theorem sclT_len (n : Int) (t : List Mono) : (sclT n t).length ≤ t.length := by
  unfold sclT
  split
  · simp
  · rw [scale_len]; exact Nat.le_refl _

set_option maxRecDepth 100000 in
set_option maxHeartbeats 4000000 in
theorem cscaled_any {R : Nat → Prop} {w : World} (l : Lin) {A : Option Addr} {cap : Nat} (ht : Monos R w A l.2 cap) (hB : linB l.1 l.2 = true) (n : Int) (hn1 : -1073741824 ≤ n) (hn2 : n ≤ 1073741824) :
    Calls Tryz.prog 58 #[.agg #[.int .i64 l.1, .slice A l.2.length cap], .int .i64 n] w (LinRet w (optL (sclO n l)) (errV 83 (optE (sclO n l)))) := by
  obtain ⟨hcB, hl64, hall⟩ := linB_sound hB
  have HT := Lib.hid (fun W (h : Chg No w W) => ht.no monoE_good h)
  have HK : Hid (∀ i (h : i < l.2.length), -1152921504606846976 ≤ n * l.2[i].2 ∧ n * l.2[i].2 ≤ 1152921504606846976) := fun i h => mulN hn1 hn2 (coefB_le (hall i h).2.1).1 (coefB_le (hall i h).2.1).2
  obtain ⟨c1, c2⟩ := mulN hn1 hn2 (coefB_le hcB).1 (coefB_le hcB).2
  have hso : (linB (n * l.1) (sclT n l.2) = true ∧ sclO n l = some (n * l.1, sclT n l.2)) ∨ (linB (n * l.1) (sclT n l.2) = false ∧ sclO n l = none) := by
    unfold sclO sclLin
    show (linB (n * l.1) (sclT n l.2) = true ∧ (if linB (n * l.1) (sclT n l.2) = true then some (n * l.1, sclT n l.2) else none) = _) ∨ (_ ∧ (if linB (n * l.1) (sclT n l.2) = true then some (n * l.1, sclT n l.2) else none) = _)
    cases linB (n * l.1) (sclT n l.2) <;> simp
  generalize sclO n l = so at *
  obtain ⟨c, t⟩ := l
  simp only at HT HK hso hl64 c1 c2 ⊢
  clear ht hall hcB hB
  obtain ⟨w3, hw3⟩ : ∃ w3, w3 = ((w.alloc (.cells #[.int .i64 c, .slice A t.length cap] 32)).alloc (.cells #[.int .i64 0, .slice none 0 0] 32)).alloc (.cells #[.int .i64 (n * c), .slice none 0 0] 32) := ⟨_, rfl⟩
  obtain ⟨bo, hbo⟩ : ∃ bo, bo = w.heap.size + 1 + 1 := ⟨_, rfl⟩
  have h3 : Hid (Chg No w w3 ∧ w3.heap[w.heap.size]? = some (.cells #[.int .i64 c, .slice A t.length cap] 32 (0, 0)) ∧ w3.heap[w.heap.size + 1]? = some (.cells #[.int .i64 0, .slice none 0 0] 32 (0, 0)) ∧ w3.heap[bo]? = some (.cells #[.int .i64 (n * c), .slice none 0 0] 32 (0, 0)) ∧ w3.heap.size = bo + 1 ∧ w.heap.size + 1 < bo) := by
    rw [hw3, hbo]
    exact ⟨(((Chg.refl _ _).alloc _).alloc _).alloc _, at_old (at_old (heap_alloc_new _ _)), at_old (at_new (by simp)), at_new (by simp), by simp, by omega⟩
  obtain ⟨ansL, hansL⟩ : ∃ ansL, ansL = optL so := ⟨_, rfl⟩
  obtain ⟨ansE, hansE⟩ : ∃ ansE, ansE = errV 83 (optE so) := ⟨_, rfl⟩
  rw [← hansL, ← hansE]
  have HAN : Hid ((linB (n * c) (sclT n t) = true ∧ ansL = (n * c, sclT n t) ∧ ansE = .nilIface) ∨ (linB (n * c) (sclT n t) = false ∧ ansL = (0, []) ∧ ansE = .iface 83 (.int .i64 3))) := by
    rw [hansL, hansE]
    rcases hso with ⟨g1, rfl⟩ | ⟨g1, rfl⟩
    · exact .inl ⟨g1, rfl, errV_zero _⟩
    · exact .inr ⟨g1, rfl, errV_of _ (by decide)⟩
  clear hansL hansE hso
  go_enter Tryz.func58, Tryz.ntmps58
  go_upto_region 2 with fail
  rw [← hw3]
  rw [← hbo]
  clear hw3 hbo
  obtain ⟨p0, p1, _, _⟩ := obj_2 h3.out.2.1
  go_wp2_with fail
  clear p0 p1
  have hz3 : w3.heap.size = bo + 1 := h3.out.2.2.2.2.1
  have HZ3 := Lib.hid hz3
  clear hz3
  go_loopw [17] (fun s17 wr => ∃ (i : Nat) (vT : Value), s17 = .int .i64 i ∧ i ≤ t.length ∧ Hid (wr.heap[bo]? = some (.cells #[.int .i64 (n * c), vT] 32 (0, 0)) ∧ OwnL monoV 71 (fun q => w3.heap.size ≤ q) No wr vT (sclT n (t.take i)) ∧ Chg No w wr ∧ w3.heap.size ≤ wr.heap.size ∧ wr.heap[w.heap.size + 1]? = some (.cells #[.int .i64 0, .slice none 0 0] 32 (0, 0)))) (fun s17 _ => t.length - (intOf s17).toNat)
  case atStart => exact ⟨0, _, rfl, Nat.zero_le _, h3.out.2.2.2.1, by rw [List.take_zero, show sclT n [] = [] by unfold sclT; split <;> rfl]; exact OwnL.nil _ _ _ _ _, h3.out.1, Nat.le_refl _, h3.out.2.2.1⟩
  case round =>
    obtain ⟨i, vT, rfl, gi, hst⟩ := hrel
    obtain ⟨m0, m1, _, _⟩ := obj_2 hst.out.1
    by_cases hlt : i < t.length
    · obtain ⟨b, o, rfl, hx0, hx1⟩ := (HT.out wr hst.out.2.2.1).mono_at i hlt
      have i0 : (0 : Int) ≤ (i : Int) := by omega
      have i1 : (i : Int) < (t.length : Int) := by omega
      obtain ⟨d1, d2⟩ := HK.out i hlt
      have HKI := Lib.hid ((HT.out wr hst.out.2.2.1).mono_ok i hlt).1
      by_cases hn : n = 0
      · have hnn : (n != 0) = false := neF hn
        have HT2 : Hid (sclT n (t.take (i + 1)) = sclT n (t.take i)) := by unfold Hid sclT; rw [if_pos hn, if_pos hn]
        have HN := Lib.hid hn
        clear hn
        have HST : Hid (∀ W, Chg No wr W → W.heap[bo]? = some (.cells #[.int .i64 (n * c), vT] 32 (0, 0)) ∧ OwnL monoV 71 (fun q => w3.heap.size ≤ q) No W vT (sclT n (t.take (i + 1))) ∧ Chg No w W ∧ w3.heap.size ≤ W.heap.size ∧ W.heap[w.heap.size + 1]? = some (.cells #[.int .i64 0, .slice none 0 0] 32 (0, 0))) := fun W hW => by
          obtain ⟨a1, a2, a3, a4, a5⟩ := hst.out
          rw [HT2.out]
          exact ⟨hW.obj a1 id, a2.no monoV_good hW, a3.thenNo hW, Nat.le_trans a4 hW.size, hW.obj a5 id⟩
        generalize t[i].1 = vv at *
        generalize t[i].2 = kk at *
        clear hst HT2
        go_wp2_with fail
        go_roundw
        case rel => exact ⟨i + 1, _, by go_num, hlt, HST.out _ ((Chg.refl No wr).alloc _)⟩
        case measure => simp [intOf]; omega
      · have hnn : (n != 0) = true := neT hn
        have HTK : Hid (sclT n (t.take (i + 1)) = sclT n (t.take i) ++ [(t[i].1, n * t[i].2)]) := by unfold Hid sclT; rw [if_neg hn, if_neg hn, scale_take hlt]
        have hTl : (sclT n (t.take i)).length ≤ 64 := by have := sclT_len n (t.take i); rw [List.length_take] at this; omega
        generalize t[i].1 = vv at *
        generalize t[i].2 = kk at *
        generalize hT' : sclT n (t.take (i + 1)) = T' at *
        have HT' := Lib.hid hT'
        clear hT'
        generalize sclT n (t.take i) = T at *
        have x0 := ((Chg.refl No wr).alloc (.cells #[.int .i64 vv, .int .i64 kk] 71)).cell m1 id
        have x1 := ((Chg.refl No (wr.alloc (.cells #[.int .i64 vv, .int .i64 kk] 71))).alloc (.cells #[.int .i64 vv, .int .i64 (n * kk)] 71)).cell x0 id
        have HG : Hid (∀ w7 A2 cap2, OwnL monoV 71 (fun q => w3.heap.size ≤ q) No w7 (.slice A2 (T.length + 1) cap2) (T ++ [(vv, n * kk)]) → Chg (fun q => vT.ownBlock = some q) (wr.alloc (.cells #[.int .i64 vv, .int .i64 kk] 71)) w7 →
            (w7.cell? ⟨bo, 1, none⟩ = some vT ∧ w7.frozen? ⟨bo, 1, none⟩ = false) ∧ Hid ((w7.setCell ⟨bo, 1, none⟩ (.slice A2 (T.length + 1) cap2)).heap[bo]? = some (.cells #[.int .i64 (n * c), .slice A2 (T.length + 1) cap2] 32 (0, 0)) ∧
              OwnL monoV 71 (fun q => w3.heap.size ≤ q) No (w7.setCell ⟨bo, 1, none⟩ (.slice A2 (T.length + 1) cap2)) (.slice A2 (T.length + 1) cap2) T' ∧ Chg No w (w7.setCell ⟨bo, 1, none⟩ (.slice A2 (T.length + 1) cap2)) ∧ w3.heap.size ≤ (w7.setCell ⟨bo, 1, none⟩ (.slice A2 (T.length + 1) cap2)).heap.size ∧ (w7.setCell ⟨bo, 1, none⟩ (.slice A2 (T.length + 1) cap2)).heap[w.heap.size + 1]? = some (.cells #[.int .i64 0, .slice none 0 0] 32 (0, 0)))) := fun w7 A2 cap2 g1 g2 => by
          obtain ⟨a1, a2, a3, a4, a5⟩ := hst.out
          have hz := HZ3.out
          have hbb := h3.out.2.2.2.2.2
          have hmine : ∀ q, vT.ownBlock = some q → w3.heap.size ≤ q := fun q hq => (a2.mine q hq).1
          have ha : Chg No wr (wr.alloc (.cells #[.int .i64 vv, .int .i64 kk] 71)) := (Chg.refl _ _).alloc _
          have o7 := g2.obj (ha.obj a1 id) (fun e => by have := hmine _ e; omega)
          have o8 := g2.obj (ha.obj a5 id) (fun e => by have := hmine _ e; omega)
          have hs := (Chg.refl (fun q => q = bo) w7).setCell ⟨bo, 1, none⟩ (.slice A2 (T.length + 1) cap2) (fun _ => rfl)
          obtain ⟨_, k1, _, k2⟩ := obj_2 o7
          have hw3 := h3.out.1.size
          refine ⟨⟨k1, k2⟩, objset2 _ o7, ?_, ?_, ?_, hs.obj o8 (by omega)⟩
          · first | rw [HTK.out] | rw [← HT'.out, HTK.out]
            exact g1.chg monoV_good hs (fun k hk e => by have h1 : w3.heap.size ≤ k := (g1.mine k hk).1; omega) (fun k hk _ => hk.elim)
          · exact chgpast2 (chgpast2 (a3.thenNo ha) g2 (fun k hk => by have := hmine k hk; omega)) hs (fun k hk => by omega)
          · have := g2.size; have := hs.size; have := ha.size; omega
        have HOW : Hid (OwnL monoV 71 (fun q => w3.heap.size ≤ q) No (wr.alloc (.cells #[.int .i64 vv, .int .i64 kk] 71)) vT T) := hst.out.2.1.no monoV_good ((Chg.refl _ _).alloc _)
        have hzr : w3.heap.size ≤ wr.heap.size := hst.out.2.2.2.1
        clear hst HTK hn
        go_wp2_with (at_builtin; refine wpList_pushLn monoV_good monosTy rfl (.tmp 24) (.tmp 32) rfl (M := fun q => w3.heap.size ≤ q) (w := wr.alloc (.cells #[.int .i64 vv, .int .i64 kk] 71)) (fun q hq => by simp at hq; omega) HOW.out rfl (mono_of (m := (vv, n * kk)) HKI.out (I64.of (show -9000000000000000000 ≤ n * kk by omega) (show n * kk ≤ 9000000000000000000 by omega))) (by simp [Value.oneCell']) (by simp) rfl (show (T.length + 1) * 16 ≤ 140737488355328 by omega) ?_; intro A2 cap2 w7 g1 g2; obtain ⟨⟨f1, f2⟩, G8⟩ := HG.out w7 A2 cap2 g1 g2; clear g1 g2)
        go_roundw
        case rel => exact ⟨i + 1, _, by go_num, hlt, by rw [HT'.out]; exact G8⟩
        case measure => simp [intOf]; omega
    · obtain rfl : i = t.length := by omega
      rw [List.take_of_length_le (Nat.le_refl _)] at hst
      have hTl := sclT_len n t
      have hcl : (sclT n t).length * 16 ≤ big := by unfold big; omega
      obtain ⟨AT, capT, hvT, hmo⟩ : ∃ AT capT, vT = .slice AT (sclT n t).length capT ∧ Monos (fun q => w3.heap.size ≤ q) wr AT (sclT n t) capT := by
        obtain ⟨AT, capT, e, h⟩ := hst.out.2.1.sl monoV_good hcl
        exact ⟨AT, capT, e, h.mono monoE_good (fun k _ hk => hk.elim id (fun f => f.elim))⟩
      subst hvT
      have HMO := Lib.hid hmo
      have HC := Lib.hid (fun W (h : Chg No wr W) => linCheck_any (n * c) (hmo.no monoE_good h))
      have HEND : Hid (∀ W u v, Chg No wr W → Chg No w ((W.setCell ⟨w.heap.size + 1, 0, none⟩ u).setCell ⟨w.heap.size + 1, 1, none⟩ v) ∧ Monos (fun q => w.heap.size ≤ q) ((W.setCell ⟨w.heap.size + 1, 0, none⟩ u).setCell ⟨w.heap.size + 1, 1, none⟩ v) AT (sclT n t) capT) := fun W u v h => by
        have hz := HZ3.out
        have hbb := h3.out.2.2.2.2.2
        have hs : Chg (fun q => q = w.heap.size + 1) W ((W.setCell ⟨w.heap.size + 1, 0, none⟩ u).setCell ⟨w.heap.size + 1, 1, none⟩ v) := ((Chg.refl (fun q => q = w.heap.size + 1) W).setCell _ _ (fun _ => rfl)).setCell _ _ (fun _ => rfl)
        exact ⟨chgpast2 (hst.out.2.2.1.thenNo h) hs (fun k hk => by omega), ((hmo.no monoE_good h).chg monoE_good hs (fun k hk e => by omega)).mono monoE_good (fun k _ hk => by omega)⟩
      have HOB : Hid (∀ W, Chg No wr W → (W.cell? ⟨bo, 0, none⟩ = some (.int .i64 (n * c)) ∧ W.cell? ⟨bo, 1, none⟩ = some (.slice AT (sclT n t).length capT) ∧ W.frozen? ⟨bo, 0, none⟩ = false ∧ W.frozen? ⟨bo, 1, none⟩ = false) ∧ W.cell? ⟨w.heap.size + 1, 0, none⟩ = some (.int .i64 0) ∧ W.cell? ⟨w.heap.size + 1, 1, none⟩ = some (.slice none 0 0) ∧ W.frozen? ⟨w.heap.size + 1, 0, none⟩ = false ∧ W.frozen? ⟨w.heap.size + 1, 1, none⟩ = false) := fun W h =>
        ⟨obj_2 (h.obj hst.out.1 id), obj_2 (h.obj hst.out.2.2.2.2 id)⟩
      clear hmo hst HT HK hcl
      rcases HAN.out with ⟨g1, rfl, rfl⟩ | ⟨g1, rfl, rfl⟩
      · rw [g1] at HC
        rw [show (if true = true then (0 : Int) else 5) = 0 from rfl, errV_zero] at HC
        clear g1 HAN
        generalize sclT n t = T at *
        go_wp2_with (go_at_call 40; refine (HC.out _ (Chg.refl _ _)).mono ?_; rintro e w8 ⟨rfl, h8⟩; have H8 := Lib.hid h8; obtain ⟨⟨m0, m1, _, _⟩, r0, r1, rf0, rf1⟩ := HOB.out w8 h8; clear h8)
        exact bodyPost_ret (v := .tuple #[.agg #[.int .i64 (n * c), .slice AT T.length capT], .nilIface]) (by simp [results, Tryz.results58, go_sem, r0, r1]) rfl ⟨AT, capT, rfl, (HEND.out _ _ _ H8.out).2, (HEND.out _ _ _ H8.out).1⟩
      · rw [g1] at HC
        rw [show (if false = true then (0 : Int) else 5) = 5 from rfl, errV_of _ (by decide)] at HC
        clear g1 HAN
        generalize sclT n t = T at *
        go_wp2_with (go_at_call 40; refine (HC.out _ (Chg.refl _ _)).mono ?_; rintro e w8 ⟨rfl, h8⟩; have H8 := Lib.hid h8; obtain ⟨⟨m0, m1, _, _⟩, r0, r1, rf0, rf1⟩ := HOB.out w8 h8; clear h8)
        exact bodyPost_ret (v := .tuple #[.agg #[.int .i64 0, .slice none 0 0], .iface 83 (.int .i64 3)]) (by simp [results, Tryz.results58, go_sem, r0, r1]) rfl (LinRet.none (HEND.out _ _ _ H8.out).1)
end Go.Proofs.YtpmndblakmobdaaGreatDoor
