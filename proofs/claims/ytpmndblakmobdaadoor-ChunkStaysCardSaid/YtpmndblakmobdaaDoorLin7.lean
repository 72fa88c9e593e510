/-
  Over terms: slices.IndexFunc, ContainsFunc, Clone; the closures of lin.Make and lin.sum.
-/
import Derived.Test.YtpmndblakmobdaaDoorLin1
import Derived.Test.YtpmndblakmobdaaDoorFind
import Derived.Test.YtpmndblakmobdaaDoorOwnL
import Derived.Test.YtpmndblakmobdaaDoorStbM5
namespace Go.Proofs.YtpmndblakmobdaaDoor
open Go Go.RowKit Go.Sort

set_option maxHeartbeats 400000 in
theorem indexFunc_monos {R : Nat → Prop} {w : World} {A : Option Addr} {l : List Mono} {cap : Nat} (hl : Monos R w A l cap) (fv : FuncId) (hf : Entered fv) (p : Mono → Bool)
    (hp : ∀ w', Chg No w w' → ∀ i (h : i < l.length), Calls Tryd.prog fv #[.agg #[.int .i64 l[i].1, .int .i64 l[i].2]] w' fun e w'' => e = .returned (.bool (p l[i])) ∧ Chg No w' w'') :
    Calls Tryd.prog 77 #[.slice A l.length cap, .func (.func fv) #[] #[]] w fun e w' => e = .returned (.int .i64 (findI p l)) ∧ Chg No w w' := by
  have hb := hl.big
  unfold big at hb
  have Hp := Lib.hid hp
  have HL := Lib.hid hl
  clear hp hl
  unfold Entered at hf
  go_enter Tryd.func77, Tryd.ntmps77
  go_wp2
  go_loopw [8] (fun i wr => ∃ k : Nat, k ≤ l.length ∧ i = .int .i64 k ∧ Hid (Chg No w wr) ∧ Hid (∀ j (h : j < l.length), j < k → p l[j] = false)) (fun i _ => l.length - (intOf i).toNat)
  case atStart => exact ⟨0, Nat.zero_le _, rfl, Chg.refl _ _, fun j h hk => absurd hk (by omega)⟩
  case round =>
    obtain ⟨k, hk, rfl, hch, hall⟩ := hrel
    by_cases hlt : k < l.length
    · obtain ⟨b, o, rfl, hx0, hx1⟩ := (HL.out.no monoE_good hch.out).mono_at k hlt
      have i0 : (0 : Int) ≤ (k : Int) := by omega
      have i1 : (k : Int) < (l.length : Int) := by omega
      have HP := Lib.hid (Hp.out wr hch.out k hlt)
      have Hhit : Hid (p l[k] = true → findI p l = k) := fun h => findI_hit hlt h hall.out
      have Hmiss : Hid (p l[k] = false → ∀ j (h : j < l.length), j < k + 1 → p l[j] = false) := fun hpk j h hj => by
        rcases Nat.lt_or_ge j k with g | g
        · exact hall.out j h g
        · obtain rfl : j = k := by omega
          exact hpk
      generalize l[k].1 = v at *
      generalize l[k].2 = c at *
      generalize p l[k] = pk at *
      cases pk with
      | true =>
        have e := Hhit.out rfl
        have HE := Lib.hid e
        clear e
        go_wp2_with (refine HP.out.mono ?_; rintro e w1 ⟨rfl, h1⟩)
        go_ret
        exact ⟨ret_int HE.out.symm, hch.out.thenNo h1⟩
      | false =>
        have HM := Lib.hid (Hmiss.out rfl)
        clear Hmiss Hhit
        go_wp2_with (refine HP.out.mono ?_; rintro e w1 ⟨rfl, h1⟩)
        go_roundw
        case rel => exact ⟨k + 1, hlt, by go_num, hch.out.thenNo h1, HM.out⟩
        case measure => simp [intOf]; omega
    · go_wp2
      go_ret
      exact ⟨ret_int (findI_miss (fun j h => hall.out j h (by omega))).symm, hch.out⟩

set_option maxHeartbeats 400000 in
theorem containsFunc_monos {R : Nat → Prop} {w : World} {A : Option Addr} {l : List Mono} {cap : Nat} (hl : Monos R w A l cap) (fv : FuncId) (hf : Entered fv) (p : Mono → Bool)
    (hp : ∀ w', Chg No w w' → ∀ i (h : i < l.length), Calls Tryd.prog fv #[.agg #[.int .i64 l[i].1, .int .i64 l[i].2]] w' fun e w'' => e = .returned (.bool (p l[i])) ∧ Chg No w' w'') :
    Calls Tryd.prog 56 #[.slice A l.length cap, .func (.func fv) #[] #[]] w fun e w' => e = .returned (.bool (l.any p)) ∧ Chg No w w' := by
  have H := Lib.hid (indexFunc_monos hl fv hf p hp)
  clear hp hl
  go_enter Tryd.func56, Tryd.ntmps56
  go_wp2_with (refine H.out.mono ?_; rintro e w1 ⟨rfl, h1⟩)
  go_ret
  exact ⟨ret_bool (findI_ge p l), h1⟩

theorem entered_sum1 : Entered 55 := enters_of Tryd.func55 (by kernel_rfl) rfl
theorem entered_sum2 : Entered 57 := enters_of Tryd.func57 (by kernel_rfl) rfl

set_option maxHeartbeats 400000 in
theorem sum2_any (v k : Int) (w : World) : Calls Tryd.prog 57 #[.agg #[.int .i64 v, .int .i64 k]] w fun e w' => e = .returned (.bool (!coefB k)) ∧ Chg No w w' := by
  have HK := Lib.hid (fun W => coef_any k W)
  generalize coefB k = b1 at *
  go_enter Tryd.func57, Tryd.ntmps57
  go_wp2_with (go_at_call 37; refine (HK.out _).mono ?_; rintro e w1 ⟨rfl, rfl⟩)
  go_ret
  exact ⟨rfl, (Chg.refl _ _).alloc _⟩

/-- A term whose variable is no greater than may be. -/
structure VMono where
  val : Mono
  ok : (0 ≤ val.1 ∧ val.1 < 1048576) ∧ I64 val.2
instance : Inhabited VMono := ⟨⟨(0, 0), by decide, by unfold I64; decide⟩⟩
def encM (m : VMono) : List Value := [.int .i64 m.1.1, .int .i64 m.1.2]
def cmpM (a b : VMono) : Int := a.1.1 - b.1.1
theorem cmpM_swo : SWO (ltOf cmpM) where
  irrefl x := by unfold ltOf cmpM; simp
  trans x y z h1 h2 := by unfold ltOf cmpM at *; simp at *; omega
  ntrans x y z h1 h2 := by unfold ltOf cmpM at *; simp at *; omega
set_option maxHeartbeats 400000 in
theorem sum1_any : CmpAny Tryd.prog 55 #[] encM cmpM := by
  intro x y W
  obtain ⟨⟨v, k⟩, ⟨h1, h2⟩, _⟩ := x
  obtain ⟨⟨v', k'⟩, ⟨h3, h4⟩, _⟩ := y
  simp only at h1 h2 h3 h4
  show Calls Tryd.prog 55 #[.agg #[.int .i64 v, .int .i64 k], .agg #[.int .i64 v', .int .i64 k']] W fun e w' => e = .returned (.int .i64 (v - v')) ∧ ∃ q os', w' = grow (W.drewN q) os'
  go_enter Tryd.func55, Tryd.ntmps55
  go_wp2
  go_ret
  exact ⟨rfl, 0, _, by rw [alloc_eq_grow, alloc_eq_grow, grow_grow]; rfl⟩

theorem monosTy : SliceTy Tryd.prog 34 55 2 16 (.agg #[.int .i64 0, .int .i64 0]) := ⟨Tryd.underlying34, by kernel_rfl, rfl, by decide, by decide⟩
theorem mono_one {R : Nat → Prop} {w : World} {cs : List Value} {x : Mono} (h : monoV R w cs x) : ∀ u ∈ cs, u.oneCell' = true := by
  obtain ⟨rfl, _⟩ := mono_cells h
  simp [Value.oneCell']
/-- A slice of terms that a call owns. -/
abbrev OMonos (M : Nat → Prop) (w : World) (v : Value) (l : List Mono) : Prop := OwnL monoV 55 M No w v l
theorem OMonos.monos {M : Nat → Prop} {w : World} {A : Option Addr} {n cap : Nat} {l : List Mono} (h : OMonos M w (.slice A n cap) l) (hb : l.length * 16 ≤ big) : Monos M w A l cap :=
  (OwnL.sl_of monoV_good h hb).2.mono monoE_good (fun _ _ hk => hk.elim id (fun f => f.elim))

set_option maxHeartbeats 400000 in
theorem cloneMono_any {R : Nat → Prop} {w : World} {A : Option Addr} {l : List Mono} {cap : Nat} (hl : Monos R w A l cap) :
    Calls Tryd.prog 53 #[.slice A l.length cap] w fun e w' => ∃ A' cap', e = .returned (.slice A' l.length cap') ∧ OwnL monoV 55 (fun k => w.heap.size ≤ k) R w' (.slice A' l.length cap') l ∧ Chg No w w' := by
  cases hA : A with
  | none =>
    subst hA
    have h0 : l = [] := List.eq_nil_of_length_eq_zero (by have := hl.le; have := hl.nil rfl; omega)
    have hc : cap = 0 := hl.nil rfl
    subst h0; subst hc
    have he : ∀ W, (binOp .eql 34 (.slice none 0 0) (.slice none 0 0)).run Tryd.prog W = .ok (.bool true) W := fun W => by kernel_rfl
    clear hl
    go_enter Tryd.func53, Tryd.ntmps53
    go_wp2
    go_ret
    exact ⟨none, 0, rfl, OwnL.nil _ _ _ _ _, Chg.refl _ _⟩
  | some a =>
    subst hA
    have HL := Lib.hid hl
    have he := fun W => Lib.run_eql_slice_nil (P := Tryd.prog) W 34 55 (some a) l.length cap 0 0 Tryd.underlying34
    clear hl
    go_enter Tryd.func53, Tryd.ntmps53
    go_wp2_with (at_builtin; refine wpList_copyL monoV_good mono_one monosTy rfl (.tmp 5) (.tmp 6) rfl rfl rfl HL.out rfl ?_; intro A' cap' w' h1 h2 h3)
    go_ret
    exact ⟨A', cap', rfl, h1, h2⟩
end Go.Proofs.YtpmndblakmobdaaDoor
