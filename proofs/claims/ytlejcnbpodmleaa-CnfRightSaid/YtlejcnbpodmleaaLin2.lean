/-
  lin.Same, slices.Equal of terms, lin.Gcd, and the reference's.
-/
import Derived.Test.YtlejcnbpodmleaaLin1
import Derived.Laws.StructEq
namespace Go.Proofs.Ytlejcnbpodmleaa
open Go Go.RowKit

theorem neqMono (a b c d : Int) (w : World) : (binOp .neq 49 (.agg #[.int .i64 a, .int .i64 b]) (.agg #[.int .i64 c, .int .i64 d])).run Try.prog w = .ok (.bool (!(a == c && b == d))) w := by
  have u3 := Try.underlying3
  have a3 := Try.isAgg3
  have z3 := Try.sizeOf3
  have hS : Try.prog.underlying 49 = some (.struct (Try.prog.fieldsOf 49)) := by kernel_rfl
  have hp : Try.prog.stoodInHeld 49 = false := by kernel_rfl
  rw [run_neq_struct, show (10000 : Nat) = 9999 + 1 from rfl, run_equalIn_agg w 9999 49 _ _ hS hp]
  simp only [Program.fieldsOf, Try.underlying49]
  go_simp
  by_cases h1 : a = c <;> by_cases h2 : b = d <;> simp [h1, h2]

/-- Two lists of terms that are of one length: the same, if each is. -/
theorem monos_same {xs ys : List Mono} (hl : xs.length = ys.length) (h : ∀ i (h1 : i < xs.length) (h2 : i < ys.length), xs[i] = ys[i]) : xs = ys := List.ext_getElem hl h

set_option maxRecDepth 100000 in
set_option maxHeartbeats 1000000 in
theorem equalMono_any {R R' : Nat → Prop} {w : World} {A A' : Option Addr} {xs ys : List Mono} {cap cap' : Nat} (hx : Monos R w A xs cap) (hy : Monos R' w A' ys cap') :
    Calls Try.prog 74 #[.slice A xs.length cap, .slice A' ys.length cap'] w fun e w' => e = .returned (.bool (decide (xs = ys))) ∧ Chg No w w' := by
  have HX := Lib.hid (fun W (h : Chg No w W) => hx.no monoE_good h)
  have HY := Lib.hid (fun W (h : Chg No w W) => hy.no monoE_good h)
  have hb := hx.big
  have hb' := hy.big
  unfold big at hb hb'
  have hne := neqMono
  have hgm : Try.prog.eqGuardType Try.prog.depth 49 = false := by kernel_rfl
  clear hx hy
  by_cases hl : xs.length = ys.length
  · have hd : ((xs.length : Int) != (ys.length : Int)) = false := by rw [hl]; simp
    have HG : Hid ((∀ i (h1 : i < xs.length) (h2 : i < ys.length), xs[i] = ys[i]) → decide (xs = ys) = true) := fun h => decide_eq_true (monos_same hl h)
    have HB : Hid (∀ i (h1 : i < xs.length) (h2 : i < ys.length), xs[i] ≠ ys[i] → decide (xs = ys) = false) := fun i h1 h2 h => decide_eq_false (fun e => h (by subst e; rfl))
    generalize decide (xs = ys) = ans at *
    have HL := Lib.hid hl
    have hle : xs.length ≤ ys.length := by omega
    clear hl
    go_enter Try.func74, Try.ntmps74
    go_wp2
    go_loopw [13] (fun s wr => ∃ k : Nat, k ≤ xs.length ∧ s = .int .i64 k ∧ Hid (Chg No w wr) ∧ Hid (∀ i (h1 : i < xs.length) (h2 : i < ys.length), i < k → xs[i] = ys[i])) (fun s _ => xs.length - (intOf s).toNat)
    case atStart => exact ⟨0, Nat.zero_le _, rfl, Chg.refl _ _, fun i _ _ h => absurd h (Nat.not_lt_zero i)⟩
    case round =>
      obtain ⟨k, hk, rfl, hch, hgd⟩ := hrel
      by_cases hlt : k < xs.length
      · have hlt' : k < ys.length := by omega
        obtain ⟨b, o, rfl, hx0, hx1⟩ := (HX.out wr hch.out).mono_at k hlt
        obtain ⟨b', o', rfl, hy0, hy1⟩ := (HY.out wr hch.out).mono_at k hlt'
        have i0 : (0 : Int) ≤ (k : Int) := by omega
        have i1 : (k : Int) < (xs.length : Int) := by omega
        have i2 : (k : Int) < (ys.length : Int) := by omega
        have Hbad := Lib.hid (HB.out k hlt hlt')
        have Hnew : Hid (xs[k] = ys[k] → ∀ i (h1 : i < xs.length) (h2 : i < ys.length), i < k + 1 → xs[i] = ys[i]) := fun e i h1 h2 h3 => by
          rcases Nat.lt_succ_iff_lt_or_eq.1 h3 with h | rfl
          · exact hgd.out i h1 h2 h
          · exact e
        generalize hm : xs[k] = m at *
        generalize hm' : ys[k] = m' at *
        clear hm hm' HB
        obtain ⟨v, c⟩ := m
        obtain ⟨v', c'⟩ := m'
        simp only at hx0 hx1 hy0 hy1
        by_cases he : v = v' ∧ c = c'
        · obtain ⟨rfl, rfl⟩ := he
          have Hn := Lib.hid (Hnew.out rfl)
          have hdd : (!((v == v) && (c == c))) = false := by simp
          go_wp2
          go_quiet (fail)
          go_wp2
          go_roundw
          case rel => exact ⟨k + 1, hlt, by go_num, hch.out.drewN _, Hn.out⟩
          case measure => simp [intOf]; omega
        · obtain rfl : ans = false := Hbad.out (fun e => he (by simpa using e))
          have hdd : ((v == v') && (c == c')) = false := by
            rw [Bool.and_eq_false_iff, beq_eq_false_iff_ne, beq_eq_false_iff_ne]
            by_cases h : v = v'
            · exact .inr (fun e => he ⟨h, e⟩)
            · exact .inl h
          clear he
          go_wp2
          go_quiet (fail)
          go_wp2
          go_ret
          exact ⟨rfl, hch.out.drewN _⟩
      · obtain rfl : ans = true := HG.out (fun i h1 h2 => hgd.out i h1 h2 (by omega))
        go_wp2
        go_ret
        exact ⟨rfl, hch.out⟩
  · have hd : ((xs.length : Int) != (ys.length : Int)) = true := by simp; omega
    rw [show decide (xs = ys) = false from decide_eq_false (fun e => hl (by rw [e]))]
    clear hl
    go_enter Try.func74, Try.ntmps74
    go_wp2
    go_ret
    exact ⟨rfl, Chg.refl _ _⟩

set_option maxRecDepth 100000 in
set_option maxHeartbeats 1000000 in
theorem linSame_any {R R' : Nat → Prop} {w : World} {A A' : Option Addr} {c c' : Int} {xs ys : List Mono} {cap cap' : Nat} (hx : Monos R w A xs cap) (hy : Monos R' w A' ys cap') :
    Calls Try.prog 64 #[.agg #[.int .i64 c, .slice A xs.length cap], .agg #[.int .i64 c', .slice A' ys.length cap']] w fun e w' => e = .returned (.bool (decide (c = c' ∧ xs = ys))) ∧ Chg No w w' := by
  have HE := Lib.hid (fun W (h : Chg No w W) => equalMono_any (hx.no monoE_good h) (hy.no monoE_good h))
  clear hx hy
  by_cases hc : c = c'
  · subst hc
    have hd : (c == c) = true := by simp
    rw [show decide (c = c ∧ xs = ys) = decide (xs = ys) by simp]
    generalize decide (xs = ys) = ans at *
    go_enter Try.func64, Try.ntmps64
    go_wp2_with (go_at_call 74; refine (HE.out _ (((Chg.refl _ _).alloc _).alloc _)).mono ?_; rintro e w1 ⟨rfl, h1⟩)
    go_ret
    exact ⟨rfl, (((Chg.refl _ _).alloc _).alloc _).thenNo h1⟩
  · have hd : (c == c') = false := by simpa using hc
    rw [show decide (c = c' ∧ xs = ys) = false by simp [hc]]
    clear hc
    go_enter Try.func64, Try.ntmps64
    go_wp2
    go_ret
    exact ⟨rfl, ((Chg.refl _ _).alloc _).alloc _⟩
end Go.Proofs.Ytlejcnbpodmleaa
