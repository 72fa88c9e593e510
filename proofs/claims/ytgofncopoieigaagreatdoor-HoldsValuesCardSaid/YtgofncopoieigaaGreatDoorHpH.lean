/-
  Chapter 17: Same, SameShares, trammelref17.Join walked. (Printed by wip/gen17h.py.)
-/
import Derived.Test.YtgofncopoieigaaGreatDoorHpG
import Derived.Laws.StructEq
namespace Go.Proofs.YtgofncopoieigaaGreatDoor
open Go Go.RowKit

theorem toList_inj {f g : ByteArray} (h : f.toList = g.toList) : f = g := by
  rw [ByteArray.toList_eq, ByteArray.toList_eq] at h
  exact ByteArray.ext (Array.toList_inj.1 h)

theorem neqShare (m m' : Tri) (w : World) : (binOp .neq 50 (.agg #[.int .i64 m.1, .string m.2.1, .int .i64 m.2.2]) (.agg #[.int .i64 m'.1, .string m'.2.1, .int .i64 m'.2.2])).run Tryz.prog w = .ok (.bool (!decide (m = m'))) w := by
  have u3 := Tryz.underlying3
  have a3 := Tryz.isAgg3
  have z3 := Tryz.sizeOf3
  have u9 := Tryz.underlying9
  have a9 := Tryz.isAgg9
  have z9 := Tryz.sizeOf9
  have hS : Tryz.prog.underlying 50 = some (.struct (Tryz.prog.fieldsOf 50)) := by kernel_rfl
  have hp : Tryz.prog.stoodInHeld 50 = false := by kernel_rfl
  rw [run_neq_struct, show (10000 : Nat) = 9999 + 1 from rfl, run_equalIn_agg w 9999 50 _ _ hS hp]
  simp only [Program.fieldsOf, Tryz.underlying50]
  obtain ⟨a, f, c⟩ := m
  obtain ⟨a', f', c'⟩ := m'
  have hd : decide ((a, f, c) = (a', f', c')) = ((a == a') && (f.toList == f'.toList) && (c == c')) := by
    rw [Bool.eq_iff_iff]
    simp only [decide_eq_true_eq, Bool.and_eq_true, beq_iff_eq, Prod.mk.injEq]
    exact ⟨fun ⟨h1, h2, h3⟩ => ⟨⟨h1, by rw [h2]⟩, h3⟩, fun ⟨⟨h1, h2⟩, h3⟩ => ⟨h1, toList_inj h2, h3⟩⟩
  rw [hd]
  go_simp
  by_cases h1 : a = a' <;> by_cases h2 : f.toList = f'.toList <;> by_cases h3 : c = c' <;> simp [h1, h2, h3]

set_option maxRecDepth 100000 in
set_option maxHeartbeats 1000000 in
theorem sameShare_any {R R' : Nat → Prop} {w : World} {A A' : Option Addr} {xs ys : List Tri} {cap cap' : Nat} (hx : Tris R w A xs cap) (hy : Tris R' w A' ys cap') :
    Calls Tryz.prog 12 #[.slice A xs.length cap, .slice A' ys.length cap'] w fun e w' => e = .returned (.bool (decide (xs = ys))) ∧ Chg No w w' := by
  have HX := Lib.hid (fun W (h : Chg No w W) => hx.no triE_good h)
  have HY := Lib.hid (fun W (h : Chg No w W) => hy.no triE_good h)
  have hb := hx.big
  have hb' := hy.big
  unfold big at hb hb'
  have hgm : Tryz.prog.eqGuardType Tryz.prog.depth 50 = false := by kernel_rfl
  clear hx hy
  by_cases hl : xs.length = ys.length
  · have hd : ((xs.length : Int) != (ys.length : Int)) = false := by rw [hl]; simp
    have HG : Hid ((∀ i (h1 : i < xs.length) (h2 : i < ys.length), xs[i] = ys[i]) → decide (xs = ys) = true) := fun h => decide_eq_true (List.ext_getElem hl h)
    have HB : Hid (∀ i (h1 : i < xs.length) (h2 : i < ys.length), xs[i] ≠ ys[i] → decide (xs = ys) = false) := fun i h1 h2 h => decide_eq_false (fun e => h (by subst e; rfl))
    generalize decide (xs = ys) = ans at *
    have hle : xs.length ≤ ys.length := by omega
    clear hl
    go_enter Tryz.func12, Tryz.ntmps12
    go_wp2
    go_loopw [5] (fun s wr => ∃ k : Nat, k ≤ xs.length ∧ s = .int .i64 k ∧ Hid (Chg No w wr) ∧ Hid (∀ i (h1 : i < xs.length) (h2 : i < ys.length), i < k → xs[i] = ys[i])) (fun s _ => xs.length - (intOf s).toNat)
    case atStart => exact ⟨0, Nat.zero_le _, rfl, Chg.refl _ _, fun i _ _ h => absurd h (Nat.not_lt_zero i)⟩
    case round =>
      obtain ⟨k, hk, rfl, hch, hgd⟩ := hrel
      by_cases hlt : k < xs.length
      · have hlt' : k < ys.length := by omega
        obtain ⟨b, o, rfl, hx0, hx1, hx2⟩ := (HX.out wr hch.out).tri_at k hlt
        obtain ⟨b', o', rfl, hy0, hy1, hy2⟩ := (HY.out wr hch.out).tri_at k hlt'
        have i0 : (0 : Int) ≤ (k : Int) := by omega
        have i1 : (k : Int) < (xs.length : Int) := by omega
        have i2 : (k : Int) < (ys.length : Int) := by omega
        have Hbad := Lib.hid (HB.out k hlt hlt')
        have Hnew : Hid (xs[k] = ys[k] → ∀ i (h1 : i < xs.length) (h2 : i < ys.length), i < k + 1 → xs[i] = ys[i]) := fun e i h1 h2 h3 => by
          rcases Nat.lt_succ_iff_lt_or_eq.1 h3 with h | rfl
          · exact hgd.out i h1 h2 h
          · exact e
        generalize hm : xs[k] = m at *
        generalize hm' : ys[k] = m' at *
        clear hm hm' HB
        have hne := neqShare m m'
        obtain ⟨v, f, c⟩ := m
        obtain ⟨v', f', c'⟩ := m'
        simp only at hx0 hx1 hx2 hy0 hy1 hy2 hne
        by_cases he : (v, f, c) = (v', f', c')
        · have Hn := Lib.hid (Hnew.out he)
          rw [show decide ((v, f, c) = (v', f', c')) = true from decide_eq_true he] at hne
          clear he
          go_wp2
          go_quiet (fail)
          go_wp2
          go_roundw
          case rel => exact ⟨k + 1, hlt, by go_num, hch.out.drewN _, Hn.out⟩
          case measure => simp [intOf]; omega
        · obtain rfl : ans = false := Hbad.out he
          rw [show decide ((v, f, c) = (v', f', c')) = false from decide_eq_false he] at hne
          clear he
          go_wp2
          go_quiet (fail)
          go_wp2
          go_ret
          exact ⟨rfl, hch.out.drewN _⟩
      · obtain rfl : ans = true := HG.out (fun i h1 h2 => hgd.out i h1 h2 (by omega))
        go_wp2
        go_ret
        exact ⟨rfl, hch.out⟩
  · have hd : ((xs.length : Int) != (ys.length : Int)) = true := by simp; omega
    rw [show decide (xs = ys) = false from decide_eq_false (fun e => hl (by rw [e]))]
    clear hl
    go_enter Tryz.func12, Tryz.ntmps12
    go_wp2
    go_ret
    exact ⟨rfl, Chg.refl _ _⟩

theorem neqCell (m m' : Tri) (w : World) : (binOp .neq 67 (.agg #[.int .i64 m.1, .string m.2.1, .int .i64 m.2.2]) (.agg #[.int .i64 m'.1, .string m'.2.1, .int .i64 m'.2.2])).run Tryz.prog w = .ok (.bool (!decide (m = m'))) w := by
  have u3 := Tryz.underlying3
  have a3 := Tryz.isAgg3
  have z3 := Tryz.sizeOf3
  have u9 := Tryz.underlying9
  have a9 := Tryz.isAgg9
  have z9 := Tryz.sizeOf9
  have hS : Tryz.prog.underlying 67 = some (.struct (Tryz.prog.fieldsOf 67)) := by kernel_rfl
  have hp : Tryz.prog.stoodInHeld 67 = false := by kernel_rfl
  rw [run_neq_struct, show (10000 : Nat) = 9999 + 1 from rfl, run_equalIn_agg w 9999 67 _ _ hS hp]
  simp only [Program.fieldsOf, Tryz.underlying67]
  obtain ⟨a, f, c⟩ := m
  obtain ⟨a', f', c'⟩ := m'
  have hd : decide ((a, f, c) = (a', f', c')) = ((a == a') && (f.toList == f'.toList) && (c == c')) := by
    rw [Bool.eq_iff_iff]
    simp only [decide_eq_true_eq, Bool.and_eq_true, beq_iff_eq, Prod.mk.injEq]
    exact ⟨fun ⟨h1, h2, h3⟩ => ⟨⟨h1, by rw [h2]⟩, h3⟩, fun ⟨⟨h1, h2⟩, h3⟩ => ⟨h1, toList_inj h2, h3⟩⟩
  rw [hd]
  go_simp
  by_cases h1 : a = a' <;> by_cases h2 : f.toList = f'.toList <;> by_cases h3 : c = c' <;> simp [h1, h2, h3]

set_option maxRecDepth 100000 in
set_option maxHeartbeats 1000000 in
theorem sameCell_any {R R' : Nat → Prop} {w : World} {A A' : Option Addr} {xs ys : List Tri} {cap cap' : Nat} (hx : Tris R w A xs cap) (hy : Tris R' w A' ys cap') :
    Calls Tryz.prog 14 #[.slice A xs.length cap, .slice A' ys.length cap'] w fun e w' => e = .returned (.bool (decide (xs = ys))) ∧ Chg No w w' := by
  have HX := Lib.hid (fun W (h : Chg No w W) => hx.no triE_good h)
  have HY := Lib.hid (fun W (h : Chg No w W) => hy.no triE_good h)
  have hb := hx.big
  have hb' := hy.big
  unfold big at hb hb'
  have hgm : Tryz.prog.eqGuardType Tryz.prog.depth 67 = false := by kernel_rfl
  clear hx hy
  by_cases hl : xs.length = ys.length
  · have hd : ((xs.length : Int) != (ys.length : Int)) = false := by rw [hl]; simp
    have HG : Hid ((∀ i (h1 : i < xs.length) (h2 : i < ys.length), xs[i] = ys[i]) → decide (xs = ys) = true) := fun h => decide_eq_true (List.ext_getElem hl h)
    have HB : Hid (∀ i (h1 : i < xs.length) (h2 : i < ys.length), xs[i] ≠ ys[i] → decide (xs = ys) = false) := fun i h1 h2 h => decide_eq_false (fun e => h (by subst e; rfl))
    generalize decide (xs = ys) = ans at *
    have hle : xs.length ≤ ys.length := by omega
    clear hl
    go_enter Tryz.func14, Tryz.ntmps14
    go_wp2
    go_loopw [5] (fun s wr => ∃ k : Nat, k ≤ xs.length ∧ s = .int .i64 k ∧ Hid (Chg No w wr) ∧ Hid (∀ i (h1 : i < xs.length) (h2 : i < ys.length), i < k → xs[i] = ys[i])) (fun s _ => xs.length - (intOf s).toNat)
    case atStart => exact ⟨0, Nat.zero_le _, rfl, Chg.refl _ _, fun i _ _ h => absurd h (Nat.not_lt_zero i)⟩
    case round =>
      obtain ⟨k, hk, rfl, hch, hgd⟩ := hrel
      by_cases hlt : k < xs.length
      · have hlt' : k < ys.length := by omega
        obtain ⟨b, o, rfl, hx0, hx1, hx2⟩ := (HX.out wr hch.out).tri_at k hlt
        obtain ⟨b', o', rfl, hy0, hy1, hy2⟩ := (HY.out wr hch.out).tri_at k hlt'
        have i0 : (0 : Int) ≤ (k : Int) := by omega
        have i1 : (k : Int) < (xs.length : Int) := by omega
        have i2 : (k : Int) < (ys.length : Int) := by omega
        have Hbad := Lib.hid (HB.out k hlt hlt')
        have Hnew : Hid (xs[k] = ys[k] → ∀ i (h1 : i < xs.length) (h2 : i < ys.length), i < k + 1 → xs[i] = ys[i]) := fun e i h1 h2 h3 => by
          rcases Nat.lt_succ_iff_lt_or_eq.1 h3 with h | rfl
          · exact hgd.out i h1 h2 h
          · exact e
        generalize hm : xs[k] = m at *
        generalize hm' : ys[k] = m' at *
        clear hm hm' HB
        have hne := neqCell m m'
        obtain ⟨v, f, c⟩ := m
        obtain ⟨v', f', c'⟩ := m'
        simp only at hx0 hx1 hx2 hy0 hy1 hy2 hne
        by_cases he : (v, f, c) = (v', f', c')
        · have Hn := Lib.hid (Hnew.out he)
          rw [show decide ((v, f, c) = (v', f', c')) = true from decide_eq_true he] at hne
          clear he
          go_wp2
          go_quiet (fail)
          go_wp2
          go_roundw
          case rel => exact ⟨k + 1, hlt, by go_num, hch.out.drewN _, Hn.out⟩
          case measure => simp [intOf]; omega
        · obtain rfl : ans = false := Hbad.out he
          rw [show decide ((v, f, c) = (v', f', c')) = false from decide_eq_false he] at hne
          clear he
          go_wp2
          go_quiet (fail)
          go_wp2
          go_ret
          exact ⟨rfl, hch.out.drewN _⟩
      · obtain rfl : ans = true := HG.out (fun i h1 h2 => hgd.out i h1 h2 (by omega))
        go_wp2
        go_ret
        exact ⟨rfl, hch.out⟩
  · have hd : ((xs.length : Int) != (ys.length : Int)) = true := by simp; omega
    rw [show decide (xs = ys) = false from decide_eq_false (fun e => hl (by rw [e]))]
    clear hl
    go_enter Tryz.func14, Tryz.ntmps14
    go_wp2
    go_ret
    exact ⟨rfl, Chg.refl _ _⟩

def nd (a : List Tri × Bool) : Nat := if a.2 = true then 0 else 1
theorem stepA_cnt (s : Tri) (a : List Tri × Bool) (x : Tri) : (stepA s a x).1.length + nd (stepA s a x) ≤ a.1.length + nd a + 1 := by
  obtain ⟨o, d⟩ := a
  unfold stepA nd
  split
  · simp
  · split
    · rename_i h
      rw [h.1]
      simp
    · simp
      split <;> omega
theorem addS_len (l : List Tri) (s : Tri) : (addS l s).length ≤ l.length + 1 := by
  have h : ∀ (l : List Tri) (a : List Tri × Bool), (l.foldl (stepA s) a).1.length + nd (l.foldl (stepA s) a) ≤ a.1.length + nd a + l.length := by
    intro l
    induction l with
    | nil => intro a; exact Nat.le_refl _
    | cons x t ih =>
      intro a
      have h1 := ih (stepA s a x)
      have h2 := stepA_cnt s a x
      simp only [List.foldl_cons, List.length_cons]
      omega
  have := h l ([], false)
  unfold addS foldA
  simp only [List.length_nil, nd] at this
  split
  · rename_i hd
    rw [if_pos hd] at this
    simp at this
    omega
  · rename_i hd
    rw [if_neg hd] at this
    simp at this
    rw [List.length_append]
    simp
    omega
def addsS (l : List Tri) : List Tri := l.foldl addS []
theorem addsS_len (l : List Tri) : (addsS l).length ≤ l.length := by
  have h : ∀ (l o : List Tri), (l.foldl addS o).length ≤ o.length + l.length := by
    intro l
    induction l with
    | nil => intro o; simp
    | cons a t ih => intro o; have := ih (addS o a); have := addS_len o a; simp only [List.foldl_cons, List.length_cons]; omega
  have := h l []
  simpa [addsS] using this
theorem addsS_take {s : List Tri} {k : Nat} (hk : k < s.length) (p : List Tri) {o : List Tri} (h : addsS (p ++ s.take k) = o) : addsS (p ++ s.take (k + 1)) = addS o s[k] := by
  rw [List.take_succ_eq_append_getElem hk, ← List.append_assoc]
  unfold addsS at *
  rw [List.foldl_append, h]
  rfl

set_option maxRecDepth 100000 in
set_option maxHeartbeats 1000000 in
theorem refJoin_any {R : Nat → Prop} {w : World} {A B : Option Addr} {a b : List Tri} {ca cb : Nat} (ha : Tris R w A a ca) (hb : Tris R w B b cb) (hlen : a.length + b.length ≤ 100000) :
    Calls Tryz.prog 43 #[.slice A a.length ca, .slice B b.length cb] w fun e w' => ∃ A' cap', e = .returned (.slice A' (addsS (a ++ b)).length cap') ∧ OTris 50 (fun k => w.heap.size ≤ k) w' (.slice A' (addsS (a ++ b)).length cap') (addsS (a ++ b)) ∧ Chg No w w' := by
  have HA := Lib.hid (fun W (h : Chg No w W) => ha.no triE_good h)
  have HB := Lib.hid (fun W (h : Chg No w W) => hb.no triE_good h)
  clear ha hb
  have HADD : Hid (∀ (W : World) Ao n cap (o : List Tri) (m : Tri), n = o.length → o.length ≤ 100000 → TriOk m → Chg No w W → OTris 50 (fun j => w.heap.size ≤ j) W (.slice Ao n cap) o → Calls Tryz.prog 68 #[.slice Ao n cap, .agg #[.int .i64 m.1, .string m.2.1, .int .i64 m.2.2]] W fun e w' => ∃ A' n' cap', e = .returned (.slice A' n' cap') ∧ Hid (n' = (addS o m).length) ∧ OTris 50 (fun k => w.heap.size ≤ k) w' (.slice A' n' cap') (addS o m) ∧ Chg No w w') := fun W Ao n cap o m hn ho hm hc h => by
    subst hn
    refine (refAdd_any (OTris.tris h (by unfold big; omega)) m.1 m.2.1 m.2.2 hm ho).mono ?_
    rintro e w' ⟨A', cap', rfl, h1, h2⟩
    exact ⟨A', _, cap', rfl, rfl, h1.mono triV_good (fun q _ hq => Nat.le_trans hc.size hq) (fun _ _ f => f), hc.thenNo h2⟩
  go_enter Tryz.func43, Tryz.ntmps43
  go_wp2
  go_loopw [5, 6] (fun s5 s6 wr => ∃ (k n cap : Nat) (Ao : Option Addr) (o : List Tri), s6 = .int .i64 k ∧ s5 = .slice Ao n cap ∧ k ≤ a.length ∧ Hid (n = o.length) ∧ Hid (Chg No w wr) ∧ Hid (OTris 50 (fun j => w.heap.size ≤ j) wr (.slice Ao n cap) o) ∧ Hid (addsS (a.take k) = o)) (fun _ s6 _ => a.length - (intOf s6).toNat)
  case atStart => exact ⟨0, 0, 0, none, [], rfl, rfl, Nat.zero_le _, rfl, Chg.refl _ _, OwnL.nil _ _ _ _ _, rfl⟩
  case round =>
    obtain ⟨k, n, cap, Ao, o, rfl, rfl, hks, hn, hch, hown, hI⟩ := hrel
    by_cases hlt : k < a.length
    · obtain ⟨p, off, hA, c0, c1, c2⟩ := (HA.out wr hch.out).tri_at k hlt
      have HOK := Lib.hid ((HA.out wr hch.out).tri_ok k hlt)
      have HNX := Lib.hid (addsS_take hlt [] hI.out)
      have hlo : o.length ≤ 100000 := by have := addsS_len (a.take k); rw [hI.out, List.length_take] at this; omega
      have HAD := Lib.hid (HADD.out wr Ao n cap o a[k] hn.out hlo HOK.out hch.out hown.out)
      subst hA
      generalize a[k] = m at *
      obtain ⟨x, f, z⟩ := m
      dsimp only at c0 c1 c2 HAD
      clear hlo
      go_wp2_with (go_at_call 68; refine HAD.out.mono ?_; rintro e w2 ⟨A2, n2, cap2, rfl, g1, g2, g3⟩; have G2 := Lib.hid g2; have G3 := Lib.hid g3; clear g2 g3 c0 c1 c2)
      go_roundw
      case rel => exact ⟨k + 1, n2, cap2, A2, _, by go_num, rfl, hlt, g1, G3, G2, HNX⟩
      case measure => simp [intOf]; omega
    · have hk : k = a.length := by omega
      have HI : Hid (addsS (a ++ b.take 0) = o) := by have := hI.out; rw [hk, List.take_length] at this; simpa [Hid] using this
      clear hI hk
      go_wp2_with fail
      go_loopw [5, 7] (fun s5 s7 wr => ∃ (k n cap : Nat) (Ao : Option Addr) (o : List Tri), s7 = .int .i64 k ∧ s5 = .slice Ao n cap ∧ k ≤ b.length ∧ Hid (n = o.length) ∧ Hid (Chg No w wr) ∧ Hid (OTris 50 (fun j => w.heap.size ≤ j) wr (.slice Ao n cap) o) ∧ Hid (addsS (a ++ b.take k) = o)) (fun _ s7 _ => b.length - (intOf s7).toNat)
      case atStart => exact ⟨0, n, cap, Ao, o, rfl, rfl, Nat.zero_le _, hn, hch, hown, HI⟩
      case round =>
        clear hn hch hown HI hlt hks
        obtain ⟨k, n, cap, Ao, o, rfl, rfl, hks, hn, hch, hown, hI⟩ := hrel
        by_cases hlt : k < b.length
        · obtain ⟨p, off, hA, c0, c1, c2⟩ := (HB.out wr hch.out).tri_at k hlt
          have HOK := Lib.hid ((HB.out wr hch.out).tri_ok k hlt)
          have HNX := Lib.hid (addsS_take hlt a hI.out)
          have hlo : o.length ≤ 100000 := by have := addsS_len (a ++ b.take k); rw [hI.out, List.length_append, List.length_take] at this; omega
          have HAD := Lib.hid (HADD.out wr Ao n cap o b[k] hn.out hlo HOK.out hch.out hown.out)
          subst hA
          generalize b[k] = m at *
          obtain ⟨x, f, z⟩ := m
          dsimp only at c0 c1 c2 HAD
          clear hlo
          go_wp2_with (go_at_call 68; refine HAD.out.mono ?_; rintro e w2 ⟨A2, n2, cap2, rfl, g1, g2, g3⟩; have G2 := Lib.hid g2; have G3 := Lib.hid g3; clear g2 g3 c0 c1 c2)
          go_roundw
          case rel => exact ⟨k + 1, n2, cap2, A2, _, by go_num, rfl, hlt, g1, G3, G2, HNX⟩
          case measure => simp [intOf]; omega
        · have hk : k = b.length := by omega
          have HI : Hid (addsS (a ++ b) = o) := by have := hI.out; rwa [hk, List.take_length] at this
          go_wp2
          go_ret
          rw [HI.out]
          exact ⟨Ao, cap, congrArg (fun m => Ending.returned (.slice Ao m cap)) hn.out, by rw [← hn.out]; exact hown.out, hch.out⟩
end Go.Proofs.YtgofncopoieigaaGreatDoor
