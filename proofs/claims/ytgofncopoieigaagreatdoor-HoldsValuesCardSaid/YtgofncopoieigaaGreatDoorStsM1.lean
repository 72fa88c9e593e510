/-
  The walks of Go's stable sort at elements of so many cells: swapRangeCmpFunc, rotateCmpFunc.
-/
import Derived.Test.YtgofncopoieigaaGreatDoorProg
import Derived.Test.YtgofncopoieigaaGreatDoorStb
import Derived.Shelf.SlSortCmp.KitK
import Derived.Deep.LoopGhost
import Derived.WalkKit
import Derived.Lib.Hide
import Derived.WalkSpells
import Derived.WalkLawsBesides
namespace Go.Proofs.YtgofncopoieigaaGreatDoor
open Go Go.RowKit Go.Lib Go.Sort Go.Proofs

/-- What the walks of the sort ask of a program: its bodies, its types; an element has k cells. -/
structure StbM (P : Program) (k : Nat) : Prop where
  mixed : P.follows .mixedOrders = true
  fr : P.funcs[132]? = some Tryz.f132
  fo : P.funcs[130]? = some Tryz.f130
  fi : P.funcs[118]? = some Tryz.f118
  fm : P.funcs[119]? = some Tryz.f119
  fs : P.funcs[92]? = some Tryz.f92
  ft : P.funcs[57]? = some Tryz.f57
  t0 : P.underlying 0 = some (TypeDesc.tuple #[])
  a0 : ∀ w, (isAgg 0).run P w = .ok false w
  z0 : ∀ w, (Go.sizeOf 0).run P w = .ok 1 w
  v0 : ∀ w, (zeroValue 0).run P w = .ok (Value.tuple #[]) w
  t3 : P.underlying 3 = some (TypeDesc.int IntKind.i64)
  a3 : ∀ w, (isAgg 3).run P w = .ok false w
  z3 : ∀ w, (Go.sizeOf 3).run P w = .ok 1 w
  v3 : ∀ w, (zeroValue 3).run P w = .ok (Value.int IntKind.i64 0) w
  t4 : P.underlying 4 = some (TypeDesc.bool)
  a4 : ∀ w, (isAgg 4).run P w = .ok false w
  z4 : ∀ w, (Go.sizeOf 4).run P w = .ok 1 w
  v4 : ∀ w, (zeroValue 4).run P w = .ok (Value.bool false) w
  t5 : P.underlying 149 = some (TypeDesc.int IntKind.u64)
  a5 : ∀ w, (isAgg 149).run P w = .ok false w
  z5 : ∀ w, (Go.sizeOf 149).run P w = .ok 1 w
  v5 : ∀ w, (zeroValue 149).run P w = .ok (Value.int IntKind.u64 0) w
  t22 : P.underlying 35 = some (TypeDesc.slice 50)
  a22 : ∀ w, (isAgg 35).run P w = .ok false w
  z22 : ∀ w, (Go.sizeOf 35).run P w = .ok 1 w
  v22 : ∀ w, (zeroValue 35).run P w = .ok (Value.slice none 0 0) w
  t25 : P.underlying 118 = some (TypeDesc.func #[50, 50] #[3] false)
  a25 : ∀ w, (isAgg 118).run P w = .ok false w
  z25 : ∀ w, (Go.sizeOf 118).run P w = .ok 1 w
  v25 : ∀ w, (zeroValue 118).run P w = .ok (Value.nilFunc) w
  ae : ∀ w, (isAgg 50).run P w = .ok true w
  ze : ∀ w, (Go.sizeOf 50).run P w = .ok k w

theorem stbM : StbM Tryz.prog 3 where
  mixed := by kernel_rfl
  fr := Tryz.func132
  fo := Tryz.func130
  fi := Tryz.func118
  fm := Tryz.func119
  fs := Tryz.func92
  ft := Tryz.func57
  t0 := Tryz.underlying0
  a0 := Tryz.isAgg0
  z0 := Tryz.sizeOf0
  v0 := Tryz.zeroValue0
  t3 := Tryz.underlying3
  a3 := Tryz.isAgg3
  z3 := Tryz.sizeOf3
  v3 := Tryz.zeroValue3
  t4 := Tryz.underlying4
  a4 := Tryz.isAgg4
  z4 := Tryz.sizeOf4
  v4 := Tryz.zeroValue4
  t5 := Tryz.underlying149
  a5 := Tryz.isAgg149
  z5 := Tryz.sizeOf149
  v5 := Tryz.zeroValue149
  t22 := Tryz.underlying35
  a22 := Tryz.isAgg35
  z22 := Tryz.sizeOf35
  v22 := Tryz.zeroValue35
  t25 := Tryz.underlying118
  a25 := Tryz.isAgg118
  z25 := Tryz.sizeOf118
  v25 := Tryz.zeroValue118
  ae := Tryz.isAgg50
  ze := Tryz.sizeOf50

variable {P : Program} {k : Nat} {α : Type} [Inhabited α]

set_option maxHeartbeats 4000000 in
set_option maxRecDepth 1000000 in
theorem swapRangeM (L : StbM P k) {enc : α → List Value} {g : Nat} {cb : Array Value} {blk off cap a b n : Nat} {d0 d : Array α} {w0 w : World}
    (R : RowK enc k w0 blk off d0) (hs : d.size = d0.size) (S : SWK enc k w0 blk off d w) (hab : a + n ≤ b) (hb : b + n ≤ d.size) (hsz : d.size < 4611686018427387904) :
    Calls P 132 #[.slice (some ⟨blk, off, none⟩) d.size cap, .int .i64 a, .int .i64 b, .int .i64 n, .func (.func g) #[] cb] w fun e w' => e = .returned (.tuple #[]) ∧ ∃ d', SwR a b n d d' ∧ SWK enc k w0 blk off d' w' := by
  have S0 : Aside (SWK enc k w0 blk off d w) := S
  have mixed := L.mixed; have t0 := L.t0; have a0 := L.a0; have z0 := L.z0; have v0 := L.v0; have t3 := L.t3; have a3 := L.a3; have z3 := L.z3; have v3 := L.v3; have t4 := L.t4; have a4 := L.a4; have z4 := L.z4; have v4 := L.v4; have t5 := L.t5; have a5 := L.a5; have z5 := L.z5; have v5 := L.v5; have t22 := L.t22; have a22 := L.a22; have z22 := L.z22; have v22 := L.v22; have t25 := L.t25; have a25 := L.a25; have z25 := L.z25; have v25 := L.v25; have ae := L.ae; have ze := L.ze
  have FG := L.fr
  clear L
  have HR : Aside (RowK enc k w0 blk off d0) := R
  have HS : Hid (d.size = d0.size) := hs
  clear S R hs
  go_enter FG, Tryz.ntmps132
  go_wp2
  go_loopw [10] (fun s wr => ∃ (i : Nat) (dk : Array α), s = .int .i64 i ∧ i ≤ n ∧ Hid (SwR a b i d dk) ∧ Aside (SWK enc k w0 blk off dk wr)) (fun s _ => n - (intOf s).toNat)
  case atStart => exact ⟨0, d, rfl, Nat.zero_le _, SwR.zero _ _ _, S0⟩
  case round =>
    clear S0
    obtain ⟨i, dk, rfl, hin, HW, S1⟩ := hrel
    by_cases hlt : i < n
    · have hds : Hid (dk.size = d.size) := HW.out.size
      have hd0 : dk.size = d0.size := hds.out.trans HS.out
      have HD0 := Lib.hid hd0
      clear hd0
      have wa : IntKind.i64.wrap ((a : Int) + (i : Int)) = ((a + i : Nat) : Int) := by rw [IntKind.wrap_i64]; omega
      have wb : IntKind.i64.wrap ((b : Int) + (i : Int)) = ((b + i : Nat) : Int) := by rw [IntKind.wrap_i64]; omega
      have hda : a + i < dk.size := by rw [hds.out]; omega
      have hdb : b + i < dk.size := by rw [hds.out]; omega
      have pa : (0 : Int) ≤ ((a + i : Nat) : Int) := by omega
      have pb : (0 : Int) ≤ ((b + i : Nat) : Int) := by omega
      have ba : ((a + i : Nat) : Int) < (d.size : Int) := by omega
      have bb : ((b + i : Nat) : Int) < (d.size : Int) := by omega
      have ea : (((a + i : Nat) : Int)).toNat = a + i := by omega
      have eb : (((b + i : Nat) : Int)).toNat = b + i := by omega
      have S2 : Aside (SWK enc k w0 blk off (swp dk (a + i) (b + i)) ((wr.drew.setCells blk (off + (a + i) * k) (enc dk[b + i]!)).setCells blk (off + (b + i) * k) (enc dk[a + i]!))) := S1.out.swapped HR.out (a + i) (b + i) hda hdb
      have la := S1.out.ld1 HR.out HD0.out P (a + i) hda
      have lb := S1.out.ld1 HR.out HD0.out P (b + i) hdb
      have sa := S1.out.st1 HR.out HD0.out P (a + i) hda dk[b + i]!
      have sb := S1.out.st2 HR.out HD0.out P (a + i) (b + i) hda hdb dk[b + i]! dk[a + i]!
      have na : (enc dk[a + i]!).length = k := HR.out.hk _
      have nb : (enc dk[b + i]!).length = k := HR.out.hk _
      generalize enc dk[a + i]! = cI at S2 la sb na
      generalize enc dk[b + i]! = cJ at S2 lb sa sb nb
      have HN : Hid (SwR a b (i + 1) d (swp dk (a + i) (b + i))) := HW.out.succ (by omega) (by omega)
      generalize a + i = ai at *
      generalize b + i = bi at *
      have hnd : n < 4611686018427387904 := by omega
      clear S1 hda hdb HW hab hb
      go_wp2_with fail
      go_big_region_o
      all_goals go_wp2
      all_goals go_roundw
      case rel => exact ⟨i + 1, _, by go_num, hlt, HN, S2⟩
      case measure => simp [intOf]; omega
    · obtain rfl : i = n := by omega
      go_wp2
      go_end0
      exact ⟨rfl, dk, HW.out, S1.out⟩
set_option maxHeartbeats 4000000 in
set_option maxRecDepth 1000000 in
theorem rotateM (L : StbM P k) {enc : α → List Value} {g : Nat} {cb : Array Value} {blk off cap a m b : Nat} {d0 d : Array α} {w0 w : World}
    (R : RowK enc k w0 blk off d0) (hs : d.size = d0.size) (S : SWK enc k w0 blk off d w) (ham : a < m) (hmb : m < b) (hb : b ≤ d.size) (hsz : d.size < 4611686018427387904) :
    Calls P 130 #[.slice (some ⟨blk, off, none⟩) d.size cap, .int .i64 a, .int .i64 m, .int .i64 b, .func (.func g) #[] cb] w fun e w' => e = .returned (.tuple #[]) ∧ ∃ d', Rot a m b d d' ∧ SWK enc k w0 blk off d' w' := by
  have S0 : Aside (SWK enc k w0 blk off d w) := S
  have HC : Aside (∀ (x y n : Nat) (dk : Array α) (W : World), dk.size = d.size → SWK enc k w0 blk off dk W → x + n ≤ y → y + n ≤ d.size →
      Calls P 132 #[.slice (some ⟨blk, off, none⟩) d.size cap, .int .i64 x, .int .i64 y, .int .i64 n, .func (.func g) #[] cb] W fun e w' => e = .returned (.tuple #[]) ∧ ∃ d', SwR x y n dk d' ∧ SWK enc k w0 blk off d' w') :=
    fun x y n dk W h1 h2 h3 h4 => by
      have := swapRangeM L (g := g) (cb := cb) (cap := cap) (a := x) (b := y) (n := n) R (h1.trans hs) h2 h3 (by omega) (by omega)
      rw [h1] at this
      exact this
  have mixed := L.mixed; have t0 := L.t0; have a0 := L.a0; have z0 := L.z0; have v0 := L.v0; have t3 := L.t3; have a3 := L.a3; have z3 := L.z3; have v3 := L.v3; have t4 := L.t4; have a4 := L.a4; have z4 := L.z4; have v4 := L.v4; have t5 := L.t5; have a5 := L.a5; have z5 := L.z5; have v5 := L.v5; have t22 := L.t22; have a22 := L.a22; have z22 := L.z22; have v22 := L.v22; have t25 := L.t25; have a25 := L.a25; have z25 := L.z25; have v25 := L.v25; have ae := L.ae; have ze := L.ze
  have FG := L.fo
  have e44 : ∀ args w, (callFunc 132 args).run P w = .ok (.enter 132 args) w := enters_of L.fr (by kernel_rfl) rfl
  clear L S R hs
  go_enter FG, Tryz.ntmps130
  go_wp2
  go_loopw [10, 11] (fun s t wr => ∃ (i j : Nat) (dk : Array α), s = .int .i64 i ∧ t = .int .i64 j ∧ Hid (RotI a m b i j d dk) ∧ Aside (SWK enc k w0 blk off dk wr) ∧ 1 ≤ i ∧ 1 ≤ j ∧ i ≤ m - a ∧ j ≤ b - m) (fun s t _ => (intOf s).toNat + (intOf t).toNat)
  case atStart => exact ⟨m - a, b - m, d, by go_num, by go_num, RotI.start ham hmb, S0, by omega, by omega, Nat.le_refl _, Nat.le_refl _⟩
  case round =>
    clear S0
    obtain ⟨i, j, dk, rfl, rfl, HI, S1, hi1, hj1, hil, hjl⟩ := hrel
    by_cases hij : i = j
    · subst hij
      have hd : ((i : Int) != (i : Int)) = false := by simp
      have hw1 : IntKind.i64.wrap ((m : Int) - (i : Int)) = ((m - i : Nat) : Int) := by rw [IntKind.wrap_i64]; omega
      have hc := HC.out (m - i) m i dk wr HI.out.size S1.out (by omega) (by omega)
      have hf : Hid (∀ d', SwR (m - i) m i dk d' → Rot a m b d d') := fun d' h => HI.out.done (by omega) hb (by omega) h
      generalize hmi : m - i = mi at *
      clear hmi HI hil hjl hi1 hj1
      go_wp2_with (go_at_call 132; refine hc.mono ?_; rintro e w' ⟨rfl, d', h1, h2⟩)
      go_end0
      exact ⟨rfl, d', hf.out d' h1, h2⟩
    · have hd : ((i : Int) != (j : Int)) = true := by simp; omega
      by_cases hlt : j < i
      · have hg : decide ((j : Int) < (i : Int)) = true := decide_eq_true (by omega)
        have hw1 : IntKind.i64.wrap ((m : Int) - (i : Int)) = ((m - i : Nat) : Int) := by rw [IntKind.wrap_i64]; omega
        have hw2 : IntKind.i64.wrap ((i : Int) - (j : Int)) = ((i - j : Nat) : Int) := by rw [IntKind.wrap_i64]; omega
        have hc := HC.out (m - i) m j dk wr HI.out.size S1.out (by omega) (by omega)
        have hf : Hid (∀ d', SwR (m - i) m j dk d' → RotI a m b (i - j) j d d') := fun d' h => HI.out.left hlt (by omega) hb (by omega) h
        have hmeas : Hid (1 ≤ i - j ∧ i - j ≤ m - a ∧ i - j + j < i + j) := by unfold Hid; omega
        generalize hmi : m - i = mi at *
        generalize hij : i - j = ij at *
        clear hmi hij HI hil
        go_wp2_with (go_at_call 132; refine hc.mono ?_; rintro e w' ⟨rfl, d', h1, h2⟩)
        go_roundw
        case rel => exact ⟨ij, j, d', by go_num, rfl, hf.out d' h1, h2, hmeas.out.1, hj1, hmeas.out.2.1, hjl⟩
        case measure => have := hmeas.out.2.2; simp [intOf]; omega
      · have hg : decide ((j : Int) < (i : Int)) = false := decide_eq_false (by omega)
        have hw1 : IntKind.i64.wrap ((m : Int) - (i : Int)) = ((m - i : Nat) : Int) := by rw [IntKind.wrap_i64]; omega
        have hw3 : IntKind.i64.wrap ((m : Int) + (j : Int)) = ((m + j : Nat) : Int) := by rw [IntKind.wrap_i64]; omega
        have hw4 : IntKind.i64.wrap (((m + j : Nat) : Int) - (i : Int)) = ((m + j - i : Nat) : Int) := by rw [IntKind.wrap_i64]; omega
        have hw2 : IntKind.i64.wrap ((j : Int) - (i : Int)) = ((j - i : Nat) : Int) := by rw [IntKind.wrap_i64]; omega
        have hc := HC.out (m - i) (m + j - i) i dk wr HI.out.size S1.out (by omega) (by omega)
        have hf : Hid (∀ d', SwR (m - i) (m + j - i) i dk d' → RotI a m b i (j - i) d d') := fun d' h => HI.out.right (by omega) (by omega) hb (by omega) h
        have hmeas : Hid (1 ≤ j - i ∧ j - i ≤ b - m ∧ i + (j - i) < i + j) := by unfold Hid; omega
        generalize hmi : m - i = mi at *
        generalize hmj : m + j - i = mj at *
        generalize hmk : m + j = mk at *
        generalize hji : j - i = ji at *
        clear hmi hmj hmk hji HI hjl
        go_wp2_with (go_at_call 132; refine hc.mono ?_; rintro e w' ⟨rfl, d', h1, h2⟩)
        go_roundw
        case rel => exact ⟨i, ji, d', rfl, by go_num, hf.out d' h1, h2, hi1, hmeas.out.1, hil, hmeas.out.2.1⟩
        case measure => have := hmeas.out.2.2; simp [intOf]; omega
end Go.Proofs.YtgofncopoieigaaGreatDoor
