/-
  Chapter 17: slices.BinarySearchFunc over cells, heap.at, heap.Get.
-/
import Derived.Test.YtgofncopoieigaaGreatDoorHpI
import Derived.Deep.LoopGhost
namespace Go.Proofs.YtgofncopoieigaaGreatDoor
open Go Go.RowKit

/-- Where k stands, or would stand. -/
def Bnd (l : List Tri) (k : Tri) (i : Nat) : Prop := i ≤ l.length ∧ (∀ t (h : t < l.length), t < i → ltT l[t] k = true) ∧ (∀ t (h : t < l.length), i ≤ t → ltT l[t] k = false)
def hasL (l : List Tri) (k : Tri) : Bool := l.any fun x => eqT x k
theorem Bnd.has {l : List Tri} {k : Tri} {i : Nat} (h : Bnd l k i) (hs : Strict l) : hasL l k = (if g : i < l.length then eqT l[i] k else false) := by
  rw [Bool.eq_iff_iff]
  unfold hasL
  rw [List.any_eq_true]
  constructor
  · rintro ⟨x, hx, he⟩
    obtain ⟨t, ht, rfl⟩ := List.getElem_of_mem hx
    have h1 : i ≤ t := by
      rcases Nat.lt_or_ge t i with g | g
      · have := ltT_ne (h.2.1 t ht g); rw [he] at this; cases this
      · exact g
    have h2 : t = i := by
      rcases Nat.lt_or_ge i t with g | g
      · have h3 := (List.pairwise_iff_getElem.1 hs) i t (by omega) ht g
        rw [eqT_lt' he, h.2.2 i (by omega) (Nat.le_refl _)] at h3
        cases h3
      · omega
    subst h2
    rw [dif_pos ht]
    exact he
  · intro g
    by_cases hi : i < l.length
    · rw [dif_pos hi] at g
      exact ⟨l[i], List.getElem_mem hi, g⟩
    · rw [dif_neg hi] at g; cases g

theorem enters_order : ∀ args w, (callFunc 39 args).run Tryz.prog w = .ok (.enter 39 args) w := enters_of Tryz.func39 (by kernel_rfl) rfl

set_option maxRecDepth 100000 in
set_option maxHeartbeats 8000000 in
theorem bsearch_any {R : Nat → Prop} {w : World} {A : Option Addr} {l : List Tri} {cap : Nat} (hl : Tris R w A l cap) (hst : Strict l) (kx : Int) (kf : ByteArray) (kz : Int) :
    Calls Tryz.prog 90 #[.slice A l.length cap, .agg #[.int .i64 kx, .string kf, .int .i64 kz], .func (.func 39) #[] #[]] w fun e w' => ∃ i : Nat, e = .returned (.tuple #[.int .i64 i, .bool (hasL l (kx, kf, kz))]) ∧ Bnd l (kx, kf, kz) i ∧ Chg No w w' := by
  have hb := hl.big
  unfold big at hb
  have HL := Lib.hid (fun W (h : Chg No w W) => hl.no triE_good h)
  have HST := Lib.hid hst
  have HOR := Lib.hid order_any
  have eg := enters_order
  clear hl hst
  go_enter Tryz.func90, Tryz.ntmps90
  go_wp2_with fail
  obtain ⟨wA, hwA⟩ : ∃ wA, wA = w.alloc (.cells #[.int .i64 kx, .string kf, .int .i64 kz] 67) := ⟨_, rfl⟩
  obtain ⟨q, hq⟩ : ∃ q, q = w.heap.size := ⟨_, rfl⟩
  have hob : Hid (wA.heap[q]? = some (.cells #[.int .i64 kx, .string kf, .int .i64 kz] 67 (0, 0))) := by rw [hwA, hq]; exact heap_alloc_new _ _
  have HA : Hid (Chg No w wA) := by rw [hwA]; exact (Chg.refl _ _).alloc _
  rw [← hwA, ← hq]
  clear hwA hq
  go_loopw [9, 10] (fun s9 s10 wr => ∃ lo hi : Nat, s9 = .int .i64 lo ∧ s10 = .int .i64 hi ∧ lo ≤ hi ∧ hi ≤ l.length ∧ Hid (Chg No wA wr) ∧ Hid ((∀ t (h : t < l.length), t < lo → ltT l[t] (kx, kf, kz) = true) ∧ (∀ t (h : t < l.length), hi ≤ t → ltT l[t] (kx, kf, kz) = false))) (fun s9 s10 _ => (intOf s10).toNat - (intOf s9).toNat)
  case atStart => exact ⟨0, l.length, rfl, rfl, Nat.zero_le _, Nat.le_refl _, Chg.refl _ _, fun t _ h => absurd h (Nat.not_lt_zero t), fun t h1 h2 => absurd h1 (by omega)⟩
  case round =>
    obtain ⟨lo, hi, rfl, rfl, hlh, hin, hch, hI⟩ := hrel
    obtain ⟨n0, n1, n2⟩ := obj3 (hch.out.obj hob.out id)
    by_cases hlt : lo < hi
    · have hm : (lo + hi) / 2 < l.length := by omega
      obtain ⟨b, off, hA, c0, c1, c2⟩ := (HL.out wr (HA.out.thenNo hch.out)).tri_at ((lo + hi) / 2) hm
      have HUP : Hid (ltT l[(lo + hi) / 2] (kx, kf, kz) = true → ∀ t (h : t < l.length), t < (lo + hi) / 2 + 1 → ltT l[t] (kx, kf, kz) = true) := fun h t ht g => by
        rcases Nat.lt_or_ge t ((lo + hi) / 2) with g1 | g1
        · exact ltT_trans ((List.pairwise_iff_getElem.1 HST.out) t _ ht hm g1) h
        · obtain rfl : t = (lo + hi) / 2 := by omega
          exact h
      have HDN : Hid (ltT l[(lo + hi) / 2] (kx, kf, kz) = false → ∀ t (h : t < l.length), (lo + hi) / 2 ≤ t → ltT l[t] (kx, kf, kz) = false) := fun h t ht g => by
        rcases Nat.lt_or_ge ((lo + hi) / 2) t with g1 | g1
        · cases h2 : ltT l[t] (kx, kf, kz)
          · rfl
          · rw [ltT_trans ((List.pairwise_iff_getElem.1 HST.out) _ t hm ht g1) h2] at h; cases h
        · obtain rfl : t = (lo + hi) / 2 := by omega
          exact h
      subst hA
      generalize l[(lo + hi) / 2] = m at *
      obtain ⟨x, f, z⟩ := m
      dsimp only at c0 c1 c2
      go_upto_region 5 with fail
      have N0 : ∀ d os, (later wr d os).cell? ⟨q, 0, none⟩ = some (.int .i64 kx) := fun d os => cell_later n0 d os
      have N1 : ∀ d os, (later wr d os).cell? ⟨q, 1, none⟩ = some (.string kf) := fun d os => cell_later n1 d os
      have N2 : ∀ d os, (later wr d os).cell? ⟨q, 2, none⟩ = some (.int .i64 kz) := fun d os => cell_later n2 d os
      have C0 : ∀ d os, (later wr d os).cell? ⟨b, off + (lo + hi) / 2 * 3, none⟩ = some (.int .i64 x) := fun d os => cell_later c0 d os
      have C1 : ∀ d os, (later wr d os).cell? ⟨b, off + (lo + hi) / 2 * 3 + 1, none⟩ = some (.string f) := fun d os => cell_later c1 d os
      have C2 : ∀ d os, (later wr d os).cell? ⟨b, off + (lo + hi) / 2 * 3 + 2, none⟩ = some (.int .i64 z) := fun d os => cell_later c2 d os
      clear n0 n1 n2 c0 c1 c2
      have HCO : Hid (∀ d os, _) := fun d os => Calls.later_of (HOR.out (x, f, z) (kx, kf, kz) (later wr d os))
      dsimp only at HCO
      cases hlt2 : ltT (x, f, z) (kx, kf, kz)
      · have hge : ¬ ordK x f kx kf < 0 := fun h => by
          have := ordK_neg.1 h
          rw [show ltT (x, f, z) (kx, kf, kz) = ltK x f kx kf from rfl, this] at hlt2; cases hlt2
        have HD := Lib.hid (HDN.out hlt2)
        generalize ordK x f kx kf = r at *
        have hdr : decide (r < 0) = false := decide_eq_false hge
        clear HUP HDN hlt2 hge
        refine wp_region_later (by kernel_rfl) (by kernel_rfl) ?_
        repeat (go_big_quiet_step ((first | (go_at_call 39; exact HCO.out _ _) | exact HCO.out _ _)))
        refine wpQuiet_nil ?_
        intro _ hw'
        obtain ⟨⟨dq, osq⟩, hw''⟩ := hw'
        subst hw''
        go_wp2_with fail
        go_roundw
        case rel => exact ⟨lo, (lo + hi) / 2, rfl, by rw [show ((lo : Int) + (hi : Int)) / 2 = (((lo + hi) / 2 : Nat) : Int) by omega], by omega, by omega, hch.out.thenNo (chg_later wr dq osq), hI.out.1, HD.out⟩
        case measure => simp [intOf]; omega
      · have hge : ordK x f kx kf < 0 := ordK_neg.2 hlt2
        have HU := Lib.hid (HUP.out hlt2)
        generalize ordK x f kx kf = r at *
        have hdr : decide (r < 0) = true := decide_eq_true hge
        clear HUP HDN hlt2 hge
        refine wp_region_later (by kernel_rfl) (by kernel_rfl) ?_
        repeat (go_big_quiet_step ((first | (go_at_call 39; exact HCO.out _ _) | exact HCO.out _ _)))
        refine wpQuiet_nil ?_
        intro _ hw'
        obtain ⟨⟨dq, osq⟩, hw''⟩ := hw'
        subst hw''
        go_wp2_with fail
        go_roundw
        case rel => exact ⟨(lo + hi) / 2 + 1, hi, by rw [show ((lo : Int) + (hi : Int)) / 2 + 1 = (((lo + hi) / 2 + 1 : Nat) : Int) by omega], rfl, by omega, hin, hch.out.thenNo (chg_later wr dq osq), HU.out, hI.out.2⟩
        case measure => simp [intOf]; omega
    · obtain rfl : lo = hi := by omega
      have HB : Hid (Bnd l (kx, kf, kz) lo) := ⟨hin, hI.out.1, hI.out.2⟩
      have hHas := HB.out.has HST.out
      clear hlt
      by_cases hn : lo < l.length
      · obtain ⟨b, off, hA, c0, c1, c2⟩ := (HL.out wr (HA.out.thenNo hch.out)).tri_at lo hn
        rw [dif_pos hn] at hHas
        subst hA
        generalize l[lo] = m at *
        obtain ⟨x, f, z⟩ := m
        dsimp only at c0 c1 c2
        go_upto_region 8 with fail
        have N0 : ∀ d os, (later wr d os).cell? ⟨q, 0, none⟩ = some (.int .i64 kx) := fun d os => cell_later n0 d os
        have N1 : ∀ d os, (later wr d os).cell? ⟨q, 1, none⟩ = some (.string kf) := fun d os => cell_later n1 d os
        have N2 : ∀ d os, (later wr d os).cell? ⟨q, 2, none⟩ = some (.int .i64 kz) := fun d os => cell_later n2 d os
        have C0 : ∀ d os, (later wr d os).cell? ⟨b, off + lo * 3, none⟩ = some (.int .i64 x) := fun d os => cell_later c0 d os
        have C1 : ∀ d os, (later wr d os).cell? ⟨b, off + lo * 3 + 1, none⟩ = some (.string f) := fun d os => cell_later c1 d os
        have C2 : ∀ d os, (later wr d os).cell? ⟨b, off + lo * 3 + 2, none⟩ = some (.int .i64 z) := fun d os => cell_later c2 d os
        clear n0 n1 n2 c0 c1 c2
        have hdn : decide ((lo : Int) < (l.length : Int)) = true := decide_eq_true (by omega)
        have HCO : Hid (∀ d os, _) := fun d os => Calls.later_of (HOR.out (x, f, z) (kx, kf, kz) (later wr d os))
        dsimp only at HCO
        have HZ : Hid (∀ v : Bool, v = hasL l (kx, kf, kz) → Value.bool v = .bool (hasL l (kx, kf, kz))) := fun v h => by rw [h]
        have hrb : (ordK x f kx kf == 0) = hasL l (kx, kf, kz) := by
          rw [hHas, Bool.eq_iff_iff, beq_iff_eq]
          exact ordK_zero
        obtain ⟨ans, hans⟩ : ∃ ans, ans = hasL l (kx, kf, kz) := ⟨_, rfl⟩
        rw [← hans] at hrb
        have HAN := Lib.hid hans
        clear hans
        generalize ordK x f kx kf = r at *
        clear hHas
        refine wp_region_later (by kernel_rfl) (by kernel_rfl) ?_
        repeat (go_big_quiet_step ((first | (go_at_call 39; exact HCO.out _ _) | exact HCO.out _ _)))
        refine wpQuiet_nil ?_
        intro _ hw'
        obtain ⟨⟨dq, osq⟩, hw''⟩ := hw'
        subst hw''
        go_wp2_with fail
        go_ret2
        exact ⟨lo, by rw [← HAN.out]; rfl, HB.out, HA.out.thenNo (hch.out.thenNo (chg_later wr dq osq))⟩
      · rw [dif_neg hn] at hHas
        have hdn : decide ((lo : Int) < (l.length : Int)) = false := decide_eq_false (by omega)
        have HH := Lib.hid hHas
        clear hHas
        go_wp2_with fail
        go_quiet (fail)
        go_wp2_with fail
        go_ret2
        exact ⟨lo, by rw [HH.out]; rfl, HB.out, HA.out.thenNo (hch.out.drewN _)⟩
end Go.Proofs.YtgofncopoieigaaGreatDoor
