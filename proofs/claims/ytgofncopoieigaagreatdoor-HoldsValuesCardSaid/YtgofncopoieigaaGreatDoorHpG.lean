/-
  Chapter 17: trammelref17.add, Join, SameShares walked.
-/
import Derived.Test.YtgofncopoieigaaGreatDoorHpF
import Derived.Deep.RegionHeldLaw
namespace Go.Proofs.YtgofncopoieigaaGreatDoor
open Go Go.RowKit

def stepA (s : Tri) (acc : List Tri × Bool) (x : Tri) : List Tri × Bool :=
  if eqT x s = true then (acc.1 ++ [(s.1, s.2.1, addN x.2.2 s.2.2)], true)
  else if acc.2 = false ∧ ltT s x = true then (acc.1 ++ [s] ++ [x], true)
  else (acc.1 ++ [x], acc.2)
def foldA (s : Tri) (l : List Tri) : List Tri × Bool := l.foldl (stepA s) ([], false)
def addS (l : List Tri) (s : Tri) : List Tri := if (foldA s l).2 = true then (foldA s l).1 else (foldA s l).1 ++ [s]
theorem foldA_take {s : Tri} {l : List Tri} {k : Nat} (hk : k < l.length) {r : List Tri × Bool} (h : foldA s (l.take k) = r) : foldA s (l.take (k + 1)) = stepA s r l[k] := by
  rw [List.take_succ_eq_append_getElem hk]
  unfold foldA at *
  rw [List.foldl_append, h]
  rfl
theorem stepA_len (s : Tri) (a : List Tri × Bool) (x : Tri) : (stepA s a x).1.length ≤ a.1.length + 2 := by
  unfold stepA
  split
  · simp
  · split
    · simp
    · simp
theorem foldA_len (s : Tri) : ∀ l : List Tri, (foldA s l).1.length ≤ 2 * l.length := by
  have h : ∀ (l : List Tri) (a : List Tri × Bool), (l.foldl (stepA s) a).1.length ≤ a.1.length + 2 * l.length := by
    intro l
    induction l with
    | nil => intro a; simp
    | cons x t ih => intro a; have := ih (stepA s a x); have := stepA_len s a x; simp only [List.foldl_cons, List.length_cons]; omega
  intro l
  have := h l ([], false)
  simpa [foldA] using this

set_option maxRecDepth 100000 in
set_option maxHeartbeats 8000000 in
theorem refAdd_any {R : Nat → Prop} {w : World} {A : Option Addr} {l : List Tri} {cap : Nat} (hl : Tris R w A l cap) (x : Int) (f : ByteArray) (z : Int) (hs : TriOk (x, f, z)) (hlen : l.length ≤ 100000) :
    Calls Tryz.prog 68 #[.slice A l.length cap, .agg #[.int .i64 x, .string f, .int .i64 z]] w fun e w' => ∃ A' cap', e = .returned (.slice A' (addS l (x, f, z)).length cap') ∧ OTris 50 (fun k => w.heap.size ≤ k) w' (.slice A' (addS l (x, f, z)).length cap') (addS l (x, f, z)) ∧ Chg No w w' := by
  have HL := Lib.hid (fun W (h : Chg No w W) => hl.no triE_good h)
  have HOK := Lib.hid hs
  have HB := Lib.hid below_any
  clear hl hs
  go_enter Tryz.func68, Tryz.ntmps68
  go_upto_region 4 with fail
  obtain ⟨wA, hwA⟩ : ∃ wA, wA = w.alloc (.cells #[.int .i64 x, .string f, .int .i64 z] 50) := ⟨_, rfl⟩
  obtain ⟨q, hq⟩ : ∃ q, q = w.heap.size := ⟨_, rfl⟩
  have hob : Hid (wA.heap[q]? = some (.cells #[.int .i64 x, .string f, .int .i64 z] 50 (0, 0))) := by rw [hwA, hq]; exact heap_alloc_new _ _
  have HA : Hid (Chg No w wA) := by rw [hwA]; exact (Chg.refl _ _).alloc _
  rw [← hwA, ← hq]
  clear hwA hq
  go_loopw [5, 6, 7] (fun s5 s6 s7 wr => ∃ (k n cap : Nat) (Ao : Option Addr) (o : List Tri) (d : Bool), s7 = .int .i64 k ∧ s6 = .bool d ∧ s5 = .slice Ao n cap ∧ k ≤ l.length ∧ Hid (n = o.length) ∧ Hid (Chg No wA wr) ∧ Hid (OTris 50 (fun j => wA.heap.size ≤ j) wr (.slice Ao n cap) o) ∧ Hid (foldA (x, f, z) (l.take k) = (o, d))) (fun _ _ s7 _ => l.length - (intOf s7).toNat)
  case atStart => exact ⟨0, 0, 0, none, [], false, rfl, rfl, rfl, Nat.zero_le _, rfl, Chg.refl _ _, OwnL.nil _ _ _ _ _, rfl⟩
  case round =>
    obtain ⟨k, n, cap, Ao, o, d, rfl, rfl, rfl, hks, hn, H1, H2, hI⟩ := hrel
    obtain ⟨n0, n1, n2⟩ := obj3 (H1.out.obj hob.out id)
    have HOL : Hid (o.length ≤ 200000) := by
      have h1 := foldA_len (x, f, z) (l.take k)
      rw [hI.out, List.length_take] at h1
      simp only at h1
      unfold Hid
      omega
    have HLB : Hid ((o.length + 1) * 32 ≤ 140737488355328) := by have := HOL.out; unfold Hid; omega
    have HLB2 : Hid (((o ++ [(x, f, z)]).length + 1) * 32 ≤ 140737488355328) := by have := HOL.out; unfold Hid; simp; omega
    have HMM : Hid (∀ d j, (wr.drewN d).heap.size ≤ j → wA.heap.size ≤ j) := fun d j hj => Nat.le_trans H1.out.size hj
    by_cases hlt : k < l.length
    · obtain ⟨b, off, hA, c0, c1, c2⟩ := (HL.out wr (HA.out.thenNo H1.out)).tri_at k hlt
      have HMO := Lib.hid ((HL.out wr (HA.out.thenNo H1.out)).tri_ok k hlt)
      have HNX := Lib.hid (foldA_take hlt hI.out)
      have HBL : Hid (b < wA.heap.size) := by
        obtain ⟨b', o', e, d0, _⟩ := (HL.out w (Chg.refl _ _)).tri_at k hlt
        rw [hA] at e
        simp only [Option.some.injEq, Addr.mk.injEq, and_true] at e
        have := cell_lt d0
        have := HA.out.size
        unfold Hid
        omega
      subst hA
      generalize l[k] = m at *
      obtain ⟨x', f', z'⟩ := m
      dsimp only at c0 c1 c2
      have HQ : Hid (q < wA.heap.size) := (Array.getElem?_eq_some_iff.1 hob.out).1
      by_cases heq : x' = x ∧ (f'.toList == f.toList) = true
      · obtain ⟨hx, hf⟩ := heq
        have hdx : (x' == x) = true := by simpa using hx
        have HR : Hid (foldA (x, f, z) (l.take (k + 1)) = (o ++ [(x, f, addN z' z)], true)) := HNX.out.trans (by unfold stepA; rw [if_pos (show eqT (x', f', z') (x, f, z) = true by show eqK x' f' x f = true; unfold eqK; rw [hf]; simp [hx])])
        have hw : IntKind.i64.wrap (z' + z) = addN z' z := by rw [IntKind.wrap_i64]; unfold addN wrap64; omega
        have HZ := Lib.hid (addN_ok z' z)
        generalize addN z' z = zz at *
        clear hx HNX
        have HCH : Hid (∀ d, Chg No wA (wr.drewN d)) := fun d => H1.out.drewN d
        have HOW : Hid (∀ d, OTris 50 (fun j => wA.heap.size ≤ j) (wr.drewN d) (.slice Ao n cap) o) := fun d => H2.out.no triV_good ((Chg.refl _ _).drewN d)
        have HE : Hid (∀ d, (wr.drewN d).cell? ⟨q, 0, none⟩ = some (.int .i64 x) ∧ (wr.drewN d).cell? ⟨q, 1, none⟩ = some (.string f) ∧ (wr.drewN d).cell? ⟨q, 2, none⟩ = some (.int .i64 z)) := fun d => ⟨n0, n1, n2⟩
        have HM : Hid (∀ d, (wr.drewN d).cell? ⟨b, off + k * 3, none⟩ = some (.int .i64 x') ∧ (wr.drewN d).cell? ⟨b, off + k * 3 + 1, none⟩ = some (.string f') ∧ (wr.drewN d).cell? ⟨b, off + k * 3 + 2, none⟩ = some (.int .i64 z')) := fun d => ⟨c0, c1, c2⟩
        go_upto_region 6 with fail
        go_quiet (fail)
        have H1' := Lib.hid (HCH.out nq)
        have H2' := Lib.hid (HOW.out nq)
        clear n0 n1 n2 c0 c1 c2 HCH HOW H1 H2
        have H1 := H1'
        have H2 := H2'
        clear H1' H2'
        obtain ⟨n0, n1, n2⟩ := HE.out nq
        obtain ⟨c0, c1, c2⟩ := HM.out nq
        clear HE HM
        generalize wr.drewN nq = wq at *
        have hM3 : Hid (∀ j, wq.heap.size ≤ j → wA.heap.size ≤ j) := fun j hj => Nat.le_trans H1.out.size hj
        have HK : Hid (∀ w7, Chg (fun k => (Value.slice Ao n cap).ownBlock = some k) wq w7 → w7.cell? ⟨q, 0, none⟩ = some (.int .i64 x) ∧ w7.cell? ⟨q, 1, none⟩ = some (.string f) ∧ w7.cell? ⟨q, 2, none⟩ = some (.int .i64 z) ∧ w7.cell? ⟨b, off + k * 3 + 2, none⟩ = some (.int .i64 z')) := fun w7 h => by
          have e1 : (Value.slice Ao n cap).ownBlock ≠ some q := fun e => by have := (H2.out.mine _ e).1; have := HQ.out; omega
          have e2 : (Value.slice Ao n cap).ownBlock ≠ some b := fun e => by have := (H2.out.mine _ e).1; have := HBL.out; omega
          exact ⟨h.cell n0 e1, h.cell n1 e1, h.cell n2 e1, h.cell c2 e2⟩
        go_upto_region 7 with fail
        go_region_held_law (fun W => W.cell? ⟨q, 0, none⟩ = some (.int .i64 x) ∧ W.cell? ⟨q, 1, none⟩ = some (.string f) ∧ W.cell? ⟨q, 2, none⟩ = some (.int .i64 z) ∧ W.cell? ⟨b, off + k * 3 + 2, none⟩ = some (.int .i64 z'))
          (first | (refine ⟨?_, ?_, ?_, ?_⟩ <;> with_reducible assumption) | go_keep)
          ((refine step_pushL triV_good sharesTy (by rfl) (.tmp 33) (.tmp 47) (by rfl) (M := fun q => wA.heap.size ≤ q) (R := No) (w := wq) hM3.out H2.out (by rfl) (tri_of (m := (x, f, zz)) HOK.out.1 HOK.out.2.1 HZ.out) (by simp [Value.oneCell']) (((Chg.refl No wq).alloc (.cells #[.int .i64 x, .string f, .int .i64 zz] 50)).drew) (news_of (cs := [.int .i64 x, .string f, .int .i64 zz]) (heap_alloc_new wq _)) (by rfl) HLB.out ?_; intro A2 cap2 w7 g1 g2; clear n0 n1 n2 c0 c1 c2; obtain ⟨n0, n1, n2, c2⟩ := HK.out w7 g2; have G1 := Lib.hid (OTris.of g1); have G2 := Lib.hid (H1.out.trans g2 (fun q hq hlt => by have := (H2.out.mine _ hq).1; omega)); clear g1 g2))
        go_wp2_with fail
        go_roundw
        case rel => exact ⟨k + 1, o.length + 1, cap2, A2, o ++ [(x, f, zz)], true, by go_num, rfl, rfl, hlt, by simp [Hid], G2, G1, HR⟩
        case measure => simp [intOf]; omega
      · have HR : Hid (foldA (x, f, z) (l.take (k + 1)) = if d = false ∧ ltT (x, f, z) (x', f', z') = true then (o ++ [(x, f, z)] ++ [(x', f', z')], true) else (o ++ [(x', f', z')], d)) := HNX.out.trans (by
          unfold stepA
          rw [if_neg (show ¬ eqT (x', f', z') (x, f, z) = true by
            intro h
            have h2 : eqK x' f' x f = true := h
            obtain ⟨h3, h4⟩ := eqK_iff.1 h2
            exact heq ⟨h3, by rw [h4]; simp⟩)])
        clear HNX
        have HCH : Hid (∀ d, Chg No wA (wr.drewN d)) := fun d => H1.out.drewN d
        have HOW : Hid (∀ d, OTris 50 (fun j => wA.heap.size ≤ j) (wr.drewN d) (.slice Ao n cap) o) := fun d => H2.out.no triV_good ((Chg.refl _ _).drewN d)
        have HE : Hid (∀ d, (wr.drewN d).cell? ⟨q, 0, none⟩ = some (.int .i64 x) ∧ (wr.drewN d).cell? ⟨q, 1, none⟩ = some (.string f) ∧ (wr.drewN d).cell? ⟨q, 2, none⟩ = some (.int .i64 z)) := fun d => ⟨n0, n1, n2⟩
        have HM : Hid (∀ d, (wr.drewN d).cell? ⟨b, off + k * 3, none⟩ = some (.int .i64 x') ∧ (wr.drewN d).cell? ⟨b, off + k * 3 + 1, none⟩ = some (.string f') ∧ (wr.drewN d).cell? ⟨b, off + k * 3 + 2, none⟩ = some (.int .i64 z')) := fun d => ⟨c0, c1, c2⟩
        have HBQ : Hid (∀ W, Calls Tryz.prog 69 #[.int .i64 x, .string f, .int .i64 x', .string f'] W fun e w' => e = .returned (.bool (ltT (x, f, z) (x', f', z'))) ∧ w' = W) := fun W => (HB.out x f x' f' W).mono (fun e w' h => ⟨h.1, h.2.symm⟩)
        generalize ltT (x, f, z) (x', f', z') = lt at *
        by_cases hx : x' = x
        case' pos =>
          have hdf : (f'.toList == f.toList) = false := by
            cases hf : (f'.toList == f.toList)
            · rfl
            · exact absurd ⟨hx, hf⟩ heq
          have hdx : (x' == x) = true := by simpa using hx
        case' neg =>
          have hdx : (x' == x) = false := by simpa using hx
        all_goals
          clear hx heq
          go_upto_region 6 with fail
          go_quiet (fail)
          have H1' := Lib.hid (HCH.out nq)
          have H2' := Lib.hid (HOW.out nq)
          clear n0 n1 n2 c0 c1 c2 HCH HOW H1 H2
          have H1 := H1'
          have H2 := H2'
          clear H1' H2'
          obtain ⟨n0, n1, n2⟩ := HE.out nq
          obtain ⟨c0, c1, c2⟩ := HM.out nq
          clear HE HM
          generalize wr.drewN nq = wq at *
          have HCH : Hid (∀ d, Chg No wA (wq.drewN d)) := fun d => H1.out.drewN d
          have HOW : Hid (∀ d, OTris 50 (fun j => wA.heap.size ≤ j) (wq.drewN d) (.slice Ao n cap) o) := fun d => H2.out.no triV_good ((Chg.refl _ _).drewN d)
          have HE : Hid (∀ d, (wq.drewN d).cell? ⟨q, 0, none⟩ = some (.int .i64 x) ∧ (wq.drewN d).cell? ⟨q, 1, none⟩ = some (.string f) ∧ (wq.drewN d).cell? ⟨q, 2, none⟩ = some (.int .i64 z)) := fun d => ⟨n0, n1, n2⟩
          have HM : Hid (∀ d, (wq.drewN d).cell? ⟨b, off + k * 3, none⟩ = some (.int .i64 x') ∧ (wq.drewN d).cell? ⟨b, off + k * 3 + 1, none⟩ = some (.string f') ∧ (wq.drewN d).cell? ⟨b, off + k * 3 + 2, none⟩ = some (.int .i64 z')) := fun d => ⟨c0, c1, c2⟩
          have HBX : Hid (∀ m, _) := fun m => Calls.quiet_of_same (HBQ.out (wq.drewN m))
          go_upto_region 9 with fail
          go_quiet ((go_at_call 69; exact HBX.out _))
          have H1' := Lib.hid (HCH.out nq)
          have H2' := Lib.hid (HOW.out nq)
          clear n0 n1 n2 c0 c1 c2 HCH HOW H1 H2
          have H1 := H1'
          have H2 := H2'
          clear H1' H2'
          obtain ⟨n0, n1, n2⟩ := HE.out nq
          obtain ⟨c0, c1, c2⟩ := HM.out nq
          clear HE HM
          generalize wq.drewN nq = wp at *
          have hM3 : Hid (∀ j, wp.heap.size ≤ j → wA.heap.size ≤ j) := fun j hj => Nat.le_trans H1.out.size hj
          have HK : Hid (∀ A2 n2 cap2 o2 W w7, Chg No wA W → OTris 50 (fun j => wA.heap.size ≤ j) W (.slice A2 n2 cap2) o2 → W.cell? ⟨b, off + k * 3, none⟩ = some (.int .i64 x') → W.cell? ⟨b, off + k * 3 + 1, none⟩ = some (.string f') → W.cell? ⟨b, off + k * 3 + 2, none⟩ = some (.int .i64 z') → Chg (fun k => (Value.slice A2 n2 cap2).ownBlock = some k) W w7 → w7.cell? ⟨b, off + k * 3, none⟩ = some (.int .i64 x') ∧ w7.cell? ⟨b, off + k * 3 + 1, none⟩ = some (.string f') ∧ w7.cell? ⟨b, off + k * 3 + 2, none⟩ = some (.int .i64 z') ∧ Chg No wA w7 ∧ ∀ j, w7.heap.size ≤ j → wA.heap.size ≤ j) := fun A2 n2 cap2 o2 W w7 hW ho d0 d1 d2 h => by
            have e2 : (Value.slice A2 n2 cap2).ownBlock ≠ some b := fun e => by have := (ho.mine _ e).1; have := HBL.out; omega
            have hc := hW.trans h (fun q hq hlt => by have := (ho.mine _ hq).1; omega)
            exact ⟨h.cell d0 e2, h.cell d1 e2, h.cell d2 e2, hc, fun j hj => Nat.le_trans hc.size hj⟩
          by_cases hs : d = false ∧ lt = true
          · obtain ⟨rfl, rfl⟩ := hs
            rw [if_pos ⟨rfl, rfl⟩] at HR
            go_upto_region 13 with (at_builtin; refine wpList_pushL triV_good sharesTy rfl (.tmp 69) (.tmp 71) rfl hM3.out H2.out rfl (tri_of (m := (x, f, z)) HOK.out.1 HOK.out.2.1 HOK.out.2.2) (by simp [Value.oneCell']) rfl HLB.out ?_; intro A2 cap2 w7 g1 g2; obtain ⟨c0', c1', c2', hc, hm⟩ := HK.out _ _ _ _ _ _ H1.out H2.out c0 c1 c2 g2; clear n0 n1 n2 c0 c1 c2; have G1 := Lib.hid (OTris.of g1); have G2 := Lib.hid hc; have G3 := Lib.hid hm; clear g1 g2 hc hm)
            go_wp2_with (at_builtin; refine wpList_pushL triV_good sharesTy rfl (.tmp 73) (.tmp 78) rfl G3.out G1.out rfl (tri_of (m := (x', f', z')) HMO.out.1 HMO.out.2.1 HMO.out.2.2) (by simp [Value.oneCell']) rfl HLB2.out ?_; intro A3 cap3 w8 g1 g2; obtain ⟨_, _, _, hc, _⟩ := HK.out _ _ _ _ _ _ G2.out G1.out c0' c1' c2' g2; clear c0' c1' c2'; have G4 : Hid (OTris 50 (fun j => wA.heap.size ≤ j) w8 (.slice A3 (o.length + 1 + 1) cap3) (o ++ [(x, f, z)] ++ [(x', f', z')])) := (by have h := OTris.of g1; rw [List.length_append] at h; exact h); have G5 := Lib.hid hc; clear g1 g2 hc)
            go_roundw
            case rel => exact ⟨k + 1, _, cap3, A3, o ++ [(x, f, z)] ++ [(x', f', z')], true, by go_num, rfl, rfl, hlt, by simp [Hid], G5, G4, HR⟩
            case measure => simp [intOf]; omega
          · rw [if_neg hs] at HR
            have hor : d = true ∨ (d = false ∧ lt = false) := by
              cases d
              · cases lt
                · exact .inr ⟨rfl, rfl⟩
                · exact absurd ⟨rfl, rfl⟩ hs
              · exact .inl rfl
            clear hs
            rcases hor with rfl | ⟨rfl, rfl⟩
            all_goals
              go_upto_region 13 with fail
              go_wp2_with (at_builtin; refine wpList_pushL triV_good sharesTy rfl (.tmp 73) (.tmp 78) rfl hM3.out H2.out rfl (tri_of (m := (x', f', z')) HMO.out.1 HMO.out.2.1 HMO.out.2.2) (by simp [Value.oneCell']) rfl HLB.out ?_; intro A3 cap3 w8 g1 g2; obtain ⟨_, _, _, hc, _⟩ := HK.out _ _ _ _ _ _ H1.out H2.out c0 c1 c2 g2; clear n0 n1 n2 c0 c1 c2; have G4 := Lib.hid (OTris.of g1); have G5 := Lib.hid hc; clear g1 g2 hc)
              go_roundw
              case rel => exact ⟨k + 1, _, cap3, A3, o ++ [(x', f', z')], _, by go_num, rfl, rfl, hlt, by simp [Hid], G5, G4, HR⟩
              case measure => simp [intOf]; omega
    · have hk : k = l.length := by omega
      have HI : Hid (foldA (x, f, z) l = (o, d)) := by have := hI.out; rwa [hk, List.take_length] at this
      cases hd : d
      · have HN : Hid (addS l (x, f, z) = o ++ [(x, f, z)]) := by unfold addS Hid; rw [HI.out, hd]; rfl
        subst hd
        go_wp2_with (at_builtin; refine wpList_pushL triV_good sharesTy rfl (.tmp 82) (.tmp 84) rfl (HMM.out 0) H2.out rfl (tri_of (m := (x, f, z)) HOK.out.1 HOK.out.2.1 HOK.out.2.2) (by simp [Value.oneCell']) rfl HLB.out ?_; intro A3 cap3 w8 g1 g2; have G4 := Lib.hid (OTris.of g1); have G5 := Lib.hid (H1.out.trans g2 (fun q hq hlt => by have := (H2.out.mine _ hq).1; omega)); clear g1 g2)
        go_ret
        rw [HN.out]
        exact ⟨A3, cap3, by simp, by have := G4.out.mono triV_good (M' := fun k => w.heap.size ≤ k) (R' := No) (fun q _ h => Nat.le_trans HA.out.size h) (fun _ _ f => f); simpa using this, HA.out.thenNo G5.out⟩
      · have HN : Hid (addS l (x, f, z) = o) := by unfold addS Hid; rw [HI.out, hd]; rfl
        subst hd
        go_wp2_with fail
        go_ret
        rw [HN.out]
        exact ⟨Ao, cap, congrArg (fun m => Ending.returned (.slice Ao m cap)) hn.out, by rw [← hn.out]; exact H2.out.mono triV_good (M' := fun k => w.heap.size ≤ k) (R' := No) (fun q _ h => Nat.le_trans HA.out.size h) (fun _ _ f => f), HA.out.thenNo H1.out⟩
end Go.Proofs.YtgofncopoieigaaGreatDoor
