/-
  Chapter 17: trammelref17's Set, Fresh, Stands, Check walked.
-/
import Derived.Test.YtbcgffnmbmbjdaaHpO
namespace Go.Proofs.Ytbcgffnmbmbjdaa
open Go Go.RowKit

def stepB (s : Tri) (acc : List Tri × Bool) (x : Tri) : List Tri × Bool :=
  if acc.2 = false ∧ ltT s x = true then (acc.1 ++ [s] ++ [x], true) else (acc.1 ++ [x], acc.2)
def foldB (s : Tri) (l : List Tri) : List Tri × Bool := l.foldl (stepB s) ([], false)
theorem foldB_take {s : Tri} {l : List Tri} {k : Nat} (hk : k < l.length) {r : List Tri × Bool} (h : foldB s (l.take k) = r) : foldB s (l.take (k + 1)) = stepB s r l[k] := by
  rw [List.take_succ_eq_append_getElem hk]
  unfold foldB at *
  rw [List.foldl_append, h]
  rfl
theorem foldB_len (s : Tri) (l : List Tri) : (foldB s l).1.length ≤ 2 * l.length := by
  have h : ∀ (l : List Tri) (a : List Tri × Bool), (l.foldl (stepB s) a).1.length ≤ a.1.length + 2 * l.length := by
    intro l
    induction l with
    | nil => intro a; exact Nat.le_refl _
    | cons x t ih =>
      intro a
      have h1 := ih (stepB s a x)
      have h2 : (stepB s a x).1.length ≤ a.1.length + 2 := by unfold stepB; split <;> simp
      simp only [List.foldl_cons, List.length_cons]
      omega
  have := h l ([], false)
  simpa [foldB] using this
def setR (l : List Tri) (s : Tri) : List Tri := if (foldB s (dropP l s)).2 = true then (foldB s (dropP l s)).1 else (foldB s (dropP l s)).1 ++ [s]
theorem fold_ab (s : Tri) : ∀ (l : List Tri) (a : List Tri × Bool), (∀ x ∈ l, eqT x s = false) → l.foldl (stepB s) a = l.foldl (stepA s) a
  | [], _, _ => rfl
  | x :: t, a, h => by
    rw [List.foldl_cons, List.foldl_cons, fold_ab s t _ (fun y hy => h y (by simp [hy]))]
    congr 1
    unfold stepA stepB
    rw [if_neg (show ¬ eqT x s = true by rw [h x (by simp)]; simp)]
theorem dropP_none {l : List Tri} {s x : Tri} (h : x ∈ dropP l s) : eqT x s = false := by
  unfold dropP at h
  simpa using (List.mem_filter.1 h).2
theorem strict_drop {l : List Tri} (h : Strict l) (s : Tri) : Strict (dropP l s) := h.filter _
theorem addR_drop {s : Tri} : ∀ {l : List Tri}, Strict l → addR (dropP l s) s = setP l s
  | [], _ => rfl
  | x :: t, hs => by
    obtain ⟨h1, h2⟩ := List.pairwise_cons.1 hs
    have ih := addR_drop (s := s) h2
    unfold setP
    by_cases he : eqT x s = true
    · rw [if_pos he]
      have e : dropP (x :: t) s = t := by
        unfold dropP
        rw [List.filter_cons_of_neg (by simp [he])]
        exact dropP_self (fun y hy => by
          have := ltT_ne (h1 y hy)
          cases hys : eqT y s
          · rfl
          · rw [eqT_trans he (eqT_symm hys)] at this; cases this)
      rw [e]
      cases t with
      | nil => rfl
      | cons y t =>
        have h3 : ltT s y = true := by rw [← eqT_lt he]; exact h1 y (by simp)
        unfold addR
        rw [if_neg (by rw [eqT_comm, ltT_ne h3]; simp), if_pos h3]
    · rw [if_neg he]
      have e : dropP (x :: t) s = x :: dropP t s := by unfold dropP; rw [List.filter_cons_of_pos (by simpa using he)]
      rw [e]
      unfold addR
      rw [if_neg he]
      by_cases hl : ltT s x = true
      · rw [if_pos hl, if_pos hl]
        rw [dropP_self (fun y hy => by rw [eqT_comm]; exact ltT_ne (ltT_trans hl (h1 y hy)))]
      · rw [if_neg hl, if_neg hl, ih]
theorem setR_eq {l : List Tri} (h : Strict l) (s : Tri) : setR l s = setP l s := by
  have e : foldB s (dropP l s) = foldA s (dropP l s) := fold_ab s _ _ (fun x hx => dropP_none hx)
  have : setR l s = addS (dropP l s) s := by unfold setR addS; rw [e]
  rw [this, addS_eq (strict_drop h s), addR_drop h]
theorem addR_ok {s : Tri} (hs : TriOk s) : ∀ {o : List Tri}, (∀ m ∈ o, TriOk m) → ∀ m ∈ setP o s, TriOk m
  | [], _, m, hm => by
    have e : m = s := by simpa [setP] using hm
    rw [e]
    exact hs
  | x :: t, h, m, hm => by
    unfold setP at hm
    split at hm
    · rcases List.mem_cons.1 hm with rfl | hm
      · exact hs
      · exact h m (by simp [hm])
    · split at hm
      · rcases List.mem_cons.1 hm with rfl | hm
        · exact hs
        · exact h m hm
      · rcases List.mem_cons.1 hm with rfl | hm
        · exact h _ (by simp)
        · exact addR_ok hs (fun m hm => h m (by simp [hm])) m hm

set_option maxRecDepth 100000 in
set_option maxHeartbeats 4000000 in
theorem refSet_any {R : Nat → Prop} {w : World} {A : Option Addr} {l : List Tri} {cap : Nat} (hl : Tris R w A l cap) (hlen : l.length ≤ 50000) (x : Int) (f : ByteArray) (z : Int) (hc : TriOk (x, f, z)) :
    Calls Try.prog 18 #[.slice A l.length cap, .int .i64 x, .string f, .int .i64 z] w (SetRet w (setR l (x, f, z))) := by
  have HDR := Lib.hid (refDrop_any hl (by omega) x f)
  have HOK := Lib.hid hc
  have HB := Lib.hid below_any
  have hdl := dropP_len l (x, f, 0)
  have hdd : dropP l (x, f, 0) = dropP l (x, f, z) := rfl
  clear hl hc
  have HSR : Hid (setR l (x, f, z) = if (foldB (x, f, z) (dropP l (x, f, z))).2 = true then (foldB (x, f, z) (dropP l (x, f, z))).1 else (foldB (x, f, z) (dropP l (x, f, z))).1 ++ [(x, f, z)]) := rfl
  generalize setR l (x, f, z) = res at *
  rw [hdd] at HDR hdl
  generalize dropP l (x, f, z) = L at *
  have hL : L.length ≤ 50000 := by omega
  clear hdl hdd hlen
  go_enter Try.func18, Try.ntmps18
  go_wp2_with (go_at_call 21; refine HDR.out.mono ?_; rintro e w1 ⟨AL, nL, capL, rfl, h1, h2, h3⟩; have H1 := Lib.hid h1; have H2 := Lib.hid h2; have H3 := Lib.hid h3; clear h1 h2 h3)
  obtain rfl : nL = L.length := H1.out
  have HL : Hid (∀ W, Chg No w1 W → Tris (fun k => k < w1.heap.size) W AL L capL) := fun W h => ((H2.out.tris (by unfold big; omega)).mono triE_good (fun k hk _ => hk)).no triE_good h
  clear H1 H2 HDR
  go_loopw [10, 11, 12] (fun s10 s11 s12 wr => ∃ (k n cap : Nat) (Ao : Option Addr) (o : List Tri) (d : Bool), s12 = .int .i64 k ∧ s11 = .bool d ∧ s10 = .slice Ao n cap ∧ k ≤ L.length ∧ Hid (n = o.length) ∧ Hid (Chg No w1 wr) ∧ Hid (OTris 39 (fun j => w1.heap.size ≤ j) wr (.slice Ao n cap) o) ∧ Hid (foldB (x, f, z) (L.take k) = (o, d))) (fun _ _ s12 _ => L.length - (intOf s12).toNat)
  case atStart => exact ⟨0, 0, 0, none, [], false, rfl, rfl, rfl, Nat.zero_le _, rfl, Chg.refl _ _, OwnL.nil _ _ _ _ _, rfl⟩
  case round =>
    obtain ⟨k, n, cap, Ao, o, d, rfl, rfl, rfl, hks, hn, H1, H2, hI⟩ := hrel
    have HOL : Hid (o.length ≤ 200000) := by
      have h1 := foldB_len (x, f, z) (L.take k)
      rw [hI.out, List.length_take] at h1
      simp only at h1
      unfold Hid
      omega
    have HLB : Hid ((o.length + 1) * 32 ≤ 140737488355328) := by have := HOL.out; unfold Hid; omega
    have HLB2 : Hid (((o ++ [(x, f, z)]).length + 1) * 32 ≤ 140737488355328) := by have := HOL.out; unfold Hid; simp; omega
    by_cases hlt : k < L.length
    · obtain ⟨b, off, hA, c0, c1, c2⟩ := (HL.out wr H1.out).tri_at k hlt
      have HMO := Lib.hid ((HL.out wr H1.out).tri_ok k hlt)
      have HNX := Lib.hid (foldB_take hlt hI.out)
      have HBL : Hid (b < w1.heap.size) := by
        obtain ⟨b', o', e, d0, _⟩ := (HL.out w1 (Chg.refl _ _)).tri_at k hlt
        rw [hA] at e
        simp only [Option.some.injEq, Addr.mk.injEq, and_true] at e
        have := cell_lt d0
        unfold Hid
        omega
      subst hA
      generalize L[k] = m at *
      obtain ⟨x', f', z'⟩ := m
      dsimp only at c0 c1 c2
      have HR : Hid (foldB (x, f, z) (L.take (k + 1)) = if d = false ∧ ltT (x, f, z) (x', f', z') = true then (o ++ [(x, f, z)] ++ [(x', f', z')], true) else (o ++ [(x', f', z')], d)) := HNX.out.trans (by unfold stepB; rfl)
      have HBQ : Hid (∀ W, Calls Try.prog 32 #[.int .i64 x, .string f, .int .i64 x', .string f'] W fun e w' => e = .returned (.bool (ltT (x, f, z) (x', f', z'))) ∧ w' = W) := fun W => (HB.out x f x' f' W).mono (fun e w' h => ⟨h.1, h.2.symm⟩)
      generalize ltT (x, f, z) (x', f', z') = lt at *
      clear HNX
      have HCH : Hid (∀ d, Chg No w1 (wr.drewN d)) := fun d => H1.out.drewN d
      have HOW : Hid (∀ d, OTris 39 (fun j => w1.heap.size ≤ j) (wr.drewN d) (.slice Ao n cap) o) := fun d => H2.out.no triV_good ((Chg.refl _ _).drewN d)
      have HM : Hid (∀ d, (wr.drewN d).cell? ⟨b, off + k * 3, none⟩ = some (.int .i64 x') ∧ (wr.drewN d).cell? ⟨b, off + k * 3 + 1, none⟩ = some (.string f') ∧ (wr.drewN d).cell? ⟨b, off + k * 3 + 2, none⟩ = some (.int .i64 z')) := fun d => ⟨c0, c1, c2⟩
      have HBX : Hid (∀ m, _) := fun m => Calls.quiet_of_same (HBQ.out (wr.drewN m))
      go_upto_region 7 with fail
      go_quiet ((go_at_call 32; exact HBX.out _))
      have H1' := Lib.hid (HCH.out nq)
      have H2' := Lib.hid (HOW.out nq)
      clear c0 c1 c2 HCH HOW H1 H2
      have H1 := H1'
      have H2 := H2'
      clear H1' H2'
      obtain ⟨c0, c1, c2⟩ := HM.out nq
      clear HM
      generalize wr.drewN nq = wp at *
      have hM3 : Hid (∀ j, wp.heap.size ≤ j → w1.heap.size ≤ j) := fun j hj => Nat.le_trans H1.out.size hj
      have HK : Hid (∀ A2 n2 cap2 o2 W w7, Chg No w1 W → OTris 39 (fun j => w1.heap.size ≤ j) W (.slice A2 n2 cap2) o2 → W.cell? ⟨b, off + k * 3, none⟩ = some (.int .i64 x') → W.cell? ⟨b, off + k * 3 + 1, none⟩ = some (.string f') → W.cell? ⟨b, off + k * 3 + 2, none⟩ = some (.int .i64 z') → Chg (fun k => (Value.slice A2 n2 cap2).ownBlock = some k) W w7 → w7.cell? ⟨b, off + k * 3, none⟩ = some (.int .i64 x') ∧ w7.cell? ⟨b, off + k * 3 + 1, none⟩ = some (.string f') ∧ w7.cell? ⟨b, off + k * 3 + 2, none⟩ = some (.int .i64 z') ∧ Chg No w1 w7 ∧ ∀ j, w7.heap.size ≤ j → w1.heap.size ≤ j) := fun A2 n2 cap2 o2 W w7 hW ho d0 d1 d2 h => by
        have e2 : (Value.slice A2 n2 cap2).ownBlock ≠ some b := fun e => by have := (ho.mine _ e).1; have := HBL.out; omega
        have hc := hW.trans h (fun q hq hlt => by have := (ho.mine _ hq).1; omega)
        exact ⟨h.cell d0 e2, h.cell d1 e2, h.cell d2 e2, hc, fun j hj => Nat.le_trans hc.size hj⟩
      by_cases hs : d = false ∧ lt = true
      · obtain ⟨rfl, rfl⟩ := hs
        rw [if_pos ⟨rfl, rfl⟩] at HR
        go_upto_region 11 with (at_builtin; refine wpList_pushL triV_good cellsTy rfl (.tmp 42) (.tmp 47) rfl hM3.out H2.out rfl (tri_of (m := (x, f, z)) HOK.out.1 HOK.out.2.1 HOK.out.2.2) (by simp [Value.oneCell']) rfl HLB.out ?_; intro A2 cap2 w7 g1 g2; obtain ⟨c0', c1', c2', hc, hm⟩ := HK.out _ _ _ _ _ _ H1.out H2.out c0 c1 c2 g2; clear c0 c1 c2; have G1 := Lib.hid (OTris.of g1); have G2 := Lib.hid hc; have G3 := Lib.hid hm; clear g1 g2 hc hm)
        go_wp2_with (at_builtin; refine wpList_pushL triV_good cellsTy rfl (.tmp 49) (.tmp 54) rfl G3.out G1.out rfl (tri_of (m := (x', f', z')) HMO.out.1 HMO.out.2.1 HMO.out.2.2) (by simp [Value.oneCell']) rfl HLB2.out ?_; intro A3 cap3 w8 g1 g2; obtain ⟨_, _, _, hc, _⟩ := HK.out _ _ _ _ _ _ G2.out G1.out c0' c1' c2' g2; clear c0' c1' c2'; have G4 : Hid (OTris 39 (fun j => w1.heap.size ≤ j) w8 (.slice A3 (o.length + 1 + 1) cap3) (o ++ [(x, f, z)] ++ [(x', f', z')])) := (by have h := OTris.of g1; rw [List.length_append] at h; exact h); have G5 := Lib.hid hc; clear g1 g2 hc)
        go_roundw
        case rel => exact ⟨k + 1, _, cap3, A3, o ++ [(x, f, z)] ++ [(x', f', z')], true, by go_num, rfl, rfl, hlt, by simp [Hid], G5, G4, HR⟩
        case measure => simp [intOf]; omega
      · rw [if_neg hs] at HR
        have hor : d = true ∨ (d = false ∧ lt = false) := by
          cases d
          · cases lt
            · exact .inr ⟨rfl, rfl⟩
            · exact absurd ⟨rfl, rfl⟩ hs
          · exact .inl rfl
        clear hs
        rcases hor with rfl | ⟨rfl, rfl⟩
        all_goals
          go_upto_region 11 with fail
          go_wp2_with (at_builtin; refine wpList_pushL triV_good cellsTy rfl (.tmp 49) (.tmp 54) rfl hM3.out H2.out rfl (tri_of (m := (x', f', z')) HMO.out.1 HMO.out.2.1 HMO.out.2.2) (by simp [Value.oneCell']) rfl HLB.out ?_; intro A3 cap3 w8 g1 g2; obtain ⟨_, _, _, hc, _⟩ := HK.out _ _ _ _ _ _ H1.out H2.out c0 c1 c2 g2; clear c0 c1 c2; have G4 := Lib.hid (OTris.of g1); have G5 := Lib.hid hc; clear g1 g2 hc)
          go_roundw
          case rel => exact ⟨k + 1, _, cap3, A3, o ++ [(x', f', z')], _, by go_num, rfl, rfl, hlt, by simp [Hid], G5, G4, HR⟩
          case measure => simp [intOf]; omega
    · have hk : k = L.length := by omega
      have HI : Hid (foldB (x, f, z) L = (o, d)) := by have := hI.out; rwa [hk, List.take_length] at this
      have HMM : Hid (∀ j, wr.heap.size ≤ j → w1.heap.size ≤ j) := fun j hj => Nat.le_trans H1.out.size hj
      cases hd : d
      · have HN : Hid (res = o ++ [(x, f, z)]) := HSR.out.trans (by rw [HI.out, hd]; rfl)
        subst hd
        go_wp2_with (at_builtin; refine wpList_pushL triV_good cellsTy rfl (.tmp 58) (.tmp 63) rfl HMM.out H2.out rfl (tri_of (m := (x, f, z)) HOK.out.1 HOK.out.2.1 HOK.out.2.2) (by simp [Value.oneCell']) rfl HLB.out ?_; intro A3 cap3 w8 g1 g2; have G4 := Lib.hid (OTris.of g1); have G5 := Lib.hid (H1.out.trans g2 (fun q hq hlt => by have := (H2.out.mine _ hq).1; omega)); clear g1 g2)
        go_ret
        rw [HN.out]
        exact ⟨A3, _, cap3, rfl, by simp, G4.out.mono triV_good (M' := fun k => w.heap.size ≤ k) (R' := No) (fun q _ h => Nat.le_trans H3.out.size h) (fun _ _ f => f), H3.out.thenNo G5.out⟩
      · have HN : Hid (res = o) := HSR.out.trans (by rw [HI.out, hd]; rfl)
        subst hd
        go_wp2_with fail
        go_ret
        rw [HN.out]
        exact ⟨Ao, _, cap, rfl, hn.out, H2.out.mono triV_good (M' := fun k => w.heap.size ≤ k) (R' := No) (fun q _ h => Nat.le_trans H3.out.size h) (fun _ _ f => f), H3.out.thenNo H1.out⟩
end Go.Proofs.Ytbcgffnmbmbjdaa
