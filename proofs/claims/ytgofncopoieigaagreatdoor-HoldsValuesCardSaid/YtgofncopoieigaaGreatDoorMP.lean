/-
  HpN, HpO, HpQ, HpR, in one file.
-/
import Derived.Test.YtgofncopoieigaaGreatDoorHpM
import Derived.Deep.RegionHeldLaw
/- HpN -/
namespace Go.Proofs.YtgofncopoieigaaGreatDoor
open Go Go.RowKit

theorem encL_set3 (l : List Tri) (i : Nat) (c : Tri) (hi : i < l.length) : ((((encL l).set (i * 3) (.int .i64 c.1)).set (i * 3 + 1) (.string c.2.1)).set (i * 3 + 2) (.int .i64 c.2.2)) = encL (l.set i c) := by
  apply List.ext_getElem?
  intro t
  by_cases ht : t < l.length * 3
  · rw [encL_set _ t ht, List.getElem?_set, List.length_set, List.length_set, encL_length, List.getElem?_set, List.length_set, encL_length, List.getElem?_set, encL_length]
    by_cases h5 : t / 3 = i
    · rw [if_pos h5]
      have h7 : t % 3 = 0 ∨ t % 3 = 1 ∨ t % 3 = 2 := by omega
      rcases h7 with h7 | h7 | h7 <;> rw [h7]
      · rw [if_neg (by omega), if_neg (by omega), if_pos (by omega), if_pos (by omega)]; rfl
      · rw [if_neg (by omega), if_pos (by omega), if_pos (by omega)]; rfl
      · rw [if_pos (by omega), if_pos (by omega)]; rfl
    · rw [if_neg h5, if_neg (by omega), if_neg (by omega), if_neg (by omega)]
  · rw [List.getElem?_eq_none (by rw [List.length_set, List.length_set, List.length_set, encL_length]; omega), List.getElem?_eq_none (by rw [encL_length, List.length_set]; omega)]
theorem OTris.setC {e : TypeId} {M : Nat → Prop} {w : World} {g o n cap : Nat} {l : List Tri} (h : OTris e M w (.slice (some ⟨g, o, none⟩) n cap) l) (i : Nat) (hi : i < l.length) {c : Tri} (hc : TriOk c) :
    (∀ j, j < 3 → w.frozen? ⟨g, o + i * 3 + j, none⟩ = false ∧ ∃ u, w.cell? ⟨g, o + i * 3 + j, none⟩ = some u) ∧ M g ∧ OTris e M (((w.setCell ⟨g, o + i * 3, none⟩ (.int .i64 c.1)).setCell ⟨g, o + i * 3 + 1, none⟩ (.string c.2.1)).setCell ⟨g, o + i * 3 + 2, none⟩ (.int .i64 c.2.2)) (.slice (some ⟨g, o, none⟩) n cap) (l.set i c) := by
  have hn := h.blk.1
  subst hn
  obtain ⟨h1, h2⟩ := OTris.iff.1 h
  have hj : ∀ j, j < 3 → i * 3 + j < (encL l).length := fun j hj => by rw [encL_length]; omega
  obtain ⟨_, _, hM, h3⟩ := h1.put (hj 0 (by omega)) (.int .i64 c.1)
  obtain ⟨_, _, _, h4⟩ := h3.put (j := i * 3 + 1) (by rw [List.length_set]; exact hj 1 (by omega)) (.string c.2.1)
  obtain ⟨_, _, _, h5⟩ := h4.put (j := i * 3 + 2) (by rw [List.length_set, List.length_set]; exact hj 2 (by omega)) (.int .i64 c.2.2)
  refine ⟨fun j hj3 => ?_, hM, OTris.iff.2 ⟨?_, fun m hm => ?_⟩⟩
  · obtain ⟨f, g, _⟩ := h1.put (hj j hj3) (.int .i64 0)
    rw [← Nat.add_assoc] at f g
    exact ⟨f, _, g⟩
  · rw [List.length_set, ← encL_set3 l i c hi]
    simp only [Nat.add_zero, ← Nat.add_assoc] at h5
    exact h5
  · rcases List.mem_or_eq_of_mem_set hm with hm | rfl
    · exact h2 m hm
    · exact hc

/-- What heap.Set answers. -/
def SetRet (w : World) (r : List Tri) (e : Ending) (w' : World) : Prop := ∃ A' n' cap', e = .returned (.slice A' n' cap') ∧ n' = r.length ∧ OTris 67 (fun k => w.heap.size ≤ k) w' (.slice A' n' cap') r ∧ Chg No w w'

end Go.Proofs.YtgofncopoieigaaGreatDoor
/- HpO -/
namespace Go.Proofs.YtgofncopoieigaaGreatDoor
open Go Go.RowKit

theorem eqT_of {x f z a g u : _} (h : (x : Int) = a ∧ ((f : ByteArray).toList == (g : ByteArray).toList) = true) : eqT (x, f, (z : Int)) (a, g, (u : Int)) = true := by
  show eqK x f a g = true
  unfold eqK
  rw [h.2]
  simp [h.1]
theorem eqT_not {x f z a g u : _} (h : ¬ ((x : Int) = a ∧ ((f : ByteArray).toList == (g : ByteArray).toList) = true)) : eqT (x, f, (z : Int)) (a, g, (u : Int)) = false := by
  show eqK x f a g = false
  unfold eqK
  by_cases hx : x = a
  · cases hf : (f.toList == g.toList)
    · simp
    · exact absurd ⟨hx, hf⟩ h
  · simp [hx]

set_option maxRecDepth 100000 in
set_option maxHeartbeats 2000000 in
theorem refGet_any {R : Nat → Prop} {w : World} {A : Option Addr} {l : List Tri} {cap : Nat} (hl : Tris R w A l cap) (a : Int) (g : ByteArray) :
    Calls Tryz.prog 42 #[.slice A l.length cap, .int .i64 a, .string g] w fun e w' => e = .returned (.tuple #[.int .i64 (getP l (a, g, 0)), .bool (hasL l (a, g, 0))]) ∧ Chg No w w' := by
  have HL := Lib.hid (fun W (h : Chg No w W) => hl.no triE_good h)
  have hb := hl.big
  unfold big at hb
  clear hl
  go_enter Tryz.func42, Tryz.ntmps42
  go_wp2_with fail
  go_loopw [8] (fun s8 wr => ∃ k : Nat, k ≤ l.length ∧ s8 = .int .i64 k ∧ Hid (Chg No w wr) ∧ Hid (∀ j (h : j < l.length), j < k → eqT l[j] (a, g, 0) = false)) (fun s8 _ => l.length - (intOf s8).toNat)
  case atStart => exact ⟨0, Nat.zero_le _, rfl, Chg.refl _ _, fun j _ h => absurd h (Nat.not_lt_zero j)⟩
  case round =>
    obtain ⟨k, hk, rfl, hch, hI⟩ := hrel
    by_cases hlt : k < l.length
    · obtain ⟨b, off, hA, c0, c1, c2⟩ := (HL.out wr hch.out).tri_at k hlt
      have HF : Hid (eqT l[k] (a, g, 0) = true → getP l (a, g, 0) = l[k].2.2 ∧ hasL l (a, g, 0) = true) := fun h => by
        have e : l.find? (fun x => eqT x (a, g, 0)) = some l[k] := by
          rw [List.find?_eq_some_iff_getElem]
          exact ⟨h, k, hlt, rfl, fun j hj => by simp [hI.out j (by omega) hj]⟩
        refine ⟨by unfold getP; rw [e], ?_⟩
        unfold hasL
        rw [List.any_eq_true]
        exact ⟨_, List.getElem_mem hlt, h⟩
      have HN : Hid (eqT l[k] (a, g, 0) = false → ∀ j (h : j < l.length), j < k + 1 → eqT l[j] (a, g, 0) = false) := fun h j hj hj2 => by
        rcases Nat.lt_or_ge j k with g1 | g1
        · exact hI.out j hj g1
        · obtain rfl : j = k := by omega
          exact h
      subst hA
      generalize l[k] = m at *
      obtain ⟨x, f, z⟩ := m
      dsimp only at c0 c1 c2 HF
      by_cases heq : x = a ∧ (f.toList == g.toList) = true
      · have hF := HF.out (eqT_of heq)
        have HR := Lib.hid hF
        obtain ⟨hx, hf⟩ := heq
        have hdx : (x == a) = true := by simpa using hx
        clear HF HN hF hx
        go_wp2_with fail
        go_ret2
        exact ⟨by rw [HR.out.1, HR.out.2]; rfl, hch.out⟩
      · have HR := Lib.hid (HN.out (eqT_not heq))
        clear HF HN
        by_cases hx : x = a
        case' pos =>
          have hf : (f.toList == g.toList) = false := by
            cases hf : (f.toList == g.toList)
            · rfl
            · exact absurd ⟨hx, hf⟩ heq
          have hdx : (x == a) = true := by simpa using hx
        case' neg => have hdx : (x == a) = false := by simpa using hx
        all_goals
          clear hx heq
          go_wp2_with fail
          go_roundw
          case rel => exact ⟨k + 1, hlt, by go_num, hch.out, HR.out⟩
          case measure => simp [intOf]; omega
    · have hn : hasL l (a, g, 0) = false := by
        unfold hasL
        rw [List.any_eq_false]
        intro x hx
        obtain ⟨j, hj, rfl⟩ := List.getElem_of_mem hx
        rw [hI.out j hj (by omega)]
        simp
      have HR : Hid (getP l (a, g, 0) = 0 ∧ hasL l (a, g, 0) = false) := ⟨getP_no hn, hn⟩
      clear hn
      go_wp2_with fail
      go_ret2
      exact ⟨by rw [HR.out.1, HR.out.2]; rfl, hch.out⟩

theorem dropP_take {l : List Tri} {k : Nat} (c : Tri) (hk : k < l.length) {o : List Tri} (h : dropP (l.take k) c = o) : dropP (l.take (k + 1)) c = if eqT l[k] c = true then o else o ++ [l[k]] := by
  rw [List.take_succ_eq_append_getElem hk]
  unfold dropP at *
  rw [List.filter_append, h]
  cases h2 : eqT l[k] c <;> simp [h2]
theorem dropP_len (l : List Tri) (c : Tri) : (dropP l c).length ≤ l.length := List.length_filter_le _ _
end Go.Proofs.YtgofncopoieigaaGreatDoor
/- HpQ -/
namespace Go.Proofs.YtgofncopoieigaaGreatDoor
open Go Go.RowKit

def stepB (s : Tri) (acc : List Tri × Bool) (x : Tri) : List Tri × Bool :=
  if acc.2 = false ∧ ltT s x = true then (acc.1 ++ [s] ++ [x], true) else (acc.1 ++ [x], acc.2)
def foldB (s : Tri) (l : List Tri) : List Tri × Bool := l.foldl (stepB s) ([], false)
theorem foldB_take {s : Tri} {l : List Tri} {k : Nat} (hk : k < l.length) {r : List Tri × Bool} (h : foldB s (l.take k) = r) : foldB s (l.take (k + 1)) = stepB s r l[k] := by
  rw [List.take_succ_eq_append_getElem hk]
  unfold foldB at *
  rw [List.foldl_append, h]
  rfl
theorem foldB_len (s : Tri) (l : List Tri) : (foldB s l).1.length ≤ 2 * l.length := by
  have h : ∀ (l : List Tri) (a : List Tri × Bool), (l.foldl (stepB s) a).1.length ≤ a.1.length + 2 * l.length := by
    intro l
    induction l with
    | nil => intro a; exact Nat.le_refl _
    | cons x t ih =>
      intro a
      have h1 := ih (stepB s a x)
      have h2 : (stepB s a x).1.length ≤ a.1.length + 2 := by unfold stepB; split <;> simp
      simp only [List.foldl_cons, List.length_cons]
      omega
  have := h l ([], false)
  simpa [foldB] using this
def setR (l : List Tri) (s : Tri) : List Tri := if (foldB s (dropP l s)).2 = true then (foldB s (dropP l s)).1 else (foldB s (dropP l s)).1 ++ [s]
theorem fold_ab (s : Tri) : ∀ (l : List Tri) (a : List Tri × Bool), (∀ x ∈ l, eqT x s = false) → l.foldl (stepB s) a = l.foldl (stepA s) a
  | [], _, _ => rfl
  | x :: t, a, h => by
    rw [List.foldl_cons, List.foldl_cons, fold_ab s t _ (fun y hy => h y (by simp [hy]))]
    congr 1
    unfold stepA stepB
    rw [if_neg (show ¬ eqT x s = true by rw [h x (by simp)]; simp)]
theorem dropP_none {l : List Tri} {s x : Tri} (h : x ∈ dropP l s) : eqT x s = false := by
  unfold dropP at h
  simpa using (List.mem_filter.1 h).2
theorem strict_drop {l : List Tri} (h : Strict l) (s : Tri) : Strict (dropP l s) := h.filter _
theorem addR_drop {s : Tri} : ∀ {l : List Tri}, Strict l → addR (dropP l s) s = setP l s
  | [], _ => rfl
  | x :: t, hs => by
    obtain ⟨h1, h2⟩ := List.pairwise_cons.1 hs
    have ih := addR_drop (s := s) h2
    unfold setP
    by_cases he : eqT x s = true
    · rw [if_pos he]
      have e : dropP (x :: t) s = t := by
        unfold dropP
        rw [List.filter_cons_of_neg (by simp [he])]
        exact dropP_self (fun y hy => by
          have := ltT_ne (h1 y hy)
          cases hys : eqT y s
          · rfl
          · rw [eqT_trans he (eqT_symm hys)] at this; cases this)
      rw [e]
      cases t with
      | nil => rfl
      | cons y t =>
        have h3 : ltT s y = true := by rw [← eqT_lt he]; exact h1 y (by simp)
        unfold addR
        rw [if_neg (by rw [eqT_comm, ltT_ne h3]; simp), if_pos h3]
    · rw [if_neg he]
      have e : dropP (x :: t) s = x :: dropP t s := by unfold dropP; rw [List.filter_cons_of_pos (by simpa using he)]
      rw [e]
      unfold addR
      rw [if_neg he]
      by_cases hl : ltT s x = true
      · rw [if_pos hl, if_pos hl]
        rw [dropP_self (fun y hy => by rw [eqT_comm]; exact ltT_ne (ltT_trans hl (h1 y hy)))]
      · rw [if_neg hl, if_neg hl, ih]
theorem setR_eq {l : List Tri} (h : Strict l) (s : Tri) : setR l s = setP l s := by
  have e : foldB s (dropP l s) = foldA s (dropP l s) := fold_ab s _ _ (fun x hx => dropP_none hx)
  have : setR l s = addS (dropP l s) s := by unfold setR addS; rw [e]
  rw [this, addS_eq (strict_drop h s), addR_drop h]
theorem addR_ok {s : Tri} (hs : TriOk s) : ∀ {o : List Tri}, (∀ m ∈ o, TriOk m) → ∀ m ∈ setP o s, TriOk m
  | [], _, m, hm => by
    have e : m = s := by simpa [setP] using hm
    rw [e]
    exact hs
  | x :: t, h, m, hm => by
    unfold setP at hm
    split at hm
    · rcases List.mem_cons.1 hm with rfl | hm
      · exact hs
      · exact h m (by simp [hm])
    · split at hm
      · rcases List.mem_cons.1 hm with rfl | hm
        · exact hs
        · exact h m hm
      · rcases List.mem_cons.1 hm with rfl | hm
        · exact h _ (by simp)
        · exact addR_ok hs (fun m hm => h m (by simp [hm])) m hm

end Go.Proofs.YtgofncopoieigaaGreatDoor
/- HpR -/
namespace Go.Proofs.YtgofncopoieigaaGreatDoor
open Go Go.RowKit

theorem strict_of_adj : ∀ {l : List Tri}, (∀ j (h : j + 1 < l.length), ltT l[j] l[j + 1] = true) → Strict l
  | [], _ => List.Pairwise.nil
  | [x], _ => by simp
  | x :: y :: t, h => by
    have ih := strict_of_adj (l := y :: t) (fun j hj => h (j + 1) (by simpa using hj))
    have hxy : ltT x y = true := h 0 (by simp)
    refine List.pairwise_cons.2 ⟨fun z hz => ?_, ih⟩
    rcases List.mem_cons.1 hz with rfl | hz
    · exact hxy
    · exact ltT_trans hxy ((List.pairwise_cons.1 ih).1 z hz)
theorem adj_of_strict {l : List Tri} (h : Strict l) (j : Nat) (hj : j + 1 < l.length) : ltT l[j] l[j + 1] = true :=
  (List.pairwise_iff_getElem.1 h) j (j + 1) (by omega) hj (by omega)
/-- Do cells stand as they should? -/
def standsB (l : List Tri) : Bool := decide (Strict l)
theorem standsB_no {l : List Tri} {j : Nat} (hj : j + 1 < l.length) (h : ltT l[j] l[j + 1] = false) : standsB l = false :=
  decide_eq_false (fun hs => by rw [adj_of_strict hs j hj] at h; cases h)
theorem standsB_yes {l : List Tri} (h : ∀ j (h : j + 1 < l.length), ltT l[j] l[j + 1] = true) : standsB l = true := decide_eq_true (strict_of_adj h)

set_option maxRecDepth 100000 in
set_option maxHeartbeats 4000000 in
theorem refStands_any {R : Nat → Prop} {w : World} {A : Option Addr} {l : List Tri} {cap : Nat} (hl : Tris R w A l cap) :
    Calls Tryz.prog 44 #[.slice A l.length cap] w fun e w' => e = .returned (.bool (standsB l)) ∧ Chg No w w' := by
  have HL := Lib.hid (fun W (h : Chg No w W) => hl.no triE_good h)
  have HB := Lib.hid below_any
  have hb := hl.big
  unfold big at hb
  clear hl
  have HNO := Lib.hid (fun (j : Nat) (hj : j + 1 < l.length) h => standsB_no hj h)
  have HYE := Lib.hid (fun h => standsB_yes (l := l) h)
  generalize standsB l = ans at *
  go_enter Tryz.func44, Tryz.ntmps44
  go_wp2_with fail
  go_loopw [3] (fun s3 wr => ∃ k : Nat, k + 1 ≤ l.length + 1 ∧ s3 = .int .i64 ((k + 1 : Nat) : Int) ∧ Hid (Chg No w wr) ∧ Hid (∀ j (h : j + 1 < l.length), j < k → ltT l[j] l[j + 1] = true)) (fun s3 _ => l.length + 1 - (intOf s3).toNat)
  case atStart => exact ⟨0, by omega, rfl, Chg.refl _ _, fun j _ h => absurd h (Nat.not_lt_zero j)⟩
  case round =>
    obtain ⟨k, hk, rfl, hch, hI⟩ := hrel
    by_cases hlt : k + 1 < l.length
    · obtain ⟨b, off, hA, c0, c1, c2⟩ := (HL.out wr hch.out).tri_at k (by omega)
      obtain ⟨b', off', hA', d0, d1, d2⟩ := (HL.out wr hch.out).tri_at (k + 1) hlt
      rw [hA] at hA'
      simp only [Option.some.injEq, Addr.mk.injEq, and_true] at hA'
      obtain ⟨rfl, rfl⟩ := hA'
      have HN := Lib.hid (HNO.out k hlt)
      have HX : Hid (ltT l[k] l[k + 1] = true → ∀ j (h : j + 1 < l.length), j < k + 1 → ltT l[j] l[j + 1] = true) := fun h j hj hj2 => by
        rcases Nat.lt_or_ge j k with g1 | g1
        · exact hI.out j hj g1
        · obtain rfl : j = k := by omega
          exact h
      subst hA
      have hk0 : k < l.length := by omega
      generalize l[k + 1] = m' at *
      generalize l[k] = m at *
      obtain ⟨x, f, z⟩ := m
      obtain ⟨x', f', z'⟩ := m'
      dsimp only at c0 c1 c2 d0 d1 d2
      have HBQ : Hid (∀ W, Calls Tryz.prog 69 #[.int .i64 x, .string f, .int .i64 x', .string f'] W fun e w' => e = .returned (.bool (ltT (x, f, z) (x', f', z'))) ∧ w' = W) := fun W => (HB.out x f x' f' W).mono (fun e w' h => ⟨h.1, h.2.symm⟩)
      have HBX : Hid (∀ m, _) := fun m => Calls.quiet_of_same (HBQ.out (wr.drewN m))
      have hcb : (k + 1 : Nat) ≤ 140737488355328 := by omega
      go_upto_region 4 with fail
      cases hlt2 : ltT (x, f, z) (x', f', z')
      · obtain rfl := HN.out hlt2
        rw [hlt2] at HBX
        clear HN HX hlt2
        go_quiet ((go_at_call 69; exact HBX.out _))
        go_wp2_with fail
        go_ret
        exact ⟨rfl, hch.out.drewN _⟩
      · have HR := Lib.hid (HX.out hlt2)
        rw [hlt2] at HBX
        clear HN HX hlt2
        go_quiet ((go_at_call 69; exact HBX.out _))
        go_wp2_with fail
        go_roundw
        case rel => exact ⟨k + 1, by omega, by go_num, hch.out.drewN _, HR.out⟩
        case measure => simp [intOf]; omega
    · obtain rfl := HYE.out (fun j hj => hI.out j hj (by omega))
      go_wp2_with fail
      go_ret
      exact ⟨rfl, hch.out⟩

theorem heapB_eq (l : List Tri) : heapB l = (standsB l && l.all okT) := by
  rw [Bool.eq_iff_iff, Bool.and_eq_true]
  constructor
  · intro h
    have hf : ∀ i, i < l.length → fineT l i = true := fun i hi => by
      cases hfi : fineT l i
      · rw [heapB_no hi hfi] at h; cases h
      · rfl
    refine ⟨standsB_yes (fun j hj => ?_), ?_⟩
    · have := hf (j + 1) hj
      unfold fineT at this
      rw [getD_at hj, Nat.add_sub_cancel, getD_at (by omega)] at this
      simp only [Bool.and_eq_true, Bool.or_eq_true, decide_eq_true_eq] at this
      rcases this.2 with h0 | h0
      · omega
      · exact h0
    · rw [List.all_eq_true]
      intro x hx
      obtain ⟨i, hi, rfl⟩ := List.getElem_of_mem hx
      have := hf i hi
      unfold fineT at this
      rw [getD_at hi, Bool.and_eq_true] at this
      exact this.1
  · rintro ⟨h1, h2⟩
    have hs : Strict l := of_decide_eq_true h1
    refine heapB_yes (fun i hi => ?_)
    unfold fineT
    rw [getD_at hi, Bool.and_eq_true]
    refine ⟨List.all_eq_true.1 h2 _ (List.getElem_mem hi), ?_⟩
    rw [Bool.or_eq_true, decide_eq_true_eq]
    by_cases h0 : i = 0
    · exact .inl h0
    · right
      obtain ⟨j, rfl⟩ : ∃ j, i = j + 1 := ⟨i - 1, by omega⟩
      rw [Nat.add_sub_cancel, getD_at (by omega)]
      exact adj_of_strict hs j hi

set_option maxRecDepth 100000 in
set_option maxHeartbeats 8000000 in
theorem refCheck_any {R : Nat → Prop} {w : World} {A : Option Addr} {l : List Tri} {cap : Nat} (hl : Tris R w A l cap) :
    Calls Tryz.prog 28 #[.slice A l.length cap] w fun e w' => e = .returned (.bool (heapB l)) ∧ Chg No w w' := by
  have HST := Lib.hid (refStands_any hl)
  have HL := Lib.hid (fun W (h : Chg No w W) => hl.no triE_good h)
  have hb := hl.big
  unfold big at hb
  clear hl
  rw [heapB_eq]
  cases hst : standsB l
  · rw [hst] at HST
    rw [Bool.false_and]
    clear hst
    go_enter Tryz.func28, Tryz.ntmps28
    go_wp2_with (go_at_call 44; refine HST.out.mono ?_; rintro e w1 ⟨rfl, h1⟩; have H1 := Lib.hid h1; clear h1)
    go_ret
    exact ⟨rfl, H1.out⟩
  · rw [hst] at HST
    rw [Bool.true_and]
    clear hst
    have HNO : Hid (∀ j (h : j < l.length), okT l[j] = false → l.all okT = false) := fun j hj h => by
      rw [List.all_eq_false]
      exact ⟨_, List.getElem_mem hj, by rw [h]; simp⟩
    have HYE : Hid ((∀ j (h : j < l.length), okT l[j] = true) → l.all okT = true) := fun h => by
      rw [List.all_eq_true]
      intro x hx
      obtain ⟨i, hi, rfl⟩ := List.getElem_of_mem hx
      exact h i hi
    generalize l.all okT = ans at *
    go_enter Tryz.func28, Tryz.ntmps28
    go_wp2_with (go_at_call 44; refine HST.out.mono ?_; rintro e w1 ⟨rfl, h1⟩; have H1 := Lib.hid h1; clear h1)
    go_loopw [4] (fun s4 wr => ∃ k : Nat, k ≤ l.length ∧ s4 = .int .i64 k ∧ Hid (Chg No w wr) ∧ Hid (∀ j (h : j < l.length), j < k → okT l[j] = true)) (fun s4 _ => l.length - (intOf s4).toNat)
    case atStart => exact ⟨0, Nat.zero_le _, rfl, H1.out, fun j _ h => absurd h (Nat.not_lt_zero j)⟩
    case round =>
      clear H1
      obtain ⟨k, hk, rfl, hch, hI⟩ := hrel
      by_cases hlt : k < l.length
      · obtain ⟨b, off, hA, c0, c1, c2⟩ := (HL.out wr hch.out).tri_at k hlt
        have HN := Lib.hid (HNO.out k hlt)
        have HX : Hid (okT l[k] = true → ∀ j (h : j < l.length), j < k + 1 → okT l[j] = true) := fun h j hj hj2 => by
          rcases Nat.lt_or_ge j k with g1 | g1
          · exact hI.out j hj g1
          · obtain rfl : j = k := by omega
            exact h
        subst hA
        generalize l[k] = m at *
        obtain ⟨x, f, z⟩ := m
        dsimp only at c0 c1 c2
        by_cases h1 : x < 1
        · obtain rfl := HN.out (okT_no (.inl h1))
          have e1 : decide (x < 1) = true := decide_eq_true h1
          clear HN HX
          go_wp2_with fail
          go_ret
          exact ⟨rfl, hch.out⟩
        by_cases h2 : (4294967296 : Int) < x
        · obtain rfl := HN.out (okT_no (.inr (.inl h2)))
          have e1 : decide (x < 1) = false := decide_eq_false h1
          have e2 : decide ((4294967296 : Int) < x) = true := decide_eq_true h2
          clear HN HX
          go_wp2_with fail
          go_ret
          exact ⟨rfl, hch.out⟩
        by_cases h3 : z < -4294967296
        · obtain rfl := HN.out (okT_no (.inr (.inr (.inl h3))))
          have e1 : decide (x < 1) = false := decide_eq_false h1
          have e2 : decide ((4294967296 : Int) < x) = false := decide_eq_false h2
          have e3 : decide (z < -4294967296) = true := decide_eq_true h3
          clear HN HX
          go_wp2_with fail
          go_ret
          exact ⟨rfl, hch.out⟩
        by_cases h4 : (4294967296 : Int) < z
        · obtain rfl := HN.out (okT_no (.inr (.inr (.inr h4))))
          have e1 : decide (x < 1) = false := decide_eq_false h1
          have e2 : decide ((4294967296 : Int) < x) = false := decide_eq_false h2
          have e3 : decide (z < -4294967296) = false := decide_eq_false h3
          have e4 : decide ((4294967296 : Int) < z) = true := decide_eq_true h4
          clear HN HX
          go_wp2_with fail
          go_ret
          exact ⟨rfl, hch.out⟩
        have HR := Lib.hid (HX.out (okT_yes h1 h2 h3 h4))
        have e1 : decide (x < 1) = false := decide_eq_false h1
        have e2 : decide ((4294967296 : Int) < x) = false := decide_eq_false h2
        have e3 : decide (z < -4294967296) = false := decide_eq_false h3
        have e4 : decide ((4294967296 : Int) < z) = false := decide_eq_false h4
        clear HN HX
        go_wp2_with fail
        go_roundw
        case rel => exact ⟨k + 1, hlt, by go_num, hch.out, HR.out⟩
        case measure => simp [intOf]; omega
      · obtain rfl := HYE.out (fun j hj => hI.out j hj (by omega))
        go_wp2_with fail
        go_ret
        exact ⟨rfl, hch.out⟩
end Go.Proofs.YtgofncopoieigaaGreatDoor
