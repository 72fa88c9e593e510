/-
  Chapter 17: trammelref17's Get, Drop, Set, Fresh, Stands, Check walked.
-/
import Derived.Test.YtbcgffnmbmbjdaaHpN
namespace Go.Proofs.Ytbcgffnmbmbjdaa
open Go Go.RowKit

theorem eqT_of {x f z a g u : _} (h : (x : Int) = a ∧ ((f : ByteArray).toList == (g : ByteArray).toList) = true) : eqT (x, f, (z : Int)) (a, g, (u : Int)) = true := by
  show eqK x f a g = true
  unfold eqK
  rw [h.2]
  simp [h.1]
theorem eqT_not {x f z a g u : _} (h : ¬ ((x : Int) = a ∧ ((f : ByteArray).toList == (g : ByteArray).toList) = true)) : eqT (x, f, (z : Int)) (a, g, (u : Int)) = false := by
  show eqK x f a g = false
  unfold eqK
  by_cases hx : x = a
  · cases hf : (f.toList == g.toList)
    · simp
    · exact absurd ⟨hx, hf⟩ h
  · simp [hx]

set_option maxRecDepth 100000 in
set_option maxHeartbeats 2000000 in
theorem refGet_any {R : Nat → Prop} {w : World} {A : Option Addr} {l : List Tri} {cap : Nat} (hl : Tris R w A l cap) (a : Int) (g : ByteArray) :
    Calls Try.prog 20 #[.slice A l.length cap, .int .i64 a, .string g] w fun e w' => e = .returned (.tuple #[.int .i64 (getP l (a, g, 0)), .bool (hasL l (a, g, 0))]) ∧ Chg No w w' := by
  have HL := Lib.hid (fun W (h : Chg No w W) => hl.no triE_good h)
  have hb := hl.big
  unfold big at hb
  clear hl
  go_enter Try.func20, Try.ntmps20
  go_wp2_with fail
  go_loopw [8] (fun s8 wr => ∃ k : Nat, k ≤ l.length ∧ s8 = .int .i64 k ∧ Hid (Chg No w wr) ∧ Hid (∀ j (h : j < l.length), j < k → eqT l[j] (a, g, 0) = false)) (fun s8 _ => l.length - (intOf s8).toNat)
  case atStart => exact ⟨0, Nat.zero_le _, rfl, Chg.refl _ _, fun j _ h => absurd h (Nat.not_lt_zero j)⟩
  case round =>
    obtain ⟨k, hk, rfl, hch, hI⟩ := hrel
    by_cases hlt : k < l.length
    · obtain ⟨b, off, hA, c0, c1, c2⟩ := (HL.out wr hch.out).tri_at k hlt
      have HF : Hid (eqT l[k] (a, g, 0) = true → getP l (a, g, 0) = l[k].2.2 ∧ hasL l (a, g, 0) = true) := fun h => by
        have e : l.find? (fun x => eqT x (a, g, 0)) = some l[k] := by
          rw [List.find?_eq_some_iff_getElem]
          exact ⟨h, k, hlt, rfl, fun j hj => by simp [hI.out j (by omega) hj]⟩
        refine ⟨by unfold getP; rw [e], ?_⟩
        unfold hasL
        rw [List.any_eq_true]
        exact ⟨_, List.getElem_mem hlt, h⟩
      have HN : Hid (eqT l[k] (a, g, 0) = false → ∀ j (h : j < l.length), j < k + 1 → eqT l[j] (a, g, 0) = false) := fun h j hj hj2 => by
        rcases Nat.lt_or_ge j k with g1 | g1
        · exact hI.out j hj g1
        · obtain rfl : j = k := by omega
          exact h
      subst hA
      generalize l[k] = m at *
      obtain ⟨x, f, z⟩ := m
      dsimp only at c0 c1 c2 HF
      by_cases heq : x = a ∧ (f.toList == g.toList) = true
      · have hF := HF.out (eqT_of heq)
        have HR := Lib.hid hF
        obtain ⟨hx, hf⟩ := heq
        have hdx : (x == a) = true := by simpa using hx
        clear HF HN hF hx
        go_wp2_with fail
        go_ret2
        exact ⟨by rw [HR.out.1, HR.out.2]; rfl, hch.out⟩
      · have HR := Lib.hid (HN.out (eqT_not heq))
        clear HF HN
        by_cases hx : x = a
        case' pos =>
          have hf : (f.toList == g.toList) = false := by
            cases hf : (f.toList == g.toList)
            · rfl
            · exact absurd ⟨hx, hf⟩ heq
          have hdx : (x == a) = true := by simpa using hx
        case' neg => have hdx : (x == a) = false := by simpa using hx
        all_goals
          clear hx heq
          go_wp2_with fail
          go_roundw
          case rel => exact ⟨k + 1, hlt, by go_num, hch.out, HR.out⟩
          case measure => simp [intOf]; omega
    · have hn : hasL l (a, g, 0) = false := by
        unfold hasL
        rw [List.any_eq_false]
        intro x hx
        obtain ⟨j, hj, rfl⟩ := List.getElem_of_mem hx
        rw [hI.out j hj (by omega)]
        simp
      have HR : Hid (getP l (a, g, 0) = 0 ∧ hasL l (a, g, 0) = false) := ⟨getP_no hn, hn⟩
      clear hn
      go_wp2_with fail
      go_ret2
      exact ⟨by rw [HR.out.1, HR.out.2]; rfl, hch.out⟩

theorem dropP_take {l : List Tri} {k : Nat} (c : Tri) (hk : k < l.length) {o : List Tri} (h : dropP (l.take k) c = o) : dropP (l.take (k + 1)) c = if eqT l[k] c = true then o else o ++ [l[k]] := by
  rw [List.take_succ_eq_append_getElem hk]
  unfold dropP at *
  rw [List.filter_append, h]
  cases h2 : eqT l[k] c <;> simp [h2]
theorem dropP_len (l : List Tri) (c : Tri) : (dropP l c).length ≤ l.length := List.length_filter_le _ _
set_option maxRecDepth 100000 in
set_option maxHeartbeats 2000000 in
theorem refDrop_any {R : Nat → Prop} {w : World} {A : Option Addr} {l : List Tri} {cap : Nat} (hl : Tris R w A l cap) (hlen : l.length ≤ 100000) (a : Int) (g : ByteArray) :
    Calls Try.prog 21 #[.slice A l.length cap, .int .i64 a, .string g] w (SetRet w (dropP l (a, g, 0))) := by
  have HL := Lib.hid (fun W (h : Chg No w W) => hl.no triE_good h)
  clear hl
  go_enter Try.func21, Try.ntmps21
  go_wp2_with fail
  go_loopw [7, 8] (fun s7 s8 wr => ∃ (k n cap : Nat) (Ao : Option Addr) (o : List Tri), s8 = .int .i64 k ∧ s7 = .slice Ao n cap ∧ k ≤ l.length ∧ Hid (n = o.length) ∧ Hid (Chg No w wr) ∧ Hid (OTris 39 (fun j => w.heap.size ≤ j) wr (.slice Ao n cap) o) ∧ Hid (dropP (l.take k) (a, g, 0) = o)) (fun _ s8 _ => l.length - (intOf s8).toNat)
  case atStart => exact ⟨0, 0, 0, none, [], rfl, rfl, Nat.zero_le _, rfl, Chg.refl _ _, OwnL.nil _ _ _ _ _, rfl⟩
  case round =>
    obtain ⟨k, n, cap, Ao, o, rfl, rfl, hks, hn, hch, hown, hI⟩ := hrel
    by_cases hlt : k < l.length
    · obtain ⟨b, off, hA, c0, c1, c2⟩ := (HL.out wr hch.out).tri_at k hlt
      have HOK := Lib.hid ((HL.out wr hch.out).tri_ok k hlt)
      have HNX := Lib.hid (dropP_take (a, g, 0) hlt hI.out)
      have HLB : Hid ((o.length + 1) * 32 ≤ 140737488355328) := by
        have h1 := dropP_len (l.take k) (a, g, 0)
        rw [hI.out, List.length_take] at h1
        unfold Hid
        omega
      have HMM : Hid (∀ j, wr.heap.size ≤ j → w.heap.size ≤ j) := fun j hj => Nat.le_trans hch.out.size hj
      subst hA
      generalize l[k] = m at *
      obtain ⟨x, f, z⟩ := m
      dsimp only at c0 c1 c2
      by_cases heq : x = a ∧ (f.toList == g.toList) = true
      · have HR : Hid (dropP (l.take (k + 1)) (a, g, 0) = o) := HNX.out.trans (by rw [if_pos (eqT_of heq)])
        obtain ⟨hx, hf⟩ := heq
        have hdx : (x != a) = false := by simpa using hx
        have hdf : (!(f.toList == g.toList)) = false := by rw [hf]; rfl
        have hdf2 : (f.toList != g.toList) = false := hdf
        clear hx HNX
        go_wp2_with fail
        go_roundw
        case rel => exact ⟨k + 1, n, cap, Ao, o, by go_num, rfl, hlt, hn, hch, hown, HR⟩
        case measure => simp [intOf]; omega
      · have HR : Hid (dropP (l.take (k + 1)) (a, g, 0) = o ++ [(x, f, z)]) := HNX.out.trans (by rw [if_neg (by rw [eqT_not heq]; simp)])
        clear HNX
        by_cases hx : x = a
        case' pos =>
          have hf : (f.toList == g.toList) = false := by
            cases hf : (f.toList == g.toList)
            · rfl
            · exact absurd ⟨hx, hf⟩ heq
          have hdx : (x != a) = false := by simpa using hx
        case' neg => have hdx : (x != a) = true := by simpa using hx
        all_goals
          clear hx heq
          go_wp2_with (at_builtin; refine wpList_pushL triV_good cellsTy rfl (.tmp 31) (.tmp 36) rfl HMM.out hown.out rfl (tri_of (m := (x, f, z)) HOK.out.1 HOK.out.2.1 HOK.out.2.2) (by simp [Value.oneCell']) rfl HLB.out ?_; intro A' cap' w5 g1 g2; have G2 := Lib.hid (OTris.of g1); have G3 := Lib.hid (hch.out.trans g2 (fun q hq hlt => by have := (hown.out.mine _ hq).1; omega)); clear g1 g2)
          go_roundw
          case rel => exact ⟨k + 1, o.length + 1, cap', A', o ++ [(x, f, z)], by go_num, rfl, hlt, by simp [Hid], G3, G2, HR⟩
          case measure => simp [intOf]; omega
    · have hk : k = l.length := by omega
      have HI : Hid (dropP l (a, g, 0) = o) := by have := hI.out; rwa [hk, List.take_length] at this
      go_wp2_with fail
      go_ret
      exact ⟨Ao, n, cap, rfl, by rw [HI.out]; exact hn.out, by rw [HI.out]; exact hown.out, hch.out⟩
end Go.Proofs.Ytbcgffnmbmbjdaa
