/-
  formula.Check and the reference's Check.
-/
import Derived.Test.YtlejcnbpodmleaaFrmF
import Derived.Test.YtlejcnbpodmleaaCode
namespace Go.Proofs.Ytlejcnbpodmleaa
open Go Go.RowKit

theorem goF_cnt {α : Type} {s : α → Int → Int} {c : α → Nat} : ∀ (ks : List α) (l : Int), (∀ k ∈ ks, ∀ l, (c k : Int) ≤ l → s k l = l - c k) → ((ks.map c).sum : Int) ≤ l → goF s ks l = l - (ks.map c).sum
  | [], l, _, _ => by simp [goF]
  | k :: ks, l, h, hl => by
    rw [List.map_cons, List.sum_cons] at hl ⊢
    unfold goF
    rw [if_pos (by omega), h k List.mem_cons_self l (by omega), goF_cnt ks _ (fun k hk => h k (List.mem_cons_of_mem _ hk)) (by omega)]
    omega
theorem size_of_cnt : ∀ (n : Nat) (f : FT n) (l : Int), (cntF n f : Int) ≤ l → sizeF n f l = l - cntF n f
  | 0, _, l, _ => by simp [sizeF, cntF]
  | n + 1, f, l, h => by
    have e : cntF (n + 1) f = 1 + ((Node.kids f).map (cntF n)).sum := rfl
    rw [e] at h ⊢
    show goF (sizeF n) (Node.kids f) (l - 1) = _
    rw [goF_cnt (Node.kids f) (l - 1) (fun k _ l hl => size_of_cnt n k l hl) (by omega)]
    omega
theorem size_neg (n : Nat) (f : FT n) (l : Int) (h0 : 0 ≤ l) : sizeF n f l < 0 ↔ l < cntF n f := by
  constructor
  · intro h
    rcases Int.lt_or_le l (cntF n f) with g | g
    · exact g
    · have := size_of_cnt n f l g; omega
  · intro h
    rcases Int.lt_or_le (sizeF n f l) 0 with g | g
    · exact g
    · have := size_cnt n f l h0 g; omega
/-- What is amiss with a formula. -/
def chkF (n : Nat) (f : FT n) : Int := if 64 < depthF n f 64 then 4 else if 4096 < cntF n f then 2 else if fineF n f = true then 0 else 5
theorem chkF_range (n : Nat) (f : FT n) : 0 ≤ chkF n f ∧ chkF n f ≤ 16 := by
  unfold chkF
  split
  · omega
  · split
    · omega
    · split <;> omega
theorem chkF_zero {n : Nat} {f : FT n} (h : chkF n f = 0) : depthF n f 64 ≤ 64 ∧ cntF n f ≤ 4096 ∧ fineF n f = true := by
  unfold chkF at h
  split at h
  · omega
  · split at h
    · omega
    · split at h
      · rename_i h1 h2 h3
        exact ⟨by omega, by omega, h3⟩
      · omega

set_option maxHeartbeats 1000000 in
theorem formCheck_any {n : Nat} {f : FT n} {R : Nat → Prop} {w : World} {cs : List Value} (h : (formV n) R w cs f) :
    Calls Try.prog 31 #[.agg cs.toArray] w fun e w' => e = .returned (errV 43 (chkF n f)) ∧ Chg No w w' := by
  have hg := formV_good n
  obtain ⟨kd, c, A, tl, cap, B, kl, capk, rfl⟩ := shape4 h
  have HD := Lib.hid (fun W (hc : Chg No w W) z => deep_any n f R W _ (hg.no h hc) 64 z)
  have HS := Lib.hid (fun (hd : depthF n f 64 ≤ 64) W (hc : Chg No w W) => formSize_any n f R W _ (hg.no h hc) 64 (by omega) hd)
  have HF := Lib.hid (fun W (hc : Chg No w W) => fine_any n f R W _ (hg.no h hc))
  clear h
  unfold chkF
  generalize depthF n f 64 = d at *
  generalize cntF n f = s at *
  generalize fineF n f = o at *
  have hcw : Hid (Chg No w (w.alloc (.cells #[.int .i64 kd, .int .i64 c, .slice A tl cap, .slice B kl capk] 27)) ∧ (w.alloc (.cells #[.int .i64 kd, .int .i64 c, .slice A tl cap, .slice B kl capk] 27)).heap[w.heap.size]? = some (.cells #[.int .i64 kd, .int .i64 c, .slice A tl cap, .slice B kl capk] 27 (0, 0))) := ⟨(Chg.refl _ _).alloc _, heap_alloc_new _ _⟩
  have ST : Hid (∀ W W', (Chg No w W ∧ W.heap[w.heap.size]? = some (.cells #[.int .i64 kd, .int .i64 c, .slice A tl cap, .slice B kl capk] 27 (0, 0))) → Chg No W W' → (Chg No w W' ∧ W'.heap[w.heap.size]? = some (.cells #[.int .i64 kd, .int .i64 c, .slice A tl cap, .slice B kl capk] 27 (0, 0)))) := fun W W' h h' => ⟨h.1.thenNo h', h'.obj h.2 id⟩
  by_cases hd : 64 < d
  · rw [if_pos hd, errV_of _ (by decide)]
    have e1 : decide (64 < d) = true := by simpa using hd
    rw [e1] at HD
    go_enter Try.func31, Try.ntmps31
    go_wp2_with (go_at_call 51; refine (HD.out _ hcw.out.1 _ (by rfl) (by omega)).mono ?_; rintro e w1 ⟨rfl, h1⟩; have H1 := Lib.hid (ST.out _ _ hcw.out h1); obtain ⟨p0, p1, p2, p3⟩ := obj_four H1.out.2; clear h1)
    go_ret
    exact ⟨rfl, H1.out.1⟩
  rw [if_neg hd]
  have HS1 := Lib.hid (HS.out (by omega))
  have e1 : decide (64 < d) = false := by simpa using hd
  rw [e1] at HD
  clear HS
  by_cases hs : 4096 < s
  · rw [if_pos hs, errV_of _ (by decide)]
    have hs' : Hid (∀ x : Nat, (x ≤ 4096 ∨ s ≤ 4096 → x = s) → (4096 : Int) < x) := fun x hx => by
      rcases Nat.lt_or_ge 4096 x with g | g
      · omega
      · have := hx (.inl g); omega
    clear hs
    go_enter Try.func31, Try.ntmps31
    go_wp2_with (first
      | (go_at_call 51; refine (HD.out _ hcw.out.1 _ (by rfl) (by omega)).mono ?_; rintro e w1 ⟨rfl, h1⟩; have H1 := Lib.hid (ST.out _ _ hcw.out h1); obtain ⟨p0, p1, p2, p3⟩ := obj_four H1.out.2; clear h1)
      | (go_at_call 52; refine (HS1.out _ H1.out.1).mono ?_; rintro e w2 ⟨x, rfl, _, hx, h2⟩; have H2 := Lib.hid (ST.out _ _ H1.out h2); obtain ⟨q0, q1, q2, q3⟩ := obj_four H2.out.2; have hx' := hs'.out x hx.out; clear h2 hx))
    go_ret
    exact ⟨rfl, H2.out.1⟩
  rw [if_neg hs]
  have hs' : Hid (∀ x : Nat, (x ≤ 4096 ∨ s ≤ 4096 → x = s) → ¬ (4096 : Int) < x) := fun x hx => by
    have := hx (.inr (by omega)); omega
  clear hs
  cases o
  · rw [if_neg (by decide), errV_of _ (by decide)]
    go_enter Try.func31, Try.ntmps31
    go_wp2_with (first
      | (go_at_call 51; refine (HD.out _ hcw.out.1 _ (by rfl) (by omega)).mono ?_; rintro e w1 ⟨rfl, h1⟩; have H1 := Lib.hid (ST.out _ _ hcw.out h1); obtain ⟨p0, p1, p2, p3⟩ := obj_four H1.out.2; clear h1)
      | (go_at_call 52; refine (HS1.out _ H1.out.1).mono ?_; rintro e w2 ⟨x, rfl, _, hx, h2⟩; have H2 := Lib.hid (ST.out _ _ H1.out h2); obtain ⟨q0, q1, q2, q3⟩ := obj_four H2.out.2; have hx' := hs'.out x hx.out; clear h2 hx)
      | (go_at_call 53; refine (HF.out _ H2.out.1).mono ?_; rintro e w3 ⟨rfl, h3⟩))
    go_ret
    exact ⟨rfl, H2.out.1.thenNo h3⟩
  · rw [if_pos rfl, errV_zero]
    go_enter Try.func31, Try.ntmps31
    go_wp2_with (first
      | (go_at_call 51; refine (HD.out _ hcw.out.1 _ (by rfl) (by omega)).mono ?_; rintro e w1 ⟨rfl, h1⟩; have H1 := Lib.hid (ST.out _ _ hcw.out h1); obtain ⟨p0, p1, p2, p3⟩ := obj_four H1.out.2; clear h1)
      | (go_at_call 52; refine (HS1.out _ H1.out.1).mono ?_; rintro e w2 ⟨x, rfl, _, hx, h2⟩; have H2 := Lib.hid (ST.out _ _ H1.out h2); obtain ⟨q0, q1, q2, q3⟩ := obj_four H2.out.2; have hx' := hs'.out x hx.out; clear h2 hx)
      | (go_at_call 53; refine (HF.out _ H2.out.1).mono ?_; rintro e w3 ⟨rfl, h3⟩))
    go_ret
    exact ⟨rfl, H2.out.1.thenNo h3⟩

set_option maxHeartbeats 1000000 in
theorem refFormCheck_any {n : Nat} {f : FT n} {R : Nat → Prop} {w : World} {cs : List Value} (h : (formV n) R w cs f) :
    Calls Try.prog 33 #[.agg cs.toArray] w fun e w' => e = .returned (.int .i64 (chkF n f)) ∧ Chg No w w' := by
  have hg := formV_good n
  obtain ⟨kd, c, A, tl, cap, B, kl, capk, rfl⟩ := shape4 h
  have HD := Lib.hid (fun W (hc : Chg No w W) z => refDepth_any n f R W _ (hg.no h hc) 64 z)
  have HS := Lib.hid (fun W (hc : Chg No w W) => refSize_any n f R W _ (hg.no h hc) 4096 (by omega) (by omega))
  have HF := Lib.hid (fun W (hc : Chg No w W) => refFine_any n f R W _ (hg.no h hc))
  have HN := size_neg n f 4096 (by omega)
  clear h
  unfold chkF
  generalize depthF n f 64 = d at *
  generalize cntF n f = s at *
  generalize sizeF n f 4096 = sz at *
  generalize fineF n f = o at *
  have hcw : Hid (Chg No w (w.alloc (.cells #[.int .i64 kd, .int .i64 c, .slice A tl cap, .slice B kl capk] 27)) ∧ (w.alloc (.cells #[.int .i64 kd, .int .i64 c, .slice A tl cap, .slice B kl capk] 27)).heap[w.heap.size]? = some (.cells #[.int .i64 kd, .int .i64 c, .slice A tl cap, .slice B kl capk] 27 (0, 0))) := ⟨(Chg.refl _ _).alloc _, heap_alloc_new _ _⟩
  have ST : Hid (∀ W W', (Chg No w W ∧ W.heap[w.heap.size]? = some (.cells #[.int .i64 kd, .int .i64 c, .slice A tl cap, .slice B kl capk] 27 (0, 0))) → Chg No W W' → (Chg No w W' ∧ W'.heap[w.heap.size]? = some (.cells #[.int .i64 kd, .int .i64 c, .slice A tl cap, .slice B kl capk] 27 (0, 0)))) := fun W W' h h' => ⟨h.1.thenNo h', h'.obj h.2 id⟩
  by_cases hd : 64 < d
  · rw [if_pos hd]
    have hd' : (64 : Int) < d := by omega
    clear HN
    go_enter Try.func33, Try.ntmps33
    go_wp2_with (go_at_call 46; refine (HD.out _ hcw.out.1 _ (by rfl) (by omega)).mono ?_; rintro e w1 ⟨rfl, h1⟩; have H1 := Lib.hid (ST.out _ _ hcw.out h1); obtain ⟨p0, p1, p2, p3⟩ := obj_four H1.out.2; clear h1)
    go_ret
    exact ⟨rfl, H1.out.1⟩
  rw [if_neg hd]
  have hd' : ¬ (64 : Int) < d := by omega
  by_cases hs : 4096 < s
  · rw [if_pos hs]
    have hs' : sz < 0 := HN.2 (by omega)
    clear HN
    go_enter Try.func33, Try.ntmps33
    go_wp2_with (first
      | (go_at_call 46; refine (HD.out _ hcw.out.1 _ (by rfl) (by omega)).mono ?_; rintro e w1 ⟨rfl, h1⟩; have H1 := Lib.hid (ST.out _ _ hcw.out h1); obtain ⟨p0, p1, p2, p3⟩ := obj_four H1.out.2; clear h1)
      | (go_at_call 47; refine (HS.out _ H1.out.1).mono ?_; rintro e w2 ⟨rfl, h2⟩; have H2 := Lib.hid (ST.out _ _ H1.out h2); obtain ⟨q0, q1, q2, q3⟩ := obj_four H2.out.2; clear h2))
    go_ret
    exact ⟨rfl, H2.out.1⟩
  rw [if_neg hs]
  have hs' : ¬ sz < 0 := fun h => hs (by have := HN.1 h; omega)
  clear HN
  cases o
  · rw [if_neg (by decide)]
    go_enter Try.func33, Try.ntmps33
    go_wp2_with (first
      | (go_at_call 46; refine (HD.out _ hcw.out.1 _ (by rfl) (by omega)).mono ?_; rintro e w1 ⟨rfl, h1⟩; have H1 := Lib.hid (ST.out _ _ hcw.out h1); obtain ⟨p0, p1, p2, p3⟩ := obj_four H1.out.2; clear h1)
      | (go_at_call 47; refine (HS.out _ H1.out.1).mono ?_; rintro e w2 ⟨rfl, h2⟩; have H2 := Lib.hid (ST.out _ _ H1.out h2); obtain ⟨q0, q1, q2, q3⟩ := obj_four H2.out.2; clear h2)
      | (go_at_call 56; refine (HF.out _ H2.out.1).mono ?_; rintro e w3 ⟨rfl, h3⟩))
    go_ret
    exact ⟨rfl, H2.out.1.thenNo h3⟩
  · rw [if_pos rfl]
    go_enter Try.func33, Try.ntmps33
    go_wp2_with (first
      | (go_at_call 46; refine (HD.out _ hcw.out.1 _ (by rfl) (by omega)).mono ?_; rintro e w1 ⟨rfl, h1⟩; have H1 := Lib.hid (ST.out _ _ hcw.out h1); obtain ⟨p0, p1, p2, p3⟩ := obj_four H1.out.2; clear h1)
      | (go_at_call 47; refine (HS.out _ H1.out.1).mono ?_; rintro e w2 ⟨rfl, h2⟩; have H2 := Lib.hid (ST.out _ _ H1.out h2); obtain ⟨q0, q1, q2, q3⟩ := obj_four H2.out.2; clear h2)
      | (go_at_call 56; refine (HF.out _ H2.out.1).mono ?_; rintro e w3 ⟨rfl, h3⟩))
    go_ret
    exact ⟨rfl, H2.out.1.thenNo h3⟩
end Go.Proofs.Ytlejcnbpodmleaa
