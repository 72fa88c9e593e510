/-
  The document's examples at the head of layer 7.
-/
import Derived.Test.YtbbcodpoiikkdaaDoorRupA
import Derived.Test.YtbbcodpoiikkdaaDoorDoorB
namespace Go.Proofs.YtbbcodpoiikkdaaDoor
open Go Go.RowKit

theorem i64_small {x : Int} (h : -1000 ≤ x ∧ x ≤ 1000) : I64 x := I64.of (by omega) (by omega)
theorem exL1 : RupIs 1 [[1], [-1]] [[]] 0 (-1) := .inr (.inr (.inr ⟨by decide, by decide, fun i hi => by
  obtain rfl : i = 0 := by simp at hi; omega
  rintro ⟨a, h⟩
  refine h.fine (.inl ⟨1, by decide, .unit (c := [1]) (by simp) (by simp) (fun m hm hne => ?_), .unit (c := [-1]) (by simp) (by simp) (fun m hm hne => ?_)⟩)
  · simp at hm; exact absurd hm hne
  · simp at hm; exact absurd hm hne, rfl, by simp⟩))
theorem exL2 : RupIs 1 [[1]] [[]] 9 0 := .inr (.inr (.inl ⟨by decide, by decide, 0, by decide, rfl, rfl, fun h => by
  refine h (fol_ex (right_fol (n := 1) (values := [true]) (fun c hc => ?_) (fun l hl => ?_) (fun c hc => ?_)))
  · simp at hc; subst hc; intro l hl; simp at hl; subst hl; exact ⟨by decide, by decide⟩
  · simp [negL] at hl
  · simp at hc; subst hc; decide, fun j hj => absurd hj (Nat.not_lt_zero j)⟩))
theorem exL3 : RupIs 1 [[1]] [] 8 (-1) := .inr (.inr (.inr ⟨by decide, by decide, fun i hi => absurd hi (Nat.not_lt_zero i), rfl, by simp⟩))

/-- rup.Check where what is amiss is known: a code, or nothing. -/
theorem rup_code {R R' : Nat → Prop} {w : World} (n : Int) {A B : Option Addr} {cl st : List (List Int)} {ca cb : Nat} (hcl : Rows2 R w A cl ca) (hst : Rows2 R' w B st cb) (hlen : st.length ≤ 1000000) {c : Int} (h : RupIs n cl st c (-1)) :
    Calls Tryd.prog 9 #[.int .i64 n, .slice A cl.length ca, .slice B st.length cb] w fun e w' => e = .returned (errV 36 c) ∧ 0 ≤ c ∧ c ≤ 16 ∧ Chg No w w' :=
  (rupCheck_any n hcl hst hlen).mono (by
    rintro e w' ⟨hch, c', p', hi, hc⟩
    obtain ⟨rfl, rfl⟩ := rupIs_unique h hi
    rcases hc with ⟨_, h1, h2, rfl⟩ | ⟨hp, _⟩
    · exact ⟨rfl, h1, h2, hch⟩
    · omega)
/-- rup.Check where a step doesn't follow. -/
theorem rup_spot {R R' : Nat → Prop} {w : World} (n : Int) {A B : Option Addr} {cl st : List (List Int)} {ca cb : Nat} (hcl : Rows2 R w A cl ca) (hst : Rows2 R' w B st cb) (hlen : st.length ≤ 1000000) {c p : Int} (h : RupIs n cl st c p) (hp : 0 ≤ p) :
    Calls Tryd.prog 9 #[.int .i64 n, .slice A cl.length ca, .slice B st.length cb] w fun e w' => ∃ q, e = .returned (.iface 42 (.pointer (some ⟨q, 0, none⟩))) ∧ w.heap.size ≤ q ∧ c = 9 ∧ w'.heap[q]? = some (.cells #[.int .i64 p, .iface 36 (.int .i64 9)] 44 (0, 0)) ∧ Chg No w w' :=
  (rupCheck_any n hcl hst hlen).mono (by
    rintro e w' ⟨hch, c', p', hi, hc⟩
    obtain ⟨rfl, rfl⟩ := rupIs_unique h hi
    rcases hc with ⟨h0, _⟩ | ⟨_, rfl, q, hq, rfl, hb⟩
    · omega
    · exact ⟨q, rfl, hq, rfl, hb, hch⟩)

theorem rup_ex1 (w : World) : Calls Tryd.prog 9 #[.int .i64 1, .slice (some ⟨w.heap.size + 1 + 1, 0, none⟩) 2 2, .slice (some ⟨w.heap.size + 1 + 1 + 1 + 1, 0, none⟩) 1 1]
    (((((w.alloc (.cells #[.int .i64 1] 3)).alloc (.cells #[.int .i64 (-1)] 3)).alloc (.cells #[.slice (some ⟨w.heap.size, 0, none⟩) 1 1, .slice (some ⟨w.heap.size + 1, 0, none⟩) 1 1] 33)).alloc (.cells #[] 3)).alloc (.cells #[.slice (some ⟨w.heap.size + 1 + 1 + 1, 0, none⟩) 0 0] 33))
    fun e w' => e = .returned .nilIface ∧ Chg No w w' := by
  generalize hW : ((((w.alloc (.cells #[.int .i64 1] 3)).alloc (.cells #[.int .i64 (-1)] 3)).alloc (.cells #[.slice (some ⟨w.heap.size, 0, none⟩) 1 1, .slice (some ⟨w.heap.size + 1, 0, none⟩) 1 1] 33)).alloc (.cells #[] 3)).alloc (.cells #[.slice (some ⟨w.heap.size + 1 + 1 + 1, 0, none⟩) 0 0] 33) = W
  have h0 : W.heap[w.heap.size]? = some (.cells #[.int .i64 1] 3) := by subst hW; repeat (first | exact at_new (by simp) | apply at_old)
  have h1 : W.heap[w.heap.size + 1]? = some (.cells #[.int .i64 (-1)] 3) := by subst hW; repeat (first | exact at_new (by simp) | apply at_old)
  have h2 : W.heap[w.heap.size + 1 + 1]? = some (.cells #[.slice (some ⟨w.heap.size, 0, none⟩) 1 1, .slice (some ⟨w.heap.size + 1, 0, none⟩) 1 1] 33) := by subst hW; repeat (first | exact at_new (by simp) | apply at_old)
  have h3 : W.heap[w.heap.size + 1 + 1 + 1]? = some (.cells #[] 3) := by subst hW; repeat (first | exact at_new (by simp) | apply at_old)
  have h4 : W.heap[w.heap.size + 1 + 1 + 1 + 1]? = some (.cells #[.slice (some ⟨w.heap.size + 1 + 1 + 1, 0, none⟩) 0 0] 33) := by subst hW; repeat (first | exact at_new (by simp) | apply at_old)
  have hc : Chg No w W := by rw [← hW]; exact (((((Chg.refl _ _).alloc _).alloc _).alloc _).alloc _).alloc _
  have hcl : Rows2 (fun _ => True) W (some ⟨w.heap.size + 1 + 1, 0, none⟩) [[1], [-1]] 2 := rows_of_block (V := [.slice (some ⟨w.heap.size, 0, none⟩) 1 1, .slice (some ⟨w.heap.size + 1, 0, none⟩) 1 1]) h2 trivial (by decide) rfl (fun i hi hi' => by
    have : i = 0 ∨ i = 1 := by simp at hi; omega
    rcases this with rfl | rfl
    · exact ⟨_, 1, rfl, ints_of_block (l := [1]) h0 trivial (by decide) (fun x hx => i64_small (by simp at hx; omega))⟩
    · exact ⟨_, 1, rfl, ints_of_block (l := [-1]) h1 trivial (by decide) (fun x hx => i64_small (by simp at hx; omega))⟩)
  have hst : Rows2 (fun _ => True) W (some ⟨w.heap.size + 1 + 1 + 1 + 1, 0, none⟩) [[]] 1 := rows_of_block (V := [.slice (some ⟨w.heap.size + 1 + 1 + 1, 0, none⟩) 0 0]) h4 trivial (by decide) rfl (fun i hi hi' => by
    obtain rfl : i = 0 := by simp at hi; omega
    exact ⟨_, 0, rfl, ints_of_block (l := []) h3 trivial (by decide) (fun x hx => by cases hx)⟩)
  refine (rup_code 1 hcl hst (by decide) exL1).mono ?_
  rintro e w' ⟨rfl, _, _, hch⟩
  exact ⟨by rw [errV_zero], hc.thenNo hch⟩

theorem rup_ex2 (w : World) : Calls Tryd.prog 9 #[.int .i64 1, .slice (some ⟨w.heap.size + 1, 0, none⟩) 1 1, .slice (some ⟨w.heap.size + 1 + 1 + 1, 0, none⟩) 1 1]
    ((((w.alloc (.cells #[.int .i64 1] 3)).alloc (.cells #[.slice (some ⟨w.heap.size, 0, none⟩) 1 1] 33)).alloc (.cells #[] 3)).alloc (.cells #[.slice (some ⟨w.heap.size + 1 + 1, 0, none⟩) 0 0] 33))
    fun e w' => ∃ q, e = .returned (.iface 42 (.pointer (some ⟨q, 0, none⟩))) ∧ w'.cell? ⟨q, 0, none⟩ = some (.int .i64 0) ∧ w'.cell? ⟨q, 0 + 1, none⟩ = some (.iface 36 (.int .i64 9)) ∧ Chg No w w' := by
  generalize hW : (((w.alloc (.cells #[.int .i64 1] 3)).alloc (.cells #[.slice (some ⟨w.heap.size, 0, none⟩) 1 1] 33)).alloc (.cells #[] 3)).alloc (.cells #[.slice (some ⟨w.heap.size + 1 + 1, 0, none⟩) 0 0] 33) = W
  have h0 : W.heap[w.heap.size]? = some (.cells #[.int .i64 1] 3) := by subst hW; repeat (first | exact at_new (by simp) | apply at_old)
  have h2 : W.heap[w.heap.size + 1]? = some (.cells #[.slice (some ⟨w.heap.size, 0, none⟩) 1 1] 33) := by subst hW; repeat (first | exact at_new (by simp) | apply at_old)
  have h3 : W.heap[w.heap.size + 1 + 1]? = some (.cells #[] 3) := by subst hW; repeat (first | exact at_new (by simp) | apply at_old)
  have h4 : W.heap[w.heap.size + 1 + 1 + 1]? = some (.cells #[.slice (some ⟨w.heap.size + 1 + 1, 0, none⟩) 0 0] 33) := by subst hW; repeat (first | exact at_new (by simp) | apply at_old)
  have hc : Chg No w W := by rw [← hW]; exact ((((Chg.refl _ _).alloc _).alloc _).alloc _).alloc _
  have hcl : Rows2 (fun _ => True) W (some ⟨w.heap.size + 1, 0, none⟩) [[1]] 1 := rows_of_block (V := [.slice (some ⟨w.heap.size, 0, none⟩) 1 1]) h2 trivial (by decide) rfl (fun i hi hi' => by
    obtain rfl : i = 0 := by simp at hi; omega
    exact ⟨_, 1, rfl, ints_of_block (l := [1]) h0 trivial (by decide) (fun x hx => i64_small (by simp at hx; omega))⟩)
  have hst : Rows2 (fun _ => True) W (some ⟨w.heap.size + 1 + 1 + 1, 0, none⟩) [[]] 1 := rows_of_block (V := [.slice (some ⟨w.heap.size + 1 + 1, 0, none⟩) 0 0]) h4 trivial (by decide) rfl (fun i hi hi' => by
    obtain rfl : i = 0 := by simp at hi; omega
    exact ⟨_, 0, rfl, ints_of_block (l := []) h3 trivial (by decide) (fun x hx => by cases hx)⟩)
  refine (rup_spot 1 hcl hst (by decide) exL2 (by decide)).mono ?_
  rintro e w' ⟨q, rfl, _, _, hb, hch⟩
  exact ⟨q, rfl, by simp [World.cell?, hb], by simp [World.cell?, hb], hc.thenNo hch⟩

theorem rup_ex3 (w : World) : Calls Tryd.prog 9 #[.int .i64 1, .slice (some ⟨w.heap.size + 1, 0, none⟩) 1 1, .slice none 0 0]
    ((w.alloc (.cells #[.int .i64 1] 3)).alloc (.cells #[.slice (some ⟨w.heap.size, 0, none⟩) 1 1] 33))
    fun e w' => e = .returned (.iface 36 (.int .i64 8)) ∧ Chg No w w' := by
  generalize hW : (w.alloc (.cells #[.int .i64 1] 3)).alloc (.cells #[.slice (some ⟨w.heap.size, 0, none⟩) 1 1] 33) = W
  have h0 : W.heap[w.heap.size]? = some (.cells #[.int .i64 1] 3) := by subst hW; repeat (first | exact at_new (by simp) | apply at_old)
  have h2 : W.heap[w.heap.size + 1]? = some (.cells #[.slice (some ⟨w.heap.size, 0, none⟩) 1 1] 33) := by subst hW; repeat (first | exact at_new (by simp) | apply at_old)
  have hc : Chg No w W := by rw [← hW]; exact ((Chg.refl _ _).alloc _).alloc _
  have hcl : Rows2 (fun _ => True) W (some ⟨w.heap.size + 1, 0, none⟩) [[1]] 1 := rows_of_block (V := [.slice (some ⟨w.heap.size, 0, none⟩) 1 1]) h2 trivial (by decide) rfl (fun i hi hi' => by
    obtain rfl : i = 0 := by simp at hi; omega
    exact ⟨_, 1, rfl, ints_of_block (l := [1]) h0 trivial (by decide) (fun x hx => i64_small (by simp at hx; omega))⟩)
  have hst : Rows2 (fun _ => True) W none [] 0 := Sl.empty
  refine (rup_code 1 hcl hst (by decide) exL3).mono ?_
  rintro e w' ⟨rfl, _, _, hch⟩
  exact ⟨by rw [errV_of _ (by decide)], hc.thenNo hch⟩

set_option maxHeartbeats 1000000 in
theorem up_any (w : World) (hg : Handle w) : Calls Tryd.prog 7 #[] w fun e w' => e = .returned (.bool true) ∧ Chg No w w' := by
  have HG := Lib.hid hg
  have H1 := Lib.hid (rup_ex1 w)
  have H2 := Lib.hid rup_ex2
  have H3 := Lib.hid rup_ex3
  have HI := Lib.hid lawIs
  obtain ⟨j, hj, hjc⟩ := errInfo
  have heq := fun W => run_eql_iface_ints (P := Tryd.prog) W 8 8 Tryd.underlying26 Tryd.underlying36 hj hjc
  simp only [beq_self_eq_true] at heq
  clear hg hj hjc
  go_enter Tryd.func7, Tryd.ntmps7
  go_upto_region 2 with (go_at_call 9; refine H1.out.mono ?_; rintro e w1 ⟨rfl, hc1⟩; have HC1 := Lib.hid hc1; clear hc1)
  clear H1
  go_upto_region 3 with (go_at_call 9; refine (H2.out w1).mono ?_; rintro e w2 ⟨q, rfl, h0, h1, hc2⟩; have HC2 := Lib.hid hc2; clear hc2)
  clear H2
  have H4 : Hid (Calls Tryd.prog 14 #[.iface 42 (.pointer (some ⟨q, 0, none⟩)), .int .i64 0, .int .i64 9] w2 fun e w' => e = .returned (.bool true) ∧ Hid (Chg No w w')) :=
    (HI.out q 0 0 9 w2 ((HG.out.no HC1.out).no HC2.out) h0 h1).mono (fun e w' ⟨he, h⟩ => ⟨he, (HC1.out.thenNo HC2.out).thenNo h⟩)
  clear HI h0 h1
  go_wp2_with (first
    | (go_at_call 14; refine H4.out.mono ?_; rintro e w3 ⟨rfl, HC3⟩)
    | (go_at_call 9; refine (H3.out w3).mono ?_; rintro e w4 ⟨rfl, hc4⟩; have HC4 := Lib.hid hc4; clear hc4))
  go_ret
  exact ⟨rfl, HC3.out.thenNo HC4.out⟩
end Go.Proofs.YtbbcodpoiikkdaaDoor
