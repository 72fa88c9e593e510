/-
  Walks over package prop's assignment that grows: of, set, look.
-/
import Derived.Test.YtbbcodpoiikkdaaDoorOwn
import Derived.Test.YtbbcodpoiikkdaaDoorProp1
namespace Go.Proofs.YtbbcodpoiikkdaaDoor
open Go Go.RowKit

/-- A literal's value in an assignment. -/
def val (a : List Int) (l : Int) : Int := if l < 0 then -(a.getD l.natAbs 0) else a.getD l.natAbs 0
/-- A literal made true. -/
def assign (a : List Int) (l : Int) : List Int := a.set l.natAbs (if 0 < l then 1 else -1)

theorem intsTy : SliceTy Tryd.prog 33 3 1 8 (.int .i64 0) where
  sl := by kernel_rfl
  info := by kernel_rfl
  zs := rfl
  pos := by decide
  bpos := by decide

/-- The assignment a and the queue q of the state at p. -/
structure St (M : Nat → Prop) (w : World) (p ba : Nat) (a q : List Int) : Prop where
  ex : ∃ Q, w.heap[p]? = some (.cells #[.slice (some ⟨ba, 0, none⟩) a.length a.length, Q] 61 (0, 0)) ∧ Own (fun k => M k ∧ k ≠ p ∧ k ≠ ba) 3 1 w Q q.length (q.map (Value.int .i64))
  arr : w.heap[ba]? = some (.cells (a.map (Value.int .i64)).toArray 3 (0, 0))
  mp : M p
  mb : M ba
  ne : p ≠ ba
  vals : ∀ x ∈ a, x = 0 ∨ x = 1 ∨ x = -1
  len : a.length ≤ 10000

theorem St.cellA {M : Nat → Prop} {w : World} {p ba : Nat} {a q : List Int} (h : St M w p ba a q) : w.cell? ⟨p, 0, none⟩ = some (.slice (some ⟨ba, 0, none⟩) a.length a.length) := by
  obtain ⟨Q, hp, _⟩ := h.ex
  simp [World.cell?, hp]
theorem St.at {M : Nat → Prop} {w : World} {p ba : Nat} {a q : List Int} (h : St M w p ba a q) (i : Nat) (hi : i < a.length) : w.cell? ⟨ba, i, none⟩ = some (.int .i64 (a.getD i 0)) := by
  simp [World.cell?, h.arr, hi, List.getD]
theorem getD_vals {a : List Int} (h : ∀ x ∈ a, x = 0 ∨ x = 1 ∨ x = -1) (i : Nat) : a.getD i 0 = 0 ∨ a.getD i 0 = 1 ∨ a.getD i 0 = -1 := by
  by_cases hi : i < a.length
  · have := h a[i] (List.getElem_mem hi)
    simpa [List.getD, hi] using this
  · simp [List.getD, Nat.le_of_not_lt hi]
theorem val_vals {a : List Int} (h : ∀ x ∈ a, x = 0 ∨ x = 1 ∨ x = -1) (l : Int) : val a l = 0 ∨ val a l = 1 ∨ val a l = -1 := by
  have := getD_vals h l.natAbs
  unfold val
  split <;> omega

set_option maxHeartbeats 400000 in
theorem of_any {M : Nat → Prop} {w : World} {p ba : Nat} {a q : List Int} (h : St M w p ba a q) (l : Int) (hl : l.natAbs < a.length) :
    Calls Tryd.prog 46 #[.pointer (some ⟨p, 0, none⟩), .int .i64 l] w fun e w' => e = .returned (.int .i64 (val a l)) ∧ w = w' := by
  have hA := h.cellA
  have hc := h.at l.natAbs hl
  have hv := getD_vals h.vals l.natAbs
  have hlen := h.len
  clear h
  by_cases h0 : l < 0
  · obtain ⟨k, rfl⟩ : ∃ k : Nat, l = -(k : Int) := ⟨l.natAbs, by omega⟩
    have e1 : (-(k : Int)).natAbs = k := by omega
    rw [e1] at hl hc hv
    have Hf := Lib.hid (show val a (-(k : Int)) = -(a.getD k 0) by unfold val; rw [if_pos h0, e1])
    generalize a.getD k 0 = x at *
    have hx : -1 ≤ x ∧ x ≤ 1 := by omega
    clear hv e1
    obtain ⟨hx1, hx2⟩ := hx
    go_enter Tryd.func46, Tryd.ntmps46
    go_wp2
    go_ret
    exact ⟨ret_int Hf.out.symm, rfl⟩
  · obtain ⟨k, rfl⟩ : ∃ k : Nat, l = (k : Int) := ⟨l.natAbs, by omega⟩
    rw [Int.natAbs_natCast] at hl hc hv
    have Hf := Lib.hid (show val a (k : Int) = a.getD k 0 by unfold val; rw [if_neg h0, Int.natAbs_natCast])
    generalize a.getD k 0 = x at *
    clear hv
    go_enter Tryd.func46, Tryd.ntmps46
    go_wp2
    go_ret
    exact ⟨ret_int Hf.out.symm, rfl⟩

set_option maxHeartbeats 400000 in
theorem set_no {M : Nat → Prop} {w : World} {p ba : Nat} {a q : List Int} (h : St M w p ba a q) (l : Int) (hl : l.natAbs < a.length) (hv : val a l = -1) :
    Calls Tryd.prog 33 #[.pointer (some ⟨p, 0, none⟩), .int .i64 l] w fun e w' => e = .returned (.bool false) ∧ w = w' := by
  have H := of_any h l hl
  rw [hv] at H
  have HH := Lib.hid H
  clear H
  clear h hv
  go_enter Tryd.func33, Tryd.ntmps33
  go_wp2_with (refine HH.out.mono ?_; rintro e w1 ⟨rfl, rfl⟩)
  go_ret
  exact ⟨rfl, rfl⟩

set_option maxHeartbeats 400000 in
theorem set_yes {M : Nat → Prop} {w : World} {p ba : Nat} {a q : List Int} (h : St M w p ba a q) (l : Int) (hl : l.natAbs < a.length) (hv : val a l = 1) :
    Calls Tryd.prog 33 #[.pointer (some ⟨p, 0, none⟩), .int .i64 l] w fun e w' => e = .returned (.bool true) ∧ w = w' := by
  have H := of_any h l hl
  rw [hv] at H
  have HH := Lib.hid H
  clear H
  clear h hv
  go_enter Tryd.func33, Tryd.ntmps33
  go_wp2_with (refine HH.out.mono ?_; rintro e w1 ⟨rfl, rfl⟩)
  go_ret
  exact ⟨rfl, rfl⟩

theorem St.pushed {M : Nat → Prop} {w w1 : World} {p ba : Nat} {a q : List Int} (h : St M w p ba a q) {l : Int} {v' : Value} {x : Int} (hx : x = if 0 < l then 1 else -1)
    (hp1 : w1.heap[p]? = w.heap[p]?) (ha1 : w1.heap[ba]? = w.heap[ba]?) (hown : Own (fun k => M k ∧ k ≠ p ∧ k ≠ ba) 3 1 w1 v' (q.length + 1) (q.map (Value.int .i64) ++ [.int .i64 l])) (hc : Chg M w w1) :
    St M ((w1.setCell ⟨p, 1, none⟩ v').setCell ⟨ba, l.natAbs, none⟩ (.int .i64 x)) p ba (assign a l) (q ++ [l]) ∧ Chg M w ((w1.setCell ⟨p, 1, none⟩ v').setCell ⟨ba, l.natAbs, none⟩ (.int .i64 x)) := by
  obtain ⟨Q, hp, _⟩ := h.ex
  have hne := h.ne
  have hla : (assign a l).length = a.length := by simp [assign]
  refine ⟨⟨⟨v', ?_, ?_⟩, ?_, h.mp, h.mb, hne, ?_, by rw [hla]; exact h.len⟩, (hc.setCell _ _ (fun _ => h.mp)).setCell _ _ (fun _ => h.mb)⟩
  · rw [Below.heap_setCell _ _ _ _ (by simpa using hne), hla]
    simp [World.setCell, Array.getElem?_modify, hp1, hp]
  · have h2 := hown.chg (S := fun k => k = p ∨ k = ba) (w' := (w1.setCell ⟨p, 1, none⟩ v').setCell ⟨ba, l.natAbs, none⟩ (.int .i64 x)) (((Chg.refl _ _).setCell _ _ (fun _ => .inl rfl)).setCell _ _ (fun _ => .inr rfl)) (fun k hk => by have := (hown.mine k hk).1; simp; omega)
    simpa using h2
  · have : (w1.setCell ⟨p, 1, none⟩ v').heap[ba]? = w.heap[ba]? := by rw [Below.heap_setCell _ _ _ _ (by simpa using hne.symm), ha1]
    simp only [World.setCell] at this ⊢
    rw [Array.getElem?_modify, if_pos rfl, this, h.arr]
    simp [assign, hx, List.map_set]
  · intro y hy
    rcases List.mem_or_eq_of_mem_set hy with hy | hy
    · exact h.vals y hy
    · rw [hy]; split <;> simp

set_option maxHeartbeats 1000000 in
theorem set_new {M : Nat → Prop} {w : World} (hM : ∀ k, w.heap.size ≤ k → M k) {p ba : Nat} {a q : List Int} (h : St M w p ba a q) (hq : q.length ≤ 100000) (l : Int) (hl : l.natAbs < a.length) (hl0 : l ≠ 0) (hv : val a l = 0) :
    Calls Tryd.prog 33 #[.pointer (some ⟨p, 0, none⟩), .int .i64 l] w fun e w' => e = .returned (.bool true) ∧ St M w' p ba (assign a l) (q ++ [l]) ∧ Chg M w w' := by
  have H := of_any h l hl
  rw [hv] at H
  have HH := Lib.hid H
  clear H
  obtain ⟨Q, hp, hown⟩ := h.ex
  have hpl : p < w.heap.size := (Array.getElem?_eq_some_iff.1 hp).1
  have hbl : ba < w.heap.size := (Array.getElem?_eq_some_iff.1 h.arr).1
  have hM' : ∀ k, (w.alloc (.cells #[.int .i64 l] 3)).heap.size ≤ k → M k ∧ k ≠ p ∧ k ≠ ba := fun k hk => by simp at hk; exact ⟨hM k (by omega), by omega, by omega⟩
  have hown' := Lib.hid (hown.no ((Chg.refl _ _).alloc (.cells #[.int .i64 l] 3)))
  have hnews := news_alloc w [.int .i64 l] 3
  have Hk : Hid (∀ w1, Chg (fun k => Q.ownBlock = some k) (w.alloc (.cells #[.int .i64 l] 3)) w1 → w1.heap[p]? = w.heap[p]? ∧ w1.heap[ba]? = w.heap[ba]? ∧ Chg M w w1) := by
    intro w1 hc
    have hm := hown.mine
    refine ⟨?_, ?_, ((Chg.refl _ _).alloc _).trans hc (fun k hk _ => (hm k hk).1.1)⟩
    · rw [hc.block p (by simp; omega) (fun e => (hm p e).1.2.1 rfl), Below.heap_alloc _ _ _ hpl]
    · rw [hc.block ba (by simp; omega) (fun e => (hm ba e).1.2.2 rfl), Below.heap_alloc _ _ _ hbl]
  have Hk2 : Hid (∀ w1, Chg (fun k => Q.ownBlock = some k) (w.alloc (.cells #[.int .i64 l] 3)) w1 → w1.cell? ⟨p, 0, none⟩ = some (.slice (some ⟨ba, 0, none⟩) a.length a.length) ∧ w1.cell? ⟨p, 1, none⟩ = some Q ∧ w1.frozen? ⟨p, 1, none⟩ = false ∧ w1.cell? ⟨ba, l.natAbs, none⟩ = some (.int .i64 (a.getD l.natAbs 0)) ∧ w1.frozen? ⟨ba, l.natAbs, none⟩ = false) := by
    intro w1 hc
    obtain ⟨e1, e2, _⟩ := Hk.out w1 hc
    have hcb := h.at l.natAbs hl
    refine ⟨?_, ?_, ?_, ?_, ?_⟩
    · simp [World.cell?, e1, hp]
    · simp [World.cell?, e1, hp]
    · simp [World.frozen?, e1, hp]
    · exact (World.cell?_of_block (w := w) e2).trans hcb
    · simp [World.frozen?, e2, h.arr]
  have hp0 := h.cellA
  have hp1 : w.cell? ⟨p, 1, none⟩ = some Q := by simp [World.cell?, hp]
  have hlen := h.len
  have hne := h.ne
  have Hs := Lib.hid h
  have Hnews := Lib.hid hnews
  have HM := Lib.hid hM'
  clear hnews h hv hown hp hM hM'
  by_cases hpos : 0 < l
  · obtain ⟨k, rfl⟩ : ∃ k : Nat, l = (k : Int) := ⟨l.natAbs, by omega⟩
    rw [Int.natAbs_natCast] at hl Hk2
    go_enter Tryd.func33, Tryd.ntmps33
    go_wp2_with (first | (go_at_call 46; refine HH.out.mono ?_; rintro e w1 ⟨rfl, rfl⟩) | (at_builtin; go_must (refine wpList_append_Own intsTy rfl (.tmp 16) (.tmp 18) rfl HM.out hown'.out rfl rfl rfl Hnews.out (by simp [Value.oneCell']) (by omega) ?_); intro A' cap' w1 hown1 hch hblk; obtain ⟨c0, c1, f1, cb, fb⟩ := Hk2.out w1 hch; have Hk1 := Lib.hid (Hk.out w1 hch); have Hown := Lib.hid hown1; clear hown1 hch hblk))
    go_ret
    refine ⟨rfl, ?_⟩
    have := Hs.out.pushed (l := (k : Int)) (x := 1) (by rw [if_pos hpos]) Hk1.out.1 Hk1.out.2.1 Hown.out Hk1.out.2.2
    rwa [Int.natAbs_natCast] at this
  · obtain ⟨k, rfl⟩ : ∃ k : Nat, l = -(k : Int) := ⟨l.natAbs, by omega⟩
    have e1 : (-(k : Int)).natAbs = k := by omega
    rw [e1] at hl Hk2
    clear e1
    go_enter Tryd.func33, Tryd.ntmps33
    go_wp2_with (first | (go_at_call 46; refine HH.out.mono ?_; rintro e w1 ⟨rfl, rfl⟩) | (at_builtin; go_must (refine wpList_append_Own intsTy rfl (.tmp 16) (.tmp 18) rfl HM.out hown'.out rfl rfl rfl Hnews.out (by simp [Value.oneCell']) (by omega) ?_); intro A' cap' w1 hown1 hch hblk; obtain ⟨c0, c1, f1, cb, fb⟩ := Hk2.out w1 hch; have Hk1 := Lib.hid (Hk.out w1 hch); have Hown := Lib.hid hown1; clear hown1 hch hblk))
    go_ret
    refine ⟨rfl, ?_⟩
    have := Hs.out.pushed (l := -(k : Int)) (x := -1) (by rw [if_neg (by omega)]) Hk1.out.1 Hk1.out.2.1 Hown.out Hk1.out.2.2
    rwa [show (-(k : Int)).natAbs = k by omega] at this

/-- All literals of a clause but those equal to x are false. -/
def allBut (a : List Int) (x : Int) (c : List Int) : Prop := ∀ l ∈ c, l ≠ x → val a l = -1
/-- A clause that asks nothing: a literal of it is true, or two of it are open. -/
def Settled (a : List Int) (c : List Int) : Prop := (∃ l ∈ c, val a l = 1) ∨ ∃ l ∈ c, ∃ m ∈ c, l ≠ m ∧ val a l = 0 ∧ val a m = 0

/-- What a look at a clause comes to. -/
def LookPost (M : Nat → Prop) (w : World) (p ba : Nat) (a q c : List Int) (e : Ending) (w' : World) : Prop :=
  (e = .returned (.bool true) ∧ Settled a c ∧ St M w' p ba a q ∧ Chg M w w') ∨
  (e = .returned (.bool false) ∧ (∀ l ∈ c, val a l = -1) ∧ St M w' p ba a q ∧ Chg M w w') ∨
  (∃ x ∈ c, e = .returned (.bool true) ∧ val a x = 0 ∧ allBut a x c ∧ St M w' p ba (assign a x) (q ++ [x]) ∧ Chg M w w')

theorem take_succ_mem {α : Type} {l : List α} {k : Nat} (h : k < l.length) {x : α} (hx : x ∈ l.take (k + 1)) : x ∈ l.take k ∨ x = l[k] := by
  rw [List.take_succ_eq_append_getElem h] at hx
  rcases List.mem_append.1 hx with h | h
  · exact .inl h
  · exact .inr (by simpa using h)
theorem look_next {a c : List Int} {x y : Int} {k : Nat} (hk : k < c.length) (hall : ∀ l ∈ c.take k, l ≠ x → val a l = -1) (hy : ∀ l ∈ c.take k, l ≠ y → l ≠ x) (hl : c[k] ≠ y → val a c[k] = -1) :
    ∀ l ∈ c.take (k + 1), l ≠ y → val a l = -1 := by
  intro l hl' hne
  rcases take_succ_mem hk hl' with h | h
  · exact hall l h (hy l h hne)
  · subst h; exact hl hne

set_option maxHeartbeats 1000000 in
theorem look_any {M R : Nat → Prop} {w : World} (hM : ∀ k, w.heap.size ≤ k → M k) {p ba : Nat} {a q : List Int} (h : St M w p ba a q) (hq : q.length ≤ 100000) {A : Option Addr} {c : List Int} {cap : Nat} (hc : Ints R w A c cap) (hlit : ∀ l ∈ c, l ≠ 0 ∧ l.natAbs < a.length) :
    Calls Tryd.prog 34 #[.pointer (some ⟨p, 0, none⟩), .slice A c.length cap] w (LookPost M w p ba a q c) := by
  have hb := hc.big
  unfold big at hb
  have HS := Lib.hid h
  have HC := Lib.hid hc
  have HL := Lib.hid hlit
  have HM := Lib.hid hM
  clear h hc hlit hM
  go_enter Tryd.func34, Tryd.ntmps34
  go_wp2
  go_loop [5, 10] (fun one i => ∃ (k : Nat) (x : Int), k ≤ c.length ∧ i = .int .i64 k ∧ one = .int .i64 x ∧ Hid (x ≠ 0 → x ∈ c ∧ val a x = 0) ∧ Hid (∀ l ∈ c.take k, l ≠ x → val a l = -1)) (fun _ i => c.length - (intOf i).toNat)
  case atStart => exact ⟨0, 0, Nat.zero_le _, rfl, rfl, fun h => absurd rfl h, fun l h => by simp at h⟩
  case round =>
    obtain ⟨k, x, hk, rfl, rfl, hx, hall⟩ := hrel
    by_cases hlt : k < c.length
    · obtain ⟨b, o, rfl, hcell⟩ := HC.out.int_at k hlt
      have hm := List.getElem_mem hlt
      obtain ⟨l0, llt⟩ := HL.out _ hm
      have H1 := Lib.hid (of_any HS.out c[k] llt)
      have hvv := val_vals HS.out.vals c[k]
      generalize hv : val a c[k] = v at *
      have Hv := Lib.hid hv
      clear hv hm llt
      go_wp2_with (go_at_call 46; refine H1.out.mono ?_; rintro e w1 ⟨rfl, rfl⟩)
      · have h1 : (v == 1) = true := by assumption
        go_ret
        exact .inl ⟨rfl, .inl ⟨_, List.getElem_mem hlt, by rw [Hv.out]; simpa using h1⟩, HS.out, Chg.refl _ _⟩
      · have h1 : (v == 0) = true := by assumption
        have hx0 : x = 0 := by assumption
        go_round
        case rel => exact ⟨k + 1, c[k], hlt, by go_num, rfl, fun _ => ⟨List.getElem_mem hlt, by rw [Hv.out]; simpa using h1⟩, look_next hlt hall.out (fun l hl _ => by rw [hx0]; exact (HL.out l (List.mem_of_mem_take hl)).1) (fun h => absurd rfl h)⟩
        case measure => simp [intOf]; omega
      · have h1 : (v == 0) = true := by assumption
        have hx0 : ¬ x = 0 := by assumption
        have h2 : (x != 0) = true ∧ (x != c[k]) = true := by assumption
        go_ret
        exact .inl ⟨rfl, .inr ⟨x, (hx.out hx0).1, c[k], List.getElem_mem hlt, by simpa using h2.2, (hx.out hx0).2, by rw [Hv.out]; simpa using h1⟩, HS.out, Chg.refl _ _⟩
      · have h1 : (v == 0) = true := by assumption
        have hx0 : ¬ x = 0 := by assumption
        have h2 : (x != 0) = false ∨ (x != c[k]) = false := by assumption
        have h3 : x = c[k] := by simpa [hx0] using h2
        go_round
        case rel => exact ⟨k + 1, c[k], hlt, by go_num, rfl, fun _ => ⟨List.getElem_mem hlt, by rw [Hv.out]; simpa using h1⟩, look_next hlt hall.out (fun l hl h => by rw [h3]; exact h) (fun h => absurd rfl h)⟩
        case measure => simp [intOf]; omega
      · have h1 : (v == 1) = false := by assumption
        have h2 : (v == 0) = false := by assumption
        have h3 : v = -1 := by simp at h1 h2; omega
        go_round
        case rel => exact ⟨k + 1, x, hlt, by go_num, rfl, hx, look_next hlt hall.out (fun l hl h => h) (fun h => by rw [Hv.out, h3])⟩
        case measure => simp [intOf]; omega
    · have hall' : Hid (∀ l ∈ c, l ≠ x → val a l = -1) := fun l hl => hall.out l (by rwa [List.take_of_length_le (by omega)])
      clear hall
      by_cases hx0 : x = 0
      · subst hx0
        go_wp2
        go_ret
        exact .inr (.inl ⟨rfl, fun l hl => hall'.out l hl (HL.out l hl).1, HS.out, Chg.refl _ _⟩)
      · have hxc := Lib.hid (hx.out hx0)
        have HN := Lib.hid (set_new HM.out HS.out hq x (HL.out x hxc.out.1).2 hx0 hxc.out.2)
        clear hx
        go_wp2_with (go_at_call 33; refine HN.out.mono ?_; rintro e w1 ⟨rfl, hst, hch⟩)
        go_ret
        exact .inr (.inr ⟨x, hxc.out.1, ret_bool (by simpa using hx0), hxc.out.2, hall'.out, hst, hch⟩)

end Go.Proofs.YtbbcodpoiikkdaaDoor
