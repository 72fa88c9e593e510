/-
  Chapter 17: heap.Join walked: it lays shares behind one another, sorts them, and puts together what stands side by side.
-/
import Derived.Test.YtgofncopoieigaaGreatDoorHpE
import Derived.Laws.EntriesVeiled
namespace Go.Proofs.YtgofncopoieigaaGreatDoor
open Go Go.RowKit

def enc3 (m : Tri) : List Value := [.int .i64 m.1, .string m.2.1, .int .i64 m.2.2]
def encL (l : List Tri) : List Value := (l.map enc3).flatten
theorem encL_len3 (l : List Tri) : ∀ c ∈ l.map enc3, c.length = 3 := fun c hc => by
  obtain ⟨m, _, rfl⟩ := List.mem_map.1 hc
  rfl
theorem encL_length (l : List Tri) : (encL l).length = l.length * 3 := by
  unfold encL
  rw [flatten_length (encL_len3 l), List.length_map]
theorem encL_get {l : List Tri} {i j : Nat} (hi : i < l.length) (hj : j < 3) : (encL l)[i * 3 + j]? = (enc3 l[i])[j]? := by
  unfold encL
  rw [flatten_get (encL_len3 l) i (by simpa using hi) j hj]
  simp
theorem encL_set {l : List Tri} {i : Nat} (m : Tri) (t : Nat) (ht : t < l.length * 3) : (encL (l.set i m))[t]? = if t / 3 = i then (enc3 m)[t % 3]? else (encL l)[t]? := by
  have hi : t / 3 < l.length := by omega
  have e : t / 3 * 3 + t % 3 = t := by omega
  have h1 := encL_get (l := l.set i m) (i := t / 3) (j := t % 3) (by simpa using hi) (by omega)
  have h2 := encL_get (l := l) (i := t / 3) (j := t % 3) hi (by omega)
  rw [e] at h1 h2
  rw [h1, h2, List.getElem_set]
  by_cases h : i = t / 3
  · rw [if_pos h, if_pos h.symm]
  · rw [if_neg h, if_neg (fun h' => h h'.symm)]
theorem OTris.iff {e : TypeId} {M : Nat → Prop} {w : World} {v : Value} {l : List Tri} : OTris e M w v l ↔ Own M e 3 w v l.length (encL l) ∧ ∀ m ∈ l, TriOk m := by
  constructor
  · intro h
    refine ⟨?_, h.ok⟩
    obtain ⟨C, h1, h2, h3⟩ := h
    have : C = l.map enc3 := by
      apply List.ext_getElem (by simpa using h2)
      intro i hi hi'
      rw [List.getElem_map]
      exact (tri_cells (h3 i (by omega) hi)).1
    rw [this] at h1
    exact h1
  · rintro ⟨h1, h2⟩
    refine ⟨l.map enc3, h1, by simp, fun i hi hi' => ?_⟩
    rw [List.getElem_map]
    have := h2 _ (List.getElem_mem hi)
    exact tri_of this.1 this.2.1 this.2.2
/-- A store to an owned row. -/
theorem Own.put {M : Nat → Prop} {e : TypeId} {sz n cap g o : Nat} {w : World} {xs : List Value} (h : Own M e sz w (.slice (some ⟨g, o, none⟩) n cap) n xs) {j : Nat} (hj : j < xs.length) (u : Value) :
    w.frozen? ⟨g, o + j, none⟩ = false ∧ w.cell? ⟨g, o + j, none⟩ = some xs[j] ∧ M g ∧ Own M e sz (w.setCell ⟨g, o + j, none⟩ u) (.slice (some ⟨g, o, none⟩) n cap) n (xs.set j u) := by
  rcases h.2 with ⟨e, _⟩ | ⟨g', o', cap', cur, e, hM, hg, h1, h2, h3, h4⟩
  · cases e
  injection e with e1 e2 e3
  injection e1 with e1
  injection e1 with e1 e4
  subst e1; subst e4; subst e3
  have hlt : g < w.heap.size := (Array.getElem?_eq_some_iff.1 hg).1
  have hjo : o + j < cur.size := by
    have := h4 j _ (List.getElem?_eq_getElem hj)
    exact (Array.getElem?_eq_some_iff.1 this).1
  refine ⟨by simp [World.frozen?, hg], by simp only [World.cell?, hg]; simpa using h4 j _ (List.getElem?_eq_getElem hj), hM, by rw [List.length_set]; exact h.1, .inr ⟨g, o, cap, cur.setIfInBounds (o + j) u, rfl, hM, ?_, h1, h2, by simpa using h3, fun t x ht => ?_⟩⟩
  · simp [World.setCell, Array.getElem?_modify, hg]
  · rw [List.getElem?_set] at ht
    rw [Array.getElem?_setIfInBounds]
    by_cases hjt : j = t
    · subst hjt
      rw [if_pos rfl, if_pos hj] at ht
      rw [if_pos rfl, if_pos hjo]
      exact ht
    · rw [if_neg hjt] at ht
      rw [if_neg (by omega)]
      exact h4 t x ht
theorem OTris.setN {e : TypeId} {M : Nat → Prop} {w : World} {g o n cap : Nat} {l : List Tri} (h : OTris e M w (.slice (some ⟨g, o, none⟩) n cap) l) (hn : n = l.length) (i : Nat) (hi : i < l.length) {z : Int} (hz : I64 z) :
    w.frozen? ⟨g, o + i * 3 + 2, none⟩ = false ∧ M g ∧ OTris e M (w.setCell ⟨g, o + i * 3 + 2, none⟩ (.int .i64 z)) (.slice (some ⟨g, o, none⟩) n cap) (l.set i (l[i].1, l[i].2.1, z)) := by
  subst hn
  obtain ⟨h1, h2⟩ := OTris.iff.1 h
  obtain ⟨f, _, hM, h3⟩ := h1.put (j := i * 3 + 2) (by rw [encL_length]; omega) (.int .i64 z)
  rw [← Nat.add_assoc] at f h3
  refine ⟨f, hM, OTris.iff.2 ⟨?_, fun m hm => ?_⟩⟩
  · rw [List.length_set]
    have : (encL l).set (i * 3 + 2) (Value.int .i64 z) = encL (l.set i (l[i].1, l[i].2.1, z)) := by
      apply List.ext_getElem?
      intro t
      by_cases ht : t < l.length * 3
      · rw [encL_set _ t ht, List.getElem?_set, encL_length]
        by_cases h5 : t / 3 = i
        · rw [if_pos h5]
          subst h5
          have h6 := encL_get (l := l) (i := t / 3) (j := t % 3) hi (by omega)
          rw [show t / 3 * 3 + t % 3 = t by omega] at h6
          have h7 : t % 3 = 0 ∨ t % 3 = 1 ∨ t % 3 = 2 := by omega
          rcases h7 with h7 | h7 | h7 <;> rw [h7] at h6 ⊢
          · rw [if_neg (by omega), h6]; rfl
          · rw [if_neg (by omega), h6]; rfl
          · rw [if_pos (by omega), if_pos (by omega)]; rfl
        · rw [if_neg h5, if_neg (by omega)]
      · rw [List.getElem?_eq_none (by rw [List.length_set, encL_length]; omega), List.getElem?_eq_none (by rw [encL_length, List.length_set]; omega)]
    rw [← this]
    exact h3
  · rcases List.mem_or_eq_of_mem_set hm with hm | rfl
    · exact h2 m hm
    · exact ⟨(h2 _ (List.getElem_mem hi)).1, (h2 _ (List.getElem_mem hi)).2.1, hz⟩

/-- What stands side by side together. -/
def addN (x y : Int) : Int := wrap64 (x + y)
theorem addN_ok (x y : Int) : I64 (addN x y) := by unfold addN wrap64 I64; omega
def mrg1 (o : List Tri) (s : Tri) : List Tri := match o.getLast? with
  | some t => if eqT t s = true then o.dropLast ++ [(t.1, t.2.1, addN t.2.2 s.2.2)] else o ++ [s]
  | none => [s]
def mrg (l : List Tri) : List Tri := l.foldl mrg1 []
theorem mrg_take {s : List Tri} {k : Nat} (hk : k < s.length) {o : List Tri} (h : mrg (s.take k) = o) : mrg (s.take (k + 1)) = mrg1 o s[k] := by
  rw [List.take_succ_eq_append_getElem hk]
  unfold mrg at *
  rw [List.foldl_append, h]
  rfl
theorem mrg1_nil (s : Tri) : mrg1 [] s = [s] := rfl
theorem mrg1_ne {o : List Tri} {r : Nat} (hr : o.length = r + 1) {s t : Tri} (ht : ∀ h : r < o.length, o[r] = t) (h : eqT t s = false) : mrg1 o s = o ++ [s] := by
  have : o.getLast? = some t := by rw [List.getLast?_eq_getElem?, hr, Nat.add_sub_cancel, List.getElem?_eq_getElem (by omega), ht]
  unfold mrg1
  rw [this]
  simp [h]
theorem mrg1_eq {o : List Tri} {r : Nat} (hr : o.length = r + 1) {s t : Tri} (ht : ∀ h : r < o.length, o[r] = t) (h : eqT t s = true) : mrg1 o s = o.set r (t.1, t.2.1, addN t.2.2 s.2.2) := by
  have : o.getLast? = some t := by rw [List.getLast?_eq_getElem?, hr, Nat.add_sub_cancel, List.getElem?_eq_getElem (by omega), ht]
  unfold mrg1
  rw [this]
  simp only [h, if_true]
  apply List.ext_getElem?
  intro i
  rw [List.getElem?_set, List.getElem?_append, List.length_dropLast, hr, Nat.add_sub_cancel]
  by_cases hi : i < r
  · rw [if_pos hi, if_neg (by omega), List.getElem?_dropLast, if_pos (by omega)]
  · by_cases h2 : r = i
    · subst h2
      rw [if_neg hi, if_pos rfl, if_pos (by omega)]
      simp
    · rw [if_neg hi, if_neg h2, List.getElem?_eq_none (by simp; omega), List.getElem?_eq_none (by omega)]
theorem mrg1_len (o : List Tri) (s : Tri) : (mrg1 o s).length ≤ o.length + 1 := by
  unfold mrg1
  split
  · split
    · simp
    · simp
  · simp
theorem mrg_len (l : List Tri) : (mrg l).length ≤ l.length := by
  have h : ∀ (l o : List Tri), (l.foldl mrg1 o).length ≤ o.length + l.length := by
    intro l
    induction l with
    | nil => intro o; simp
    | cons a t ih => intro o; have := ih (mrg1 o a); have := mrg1_len o a; simp only [List.foldl_cons, List.length_cons]; omega
  have := h l []
  simpa [mrg] using this

theorem obj3 {w : World} {b : Nat} {x y z : Value} {t : TypeId} (h : w.heap[b]? = some (.cells #[x, y, z] t (0, 0))) : w.cell? ⟨b, 0, none⟩ = some x ∧ w.cell? ⟨b, 1, none⟩ = some y ∧ w.cell? ⟨b, 2, none⟩ = some z := by
  simp [World.cell?, h]

set_option maxRecDepth 100000 in
set_option maxHeartbeats 4000000 in
theorem join_any {R : Nat → Prop} {w : World} {A B : Option Addr} {a b : List Tri} {ca cb : Nat} (ha : Tris R w A a ca) (hb : Tris R w B b cb) (hlen : a.length + b.length ≤ 100000) :
    Calls Tryz.prog 38 #[.slice A a.length ca, .slice B b.length cb] w fun e w' => ∃ A' cap' s, e = .returned (.slice A' (mrg s).length cap') ∧ s.Perm (a ++ b) ∧ s.Pairwise (fun a b => ltT b a = false) ∧ OTris 50 (fun k => w.heap.size ≤ k) w' (.slice A' (mrg s).length cap') (mrg s) ∧ Chg No w w' := by
  have hcc := concatShares_any (w := w.alloc (.cells #[.slice A a.length ca, .slice B b.length cb] 35)) (ha.no triE_good ((Chg.refl _ _).alloc _)) (hb.no triE_good ((Chg.refl _ _).alloc _)) (at_new rfl) (by omega)
  clear ha hb
  rw [← List.length_append] at hcc hlen
  generalize a ++ b = L at *
  have HCC := Lib.hid hcc
  have HLE := Lib.hid hlen
  clear hlen hcc
  go_enter Tryz.func38, Tryz.ntmps38
  go_wp2_with (first
    | (go_at_call 56; refine HCC.out.mono ?_; rintro e w1 ⟨A1, cap1, rfl, hown, hch⟩; have hc1 := Lib.hid (((Chg.refl No w).alloc (.cells #[.slice A a.length ca, .slice B b.length cb] 35)).thenNo hch); have HO := Lib.hid (OTris.of hown); clear hown hch HCC)
    | (go_at_call 57; refine (sortShares_any HO.out (by have := HLE.out; unfold big; omega)).mono ?_; rintro e w2 ⟨rfl, s, hs1, hs2, hs3, hch2⟩; have HPm := Lib.hid hs1; have HPw := Lib.hid hs2; have HM := Lib.hid hs3; have hc2 := Lib.hid hch2; clear hs1 hs2 hs3 hch2))
  have hz0 : (w.alloc (.cells #[.slice A a.length ca, .slice B b.length cb] 35)).heap.size = w.heap.size + 1 := by simp
  have hW : Hid (Chg No w w2) := hc1.out.trans hc2.out (fun k hk hlt => by have h1 := (HO.out.mine k hk).1; omega)
  have hls : s.length = L.length := HPm.out.length_eq
  have HM2 : Hid (Tris (fun k => k < w2.heap.size) w2 A1 s cap1) := HM.out.mono triE_good (fun k hk _ => hk)
  have HSL : Hid (s.length ≤ 100000) := by have := HLE.out; unfold Hid; omega
  have HLS := Lib.hid hls
  rw [← hls]
  clear hls HM hc1 hc2 hz0 HO HLE HLS
  have hsl : s.length ≤ 100000 := HSL.out
  obtain ⟨w3, rfl⟩ : ∃ w3, w3 = w2 := ⟨_, rfl⟩
  go_loopw [18, 6] (fun s18 s6 wr => ∃ (k n cap : Nat) (Ao : Option Addr) (o : List Tri), s18 = .int .i64 k ∧ s6 = .slice Ao n cap ∧ k ≤ s.length ∧ Hid (n = o.length) ∧ Hid (Chg No w3 wr) ∧ Hid (OTris 50 (fun j => w3.heap.size ≤ j) wr (.slice Ao n cap) o) ∧ Hid (mrg (s.take k) = o)) (fun s18 _ _ => s.length - (intOf s18).toNat)
  case atStart => exact ⟨0, 0, 0, none, [], rfl, rfl, Nat.zero_le _, rfl, Chg.refl _ _, OwnL.nil _ _ _ _ _, rfl⟩
  case round =>
    obtain ⟨k, n, cap, Ao, o, rfl, rfl, hks, hn, hch, hown, hI⟩ := hrel
    by_cases hlt : k < s.length
    · obtain ⟨b, off, hA, c0, c1, c2⟩ := (HM2.out.no triE_good hch.out).tri_at k hlt
      have HOK := Lib.hid (HM2.out.tri_ok k hlt)
      have HNX := Lib.hid (mrg_take hlt hI.out)
      have HOL : Hid (o.length ≤ 100000) := by
        have h1 := mrg_len (s.take k)
        rw [hI.out, List.length_take] at h1
        have := HSL.out
        unfold Hid
        omega
      subst hA
      generalize s[k] = m at *
      obtain ⟨x, f, z⟩ := m
      dsimp only at c0 c1 c2
      go_upto_region 8 with fail
      obtain ⟨wA, hwA⟩ : ∃ wA, wA = wr.alloc (.cells #[.int .i64 x, .string f, .int .i64 z] 50) := ⟨_, rfl⟩
      obtain ⟨q, hq⟩ : ∃ q, q = wr.heap.size := ⟨_, rfl⟩
      have hob : wA.heap[q]? = some (.cells #[.int .i64 x, .string f, .int .i64 z] 50 (0, 0)) := by rw [hwA, hq]; exact heap_alloc_new _ _
      have HCH : Hid (∀ d, Chg No w3 (wA.drewN d)) := fun d => by rw [hwA]; exact (hch.out.alloc _).drewN d
      have HOW : Hid (∀ d, OTris 50 (fun j => w3.heap.size ≤ j) (wA.drewN d) (.slice Ao n cap) o) := fun d => by rw [hwA]; exact hown.out.no triV_good (((Chg.refl _ _).alloc _).drewN d)
      rw [← hwA, ← hq]
      clear hwA hq c0 c1 c2 hch hown hI
      obtain ⟨n0, n1, n2⟩ := obj3 hob
      have HOB := Lib.hid hob
      clear hob
      have HE : Hid (∀ d, (wA.drewN d).cell? ⟨q, 0, none⟩ = some (.int .i64 x) ∧ (wA.drewN d).cell? ⟨q, 1, none⟩ = some (.string f) ∧ (wA.drewN d).cell? ⟨q, 2, none⟩ = some (.int .i64 z)) := fun d => ⟨n0, n1, n2⟩
      by_cases h0 : o.length = 0
      · obtain rfl : o = [] := List.eq_nil_of_length_eq_zero h0
        obtain rfl : n = 0 := hn.out
        have HR : Hid (mrg (s.take (k + 1)) = [(x, f, z)]) := HNX.out
        clear h0 hn HNX
        have hd : decide ((0 : Int) < ((0 : Nat) : Int)) = false := by decide
        have hd2 : decide ((0 : Int) < 0) = false := by decide
        go_quiet (fail)
        have H1 := Lib.hid (HCH.out nq)
        have H2 := Lib.hid (HOW.out nq)
        clear HCH HOW HOB n0 n1 n2
        obtain ⟨e0, e1, e2⟩ := HE.out nq
        clear HE
        generalize wA.drewN nq = wq at *
        have HMM : Hid (∀ j, wq.heap.size ≤ j → w3.heap.size ≤ j) := fun j hj => Nat.le_trans H1.out.size hj
        go_wp2_with (at_builtin; refine wpList_pushL triV_good sharesTy rfl (.tmp 59) (.tmp 61) rfl HMM.out H2.out rfl (tri_of (m := (x, f, z)) HOK.out.1 HOK.out.2.1 HOK.out.2.2) (by simp [Value.oneCell']) rfl (show (([] : List Tri).length + 1) * 32 ≤ 140737488355328 by have := HOL.out; omega) ?_; intro A' cap' w5 g1 g2; have G2 := Lib.hid (OTris.of g1); have G3 := Lib.hid (H1.out.trans g2 (fun q hq hlt => by have := (H2.out.mine _ hq).1; omega)); clear g1 g2)
        go_roundw
        case rel => exact ⟨k + 1, ([] : List Tri).length + 1, cap', A', [(x, f, z)], by go_num, rfl, hlt, by simp [Hid], G3.out, G2.out, HR.out⟩
        case measure => simp [intOf]; omega
      · obtain ⟨r, hr⟩ : ∃ r, o.length = r + 1 := ⟨o.length - 1, by omega⟩
        have HRR := Lib.hid hr
        obtain rfl : n = r + 1 := hn.out.trans hr
        have hrl : r < o.length := by omega
        have hrb : r ≤ 100000 := by have := HOL.out; omega
        obtain ⟨t, ht⟩ : ∃ t, t = o[r] := ⟨_, rfl⟩
        have HT : Hid (∀ h : r < o.length, o[r] = t) := fun _ => ht.symm
        obtain ⟨g, og, hA, d0, d1, d2⟩ := (OTris.tris (n := r + 1) (HOW.out 0) (by have := HOL.out; unfold big; omega)).tri_at r hrl
        rw [← ht] at d0 d1 d2
        have HTN : Hid (∀ d, ∀ zz, I64 zz → (wA.drewN d).frozen? ⟨g, og + r * 3 + 2, none⟩ = false ∧ w3.heap.size ≤ g ∧ OTris 50 (fun j => w3.heap.size ≤ j) ((wA.drewN d).setCell ⟨g, og + r * 3 + 2, none⟩ (.int .i64 zz)) (.slice Ao (r + 1) cap) (o.set r (t.1, t.2.1, zz))) := fun d zz hz => by
          subst hA
          have := OTris.setN (HOW.out d) hr.symm r hrl hz
          rwa [← ht] at this
        subst hA
        obtain ⟨x', f', z'⟩ := t
        dsimp only at d0 d1 d2 HTN
        have D0 : wA.cell? ⟨g, og + r * 3, none⟩ = some (.int .i64 x') := d0
        have D1 : wA.cell? ⟨g, og + r * 3 + 1, none⟩ = some (.string f') := d1
        have D2 : wA.cell? ⟨g, og + r * 3 + 2, none⟩ = some (.int .i64 z') := d2
        clear d0 d1 d2 ht hrl hr h0 hn
        have hd : decide ((0 : Int) < ((r + 1 : Nat) : Int)) = true := decide_eq_true (by omega)
        have hd2 : decide ((0 : Int) < (r : Int) + 1) = true := decide_eq_true (by omega)
        by_cases hx : x' = x
        · have hdx : (x' == x) = true := by simpa using hx
          cases hf : (f'.toList == f.toList)
          · have HR : Hid (mrg (s.take (k + 1)) = o ++ [(x, f, z)]) := HNX.out.trans (mrg1_ne HRR.out HT.out (by show eqK x' f' x f = false; unfold eqK; rw [hf]; simp))
            clear HNX HTN HT HRR hx
            go_quiet (fail)
            have H1 := Lib.hid (HCH.out nq)
            have H2 := Lib.hid (HOW.out nq)
            clear HCH HOW HOB D0 D1 D2 n0 n1 n2
            obtain ⟨e0, e1, e2⟩ := HE.out nq
            clear HE
            generalize wA.drewN nq = wq at *
            have HMM : Hid (∀ j, wq.heap.size ≤ j → w3.heap.size ≤ j) := fun j hj => Nat.le_trans H1.out.size hj
            go_wp2_with (at_builtin; refine wpList_pushL triV_good sharesTy rfl (.tmp 59) (.tmp 61) rfl HMM.out H2.out rfl (tri_of (m := (x, f, z)) HOK.out.1 HOK.out.2.1 HOK.out.2.2) (by simp [Value.oneCell']) rfl (show (o.length + 1) * 32 ≤ 140737488355328 by have := HOL.out; omega) ?_; intro A' cap' w5 g1 g2; have G2 := Lib.hid (OTris.of g1); have G3 := Lib.hid (H1.out.trans g2 (fun q hq hlt => by have := (H2.out.mine _ hq).1; omega)); clear g1 g2)
            go_roundw
            case rel => exact ⟨k + 1, o.length + 1, cap', A', o ++ [(x, f, z)], by go_num, rfl, hlt, by simp [Hid], G3.out, G2.out, HR.out⟩
            case measure => simp [intOf]; omega
          · have HR : Hid (mrg (s.take (k + 1)) = o.set r (x', f', addN z' z)) := HNX.out.trans (mrg1_eq HRR.out HT.out (by show eqK x' f' x f = true; unfold eqK; rw [hf]; simp [hx]))
            have hw : wrap64 (z' + z) = addN z' z := rfl
            have HTZ := Lib.hid (fun d => HTN.out d _ (addN_ok z' z))
            generalize addN z' z = zz at *
            clear HNX HTN HT hx
            go_quiet (fail)
            have H1 := Lib.hid (HCH.out nq)
            obtain ⟨hfz, hg, _⟩ := HTZ.out nq
            have HX : Hid (OTris 50 (fun j => w3.heap.size ≤ j) (((wA.drewN nq)).setCell ⟨g, og + r * 3 + 2, none⟩ (.int .i64 zz)).drew (.slice (some ⟨g, og, none⟩) (r + 1) cap) (o.set r (x', f', zz)) ∧ Chg No w3 (((wA.drewN nq)).setCell ⟨g, og + r * 3 + 2, none⟩ (.int .i64 zz)).drew) := ⟨(HTZ.out nq).2.2.no triV_good (Chg.refl _ _).drew, ((HCH.out nq).setCell _ _ (fun h => by have := hg; dsimp only at h; omega)).drew⟩
            obtain ⟨e0, e1, e2⟩ := HE.out nq
            have E2 : (wA.drewN nq).cell? ⟨g, og + r * 3 + 2, none⟩ = some (.int .i64 z') := D2
            have HG := Lib.hid hg
            have HSL2 : Hid (r + 1 = (o.set r (x', f', zz)).length) := by unfold Hid; rw [List.length_set]; exact HRR.out.symm
            clear HCH HOW HOB D0 D1 D2 n0 n1 n2 HTZ HE hg HRR
            generalize wA.drewN nq = wq at *
            go_wp2
            go_region
            all_goals go_wp2
            all_goals go_roundw
            case rel => exact ⟨k + 1, r + 1, cap, some ⟨g, og, none⟩, o.set r (x', f', zz), by go_num, rfl, hlt, HSL2, HX.out.2, HX.out.1, HR⟩
            case measure => simp [intOf]; omega
        · have hdx : (x' == x) = false := by simpa using hx
          have HR : Hid (mrg (s.take (k + 1)) = o ++ [(x, f, z)]) := HNX.out.trans (mrg1_ne HRR.out HT.out (by show eqK x' f' x f = false; unfold eqK; simp [hx]))
          clear HNX HTN HT HRR hx
          go_quiet (fail)
          have H1 := Lib.hid (HCH.out nq)
          have H2 := Lib.hid (HOW.out nq)
          clear HCH HOW HOB D0 D1 D2 n0 n1 n2
          obtain ⟨e0, e1, e2⟩ := HE.out nq
          clear HE
          generalize wA.drewN nq = wq at *
          have HMM : Hid (∀ j, wq.heap.size ≤ j → w3.heap.size ≤ j) := fun j hj => Nat.le_trans H1.out.size hj
          go_wp2_with (at_builtin; refine wpList_pushL triV_good sharesTy rfl (.tmp 59) (.tmp 61) rfl HMM.out H2.out rfl (tri_of (m := (x, f, z)) HOK.out.1 HOK.out.2.1 HOK.out.2.2) (by simp [Value.oneCell']) rfl (show (o.length + 1) * 32 ≤ 140737488355328 by have := HOL.out; omega) ?_; intro A' cap' w5 g1 g2; have G2 := Lib.hid (OTris.of g1); have G3 := Lib.hid (H1.out.trans g2 (fun q hq hlt => by have := (H2.out.mine _ hq).1; omega)); clear g1 g2)
          go_roundw
          case rel => exact ⟨k + 1, o.length + 1, cap', A', o ++ [(x, f, z)], by go_num, rfl, hlt, by simp [Hid], G3.out, G2.out, HR.out⟩
          case measure => simp [intOf]; omega
    · have hk : k = s.length := by omega
      have HI : Hid (mrg s = o) := by have := hI.out; rwa [hk, List.take_length] at this
      have HN : Hid (Value.slice Ao n cap = .slice Ao (mrg s).length cap) := by unfold Hid; rw [HI.out, hn.out]
      have HOW : Hid (OTris 50 (fun k => w.heap.size ≤ k) wr (.slice Ao (mrg s).length cap) (mrg s)) := by
        have := hown.out.mono triV_good (M' := fun k => w.heap.size ≤ k) (R' := No) (fun q _ h => Nat.le_trans hW.out.size h) (fun _ _ f => f)
        rw [HN.out, ← HI.out] at this
        exact this
      go_wp2
      go_ret
      exact ⟨Ao, cap, s, congrArg Ending.returned HN.out, HPm.out, HPw.out, HOW.out, hW.out.thenNo hch.out⟩
end Go.Proofs.YtgofncopoieigaaGreatDoor
