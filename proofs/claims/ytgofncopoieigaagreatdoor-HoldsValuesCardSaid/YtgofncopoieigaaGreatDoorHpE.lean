/-
  Chapter 17: slices.SortStableFunc over shares.
-/
import Derived.Test.YtgofncopoieigaaGreatDoorHpC
import Derived.Test.YtgofncopoieigaaGreatDoorHpD
import Derived.Test.YtgofncopoieigaaGreatDoorStsM5
import Derived.StillTailTactics
namespace Go.Proofs.YtgofncopoieigaaGreatDoor
open Go Go.RowKit Go.Sort Go.Lib Go.Proofs

theorem ltT_irrefl (x : Tri) : ltT x x = false := ltK_irrefl _ _
theorem ltT_trans {x y z : Tri} (h1 : ltT x y = true) (h2 : ltT y z = true) : ltT x z = true := ltK_trans h1 h2
def eqT (x y : Tri) : Bool := eqK x.1 x.2.1 y.1 y.2.1
theorem ltT_tri {x y : Tri} (h1 : ltT x y = false) (h2 : ltT y x = false) : eqT x y = true := ltK_tri h1 h2
theorem ltT_ntrans {x y z : Tri} (h1 : ltT x y = false) (h2 : ltT y z = false) : ltT x z = false := by
  cases h3 : ltT x z
  · rfl
  · cases h4 : ltT y x
    · have e := ltT_tri h1 h4
      have : ltT x z = ltT y z := eqK_lt e
      rw [this, h2] at h3; cases h3
    · have := ltT_trans h4 h3
      rw [h2] at this; cases this

structure VTri where
  val : Tri
  ok : TriOk val
instance : Inhabited VTri := ⟨⟨(0, ByteArray.empty, 0), by unfold I64; decide, by decide, by unfold I64; decide⟩⟩
def encT (m : VTri) : List Value := [.int .i64 m.1.1, .string m.1.2.1, .int .i64 m.1.2.2]
def cmpT (x y : VTri) : Int := ordK x.1.1 x.1.2.1 y.1.1 y.1.2.1
theorem cmpT_lt (x y : VTri) : ltOf cmpT x y = ltT x.1 y.1 := by
  unfold ltOf
  rw [Bool.eq_iff_iff, decide_eq_true_eq]
  exact ordK_neg
theorem cmpT_swo : SWO (ltOf cmpT) where
  irrefl x := by rw [cmpT_lt]; exact ltT_irrefl _
  trans x y z h1 h2 := by rw [cmpT_lt] at *; exact ltT_trans h1 h2
  ntrans x y z h1 h2 := by rw [cmpT_lt] at *; exact ltT_ntrans h1 h2

set_option maxRecDepth 100000 in
set_option maxHeartbeats 4000000 in
theorem join1_grow (x y : Tri) (w : World) : Calls Tryz.prog 58 #[.agg #[.int .i64 x.1, .string x.2.1, .int .i64 x.2.2], .agg #[.int .i64 y.1, .string y.2.1, .int .i64 y.2.2]] w fun e w' => e = .returned (.int .i64 (ordK x.1 x.2.1 y.1 y.2.1)) ∧ ∃ q os', w' = grow (w.drewN q) os' := by
  obtain ⟨a, f, v⟩ := x
  obtain ⟨b, g, u⟩ := y
  have HI := Lib.hid cmpI_any
  have HS := Lib.hid cmpS_any
  have HO := Lib.hid (orNew_any (cmpZ a b) (cmpS f g))
  show Calls Tryz.prog 58 #[.agg #[.int .i64 a, .string f, .int .i64 v], .agg #[.int .i64 b, .string g, .int .i64 u]] w fun e w' => e = .returned (.int .i64 (ordK a f b g)) ∧ ∃ q os', w' = grow (w.drewN q) os'
  have HK : Hid ((if cmpZ a b ≠ 0 then cmpZ a b else cmpS f g) = ordK a f b g) := rfl
  rw [HK.out] at HO
  generalize ordK a f b g = r at *
  generalize hz : cmpZ a b = cz at *
  generalize hs : cmpS f g = cs at *
  have HZ : Hid (∀ W, Calls Tryz.prog 60 #[.int .i64 a, .int .i64 b] W fun e w' => e = .returned (.int .i64 cz) ∧ w' = W) := fun W => (HI.out a b W).mono (fun e w' ⟨h1, h2⟩ => ⟨by rw [h1, hz], h2.symm⟩)
  have HT : Hid (∀ W, Calls Tryz.prog 61 #[.string f, .string g] W fun e w' => e = .returned (.int .i64 cs) ∧ w' = W) := fun W => (HS.out f g W).mono (fun e w' ⟨h1, h2⟩ => ⟨by rw [h1, hs], h2.symm⟩)
  clear HK HI HS hz hs
  go_enter Tryz.func58, Tryz.ntmps58
  go_upto_region 1 with fail
  obtain ⟨W, hW⟩ : ∃ W, W = (w.alloc (.cells #[.int .i64 a, .string f, .int .i64 v] 50)).alloc (.cells #[.int .i64 b, .string g, .int .i64 u] 50) := ⟨_, rfl⟩
  have HCH : Hid (∃ q os', W.drew.alloc (.cells #[.int .i64 cz, .int .i64 cs] 3) = grow (w.drewN q) os') := by
    rw [hW]
    exact ⟨1, #[.cells #[.int .i64 a, .string f, .int .i64 v] 50, .cells #[.int .i64 b, .string g, .int .i64 u] 50, .cells #[.int .i64 cz, .int .i64 cs] 3], congrArg (fun h => ({ w with heap := h, drawn := w.drawn + 1 } : World)) (by apply Array.ext'; simp [Array.toList_push] : ((w.heap.push (.cells #[.int .i64 a, .string f, .int .i64 v] 50)).push (.cells #[.int .i64 b, .string g, .int .i64 u] 50)).push (.cells #[.int .i64 cz, .int .i64 cs] 3) = w.heap ++ #[.cells #[.int .i64 a, .string f, .int .i64 v] 50, .cells #[.int .i64 b, .string g, .int .i64 u] 50, .cells #[.int .i64 cz, .int .i64 cs] 3])⟩
  have hb1 : W.drew.heap[w.heap.size]? = some (.cells #[.int .i64 a, .string f, .int .i64 v] 50 (0, 0)) := by rw [hW]; exact at_old (at_new rfl)
  have hb2 : W.drew.heap[w.heap.size + 1]? = some (.cells #[.int .i64 b, .string g, .int .i64 u] 50 (0, 0)) := by rw [hW]; exact at_new (by show _ = (w.heap.push _).size; rw [Array.size_push])
  rw [← hW]
  clear hW
  refine wp_region_still_tail 10 (by kernel_rfl) (by kernel_rfl) ?_
  change wpStill _ _ W.drew _ _ _
  obtain ⟨W2, hW2⟩ : ∃ W2, W2 = W.drew := ⟨_, rfl⟩
  have HW2 := Lib.hid hW2
  rw [← hW2] at hb1 hb2 HCH ⊢
  clear hW2
  obtain ⟨p, hp⟩ : ∃ p, p = w.heap.size := ⟨_, rfl⟩
  have hc1 : W2.cell? ⟨p, 0, none⟩ = some (.int .i64 a) := by rw [hp]; simp only [World.cell?, hb1]; rfl
  have hc2 : W2.cell? ⟨p, 1, none⟩ = some (.string f) := by rw [hp]; simp only [World.cell?, hb1]; rfl
  have hc3 : W2.cell? ⟨p + 1, 0, none⟩ = some (.int .i64 b) := by rw [hp]; simp only [World.cell?, hb2]; rfl
  have hc4 : W2.cell? ⟨p + 1, 1, none⟩ = some (.string g) := by rw [hp]; simp only [World.cell?, hb2]; rfl
  rw [← hp]
  clear hb1 hb2 hp
  simp only [List.take_succ_cons, List.take_zero, List.drop_succ_cons, List.drop_zero]
  repeat still_step
  still_call (HZ.out _)
  repeat still_step
  still_call (HT.out _)
  refine wpStill_nil ?_
  change wpList _ _ _ _ _ W.drew
  rw [← HW2.out]
  clear hc1 hc2 hc3 hc4 HZ HT HW2
  go_wp2_with (go_at_call 59; refine (HO.out W2).mono ?_; rintro e w3 ⟨rfl, rfl⟩)
  go_ret
  exact ⟨rfl, HCH.out⟩
theorem joinCmp : CmpAny Tryz.prog 58 #[] encT cmpT := fun x y W => join1_grow x.1 y.1 W
theorem chg_of_SWK {α : Type} [Inhabited α] {enc : α → List Value} {k : Nat} {w W : World} {blk off : Nat} {d : Array α} (h : SWK enc k w blk off d W) : Chg (fun j => j = blk) w W := by
  obtain ⟨n, os, rfl⟩ := h
  refine ⟨rfl, rfl, rfl, ?_, fun j hj hne => ?_⟩
  · unfold sortWorldK
    rw [size_grow]
    unfold putRowK putRow mapBlock
    simp
  · unfold sortWorldK
    rw [heap_grow_old _ _ (by unfold putRowK putRow mapBlock; simpa [ahead] using hj)]
    unfold putRowK putRow mapBlock
    simp [Array.getElem?_modify, Ne.symm hne]

abbrev OTris (e : TypeId) (M : Nat → Prop) (w : World) (v : Value) (l : List Tri) : Prop := OwnL triV e M No w v l
theorem OTris.tris {e : TypeId} {M : Nat → Prop} {w : World} {A : Option Addr} {n cap : Nat} {l : List Tri} (h : OTris e M w (.slice A n cap) l) (hb : l.length * 32 ≤ big) : Tris M w A l cap :=
  (OwnL.sl_of triV_good h hb).2.mono triE_good (fun _ _ hk => hk.elim id (fun f => f.elim))
theorem OTris.of {e : TypeId} {M R : Nat → Prop} {w : World} {v : Value} {l : List Tri} (h : OwnL triV e M R w v l) : OTris e M w v l := by
  obtain ⟨C, h1, h2, h3⟩ := h
  exact ⟨C, h1, h2, fun i hi hi' => tri_any (h3 i hi hi')⟩
theorem OTris.ok {e : TypeId} {M : Nat → Prop} {w : World} {v : Value} {l : List Tri} (h : OTris e M w v l) : ∀ m ∈ l, TriOk m := fun m hm => by
  obtain ⟨i, hi, rfl⟩ := List.getElem_of_mem hm
  obtain ⟨C, _, h2, h3⟩ := h
  exact (tri_cells (h3 i hi (by omega))).2

/-- The row of terms. -/
theorem tris_of_holds {M : Nat → Prop} {W : World} {blk off cap : Nat} {d : Array VTri} (h : HoldsK encT 3 W blk off d) (hM : M blk) (hcap : d.size ≤ cap) (hmax : cap ≤ maxLen) (hroom : d.size * 32 ≤ big) :
    Tris M W (some ⟨blk, off, none⟩) (d.toList.map (·.1)) cap := by
  refine ⟨by simpa using hcap, hmax, by rw [List.length_map, Array.length_toList]; exact hroom, (fun h => by cases h), fun i hi => ⟨blk, off, rfl, ?_⟩⟩
  have hi' : i < d.size := by simpa using hi
  have h0 := (HoldsK.cell h hi' (show 0 < 3 by decide)).1
  have h1 := (HoldsK.cell h hi' (show 1 < 3 by decide)).1
  have h2 := (HoldsK.cell h hi' (show 2 < 3 by decide)).1
  have e : d[i]! = d[i] := getElem!_pos d i hi'
  rw [e] at h0 h1 h2
  rw [List.getElem_map, Array.getElem_toList]
  refine ⟨hM, encT d[i], rfl, fun j u hj => ?_, ?_⟩
  · match j with
    | 0 => simp [encT] at hj; subst hj; simpa [encT] using h0
    | 1 => simp [encT] at hj; subst hj; simpa [encT] using h1
    | 2 => simp [encT] at hj; subst hj; simpa [encT] using h2
    | j + 3 => simp [encT] at hj
  · exact tri_of d[i].2.1 d[i].2.2.1 d[i].2.2.2

theorem holds_of_own {M : Nat → Prop} {w : World} {blk off cap : Nat} {l : List Tri} (h : OTris 50 M w (.slice (some ⟨blk, off, none⟩) l.length cap) l) (hv : ∀ m ∈ l, TriOk m) :
    ∃ d : Array VTri, d.size = l.length ∧ d.toList.map (·.1) = l ∧ HoldsK encT 3 w blk off d ∧ blk < w.heap.size ∧ M blk ∧ l.length ≤ cap ∧ cap ≤ maxLen := by
  obtain ⟨C, ⟨hlen, ho⟩, hl, hC⟩ := h
  rcases ho with ⟨e, _⟩ | ⟨g, o, cap', cur, e, hM, hg, h1, h2, h3, h4⟩
  · cases e
  injection e with e1 e2 e3
  injection e1 with e1
  injection e1 with e1 e4
  subst e1; subst e4; subst e3
  refine ⟨(l.pmap VTri.mk hv).toArray, by simp, by rw [List.map_pmap]; simp, fun t ht => ?_, (Array.getElem?_eq_some_iff.1 hg).1, hM, h1, h2⟩
  simp only [size_flatK, List.size_toArray, List.length_pmap] at ht
  rw [get_flatK _ _ _ _ (by simpa using ht)]
  have hi : t / 3 < l.length := by omega
  have hCl : ∀ c ∈ C, c.length = 3 := fun c hc => by
    obtain ⟨i, hi, rfl⟩ := List.getElem_of_mem hc
    exact triV_good.len (hC i (by omega) hi)
  have hcc := (tri_cells (hC (t / 3) hi (by omega))).1
  have ed : (l.pmap VTri.mk hv).toArray[t / 3]! = ⟨l[t / 3], hv _ (List.getElem_mem hi)⟩ := by
    rw [getElem!_pos _ _ (by simpa using hi)]
    simp
  rw [ed]
  have hget : C.flatten[t]? = some (encT ⟨l[t / 3], hv _ (List.getElem_mem hi)⟩)[t % 3]! := by
    have h5 := flatten_get hCl (t / 3) (by omega) (t % 3) (Nat.mod_lt _ (by decide))
    rw [show t / 3 * 3 + t % 3 = t by omega, hcc] at h5
    rw [h5]
    unfold encT
    have h6 : t % 3 = 0 ∨ t % 3 = 1 ∨ t % 3 = 2 := by omega
    rcases h6 with h6 | h6 | h6 <;> rw [h6] <;> rfl
  refine ⟨?_, by simp [World.frozen?, hg]⟩
  simp only [World.cell?, hg]
  simpa using h4 t _ hget

theorem sorted_pairs {d : Array VTri} (h : SortedIn (ltOf cmpT) 0 d.size d) : (d.toList.map (·.1)).Pairwise fun a b => ltT b a = false := by
  rw [List.pairwise_iff_getElem]
  intro i j hi hj hij
  have hi' : i < d.size := by simpa using hi
  have hj' : j < d.size := by simpa using hj
  have := h i j (Nat.zero_le _) hij hj'
  rw [getElem!_pos d i hi', getElem!_pos d j hj', cmpT_lt] at this
  simp only [List.getElem_map, Array.getElem_toList]
  exact this

set_option maxHeartbeats 400000 in
theorem sortNil (w : World) : Calls Tryz.prog 57 #[.slice none 0 0, .func (.func 58) #[] #[]] w fun e w' => e = .returned (.tuple #[]) ∧ w' = w := by
  have hI : Hid (∀ W, Calls Tryz.prog 118 #[.slice none 0 0, .int .i64 0, .int .i64 0, .func (.func 58) #[] #[]] W fun e w' => e = .returned (.tuple #[]) ∧ W = w') := fun W => by
    go_enter Tryz.func118, Tryz.ntmps118
    go_wp2_with fail
    refine wp_loop_rounds 1 ?_
    rw [rounds_succ]
    go_wp2_with fail
    go_end0
    exact ⟨rfl, rfl⟩
  have hS : Hid (∀ W, Calls Tryz.prog 92 #[.slice none 0 0, .int .i64 0, .func (.func 58) #[] #[]] W fun e w' => e = .returned (.tuple #[]) ∧ W = w') := fun W => by
    go_enter Tryz.func92, Tryz.ntmps92
    go_wp2_with fail
    refine wp_loop_rounds 1 ?_
    rw [rounds_succ]
    go_wp2_with (go_at_call 118; refine (hI.out _).mono ?_; rintro e w1 ⟨rfl, rfl⟩)
    refine wp_loop_rounds 1 ?_
    rw [rounds_succ]
    go_wp2_with fail
    go_end0
    exact ⟨rfl, rfl⟩
  go_enter Tryz.func57, Tryz.ntmps57
  go_wp2_with (go_at_call 92; refine (hS.out _).mono ?_; rintro e w1 ⟨rfl, rfl⟩)
  go_end0
  exact ⟨rfl, rfl⟩

theorem sortShares_any {M : Nat → Prop} {w : World} {A : Option Addr} {cap : Nat} {l : List Tri} (h : OTris 50 M w (.slice A l.length cap) l) (hlen : l.length * 32 ≤ big) :
    Calls Tryz.prog 57 #[.slice A l.length cap, .func (.func 58) #[] #[]] w fun e w' =>
      e = .returned (.tuple #[]) ∧ ∃ s : List Tri, s.Perm l ∧ s.Pairwise (fun a b => ltT b a = false) ∧ Tris M w' A s cap ∧ Chg (fun k => (Value.slice A l.length cap).ownBlock = some k) w w' := by
  cases A with
  | none =>
    obtain ⟨A', cap', e, h1, h2, h3⟩ := h.value
    injection e with e1 _ e3
    have hc : cap = 0 := by rw [e3]; exact h3 e1.symm
    have h0 : l = [] := List.eq_nil_of_length_eq_zero (by omega)
    subst hc; subst h0
    exact (sortNil w).mono fun e w' ⟨he, hw⟩ => ⟨he, [], List.Perm.refl _, List.Pairwise.nil, Sl.empty, by rw [hw]; exact Chg.refl _ _⟩
  | some a =>
    have ha : ∃ g o, a = ⟨g, o, none⟩ := by
      obtain ⟨C, ⟨_, ho⟩, _⟩ := h
      rcases ho with ⟨e, _⟩ | ⟨g, o, cap', cur, e, _⟩
      · cases e
      · injection e with e1
        injection e1 with e1
        exact ⟨g, o, e1⟩
    obtain ⟨g, o, rfl⟩ := ha
    obtain ⟨d, hd1, hd2, hd3, hd4, hd5, hd6, hd7⟩ := holds_of_own h (OTris.ok h)
    have R : RowK encT 3 w g o d := ⟨fun _ => rfl, fun x v hx => by
      simp [encT] at hx
      rcases hx with rfl | rfl | rfl <;> rfl, hd3, hd4⟩
    have hlb : l.length < 1152921504606846976 := by unfold big at hlen; omega
    refine (sortStableM stbM cmpT_swo (cap := cap) (enters_of Tryz.func58 (by kernel_rfl) rfl) joinCmp R hd1 hlb).mono fun e w' ⟨he, d', h1, h2, h3⟩ => ?_
    have hz : d'.size = d.size := h1.1
    rw [← hd1] at h1 h2
    refine ⟨he, d'.toList.map (·.1), ?_, ?_, ?_, ?_⟩
    · have hp := h1.2.2
      rw [Array.extract_eq_self_of_le (by omega), Array.extract_eq_self_of_le (Nat.le_refl _)] at hp
      have := hp.map (fun x : VTri => x.1)
      rwa [hd2] at this
    · rw [← hz] at h2
      exact sorted_pairs h2
    · exact tris_of_holds (h3.holds hd4 hd3 hz) hd5 (by omega) hd7 (by rw [hz, hd1]; exact hlen)
    · exact (chg_of_SWK h3).mono (fun k hk _ => by simp [Value.ownBlock, hk])
end Go.Proofs.YtgofncopoieigaaGreatDoor
