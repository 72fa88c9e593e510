/-
  Terms that a call owns, sorted by their variables.
-/
import Derived.Test.YtpmndblakmobdaaDoorLin7
namespace Go.Proofs.YtpmndblakmobdaaDoor
open Go Go.RowKit Go.Sort

theorem chg_of_SWK {α : Type} [Inhabited α] {enc : α → List Value} {k : Nat} {w W : World} {blk off : Nat} {d : Array α} (h : SWK enc k w blk off d W) : Chg (fun j => j = blk) w W := by
  obtain ⟨n, os, rfl⟩ := h
  refine ⟨rfl, rfl, rfl, ?_, fun j hj hne => ?_⟩
  · unfold sortWorldK
    rw [size_grow]
    unfold putRowK putRow mapBlock
    simp
  · unfold sortWorldK
    rw [heap_grow_old _ _ (by unfold putRowK putRow mapBlock; simpa [ahead] using hj)]
    unfold putRowK putRow mapBlock
    simp [Array.getElem?_modify, Ne.symm hne]

/-- The row of terms. -/
theorem monos_of_holds {M : Nat → Prop} {W : World} {blk off cap : Nat} {d : Array VMono} (h : HoldsK encM 2 W blk off d) (hM : M blk) (hcap : d.size ≤ cap) (hmax : cap ≤ maxLen) (hroom : d.size * 16 ≤ big) :
    Monos M W (some ⟨blk, off, none⟩) (d.toList.map (·.1)) cap := by
  refine ⟨by simpa using hcap, hmax, by rw [List.length_map, Array.length_toList]; exact hroom, (fun h => by cases h), fun i hi => ⟨blk, off, rfl, ?_⟩⟩
  have hi' : i < d.size := by simpa using hi
  have h0 := (HoldsK.cell h hi' (show 0 < 2 by decide)).1
  have h1 := (HoldsK.cell h hi' (show 1 < 2 by decide)).1
  have e : d[i]! = d[i] := getElem!_pos d i hi'
  rw [e] at h0 h1
  rw [List.getElem_map, Array.getElem_toList]
  refine monoE_of hM (by simpa [encM] using h0) (by simpa [encM] using h1) ?_ d[i].2.2
  have := d[i].2.1
  exact I64.of (by omega) (by omega)

theorem holds_of_own {M : Nat → Prop} {w : World} {blk off cap : Nat} {l : List Mono} (h : OMonos M w (.slice (some ⟨blk, off, none⟩) l.length cap) l) (hv : ∀ m ∈ l, (0 ≤ m.1 ∧ m.1 < 1048576) ∧ I64 m.2) :
    ∃ d : Array VMono, d.size = l.length ∧ d.toList.map (·.1) = l ∧ HoldsK encM 2 w blk off d ∧ blk < w.heap.size ∧ M blk ∧ l.length ≤ cap ∧ cap ≤ maxLen := by
  obtain ⟨C, ⟨hlen, ho⟩, hl, hC⟩ := h
  rcases ho with ⟨e, _⟩ | ⟨g, o, cap', cur, e, hM, hg, h1, h2, h3, h4⟩
  · cases e
  injection e with e1 e2 e3
  injection e1 with e1
  injection e1 with e1 e4
  subst e1; subst e4; subst e3
  refine ⟨(l.pmap VMono.mk hv).toArray, by simp, by rw [List.map_pmap]; simp, fun t ht => ?_, (Array.getElem?_eq_some_iff.1 hg).1, hM, h1, h2⟩
  simp only [size_flatK, List.size_toArray, List.length_pmap] at ht
  rw [get_flatK _ _ _ _ (by simpa using ht)]
  have hi : t / 2 < l.length := by omega
  have hCl : ∀ c ∈ C, c.length = 2 := fun c hc => by
    obtain ⟨i, hi, rfl⟩ := List.getElem_of_mem hc
    exact monoV_good.len (hC i (by omega) hi)
  have hcc := (mono_cells (hC (t / 2) hi (by omega))).1
  have ed : (l.pmap VMono.mk hv).toArray[t / 2]! = ⟨l[t / 2], hv _ (List.getElem_mem hi)⟩ := by
    rw [getElem!_pos _ _ (by simpa using hi)]
    simp
  rw [ed]
  have hget : C.flatten[t]? = some (encM ⟨l[t / 2], hv _ (List.getElem_mem hi)⟩)[t % 2]! := by
    have h5 := flatten_get hCl (t / 2) (by omega) (t % 2) (Nat.mod_lt _ (by decide))
    rw [show t / 2 * 2 + t % 2 = t by omega, hcc] at h5
    rw [h5]
    unfold encM
    have h6 : t % 2 = 0 ∨ t % 2 = 1 := by omega
    rcases h6 with h6 | h6 <;> rw [h6] <;> rfl
  refine ⟨?_, by simp [World.frozen?, hg]⟩
  simp only [World.cell?, hg]
  simpa using h4 t _ hget

theorem sorted_pairs {d : Array VMono} (h : SortedIn (ltOf cmpM) 0 d.size d) : (d.toList.map (·.1)).Pairwise fun a b => a.1 ≤ b.1 := by
  rw [List.pairwise_iff_getElem]
  intro i j hi hj hij
  have hi' : i < d.size := by simpa using hi
  have hj' : j < d.size := by simpa using hj
  have := h i j (Nat.zero_le _) hij hj'
  rw [getElem!_pos d i hi', getElem!_pos d j hj'] at this
  unfold ltOf cmpM at this
  rw [decide_eq_false_iff_not] at this
  simp only [List.getElem_map, Array.getElem_toList]
  omega

set_option maxHeartbeats 400000 in
theorem sortNil (w : World) : Calls Tryd.prog 54 #[.slice none 0 0, .func (.func 55) #[] #[]] w fun e w' => e = .returned (.tuple #[]) ∧ w' = w := by
  have hI : Hid (∀ W, Calls Tryd.prog 91 #[.slice none 0 0, .int .i64 0, .int .i64 0, .func (.func 55) #[] #[]] W fun e w' => e = .returned (.tuple #[]) ∧ W = w') := fun W => by
    go_enter Tryd.func91, Tryd.ntmps91
    go_wp2_with fail
    refine wp_loop_rounds 1 ?_
    rw [rounds_succ]
    go_wp2_with fail
    go_end0
    exact ⟨rfl, rfl⟩
  have hS : Hid (∀ W, Calls Tryd.prog 76 #[.slice none 0 0, .int .i64 0, .func (.func 55) #[] #[]] W fun e w' => e = .returned (.tuple #[]) ∧ W = w') := fun W => by
    go_enter Tryd.func76, Tryd.ntmps76
    go_wp2_with fail
    refine wp_loop_rounds 1 ?_
    rw [rounds_succ]
    go_wp2_with (go_at_call 91; refine (hI.out _).mono ?_; rintro e w1 ⟨rfl, rfl⟩)
    refine wp_loop_rounds 1 ?_
    rw [rounds_succ]
    go_wp2_with fail
    go_end0
    exact ⟨rfl, rfl⟩
  go_enter Tryd.func54, Tryd.ntmps54
  go_wp2_with (go_at_call 76; refine (hS.out _).mono ?_; rintro e w1 ⟨rfl, rfl⟩)
  go_end0
  exact ⟨rfl, rfl⟩

theorem sortMonos_any {M : Nat → Prop} {w : World} {A : Option Addr} {cap : Nat} {l : List Mono} (h : OMonos M w (.slice A l.length cap) l) (hv : ∀ m ∈ l, (0 ≤ m.1 ∧ m.1 < 1048576) ∧ I64 m.2) (hlen : l.length * 16 ≤ big) :
    Calls Tryd.prog 54 #[.slice A l.length cap, .func (.func 55) #[] #[]] w fun e w' =>
      e = .returned (.tuple #[]) ∧ ∃ s : List Mono, s.Perm l ∧ s.Pairwise (fun a b => a.1 ≤ b.1) ∧ Monos M w' A s cap ∧ Chg (fun k => (Value.slice A l.length cap).ownBlock = some k) w w' := by
  cases A with
  | none =>
    obtain ⟨A', cap', e, h1, h2, h3⟩ := h.value
    injection e with e1 _ e3
    have hc : cap = 0 := by rw [e3]; exact h3 e1.symm
    have h0 : l = [] := List.eq_nil_of_length_eq_zero (by omega)
    subst hc; subst h0
    exact (sortNil w).mono fun e w' ⟨he, hw⟩ => ⟨he, [], List.Perm.refl _, List.Pairwise.nil, Sl.empty, by rw [hw]; exact Chg.refl _ _⟩
  | some a =>
    have ha : ∃ g o, a = ⟨g, o, none⟩ := by
      obtain ⟨C, ⟨_, ho⟩, _⟩ := h
      rcases ho with ⟨e, _⟩ | ⟨g, o, cap', cur, e, _⟩
      · cases e
      · injection e with e1
        injection e1 with e1
        exact ⟨g, o, e1⟩
    obtain ⟨g, o, rfl⟩ := ha
    obtain ⟨d, hd1, hd2, hd3, hd4, hd5, hd6, hd7⟩ := holds_of_own h hv
    have R : RowK encM 2 w g o d := ⟨fun _ => rfl, fun x v hx => by
      simp [encM] at hx
      rcases hx with rfl | rfl <;> rfl, hd3, hd4⟩
    have hlb : l.length < 1152921504606846976 := by unfold big at hlen; omega
    refine (sortStableM stbM cmpM_swo (cap := cap) (enters_of Tryd.func55 (by kernel_rfl) rfl) sum1_any R hd1 hlb).mono fun e w' ⟨he, d', h1, h2, h3⟩ => ?_
    have hz : d'.size = d.size := h1.1
    rw [← hd1] at h1 h2
    refine ⟨he, d'.toList.map (·.1), ?_, ?_, ?_, ?_⟩
    · have hp := h1.2.2
      rw [Array.extract_eq_self_of_le (by omega), Array.extract_eq_self_of_le (Nat.le_refl _)] at hp
      have := hp.map (fun x : VMono => x.1)
      rwa [hd2] at this
    · rw [← hz] at h2
      exact sorted_pairs h2
    · exact monos_of_holds (h3.holds hd4 hd3 hz) hd5 (by omega) hd7 (by rw [hz, hd1]; exact hlen)
    · exact (chg_of_SWK h3).mono (fun k hk _ => by simp [Value.ownBlock, hk])
end Go.Proofs.YtpmndblakmobdaaDoor
