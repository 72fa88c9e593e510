/-
  The look's walk of an assertion: what it takes, and whether it holds.
-/
import Derived.Test.YtgofncopoieigaaGreatDoorMH
import Derived.Test.YtgofncopoieigaaGreatDoorHpM
import Derived.Test.YtgofncopoieigaaGreatDoorMB
namespace Go.Proofs.YtgofncopoieigaaGreatDoor
open Go Go.RowKit

theorem ownL_oneH {α : Type} {V : ElV α} {e : TypeId} {M R : Nat → Prop} {w : World} {g : Nat} {cs : List Value} {x : α} (hg : w.heap[g]? = some (.cells cs.toArray e (0, 0))) (hM : M g) (hlen : cs.length = V.sz) (hx : V (fun k => R k ∧ k ≠ g) w cs x) (G : V.Good) :
    OwnL V e M R w (.slice (some ⟨g, 0, none⟩) 1 1) [x] := by
  refine ⟨[cs], ⟨by simp [hlen], .inr ⟨g, 0, 1, cs.toArray, rfl, hM, hg, Nat.le_refl _, by decide, by simp [hlen], fun j u hj => ?_⟩⟩, rfl, fun i hi hi' => ?_⟩
  · simp at hj ⊢
    exact hj
  · match i, hi with
    | 0, _ => exact G.mono hx (fun k _ hk => ⟨hk.1, fun e => by simp [Value.ownBlock] at e; exact hk.2 e.symm⟩)
/-- What an assertion takes; whether it holds but for taking too much; was something far? -/
def wkH (l : List Vr) (h : List Tri) (m n : Nat) : (k : Nat) → AT m n k → (List Tri × Bool) × Bool
  | 0, _ => (([], true), false)
  | k + 1, x =>
    if ANode.kind x = 1 then (([], (coH l m n (ANode.c x)).1), (coH l m n (ANode.c x)).2)
    else if ANode.kind x = 2 then (([((exH l m (ANode.e x)).1, ANode.field x, ANode.num x)], hasL h ((exH l m (ANode.e x)).1, ANode.field x, 0)), (exH l m (ANode.e x)).2)
    else if ANode.kind x = 3 then (([((exH l m (ANode.e x)).1, ANode.field x, ANode.num x)], hasL h ((exH l m (ANode.e x)).1, ANode.field x, 0) && decide (getP h ((exH l m (ANode.e x)).1, ANode.field x, 0) = (exH l m (ANode.v x)).1)), (exH l m (ANode.e x)).2 || (exH l m (ANode.v x)).2)
    else if ANode.kind x = 4 then
      ((addsS ((((ANode.kids x).map (wkH l h m n k)).getD 0 (([], true), false)).1.1 ++ (((ANode.kids x).map (wkH l h m n k)).getD 1 (([], true), false)).1.1), (((ANode.kids x).map (wkH l h m n k)).getD 0 (([], true), false)).1.2 && (((ANode.kids x).map (wkH l h m n k)).getD 1 (([], true), false)).1.2),
        (((ANode.kids x).map (wkH l h m n k)).getD 0 (([], true), false)).2 || (((ANode.kids x).map (wkH l h m n k)).getD 1 (([], true), false)).2)
    else if ANode.kind x = 5 then
      ((((ANode.kids x).map (wkH l h m n k)).getD (if (coH l m n (ANode.c x)).1 then 0 else 1) (([], true), false)).1, (coH l m n (ANode.c x)).2 || (((ANode.kids x).map (wkH l h m n k)).getD (if (coH l m n (ANode.c x)).1 then 0 else 1) (([], true), false)).2)
    else (([], true), false)
/-- So many assertions are in one. -/
def lvA (m n : Nat) : (k : Nat) → AT m n k → Nat
  | 0, _ => 1
  | k + 1, x => 1 + ((ANode.kids x).map (lvA m n k)).sum
theorem okA_parts {m n k : Nat} {x : ANode (CT m n) (ET m) (AT m n k)} (h : okA m n (k + 1) x = true) : aShape x.kind x.num x.field x.kids.length (okC m n x.c) (hasC m n x.c) (okE m x.e) (hasE m x.e) (okE m x.v) (hasE m x.v) = true ∧ ∀ q ∈ x.kids, okA m n k q = true := by
  have h' : (aShape x.kind x.num x.field x.kids.length (okC m n x.c) (hasC m n x.c) (okE m x.e) (hasE m x.e) (okE m x.v) (hasE m x.v) && x.kids.all (okA m n k)) = true := h
  rw [Bool.and_eq_true] at h'
  exact ⟨h'.1, List.all_eq_true.1 h'.2⟩
theorem aShape_cases {kd num : Int} {field : ByteArray} {kl : Nat} {c hc e he v hv : Bool} (h : aShape kd num field kl c hc e he v hv = true) :
    (kd = 0) ∨ (kd = 1 ∧ c = true) ∨ (kd = 2 ∧ e = true) ∨ (kd = 3 ∧ e = true ∧ v = true) ∨ (kd = 4 ∧ kl = 2) ∨ (kd = 5 ∧ c = true ∧ kl = 2) := by
  unfold aShape at h
  split at h
  · exact .inl (by assumption)
  split at h
  · simp only [Bool.and_eq_true, decide_eq_true_eq] at h; exact .inr (.inl ⟨by assumption, h.1.1.1⟩)
  split at h
  · simp only [Bool.and_eq_true, decide_eq_true_eq] at h; exact .inr (.inr (.inl ⟨by assumption, h.1.1.2.1.1.1⟩))
  split at h
  · simp only [Bool.and_eq_true, decide_eq_true_eq] at h; exact .inr (.inr (.inr (.inl ⟨by assumption, h.1.1.2.1.1.1, h.1.2⟩)))
  split at h
  · simp only [Bool.and_eq_true, decide_eq_true_eq] at h; exact .inr (.inr (.inr (.inr (.inl ⟨by assumption, h.2⟩))))
  split at h
  · simp only [Bool.and_eq_true, decide_eq_true_eq] at h; exact .inr (.inr (.inr (.inr (.inr ⟨by assumption, h.1.1.1, h.2⟩))))
  · cases h
section
variable {l : List Vr} {h : List Tri} {m n k : Nat} {f : ANode (CT m n) (ET m) (AT m n k)}
theorem wkH_eq : wkH l h m n (k + 1) f = (if f.kind = 1 then (([], (coH l m n f.c).1), (coH l m n f.c).2)
    else if f.kind = 2 then (([((exH l m f.e).1, f.field, f.num)], hasL h ((exH l m f.e).1, f.field, 0)), (exH l m f.e).2)
    else if f.kind = 3 then (([((exH l m f.e).1, f.field, f.num)], hasL h ((exH l m f.e).1, f.field, 0) && decide (getP h ((exH l m f.e).1, f.field, 0) = (exH l m f.v).1)), (exH l m f.e).2 || (exH l m f.v).2)
    else if f.kind = 4 then
      ((addsS (((f.kids.map (wkH l h m n k)).getD 0 (([], true), false)).1.1 ++ ((f.kids.map (wkH l h m n k)).getD 1 (([], true), false)).1.1), ((f.kids.map (wkH l h m n k)).getD 0 (([], true), false)).1.2 && ((f.kids.map (wkH l h m n k)).getD 1 (([], true), false)).1.2),
        ((f.kids.map (wkH l h m n k)).getD 0 (([], true), false)).2 || ((f.kids.map (wkH l h m n k)).getD 1 (([], true), false)).2)
    else if f.kind = 5 then
      (((f.kids.map (wkH l h m n k)).getD (if (coH l m n f.c).1 then 0 else 1) (([], true), false)).1, (coH l m n f.c).2 || ((f.kids.map (wkH l h m n k)).getD (if (coH l m n f.c).1 then 0 else 1) (([], true), false)).2)
    else (([], true), false)) := rfl
theorem wkH_0 (h0 : f.kind = 0) : wkH l h m n (k + 1) f = (([], true), false) := by
  rw [wkH_eq, if_neg (by omega), if_neg (by omega), if_neg (by omega), if_neg (by omega), if_neg (by omega)]
theorem wkH_1 (h0 : f.kind = 1) : wkH l h m n (k + 1) f = (([], (coH l m n f.c).1), (coH l m n f.c).2) := by
  rw [wkH_eq, if_pos h0]
theorem wkH_2 (h0 : f.kind = 2) : wkH l h m n (k + 1) f = (([((exH l m f.e).1, f.field, f.num)], hasL h ((exH l m f.e).1, f.field, 0)), (exH l m f.e).2) := by
  rw [wkH_eq, if_neg (by omega), if_pos h0]
theorem wkH_3 (h0 : f.kind = 3) : wkH l h m n (k + 1) f = (([((exH l m f.e).1, f.field, f.num)], hasL h ((exH l m f.e).1, f.field, 0) && decide (getP h ((exH l m f.e).1, f.field, 0) = (exH l m f.v).1)), (exH l m f.e).2 || (exH l m f.v).2) := by
  rw [wkH_eq, if_neg (by omega), if_neg (by omega), if_pos h0]
theorem wkH_4 (h0 : f.kind = 4) {a b : AT m n k} (hk : f.kids = [a, b]) : wkH l h m n (k + 1) f = ((addsS ((wkH l h m n k a).1.1 ++ (wkH l h m n k b).1.1), (wkH l h m n k a).1.2 && (wkH l h m n k b).1.2), (wkH l h m n k a).2 || (wkH l h m n k b).2) := by
  rw [wkH_eq, if_neg (by omega), if_neg (by omega), if_neg (by omega), if_pos h0, hk]; rfl
theorem wkH_5 (h0 : f.kind = 5) {a b : AT m n k} (hk : f.kids = [a, b]) : wkH l h m n (k + 1) f = (if (coH l m n f.c).1 = true then ((wkH l h m n k a).1, (coH l m n f.c).2 || (wkH l h m n k a).2) else ((wkH l h m n k b).1, (coH l m n f.c).2 || (wkH l h m n k b).2)) := by
  rw [wkH_eq, if_neg (by omega), if_neg (by omega), if_neg (by omega), if_neg (by omega), if_pos h0, hk]
  split <;> rfl
theorem lvA_two {a b : AT m n k} (hk : f.kids = [a, b]) : lvA m n (k + 1) f = 1 + (lvA m n k a + lvA m n k b) := by
  show 1 + (f.kids.map (lvA m n k)).sum = _
  rw [hk]; simp
end
theorem lvA_pos (m n : Nat) : ∀ (k : Nat) (x : AT m n k), 1 ≤ lvA m n k x
  | 0, _ => Nat.le_refl _
  | _ + 1, _ => Nat.le_add_right 1 _
theorem wkH_len (l : List Vr) (h : List Tri) (m n : Nat) : ∀ (k : Nat) (x : AT m n k), okA m n k x = true → (wkH l h m n k x).1.1.length ≤ lvA m n k x
  | 0, _, _ => Nat.zero_le _
  | k + 1, x, hx => by
    obtain ⟨hs, hk⟩ := okA_parts hx
    have hp := lvA_pos m n (k + 1) x
    rcases aShape_cases hs with h0 | ⟨h0, _⟩ | ⟨h0, _⟩ | ⟨h0, _, _⟩ | ⟨h0, h2⟩ | ⟨h0, _, h2⟩
    · rw [wkH_0 h0]; exact Nat.zero_le _
    · rw [wkH_1 h0]; exact Nat.zero_le _
    · rw [wkH_2 h0]; exact hp
    · rw [wkH_3 h0]; exact hp
    · obtain ⟨a, b, e⟩ : ∃ a b, ANode.kids x = [a, b] := by
        match hks : ANode.kids x, h2 with
        | [a, b], _ => exact ⟨a, b, rfl⟩
      have h1 := wkH_len l h m n k a (hk a (by rw [e]; simp))
      have h3 := wkH_len l h m n k b (hk b (by rw [e]; simp))
      have h4 := addsS_len ((wkH l h m n k a).1.1 ++ (wkH l h m n k b).1.1)
      rw [List.length_append] at h4
      rw [wkH_4 h0 e, lvA_two e]
      show (addsS _).length ≤ _
      omega
    · obtain ⟨a, b, e⟩ : ∃ a b, ANode.kids x = [a, b] := by
        match hks : ANode.kids x, h2 with
        | [a, b], _ => exact ⟨a, b, rfl⟩
      have h1 := wkH_len l h m n k a (hk a (by rw [e]; simp))
      have h3 := wkH_len l h m n k b (hk b (by rw [e]; simp))
      rw [wkH_5 h0 e, lvA_two e]
      split
      · show (wkH l h m n k a).1.1.length ≤ _; omega
      · show (wkH l h m n k b).1.1.length ≤ _; omega

/-- A part's cells, where the slice's address is known. -/
theorem assns_someH {m n k : Nat} {R : Nat → Prop} {w : World} {A : Option Addr} {l : List (AT m n k)} {cap : Nat} (h : Assns R w A l cap) (i : Nat) (hi : i < l.length) :
    ∃ b o kd ck cA cel cca cB ckl cck ek en es eB ekl eck vk vn vs vB vkl vck fd nm B kl capk, A = some ⟨b, o, none⟩ ∧ (assnV m n k) R w [.int .i64 kd, .int .i64 ck, .slice cA cel cca, .slice cB ckl cck, .int .i64 ek, .int .i64 en, .string es, .slice eB ekl eck, .int .i64 vk, .int .i64 vn, .string vs, .slice vB vkl vck, .string fd, .int .i64 nm, .slice B kl capk] l[i] ∧ w.cell? ⟨b, o + i * 15, none⟩ = some (.int .i64 kd) ∧ w.cell? ⟨b, o + i * 15 + 1, none⟩ = some (.int .i64 ck) ∧ w.cell? ⟨b, o + i * 15 + 2, none⟩ = some (.slice cA cel cca) ∧ w.cell? ⟨b, o + i * 15 + 3, none⟩ = some (.slice cB ckl cck) ∧ w.cell? ⟨b, o + i * 15 + 4, none⟩ = some (.int .i64 ek) ∧ w.cell? ⟨b, o + i * 15 + 5, none⟩ = some (.int .i64 en) ∧ w.cell? ⟨b, o + i * 15 + 6, none⟩ = some (.string es) ∧ w.cell? ⟨b, o + i * 15 + 7, none⟩ = some (.slice eB ekl eck) ∧ w.cell? ⟨b, o + i * 15 + 8, none⟩ = some (.int .i64 vk) ∧ w.cell? ⟨b, o + i * 15 + 9, none⟩ = some (.int .i64 vn) ∧ w.cell? ⟨b, o + i * 15 + 10, none⟩ = some (.string vs) ∧ w.cell? ⟨b, o + i * 15 + 11, none⟩ = some (.slice vB vkl vck) ∧ w.cell? ⟨b, o + i * 15 + 12, none⟩ = some (.string fd) ∧ w.cell? ⟨b, o + i * 15 + 13, none⟩ = some (.int .i64 nm) ∧ w.cell? ⟨b, o + i * 15 + 14, none⟩ = some (.slice B kl capk) := by
  obtain ⟨b, o, cs, e, _, hv, hc⟩ := vmem_of (V := assnV m n k) (assnV_sz m n k) h i hi
  obtain ⟨kd, ck, cA, cel, cca, cB, ckl, cck, ek, en, es, eB, ekl, eck, vk, vn, vs, vB, vkl, vck, fd, nm, B, kl, capk, rfl⟩ := assn_shape hv
  exact ⟨b, o, kd, ck, cA, cel, cca, cB, ckl, cck, ek, en, es, eB, ekl, eck, vk, vn, vs, vB, vkl, vck, fd, nm, B, kl, capk, e, hv, hc 0 _ rfl, hc 1 _ rfl, hc 2 _ rfl, hc 3 _ rfl, hc 4 _ rfl, hc 5 _ rfl, hc 6 _ rfl, hc 7 _ rfl, hc 8 _ rfl, hc 9 _ rfl, hc 10 _ rfl, hc 11 _ rfl, hc 12 _ rfl, hc 13 _ rfl, hc 14 _ rfl⟩
theorem assns_knownH {m n k : Nat} {R : Nat → Prop} {w : World} {b o : Nat} {l : List (AT m n k)} {cap : Nat} (h : Assns R w (some ⟨b, o, none⟩) l cap) (i : Nat) (hi : i < l.length) :
    ∃ kd ck cA cel cca cB ckl cck ek en es eB ekl eck vk vn vs vB vkl vck fd nm B kl capk, (assnV m n k) R w [.int .i64 kd, .int .i64 ck, .slice cA cel cca, .slice cB ckl cck, .int .i64 ek, .int .i64 en, .string es, .slice eB ekl eck, .int .i64 vk, .int .i64 vn, .string vs, .slice vB vkl vck, .string fd, .int .i64 nm, .slice B kl capk] l[i] ∧ w.cell? ⟨b, o + i * 15, none⟩ = some (.int .i64 kd) ∧ w.cell? ⟨b, o + i * 15 + 1, none⟩ = some (.int .i64 ck) ∧ w.cell? ⟨b, o + i * 15 + 2, none⟩ = some (.slice cA cel cca) ∧ w.cell? ⟨b, o + i * 15 + 3, none⟩ = some (.slice cB ckl cck) ∧ w.cell? ⟨b, o + i * 15 + 4, none⟩ = some (.int .i64 ek) ∧ w.cell? ⟨b, o + i * 15 + 5, none⟩ = some (.int .i64 en) ∧ w.cell? ⟨b, o + i * 15 + 6, none⟩ = some (.string es) ∧ w.cell? ⟨b, o + i * 15 + 7, none⟩ = some (.slice eB ekl eck) ∧ w.cell? ⟨b, o + i * 15 + 8, none⟩ = some (.int .i64 vk) ∧ w.cell? ⟨b, o + i * 15 + 9, none⟩ = some (.int .i64 vn) ∧ w.cell? ⟨b, o + i * 15 + 10, none⟩ = some (.string vs) ∧ w.cell? ⟨b, o + i * 15 + 11, none⟩ = some (.slice vB vkl vck) ∧ w.cell? ⟨b, o + i * 15 + 12, none⟩ = some (.string fd) ∧ w.cell? ⟨b, o + i * 15 + 13, none⟩ = some (.int .i64 nm) ∧ w.cell? ⟨b, o + i * 15 + 14, none⟩ = some (.slice B kl capk) := by
  obtain ⟨b', o', kd, ck, cA, cel, cca, cB, ckl, cck, ek, en, es, eB, ekl, eck, vk, vn, vs, vB, vkl, vck, fd, nm, B, kl, capk, e, hv, x0, x1, x2, x3, x4, x5, x6, x7, x8, x9, x10, x11, x12, x13, x14⟩ := assns_someH h i hi
  injection e with e
  injection e with e1 e2
  subst e1; subst e2
  exact ⟨kd, ck, cA, cel, cca, cB, ckl, cck, ek, en, es, eB, ekl, eck, vk, vn, vs, vB, vkl, vck, fd, nm, B, kl, capk, hv, x0, x1, x2, x3, x4, x5, x6, x7, x8, x9, x10, x11, x12, x13, x14⟩
/-- A call walks: it returns what is taken and whether it holds, and marks what was far. -/
def WkRet (bx : Nat) (A : Option Addr) (len cap : Nat) (f : Bool) (w : World) (r : (List Tri × Bool) × Bool) (e : Ending) (w' : World) : Prop :=
  ∃ As cs, e = .returned (.tuple #[.slice As r.1.1.length cs, .bool r.1.2]) ∧ OTris 50 (fun q => w.heap.size ≤ q) w' (.slice As r.1.1.length cs) r.1.1 ∧ Chg (fun q => q = bx) w w' ∧ LookAt w' bx A len cap (f || r.2)
def HWkOk (m n k : Nat) : Prop := ∀ (x : AT m n k) (R Rs Rh : Nat → Prop) (w : World) (cs : List Value) (bx : Nat) (A : Option Addr) (l : List Vr) (cap : Nat) (f : Bool) (Ah : Option Addr) (h : List Tri) (hcap : Nat), okA m n k x = true → lvA m n k x ≤ 100000 → (assnV m n k) R w cs x → (∀ q, R q → q ≠ bx) → LookAt w bx A l.length cap f → Vars Rs w A l cap → (∀ q, Rs q → q ≠ bx) → Tris Rh w Ah h hcap → (∀ q, Rh q → q ≠ bx) → Strict h →
    Calls Tryz.prog 22 #[.pointer (some ⟨bx, 0, none⟩), .agg cs.toArray, .slice Ah h.length hcap] w (WkRet bx A l.length cap f w (wkH l h m n k x))

set_option maxRecDepth 100000 in
set_option maxHeartbeats 8000000 in
theorem hwk_walk (m n k : Nat) (IH : Hid (HWkOk m n k)) : HWkOk m n (k + 1) := by
  rintro f R Rs Rh w cs bx A l cap fl Ah h hcap hok hlv hx hR hb hl hRs hh hRh hst
  obtain ⟨ck, cA, cel, cca, cB, ckl, cck, ek, en, es, eB, ekl, eck, vk, vn, vs, vB, vkl, vck, B, capk, rfl, i1, hc, he, hv, hfl, i2, hk⟩ := anode_cells hx
  obtain ⟨hs, hkok⟩ := okA_parts hok
  have hbx : bx < w.heap.size := (Array.getElem?_eq_some_iff.1 hb).1
  have HVS := Lib.hid (fun W (hW : Chg (fun k => k = bx) w W) => hl.chg varE_good hW (fun k hk e => hRs k hk e))
  have HTH := Lib.hid (fun W (hW : Chg (fun k => k = bx) w W) => hh.chg triE_good hW (fun k hk e => hRh k hk e))
  have HKS := Lib.hid (fun W (hW : Chg (fun k => k = bx) w W) => hk.chg (assnE_good m n k) hW (fun k hk e => hR k hk e))
  have HEX : Hid (okE m (ANode.e f) = true → ∀ W g, Chg (fun k => k = bx) w W → LookAt W bx A l.length cap g → Calls Tryz.prog 30 #[.pointer (some ⟨bx, 0, none⟩), .agg #[.int .i64 ek, .int .i64 en, .string es, .slice eB ekl eck]] W (LkRet bx A l.length cap (g || (exH l m (ANode.e f)).2) W (.int .i64 (exH l m (ANode.e f)).1))) := fun h1 W g hW hg => hex_any m _ R Rs W [.int .i64 ek, .int .i64 en, .string es, .slice eB ekl eck] bx A l cap g h1 ((exprV_good m).chg he hW (fun k hk e => hR k hk e)) hR hg (HVS.out W hW) hRs
  have HEV : Hid (okE m (ANode.v f) = true → ∀ W g, Chg (fun k => k = bx) w W → LookAt W bx A l.length cap g → Calls Tryz.prog 30 #[.pointer (some ⟨bx, 0, none⟩), .agg #[.int .i64 vk, .int .i64 vn, .string vs, .slice vB vkl vck]] W (LkRet bx A l.length cap (g || (exH l m (ANode.v f)).2) W (.int .i64 (exH l m (ANode.v f)).1))) := fun h1 W g hW hg => hex_any m _ R Rs W [.int .i64 vk, .int .i64 vn, .string vs, .slice vB vkl vck] bx A l cap g h1 ((exprV_good m).chg hv hW (fun k hk e => hR k hk e)) hR hg (HVS.out W hW) hRs
  have HCO : Hid (okC m n (ANode.c f) = true → ∀ W g, Chg (fun k => k = bx) w W → LookAt W bx A l.length cap g → Calls Tryz.prog 31 #[.pointer (some ⟨bx, 0, none⟩), .agg #[.int .i64 ck, .slice cA cel cca, .slice cB ckl cck]] W (LkRet bx A l.length cap (g || (coH l m n (ANode.c f)).2) W (.bool (coH l m n (ANode.c f)).1))) := fun h1 W g hW hg => hco_any m n _ R Rs W [.int .i64 ck, .slice cA cel cca, .slice cB ckl cck] bx A l cap g h1 ((condV_good m n).chg hc hW (fun k hk e => hR k hk e)) hR hg (HVS.out W hW) hRs
  have HGT : Hid (∀ W z s, Chg (fun k => k = bx) w W → Calls Tryz.prog 37 #[.slice Ah h.length hcap, .int .i64 z, .string s] W fun e w' => e = .returned (.tuple #[.int .i64 (getP h (z, s, 0)), noneV (hasL h (z, s, 0))]) ∧ Chg No W w') := fun W z s hW => get_any (HTH.out W hW) hst z s
  have HWK : Hid (∀ x : AT m n k, okA m n k x = true → lvA m n k x ≤ 100000 → ∀ W cs' g, Chg (fun k => k = bx) w W → (assnV m n k) R W cs' x → LookAt W bx A l.length cap g → Calls Tryz.prog 22 #[.pointer (some ⟨bx, 0, none⟩), .agg cs'.toArray, .slice Ah h.length hcap] W (WkRet bx A l.length cap g W (wkH l h m n k x))) := fun x h1 h2 W cs' g hW hcs hg => IH.out x R Rs Rh W cs' bx A l cap g Ah h hcap h1 h2 hcs hR hg (HVS.out W hW) hRs (HTH.out W hW) hRh hst
  have HJN : Hid (∀ W R1 R2 A1 A2 (a b : List Tri) ca cb, Tris R1 W A1 a ca → Tris R2 W A2 b cb → a.length + b.length ≤ 100000 → Calls Tryz.prog 38 #[.slice A1 a.length ca, .slice A2 b.length cb] W fun e w' => ∃ A' cap', e = .returned (.slice A' (addsS (a ++ b)).length cap') ∧ OTris 50 (fun k => W.heap.size ≤ k) w' (.slice A' (addsS (a ++ b)).length cap') (addsS (a ++ b)) ∧ Chg No W w') := fun W R1 R2 A1 A2 a b ca cb h1 h2 h3 => join_ref (h1.mono triE_good (R' := fun q => R1 q ∨ R2 q) (fun _ _ h => .inl h)) (h2.mono triE_good (R' := fun q => R1 q ∨ R2 q) (fun _ _ h => .inr h)) h3
  have H0 := @wkH_0 l h m n k f
  have H1 := @wkH_1 l h m n k f
  have H2 := @wkH_2 l h m n k f
  have H3 := @wkH_3 l h m n k f
  have H4 := @wkH_4 l h m n k f
  have H5 := @wkH_5 l h m n k f
  have HLV := @lvA_two m n k f
  have HKO := Lib.hid hkok
  have HLE := Lib.hid (exH_le l m (ANode.e f))
  have HB := Lib.hid hb
  have hbh := hh.big
  unfold big at hbh
  obtain ⟨ans, hans⟩ : ∃ ans, ans = wkH l h m n (k + 1) f := ⟨_, rfl⟩
  rw [← hans] at H0 H1 H2 H3 H4 H5 ⊢
  obtain ⟨lv, hlv2⟩ : ∃ lv, lv = lvA m n (k + 1) f := ⟨_, rfl⟩
  rw [← hlv2] at hlv HLV
  have HLN := Lib.hid (fun (x : AT m n k) (hx : okA m n k x = true) => wkH_len l h m n k x hx)
  clear hans hlv2 hx hk hc he hv IH hok hl hkok hb hh hst
  have HFD : Hid (TriOk ((exH l m (ANode.e f)).1, ANode.field f, ANode.num f)) := ⟨I64.of (by have := HLE.out.1; show _ ≤ (exH l m (ANode.e f)).1; omega) (by have := HLE.out.2; show (exH l m (ANode.e f)).1 ≤ _; omega), hfl, i2⟩
  clear hfl
  generalize ANode.kind f = kd at *
  generalize ANode.field f = fd at *
  generalize ANode.num f = num at *
  generalize ANode.kids f = ks at *
  generalize exH l m (ANode.e f) = eE at *
  generalize exH l m (ANode.v f) = eV at *
  generalize coH l m n (ANode.c f) = eC at *
  generalize okE m (ANode.e f) = bE at *
  generalize okE m (ANode.v f) = bV at *
  generalize okC m n (ANode.c f) = bC at *
  generalize hasE m (ANode.e f) = bHE at *
  generalize hasE m (ANode.v f) = bHV at *
  generalize hasC m n (ANode.c f) = bHC at *
  obtain ⟨vE, fE⟩ := eE
  obtain ⟨vV, fV⟩ := eV
  obtain ⟨vC, fC⟩ := eC
  simp only at HEX HEV HCO H1 H2 H3 H5 HLE HFD
  obtain ⟨w3, hw3⟩ : ∃ w3, w3 = w.alloc (.cells #[.int .i64 kd, .int .i64 ck, .slice cA cel cca, .slice cB ckl cck, .int .i64 ek, .int .i64 en, .string es, .slice eB ekl eck, .int .i64 vk, .int .i64 vn, .string vs, .slice vB vkl vck, .string fd, .int .i64 num, .slice B ks.length capk] 30) := ⟨_, rfl⟩
  have h3 : Hid (Chg No w w3 ∧ w3.heap[w.heap.size]? = some (.cells #[.int .i64 kd, .int .i64 ck, .slice cA cel cca, .slice cB ckl cck, .int .i64 ek, .int .i64 en, .string es, .slice eB ekl eck, .int .i64 vk, .int .i64 vn, .string vs, .slice vB vkl vck, .string fd, .int .i64 num, .slice B ks.length capk] 30 (0, 0)) ∧ LookAt w3 bx A l.length cap fl) := by
    rw [hw3]
    exact ⟨(Chg.refl _ _).alloc _, heap_alloc_new _ _, HB.out.chg (S := No) ((Chg.refl _ _).alloc _) id⟩
  have HO := Lib.hid (fun W (hW : Chg (fun k => k = bx) w3 W) => obj_15 (hW.obj h3.out.2.1 (fun e => by omega)))
  have HT : Hid (∀ W, Chg (fun k => k = bx) w3 W → Chg (fun k => k = bx) w W) := fun W hW => h3.out.1.no.trans hW (fun _ h _ => h)
  obtain ⟨p0, p1, p2, p3, p4, p5, p6, p7, p8, p9, p10, p11, p12, p13, p14⟩ := HO.out w3 (Chg.refl _ _)
  rcases aShape_cases hs with rfl | ⟨rfl, rfl⟩ | ⟨rfl, rfl⟩ | ⟨rfl, rfl, rfl⟩ | ⟨rfl, hkl⟩ | ⟨rfl, rfl, hkl⟩
  · have HA := Lib.hid (H0 rfl)
    clear H0 H1 H2 H3 H4 H5 HEX HEV HCO HGT HWK HJN HKS hs HLV
    go_enter Tryz.func22, Tryz.ntmps22
    go_upto_region 1 with fail
    rw [← hw3]
    clear hw3
    go_wp2_with fail
    go_ret2
    rw [HA.out]
    exact ⟨none, 0, rfl, OwnL.nil _ _ _ _ _, h3.out.1.no, by simpa using h3.out.2.2⟩
  · have HA := Lib.hid (H1 rfl)
    have HC := Lib.hid (HCO.out rfl w3 fl h3.out.1.no h3.out.2.2)
    clear H0 H1 H2 H3 H4 H5 HEX HEV HCO HGT HWK HJN HKS hs HLV
    go_enter Tryz.func22, Tryz.ntmps22
    go_upto_region 1 with fail
    rw [← hw3]
    clear hw3
    go_wp2_with (go_at_call 31; (with_reducible refine HC.out.mono ?_); rintro e w4 ⟨rfl, h4, g4⟩)
    go_ret2
    rw [HA.out]
    exact ⟨none, 0, rfl, OwnL.nil _ _ _ _ _, HT.out _ h4, g4⟩
  · have HA := Lib.hid (H2 rfl)
    have HC := Lib.hid (HEX.out rfl w3 fl h3.out.1.no h3.out.2.2)
    clear H0 H1 H2 H3 H4 H5 HEX HEV HCO HWK HJN HKS hs HLV
    have HN : Hid (noneV (hasL h (vE, fd, 0)) = .nilIface ∧ hasL h (vE, fd, 0) = true ∨ (noneV (hasL h (vE, fd, 0)) = .iface 70 (.int .i64 15) ∧ hasL h (vE, fd, 0) = false)) := by
      cases hasL h (vE, fd, 0) <;> simp [noneV, Hid]
    go_enter Tryz.func22, Tryz.ntmps22
    go_upto_region 1 with fail
    rw [← hw3]
    clear hw3
    go_upto_region 7 with (go_at_call 30; (with_reducible refine HC.out.mono ?_); rintro e w4 ⟨rfl, h4, g4⟩; have H4 := Lib.hid h4; have G4 := Lib.hid g4; clear h4 g4)
    clear p0 p1 p2 p3 p4 p5 p6 p7 p8 p9 p10 p11 p12 p13 p14
    obtain ⟨p0, p1, p2, p3, p4, p5, p6, p7, p8, p9, p10, p11, p12, p13, p14⟩ := HO.out w4 H4.out
    have HG := Lib.hid (HGT.out w4 vE fd (HT.out w4 H4.out))
    go_upto_region 8 with (go_at_call 37; (with_reducible refine HG.out.mono ?_); rintro e w5 ⟨rfl, h5⟩; have H5 := Lib.hid (H4.out.thenNo h5); have G5 := Lib.hid (G4.out.chg h5 id); clear h5)
    clear p0 p1 p2 p3 p4 p5 p6 p7 p8 p9 p10 p11 p12 p13 p14
    obtain ⟨p0, p1, p2, p3, p4, p5, p6, p7, p8, p9, p10, p11, p12, p13, p14⟩ := HO.out w5 H5.out
    have HR : Hid (∀ u, u = hasL h (vE, fd, 0) → WkRet bx A l.length cap fl w ans (.returned (.tuple #[.slice (some ⟨w5.heap.size, 0, none⟩) 1 1, .bool u])) (w5.alloc (.cells #[.int .i64 vE, .string fd, .int .i64 num] 50))) := fun u hu => by
      rw [HA.out]
      exact ⟨_, 1, by rw [hu]; rfl, ownL_oneH (cs := [.int .i64 vE, .string fd, .int .i64 num]) (heap_alloc_new _ _) (HT.out _ H5.out).size rfl (tri_of (m := (vE, fd, num)) HFD.out.1 HFD.out.2.1 HFD.out.2.2) triV_good, (HT.out _ H5.out).alloc _, (G5.out.chg (S := No) ((Chg.refl _ _).alloc _) id)⟩
    rcases HN.out with ⟨hn, hn2⟩ | ⟨hn, hn2⟩
    · rw [hn]
      go_wp2_with fail
      go_ret2
      exact HR.out _ hn2.symm
    · rw [hn]
      go_wp2_with fail
      go_ret2
      exact HR.out _ hn2.symm
  · have HA := Lib.hid (H3 rfl)
    have HC := Lib.hid (HEX.out rfl w3 fl h3.out.1.no h3.out.2.2)
    have HV := Lib.hid (HEV.out rfl)
    clear H0 H1 H2 H3 H4 H5 HEX HEV HCO HWK HJN HKS hs HLV
    have HN : Hid (noneV (hasL h (vE, fd, 0)) = .nilIface ∧ hasL h (vE, fd, 0) = true ∨ (noneV (hasL h (vE, fd, 0)) = .iface 70 (.int .i64 15) ∧ hasL h (vE, fd, 0) = false)) := by
      cases hasL h (vE, fd, 0) <;> simp [noneV, Hid]
    go_enter Tryz.func22, Tryz.ntmps22
    go_upto_region 1 with fail
    rw [← hw3]
    clear hw3
    go_upto_region 7 with (go_at_call 30; (with_reducible refine HC.out.mono ?_); rintro e w4 ⟨rfl, h4, g4⟩; have H4 := Lib.hid h4; have G4 := Lib.hid g4; clear h4 g4)
    clear p0 p1 p2 p3 p4 p5 p6 p7 p8 p9 p10 p11 p12 p13 p14
    obtain ⟨p0, p1, p2, p3, p4, p5, p6, p7, p8, p9, p10, p11, p12, p13, p14⟩ := HO.out w4 H4.out
    have HG := Lib.hid (HGT.out w4 vE fd (HT.out w4 H4.out))
    go_upto_region 8 with (go_at_call 37; (with_reducible refine HG.out.mono ?_); rintro e w5 ⟨rfl, h5⟩; have H5 := Lib.hid (H4.out.thenNo h5); have G5 := Lib.hid (G4.out.chg h5 id); clear h5)
    clear p0 p1 p2 p3 p4 p5 p6 p7 p8 p9 p10 p11 p12 p13 p14
    obtain ⟨p0, p1, p2, p3, p4, p5, p6, p7, p8, p9, p10, p11, p12, p13, p14⟩ := HO.out w5 H5.out
    generalize getP h (vE, fd, 0) = gv at *
    have HC2 := Lib.hid (HV.out w5 _ (HT.out _ H5.out) G5.out)
    have HR : Hid (∀ (w6 : World) u, Chg (fun k => k = bx) w5 w6 → LookAt w6 bx A l.length cap (fl || fE || fV) → u = (hasL h (vE, fd, 0) && decide (gv = vV)) → WkRet bx A l.length cap fl w ans (.returned (.tuple #[.slice (some ⟨w6.heap.size, 0, none⟩) 1 1, .bool u])) (w6.alloc (.cells #[.int .i64 vE, .string fd, .int .i64 num] 50))) := fun w6 u h6 g6 hu => by
      rw [HA.out]
      have h7 := (HT.out _ H5.out).trans h6 (fun _ h _ => h)
      exact ⟨_, 1, by rw [hu]; rfl, ownL_oneH (cs := [.int .i64 vE, .string fd, .int .i64 num]) (heap_alloc_new _ _) h7.size rfl (tri_of (m := (vE, fd, num)) HFD.out.1 HFD.out.2.1 HFD.out.2.2) triV_good, h7.alloc _, by rw [← Bool.or_assoc]; exact (g6.chg (S := No) ((Chg.refl _ _).alloc _) id)⟩
    rcases HN.out with ⟨hn, hn2⟩ | ⟨hn, hn2⟩
    · rw [hn]
      go_upto_region 11 with (go_at_call 30; (with_reducible refine HC2.out.mono ?_); rintro e w6 ⟨rfl, h6, g6⟩; have H6 := Lib.hid h6; have G6 := Lib.hid g6; clear h6 g6)
      clear p0 p1 p2 p3 p4 p5 p6 p7 p8 p9 p10 p11 p12 p13 p14
      obtain ⟨p0, p1, p2, p3, p4, p5, p6, p7, p8, p9, p10, p11, p12, p13, p14⟩ := HO.out w6 (H5.out.trans H6.out (fun _ h _ => h))
      go_wp2_with fail
      go_ret2
      exact HR.out _ _ H6.out G6.out (by rw [hn2]; simp [beqDec])
    · rw [hn]
      go_upto_region 11 with (go_at_call 30; (with_reducible refine HC2.out.mono ?_); rintro e w6 ⟨rfl, h6, g6⟩; have H6 := Lib.hid h6; have G6 := Lib.hid g6; clear h6 g6)
      clear p0 p1 p2 p3 p4 p5 p6 p7 p8 p9 p10 p11 p12 p13 p14
      obtain ⟨p0, p1, p2, p3, p4, p5, p6, p7, p8, p9, p10, p11, p12, p13, p14⟩ := HO.out w6 (H5.out.trans H6.out (fun _ h _ => h))
      go_wp2_with fail
      go_ret2
      exact HR.out _ _ H6.out G6.out (by rw [hn2]; simp)
  · obtain ⟨a, b2, rfl⟩ : ∃ a b2, ks = [a, b2] := by
      match ks, hkl with
      | [a, b2], _ => exact ⟨a, b2, rfl⟩
    have HA := Lib.hid (H4 rfl rfl)
    have hlv2 := HLV rfl
    rw [show ([a, b2] : List (AT m n k)).length = 2 from rfl] at hw3 h3 HO p14
    have HL1 := Lib.hid (HLN.out a (HKO.out a (by simp)))
    have HL2 := Lib.hid (HLN.out b2 (HKO.out b2 (by simp)))
    have HW1 := Lib.hid (HWK.out a (HKO.out a (by simp)) (by omega))
    have HW2 := Lib.hid (HWK.out b2 (HKO.out b2 (by simp)) (by omega))
    obtain ⟨b, o, kd1, ck1, cA1, cel1, cca1, cB1, ckl1, cck1, ek1, en1, es1, eB1, ekl1, eck1, vk1, vn1, vs1, vB1, vkl1, vck1, fd1, nm1, B1, kl1, capk1, rfl, hv1, x0, x1, x2, x3, x4, x5, x6, x7, x8, x9, x10, x11, x12, x13, x14⟩ := assns_someH (HKS.out w3 h3.out.1.no) 0 (by simp)
    have HK2 := Lib.hid (fun W (hW : Chg (fun k => k = bx) w W) => assns_knownH (HKS.out W hW) 1 (by simp))
    have HI := Lib.hid (HW1.out w3 _ fl h3.out.1.no hv1 h3.out.2.2)
    simp only [Nat.zero_mul, Nat.add_zero] at x0 x1 x2 x3 x4 x5 x6 x7 x8 x9 x10 x11 x12 x13 x14
    clear hv1 H0 H1 H2 H3 H4 H5 HEX HEV HCO HGT HWK HKS hs HLV HKO HLN HW1
    generalize wkH l h m n k a = ra at *
    generalize wkH l h m n k b2 = rb at *
    obtain ⟨⟨sa, oa⟩, fa⟩ := ra
    obtain ⟨⟨sb, ob⟩, fb⟩ := rb
    simp only at HA HI HW2 HL1 HL2
    unfold WkRet at HI HW2
    simp only at HI HW2
    go_enter Tryz.func22, Tryz.ntmps22
    go_upto_region 1 with fail
    rw [← hw3]
    clear hw3
    go_upto_region 15 with (go_at_call 22; (with_reducible refine HI.out.mono ?_); rintro e w4 ⟨A4, c4, rfl, s4, h4, g4⟩; have H4 := Lib.hid h4; have G4 := Lib.hid g4; have S4 := Lib.hid s4; clear h4 g4 s4)
    clear p0 p1 p2 p3 p4 p5 p6 p7 p8 p9 p10 p11 p12 p13 p14 x0 x1 x2 x3 x4 x5 x6 x7 x8 x9 x10 x11 x12 x13 x14
    obtain ⟨p0, p1, p2, p3, p4, p5, p6, p7, p8, p9, p10, p11, p12, p13, p14⟩ := HO.out w4 H4.out
    obtain ⟨kd1, ck1, cA1, cel1, cca1, cB1, ckl1, cck1, ek1, en1, es1, eB1, ekl1, eck1, vk1, vn1, vs1, vB1, vkl1, vck1, fd1, nm1, B1, kl1, capk1, hv1, x0, x1, x2, x3, x4, x5, x6, x7, x8, x9, x10, x11, x12, x13, x14⟩ := HK2.out w4 (HT.out w4 H4.out)
    have HJ := Lib.hid (HW2.out w4 _ _ (HT.out w4 H4.out) hv1 G4.out)
    simp only [Nat.one_mul] at x0 x1 x2 x3 x4 x5 x6 x7 x8 x9 x10 x11 x12 x13 x14
    clear hv1
    go_upto_region 16 with (go_at_call 22; (with_reducible refine HJ.out.mono ?_); rintro e w5 ⟨A5, c5, rfl, s5, h5, g5⟩; have H5 := Lib.hid (H4.out.trans h5 (fun _ h _ => h)); have G5 := Lib.hid g5; have S5 := Lib.hid s5; have S4' : Hid (OTris 50 (fun q => w3.heap.size ≤ q) w5 (.slice A4 sa.length c4) sa) := (S4.out.chg triV_good h5 (fun q hq e => by have := (S4.out.mine q hq).1; have := h3.out.1.size; omega) (fun _ h => h.elim)); clear h5 g5 s5)
    have HJO := Lib.hid (HJN.out w5 _ _ _ _ sa sb _ _ (S4'.out.tris (by unfold big; have := HL1.out; omega)) (S5.out.tris (by unfold big; have := HL2.out; omega)) (by have := HL1.out; have := HL2.out; omega))
    clear p0 p1 p2 p3 p4 p5 p6 p7 p8 p9 p10 p11 p12 p13 p14 x0 x1 x2 x3 x4 x5 x6 x7 x8 x9 x10 x11 x12 x13 x14
    have HWS : Hid (w.heap.size ≤ w5.heap.size) := (HT.out _ H5.out).size
    cases oa
    · go_wp2_with (go_at_call 38; (with_reducible refine HJO.out.mono ?_); rintro e w6 ⟨A6, c6, rfl, s6, h6⟩)
      go_ret2
      rw [HA.out]
      exact ⟨A6, c6, by simp, s6.mono triV_good (fun q _ hq => Nat.le_trans HWS.out hq) (fun _ _ h => h), (HT.out _ H5.out).thenNo h6, by rw [← Bool.or_assoc]; exact G5.out.chg h6 id⟩
    · go_wp2_with (go_at_call 38; (with_reducible refine HJO.out.mono ?_); rintro e w6 ⟨A6, c6, rfl, s6, h6⟩)
      go_ret2
      rw [HA.out]
      exact ⟨A6, c6, by simp, s6.mono triV_good (fun q _ hq => Nat.le_trans HWS.out hq) (fun _ _ h => h), (HT.out _ H5.out).thenNo h6, by rw [← Bool.or_assoc]; exact G5.out.chg h6 id⟩
  · obtain ⟨a, b2, rfl⟩ : ∃ a b2, ks = [a, b2] := by
      match ks, hkl with
      | [a, b2], _ => exact ⟨a, b2, rfl⟩
    have HA := Lib.hid (H5 rfl rfl)
    have hlv2 := HLV rfl
    rw [show ([a, b2] : List (AT m n k)).length = 2 from rfl] at hw3 h3 HO p14
    have HW1 := Lib.hid (HWK.out a (HKO.out a (by simp)) (by omega))
    have HW2 := Lib.hid (HWK.out b2 (HKO.out b2 (by simp)) (by omega))
    have HC := Lib.hid (HCO.out rfl w3 fl h3.out.1.no h3.out.2.2)
    obtain ⟨b, o, hB⟩ : ∃ b o, B = some ⟨b, o, none⟩ := by
      obtain ⟨b, o, _, _, _, _, _, _, _, _, _, _, _, _, _, _, _, _, _, _, _, _, _, _, _, _, _, hB, _⟩ := assns_someH (HKS.out w3 h3.out.1.no) 0 (by simp)
      exact ⟨b, o, hB⟩
    subst hB
    have HK1 := Lib.hid (fun W (hW : Chg (fun k => k = bx) w W) => assns_knownH (HKS.out W hW) 0 (by simp))
    have HK2 := Lib.hid (fun W (hW : Chg (fun k => k = bx) w W) => assns_knownH (HKS.out W hW) 1 (by simp))
    clear H0 H1 H2 H3 H4 H5 HEX HEV HCO HGT HWK HKS hs HLV HKO HLN
    generalize wkH l h m n k a = ra at *
    generalize wkH l h m n k b2 = rb at *
    obtain ⟨⟨sa, oa⟩, fa⟩ := ra
    obtain ⟨⟨sb, ob⟩, fb⟩ := rb
    simp only at HA HW1 HW2
    unfold WkRet at HW1 HW2
    simp only at HW1 HW2
    cases vC
    · rw [if_neg (by decide)] at HA
      go_enter Tryz.func22, Tryz.ntmps22
      go_upto_region 1 with fail
      rw [← hw3]
      clear hw3
      go_upto_region 20 with (go_at_call 31; (with_reducible refine HC.out.mono ?_); rintro e w4 ⟨rfl, h4, g4⟩; have H4 := Lib.hid h4; have G4 := Lib.hid g4; clear h4 g4)
      clear p0 p1 p2 p3 p4 p5 p6 p7 p8 p9 p10 p11 p12 p13 p14
      obtain ⟨p0, p1, p2, p3, p4, p5, p6, p7, p8, p9, p10, p11, p12, p13, p14⟩ := HO.out w4 H4.out
      obtain ⟨kd1, ck1, cA1, cel1, cca1, cB1, ckl1, cck1, ek1, en1, es1, eB1, ekl1, eck1, vk1, vn1, vs1, vB1, vkl1, vck1, fd1, nm1, B1, kl1, capk1, hv1, x0, x1, x2, x3, x4, x5, x6, x7, x8, x9, x10, x11, x12, x13, x14⟩ := HK2.out w4 (HT.out w4 H4.out)
      have HJ := Lib.hid (HW2.out w4 _ _ (HT.out w4 H4.out) hv1 G4.out)
      simp only [Nat.one_mul] at x0 x1 x2 x3 x4 x5 x6 x7 x8 x9 x10 x11 x12 x13 x14
      clear hv1
      go_wp2_with (go_at_call 22; (with_reducible refine HJ.out.mono ?_); rintro e w5 ⟨A5, c5, rfl, s5, h5, g5⟩)
      go_ret2
      rw [HA.out]
      exact ⟨A5, c5, rfl, s5.mono triV_good (fun q _ hq => Nat.le_trans (HT.out _ H4.out).size hq) (fun _ _ h => h), (HT.out _ H4.out).trans h5 (fun _ h _ => h), by rw [← Bool.or_assoc]; exact g5⟩
    · rw [if_pos rfl] at HA
      go_enter Tryz.func22, Tryz.ntmps22
      go_upto_region 1 with fail
      rw [← hw3]
      clear hw3
      go_upto_region 19 with (go_at_call 31; (with_reducible refine HC.out.mono ?_); rintro e w4 ⟨rfl, h4, g4⟩; have H4 := Lib.hid h4; have G4 := Lib.hid g4; clear h4 g4)
      clear p0 p1 p2 p3 p4 p5 p6 p7 p8 p9 p10 p11 p12 p13 p14
      obtain ⟨p0, p1, p2, p3, p4, p5, p6, p7, p8, p9, p10, p11, p12, p13, p14⟩ := HO.out w4 H4.out
      obtain ⟨kd1, ck1, cA1, cel1, cca1, cB1, ckl1, cck1, ek1, en1, es1, eB1, ekl1, eck1, vk1, vn1, vs1, vB1, vkl1, vck1, fd1, nm1, B1, kl1, capk1, hv1, x0, x1, x2, x3, x4, x5, x6, x7, x8, x9, x10, x11, x12, x13, x14⟩ := HK1.out w4 (HT.out w4 H4.out)
      have HJ := Lib.hid (HW1.out w4 _ _ (HT.out w4 H4.out) hv1 G4.out)
      simp only [Nat.zero_mul, Nat.add_zero] at x0 x1 x2 x3 x4 x5 x6 x7 x8 x9 x10 x11 x12 x13 x14
      clear hv1
      go_wp2_with (go_at_call 22; (with_reducible refine HJ.out.mono ?_); rintro e w5 ⟨A5, c5, rfl, s5, h5, g5⟩)
      go_ret2
      rw [HA.out]
      exact ⟨A5, c5, rfl, s5.mono triV_good (fun q _ hq => Nat.le_trans (HT.out _ H4.out).size hq) (fun _ _ h => h), (HT.out _ H4.out).trans h5 (fun _ h _ => h), by rw [← Bool.or_assoc]; exact g5⟩
theorem hwk_any (m n : Nat) : ∀ k, HWkOk m n k
  | 0 => fun _ _ _ _ _ _ _ _ _ _ _ _ _ _ _ _ h => h.elim
  | k + 1 => hwk_walk m n k (Lib.hid (hwk_any m n k))
end Go.Proofs.YtgofncopoieigaaGreatDoor
