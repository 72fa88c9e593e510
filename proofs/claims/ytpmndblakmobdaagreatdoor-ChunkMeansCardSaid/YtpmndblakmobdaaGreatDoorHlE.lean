/-
  The look's walk of an assertion: what it takes, and whether it holds.
-/
import Derived.Test.YtpmndblakmobdaaGreatDoorMH
import Derived.Test.YtpmndblakmobdaaGreatDoorTP
import Derived.Test.YtpmndblakmobdaaGreatDoorMB
namespace Go.Proofs.YtpmndblakmobdaaGreatDoor
open Go Go.RowKit

theorem ownL_oneH {α : Type} {V : ElV α} {e : TypeId} {M R : Nat → Prop} {w : World} {g : Nat} {cs : List Value} {x : α} (hg : w.heap[g]? = some (.cells cs.toArray e (0, 0))) (hM : M g) (hlen : cs.length = V.sz) (hx : V (fun k => R k ∧ k ≠ g) w cs x) (G : V.Good) :
    OwnL V e M R w (.slice (some ⟨g, 0, none⟩) 1 1) [x] := by
  refine ⟨[cs], ⟨by simp [hlen], .inr ⟨g, 0, 1, cs.toArray, rfl, hM, hg, Nat.le_refl _, by decide, by simp [hlen], fun j u hj => ?_⟩⟩, rfl, fun i hi hi' => ?_⟩
  · simp at hj ⊢
    exact hj
  · match i, hi with
    | 0, _ => exact G.mono hx (fun k _ hk => ⟨hk.1, fun e => by simp [Value.ownBlock] at e; exact hk.2 e.symm⟩)
/-- What an assertion takes; whether it holds but for taking too much; was something far? -/
def wkH (l : List Vr) (h : List Tri) (m n : Nat) : (k : Nat) → AT m n k → (List Tri × Bool) × Bool
  | 0, _ => (([], true), false)
  | k + 1, x =>
    if ANode.kind x = 1 then (([], (coH l m n (ANode.c x)).1), (coH l m n (ANode.c x)).2)
    else if ANode.kind x = 2 then (([((exH l m (ANode.e x)).1, ANode.field x, ANode.num x)], hasL h ((exH l m (ANode.e x)).1, ANode.field x, 0)), (exH l m (ANode.e x)).2)
    else if ANode.kind x = 3 then (([((exH l m (ANode.e x)).1, ANode.field x, ANode.num x)], hasL h ((exH l m (ANode.e x)).1, ANode.field x, 0) && decide (getP h ((exH l m (ANode.e x)).1, ANode.field x, 0) = (exH l m (ANode.v x)).1)), (exH l m (ANode.e x)).2 || (exH l m (ANode.v x)).2)
    else if ANode.kind x = 4 then
      ((addsS ((((ANode.kids x).map (wkH l h m n k)).getD 0 (([], true), false)).1.1 ++ (((ANode.kids x).map (wkH l h m n k)).getD 1 (([], true), false)).1.1), (((ANode.kids x).map (wkH l h m n k)).getD 0 (([], true), false)).1.2 && (((ANode.kids x).map (wkH l h m n k)).getD 1 (([], true), false)).1.2),
        (((ANode.kids x).map (wkH l h m n k)).getD 0 (([], true), false)).2 || (((ANode.kids x).map (wkH l h m n k)).getD 1 (([], true), false)).2)
    else if ANode.kind x = 5 then
      ((((ANode.kids x).map (wkH l h m n k)).getD (if (coH l m n (ANode.c x)).1 then 0 else 1) (([], true), false)).1, (coH l m n (ANode.c x)).2 || (((ANode.kids x).map (wkH l h m n k)).getD (if (coH l m n (ANode.c x)).1 then 0 else 1) (([], true), false)).2)
    else (([], true), false)
/-- So many assertions are in one. -/
def lvA (m n : Nat) : (k : Nat) → AT m n k → Nat
  | 0, _ => 1
  | k + 1, x => 1 + ((ANode.kids x).map (lvA m n k)).sum
theorem okA_parts {m n k : Nat} {x : ANode (CT m n) (ET m) (AT m n k)} (h : okA m n (k + 1) x = true) : aShape x.kind x.num x.field x.kids.length (okC m n x.c) (hasC m n x.c) (okE m x.e) (hasE m x.e) (okE m x.v) (hasE m x.v) = true ∧ ∀ q ∈ x.kids, okA m n k q = true := by
  have h' : (aShape x.kind x.num x.field x.kids.length (okC m n x.c) (hasC m n x.c) (okE m x.e) (hasE m x.e) (okE m x.v) (hasE m x.v) && x.kids.all (okA m n k)) = true := h
  rw [Bool.and_eq_true] at h'
  exact ⟨h'.1, List.all_eq_true.1 h'.2⟩
theorem aShape_cases {kd num : Int} {field : ByteArray} {kl : Nat} {c hc e he v hv : Bool} (h : aShape kd num field kl c hc e he v hv = true) :
    (kd = 0) ∨ (kd = 1 ∧ c = true) ∨ (kd = 2 ∧ e = true) ∨ (kd = 3 ∧ e = true ∧ v = true) ∨ (kd = 4 ∧ kl = 2) ∨ (kd = 5 ∧ c = true ∧ kl = 2) := by
  unfold aShape at h
  split at h
  · exact .inl (by assumption)
  split at h
  · simp only [Bool.and_eq_true, decide_eq_true_eq] at h; exact .inr (.inl ⟨by assumption, h.1.1.1⟩)
  split at h
  · simp only [Bool.and_eq_true, decide_eq_true_eq] at h; exact .inr (.inr (.inl ⟨by assumption, h.1.1.2.1.1.1⟩))
  split at h
  · simp only [Bool.and_eq_true, decide_eq_true_eq] at h; exact .inr (.inr (.inr (.inl ⟨by assumption, h.1.1.2.1.1.1, h.1.2⟩)))
  split at h
  · simp only [Bool.and_eq_true, decide_eq_true_eq] at h; exact .inr (.inr (.inr (.inr (.inl ⟨by assumption, h.2⟩))))
  split at h
  · simp only [Bool.and_eq_true, decide_eq_true_eq] at h; exact .inr (.inr (.inr (.inr (.inr ⟨by assumption, h.1.1.1, h.2⟩))))
  · cases h
section
variable {l : List Vr} {h : List Tri} {m n k : Nat} {f : ANode (CT m n) (ET m) (AT m n k)}
theorem wkH_eq : wkH l h m n (k + 1) f = (if f.kind = 1 then (([], (coH l m n f.c).1), (coH l m n f.c).2)
    else if f.kind = 2 then (([((exH l m f.e).1, f.field, f.num)], hasL h ((exH l m f.e).1, f.field, 0)), (exH l m f.e).2)
    else if f.kind = 3 then (([((exH l m f.e).1, f.field, f.num)], hasL h ((exH l m f.e).1, f.field, 0) && decide (getP h ((exH l m f.e).1, f.field, 0) = (exH l m f.v).1)), (exH l m f.e).2 || (exH l m f.v).2)
    else if f.kind = 4 then
      ((addsS (((f.kids.map (wkH l h m n k)).getD 0 (([], true), false)).1.1 ++ ((f.kids.map (wkH l h m n k)).getD 1 (([], true), false)).1.1), ((f.kids.map (wkH l h m n k)).getD 0 (([], true), false)).1.2 && ((f.kids.map (wkH l h m n k)).getD 1 (([], true), false)).1.2),
        ((f.kids.map (wkH l h m n k)).getD 0 (([], true), false)).2 || ((f.kids.map (wkH l h m n k)).getD 1 (([], true), false)).2)
    else if f.kind = 5 then
      (((f.kids.map (wkH l h m n k)).getD (if (coH l m n f.c).1 then 0 else 1) (([], true), false)).1, (coH l m n f.c).2 || ((f.kids.map (wkH l h m n k)).getD (if (coH l m n f.c).1 then 0 else 1) (([], true), false)).2)
    else (([], true), false)) := rfl
theorem wkH_0 (h0 : f.kind = 0) : wkH l h m n (k + 1) f = (([], true), false) := by
  rw [wkH_eq, if_neg (by omega), if_neg (by omega), if_neg (by omega), if_neg (by omega), if_neg (by omega)]
theorem wkH_1 (h0 : f.kind = 1) : wkH l h m n (k + 1) f = (([], (coH l m n f.c).1), (coH l m n f.c).2) := by
  rw [wkH_eq, if_pos h0]
theorem wkH_2 (h0 : f.kind = 2) : wkH l h m n (k + 1) f = (([((exH l m f.e).1, f.field, f.num)], hasL h ((exH l m f.e).1, f.field, 0)), (exH l m f.e).2) := by
  rw [wkH_eq, if_neg (by omega), if_pos h0]
theorem wkH_3 (h0 : f.kind = 3) : wkH l h m n (k + 1) f = (([((exH l m f.e).1, f.field, f.num)], hasL h ((exH l m f.e).1, f.field, 0) && decide (getP h ((exH l m f.e).1, f.field, 0) = (exH l m f.v).1)), (exH l m f.e).2 || (exH l m f.v).2) := by
  rw [wkH_eq, if_neg (by omega), if_neg (by omega), if_pos h0]
theorem wkH_4 (h0 : f.kind = 4) {a b : AT m n k} (hk : f.kids = [a, b]) : wkH l h m n (k + 1) f = ((addsS ((wkH l h m n k a).1.1 ++ (wkH l h m n k b).1.1), (wkH l h m n k a).1.2 && (wkH l h m n k b).1.2), (wkH l h m n k a).2 || (wkH l h m n k b).2) := by
  rw [wkH_eq, if_neg (by omega), if_neg (by omega), if_neg (by omega), if_pos h0, hk]; rfl
theorem wkH_5 (h0 : f.kind = 5) {a b : AT m n k} (hk : f.kids = [a, b]) : wkH l h m n (k + 1) f = (if (coH l m n f.c).1 = true then ((wkH l h m n k a).1, (coH l m n f.c).2 || (wkH l h m n k a).2) else ((wkH l h m n k b).1, (coH l m n f.c).2 || (wkH l h m n k b).2)) := by
  rw [wkH_eq, if_neg (by omega), if_neg (by omega), if_neg (by omega), if_neg (by omega), if_pos h0, hk]
  split <;> rfl
theorem lvA_two {a b : AT m n k} (hk : f.kids = [a, b]) : lvA m n (k + 1) f = 1 + (lvA m n k a + lvA m n k b) := by
  show 1 + (f.kids.map (lvA m n k)).sum = _
  rw [hk]; simp
end
theorem lvA_pos (m n : Nat) : ∀ (k : Nat) (x : AT m n k), 1 ≤ lvA m n k x
  | 0, _ => Nat.le_refl _
  | _ + 1, _ => Nat.le_add_right 1 _
theorem wkH_len (l : List Vr) (h : List Tri) (m n : Nat) : ∀ (k : Nat) (x : AT m n k), okA m n k x = true → (wkH l h m n k x).1.1.length ≤ lvA m n k x
  | 0, _, _ => Nat.zero_le _
  | k + 1, x, hx => by
    obtain ⟨hs, hk⟩ := okA_parts hx
    have hp := lvA_pos m n (k + 1) x
    rcases aShape_cases hs with h0 | ⟨h0, _⟩ | ⟨h0, _⟩ | ⟨h0, _, _⟩ | ⟨h0, h2⟩ | ⟨h0, _, h2⟩
    · rw [wkH_0 h0]; exact Nat.zero_le _
    · rw [wkH_1 h0]; exact Nat.zero_le _
    · rw [wkH_2 h0]; exact hp
    · rw [wkH_3 h0]; exact hp
    · obtain ⟨a, b, e⟩ : ∃ a b, ANode.kids x = [a, b] := by
        match hks : ANode.kids x, h2 with
        | [a, b], _ => exact ⟨a, b, rfl⟩
      have h1 := wkH_len l h m n k a (hk a (by rw [e]; simp))
      have h3 := wkH_len l h m n k b (hk b (by rw [e]; simp))
      have h4 := addsS_len ((wkH l h m n k a).1.1 ++ (wkH l h m n k b).1.1)
      rw [List.length_append] at h4
      rw [wkH_4 h0 e, lvA_two e]
      show (addsS _).length ≤ _
      omega
    · obtain ⟨a, b, e⟩ : ∃ a b, ANode.kids x = [a, b] := by
        match hks : ANode.kids x, h2 with
        | [a, b], _ => exact ⟨a, b, rfl⟩
      have h1 := wkH_len l h m n k a (hk a (by rw [e]; simp))
      have h3 := wkH_len l h m n k b (hk b (by rw [e]; simp))
      rw [wkH_5 h0 e, lvA_two e]
      split
      · show (wkH l h m n k a).1.1.length ≤ _; omega
      · show (wkH l h m n k b).1.1.length ≤ _; omega

/-- A part's cells, where the slice's address is known. -/
theorem assns_someH {m n k : Nat} {R : Nat → Prop} {w : World} {A : Option Addr} {l : List (AT m n k)} {cap : Nat} (h : Assns R w A l cap) (i : Nat) (hi : i < l.length) :
    ∃ b o kd ck cA cel cca cB ckl cck ek en es eB ekl eck vk vn vs vB vkl vck fd nm B kl capk, A = some ⟨b, o, none⟩ ∧ (assnV m n k) R w [.int .i64 kd, .int .i64 ck, .slice cA cel cca, .slice cB ckl cck, .int .i64 ek, .int .i64 en, .string es, .slice eB ekl eck, .int .i64 vk, .int .i64 vn, .string vs, .slice vB vkl vck, .string fd, .int .i64 nm, .slice B kl capk] l[i] ∧ w.cell? ⟨b, o + i * 15, none⟩ = some (.int .i64 kd) ∧ w.cell? ⟨b, o + i * 15 + 1, none⟩ = some (.int .i64 ck) ∧ w.cell? ⟨b, o + i * 15 + 2, none⟩ = some (.slice cA cel cca) ∧ w.cell? ⟨b, o + i * 15 + 3, none⟩ = some (.slice cB ckl cck) ∧ w.cell? ⟨b, o + i * 15 + 4, none⟩ = some (.int .i64 ek) ∧ w.cell? ⟨b, o + i * 15 + 5, none⟩ = some (.int .i64 en) ∧ w.cell? ⟨b, o + i * 15 + 6, none⟩ = some (.string es) ∧ w.cell? ⟨b, o + i * 15 + 7, none⟩ = some (.slice eB ekl eck) ∧ w.cell? ⟨b, o + i * 15 + 8, none⟩ = some (.int .i64 vk) ∧ w.cell? ⟨b, o + i * 15 + 9, none⟩ = some (.int .i64 vn) ∧ w.cell? ⟨b, o + i * 15 + 10, none⟩ = some (.string vs) ∧ w.cell? ⟨b, o + i * 15 + 11, none⟩ = some (.slice vB vkl vck) ∧ w.cell? ⟨b, o + i * 15 + 12, none⟩ = some (.string fd) ∧ w.cell? ⟨b, o + i * 15 + 13, none⟩ = some (.int .i64 nm) ∧ w.cell? ⟨b, o + i * 15 + 14, none⟩ = some (.slice B kl capk) := by
  obtain ⟨b, o, cs, e, _, hv, hc⟩ := vmem_of (V := assnV m n k) (assnV_sz m n k) h i hi
  obtain ⟨kd, ck, cA, cel, cca, cB, ckl, cck, ek, en, es, eB, ekl, eck, vk, vn, vs, vB, vkl, vck, fd, nm, B, kl, capk, rfl⟩ := assn_shape hv
  exact ⟨b, o, kd, ck, cA, cel, cca, cB, ckl, cck, ek, en, es, eB, ekl, eck, vk, vn, vs, vB, vkl, vck, fd, nm, B, kl, capk, e, hv, hc 0 _ rfl, hc 1 _ rfl, hc 2 _ rfl, hc 3 _ rfl, hc 4 _ rfl, hc 5 _ rfl, hc 6 _ rfl, hc 7 _ rfl, hc 8 _ rfl, hc 9 _ rfl, hc 10 _ rfl, hc 11 _ rfl, hc 12 _ rfl, hc 13 _ rfl, hc 14 _ rfl⟩
theorem assns_knownH {m n k : Nat} {R : Nat → Prop} {w : World} {b o : Nat} {l : List (AT m n k)} {cap : Nat} (h : Assns R w (some ⟨b, o, none⟩) l cap) (i : Nat) (hi : i < l.length) :
    ∃ kd ck cA cel cca cB ckl cck ek en es eB ekl eck vk vn vs vB vkl vck fd nm B kl capk, (assnV m n k) R w [.int .i64 kd, .int .i64 ck, .slice cA cel cca, .slice cB ckl cck, .int .i64 ek, .int .i64 en, .string es, .slice eB ekl eck, .int .i64 vk, .int .i64 vn, .string vs, .slice vB vkl vck, .string fd, .int .i64 nm, .slice B kl capk] l[i] ∧ w.cell? ⟨b, o + i * 15, none⟩ = some (.int .i64 kd) ∧ w.cell? ⟨b, o + i * 15 + 1, none⟩ = some (.int .i64 ck) ∧ w.cell? ⟨b, o + i * 15 + 2, none⟩ = some (.slice cA cel cca) ∧ w.cell? ⟨b, o + i * 15 + 3, none⟩ = some (.slice cB ckl cck) ∧ w.cell? ⟨b, o + i * 15 + 4, none⟩ = some (.int .i64 ek) ∧ w.cell? ⟨b, o + i * 15 + 5, none⟩ = some (.int .i64 en) ∧ w.cell? ⟨b, o + i * 15 + 6, none⟩ = some (.string es) ∧ w.cell? ⟨b, o + i * 15 + 7, none⟩ = some (.slice eB ekl eck) ∧ w.cell? ⟨b, o + i * 15 + 8, none⟩ = some (.int .i64 vk) ∧ w.cell? ⟨b, o + i * 15 + 9, none⟩ = some (.int .i64 vn) ∧ w.cell? ⟨b, o + i * 15 + 10, none⟩ = some (.string vs) ∧ w.cell? ⟨b, o + i * 15 + 11, none⟩ = some (.slice vB vkl vck) ∧ w.cell? ⟨b, o + i * 15 + 12, none⟩ = some (.string fd) ∧ w.cell? ⟨b, o + i * 15 + 13, none⟩ = some (.int .i64 nm) ∧ w.cell? ⟨b, o + i * 15 + 14, none⟩ = some (.slice B kl capk) := by
  obtain ⟨b', o', kd, ck, cA, cel, cca, cB, ckl, cck, ek, en, es, eB, ekl, eck, vk, vn, vs, vB, vkl, vck, fd, nm, B, kl, capk, e, hv, x0, x1, x2, x3, x4, x5, x6, x7, x8, x9, x10, x11, x12, x13, x14⟩ := assns_someH h i hi
  injection e with e
  injection e with e1 e2
  subst e1; subst e2
  exact ⟨kd, ck, cA, cel, cca, cB, ckl, cck, ek, en, es, eB, ekl, eck, vk, vn, vs, vB, vkl, vck, fd, nm, B, kl, capk, hv, x0, x1, x2, x3, x4, x5, x6, x7, x8, x9, x10, x11, x12, x13, x14⟩
/-- A call walks: it returns what is taken and whether it holds, and marks what was far. -/
def WkRet (bx : Nat) (A : Option Addr) (len cap : Nat) (f : Bool) (w : World) (r : (List Tri × Bool) × Bool) (e : Ending) (w' : World) : Prop :=
  ∃ As cs, e = .returned (.tuple #[.slice As r.1.1.length cs, .bool r.1.2]) ∧ OTris 40 (fun q => w.heap.size ≤ q) w' (.slice As r.1.1.length cs) r.1.1 ∧ Chg (fun q => q = bx) w w' ∧ LookAt w' bx A len cap (f || r.2)
end Go.Proofs.YtpmndblakmobdaaGreatDoor
