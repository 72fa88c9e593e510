/-
  HlG, HlH, HlI, HlJ, HlK, HlOpen, ShO, in one file.
-/
import Derived.Test.YtgofncopoieigaaDoorHlE
import Derived.Deep.RegionHeldLaw
import Derived.Test.YtgofncopoieigaaDoorHlF
import Derived.Test.YtgofncopoieigaaDoorCode
import Derived.Test.YtgofncopoieigaaDoorHlB
import Derived.Test.YtgofncopoieigaaDoorRows
import Derived.Test.YtgofncopoieigaaDoorShN
import Derived.SliceStrings
import Derived.ProofKit
import Derived.LaidMore
import Derived.Stop.Joined
/- HlG -/
namespace Go.Proofs.YtgofncopoieigaaDoor
open Go Go.RowKit

theorem ownL_listH {α : Type} {V : ElV α} {e : TypeId} {M R : Nat → Prop} {w : World} {g : Nat} {cs : List (List Value)} {l : List α} (hg : w.heap[g]? = some (.cells cs.flatten.toArray e (0, 0))) (hM : M g) (hlen : cs.length = l.length) (hsz : ∀ c ∈ cs, c.length = V.sz) (hmax : l.length ≤ maxLen)
    (hx : ∀ i (h : i < l.length) (h' : i < cs.length), V (fun k => R k ∧ k ≠ g) w cs[i] l[i]) (G : V.Good) :
    OwnL V e M R w (.slice (some ⟨g, 0, none⟩) l.length l.length) l := by
  refine ⟨cs, ⟨by rw [flatten_length hsz, hlen], .inr ⟨g, 0, l.length, cs.flatten.toArray, rfl, hM, hg, Nat.le_refl _, hmax, by simp only [List.size_toArray]; rw [flatten_length hsz, hlen]; omega, fun j u hj => ?_⟩⟩, hlen, fun i hi hi' => ?_⟩
  · simpa using hj
  · exact G.mono (hx i hi hi') (fun k _ hk => ⟨hk.1, fun e => by simp [Value.ownBlock] at e; exact hk.2 e.symm⟩)
/-- A call counts: it returns no more than was left. -/
def SzRet (w : World) (left : Int) (e : Ending) (w' : World) : Prop := ∃ v : Int, e = .returned (.int .i64 v) ∧ -1 ≤ v ∧ v ≤ left ∧ Chg No w w'
def SzCall (f : FuncId) (W : World) (v : Value) : Prop := ∀ (left : Int) (d : Nat) (z : Int), -1 ≤ left → left ≤ 1000 → z = d → d ≤ 1000 → Calls Tryd.prog f #[v, .int .i64 left, .int .i64 z] W (SzRet W left)

/-- What is asked of the parts of expressions that lie behind each other. -/
def KidE (w : World) (A : Option Addr) (len : Nat) : Prop := ∀ i, i < len → ∀ W, Chg No w W → ∃ (b o : Nat) (s : ByteArray) (B : Option Addr) (kl capk : Nat), A = some ⟨b, o, none⟩ ∧ s.size ≤ maxLen ∧ W.cell? ⟨b, o + i * 4 + 2, none⟩ = some (.string s) ∧ W.cell? ⟨b, o + i * 4 + 3, none⟩ = some (.slice B kl capk) ∧ SzCall 17 W (.slice B kl capk)
set_option maxRecDepth 100000 in
set_option maxHeartbeats 2000000 in
theorem sze_step {w : World} {A : Option Addr} {len cap : Nat} (hb : len ≤ 140737488355328) (hK : KidE w A len) : SzCall 17 w (.slice A len cap) := by
  intro left d z h1 h2 hz hd
  have HK := Lib.hid hK
  clear hK
  by_cases h0 : z = 0
  · subst h0
    clear HK
    go_enter Tryd.func17, Tryd.ntmps17
    go_wp2_with fail
    go_ret
    exact ⟨-1, rfl, by omega, h1, Chg.refl _ _⟩
  have hz0 : (z == 0) = false := by simpa using h0
  have HZD : Hid (z - 1 = ((d - 1 : Nat) : Int)) := by unfold Hid; omega
  have hd1 : d - 1 ≤ 1000 := by omega
  have hzl : 1 ≤ z := by omega
  have hzh : z ≤ 1000 := by omega
  clear hz
  have hw1 : IntKind.i64.wrap (z - 1) = z - 1 := by rw [IntKind.wrap_i64]; omega
  go_enter Tryd.func17, Tryd.ntmps17
  go_wp2_with fail
  go_loopw [1, 7] (fun s1 s7 wr => ∃ (k : Nat) (v : Int), s1 = .int .i64 v ∧ s7 = .int .i64 k ∧ k ≤ len ∧ -1 ≤ v ∧ v ≤ left ∧ Hid (Chg No w wr)) (fun _ s7 _ => len - (intOf s7).toNat)
  case atStart => exact ⟨0, left, rfl, rfl, Nat.zero_le _, h1, Int.le_refl _, Chg.refl _ _⟩
  case round =>
    obtain ⟨k, v, rfl, rfl, gk, gv1, gv2, hch⟩ := hrel
    by_cases hlt : k < len
    · by_cases hv : 0 ≤ v
      · obtain ⟨b, o, s, B, kl, capk, rfl, hs, x2, x3, hc⟩ := HK.out k hlt wr hch.out
        have i0 : (0 : Int) ≤ (k : Int) := by omega
        have i1 : (k : Int) < (len : Int) := by omega
        have hw2 : IntKind.i64.wrap (v - 1) = v - 1 := by rw [IntKind.wrap_i64]; omega
        have HC := Lib.hid (hc (v - 1) (d - 1) (z - 1) (by omega) (by omega) HZD.out hd1)
        clear hc
        unfold maxLen at hs
        by_cases hs2 : 200 < s.size
        · have hs3 : decide ((200 : Int) < (s.size : Int)) = true := decide_eq_true (by omega)
          go_wp2_with fail
          go_ret
          exact ⟨-1, rfl, by omega, h1, hch.out⟩
        · have hs3 : decide ((200 : Int) < (s.size : Int)) = false := decide_eq_false (by omega)
          go_wp2_with (go_at_call 17; (with_reducible refine HC.out.mono ?_); rintro e w4 ⟨v4, rfl, g1, g2, h4⟩; have H4 := Lib.hid (hch.out.thenNo h4); clear h4)
          go_roundw
          case rel => exact ⟨k + 1, v4, rfl, by go_num, hlt, g1, by omega, H4.out⟩
          case measure => simp [intOf]; omega
      · go_wp2_with fail
        go_ret
        exact ⟨v, rfl, gv1, gv2, hch.out⟩
    · go_wp2_with fail
      go_ret
      exact ⟨v, rfl, gv1, gv2, hch.out⟩
theorem sze_any : ∀ (n : Nat) {R : Nat → Prop} {w : World} {A : Option Addr} {l : List (ET n)} {cap : Nat}, Exprs R w A l cap → SzCall 17 w (.slice A l.length cap)
  | 0, R, w, A, l, cap, h => sze_step h.big (fun i hi W hW => by
      obtain ⟨b, o, k, m, s, B, kl, capk, e, hv, _⟩ := exprs_at (h.no (exprE_good 0) hW) i hi
      exact hv.elim)
  | n + 1, R, w, A, l, cap, h => sze_step h.big (fun i hi W hW => by
      obtain ⟨b, o, k, m, s, B, kl, capk, e, hv, x0, x1, x2, x3⟩ := exprs_at (h.no (exprE_good (n + 1)) hW) i hi
      obtain ⟨B', capk', e2, _, _, hm, hk⟩ := enode_cells hv
      simp only [List.cons.injEq, Value.int.injEq, Value.string.injEq, Value.slice.injEq, and_true, true_and] at e2
      obtain ⟨rfl, rfl, rfl, rfl, rfl, rfl⟩ := e2
      exact ⟨b, o, _, _, _, _, e, hm, x2, x3, sze_any n hk⟩)
def KidC (w : World) (A : Option Addr) (len : Nat) : Prop := ∀ i, i < len → ∀ W, Chg No w W → ∃ (b o : Nat) (A' : Option Addr) (el cape : Nat) (B : Option Addr) (kl capk : Nat), A = some ⟨b, o, none⟩ ∧ W.cell? ⟨b, o + i * 3 + 1, none⟩ = some (.slice A' el cape) ∧ W.cell? ⟨b, o + i * 3 + 2, none⟩ = some (.slice B kl capk) ∧ SzCall 17 W (.slice A' el cape) ∧ ∀ W', Chg No W W' → W'.cell? ⟨b, o + i * 3 + 2, none⟩ = some (.slice B kl capk) ∧ SzCall 16 W' (.slice B kl capk)
set_option maxRecDepth 100000 in
set_option maxHeartbeats 2000000 in
theorem szc_step {w : World} {A : Option Addr} {len cap : Nat} (hb : len ≤ 140737488355328) (hK : KidC w A len) : SzCall 16 w (.slice A len cap) := by
  intro left d z h1 h2 hz hd
  have HK := Lib.hid hK
  clear hK
  by_cases h0 : z = 0
  · subst h0
    clear HK
    go_enter Tryd.func16, Tryd.ntmps16
    go_wp2_with fail
    go_ret
    exact ⟨-1, rfl, by omega, h1, Chg.refl _ _⟩
  have hz0 : (z == 0) = false := by simpa using h0
  have HZD : Hid (z - 1 = ((d - 1 : Nat) : Int)) := by unfold Hid; omega
  have hd1 : d - 1 ≤ 1000 := by omega
  have hzl : 1 ≤ z := by omega
  have hzh : z ≤ 1000 := by omega
  clear hz
  have hw1 : IntKind.i64.wrap (z - 1) = z - 1 := by rw [IntKind.wrap_i64]; omega
  go_enter Tryd.func16, Tryd.ntmps16
  go_wp2_with fail
  go_loopw [1, 7] (fun s1 s7 wr => ∃ (k : Nat) (v : Int), s1 = .int .i64 v ∧ s7 = .int .i64 k ∧ k ≤ len ∧ -1 ≤ v ∧ v ≤ left ∧ Hid (Chg No w wr)) (fun _ s7 _ => len - (intOf s7).toNat)
  case atStart => exact ⟨0, left, rfl, rfl, Nat.zero_le _, h1, Int.le_refl _, Chg.refl _ _⟩
  case round =>
    obtain ⟨k, v, rfl, rfl, gk, gv1, gv2, hch⟩ := hrel
    by_cases hlt : k < len
    · by_cases hv : 0 ≤ v
      · obtain ⟨b, o, A', el, cape, B, kl, capk, rfl, x1, x2, hc, hc2⟩ := HK.out k hlt wr hch.out
        have i0 : (0 : Int) ≤ (k : Int) := by omega
        have i1 : (k : Int) < (len : Int) := by omega
        have hw2 : IntKind.i64.wrap (v - 1) = v - 1 := by rw [IntKind.wrap_i64]; omega
        have HC := Lib.hid (hc (v - 1) (d - 1) (z - 1) (by omega) (by omega) HZD.out hd1)
        have HC2 := Lib.hid (fun W (hW : Chg No wr W) => hc2 W hW)
        clear hc hc2
        go_upto_region 7 with (go_at_call 17; (with_reducible refine HC.out.mono ?_); rintro e w4 ⟨v4, rfl, g1, g2, h4⟩; have H4 := Lib.hid h4; clear h4 x2; obtain ⟨x2, hc4⟩ := HC2.out w4 H4.out; have HC4 := Lib.hid hc4; clear hc4)
        by_cases hv4 : 0 ≤ v4
        · have HC5 := Lib.hid (HC4.out v4 (d - 1) (z - 1) g1 (by omega) HZD.out hd1)
          go_wp2_with (go_at_call 16; (with_reducible refine HC5.out.mono ?_); rintro e w5 ⟨v5, rfl, g3, g4, h5⟩; have H5 := Lib.hid (hch.out.thenNo (H4.out.thenNo h5)); clear h5)
          go_roundw
          case rel => exact ⟨k + 1, v5, rfl, by go_num, hlt, g3, by omega, H5.out⟩
          case measure => simp [intOf]; omega
        · go_wp2_with fail
          go_roundw
          case rel => exact ⟨k + 1, v4, rfl, by go_num, hlt, g1, by omega, hch.out.thenNo H4.out⟩
          case measure => simp [intOf]; omega
      · go_wp2_with fail
        go_ret
        exact ⟨v, rfl, gv1, gv2, hch.out⟩
    · go_wp2_with fail
      go_ret
      exact ⟨v, rfl, gv1, gv2, hch.out⟩
theorem szc_any (m : Nat) : ∀ (n : Nat) {R : Nat → Prop} {w : World} {A : Option Addr} {l : List (CT m n)} {cap : Nat}, Conds R w A l cap → SzCall 16 w (.slice A l.length cap)
  | 0, R, w, A, l, cap, h => szc_step h.big (fun i hi W hW => by
      obtain ⟨b, o, k, A', el, cape, B, kl, capk, e, hv, _⟩ := conds_at (h.no (condE_good m 0) hW) i hi
      exact hv.elim)
  | n + 1, R, w, A, l, cap, h => szc_step h.big (fun i hi W hW => by
      obtain ⟨b, o, k, A', el, cape, B, kl, capk, e, hv, x0, x1, x2⟩ := conds_at (h.no (condE_good m (n + 1)) hW) i hi
      obtain ⟨A2, cape2, B2, capk2, e2, _, he, hk⟩ := cnode_cells hv
      simp only [List.cons.injEq, Value.int.injEq, Value.slice.injEq, and_true, true_and] at e2
      obtain ⟨rfl, ⟨rfl, rfl, rfl⟩, rfl, rfl, rfl⟩ := e2
      exact ⟨b, o, _, _, _, _, _, _, e, x1, x2, sze_any m he, fun W' hW' => ⟨hW'.cell x2 id, szc_any m n (hk.no (condE_good m n) hW')⟩⟩)

/-- A call counts: what it returns, and what n counts, is no more than was left. -/
def SzRetA (w : World) (left : Int) (n : Nat) (e : Ending) (w' : World) : Prop := ∃ v : Int, e = .returned (.int .i64 v) ∧ -1 ≤ v ∧ v ≤ left ∧ (0 ≤ v → v + n ≤ left) ∧ Chg No w w'
def SzCallA (W : World) (v : Value) (n : Nat) : Prop := ∀ (left : Int) (d : Nat) (z : Int), -1 ≤ left → left ≤ 1000 → z = d → d ≤ 1000 → Calls Tryd.prog 9 #[v, .int .i64 left, .int .i64 z] W (SzRetA W left n)
def KidA (w : World) (A : Option Addr) (cn : List Nat) : Prop := ∀ i (hi : i < cn.length), ∃ b o kd ck cA cel cca cB ckl cck ek en es eB ekl eck vk vn vs vB vkl vck fd nm B kl capk, A = some ⟨b, o, none⟩ ∧ fd.size ≤ maxLen ∧ (∀ W, Chg No w W → W.cell? ⟨b, o + i * 15, none⟩ = some (.int .i64 kd) ∧ W.cell? ⟨b, o + i * 15 + 1, none⟩ = some (.int .i64 ck) ∧ W.cell? ⟨b, o + i * 15 + 2, none⟩ = some (.slice cA cel cca) ∧ W.cell? ⟨b, o + i * 15 + 3, none⟩ = some (.slice cB ckl cck) ∧ W.cell? ⟨b, o + i * 15 + 4, none⟩ = some (.int .i64 ek) ∧ W.cell? ⟨b, o + i * 15 + 5, none⟩ = some (.int .i64 en) ∧ W.cell? ⟨b, o + i * 15 + 6, none⟩ = some (.string es) ∧ W.cell? ⟨b, o + i * 15 + 7, none⟩ = some (.slice eB ekl eck) ∧ W.cell? ⟨b, o + i * 15 + 8, none⟩ = some (.int .i64 vk) ∧ W.cell? ⟨b, o + i * 15 + 9, none⟩ = some (.int .i64 vn) ∧ W.cell? ⟨b, o + i * 15 + 10, none⟩ = some (.string vs) ∧ W.cell? ⟨b, o + i * 15 + 11, none⟩ = some (.slice vB vkl vck) ∧ W.cell? ⟨b, o + i * 15 + 12, none⟩ = some (.string fd) ∧ W.cell? ⟨b, o + i * 15 + 13, none⟩ = some (.int .i64 nm) ∧ W.cell? ⟨b, o + i * 15 + 14, none⟩ = some (.slice B kl capk)) ∧
  (∀ W c, Chg No w W → w.heap.size ≤ c → W.heap[c]? = some (.cells #[.int .i64 ck, .slice cA cel cca, .slice cB ckl cck] 25 (0, 0)) → SzCall 16 W (.slice (some ⟨c, 0, none⟩) 1 1)) ∧
  (∀ W c, Chg No w W → w.heap.size ≤ c → W.heap[c]? = some (.cells #[.int .i64 ek, .int .i64 en, .string es, .slice eB ekl eck, .int .i64 vk, .int .i64 vn, .string vs, .slice vB vkl vck] 27 (0, 0)) → SzCall 17 W (.slice (some ⟨c, 0, none⟩) 2 2)) ∧
  ∃ n, cn[i] = n + 1 ∧ ∀ W, Chg No w W → SzCallA W (.slice B kl capk) n
theorem sum_take {l : List Nat} {k : Nat} (h : k < l.length) : (l.take (k + 1)).sum = (l.take k).sum + l[k] := by
  rw [List.take_succ_eq_append_getElem h, List.sum_append]; simp
set_option maxRecDepth 100000 in
set_option maxHeartbeats 8000000 in
theorem sza_step {w : World} {A : Option Addr} {cn : List Nat} {cap : Nat} (hb : cn.length ≤ 140737488355328) (hK : KidA w A cn) : SzCallA w (.slice A cn.length cap) cn.sum := by
  intro left d z h1 h2 hz hd
  have HK := Lib.hid hK
  clear hK
  by_cases h0 : z = 0
  · subst h0
    clear HK
    go_enter Tryd.func9, Tryd.ntmps9
    go_wp2_with fail
    go_ret
    exact ⟨-1, rfl, by omega, h1, fun h => by omega, Chg.refl _ _⟩
  have hz0 : (z == 0) = false := by simpa using h0
  have HZD : Hid (z - 1 = ((d - 1 : Nat) : Int)) := by unfold Hid; omega
  have hd1 : d - 1 ≤ 1000 := by omega
  have hzl : 1 ≤ z := by omega
  have hzh : z ≤ 1000 := by omega
  clear hz
  have hw1 : IntKind.i64.wrap (z - 1) = z - 1 := by rw [IntKind.wrap_i64]; omega
  have HALL : Hid ((cn.take cn.length).sum = cn.sum) := by unfold Hid; rw [List.take_length]
  go_enter Tryd.func9, Tryd.ntmps9
  go_wp2_with fail
  go_loopw [1, 7] (fun s1 s7 wr => ∃ (k : Nat) (v : Int), s1 = .int .i64 v ∧ s7 = .int .i64 k ∧ k ≤ cn.length ∧ -1 ≤ v ∧ v ≤ left ∧ Hid (0 ≤ v → v + (cn.take k).sum ≤ left) ∧ Hid (Chg No w wr)) (fun _ s7 _ => cn.length - (intOf s7).toNat)
  case atStart => exact ⟨0, left, rfl, rfl, Nat.zero_le _, h1, Int.le_refl _, by simp [Hid], Chg.refl _ _⟩
  case round =>
    obtain ⟨k, v, rfl, rfl, gk, gv1, gv2, gsum, hch⟩ := hrel
    by_cases hlt : k < cn.length
    · by_cases hv : 0 ≤ v
      · obtain ⟨b, o, kd, ck, cA, cel, cca, cB, ckl, cck, ek, en, es, eB, ekl, eck, vk, vn, vs, vB, vkl, vck, fd, nm, B, kl, capk, rfl, hs, hcell, hcc, hce, n, hn, hca⟩ := HK.out k hlt
        have i0 : (0 : Int) ≤ (k : Int) := by omega
        have i1 : (k : Int) < (cn.length : Int) := by omega
        have hw2 : IntKind.i64.wrap (v - 1) = v - 1 := by rw [IntKind.wrap_i64]; omega
        have hsum := gsum.out hv
        have hst := sum_take hlt
        rw [hn] at hst
        have HST := Lib.hid hst
        generalize (cn.take k).sum = sk at *
        have HX : Hid (∀ W, Chg No wr W → W.cell? ⟨b, o + k * 15, none⟩ = some (.int .i64 kd) ∧ W.cell? ⟨b, o + k * 15 + 1, none⟩ = some (.int .i64 ck) ∧ W.cell? ⟨b, o + k * 15 + 2, none⟩ = some (.slice cA cel cca) ∧ W.cell? ⟨b, o + k * 15 + 3, none⟩ = some (.slice cB ckl cck) ∧ W.cell? ⟨b, o + k * 15 + 4, none⟩ = some (.int .i64 ek) ∧ W.cell? ⟨b, o + k * 15 + 5, none⟩ = some (.int .i64 en) ∧ W.cell? ⟨b, o + k * 15 + 6, none⟩ = some (.string es) ∧ W.cell? ⟨b, o + k * 15 + 7, none⟩ = some (.slice eB ekl eck) ∧ W.cell? ⟨b, o + k * 15 + 8, none⟩ = some (.int .i64 vk) ∧ W.cell? ⟨b, o + k * 15 + 9, none⟩ = some (.int .i64 vn) ∧ W.cell? ⟨b, o + k * 15 + 10, none⟩ = some (.string vs) ∧ W.cell? ⟨b, o + k * 15 + 11, none⟩ = some (.slice vB vkl vck) ∧ W.cell? ⟨b, o + k * 15 + 12, none⟩ = some (.string fd) ∧ W.cell? ⟨b, o + k * 15 + 13, none⟩ = some (.int .i64 nm) ∧ W.cell? ⟨b, o + k * 15 + 14, none⟩ = some (.slice B kl capk)) := fun W hW => hcell W (hch.out.thenNo hW)
        have HCC : Hid (∀ W c, Chg No wr W → wr.heap.size ≤ c → W.heap[c]? = some (.cells #[.int .i64 ck, .slice cA cel cca, .slice cB ckl cck] 25 (0, 0)) → Calls Tryd.prog 16 #[.slice (some ⟨c, 0, none⟩) 1 1, .int .i64 (v - 1), .int .i64 (z - 1)] W (SzRet W (v - 1))) := fun W c hW hc ho => hcc W c (hch.out.thenNo hW) (Nat.le_trans hch.out.size hc) ho (v - 1) (d - 1) (z - 1) (by omega) (by omega) HZD.out hd1
        have HCE : Hid (∀ W c (u : Int), -1 ≤ u → u ≤ v → Chg No wr W → wr.heap.size ≤ c → W.heap[c]? = some (.cells #[.int .i64 ek, .int .i64 en, .string es, .slice eB ekl eck, .int .i64 vk, .int .i64 vn, .string vs, .slice vB vkl vck] 27 (0, 0)) → Calls Tryd.prog 17 #[.slice (some ⟨c, 0, none⟩) 2 2, .int .i64 u, .int .i64 (z - 1)] W (SzRet W u)) := fun W c u hu hu2 hW hc ho => hce W c (hch.out.thenNo hW) (Nat.le_trans hch.out.size hc) ho u (d - 1) (z - 1) (by omega) (by omega) HZD.out hd1
        have HCA : Hid (∀ W (u : Int), -1 ≤ u → u ≤ v → Chg No wr W → Calls Tryd.prog 9 #[.slice B kl capk, .int .i64 u, .int .i64 (z - 1)] W (SzRetA W u n)) := fun W u hu hu2 hW => hca W (hch.out.thenNo hW) u (d - 1) (z - 1) (by omega) (by omega) HZD.out hd1
        have hfl : (fd.size : Int) ≤ 9223372036854775807 := by unfold maxLen at hs; omega
        unfold maxLen at hs
        clear hcell hcc hce hca hst hn gsum hfl
        have HSZ : Hid (decide ((200 : Int) < (fd.size : Int)) = true ∨ decide ((200 : Int) < (fd.size : Int)) = false) := by unfold Hid; cases decide ((200 : Int) < (fd.size : Int)) <;> simp
        obtain ⟨x0, x1, x2, x3, x4, x5, x6, x7, x8, x9, x10, x11, x12, x13, x14⟩ := HX.out wr (Chg.refl _ _)
        go_upto_region 7 with (go_at_call 16; (with_reducible refine (HCC.out _ _ ((Chg.refl _ _).alloc _) (Nat.le_refl _) (heap_alloc_new _ _)).mono ?_); rintro e w4 ⟨v4, rfl, g1, g2, h4⟩; have H4 := Lib.hid (((Chg.refl No wr).alloc (.cells #[.int .i64 ck, .slice cA cel cca, .slice cB ckl cck] 25)).thenNo h4); clear h4)
        clear x0 x1 x2 x3 x4 x5 x6 x7 x8 x9 x10 x11 x12 x13 x14
        obtain ⟨x0, x1, x2, x3, x4, x5, x6, x7, x8, x9, x10, x11, x12, x13, x14⟩ := HX.out w4 H4.out
        by_cases hv4 : 0 ≤ v4
        · have HCF := Lib.hid (fun W c hW hc ho => HCE.out W c v4 g1 (by omega) hW hc ho)
          have HWA : Hid (Chg No w4 (w4.alloc (.cells #[.int .i64 ek, .int .i64 en, .string es, .slice eB ekl eck, .int .i64 vk, .int .i64 vn, .string vs, .slice vB vkl vck] 27)).drew) := ((Chg.refl No w4).alloc (.cells #[.int .i64 ek, .int .i64 en, .string es, .slice eB ekl eck, .int .i64 vk, .int .i64 vn, .string vs, .slice vB vkl vck] 27)).drew
          have HCF2 : Hid (Calls Tryd.prog 17 #[.slice (some ⟨w4.heap.size, 0, none⟩) 2 2, .int .i64 v4, .int .i64 (z - 1)] (w4.alloc (.cells #[.int .i64 ek, .int .i64 en, .string es, .slice eB ekl eck, .int .i64 vk, .int .i64 vn, .string vs, .slice vB vkl vck] 27)).drew (SzRet (w4.alloc (.cells #[.int .i64 ek, .int .i64 en, .string es, .slice eB ekl eck, .int .i64 vk, .int .i64 vn, .string vs, .slice vB vkl vck] 27)).drew v4)) := HCF.out _ w4.heap.size (H4.out.thenNo HWA.out) H4.out.size (heap_alloc_new w4 (.cells #[.int .i64 ek, .int .i64 en, .string es, .slice eB ekl eck, .int .i64 vk, .int .i64 vn, .string vs, .slice vB vkl vck] 27))
          have HWD : Hid (∀ w5, Chg No (w4.alloc (.cells #[.int .i64 ek, .int .i64 en, .string es, .slice eB ekl eck, .int .i64 vk, .int .i64 vn, .string vs, .slice vB vkl vck] 27)).drew w5 → Chg No wr w5) := fun w5 h5 => H4.out.thenNo (HWA.out.thenNo h5)
          go_upto_region 8 with fail
          go_region_held_law (fun W => W.cell? ⟨b, o + k * 15 + 4, none⟩ = some (.int .i64 ek) ∧ W.cell? ⟨b, o + k * 15 + 5, none⟩ = some (.int .i64 en) ∧ W.cell? ⟨b, o + k * 15 + 6, none⟩ = some (.string es) ∧ W.cell? ⟨b, o + k * 15 + 7, none⟩ = some (.slice eB ekl eck) ∧ W.cell? ⟨b, o + k * 15 + 8, none⟩ = some (.int .i64 vk) ∧ W.cell? ⟨b, o + k * 15 + 9, none⟩ = some (.int .i64 vn) ∧ W.cell? ⟨b, o + k * 15 + 10, none⟩ = some (.string vs) ∧ W.cell? ⟨b, o + k * 15 + 11, none⟩ = some (.slice vB vkl vck))
            (first | (refine ⟨?_, ?_, ?_, ?_, ?_, ?_, ?_, ?_⟩ <;> with_reducible assumption) | go_keep)
            ((go_at_call 17; (with_reducible refine HCF2.out.mono ?_); rintro e w5 ⟨v5, rfl, g3, g4, h5⟩; have H5 := Lib.hid (HWD.out w5 h5); clear h5 x0 x1 x2 x3 x4 x5 x6 x7 x8 x9 x10 x11 x12 x13 x14; obtain ⟨x0, x1, x2, x3, x4, x5, x6, x7, x8, x9, x10, x11, x12, x13, x14⟩ := HX.out w5 H5.out))
          by_cases hv5 : 0 ≤ v5
          · have HCG := Lib.hid (HCA.out w5 v5 g3 (by omega) H5.out)
            go_upto_region 11 with (go_at_call 9; (with_reducible refine HCG.out.mono ?_); rintro e w6 ⟨v6, rfl, g5, g6, g7, h6⟩; have H6 := Lib.hid (H5.out.thenNo h6); have G7 := Lib.hid g7; clear h6 g7)
            clear x0 x1 x2 x3 x4 x5 x6 x7 x8 x9 x10 x11 x12 x13 x14
            obtain ⟨x0, x1, x2, x3, x4, x5, x6, x7, x8, x9, x10, x11, x12, x13, x14⟩ := HX.out w6 H6.out
            rcases HSZ.out with hs3 | hs3
            · go_wp2_with fail
              go_ret
              exact ⟨-1, rfl, by omega, h1, fun h => by omega, hch.out.thenNo H6.out⟩
            · go_wp2_with fail
              go_roundw
              case rel => exact ⟨k + 1, v6, rfl, by go_num, hlt, g5, by omega, fun h => by have := G7.out h; rw [HST.out]; push_cast; omega, hch.out.thenNo H6.out⟩
              case measure => simp [intOf]; omega
          · rcases HSZ.out with hs3 | hs3
            · go_wp2_with fail
              go_ret
              exact ⟨-1, rfl, by omega, h1, fun h => by omega, hch.out.thenNo H5.out⟩
            · go_wp2_with fail
              go_roundw
              case rel => exact ⟨k + 1, v5, rfl, by go_num, hlt, g3, by omega, fun h => by omega, hch.out.thenNo H5.out⟩
              case measure => simp [intOf]; omega
        · rcases HSZ.out with hs3 | hs3
          · go_wp2_with fail
            go_ret
            exact ⟨-1, rfl, by omega, h1, fun h => by omega, hch.out.thenNo H4.out⟩
          · go_wp2_with fail
            go_roundw
            case rel => exact ⟨k + 1, v4, rfl, by go_num, hlt, g1, by omega, fun h => by omega, hch.out.thenNo H4.out⟩
            case measure => simp [intOf]; omega
      · go_wp2_with fail
        go_ret
        exact ⟨v, rfl, gv1, gv2, fun h => by omega, hch.out⟩
    · obtain rfl : k = cn.length := by omega
      go_wp2_with fail
      go_ret
      exact ⟨v, rfl, gv1, gv2, fun h => by have := gsum.out h; rw [HALL.out] at this; exact this, hch.out⟩
theorem szc_one {m n : Nat} {x : CT m n} {R : Nat → Prop} {W : World} {cs : List Value} {c : Nat} (hx : (condV m n) R W cs x) (hR : ∀ q, R q → q ≠ c) (ho : W.heap[c]? = some (.cells cs.toArray 25 (0, 0))) : SzCall 16 W (.slice (some ⟨c, 0, none⟩) 1 1) := by
  have hlen : cs.length = (condV m n).sz := (condV_good m n).len hx
  have h1 := ownL_oneH (M := fun _ => True) (R := R) ho trivial hlen ((condV_good m n).mono hx (fun q _ hq => ⟨hq, hR q hq⟩)) (condV_good m n)
  have h2 := (h1.sl_of (condV_good m n) (by rw [condV_bytes]; exact (show 1 * 56 ≤ big by decide))).2
  rw [condV_sz] at h2
  have h3 := szc_any m n h2
  rw [show [x].length = 1 from rfl] at h3
  exact h3
theorem sze_two {m : Nat} {x y : ET m} {R : Nat → Prop} {W : World} {cs ds : List Value} {c : Nat} (hx : (exprV m) R W cs x) (hy : (exprV m) R W ds y) (hR : ∀ q, R q → q ≠ c) (ho : W.heap[c]? = some (.cells (cs ++ ds).toArray 27 (0, 0))) : SzCall 17 W (.slice (some ⟨c, 0, none⟩) 2 2) := by
  have hlen1 : cs.length = (exprV m).sz := (exprV_good m).len hx
  have hlen2 : ds.length = (exprV m).sz := (exprV_good m).len hy
  have h1 := ownL_listH (V := exprV m) (M := fun _ => True) (R := R) (cs := [cs, ds]) (l := [x, y]) (by simpa using ho) trivial rfl (by simp [hlen1, hlen2]) (show (2 : Nat) ≤ maxLen by decide) (fun j hj hj' => by
    match j, hj with
    | 0, _ => exact (exprV_good m).mono hx (fun q _ hq => ⟨hq, hR q hq⟩)
    | 1, _ => exact (exprV_good m).mono hy (fun q _ hq => ⟨hq, hR q hq⟩)) (exprV_good m)
  have h2 := (h1.sl_of (exprV_good m) (by rw [exprV_bytes]; exact (show 2 * 56 ≤ big by decide))).2
  rw [exprV_sz] at h2
  have h3 := sze_any m h2
  rw [show [x, y].length = 2 from rfl] at h3
  exact h3
set_option maxRecDepth 100000 in
theorem sza_any (m n : Nat) : ∀ (k : Nat) {R : Nat → Prop} {w : World} {A : Option Addr} {l : List (AT m n k)} {cap : Nat}, Assns R w A l cap → SzCallA w (.slice A l.length cap) (l.map (lvA m n k)).sum
  | 0, R, w, A, l, cap, h => by
    have := sza_step (cap := cap) (cn := l.map (lvA m n 0)) (by rw [List.length_map]; exact h.big) (A := A) (w := w) (fun i hi => by
      rw [List.length_map] at hi
      obtain ⟨b, o, kd, ck, cA, cel, cca, cB, ckl, cck, ek, en, es, eB, ekl, eck, vk, vn, vs, vB, vkl, vck, fd, nm, B, kl, capk, e, hv, _⟩ := assns_someH h i hi
      cases hv)
    rwa [List.length_map] at this
  | k + 1, R, w, A, l, cap, h => by
    have := sza_step (cap := cap) (cn := l.map (lvA m n (k + 1))) (by rw [List.length_map]; exact h.big) (A := A) (w := w) (fun i hi => by
      rw [List.length_map] at hi
      have h' := h.mono (assnE_good m n (k + 1)) (R' := fun q => q < w.heap.size) (fun q hq _ => hq)
      obtain ⟨b, o, kd, ck, cA, cel, cca, cB, ckl, cck, ek, en, es, eB, ekl, eck, vk, vn, vs, vB, vkl, vck, fd, nm, B, kl, capk, e, hv, x0, x1, x2, x3, x4, x5, x6, x7, x8, x9, x10, x11, x12, x13, x14⟩ := assns_someH h' i hi
      obtain ⟨ck', cA', cel', cca', cB', ckl', cck', ek', en', es', eB', ekl', eck', vk', vn', vs', vB', vkl', vck', B', capk', e2, _, hc, he, hvv, hf, _, hk⟩ := anode_cells hv
      simp only [List.cons.injEq, Value.int.injEq, Value.string.injEq, Value.slice.injEq, and_true, true_and] at e2
      obtain ⟨rfl, rfl, ⟨rfl, rfl, rfl⟩, ⟨rfl, rfl, rfl⟩, rfl, rfl, rfl, ⟨rfl, rfl, rfl⟩, rfl, rfl, rfl, ⟨rfl, rfl, rfl⟩, rfl, rfl, rfl, rfl, rfl⟩ := e2
      refine ⟨b, o, _, _, _, _, _, _, _, _, _, _, _, _, _, _, _, _, _, _, _, _, _, _, _, _, _, e, hf, fun W hW => ⟨hW.cell x0 id, hW.cell x1 id, hW.cell x2 id, hW.cell x3 id, hW.cell x4 id, hW.cell x5 id, hW.cell x6 id, hW.cell x7 id, hW.cell x8 id, hW.cell x9 id, hW.cell x10 id, hW.cell x11 id, hW.cell x12 id, hW.cell x13 id, hW.cell x14 id⟩, fun W c hW hcs ho => ?_, fun W c hW hcs ho => ?_, ((ANode.kids l[i]).map (lvA m n k)).sum, ?_, fun W hW => ?_⟩
      · exact szc_one ((condV_good m n).no hc hW) (fun q hq => by omega) ho
      · exact sze_two ((exprV_good m).no he hW) ((exprV_good m).no hvv hW) (fun q hq => by omega) ho
      · rw [List.getElem_map]
        show 1 + _ = _
        omega
      · exact sza_any m n k (hk.no (assnE_good m n k) hW))
    rwa [List.length_map] at this
end Go.Proofs.YtgofncopoieigaaDoor
/- HlH -/
namespace Go.Proofs.YtgofncopoieigaaDoor
open Go Go.RowKit

/-- An expression's value; what is amiss. -/
def hexR (l : List Vr) (m : Nat) (x : ET m) : Int × Int :=
  if (!deepE m x 99 && okE m x) = true then (if (exH l m x).2 = true then (0, 3) else ((exH l m x).1, 0)) else (0, 5)
/-- A condition's. -/
def hcoR (l : List Vr) (m n : Nat) (x : CT m n) : Bool × Int :=
  if (!deepC m n x 99 && okC m n x) = true then (if (coH l m n x).2 = true then (false, 3) else ((coH l m n x).1, 0)) else (false, 5)

set_option maxRecDepth 100000 in
set_option maxHeartbeats 4000000 in
theorem hexprF_any {m : Nat} {x : ET m} {R Rs : Nat → Prop} {w : World} {cs : List Value} (hK : Keys w) (hx : (exprV m) R w cs x) {A : Option Addr} {l : List Vr} {cap : Nat} (hl : Vars Rs w A l cap) :
    Calls Tryd.prog 8 #[.agg cs.toArray, .slice A l.length cap] w fun e w' => e = .returned (.tuple #[.int .i64 (hexR l m x).1, errV 53 (hexR l m x).2]) ∧ Chg No w w' := by
  have hx2 := (exprV_good m).mono hx (R' := fun q => q < w.heap.size) (fun q hq _ => hq)
  have hl2 := hl.mono varE_good (R' := fun q => q < w.heap.size) (fun q hq _ => hq)
  obtain ⟨ek, en, es, eB, ekl, eck, rfl⟩ := expr_shape hx
  obtain ⟨w3, hw3⟩ : ∃ w3, w3 = w.alloc (.cells #[.int .i64 ek, .int .i64 en, .string es, .slice eB ekl eck] 27) := ⟨_, rfl⟩
  have h3 : Hid (Chg No w w3 ∧ w3.heap[w.heap.size]? = some (.cells #[.int .i64 ek, .int .i64 en, .string es, .slice eB ekl eck] 27 (0, 0))) := by
    rw [hw3]; exact ⟨(Chg.refl _ _).alloc _, heap_alloc_new _ _⟩
  have HO := Lib.hid (fun W (hW : Chg No w3 W) => obj_4 (hW.obj h3.out.2 id))
  obtain ⟨p0, p1, p2, p3⟩ := HO.out w3 (Chg.refl _ _)
  have HF : Hid (∀ (W : World) (bs : Nat), Chg No w3 W → W.heap[bs]? = some (.cells (stm1 ek en es eB ekl eck) 65 (0, 0)) → Calls Tryd.prog 10 #[.slice (some ⟨bs, 0, none⟩) 1 1, .agg #[.int .i64 0, .int .i64 0, .slice none 0 0, .slice none 0 0, .int .i64 0, .int .i64 0, .string ⟨#[]⟩, .slice none 0 0, .int .i64 0, .int .i64 0, .string ⟨#[]⟩, .slice none 0 0, .string ⟨#[]⟩, .int .i64 0, .slice none 0 0]] W fun e w' => e = .returned (.bool (!deepE m x 99 && okE m x)) ∧ Chg No W w') := fun W bs hW hb => hfine_1 ((hK.no h3.out.1).no hW) ((exprV_good m).no ((exprV_good m).no hx h3.out.1) hW) hb
  have HW : Hid ((!deepE m x 99 && okE m x) = true → ∀ W bx, Chg No w W → LookAt W bx A l.length cap false → w.heap.size ≤ bx → Calls Tryd.prog 15 #[.pointer (some ⟨bx, 0, none⟩), .agg #[.int .i64 ek, .int .i64 en, .string es, .slice eB ekl eck]] W (LkRet bx A l.length cap (false || (exH l m x).2) W (.int .i64 (exH l m x).1))) := fun hf W bx hW hlk hbx => by
    rw [Bool.and_eq_true] at hf
    exact hex_any m x _ _ W [.int .i64 ek, .int .i64 en, .string es, .slice eB ekl eck] bx A l cap false hf.2 ((exprV_good m).no hx2 hW) (fun q hq => by omega) hlk (hl2.no varE_good hW) (fun q hq => by omega)
  obtain ⟨ans, hans⟩ : ∃ ans, ans = hexR l m x := ⟨_, rfl⟩
  rw [← hans]
  unfold hexR at hans
  have HA := Lib.hid hans
  clear hans hx hK hx2 hl2 hl
  generalize (!deepE m x 99 && okE m x) = q at *
  generalize exH l m x = r at *
  cases q
  · obtain rfl : ans = (0, 5) := by rw [HA.out]; rfl
    clear HA HW
    rw [errV_of _ (show (5 : Int) ≠ 0 by decide)]
    go_enter Tryd.func8, Tryd.ntmps8
    go_upto_region 1 with fail
    rw [← hw3]
    clear hw3
    go_wp2_with (go_at_call 10; (refine (HF.out _ w3.heap.size ((Chg.refl _ _).alloc _) (heap_alloc_new _ _)).mono ?_); rintro e w4 ⟨rfl, h4⟩)
    go_ret2
    exact ⟨rfl, h3.out.1.thenNo (((Chg.refl _ _).alloc _).thenNo h4)⟩
  · have HW1 := Lib.hid (HW.out rfl)
    rw [if_pos rfl] at HA
    clear HW
    obtain ⟨va, far⟩ := r
    simp only at HW1 HA
    go_enter Tryd.func8, Tryd.ntmps8
    go_upto_region 1 with fail
    rw [← hw3]
    clear hw3
    go_upto_region 4 with (go_at_call 10; (refine (HF.out _ w3.heap.size ((Chg.refl _ _).alloc _) (heap_alloc_new _ _)).mono ?_); rintro e w4 ⟨rfl, h4⟩; have H4 : Hid (Chg No w3 w4) := ((Chg.refl No w3).alloc _).thenNo h4; clear h4)
    obtain ⟨w5, hw5⟩ : ∃ w5, w5 = w4.alloc (.cells #[.slice A l.length cap, .bool false] 56) := ⟨_, rfl⟩
    rw [← hw5]
    obtain ⟨b5, hb5⟩ : ∃ b5, b5 = w4.heap.size := ⟨_, rfl⟩
    rw [← hb5]
    have C5 : Hid (Chg No w3 w5 ∧ LookAt w5 b5 A l.length cap false ∧ w.heap.size ≤ b5) := by
      rw [hw5, hb5]
      exact ⟨H4.out.alloc _, heap_alloc_new _ _, (h3.out.1.thenNo H4.out).size⟩
    clear hw5 hb5 p0 p1 p2 p3
    obtain ⟨p0, p1, p2, p3⟩ := HO.out w5 C5.out.1
    have HC := Lib.hid (HW1.out w5 b5 (h3.out.1.thenNo C5.out.1) C5.out.2.1 C5.out.2.2)
    go_upto_region 5 with (go_at_call 15; (with_reducible refine HC.out.mono ?_); rintro e w6 ⟨rfl, h6, g6⟩; have H6 := Lib.hid (chgpastH (h3.out.1.thenNo C5.out.1) h6 (fun q hq => by rw [hq]; exact C5.out.2.2)); obtain ⟨g60, g61, _, _⟩ := g6.cells; clear h6 g6)
    rw [Bool.false_or] at g61
    cases far
    · obtain rfl : ans = (va, 0) := by rw [HA.out]; rfl
      clear HA
      go_wp2_with fail
      go_ret2
      exact ⟨by rw [errV_zero]; rfl, H6.out⟩
    · obtain rfl : ans = (0, 3) := by rw [HA.out]; rfl
      clear HA
      go_wp2_with fail
      go_ret2
      exact ⟨by rw [errV_of _ (show (3 : Int) ≠ 0 by decide)]; rfl, H6.out⟩
end Go.Proofs.YtgofncopoieigaaDoor
/- HlI -/
namespace Go.Proofs.YtgofncopoieigaaDoor
open Go Go.RowKit

theorem cells_ofH {w : World} {b : Nat} {vs : Array Value} {t : TypeId} (h : w.heap[b]? = some (.cells vs t (0, 0))) (j : Nat) : w.cell? ⟨b, j, none⟩ = vs[j]? := by simp [World.cell?, h]
theorem four_atH {w : World} {b o : Nat} {v0 v1 v2 v3 : Value} (h0 : w.cell? ⟨b, o, none⟩ = some v0) (h1 : w.cell? ⟨b, o + 1, none⟩ = some v1) (h2 : w.cell? ⟨b, o + 2, none⟩ = some v2) (h3 : w.cell? ⟨b, o + 3, none⟩ = some v3) :
    ∀ j u, ([v0, v1, v2, v3] : List Value)[j]? = some u → w.cell? ⟨b, o + j, none⟩ = some u := by
  intro j u hj
  match j, hj with
  | 0, hj => simp at hj; subst hj; exact h0
  | 1, hj => simp at hj; subst hj; exact h1
  | 2, hj => simp at hj; subst hj; exact h2
  | 3, hj => simp at hj; subst hj; exact h3
def upXH : ET 1 := (⟨1, 0, ⟨#[120]⟩, []⟩ : ENode (ET 0))
def upMH : ET 2 := (⟨4, 2, ⟨#[]⟩, [upXH]⟩ : ENode (ET 1))
def upNH : ET 2 := (⟨0, 1, ⟨#[]⟩, []⟩ : ENode (ET 1))
def upEH : ET 3 := (⟨3, 0, ⟨#[]⟩, [upMH, upNH]⟩ : ENode (ET 2))
def upSH : ET 1 := (⟨0, 7, ⟨#[]⟩, []⟩ : ENode (ET 0))
def upCH : CT 1 1 := (⟨0, [], []⟩ : CNode (ET 1) (CT 1 0))
def upAH : AT 1 1 1 := (⟨3, upCH, upXH, upSH, ⟨#[102]⟩, 32, []⟩ : ANode (CT 1 1) (ET 1) (AT 1 1 0))
def upVH : List Vr := [(⟨#[120]⟩, 3)]
def upHH : List Tri := [(3, ⟨#[102]⟩, 7)]
theorem upEH_is {W : World} {p q : Nat} (hp : W.heap[p]? = some (.cells #[.int .i64 1, .int .i64 0, .string ⟨#[120]⟩, .slice none 0 0] 27 (0, 0)))
    (hq : W.heap[q]? = some (.cells #[.int .i64 4, .int .i64 2, .string ⟨#[]⟩, .slice (some ⟨p, 0, none⟩) 1 1, .int .i64 0, .int .i64 1, .string ⟨#[]⟩, .slice none 0 0] 27 (0, 0))) :
    (exprV 3) (fun _ => True) W [.int .i64 3, .int .i64 0, .string ⟨#[]⟩, .slice (some ⟨q, 0, none⟩) 2 2] upEH := by
  have hs : ∀ s : ByteArray, s.size = 0 ∨ s.size = 1 → s.size ≤ maxLen := fun s h => by unfold maxLen; omega
  have hX : (exprV 1) (fun _ => True) W [.int .i64 1, .int .i64 0, .string ⟨#[120]⟩, .slice none 0 0] upXH :=
    ⟨none, 0, rfl, I64.of (by decide) (by decide), I64.of (by decide) (by decide), hs _ (.inr rfl), Sl.empty⟩
  have hM : (exprV 2) (fun _ => True) W [.int .i64 4, .int .i64 2, .string ⟨#[]⟩, .slice (some ⟨p, 0, none⟩) 1 1] upMH := by
    refine ⟨some ⟨p, 0, none⟩, 1, rfl, I64.of (by decide) (by decide), I64.of (by decide) (by decide), hs _ (.inl rfl), ⟨Nat.le_refl _, by decide, by decide, (fun h => by cases h), fun i hi => ?_⟩⟩
    match i, hi with
    | 0, _ => exact ⟨p, 0, rfl, trivial, _, rfl, four_atH (cells_ofH hp 0) (cells_ofH hp 1) (cells_ofH hp 2) (cells_ofH hp 3), hX⟩
  have hN : (exprV 2) (fun _ => True) W [.int .i64 0, .int .i64 1, .string ⟨#[]⟩, .slice none 0 0] upNH :=
    ⟨none, 0, rfl, I64.of (by decide) (by decide), I64.of (by decide) (by decide), hs _ (.inl rfl), Sl.empty⟩
  refine ⟨some ⟨q, 0, none⟩, 2, rfl, I64.of (by decide) (by decide), I64.of (by decide) (by decide), hs _ (.inl rfl), ⟨Nat.le_refl _, by decide, by decide, (fun h => by cases h), fun i hi => ?_⟩⟩
  match i, hi with
  | 0, _ => exact ⟨q, 0, rfl, trivial, _, rfl, four_atH (cells_ofH hq 0) (cells_ofH hq 1) (cells_ofH hq 2) (cells_ofH hq 3), hM⟩
  | 1, _ => exact ⟨q, 0, rfl, trivial, _, rfl, four_atH (cells_ofH hq 4) (cells_ofH hq 5) (cells_ofH hq 6) (cells_ofH hq 7), hN⟩
theorem upAH_is (W : World) : (assnV 1 1 1) (fun _ => True) W [.int .i64 3, .int .i64 0, .slice none 0 0, .slice none 0 0, .int .i64 1, .int .i64 0, .string ⟨#[120]⟩, .slice none 0 0, .int .i64 0, .int .i64 7, .string ⟨#[]⟩, .slice none 0 0, .string ⟨#[102]⟩, .int .i64 32, .slice none 0 0] upAH := by
  have hs : ∀ s : ByteArray, s.size = 0 ∨ s.size = 1 → s.size ≤ maxLen := fun s h => by unfold maxLen; omega
  exact ⟨[.int .i64 0, .slice none 0 0, .slice none 0 0], [.int .i64 1, .int .i64 0, .string ⟨#[120]⟩, .slice none 0 0], [.int .i64 0, .int .i64 7, .string ⟨#[]⟩, .slice none 0 0], none, 0, rfl, rfl, rfl, rfl,
    I64.of (by decide) (by decide), ⟨none, 0, none, 0, rfl, I64.of (by decide) (by decide), Sl.empty, Sl.empty⟩, ⟨none, 0, rfl, I64.of (by decide) (by decide), I64.of (by decide) (by decide), hs _ (.inr rfl), Sl.empty⟩, ⟨none, 0, rfl, I64.of (by decide) (by decide), I64.of (by decide) (by decide), hs _ (.inl rfl), Sl.empty⟩, hs _ (.inr rfl), I64.of (by decide) (by decide), Sl.empty⟩
theorem upVH_is {W : World} {q : Nat} (hq : W.heap[q]? = some (.cells #[.string ⟨#[120]⟩, .int .i64 3] 48 (0, 0))) : Vars (fun k => k = q) W (some ⟨q, 0, none⟩) upVH 1 := by
  refine ⟨Nat.le_refl _, by decide, show 1 * 24 ≤ big by decide, (fun h => by cases h), fun i hi => ?_⟩
  match i, hi with
  | 0, _ =>
    refine ⟨q, 0, rfl, rfl, [.string ⟨#[120]⟩, .int .i64 3], rfl, ?_, [.string ⟨#[120]⟩], [.int .i64 3], rfl, rfl, ⟨rfl, show (⟨#[120]⟩ : ByteArray).size ≤ maxLen by decide⟩, ⟨rfl, I64.of (show -9000000000000000000 ≤ (3 : Int) by decide) (show (3 : Int) ≤ 9000000000000000000 by decide)⟩⟩
    intro j u hj
    match j, hj with
    | 0, hj => exact (cells_ofH hq 0).trans hj
    | 1, hj => exact (cells_ofH hq 1).trans hj
theorem upHH_is {W : World} {q : Nat} (hq : W.heap[q]? = some (.cells #[.int .i64 3, .string ⟨#[102]⟩, .int .i64 7] 45 (0, 0))) : Tris (fun _ => True) W (some ⟨q, 0, none⟩) upHH 1 := by
  have h := ownL_oneH (V := triV) (M := fun _ => True) (R := No) (cs := [.int .i64 3, .string ⟨#[102]⟩, .int .i64 7]) (x := ((3, ⟨#[102]⟩, 7) : Tri)) hq trivial rfl (tri_of (m := (3, ⟨#[102]⟩, 7)) (I64.of (by decide) (by decide)) (show (⟨#[102]⟩ : ByteArray).size ≤ maxLen by decide) (I64.of (by decide) (by decide))) triV_good
  exact OTris.tris h (show 1 * 32 ≤ big by decide)
theorem upEH_res : hexR upVH 3 upEH = (5, 0) := by kernel_rfl
theorem upAH_holds : holdsR upVH upHH 1 1 1 upAH = (true, 0) := by kernel_rfl
theorem upAH_foot : footR upVH 1 1 1 upAH = ([(3, ⟨#[102]⟩, 32)], 0) := by kernel_rfl
theorem upAH_lv : lvA 1 1 1 upAH ≤ 100000 := by decide

set_option maxRecDepth 100000 in
set_option maxHeartbeats 4000000 in
theorem up18_any {w : World} (hK : Keys w) : Calls Tryd.prog 4 #[] w fun e w' => e = .returned (.bool true) ∧ Chg No w w' := by
  obtain ⟨w3, hw3⟩ : ∃ w3, w3 = ((w.alloc (.cells #[.int .i64 1, .int .i64 0, .string ⟨#[120]⟩, .slice none 0 0] 27)).alloc (.cells #[.string ⟨#[120]⟩, .int .i64 3] 48)).alloc (.cells #[.int .i64 3, .int .i64 0, .slice none 0 0, .slice none 0 0, .int .i64 1, .int .i64 0, .string ⟨#[120]⟩, .slice none 0 0, .int .i64 0, .int .i64 7, .string ⟨#[]⟩, .slice none 0 0, .string ⟨#[102]⟩, .int .i64 32, .slice none 0 0] 30) := ⟨_, rfl⟩
  have h3 : Hid (Chg No w w3 ∧ w3.heap[w.heap.size]? = some (.cells #[.int .i64 1, .int .i64 0, .string ⟨#[120]⟩, .slice none 0 0] 27 (0, 0)) ∧ w3.heap[w.heap.size + 1]? = some (.cells #[.string ⟨#[120]⟩, .int .i64 3] 48 (0, 0)) ∧ w3.heap[w.heap.size + 1 + 1]? = some (.cells #[.int .i64 3, .int .i64 0, .slice none 0 0, .slice none 0 0, .int .i64 1, .int .i64 0, .string ⟨#[120]⟩, .slice none 0 0, .int .i64 0, .int .i64 7, .string ⟨#[]⟩, .slice none 0 0, .string ⟨#[102]⟩, .int .i64 32, .slice none 0 0] 30 (0, 0))) := by
    rw [hw3]
    exact ⟨(((Chg.refl _ _).alloc _).alloc _).alloc _, at_old (at_old (heap_alloc_new _ _)), at_old (at_new (by simp)), at_new (by simp)⟩
  have HO1 := Lib.hid (fun W (hW : Chg No w3 W) => obj_4 (hW.obj h3.out.2.1 id))
  have HO2 := Lib.hid (fun W (hW : Chg No w3 W) => obj_15 (hW.obj h3.out.2.2.2 id))
  have HX : Hid (∀ (W : World) (p q : Nat), Chg No w3 W → W.heap[p]? = some (.cells #[.int .i64 1, .int .i64 0, .string ⟨#[120]⟩, .slice none 0 0] 27 (0, 0)) →
      W.heap[q]? = some (.cells #[.int .i64 4, .int .i64 2, .string ⟨#[]⟩, .slice (some ⟨p, 0, none⟩) 1 1, .int .i64 0, .int .i64 1, .string ⟨#[]⟩, .slice none 0 0] 27 (0, 0)) →
      Calls Tryd.prog 8 #[.agg #[.int .i64 3, .int .i64 0, .string ⟨#[]⟩, .slice (some ⟨q, 0, none⟩) 2 2], .slice (some ⟨w.heap.size + 1, 0, none⟩) 1 1] W fun e w' => e = .returned (.tuple #[.int .i64 5, .nilIface]) ∧ Chg No W w') := fun W p q hW hp hq => by
    have h := hexprF_any ((hK.no h3.out.1).no hW) (upEH_is hp hq) (upVH_is (hW.obj h3.out.2.2.1 id))
    rw [upEH_res, errV_zero] at h
    exact h
  have HH : Hid (∀ (W : World) (c : Nat), Chg No w3 W → W.heap[c]? = some (.cells #[.int .i64 3, .string ⟨#[102]⟩, .int .i64 7] 45 (0, 0)) →
      Calls Tryd.prog 7 #[.agg #[.int .i64 3, .int .i64 0, .slice none 0 0, .slice none 0 0, .int .i64 1, .int .i64 0, .string ⟨#[120]⟩, .slice none 0 0, .int .i64 0, .int .i64 7, .string ⟨#[]⟩, .slice none 0 0, .string ⟨#[102]⟩, .int .i64 32, .slice none 0 0], .slice (some ⟨w.heap.size + 1, 0, none⟩) 1 1, .slice (some ⟨c, 0, none⟩) 1 1] W fun e w' => e = .returned (.tuple #[.bool true, .nilIface]) ∧ Chg No W w') := fun W c hW hc => by
    have h := holds_any ((hK.no h3.out.1).no hW) (upAH_is W) upAH_lv (upVH_is (hW.obj h3.out.2.2.1 id)) (upHH_is hc)
    rw [upAH_holds, errV_zero] at h
    exact h
  have HF : Hid (∀ (W : World), Chg No w3 W →
      Calls Tryd.prog 6 #[.agg #[.int .i64 3, .int .i64 0, .slice none 0 0, .slice none 0 0, .int .i64 1, .int .i64 0, .string ⟨#[120]⟩, .slice none 0 0, .int .i64 0, .int .i64 7, .string ⟨#[]⟩, .slice none 0 0, .string ⟨#[102]⟩, .int .i64 32, .slice none 0 0], .slice (some ⟨w.heap.size + 1, 0, none⟩) 1 1] W fun e w' => ∃ b o cap, e = .returned (.tuple #[.slice (some ⟨b, o, none⟩) 1 cap, .nilIface]) ∧ w'.cell? ⟨b, o + 2, none⟩ = some (.int .i64 32) ∧ Chg No W w') := fun W hW => by
    have h := foot_any ((hK.no h3.out.1).no hW) (upAH_is W) upAH_lv (upVH_is (hW.obj h3.out.2.2.1 id))
    refine h.mono ?_
    rintro e w' ⟨A, cap, h1, h2, h4⟩
    rw [upAH_foot] at h1 h2
    obtain ⟨b, o, cap', cs, e1, _, _, hv, hc⟩ := h2.at_ triV_good 0 (by decide)
    obtain ⟨rfl, _⟩ := tri_cells hv
    injection e1 with e1 _ e3
    subst e1; subst e3
    refine ⟨b, o, cap, ?_, hc 2 _ rfl, h4⟩
    rw [errV_zero] at h1
    exact h1
  clear hK
  obtain ⟨p0, p1, p2, p3⟩ := HO1.out w3 (Chg.refl _ _)
  go_enter Tryd.func4, Tryd.ntmps4
  go_upto_region 4 with fail
  rw [← hw3]
  clear hw3
  go_upto_region 5 with (go_at_call 8; refine (HX.out _ w3.heap.size (w3.heap.size + 1) (((Chg.refl No w3).alloc _).alloc _) (at_old (heap_alloc_new _ _)) (at_new (by simp))).mono ?_; rintro e w4 ⟨rfl, h4⟩; have H4 : Hid (Chg No w3 w4) := ((((Chg.refl No w3).alloc _).alloc _).thenNo h4); clear h4 p0 p1 p2 p3)
  obtain ⟨p0, p1, p2, p3, p4, p5, p6, p7, p8, p9, p10, p11, p12, p13, p14⟩ := HO2.out w4 H4.out
  go_upto_region 6 with (go_at_call 7; refine (HH.out _ w4.heap.size (H4.out.alloc _) (heap_alloc_new _ _)).mono ?_; rintro e w5 ⟨rfl, h5⟩; have H5 : Hid (Chg No w3 w5) := (H4.out.alloc _).thenNo h5; clear h5 p0 p1 p2 p3 p4 p5 p6 p7 p8 p9 p10 p11 p12 p13 p14)
  obtain ⟨p0, p1, p2, p3, p4, p5, p6, p7, p8, p9, p10, p11, p12, p13, p14⟩ := HO2.out w5 H5.out
  go_wp2_with (go_at_call 6; refine (HF.out _ H5.out).mono ?_; rintro e w6 ⟨b, o, cap, rfl, x2, h6⟩; have H6 : Hid (Chg No w w6) := h3.out.1.thenNo (H5.out.thenNo h6); clear h6)
  go_ret
  exact ⟨rfl, H6.out⟩

theorem sza_one {m n k : Nat} {x : AT m n k} {R : Nat → Prop} {W : World} {cs : List Value} {c : Nat} (hx : (assnV m n k) R W cs x) (hR : ∀ q, R q → q ≠ c) (ho : W.heap[c]? = some (.cells cs.toArray 30 (0, 0))) : SzCallA W (.slice (some ⟨c, 0, none⟩) 1 1) (lvA m n k x) := by
  have hlen : cs.length = (assnV m n k).sz := (assnV_good m n k).len hx
  have h1 := ownL_oneH (M := fun _ => True) (R := R) ho trivial hlen ((assnV_good m n k).mono hx (fun q _ hq => ⟨hq, hR q hq⟩)) (assnV_good m n k)
  have h2 := (h1.sl_of (assnV_good m n k) (by rw [assnV_bytes]; exact (show 1 * 224 ≤ big by decide))).2
  rw [assnV_sz] at h2
  have h3 := sza_any m n k h2
  rw [show [x].length = 1 from rfl, show ([x].map (lvA m n k)).sum = lvA m n k x by simp] at h3
  exact h3
set_option maxRecDepth 100000 in
theorem smallA_any {m n k : Nat} {x : AT m n k} {R : Nat → Prop} {w : World} {cs : List Value} (hx : (assnV m n k) R w cs x) :
    Calls Tryd.prog 5 #[.agg cs.toArray] w fun e w' => ∃ q, e = .returned (.bool q) ∧ (q = true → lvA m n k x ≤ 300) ∧ Chg No w w' := by
  have hx2 := (assnV_good m n k).mono hx (R' := fun q => q < w.heap.size) (fun q hq _ => hq)
  obtain ⟨kd, ck, cA, cel, cca, cB, ckl, cck, ek, en, es, eB, ekl, eck, vk, vn, vs, vB, vkl, vck, fd, nm, B, kl, capk, rfl⟩ := assn_shape hx
  obtain ⟨w3, hw3⟩ : ∃ w3, w3 = w.alloc (.cells #[.int .i64 kd, .int .i64 ck, .slice cA cel cca, .slice cB ckl cck, .int .i64 ek, .int .i64 en, .string es, .slice eB ekl eck, .int .i64 vk, .int .i64 vn, .string vs, .slice vB vkl vck, .string fd, .int .i64 nm, .slice B kl capk] 30) := ⟨_, rfl⟩
  have h3 : Hid (Chg No w w3 ∧ w3.heap[w.heap.size]? = some (.cells #[.int .i64 kd, .int .i64 ck, .slice cA cel cca, .slice cB ckl cck, .int .i64 ek, .int .i64 en, .string es, .slice eB ekl eck, .int .i64 vk, .int .i64 vn, .string vs, .slice vB vkl vck, .string fd, .int .i64 nm, .slice B kl capk] 30 (0, 0))) := by
    rw [hw3]; exact ⟨(Chg.refl _ _).alloc _, heap_alloc_new _ _⟩
  obtain ⟨p0, p1, p2, p3, p4, p5, p6, p7, p8, p9, p10, p11, p12, p13, p14⟩ := obj_15 h3.out.2
  have HS : Hid (∀ (W : World) (c : Nat), Chg No w W → w.heap.size ≤ c → W.heap[c]? = some (.cells #[.int .i64 kd, .int .i64 ck, .slice cA cel cca, .slice cB ckl cck, .int .i64 ek, .int .i64 en, .string es, .slice eB ekl eck, .int .i64 vk, .int .i64 vn, .string vs, .slice vB vkl vck, .string fd, .int .i64 nm, .slice B kl capk] 30 (0, 0)) → Calls Tryd.prog 9 #[.slice (some ⟨c, 0, none⟩) 1 1, .int .i64 300, .int .i64 300] W (SzRetA W 300 (lvA m n k x))) := fun W c hW hc ho =>
    sza_one ((assnV_good m n k).no hx2 hW) (fun q hq => by omega) ho 300 300 300 (by decide) (by decide) rfl (by decide)
  clear hx hx2
  go_enter Tryd.func5, Tryd.ntmps5
  go_upto_region 1 with fail
  rw [← hw3]
  clear hw3
  go_wp2_with (go_at_call 9; (refine (HS.out _ w3.heap.size (h3.out.1.alloc _) h3.out.1.size (heap_alloc_new _ _)).mono ?_); rintro e w4 ⟨v, rfl, g1, g2, g3, h4⟩; have G3 := Lib.hid g3; have H4 : Hid (Chg No w w4) := (h3.out.1.alloc _).thenNo h4; clear g3 h4)
  go_ret
  exact ⟨_, rfl, fun h => by have h := of_decide_eq_true h; have := G3.out h; omega, H4.out⟩
end Go.Proofs.YtgofncopoieigaaDoor
/- HlJ -/
namespace Go.Proofs.YtgofncopoieigaaDoor
open Go Go.RowKit

theorem aShape_num {kd num : Int} {field : ByteArray} {kl : Nat} {c hc e he v hv : Bool} (h : aShape kd num field kl c hc e he v hv = true) (hk : kd = 2 ∨ kd = 3) : field.size ≤ 32 ∧ 0 ≤ num ∧ num ≤ 1073741824 := by
  unfold aShape at h
  rw [if_neg (by omega), if_neg (by omega)] at h
  have hn : ∀ s : ByteArray, nameB s = true → s.size ≤ 32 := fun s hs => by
    unfold nameB at hs
    simp only [Bool.and_eq_true, decide_eq_true_eq] at hs
    exact hs.1.1.1
  split at h
  · simp only [Bool.and_eq_true, decide_eq_true_eq] at h
    exact ⟨hn _ h.1.1.2.1.1.2, h.1.1.2.1.2, h.1.1.2.2⟩
  · rw [if_pos (by omega)] at h
    simp only [Bool.and_eq_true, decide_eq_true_eq] at h
    exact ⟨hn _ h.1.1.2.1.1.2, h.1.1.2.1.2, h.1.1.2.2⟩
theorem triOk_join {l : List Tri} (h : ∀ m ∈ l, TriOk m) : ∀ m ∈ addsS l, TriOk m := fun m hm => by
  obtain ⟨⟨x, hx, he⟩, hv⟩ := (addsS_join l h).val m hm
  obtain ⟨h1, h2, h3⟩ := h x hx
  obtain ⟨e1, e2⟩ := eqT_iff.1 he
  refine ⟨by rw [← e1]; exact h1, by rw [← e2]; exact h2, ?_⟩
  rw [hv]
  unfold wrap64 I64
  omega
theorem two_of {α : Type} {l : List α} (h : l.length = 2) : ∃ a b, l = [a, b] := by
  match l, h with
  | [a, b], _ => exact ⟨a, b, rfl⟩
theorem wkH_ok (l : List Vr) (h : List Tri) (m n : Nat) : ∀ (k : Nat) (x : AT m n k), okA m n k x = true → (∀ s ∈ (wkH l h m n k x).1.1, TriOk s) ∧ Strict (wkH l h m n k x).1.1
  | 0, _, hx => by cases hx
  | k + 1, x, hx => by
    obtain ⟨hs, hk⟩ := okA_parts hx
    have hone : ∀ kd, ANode.kind x = kd → (kd = 2 ∨ kd = 3) → TriOk ((exH l m (ANode.e x)).1, ANode.field x, ANode.num x) := fun kd h0 h1 => by
      obtain ⟨g1, g2, g3⟩ := aShape_num hs (by rw [h0]; exact h1)
      obtain ⟨g4, g5⟩ := exH_le l m (ANode.e x)
      exact ⟨I64.of (show -9000000000000000000 ≤ (exH l m (ANode.e x)).1 by omega) (show (exH l m (ANode.e x)).1 ≤ 9000000000000000000 by omega), show (ANode.field x).size ≤ maxLen by unfold maxLen; omega, I64.of (show -9000000000000000000 ≤ ANode.num x by omega) (show ANode.num x ≤ 9000000000000000000 by omega)⟩
    rcases aShape_cases hs with h0 | ⟨h0, _⟩ | ⟨h0, _⟩ | ⟨h0, _, _⟩ | ⟨h0, h2⟩ | ⟨h0, _, h2⟩
    · rw [wkH_0 h0]; exact ⟨fun s hs => absurd hs (by simp), List.Pairwise.nil⟩
    · rw [wkH_1 h0]; exact ⟨fun s hs => absurd hs (by simp), List.Pairwise.nil⟩
    · rw [wkH_2 h0]
      exact ⟨fun s hs => by rw [List.mem_singleton.1 hs]; exact hone 2 h0 (.inl rfl), List.pairwise_singleton _ _⟩
    · rw [wkH_3 h0]
      exact ⟨fun s hs => by rw [List.mem_singleton.1 hs]; exact hone 3 h0 (.inr rfl), List.pairwise_singleton _ _⟩
    · obtain ⟨a, b, e⟩ := two_of h2
      obtain ⟨h1, _⟩ := wkH_ok l h m n k a (hk a (by rw [e]; simp))
      obtain ⟨h3, _⟩ := wkH_ok l h m n k b (hk b (by rw [e]; simp))
      have h4 : ∀ s ∈ (wkH l h m n k a).1.1 ++ (wkH l h m n k b).1.1, TriOk s := fun s hs => (List.mem_append.1 hs).elim (h1 s) (h3 s)
      rw [wkH_4 h0 e]
      exact ⟨triOk_join h4, addsS_strict _ h4⟩
    · obtain ⟨a, b, e⟩ := two_of h2
      rw [wkH_5 h0 e]
      split
      · exact wkH_ok l h m n k a (hk a (by rw [e]; simp))
      · exact wkH_ok l h m n k b (hk b (by rw [e]; simp))
/-- What is taken, and what is far, hangs on no heap. -/
theorem wkH_same (l : List Vr) (h h' : List Tri) (m n : Nat) : ∀ (k : Nat) (x : AT m n k), okA m n k x = true → (wkH l h m n k x).1.1 = (wkH l h' m n k x).1.1 ∧ (wkH l h m n k x).2 = (wkH l h' m n k x).2
  | 0, _, _ => ⟨rfl, rfl⟩
  | k + 1, x, hx => by
    obtain ⟨hs, hk⟩ := okA_parts hx
    rcases aShape_cases hs with h0 | ⟨h0, _⟩ | ⟨h0, _⟩ | ⟨h0, _, _⟩ | ⟨h0, h2⟩ | ⟨h0, _, h2⟩
    · rw [wkH_0 h0, wkH_0 h0]; exact ⟨rfl, rfl⟩
    · rw [wkH_1 h0, wkH_1 h0]; exact ⟨rfl, rfl⟩
    · rw [wkH_2 h0, wkH_2 h0]; exact ⟨rfl, rfl⟩
    · rw [wkH_3 h0, wkH_3 h0]; exact ⟨rfl, rfl⟩
    · obtain ⟨a, b, e⟩ := two_of h2
      obtain ⟨h1, g1⟩ := wkH_same l h h' m n k a (hk a (by rw [e]; simp))
      obtain ⟨h3, g3⟩ := wkH_same l h h' m n k b (hk b (by rw [e]; simp))
      rw [wkH_4 h0 e, wkH_4 h0 e, h1, h3, g1, g3]
      exact ⟨rfl, rfl⟩
    · obtain ⟨a, b, e⟩ := two_of h2
      obtain ⟨h1, g1⟩ := wkH_same l h h' m n k a (hk a (by rw [e]; simp))
      obtain ⟨h3, g3⟩ := wkH_same l h h' m n k b (hk b (by rw [e]; simp))
      rw [wkH_5 h0 e, wkH_5 h0 e]
      split
      · exact ⟨h1, by show (_ || _) = (_ || _); rw [g1]⟩
      · exact ⟨h3, by show (_ || _) = (_ || _); rw [g3]⟩
theorem eqT_right {x k k' : Tri} (h : eqT k k' = true) : eqT x k = eqT x k' := by
  rw [eqT_comm x k, eqT_comm x k']
  rw [Bool.eq_iff_iff]
  exact ⟨fun g => eqT_trans (by rw [eqT_comm]; exact h) g, fun g => eqT_trans h g⟩
theorem hasL_right {l : List Tri} {k k' : Tri} (h : eqT k k' = true) : hasL l k = hasL l k' := by
  unfold hasL; congr 1; funext x; exact eqT_right h
theorem getP_right {l : List Tri} {k k' : Tri} (h : eqT k k' = true) : getP l k = getP l k' := by
  unfold getP
  rw [show (fun x => eqT x k) = (fun x => eqT x k') from funext fun x => eqT_right h]
/-- Whether it holds hangs on the cells alone that it takes. -/
theorem wkH_own (l : List Vr) (h h' : List Tri) (m n : Nat) : ∀ (k : Nat) (x : AT m n k), okA m n k x = true → (∀ s ∈ (wkH l h m n k x).1.1, hasL h' s = hasL h s ∧ getP h' s = getP h s) → (wkH l h' m n k x).1.2 = (wkH l h m n k x).1.2
  | 0, _, _, _ => rfl
  | k + 1, x, hx, H => by
    obtain ⟨hs, hk⟩ := okA_parts hx
    rcases aShape_cases hs with h0 | ⟨h0, _⟩ | ⟨h0, _⟩ | ⟨h0, _, _⟩ | ⟨h0, h2⟩ | ⟨h0, _, h2⟩
    · rw [wkH_0 h0, wkH_0 h0]
    · rw [wkH_1 h0, wkH_1 h0]
    · rw [wkH_2 h0] at H ⊢
      rw [wkH_2 h0]
      exact (H _ (List.mem_singleton.2 rfl)).1
    · rw [wkH_3 h0] at H ⊢
      rw [wkH_3 h0]
      obtain ⟨g1, g2⟩ := H _ (List.mem_singleton.2 rfl)
      have g1 : hasL h' ((exH l m (ANode.e x)).1, ANode.field x, 0) = hasL h ((exH l m (ANode.e x)).1, ANode.field x, 0) := g1
      have g2 : getP h' ((exH l m (ANode.e x)).1, ANode.field x, 0) = getP h ((exH l m (ANode.e x)).1, ANode.field x, 0) := g2
      show (hasL h' ((exH l m (ANode.e x)).1, ANode.field x, 0) && decide (getP h' ((exH l m (ANode.e x)).1, ANode.field x, 0) = (exH l m (ANode.v x)).1)) = _
      rw [g1, g2]
    · obtain ⟨a, b, e⟩ := two_of h2
      obtain ⟨o1, _⟩ := wkH_ok l h m n k a (hk a (by rw [e]; simp))
      obtain ⟨o2, _⟩ := wkH_ok l h m n k b (hk b (by rw [e]; simp))
      have o3 : ∀ s ∈ (wkH l h m n k a).1.1 ++ (wkH l h m n k b).1.1, TriOk s := fun s hs => (List.mem_append.1 hs).elim (o1 s) (o2 s)
      rw [wkH_4 h0 e] at H ⊢
      rw [wkH_4 h0 e]
      have H2 : ∀ s ∈ (wkH l h m n k a).1.1 ++ (wkH l h m n k b).1.1, hasL h' s = hasL h s ∧ getP h' s = getP h s := fun s hs => by
        obtain ⟨t, ht, he⟩ := (addsS_join _ o3).has s hs
        obtain ⟨g1, g2⟩ := H t ht
        exact ⟨by rw [← hasL_right he, ← hasL_right he]; exact g1, by rw [← getP_right he, ← getP_right he]; exact g2⟩
      have h1 := wkH_own l h h' m n k a (hk a (by rw [e]; simp)) (fun s hs => H2 s (List.mem_append.2 (.inl hs)))
      have h3 := wkH_own l h h' m n k b (hk b (by rw [e]; simp)) (fun s hs => H2 s (List.mem_append.2 (.inr hs)))
      show (_ && _) = (_ && _)
      rw [h1, h3]
    · obtain ⟨a, b, e⟩ := two_of h2
      rw [wkH_5 h0 e] at H ⊢
      rw [wkH_5 h0 e]
      split
      · rename_i hc
        rw [if_pos hc] at H
        exact wkH_own l h h' m n k a (hk a (by rw [e]; simp)) H
      · rename_i hc
        rw [if_neg hc] at H
        exact wkH_own l h h' m n k b (hk b (by rw [e]; simp)) H
/-- The cells that are taken, as often as they are. -/
def ownF (h s : List Tri) : List Tri := h.flatMap fun c => (s.filter fun x => eqT x c).map fun _ => c
theorem filter_one {s : List Tri} (hs : Strict s) (c : Tri) : (s.filter fun x => eqT x c).map (fun _ => c) = if hasL s c = true then [c] else [] := by
  have h1 : (s.filter fun x => eqT x c).Pairwise (fun a b => ltT a b = true) := hs.filter _
  have h2 : ∀ x ∈ s.filter (fun x => eqT x c), eqT x c = true := fun x hx => (List.mem_filter.1 hx).2
  have h3 : hasL s c = true ↔ s.filter (fun x => eqT x c) ≠ [] := by
    unfold hasL
    rw [List.any_eq_true, Ne, List.filter_eq_nil_iff]
    simp
  generalize s.filter (fun x => eqT x c) = f at *
  match f with
  | [] => rw [if_neg (by rw [h3]; simp)]; rfl
  | [x] => rw [if_pos (by rw [h3]; simp)]; rfl
  | x :: y :: t =>
    exfalso
    have h4 : ltT x y = true := by
      rw [List.pairwise_cons] at h1
      exact h1.1 y (by simp)
    have h5 : eqT x y = true := eqT_trans (h2 x (by simp)) (by rw [eqT_comm]; exact h2 y (by simp))
    rw [ltT_ne h4] at h5
    cases h5
theorem ownF_eq {h s : List Tri} (hs : Strict s) : ownF h s = h.filter fun c => hasL s c := by
  unfold ownF
  induction h with
  | nil => rfl
  | cons c t ih =>
    rw [List.flatMap_cons, filter_one hs, ih, List.filter_cons]
    split <;> rfl
theorem ownF_len (h s : List Tri) : (ownF h s).length ≤ h.length * s.length := by
  unfold ownF
  induction h with
  | nil => simp
  | cons c t ih =>
    rw [List.flatMap_cons, List.length_append, List.length_cons, Nat.add_mul, Nat.one_mul, List.length_map]
    have := List.length_filter_le (fun x => eqT x c) s
    omega
theorem own_law {l : List Vr} {h : List Tri} {m n k : Nat} {x : AT m n k} (hf : (footR l m n k x).2 = 0) (hh : (holdsR l h m n k x).2 = 0) : holdsR l (ownF h (footR l m n k x).1) m n k x = holdsR l h m n k x := by
  unfold footR at hf
  have hfine : fineA m n k x = true := by
    cases hq : fineA m n k x with
    | true => rfl
    | false => rw [hq, if_neg (by decide)] at hf; cases hf
  rw [if_pos hfine] at hf
  have hok : okA m n k x = true := by
    unfold fineA at hfine
    rw [Bool.and_eq_true] at hfine
    exact hfine.2
  have hfar : (wkH l [] m n k x).2 = false := by
    cases hq : (wkH l [] m n k x).2 with
    | false => rfl
    | true => rw [hq, if_pos rfl] at hf; cases hf
  have hs : (footR l m n k x).1 = (wkH l h m n k x).1.1 := by
    unfold footR
    rw [if_pos hfine, hfar, if_neg (by decide)]
    exact (wkH_same l [] h m n k x hok).1
  have hb : heapB h = true := by
    unfold holdsR at hh
    cases hq : heapB h with
    | true => rfl
    | false => rw [hq, if_neg (by simp)] at hh; cases hh
  obtain ⟨hok1, hst⟩ := wkH_ok l h m n k x hok
  rw [hs, ownF_eq hst]
  have H : ∀ s ∈ (wkH l h m n k x).1.1, hasL (h.filter fun c => hasL (wkH l h m n k x).1.1 c) s = hasL h s ∧ getP (h.filter fun c => hasL (wkH l h m n k x).1.1 c) s = getP h s := fun s hs => by
    have hin : ∀ c, eqT c s = true → hasL (wkH l h m n k x).1.1 c = true := fun c hc => by
      unfold hasL
      rw [List.any_eq_true]
      exact ⟨s, hs, by rw [eqT_comm]; exact hc⟩
    constructor
    · unfold hasL
      rw [List.any_filter]
      congr 1
      funext c
      cases hc : eqT c s with
      | false => simp
      | true => rw [show (wkH l h m n k x).1.1.any (fun x => eqT x c) = true from hin c hc]; rfl
    · unfold getP
      rw [List.find?_filter]
      rw [show (fun a => decide (hasL (wkH l h m n k x).1.1 a = true ∧ eqT a s = true)) = (fun a => eqT a s) from funext fun a => by
        cases hc : eqT a s with
        | false => simp
        | true => simp [hin a hc]]
  have h1 := wkH_own l h (h.filter fun c => hasL (wkH l h m n k x).1.1 c) m n k x hok H
  obtain ⟨h2, h3⟩ := wkH_same l (h.filter fun c => hasL (wkH l h m n k x).1.1 c) h m n k x hok
  have hb2 : heapB (h.filter fun c => hasL (wkH l h m n k x).1.1 c) = true := by
    rw [heapB_eq, Bool.and_eq_true] at hb ⊢
    exact ⟨decide_eq_true ((of_decide_eq_true hb.1 : Strict h).filter _), List.all_eq_true.2 fun c hc => List.all_eq_true.1 hb.2 c (List.mem_filter.1 hc).1⟩
  unfold holdsR
  rw [hb, hb2, h1, h2, h3]
end Go.Proofs.YtgofncopoieigaaDoor
/- HlK -/
namespace Go.Proofs.YtgofncopoieigaaDoor
open Go Go.RowKit

theorem ownF_take {h s : List Tri} {i : Nat} (hi : i < h.length) : ownF (h.take (i + 1)) s = ownF (h.take i) s ++ (s.filter fun x => eqT x h[i]).map fun _ => h[i] := by
  unfold ownF
  rw [List.take_succ_eq_append_getElem hi, List.flatMap_append]
  simp
theorem own_step {s : List Tri} {c : Tri} {k : Nat} (hk : k < s.length) : ((s.take (k + 1)).filter fun x => eqT x c).map (fun _ => c) = ((s.take k).filter fun x => eqT x c).map (fun _ => c) ++ (if eqT s[k] c = true then [c] else []) := by
  rw [List.take_succ_eq_append_getElem hk, List.filter_append, List.map_append]
  congr 1
  rw [List.filter_cons]
  split <;> rfl
/-- An error's value, either nothing or a code. -/
theorem errV_cases (c : Int) : (c = 0 ∧ errV 53 c = .nilIface) ∨ (c ≠ 0 ∧ errV 53 c = .iface 53 (.int .i64 c)) := by
  by_cases h : c = 0
  · exact .inl ⟨h, by rw [h, errV_zero]⟩
  · exact .inr ⟨h, errV_of _ h⟩

set_option maxRecDepth 100000 in
set_option maxHeartbeats 8000000 in
theorem holdsOwn_walk {R Rs Rh : Nat → Prop} {w : World} (hK : Keys w) {m n k : Nat} {x : AT m n k} {cs : List Value} (hx : (assnV m n k) R w cs x) {A : Option Addr} {l : List Vr} {cap : Nat} (hl : Vars Rs w A l cap) {Ah : Option Addr} {h : List Tri} {hcap : Nat} (hh : Tris Rh w Ah h hcap) :
    Calls Tryd.prog 3 #[.agg cs.toArray, .slice A l.length cap, .slice Ah h.length hcap] w fun e w' => e = .returned (.bool true) ∧ Chg No w w' := by
  have hb1 := hl.big
  have hb2 := hh.big
  unfold big at hb1 hb2
  have HU := Lib.hid (fun W (hW : Chg No w W) => up18_any (hK.no hW))
  have HSM := Lib.hid (fun W (hW : Chg No w W) => smallA_any ((assnV_good m n k).no hx hW))
  have HF := Lib.hid (fun (hv : lvA m n k x ≤ 300) W (hW : Chg No w W) => foot_any (hK.no hW) ((assnV_good m n k).no hx hW) (by omega) (hl.no varE_good hW))
  have HH := Lib.hid (fun (hv : lvA m n k x ≤ 300) W (hW : Chg No w W) A' (h' : List Tri) cap' R' (hh' : Tris R' W A' h' cap') => holds_any (hK.no hW) ((assnV_good m n k).no hx hW) (by omega) (hl.no varE_good hW) hh')
  have HHT := Lib.hid (fun W (hW : Chg No w W) => hh.no triE_good hW)
  have HH0 := Lib.hid (fun (hv : lvA m n k x ≤ 300) W (hW : Chg No w W) => HH.out hv W hW Ah h hcap _ (hh.no triE_good hW))
  have HLAW := Lib.hid (@own_law l h m n k x)
  have HLN : Hid (lvA m n k x ≤ 300 → (footR l m n k x).1.length ≤ 300) := fun hv => by
    unfold footR
    split
    · rename_i hf
      unfold fineA at hf
      rw [Bool.and_eq_true] at hf
      split
      · exact Nat.zero_le _
      · exact Nat.le_trans (wkH_len l [] m n k x hf.2) hv
    · exact Nat.zero_le _
  obtain ⟨kd, ck, cA, cel, cca, cB, ckl, cck, ek, en, es, eB, ekl, eck, vk, vn, vs, vB, vkl, vck, fd, nm, B, kl, capk, rfl⟩ := assn_shape hx
  obtain ⟨w3, hw3⟩ : ∃ w3, w3 = w.alloc (.cells #[.int .i64 kd, .int .i64 ck, .slice cA cel cca, .slice cB ckl cck, .int .i64 ek, .int .i64 en, .string es, .slice eB ekl eck, .int .i64 vk, .int .i64 vn, .string vs, .slice vB vkl vck, .string fd, .int .i64 nm, .slice B kl capk] 30) := ⟨_, rfl⟩
  have h3 : Hid (Chg No w w3 ∧ w3.heap[w.heap.size]? = some (.cells #[.int .i64 kd, .int .i64 ck, .slice cA cel cca, .slice cB ckl cck, .int .i64 ek, .int .i64 en, .string es, .slice eB ekl eck, .int .i64 vk, .int .i64 vn, .string vs, .slice vB vkl vck, .string fd, .int .i64 nm, .slice B kl capk] 30 (0, 0))) := by
    rw [hw3]; exact ⟨(Chg.refl _ _).alloc _, heap_alloc_new _ _⟩
  have HO := Lib.hid (fun W (hW : Chg No w3 W) => obj_15 (hW.obj h3.out.2 id))
  clear hx hK hl hh
  unfold FootRet at HF
  generalize lvA m n k x = lv at *
  generalize holdsR l h m n k x = hr at *
  generalize footR l m n k x = fr at *
  obtain ⟨hv, hc⟩ := hr
  obtain ⟨s, fc⟩ := fr
  have HE1 := Lib.hid (errV_cases fc)
  have HE2 := Lib.hid (errV_cases hc)
  go_enter Tryd.func3, Tryd.ntmps3
  go_upto_region 1 with fail
  rw [← hw3]
  clear hw3
  go_upto_region 2 with (go_at_call 4; (with_reducible refine (HU.out _ h3.out.1).mono ?_); rintro e w4 ⟨rfl, h4⟩; have H4 := Lib.hid h4; clear h4)
  obtain ⟨p0, p1, p2, p3, p4, p5, p6, p7, p8, p9, p10, p11, p12, p13, p14⟩ := HO.out w4 H4.out
  go_upto_region 3 with (go_at_call 5; (with_reducible refine (HSM.out _ (h3.out.1.thenNo H4.out)).mono ?_); rintro e w5 ⟨q, rfl, hq, h5⟩; have H5 := Lib.hid (H4.out.thenNo h5); have HQ := Lib.hid hq; clear h5 hq)
  clear p0 p1 p2 p3 p4 p5 p6 p7 p8 p9 p10 p11 p12 p13 p14
  cases q
  · go_wp2_with fail
    go_ret
    exact ⟨rfl, h3.out.1.thenNo H5.out⟩
  have hlv : lv ≤ 300 := HQ.out rfl
  by_cases hb3 : 200 < l.length
  · have d1 : decide ((200 : Int) < (l.length : Int)) = true := decide_eq_true (by omega)
    go_wp2_with fail
    go_ret
    exact ⟨rfl, h3.out.1.thenNo H5.out⟩
  have d1 : decide ((200 : Int) < (l.length : Int)) = false := decide_eq_false (by omega)
  by_cases hb4 : 200 < h.length
  · have d2 : decide ((200 : Int) < (h.length : Int)) = true := decide_eq_true (by omega)
    go_wp2_with fail
    go_ret
    exact ⟨rfl, h3.out.1.thenNo H5.out⟩
  have d2 : decide ((200 : Int) < (h.length : Int)) = false := decide_eq_false (by omega)
  have HF1 := Lib.hid (HF.out hlv _ (h3.out.1.thenNo H5.out))
  have hsl : s.length ≤ 300 := HLN.out hlv
  try simp only at HF1
  obtain ⟨p0, p1, p2, p3, p4, p5, p6, p7, p8, p9, p10, p11, p12, p13, p14⟩ := HO.out w5 H5.out
  go_upto_region 6 with (go_at_call 6; (with_reducible refine HF1.out.mono ?_); rintro e w6 ⟨A6, c6, rfl, s6, h6⟩; have H6 := Lib.hid (H5.out.thenNo h6); have S6 := Lib.hid (OTris.tris s6 (show s.length * 32 ≤ 140737488355328 by omega)); clear h6 s6)
  clear p0 p1 p2 p3 p4 p5 p6 p7 p8 p9 p10 p11 p12 p13 p14
  obtain ⟨p0, p1, p2, p3, p4, p5, p6, p7, p8, p9, p10, p11, p12, p13, p14⟩ := HO.out w6 H6.out
  have HH1 := Lib.hid (HH0.out hlv w6 (h3.out.1.thenNo H6.out))
  go_upto_region 7 with (go_at_call 7; (with_reducible refine HH1.out.mono ?_); rintro e w7 ⟨rfl, h7⟩; have H7 := Lib.hid (H6.out.thenNo h7); have S7 := Lib.hid (S6.out.no triE_good h7); clear h7)
  clear p0 p1 p2 p3 p4 p5 p6 p7 p8 p9 p10 p11 p12 p13 p14
  generalize errV 53 fc = E1 at *
  generalize errV 53 hc = E2 at *
  rcases HE1.out with ⟨rfl, rfl⟩ | ⟨_, rfl⟩
  rotate_left
  · go_wp2_with fail
    go_ret
    exact ⟨rfl, h3.out.1.thenNo H7.out⟩
  rcases HE2.out with ⟨rfl, rfl⟩ | ⟨_, rfl⟩
  rotate_left
  · go_wp2_with fail
    go_ret
    exact ⟨rfl, h3.out.1.thenNo H7.out⟩
  have HST := Lib.hid (fun W (hW : Chg No w7 W) => S7.out.no triE_good hW)
  have HHU := Lib.hid (fun W (hW : Chg No w7 W) => HHT.out W (h3.out.1.thenNo (H7.out.thenNo hW)))
  go_wp2_with fail
  go_loopw [13, 14] (fun s13 s14 wr => ∃ (i : Nat) (v : Value), v = s13 ∧ s14 = .int .i64 i ∧ i ≤ h.length ∧ Hid (OTris 45 (fun q => w7.heap.size ≤ q) wr v (ownF (h.take i) s) ∧ Chg No w7 wr)) (fun _ s14 _ => h.length - (intOf s14).toNat)
  case atStart => exact ⟨0, _, rfl, rfl, Nat.zero_le _, OwnL.nil _ _ _ _ _, Chg.refl _ _⟩
  case round =>
    obtain ⟨i, v, rfl, rfl, gi, hst⟩ := hrel
    obtain ⟨wa, hwa⟩ : ∃ wa, wa = wr := ⟨_, rfl⟩
    subst hwa
    by_cases hlt : i < h.length
    · have HOW := Lib.hid hst.out.1
      have HCH := Lib.hid hst.out.2
      have HTK := Lib.hid (@ownF_take h s i hlt)
      have hlo : (ownF (h.take i) s).length ≤ 60000 := by
        have h1 := ownF_len (h.take i) s
        have h2 : (h.take i).length * s.length ≤ 200 * 300 := Nat.mul_le_mul (by simp; omega) hsl
        omega
      clear hst
      generalize ownF (h.take i) s = L at *
      have i0 : (0 : Int) ≤ (i : Int) := by omega
      have i1 : (i : Int) < (h.length : Int) := by omega
      have HHI := Lib.hid (fun W (hW : Chg No w7 W) => (⟨(HHU.out W hW).tri_at i hlt, (HHU.out W hW).tri_ok i hlt⟩ : _ ∧ _))
      generalize h[i] = c at *
      go_wp2_with fail
      go_loopw [13, 15] (fun s13 s15 wr => ∃ (j : Nat) (u : Value), u = s13 ∧ s15 = .int .i64 j ∧ j ≤ s.length ∧ Hid (OTris 45 (fun q => w7.heap.size ≤ q) wr u (L ++ ((s.take j).filter fun x => eqT x c).map fun _ => c) ∧ Chg No w7 wr)) (fun _ s15 _ => s.length - (intOf s15).toNat)
      case atStart => exact ⟨0, _, rfl, rfl, Nat.zero_le _, by simpa using HOW.out, HCH.out⟩
      case round =>
        obtain ⟨j, u, rfl, rfl, gj, hst⟩ := hrel
        by_cases hlt2 : j < s.length
        · have HOU := Lib.hid hst.out.1
          have HCU := Lib.hid hst.out.2
          have HSTP := Lib.hid (@own_step s c j hlt2)
          have hll : (L ++ ((s.take j).filter fun x => eqT x c).map fun _ => c).length ≤ 60300 := by
            have h1 := List.length_filter_le (fun x => eqT x c) (s.take j)
            rw [List.length_append, List.length_map]
            simp at h1
            omega
          obtain ⟨b, o, rfl, x0, x1, x2⟩ := (HST.out wr hst.out.2).tri_at j hlt2
          obtain ⟨⟨b', o', rfl, y0, y1, y2⟩, hok⟩ := HHI.out wr hst.out.2
          have HOK := Lib.hid hok
          clear hst hok
          have j0 : (0 : Int) ≤ (j : Int) := by omega
          have j1 : (j : Int) < (s.length : Int) := by omega
          have HAP : Hid (L ++ ((s.take (j + 1)).filter fun x => eqT x c).map (fun _ => c) = (L ++ ((s.take j).filter fun x => eqT x c).map fun _ => c) ++ (if eqT s[j] c = true then [c] else [])) := by
            unfold Hid
            rw [HSTP.out, List.append_assoc]
          clear HSTP
          generalize (L ++ ((s.take j).filter fun x => eqT x c).map fun _ => c) = Lu at *
          generalize s[j] = sj at *
          obtain ⟨sa, sf, sn⟩ := sj
          obtain ⟨ca, cf, cn⟩ := c
          simp only at x0 x1 x2 y0 y1 y2
          have HE : Hid (eqT (sa, sf, sn) (ca, cf, cn) = ((sa == ca) && (sf.toList == cf.toList))) := by
            unfold Hid eqT eqK
            rw [beqDec]
          have HVR : Hid (∀ q, u.ownBlock = some q → w7.heap.size ≤ q) := fun q hq => (HOU.out.mine q hq).1
          have HD : Hid (∀ d, Chg No w7 (wr.drewN d) ∧ OTris 45 (fun q => w7.heap.size ≤ q) (wr.drewN d) u Lu ∧ ((wr.drewN d).cell? ⟨b', o' + i * 3, none⟩ = some (.int .i64 ca) ∧ (wr.drewN d).cell? ⟨b', o' + i * 3 + 1, none⟩ = some (.string cf) ∧ (wr.drewN d).cell? ⟨b', o' + i * 3 + 2, none⟩ = some (.int .i64 cn))) := fun d => ⟨HCU.out.drewN d, HOU.out.no triV_good ((Chg.refl _ _).drewN d), y0, y1, y2⟩
          by_cases he : (sa == ca) = true
          · by_cases hf : (sf.toList == cf.toList) = true
            · rw [he, hf] at HE
              have HNX : Hid (L ++ ((s.take (j + 1)).filter fun x => eqT x (ca, cf, cn)).map (fun _ => (ca, cf, cn)) = Lu ++ [(ca, cf, cn)]) := by
                unfold Hid
                rw [HAP.out, if_pos (show eqT (sa, sf, sn) (ca, cf, cn) = true from HE.out)]
              clear HAP HE
              go_wp2_with fail
              go_quiet (fail)
              clear x0 x1 x2 y0 y1 y2
              obtain ⟨hd1, hd2, y0, y1, y2⟩ := HD.out nq
              have HD1 := Lib.hid hd1
              have HD2 := Lib.hid hd2
              clear hd1 hd2 HD HOU HCU
              generalize wr.drewN nq = wq at *
              have HFR : Hid (∀ q, wq.heap.size ≤ q → w7.heap.size ≤ q) := fun q hq => Nat.le_trans HD1.out.size hq
              go_wp2_with (at_builtin; refine wpList_pushL triV_good cellsTy rfl (.tmp 90) (.tmp 95) rfl (M := fun q => w7.heap.size ≤ q) (R := No) (w := wq) HFR.out HD2.out rfl (tri_of (m := (ca, cf, cn)) HOK.out.1 HOK.out.2.1 HOK.out.2.2) (by simp [Value.oneCell']) rfl (show (Lu.length + 1) * 32 ≤ 140737488355328 by omega) ?_; intro A2 cap2 w9 g1 g2; have G1 := Lib.hid (OTris.of g1); have G2 := Lib.hid g2; clear g1 g2)
              go_roundw
              case rel => exact ⟨j + 1, _, rfl, by go_num, hlt2, by rw [HNX.out]; exact G1.out, chgpastH HD1.out G2.out (fun q hq => HVR.out q hq)⟩
              case measure => simp [intOf]; omega
            · have hf2 : (sf.toList == cf.toList) = false := by simpa using hf
              rw [he, hf2] at HE
              have HNX : Hid (L ++ ((s.take (j + 1)).filter fun x => eqT x (ca, cf, cn)).map (fun _ => (ca, cf, cn)) = Lu) := by
                unfold Hid
                rw [HAP.out, if_neg (by rw [HE.out]; decide), List.append_nil]
              clear HAP HE hf
              go_wp2_with fail
              go_quiet (fail)
              go_wp2_with fail
              go_roundw
              case rel => exact ⟨j + 1, _, rfl, by go_num, hlt2, by rw [HNX.out]; exact (HD.out nq).2.1, (HD.out nq).1⟩
              case measure => simp [intOf]; omega
          · have he2 : (sa == ca) = false := by simpa using he
            rw [he2] at HE
            have HNX : Hid (L ++ ((s.take (j + 1)).filter fun x => eqT x (ca, cf, cn)).map (fun _ => (ca, cf, cn)) = Lu) := by
              unfold Hid
              rw [HAP.out, if_neg (by rw [HE.out]; simp), List.append_nil]
            clear HAP HE he
            go_wp2_with fail
            go_quiet (fail)
            go_wp2_with fail
            go_roundw
            case rel => exact ⟨j + 1, _, rfl, by go_num, hlt2, by rw [HNX.out]; exact (HD.out nq).2.1, (HD.out nq).1⟩
            case measure => simp [intOf]; omega
        · obtain rfl : j = s.length := by omega
          have HNX : Hid (OTris 45 (fun q => w7.heap.size ≤ q) wr u (ownF (h.take (i + 1)) s) ∧ Chg No w7 wr) := by
            have := hst.out
            rw [List.take_length] at this
            rw [HTK.out]
            exact this
          clear hst
          go_wp2_with fail
          go_roundw
          case rel => exact ⟨i + 1, _, rfl, by go_num, hlt, HNX.out⟩
          case measure => simp [intOf]; omega
    · obtain rfl : i = h.length := by omega
      have HOW : Hid (OTris 45 (fun q => w7.heap.size ≤ q) wa v (ownF h s)) := by
        have := hst.out.1
        rwa [List.take_length] at this
      have HCH := Lib.hid hst.out.2
      clear hst
      have hlo : (ownF h s).length ≤ 60000 := by
        have h1 := ownF_len h s
        have h2 : h.length * s.length ≤ 200 * 300 := Nat.mul_le_mul (by omega) hsl
        omega
      have HRES := Lib.hid (HLAW.out (by trivial) (by trivial))
      try simp only at HRES
      obtain ⟨A8, c8, rfl, _⟩ := HOW.out.value
      have HTR := Lib.hid (OTris.tris HOW.out (show (ownF h s).length * 32 ≤ 140737488355328 by omega))
      have HH2 := Lib.hid (HH.out hlv wa (h3.out.1.thenNo (H7.out.thenNo HCH.out)) A8 (ownF h s) c8 _ HTR.out)
      rw [HRES.out, errV_zero] at HH2
      generalize ownF h s = Lo at *
      obtain ⟨p0, p1, p2, p3, p4, p5, p6, p7, p8, p9, p10, p11, p12, p13, p14⟩ := HO.out wa (H7.out.thenNo HCH.out)
      go_wp2_with (go_at_call 7; (with_reducible refine HH2.out.mono ?_); rintro e w8 ⟨rfl, h8⟩; have H8 := Lib.hid (h3.out.1.thenNo (H7.out.thenNo (HCH.out.thenNo h8))); clear h8)
      go_ret
      exact ⟨by simp, H8.out⟩
end Go.Proofs.YtgofncopoieigaaDoor
/- HlOpen -/
namespace Go.Proofs.YtgofncopoieigaaDoor
open Go Go.RowKit
section
variable {H : Type} {enc : TypeId × Value → H}
theorem opensV_var : OpensV enc Tryd.prog 48 varV :=
  opensV_struct2 (by decide) Tryd.underlying48 rfl rfl (by kernel_rfl) (by kernel_rfl) (opensV_string Tryd.underlying9 (by kernel_rfl) (by kernel_rfl)) (opensV_int Tryd.underlying3 (by kernel_rfl) (by kernel_rfl))
theorem opensE_var : OpensE enc Tryd.prog 48 2 varV.mem := opensE_of opensV_var
end
end Go.Proofs.YtgofncopoieigaaDoor
/- ShO -/
namespace Go.Proofs.YtgofncopoieigaaDoor
open Go Go.ChangeShapes Go.WideShapes Go.ChangeAt Go.RowKit

theorem gKeys : Tryd.prog.globalNamed "trammel/scan.keys" = some 0 := by kernel_rfl
theorem tKeys : (Tryd.prog.globals[0]?).map (·.type) = some 62 := by kernel_rfl
theorem door_met (os : Os) (args : Array Value) : laidMetH Tryd.prog [("trammel/scan.keys", Rows.laid_trammel_scan_keys)] ((World.doorLaid Tryd.prog 400 os).forCall (fun _ _ => 0) ⟨#[], args, []⟩).memory :=
  laidMetH_of_parts3 (fuel := 8) (laidMet_of_run' 8 (by kernel_rfl) (by kernel_rfl)) (by kernel_rfl) (by kernel_rfl)
theorem strs_inj : ∀ {a b : List ByteArray}, (strs (H := Unit) a) = strs b → a = b
  | [], [], _ => rfl
  | [], _ :: _, h => by simp [strs] at h
  | _ :: _, [], h => by simp [strs] at h
  | x :: a, y :: b, h => by
    simp only [strs, List.map_cons, List.cons.injEq] at h
    obtain ⟨h1, h2⟩ := h
    have e : x = y := by
      injection h1 with h1
      injection h1 with h1
      exact ByteArray.ext (Array.toList_inj.1 h1)
    rw [e, strs_inj h2]
theorem keys_of_laid {W : World} (h : laidMetH Tryd.prog [("trammel/scan.keys", Rows.laid_trammel_scan_keys)] W) : Keys W := by
  rw [MakeChecks.laidMetH_plain _ _ _ (by kernel_rfl)] at h
  obtain ⟨ps, ⟨g0, t0, cs0, f0, p0, q0, hg0, ht0, hv0, hd0, _, _⟩, _, _⟩ := h
  obtain rfl := Option.some.inj (gKeys.symm.trans hg0)
  obtain rfl := Option.some.inj (tKeys.symm.trans ht0)
  rcases open_strings Tryd.underlying62 Tryd.underlying9 (by kernel_rfl) hd0 with ⟨_, hx⟩ | ⟨a, len, cap, ss, hcs, _, hl, hm, hz, hx, hcell, hsz⟩
  · simp [Rows.laid_trammel_scan_keys] at hx
  simp only [Prod.mk.injEq] at hx
  have hx1 : (DataW.slice (strs keyL) [] : DataW Unit) = .slice (strs (ss.take len)) (strs (ss.drop len)) := hx.1
  injection hx1 with e1 e2
  have e3 := strs_inj e1
  have e4 : ss.drop len = [] := by
    cases hd : ss.drop len with
    | nil => rfl
    | cons x y => rw [hd] at e2; simp [strs] at e2
  have e5 : ss = keyL := by
    have := List.take_append_drop len ss
    rw [e4, List.append_nil, ← e3] at this
    exact this.symm
  have hlen : len = 19 := by
    have h1 : (ss.take len).length = 19 := by rw [← e3]; rfl
    have h2 : ss.length = 19 := by rw [e5]; rfl
    have h3 : ss.length ≤ len := by
      have := congrArg List.length e4
      simp at this
      omega
    rw [List.length_take] at h1
    have h4 : len ≤ ss.length := by
      rw [hz]; split <;> omega
    omega
  subst hlen
  have hc0 := World.var?_cell hg0 hv0 0
  rw [Array.eq_one_of_toList hcs] at hc0
  have hnone : a.spot = none := by
    have h0 := hcell 0 (by rw [e5]; decide)
    simpa [Addr.add] using World.cell?_spot h0
  obtain ⟨b, off, spot⟩ := a
  simp only at hnone
  subst hnone
  refine ⟨some ⟨b, off, none⟩, cap, by simpa using hc0, hl, hm, by decide, (fun h => by cases h), fun i hi => ⟨b, off, rfl, trivial, ?_, ?_⟩⟩
  · have h1 := hcell i (by rw [e5]; exact hi)
    rw [e5] at h1
    have e6 : keyL.getD i ByteArray.empty = keyL[i] := by simp [List.getD, hi]
    rw [e6] at h1
    rw [Nat.mul_one]
    rw [addr_add] at h1
    exact h1
  · exact hsz _ (by rw [e5]; exact List.getElem_mem hi)
end Go.Proofs.YtgofncopoieigaaDoor
