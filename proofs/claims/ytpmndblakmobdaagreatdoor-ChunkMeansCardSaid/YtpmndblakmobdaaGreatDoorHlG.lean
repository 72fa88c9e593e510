/-
  The reference's SizeA, sizeC, sizeE: they end, and what is left bounds how many assertions there are.
-/
import Derived.Test.YtpmndblakmobdaaGreatDoorHlE
import Derived.Deep.RegionHeldLaw
namespace Go.Proofs.YtpmndblakmobdaaGreatDoor
open Go Go.RowKit

theorem ownL_listH {α : Type} {V : ElV α} {e : TypeId} {M R : Nat → Prop} {w : World} {g : Nat} {cs : List (List Value)} {l : List α} (hg : w.heap[g]? = some (.cells cs.flatten.toArray e (0, 0))) (hM : M g) (hlen : cs.length = l.length) (hsz : ∀ c ∈ cs, c.length = V.sz) (hmax : l.length ≤ maxLen)
    (hx : ∀ i (h : i < l.length) (h' : i < cs.length), V (fun k => R k ∧ k ≠ g) w cs[i] l[i]) (G : V.Good) :
    OwnL V e M R w (.slice (some ⟨g, 0, none⟩) l.length l.length) l := by
  refine ⟨cs, ⟨by rw [flatten_length hsz, hlen], .inr ⟨g, 0, l.length, cs.flatten.toArray, rfl, hM, hg, Nat.le_refl _, hmax, by simp only [List.size_toArray]; rw [flatten_length hsz, hlen]; omega, fun j u hj => ?_⟩⟩, hlen, fun i hi hi' => ?_⟩
  · simpa using hj
  · exact G.mono (hx i hi hi') (fun k _ hk => ⟨hk.1, fun e => by simp [Value.ownBlock] at e; exact hk.2 e.symm⟩)
/-- A call counts: it returns no more than was left. -/
def SzRet (w : World) (left : Int) (e : Ending) (w' : World) : Prop := ∃ v : Int, e = .returned (.int .i64 v) ∧ -1 ≤ v ∧ v ≤ left ∧ Chg No w w'
def SzCall (f : FuncId) (W : World) (v : Value) : Prop := ∀ (left : Int) (d : Nat) (z : Int), -1 ≤ left → left ≤ 1000 → z = d → d ≤ 1000 → Calls Tryz.prog f #[v, .int .i64 left, .int .i64 z] W (SzRet W left)

/-- What is asked of the parts of expressions that lie behind each other. -/
def KidE (w : World) (A : Option Addr) (len : Nat) : Prop := ∀ i, i < len → ∀ W, Chg No w W → ∃ (b o : Nat) (s : ByteArray) (B : Option Addr) (kl capk : Nat), A = some ⟨b, o, none⟩ ∧ s.size ≤ maxLen ∧ W.cell? ⟨b, o + i * 4 + 2, none⟩ = some (.string s) ∧ W.cell? ⟨b, o + i * 4 + 3, none⟩ = some (.slice B kl capk) ∧ SzCall 51 W (.slice B kl capk)
set_option maxRecDepth 100000 in
set_option maxHeartbeats 2000000 in
theorem sze_step {w : World} {A : Option Addr} {len cap : Nat} (hb : len ≤ 140737488355328) (hK : KidE w A len) : SzCall 51 w (.slice A len cap) := by
  intro left d z h1 h2 hz hd
  have HK := Lib.hid hK
  clear hK
  by_cases h0 : z = 0
  · subst h0
    clear HK
    go_enter Tryz.func51, Tryz.ntmps51
    go_wp2_with fail
    go_ret
    exact ⟨-1, rfl, by omega, h1, Chg.refl _ _⟩
  have hz0 : (z == 0) = false := by simpa using h0
  have HZD : Hid (z - 1 = ((d - 1 : Nat) : Int)) := by unfold Hid; omega
  have hd1 : d - 1 ≤ 1000 := by omega
  have hzl : 1 ≤ z := by omega
  have hzh : z ≤ 1000 := by omega
  clear hz
  have hw1 : IntKind.i64.wrap (z - 1) = z - 1 := by rw [IntKind.wrap_i64]; omega
  go_enter Tryz.func51, Tryz.ntmps51
  go_wp2_with fail
  go_loopw [1, 7] (fun s1 s7 wr => ∃ (k : Nat) (v : Int), s1 = .int .i64 v ∧ s7 = .int .i64 k ∧ k ≤ len ∧ -1 ≤ v ∧ v ≤ left ∧ Hid (Chg No w wr)) (fun _ s7 _ => len - (intOf s7).toNat)
  case atStart => exact ⟨0, left, rfl, rfl, Nat.zero_le _, h1, Int.le_refl _, Chg.refl _ _⟩
  case round =>
    obtain ⟨k, v, rfl, rfl, gk, gv1, gv2, hch⟩ := hrel
    by_cases hlt : k < len
    · by_cases hv : 0 ≤ v
      · obtain ⟨b, o, s, B, kl, capk, rfl, hs, x2, x3, hc⟩ := HK.out k hlt wr hch.out
        have i0 : (0 : Int) ≤ (k : Int) := by omega
        have i1 : (k : Int) < (len : Int) := by omega
        have hw2 : IntKind.i64.wrap (v - 1) = v - 1 := by rw [IntKind.wrap_i64]; omega
        have HC := Lib.hid (hc (v - 1) (d - 1) (z - 1) (by omega) (by omega) HZD.out hd1)
        clear hc
        unfold maxLen at hs
        by_cases hs2 : 200 < s.size
        · have hs3 : decide ((200 : Int) < (s.size : Int)) = true := decide_eq_true (by omega)
          go_wp2_with fail
          go_ret
          exact ⟨-1, rfl, by omega, h1, hch.out⟩
        · have hs3 : decide ((200 : Int) < (s.size : Int)) = false := decide_eq_false (by omega)
          go_wp2_with (go_at_call 51; (with_reducible refine HC.out.mono ?_); rintro e w4 ⟨v4, rfl, g1, g2, h4⟩; have H4 := Lib.hid (hch.out.thenNo h4); clear h4)
          go_roundw
          case rel => exact ⟨k + 1, v4, rfl, by go_num, hlt, g1, by omega, H4.out⟩
          case measure => simp [intOf]; omega
      · go_wp2_with fail
        go_ret
        exact ⟨v, rfl, gv1, gv2, hch.out⟩
    · go_wp2_with fail
      go_ret
      exact ⟨v, rfl, gv1, gv2, hch.out⟩
theorem sze_any : ∀ (n : Nat) {R : Nat → Prop} {w : World} {A : Option Addr} {l : List (ET n)} {cap : Nat}, Exprs R w A l cap → SzCall 51 w (.slice A l.length cap)
  | 0, R, w, A, l, cap, h => sze_step h.big (fun i hi W hW => by
      obtain ⟨b, o, k, m, s, B, kl, capk, e, hv, _⟩ := exprs_at (h.no (exprE_good 0) hW) i hi
      exact hv.elim)
  | n + 1, R, w, A, l, cap, h => sze_step h.big (fun i hi W hW => by
      obtain ⟨b, o, k, m, s, B, kl, capk, e, hv, x0, x1, x2, x3⟩ := exprs_at (h.no (exprE_good (n + 1)) hW) i hi
      obtain ⟨B', capk', e2, _, _, hm, hk⟩ := enode_cells hv
      simp only [List.cons.injEq, Value.int.injEq, Value.string.injEq, Value.slice.injEq, and_true, true_and] at e2
      obtain ⟨rfl, rfl, rfl, rfl, rfl, rfl⟩ := e2
      exact ⟨b, o, _, _, _, _, e, hm, x2, x3, sze_any n hk⟩)
def KidC (w : World) (A : Option Addr) (len : Nat) : Prop := ∀ i, i < len → ∀ W, Chg No w W → ∃ (b o : Nat) (A' : Option Addr) (el cape : Nat) (B : Option Addr) (kl capk : Nat), A = some ⟨b, o, none⟩ ∧ W.cell? ⟨b, o + i * 3 + 1, none⟩ = some (.slice A' el cape) ∧ W.cell? ⟨b, o + i * 3 + 2, none⟩ = some (.slice B kl capk) ∧ SzCall 51 W (.slice A' el cape) ∧ ∀ W', Chg No W W' → W'.cell? ⟨b, o + i * 3 + 2, none⟩ = some (.slice B kl capk) ∧ SzCall 50 W' (.slice B kl capk)
set_option maxRecDepth 100000 in
set_option maxHeartbeats 2000000 in
theorem szc_step {w : World} {A : Option Addr} {len cap : Nat} (hb : len ≤ 140737488355328) (hK : KidC w A len) : SzCall 50 w (.slice A len cap) := by
  intro left d z h1 h2 hz hd
  have HK := Lib.hid hK
  clear hK
  by_cases h0 : z = 0
  · subst h0
    clear HK
    go_enter Tryz.func50, Tryz.ntmps50
    go_wp2_with fail
    go_ret
    exact ⟨-1, rfl, by omega, h1, Chg.refl _ _⟩
  have hz0 : (z == 0) = false := by simpa using h0
  have HZD : Hid (z - 1 = ((d - 1 : Nat) : Int)) := by unfold Hid; omega
  have hd1 : d - 1 ≤ 1000 := by omega
  have hzl : 1 ≤ z := by omega
  have hzh : z ≤ 1000 := by omega
  clear hz
  have hw1 : IntKind.i64.wrap (z - 1) = z - 1 := by rw [IntKind.wrap_i64]; omega
  go_enter Tryz.func50, Tryz.ntmps50
  go_wp2_with fail
  go_loopw [1, 7] (fun s1 s7 wr => ∃ (k : Nat) (v : Int), s1 = .int .i64 v ∧ s7 = .int .i64 k ∧ k ≤ len ∧ -1 ≤ v ∧ v ≤ left ∧ Hid (Chg No w wr)) (fun _ s7 _ => len - (intOf s7).toNat)
  case atStart => exact ⟨0, left, rfl, rfl, Nat.zero_le _, h1, Int.le_refl _, Chg.refl _ _⟩
  case round =>
    obtain ⟨k, v, rfl, rfl, gk, gv1, gv2, hch⟩ := hrel
    by_cases hlt : k < len
    · by_cases hv : 0 ≤ v
      · obtain ⟨b, o, A', el, cape, B, kl, capk, rfl, x1, x2, hc, hc2⟩ := HK.out k hlt wr hch.out
        have i0 : (0 : Int) ≤ (k : Int) := by omega
        have i1 : (k : Int) < (len : Int) := by omega
        have hw2 : IntKind.i64.wrap (v - 1) = v - 1 := by rw [IntKind.wrap_i64]; omega
        have HC := Lib.hid (hc (v - 1) (d - 1) (z - 1) (by omega) (by omega) HZD.out hd1)
        have HC2 := Lib.hid (fun W (hW : Chg No wr W) => hc2 W hW)
        clear hc hc2
        go_upto_region 7 with (go_at_call 51; (with_reducible refine HC.out.mono ?_); rintro e w4 ⟨v4, rfl, g1, g2, h4⟩; have H4 := Lib.hid h4; clear h4 x2; obtain ⟨x2, hc4⟩ := HC2.out w4 H4.out; have HC4 := Lib.hid hc4; clear hc4)
        by_cases hv4 : 0 ≤ v4
        · have HC5 := Lib.hid (HC4.out v4 (d - 1) (z - 1) g1 (by omega) HZD.out hd1)
          go_wp2_with (go_at_call 50; (with_reducible refine HC5.out.mono ?_); rintro e w5 ⟨v5, rfl, g3, g4, h5⟩; have H5 := Lib.hid (hch.out.thenNo (H4.out.thenNo h5)); clear h5)
          go_roundw
          case rel => exact ⟨k + 1, v5, rfl, by go_num, hlt, g3, by omega, H5.out⟩
          case measure => simp [intOf]; omega
        · go_wp2_with fail
          go_roundw
          case rel => exact ⟨k + 1, v4, rfl, by go_num, hlt, g1, by omega, hch.out.thenNo H4.out⟩
          case measure => simp [intOf]; omega
      · go_wp2_with fail
        go_ret
        exact ⟨v, rfl, gv1, gv2, hch.out⟩
    · go_wp2_with fail
      go_ret
      exact ⟨v, rfl, gv1, gv2, hch.out⟩
theorem szc_any (m : Nat) : ∀ (n : Nat) {R : Nat → Prop} {w : World} {A : Option Addr} {l : List (CT m n)} {cap : Nat}, Conds R w A l cap → SzCall 50 w (.slice A l.length cap)
  | 0, R, w, A, l, cap, h => szc_step h.big (fun i hi W hW => by
      obtain ⟨b, o, k, A', el, cape, B, kl, capk, e, hv, _⟩ := conds_at (h.no (condE_good m 0) hW) i hi
      exact hv.elim)
  | n + 1, R, w, A, l, cap, h => szc_step h.big (fun i hi W hW => by
      obtain ⟨b, o, k, A', el, cape, B, kl, capk, e, hv, x0, x1, x2⟩ := conds_at (h.no (condE_good m (n + 1)) hW) i hi
      obtain ⟨A2, cape2, B2, capk2, e2, _, he, hk⟩ := cnode_cells hv
      simp only [List.cons.injEq, Value.int.injEq, Value.slice.injEq, and_true, true_and] at e2
      obtain ⟨rfl, ⟨rfl, rfl, rfl⟩, rfl, rfl, rfl⟩ := e2
      exact ⟨b, o, _, _, _, _, _, _, e, x1, x2, sze_any m he, fun W' hW' => ⟨hW'.cell x2 id, szc_any m n (hk.no (condE_good m n) hW')⟩⟩)

/-- A call counts: what it returns, and what n counts, is no more than was left. -/
def SzRetA (w : World) (left : Int) (n : Nat) (e : Ending) (w' : World) : Prop := ∃ v : Int, e = .returned (.int .i64 v) ∧ -1 ≤ v ∧ v ≤ left ∧ (0 ≤ v → v + n ≤ left) ∧ Chg No w w'
def SzCallA (W : World) (v : Value) (n : Nat) : Prop := ∀ (left : Int) (d : Nat) (z : Int), -1 ≤ left → left ≤ 1000 → z = d → d ≤ 1000 → Calls Tryz.prog 52 #[v, .int .i64 left, .int .i64 z] W (SzRetA W left n)
def KidA (w : World) (A : Option Addr) (cn : List Nat) : Prop := ∀ i (hi : i < cn.length), ∃ b o kd ck cA cel cca cB ckl cck ek en es eB ekl eck vk vn vs vB vkl vck fd nm B kl capk, A = some ⟨b, o, none⟩ ∧ fd.size ≤ maxLen ∧ (∀ W, Chg No w W → W.cell? ⟨b, o + i * 15, none⟩ = some (.int .i64 kd) ∧ W.cell? ⟨b, o + i * 15 + 1, none⟩ = some (.int .i64 ck) ∧ W.cell? ⟨b, o + i * 15 + 2, none⟩ = some (.slice cA cel cca) ∧ W.cell? ⟨b, o + i * 15 + 3, none⟩ = some (.slice cB ckl cck) ∧ W.cell? ⟨b, o + i * 15 + 4, none⟩ = some (.int .i64 ek) ∧ W.cell? ⟨b, o + i * 15 + 5, none⟩ = some (.int .i64 en) ∧ W.cell? ⟨b, o + i * 15 + 6, none⟩ = some (.string es) ∧ W.cell? ⟨b, o + i * 15 + 7, none⟩ = some (.slice eB ekl eck) ∧ W.cell? ⟨b, o + i * 15 + 8, none⟩ = some (.int .i64 vk) ∧ W.cell? ⟨b, o + i * 15 + 9, none⟩ = some (.int .i64 vn) ∧ W.cell? ⟨b, o + i * 15 + 10, none⟩ = some (.string vs) ∧ W.cell? ⟨b, o + i * 15 + 11, none⟩ = some (.slice vB vkl vck) ∧ W.cell? ⟨b, o + i * 15 + 12, none⟩ = some (.string fd) ∧ W.cell? ⟨b, o + i * 15 + 13, none⟩ = some (.int .i64 nm) ∧ W.cell? ⟨b, o + i * 15 + 14, none⟩ = some (.slice B kl capk)) ∧
  (∀ W c, Chg No w W → w.heap.size ≤ c → W.heap[c]? = some (.cells #[.int .i64 ck, .slice cA cel cca, .slice cB ckl cck] 56 (0, 0)) → SzCall 50 W (.slice (some ⟨c, 0, none⟩) 1 1)) ∧
  (∀ W c, Chg No w W → w.heap.size ≤ c → W.heap[c]? = some (.cells #[.int .i64 ek, .int .i64 en, .string es, .slice eB ekl eck, .int .i64 vk, .int .i64 vn, .string vs, .slice vB vkl vck] 53 (0, 0)) → SzCall 51 W (.slice (some ⟨c, 0, none⟩) 2 2)) ∧
  ∃ n, cn[i] = n + 1 ∧ ∀ W, Chg No w W → SzCallA W (.slice B kl capk) n
theorem sum_take {l : List Nat} {k : Nat} (h : k < l.length) : (l.take (k + 1)).sum = (l.take k).sum + l[k] := by
  rw [List.take_succ_eq_append_getElem h, List.sum_append]; simp
set_option maxRecDepth 100000 in
set_option maxHeartbeats 8000000 in
theorem sza_step {w : World} {A : Option Addr} {cn : List Nat} {cap : Nat} (hb : cn.length ≤ 140737488355328) (hK : KidA w A cn) : SzCallA w (.slice A cn.length cap) cn.sum := by
  intro left d z h1 h2 hz hd
  have HK := Lib.hid hK
  clear hK
  by_cases h0 : z = 0
  · subst h0
    clear HK
    go_enter Tryz.func52, Tryz.ntmps52
    go_wp2_with fail
    go_ret
    exact ⟨-1, rfl, by omega, h1, fun h => by omega, Chg.refl _ _⟩
  have hz0 : (z == 0) = false := by simpa using h0
  have HZD : Hid (z - 1 = ((d - 1 : Nat) : Int)) := by unfold Hid; omega
  have hd1 : d - 1 ≤ 1000 := by omega
  have hzl : 1 ≤ z := by omega
  have hzh : z ≤ 1000 := by omega
  clear hz
  have hw1 : IntKind.i64.wrap (z - 1) = z - 1 := by rw [IntKind.wrap_i64]; omega
  have HALL : Hid ((cn.take cn.length).sum = cn.sum) := by unfold Hid; rw [List.take_length]
  go_enter Tryz.func52, Tryz.ntmps52
  go_wp2_with fail
  go_loopw [1, 7] (fun s1 s7 wr => ∃ (k : Nat) (v : Int), s1 = .int .i64 v ∧ s7 = .int .i64 k ∧ k ≤ cn.length ∧ -1 ≤ v ∧ v ≤ left ∧ Hid (0 ≤ v → v + (cn.take k).sum ≤ left) ∧ Hid (Chg No w wr)) (fun _ s7 _ => cn.length - (intOf s7).toNat)
  case atStart => exact ⟨0, left, rfl, rfl, Nat.zero_le _, h1, Int.le_refl _, by simp [Hid], Chg.refl _ _⟩
  case round =>
    obtain ⟨k, v, rfl, rfl, gk, gv1, gv2, gsum, hch⟩ := hrel
    by_cases hlt : k < cn.length
    · by_cases hv : 0 ≤ v
      · obtain ⟨b, o, kd, ck, cA, cel, cca, cB, ckl, cck, ek, en, es, eB, ekl, eck, vk, vn, vs, vB, vkl, vck, fd, nm, B, kl, capk, rfl, hs, hcell, hcc, hce, n, hn, hca⟩ := HK.out k hlt
        have i0 : (0 : Int) ≤ (k : Int) := by omega
        have i1 : (k : Int) < (cn.length : Int) := by omega
        have hw2 : IntKind.i64.wrap (v - 1) = v - 1 := by rw [IntKind.wrap_i64]; omega
        have hsum := gsum.out hv
        have hst := sum_take hlt
        rw [hn] at hst
        have HST := Lib.hid hst
        generalize (cn.take k).sum = sk at *
        have HX : Hid (∀ W, Chg No wr W → W.cell? ⟨b, o + k * 15, none⟩ = some (.int .i64 kd) ∧ W.cell? ⟨b, o + k * 15 + 1, none⟩ = some (.int .i64 ck) ∧ W.cell? ⟨b, o + k * 15 + 2, none⟩ = some (.slice cA cel cca) ∧ W.cell? ⟨b, o + k * 15 + 3, none⟩ = some (.slice cB ckl cck) ∧ W.cell? ⟨b, o + k * 15 + 4, none⟩ = some (.int .i64 ek) ∧ W.cell? ⟨b, o + k * 15 + 5, none⟩ = some (.int .i64 en) ∧ W.cell? ⟨b, o + k * 15 + 6, none⟩ = some (.string es) ∧ W.cell? ⟨b, o + k * 15 + 7, none⟩ = some (.slice eB ekl eck) ∧ W.cell? ⟨b, o + k * 15 + 8, none⟩ = some (.int .i64 vk) ∧ W.cell? ⟨b, o + k * 15 + 9, none⟩ = some (.int .i64 vn) ∧ W.cell? ⟨b, o + k * 15 + 10, none⟩ = some (.string vs) ∧ W.cell? ⟨b, o + k * 15 + 11, none⟩ = some (.slice vB vkl vck) ∧ W.cell? ⟨b, o + k * 15 + 12, none⟩ = some (.string fd) ∧ W.cell? ⟨b, o + k * 15 + 13, none⟩ = some (.int .i64 nm) ∧ W.cell? ⟨b, o + k * 15 + 14, none⟩ = some (.slice B kl capk)) := fun W hW => hcell W (hch.out.thenNo hW)
        have HCC : Hid (∀ W c, Chg No wr W → wr.heap.size ≤ c → W.heap[c]? = some (.cells #[.int .i64 ck, .slice cA cel cca, .slice cB ckl cck] 56 (0, 0)) → Calls Tryz.prog 50 #[.slice (some ⟨c, 0, none⟩) 1 1, .int .i64 (v - 1), .int .i64 (z - 1)] W (SzRet W (v - 1))) := fun W c hW hc ho => hcc W c (hch.out.thenNo hW) (Nat.le_trans hch.out.size hc) ho (v - 1) (d - 1) (z - 1) (by omega) (by omega) HZD.out hd1
        have HCE : Hid (∀ W c (u : Int), -1 ≤ u → u ≤ v → Chg No wr W → wr.heap.size ≤ c → W.heap[c]? = some (.cells #[.int .i64 ek, .int .i64 en, .string es, .slice eB ekl eck, .int .i64 vk, .int .i64 vn, .string vs, .slice vB vkl vck] 53 (0, 0)) → Calls Tryz.prog 51 #[.slice (some ⟨c, 0, none⟩) 2 2, .int .i64 u, .int .i64 (z - 1)] W (SzRet W u)) := fun W c u hu hu2 hW hc ho => hce W c (hch.out.thenNo hW) (Nat.le_trans hch.out.size hc) ho u (d - 1) (z - 1) (by omega) (by omega) HZD.out hd1
        have HCA : Hid (∀ W (u : Int), -1 ≤ u → u ≤ v → Chg No wr W → Calls Tryz.prog 52 #[.slice B kl capk, .int .i64 u, .int .i64 (z - 1)] W (SzRetA W u n)) := fun W u hu hu2 hW => hca W (hch.out.thenNo hW) u (d - 1) (z - 1) (by omega) (by omega) HZD.out hd1
        have hfl : (fd.size : Int) ≤ 9223372036854775807 := by unfold maxLen at hs; omega
        unfold maxLen at hs
        clear hcell hcc hce hca hst hn gsum hfl
        have HSZ : Hid (decide ((200 : Int) < (fd.size : Int)) = true ∨ decide ((200 : Int) < (fd.size : Int)) = false) := by unfold Hid; cases decide ((200 : Int) < (fd.size : Int)) <;> simp
        obtain ⟨x0, x1, x2, x3, x4, x5, x6, x7, x8, x9, x10, x11, x12, x13, x14⟩ := HX.out wr (Chg.refl _ _)
        go_upto_region 7 with (go_at_call 50; (with_reducible refine (HCC.out _ _ ((Chg.refl _ _).alloc _) (Nat.le_refl _) (heap_alloc_new _ _)).mono ?_); rintro e w4 ⟨v4, rfl, g1, g2, h4⟩; have H4 := Lib.hid (((Chg.refl No wr).alloc (.cells #[.int .i64 ck, .slice cA cel cca, .slice cB ckl cck] 56)).thenNo h4); clear h4)
        clear x0 x1 x2 x3 x4 x5 x6 x7 x8 x9 x10 x11 x12 x13 x14
        obtain ⟨x0, x1, x2, x3, x4, x5, x6, x7, x8, x9, x10, x11, x12, x13, x14⟩ := HX.out w4 H4.out
        by_cases hv4 : 0 ≤ v4
        · have HCF := Lib.hid (fun W c hW hc ho => HCE.out W c v4 g1 (by omega) hW hc ho)
          have HWA : Hid (Chg No w4 (w4.alloc (.cells #[.int .i64 ek, .int .i64 en, .string es, .slice eB ekl eck, .int .i64 vk, .int .i64 vn, .string vs, .slice vB vkl vck] 53)).drew) := ((Chg.refl No w4).alloc (.cells #[.int .i64 ek, .int .i64 en, .string es, .slice eB ekl eck, .int .i64 vk, .int .i64 vn, .string vs, .slice vB vkl vck] 53)).drew
          have HCF2 : Hid (Calls Tryz.prog 51 #[.slice (some ⟨w4.heap.size, 0, none⟩) 2 2, .int .i64 v4, .int .i64 (z - 1)] (w4.alloc (.cells #[.int .i64 ek, .int .i64 en, .string es, .slice eB ekl eck, .int .i64 vk, .int .i64 vn, .string vs, .slice vB vkl vck] 53)).drew (SzRet (w4.alloc (.cells #[.int .i64 ek, .int .i64 en, .string es, .slice eB ekl eck, .int .i64 vk, .int .i64 vn, .string vs, .slice vB vkl vck] 53)).drew v4)) := HCF.out _ w4.heap.size (H4.out.thenNo HWA.out) H4.out.size (heap_alloc_new w4 (.cells #[.int .i64 ek, .int .i64 en, .string es, .slice eB ekl eck, .int .i64 vk, .int .i64 vn, .string vs, .slice vB vkl vck] 53))
          have HWD : Hid (∀ w5, Chg No (w4.alloc (.cells #[.int .i64 ek, .int .i64 en, .string es, .slice eB ekl eck, .int .i64 vk, .int .i64 vn, .string vs, .slice vB vkl vck] 53)).drew w5 → Chg No wr w5) := fun w5 h5 => H4.out.thenNo (HWA.out.thenNo h5)
          go_upto_region 8 with fail
          go_region_held_law (fun W => W.cell? ⟨b, o + k * 15 + 4, none⟩ = some (.int .i64 ek) ∧ W.cell? ⟨b, o + k * 15 + 5, none⟩ = some (.int .i64 en) ∧ W.cell? ⟨b, o + k * 15 + 6, none⟩ = some (.string es) ∧ W.cell? ⟨b, o + k * 15 + 7, none⟩ = some (.slice eB ekl eck) ∧ W.cell? ⟨b, o + k * 15 + 8, none⟩ = some (.int .i64 vk) ∧ W.cell? ⟨b, o + k * 15 + 9, none⟩ = some (.int .i64 vn) ∧ W.cell? ⟨b, o + k * 15 + 10, none⟩ = some (.string vs) ∧ W.cell? ⟨b, o + k * 15 + 11, none⟩ = some (.slice vB vkl vck))
            (first | (refine ⟨?_, ?_, ?_, ?_, ?_, ?_, ?_, ?_⟩ <;> with_reducible assumption) | go_keep)
            ((go_at_call 51; (with_reducible refine HCF2.out.mono ?_); rintro e w5 ⟨v5, rfl, g3, g4, h5⟩; have H5 := Lib.hid (HWD.out w5 h5); clear h5 x0 x1 x2 x3 x4 x5 x6 x7 x8 x9 x10 x11 x12 x13 x14; obtain ⟨x0, x1, x2, x3, x4, x5, x6, x7, x8, x9, x10, x11, x12, x13, x14⟩ := HX.out w5 H5.out))
          by_cases hv5 : 0 ≤ v5
          · have HCG := Lib.hid (HCA.out w5 v5 g3 (by omega) H5.out)
            go_upto_region 11 with (go_at_call 52; (with_reducible refine HCG.out.mono ?_); rintro e w6 ⟨v6, rfl, g5, g6, g7, h6⟩; have H6 := Lib.hid (H5.out.thenNo h6); have G7 := Lib.hid g7; clear h6 g7)
            clear x0 x1 x2 x3 x4 x5 x6 x7 x8 x9 x10 x11 x12 x13 x14
            obtain ⟨x0, x1, x2, x3, x4, x5, x6, x7, x8, x9, x10, x11, x12, x13, x14⟩ := HX.out w6 H6.out
            rcases HSZ.out with hs3 | hs3
            · go_wp2_with fail
              go_ret
              exact ⟨-1, rfl, by omega, h1, fun h => by omega, hch.out.thenNo H6.out⟩
            · go_wp2_with fail
              go_roundw
              case rel => exact ⟨k + 1, v6, rfl, by go_num, hlt, g5, by omega, fun h => by have := G7.out h; rw [HST.out]; push_cast; omega, hch.out.thenNo H6.out⟩
              case measure => simp [intOf]; omega
          · rcases HSZ.out with hs3 | hs3
            · go_wp2_with fail
              go_ret
              exact ⟨-1, rfl, by omega, h1, fun h => by omega, hch.out.thenNo H5.out⟩
            · go_wp2_with fail
              go_roundw
              case rel => exact ⟨k + 1, v5, rfl, by go_num, hlt, g3, by omega, fun h => by omega, hch.out.thenNo H5.out⟩
              case measure => simp [intOf]; omega
        · rcases HSZ.out with hs3 | hs3
          · go_wp2_with fail
            go_ret
            exact ⟨-1, rfl, by omega, h1, fun h => by omega, hch.out.thenNo H4.out⟩
          · go_wp2_with fail
            go_roundw
            case rel => exact ⟨k + 1, v4, rfl, by go_num, hlt, g1, by omega, fun h => by omega, hch.out.thenNo H4.out⟩
            case measure => simp [intOf]; omega
      · go_wp2_with fail
        go_ret
        exact ⟨v, rfl, gv1, gv2, fun h => by omega, hch.out⟩
    · obtain rfl : k = cn.length := by omega
      go_wp2_with fail
      go_ret
      exact ⟨v, rfl, gv1, gv2, fun h => by have := gsum.out h; rw [HALL.out] at this; exact this, hch.out⟩
theorem szc_one {m n : Nat} {x : CT m n} {R : Nat → Prop} {W : World} {cs : List Value} {c : Nat} (hx : (condV m n) R W cs x) (hR : ∀ q, R q → q ≠ c) (ho : W.heap[c]? = some (.cells cs.toArray 56 (0, 0))) : SzCall 50 W (.slice (some ⟨c, 0, none⟩) 1 1) := by
  have hlen : cs.length = (condV m n).sz := (condV_good m n).len hx
  have h1 := ownL_oneH (M := fun _ => True) (R := R) ho trivial hlen ((condV_good m n).mono hx (fun q _ hq => ⟨hq, hR q hq⟩)) (condV_good m n)
  have h2 := (h1.sl_of (condV_good m n) (by rw [condV_bytes]; exact (show 1 * 56 ≤ big by decide))).2
  rw [condV_sz] at h2
  have h3 := szc_any m n h2
  rw [show [x].length = 1 from rfl] at h3
  exact h3
theorem sze_two {m : Nat} {x y : ET m} {R : Nat → Prop} {W : World} {cs ds : List Value} {c : Nat} (hx : (exprV m) R W cs x) (hy : (exprV m) R W ds y) (hR : ∀ q, R q → q ≠ c) (ho : W.heap[c]? = some (.cells (cs ++ ds).toArray 53 (0, 0))) : SzCall 51 W (.slice (some ⟨c, 0, none⟩) 2 2) := by
  have hlen1 : cs.length = (exprV m).sz := (exprV_good m).len hx
  have hlen2 : ds.length = (exprV m).sz := (exprV_good m).len hy
  have h1 := ownL_listH (V := exprV m) (M := fun _ => True) (R := R) (cs := [cs, ds]) (l := [x, y]) (by simpa using ho) trivial rfl (by simp [hlen1, hlen2]) (show (2 : Nat) ≤ maxLen by decide) (fun j hj hj' => by
    match j, hj with
    | 0, _ => exact (exprV_good m).mono hx (fun q _ hq => ⟨hq, hR q hq⟩)
    | 1, _ => exact (exprV_good m).mono hy (fun q _ hq => ⟨hq, hR q hq⟩)) (exprV_good m)
  have h2 := (h1.sl_of (exprV_good m) (by rw [exprV_bytes]; exact (show 2 * 56 ≤ big by decide))).2
  rw [exprV_sz] at h2
  have h3 := sze_any m h2
  rw [show [x, y].length = 2 from rfl] at h3
  exact h3
set_option maxRecDepth 100000 in
theorem sza_any (m n : Nat) : ∀ (k : Nat) {R : Nat → Prop} {w : World} {A : Option Addr} {l : List (AT m n k)} {cap : Nat}, Assns R w A l cap → SzCallA w (.slice A l.length cap) (l.map (lvA m n k)).sum
  | 0, R, w, A, l, cap, h => by
    have := sza_step (cap := cap) (cn := l.map (lvA m n 0)) (by rw [List.length_map]; exact h.big) (A := A) (w := w) (fun i hi => by
      rw [List.length_map] at hi
      obtain ⟨b, o, kd, ck, cA, cel, cca, cB, ckl, cck, ek, en, es, eB, ekl, eck, vk, vn, vs, vB, vkl, vck, fd, nm, B, kl, capk, e, hv, _⟩ := assns_someH h i hi
      cases hv)
    rwa [List.length_map] at this
  | k + 1, R, w, A, l, cap, h => by
    have := sza_step (cap := cap) (cn := l.map (lvA m n (k + 1))) (by rw [List.length_map]; exact h.big) (A := A) (w := w) (fun i hi => by
      rw [List.length_map] at hi
      have h' := h.mono (assnE_good m n (k + 1)) (R' := fun q => q < w.heap.size) (fun q hq _ => hq)
      obtain ⟨b, o, kd, ck, cA, cel, cca, cB, ckl, cck, ek, en, es, eB, ekl, eck, vk, vn, vs, vB, vkl, vck, fd, nm, B, kl, capk, e, hv, x0, x1, x2, x3, x4, x5, x6, x7, x8, x9, x10, x11, x12, x13, x14⟩ := assns_someH h' i hi
      obtain ⟨ck', cA', cel', cca', cB', ckl', cck', ek', en', es', eB', ekl', eck', vk', vn', vs', vB', vkl', vck', B', capk', e2, _, hc, he, hvv, hf, _, hk⟩ := anode_cells hv
      simp only [List.cons.injEq, Value.int.injEq, Value.string.injEq, Value.slice.injEq, and_true, true_and] at e2
      obtain ⟨rfl, rfl, ⟨rfl, rfl, rfl⟩, ⟨rfl, rfl, rfl⟩, rfl, rfl, rfl, ⟨rfl, rfl, rfl⟩, rfl, rfl, rfl, ⟨rfl, rfl, rfl⟩, rfl, rfl, rfl, rfl, rfl⟩ := e2
      refine ⟨b, o, _, _, _, _, _, _, _, _, _, _, _, _, _, _, _, _, _, _, _, _, _, _, _, _, _, e, hf, fun W hW => ⟨hW.cell x0 id, hW.cell x1 id, hW.cell x2 id, hW.cell x3 id, hW.cell x4 id, hW.cell x5 id, hW.cell x6 id, hW.cell x7 id, hW.cell x8 id, hW.cell x9 id, hW.cell x10 id, hW.cell x11 id, hW.cell x12 id, hW.cell x13 id, hW.cell x14 id⟩, fun W c hW hcs ho => ?_, fun W c hW hcs ho => ?_, ((ANode.kids l[i]).map (lvA m n k)).sum, ?_, fun W hW => ?_⟩
      · exact szc_one ((condV_good m n).no hc hW) (fun q hq => by omega) ho
      · exact sze_two ((exprV_good m).no he hW) ((exprV_good m).no hvv hW) (fun q hq => by omega) ho
      · rw [List.getElem_map]
        show 1 + _ = _
        omega
      · exact sza_any m n k (hk.no (assnE_good m n k) hW))
    rwa [List.length_map] at this
end Go.Proofs.YtpmndblakmobdaaGreatDoor
