/-
  ShA, ShB, ShC, ShD, in one file.
-/
import Derived.Test.YtpmndblakmobdaaGreatDoorTree
import Derived.Test.YtpmndblakmobdaaGreatDoorMA
import Derived.Deep.LoopGhost
import Derived.Deep.QuietTactic
import Derived.BigQuiet
import Derived.Deep.DeepCutAuto
/- ShA -/
namespace Go.Proofs.YtpmndblakmobdaaGreatDoor
open Go Go.RowKit

/-- Is it deeper than so much? -/
def deepE : (n : Nat) → ET n → Nat → Bool
  | 0, _, _ => true
  | _ + 1, _, 0 => true
  | n + 1, x, b + 1 => (ENode.kids x).any (fun k => deepE n k b)
def deepC (m : Nat) : (n : Nat) → CT m n → Nat → Bool
  | 0, _, _ => true
  | _ + 1, _, 0 => true
  | n + 1, x, b + 1 => (CNode.es x).any (fun k => deepE m k b) || (CNode.kids x).any (fun k => deepC m n k b)
def deepA (m n : Nat) : (k : Nat) → AT m n k → Nat → Bool
  | 0, _, _ => true
  | _ + 1, _, 0 => true
  | k + 1, x, b + 1 => deepC m n (ANode.c x) b || deepE m (ANode.e x) b || deepE m (ANode.v x) b || (ANode.kids x).any (fun q => deepA m n k q b)

theorem deepE_zero (n : Nat) (x : ET n) : deepE n x 0 = true := by cases n <;> rfl
theorem deepC_zero (m n : Nat) (x : CT m n) : deepC m n x 0 = true := by cases n <;> rfl
theorem deepA_zero (m n k : Nat) (x : AT m n k) : deepA m n k x 0 = true := by cases k <;> rfl
theorem deepE_step {n : Nat} {x : ET (n + 1)} {b : Nat} (hb : 1 ≤ b) : deepE (n + 1) x b = (ENode.kids x).any (fun k => deepE n k (b - 1)) := by
  obtain ⟨b, rfl⟩ : ∃ c, b = c + 1 := ⟨b - 1, by omega⟩
  rfl
theorem deepC_step {m n : Nat} {x : CT m (n + 1)} {b : Nat} (hb : 1 ≤ b) : deepC m (n + 1) x b = ((CNode.es x).any (fun k => deepE m k (b - 1)) || (CNode.kids x).any (fun k => deepC m n k (b - 1))) := by
  obtain ⟨b, rfl⟩ : ∃ c, b = c + 1 := ⟨b - 1, by omega⟩
  rfl
theorem deepA_step {m n k : Nat} {x : AT m n (k + 1)} {b : Nat} (hb : 1 ≤ b) : deepA m n (k + 1) x b = (deepC m n (ANode.c x) (b - 1) || deepE m (ANode.e x) (b - 1) || deepE m (ANode.v x) (b - 1) || (ANode.kids x).any (fun q => deepA m n k q (b - 1))) := by
  obtain ⟨b, rfl⟩ : ∃ c, b = c + 1 := ⟨b - 1, by omega⟩
  rfl

/-- A byte that begins a name; a digit. -/
def letB (c : UInt8) : Bool := decide (c = 95) || (decide (97 ≤ c) && decide (c ≤ 122)) || (decide (65 ≤ c) && decide (c ≤ 90))
def digB (c : UInt8) : Bool := decide (48 ≤ c) && decide (c ≤ 57)
/-- The words that mean something. -/
def keyL : List ByteArray := [⟨#[112, 114, 111, 99]⟩, ⟨#[114, 101, 113, 117, 105, 114, 101, 115]⟩, ⟨#[101, 110, 115, 117, 114, 101, 115]⟩, ⟨#[115, 107, 105, 112]⟩, ⟨#[112, 117, 116]⟩, ⟨#[103, 101, 116]⟩, ⟨#[110, 101, 119]⟩, ⟨#[102, 114, 101, 101]⟩, ⟨#[105, 102]⟩, ⟨#[101, 108, 115, 101]⟩, ⟨#[119, 104, 105, 108, 101]⟩, ⟨#[105, 110, 118, 97, 114, 105, 97, 110, 116]⟩, ⟨#[97, 115, 115, 101, 114, 116]⟩, ⟨#[99, 97, 108, 108]⟩, ⟨#[116, 114, 117, 101]⟩, ⟨#[102, 97, 108, 115, 101]⟩, ⟨#[101, 109, 112]⟩, ⟨#[97, 99, 99]⟩, ⟨#[112, 116, 115]⟩]
def keyB (s : ByteArray) : Bool := keyL.any (fun k => s.toList == k.toList)
/-- How many bytes ahead are so. -/
def runN (p : UInt8 → Bool) (l : List UInt8) : Nat := (l.takeWhile p).length
def wrdB (c : UInt8) : Bool := letB c || digB c
/-- Is it a name? -/
def nameB (s : ByteArray) : Bool := decide (s.size ≤ 32) && decide (0 < runN letB s.data.toList) && decide (runN wrdB s.data.toList = s.size) && !keyB s

def coefS (k : Int) : Bool := decide (-1073741824 ≤ k) && decide (k ≤ 1073741824)
/-- May an expression's own parts be so? -/
def eShape (kd num : Int) (name : ByteArray) (kl : Nat) : Bool :=
  if kd = 0 then coefS num && name.toList.isEmpty && decide (kl = 0)
  else if kd = 1 then nameB name && decide (num = 0) && decide (kl = 0)
  else if kd = 2 ∨ kd = 3 then name.toList.isEmpty && decide (num = 0) && decide (kl = 2)
  else if kd = 4 then coefS num && name.toList.isEmpty && decide (kl = 1)
  else false
def okE : (n : Nat) → ET n → Bool
  | 0, _ => false
  | n + 1, x => eShape (ENode.kind x) (ENode.num x) (ENode.name x) (ENode.kids x).length && (ENode.kids x).all (okE n)
def cShape (kd : Int) (el kl : Nat) : Bool :=
  if kd = 0 ∨ kd = 1 then decide (el = 0) && decide (kl = 0)
  else if kd = 2 ∨ kd = 3 ∨ kd = 4 ∨ kd = 5 then decide (el = 2) && decide (kl = 0)
  else if kd = 6 then decide (el = 0) && decide (kl = 1)
  else if kd = 7 ∨ kd = 8 then decide (el = 0) && decide (kl = 2)
  else false
def okC (m : Nat) : (n : Nat) → CT m n → Bool
  | 0, _ => false
  | n + 1, x => cShape (CNode.kind x) (CNode.es x).length (CNode.kids x).length && ((CNode.es x).all (okE m) && (CNode.kids x).all (okC m n))
def hasE : (n : Nat) → ET n → Bool
  | 0, _ => false
  | _ + 1, x => !(decide (ENode.kind x = 0) && decide (ENode.num x = 0) && (ENode.name x).toList.isEmpty && decide ((ENode.kids x).length = 0))
def hasC (m : Nat) : (n : Nat) → CT m n → Bool
  | 0, _ => false
  | _ + 1, x => !(decide (CNode.kind x = 0) && decide ((CNode.es x).length = 0) && decide ((CNode.kids x).length = 0))
/-- May an assertion's own parts be so? (c, hc: its condition may be shown, isn't the empty one; e, v likewise.) -/
def aShape (kd num : Int) (field : ByteArray) (kl : Nat) (c hc e he v hv : Bool) : Bool :=
  if kd = 0 then !hc && (!he && field.toList.isEmpty && decide (num = 0)) && !hv && decide (kl = 0)
  else if kd = 1 then c && (!he && field.toList.isEmpty && decide (num = 0)) && !hv && decide (kl = 0)
  else if kd = 2 then !hc && (e && nameB field && decide (0 ≤ num) && decide (num ≤ 1073741824)) && !hv && decide (kl = 0)
  else if kd = 3 then !hc && (e && nameB field && decide (0 ≤ num) && decide (num ≤ 1073741824)) && v && decide (kl = 0)
  else if kd = 4 then !hc && (!he && field.toList.isEmpty && decide (num = 0)) && !hv && decide (kl = 2)
  else if kd = 5 then c && (!he && field.toList.isEmpty && decide (num = 0)) && !hv && decide (kl = 2)
  else false
def okA (m n : Nat) : (k : Nat) → AT m n k → Bool
  | 0, _ => false
  | k + 1, x => aShape (ANode.kind x) (ANode.num x) (ANode.field x) (ANode.kids x).length (okC m n (ANode.c x)) (hasC m n (ANode.c x)) (okE m (ANode.e x)) (hasE m (ANode.e x)) (okE m (ANode.v x)) (hasE m (ANode.v x)) && (ANode.kids x).all (okA m n k)

theorem coefS_le {k : Int} (h : coefS k = true) : -1073741824 ≤ k ∧ k ≤ 1073741824 := by unfold coefS at h; simpa using h
end Go.Proofs.YtpmndblakmobdaaGreatDoor
/- ShB -/
namespace Go.Proofs.YtpmndblakmobdaaGreatDoor
open Go Go.RowKit

theorem vmem_of {α : Type} {V : ElV α} {k : Nat} (hk : V.sz = k) {R : Nat → Prop} {w : World} {A : Option Addr} {l : List α} {cap : Nat} (h : Sl V.mem k R w A l cap) (i : Nat) (hi : i < l.length) :
    ∃ b o cs, A = some ⟨b, o, none⟩ ∧ cs.length = k ∧ V R w cs l[i] ∧ ∀ j u, cs[j]? = some u → w.cell? ⟨b, o + i * k + j, none⟩ = some u := by
  subst hk
  exact vmem_at h i hi

theorem list_expr0 (cs : List Value) (h : cs.length = 4) : ∃ v0 v1 v2 v3, cs = [v0, v1, v2, v3] := by
  match cs, h with
  | [v0, v1, v2, v3], _ => exact ⟨v0, v1, v2, v3, rfl⟩
set_option maxHeartbeats 1000000 in
theorem indexFunc_expr0 {α : Type} {V : ElV α} (hk : V.sz = 4) (g : V.Good) {R : Nat → Prop} {w : World} {A : Option Addr} {l : List α} {cap : Nat} (hl : Sl V.mem 4 R w A l cap) (fv : FuncId) (hf : Entered fv) (p : α → Bool)
    (hp : ∀ w', Chg No w w' → ∀ i (h : i < l.length) cs, V R w' cs l[i] → Calls Tryz.prog fv #[.agg cs.toArray] w' fun e w'' => e = .returned (.bool (p l[i])) ∧ Chg No w' w'') :
    Calls Tryz.prog 118 #[.slice A l.length cap, .func (.func fv) #[] #[]] w fun e w' => e = .returned (.int .i64 (findI p l)) ∧ Chg No w w' := by
  have hb := hl.big
  unfold big at hb
  have Hp := Lib.hid hp
  have HL := Lib.hid (fun W (h : Chg No w W) => hl.no g.mem h)
  clear hp hl
  unfold Entered at hf
  go_enter Tryz.func118, Tryz.ntmps118
  go_wp2
  go_loopw [8] (fun i wr => ∃ k : Nat, k ≤ l.length ∧ i = .int .i64 k ∧ Hid (Chg No w wr) ∧ Hid (∀ j (h : j < l.length), j < k → p l[j] = false)) (fun i _ => l.length - (intOf i).toNat)
  case atStart => exact ⟨0, Nat.zero_le _, rfl, Chg.refl _ _, fun j h hk => absurd hk (by omega)⟩
  case round =>
    obtain ⟨kk, hkk, rfl, hch, hall⟩ := hrel
    by_cases hlt : kk < l.length
    · obtain ⟨b, o, cs, rfl, hlen, hv, hc⟩ := vmem_of hk (HL.out wr hch.out) kk hlt
      obtain ⟨v0, v1, v2, v3, rfl⟩ := list_expr0 cs hlen
      have x0 : wr.cell? ⟨b, o + kk * 4, none⟩ = some v0 := hc 0 _ rfl
      have x1 : wr.cell? ⟨b, o + kk * 4 + 1, none⟩ = some v1 := hc 1 _ rfl
      have x2 : wr.cell? ⟨b, o + kk * 4 + 2, none⟩ = some v2 := hc 2 _ rfl
      have x3 : wr.cell? ⟨b, o + kk * 4 + 3, none⟩ = some v3 := hc 3 _ rfl
      clear hc hlen
      have i0 : (0 : Int) ≤ (kk : Int) := by omega
      have i1 : (kk : Int) < (l.length : Int) := by omega
      have HP := Lib.hid (Hp.out wr hch.out kk hlt _ hv)
      have Hhit : Hid (p l[kk] = true → findI p l = kk) := fun h => findI_hit hlt h hall.out
      have Hmiss : Hid (p l[kk] = false → ∀ j (h : j < l.length), j < kk + 1 → p l[j] = false) := fun hpk j h hj => by
        rcases Nat.lt_or_ge j kk with g | g
        · exact hall.out j h g
        · obtain rfl : j = kk := by omega
          exact hpk
      clear hv
      generalize p l[kk] = pk at *
      cases pk with
      | true =>
        have HE := Lib.hid (Hhit.out rfl)
        clear Hmiss Hhit
        go_wp2_with (refine HP.out.mono ?_; rintro e w1 ⟨rfl, h1⟩)
        go_ret
        exact ⟨ret_int HE.out.symm, hch.out.thenNo h1⟩
      | false =>
        have HM := Lib.hid (Hmiss.out rfl)
        clear Hmiss Hhit
        go_wp2_with (refine HP.out.mono ?_; rintro e w1 ⟨rfl, h1⟩)
        go_roundw
        case rel => exact ⟨kk + 1, hlt, by go_num, hch.out.thenNo h1, HM.out⟩
        case measure => simp [intOf]; omega
    · go_wp2
      go_ret
      exact ⟨ret_int (findI_miss (fun j h => hall.out j h (by omega))).symm, hch.out⟩
theorem containsFunc_expr0 {α : Type} {V : ElV α} (hk : V.sz = 4) (g : V.Good) {R : Nat → Prop} {w : World} {A : Option Addr} {l : List α} {cap : Nat} (hl : Sl V.mem 4 R w A l cap) (fv : FuncId) (hf : Entered fv) (p : α → Bool)
    (hp : ∀ w', Chg No w w' → ∀ i (h : i < l.length) cs, V R w' cs l[i] → Calls Tryz.prog fv #[.agg cs.toArray] w' fun e w'' => e = .returned (.bool (p l[i])) ∧ Chg No w' w'') :
    Calls Tryz.prog 104 #[.slice A l.length cap, .func (.func fv) #[] #[]] w fun e w' => e = .returned (.bool (l.any p)) ∧ Chg No w w' := by
  have H := Lib.hid (indexFunc_expr0 hk g hl fv hf p hp)
  clear hp hl
  go_enter Tryz.func104, Tryz.ntmps104
  go_wp2_with (refine H.out.mono ?_; rintro e w1 ⟨rfl, h1⟩)
  go_ret
  exact ⟨ret_bool (findI_ge p l), h1⟩

theorem list_expr1 (cs : List Value) (h : cs.length = 4) : ∃ v0 v1 v2 v3, cs = [v0, v1, v2, v3] := by
  match cs, h with
  | [v0, v1, v2, v3], _ => exact ⟨v0, v1, v2, v3, rfl⟩
set_option maxHeartbeats 1000000 in
theorem indexFunc_expr1 {α : Type} {V : ElV α} (hk : V.sz = 4) (g : V.Good) {R : Nat → Prop} {w : World} {A : Option Addr} {l : List α} {cap : Nat} (hl : Sl V.mem 4 R w A l cap) (fv : FuncId) (hf : Entered fv) (c : Value) (p : α → Bool)
    (hp : ∀ w', Chg No w w' → ∀ i (h : i < l.length) cs, V R w' cs l[i] → Calls Tryz.prog fv #[.agg cs.toArray, c] w' fun e w'' => e = .returned (.bool (p l[i])) ∧ Chg No w' w'') :
    Calls Tryz.prog 118 #[.slice A l.length cap, .func (.func fv) #[] #[c]] w fun e w' => e = .returned (.int .i64 (findI p l)) ∧ Chg No w w' := by
  have hb := hl.big
  unfold big at hb
  have Hp := Lib.hid hp
  have HL := Lib.hid (fun W (h : Chg No w W) => hl.no g.mem h)
  clear hp hl
  unfold Entered at hf
  go_enter Tryz.func118, Tryz.ntmps118
  go_wp2
  go_loopw [8] (fun i wr => ∃ k : Nat, k ≤ l.length ∧ i = .int .i64 k ∧ Hid (Chg No w wr) ∧ Hid (∀ j (h : j < l.length), j < k → p l[j] = false)) (fun i _ => l.length - (intOf i).toNat)
  case atStart => exact ⟨0, Nat.zero_le _, rfl, Chg.refl _ _, fun j h hk => absurd hk (by omega)⟩
  case round =>
    obtain ⟨kk, hkk, rfl, hch, hall⟩ := hrel
    by_cases hlt : kk < l.length
    · obtain ⟨b, o, cs, rfl, hlen, hv, hc⟩ := vmem_of hk (HL.out wr hch.out) kk hlt
      obtain ⟨v0, v1, v2, v3, rfl⟩ := list_expr1 cs hlen
      have x0 : wr.cell? ⟨b, o + kk * 4, none⟩ = some v0 := hc 0 _ rfl
      have x1 : wr.cell? ⟨b, o + kk * 4 + 1, none⟩ = some v1 := hc 1 _ rfl
      have x2 : wr.cell? ⟨b, o + kk * 4 + 2, none⟩ = some v2 := hc 2 _ rfl
      have x3 : wr.cell? ⟨b, o + kk * 4 + 3, none⟩ = some v3 := hc 3 _ rfl
      clear hc hlen
      have i0 : (0 : Int) ≤ (kk : Int) := by omega
      have i1 : (kk : Int) < (l.length : Int) := by omega
      have HP := Lib.hid (Hp.out wr hch.out kk hlt _ hv)
      have Hhit : Hid (p l[kk] = true → findI p l = kk) := fun h => findI_hit hlt h hall.out
      have Hmiss : Hid (p l[kk] = false → ∀ j (h : j < l.length), j < kk + 1 → p l[j] = false) := fun hpk j h hj => by
        rcases Nat.lt_or_ge j kk with g | g
        · exact hall.out j h g
        · obtain rfl : j = kk := by omega
          exact hpk
      clear hv
      generalize p l[kk] = pk at *
      cases pk with
      | true =>
        have HE := Lib.hid (Hhit.out rfl)
        clear Hmiss Hhit
        go_wp2_with (refine HP.out.mono ?_; rintro e w1 ⟨rfl, h1⟩)
        go_ret
        exact ⟨ret_int HE.out.symm, hch.out.thenNo h1⟩
      | false =>
        have HM := Lib.hid (Hmiss.out rfl)
        clear Hmiss Hhit
        go_wp2_with (refine HP.out.mono ?_; rintro e w1 ⟨rfl, h1⟩)
        go_roundw
        case rel => exact ⟨kk + 1, hlt, by go_num, hch.out.thenNo h1, HM.out⟩
        case measure => simp [intOf]; omega
    · go_wp2
      go_ret
      exact ⟨ret_int (findI_miss (fun j h => hall.out j h (by omega))).symm, hch.out⟩
theorem containsFunc_expr1 {α : Type} {V : ElV α} (hk : V.sz = 4) (g : V.Good) {R : Nat → Prop} {w : World} {A : Option Addr} {l : List α} {cap : Nat} (hl : Sl V.mem 4 R w A l cap) (fv : FuncId) (hf : Entered fv) (c : Value) (p : α → Bool)
    (hp : ∀ w', Chg No w w' → ∀ i (h : i < l.length) cs, V R w' cs l[i] → Calls Tryz.prog fv #[.agg cs.toArray, c] w' fun e w'' => e = .returned (.bool (p l[i])) ∧ Chg No w' w'') :
    Calls Tryz.prog 104 #[.slice A l.length cap, .func (.func fv) #[] #[c]] w fun e w' => e = .returned (.bool (l.any p)) ∧ Chg No w w' := by
  have H := Lib.hid (indexFunc_expr1 hk g hl fv hf c p hp)
  clear hp hl
  go_enter Tryz.func104, Tryz.ntmps104
  go_wp2_with (refine H.out.mono ?_; rintro e w1 ⟨rfl, h1⟩)
  go_ret
  exact ⟨ret_bool (findI_ge p l), h1⟩

theorem list_cond0 (cs : List Value) (h : cs.length = 3) : ∃ v0 v1 v2, cs = [v0, v1, v2] := by
  match cs, h with
  | [v0, v1, v2], _ => exact ⟨v0, v1, v2, rfl⟩
set_option maxHeartbeats 1000000 in
theorem indexFunc_cond0 {α : Type} {V : ElV α} (hk : V.sz = 3) (g : V.Good) {R : Nat → Prop} {w : World} {A : Option Addr} {l : List α} {cap : Nat} (hl : Sl V.mem 3 R w A l cap) (fv : FuncId) (hf : Entered fv) (p : α → Bool)
    (hp : ∀ w', Chg No w w' → ∀ i (h : i < l.length) cs, V R w' cs l[i] → Calls Tryz.prog fv #[.agg cs.toArray] w' fun e w'' => e = .returned (.bool (p l[i])) ∧ Chg No w' w'') :
    Calls Tryz.prog 117 #[.slice A l.length cap, .func (.func fv) #[] #[]] w fun e w' => e = .returned (.int .i64 (findI p l)) ∧ Chg No w w' := by
  have hb := hl.big
  unfold big at hb
  have Hp := Lib.hid hp
  have HL := Lib.hid (fun W (h : Chg No w W) => hl.no g.mem h)
  clear hp hl
  unfold Entered at hf
  go_enter Tryz.func117, Tryz.ntmps117
  go_wp2
  go_loopw [8] (fun i wr => ∃ k : Nat, k ≤ l.length ∧ i = .int .i64 k ∧ Hid (Chg No w wr) ∧ Hid (∀ j (h : j < l.length), j < k → p l[j] = false)) (fun i _ => l.length - (intOf i).toNat)
  case atStart => exact ⟨0, Nat.zero_le _, rfl, Chg.refl _ _, fun j h hk => absurd hk (by omega)⟩
  case round =>
    obtain ⟨kk, hkk, rfl, hch, hall⟩ := hrel
    by_cases hlt : kk < l.length
    · obtain ⟨b, o, cs, rfl, hlen, hv, hc⟩ := vmem_of hk (HL.out wr hch.out) kk hlt
      obtain ⟨v0, v1, v2, rfl⟩ := list_cond0 cs hlen
      have x0 : wr.cell? ⟨b, o + kk * 3, none⟩ = some v0 := hc 0 _ rfl
      have x1 : wr.cell? ⟨b, o + kk * 3 + 1, none⟩ = some v1 := hc 1 _ rfl
      have x2 : wr.cell? ⟨b, o + kk * 3 + 2, none⟩ = some v2 := hc 2 _ rfl
      clear hc hlen
      have i0 : (0 : Int) ≤ (kk : Int) := by omega
      have i1 : (kk : Int) < (l.length : Int) := by omega
      have HP := Lib.hid (Hp.out wr hch.out kk hlt _ hv)
      have Hhit : Hid (p l[kk] = true → findI p l = kk) := fun h => findI_hit hlt h hall.out
      have Hmiss : Hid (p l[kk] = false → ∀ j (h : j < l.length), j < kk + 1 → p l[j] = false) := fun hpk j h hj => by
        rcases Nat.lt_or_ge j kk with g | g
        · exact hall.out j h g
        · obtain rfl : j = kk := by omega
          exact hpk
      clear hv
      generalize p l[kk] = pk at *
      cases pk with
      | true =>
        have HE := Lib.hid (Hhit.out rfl)
        clear Hmiss Hhit
        go_wp2_with (refine HP.out.mono ?_; rintro e w1 ⟨rfl, h1⟩)
        go_ret
        exact ⟨ret_int HE.out.symm, hch.out.thenNo h1⟩
      | false =>
        have HM := Lib.hid (Hmiss.out rfl)
        clear Hmiss Hhit
        go_wp2_with (refine HP.out.mono ?_; rintro e w1 ⟨rfl, h1⟩)
        go_roundw
        case rel => exact ⟨kk + 1, hlt, by go_num, hch.out.thenNo h1, HM.out⟩
        case measure => simp [intOf]; omega
    · go_wp2
      go_ret
      exact ⟨ret_int (findI_miss (fun j h => hall.out j h (by omega))).symm, hch.out⟩
theorem containsFunc_cond0 {α : Type} {V : ElV α} (hk : V.sz = 3) (g : V.Good) {R : Nat → Prop} {w : World} {A : Option Addr} {l : List α} {cap : Nat} (hl : Sl V.mem 3 R w A l cap) (fv : FuncId) (hf : Entered fv) (p : α → Bool)
    (hp : ∀ w', Chg No w w' → ∀ i (h : i < l.length) cs, V R w' cs l[i] → Calls Tryz.prog fv #[.agg cs.toArray] w' fun e w'' => e = .returned (.bool (p l[i])) ∧ Chg No w' w'') :
    Calls Tryz.prog 102 #[.slice A l.length cap, .func (.func fv) #[] #[]] w fun e w' => e = .returned (.bool (l.any p)) ∧ Chg No w w' := by
  have H := Lib.hid (indexFunc_cond0 hk g hl fv hf p hp)
  clear hp hl
  go_enter Tryz.func102, Tryz.ntmps102
  go_wp2_with (refine H.out.mono ?_; rintro e w1 ⟨rfl, h1⟩)
  go_ret
  exact ⟨ret_bool (findI_ge p l), h1⟩

theorem list_cond1 (cs : List Value) (h : cs.length = 3) : ∃ v0 v1 v2, cs = [v0, v1, v2] := by
  match cs, h with
  | [v0, v1, v2], _ => exact ⟨v0, v1, v2, rfl⟩
set_option maxHeartbeats 1000000 in
theorem indexFunc_cond1 {α : Type} {V : ElV α} (hk : V.sz = 3) (g : V.Good) {R : Nat → Prop} {w : World} {A : Option Addr} {l : List α} {cap : Nat} (hl : Sl V.mem 3 R w A l cap) (fv : FuncId) (hf : Entered fv) (c : Value) (p : α → Bool)
    (hp : ∀ w', Chg No w w' → ∀ i (h : i < l.length) cs, V R w' cs l[i] → Calls Tryz.prog fv #[.agg cs.toArray, c] w' fun e w'' => e = .returned (.bool (p l[i])) ∧ Chg No w' w'') :
    Calls Tryz.prog 117 #[.slice A l.length cap, .func (.func fv) #[] #[c]] w fun e w' => e = .returned (.int .i64 (findI p l)) ∧ Chg No w w' := by
  have hb := hl.big
  unfold big at hb
  have Hp := Lib.hid hp
  have HL := Lib.hid (fun W (h : Chg No w W) => hl.no g.mem h)
  clear hp hl
  unfold Entered at hf
  go_enter Tryz.func117, Tryz.ntmps117
  go_wp2
  go_loopw [8] (fun i wr => ∃ k : Nat, k ≤ l.length ∧ i = .int .i64 k ∧ Hid (Chg No w wr) ∧ Hid (∀ j (h : j < l.length), j < k → p l[j] = false)) (fun i _ => l.length - (intOf i).toNat)
  case atStart => exact ⟨0, Nat.zero_le _, rfl, Chg.refl _ _, fun j h hk => absurd hk (by omega)⟩
  case round =>
    obtain ⟨kk, hkk, rfl, hch, hall⟩ := hrel
    by_cases hlt : kk < l.length
    · obtain ⟨b, o, cs, rfl, hlen, hv, hc⟩ := vmem_of hk (HL.out wr hch.out) kk hlt
      obtain ⟨v0, v1, v2, rfl⟩ := list_cond1 cs hlen
      have x0 : wr.cell? ⟨b, o + kk * 3, none⟩ = some v0 := hc 0 _ rfl
      have x1 : wr.cell? ⟨b, o + kk * 3 + 1, none⟩ = some v1 := hc 1 _ rfl
      have x2 : wr.cell? ⟨b, o + kk * 3 + 2, none⟩ = some v2 := hc 2 _ rfl
      clear hc hlen
      have i0 : (0 : Int) ≤ (kk : Int) := by omega
      have i1 : (kk : Int) < (l.length : Int) := by omega
      have HP := Lib.hid (Hp.out wr hch.out kk hlt _ hv)
      have Hhit : Hid (p l[kk] = true → findI p l = kk) := fun h => findI_hit hlt h hall.out
      have Hmiss : Hid (p l[kk] = false → ∀ j (h : j < l.length), j < kk + 1 → p l[j] = false) := fun hpk j h hj => by
        rcases Nat.lt_or_ge j kk with g | g
        · exact hall.out j h g
        · obtain rfl : j = kk := by omega
          exact hpk
      clear hv
      generalize p l[kk] = pk at *
      cases pk with
      | true =>
        have HE := Lib.hid (Hhit.out rfl)
        clear Hmiss Hhit
        go_wp2_with (refine HP.out.mono ?_; rintro e w1 ⟨rfl, h1⟩)
        go_ret
        exact ⟨ret_int HE.out.symm, hch.out.thenNo h1⟩
      | false =>
        have HM := Lib.hid (Hmiss.out rfl)
        clear Hmiss Hhit
        go_wp2_with (refine HP.out.mono ?_; rintro e w1 ⟨rfl, h1⟩)
        go_roundw
        case rel => exact ⟨kk + 1, hlt, by go_num, hch.out.thenNo h1, HM.out⟩
        case measure => simp [intOf]; omega
    · go_wp2
      go_ret
      exact ⟨ret_int (findI_miss (fun j h => hall.out j h (by omega))).symm, hch.out⟩
theorem containsFunc_cond1 {α : Type} {V : ElV α} (hk : V.sz = 3) (g : V.Good) {R : Nat → Prop} {w : World} {A : Option Addr} {l : List α} {cap : Nat} (hl : Sl V.mem 3 R w A l cap) (fv : FuncId) (hf : Entered fv) (c : Value) (p : α → Bool)
    (hp : ∀ w', Chg No w w' → ∀ i (h : i < l.length) cs, V R w' cs l[i] → Calls Tryz.prog fv #[.agg cs.toArray, c] w' fun e w'' => e = .returned (.bool (p l[i])) ∧ Chg No w' w'') :
    Calls Tryz.prog 102 #[.slice A l.length cap, .func (.func fv) #[] #[c]] w fun e w' => e = .returned (.bool (l.any p)) ∧ Chg No w w' := by
  have H := Lib.hid (indexFunc_cond1 hk g hl fv hf c p hp)
  clear hp hl
  go_enter Tryz.func102, Tryz.ntmps102
  go_wp2_with (refine H.out.mono ?_; rintro e w1 ⟨rfl, h1⟩)
  go_ret
  exact ⟨ret_bool (findI_ge p l), h1⟩

theorem list_assn0 (cs : List Value) (h : cs.length = 15) : ∃ v0 v1 v2 v3 v4 v5 v6 v7 v8 v9 v10 v11 v12 v13 v14, cs = [v0, v1, v2, v3, v4, v5, v6, v7, v8, v9, v10, v11, v12, v13, v14] := by
  match cs, h with
  | [v0, v1, v2, v3, v4, v5, v6, v7, v8, v9, v10, v11, v12, v13, v14], _ => exact ⟨v0, v1, v2, v3, v4, v5, v6, v7, v8, v9, v10, v11, v12, v13, v14, rfl⟩
set_option maxHeartbeats 1000000 in
theorem indexFunc_assn0 {α : Type} {V : ElV α} (hk : V.sz = 15) (g : V.Good) {R : Nat → Prop} {w : World} {A : Option Addr} {l : List α} {cap : Nat} (hl : Sl V.mem 15 R w A l cap) (fv : FuncId) (hf : Entered fv) (p : α → Bool)
    (hp : ∀ w', Chg No w w' → ∀ i (h : i < l.length) cs, V R w' cs l[i] → Calls Tryz.prog fv #[.agg cs.toArray] w' fun e w'' => e = .returned (.bool (p l[i])) ∧ Chg No w' w'') :
    Calls Tryz.prog 106 #[.slice A l.length cap, .func (.func fv) #[] #[]] w fun e w' => e = .returned (.int .i64 (findI p l)) ∧ Chg No w w' := by
  have hb := hl.big
  unfold big at hb
  have Hp := Lib.hid hp
  have HL := Lib.hid (fun W (h : Chg No w W) => hl.no g.mem h)
  clear hp hl
  unfold Entered at hf
  go_enter Tryz.func106, Tryz.ntmps106
  go_wp2
  go_loopw [8] (fun i wr => ∃ k : Nat, k ≤ l.length ∧ i = .int .i64 k ∧ Hid (Chg No w wr) ∧ Hid (∀ j (h : j < l.length), j < k → p l[j] = false)) (fun i _ => l.length - (intOf i).toNat)
  case atStart => exact ⟨0, Nat.zero_le _, rfl, Chg.refl _ _, fun j h hk => absurd hk (by omega)⟩
  case round =>
    obtain ⟨kk, hkk, rfl, hch, hall⟩ := hrel
    by_cases hlt : kk < l.length
    · obtain ⟨b, o, cs, rfl, hlen, hv, hc⟩ := vmem_of hk (HL.out wr hch.out) kk hlt
      obtain ⟨v0, v1, v2, v3, v4, v5, v6, v7, v8, v9, v10, v11, v12, v13, v14, rfl⟩ := list_assn0 cs hlen
      have x0 : wr.cell? ⟨b, o + kk * 15, none⟩ = some v0 := hc 0 _ rfl
      have x1 : wr.cell? ⟨b, o + kk * 15 + 1, none⟩ = some v1 := hc 1 _ rfl
      have x2 : wr.cell? ⟨b, o + kk * 15 + 2, none⟩ = some v2 := hc 2 _ rfl
      have x3 : wr.cell? ⟨b, o + kk * 15 + 3, none⟩ = some v3 := hc 3 _ rfl
      have x4 : wr.cell? ⟨b, o + kk * 15 + 4, none⟩ = some v4 := hc 4 _ rfl
      have x5 : wr.cell? ⟨b, o + kk * 15 + 5, none⟩ = some v5 := hc 5 _ rfl
      have x6 : wr.cell? ⟨b, o + kk * 15 + 6, none⟩ = some v6 := hc 6 _ rfl
      have x7 : wr.cell? ⟨b, o + kk * 15 + 7, none⟩ = some v7 := hc 7 _ rfl
      have x8 : wr.cell? ⟨b, o + kk * 15 + 8, none⟩ = some v8 := hc 8 _ rfl
      have x9 : wr.cell? ⟨b, o + kk * 15 + 9, none⟩ = some v9 := hc 9 _ rfl
      have x10 : wr.cell? ⟨b, o + kk * 15 + 10, none⟩ = some v10 := hc 10 _ rfl
      have x11 : wr.cell? ⟨b, o + kk * 15 + 11, none⟩ = some v11 := hc 11 _ rfl
      have x12 : wr.cell? ⟨b, o + kk * 15 + 12, none⟩ = some v12 := hc 12 _ rfl
      have x13 : wr.cell? ⟨b, o + kk * 15 + 13, none⟩ = some v13 := hc 13 _ rfl
      have x14 : wr.cell? ⟨b, o + kk * 15 + 14, none⟩ = some v14 := hc 14 _ rfl
      clear hc hlen
      have i0 : (0 : Int) ≤ (kk : Int) := by omega
      have i1 : (kk : Int) < (l.length : Int) := by omega
      have HP := Lib.hid (Hp.out wr hch.out kk hlt _ hv)
      have Hhit : Hid (p l[kk] = true → findI p l = kk) := fun h => findI_hit hlt h hall.out
      have Hmiss : Hid (p l[kk] = false → ∀ j (h : j < l.length), j < kk + 1 → p l[j] = false) := fun hpk j h hj => by
        rcases Nat.lt_or_ge j kk with g | g
        · exact hall.out j h g
        · obtain rfl : j = kk := by omega
          exact hpk
      clear hv
      generalize p l[kk] = pk at *
      cases pk with
      | true =>
        have HE := Lib.hid (Hhit.out rfl)
        clear Hmiss Hhit
        go_wp2_with (refine HP.out.mono ?_; rintro e w1 ⟨rfl, h1⟩)
        go_ret
        exact ⟨ret_int HE.out.symm, hch.out.thenNo h1⟩
      | false =>
        have HM := Lib.hid (Hmiss.out rfl)
        clear Hmiss Hhit
        go_wp2_with (refine HP.out.mono ?_; rintro e w1 ⟨rfl, h1⟩)
        go_roundw
        case rel => exact ⟨kk + 1, hlt, by go_num, hch.out.thenNo h1, HM.out⟩
        case measure => simp [intOf]; omega
    · go_wp2
      go_ret
      exact ⟨ret_int (findI_miss (fun j h => hall.out j h (by omega))).symm, hch.out⟩
theorem containsFunc_assn0 {α : Type} {V : ElV α} (hk : V.sz = 15) (g : V.Good) {R : Nat → Prop} {w : World} {A : Option Addr} {l : List α} {cap : Nat} (hl : Sl V.mem 15 R w A l cap) (fv : FuncId) (hf : Entered fv) (p : α → Bool)
    (hp : ∀ w', Chg No w w' → ∀ i (h : i < l.length) cs, V R w' cs l[i] → Calls Tryz.prog fv #[.agg cs.toArray] w' fun e w'' => e = .returned (.bool (p l[i])) ∧ Chg No w' w'') :
    Calls Tryz.prog 84 #[.slice A l.length cap, .func (.func fv) #[] #[]] w fun e w' => e = .returned (.bool (l.any p)) ∧ Chg No w w' := by
  have H := Lib.hid (indexFunc_assn0 hk g hl fv hf p hp)
  clear hp hl
  go_enter Tryz.func84, Tryz.ntmps84
  go_wp2_with (refine H.out.mono ?_; rintro e w1 ⟨rfl, h1⟩)
  go_ret
  exact ⟨ret_bool (findI_ge p l), h1⟩

theorem list_assn1 (cs : List Value) (h : cs.length = 15) : ∃ v0 v1 v2 v3 v4 v5 v6 v7 v8 v9 v10 v11 v12 v13 v14, cs = [v0, v1, v2, v3, v4, v5, v6, v7, v8, v9, v10, v11, v12, v13, v14] := by
  match cs, h with
  | [v0, v1, v2, v3, v4, v5, v6, v7, v8, v9, v10, v11, v12, v13, v14], _ => exact ⟨v0, v1, v2, v3, v4, v5, v6, v7, v8, v9, v10, v11, v12, v13, v14, rfl⟩
set_option maxHeartbeats 1000000 in
theorem indexFunc_assn1 {α : Type} {V : ElV α} (hk : V.sz = 15) (g : V.Good) {R : Nat → Prop} {w : World} {A : Option Addr} {l : List α} {cap : Nat} (hl : Sl V.mem 15 R w A l cap) (fv : FuncId) (hf : Entered fv) (c : Value) (p : α → Bool)
    (hp : ∀ w', Chg No w w' → ∀ i (h : i < l.length) cs, V R w' cs l[i] → Calls Tryz.prog fv #[.agg cs.toArray, c] w' fun e w'' => e = .returned (.bool (p l[i])) ∧ Chg No w' w'') :
    Calls Tryz.prog 106 #[.slice A l.length cap, .func (.func fv) #[] #[c]] w fun e w' => e = .returned (.int .i64 (findI p l)) ∧ Chg No w w' := by
  have hb := hl.big
  unfold big at hb
  have Hp := Lib.hid hp
  have HL := Lib.hid (fun W (h : Chg No w W) => hl.no g.mem h)
  clear hp hl
  unfold Entered at hf
  go_enter Tryz.func106, Tryz.ntmps106
  go_wp2
  go_loopw [8] (fun i wr => ∃ k : Nat, k ≤ l.length ∧ i = .int .i64 k ∧ Hid (Chg No w wr) ∧ Hid (∀ j (h : j < l.length), j < k → p l[j] = false)) (fun i _ => l.length - (intOf i).toNat)
  case atStart => exact ⟨0, Nat.zero_le _, rfl, Chg.refl _ _, fun j h hk => absurd hk (by omega)⟩
  case round =>
    obtain ⟨kk, hkk, rfl, hch, hall⟩ := hrel
    by_cases hlt : kk < l.length
    · obtain ⟨b, o, cs, rfl, hlen, hv, hc⟩ := vmem_of hk (HL.out wr hch.out) kk hlt
      obtain ⟨v0, v1, v2, v3, v4, v5, v6, v7, v8, v9, v10, v11, v12, v13, v14, rfl⟩ := list_assn1 cs hlen
      have x0 : wr.cell? ⟨b, o + kk * 15, none⟩ = some v0 := hc 0 _ rfl
      have x1 : wr.cell? ⟨b, o + kk * 15 + 1, none⟩ = some v1 := hc 1 _ rfl
      have x2 : wr.cell? ⟨b, o + kk * 15 + 2, none⟩ = some v2 := hc 2 _ rfl
      have x3 : wr.cell? ⟨b, o + kk * 15 + 3, none⟩ = some v3 := hc 3 _ rfl
      have x4 : wr.cell? ⟨b, o + kk * 15 + 4, none⟩ = some v4 := hc 4 _ rfl
      have x5 : wr.cell? ⟨b, o + kk * 15 + 5, none⟩ = some v5 := hc 5 _ rfl
      have x6 : wr.cell? ⟨b, o + kk * 15 + 6, none⟩ = some v6 := hc 6 _ rfl
      have x7 : wr.cell? ⟨b, o + kk * 15 + 7, none⟩ = some v7 := hc 7 _ rfl
      have x8 : wr.cell? ⟨b, o + kk * 15 + 8, none⟩ = some v8 := hc 8 _ rfl
      have x9 : wr.cell? ⟨b, o + kk * 15 + 9, none⟩ = some v9 := hc 9 _ rfl
      have x10 : wr.cell? ⟨b, o + kk * 15 + 10, none⟩ = some v10 := hc 10 _ rfl
      have x11 : wr.cell? ⟨b, o + kk * 15 + 11, none⟩ = some v11 := hc 11 _ rfl
      have x12 : wr.cell? ⟨b, o + kk * 15 + 12, none⟩ = some v12 := hc 12 _ rfl
      have x13 : wr.cell? ⟨b, o + kk * 15 + 13, none⟩ = some v13 := hc 13 _ rfl
      have x14 : wr.cell? ⟨b, o + kk * 15 + 14, none⟩ = some v14 := hc 14 _ rfl
      clear hc hlen
      have i0 : (0 : Int) ≤ (kk : Int) := by omega
      have i1 : (kk : Int) < (l.length : Int) := by omega
      have HP := Lib.hid (Hp.out wr hch.out kk hlt _ hv)
      have Hhit : Hid (p l[kk] = true → findI p l = kk) := fun h => findI_hit hlt h hall.out
      have Hmiss : Hid (p l[kk] = false → ∀ j (h : j < l.length), j < kk + 1 → p l[j] = false) := fun hpk j h hj => by
        rcases Nat.lt_or_ge j kk with g | g
        · exact hall.out j h g
        · obtain rfl : j = kk := by omega
          exact hpk
      clear hv
      generalize p l[kk] = pk at *
      cases pk with
      | true =>
        have HE := Lib.hid (Hhit.out rfl)
        clear Hmiss Hhit
        go_wp2_with (refine HP.out.mono ?_; rintro e w1 ⟨rfl, h1⟩)
        go_ret
        exact ⟨ret_int HE.out.symm, hch.out.thenNo h1⟩
      | false =>
        have HM := Lib.hid (Hmiss.out rfl)
        clear Hmiss Hhit
        go_wp2_with (refine HP.out.mono ?_; rintro e w1 ⟨rfl, h1⟩)
        go_roundw
        case rel => exact ⟨kk + 1, hlt, by go_num, hch.out.thenNo h1, HM.out⟩
        case measure => simp [intOf]; omega
    · go_wp2
      go_ret
      exact ⟨ret_int (findI_miss (fun j h => hall.out j h (by omega))).symm, hch.out⟩
theorem containsFunc_assn1 {α : Type} {V : ElV α} (hk : V.sz = 15) (g : V.Good) {R : Nat → Prop} {w : World} {A : Option Addr} {l : List α} {cap : Nat} (hl : Sl V.mem 15 R w A l cap) (fv : FuncId) (hf : Entered fv) (c : Value) (p : α → Bool)
    (hp : ∀ w', Chg No w w' → ∀ i (h : i < l.length) cs, V R w' cs l[i] → Calls Tryz.prog fv #[.agg cs.toArray, c] w' fun e w'' => e = .returned (.bool (p l[i])) ∧ Chg No w' w'') :
    Calls Tryz.prog 84 #[.slice A l.length cap, .func (.func fv) #[] #[c]] w fun e w' => e = .returned (.bool (l.any p)) ∧ Chg No w w' := by
  have H := Lib.hid (indexFunc_assn1 hk g hl fv hf c p hp)
  clear hp hl
  go_enter Tryz.func84, Tryz.ntmps84
  go_wp2_with (refine H.out.mono ?_; rintro e w1 ⟨rfl, h1⟩)
  go_ret
  exact ⟨ret_bool (findI_ge p l), h1⟩
end Go.Proofs.YtpmndblakmobdaaGreatDoor
/- ShC -/
namespace Go.Proofs.YtpmndblakmobdaaGreatDoor
open Go Go.RowKit

theorem obj_4 {w : World} {b : Nat} {x y z u : Value} {t : TypeId} (h : w.heap[b]? = some (.cells #[x, y, z, u] t (0, 0))) :
    w.cell? ⟨b, 0, none⟩ = some x ∧ w.cell? ⟨b, 1, none⟩ = some y ∧ w.cell? ⟨b, 2, none⟩ = some z ∧ w.cell? ⟨b, 3, none⟩ = some u := by
  simp [World.cell?, h]
theorem obj_3 {w : World} {b : Nat} {x y z : Value} {t : TypeId} (h : w.heap[b]? = some (.cells #[x, y, z] t (0, 0))) :
    w.cell? ⟨b, 0, none⟩ = some x ∧ w.cell? ⟨b, 1, none⟩ = some y ∧ w.cell? ⟨b, 2, none⟩ = some z := by
  simp [World.cell?, h]
theorem obj_1 {w : World} {b : Nat} {x : Value} {t : TypeId} (h : w.heap[b]? = some (.cells #[x] t (0, 0))) : w.cell? ⟨b, 0, none⟩ = some x := by
  simp [World.cell?, h]

set_option maxRecDepth 10000 in
theorem entered_deepE1 : Entered 105 := fun _ _ => rfl
set_option maxRecDepth 10000 in
theorem entered_deepEs1 : Entered 108 := fun _ _ => rfl
set_option maxRecDepth 10000 in
theorem entered_deepC1 : Entered 103 := fun _ _ => rfl
set_option maxRecDepth 10000 in
theorem entered_deepA1 : Entered 85 := fun _ _ => rfl

def DeepEOk (n : Nat) : Prop := ∀ (x : ET n) (R : Nat → Prop) (w : World) (cs : List Value), (exprV n) R w cs x → ∀ (b : Nat) (z : Int), z = b → b ≤ 1000 →
    Calls Tryz.prog 83 #[.agg cs.toArray, .int .i64 z] w fun e w' => e = .returned (.bool (deepE n x b)) ∧ Chg No w w'
set_option maxRecDepth 100000 in
set_option maxHeartbeats 2000000 in
theorem deepE_walk (n : Nat) (IH : Hid (DeepEOk n)) : DeepEOk (n + 1) := by
    rintro f R w cs h b _ rfl hb
    obtain ⟨B, capk, rfl, i1, i2, hm, hk⟩ := enode_cells h
    obtain ⟨w3, hw3⟩ : ∃ w3, w3 = (w.alloc (.cells #[.int .i64 (ENode.kind f), .int .i64 (ENode.num f), .string (ENode.name f), .slice B (ENode.kids f).length capk] 53)).alloc (.cells #[.int .i64 b] 3) := ⟨_, rfl⟩
    have h3 : Hid (Chg No w w3 ∧ w3.heap[w.heap.size]? = some (.cells #[.int .i64 (ENode.kind f), .int .i64 (ENode.num f), .string (ENode.name f), .slice B (ENode.kids f).length capk] 53 (0, 0)) ∧ w3.heap[w.heap.size + 1]? = some (.cells #[.int .i64 b] 3 (0, 0))) := by
      rw [hw3]; exact ⟨((Chg.refl _ _).alloc _).alloc _, at_old (heap_alloc_new _ _), at_new (by simp)⟩
    obtain ⟨p0, p1, p2, p3⟩ := obj_4 h3.out.2.1
    have q0 := obj_1 h3.out.2.2
    by_cases hb1 : 1 ≤ b
    · rw [deepE_step hb1]
      have hd : ¬ (b : Int) < 1 := by omega
      have HCF := Lib.hid (containsFunc_expr1 (exprV_sz n) (exprV_good n) (hk.no (exprE_good n) h3.out.1) 105 entered_deepE1 (.pointer (some ⟨w.heap.size + 1, 0, none⟩)) (fun k => deepE n k (b - 1)) (fun W hW i hi cs hcs => by
        have x0 : (W.alloc (.cells cs.toArray 53)).cell? ⟨w.heap.size + 1, 0, none⟩ = some (.int .i64 b) := ((Chg.refl No W).alloc _).cell (hW.cell q0 id) id
        have HI := Lib.hid (fun W' (hW' : Chg No W W') z hz => IH.out _ _ W' cs ((exprV_good n).no hcs hW') (b - 1) z hz (by omega))
        obtain ⟨k1, m1, s1, B1, kl1, capk1, rfl⟩ := expr_shape hcs
        generalize deepE n (ENode.kids f)[i] (b - 1) = dd at *
        clear hcs hk h
        go_enter Tryz.func105, Tryz.ntmps105
        go_wp2_with (go_at_call 83; refine (HI.out _ ((Chg.refl _ _).alloc _) _ (by omega)).mono ?_; rintro e w1 ⟨rfl, h1⟩)
        go_ret
        exact ⟨rfl, ((Chg.refl _ _).alloc _).thenNo h1⟩))
      generalize (ENode.kids f).any (fun k => deepE n k (b - 1)) = ans at *
      clear hk h
      go_enter Tryz.func83, Tryz.ntmps83
      go_upto_region 1 with fail
      rw [← hw3]
      clear hw3
      go_wp2_with (go_at_call 104; refine HCF.out.mono ?_; rintro e w1 ⟨rfl, h1⟩)
      go_ret
      exact ⟨rfl, h3.out.1.thenNo h1⟩
    · obtain rfl : b = 0 := by omega
      rw [show ((0 : Nat) : Int) = 0 from rfl] at hw3 q0
      rw [deepE_zero]
      clear hk h
      go_enter Tryz.func83, Tryz.ntmps83
      go_upto_region 1 with fail
      rw [← hw3]
      clear hw3
      go_wp2_with fail
      go_ret
      first | exact ⟨rfl, h3.out.1⟩ | exact ⟨rfl, ((Chg.refl _ _).alloc _).alloc _⟩
theorem deepE_any : ∀ n, DeepEOk n
  | 0 => fun _ _ _ _ h => h.elim
  | n + 1 => deepE_walk n (Lib.hid (deepE_any n))

set_option maxRecDepth 100000 in
set_option maxHeartbeats 2000000 in
theorem deepEs_any {n : Nat} {R : Nat → Prop} {w : World} {A : Option Addr} {l : List (ET n)} {cap : Nat} (hk : Exprs R w A l cap) (b : Nat) (z : Int) (hz : z = b) (hb : b ≤ 1000) :
    Calls Tryz.prog 88 #[.slice A l.length cap, .int .i64 z] w fun e w' => e = .returned (.bool (l.any (fun k => deepE n k b))) ∧ Chg No w w' := by
  subst hz
  have h3 : Hid (Chg No w (w.alloc (.cells #[.int .i64 b] 3))) := (Chg.refl _ _).alloc _
  have q0 : (w.alloc (.cells #[.int .i64 b] 3)).cell? ⟨w.heap.size, 0, none⟩ = some (.int .i64 b) := obj_1 (heap_alloc_new _ _)
  have HCF := Lib.hid (containsFunc_expr1 (exprV_sz n) (exprV_good n) (hk.no (exprE_good n) h3.out) 108 entered_deepEs1 (.pointer (some ⟨w.heap.size, 0, none⟩)) (fun k => deepE n k b) (fun W hW i hi cs hcs => by
    have x0 : (W.alloc (.cells cs.toArray 53)).cell? ⟨w.heap.size, 0, none⟩ = some (.int .i64 b) := ((Chg.refl No W).alloc _).cell (hW.cell q0 id) id
    have HI := Lib.hid (fun W' (hW' : Chg No W W') z hz => deepE_any n _ _ W' cs ((exprV_good n).no hcs hW') b z hz (by omega))
    obtain ⟨k1, m1, s1, B1, kl1, capk1, rfl⟩ := expr_shape hcs
    generalize deepE n l[i] b = dd at *
    clear hcs hk q0
    go_enter Tryz.func108, Tryz.ntmps108
    go_wp2_with (go_at_call 83; refine (HI.out _ ((Chg.refl _ _).alloc _) _ (by omega)).mono ?_; rintro e w1 ⟨rfl, h1⟩)
    go_ret
    exact ⟨rfl, ((Chg.refl _ _).alloc _).thenNo h1⟩))
  generalize l.any (fun k => deepE n k b) = ans at *
  clear hk
  go_enter Tryz.func88, Tryz.ntmps88
  go_wp2_with (go_at_call 104; refine HCF.out.mono ?_; rintro e w1 ⟨rfl, h1⟩)
  go_ret
  exact ⟨rfl, h3.out.thenNo h1⟩

def DeepCOk (m n : Nat) : Prop := ∀ (x : CT m n) (R : Nat → Prop) (w : World) (cs : List Value), (condV m n) R w cs x → ∀ (b : Nat) (z : Int), z = b → b ≤ 1000 →
    Calls Tryz.prog 82 #[.agg cs.toArray, .int .i64 z] w fun e w' => e = .returned (.bool (deepC m n x b)) ∧ Chg No w w'
set_option maxRecDepth 100000 in
set_option maxHeartbeats 2000000 in
theorem deepC_walk (m n : Nat) (IH : Hid (DeepCOk m n)) : DeepCOk m (n + 1) := by
    rintro f R w cs h b _ rfl hb
    obtain ⟨A, cape, B, capk, rfl, i1, he, hk⟩ := cnode_cells h
    obtain ⟨w3, hw3⟩ : ∃ w3, w3 = (w.alloc (.cells #[.int .i64 (CNode.kind f), .slice A (CNode.es f).length cape, .slice B (CNode.kids f).length capk] 56)).alloc (.cells #[.int .i64 b] 3) := ⟨_, rfl⟩
    have h3 : Hid (Chg No w w3 ∧ w3.heap[w.heap.size]? = some (.cells #[.int .i64 (CNode.kind f), .slice A (CNode.es f).length cape, .slice B (CNode.kids f).length capk] 56 (0, 0)) ∧ w3.heap[w.heap.size + 1]? = some (.cells #[.int .i64 b] 3 (0, 0))) := by
      rw [hw3]; exact ⟨((Chg.refl _ _).alloc _).alloc _, at_old (heap_alloc_new _ _), at_new (by simp)⟩
    obtain ⟨p0, p1, p2⟩ := obj_3 h3.out.2.1
    have q0 := obj_1 h3.out.2.2
    by_cases hb1 : 1 ≤ b
    · rw [deepC_step hb1]
      have hd : ¬ (b : Int) < 1 := by omega
      have HES := Lib.hid (fun z hz => deepEs_any (he.no (exprE_good m) h3.out.1) (b - 1) z hz (by omega))
      have HO := Lib.hid (fun W (hW : Chg No w3 W) => (⟨obj_3 (hW.obj h3.out.2.1 id), obj_1 (hW.obj h3.out.2.2 id)⟩ : _ ∧ _))
      have HCF := Lib.hid (fun W0 (hW0 : Chg No w3 W0) => containsFunc_cond1 (condV_sz m n) (condV_good m n) (hk.no (condE_good m n) (h3.out.1.thenNo hW0)) 103 entered_deepC1 (.pointer (some ⟨w.heap.size + 1, 0, none⟩)) (fun k => deepC m n k (b - 1)) (fun W hW i hi cs hcs => by
        have x0 : (W.alloc (.cells cs.toArray 56)).cell? ⟨w.heap.size + 1, 0, none⟩ = some (.int .i64 b) := ((Chg.refl No W).alloc _).cell (hW.cell (hW0.cell q0 id) id) id
        have HI := Lib.hid (fun W' (hW' : Chg No W W') z hz => IH.out _ _ W' cs ((condV_good m n).no hcs hW') (b - 1) z hz (by omega))
        obtain ⟨k1, A1, el1, cape1, B1, kl1, capk1, rfl⟩ := cond_shape hcs
        generalize deepC m n (CNode.kids f)[i] (b - 1) = dd at *
        clear hcs hk h he q0 p0 p1 p2
        go_enter Tryz.func103, Tryz.ntmps103
        go_wp2_with (go_at_call 82; refine (HI.out _ ((Chg.refl _ _).alloc _) _ (by omega)).mono ?_; rintro e w1 ⟨rfl, h1⟩)
        go_ret
        exact ⟨rfl, ((Chg.refl _ _).alloc _).thenNo h1⟩))
      generalize (CNode.es f).any (fun k => deepE m k (b - 1)) = a1 at *
      generalize (CNode.kids f).any (fun k => deepC m n k (b - 1)) = a2 at *
      clear hk h he
      cases a1
      · go_enter Tryz.func82, Tryz.ntmps82
        go_upto_region 1 with fail
        rw [← hw3]
        clear hw3
        go_wp2_with (first
          | (go_at_call 88; refine (HES.out _ (by omega)).mono ?_; rintro e w4 ⟨rfl, h4⟩; have H4 := Lib.hid h4; clear h4 p0 p1 p2 q0; obtain ⟨⟨p0, p1, p2⟩, q0⟩ := HO.out _ H4.out)
          | (go_at_call 102; refine (HCF.out _ H4.out).mono ?_; rintro e w1 ⟨rfl, h1⟩))
        go_ret
        exact ⟨by simp, h3.out.1.thenNo (H4.out.thenNo h1)⟩
      · go_enter Tryz.func82, Tryz.ntmps82
        go_upto_region 1 with fail
        rw [← hw3]
        clear hw3
        go_wp2_with (go_at_call 88; refine (HES.out _ (by omega)).mono ?_; rintro e w4 ⟨rfl, h4⟩)
        go_ret
        exact ⟨by simp, h3.out.1.thenNo h4⟩
    · obtain rfl : b = 0 := by omega
      rw [show ((0 : Nat) : Int) = 0 from rfl] at hw3 q0
      rw [deepC_zero]
      clear hk h he
      go_enter Tryz.func82, Tryz.ntmps82
      go_upto_region 1 with fail
      rw [← hw3]
      clear hw3
      go_wp2_with fail
      go_ret
      first | exact ⟨rfl, h3.out.1⟩ | exact ⟨rfl, ((Chg.refl _ _).alloc _).alloc _⟩
theorem deepC_any (m : Nat) : ∀ n, DeepCOk m n
  | 0 => fun _ _ _ _ h => h.elim
  | n + 1 => deepC_walk m n (Lib.hid (deepC_any m n))
end Go.Proofs.YtpmndblakmobdaaGreatDoor
/- ShD -/
namespace Go.Proofs.YtpmndblakmobdaaGreatDoor
open Go Go.RowKit

theorem obj_15 {w : World} {b : Nat} {u0 u1 u2 u3 u4 u5 u6 u7 u8 u9 u10 u11 u12 u13 u14 : Value} {t : TypeId} (h : w.heap[b]? = some (.cells #[u0, u1, u2, u3, u4, u5, u6, u7, u8, u9, u10, u11, u12, u13, u14] t (0, 0))) :
    w.cell? ⟨b, 0, none⟩ = some u0 ∧ w.cell? ⟨b, 1, none⟩ = some u1 ∧ w.cell? ⟨b, 2, none⟩ = some u2 ∧ w.cell? ⟨b, 3, none⟩ = some u3 ∧ w.cell? ⟨b, 4, none⟩ = some u4 ∧ w.cell? ⟨b, 5, none⟩ = some u5 ∧ w.cell? ⟨b, 6, none⟩ = some u6 ∧ w.cell? ⟨b, 7, none⟩ = some u7 ∧ w.cell? ⟨b, 8, none⟩ = some u8 ∧ w.cell? ⟨b, 9, none⟩ = some u9 ∧ w.cell? ⟨b, 10, none⟩ = some u10 ∧ w.cell? ⟨b, 11, none⟩ = some u11 ∧ w.cell? ⟨b, 12, none⟩ = some u12 ∧ w.cell? ⟨b, 13, none⟩ = some u13 ∧ w.cell? ⟨b, 14, none⟩ = some u14 := by
  simp [World.cell?, h]
def DeepAOk (m n k : Nat) : Prop := ∀ (x : AT m n k) (R : Nat → Prop) (w : World) (cs : List Value), (assnV m n k) R w cs x → ∀ (b : Nat) (z : Int), z = b → b ≤ 1000 →
    Calls Tryz.prog 69 #[.agg cs.toArray, .int .i64 z] w fun e w' => e = .returned (.bool (deepA m n k x b)) ∧ Chg No w w'
set_option maxRecDepth 100000 in
set_option maxHeartbeats 4000000 in
theorem deepA_walk (m n k : Nat) (IH : Hid (DeepAOk m n k)) : DeepAOk m n (k + 1) := by
    rintro f R w cs h b _ rfl hb
    obtain ⟨ck, cA, cel, cca, cB, ckl, cck, ek, en, es, eB, ekl, eck, vk, vn, vs, vB, vkl, vck, B, capk, rfl, i1, hc, he, hv, _, _, hk⟩ := anode_cells h
    obtain ⟨w3, hw3⟩ : ∃ w3, w3 = (w.alloc (.cells #[.int .i64 (ANode.kind f), .int .i64 ck, .slice cA cel cca, .slice cB ckl cck, .int .i64 ek, .int .i64 en, .string es, .slice eB ekl eck, .int .i64 vk, .int .i64 vn, .string vs, .slice vB vkl vck, .string (ANode.field f), .int .i64 (ANode.num f), .slice B (ANode.kids f).length capk] 92)).alloc (.cells #[.int .i64 b] 3) := ⟨_, rfl⟩
    have h3 : Hid (Chg No w w3 ∧ w3.heap[w.heap.size]? = some (.cells #[.int .i64 (ANode.kind f), .int .i64 ck, .slice cA cel cca, .slice cB ckl cck, .int .i64 ek, .int .i64 en, .string es, .slice eB ekl eck, .int .i64 vk, .int .i64 vn, .string vs, .slice vB vkl vck, .string (ANode.field f), .int .i64 (ANode.num f), .slice B (ANode.kids f).length capk] 92 (0, 0)) ∧ w3.heap[w.heap.size + 1]? = some (.cells #[.int .i64 b] 3 (0, 0))) := by
      rw [hw3]; exact ⟨((Chg.refl _ _).alloc _).alloc _, at_old (heap_alloc_new _ _), at_new (by simp)⟩
    obtain ⟨p0, p1, p2, p3, p4, p5, p6, p7, p8, p9, p10, p11, p12, p13, p14⟩ := obj_15 h3.out.2.1
    have q0 := obj_1 h3.out.2.2
    by_cases hb1 : 1 ≤ b
    · rw [deepA_step hb1]
      have hd : ¬ (b : Int) < 1 := by omega
      have HC := Lib.hid (fun W (hW : Chg No w3 W) z hz => deepC_any m n _ _ W _ ((condV_good m n).no hc (h3.out.1.thenNo hW)) (b - 1) z hz (by omega))
      have HE := Lib.hid (fun W (hW : Chg No w3 W) z hz => deepE_any m _ _ W _ ((exprV_good m).no he (h3.out.1.thenNo hW)) (b - 1) z hz (by omega))
      have HV := Lib.hid (fun W (hW : Chg No w3 W) z hz => deepE_any m _ _ W _ ((exprV_good m).no hv (h3.out.1.thenNo hW)) (b - 1) z hz (by omega))
      have HO := Lib.hid (fun W (hW : Chg No w3 W) => (⟨obj_15 (hW.obj h3.out.2.1 id), obj_1 (hW.obj h3.out.2.2 id)⟩ : _ ∧ _))
      have HCF := Lib.hid (fun W0 (hW0 : Chg No w3 W0) => containsFunc_assn1 (assnV_sz m n k) (assnV_good m n k) (hk.no (assnE_good m n k) (h3.out.1.thenNo hW0)) 85 entered_deepA1 (.pointer (some ⟨w.heap.size + 1, 0, none⟩)) (fun q => deepA m n k q (b - 1)) (fun W hW i hi cs hcs => by
        have x0 : (W.alloc (.cells cs.toArray 92)).cell? ⟨w.heap.size + 1, 0, none⟩ = some (.int .i64 b) := ((Chg.refl No W).alloc _).cell (hW.cell (hW0.cell q0 id) id) id
        have HI := Lib.hid (fun W' (hW' : Chg No W W') z hz => IH.out _ _ W' cs ((assnV_good m n k).no hcs hW') (b - 1) z hz (by omega))
        obtain ⟨kd', ck', cA', cel', cca', cB', ckl', cck', ek', en', es', eB', ekl', eck', vk', vn', vs', vB', vkl', vck', fd', nm', B', kl', capk', rfl⟩ := assn_shape hcs
        generalize deepA m n k (ANode.kids f)[i] (b - 1) = dd at *
        clear hcs hk h hc he hv q0 p0 p1 p2 p3 p4 p5 p6 p7 p8 p9 p10 p11 p12 p13 p14 HC HE HV HO
        go_enter Tryz.func85, Tryz.ntmps85
        go_wp2_with (go_at_call 69; refine (HI.out _ ((Chg.refl _ _).alloc _) _ (by omega)).mono ?_; rintro e w1 ⟨rfl, h1⟩)
        go_ret
        exact ⟨rfl, ((Chg.refl _ _).alloc _).thenNo h1⟩))
      generalize deepC m n (ANode.c f) (b - 1) = a1 at *
      generalize deepE m (ANode.e f) (b - 1) = a2 at *
      generalize deepE m (ANode.v f) (b - 1) = a3 at *
      generalize (ANode.kids f).any (fun q => deepA m n k q (b - 1)) = a4 at *
      clear hk h hc he hv
      go_enter Tryz.func69, Tryz.ntmps69
      go_upto_region 1 with fail
      rw [← hw3]
      clear hw3
      cases a1
      rotate_left
      · go_wp2_with (go_at_call 82; refine (HC.out _ (Chg.refl _ _) _ (by omega)).mono ?_; rintro e w4 ⟨rfl, h4⟩)
        go_ret
        exact ⟨by simp, h3.out.1.thenNo h4⟩
      cases a2
      rotate_left
      · go_wp2_with (first
          | (go_at_call 82; refine (HC.out _ (Chg.refl _ _) _ (by omega)).mono ?_; rintro e w4 ⟨rfl, h4⟩; have H4 := Lib.hid h4; clear h4 p0 p1 p2 p3 p4 p5 p6 p7 p8 p9 p10 p11 p12 p13 p14 q0; obtain ⟨⟨p0, p1, p2, p3, p4, p5, p6, p7, p8, p9, p10, p11, p12, p13, p14⟩, q0⟩ := HO.out _ H4.out)
          | (go_at_call 83; refine (HE.out _ H4.out _ (by omega)).mono ?_; rintro e w5 ⟨rfl, h5⟩))
        go_ret
        exact ⟨by simp, h3.out.1.thenNo (H4.out.thenNo h5)⟩
      cases a3
      rotate_left
      · go_wp2_with (first
          | (go_at_call 82; refine (HC.out _ (Chg.refl _ _) _ (by omega)).mono ?_; rintro e w4 ⟨rfl, h4⟩; have H4 := Lib.hid h4; clear h4 p0 p1 p2 p3 p4 p5 p6 p7 p8 p9 p10 p11 p12 p13 p14 q0; obtain ⟨⟨p0, p1, p2, p3, p4, p5, p6, p7, p8, p9, p10, p11, p12, p13, p14⟩, q0⟩ := HO.out _ H4.out)
          | (go_at_call 83; with_reducible refine (HE.out _ H4.out _ (by omega)).mono ?_; rintro e w5 ⟨rfl, h5⟩; have H5 := Lib.hid (H4.out.thenNo h5); clear h5 p0 p1 p2 p3 p4 p5 p6 p7 p8 p9 p10 p11 p12 p13 p14 q0 HE; obtain ⟨⟨p0, p1, p2, p3, p4, p5, p6, p7, p8, p9, p10, p11, p12, p13, p14⟩, q0⟩ := HO.out _ H5.out)
          | (go_at_call 83; with_reducible refine (HV.out _ H5.out _ (by omega)).mono ?_; rintro e w6 ⟨rfl, h6⟩))
        go_ret
        exact ⟨by simp, h3.out.1.thenNo (H5.out.thenNo h6)⟩
      · go_wp2_with (first
          | (go_at_call 82; refine (HC.out _ (Chg.refl _ _) _ (by omega)).mono ?_; rintro e w4 ⟨rfl, h4⟩; have H4 := Lib.hid h4; clear h4 p0 p1 p2 p3 p4 p5 p6 p7 p8 p9 p10 p11 p12 p13 p14 q0; obtain ⟨⟨p0, p1, p2, p3, p4, p5, p6, p7, p8, p9, p10, p11, p12, p13, p14⟩, q0⟩ := HO.out _ H4.out)
          | (go_at_call 83; with_reducible refine (HE.out _ H4.out _ (by omega)).mono ?_; rintro e w5 ⟨rfl, h5⟩; have H5 := Lib.hid (H4.out.thenNo h5); clear h5 p0 p1 p2 p3 p4 p5 p6 p7 p8 p9 p10 p11 p12 p13 p14 q0 HE; obtain ⟨⟨p0, p1, p2, p3, p4, p5, p6, p7, p8, p9, p10, p11, p12, p13, p14⟩, q0⟩ := HO.out _ H5.out)
          | (go_at_call 83; with_reducible refine (HV.out _ H5.out _ (by omega)).mono ?_; rintro e w6 ⟨rfl, h6⟩; have H6 := Lib.hid (H5.out.thenNo h6); clear h6 p0 p1 p2 p3 p4 p5 p6 p7 p8 p9 p10 p11 p12 p13 p14 q0; obtain ⟨⟨p0, p1, p2, p3, p4, p5, p6, p7, p8, p9, p10, p11, p12, p13, p14⟩, q0⟩ := HO.out _ H6.out)
          | (go_at_call 84; refine (HCF.out _ H6.out).mono ?_; rintro e w1 ⟨rfl, h1⟩))
        go_ret
        exact ⟨by simp, h3.out.1.thenNo (H6.out.thenNo h1)⟩
    · obtain rfl : b = 0 := by omega
      rw [show ((0 : Nat) : Int) = 0 from rfl] at hw3 q0
      rw [deepA_zero]
      clear hk h hc he hv
      go_enter Tryz.func69, Tryz.ntmps69
      go_upto_region 1 with fail
      rw [← hw3]
      clear hw3
      go_wp2_with fail
      go_ret
      first | exact ⟨rfl, h3.out.1⟩ | exact ⟨rfl, ((Chg.refl _ _).alloc _).alloc _⟩
theorem deepA_any (m n : Nat) : ∀ k, DeepAOk m n k
  | 0 => fun _ _ _ _ h => h.elim
  | k + 1 => deepA_walk m n k (Lib.hid (deepA_any m n k))
end Go.Proofs.YtpmndblakmobdaaGreatDoor
