/-
  ExtL, LinJ, ChF, ChG, ChH, ChI, ChJ, ChK, ChL, ChM, ChOpen, in one file.
-/
import Derived.Test.YtpmndblakmobdaaDoorOwnL
import Derived.Lib.AppendZeros
import Derived.Lib.SliceRun
import Derived.Test.YtpmndblakmobdaaDoorLinE
import Derived.Test.YtpmndblakmobdaaDoorLinA
import Derived.Test.YtpmndblakmobdaaDoorLinB
import Derived.Test.YtpmndblakmobdaaDoorLinD
import Derived.Test.YtpmndblakmobdaaDoorChB
import Derived.Test.YtpmndblakmobdaaDoorShB
import Derived.Test.YtpmndblakmobdaaDoorShE
import Derived.Test.YtpmndblakmobdaaDoorLinOpen
import Derived.Test.YtpmndblakmobdaaDoorForm
import Derived.Deep.DeepCutAuto
import Derived.StillTailTactics
import Derived.Deep.RegionLaw
import Derived.Deep.Cut
import Derived.Deep.CutRange
import Derived.Test.YtpmndblakmobdaaDoorFrmB
import Derived.Test.YtpmndblakmobdaaDoorCode
import Derived.Test.YtpmndblakmobdaaDoorChE
/- ExtL -/
namespace Go.Proofs.YtpmndblakmobdaaDoor
open Go Go.RowKit

section
variable {P : Program} {α : Type} {V : ElV α} {t e : TypeId} {z : Value} {ops : Array Oper} {rest : List Oper} {o : Oper} {act : Act} {Q : Exit → Act → World → Prop}
/-- append(s, src...): s is the call's own. -/
theorem wpList_extendL (g : V.Good) (h1 : ∀ {R w cs x}, V R w cs x → ∀ u ∈ cs, u.oneCell' = true) (T : SliceTy P t e V.sz V.bytes z) (hgd : o.guard = none) (s xo : Operand)
    (ho : o.op = .call { callee := .builtin .append, args := #[s, xo], argTypes := #[t, t] })
    {M R : Nat → Prop} {w : World} (hM : ∀ k, w.heap.size ≤ k → M k) {v : Value} {l : List α} (hown : OwnL V e M R w v l) (hs : act.eval s = v)
    {Rs : Nat → Prop} {A : Option Addr} {l' : List α} {n cap : Nat} (hn : n = l'.length) (hl : Sl V.mem V.sz Rs w A l' cap) (hx : act.eval xo = .slice A n cap) (hsub : ∀ k, k < w.heap.size → Rs k → R k ∧ v.ownBlock ≠ some k)
    (hbytes : (l.length + l'.length) * V.bytes ≤ 140737488355328)
    (h : ∀ A cap w', OwnL V e M R w' (.slice A (l.length + l'.length) cap) (l ++ l') → Chg (fun k => v.ownBlock = some k) w w' → wpList P ops Q rest (act.put o.dst (.slice A (l.length + l'.length) cap)) w') :
    wpList P ops Q (o :: rest) act w := by
  subst hn
  obtain ⟨C, ho1, hlC, hv⟩ := hown
  obtain ⟨C', hC1, hC2, hC3, hC4⟩ := hl.cellsOf
  have post : ∀ A2 cap2 w', Own M e V.sz w' (.slice A2 (l.length + l'.length) cap2) (l.length + l'.length) (C.flatten ++ C'.flatten) → Chg (fun k => v.ownBlock = some k) w w' →
      ((Value.slice A2 (l.length + l'.length) cap2).ownBlock = v.ownBlock ∨ ∀ k, (Value.slice A2 (l.length + l'.length) cap2).ownBlock = some k → w.heap.size ≤ k) → OwnL V e M R w' (.slice A2 (l.length + l'.length) cap2) (l ++ l') := fun A2 cap2 w' g1 g2 g3 => by
    have keep : ∀ {cs : List Value} {x : α}, V (fun k => R k ∧ v.ownBlock ≠ some k) w cs x → V (fun k => R k ∧ (Value.slice A2 (l.length + l'.length) cap2).ownBlock ≠ some k) w' cs x := by
      intro cs x hs
      have h1 := g.mono hs (R' := fun k => (R k ∧ v.ownBlock ≠ some k) ∧ (Value.slice A2 (l.length + l'.length) cap2).ownBlock ≠ some k) (fun k hk hR => ⟨hR, by
        rcases g3 with g3 | g3
        · rw [g3]; exact hR.2
        · intro e; have := g3 k e; omega⟩)
      have h2 := g.chg h1 g2 (fun k hk hs => hk.1.2 hs)
      exact g.mono h2 (fun k _ hk => ⟨hk.1.1, hk.2⟩)
    refine ⟨C ++ C', by rw [List.flatten_append, List.length_append]; exact g1, by simp [hlC, hC1], fun i hi hi' => ?_⟩
    by_cases hlt : i < l.length
    · rw [List.getElem_append_left (by omega), List.getElem_append_left hlt]; exact keep (hv i hlt (by omega))
    · have hi2 : i - l.length < l'.length := by simp at hi; omega
      rw [List.getElem_append_right (by omega), List.getElem_append_right (by omega)]
      have e : i - C.length = i - l.length := by omega
      simp only [e]
      exact keep (g.mono (hC3 _ hi2 (by omega)) (fun k hk hR => hsub k hk hR))
  cases A with
  | none =>
    have h0 : l' = [] := List.eq_nil_of_length_eq_zero (by have := hl.le; have := hl.nil rfl; omega)
    subst h0
    have hC0 : C' = [] := List.eq_nil_of_length_eq_zero (by simpa using hC1)
    subst hC0
    obtain ⟨A2, cap2, rfl, _⟩ := ho1.value
    refine wpList_plain hgd fun _ hK => ?_
    have hrun := run_append_none (P := P) T o.type ho1 cap
    unfold Oper.wp execOp
    simp only [ho, resolve, invoke, builtin, Sem.run_bind, Sem.run_pure, Result.andThen_ok, List.map_toArray, List.map_cons, List.map_nil, hs, hx, List.length_nil, hrun]
    exact hK _ _ (h A2 cap2 w (post A2 cap2 w (by simpa using ho1) (Chg.refl _ _) (.inl rfl)) (Chg.refl _ _))
  | some a =>
    refine wpList_append_Own T hgd s xo ho hM ho1 hs (a := a) (m := l'.length) (c := cap) (news := C'.flatten) hx (by rw [flatten_length hC2, hC1]) (fun j u hj => ?_) (fun u hu => ?_) hbytes (fun A2 cap2 w' g1 g2 g3 => ?_)
    · rcases hC4 with h0 | ⟨b, o, hA, hcell⟩
      · subst h0
        have : C' = [] := List.eq_nil_of_length_eq_zero (by simpa using hC1)
        subst this; simp at hj
      · injection hA with hA
        rw [hA, addr_add]
        exact hcell j u hj
    · obtain ⟨c, hcC, huc⟩ := List.mem_flatten.1 hu
      obtain ⟨i, hi, rfl⟩ := List.getElem_of_mem hcC
      exact h1 (hC3 i (by omega) hi) u huc
    · refine h A2 cap2 w' (post A2 cap2 w' g1 g2 ?_) g2
      rcases g3 with g3 | g3
      · exact .inl g3
      · exact .inr (fun k hk => by rw [g3] at hk; injection hk with hk; omega)
theorem wpList_extendLm (g : V.Good) (h1 : ∀ {R w cs x}, V R w cs x → ∀ u ∈ cs, u.oneCell' = true) (T : SliceTy P t e V.sz V.bytes z) (hgd : o.guard = none) (s xo : Operand)
    (ho : o.op = .call { callee := .builtin .append, args := #[s, xo], argTypes := #[t, t] })
    {M R : Nat → Prop} {w : World} (hM : ∀ k, w.heap.size ≤ k → M k) {v : Value} {l : List α} (hown : OwnL V e M R w v l) (hs : act.eval s = v)
    {Rs : Nat → Prop} {A : Option Addr} {l' : List α} {n cap : Nat} (hn : n = l'.length) (hl : Sl V.mem V.sz Rs w A l' cap) (hx : act.eval xo = .slice A n cap) (hsub : ∀ k, k < w.heap.size → Rs k → R k ∧ v.ownBlock ≠ some k)
    (hbytes : (l.length + l'.length) * V.bytes ≤ 140737488355328) {m : Nat} (hm : m = l.length + l'.length)
    (h : ∀ A cap w', OwnL V e M R w' (.slice A m cap) (l ++ l') → Chg (fun k => v.ownBlock = some k) w w' → wpList P ops Q rest (act.put o.dst (.slice A m cap)) w') :
    wpList P ops Q (o :: rest) act w := by
  subst hm
  exact wpList_extendL g h1 T hgd s xo ho hM hown hs hn hl hx hsub hbytes h
end
end Go.Proofs.YtpmndblakmobdaaDoor
/- LinJ -/
namespace Go.Proofs.YtpmndblakmobdaaDoor
open Go Go.RowKit

section
variable {ops : Array Oper} {o : Oper} {act : Act} {Q : Exit → Act → World → Prop} {K : Act → World → Prop} {F : Prop}
/-- append(s, terms...). -/
theorem step_append_monos (hgd : o.guard = none) (s x : Operand) (ho : o.op = .call { callee := .builtin .append, args := #[s, x], argTypes := #[34, 34] })
    {M R : Nat → Prop} {w : World} (hM : ∀ k, w.heap.size ≤ k → M k) {v : Value} {l l' : List Mono} (hown : OMonos M w v l) (hs : act.eval s = v) {A : Option Addr} {n cap : Nat} (hn : n = l'.length) (hl : Monos R w A l' cap) (hx : act.eval x = .slice A n cap) (hb : (l.length + l'.length) * 16 ≤ 140737488355328)
    (h : ∀ A' cap' w', OMonos M w' (.slice A' (l ++ l').length cap') (l ++ l') → Chg (fun k => v.ownBlock = some k) w w' → K (act.put o.dst (.slice A' (l ++ l').length cap')) w') :
    if Region.wanted o (yielded ops act.tmps) = true then Oper.wp Tryd.prog o act w K Q else F := by
  subst hn
  obtain ⟨C, ho1, hC1, hC2⟩ := hown
  have hlC : ∀ c ∈ C, c.length = 2 := fun c hc => by
    obtain ⟨i, hi, rfl⟩ := List.getElem_of_mem hc
    exact monoV_good.len (hC2 i (by omega) hi)
  cases A with
  | none =>
    have h0 : l' = [] := List.eq_nil_of_length_eq_zero (by have := hl.le; have := hl.nil rfl; omega)
    subst h0
    have hw : Region.wanted o (yielded ops act.tmps) = true := by simp [Region.wanted, hgd]
    rw [if_pos hw]
    have hrun := run_append_none (P := Tryd.prog) monosTy o.type ho1 cap
    obtain ⟨A', cap', rfl, _⟩ := ho1.value
    unfold Oper.wp execOp
    simp only [ho, resolve, invoke, builtin, Sem.run_bind, Sem.run_pure, Result.andThen_ok, List.map_toArray, List.map_cons, List.map_nil, hs, hx, List.length_nil, hrun]
    have := h A' cap' w (by rw [List.append_nil]; exact ⟨C, ho1, hC1, hC2⟩) (Chg.refl _ _)
    rw [List.append_nil] at this
    exact this
  | some a =>
    obtain ⟨D, hD1, hD2, hD3, hD4⟩ := hl.cellsOf
    refine step_append_Own monosTy hgd s x ho hM ho1 hs (a := a) (m := l'.length) (c := cap) (news := D.flatten) hx (by rw [flatten_length hD2, hD1]; rfl) (fun j u hj => ?_) (fun u hu => ?_) hb (fun A' cap' w' g1 g2 _ => ?_)
    · rcases hD4 with h0 | ⟨b, o, hA, hcell⟩
      · subst h0
        have : D = [] := List.eq_nil_of_length_eq_zero (by simpa using hD1)
        subst this; simp at hj
      · injection hA with hA
        rw [hA, addr_add]
        exact hcell j u hj
    · obtain ⟨c, hcC, huc⟩ := List.mem_flatten.1 hu
      obtain ⟨i, hi, rfl⟩ := List.getElem_of_mem hcC
      exact mono_one (hD3 i (by omega) hi) u huc
    · rw [← List.length_append] at g1 ⊢
      refine h A' cap' w' ⟨C ++ D, by rw [List.flatten_append]; exact g1, by simp [hC1, hD1], fun i h1 h2 => ?_⟩ g2
      by_cases hi : i < l.length
      · rw [List.getElem_append_left (by omega), List.getElem_append_left hi]; exact mono_any (hC2 i hi (by omega))
      · rw [List.getElem_append_right (by omega), List.getElem_append_right (by omega)]
        have := hD3 (i - l.length) (by rw [List.length_append] at h1; omega) (by rw [List.length_append] at h1; omega)
        simp only [hC1]
        exact mono_any this
end

theorem MonosRet.slice {w w' : World} {l : List Mono} {e : Ending} (h : MonosRet w l e w') : ∃ A cap, e = .returned (.slice A l.length cap) ∧ OMonos (fun k => w.heap.size ≤ k) w' (.slice A l.length cap) l ∧ Chg No w w' := by
  obtain ⟨v, rfl, h1, h2⟩ := h
  obtain ⟨A, cap, rfl, _⟩ := h1.value
  exact ⟨A, cap, rfl, h1, h2⟩

end Go.Proofs.YtpmndblakmobdaaDoor
/- ChF -/
namespace Go.Proofs.YtpmndblakmobdaaDoor
open Go Go.RowKit

/-- So much of a cell, by forms: the address, the field, how much, the value. -/
abbrev Chunk := Lin × (ByteArray × (Int × Lin))
def chV : ElV Chunk := pairV linV (pairV strV (pairV intV linV 40 (by decide)) 56 (by decide)) 88 (by decide)
theorem chV_good : chV.Good := pairV_good linV_good (pairV_good strV_good (pairV_good intV_good linV_good _ _) _ _) _ _
abbrev Chunks (R : Nat → Prop) (w : World) (A : Option Addr) (l : List Chunk) (cap : Nat) : Prop := Sl chV.mem 6 R w A l cap
theorem chE_good : chV.mem.Good := chV_good.mem
theorem ch_cells {R : Nat → Prop} {w : World} {cs : List Value} {x : Chunk} (h : chV R w cs x) :
    ∃ A c B d, cs = [.int .i64 x.1.1, .slice A x.1.2.length c, .string x.2.1, .int .i64 x.2.2.1, .int .i64 x.2.2.2.1, .slice B x.2.2.2.2.length d] ∧ I64 x.1.1 ∧ Monos R w A x.1.2 c ∧ x.2.1.size ≤ maxLen ∧ I64 x.2.2.1 ∧ I64 x.2.2.2.1 ∧ Monos R w B x.2.2.2.2 d := by
  obtain ⟨c1, c2, rfl, _, h1, c3, c4, rfl, _, ⟨rfl, h2⟩, c5, c6, rfl, _, ⟨rfl, h3⟩, h4⟩ := h
  obtain ⟨A, c, rfl, g1, g2⟩ := lin_cells h1
  obtain ⟨B, d, rfl, g3, g4⟩ := lin_cells h4
  exact ⟨A, c, B, d, rfl, g1, g2, h2, h3, g3, g4⟩
theorem ch_of {R : Nat → Prop} {w : World} {x : Chunk} {A B : Option Addr} {c d : Nat} (g1 : I64 x.1.1) (g2 : Monos R w A x.1.2 c) (h2 : x.2.1.size ≤ maxLen) (h3 : I64 x.2.2.1) (g3 : I64 x.2.2.2.1) (g4 : Monos R w B x.2.2.2.2 d) :
    chV R w [.int .i64 x.1.1, .slice A x.1.2.length c, .string x.2.1, .int .i64 x.2.2.1, .int .i64 x.2.2.2.1, .slice B x.2.2.2.2.length d] x :=
  ⟨[.int .i64 x.1.1, .slice A x.1.2.length c], _, rfl, rfl, lin_of g1 g2, [.string x.2.1], _, rfl, rfl, ⟨rfl, h2⟩, [.int .i64 x.2.2.1], _, rfl, rfl, ⟨rfl, h3⟩, lin_of g3 g4⟩
theorem chs_at {R : Nat → Prop} {w : World} {A : Option Addr} {l : List Chunk} {cap : Nat} (h : Chunks R w A l cap) (i : Nat) (hi : i < l.length) :
    ∃ b o B c C d, A = some ⟨b, o, none⟩ ∧ (I64 l[i].1.1 ∧ Monos R w B l[i].1.2 c ∧ l[i].2.1.size ≤ maxLen ∧ I64 l[i].2.2.1 ∧ I64 l[i].2.2.2.1 ∧ Monos R w C l[i].2.2.2.2 d) ∧
      w.cell? ⟨b, o + i * 6, none⟩ = some (.int .i64 l[i].1.1) ∧ w.cell? ⟨b, o + i * 6 + 1, none⟩ = some (.slice B l[i].1.2.length c) ∧ w.cell? ⟨b, o + i * 6 + 2, none⟩ = some (.string l[i].2.1) ∧ w.cell? ⟨b, o + i * 6 + 3, none⟩ = some (.int .i64 l[i].2.2.1) ∧
      w.cell? ⟨b, o + i * 6 + 4, none⟩ = some (.int .i64 l[i].2.2.2.1) ∧ w.cell? ⟨b, o + i * 6 + 5, none⟩ = some (.slice C l[i].2.2.2.2.length d) := by
  obtain ⟨b, o, cs, e, _, hv, hc⟩ := vmem_of (V := chV) rfl h i hi
  obtain ⟨B, c, C, d, rfl, h1, h2, h3, h4, h5, h6⟩ := ch_cells hv
  exact ⟨b, o, B, c, C, d, e, ⟨h1, h2, h3, h4, h5, h6⟩, hc 0 _ rfl, hc 1 _ rfl, hc 2 _ rfl, hc 3 _ rfl, hc 4 _ rfl, hc 5 _ rfl⟩
theorem obj_6 {w : World} {b : Nat} {u0 u1 u2 u3 u4 u5 : Value} {t : TypeId} (h : w.heap[b]? = some (.cells #[u0, u1, u2, u3, u4, u5] t (0, 0))) :
    w.cell? ⟨b, 0, none⟩ = some u0 ∧ w.cell? ⟨b, 1, none⟩ = some u1 ∧ w.cell? ⟨b, 2, none⟩ = some u2 ∧ w.cell? ⟨b, 3, none⟩ = some u3 ∧ w.cell? ⟨b, 4, none⟩ = some u4 ∧ w.cell? ⟨b, 5, none⟩ = some u5 := by
  simp [World.cell?, h]
def chB (x : Chunk) : Bool := linB x.1.1 x.1.2 && linB x.2.2.2.1 x.2.2.2.2

theorem list_chk0 (cs : List Value) (h : cs.length = 6) : ∃ v0 v1 v2 v3 v4 v5, cs = [v0, v1, v2, v3, v4, v5] := by
  match cs, h with
  | [v0, v1, v2, v3, v4, v5], _ => exact ⟨v0, v1, v2, v3, v4, v5, rfl⟩
set_option maxHeartbeats 1000000 in
theorem indexFunc_chk0 {α : Type} {V : ElV α} (hk : V.sz = 6) (g : V.Good) {R : Nat → Prop} {w : World} {A : Option Addr} {l : List α} {cap : Nat} (hl : Sl V.mem 6 R w A l cap) (fv : FuncId) (hf : Entered fv) (p : α → Bool)
    (hp : ∀ w', Chg No w w' → ∀ i (h : i < l.length) cs, V R w' cs l[i] → Calls Tryd.prog fv #[.agg cs.toArray] w' fun e w'' => e = .returned (.bool (p l[i])) ∧ Chg No w' w'') :
    Calls Tryd.prog 32 #[.slice A l.length cap, .func (.func fv) #[] #[]] w fun e w' => e = .returned (.int .i64 (findI p l)) ∧ Chg No w w' := by
  have hb := hl.big
  unfold big at hb
  have Hp := Lib.hid hp
  have HL := Lib.hid (fun W (h : Chg No w W) => hl.no g.mem h)
  clear hp hl
  unfold Entered at hf
  go_enter Tryd.func32, Tryd.ntmps32
  go_wp2
  go_loopw [8] (fun i wr => ∃ k : Nat, k ≤ l.length ∧ i = .int .i64 k ∧ Hid (Chg No w wr) ∧ Hid (∀ j (h : j < l.length), j < k → p l[j] = false)) (fun i _ => l.length - (intOf i).toNat)
  case atStart => exact ⟨0, Nat.zero_le _, rfl, Chg.refl _ _, fun j h hk => absurd hk (by omega)⟩
  case round =>
    obtain ⟨kk, hkk, rfl, hch, hall⟩ := hrel
    by_cases hlt : kk < l.length
    · obtain ⟨b, o, cs, rfl, hlen, hv, hc⟩ := vmem_of hk (HL.out wr hch.out) kk hlt
      obtain ⟨v0, v1, v2, v3, v4, v5, rfl⟩ := list_chk0 cs hlen
      have x0 : wr.cell? ⟨b, o + kk * 6, none⟩ = some v0 := hc 0 _ rfl
      have x1 : wr.cell? ⟨b, o + kk * 6 + 1, none⟩ = some v1 := hc 1 _ rfl
      have x2 : wr.cell? ⟨b, o + kk * 6 + 2, none⟩ = some v2 := hc 2 _ rfl
      have x3 : wr.cell? ⟨b, o + kk * 6 + 3, none⟩ = some v3 := hc 3 _ rfl
      have x4 : wr.cell? ⟨b, o + kk * 6 + 4, none⟩ = some v4 := hc 4 _ rfl
      have x5 : wr.cell? ⟨b, o + kk * 6 + 5, none⟩ = some v5 := hc 5 _ rfl
      clear hc hlen
      have i0 : (0 : Int) ≤ (kk : Int) := by omega
      have i1 : (kk : Int) < (l.length : Int) := by omega
      have HP := Lib.hid (Hp.out wr hch.out kk hlt _ hv)
      have Hhit : Hid (p l[kk] = true → findI p l = kk) := fun h => findI_hit hlt h hall.out
      have Hmiss : Hid (p l[kk] = false → ∀ j (h : j < l.length), j < kk + 1 → p l[j] = false) := fun hpk j h hj => by
        rcases Nat.lt_or_ge j kk with g | g
        · exact hall.out j h g
        · obtain rfl : j = kk := by omega
          exact hpk
      clear hv
      generalize p l[kk] = pk at *
      cases pk with
      | true =>
        have HE := Lib.hid (Hhit.out rfl)
        clear Hmiss Hhit
        go_wp2_with (refine HP.out.mono ?_; rintro e w1 ⟨rfl, h1⟩)
        go_ret
        exact ⟨ret_int HE.out.symm, hch.out.thenNo h1⟩
      | false =>
        have HM := Lib.hid (Hmiss.out rfl)
        clear Hmiss Hhit
        go_wp2_with (refine HP.out.mono ?_; rintro e w1 ⟨rfl, h1⟩)
        go_roundw
        case rel => exact ⟨kk + 1, hlt, by go_num, hch.out.thenNo h1, HM.out⟩
        case measure => simp [intOf]; omega
    · go_wp2
      go_ret
      exact ⟨ret_int (findI_miss (fun j h => hall.out j h (by omega))).symm, hch.out⟩
theorem containsFunc_chk0 {α : Type} {V : ElV α} (hk : V.sz = 6) (g : V.Good) {R : Nat → Prop} {w : World} {A : Option Addr} {l : List α} {cap : Nat} (hl : Sl V.mem 6 R w A l cap) (fv : FuncId) (hf : Entered fv) (p : α → Bool)
    (hp : ∀ w', Chg No w w' → ∀ i (h : i < l.length) cs, V R w' cs l[i] → Calls Tryd.prog fv #[.agg cs.toArray] w' fun e w'' => e = .returned (.bool (p l[i])) ∧ Chg No w' w'') :
    Calls Tryd.prog 23 #[.slice A l.length cap, .func (.func fv) #[] #[]] w fun e w' => e = .returned (.bool (l.any p)) ∧ Chg No w w' := by
  have H := Lib.hid (indexFunc_chk0 hk g hl fv hf p hp)
  clear hp hl
  go_enter Tryd.func23, Tryd.ntmps23
  go_wp2_with (refine H.out.mono ?_; rintro e w1 ⟨rfl, h1⟩)
  go_ret
  exact ⟨ret_bool (findI_ge p l), h1⟩

set_option maxRecDepth 100000 in
set_option maxHeartbeats 1000000 in
theorem sound_any {R : Nat → Prop} {w : World} {cs : List Value} {x : Chunk} (h : chV R w cs x) : Calls Tryd.prog 22 #[.agg cs.toArray] w fun e w' => e = .returned (.bool (chB x)) ∧ Chg No w w' := by
  obtain ⟨A, c, B, d, rfl, h1, h2, h3, h4, h5, h6⟩ := ch_cells h
  have HA := Lib.hid (fun W (hW : Chg No w W) => linCheck_any x.1.1 (h2.no monoE_good hW))
  have HB := Lib.hid (fun W (hW : Chg No w W) => linCheck_any x.2.2.2.1 (h6.no monoE_good hW))
  unfold chB
  generalize linB x.1.1 x.1.2 = q1 at *
  generalize linB x.2.2.2.1 x.2.2.2.2 = q2 at *
  generalize x.1.1 = a0 at *
  generalize x.1.2.length = a1 at *
  generalize x.2.1 = a2 at *
  generalize x.2.2.1 = a3 at *
  generalize x.2.2.2.1 = a4 at *
  generalize x.2.2.2.2.length = a5 at *
  clear h h2 h6
  obtain ⟨w3, hw3⟩ : ∃ w3, w3 = w.alloc (.cells #[.int .i64 a0, .slice A a1 c, .string a2, .int .i64 a3, .int .i64 a4, .slice B a5 d] 38) := ⟨_, rfl⟩
  have h3' : Hid (Chg No w w3 ∧ w3.heap[w.heap.size]? = some (.cells #[.int .i64 a0, .slice A a1 c, .string a2, .int .i64 a3, .int .i64 a4, .slice B a5 d] 38 (0, 0))) := by
    rw [hw3]; exact ⟨(Chg.refl _ _).alloc _, heap_alloc_new _ _⟩
  obtain ⟨p0, p1, p2, p3, p4, p5⟩ := obj_6 h3'.out.2
  cases q1
  · rw [show (if false = true then (0 : Int) else 5) = 5 from rfl, errV_of _ (by decide)] at HA
    clear HB
    go_enter Tryd.func22, Tryd.ntmps22
    go_upto_region 1 with fail
    rw [← hw3]
    clear hw3
    go_wp2_with (go_at_call 29; refine (HA.out _ h3'.out.1).mono ?_; rintro e w4 ⟨rfl, h4⟩)
    go_ret
    exact ⟨rfl, h3'.out.1.thenNo h4⟩
  · rw [show (if true = true then (0 : Int) else 5) = 0 from rfl, errV_zero] at HA
    have hq : (q2 = true ∧ errV 64 (if q2 = true then 0 else 5) = .nilIface) ∨ (q2 = false ∧ errV 64 (if q2 = true then 0 else 5) = .iface 64 (.int .i64 5)) := by
      cases q2
      · exact .inr ⟨rfl, errV_of _ (show (5 : Int) ≠ 0 by decide)⟩
      · exact .inl ⟨rfl, errV_zero _⟩
    rcases hq with ⟨rfl, hq⟩ | ⟨rfl, hq⟩
    all_goals
      rw [hq] at HB
      clear hq
      go_enter Tryd.func22, Tryd.ntmps22
      go_upto_region 1 with fail
      rw [← hw3]
      clear hw3
      go_wp2_with (first
        | (go_at_call 29; with_reducible refine (HA.out _ h3'.out.1).mono ?_; rintro e w4 ⟨rfl, h4⟩; have H4 := Lib.hid (h3'.out.1.thenNo h4); clear p0 p1 p2 p3 p4 p5 HA; obtain ⟨p0, p1, p2, p3, p4, p5⟩ := obj_6 (h4.obj h3'.out.2 id); clear h4)
        | (go_at_call 29; with_reducible refine (HB.out _ H4.out).mono ?_; rintro e w5 ⟨rfl, h5⟩))
      go_ret
      exact ⟨rfl, H4.out.thenNo h5⟩
set_option maxRecDepth 10000 in
theorem entered_facts1 : Entered 24 := fun _ _ => rfl
theorem sounds_any {R : Nat → Prop} {w : World} {A : Option Addr} {l : List Chunk} {cap : Nat} (hl : Chunks R w A l cap) :
    Calls Tryd.prog 23 #[.slice A l.length cap, .func (.func 24) #[] #[]] w fun e w' => e = .returned (.bool (!l.all chB)) ∧ Chg No w w' := by
  have HCF := containsFunc_chk0 (V := chV) rfl chV_good hl 24 entered_facts1 (fun k => !chB k) (fun W hW i hi cs hcs => by
    have HS := Lib.hid (fun W' (hW' : Chg No W W') => sound_any (chV_good.no hcs hW'))
    obtain ⟨A1, c1, B1, d1, rfl, _⟩ := ch_cells hcs
    generalize chB l[i] = q at *
    generalize l[i].1.1 = a0 at *
    generalize l[i].1.2.length = a1 at *
    generalize l[i].2.1 = a2 at *
    generalize l[i].2.2.1 = a3 at *
    generalize l[i].2.2.2.1 = a4 at *
    generalize l[i].2.2.2.2.length = a5 at *
    clear hcs hl
    go_enter Tryd.func24, Tryd.ntmps24
    go_wp2_with (go_at_call 22; refine (HS.out _ ((Chg.refl _ _).alloc _)).mono ?_; rintro e w1 ⟨rfl, h1⟩)
    go_ret
    exact ⟨rfl, ((Chg.refl _ _).alloc _).thenNo h1⟩)
  rw [any_not] at HCF
  exact HCF

/-- What says that two forms are the same; what is amiss. -/
noncomputable def sameR (a b : Lin) : Int × Lin × Int := if (linB a.1 a.2 && linB b.1 b.2) = true then (match sumO a b (-1) with | none => (0, (0, []), 3) | some r => (3, r, 0)) else (0, (0, []), 5)
end Go.Proofs.YtpmndblakmobdaaDoor
/- ChG -/
namespace Go.Proofs.YtpmndblakmobdaaDoor
open Go Go.RowKit

/-- A call returns a formula without parts, beside E; its form lies in new memory. -/
def SRet (w : World) (s : Int × Lin × Int) (e : Ending) (w' : World) : Prop :=
  ∃ A cap, e = .returned (.tuple #[.agg #[.int .i64 s.1, .int .i64 s.2.1.1, .slice A s.2.1.2.length cap, .slice none 0 0], errV 64 s.2.2]) ∧ Monos (fun k => w.heap.size ≤ k) w' A s.2.1.2 cap ∧ Chg No w w'
theorem obj_4f {w : World} {b : Nat} {x y z u : Value} {t : TypeId} (h : w.heap[b]? = some (.cells #[x, y, z, u] t (0, 0))) :
    (w.cell? ⟨b, 0, none⟩ = some x ∧ w.cell? ⟨b, 1, none⟩ = some y ∧ w.cell? ⟨b, 2, none⟩ = some z ∧ w.cell? ⟨b, 3, none⟩ = some u) ∧ w.frozen? ⟨b, 0, none⟩ = false ∧ w.frozen? ⟨b, 1, none⟩ = false ∧ w.frozen? ⟨b, 2, none⟩ = false ∧ w.frozen? ⟨b, 3, none⟩ = false := by
  simp [World.cell?, World.frozen?, h]
theorem set4_chg (w : World) (b : Nat) (u0 u1 u2 u3 : Value) : Chg (fun k => k = b) w ((((w.setCell ⟨b, 0, none⟩ u0).setCell ⟨b, 1, none⟩ u1).setCell ⟨b, 2, none⟩ u2).setCell ⟨b, 3, none⟩ u3) :=
  ((((Chg.refl (fun k => k = b) _).setCell _ _ (fun _ => rfl)).setCell _ _ (fun _ => rfl)).setCell _ _ (fun _ => rfl)).setCell _ _ (fun _ => rfl)

set_option maxRecDepth 100000 in
set_option maxHeartbeats 4000000 in
theorem csame_any {R R' : Nat → Prop} {w : World} (a b : Lin) {A A' : Option Addr} {cap cap' : Nat} (ht : Monos R w A a.2 cap) (ht' : Monos R' w A' b.2 cap') :
    Calls Tryd.prog 14 #[.agg #[.int .i64 a.1, .slice A a.2.length cap], .agg #[.int .i64 b.1, .slice A' b.2.length cap']] w (SRet w (sameR a b)) := by
  have HA := Lib.hid (fun W (hW : Chg No w W) => linCheck_any a.1 (ht.no monoE_good hW))
  have HB := Lib.hid (fun W (hW : Chg No w W) => linCheck_any b.1 (ht'.no monoE_good hW))
  have HS := Lib.hid (fun W (hW : Chg No w W) => csum_any (w := W) a b (ht.no monoE_good hW) (ht'.no monoE_good hW) (-1))
  obtain ⟨ans, hans⟩ : ∃ ans, ans = sameR a b := ⟨_, rfl⟩
  rw [← hans]
  unfold sameR at hans
  have HAN := Lib.hid hans
  clear hans ht ht'
  generalize sumO a b (-1) = so at *
  obtain ⟨ca, ta⟩ := a
  obtain ⟨cb, tb⟩ := b
  simp only at HA HB HS HAN ⊢
  generalize linB ca ta = q1 at *
  generalize linB cb tb = q2 at *
  generalize ta.length = la at *
  generalize tb.length = lb at *
  obtain ⟨w3, hw3⟩ : ∃ w3, w3 = ((w.alloc (.cells #[.int .i64 ca, .slice A la cap] 36)).alloc (.cells #[.int .i64 cb, .slice A' lb cap'] 36)).alloc (.cells #[.int .i64 0, .int .i64 0, .slice none 0 0, .slice none 0 0] 45) := ⟨_, rfl⟩
  have h3 : Hid (Chg No w w3 ∧ w3.heap[w.heap.size]? = some (.cells #[.int .i64 ca, .slice A la cap] 36 (0, 0)) ∧ w3.heap[w.heap.size + 1]? = some (.cells #[.int .i64 cb, .slice A' lb cap'] 36 (0, 0)) ∧ w3.heap[w.heap.size + 1 + 1]? = some (.cells #[.int .i64 0, .int .i64 0, .slice none 0 0, .slice none 0 0] 45 (0, 0)) ∧ w3.heap.size = w.heap.size + 1 + 1 + 1) := by
    rw [hw3]
    exact ⟨(((Chg.refl _ _).alloc _).alloc _).alloc _, at_old (at_old (heap_alloc_new _ _)), at_old (at_new (by simp)), at_new (by simp), by simp⟩
  have HO : Hid (∀ W, Chg No w3 W → (W.cell? ⟨w.heap.size, 0, none⟩ = some (.int .i64 ca) ∧ W.cell? ⟨w.heap.size, 1, none⟩ = some (.slice A la cap)) ∧ (W.cell? ⟨w.heap.size + 1, 0, none⟩ = some (.int .i64 cb) ∧ W.cell? ⟨w.heap.size + 1, 1, none⟩ = some (.slice A' lb cap'))) := fun W hW => by
    obtain ⟨a1, a2, _, _⟩ := obj_2 (hW.obj h3.out.2.1 id)
    obtain ⟨b1, b2, _, _⟩ := obj_2 (hW.obj h3.out.2.2.1 id)
    exact ⟨⟨a1, a2⟩, b1, b2⟩
  have HR : Hid (∀ W, Chg No w3 W → (W.cell? ⟨w.heap.size + 1 + 1, 0, none⟩ = some (.int .i64 0) ∧ W.cell? ⟨w.heap.size + 1 + 1, 1, none⟩ = some (.int .i64 0) ∧ W.cell? ⟨w.heap.size + 1 + 1, 2, none⟩ = some (.slice none 0 0) ∧ W.cell? ⟨w.heap.size + 1 + 1, 3, none⟩ = some (.slice none 0 0)) ∧ W.frozen? ⟨w.heap.size + 1 + 1, 0, none⟩ = false ∧ W.frozen? ⟨w.heap.size + 1 + 1, 1, none⟩ = false ∧ W.frozen? ⟨w.heap.size + 1 + 1, 2, none⟩ = false ∧ W.frozen? ⟨w.heap.size + 1 + 1, 3, none⟩ = false) := fun W hW =>
    obj_4f (hW.obj h3.out.2.2.2.1 id)
  have HW : Hid (∀ W u0 u1 u2 u3 A8 (o : Lin) c8, Chg No w3 W → Monos (fun k => w3.heap.size ≤ k) W A8 o.2 c8 → Chg No w ((((W.setCell ⟨w.heap.size + 1 + 1, 0, none⟩ u0).setCell ⟨w.heap.size + 1 + 1, 1, none⟩ u1).setCell ⟨w.heap.size + 1 + 1, 2, none⟩ u2).setCell ⟨w.heap.size + 1 + 1, 3, none⟩ u3) ∧
      Monos (fun k => w.heap.size ≤ k) ((((W.setCell ⟨w.heap.size + 1 + 1, 0, none⟩ u0).setCell ⟨w.heap.size + 1 + 1, 1, none⟩ u1).setCell ⟨w.heap.size + 1 + 1, 2, none⟩ u2).setCell ⟨w.heap.size + 1 + 1, 3, none⟩ u3) A8 o.2 c8) := fun W u0 u1 u2 u3 A8 o c8 hW hm => by
    have hz := h3.out.2.2.2.2
    have hs := set4_chg W (w.heap.size + 1 + 1) u0 u1 u2 u3
    exact ⟨chgpast2 (h3.out.1.thenNo hW) hs (fun k hk => by omega), (hm.chg monoE_good hs (fun k hk e => by omega)).mono monoE_good (fun k _ hk => by omega)⟩
  obtain ⟨⟨p0, p1⟩, s0, s1⟩ := HO.out w3 (Chg.refl _ _)
  cases q1
  · obtain rfl : ans = (0, (0, []), 5) := HAN.out
    rw [show (if false = true then (0 : Int) else 5) = 5 from rfl, errV_of _ (by decide)] at HA
    clear HB HS HAN
    go_enter Tryd.func14, Tryd.ntmps14
    go_upto_region 1 with fail
    rw [← hw3]
    clear hw3
    go_wp2_with (go_at_call 29; refine (HA.out _ h3.out.1).mono ?_; rintro e w4 ⟨rfl, h4⟩; have H4 := Lib.hid h4; obtain ⟨⟨r0, r1, r2, r3⟩, f0, f1, f2, f3⟩ := HR.out w4 h4; clear h4)
    refine bodyPost_ret (v := .tuple #[.agg #[.int .i64 0, .int .i64 0, .slice none 0 0, .slice none 0 0], .iface 64 (.int .i64 5)]) (by simp [results, Tryd.results14, go_sem, r0, r1, r2, r3]) rfl ⟨none, 0, ?_, (HW.out _ _ _ _ _ none (0, []) 0 H4.out Sl.empty).2, (HW.out _ _ _ _ _ none (0, []) 0 H4.out Sl.empty).1⟩
    rw [errV_of _ (show (5 : Int) ≠ 0 by decide)]
    rfl
  rw [show (if true = true then (0 : Int) else 5) = 0 from rfl, errV_zero] at HA
  cases q2
  · obtain rfl : ans = (0, (0, []), 5) := HAN.out
    rw [show (if false = true then (0 : Int) else 5) = 5 from rfl, errV_of _ (by decide)] at HB
    clear HS HAN
    go_enter Tryd.func14, Tryd.ntmps14
    go_upto_region 1 with fail
    rw [← hw3]
    clear hw3
    go_wp2_with (first
      | (go_at_call 29; with_reducible refine (HA.out _ h3.out.1).mono ?_; rintro e w4 ⟨rfl, h4⟩; have H4 := Lib.hid h4; clear p0 p1 s0 s1 HA; obtain ⟨⟨p0, p1⟩, s0, s1⟩ := HO.out w4 h4; clear h4)
      | (go_at_call 29; with_reducible refine (HB.out _ (h3.out.1.thenNo H4.out)).mono ?_; rintro e w5 ⟨rfl, h5⟩; have H5 := Lib.hid (H4.out.thenNo h5); obtain ⟨⟨r0, r1, r2, r3⟩, f0, f1, f2, f3⟩ := HR.out w5 H5.out; clear h5))
    refine bodyPost_ret (v := .tuple #[.agg #[.int .i64 0, .int .i64 0, .slice none 0 0, .slice none 0 0], .iface 64 (.int .i64 5)]) (by simp [results, Tryd.results14, go_sem, r0, r1, r2, r3]) rfl ⟨none, 0, ?_, (HW.out _ _ _ _ _ none (0, []) 0 H5.out Sl.empty).2, (HW.out _ _ _ _ _ none (0, []) 0 H5.out Sl.empty).1⟩
    rw [errV_of _ (show (5 : Int) ≠ 0 by decide)]
    rfl
  rw [show (if true = true then (0 : Int) else 5) = 0 from rfl, errV_zero] at HB
  cases so with
  | none =>
    obtain rfl : ans = (0, (0, []), 3) := HAN.out
    unfold LinRet at HS
    rw [show optE (none : Option Lin) = 3 from rfl, show optL none = (0, []) from rfl, errV_of _ (by decide)] at HS
    clear HAN
    go_enter Tryd.func14, Tryd.ntmps14
    go_upto_region 1 with fail
    rw [← hw3]
    clear hw3
    go_upto_region 4 with (first
      | (go_at_call 29; with_reducible refine (HA.out _ h3.out.1).mono ?_; rintro e w4 ⟨rfl, h4⟩; have H4 := Lib.hid h4; clear p0 p1 s0 s1 HA; obtain ⟨⟨p0, p1⟩, s0, s1⟩ := HO.out w4 h4; clear h4)
      | (go_at_call 29; with_reducible refine (HB.out _ (h3.out.1.thenNo H4.out)).mono ?_; rintro e w5 ⟨rfl, h5⟩; have H5 := Lib.hid (H4.out.thenNo h5); clear p0 p1 s0 s1 HB; obtain ⟨⟨p0, p1⟩, s0, s1⟩ := HO.out w5 H5.out; clear h5)
      | (go_at_call 25; refine (HS.out _ (h3.out.1.thenNo H5.out)).mono ?_; rintro e w6 ⟨A6, c6, rfl, g6, h6⟩; have H6 := Lib.hid (H5.out.thenNo h6); clear g6 h6))
    obtain ⟨w7, hw7⟩ : ∃ w7, w7 = w6.alloc (.cells #[.int .i64 0, .slice A6 0 c6] 36) := ⟨_, rfl⟩
    rw [← hw7]
    have H7 : Hid (Chg No w3 w7) := by rw [hw7]; exact H6.out.alloc _
    clear hw7 p0 p1 s0 s1
    obtain ⟨⟨r0, r1, r2, r3⟩, f0, f1, f2, f3⟩ := HR.out w7 H7.out
    go_wp2_with fail
    refine bodyPost_ret (v := .tuple #[.agg #[.int .i64 0, .int .i64 0, .slice none 0 0, .slice none 0 0], .iface 64 (.int .i64 3)]) (by simp [results, Tryd.results14, go_sem, r0, r1, r2, r3]) rfl ⟨none, 0, ?_, (HW.out _ _ _ _ _ none (0, []) 0 H7.out Sl.empty).2, (HW.out _ _ _ _ _ none (0, []) 0 H7.out Sl.empty).1⟩
    rw [errV_of _ (show (3 : Int) ≠ 0 by decide)]
    rfl
  | some r =>
    obtain rfl : ans = (3, r, 0) := HAN.out
    unfold LinRet at HS
    rw [show optE (some r) = 0 from rfl, show optL (some r) = r from rfl, errV_zero] at HS
    clear HAN
    go_enter Tryd.func14, Tryd.ntmps14
    go_upto_region 1 with fail
    rw [← hw3]
    clear hw3
    go_upto_region 4 with (first
      | (go_at_call 29; with_reducible refine (HA.out _ h3.out.1).mono ?_; rintro e w4 ⟨rfl, h4⟩; have H4 := Lib.hid h4; clear p0 p1 s0 s1 HA; obtain ⟨⟨p0, p1⟩, s0, s1⟩ := HO.out w4 h4; clear h4)
      | (go_at_call 29; with_reducible refine (HB.out _ (h3.out.1.thenNo H4.out)).mono ?_; rintro e w5 ⟨rfl, h5⟩; have H5 := Lib.hid (H4.out.thenNo h5); clear p0 p1 s0 s1 HB; obtain ⟨⟨p0, p1⟩, s0, s1⟩ := HO.out w5 H5.out; clear h5)
      | (go_at_call 25; refine (HS.out _ (h3.out.1.thenNo H5.out)).mono ?_; rintro e w6 ⟨A6, c6, rfl, g6, h6⟩; have H6 := Lib.hid (H5.out.thenNo h6); have G6 := Lib.hid (g6.mono monoE_good (R' := fun k => w3.heap.size ≤ k) (fun k _ hk => Nat.le_trans H5.out.size hk)); clear g6 h6))
    obtain ⟨w7, hw7⟩ : ∃ w7, w7 = w6.alloc (.cells #[.int .i64 r.1, .slice A6 r.2.length c6] 36) := ⟨_, rfl⟩
    rw [← hw7]
    have H7 : Hid (Chg No w3 w7 ∧ Monos (fun k => w3.heap.size ≤ k) w7 A6 r.2 c6 ∧ w7.heap[w6.heap.size]? = some (.cells #[.int .i64 r.1, .slice A6 r.2.length c6] 36 (0, 0))) := by
      rw [hw7]; exact ⟨H6.out.alloc _, G6.out.no monoE_good ((Chg.refl _ _).alloc _), heap_alloc_new _ _⟩
    clear hw7 p0 p1 s0 s1
    obtain ⟨⟨r0, r1, r2, r3⟩, f0, f1, f2, f3⟩ := HR.out w7 H7.out.1
    obtain ⟨y0, y1, _, _⟩ := obj_2 H7.out.2.2
    go_wp2_with fail
    refine bodyPost_ret (v := .tuple #[.agg #[.int .i64 3, .int .i64 r.1, .slice A6 r.2.length c6, .slice none 0 0], .nilIface]) (by simp [results, Tryd.results14, go_sem, r0, r1, r2, r3]) rfl ⟨A6, c6, ?_, (HW.out _ _ _ _ _ A6 r c6 H7.out.1 H7.out.2.1).2, (HW.out _ _ _ _ _ A6 r c6 H7.out.1 H7.out.2.1).1⟩
    rw [errV_zero]
end Go.Proofs.YtpmndblakmobdaaDoor
/- ChH -/
namespace Go.Proofs.YtpmndblakmobdaaDoor
open Go Go.RowKit

def leafF (n : Nat) (k : Int) (r : Lin) : FT (n + 1) := (⟨k, r, []⟩ : Node (FT n))
def notF (n : Nat) (r : Lin) : FT (n + 2) := (⟨4, (0, []), [leafF n 3 r]⟩ : Node (FT (n + 1)))
def orF (r s : Lin) : FT 3 := (⟨6, (0, []), [notF 0 r, leafF 1 3 s]⟩ : Node (FT 2))
/-- What one chunk says of another one; none: it is far. -/
noncomputable def fact1 (c o : Chunk) : Option (List (FT 3)) :=
  if o.2.1.toList = c.2.1.toList then
    match sumO o.1 c.1 (-1) with
    | none => none
    | some r => if 64 < o.2.2.1 + c.2.2.1 then some [notF 1 r] else match sumO o.2.2.2 c.2.2.2 (-1) with
      | none => none
      | some s => some [orF r s]
  else some []
noncomputable def factsL (c : Chunk) : List Chunk → Option (List (FT 3))
  | [] => some []
  | o :: l => match fact1 c o with
    | none => none
    | some f => (factsL c l).map (f ++ ·)
noncomputable def factsR (l : List Chunk) (c : Chunk) : List (FT 3) × Int :=
  if (chB c && l.all chB) = true then
    match sumO (1, []) c.1 (-1) with
    | none => ([], 3)
    | some x => match factsL c l with
      | none => ([], 3)
      | some d => (leafF 2 2 x :: d, 0)
  else ([], 5)
theorem factsL_step {c : Chunk} {l : List Chunk} {i : Nat} (hi : i < l.length) : factsL c (l.drop i) = match fact1 c l[i] with | none => none | some f => (factsL c (l.drop (i + 1))).map (f ++ ·) := by
  rw [List.drop_eq_getElem_cons hi]
  rfl
theorem fact1_len {c o : Chunk} {f : List (FT 3)} (h : fact1 c o = some f) : f.length ≤ 1 := by
  unfold fact1 at h
  split at h
  · split at h
    · cases h
    · split at h
      · injection h with h; subst h; simp
      · split at h
        · cases h
        · injection h with h; subst h; simp
  · injection h with h; subst h; simp

theorem leaf_is {n : Nat} {R : Nat → Prop} {w : World} {k : Int} {r : Lin} {A : Option Addr} {cap : Nat} (hk : I64 k) (hr : I64 r.1) (h : Monos R w A r.2 cap) : (formV (n + 1)) R w [.int .i64 k, .int .i64 r.1, .slice A r.2.length cap, .slice none 0 0] (leafF n k r) :=
  ⟨A, cap, none, 0, rfl, hk, hr, h, by rw [formV_sz]; exact Sl.empty⟩
theorem sl_one {n : Nat} {R : Nat → Prop} {w : World} {b : Nat} {cs : List Value} {x : FT n} {t : TypeId} (hb : w.heap[b]? = some (.cells cs.toArray t (0, 0))) (hR : R b) (hx : (formV n) R w cs x) : Sl (formV n).mem (formV n).sz R w (some ⟨b, 0, none⟩) [x] 1 := by
  refine ⟨Nat.le_refl _, by decide, ?_, (fun h => by cases h), fun i hi => ?_⟩
  · show 1 * (formV n).bytes ≤ big
    rw [formV_bytes]; decide
  match i, hi with
  | 0, _ =>
    refine ⟨b, 0, rfl, hR, cs, (formV_good n).len hx, fun j u hj => ?_, hx⟩
    simp only [Nat.zero_mul, Nat.zero_add]
    simp [World.cell?, hb]
    exact hj
theorem not_is {n : Nat} {R : Nat → Prop} {w : World} {r : Lin} {b : Nat} {cs : List Value} {t : TypeId} (hb : w.heap[b]? = some (.cells cs.toArray t (0, 0))) (hR : R b) (hx : (formV (n + 1)) R w cs (leafF n 3 r)) : (formV (n + 2)) R w [.int .i64 4, .int .i64 0, .slice none 0 0, .slice (some ⟨b, 0, none⟩) 1 1] (notF n r) :=
  ⟨none, 0, some ⟨b, 0, none⟩, 1, rfl, I64.of (show -9000000000000000000 ≤ (4 : Int) by decide) (show (4 : Int) ≤ 9000000000000000000 by decide), I64.of (show -9000000000000000000 ≤ (0 : Int) by decide) (show (0 : Int) ≤ 9000000000000000000 by decide), Sl.empty, sl_one hb hR hx⟩
theorem or_is {R : Nat → Prop} {w : World} {r s : Lin} {b : Nat} {v0 v1 v2 v3 u0 u1 u2 u3 : Value} {t : TypeId} (hb : w.heap[b]? = some (.cells #[v0, v1, v2, v3, u0, u1, u2, u3] t (0, 0))) (hR : R b) (hx : (formV 2) R w [v0, v1, v2, v3] (notF 0 r)) (hy : (formV 2) R w [u0, u1, u2, u3] (leafF 1 3 s)) :
    (formV 3) R w [.int .i64 6, .int .i64 0, .slice none 0 0, .slice (some ⟨b, 0, none⟩) 2 2] (orF r s) := by
  refine ⟨none, 0, some ⟨b, 0, none⟩, 2, rfl, I64.of (show -9000000000000000000 ≤ (6 : Int) by decide) (show (6 : Int) ≤ 9000000000000000000 by decide), I64.of (show -9000000000000000000 ≤ (0 : Int) by decide) (show (0 : Int) ≤ 9000000000000000000 by decide), Sl.empty, ?_⟩
  refine ⟨Nat.le_refl _, by decide, show 2 * 64 ≤ big by decide, (fun h => by cases h), fun i hi => ?_⟩
  match i, hi with
  | 0, _ =>
    refine ⟨b, 0, rfl, hR, [v0, v1, v2, v3], rfl, fun j u hj => ?_, hx⟩
    match j, hj with
    | 0, hj => simp at hj; subst hj; simp [World.cell?, hb]
    | 1, hj => simp at hj; subst hj; simp [World.cell?, hb]
    | 2, hj => simp at hj; subst hj; simp [World.cell?, hb]
    | 3, hj => simp at hj; subst hj; simp [World.cell?, hb]
  | 1, _ =>
    refine ⟨b, 0, rfl, hR, [u0, u1, u2, u3], rfl, fun j u hj => ?_, hy⟩
    match j, hj with
    | 0, hj => simp at hj; subst hj; simp [World.cell?, hb, formV, nodeV]
    | 1, hj => simp at hj; subst hj; simp [World.cell?, hb, formV, nodeV]
    | 2, hj => simp at hj; subst hj; simp [World.cell?, hb, formV, nodeV]
    | 3, hj => simp at hj; subst hj; simp [World.cell?, hb, formV, nodeV]
theorem ownL_one {α : Type} {V : ElV α} {e : TypeId} {M R : Nat → Prop} {w : World} {g : Nat} {cs : List Value} {x : α} (hg : w.heap[g]? = some (.cells cs.toArray e (0, 0))) (hM : M g) (hlen : cs.length = V.sz) (hx : V (fun k => R k ∧ k ≠ g) w cs x) (G : V.Good) :
    OwnL V e M R w (.slice (some ⟨g, 0, none⟩) 1 1) [x] := by
  refine ⟨[cs], ⟨by simp [hlen], .inr ⟨g, 0, 1, cs.toArray, rfl, hM, hg, Nat.le_refl _, by decide, by simp [hlen], fun j u hj => ?_⟩⟩, rfl, fun i hi hi' => ?_⟩
  · simp at hj ⊢
    exact hj
  · match i, hi with
    | 0, _ => exact G.mono hx (fun k _ hk => ⟨hk.1, fun e => by simp [Value.ownBlock] at e; exact hk.2 e.symm⟩)
theorem formsTy3 : SliceTy Tryd.prog 39 45 (formV 3).sz (formV 3).bytes (.agg #[.int .i64 0, .int .i64 0, .slice none 0 0, .slice none 0 0]) := ⟨Tryd.underlying39, by kernel_rfl, rfl, by decide, by decide⟩

/-- A call returns formulas in new memory, and what is amiss. -/
def FsRet (w : World) (r : List (FT 3) × Int) (e : Ending) (w' : World) : Prop :=
  ∃ A cap, e = .returned (.tuple #[.slice A r.1.length cap, errV 64 r.2]) ∧ Forms (fun k => w.heap.size ≤ k) w' A r.1 cap ∧ Chg No w w'
theorem FsRet.none {w w' : World} {c : Int} (h : Chg No w w') : FsRet w ([], c) (.returned (.tuple #[.slice none 0 0, errV 64 c])) w' := ⟨Option.none, 0, rfl, Sl.empty, h⟩
/-- Of sound forms. -/
theorem sameR_sound {a b : Lin} (h1 : linB a.1 a.2 = true) (h2 : linB b.1 b.2 = true) : sameR a b = (match sumO a b (-1) with | none => (0, (0, []), 3) | some r => (3, r, 0)) := by
  unfold sameR
  rw [h1, h2]
  rfl
set_option maxRecDepth 100000 in
set_option maxHeartbeats 16000000 in
theorem facts_any {R R' : Nat → Prop} {w : World} {A : Option Addr} {l : List Chunk} {cap : Nat} {cs : List Value} {c : Chunk} (hl : Chunks R w A l cap) (hc : chV R' w cs c) (hlen : l.length ≤ 60)
    (hN : -1099511627776 ≤ c.2.2.1 ∧ c.2.2.1 ≤ 1099511627776) (hNs : ∀ o ∈ l, -1099511627776 ≤ o.2.2.1 ∧ o.2.2.1 ≤ 1099511627776) :
    Calls Tryd.prog 12 #[.slice A l.length cap, .agg cs.toArray] w (FsRet w (factsR l c)) := by
  have HSC := Lib.hid (fun W (hW : Chg No w W) => sound_any (chV_good.no hc hW))
  have HSL := Lib.hid (fun W (hW : Chg No w W) => sounds_any (hl.no chE_good hW))
  have HL := Lib.hid (fun W (hW : Chg No w W) => hl.no chE_good hW)
  obtain ⟨cA, cc, cB, cd, rfl, g1, g2, g3, g4, g5, g6⟩ := ch_cells hc
  have HMA := Lib.hid (fun W (hW : Chg No w W) => g2.no monoE_good hW)
  have HMB := Lib.hid (fun W (hW : Chg No w W) => g6.no monoE_good hW)
  obtain ⟨ans, hans⟩ : ∃ ans, ans = factsR l c := ⟨_, rfl⟩
  rw [← hans]
  unfold factsR at hans
  have HAN := Lib.hid hans
  have HNS := Lib.hid hNs
  obtain ⟨hN1, hN2⟩ := hN
  clear hans hl hc hNs g2 g6
  obtain ⟨⟨aC, aT⟩, fd, num, vC, vT⟩ := c
  simp only at HSC HSL HMA HMB HAN g1 g3 g4 g5 hN1 hN2 ⊢
  obtain ⟨w3, hw3⟩ : ∃ w3, w3 = w.alloc (.cells #[.int .i64 aC, .slice cA aT.length cc, .string fd, .int .i64 num, .int .i64 vC, .slice cB vT.length cd] 38) := ⟨_, rfl⟩
  have h3 : Hid (Chg No w w3 ∧ w3.heap[w.heap.size]? = some (.cells #[.int .i64 aC, .slice cA aT.length cc, .string fd, .int .i64 num, .int .i64 vC, .slice cB vT.length cd] 38 (0, 0))) := by
    rw [hw3]; exact ⟨(Chg.refl _ _).alloc _, heap_alloc_new _ _⟩
  have HO : Hid (∀ W, Chg No w3 W → W.cell? ⟨w.heap.size, 0, none⟩ = some (.int .i64 aC) ∧ W.cell? ⟨w.heap.size, 1, none⟩ = some (.slice cA aT.length cc) ∧ W.cell? ⟨w.heap.size, 2, none⟩ = some (.string fd) ∧ W.cell? ⟨w.heap.size, 3, none⟩ = some (.int .i64 num) ∧ W.cell? ⟨w.heap.size, 4, none⟩ = some (.int .i64 vC) ∧ W.cell? ⟨w.heap.size, 5, none⟩ = some (.slice cB vT.length cd)) := fun W hW => obj_6 (hW.obj h3.out.2 id)
  obtain ⟨p0, p1, p2, p3, p4, p5⟩ := HO.out w3 (Chg.refl _ _)
  cases hq1 : chB ((aC, aT), fd, num, vC, vT)
  · obtain rfl : ans = ([], 5) := by rw [HAN.out, hq1]; rfl
    rw [hq1] at HSC
    clear HAN hq1 HSL HL HMA HMB
    go_enter Tryd.func12, Tryd.ntmps12
    go_upto_region 1 with fail
    rw [← hw3]
    clear hw3
    go_wp2_with (go_at_call 22; refine (HSC.out _ h3.out.1).mono ?_; rintro e w4 ⟨rfl, h4⟩)
    go_ret2
    have h := FsRet.none (c := 5) (h3.out.1.thenNo h4)
    rw [errV_of _ (by decide)] at h
    exact h
  rw [hq1] at HSC
  cases hq2 : l.all chB
  · obtain rfl : ans = ([], 5) := by rw [HAN.out, hq1, hq2]; rfl
    rw [hq2] at HSL
    clear HAN hq1 hq2 HL HMA HMB
    go_enter Tryd.func12, Tryd.ntmps12
    go_upto_region 1 with fail
    rw [← hw3]
    clear hw3
    go_wp2_with (first
      | (go_at_call 22; refine (HSC.out _ h3.out.1).mono ?_; rintro e w4 ⟨rfl, h4⟩; have H4 := Lib.hid (h3.out.1.thenNo h4); clear h4)
      | (go_at_call 23; refine (HSL.out _ H4.out).mono ?_; rintro e w5 ⟨rfl, h5⟩))
    go_ret2
    have h := FsRet.none (c := 5) (H4.out.thenNo h5)
    rw [errV_of _ (by decide)] at h
    exact h
  rw [hq2] at HSL
  have HQA : Hid (linB aC aT = true ∧ linB vC vT = true) := by
    unfold chB at hq1
    rw [Bool.and_eq_true] at hq1
    exact hq1
  have HQL : Hid (∀ i (hi : i < l.length), linB l[i].1.1 l[i].1.2 = true ∧ linB l[i].2.2.2.1 l[i].2.2.2.2 = true) := fun i hi => by
    have := List.all_eq_true.1 hq2 _ (List.getElem_mem hi)
    unfold chB at this
    rw [Bool.and_eq_true] at this
    exact this
  rw [hq1, hq2] at HAN
  clear hq1 hq2
  have HS1 := Lib.hid (fun W (hW : Chg No w W) => csum_any (w := W) (1, []) (aC, aT) (A := none) (cap := 0) (R := No) Sl.empty (HMA.out W hW) (-1))
  cases hx : sumO (1, []) (aC, aT) (-1) with
  | none =>
    obtain rfl : ans = ([], 3) := by rw [HAN.out, hx]; rfl
    rw [hx] at HS1
    unfold LinRet at HS1
    rw [show optE (none : Option Lin) = 3 from rfl, show optL none = (0, []) from rfl, errV_of _ (by decide)] at HS1
    clear HAN hx HL HMA HMB HQA HQL
    go_enter Tryd.func12, Tryd.ntmps12
    go_upto_region 1 with fail
    rw [← hw3]
    clear hw3
    go_wp2_with (first
      | (go_at_call 22; refine (HSC.out _ h3.out.1).mono ?_; rintro e w4 ⟨rfl, h4⟩; have H4 := Lib.hid h4; clear h4)
      | (go_at_call 23; refine (HSL.out _ (h3.out.1.thenNo H4.out)).mono ?_; rintro e w5 ⟨rfl, h5⟩; have H5 := Lib.hid (H4.out.thenNo h5); clear h5 p0 p1 p2 p3 p4 p5; obtain ⟨p0, p1, p2, p3, p4, p5⟩ := HO.out w5 H5.out)
      | (go_at_call 25; refine (HS1.out _ (h3.out.1.thenNo H5.out)).mono ?_; rintro e w6 ⟨A6, c6, rfl, g7, h6⟩; have H6 := Lib.hid (H5.out.thenNo h6); clear g7 h6))
    go_ret2
    have h := FsRet.none (c := 3) (h3.out.1.thenNo (H6.out.alloc (.cells #[.int .i64 0, .slice A6 0 c6] 36)))
    rw [errV_of _ (by decide)] at h
    exact h
  | some x =>
    obtain ⟨c0, hc0⟩ : ∃ c0 : Chunk, c0 = ((aC, aT), fd, num, vC, vT) := ⟨_, rfl⟩
    rw [← hc0] at HAN
    have HC0 := Lib.hid hc0
    clear hc0
    have HXS := Lib.hid hx
    have HANn : Hid (factsL c0 l = none → ans = ([], 3)) := fun h => by rw [HAN.out, hx, h]; rfl
    have HANs : Hid (∀ d, factsL c0 l = some d → ans = (leafF 2 2 x :: d, 0)) := fun d h => by rw [HAN.out, hx, h]; rfl
    have HST : Hid (∀ i (hi : i < l.length) D, factsL c0 l = (factsL c0 (l.drop i)).map (D ++ ·) → (∀ f, fact1 c0 l[i] = some f → factsL c0 l = (factsL c0 (l.drop (i + 1))).map ((D ++ f) ++ ·)) ∧ (fact1 c0 l[i] = none → factsL c0 l = none)) := fun i hi D h => by
      rw [factsL_step hi] at h
      refine ⟨fun f hf => ?_, fun hf => ?_⟩
      · rw [hf] at h
        rw [h]
        cases factsL c0 (l.drop (i + 1)) <;> simp
      · rw [hf] at h
        rw [h]; rfl
    rw [hx] at HS1
    unfold LinRet at HS1
    rw [show optE (some x) = 0 from rfl, show optL (some x) = x from rfl, errV_zero] at HS1
    clear HAN hx
    go_enter Tryd.func12, Tryd.ntmps12
    go_upto_region 1 with fail
    rw [← hw3]
    clear hw3
    go_upto_region 4 with (first
      | (go_at_call 22; refine (HSC.out _ h3.out.1).mono ?_; rintro e w4 ⟨rfl, h4⟩; have H4 := Lib.hid h4; clear h4)
      | (go_at_call 23; refine (HSL.out _ (h3.out.1.thenNo H4.out)).mono ?_; rintro e w5 ⟨rfl, h5⟩; have H5 := Lib.hid (H4.out.thenNo h5); clear h5 p0 p1 p2 p3 p4 p5; obtain ⟨p0, p1, p2, p3, p4, p5⟩ := HO.out w5 H5.out)
      | (go_at_call 25; refine (HS1.out _ (h3.out.1.thenNo H5.out)).mono ?_; rintro e w6 ⟨A6, c6, rfl, g7, h6⟩; have H6 := Lib.hid (H5.out.thenNo h6); have G6 := Lib.hid (g7.mono monoE_good (R' := fun k => w3.heap.size ≤ k) (fun k _ hk => Nat.le_trans H5.out.size hk)); clear g7 h6))
    obtain ⟨w7, hw7⟩ : ∃ w7, w7 = w6.alloc (.cells #[.int .i64 x.1, .slice A6 x.2.length c6] 36) := ⟨_, rfl⟩
    rw [← hw7]
    have H7 : Hid (Chg No w3 w7 ∧ Monos (fun k => w3.heap.size ≤ k) w7 A6 x.2 c6 ∧ w7.heap[w6.heap.size]? = some (.cells #[.int .i64 x.1, .slice A6 x.2.length c6] 36 (0, 0))) := by
      rw [hw7]; exact ⟨H6.out.alloc _, G6.out.no monoE_good ((Chg.refl _ _).alloc _), heap_alloc_new _ _⟩
    have hxI : I64 x.1 := by
      have := coefB_le (linB_sound (sumO_sound (a := (1, [])) (b := (aC, aT)) (n := -1) HXS.out)).1
      exact I64.of (by omega) (by omega)
    have HXI := Lib.hid hxI
    clear hw7 p0 p1 p2 p3 p4 p5 hxI HXS
    obtain ⟨y0, y1, _, _⟩ := obj_2 H7.out.2.2
    go_upto_region 7 with fail
    obtain ⟨w8, hw8⟩ : ∃ w8, w8 = w7.alloc (.cells #[.int .i64 2, .int .i64 x.1, .slice A6 x.2.length c6, .slice none 0 0] 45) := ⟨_, rfl⟩
    rw [← hw8]
    obtain ⟨g8, hg8⟩ : ∃ g8, g8 = w7.heap.size := ⟨_, rfl⟩
    rw [← hg8]
    have H8 : Hid (Chg No w3 w8 ∧ OwnL (formV 3) 45 (fun k => w3.heap.size ≤ k) (fun k => w3.heap.size ≤ k) w8 (.slice (some ⟨g8, 0, none⟩) 1 1) [leafF 2 2 x]) := by
      rw [hw8, hg8]
      have ha : Chg No w7 (w7.alloc (.cells #[.int .i64 2, .int .i64 x.1, .slice A6 x.2.length c6, .slice none 0 0] 45)) := (Chg.refl _ _).alloc _
      refine ⟨H7.out.1.thenNo ha, ownL_one (cs := [.int .i64 2, .int .i64 x.1, .slice A6 x.2.length c6, .slice none 0 0]) (heap_alloc_new _ _) H7.out.1.size rfl ?_ (formV_good 3)⟩
      exact leaf_is (I64.of (by decide) (by decide)) HXI.out ((H7.out.2.1.mono monoE_good (R' := fun k => w3.heap.size ≤ k ∧ k ≠ w7.heap.size) (fun k hk h => ⟨h, by omega⟩)).no monoE_good ha)
    clear hw8 hg8 y0 y1 HS1 HSC HSL H7 H6 H5 H4 G6 HXI
    have hbl : (l.length : Int) ≤ 60 := by omega
    go_wp2_with fail
    go_loopw [8, 38] (fun s8 s38 wr => ∃ (i : Nat) (v : Value), v = s8 ∧ s38 = .int .i64 i ∧ i ≤ l.length ∧ Hid (∃ D : List (FT 3), D.length ≤ i ∧ OwnL (formV 3) 45 (fun k => w3.heap.size ≤ k) (fun k => w3.heap.size ≤ k) wr v (leafF 2 2 x :: D) ∧ Chg No w3 wr ∧ factsL c0 l = (factsL c0 (l.drop i)).map (D ++ ·))) (fun _ s38 _ => l.length - (intOf s38).toNat)
    case atStart => exact ⟨0, _, rfl, rfl, Nat.zero_le _, [], Nat.le_refl _, H8.out.2, H8.out.1, by rw [List.drop_zero]; cases factsL c0 l <;> simp⟩
    case round =>
      obtain ⟨i, v, rfl, rfl, gi, hst⟩ := hrel
      clear H8
      obtain ⟨D, hD, hown, hch, heq⟩ := hst.out
      clear hst
      by_cases hlt : i < l.length
      · obtain ⟨b, o, B1, d1, C1, e1, rfl, hk, x0, x1, x2, x3, x4, x5⟩ := chs_at (HL.out wr (h3.out.1.thenNo hch)) i hlt
        obtain ⟨hq1, hq2⟩ := HQL.out i hlt
        obtain ⟨n1, n2⟩ := HNS.out _ (List.getElem_mem hlt)
        obtain ⟨hs1, hs2⟩ := HST.out i hlt D heq
        have i0 : (0 : Int) ≤ (i : Int) := by omega
        have i1 : (i : Int) < (l.length : Int) := by omega
        generalize l[i] = ob at *
        obtain ⟨⟨oC, oT⟩, ofd, on, ovC, ovT⟩ := ob
        simp only at hk x0 x1 x2 x3 x4 x5 hq1 hq2 n1 n2
        obtain ⟨m1, m2, m3, m4, m5, m6⟩ := hk
        have HOW := Lib.hid hown
        have HCH := Lib.hid hch
        have HS1 := Lib.hid hs1
        have HS2 := Lib.hid hs2
        have HQ := Lib.hid (And.intro hq1 hq2)
        have HM := Lib.hid (And.intro m2 m6)
        have hD2 : D.length ≤ 60 := by omega
        clear hown hch hs1 hs2 heq hq1 hq2 m1 m2 m3 m4 m5 m6
        go_upto_region 10 with fail
        obtain ⟨w5, hw5⟩ : ∃ w5, w5 = wr.alloc (.cells #[.int .i64 oC, .slice B1 oT.length d1, .string ofd, .int .i64 on, .int .i64 ovC, .slice C1 ovT.length e1] 38) := ⟨_, rfl⟩
        rw [← hw5]
        obtain ⟨b5, hb5⟩ : ∃ b5, b5 = wr.heap.size := ⟨_, rfl⟩
        rw [← hb5]
        have C5 : Hid (Chg No wr w5 ∧ w5.heap[b5]? = some (.cells #[.int .i64 oC, .slice B1 oT.length d1, .string ofd, .int .i64 on, .int .i64 ovC, .slice C1 ovT.length e1] 38 (0, 0))) := by
          rw [hw5, hb5]; exact ⟨(Chg.refl _ _).alloc _, heap_alloc_new _ _⟩
        have HB5 : Hid (wr.heap.size ≤ b5) := by unfold Hid; omega
        clear hw5 hb5 x0 x1 x2 x3 x4 x5
        obtain ⟨p0, p1, p2, p3, p4, p5⟩ := HO.out w5 (HCH.out.thenNo C5.out.1)
        obtain ⟨x0, x1, x2, x3, x4, x5⟩ := obj_6 C5.out.2
        by_cases hf : ofd.toList = fd.toList
        rotate_left
        · have hf1 : (ofd.toList == fd.toList) = false := by simpa using hf
          have HE := Lib.hid (HS1.out [] (by rw [HC0.out]; unfold fact1; exact if_neg hf))
          rw [List.append_nil] at HE
          clear hf
          go_wp2_with fail
          go_roundw
          case rel => exact ⟨i + 1, _, rfl, by go_num, hlt, D, by omega, HOW.out.no (formV_good 3) C5.out.1, HCH.out.thenNo C5.out.1, HE.out⟩
          case measure => simp [intOf]; omega
        have hf1 : (ofd.toList == fd.toList) = true := by simpa using hf
        have HSM := Lib.hid (csame_any (w := w5) (oC, oT) (aC, aT) (HM.out.1.no monoE_good C5.out.1) (HMA.out w5 (h3.out.1.thenNo (HCH.out.thenNo C5.out.1))))
        rw [sameR_sound (a := (oC, oT)) (b := (aC, aT)) HQ.out.1 HQA.out.1] at HSM
        unfold SRet at HSM
        cases hr : sumO (oC, oT) (aC, aT) (-1) with
        | none =>
          have HE := Lib.hid (HANn.out (HS2.out (by rw [HC0.out]; unfold fact1; rw [if_pos hf]; show (match sumO (oC, oT) (aC, aT) (-1) with | none => none | some r => _) = none; rw [hr])))
          rw [hr] at HSM
          rw [errV_of _ (show (3 : Int) ≠ 0 by decide)] at HSM
          clear hr hf
          go_wp2_with (go_at_call 14; refine HSM.out.mono ?_; rintro e w6 ⟨A6, c6, rfl, _, h6⟩; have H6 := Lib.hid ((h3.out.1.thenNo (HCH.out.thenNo C5.out.1)).thenNo h6); clear h6)
          go_ret2
          have h := FsRet.none (c := 3) (H6.out.alloc (.cells #[.int .i64 0, .int .i64 0, .slice A6 0 c6, .slice none 0 0] 45))
          rw [errV_of _ (by decide), ← HE.out] at h
          exact h
        | some r =>
          rw [hr] at HSM
          rw [errV_zero] at HSM
          have hrI : I64 r.1 := by
            have := coefB_le (linB_sound (sumO_sound hr)).1
            exact I64.of (by omega) (by omega)
          have HF1 : Hid (fact1 c0 ((oC, oT), ofd, on, ovC, ovT) = if 64 < on + num then some [notF 1 r] else match sumO (ovC, ovT) (vC, vT) (-1) with | none => none | some s => some [orF r s]) := by
            unfold Hid
            rw [HC0.out]; unfold fact1; rw [if_pos hf]
            show (match sumO (oC, oT) (aC, aT) (-1) with | none => none | some r => _) = _
            rw [hr]
          have HRI := Lib.hid hrI
          clear hf hr hrI
          have HVR : Hid (∀ q, v.ownBlock = some q → w3.heap.size ≤ q ∧ q < wr.heap.size) := fun q hq => HOW.out.mine q hq
          go_upto_region 12 with (go_at_call 14; refine HSM.out.mono ?_; rintro e w6 ⟨A6, c6, rfl, g6, h6⟩; have G6 := Lib.hid g6; have H6 := Lib.hid h6; clear g6 h6)
          obtain ⟨w7, hw7⟩ : ∃ w7, w7 = w6.alloc (.cells #[.int .i64 3, .int .i64 r.1, .slice A6 r.2.length c6, .slice none 0 0] 45) := ⟨_, rfl⟩
          rw [← hw7]
          obtain ⟨b7, hb7⟩ : ∃ b7, b7 = w6.heap.size := ⟨_, rfl⟩
          rw [← hb7]
          have C7 : Hid (Chg No w5 w7 ∧ w7.heap[b7]? = some (.cells #[.int .i64 3, .int .i64 r.1, .slice A6 r.2.length c6, .slice none 0 0] 45 (0, 0)) ∧ Monos (fun k => w5.heap.size ≤ k) w7 A6 r.2 c6) := by
            rw [hw7, hb7]; exact ⟨H6.out.alloc _, heap_alloc_new _ _, G6.out.no monoE_good ((Chg.refl _ _).alloc _)⟩
          clear hw7 hb7 p0 p1 p2 p3 p4 p5 x0 x1 x2 x3 x4 x5 H6 G6
          obtain ⟨⟨y0, y1, y2, y3⟩, _⟩ := obj_4f C7.out.2.1
          obtain ⟨p0, p1, p2, p3, p4, p5⟩ := HO.out w7 (HCH.out.thenNo (C5.out.1.thenNo C7.out.1))
          obtain ⟨x0, x1, x2, x3, x4, x5⟩ := obj_6 (C7.out.1.obj C5.out.2 id)
          go_upto_region 15 with fail
          obtain ⟨w8, hw8⟩ : ∃ w8, w8 = (w7.alloc (.cells #[.int .i64 3, .int .i64 r.1, .slice A6 r.2.length c6, .slice none 0 0] 45)).alloc (.cells #[.int .i64 4, .int .i64 0, .slice none 0 0, .slice (some ⟨w7.heap.size, 0, none⟩) 1 1] 45) := ⟨_, rfl⟩
          rw [← hw8]
          obtain ⟨b8, hb8⟩ : ∃ b8, b8 = w7.heap.size := ⟨_, rfl⟩
          rw [← hb8]
          have C8 : Hid (Chg No w5 w8 ∧ w8.heap[b8]? = some (.cells #[.int .i64 3, .int .i64 r.1, .slice A6 r.2.length c6, .slice none 0 0] 45 (0, 0)) ∧ w8.heap[b8 + 1]? = some (.cells #[.int .i64 4, .int .i64 0, .slice none 0 0, .slice (some ⟨b8, 0, none⟩) 1 1] 45 (0, 0)) ∧ Monos (fun k => w5.heap.size ≤ k) w8 A6 r.2 c6 ∧ w5.heap.size ≤ b8) := by
            rw [hw8, hb8]
            have ha : Chg No w7 ((w7.alloc (.cells #[.int .i64 3, .int .i64 r.1, .slice A6 r.2.length c6, .slice none 0 0] 45)).alloc (.cells #[.int .i64 4, .int .i64 0, .slice none 0 0, .slice (some ⟨w7.heap.size, 0, none⟩) 1 1] 45)) := ((Chg.refl _ _).alloc _).alloc _
            exact ⟨C7.out.1.thenNo ha, at_old (heap_alloc_new _ _), at_new (by simp), C7.out.2.2.no monoE_good ha, C7.out.1.size⟩
          clear hw8 hb8 p0 p1 p2 p3 p4 p5 x0 x1 x2 x3 x4 x5 y0 y1 y2 y3
          obtain ⟨⟨y0, y1, y2, y3⟩, _⟩ := obj_4f C8.out.2.2.1
          obtain ⟨p0, p1, p2, p3, p4, p5⟩ := HO.out w8 (HCH.out.thenNo (C5.out.1.thenNo C8.out.1))
          obtain ⟨x0, x1, x2, x3, x4, x5⟩ := obj_6 (C8.out.1.obj C5.out.2 id)
          have HZR : Hid (w3.heap.size ≤ wr.heap.size ∧ wr.heap.size < w5.heap.size) := ⟨HCH.out.size, by
            have := (Array.getElem?_eq_some_iff.1 C5.out.2).1
            have h0 := C5.out.1.size
            have hb : wr.heap.size ≤ b5 := HB5.out
            omega⟩
          by_cases hgt : 64 < on + num
          · have HE := Lib.hid (HS1.out [notF 1 r] (by rw [HF1.out, if_pos hgt]))
            have HOWN : Hid (OwnL (formV 3) 45 (fun k => w3.heap.size ≤ k) (fun k => w3.heap.size ≤ k) w8 v (leafF 2 2 x :: D)) := HOW.out.no (formV_good 3) (C5.out.1.thenNo C8.out.1)
            have HZ : Hid (∀ q, w8.heap.size ≤ q → w3.heap.size ≤ q) := fun q hq => by have := C8.out.1.size; have := C5.out.1.size; have := HZR.out.1; omega
            have HXV : Hid ((formV 3) (fun k => w3.heap.size ≤ k ∧ v.ownBlock ≠ some k) w8 [.int .i64 4, .int .i64 0, .slice none 0 0, .slice (some ⟨b8, 0, none⟩) 1 1] (notF 1 r)) := by
              have hz := HZR.out
              have far : ∀ k, w5.heap.size ≤ k → w3.heap.size ≤ k ∧ v.ownBlock ≠ some k := fun k hk => ⟨by omega, fun e => by have := (HVR.out k e).2; omega⟩
              exact not_is (cs := [.int .i64 3, .int .i64 r.1, .slice A6 r.2.length c6, .slice none 0 0]) C8.out.2.1 (far _ C8.out.2.2.2.2) (leaf_is (I64.of (by decide) (by decide)) HRI.out (C8.out.2.2.2.1.mono monoE_good (fun k _ hk => far k hk)))
            have HNX : Hid (∀ w12, Chg (fun q => v.ownBlock = some q) w8 w12 → Chg No w3 w12) := fun w12 g => chgpast2 (HCH.out.thenNo (C5.out.1.thenNo C8.out.1)) g (fun k hk => (HVR.out k hk).1)
            go_wp2_with (at_builtin; refine wpList_pushLn (formV_good 3) formsTy3 rfl (.tmp 67) (.tmp 69) rfl (M := fun k => w3.heap.size ≤ k) (R := fun k => w3.heap.size ≤ k) (w := w8) (fun q hq => HZ.out q hq) HOWN.out rfl (cs := [.int .i64 4, .int .i64 0, .slice none 0 0, .slice (some ⟨b8, 0, none⟩) 1 1]) (x := notF 1 r) HXV.out (by simp [Value.oneCell']) (by simp) rfl (show ((leafF 2 2 x :: D).length + 1) * 64 ≤ 140737488355328 by simp only [List.length_cons]; omega) ?_; intro A2 cap2 w12 g1 g2; have G1 := Lib.hid g1; have G2 := Lib.hid g2; clear g1 g2)
            go_roundw
            case rel => exact ⟨i + 1, _, rfl, by go_num, hlt, D ++ [notF 1 r], by simp; omega, G1.out, HNX.out _ G2.out, HE.out⟩
            case measure => simp [intOf]; omega
          have HSV := Lib.hid (csame_any (w := w8) (ovC, ovT) (vC, vT) (HM.out.2.no monoE_good (C5.out.1.thenNo C8.out.1)) (HMB.out w8 (h3.out.1.thenNo (HCH.out.thenNo (C5.out.1.thenNo C8.out.1)))))
          rw [sameR_sound (a := (ovC, ovT)) (b := (vC, vT)) HQ.out.2 HQA.out.2] at HSV
          unfold SRet at HSV
          have hle : ¬ (64 : Int) < on + num := hgt
          cases hs : sumO (ovC, ovT) (vC, vT) (-1) with
          | none =>
            have HE := Lib.hid (HANn.out (HS2.out (by rw [HF1.out, if_neg hgt, hs])))
            rw [hs] at HSV
            rw [errV_of _ (show (3 : Int) ≠ 0 by decide)] at HSV
            clear hs hgt
            go_wp2_with (go_at_call 14; refine HSV.out.mono ?_; rintro e w9 ⟨A9, c9, rfl, _, h9⟩; have H9 := Lib.hid ((h3.out.1.thenNo (HCH.out.thenNo (C5.out.1.thenNo C8.out.1))).thenNo h9); clear h9)
            go_ret2
            have h := FsRet.none (c := 3) (H9.out.alloc (.cells #[.int .i64 0, .int .i64 0, .slice A9 0 c9, .slice none 0 0] 45))
            rw [errV_of _ (by decide), ← HE.out] at h
            exact h
          | some s =>
            have HE := Lib.hid (HS1.out [orF r s] (by rw [HF1.out, if_neg hgt, hs]))
            rw [hs] at HSV
            rw [errV_zero] at HSV
            have hsI : I64 s.1 := by
              have := coefB_le (linB_sound (sumO_sound hs)).1
              exact I64.of (by omega) (by omega)
            have HSI := Lib.hid hsI
            clear hs hgt hsI
            go_upto_region 18 with (go_at_call 14; refine HSV.out.mono ?_; rintro e w9 ⟨A9, c9, rfl, g9, h9⟩; have G9 := Lib.hid g9; have H9 := Lib.hid h9; clear g9 h9)
            obtain ⟨w10, hw10⟩ : ∃ w10, w10 = w9.alloc (.cells #[.int .i64 3, .int .i64 s.1, .slice A9 s.2.length c9, .slice none 0 0] 45) := ⟨_, rfl⟩
            rw [← hw10]
            obtain ⟨b10, hb10⟩ : ∃ b10, b10 = w9.heap.size := ⟨_, rfl⟩
            rw [← hb10]
            have C10 : Hid (Chg No w8 w10 ∧ w10.heap[b10]? = some (.cells #[.int .i64 3, .int .i64 s.1, .slice A9 s.2.length c9, .slice none 0 0] 45 (0, 0)) ∧ Monos (fun k => w8.heap.size ≤ k) w10 A9 s.2 c9) := by
              rw [hw10, hb10]; exact ⟨H9.out.alloc _, heap_alloc_new _ _, G9.out.no monoE_good ((Chg.refl _ _).alloc _)⟩
            clear hw10 hb10 p0 p1 p2 p3 p4 p5 x0 x1 x2 x3 x4 x5 y0 y1 y2 y3 H9 G9
            obtain ⟨⟨y0, y1, y2, y3⟩, _⟩ := obj_4f (C10.out.1.obj C8.out.2.2.1 id)
            obtain ⟨⟨z0, z1, z2, z3⟩, _⟩ := obj_4f C10.out.2.1
            obtain ⟨w11, hw11⟩ : ∃ w11, w11 = w10.alloc (.cells #[.int .i64 4, .int .i64 0, .slice none 0 0, .slice (some ⟨b8, 0, none⟩) 1 1, .int .i64 3, .int .i64 s.1, .slice A9 s.2.length c9, .slice none 0 0] 45) := ⟨_, rfl⟩
            have H11 : Hid (Chg No w8 w11 ∧ w11.heap[w10.heap.size]? = some (.cells #[.int .i64 4, .int .i64 0, .slice none 0 0, .slice (some ⟨b8, 0, none⟩) 1 1, .int .i64 3, .int .i64 s.1, .slice A9 s.2.length c9, .slice none 0 0] 45 (0, 0)) ∧ Monos (fun k => w8.heap.size ≤ k) w11 A9 s.2 c9) := by
              rw [hw11]; exact ⟨C10.out.1.alloc _, heap_alloc_new _ _, C10.out.2.2.no monoE_good ((Chg.refl _ _).alloc _)⟩
            have HOWN : Hid (OwnL (formV 3) 45 (fun k => w3.heap.size ≤ k) (fun k => w3.heap.size ≤ k) w11 v (leafF 2 2 x :: D)) := HOW.out.no (formV_good 3) (C5.out.1.thenNo (C8.out.1.thenNo H11.out.1))
            have HZ : Hid (∀ q, w11.heap.size ≤ q → w3.heap.size ≤ q) := fun q hq => by have := H11.out.1.size; have := C8.out.1.size; have := C5.out.1.size; have := HZR.out.1; omega
            have HXV : Hid ((formV 3) (fun k => w3.heap.size ≤ k ∧ v.ownBlock ≠ some k) w11 [.int .i64 6, .int .i64 0, .slice none 0 0, .slice (some ⟨w10.heap.size, 0, none⟩) 2 2] (orF r s)) := by
              have hz := HZR.out
              have z8 := C8.out.1.size
              have z10 := C10.out.1.size
              have far : ∀ k, w5.heap.size ≤ k → w3.heap.size ≤ k ∧ v.ownBlock ≠ some k := fun k hk => ⟨by omega, fun e => by have := (HVR.out k e).2; omega⟩
              refine or_is H11.out.2.1 (far _ (by omega)) ?_ (leaf_is (I64.of (by decide) (by decide)) HSI.out (H11.out.2.2.mono monoE_good (fun k _ hk => far k (by omega))))
              exact not_is (cs := [.int .i64 3, .int .i64 r.1, .slice A6 r.2.length c6, .slice none 0 0]) (H11.out.1.obj C8.out.2.1 id) (far _ C8.out.2.2.2.2) (leaf_is (I64.of (by decide) (by decide)) HRI.out ((C8.out.2.2.2.1.no monoE_good H11.out.1).mono monoE_good (fun k _ hk => far k hk)))
            have HNX : Hid (∀ w12, Chg (fun q => v.ownBlock = some q) w11 w12 → Chg No w3 w12) := fun w12 g => chgpast2 (HCH.out.thenNo (C5.out.1.thenNo (C8.out.1.thenNo H11.out.1))) g (fun k hk => (HVR.out k hk).1)
            rw [hw11] at HOWN HZ HXV HNX
            clear hw11 H11
            go_wp2_with (at_builtin; refine wpList_pushLn (formV_good 3) formsTy3 rfl (.tmp 82) (.tmp 87) rfl (M := fun k => w3.heap.size ≤ k) (R := fun k => w3.heap.size ≤ k) (w := w10.alloc (.cells #[.int .i64 4, .int .i64 0, .slice none 0 0, .slice (some ⟨b8, 0, none⟩) 1 1, .int .i64 3, .int .i64 s.1, .slice A9 s.2.length c9, .slice none 0 0] 45)) (fun q hq => HZ.out q hq) HOWN.out rfl (cs := [.int .i64 6, .int .i64 0, .slice none 0 0, .slice (some ⟨w10.heap.size, 0, none⟩) 2 2]) (x := orF r s) HXV.out (by simp [Value.oneCell']) (by simp) rfl (show ((leafF 2 2 x :: D).length + 1) * 64 ≤ 140737488355328 by simp only [List.length_cons]; omega) ?_; intro A2 cap2 w12 g1 g2; have G1 := Lib.hid g1; have G2 := Lib.hid g2; clear g1 g2)
            go_roundw
            case rel => exact ⟨i + 1, _, rfl, by go_num, hlt, D ++ [orF r s], by simp; omega, G1.out, HNX.out _ G2.out, HE.out⟩
            case measure => simp [intOf]; omega
      · have hdr : l.drop i = [] := List.drop_eq_nil_of_le (by omega)
        have hfl : factsL c0 l = some D := by rw [heq, hdr]; simp [factsL]
        have HE := Lib.hid (HANs.out D hfl)
        obtain ⟨A2, cap2, rfl, hsl⟩ := hown.sl (formV_good 3) (by show (leafF 2 2 x :: D).length * 64 ≤ big; unfold big; simp only [List.length_cons]; omega)
        have hz := h3.out.1.size
        have HFIN : Hid (FsRet w ans (.returned (.tuple #[.slice A2 (leafF 2 2 x :: D).length cap2, .nilIface])) wr) := by
          rw [HE.out]
          refine ⟨A2, cap2, by rw [errV_zero], hsl.mono (formE_good 3) (fun k _ hk => ?_), h3.out.1.thenNo hch⟩
          rcases hk with hk | hk <;> exact Nat.le_trans hz hk
        obtain ⟨nn, hnn⟩ : ∃ nn, nn = (leafF 2 2 x :: D).length := ⟨_, rfl⟩
        rw [← hnn] at HFIN
        rw [← hnn]
        clear hnn hown hch heq hsl hfl hdr
        go_wp2_with fail
        go_ret2
        exact HFIN.out
end Go.Proofs.YtpmndblakmobdaaDoor
/- ChI -/
namespace Go.Proofs.YtpmndblakmobdaaDoor
open Go Go.RowKit

section
variable {ops : Array Oper} {rest : List Oper} {o : Oper} {act : Act} {Q : Exit → Act → World → Prop}
/-- append(s, terms...) at a step of a region that keeps its order. -/
theorem wpList_append_monos (hgd : o.guard = none) (s x : Operand) (ho : o.op = .call { callee := .builtin .append, args := #[s, x], argTypes := #[34, 34] })
    {M R : Nat → Prop} {w : World} (hM : ∀ k, w.heap.size ≤ k → M k) {v : Value} {l l' : List Mono} (hown : OMonos M w v l) (hs : act.eval s = v) {A : Option Addr} {n cap : Nat} (hn : n = l'.length) (hl : Monos R w A l' cap) (hx : act.eval x = .slice A n cap) (hb : (l.length + l'.length) * 16 ≤ 140737488355328)
    (h : ∀ A' cap' w', OMonos M w' (.slice A' (l ++ l').length cap') (l ++ l') → Chg (fun k => v.ownBlock = some k) w w' → wpList Tryd.prog ops Q rest (act.put o.dst (.slice A' (l ++ l').length cap')) w') : wpList Tryd.prog ops Q (o :: rest) act w :=
  wpList_plain hgd fun K hK => by
    have hw : Region.wanted o (yielded ops act.tmps) = true := by simp [Region.wanted, hgd]
    have := step_append_monos (ops := ops) (K := K) (Q := Q) (F := True) hgd s x ho hM hown hs hn hl hx hb (fun A' cap' w' g1 g2 => hK _ _ (h A' cap' w' g1 g2))
    rw [if_pos hw] at this
    exact this
end
theorem scale_one (t : List Mono) : scale 1 t = t := by
  unfold scale
  induction t with
  | nil => rfl
  | cons m t ih => rw [List.map_cons, ih, Int.one_mul]
/-- Of sound forms. -/
theorem sumO_is {a b : Lin} {n : Int} (hA : linB a.1 a.2 = true) (hB : linB b.1 b.2 = true) (hn : timesB n = true) :
    (sumErr (a.1 + n * b.1) (a.2 ++ scale n b.2) = 0 ∧ sumO a b n = some (sumLin (a.1 + n * b.1) (a.2 ++ scale n b.2))) ∨ (sumErr (a.1 + n * b.1) (a.2 ++ scale n b.2) ≠ 0 ∧ sumO a b n = none ∧ sumLin (a.1 + n * b.1) (a.2 ++ scale n b.2) = (0, [])) := by
  have h1 : timesB 1 = true := by decide
  have e1 : addErr a b 1 n = sumErr (a.1 + n * b.1) (a.2 ++ scale n b.2) := by
    unfold addErr; rw [hA, hB, h1, hn, scale_one, Int.one_mul]; rfl
  have e2 : addLin a b 1 n = sumLin (a.1 + n * b.1) (a.2 ++ scale n b.2) := by
    unfold addLin; rw [hA, hB, h1, hn, scale_one, Int.one_mul]; rfl
  unfold sumO
  rw [e1, e2]
  by_cases h : sumErr (a.1 + n * b.1) (a.2 ++ scale n b.2) = 0
  · exact .inl ⟨h, by rw [if_pos h]⟩
  · exact .inr ⟨h, by rw [if_neg h], by unfold sumLin; rw [if_neg h]⟩
def MRet (w : World) (o : Option Lin) (e : Ending) (w' : World) : Prop :=
  ∃ A cap, e = .returned (.tuple #[.agg #[.int .i64 (optL o).1, .slice A (optL o).2.length cap], .bool o.isSome]) ∧ Monos (fun k => w.heap.size ≤ k) w' A (optL o).2 cap ∧ Chg No w w'

set_option maxRecDepth 100000 in
set_option maxHeartbeats 1000000 in
theorem more_any {R R' : Nat → Prop} {w : World} (a b : Lin) {A A' : Option Addr} {cap cap' : Nat} (ht : Monos R w A a.2 cap) (ht' : Monos R' w A' b.2 cap') (n : Int) (hA : linB a.1 a.2 = true) (hB : linB b.1 b.2 = true) (hn : timesB n = true) :
    Calls Tryd.prog 27 #[.agg #[.int .i64 a.1, .slice A a.2.length cap], .agg #[.int .i64 b.1, .slice A' b.2.length cap'], .int .i64 n] w (MRet w (sumO a b n)) := by
  have HTA := Lib.hid (fun W (hW : Chg No w W) => ht.no monoE_good hW)
  obtain ⟨hnl, hnu⟩ := timesB_le hn
  have hsB := linB_sound hB
  have hsA := linB_sound hA
  have HTI := Lib.hid (fun W (hW : Chg No w W) => ref01Times_any (w := W) b.1 (ht'.no monoE_good hW) n (by have := hsB.2.1; omega) (fun m hm => by
    obtain ⟨i, hi, rfl⟩ := List.getElem_of_mem hm
    have h := coefB_le (hsB.2.2 i hi).2.1
    have := mulT hnl hnu h.1 h.2
    omega))
  have hok := scale_ok hA hB (show timesB 1 = true by decide) hn
  rw [scale_one] at hok
  have HOK := Lib.hid hok
  have hso := sumO_is hA hB hn
  have c0 := coefB_le hsA.1
  have c1 := coefB_le hsB.1
  obtain ⟨m1, m2⟩ := mulT hnl hnu c1.1 c1.2
  have HLA : Hid (a.2.length ≤ 64) := hsA.2.1
  have HLB : Hid (b.2.length ≤ 64) := hsB.2.1
  obtain ⟨c01, c02⟩ := c0
  clear ht ht' hA hB hn hsA hsB hok c1
  generalize sumO a b n = so at *
  obtain ⟨ca, ta⟩ := a
  obtain ⟨cb, tb⟩ := b
  simp only at HTA HTI HOK hso m1 m2 HLA HLB c01 c02 ⊢
  obtain ⟨w3, hw3⟩ : ∃ w3, w3 = ((w.alloc (.cells #[.int .i64 ca, .slice A ta.length cap] 36)).alloc (.cells #[.int .i64 cb, .slice A' tb.length cap'] 36)).alloc (.cells #[.int .i64 0, .slice none 0 0] 36) := ⟨_, rfl⟩
  have h3 : Hid (Chg No w w3 ∧ w3.heap[w.heap.size]? = some (.cells #[.int .i64 ca, .slice A ta.length cap] 36 (0, 0)) ∧ w3.heap[w.heap.size + 1]? = some (.cells #[.int .i64 cb, .slice A' tb.length cap'] 36 (0, 0)) ∧ w3.heap[w.heap.size + 1 + 1]? = some (.cells #[.int .i64 0, .slice none 0 0] 36 (0, 0)) ∧ w3.heap.size = w.heap.size + 1 + 1 + 1) := by
    rw [hw3]
    exact ⟨(((Chg.refl _ _).alloc _).alloc _).alloc _, at_old (at_old (heap_alloc_new _ _)), at_old (at_new (by simp)), at_new (by simp), by simp⟩
  have HO : Hid (∀ W, Chg No w3 W → (W.cell? ⟨w.heap.size, 0, none⟩ = some (.int .i64 ca) ∧ W.cell? ⟨w.heap.size, 1, none⟩ = some (.slice A ta.length cap)) ∧ (W.cell? ⟨w.heap.size + 1, 0, none⟩ = some (.int .i64 cb) ∧ W.cell? ⟨w.heap.size + 1, 1, none⟩ = some (.slice A' tb.length cap')) ∧ (W.cell? ⟨w.heap.size + 1 + 1, 0, none⟩ = some (.int .i64 0) ∧ W.cell? ⟨w.heap.size + 1 + 1, 1, none⟩ = some (.slice none 0 0) ∧ W.frozen? ⟨w.heap.size + 1 + 1, 0, none⟩ = false ∧ W.frozen? ⟨w.heap.size + 1 + 1, 1, none⟩ = false)) := fun W hW => by
    obtain ⟨a1, a2, _, _⟩ := obj_2 (hW.obj h3.out.2.1 id)
    obtain ⟨b1, b2, _, _⟩ := obj_2 (hW.obj h3.out.2.2.1 id)
    exact ⟨⟨a1, a2⟩, ⟨b1, b2⟩, obj_2 (hW.obj h3.out.2.2.2.1 id)⟩
  obtain ⟨⟨p0, p1⟩, ⟨q0, q1⟩, r0, r1, rf0, rf1⟩ := HO.out w3 (Chg.refl _ _)
  go_enter Tryd.func27, Tryd.ntmps27
  go_upto_region 1 with fail
  rw [← hw3]
  clear hw3
  go_upto_region 3 with (at_builtin; refine wpList_append_monos rfl (.tmp 11) (.tmp 13) rfl (M := fun k => w3.heap.size ≤ k) (w := w3) (fun k hk => hk) (OwnL.nil _ _ _ _ _) rfl (l := []) rfl (HTA.out w3 h3.out.1) rfl (show ((0 : Nat) + ta.length) * 16 ≤ 140737488355328 by have := HLA.out; omega) ?_; intro A4 cap4 w4 g4 h4; have G4 := Lib.hid g4; have H4 : Hid (Chg No w3 w4) := h4.mono (fun k hk _ => by simp [Value.ownBlock] at hk); clear g4 h4)
  rw [List.nil_append] at G4
  clear p0 p1 q0 q1 r0 r1 rf0 rf1
  obtain ⟨⟨p0, p1⟩, ⟨q0, q1⟩, r0, r1, rf0, rf1⟩ := HO.out w4 H4.out
  have hz4 : w3.heap.size ≤ w4.heap.size := H4.out.size
  have HSL : Hid ((scale n tb).length * 16 ≤ big) := by rw [scale_len]; have := HLB.out; unfold big Hid; omega
  have HSL2 : Hid ((ta.length + (scale n tb).length) * 16 ≤ 140737488355328) := by rw [scale_len]; have := HLA.out; have := HLB.out; unfold Hid; omega
  have HM5 : Hid (∀ W, Chg No w4 W → ∀ k, W.heap.size ≤ k → w3.heap.size ≤ k) := fun W hW k hk => by have := hW.size; omega
  go_upto_region 4 with (first
    | (go_at_call 35; refine (HTI.out _ (h3.out.1.thenNo H4.out)).mono ?_; rintro e w5 h5; obtain ⟨A5, cap5, rfl, g5, h5⟩ := h5.slice; have G5 := Lib.hid g5; have H5 := Lib.hid h5; clear g5 h5)
    | (at_builtin; refine wpList_append_monos rfl (.tmp 15) (.tmp 18) rfl (M := fun k => w3.heap.size ≤ k) (w := w5) (HM5.out w5 H5.out) (G4.out.no monoV_good H5.out) rfl (l' := scale n tb) rfl (G5.out.monos HSL.out) rfl HSL2.out ?_; intro A6 cap6 w6 g6 h6; have G6 := Lib.hid g6; have H6 : Hid (Chg No w3 w6) := (H4.out.thenNo H5.out).trans h6 (fun k hk hlt => by have h1 : w3.heap.size ≤ k := (G4.out.mine k hk).1; omega); clear g6 h6))
  clear p0 p1 q0 q1 r0 r1 rf0 rf1 G4 G5 H5 H4
  obtain ⟨⟨p0, p1⟩, ⟨q0, q1⟩, r0, r1, rf0, rf1⟩ := HO.out w6 H6.out
  have HSU := Lib.hid (ref01Sum_any (w := w6) (ca + n * cb) (G6.out.monos (by have := HOK.out.1; unfold big; omega)) HOK.out.2.1 HOK.out.2.2)
  have hz6 : w3.heap.size ≤ w6.heap.size := H6.out.size
  rw [List.length_append] at HSU
  generalize ta ++ scale n tb = T at *
  have HEQ : Hid (optL so = sumLin (ca + n * cb) T ∧ so.isSome = (sumErr (ca + n * cb) T == 0)) := by
    rcases hso with ⟨e1, e2⟩ | ⟨e1, e2, e3⟩
    · rw [e2, e1]; exact ⟨rfl, rfl⟩
    · rw [e2, e3]; exact ⟨rfl, by simpa using e1⟩
  clear hso HOK HTI HTA HLA HLB
  have hwx : IntKind.i64.wrap (n * cb) = n * cb := by rw [IntKind.wrap_i64]; omega
  have hws : IntKind.i64.wrap (ca + n * cb) = ca + n * cb := by rw [IntKind.wrap_i64]; omega
  unfold LinRet at HSU
  generalize sumLin (ca + n * cb) T = X at *
  generalize sumErr (ca + n * cb) T = E at *
  have HZ6 := Lib.hid hz6
  have hz3 := h3.out.2.2.2.2
  go_upto_region 5 with (go_at_call 36; (with_reducible refine HSU.out.mono ?_); rintro e w7 ⟨A7, c7, rfl, g7, h7⟩; have H7 := Lib.hid (H6.out.thenNo h7); have G7 := Lib.hid (g7.mono monoE_good (R' := fun k => w3.heap.size ≤ k) (fun k _ hk => Nat.le_trans HZ6.out hk)); clear g7 h7)
  obtain ⟨w8, hw8⟩ : ∃ w8, w8 = w7.alloc (.cells #[.int .i64 X.1, .slice A7 X.2.length c7] 36) := ⟨_, rfl⟩
  rw [← hw8]
  have H8 : Hid (Chg No w3 w8 ∧ Monos (fun k => w3.heap.size ≤ k) w8 A7 X.2 c7 ∧ w8.heap[w7.heap.size]? = some (.cells #[.int .i64 X.1, .slice A7 X.2.length c7] 36 (0, 0))) := by
    rw [hw8]; exact ⟨H7.out.alloc _, G7.out.no monoE_good ((Chg.refl _ _).alloc _), heap_alloc_new _ _⟩
  clear hw8 p0 p1 q0 q1 r0 r1 rf0 rf1
  obtain ⟨_, _, r0, r1, rf0, rf1⟩ := HO.out w8 H8.out.1
  obtain ⟨y0, y1, _, _⟩ := obj_2 H8.out.2.2
  have HFIN : Hid (∀ u0 u1, MRet w so (.returned (.tuple #[.agg #[.int .i64 X.1, .slice A7 X.2.length c7], .bool (E == 0)])) ((w8.setCell ⟨w.heap.size + 1 + 1, 0, none⟩ u0).setCell ⟨w.heap.size + 1 + 1, 1, none⟩ u1)) := fun u0 u1 => by
    have hs := ((Chg.refl (fun k => k = w.heap.size + 1 + 1) w8).setCell ⟨w.heap.size + 1 + 1, 0, none⟩ u0 (fun _ => rfl)).setCell ⟨w.heap.size + 1 + 1, 1, none⟩ u1 (fun _ => rfl)
    refine ⟨A7, c7, by rw [HEQ.out.1, HEQ.out.2], ?_, chgpast2 (h3.out.1.thenNo H8.out.1) hs (fun k hk => by omega)⟩
    rw [HEQ.out.1]
    exact (H8.out.2.1.chg monoE_good hs (fun k hk e => by omega)).mono monoE_good (fun k _ hk => by omega)
  clear HZ6 hz3
  go_wp2_with fail
  refine bodyPost_ret (v := .tuple #[.agg #[.int .i64 X.1, .slice A7 X.2.length c7], .bool (E == 0)]) (by simp [results, Tryd.results27, go_sem, r0, r1]) rfl (HFIN.out _ _)

/-- A call returns a formula without parts, beside a code; its form lies in new memory. -/
def SRetI (w : World) (s : Int × Lin × Int) (e : Ending) (w' : World) : Prop :=
  ∃ A cap, e = .returned (.tuple #[.agg #[.int .i64 s.1, .int .i64 s.2.1.1, .slice A s.2.1.2.length cap, .slice none 0 0], .int .i64 s.2.2]) ∧ Monos (fun k => w.heap.size ≤ k) w' A s.2.1.2 cap ∧ Chg No w w'
set_option maxRecDepth 100000 in
set_option maxHeartbeats 1000000 in
theorem refSame20_any {R R' : Nat → Prop} {w : World} (a b : Lin) {A A' : Option Addr} {cap cap' : Nat} (ht : Monos R w A a.2 cap) (ht' : Monos R' w A' b.2 cap') :
    Calls Tryd.prog 15 #[.agg #[.int .i64 a.1, .slice A a.2.length cap], .agg #[.int .i64 b.1, .slice A' b.2.length cap']] w (SRetI w (sameR a b)) := by
  have HA := Lib.hid (fun W (hW : Chg No w W) => ref01Check_any a.1 (ht.no monoE_good hW))
  have HB := Lib.hid (fun W (hW : Chg No w W) => ref01Check_any b.1 (ht'.no monoE_good hW))
  have HS0 := Lib.hid (fun (h1 : linB a.1 a.2 = true) (h2 : linB b.1 b.2 = true) W (hW : Chg No w W) => more_any (w := W) a b (ht.no monoE_good hW) (ht'.no monoE_good hW) (-1) h1 h2 (by decide))
  obtain ⟨ans, hans⟩ : ∃ ans, ans = sameR a b := ⟨_, rfl⟩
  rw [← hans]
  unfold sameR at hans
  have HAN := Lib.hid hans
  clear hans ht ht'
  generalize sumO a b (-1) = so at *
  obtain ⟨ca, ta⟩ := a
  obtain ⟨cb, tb⟩ := b
  simp only at HA HB HS0 HAN ⊢
  generalize linB ca ta = q1 at *
  generalize linB cb tb = q2 at *
  generalize ta.length = la at *
  generalize tb.length = lb at *
  obtain ⟨w3, hw3⟩ : ∃ w3, w3 = ((w.alloc (.cells #[.int .i64 ca, .slice A la cap] 36)).alloc (.cells #[.int .i64 cb, .slice A' lb cap'] 36)).alloc (.cells #[.int .i64 0, .int .i64 0, .slice none 0 0, .slice none 0 0] 45) := ⟨_, rfl⟩
  have h3 : Hid (Chg No w w3 ∧ w3.heap[w.heap.size]? = some (.cells #[.int .i64 ca, .slice A la cap] 36 (0, 0)) ∧ w3.heap[w.heap.size + 1]? = some (.cells #[.int .i64 cb, .slice A' lb cap'] 36 (0, 0)) ∧ w3.heap[w.heap.size + 1 + 1]? = some (.cells #[.int .i64 0, .int .i64 0, .slice none 0 0, .slice none 0 0] 45 (0, 0)) ∧ w3.heap.size = w.heap.size + 1 + 1 + 1) := by
    rw [hw3]
    exact ⟨(((Chg.refl _ _).alloc _).alloc _).alloc _, at_old (at_old (heap_alloc_new _ _)), at_old (at_new (by simp)), at_new (by simp), by simp⟩
  have HO : Hid (∀ W, Chg No w3 W → (W.cell? ⟨w.heap.size, 0, none⟩ = some (.int .i64 ca) ∧ W.cell? ⟨w.heap.size, 1, none⟩ = some (.slice A la cap)) ∧ (W.cell? ⟨w.heap.size + 1, 0, none⟩ = some (.int .i64 cb) ∧ W.cell? ⟨w.heap.size + 1, 1, none⟩ = some (.slice A' lb cap'))) := fun W hW => by
    obtain ⟨a1, a2, _, _⟩ := obj_2 (hW.obj h3.out.2.1 id)
    obtain ⟨b1, b2, _, _⟩ := obj_2 (hW.obj h3.out.2.2.1 id)
    exact ⟨⟨a1, a2⟩, b1, b2⟩
  have HR : Hid (∀ W, Chg No w3 W → (W.cell? ⟨w.heap.size + 1 + 1, 0, none⟩ = some (.int .i64 0) ∧ W.cell? ⟨w.heap.size + 1 + 1, 1, none⟩ = some (.int .i64 0) ∧ W.cell? ⟨w.heap.size + 1 + 1, 2, none⟩ = some (.slice none 0 0) ∧ W.cell? ⟨w.heap.size + 1 + 1, 3, none⟩ = some (.slice none 0 0)) ∧ W.frozen? ⟨w.heap.size + 1 + 1, 0, none⟩ = false ∧ W.frozen? ⟨w.heap.size + 1 + 1, 1, none⟩ = false ∧ W.frozen? ⟨w.heap.size + 1 + 1, 2, none⟩ = false ∧ W.frozen? ⟨w.heap.size + 1 + 1, 3, none⟩ = false) := fun W hW =>
    obj_4f (hW.obj h3.out.2.2.2.1 id)
  have HW : Hid (∀ W u0 u1 u2 u3 A8 (o : Lin) c8, Chg No w3 W → Monos (fun k => w3.heap.size ≤ k) W A8 o.2 c8 → Chg No w ((((W.setCell ⟨w.heap.size + 1 + 1, 0, none⟩ u0).setCell ⟨w.heap.size + 1 + 1, 1, none⟩ u1).setCell ⟨w.heap.size + 1 + 1, 2, none⟩ u2).setCell ⟨w.heap.size + 1 + 1, 3, none⟩ u3) ∧
      Monos (fun k => w.heap.size ≤ k) ((((W.setCell ⟨w.heap.size + 1 + 1, 0, none⟩ u0).setCell ⟨w.heap.size + 1 + 1, 1, none⟩ u1).setCell ⟨w.heap.size + 1 + 1, 2, none⟩ u2).setCell ⟨w.heap.size + 1 + 1, 3, none⟩ u3) A8 o.2 c8) := fun W u0 u1 u2 u3 A8 o c8 hW hm => by
    have hz := h3.out.2.2.2.2
    have hs := set4_chg W (w.heap.size + 1 + 1) u0 u1 u2 u3
    exact ⟨chgpast2 (h3.out.1.thenNo hW) hs (fun k hk => by omega), (hm.chg monoE_good hs (fun k hk e => by omega)).mono monoE_good (fun k _ hk => by omega)⟩
  obtain ⟨⟨p0, p1⟩, s0, s1⟩ := HO.out w3 (Chg.refl _ _)
  cases q1
  · obtain rfl : ans = (0, (0, []), 5) := HAN.out
    clear HB HS0 HAN
    go_enter Tryd.func15, Tryd.ntmps15
    go_upto_region 1 with fail
    rw [← hw3]
    clear hw3
    go_wp2_with (go_at_call 26; refine (HA.out _ h3.out.1).mono ?_; rintro e w4 ⟨rfl, h4⟩; have H4 := Lib.hid h4; obtain ⟨⟨r0, r1, r2, r3⟩, f0, f1, f2, f3⟩ := HR.out w4 h4; clear h4)
    refine bodyPost_ret (v := .tuple #[.agg #[.int .i64 0, .int .i64 0, .slice none 0 0, .slice none 0 0], .int .i64 5]) (by simp [results, Tryd.results15, go_sem, r0, r1, r2, r3]) rfl ⟨none, 0, rfl, (HW.out _ _ _ _ _ none (0, []) 0 H4.out Sl.empty).2, (HW.out _ _ _ _ _ none (0, []) 0 H4.out Sl.empty).1⟩
  cases q2
  · obtain rfl : ans = (0, (0, []), 5) := HAN.out
    clear HS0 HAN
    go_enter Tryd.func15, Tryd.ntmps15
    go_upto_region 1 with fail
    rw [← hw3]
    clear hw3
    go_wp2_with (first
      | (go_at_call 26; with_reducible refine (HA.out _ h3.out.1).mono ?_; rintro e w4 ⟨rfl, h4⟩; have H4 := Lib.hid h4; clear p0 p1 s0 s1 HA; obtain ⟨⟨p0, p1⟩, s0, s1⟩ := HO.out w4 h4; clear h4)
      | (go_at_call 26; with_reducible refine (HB.out _ (h3.out.1.thenNo H4.out)).mono ?_; rintro e w5 ⟨rfl, h5⟩; have H5 := Lib.hid (H4.out.thenNo h5); obtain ⟨⟨r0, r1, r2, r3⟩, f0, f1, f2, f3⟩ := HR.out w5 H5.out; clear h5))
    refine bodyPost_ret (v := .tuple #[.agg #[.int .i64 0, .int .i64 0, .slice none 0 0, .slice none 0 0], .int .i64 5]) (by simp [results, Tryd.results15, go_sem, r0, r1, r2, r3]) rfl ⟨none, 0, rfl, (HW.out _ _ _ _ _ none (0, []) 0 H5.out Sl.empty).2, (HW.out _ _ _ _ _ none (0, []) 0 H5.out Sl.empty).1⟩
  have HS := Lib.hid (HS0.out rfl rfl)
  clear HS0
  cases so with
  | none =>
    obtain rfl : ans = (0, (0, []), 3) := HAN.out
    unfold MRet at HS
    rw [show (none : Option Lin).isSome = false from rfl, show optL none = (0, []) from rfl] at HS
    clear HAN
    go_enter Tryd.func15, Tryd.ntmps15
    go_upto_region 1 with fail
    rw [← hw3]
    clear hw3
    go_upto_region 4 with (first
      | (go_at_call 26; with_reducible refine (HA.out _ h3.out.1).mono ?_; rintro e w4 ⟨rfl, h4⟩; have H4 := Lib.hid h4; clear p0 p1 s0 s1 HA; obtain ⟨⟨p0, p1⟩, s0, s1⟩ := HO.out w4 h4; clear h4)
      | (go_at_call 26; with_reducible refine (HB.out _ (h3.out.1.thenNo H4.out)).mono ?_; rintro e w5 ⟨rfl, h5⟩; have H5 := Lib.hid (H4.out.thenNo h5); clear p0 p1 s0 s1 HB; obtain ⟨⟨p0, p1⟩, s0, s1⟩ := HO.out w5 H5.out; clear h5)
      | (go_at_call 27; refine (HS.out _ (h3.out.1.thenNo H5.out)).mono ?_; rintro e w6 ⟨A6, c6, rfl, g6, h6⟩; have H6 := Lib.hid (H5.out.thenNo h6); clear g6 h6))
    obtain ⟨w7, hw7⟩ : ∃ w7, w7 = w6.alloc (.cells #[.int .i64 0, .slice A6 0 c6] 36) := ⟨_, rfl⟩
    rw [← hw7]
    have H7 : Hid (Chg No w3 w7) := by rw [hw7]; exact H6.out.alloc _
    clear hw7 p0 p1 s0 s1
    obtain ⟨⟨r0, r1, r2, r3⟩, f0, f1, f2, f3⟩ := HR.out w7 H7.out
    go_wp2_with fail
    refine bodyPost_ret (v := .tuple #[.agg #[.int .i64 0, .int .i64 0, .slice none 0 0, .slice none 0 0], .int .i64 3]) (by simp [results, Tryd.results15, go_sem, r0, r1, r2, r3]) rfl ⟨none, 0, rfl, (HW.out _ _ _ _ _ none (0, []) 0 H7.out Sl.empty).2, (HW.out _ _ _ _ _ none (0, []) 0 H7.out Sl.empty).1⟩
  | some r =>
    obtain rfl : ans = (3, r, 0) := HAN.out
    unfold MRet at HS
    rw [show (some r).isSome = true from rfl, show optL (some r) = r from rfl] at HS
    clear HAN
    go_enter Tryd.func15, Tryd.ntmps15
    go_upto_region 1 with fail
    rw [← hw3]
    clear hw3
    go_upto_region 4 with (first
      | (go_at_call 26; with_reducible refine (HA.out _ h3.out.1).mono ?_; rintro e w4 ⟨rfl, h4⟩; have H4 := Lib.hid h4; clear p0 p1 s0 s1 HA; obtain ⟨⟨p0, p1⟩, s0, s1⟩ := HO.out w4 h4; clear h4)
      | (go_at_call 26; with_reducible refine (HB.out _ (h3.out.1.thenNo H4.out)).mono ?_; rintro e w5 ⟨rfl, h5⟩; have H5 := Lib.hid (H4.out.thenNo h5); clear p0 p1 s0 s1 HB; obtain ⟨⟨p0, p1⟩, s0, s1⟩ := HO.out w5 H5.out; clear h5)
      | (go_at_call 27; refine (HS.out _ (h3.out.1.thenNo H5.out)).mono ?_; rintro e w6 ⟨A6, c6, rfl, g6, h6⟩; have H6 := Lib.hid (H5.out.thenNo h6); have G6 := Lib.hid (g6.mono monoE_good (R' := fun k => w3.heap.size ≤ k) (fun k _ hk => Nat.le_trans H5.out.size hk)); clear g6 h6))
    obtain ⟨w7, hw7⟩ : ∃ w7, w7 = w6.alloc (.cells #[.int .i64 r.1, .slice A6 r.2.length c6] 36) := ⟨_, rfl⟩
    rw [← hw7]
    have H7 : Hid (Chg No w3 w7 ∧ Monos (fun k => w3.heap.size ≤ k) w7 A6 r.2 c6 ∧ w7.heap[w6.heap.size]? = some (.cells #[.int .i64 r.1, .slice A6 r.2.length c6] 36 (0, 0))) := by
      rw [hw7]; exact ⟨H6.out.alloc _, G6.out.no monoE_good ((Chg.refl _ _).alloc _), heap_alloc_new _ _⟩
    clear hw7 p0 p1 s0 s1
    obtain ⟨⟨r0, r1, r2, r3⟩, f0, f1, f2, f3⟩ := HR.out w7 H7.out.1
    obtain ⟨y0, y1, _, _⟩ := obj_2 H7.out.2.2
    go_wp2_with fail
    refine bodyPost_ret (v := .tuple #[.agg #[.int .i64 3, .int .i64 r.1, .slice A6 r.2.length c6, .slice none 0 0], .int .i64 0]) (by simp [results, Tryd.results15, go_sem, r0, r1, r2, r3]) rfl ⟨A6, c6, rfl, (HW.out _ _ _ _ _ A6 r c6 H7.out.1 H7.out.2.1).2, (HW.out _ _ _ _ _ A6 r c6 H7.out.1 H7.out.2.1).1⟩
end Go.Proofs.YtpmndblakmobdaaDoor
/- ChJ -/
namespace Go.Proofs.YtpmndblakmobdaaDoor
open Go Go.RowKit

def NotRet (w : World) (v0 v1 v2 v3 : Value) (e : Ending) (w' : World) : Prop :=
  ∃ b, e = .returned (.agg #[.int .i64 4, .int .i64 0, .slice none 0 0, .slice (some ⟨b, 0, none⟩) 1 1]) ∧ w'.heap[b]? = some (.cells #[v0, v1, v2, v3] 45 (0, 0)) ∧ w.heap.size ≤ b ∧ Chg No w w'
set_option maxRecDepth 100000 in
set_option maxHeartbeats 1000000 in
theorem refNot20_any (k c : Int) (A : Option Addr) (n cap : Nat) (w : World) :
    Calls Tryd.prog 28 #[.agg #[.int .i64 k, .int .i64 c, .slice A n cap, .slice none 0 0]] w (NotRet w (.int .i64 k) (.int .i64 c) (.slice A n cap) (.slice none 0 0)) := by
  obtain ⟨w2, hw2⟩ : ∃ w2, w2 = (w.alloc (.cells #[.int .i64 k, .int .i64 c, .slice A n cap, .slice none 0 0] 45)).alloc (.cells #[.int .i64 0, .int .i64 0, .slice none 0 0, .slice none 0 0] 45) := ⟨_, rfl⟩
  have h2 : Hid (Chg No w w2 ∧ w2.heap[w.heap.size]? = some (.cells #[.int .i64 k, .int .i64 c, .slice A n cap, .slice none 0 0] 45 (0, 0)) ∧ w2.heap[w.heap.size + 1]? = some (.cells #[.int .i64 0, .int .i64 0, .slice none 0 0, .slice none 0 0] 45 (0, 0)) ∧ w2.heap.size = w.heap.size + 1 + 1) := by
    rw [hw2]
    exact ⟨((Chg.refl _ _).alloc _).alloc _, at_old (heap_alloc_new _ _), at_new (by simp), by simp⟩
  obtain ⟨⟨p0, p1, p2, p3⟩, _⟩ := obj_4f h2.out.2.1
  go_enter Tryd.func28, Tryd.ntmps28
  go_upto_region 1 with fail
  rw [← hw2]
  clear hw2
  have ha : Hid (Chg No w2 (w2.alloc (.cells #[.int .i64 k, .int .i64 c, .slice A n cap, .slice none 0 0] 45))) := (Chg.refl _ _).alloc _
  obtain ⟨⟨r0, r1, r2, r3⟩, f0, f1, f2, f3⟩ := obj_4f (ha.out.obj h2.out.2.2.1 id)
  have HFIN : Hid (∀ u0 u1 u2 u3, NotRet w (.int .i64 k) (.int .i64 c) (.slice A n cap) (.slice none 0 0) (.returned (.agg #[.int .i64 4, .int .i64 0, .slice none 0 0, .slice (some ⟨w2.heap.size, 0, none⟩) 1 1])) (((((w2.alloc (.cells #[.int .i64 k, .int .i64 c, .slice A n cap, .slice none 0 0] 45)).setCell ⟨w.heap.size + 1, 0, none⟩ u0).setCell ⟨w.heap.size + 1, 1, none⟩ u1).setCell ⟨w.heap.size + 1, 2, none⟩ u2).setCell ⟨w.heap.size + 1, 3, none⟩ u3)) := fun u0 u1 u2 u3 => by
    have hs := set4_chg (w2.alloc (.cells #[.int .i64 k, .int .i64 c, .slice A n cap, .slice none 0 0] 45)) (w.heap.size + 1) u0 u1 u2 u3
    have hz := h2.out.2.2.2
    exact ⟨w2.heap.size, rfl, hs.obj (heap_alloc_new w2 _) (by intro e; omega), by omega, chgpast2 (h2.out.1.thenNo ha.out) hs (fun k hk => by omega)⟩
  clear ha h2
  go_wp2_with fail
  refine bodyPost_ret (v := .agg #[.int .i64 4, .int .i64 0, .slice none 0 0, .slice (some ⟨w2.heap.size, 0, none⟩) 1 1]) (by simp [results, Tryd.results28, go_sem, r0, r1, r2, r3]) rfl (HFIN.out _ _ _ _)

theorem ch_one {R : Nat → Prop} {w : World} {cs : List Value} {x : Chunk} (h : chV R w cs x) : ∀ u ∈ cs, u.oneCell' = true := by
  obtain ⟨A, c, B, d, rfl, _⟩ := ch_cells h
  simp [Value.oneCell']
theorem chunksTy : SliceTy Tryd.prog 22 38 chV.sz chV.bytes (.agg #[.int .i64 0, .slice none 0 0, .string ByteArray.empty, .int .i64 0, .int .i64 0, .slice none 0 0]) := ⟨Tryd.underlying22, by kernel_rfl, rfl, by decide, by decide⟩
/-- A call returns formulas in new memory, beside a code. -/
def FsRetI (w : World) (r : List (FT 3) × Int) (e : Ending) (w' : World) : Prop :=
  ∃ A cap, e = .returned (.tuple #[.slice A r.1.length cap, .int .i64 r.2]) ∧ Forms (fun k => w.heap.size ≤ k) w' A r.1 cap ∧ Chg No w w'
theorem FsRetI.none {w w' : World} {c : Int} (h : Chg No w w') : FsRetI w ([], c) (.returned (.tuple #[.slice none 0 0, .int .i64 c])) w' := ⟨Option.none, 0, rfl, Sl.empty, h⟩
end Go.Proofs.YtpmndblakmobdaaDoor
/- ChK -/
namespace Go.Proofs.YtpmndblakmobdaaDoor
open Go Go.RowKit

def NF (w3 w8 : World) (v : Value) (L : List (FT 3)) (cs : List Value) (f : FT 3) : Prop :=
  OwnL (formV 3) 45 (fun k => w3.heap.size ≤ k) (fun k => w3.heap.size ≤ k) w8 v L ∧ (∀ q, w8.heap.size ≤ q → w3.heap.size ≤ q) ∧ (formV 3) (fun k => w3.heap.size ≤ k ∧ v.ownBlock ≠ some k) w8 cs f ∧ ∀ w12, Chg (fun q => v.ownBlock = some q) w8 w12 → Chg No w3 w12

/-- The box of what Same says. -/
def BoxAt (wr wx : World) (b : Nat) (k c : Int) (t : List Mono) (A : Option Addr) (cap : Nat) : Prop :=
  Chg No wr wx ∧ wx.heap[b]? = some (.cells #[.int .i64 k, .int .i64 c, .slice A t.length cap, .slice none 0 0] 45 (0, 0)) ∧ Monos (fun q => wr.heap.size ≤ q) wx A t cap ∧ wr.heap.size ≤ b
theorem box_after {wr w6 : World} {k c : Int} {t : List Mono} {A : Option Addr} {cap : Nat} (h : Chg No wr w6) (hm : Monos (fun q => wr.heap.size ≤ q) w6 A t cap) : BoxAt wr (w6.alloc (.cells #[.int .i64 k, .int .i64 c, .slice A t.length cap, .slice none 0 0] 45)) w6.heap.size k c t A cap :=
  ⟨h.alloc _, heap_alloc_new _ _, hm.no monoE_good ((Chg.refl _ _).alloc _), h.size⟩
theorem box_before {wr w6 : World} {b : Nat} {z0 z1 z2 z3 : Value} {k c : Int} {t : List Mono} {A : Option Addr} {cap : Nat} (h : Chg No wr w6) (hb : wr.heap.size ≤ b) (hm : Monos (fun q => b + 1 ≤ q) w6 A t cap) (ho : w6.heap[b]? = some (.cells #[z0, z1, z2, z3] 45 (0, 0))) :
    BoxAt wr ((((w6.setCell ⟨b, 0, none⟩ (.int .i64 k)).setCell ⟨b, 1, none⟩ (.int .i64 c)).setCell ⟨b, 2, none⟩ (.slice A t.length cap)).setCell ⟨b, 3, none⟩ (.slice none 0 0)) b k c t A cap := by
  have hs := set4_chg w6 b (.int .i64 k) (.int .i64 c) (.slice A t.length cap) (.slice none 0 0)
  refine ⟨chgpast2 h hs (fun q hq => by omega), ?_, (hm.chg monoE_good hs (fun q hq e => by omega)).mono monoE_good (fun q _ hq => by omega), hb⟩
  exact obj_set _ (obj_set _ (obj_set _ (obj_set _ ho)))
abbrev zF : Obj := .cells #[.int .i64 0, .int .i64 0, .slice none 0 0, .slice none 0 0] 45

set_option maxRecDepth 100000 in
set_option maxHeartbeats 8000000 in
theorem refFacts20_any {R R' : Nat → Prop} {w : World} {A : Option Addr} {l : List Chunk} {cap : Nat} {cs : List Value} {c : Chunk} (hl : Chunks R w A l cap) (hc : chV R' w cs c) (hlen : l.length ≤ 60)
    (hN : -1099511627776 ≤ c.2.2.1 ∧ c.2.2.1 ≤ 1099511627776) (hNs : ∀ o ∈ l, -1099511627776 ≤ o.2.2.1 ∧ o.2.2.1 ≤ 1099511627776) :
    Calls Tryd.prog 13 #[.slice A l.length cap, .agg cs.toArray] w (FsRetI w (factsR l c)) := by
  have HL := Lib.hid (fun W (hW : Chg No w W) => hl.no chE_good hW)
  have HCV := Lib.hid (fun W (hW : Chg No w W) => chV_good.no (chV_good.mono hc (R' := fun k => k < w.heap.size) (fun k hk _ => hk)) hW)
  have HLV := Lib.hid (fun W (hW : Chg No w W) => (hl.mono chE_good (R' := fun k => k < w.heap.size) (fun k hk _ => hk)).no chE_good hW)
  obtain ⟨cA, cc, cB, cd, rfl, g1, g2, g3, g4, g5, g6⟩ := ch_cells hc
  have HMA := Lib.hid (fun W (hW : Chg No w W) => g2.no monoE_good hW)
  have HMB := Lib.hid (fun W (hW : Chg No w W) => g6.no monoE_good hW)
  obtain ⟨ans, hans⟩ : ∃ ans, ans = factsR l c := ⟨_, rfl⟩
  rw [← hans]
  unfold factsR at hans
  have HAN := Lib.hid hans
  have HNS := Lib.hid hNs
  obtain ⟨hN1, hN2⟩ := hN
  clear hans hl hc hNs g2 g6
  obtain ⟨⟨aC, aT⟩, fd, num, vC, vT⟩ := c
  simp only at HCV HMA HMB HAN g1 g3 g4 g5 hN1 hN2 ⊢
  obtain ⟨w3, hw3⟩ : ∃ w3, w3 = w.alloc (.cells #[.int .i64 aC, .slice cA aT.length cc, .string fd, .int .i64 num, .int .i64 vC, .slice cB vT.length cd] 38) := ⟨_, rfl⟩
  have h3 : Hid (Chg No w w3 ∧ w3.heap[w.heap.size]? = some (.cells #[.int .i64 aC, .slice cA aT.length cc, .string fd, .int .i64 num, .int .i64 vC, .slice cB vT.length cd] 38 (0, 0)) ∧ w3.heap.size = w.heap.size + 1) := by
    rw [hw3]; exact ⟨(Chg.refl _ _).alloc _, heap_alloc_new _ _, by simp⟩
  have HO : Hid (∀ W, Chg No w3 W → W.cell? ⟨w.heap.size, 0, none⟩ = some (.int .i64 aC) ∧ W.cell? ⟨w.heap.size, 1, none⟩ = some (.slice cA aT.length cc) ∧ W.cell? ⟨w.heap.size, 2, none⟩ = some (.string fd) ∧ W.cell? ⟨w.heap.size, 3, none⟩ = some (.int .i64 num) ∧ W.cell? ⟨w.heap.size, 4, none⟩ = some (.int .i64 vC) ∧ W.cell? ⟨w.heap.size, 5, none⟩ = some (.slice cB vT.length cd)) := fun W hW => obj_6 (hW.obj h3.out.2.1 id)
  obtain ⟨p0, p1, p2, p3, p4, p5⟩ := HO.out w3 (Chg.refl _ _)
  obtain ⟨c0, hc0⟩ : ∃ c0 : Chunk, c0 = ((aC, aT), fd, num, vC, vT) := ⟨_, rfl⟩
  obtain ⟨L1, hL1⟩ : ∃ L1 : List Chunk, L1 = c0 :: l := ⟨_, rfl⟩
  obtain ⟨m, hm⟩ : ∃ m : Nat, m = l.length + 1 := ⟨_, rfl⟩
  have HM1 : Hid (m = L1.length) := by rw [hm, hL1]; rfl
  have hmb : m ≤ 61 := by omega
  have HBAD : Hid (∀ i (hi : i < L1.length), chB L1[i] = false → ans = ([], 5)) := fun i hi h => by
    have h1 : L1.all chB = false := by
      cases hq : L1.all chB with
      | false => rfl
      | true => rw [List.all_eq_true.1 hq _ (List.getElem_mem hi)] at h; cases h
    rw [hL1, List.all_cons] at h1
    rw [HAN.out, ← hc0, h1]; rfl
  have HGOOD : Hid ((∀ i (hi : i < L1.length), chB L1[i] = true) → chB c0 = true ∧ ∀ i (hi : i < l.length), chB l[i] = true) := fun h => by
    subst hL1
    exact ⟨h 0 (by simp), fun i hi => by have := h (i + 1) (by simp; omega); simpa using this⟩
  have HAN2 : Hid (chB c0 = true → (∀ i (hi : i < l.length), chB l[i] = true) → ans = (match sumO (1, []) (aC, aT) (-1) with | none => ([], 3) | some x => match factsL c0 l with | none => ([], 3) | some d => (leafF 2 2 x :: d, 0))) := fun h1 h2 => by
    have h3 : l.all chB = true := List.all_eq_true.2 fun o ho => by
      obtain ⟨i, hi, rfl⟩ := List.getElem_of_mem ho
      exact h2 i hi
    rw [HAN.out, ← hc0, h1, h3]; rfl
  have HC0 := Lib.hid hc0
  obtain ⟨w4, hw4⟩ : ∃ w4, w4 = w3.alloc (.cells #[.int .i64 aC, .slice cA aT.length cc, .string fd, .int .i64 num, .int .i64 vC, .slice cB vT.length cd] 38) := ⟨_, rfl⟩
  have h4 : Hid (Chg No w3 w4 ∧ OwnL chV 38 (fun k => w3.heap.size ≤ k) (fun _ => True) w4 (.slice (some ⟨w3.heap.size, 0, none⟩) 1 1) [c0] ∧ w4.heap.size = w3.heap.size + 1) := by
    rw [hw4]
    refine ⟨(Chg.refl _ _).alloc _, ownL_one (cs := [.int .i64 aC, .slice cA aT.length cc, .string fd, .int .i64 num, .int .i64 vC, .slice cB vT.length cd]) (heap_alloc_new _ _) (Nat.le_refl _) rfl ?_ chV_good, by simp⟩
    rw [hc0]
    exact chV_good.mono (HCV.out _ (h3.out.1.thenNo ((Chg.refl _ _).alloc _))) (fun k _ hk => ⟨trivial, by have := h3.out.2.2; omega⟩)
  have HLS : Hid (Sl chV.mem chV.sz (fun k => k < w.heap.size) w4 A l cap) := HLV.out _ (h3.out.1.thenNo h4.out.1)
  have HSUB : Hid (∀ k, k < w4.heap.size → k < w.heap.size → True ∧ (Value.slice (some ⟨w3.heap.size, 0, none⟩) 1 1).ownBlock ≠ some k) := fun k _ hk => ⟨trivial, by
    intro e
    have := h3.out.2.2
    simp [Value.ownBlock] at e
    omega⟩
  have HMM : Hid (∀ k, w4.heap.size ≤ k → w3.heap.size ≤ k) := fun k hk => by have := h4.out.2.2; omega
  have HBY : Hid (([c0].length + l.length) * chV.bytes ≤ 140737488355328) := show (1 + l.length) * 88 ≤ 140737488355328 by omega
  have HMS : Hid (m = [c0].length + l.length) := by rw [hm]; show l.length + 1 = 1 + l.length; omega
  have HL1E := Lib.hid hL1
  clear hc0 hL1 hm HLV HCV HAN
  rw [hw4] at HLS HMM HSUB
  go_enter Tryd.func13, Tryd.ntmps13
  go_upto_region 1 with fail
  rw [← hw3]
  clear hw3
  go_upto_region 3 with (at_builtin; refine wpList_extendLm chV_good ch_one chunksTy rfl (.tmp 17) (.tmp 18) rfl (M := fun k => w3.heap.size ≤ k) (R := fun _ => True) HMM.out (by rw [← hw4]; exact h4.out.2.1) rfl rfl HLS.out rfl HSUB.out HBY.out HMS.out ?_; intro A5 cap5 w5 g5 h5; rw [← hw4] at h5; have G5 := Lib.hid g5; have H5' := Lib.hid h5; clear g5 h5)
  have H5 : Hid (Chg No w3 w5) := h4.out.1.trans H5'.out (fun k hk hlt => by
    have hk' : (Value.slice (some ⟨w3.heap.size, 0, none⟩) 1 1).ownBlock = some k := hk
    have hk2 : w3.heap.size = k := by simpa [Value.ownBlock] using hk'
    omega)
  have HLX : Hid (∀ W, Chg No w5 W → Chunks (fun _ => True) W A5 L1 cap5) := fun W hW => by
    obtain ⟨A2, cap2, e, hsl⟩ := G5.out.sl chV_good (by rw [List.length_append]; show (1 + l.length) * 88 ≤ 140737488355328; omega)
    injection e with e1 e2 e3
    subst e1 e3
    rw [HL1E.out]
    exact (hsl.mono chE_good (fun _ _ _ => trivial)).no chE_good hW
  clear p0 p1 p2 p3 p4 p5 h4 H5' G5 HLS HSUB HMM HBY HMS HL1E hw4
  go_wp2_with fail
  go_loopw [7] (fun s7 wr => ∃ i : Nat, s7 = .int .i64 i ∧ i ≤ m ∧ Hid (Chg No w5 wr) ∧ Hid (∀ j (h : j < L1.length), j < i → chB L1[j] = true)) (fun s7 _ => m - (intOf s7).toNat)
  case atStart => exact ⟨0, rfl, Nat.zero_le _, Chg.refl _ _, fun j h hk => absurd hk (by omega)⟩
  case round =>
    obtain ⟨i, rfl, gi, hch, hall⟩ := hrel
    by_cases hlt : i < m
    · have hi' : i < L1.length := by rw [← HM1.out]; exact hlt
      obtain ⟨b, o, B1, d1, C1, e1, rfl, hk, x0, x1, x2, x3, x4, x5⟩ := chs_at (HLX.out wr hch.out) i hi'
      have i0 : (0 : Int) ≤ (i : Int) := by omega
      have i1 : (i : Int) < (m : Int) := by omega
      have HCA := Lib.hid (fun W (hW : Chg No wr W) => ref01Check_any L1[i].1.1 (hk.2.1.no monoE_good hW))
      have HCB := Lib.hid (fun W (hW : Chg No wr W) => ref01Check_any L1[i].2.2.2.1 (hk.2.2.2.2.2.no monoE_good hW))
      have HB1 : Hid ((linB L1[i].1.1 L1[i].1.2 && linB L1[i].2.2.2.1 L1[i].2.2.2.2) = false → ans = ([], 5)) := fun h => HBAD.out i hi' h
      have HNX : Hid ((linB L1[i].1.1 L1[i].1.2 && linB L1[i].2.2.2.1 L1[i].2.2.2.2) = true → ∀ j (h : j < L1.length), j < i + 1 → chB L1[j] = true) := fun hpk j h hj => by
        rcases Nat.lt_or_ge j i with g | g
        · exact hall.out j h g
        · obtain rfl : j = i := by omega
          exact hpk
      clear hk x2 x3
      generalize linB L1[i].1.1 L1[i].1.2 = q1 at *
      generalize linB L1[i].2.2.2.1 L1[i].2.2.2.2 = q2 at *
      generalize L1[i].1.1 = a0 at *
      generalize L1[i].1.2.length = a1 at *
      generalize L1[i].2.2.2.1 = a2 at *
      generalize L1[i].2.2.2.2.length = a3 at *
      have HW := Lib.hid (h3.out.1.thenNo (H5.out.thenNo hch.out))
      clear hi'
      cases q1
      · have HE := Lib.hid (HB1.out rfl)
        clear HNX HCB HB1
        go_wp2_with (go_at_call 26; refine (HCA.out _ (Chg.refl _ _)).mono ?_; rintro e w6 ⟨rfl, h6⟩)
        go_ret2
        have h := FsRetI.none (c := 5) (HW.out.thenNo h6)
        rw [← HE.out] at h
        exact h
      cases q2
      · have HE := Lib.hid (HB1.out rfl)
        clear HNX HB1
        go_wp2_with (first
          | (go_at_call 26; with_reducible refine (HCA.out _ (Chg.refl _ _)).mono ?_; rintro e w6 ⟨rfl, h6⟩; have y4 := h6.cell x4 id; have y5 := h6.cell x5 id; have H6 := Lib.hid h6; clear h6 x4 x5 x0 x1 HCA)
          | (go_at_call 26; with_reducible refine (HCB.out _ H6.out).mono ?_; rintro e w7 ⟨rfl, h7⟩))
        go_ret2
        have h := FsRetI.none (c := 5) (HW.out.thenNo (H6.out.thenNo h7))
        rw [← HE.out] at h
        exact h
      · have HE := Lib.hid (HNX.out rfl)
        clear HNX HB1
        go_wp2_with (first
          | (go_at_call 26; with_reducible refine (HCA.out _ (Chg.refl _ _)).mono ?_; rintro e w6 ⟨rfl, h6⟩; have y4 := h6.cell x4 id; have y5 := h6.cell x5 id; have H6 := Lib.hid h6; clear h6 x4 x5 x0 x1 HCA)
          | (go_at_call 26; with_reducible refine (HCB.out _ H6.out).mono ?_; rintro e w7 ⟨rfl, h7⟩))
        go_roundw
        case rel => exact ⟨i + 1, by go_num, hlt, hch.out.thenNo (H6.out.thenNo h7), HE.out⟩
        case measure => simp [intOf]; omega
    · obtain rfl : i = m := by omega
      obtain ⟨wA, rfl⟩ : ∃ wA, wA = wr := ⟨_, rfl⟩
      obtain ⟨hg0, hgl⟩ := HGOOD.out (fun j h => hall.out j h (by rw [HM1.out]; exact h))
      have HANS0 := Lib.hid (HAN2.out hg0 hgl)
      have HQA : Hid (linB aC aT = true ∧ linB vC vT = true) := by
        rw [HC0.out] at hg0
        unfold chB at hg0
        rw [Bool.and_eq_true] at hg0
        exact hg0
      have HQL : Hid (∀ i (hi : i < l.length), linB l[i].1.1 l[i].1.2 = true ∧ linB l[i].2.2.2.1 l[i].2.2.2.2 = true) := fun i hi => by
        have := hgl i hi
        unfold chB at this
        rw [Bool.and_eq_true] at this
        exact this
      have HA3 : Hid (Chg No w3 wA) := H5.out.thenNo hch.out
      have HS1 := Lib.hid (more_any (w := wA) (1, []) (aC, aT) (A := none) (cap := 0) (R := No) Sl.empty (HMA.out wA (h3.out.1.thenNo HA3.out)) (-1) (by decide) HQA.out.1 (by decide))
      clear hg0 hgl HGOOD HAN2 HBAD HLX hall hch H5
      obtain ⟨p0, p1, p2, p3, p4, p5⟩ := HO.out wA HA3.out
      cases hx : sumO (1, []) (aC, aT) (-1) with
      | none =>
        have HE : Hid (ans = ([], 3)) := by unfold Hid; rw [HANS0.out, hx]
        rw [hx] at HS1
        unfold MRet at HS1
        rw [show (none : Option Lin).isSome = false from rfl, show optL none = (0, []) from rfl] at HS1
        clear HANS0 hx
        go_wp2_with (go_at_call 27; refine HS1.out.mono ?_; rintro e w6 ⟨A6, c6, rfl, g7, h6⟩; have H6 := Lib.hid (HA3.out.thenNo h6); clear g7 h6)
        go_ret2
        have h := FsRetI.none (c := 3) (h3.out.1.thenNo (H6.out.alloc (.cells #[.int .i64 0, .slice A6 0 c6] 36)))
        rw [← HE.out] at h
        exact h
      | some x =>
        have HANn : Hid (factsL c0 l = none → ans = ([], 3)) := fun h => by rw [HANS0.out, hx, h]
        have HANs : Hid (∀ d, factsL c0 l = some d → ans = (leafF 2 2 x :: d, 0)) := fun d h => by rw [HANS0.out, hx, h]
        have HST : Hid (∀ i (hi : i < l.length) D, factsL c0 l = (factsL c0 (l.drop i)).map (D ++ ·) → (∀ f, fact1 c0 l[i] = some f → factsL c0 l = (factsL c0 (l.drop (i + 1))).map ((D ++ f) ++ ·)) ∧ (fact1 c0 l[i] = none → factsL c0 l = none)) := fun i hi D h => by
          rw [factsL_step hi] at h
          refine ⟨fun f hf => ?_, fun hf => ?_⟩
          · rw [hf] at h
            rw [h]
            cases factsL c0 (l.drop (i + 1)) <;> simp
          · rw [hf] at h
            rw [h]; rfl
        have hxI : I64 x.1 := by
          have := coefB_le (linB_sound (sumO_sound (a := (1, [])) (b := (aC, aT)) (n := -1) hx)).1
          exact I64.of (by omega) (by omega)
        have HXI := Lib.hid hxI
        rw [hx] at HS1
        unfold MRet at HS1
        rw [show (some x).isSome = true from rfl, show optL (some x) = x from rfl] at HS1
        clear HANS0 hx hxI
        go_upto_region 8 with (go_at_call 27; refine HS1.out.mono ?_; rintro e w6 ⟨A6, c6, rfl, g7, h6⟩; have H6 := Lib.hid (HA3.out.thenNo h6); have G6 := Lib.hid (g7.mono monoE_good (R' := fun k => w3.heap.size ≤ k) (fun k _ hk => Nat.le_trans HA3.out.size hk)); clear g7 h6)
        obtain ⟨w7, hw7⟩ : ∃ w7, w7 = w6.alloc (.cells #[.int .i64 x.1, .slice A6 x.2.length c6] 36) := ⟨_, rfl⟩
        rw [← hw7]
        have H7 : Hid (Chg No w3 w7 ∧ Monos (fun k => w3.heap.size ≤ k) w7 A6 x.2 c6 ∧ w7.heap[w6.heap.size]? = some (.cells #[.int .i64 x.1, .slice A6 x.2.length c6] 36 (0, 0))) := by
          rw [hw7]; exact ⟨H6.out.alloc _, G6.out.no monoE_good ((Chg.refl _ _).alloc _), heap_alloc_new _ _⟩
        clear hw7 p0 p1 p2 p3 p4 p5
        obtain ⟨y0, y1, _, _⟩ := obj_2 H7.out.2.2
        go_upto_region 12 with fail
        obtain ⟨w8, hw8⟩ : ∃ w8, w8 = w7.alloc (.cells #[.int .i64 2, .int .i64 x.1, .slice A6 x.2.length c6, .slice none 0 0] 45) := ⟨_, rfl⟩
        rw [← hw8]
        obtain ⟨g8, hg8⟩ : ∃ g8, g8 = w7.heap.size := ⟨_, rfl⟩
        rw [← hg8]
        have H8 : Hid (Chg No w3 w8 ∧ OwnL (formV 3) 45 (fun k => w3.heap.size ≤ k) (fun k => w3.heap.size ≤ k) w8 (.slice (some ⟨g8, 0, none⟩) 1 1) [leafF 2 2 x]) := by
          rw [hw8, hg8]
          have ha : Chg No w7 (w7.alloc (.cells #[.int .i64 2, .int .i64 x.1, .slice A6 x.2.length c6, .slice none 0 0] 45)) := (Chg.refl _ _).alloc _
          refine ⟨H7.out.1.thenNo ha, ownL_one (cs := [.int .i64 2, .int .i64 x.1, .slice A6 x.2.length c6, .slice none 0 0]) (heap_alloc_new _ _) H7.out.1.size rfl ?_ (formV_good 3)⟩
          exact leaf_is (I64.of (by decide) (by decide)) HXI.out ((H7.out.2.1.mono monoE_good (R' := fun k => w3.heap.size ≤ k ∧ k ≠ w7.heap.size) (fun k hk h => ⟨h, by omega⟩)).no monoE_good ha)
        clear hw8 hg8 y0 y1 HS1 H7 H6 G6 HXI HA3
        have hbl : (l.length : Int) ≤ 60 := by omega
        go_wp2_with fail
        go_loopw [10, 11] (fun s10 s11 wr => ∃ (i : Nat) (v : Value), v = s10 ∧ s11 = .int .i64 i ∧ i ≤ l.length ∧ Hid (∃ D : List (FT 3), D.length ≤ i ∧ OwnL (formV 3) 45 (fun k => w3.heap.size ≤ k) (fun k => w3.heap.size ≤ k) wr v (leafF 2 2 x :: D) ∧ Chg No w3 wr ∧ factsL c0 l = (factsL c0 (l.drop i)).map (D ++ ·))) (fun _ s11 _ => l.length - (intOf s11).toNat)
        case atStart => exact ⟨0, _, rfl, rfl, Nat.zero_le _, [], Nat.le_refl _, H8.out.2, H8.out.1, by rw [List.drop_zero]; cases factsL c0 l <;> simp⟩
        case round =>
          obtain ⟨i, v, rfl, rfl, gi, hst⟩ := hrel
          clear H8
          obtain ⟨D, hD, hown, hch, heq⟩ := hst.out
          clear hst
          by_cases hlt : i < l.length
          · obtain ⟨b, o, B1, d1, C1, e1, rfl, hk, x0, x1, x2, x3, x4, x5⟩ := chs_at (HL.out wr (h3.out.1.thenNo hch)) i hlt
            obtain ⟨hq1, hq2⟩ := HQL.out i hlt
            obtain ⟨n1, n2⟩ := HNS.out _ (List.getElem_mem hlt)
            obtain ⟨hs1, hs2⟩ := HST.out i hlt D heq
            have i0 : (0 : Int) ≤ (i : Int) := by omega
            have i1 : (i : Int) < (l.length : Int) := by omega
            generalize l[i] = ob at *
            obtain ⟨⟨oC, oT⟩, ofd, on, ovC, ovT⟩ := ob
            simp only at hk x0 x1 x2 x3 x4 x5 hq1 hq2 n1 n2
            obtain ⟨m1, m2, m3, m4, m5, m6⟩ := hk
            have HOW := Lib.hid hown
            have HCH := Lib.hid hch
            have HS1 := Lib.hid hs1
            have HS2 := Lib.hid hs2
            have HQ := Lib.hid (And.intro hq1 hq2)
            have HM := Lib.hid (And.intro m2 m6)
            have HX : Hid (∀ W, Chg No wr W → W.cell? ⟨b, o + i * 6, none⟩ = some (.int .i64 oC) ∧ W.cell? ⟨b, o + i * 6 + 1, none⟩ = some (.slice B1 oT.length d1) ∧ W.cell? ⟨b, o + i * 6 + 2, none⟩ = some (.string ofd) ∧ W.cell? ⟨b, o + i * 6 + 3, none⟩ = some (.int .i64 on) ∧ W.cell? ⟨b, o + i * 6 + 4, none⟩ = some (.int .i64 ovC) ∧ W.cell? ⟨b, o + i * 6 + 5, none⟩ = some (.slice C1 ovT.length e1)) :=
              fun W hW => ⟨hW.cell x0 id, hW.cell x1 id, hW.cell x2 id, hW.cell x3 id, hW.cell x4 id, hW.cell x5 id⟩
            have hD2 : D.length ≤ 60 := by omega
            clear hown hch hs1 hs2 heq hq1 hq2 m1 m2 m3 m4 m5 m6
            obtain ⟨p0, p1, p2, p3, p4, p5⟩ := HO.out wr HCH.out
            go_upto_region 14 with fail
            by_cases hf : ofd.toList = fd.toList
            rotate_left
            · have hf1 : (ofd.toList == fd.toList) = false := by simpa using hf
              have hf2 : (ofd.toList != fd.toList) = true := by simpa using hf
              have HE := Lib.hid (HS1.out [] (by rw [HC0.out]; unfold fact1; exact if_neg hf))
              rw [List.append_nil] at HE
              clear hf
              go_quiet (fail)
              obtain ⟨wa, hwa⟩ : ∃ wa, wa = wr.drewN nq := ⟨_, rfl⟩
              rw [← hwa]
              have CA : Hid (Chg No wr wa) := by rw [hwa]; exact (Chg.refl No wr).drewN nq
              clear hwa x0 x1 x2 x3 x4 x5 p0 p1 p2 p3 p4 p5
              go_wp2_with fail
              go_roundw
              case rel => exact ⟨i + 1, _, rfl, by go_num, hlt, D, by omega, HOW.out.no (formV_good 3) CA.out, HCH.out.thenNo CA.out, HE.out⟩
              case measure => simp [intOf]; omega
            have hf1 : (ofd.toList == fd.toList) = true := by simpa using hf
            have hf2 : (ofd.toList != fd.toList) = false := by simpa using hf
            go_quiet (fail)
            obtain ⟨wa, hwa⟩ : ∃ wa, wa = wr.drewN nq := ⟨_, rfl⟩
            rw [← hwa]
            have CA : Hid (Chg No wr wa) := by rw [hwa]; exact (Chg.refl No wr).drewN nq
            clear hwa x0 x1 x2 x3 x4 x5 p0 p1 p2 p3 p4 p5
            obtain ⟨p0, p1, p2, p3, p4, p5⟩ := HO.out wa (HCH.out.thenNo CA.out)
            obtain ⟨x0, x1, x2, x3, x4, x5⟩ := HX.out wa CA.out
            go_upto_region 15 with fail
            have CB1 : Hid (Chg No wr wa.drew) := CA.out.drew
            have CB2 : Hid (Chg No wr (wa.alloc (.cells #[.int .i64 0, .int .i64 0, .slice none 0 0, .slice none 0 0] 45)).drew) := (CA.out.alloc _).drew
            have HSM := Lib.hid (fun W (hW : Chg No wr W) => refSame20_any (w := W) (oC, oT) (aC, aT) (HM.out.1.no monoE_good hW) (HMA.out W (h3.out.1.thenNo (HCH.out.thenNo hW))))
            obtain ⟨q, hq⟩ : ∃ q, q = sameR (oC, oT) (aC, aT) := ⟨_, rfl⟩
            rw [← hq] at HSM
            rw [sameR_sound (a := (oC, oT)) (b := (aC, aT)) HQ.out.1 HQA.out.1] at hq
            have HQE := Lib.hid hq
            clear hq
            obtain ⟨ks, ⟨qs, ts⟩, es⟩ := q
            unfold SRetI at HSM
            simp only at HSM
            have HOZ : Hid ((wa.alloc (.cells #[.int .i64 0, .int .i64 0, .slice none 0 0, .slice none 0 0] 45)).drew.heap[wa.heap.size]? = some (.cells #[.int .i64 0, .int .i64 0, .slice none 0 0, .slice none 0 0] 45 (0, 0)) ∧ (wa.alloc (.cells #[.int .i64 0, .int .i64 0, .slice none 0 0, .slice none 0 0] 45)).drew.heap.size = wa.heap.size + 1 ∧ wr.heap.size ≤ wa.heap.size) := ⟨heap_alloc_new _ _, by simp [World.drew], CA.out.size⟩
            obtain ⟨d0, d1, d2, d3, d4, d5⟩ := HO.out (wa.alloc (.cells #[.int .i64 0, .int .i64 0, .slice none 0 0, .slice none 0 0] 45)) (HCH.out.thenNo (CA.out.alloc _))
            obtain ⟨f0, f1, f2, f3, f4, f5⟩ := HX.out (wa.alloc (.cells #[.int .i64 0, .int .i64 0, .slice none 0 0, .slice none 0 0] 45)) (CA.out.alloc _)
            go_cut [12, 13] (fun s12 s13 wx => ∃ (bq : Nat) (Aq : Option Addr) (cq : Nat), s12 = .pointer (some ⟨bq, 0, none⟩) ∧ s13 = .int .i64 es ∧ Hid (BoxAt wr wx bq ks qs ts Aq cq))
            case first =>
              go_region_with (first
                | (go_at_call 15; (with_reducible refine (HSM.out wa.drew CB1.out).mono ?_); rintro e w6 ⟨Aq, cq, rfl, g6, h6⟩; have BX := Lib.hid (box_after (k := ks) (c := qs) (CB1.out.thenNo h6) (g6.mono monoE_good (fun q _ hq => Nat.le_trans CB1.out.size hq))); clear g6 h6)
                | (go_at_call 15; (with_reducible refine (HSM.out (wa.alloc (.cells #[.int .i64 0, .int .i64 0, .slice none 0 0, .slice none 0 0] 45)).drew CB2.out).mono ?_); rintro e w6 ⟨Aq, cq, rfl, g6, h6⟩; have o6 := h6.obj HOZ.out.1 id; obtain ⟨⟨r0, r1, r2, r3⟩, k0, k1, k2, k3⟩ := obj_4f o6; have BX := Lib.hid (box_before (k := ks) (c := qs) (CB2.out.thenNo h6) HOZ.out.2.2 (g6.mono monoE_good (fun q _ hq => by have h9 := HOZ.out.2.1; omega)) o6); clear g6 h6 o6))
              all_goals (go_wp2_with fail)
              all_goals go_meet
              all_goals exact ⟨_, Aq, cq, rfl, rfl, BX.out⟩
            case rest =>
              obtain ⟨b7, A6, c6, rfl, rfl, C7⟩ := hcut
              obtain ⟨w7, rfl⟩ : ∃ w7, w7 = wc := ⟨_, rfl⟩
              clear HSM CB1 CB2 HOZ d0 d1 d2 d3 d4 d5 f0 f1 f2 f3 f4 f5 x0 x1 x2 x3 x4 x5 p0 p1 p2 p3 p4 p5
              cases hr : sumO (oC, oT) (aC, aT) (-1) with
              | none =>
                have HE := Lib.hid (HANn.out (HS2.out (by rw [HC0.out]; unfold fact1; rw [if_pos hf]; show (match sumO (oC, oT) (aC, aT) (-1) with | none => none | some r => _) = none; rw [hr])))
                have hq := HQE.out
                rw [hr] at hq
                simp only [Prod.mk.injEq] at hq
                obtain ⟨rfl, ⟨rfl, rfl⟩, rfl⟩ := hq
                clear hr hf HQE
                go_wp2_with fail
                go_ret2
                have h := FsRetI.none (c := 3) (h3.out.1.thenNo (HCH.out.thenNo C7.out.1))
                rw [← HE.out] at h
                exact h
              | some r =>
                have hrI : I64 r.1 := by
                  have := coefB_le (linB_sound (sumO_sound hr)).1
                  exact I64.of (by omega) (by omega)
                have HF1 : Hid (fact1 c0 ((oC, oT), ofd, on, ovC, ovT) = if 64 < on + num then some [notF 1 r] else match sumO (ovC, ovT) (vC, vT) (-1) with | none => none | some s => some [orF r s]) := by
                  unfold Hid
                  rw [HC0.out]; unfold fact1; rw [if_pos hf]
                  show (match sumO (oC, oT) (aC, aT) (-1) with | none => none | some r => _) = _
                  rw [hr]
                  try rfl
                have hq := HQE.out
                rw [hr] at hq
                simp only [Prod.mk.injEq] at hq
                obtain ⟨rfl, hq2, rfl⟩ := hq
                obtain rfl : r = (qs, ts) := hq2.symm
                have HRI := Lib.hid hrI
                clear hf hr hrI hf1 hf2 HQE hq2
                have HVR : Hid (∀ q, v.ownBlock = some q → w3.heap.size ≤ q ∧ q < wr.heap.size) := fun q hq => HOW.out.mine q hq
                obtain ⟨⟨y0, y1, y2, y3⟩, _⟩ := obj_4f C7.out.2.1
                go_upto_region 18 with fail
                obtain ⟨p0, p1, p2, p3, p4, p5⟩ := HO.out w7 (HCH.out.thenNo C7.out.1)
                obtain ⟨x0, x1, x2, x3, x4, x5⟩ := HX.out w7 C7.out.1
                have hwn : IntKind.i64.wrap (on + num) = on + num := by rw [IntKind.wrap_i64]; omega
                have HZR : Hid (w3.heap.size ≤ wr.heap.size ∧ wr.heap.size ≤ w7.heap.size) := ⟨HCH.out.size, C7.out.1.size⟩
                by_cases hgt : 64 < on + num
                · have HE := Lib.hid (HS1.out [notF 1 (qs, ts)] (by rw [HF1.out, if_pos hgt]))
                  have hg1 : decide ((64 : Int) < on + num) = true := decide_eq_true hgt
                  go_quiet (fail)
                  obtain ⟨wg, hwg⟩ : ∃ wg, wg = w7.drewN nq := ⟨_, rfl⟩
                  rw [← hwg]
                  have CC : Hid (Chg No w7 wg) := by rw [hwg]; exact (Chg.refl No w7).drewN nq
                  clear hwg x0 x1 x2 x3 x4 x5 p0 p1 p2 p3 p4 p5 hwn hg1
                  obtain ⟨⟨y0, y1, y2, y3⟩, _⟩ := obj_4f (CC.out.obj C7.out.2.1 id)
                  have HNOT : Hid (Calls Tryd.prog 28 #[.agg #[.int .i64 3, .int .i64 qs, .slice A6 ts.length c6, .slice none 0 0]] wg fun e w8 => ∃ b8, e = .returned (.agg #[.int .i64 4, .int .i64 0, .slice none 0 0, .slice (some ⟨b8, 0, none⟩) 1 1]) ∧
                      Hid (NF w3 w8 v (leafF 2 2 x :: D) [.int .i64 4, .int .i64 0, .slice none 0 0, .slice (some ⟨b8, 0, none⟩) 1 1] (notF 1 (qs, ts)))) := by
                    refine (refNot20_any 3 qs A6 ts.length c6 wg).mono ?_
                    rintro e w8 ⟨b8, rfl, k1, k2, k3⟩
                    have hz := HZR.out
                    have hzc := CC.out.size
                    have far : ∀ k, wr.heap.size ≤ k → w3.heap.size ≤ k ∧ v.ownBlock ≠ some k := fun k hk => ⟨by omega, fun e => by have := (HVR.out k e).2; omega⟩
                    refine ⟨b8, rfl, HOW.out.no (formV_good 3) (C7.out.1.thenNo (CC.out.thenNo k3)), fun q hq => by have := k3.size; omega, ?_, fun w12 g => chgpast2 (HCH.out.thenNo (C7.out.1.thenNo (CC.out.thenNo k3))) g (fun k hk => (HVR.out k hk).1)⟩
                    exact not_is (cs := [.int .i64 3, .int .i64 qs, .slice A6 ts.length c6, .slice none 0 0]) k1 (far _ (by omega)) (leaf_is (I64.of (by decide) (by decide)) HRI.out ((C7.out.2.2.1.no monoE_good (CC.out.thenNo k3)).mono monoE_good (fun k _ hk => far k hk)))
                  have HBY2 : Hid (((leafF 2 2 x :: D).length + 1) * 64 ≤ 140737488355328) := by unfold Hid; simp only [List.length_cons]; omega
                  clear hgt
                  go_wp2_with (first
                    | (go_at_call 28; refine HNOT.out.mono ?_; rintro e w8 ⟨b8, rfl, G8⟩)
                    | (at_builtin; refine wpList_pushLn (formV_good 3) formsTy3 rfl (.tmp 90) (.tmp 93) rfl (M := fun k => w3.heap.size ≤ k) (R := fun k => w3.heap.size ≤ k) (w := w8) (fun q hq => G8.out.2.1 q hq) G8.out.1 rfl (cs := [.int .i64 4, .int .i64 0, .slice none 0 0, .slice (some ⟨b8, 0, none⟩) 1 1]) (x := notF 1 (qs, ts)) G8.out.2.2.1 (by simp [Value.oneCell']) (by simp) rfl HBY2.out ?_; intro A2 cap2 w12 g1 g2; have G1 := Lib.hid g1; have G2 := Lib.hid g2; clear g1 g2))
                  go_roundw
                  case rel => exact ⟨i + 1, _, rfl, by go_num, hlt, D ++ [notF 1 (qs, ts)], by simp; omega, G1.out, G8.out.2.2.2 _ G2.out, HE.out⟩
                  case measure => simp [intOf]; omega
                have hg1 : decide ((64 : Int) < on + num) = false := decide_eq_false hgt
                go_quiet (fail)
                obtain ⟨wg, hwg⟩ : ∃ wg, wg = w7.drewN nq := ⟨_, rfl⟩
                rw [← hwg]
                have CC : Hid (Chg No w7 wg) := by rw [hwg]; exact (Chg.refl No w7).drewN nq
                clear hwg x0 x1 x2 x3 x4 x5 p0 p1 p2 p3 p4 p5 hwn hg1
                obtain ⟨p0, p1, p2, p3, p4, p5⟩ := HO.out wg (HCH.out.thenNo (C7.out.1.thenNo CC.out))
                obtain ⟨x0, x1, x2, x3, x4, x5⟩ := HX.out wg (C7.out.1.thenNo CC.out)
                have CD0 : Hid (Chg No wr wg) := C7.out.1.thenNo CC.out
                go_upto_region 20 with fail
                have CB1 : Hid (Chg No wr wg.drew) := CD0.out.drew
                have CB2 : Hid (Chg No wr (wg.alloc (.cells #[.int .i64 0, .int .i64 0, .slice none 0 0, .slice none 0 0] 45)).drew) := (CD0.out.alloc _).drew
                have HSV := Lib.hid (fun W (hW : Chg No wr W) => refSame20_any (w := W) (ovC, ovT) (vC, vT) (HM.out.2.no monoE_good hW) (HMB.out W (h3.out.1.thenNo (HCH.out.thenNo hW))))
                obtain ⟨qq, hq⟩ : ∃ qq, qq = sameR (ovC, ovT) (vC, vT) := ⟨_, rfl⟩
                rw [← hq] at HSV
                rw [sameR_sound (a := (ovC, ovT)) (b := (vC, vT)) HQ.out.2 HQA.out.2] at hq
                have HQF := Lib.hid hq
                clear hq
                obtain ⟨kv, ⟨qv, tv⟩, ev⟩ := qq
                unfold SRetI at HSV
                simp only at HSV
                have HOZ : Hid ((wg.alloc (.cells #[.int .i64 0, .int .i64 0, .slice none 0 0, .slice none 0 0] 45)).drew.heap[wg.heap.size]? = some (.cells #[.int .i64 0, .int .i64 0, .slice none 0 0, .slice none 0 0] 45 (0, 0)) ∧ (wg.alloc (.cells #[.int .i64 0, .int .i64 0, .slice none 0 0, .slice none 0 0] 45)).drew.heap.size = wg.heap.size + 1 ∧ wr.heap.size ≤ wg.heap.size) := ⟨heap_alloc_new _ _, by simp [World.drew], CD0.out.size⟩
                obtain ⟨d0, d1, d2, d3, d4, d5⟩ := HO.out (wg.alloc (.cells #[.int .i64 0, .int .i64 0, .slice none 0 0, .slice none 0 0] 45)) (HCH.out.thenNo (CD0.out.alloc _))
                obtain ⟨f0, f1, f2, f3, f4, f5⟩ := HX.out (wg.alloc (.cells #[.int .i64 0, .int .i64 0, .slice none 0 0, .slice none 0 0] 45)) (CD0.out.alloc _)
                go_cut [14, 15] (fun s14 s15 wx => ∃ (bq : Nat) (Aq : Option Addr) (cq : Nat), s14 = .pointer (some ⟨bq, 0, none⟩) ∧ s15 = .int .i64 ev ∧ Hid (BoxAt wg wx bq kv qv tv Aq cq))
                case first =>
                  go_region_with (first
                    | (go_at_call 15; (with_reducible refine (HSV.out wg.drew CB1.out).mono ?_); rintro e w6 ⟨Aq, cq, rfl, g6, h6⟩; have BX := Lib.hid (box_after (wr := wg) (k := kv) (c := qv) ((Chg.refl No wg).drew.thenNo h6) (g6.mono monoE_good (fun q _ hq => hq))); clear g6 h6)
                    | (go_at_call 15; (with_reducible refine (HSV.out (wg.alloc (.cells #[.int .i64 0, .int .i64 0, .slice none 0 0, .slice none 0 0] 45)).drew CB2.out).mono ?_); rintro e w6 ⟨Aq, cq, rfl, g6, h6⟩; have o6 := h6.obj HOZ.out.1 id; obtain ⟨⟨r0, r1, r2, r3⟩, k0, k1, k2, k3⟩ := obj_4f o6; have BX := Lib.hid (box_before (wr := wg) (k := kv) (c := qv) ((((Chg.refl No wg).alloc _).drew).thenNo h6) (Nat.le_refl _) (g6.mono monoE_good (fun q _ hq => by have h9 := HOZ.out.2.1; omega)) o6); clear g6 h6 o6))
                  all_goals (go_wp2_with fail)
                  all_goals go_meet
                  all_goals exact ⟨_, Aq, cq, rfl, rfl, BX.out⟩
                case rest =>
                  obtain ⟨b10, A9, c9, rfl, rfl, C10'⟩ := hcut
                  obtain ⟨w10, rfl⟩ : ∃ w10, w10 = wc := ⟨_, rfl⟩
                  clear HSV CB1 CB2 HOZ d0 d1 d2 d3 d4 d5 f0 f1 f2 f3 f4 f5 x0 x1 x2 x3 x4 x5 p0 p1 p2 p3 p4 p5
                  cases hs : sumO (ovC, ovT) (vC, vT) (-1) with
                  | none =>
                    have HE := Lib.hid (HANn.out (HS2.out (by rw [HF1.out, if_neg hgt, hs])))
                    have hq := HQF.out
                    rw [hs] at hq
                    simp only [Prod.mk.injEq] at hq
                    obtain ⟨rfl, ⟨rfl, rfl⟩, rfl⟩ := hq
                    clear hs hgt HQF
                    go_wp2_with fail
                    go_ret2
                    have h := FsRetI.none (c := 3) (h3.out.1.thenNo (HCH.out.thenNo (CD0.out.thenNo C10'.out.1)))
                    rw [← HE.out] at h
                    exact h
                  | some s =>
                    have HE := Lib.hid (HS1.out [orF (qs, ts) s] (by rw [HF1.out, if_neg hgt, hs]))
                    have hsI : I64 s.1 := by
                      have := coefB_le (linB_sound (sumO_sound hs)).1
                      exact I64.of (by omega) (by omega)
                    have hq := HQF.out
                    rw [hs] at hq
                    simp only [Prod.mk.injEq] at hq
                    obtain ⟨rfl, hq2, rfl⟩ := hq
                    obtain rfl : s = (qv, tv) := hq2.symm
                    have HSI := Lib.hid hsI
                    clear hs hgt hsI HQF hq2
                    go_upto_region 23 with fail
                    obtain ⟨⟨y0, y1, y2, y3⟩, _⟩ := obj_4f ((CC.out.thenNo C10'.out.1).obj C7.out.2.1 id)
                    obtain ⟨⟨z0, z1, z2, z3⟩, _⟩ := obj_4f C10'.out.2.1
                    have HI : Hid (Calls Tryd.prog 28 #[.agg #[.int .i64 3, .int .i64 qs, .slice A6 ts.length c6, .slice none 0 0]] w10.drew fun e w11 => ∃ b8, e = .returned (.agg #[.int .i64 4, .int .i64 0, .slice none 0 0, .slice (some ⟨b8, 0, none⟩) 1 1]) ∧
                        (w11.cell? ⟨b10, 0, none⟩ = some (.int .i64 3) ∧ w11.cell? ⟨b10, 1, none⟩ = some (.int .i64 qv) ∧ w11.cell? ⟨b10, 2, none⟩ = some (.slice A9 tv.length c9) ∧ w11.cell? ⟨b10, 3, none⟩ = some (.slice none 0 0)) ∧
                        Hid (NF w3 (w11.alloc (.cells #[.int .i64 4, .int .i64 0, .slice none 0 0, .slice (some ⟨b8, 0, none⟩) 1 1, .int .i64 3, .int .i64 qv, .slice A9 tv.length c9, .slice none 0 0] 45)) v (leafF 2 2 x :: D) [.int .i64 6, .int .i64 0, .slice none 0 0, .slice (some ⟨w11.heap.size, 0, none⟩) 2 2] (orF (qs, ts) (qv, tv))) ∧ Hid (∀ j u, ([.int .i64 6, .int .i64 0, .slice none 0 0, .slice (some ⟨w11.heap.size, 0, none⟩) 2 2] : List Value)[j]? = some u → ((w11.alloc (.cells #[.int .i64 4, .int .i64 0, .slice none 0 0, .slice (some ⟨b8, 0, none⟩) 1 1, .int .i64 3, .int .i64 qv, .slice A9 tv.length c9, .slice none 0 0] 45)).alloc (.cells #[.int .i64 6, .int .i64 0, .slice none 0 0, .slice (some ⟨w11.heap.size, 0, none⟩) 2 2] 45)).cell? ((⟨w11.heap.size + 1, 0, none⟩ : Addr).add j) = some u)) := by
                      refine (refNot20_any 3 qs A6 ts.length c6 w10.drew).mono ?_
                      rintro e w11 ⟨b8, rfl, k1, k2, k3⟩
                      have k0 : Chg No w10 w11 := (Chg.refl No w10).drew.thenNo k3
                      have hz := HZR.out
                      have hzd := CC.out.size
                      have hz10 := C10'.out.1.size
                      have hzk := k0.size
                      have hzz : w10.drew.heap.size = w10.heap.size := rfl
                      have far : ∀ k, wr.heap.size ≤ k → w3.heap.size ≤ k ∧ v.ownBlock ≠ some k := fun k hk => ⟨by omega, fun e => by have := (HVR.out k e).2; omega⟩
                      have ha : Chg No w11 (w11.alloc (.cells #[.int .i64 4, .int .i64 0, .slice none 0 0, .slice (some ⟨b8, 0, none⟩) 1 1, .int .i64 3, .int .i64 qv, .slice A9 tv.length c9, .slice none 0 0] 45)) := (Chg.refl _ _).alloc _
                      have hall : Chg No wr (w11.alloc (.cells #[.int .i64 4, .int .i64 0, .slice none 0 0, .slice (some ⟨b8, 0, none⟩) 1 1, .int .i64 3, .int .i64 qv, .slice A9 tv.length c9, .slice none 0 0] 45)) := CD0.out.thenNo (C10'.out.1.thenNo (k0.thenNo ha))
                      have hnews : ∀ j u, ([.int .i64 6, .int .i64 0, .slice none 0 0, .slice (some ⟨w11.heap.size, 0, none⟩) 2 2] : List Value)[j]? = some u → ((w11.alloc (.cells #[.int .i64 4, .int .i64 0, .slice none 0 0, .slice (some ⟨b8, 0, none⟩) 1 1, .int .i64 3, .int .i64 qv, .slice A9 tv.length c9, .slice none 0 0] 45)).alloc (.cells #[.int .i64 6, .int .i64 0, .slice none 0 0, .slice (some ⟨w11.heap.size, 0, none⟩) 2 2] 45)).cell? ((⟨w11.heap.size + 1, 0, none⟩ : Addr).add j) = some u := fun j u hj => by
                        have h9 := news_alloc (w11.alloc (.cells #[.int .i64 4, .int .i64 0, .slice none 0 0, .slice (some ⟨b8, 0, none⟩) 1 1, .int .i64 3, .int .i64 qv, .slice A9 tv.length c9, .slice none 0 0] 45)) [.int .i64 6, .int .i64 0, .slice none 0 0, .slice (some ⟨w11.heap.size, 0, none⟩) 2 2] 45 j u hj
                        rwa [show (w11.alloc (.cells #[.int .i64 4, .int .i64 0, .slice none 0 0, .slice (some ⟨b8, 0, none⟩) 1 1, .int .i64 3, .int .i64 qv, .slice A9 tv.length c9, .slice none 0 0] 45)).heap.size = w11.heap.size + 1 by simp] at h9
                      refine ⟨b8, rfl, (obj_4f (k0.obj C10'.out.2.1 id)).1, ⟨HOW.out.no (formV_good 3) hall, fun q hq => by have := ha.size; omega, ?_, fun w12 g => chgpast2 (HCH.out.thenNo hall) g (fun k hk => (HVR.out k hk).1)⟩, hnews⟩
                      refine or_is (heap_alloc_new _ _) (far _ (by omega)) ?_ (leaf_is (I64.of (by decide) (by decide)) HSI.out ((C10'.out.2.2.1.no monoE_good (k0.thenNo ha)).mono monoE_good (fun k _ hk => far k (by omega))))
                      exact not_is (cs := [.int .i64 3, .int .i64 qs, .slice A6 ts.length c6, .slice none 0 0]) (ha.obj k1 id) (far _ (by omega)) (leaf_is (I64.of (by decide) (by decide)) HRI.out ((C7.out.2.2.1.no monoE_good (CC.out.thenNo (C10'.out.1.thenNo (k0.thenNo ha)))).mono monoE_good (fun k _ hk => far k hk)))
                    have HBY2 : Hid (((leafF 2 2 x :: D).length + 1) * 64 ≤ 140737488355328) := by unfold Hid; simp only [List.length_cons]; omega
                    go_region_law
                      ((first
                        | (refine step_pushL (formV_good 3) formsTy3 (by rfl) (.tmp 108) (.tmp 114) (by rfl) (M := fun k => w3.heap.size ≤ k) (R := fun k => w3.heap.size ≤ k) (w := w11.alloc (.cells #[.int .i64 4, .int .i64 0, .slice none 0 0, .slice (some ⟨b8, 0, none⟩) 1 1, .int .i64 3, .int .i64 qv, .slice A9 tv.length c9, .slice none 0 0] 45)) (fun q hq => G8.out.2.1 q hq) G8.out.1 (by rfl) (cs := [.int .i64 6, .int .i64 0, .slice none 0 0, .slice (some ⟨w11.heap.size, 0, none⟩) 2 2]) (x := orF (qs, ts) (qv, tv)) G8.out.2.2.1 (by simp [Value.oneCell']) ((Chg.refl No _).alloc (.cells #[.int .i64 6, .int .i64 0, .slice none 0 0, .slice (some ⟨w11.heap.size, 0, none⟩) 2 2] 45)) G9.out (by rfl) HBY2.out ?_; intro A2 cap2 w12 g1 g2; have G1 := Lib.hid g1; have G2 := Lib.hid g2; clear g1 g2)
                        | (go_simp; go_at_call 28; refine HI.out.mono ?_; rintro e w11 ⟨b8, rfl, ⟨u0, u1, u2, u3⟩, G8, G9⟩)))
                    all_goals
                      go_wp2
                      go_roundw
                      case rel => exact ⟨i + 1, _, rfl, by go_num, hlt, D ++ [orF (qs, ts) (qv, tv)], by simp; omega, G1.out, G8.out.2.2.2 _ G2.out, HE.out⟩
                      case measure => simp [intOf]; omega
          · have hdr : l.drop i = [] := List.drop_eq_nil_of_le (by omega)
            have hfl : factsL c0 l = some D := by rw [heq, hdr]; simp [factsL]
            have HE := Lib.hid (HANs.out D hfl)
            obtain ⟨A2, cap2, rfl, hsl⟩ := hown.sl (formV_good 3) (by show (leafF 2 2 x :: D).length * 64 ≤ big; unfold big; simp only [List.length_cons]; omega)
            have hz := h3.out.1.size
            have HFIN : Hid (FsRetI w ans (.returned (.tuple #[.slice A2 (leafF 2 2 x :: D).length cap2, .int .i64 0])) wr) := by
              rw [HE.out]
              refine ⟨A2, cap2, rfl, hsl.mono (formE_good 3) (fun k _ hk => ?_), h3.out.1.thenNo hch⟩
              rcases hk with hk | hk <;> exact Nat.le_trans hz hk
            obtain ⟨nn, hnn⟩ : ∃ nn, nn = (leafF 2 2 x :: D).length := ⟨_, rfl⟩
            rw [← hnn] at HFIN
            rw [← hnn]
            clear hnn hown hch heq hsl hfl hdr
            go_wp2_with fail
            go_ret2
            exact HFIN.out
end Go.Proofs.YtpmndblakmobdaaDoor
/- ChL -/
namespace Go.Proofs.YtpmndblakmobdaaDoor
open Go Go.RowKit

def numB (n : Int) : Bool := decide (n ≤ 1099511627776) && decide (-1099511627776 ≤ n)
theorem numB_le {n : Int} (h : numB n = true) : -1099511627776 ≤ n ∧ n ≤ 1099511627776 := by unfold numB at h; simp at h; omega
def lightB (l : List Chunk) : Bool := decide (l.length ≤ 60) && l.all fun o => numB o.2.2.1

set_option maxRecDepth 100000 in
set_option maxHeartbeats 1000000 in
theorem light20_any {R : Nat → Prop} {w : World} {A : Option Addr} {l : List Chunk} {cap : Nat} (hl : Chunks R w A l cap) :
    Calls Tryd.prog 7 #[.slice A l.length cap] w fun e w' => e = .returned (.bool (lightB l)) ∧ w = w' := by
  have hb := hl.big
  unfold big at hb
  obtain ⟨q, hq⟩ : ∃ q, q = lightB l := ⟨_, rfl⟩
  rw [← hq]
  have HQ := Lib.hid hq
  have HL := Lib.hid hl
  clear hl hq
  by_cases h60 : l.length ≤ 60
  · have h1 : (l.length : Int) ≤ 60 := by omega
    have h2 : decide ((60 : Int) < (l.length : Int)) = false := decide_eq_false (by omega)
    have HB : Hid (∀ i (hi : i < l.length), numB l[i].2.2.1 = false → q = false) := fun i hi h => by
      rw [HQ.out]; unfold lightB
      have : l.all (fun o => numB o.2.2.1) = false := by
        cases hh : l.all (fun o => numB o.2.2.1) with
        | false => rfl
        | true => have := List.all_eq_true.1 hh _ (List.getElem_mem hi); rw [this] at h; cases h
      rw [this, Bool.and_false]
    have HG : Hid ((∀ i (hi : i < l.length), numB l[i].2.2.1 = true) → q = true) := fun h => by
      rw [HQ.out]; unfold lightB
      rw [List.all_eq_true.2 (fun o ho => by obtain ⟨i, hi, rfl⟩ := List.getElem_of_mem ho; exact h i hi), decide_eq_true h60]; rfl
    clear HQ
    go_enter Tryd.func7, Tryd.ntmps7
    go_wp2
    go_loop [3] (fun s3 => ∃ i : Nat, s3 = .int .i64 i ∧ i ≤ l.length ∧ Hid (∀ j (h : j < l.length), j < i → numB l[j].2.2.1 = true)) (fun s3 => l.length - (intOf s3).toNat)
    case atStart => exact ⟨0, rfl, Nat.zero_le _, fun j h hk => absurd hk (by omega)⟩
    case round =>
      obtain ⟨i, rfl, gi, hall⟩ := hrel
      by_cases hlt : i < l.length
      · obtain ⟨b, o, B1, d1, C1, e1, rfl, hk, x0, x1, x2, x3, x4, x5⟩ := chs_at HL.out i hlt
        have i0 : (0 : Int) ≤ (i : Int) := by omega
        have i1 : (i : Int) < (l.length : Int) := by omega
        have HB1 : Hid (numB l[i].2.2.1 = false → q = false) := fun h => HB.out i hlt h
        have HNX : Hid (numB l[i].2.2.1 = true → ∀ j (h : j < l.length), j < i + 1 → numB l[j].2.2.1 = true) := fun hp j h hj => by
          rcases Nat.lt_or_ge j i with g | g
          · exact hall.out j h g
          · obtain rfl : j = i := by omega
            exact hp
        clear hk x0 x1 x2 x4 x5
        generalize l[i].2.2.1 = n at *
        by_cases hn1 : (1099511627776 : Int) < n
        · have HE := Lib.hid (HB1.out (by unfold numB; rw [decide_eq_false (by omega)]; rfl))
          clear HNX HB1
          go_wp2
          go_ret
          exact ⟨ret_bool HE.out.symm, rfl⟩
        by_cases hn2 : n < -1099511627776
        · have HE := Lib.hid (HB1.out (by unfold numB; rw [show decide (-1099511627776 ≤ n) = false from decide_eq_false (by omega), Bool.and_false]))
          clear HNX HB1
          go_wp2
          go_ret
          exact ⟨ret_bool HE.out.symm, rfl⟩
        · have HE := Lib.hid (HNX.out (by unfold numB; rw [show decide (-1099511627776 ≤ n) = true from decide_eq_true (by omega), decide_eq_true (show n ≤ 1099511627776 by omega)]; rfl))
          clear HNX HB1
          go_wp2
          go_round
          case rel => exact ⟨i + 1, by go_num, hlt, HE.out⟩
          case measure => simp [intOf]; omega
      · have HE := Lib.hid (HG.out (fun j h => hall.out j h (by omega)))
        go_wp2
        go_ret
        exact ⟨ret_bool HE.out.symm, rfl⟩
  · have h2 : decide ((60 : Int) < (l.length : Int)) = true := decide_eq_true (by omega)
    have HE : Hid (q = false) := by unfold Hid; rw [HQ.out]; unfold lightB; rw [decide_eq_false h60]; rfl
    clear HQ
    go_enter Tryd.func7, Tryd.ntmps7
    go_wp2
    go_ret
    exact ⟨ret_bool HE.out.symm, rfl⟩

set_option maxRecDepth 100000 in
set_option maxHeartbeats 1000000 in
theorem sameForms20_any {R R' : Nat → Prop} {w : World} {n : Nat} {A A' : Option Addr} {l : List (FT n)} {cap cap' : Nat} (hl : Forms R w A l cap) (hl' : Forms R' w A' l cap') :
    Calls Tryd.prog 16 #[.slice A l.length cap, .slice A' l.length cap'] w fun e w' => e = .returned (.bool true) ∧ Chg No w w' := by
  have hb := hl.big
  unfold big at hb
  have HL := Lib.hid (fun W (hW : Chg No w W) => hl.no (formE_good n) hW)
  have HM := Lib.hid (fun W (hW : Chg No w W) => hl'.no (formE_good n) hW)
  clear hl hl'
  go_enter Tryd.func16, Tryd.ntmps16
  go_wp2_with fail
  go_loopw [5] (fun s5 wr => ∃ i : Nat, s5 = .int .i64 i ∧ i ≤ l.length ∧ Hid (Chg No w wr)) (fun s5 _ => l.length - (intOf s5).toNat)
  case atStart => exact ⟨0, rfl, Nat.zero_le _, Chg.refl _ _⟩
  case round =>
    obtain ⟨i, rfl, gi, hch⟩ := hrel
    by_cases hlt : i < l.length
    · obtain ⟨b, o, v0, v1, v2, v3, rfl, hv, x0, x1, x2, x3⟩ := forms_at (HL.out wr hch.out) i hlt
      obtain ⟨b', o', u0, u1, u2, u3, rfl, hu, y0, y1, y2, y3⟩ := forms_at (HM.out wr hch.out) i hlt
      have i0 : (0 : Int) ≤ (i : Int) := by omega
      have i1 : (i : Int) < (l.length : Int) := by omega
      have hd : Chg No wr wr.drew := (Chg.refl No wr).drew
      have HS := Lib.hid (refSame_any n l[i] _ _ wr.drew _ _ ((formV_good n).no hv hd) ((formV_good n).no hu hd))
      have HD := Lib.hid (hch.out.drew)
      clear hv hu hd
      go_upto_region 6 with fail
      go_still_tail 8, (by kernel_rfl)
      change wpList _ _ _ _ _ wr.drew
      go_wp2_with (go_at_call 17; refine HS.out.mono ?_; rintro e w6 ⟨rfl, h6⟩; have H6 := Lib.hid (HD.out.thenNo h6); clear h6)
      go_roundw
      case rel => exact ⟨i + 1, by go_num, hlt, H6.out⟩
      case measure => simp [intOf]; omega
    · go_wp2_with fail
      go_ret
      exact ⟨rfl, hch.out⟩
end Go.Proofs.YtpmndblakmobdaaDoor
/- ChM -/
namespace Go.Proofs.YtpmndblakmobdaaDoor
open Go Go.RowKit

theorem sumO_I64 {a b r : Lin} {n : Int} (h : sumO a b n = some r) : I64 r.1 := by
  have := coefB_le (linB_sound (sumO_sound h)).1
  exact I64.of (by omega) (by omega)
theorem sameR_ok (a b : Lin) : I64 (sameR a b).1 ∧ I64 (sameR a b).2.1.1 ∧ 0 ≤ (sameR a b).2.2 ∧ (sameR a b).2.2 ≤ 16 := by
  have i0 : I64 0 := I64.of (by decide) (by decide)
  have i3 : I64 3 := I64.of (by decide) (by decide)
  unfold sameR
  split
  · split
    · exact ⟨i0, i0, by decide, by decide⟩
    · rename_i h; exact ⟨i3, sumO_I64 h, by show (0 : Int) ≤ 0; decide, by show (0 : Int) ≤ 16; decide⟩
  · exact ⟨i0, i0, by decide, by decide⟩
theorem factsR_code (l : List Chunk) (c : Chunk) : 0 ≤ (factsR l c).2 ∧ (factsR l c).2 ≤ 16 := by
  unfold factsR
  split
  · split
    · exact ⟨by decide, by decide⟩
    · split
      · exact ⟨by decide, by decide⟩
      · exact ⟨by show (0 : Int) ≤ 0; decide, by show (0 : Int) ≤ 16; decide⟩
  · exact ⟨by decide, by decide⟩

set_option maxRecDepth 100000 in
set_option maxHeartbeats 8000000 in
theorem chunkFacts_walk {R R' : Nat → Prop} {w : World} (hK : Keys w) {A : Option Addr} {l : List Chunk} {cap : Nat} (hl : Chunks R w A l cap) {cs : List Value} {c : Chunk} (hc : chV R' w cs c) :
    Calls Tryd.prog 4 #[.slice A l.length cap, .agg cs.toArray] w fun e w' => e = .returned (.bool true) ∧ Chg No w w' := by
  have HL := Lib.hid (fun W (hW : Chg No w W) => light20_any (hl.no chE_good hW))
  have HU := Lib.hid (fun W (hW : Chg No w W) => up20_any (hK.no hW))
  have HF : Hid (lightB l = true → numB c.2.2.1 = true → ∀ W, Chg No w W → Calls Tryd.prog 12 #[.slice A l.length cap, .agg cs.toArray] W (FsRet W (factsR l c)) ∧ Calls Tryd.prog 13 #[.slice A l.length cap, .agg cs.toArray] W (FsRetI W (factsR l c))) := fun h1 h2 W hW => by
    unfold lightB at h1
    rw [Bool.and_eq_true, decide_eq_true_eq] at h1
    have h3 : ∀ o ∈ l, -1099511627776 ≤ o.2.2.1 ∧ o.2.2.1 ≤ 1099511627776 := fun o ho => numB_le (List.all_eq_true.1 h1.2 o ho)
    exact ⟨facts_any (hl.no chE_good hW) (chV_good.no hc hW) h1.1 (numB_le h2) h3, refFacts20_any (hl.no chE_good hW) (chV_good.no hc hW) h1.1 (numB_le h2) h3⟩
  obtain ⟨cA, cc, cB, cd, rfl, g1, g2, g3, g4, g5, g6⟩ := ch_cells hc
  have HSC := Lib.hid (fun W (hW : Chg No w W) => csame_any (w := W) c.1 c.2.2.2 (g2.no monoE_good hW) (g6.no monoE_good hW))
  have HSR := Lib.hid (fun W (hW : Chg No w W) => refSame20_any (w := W) c.1 c.2.2.2 (g2.no monoE_good hW) (g6.no monoE_good hW))
  obtain ⟨k1, k2⟩ := factsR_code l c
  have hs := sameR_ok c.1 c.2.2.2
  obtain ⟨s1, s2, s3, s4⟩ := hs
  clear hl hc g2 g6 hK
  generalize factsR l c = F at *
  generalize sameR c.1 c.2.2.2 = S at *
  generalize lightB l = q at *
  obtain ⟨⟨aC, aT⟩, fd, num, vC, vT⟩ := c
  simp only at HF HSC HSR g1 g3 g4 g5 ⊢
  obtain ⟨fl, fe⟩ := F
  obtain ⟨sk, ⟨sc, st⟩, se⟩ := S
  simp only at HF HSC HSR k1 k2 s1 s2 s3 s4
  have HC1 := Lib.hid (fun W => code_any W fe k1 k2)
  have HC2 := Lib.hid (fun W => code_any W se s3 s4)
  have HSI := Lib.hid (And.intro s1 s2)
  clear k1 k2 s1 s2 s3 s4
  unfold FsRet FsRetI at HF
  simp only at HF
  unfold SRet at HSC
  simp only at HSC
  unfold SRetI at HSR
  simp only at HSR
  generalize errV 64 fe = E1 at *
  generalize errV 64 se = E2 at *
  obtain ⟨w3, hw3⟩ : ∃ w3, w3 = w.alloc (.cells #[.int .i64 aC, .slice cA aT.length cc, .string fd, .int .i64 num, .int .i64 vC, .slice cB vT.length cd] 38) := ⟨_, rfl⟩
  have h3 : Hid (Chg No w w3 ∧ w3.heap[w.heap.size]? = some (.cells #[.int .i64 aC, .slice cA aT.length cc, .string fd, .int .i64 num, .int .i64 vC, .slice cB vT.length cd] 38 (0, 0))) := by
    rw [hw3]; exact ⟨(Chg.refl _ _).alloc _, heap_alloc_new _ _⟩
  have HO : Hid (∀ W, Chg No w3 W → W.cell? ⟨w.heap.size, 0, none⟩ = some (.int .i64 aC) ∧ W.cell? ⟨w.heap.size, 1, none⟩ = some (.slice cA aT.length cc) ∧ W.cell? ⟨w.heap.size, 2, none⟩ = some (.string fd) ∧ W.cell? ⟨w.heap.size, 3, none⟩ = some (.int .i64 num) ∧ W.cell? ⟨w.heap.size, 4, none⟩ = some (.int .i64 vC) ∧ W.cell? ⟨w.heap.size, 5, none⟩ = some (.slice cB vT.length cd)) := fun W hW => obj_6 (hW.obj h3.out.2 id)
  cases q
  · clear HF HSC HSR HC1 HC2
    go_enter Tryd.func4, Tryd.ntmps4
    go_upto_region 1 with fail
    rw [← hw3]
    clear hw3
    go_wp2_with (first
      | (go_at_call 6; with_reducible refine (HU.out _ h3.out.1).mono ?_; rintro e w4 ⟨rfl, h4⟩; have H4 := Lib.hid (h3.out.1.thenNo h4); clear h4)
      | (go_at_call 7; with_reducible refine (HL.out _ H4.out).mono ?_; rintro e w5 ⟨rfl, rfl⟩))
    go_ret
    exact ⟨rfl, H4.out⟩
  by_cases hb1 : (1099511627776 : Int) < num
  · clear HF HSC HSR HC1 HC2
    go_enter Tryd.func4, Tryd.ntmps4
    go_upto_region 1 with fail
    rw [← hw3]
    clear hw3
    go_wp2_with (first
      | (go_at_call 6; with_reducible refine (HU.out _ h3.out.1).mono ?_; rintro e w4 ⟨rfl, h4⟩; obtain ⟨p0, p1, p2, p3, p4, p5⟩ := HO.out w4 h4; have H4 := Lib.hid (h3.out.1.thenNo h4); clear h4)
      | (go_at_call 7; with_reducible refine (HL.out _ H4.out).mono ?_; rintro e w5 ⟨rfl, rfl⟩))
    go_ret
    exact ⟨rfl, H4.out⟩
  by_cases hb2 : num < (-1099511627776 : Int)
  · clear HF HSC HSR HC1 HC2
    go_enter Tryd.func4, Tryd.ntmps4
    go_upto_region 1 with fail
    rw [← hw3]
    clear hw3
    go_wp2_with (first
      | (go_at_call 6; with_reducible refine (HU.out _ h3.out.1).mono ?_; rintro e w4 ⟨rfl, h4⟩; obtain ⟨p0, p1, p2, p3, p4, p5⟩ := HO.out w4 h4; have H4 := Lib.hid (h3.out.1.thenNo h4); clear h4)
      | (go_at_call 7; with_reducible refine (HL.out _ H4.out).mono ?_; rintro e w5 ⟨rfl, rfl⟩))
    go_ret
    exact ⟨rfl, H4.out⟩
  have HFF := Lib.hid (fun W (hW : Chg No w W) => (HF.out rfl (by unfold numB; rw [show decide (num ≤ 1099511627776) = true from decide_eq_true (by omega), show decide (-1099511627776 ≤ num) = true from decide_eq_true (by omega)]; rfl) W hW).1)
  have HFG := Lib.hid (fun W (hW : Chg No w W) => (HF.out rfl (by unfold numB; rw [show decide (num ≤ 1099511627776) = true from decide_eq_true (by omega), show decide (-1099511627776 ≤ num) = true from decide_eq_true (by omega)]; rfl) W hW).2)
  clear HF
  go_enter Tryd.func4, Tryd.ntmps4
  go_upto_region 1 with fail
  rw [← hw3]
  clear hw3
  go_upto_region 7 with (first
    | (go_at_call 6; with_reducible refine (HU.out _ h3.out.1).mono ?_; rintro e w4 ⟨rfl, h4⟩; obtain ⟨p0, p1, p2, p3, p4, p5⟩ := HO.out w4 h4; have H4 := Lib.hid h4; clear h4)
    | (go_at_call 7; with_reducible refine (HL.out _ (h3.out.1.thenNo H4.out)).mono ?_; rintro e w5 ⟨rfl, rfl⟩)
    | (go_at_call 12; with_reducible refine (HFF.out _ (h3.out.1.thenNo H4.out)).mono ?_; rintro e w5 ⟨A5, c5, rfl, g5, h5⟩; have G5 := Lib.hid g5; have H5 := Lib.hid (H4.out.thenNo h5); clear g5 h5 p0 p1 p2 p3 p4 p5; obtain ⟨p0, p1, p2, p3, p4, p5⟩ := HO.out w5 H5.out)
    | (go_at_call 13; with_reducible refine (HFG.out _ (h3.out.1.thenNo H5.out)).mono ?_; rintro e w6 ⟨A6, c6, rfl, g6, h6⟩; have G6 := Lib.hid g6; have H56 := Lib.hid h6; have H6 := Lib.hid (H5.out.thenNo h6); clear g6 h6 p0 p1 p2 p3 p4 p5; obtain ⟨p0, p1, p2, p3, p4, p5⟩ := HO.out w6 H6.out))
  go_upto_region 8 with (go_at_call 14; with_reducible refine (HSC.out _ (h3.out.1.thenNo H6.out)).mono ?_; rintro e w7 ⟨A7, c7, rfl, g7, h7⟩; have G7 := Lib.hid g7; have H67 := Lib.hid h7; clear g7 h7)
  obtain ⟨w8, hw8⟩ : ∃ w8, w8 = w7.alloc (.cells #[.int .i64 sk, .int .i64 sc, .slice A7 st.length c7, .slice none 0 0] 45) := ⟨_, rfl⟩
  rw [← hw8]
  obtain ⟨b7, hb7⟩ : ∃ b7, b7 = w7.heap.size := ⟨_, rfl⟩
  rw [← hb7]
  have H8 : Hid (Chg No w6 w8 ∧ w8.heap[b7]? = some (.cells #[.int .i64 sk, .int .i64 sc, .slice A7 st.length c7, .slice none 0 0] 45 (0, 0)) ∧ Monos (fun k => w6.heap.size ≤ k) w8 A7 st c7) := by
    rw [hw8, hb7]; exact ⟨H67.out.alloc _, heap_alloc_new _ _, G7.out.no monoE_good ((Chg.refl _ _).alloc _)⟩
  clear hw8 hb7 H67 G7 p0 p1 p2 p3 p4 p5
  obtain ⟨p0, p1, p2, p3, p4, p5⟩ := HO.out w8 (H6.out.thenNo H8.out.1)
  go_upto_region 9 with (go_at_call 15; with_reducible refine (HSR.out _ (h3.out.1.thenNo (H6.out.thenNo H8.out.1))).mono ?_; rintro e w9 ⟨A9, c9, rfl, g9, h9⟩; have G9 := Lib.hid g9; have H89 := Lib.hid h9; clear g9 h9)
  obtain ⟨w10, hw10⟩ : ∃ w10, w10 = w9.alloc (.cells #[.int .i64 sk, .int .i64 sc, .slice A9 st.length c9, .slice none 0 0] 45) := ⟨_, rfl⟩
  rw [← hw10]
  obtain ⟨b9, hb9⟩ : ∃ b9, b9 = w9.heap.size := ⟨_, rfl⟩
  rw [← hb9]
  have H10 : Hid (Chg No w8 w10 ∧ w10.heap[b9]? = some (.cells #[.int .i64 sk, .int .i64 sc, .slice A9 st.length c9, .slice none 0 0] 45 (0, 0)) ∧ Monos (fun k => w8.heap.size ≤ k) w10 A9 st c9) := by
    rw [hw10, hb9]; exact ⟨H89.out.alloc _, heap_alloc_new _ _, G9.out.no monoE_good ((Chg.refl _ _).alloc _)⟩
  clear hw10 hb9 H89 G9 p0 p1 p2 p3 p4 p5
  have HSF := Lib.hid (sameForms20_any (w := w10) (n := 3) (l := fl) (G5.out.no (formE_good 3) (H56.out.thenNo (H8.out.1.thenNo H10.out.1))) (G6.out.no (formE_good 3) (H8.out.1.thenNo H10.out.1)))
  have HSS := Lib.hid (fun W (hW : Chg No w10 W) => refSame_any 1 (leafF 0 sk (sc, st)) _ _ W _ _ (leaf_is (r := (sc, st)) HSI.out.1 HSI.out.2 ((H8.out.2.2.no monoE_good H10.out.1).no monoE_good hW)) (leaf_is (r := (sc, st)) HSI.out.1 HSI.out.2 (H10.out.2.2.no monoE_good hW)))
  have HCells := Lib.hid (fun W (hW : Chg No w10 W) => And.intro (obj_4f ((H10.out.1.thenNo hW).obj H8.out.2.1 id)).1 (obj_4f (hW.obj H10.out.2.1 id)).1)
  have HALL := Lib.hid (h3.out.1.thenNo (H6.out.thenNo (H8.out.1.thenNo H10.out.1)))
  clear HL HU HSC HSR HFF HFG G5 G6
  go_wp2_with (first
    | (go_at_call 16; with_reducible refine HSF.out.mono ?_; rintro e w11 ⟨rfl, h11⟩; have H11 := Lib.hid h11; obtain ⟨⟨y0, y1, y2, y3⟩, z0, z1, z2, z3⟩ := HCells.out w11 h11; clear h11)
    | (go_at_call 11; with_reducible refine (HC1.out _).mono ?_; rintro e w12 ⟨rfl, rfl⟩)
    | (go_at_call 17; with_reducible refine (HSS.out _ H11.out).mono ?_; rintro e w12 ⟨rfl, h12⟩; have H12 := Lib.hid (H11.out.thenNo h12); clear h12)
    | (go_at_call 11; with_reducible refine (HC2.out _).mono ?_; rintro e w13 ⟨rfl, rfl⟩))
  go_ret
  exact ⟨rfl, HALL.out.thenNo H12.out⟩
end Go.Proofs.YtpmndblakmobdaaDoor
/- ChOpen -/
namespace Go.Proofs.YtpmndblakmobdaaDoor
open Go Go.RowKit
section
variable {P : Program} {H : Type} {enc : TypeId × Value → H}
/-- A struct of four fields. -/
theorem opensV_struct4 {α β γ δ : Type} {t : TypeId} {f0 f1 f2 f3 : Field} {V : ElV α} {U : ElV β} {T : ElV γ} {S : ElV δ} {bytes ib ic : Nat} (hic : 0 < ic) (hib : 0 < ib) (hbp : 0 < bytes) (ht : P.underlying t = some (.struct #[f0, f1, f2, f3])) (o0 : f0.offset = 0) (o1 : f1.offset = V.sz) (o2 : f2.offset = V.sz + U.sz) (o3 : f3.offset = V.sz + (U.sz + T.sz))
    (hc : P.cellsOf t = V.sz + (U.sz + (T.sz + S.sz))) (hb : P.bytesOf t = bytes) (h0 : OpensV enc P f0.type V) (h1 : OpensV enc P f1.type U) (h2 : OpensV enc P f2.type T) (h3 : OpensV enc P f3.type S) : OpensV enc P t (pairV V (pairV U (pairV T S ic hic) ib hib) bytes hbp) where
  cells := hc
  bytes := hb
  open_ := fun W fuel cs y hl hy hw => by
    obtain ⟨xs, n, hn, rfl, hl', hxl, hf⟩ := DataW.trod_struct ht hy
    obtain ⟨y0, y1, y2, y3, rfl⟩ : ∃ y0 y1 y2 y3, xs = [y0, y1, y2, y3] := by
      match xs, hxl with
      | [y0, y1, y2, y3], _ => exact ⟨y0, y1, y2, y3, rfl⟩
    have g0 := hf 0 f0 rfl
    have g1 := hf 1 f1 rfl
    have g2 := hf 2 f2 rfl
    have g3 := hf 3 f3 rfl
    rw [o0, h0.cells, List.drop_zero] at g0
    rw [o1, h1.cells] at g1
    rw [o2, h2.cells] at g2
    rw [o3, h3.cells] at g3
    simp only [List.getElem?_cons_zero, List.getElem?_cons_succ] at g0 g1 g2 g3
    have hl2 : cs.length = V.sz + (U.sz + (T.sz + S.sz)) := hl
    obtain ⟨x0, hx0⟩ := h0.open_ W n _ y0 (by simp; omega) g0 (fun m hm => hw m (by simp only [DataW.weights, ht, List.map_cons, List.map_nil, weightsEach_cons, List.mem_append]; exact .inl hm))
    obtain ⟨x1, hx1⟩ := h1.open_ W n _ y1 (by simp; omega) g1 (fun m hm => hw m (by simp only [DataW.weights, ht, List.map_cons, List.map_nil, weightsEach_cons, List.mem_append]; exact .inr (.inl hm)))
    obtain ⟨x2, hx2⟩ := h2.open_ W n _ y2 (by simp; omega) g2 (fun m hm => hw m (by simp only [DataW.weights, ht, List.map_cons, List.map_nil, weightsEach_cons, List.mem_append]; exact .inr (.inr (.inl hm))))
    obtain ⟨x3, hx3⟩ := h3.open_ W n _ y3 (by simp; omega) g3 (fun m hm => hw m (by simp only [DataW.weights, ht, List.map_cons, List.map_nil, weightsEach_cons, List.mem_append]; exact .inr (.inr (.inr (.inl hm)))))
    refine ⟨(x0, x1, x2, x3), cs.take V.sz, cs.drop V.sz, by rw [List.take_append_drop], by simp; omega, hx0, (cs.drop V.sz).take U.sz, cs.drop (V.sz + U.sz), by rw [← List.drop_drop, List.take_append_drop], by simp; omega, hx1, (cs.drop (V.sz + U.sz)).take T.sz, (cs.drop (V.sz + (U.sz + T.sz))).take S.sz, ?_, by simp; omega, hx2, hx3⟩
    rw [List.take_of_length_le (l := cs.drop (V.sz + (U.sz + T.sz))) (by simp; omega), ← Nat.add_assoc, ← List.drop_drop (i := T.sz), List.take_append_drop]
end
section
variable {H : Type} {enc : TypeId × Value → H}
theorem opensV_chunk : OpensV enc Tryd.prog 38 chV :=
  opensV_struct4 (by decide) (by decide) (by decide) Tryd.underlying38 rfl rfl rfl rfl (by kernel_rfl) (by kernel_rfl) opensV_lin (opensV_string Tryd.underlying9 (by kernel_rfl) (by kernel_rfl)) (opensV_int Tryd.underlying3 (by kernel_rfl) (by kernel_rfl)) opensV_lin
theorem opensE_chunk : OpensE enc Tryd.prog 38 6 chV.mem := opensE_of opensV_chunk
end
end Go.Proofs.YtpmndblakmobdaaDoor
