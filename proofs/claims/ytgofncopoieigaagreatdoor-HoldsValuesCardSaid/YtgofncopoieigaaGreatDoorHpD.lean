/-
  Chapter 17: append, slices.Grow, slices.Concat over shares. (Printed by wip/gen17.py.)
-/
import Derived.Test.YtgofncopoieigaaGreatDoorHpA
import Derived.Lib.AppendZeros
import Derived.Lib.SliceRun
namespace Go.Proofs.YtgofncopoieigaaGreatDoor
open Go Go.RowKit

abbrev zT : Value := .agg #[.int .i64 0, .string ByteArray.empty, .int .i64 0]
theorem sharesTy : SliceTy Tryz.prog 35 50 3 32 zT := ⟨Tryz.underlying35, by kernel_rfl, rfl, by decide, by decide⟩
theorem cellsTy : SliceTy Tryz.prog 32 67 3 32 zT := ⟨Tryz.underlying32, by kernel_rfl, rfl, by decide, by decide⟩
section
variable {P : Program} {α : Type} {V : ElV α} {t e : TypeId} {z : Value} {ops : Array Oper} {rest : List Oper} {o : Oper} {act : Act} {Q : Exit → Act → World → Prop}
/-- append(s, x), the block of the one element by its number. -/
theorem wpList_pushL' (g : V.Good) (T : SliceTy P t e V.sz V.bytes z) (hgd : o.guard = none) (s xo : Operand)
    (ho : o.op = .call { callee := .builtin .append, args := #[s, xo], argTypes := #[t, t] })
    {M R : Nat → Prop} {w : World} (hM : ∀ k, w.heap.size ≤ k → M k) {v : Value} {l : List α} (hown : OwnL V e M R w v l) (hs : act.eval s = v)
    {x : α} {cs : List Value} (hx : V (fun k => R k ∧ v.ownBlock ≠ some k) w cs x) (h1 : ∀ u ∈ cs, u.oneCell' = true) {e' : TypeId} {p : Nat} (hp : w.heap.size = p) (hxo : act.eval xo = .slice (some ⟨p, 0, none⟩) 1 1) (hbytes : (l.length + 1) * V.bytes ≤ 140737488355328)
    (h : ∀ A cap w', OwnL V e M R w' (.slice A (l.length + 1) cap) (l ++ [x]) → Chg (fun k => v.ownBlock = some k) w w' → wpList P ops Q rest (act.put o.dst (.slice A (l.length + 1) cap)) w') :
    wpList P ops Q (o :: rest) act (w.alloc (.cells cs.toArray e')) := by
  subst hp
  exact wpList_pushL g T hgd s xo ho hM hown hs hx h1 hxo hbytes h
/-- append(s, src...): s is the call's own. -/
theorem wpList_extendL (g : V.Good) (h1 : ∀ {R w cs x}, V R w cs x → ∀ u ∈ cs, u.oneCell' = true) (T : SliceTy P t e V.sz V.bytes z) (hgd : o.guard = none) (s xo : Operand)
    (ho : o.op = .call { callee := .builtin .append, args := #[s, xo], argTypes := #[t, t] })
    {M R : Nat → Prop} {w : World} (hM : ∀ k, w.heap.size ≤ k → M k) {v : Value} {l : List α} (hown : OwnL V e M R w v l) (hs : act.eval s = v)
    {Rs : Nat → Prop} {A : Option Addr} {l' : List α} {n cap : Nat} (hn : n = l'.length) (hl : Sl V.mem V.sz Rs w A l' cap) (hx : act.eval xo = .slice A n cap) (hsub : ∀ k, k < w.heap.size → Rs k → R k ∧ v.ownBlock ≠ some k)
    (hbytes : (l.length + l'.length) * V.bytes ≤ 140737488355328)
    (h : ∀ A cap w', OwnL V e M R w' (.slice A (l.length + l'.length) cap) (l ++ l') → Chg (fun k => v.ownBlock = some k) w w' → wpList P ops Q rest (act.put o.dst (.slice A (l.length + l'.length) cap)) w') :
    wpList P ops Q (o :: rest) act w := by
  subst hn
  obtain ⟨C, ho1, hlC, hv⟩ := hown
  obtain ⟨C', hC1, hC2, hC3, hC4⟩ := hl.cellsOf
  have post : ∀ A2 cap2 w', Own M e V.sz w' (.slice A2 (l.length + l'.length) cap2) (l.length + l'.length) (C.flatten ++ C'.flatten) → Chg (fun k => v.ownBlock = some k) w w' →
      ((Value.slice A2 (l.length + l'.length) cap2).ownBlock = v.ownBlock ∨ ∀ k, (Value.slice A2 (l.length + l'.length) cap2).ownBlock = some k → w.heap.size ≤ k) → OwnL V e M R w' (.slice A2 (l.length + l'.length) cap2) (l ++ l') := fun A2 cap2 w' g1 g2 g3 => by
    have keep : ∀ {cs : List Value} {x : α}, V (fun k => R k ∧ v.ownBlock ≠ some k) w cs x → V (fun k => R k ∧ (Value.slice A2 (l.length + l'.length) cap2).ownBlock ≠ some k) w' cs x := by
      intro cs x hs
      have h1 := g.mono hs (R' := fun k => (R k ∧ v.ownBlock ≠ some k) ∧ (Value.slice A2 (l.length + l'.length) cap2).ownBlock ≠ some k) (fun k hk hR => ⟨hR, by
        rcases g3 with g3 | g3
        · rw [g3]; exact hR.2
        · intro e; have := g3 k e; omega⟩)
      have h2 := g.chg h1 g2 (fun k hk hs => hk.1.2 hs)
      exact g.mono h2 (fun k _ hk => ⟨hk.1.1, hk.2⟩)
    refine ⟨C ++ C', by rw [List.flatten_append, List.length_append]; exact g1, by simp [hlC, hC1], fun i hi hi' => ?_⟩
    by_cases hlt : i < l.length
    · rw [List.getElem_append_left (by omega), List.getElem_append_left hlt]; exact keep (hv i hlt (by omega))
    · have hi2 : i - l.length < l'.length := by simp at hi; omega
      rw [List.getElem_append_right (by omega), List.getElem_append_right (by omega)]
      have e : i - C.length = i - l.length := by omega
      simp only [e]
      exact keep (g.mono (hC3 _ hi2 (by omega)) (fun k hk hR => hsub k hk hR))
  cases A with
  | none =>
    have h0 : l' = [] := List.eq_nil_of_length_eq_zero (by have := hl.le; have := hl.nil rfl; omega)
    subst h0
    have hC0 : C' = [] := List.eq_nil_of_length_eq_zero (by simpa using hC1)
    subst hC0
    obtain ⟨A2, cap2, rfl, _⟩ := ho1.value
    refine wpList_plain hgd fun _ hK => ?_
    have hrun := run_append_none (P := P) T o.type ho1 cap
    unfold Oper.wp execOp
    simp only [ho, resolve, invoke, builtin, Sem.run_bind, Sem.run_pure, Result.andThen_ok, List.map_toArray, List.map_cons, List.map_nil, hs, hx, List.length_nil, hrun]
    exact hK _ _ (h A2 cap2 w (post A2 cap2 w (by simpa using ho1) (Chg.refl _ _) (.inl rfl)) (Chg.refl _ _))
  | some a =>
    refine wpList_append_Own T hgd s xo ho hM ho1 hs (a := a) (m := l'.length) (c := cap) (news := C'.flatten) hx (by rw [flatten_length hC2, hC1]) (fun j u hj => ?_) (fun u hu => ?_) hbytes (fun A2 cap2 w' g1 g2 g3 => ?_)
    · rcases hC4 with h0 | ⟨b, o, hA, hcell⟩
      · subst h0
        have : C' = [] := List.eq_nil_of_length_eq_zero (by simpa using hC1)
        subst this; simp at hj
      · injection hA with hA
        rw [hA, addr_add]
        exact hcell j u hj
    · obtain ⟨c, hcC, huc⟩ := List.mem_flatten.1 hu
      obtain ⟨i, hi, rfl⟩ := List.getElem_of_mem hcC
      exact h1 (hC3 i (by omega) hi) u huc
    · refine h A2 cap2 w' (post A2 cap2 w' g1 g2 ?_) g2
      rcases g3 with g3 | g3
      · exact .inl g3
      · exact .inr (fun k hk => by rw [g3] at hk; injection hk with hk; omega)
end

set_option maxRecDepth 100000 in
set_option maxHeartbeats 4000000 in
/-- slices.Grow(nil, n): an empty slice of the call's own. -/
theorem growShares_any (n : Nat) (w : World) (hn : n * 32 ≤ 140737488355328) :
    Calls Tryz.prog 91 #[.slice none 0 0, .int .i64 n] w fun e w' => ∃ A cap, e = .returned (.slice A 0 cap) ∧ OwnL triV 50 (fun k => w.heap.size ≤ k) No w' (.slice A 0 cap) [] ∧ Chg No w w' := by
  by_cases h0 : n = 0
  · subst h0
    go_enter Tryz.func91, Tryz.ntmps91
    go_wp2
    go_ret
    exact ⟨none, 0, rfl, OwnL.nil _ _ _ _ _, Chg.refl _ _⟩
  · have hp : 0 < n := by omega
    obtain ⟨i, hi, hz, hsz, hby⟩ := info_parts sharesTy.info
    have hge := grownCap_ge w n 0 50
    have hle := grownCap_le_maxLen w n 0 50 (by simp only [maxLen]; omega)
    have hr := Lib.run_append_nil_zeros (P := Tryz.prog) w 35 3 35 50 i zT .i64 .i64 Tryz.underlying35 Tryz.underlying3 hi hz n hp (by omega) (by omega) (by rw [hby]; omega)
    have n1 : ¬ ((n : Int) < 0) := by omega
    have n2 : (0 : Int) < (n : Int) := by omega
    obtain ⟨cp, hcp⟩ : ∃ cp, cp = grownCap w n 0 50 := ⟨_, rfl⟩
    rw [← hcp] at hr hge hle
    have HF : Hid (∀ W, w.drew.alloc (.cells (Builtin.zeroCells zT.cells n ++ Builtin.zeroCells zT.cells (cp - n)) 50) = W → OwnL triV 50 (fun k => w.heap.size ≤ k) No W (.slice (some ⟨w.heap.size, 0, none⟩) 0 cp) [] ∧ Chg No w W) := fun W hW => by
      subst hW
      refine ⟨⟨[], ⟨rfl, .inr ⟨w.heap.size, 0, cp, _, rfl, Nat.le_refl _, heap_alloc_new w.drew _, Nat.zero_le _, hle, ?_, fun j u hj => by simp at hj⟩⟩, rfl, fun i h => absurd h (Nat.not_lt_zero i)⟩, ((Chg.refl _ _).drew).alloc _⟩
      have e1 : zT.cells.size = 3 := rfl
      have e2 : triV.sz = 3 := rfl
      simp only [Array.size_append, size_zeroCells, e1, e2]
      omega
    have hc2 : (n : Int) ≤ (cp : Int) := by omega
    clear hcp hi hz hsz hby hp h0
    go_enter Tryz.func91, Tryz.ntmps91
    go_wp2_with (at_builtin; refine Lib.wpList_append_run _ rfl (.tmp 20) (.tmp 21) 35 3 rfl _ _ rfl rfl _ _ hr ?_)
    go_ret
    exact ⟨_, _, rfl, HF.out _ rfl⟩

set_option maxHeartbeats 2000000 in
/-- slices.Concat of two. -/
theorem concatShares_any {R : Nat → Prop} {w : World} {A B : Option Addr} {l l' : List Tri} {ca cb b : Nat} (hl : Tris R w A l ca) (hl' : Tris R w B l' cb) (hb : w.heap[b]? = some (.cells #[.slice A l.length ca, .slice B l'.length cb] 35 (0, 0))) (hsz : (l.length + l'.length) * 32 ≤ 140737488355328) :
    Calls Tryz.prog 56 #[.slice (some ⟨b, 0, none⟩) 2 2] w fun e w' => ∃ A' cap', e = .returned (.slice A' (l.length + l'.length) cap') ∧ OwnL triV 50 (fun k => w.heap.size ≤ k) (fun k => R k ∧ k < w.heap.size) w' (.slice A' (l.length + l'.length) cap') (l ++ l') ∧ Chg No w w' := by
  have HL := Lib.hid (fun W (h : Chg No w W) => (id (hl.mono triE_good (R' := fun k => R k ∧ k < w.heap.size) (fun k hk hR => ⟨hR, hk⟩))).no triV_good.mem h)
  have HL' := Lib.hid (fun W (h : Chg No w W) => (id (hl'.mono triE_good (R' := fun k => R k ∧ k < w.heap.size) (fun k hk hR => ⟨hR, hk⟩))).no triV_good.mem h)
  have HC : Hid (∀ W, Chg No w W → W.cell? ⟨b, 0, none⟩ = some (.slice A l.length ca) ∧ W.cell? ⟨b, 1, none⟩ = some (.slice B l'.length cb)) := fun W hW => by
    have := hW.obj hb id
    simp [World.cell?, this]
  have HG := Lib.hid (fun W => growShares_any (l.length + l'.length) W hsz)
  have hb1 : l.length ≤ 4398046511104 := by omega
  have hb2 : l'.length ≤ 4398046511104 := by omega
  have HSZ : Hid ((l.length + l'.length) * 32 ≤ 140737488355328) := hsz
  clear hl hl' hb hsz
  go_enter Tryz.func56, Tryz.ntmps56
  go_wp2_with fail
  go_loopw [3, 11] (fun s3 s11 wr => wr = w ∧ ∃ m i : Nat, s3 = .int .i64 m ∧ s11 = .int .i64 i ∧ ((i = 0 ∧ m = 0) ∨ (i = 1 ∧ m = l.length) ∨ (i = 2 ∧ m = l.length + l'.length))) (fun _ s11 _ => 2 - (intOf s11).toNat)
  case atStart => exact ⟨rfl, 0, 0, rfl, rfl, .inl ⟨rfl, rfl⟩⟩
  case round =>
    obtain ⟨rfl, m, i, rfl, rfl, hi⟩ := hrel
    obtain ⟨c0, c1⟩ := HC.out wr (Chg.refl _ _)
    rcases hi with ⟨rfl, rfl⟩ | ⟨rfl, hm⟩ | ⟨rfl, hm⟩
    · have hn : ¬ ((l.length : Int) < 0) := by omega
      go_wp2_with fail
      go_roundw
      case rel => exact ⟨trivial, l.length, 1, by simp, by rfl, .inr (.inl ⟨rfl, rfl⟩)⟩
      case measure => simp [intOf]
    · have hn : ¬ ((l.length : Int) + (l'.length : Int) < 0) := by omega
      subst hm
      go_wp2_with fail
      go_roundw
      case rel => exact ⟨trivial, l.length + l'.length, 2, by simp, by rfl, .inr (.inr ⟨rfl, rfl⟩)⟩
      case measure => simp [intOf]
    · subst hm
      have HG1 := Lib.hid (HG.out wr)
      rw [Int.natCast_add] at HG1
      go_wp2_with (go_at_call 91; (with_reducible refine HG1.out.mono ?_); rintro e w1 ⟨A1, cap1, rfl, g1, h1⟩; have G1 := Lib.hid g1; have H1 := Lib.hid h1; clear g1 h1)
      clear c0 c1
      obtain ⟨wo, rfl⟩ : ∃ wo, wo = wr := ⟨_, rfl⟩
      go_loopw [6, 27] (fun s6 s27 wr => ∃ (i : Nat) (acc : List Tri) (Aa : Option Addr) (capa : Nat), s27 = .int .i64 i ∧ s6 = .slice Aa acc.length capa ∧ ((i = 0 ∧ acc = []) ∨ (i = 1 ∧ acc = l) ∨ (i = 2 ∧ acc = l ++ l')) ∧ Hid (OwnL triV 50 (fun k => wo.heap.size ≤ k) (fun k => R k ∧ k < wo.heap.size) wr (.slice Aa acc.length capa) acc ∧ Chg No wo wr)) (fun _ s27 _ => 2 - (intOf s27).toNat)
      case atStart => exact ⟨0, [], A1, cap1, rfl, rfl, .inl ⟨rfl, rfl⟩, G1.out.mono triV_good (fun _ _ h => h) (fun _ _ h => h.elim), H1.out⟩
      case round =>
        obtain ⟨i, acc, Aa, capa, rfl, rfl, hi, hst⟩ := hrel
        obtain ⟨c0, c1⟩ := HC.out wr hst.out.2
        have HM : Hid (∀ k, wr.heap.size ≤ k → wo.heap.size ≤ k) := fun k hk => Nat.le_trans hst.out.2.size hk
        have HSUB : Hid (∀ k, k < wr.heap.size → (R k ∧ k < wo.heap.size) → (R k ∧ k < wo.heap.size) ∧ (Value.slice Aa acc.length capa).ownBlock ≠ some k) := fun k _ hk => ⟨hk, fun e => by have := (hst.out.1.mine k e).1; omega⟩
        have HPO : Hid (∀ w', Chg (fun k => (Value.slice Aa acc.length capa).ownBlock = some k) wr w' → Chg No wo w') := fun w' h => hst.out.2.trans h (fun k hk hlt => by have := (hst.out.1.mine k hk).1; omega)
        rcases hi with ⟨rfl, ha⟩ | ⟨rfl, ha⟩ | ⟨rfl, ha⟩
        · subst ha
          have HLr := Lib.hid (HL.out wr hst.out.2)
          go_wp2_with (at_builtin; refine wpList_extendL triV_good tri_one sharesTy rfl (.tmp 31) (.tmp 32) rfl (M := fun k => wo.heap.size ≤ k) (R := fun k => R k ∧ k < wo.heap.size) HM.out hst.out.1 rfl rfl HLr.out rfl HSUB.out (by have := HSZ.out; show (([] : List Tri).length + l.length) * 32 ≤ 140737488355328; simp only [List.length_nil]; omega) ?_; intro A2 cap2 w2 g2 h2; have G2 := Lib.hid (And.intro g2 (HPO.out w2 h2)); clear g2 h2)
          go_roundw
          case rel => exact ⟨1, l, A2, cap2, by rfl, by simp, .inr (.inl ⟨rfl, rfl⟩), by simpa using G2⟩
          case measure => simp [intOf]
        · have HLr := Lib.hid (HL'.out wr hst.out.2)
          subst ha
          go_wp2_with (at_builtin; refine wpList_extendL triV_good tri_one sharesTy rfl (.tmp 31) (.tmp 32) rfl (M := fun k => wo.heap.size ≤ k) (R := fun k => R k ∧ k < wo.heap.size) HM.out hst.out.1 rfl rfl HLr.out rfl HSUB.out HSZ.out ?_; intro A2 cap2 w2 g2 h2; have G2 := Lib.hid (And.intro g2 (HPO.out w2 h2)); clear g2 h2)
          go_roundw
          case rel => exact ⟨2, acc ++ l', A2, cap2, by rfl, by simp, .inr (.inr ⟨rfl, rfl⟩), by simpa using G2⟩
          case measure => simp [intOf]
        · go_wp2_with fail
          go_ret
          subst ha
          exact ⟨Aa, capa, by simp, by simpa using hst.out.1, hst.out.2⟩
end Go.Proofs.YtgofncopoieigaaGreatDoor
