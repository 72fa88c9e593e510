/-
  errors.Is of a Spot; law00.Is of a Spot, law00.Told.
-/
import Derived.Test.YtbbcodpoiikkdaaDoorDoorA
import Derived.Deep.DeepCutAuto
import Derived.Deep.CutBlock
namespace Go.Proofs.YtbbcodpoiikkdaaDoor
open Go Go.RowKit Go.Extern.Stop Go.Stop Go.Extern

theorem run_neq_iface_ptr_same {P : Program} (w : World) {ti tp te : TypeId} {ms : Array (String × TypeId)} {i j : TypeInfo} (a : Addr)
    (hi : P.underlying ti = some (.interface ms)) (hp : P.underlying tp = some (.pointer te)) (hinfo : P.info? tp = some i) (hcomp : i.comparable = true) (hte : P.info? te = some j) :
    (binOp .neq ti (.iface tp (.pointer (some a))) (.iface tp (.pointer (some a)))).run P w = .ok (.bool false) w := by
  simp only [binOp]
  simp [Op.equal, Op.maxDepth, run_equalIn_iface_ptr_same w 9998 a hi hp hinfo hcomp hte]
theorem dTypeOfC (v : Value) (w : World) : (ReflectliteType.typeOf #[.iface 36 v]).run Tryd.prog w = .ok (.iface 83 (.agg #[.pointer (some ⟨1, 36, none⟩)])) w := by kernel_rfl
def cmpEntry : Array Value → Sem Value := ReflectliteType.method fun t => do Rtype.noPackHeld "Comparable" t; pure (.bool (← typeInfo t).comparable)
theorem dComparableC (w : World) : (cmpEntry #[.agg #[.pointer (some ⟨1, 36, none⟩)]]).run Tryd.prog w = .ok (.bool true) w := by kernel_rfl
theorem dMethodComparable' (v : Value) (w : World) : (Go.method 228 83 v "Comparable").run Tryd.prog w = .ok (74, v) w := by kernel_rfl
theorem dCompC : (Tryd.prog.info? 36).map (·.comparable) = some true := by kernel_rfl
theorem dCompP : (Tryd.prog.info? 42).map (·.comparable) = some true := by kernel_rfl
theorem dSizeS : (Tryd.prog.info? 44).map (·.size) = some 2 := by kernel_rfl
theorem dNoIs (v : Value) (xT : TypeId) (w : World) : (Instr.typeAssert (.iface 42 v) xT 95 true).run Tryd.prog w = .ok (.tuple #[.nilIface, .bool false]) w := run_typeAssert_lacksB Tryd.underlying95 (by kernel_rfl) (by kernel_rfl) v xT w
theorem dHasUnwrap (v : Value) (xT : TypeId) (w : World) : (Instr.typeAssert (.iface 42 v) xT 90 true).run Tryd.prog w = .ok (.tuple #[.iface 42 v, .bool true]) w := run_typeAssert_hasB Tryd.underlying90 (by kernel_rfl) v xT w
theorem dMethodUnwrap (v : Value) (w : World) : (Go.method 228 42 v "Unwrap").run Tryd.prog w = .ok (68, v) w := by kernel_rfl

set_option maxRecDepth 100000 in
set_option maxHeartbeats 4000000 in
/-- errors.Is(e, c): e a Spot that holds the code c. -/
theorem is_spot (pb po : Nat) (c : Int) (w : World) (h1 : w.cell? ⟨pb, po + 1, none⟩ = some (.iface 36 (.int .i64 c))) :
    Calls Tryd.prog 28 #[.iface 42 (.pointer (some ⟨pb, po, none⟩)), .iface 36 (.int .i64 c)] w fun e w' => e = .returned (.bool true) ∧ w' = w := by
  obtain ⟨i, hi, hc⟩ := errInfo
  have h8 := @run_callFunc_extern Tryd.prog 44 _ ReflectliteType.typeOf Tryd.func44 (by kernel_rfl) (by kernel_rfl) (by kernel_rfl) (by kernel_rfl)
  have h32 := @run_callFunc_extern Tryd.prog 74 _ cmpEntry Tryd.func74 (by kernel_rfl) (by kernel_rfl) (by kernel_rfl) (by kernel_rfl)
  have tT := dTypeOfC
  have cT := dComparableC
  have mR := dMethodComparable'
  have nW := dNoIs
  have uW := dHasUnwrap
  have mU := dMethodUnwrap
  have heq : (binOp .eql 26 (.iface 36 (.int .i64 c)) (.iface 36 (.int .i64 c))).run Tryd.prog w = .ok (.bool true) w := by
    have := run_eql_iface_ints w c c Tryd.underlying26 Tryd.underlying36 hi hc
    rwa [show (c == c) = true from beq_self_eq_true c] at this
  have hty := run_eql_iface_types (P := Tryd.prog) 42 36 (.pointer (some ⟨pb, po, none⟩)) (.int .i64 c) Tryd.underlying26 (by decide) w
  go_enter Tryd.func28, Tryd.ntmps28
  go_wp2
  refine wp_loop_rounds 2 ?_
  rw [rounds_succ]
  go_wp2
  rw [rounds_succ]
  go_wp2
  go_ret
  exact ⟨rfl, rfl⟩

/-- The variable that errors.As reads: its one cell. -/
def Handle (w : World) : Prop := w.cell? ⟨0, 0, none⟩ = some (.iface 83 (.agg #[.pointer (some ⟨1, 26, none⟩)]))
theorem Handle.no {w w' : World} (h : Handle w) (hc : Chg No w w') : Handle w' := hc.cell h id

theorem obj_one {w : World} {b : Nat} {x : Value} {t : TypeId} (h : w.heap[b]? = some (.cells #[x] t (0, 0))) : w.cell? ⟨b, 0, none⟩ = some x ∧ w.frozen? ⟨b, 0, none⟩ = false := by
  simp [World.cell?, World.frozen?, h]
/-- errors.As of a Spot, the target a new variable. -/
theorem as_new (e : Addr) (w : World) (hg : Handle w) :
    Calls Tryd.prog 27 #[.iface 42 (.pointer (some e)), .iface 54 (.pointer (some ⟨w.heap.size, 0, none⟩))] (w.alloc (.cells #[.pointer none] 42)) fun ev w' =>
      ev = .returned (.bool true) ∧ w'.cell? ⟨w.heap.size, 0, none⟩ = some (.pointer (some e)) ∧ Hid (Chg No w w') := by
  have hc : Chg No w (w.alloc (.cells #[.pointer none] 42)) := (Chg.refl _ _).alloc _
  have hb : (w.alloc (.cells #[.pointer none] 42)).heap[w.heap.size]? = some (.cells #[.pointer none] 42 (0, 0)) := heap_alloc_new _ _
  have ht : (w.alloc (.cells #[.pointer none] 42)).cell? ⟨w.heap.size, 0, none⟩ = some (.pointer none) := (obj_one hb).1
  have hf : (w.alloc (.cells #[.pointer none] 42)).frozen? ⟨w.heap.size, 0, none⟩ = false := (obj_one hb).2
  refine (as_hit e ⟨w.heap.size, 0, none⟩ (.pointer none) _ (hg.no hc) ht hf).mono ?_
  rintro ev w' ⟨rfl, rfl⟩
  generalize w.alloc (.cells #[.pointer none] 42) = W at *
  have h4 : Chg No W ((((W.alloc (.cells #[.pointer (some ⟨w.heap.size, 0, none⟩)] 54)).alloc (.cells #[.pointer (some ⟨1, 54, none⟩), .pointer (some ⟨W.heap.size, 0, none⟩), .int .u64 150] 70)).alloc (.cells #[.pointer (some ⟨1, 54, none⟩), .pointer (some ⟨W.heap.size, 0, none⟩), .int .u64 150] 70)).alloc (.cells #[.pointer (some e)] 42)) := ((((Chg.refl _ _).alloc _).alloc _).alloc _).alloc _
  generalize ((((W.alloc (.cells #[.pointer (some ⟨w.heap.size, 0, none⟩)] 54)).alloc (.cells #[.pointer (some ⟨1, 54, none⟩), .pointer (some ⟨W.heap.size, 0, none⟩), .int .u64 150] 70)).alloc (.cells #[.pointer (some ⟨1, 54, none⟩), .pointer (some ⟨W.heap.size, 0, none⟩), .int .u64 150] 70)).alloc (.cells #[.pointer (some e)] 42)) = W2 at *
  have hb2 := h4.obj hb id
  refine ⟨rfl, by simp [World.cell?, World.setCell, hb2, Array.getElem?_modify], ?_⟩
  exact (hc.thenNo h4).setCell _ _ (fun h => absurd h (by show ¬ w.heap.size < w.heap.size; omega))

set_option maxRecDepth 100000 in
set_option maxHeartbeats 4000000 in
/-- law00.Is of a Spot with that place and that code. -/
theorem lawIs (pb po : Nat) (i c : Int) (w : World) (hg : Handle w) (h0 : w.cell? ⟨pb, po, none⟩ = some (.int .i64 i)) (h1 : w.cell? ⟨pb, po + 1, none⟩ = some (.iface 36 (.int .i64 c))) :
    Calls Tryd.prog 14 #[.iface 42 (.pointer (some ⟨pb, po, none⟩)), .int .i64 i, .int .i64 c] w fun e w' => e = .returned (.bool true) ∧ Chg No w w' := by
  obtain ⟨j, hj, hjc⟩ := errInfo
  obtain ⟨ip, hip, hcmp⟩ := Option.map_eq_some_iff.1 dCompP
  obtain ⟨js, hjs, _⟩ := Option.map_eq_some_iff.1 dSizeS
  have HA := Lib.hid (as_new ⟨pb, po, none⟩ w hg)
  have HC0 := Lib.hid (fun W (h : Chg No w W) => h.cell h0 id)
  have HC1 := Lib.hid (fun W (h : Chg No w W) => h.cell h1 id)
  have HI := Lib.hid (fun W h => is_spot pb po c W h)
  have heq := fun W => run_eql_iface_ints (P := Tryd.prog) W c c Tryd.underlying26 Tryd.underlying36 hj hjc
  simp only [beq_self_eq_true] at heq
  have hep := fun W => run_neq_iface_ptr_same (P := Tryd.prog) W ⟨pb, po, none⟩ Tryd.underlying26 Tryd.underlying42 hip hcmp hjs
  clear hj hjc hip hcmp hjs h0 h1 hg
  go_enter Tryd.func14, Tryd.ntmps14
  go_upto_region 3 with (go_at_call 27; refine HA.out.mono ?_; rintro e w2 ⟨rfl, ht, H2⟩; have h0 := HC0.out _ H2.out; have h1 := HC1.out _ H2.out)
  clear HA HC0 HC1
  go_upto_region 6 with (go_at_call 28; refine (HI.out _ h1).mono ?_; rintro e w3 ⟨rfl, rfl⟩)
  go_wp2
  go_ret
  exact ⟨rfl, H2.out⟩

theorem told_spot (pb po : Nat) (i : Nat) (c : Int) (w : World) (hg : Handle w) (h0 : w.cell? ⟨pb, po, none⟩ = some (.int .i64 i)) (h1 : w.cell? ⟨pb, po + 1, none⟩ = some (.iface 36 (.int .i64 c))) :
    Calls Tryd.prog 11 #[.iface 42 (.pointer (some ⟨pb, po, none⟩)), .int .i64 c, .int .i64 i] w fun e w' => e = .returned (.bool true) ∧ Chg No w w' := by
  have H := Lib.hid (lawIs pb po i c w hg h0 h1)
  clear hg h0 h1
  go_enter Tryd.func11, Tryd.ntmps11
  go_wp2_with (go_at_call 14; refine H.out.mono ?_; rintro e w1 ⟨rfl, h⟩)
  go_ret
  exact ⟨rfl, h⟩
theorem told_code (c : Int) (w : World) (h1 : 0 ≤ c) (h2 : c ≤ 16) :
    Calls Tryd.prog 11 #[errV 36 c, .int .i64 c, .int .i64 (-1)] w fun e w' => e = .returned (.bool true) ∧ Chg No w w' := by
  have H := Lib.hid (code_any w c h1 h2)
  generalize errV 36 c = v at *
  go_enter Tryd.func11, Tryd.ntmps11
  go_wp2_with (go_at_call 23; refine H.out.mono ?_; rintro e w1 ⟨rfl, rfl⟩)
  go_ret
  exact ⟨rfl, Chg.refl _ _⟩
end Go.Proofs.YtbbcodpoiikkdaaDoor
