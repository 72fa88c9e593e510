/-
  slices.ContainsFunc over no statement, over one; show.deepS over these.
-/
import Derived.Test.YtpmndblakmobdaaGreatDoorMB
import Derived.Test.YtpmndblakmobdaaGreatDoorShF
import Derived.Deep.MidRow
namespace Go.Proofs.YtpmndblakmobdaaGreatDoor
open Go Go.RowKit

set_option maxRecDepth 100000 in
set_option maxHeartbeats 1000000 in
theorem indexStmt0 {w : World} {b : Nat} {cs : Array Value} (hb : w.heap[b]? = some (.cells cs 96 (0, 0))) (hsz : cs.size = 35) (fv : FuncId) (hf : Entered fv) (p : Bool)
    (hp : ∀ w', Chg No w w' → Calls Tryz.prog fv #[.agg cs] w' fun e w'' => e = .returned (.bool p) ∧ Chg No w' w'') :
    Calls Tryz.prog 107 #[.slice (some ⟨b, 0, none⟩) 1 1, .func (.func fv) #[] #[]] w fun e w' => e = .returned (.int .i64 (if p = true then 0 else -1)) ∧ Chg No w w' := by
  have Hp := Lib.hid hp
  have HB := Lib.hid (fun W (h : Chg No w W) => h.obj hb id)
  have hinfo : (Tryz.prog.info? 96).map (·.size) = some cs.size := by rw [hsz]; kernel_rfl
  have HI := Lib.hid hinfo
  clear hp hb hinfo hsz
  unfold Entered at hf
  obtain ⟨ans, hans⟩ : ∃ ans : Int, ans = (if p = true then 0 else -1) := ⟨_, rfl⟩
  rw [← hans]
  have HA := Lib.hid hans
  clear hans
  go_enter Tryz.func107, Tryz.ntmps107
  go_wp2
  go_loopw [8] (fun i wr => (i = .int .i64 0 ∧ Hid (Chg No w wr)) ∨ (i = .int .i64 1 ∧ Hid (Chg No w wr) ∧ Hid (p = false))) (fun i _ => 1 - (intOf i).toNat)
  case atStart => exact .inl ⟨rfl, Chg.refl _ _⟩
  case round =>
    rcases hrel with ⟨rfl, hch⟩ | ⟨rfl, hch, hpf⟩
    · have HP := Lib.hid (Hp.out wr hch.out)
      have HBr := Lib.hid (HB.out wr hch.out)
      cases p with
      | true =>
        have HE : Hid (ans = 0) := HA.out
        go_wp2_with (first
          | (refine wpList_load_row rfl 96 _ rfl b rfl 96 cs (0, 0) _ HBr.out Tryz.underlying96 rfl HI.out ?_)
          | (refine HP.out.mono ?_; rintro e w1 ⟨rfl, h1⟩))
        go_ret
        exact ⟨ret_int HE.out.symm, hch.out.thenNo h1⟩
      | false =>
        go_wp2_with (first
          | (refine wpList_load_row rfl 96 _ rfl b rfl 96 cs (0, 0) _ HBr.out Tryz.underlying96 rfl HI.out ?_)
          | (refine HP.out.mono ?_; rintro e w1 ⟨rfl, h1⟩))
        go_roundw
        case rel => exact .inr ⟨by go_num, hch.out.thenNo h1, trivial⟩
        case measure => simp [intOf]
    · have HE : Hid (ans = -1) := by unfold Hid; rw [HA.out, hpf.out]; rfl
      go_wp2
      go_ret
      exact ⟨ret_int HE.out.symm, hch.out⟩
theorem containsStmt0 {w : World} {b : Nat} {cs : Array Value} (hb : w.heap[b]? = some (.cells cs 96 (0, 0))) (hsz : cs.size = 35) (fv : FuncId) (hf : Entered fv) (p : Bool)
    (hp : ∀ w', Chg No w w' → Calls Tryz.prog fv #[.agg cs] w' fun e w'' => e = .returned (.bool p) ∧ Chg No w' w'') :
    Calls Tryz.prog 86 #[.slice (some ⟨b, 0, none⟩) 1 1, .func (.func fv) #[] #[]] w fun e w' => e = .returned (.bool p) ∧ Chg No w w' := by
  have H := Lib.hid (indexStmt0 hb hsz fv hf p hp)
  clear hp hb hsz
  cases p
  · go_enter Tryz.func86, Tryz.ntmps86
    go_wp2_with (refine H.out.mono ?_; rintro e w1 ⟨rfl, h1⟩)
    go_ret
    exact ⟨rfl, h1⟩
  · go_enter Tryz.func86, Tryz.ntmps86
    go_wp2_with (refine H.out.mono ?_; rintro e w1 ⟨rfl, h1⟩)
    go_ret
    exact ⟨rfl, h1⟩
theorem indexStmtNil0 (w : World) (fv : FuncId) :
    Calls Tryz.prog 107 #[.slice none 0 0, .func (.func fv) #[] #[]] w fun e w' => e = .returned (.int .i64 (-1)) ∧ w = w' := by
  go_enter Tryz.func107, Tryz.ntmps107
  go_wp2
  go_loop [8] (fun i => i = .int .i64 0) (fun _ => 0)
  case atStart => rfl
  case round =>
    obtain rfl := hrel
    go_wp2
    go_ret
    exact ⟨rfl, rfl⟩
theorem containsStmtNil0 (w : World) (fv : FuncId) :
    Calls Tryz.prog 86 #[.slice none 0 0, .func (.func fv) #[] #[]] w fun e w' => e = .returned (.bool false) ∧ w = w' := by
  have H := Lib.hid (indexStmtNil0 w fv)
  go_enter Tryz.func86, Tryz.ntmps86
  go_wp2_with (refine H.out.mono ?_; rintro e w1 ⟨rfl, rfl⟩)
  go_ret
  exact ⟨rfl, rfl⟩

set_option maxRecDepth 100000 in
set_option maxHeartbeats 1000000 in
theorem indexStmt1 {w : World} {b : Nat} {cs : Array Value} (hb : w.heap[b]? = some (.cells cs 96 (0, 0))) (hsz : cs.size = 35) (fv : FuncId) (hf : Entered fv) (c : Value) (p : Bool)
    (hp : ∀ w', Chg No w w' → Calls Tryz.prog fv #[.agg cs, c] w' fun e w'' => e = .returned (.bool p) ∧ Chg No w' w'') :
    Calls Tryz.prog 107 #[.slice (some ⟨b, 0, none⟩) 1 1, .func (.func fv) #[] #[c]] w fun e w' => e = .returned (.int .i64 (if p = true then 0 else -1)) ∧ Chg No w w' := by
  have Hp := Lib.hid hp
  have HB := Lib.hid (fun W (h : Chg No w W) => h.obj hb id)
  have hinfo : (Tryz.prog.info? 96).map (·.size) = some cs.size := by rw [hsz]; kernel_rfl
  have HI := Lib.hid hinfo
  clear hp hb hinfo hsz
  unfold Entered at hf
  obtain ⟨ans, hans⟩ : ∃ ans : Int, ans = (if p = true then 0 else -1) := ⟨_, rfl⟩
  rw [← hans]
  have HA := Lib.hid hans
  clear hans
  go_enter Tryz.func107, Tryz.ntmps107
  go_wp2
  go_loopw [8] (fun i wr => (i = .int .i64 0 ∧ Hid (Chg No w wr)) ∨ (i = .int .i64 1 ∧ Hid (Chg No w wr) ∧ Hid (p = false))) (fun i _ => 1 - (intOf i).toNat)
  case atStart => exact .inl ⟨rfl, Chg.refl _ _⟩
  case round =>
    rcases hrel with ⟨rfl, hch⟩ | ⟨rfl, hch, hpf⟩
    · have HP := Lib.hid (Hp.out wr hch.out)
      have HBr := Lib.hid (HB.out wr hch.out)
      cases p with
      | true =>
        have HE : Hid (ans = 0) := HA.out
        go_wp2_with (first
          | (refine wpList_load_row rfl 96 _ rfl b rfl 96 cs (0, 0) _ HBr.out Tryz.underlying96 rfl HI.out ?_)
          | (refine HP.out.mono ?_; rintro e w1 ⟨rfl, h1⟩))
        go_ret
        exact ⟨ret_int HE.out.symm, hch.out.thenNo h1⟩
      | false =>
        go_wp2_with (first
          | (refine wpList_load_row rfl 96 _ rfl b rfl 96 cs (0, 0) _ HBr.out Tryz.underlying96 rfl HI.out ?_)
          | (refine HP.out.mono ?_; rintro e w1 ⟨rfl, h1⟩))
        go_roundw
        case rel => exact .inr ⟨by go_num, hch.out.thenNo h1, trivial⟩
        case measure => simp [intOf]
    · have HE : Hid (ans = -1) := by unfold Hid; rw [HA.out, hpf.out]; rfl
      go_wp2
      go_ret
      exact ⟨ret_int HE.out.symm, hch.out⟩
theorem containsStmt1 {w : World} {b : Nat} {cs : Array Value} (hb : w.heap[b]? = some (.cells cs 96 (0, 0))) (hsz : cs.size = 35) (fv : FuncId) (hf : Entered fv) (c : Value) (p : Bool)
    (hp : ∀ w', Chg No w w' → Calls Tryz.prog fv #[.agg cs, c] w' fun e w'' => e = .returned (.bool p) ∧ Chg No w' w'') :
    Calls Tryz.prog 86 #[.slice (some ⟨b, 0, none⟩) 1 1, .func (.func fv) #[] #[c]] w fun e w' => e = .returned (.bool p) ∧ Chg No w w' := by
  have H := Lib.hid (indexStmt1 hb hsz fv hf c p hp)
  clear hp hb hsz
  cases p
  · go_enter Tryz.func86, Tryz.ntmps86
    go_wp2_with (refine H.out.mono ?_; rintro e w1 ⟨rfl, h1⟩)
    go_ret
    exact ⟨rfl, h1⟩
  · go_enter Tryz.func86, Tryz.ntmps86
    go_wp2_with (refine H.out.mono ?_; rintro e w1 ⟨rfl, h1⟩)
    go_ret
    exact ⟨rfl, h1⟩
theorem indexStmtNil1 (w : World) (fv : FuncId) (c : Value) :
    Calls Tryz.prog 107 #[.slice none 0 0, .func (.func fv) #[] #[c]] w fun e w' => e = .returned (.int .i64 (-1)) ∧ w = w' := by
  go_enter Tryz.func107, Tryz.ntmps107
  go_wp2
  go_loop [8] (fun i => i = .int .i64 0) (fun _ => 0)
  case atStart => rfl
  case round =>
    obtain rfl := hrel
    go_wp2
    go_ret
    exact ⟨rfl, rfl⟩
theorem containsStmtNil1 (w : World) (fv : FuncId) (c : Value) :
    Calls Tryz.prog 86 #[.slice none 0 0, .func (.func fv) #[] #[c]] w fun e w' => e = .returned (.bool false) ∧ w = w' := by
  have H := Lib.hid (indexStmtNil1 w fv c)
  go_enter Tryz.func86, Tryz.ntmps86
  go_wp2_with (refine H.out.mono ?_; rintro e w1 ⟨rfl, rfl⟩)
  go_ret
  exact ⟨rfl, rfl⟩
end Go.Proofs.YtpmndblakmobdaaGreatDoor
