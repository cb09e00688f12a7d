/- errors.Is on a disk's error, asked for a number. Conditions: the error lies in memory. -/
import Derived.Test.YtdabehgbhndimaaWsy
import Derived.Test.YtdabehgbhndimaaVxK
import Derived.Stop.Asserts
import Derived.Laws.Externs
set_option linter.unusedSimpArgs false
set_option linter.unusedVariables false
namespace Go.Proofs.Ytdabehgbhndimaa
open Go Go.Vx Dsk
section
variable {w w' : World} {F : Nat → Prop}

theorem is_typeOf (v : Value) (w : World) : (Extern.ReflectliteType.typeOf #[.iface 49 v]).run Try.prog w = .ok (.iface 135 (.agg #[.pointer (some ⟨0, 49, none⟩)])) w := by kernel_rfl
noncomputable def compX : Array Value → Sem Value := (Extern.find Try.f123).getD fun _ => pure undef
theorem is_comparable (w : World) : (compX #[.agg #[.pointer (some ⟨0, 49, none⟩)]]).run Try.prog w = .ok (.bool true) w := by kernel_rfl
theorem is_mcomp (v : Value) (w : World) : (Go.method (Try.prog.types.size + Made.depth) 135 v "Comparable").run Try.prog w = .ok (123, v) w := by kernel_rfl
theorem is_munwrap (v : Value) (w : World) : (Go.method (Try.prog.types.size + Made.depth) 94 v "Unwrap").run Try.prog w = .ok (119, v) w := by kernel_rfl
theorem noIsF (v : Value) (xT : TypeId) (w : World) : (Instr.typeAssert (.iface 94 v) xT 137 true).run Try.prog w = .ok (.tuple #[.nilIface, .bool false]) w := run_typeAssert_lacksB Try.underlying137 (by kernel_rfl) (by kernel_rfl) v xT w
theorem hasUnwrapF (v : Value) (xT : TypeId) (w : World) : (Instr.typeAssert (.iface 94 v) xT 140 true).run Try.prog w = .ok (.tuple #[.iface 94 v, .bool true]) w := run_typeAssert_hasB Try.underlying140 (by kernel_rfl) v xT w
theorem noIsE (v : Value) (xT : TypeId) (w : World) : (Instr.typeAssert (.iface 49 v) xT 137 true).run Try.prog w = .ok (.tuple #[.nilIface, .bool false]) w := run_typeAssert_lacksB Try.underlying137 (by kernel_rfl) (by kernel_rfl) v xT w
theorem noUnwrapE (v : Value) (xT : TypeId) (w : World) : (Instr.typeAssert (.iface 49 v) xT 140 true).run Try.prog w = .ok (.tuple #[.nilIface, .bool false]) w := run_typeAssert_lacksB Try.underlying140 (by kernel_rfl) (by kernel_rfl) v xT w
theorem noUnwrapsE (v : Value) (xT : TypeId) (w : World) : (Instr.typeAssert (.iface 49 v) xT 141 true).run Try.prog w = .ok (.tuple #[.nilIface, .bool false]) w := run_typeAssert_lacksB Try.underlying141 (by kernel_rfl) (by kernel_rfl) v xT w
theorem typeOf_x (v : Value) {K : Value → World → Prop} (hK : K (.iface 135 (.agg #[.pointer (some ⟨0, 49, none⟩)])) w) : callX Try.prog (callFunc 49 #[.iface 49 v]) (.one (.one .any)) K w := by
  refine .inr ⟨_, w, ?_, hK⟩
  have h8 := @run_callFunc_extern Try.prog 49 _ Extern.ReflectliteType.typeOf Try.func49 (by kernel_rfl) (by kernel_rfl) (by kernel_rfl) (by kernel_rfl) #[.iface 49 v] w
  rw [h8, is_typeOf]; rfl
theorem comparable_x {K : Bool → World → Prop} (hK : K true w) : callX Try.prog (invoke (.fn (.method "Comparable") #[]) (#[.iface 135 (.agg #[.pointer (some ⟨0, 49, none⟩)])] ++ #[])) (.one (.one .bool)) K w := by
  refine .inr ⟨true, w, ?_, hK⟩
  have h32 := @run_callFunc_extern Try.prog 123 _ compX Try.func123 (by kernel_rfl) (by kernel_rfl) (by kernel_rfl) (by kernel_rfl) #[.agg #[.pointer (some ⟨0, 49, none⟩)]] w
  have e : invoke (.fn (.method "Comparable") #[]) (#[.iface 135 (.agg #[.pointer (some ⟨0, 49, none⟩)])] ++ #[]) = callMethod (.iface 135 (.agg #[.pointer (some ⟨0, 49, none⟩)])) "Comparable" #[] := rfl
  rw [e]
  simp only [callMethod, Sem.run_bind, program, Sem.run, Result.andThen_ok, is_mcomp]
  have e2 : (#[.agg #[.pointer (some ⟨0, 49, none⟩)]] ++ #[] : Array Value) = #[.agg #[.pointer (some ⟨0, 49, none⟩)]] := rfl
  rw [e2, h32, is_comparable]
  rfl
theorem unwrap_x {p : Option Addr} {K : Value → World → Prop} (h : callT Try.prog 119 #[.pointer p] (.one (.one .any)) K w) : callX Try.prog (invoke (.fn (.method "Unwrap") #[]) (#[.iface 94 (.pointer p)] ++ #[])) (.one (.one .any)) K w := by
  refine .inl ⟨119, #[.pointer p], ?_, h⟩
  have h := run_callFunc (P := Try.prog) (f := 119) (args := #[.pointer p]) (by kernel_rfl) w
  have e : invoke (.fn (.method "Unwrap") #[]) (#[.iface 94 (.pointer p)] ++ #[]) = callMethod (.iface 94 (.pointer p)) "Unwrap" #[] := rfl
  rw [e]
  simp only [callMethod, Sem.run_bind, program, Sem.run, Result.andThen_ok, is_munwrap]
  exact h

theorem eq_kinds {o1 o2 : Operand} {a k : Value} {K : Bool → World → Prop} (hK : K false w) : rdB Try.prog (do eqGuard .eql 31 o1 o2 (.iface 94 a) (.iface 49 k); binOp .eql 31 (.iface 94 a) (.iface 49 k) : Sem Value) K w := by
  obtain ⟨ms, hi⟩ := uE
  refine ⟨false, ?_, hK⟩
  have := run_eql_iface_types (P := Try.prog) 94 49 a k hi (by decide) w
  simp [eqGuard, this]
theorem equal_iface {P : Program} {ti t : TypeId} {ms : Array (String × TypeId)} {i : TypeInfo} {n : Nat} {a b : Value} {r : Bool} (hi : P.underlying ti = some (.interface ms)) (ht : P.info? t = some i) (hc : i.comparable = true) (h : (Op.equalIn n t a b).run P w = .ok r w) : (Op.equalIn (n + 1) ti (.iface t a) (.iface t b)).run P w = .ok r w := by
  simp [Op.equalIn, run_underlying hi, typeInfo, ht, hc, h]
theorem eq_nums {o1 o2 : Operand} {e k : Int} {K : Bool → World → Prop} (hK : K (decide (e = k)) w) : rdB Try.prog (do eqGuard .eql 31 o1 o2 (.iface 49 (.int .i64 e)) (.iface 49 (.int .i64 k)); binOp .eql 31 (.iface 49 (.int .i64 e)) (.iface 49 (.int .i64 k)) : Sem Value) K w := by
  obtain ⟨ms, hi⟩ := uE
  refine ⟨decide (e = k), ?_, hK⟩
  have hu : Try.prog.underlying 49 = some (.int .i64) := i49_ok.und
  have hc : (Try.prog.info? 49).map (·.comparable) = some true := by kernel_rfl
  obtain ⟨i, hi2, hcmp⟩ := Option.map_eq_some_iff.1 hc
  have h : (Op.equalIn 10000 31 (.iface 49 (.int .i64 e)) (.iface 49 (.int .i64 k))).run Try.prog w = .ok (decide (e = k)) w := by
    exact equal_iface hi hi2 hcmp (run_equalIn_int w _ _ _ _ _ _ hu)
  simp [eqGuard, binOp, Op.equal, Op.maxDepth, h]

theorem is_call {b : Nat} {e k st : Int} {op nm : ByteArray} (h : w.heap[b]? = some (.cells #[.string op, .string nm, .int .i64 st, .iface 49 (.int .i64 e)] 96 (0, 0))) {K : Bool → World → Prop} (hK : K (decide (e = k)) w) :
    callT Try.prog 18 #[.iface 94 (.pointer (some (at0 b))), .iface 49 (.int .i64 k)] (.one (.one .bool)) K w := by
  refine F18_calls ?_
  unfold F18
  refine join_at (false, ()) (rdB_nil (sif_false (rdB_nil ⟨rfl, rfl⟩ uE)) uE) (sif_false (typeOf_x _ (comparable_x ?_)))
  refine F50_calls ?_
  unfold F50
  refine sloop_r (fun s W => W = w ∧ (s = (.iface 94 (.pointer (some (at0 b))), ()) ∨ s = (.iface 49 (.int .i64 e), ()))) (fun s _ => match s.1 with | .iface t _ => t - 49 | _ => 0) ⟨rfl, .inl rfl⟩ ?_
  rintro _ _ ⟨rfl, rfl | rfl⟩
  · refine join_at (false, ()) (sif_true (eq_kinds ⟨rfl, rfl⟩)) (sif_false ⟨(.nilIface, false, ()), _, noIsF _ _ _, ?_⟩)
    refine join_at (false, ()) (sif_false ⟨rfl, rfl⟩) (sif_false ⟨(.iface 94 (.pointer (some (at0 b))), true, ()), _, hasUnwrapF _ _ _, sif_true (unwrap_x ?_)⟩)
    refine F119_calls ?_
    unfold F119
    refine nn_some ?_
    rw [addr_add]
    refine ld_r h (off := 3) (x := .iface 49 (.int .i64 e)) rfl (rdB_nil (sif_false ⟨⟨rfl, .inr rfl⟩, ?_⟩) uE)
    show 49 - 49 < 94 - 49
    decide
  · refine join_at (decide (e = k), ()) (sif_true (eq_nums ⟨rfl, rfl⟩)) (sif_r (fun hh => ?_) fun hh => ⟨(.nilIface, false, ()), _, noIsE _ _ _, ?_⟩)
    · have hh : decide (e = k) = true := hh
      rw [hh] at hK; exact hK
    have hh : decide (e = k) = false := hh
    rw [hh] at hK
    exact join_at (false, ()) (sif_false ⟨rfl, rfl⟩) (sif_false ⟨(.nilIface, false, ()), _, noUnwrapE _ _ _, sif_false ⟨(.nilIface, false, ()), _, noUnwrapsE _ _ _, sif_false hK⟩⟩)
end
end Go.Proofs.Ytdabehgbhndimaa
