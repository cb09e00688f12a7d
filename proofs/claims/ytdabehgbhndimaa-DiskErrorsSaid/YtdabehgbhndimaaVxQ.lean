/-
  Strings and bytes: conversions, equality; interface values against nil; maps cloned; a map's length.
-/
import Derived.Laws.IdiomStrings
import Derived.LaidEql
import Derived.Test.YtdabehgbhndimaaVxP
set_option linter.unusedSimpArgs false
set_option linter.unusedVariables false
namespace Go.Vx
open Go
/-- bytes as they lie -/
abbrev bv (l : List UInt8) : List Value := l.map fun b => .int .u8 (b.toNat : Int)
theorem bv_one (l : List UInt8) : ∀ v ∈ bv l, isOne v = true := by
  intro v hv
  obtain ⟨x, _, rfl⟩ := List.mem_map.1 hv
  rfl
theorem bytes_eq {a b : ByteArray} : (a.toList == b.toList) = decide (a = b) := by
  rw [Bool.eq_iff_iff, beq_iff_eq, decide_eq_true_eq, ByteArray.toList_eq, ByteArray.toList_eq]
  constructor
  · intro h
    cases a; cases b
    simp only at h
    congr 1
    exact Array.ext' h
  · intro h; rw [h]
section
variable {S S' : Nat → Prop} {w w' : World} {P : Program}

/-- a string as bytes: a new row, to be read -/
theorem strBytes_r {ts td e : TypeId} (hs : P.underlying ts = some .string) (hd : P.underlying td = some (.slice e)) (he : P.underlying e = some (.int .u8)) {s : ByteArray} {K : Sl → World → Prop}
    (hK : ∀ s' w', SlIn w' s' e 1 (bv s.data.toList) → Ext w w' → (∀ k, s'.blk k → w.heap.size ≤ k) → K s' w') : rawT P (.one (.one .sl)) (convert ts td (.string s)) K w := by
  have hr := run_bytes_of_string (P := P) w ts td e s hs hd he
  refine ⟨⟨some (at0 w.heap.size), s.size, grownCap w s.size 0 e⟩, _, hr, hK _ _ ⟨by rw [List.length_map, Array.length_toList]; exact (Nat.mul_one _).symm, ?_, .inr ⟨w.heap.size, 0, bytesRow s (grownCap w s.size 0 e), ((bytesRow s (grownCap w s.size 0 e)).size, (bytesRow s (grownCap w s.size 0 e)).size + 1), rfl, heap_alloc w.drew _, ?_, ?_⟩⟩ ?_ ?_⟩
  · show s.size ≤ grownCap w s.size 0 e
    unfold grownCap; simp only [Question.cut]; omega
  · have h1 : s.size ≤ grownCap w s.size 0 e := by unfold grownCap; simp only [Question.cut]; omega
    have h2 : s.data.size = s.size := rfl
    simp [bytesRow]; omega
  · intro i v hv
    have hlt := (List.getElem?_eq_some_iff.1 hv).1
    simp only [List.length_map, Array.length_toList] at hlt
    rw [Nat.zero_add]
    unfold bytesRow
    rw [Array.getElem?_append_left (by simpa using hlt)]
    rw [← hv]
    simp
  · exact (Ext.drew w).trans (Ext.alloc w.drew _)
  · rintro k ⟨p, hp, rfl⟩; cases hp; exact Nat.le_refl _

/-- bytes as a string -/
theorem bytesStr_r {ts tb e : TypeId} (hs : P.underlying tb = some (.slice e)) (he : P.underlying e = some (.int .u8)) (hd : P.underlying ts = some .string) {s : Sl} {l : List UInt8} {K : ByteArray → World → Prop} (h : SlX w s 1 (bv l))
    (hK : K ⟨l.toArray⟩ w) : rawT P (.one (.one .str)) (convert tb ts (.slice s.a s.len s.cap)) K w := by
  have hl : l.length = s.len := by have := h.len; simp at this; omega
  rcases h.at_ with ⟨h1, h2⟩ | ⟨t, h⟩
  · have hl0 : l = [] := List.length_eq_zero_iff.1 (by omega)
    subst hl0
    refine ⟨⟨#[]⟩, w, ?_, hK⟩
    rw [h1]
    cases ha : s.a with
    | none =>
      rw [run_convert_bytes_string w tb ts e none 0 s.cap hs he hd]
      rfl
    | some a =>
      have := run_convert_bytes_back (P := P) w tb ts e a s.cap [] hs he hd (fun j hj => by simp at hj)
      exact this
  · rcases h.at_ with ⟨ha, hc⟩ | ⟨b, off, c, fr, ha, hb, hcap, hv⟩
    · have h0 : s.len = 0 := by have := h.le; omega
      have hl0 : l = [] := List.length_eq_zero_iff.1 (by omega)
      subst hl0
      refine ⟨⟨#[]⟩, w, ?_, hK⟩
      rw [h0, ha, run_convert_bytes_string w tb ts e none 0 s.cap hs he hd]
      rfl
    · refine ⟨⟨l.toArray⟩, w, ?_, hK⟩
      rw [ha, ← hl]
      refine run_convert_bytes_back w tb ts e _ s.cap l hs he hd fun j hj => ?_
      rw [addr_add]
      exact cell_of hb (hv j _ (by simp [hj]))

/-- a literal of bytes, to be read -/
theorem lit_r {tb e : TypeId} (hs : P.underlying tb = some (.slice e)) (he : P.underlying e = some (.int .u8)) {b n m : Nat} {c : Array Value} {t : TypeId} {fr : Nat × Nat} {K : Sl → World → Prop} (hb : w.heap[b]? = some (.cells c t fr))
    (hK : ∀ w' fr', w'.heap[b]? = some (.cells c t fr') → Upd (fun k => k = b) w w' → K ⟨some (at0 b), n, m⟩ w') : rawT P (.one (.one .sl)) (convert tb tb (.slice (some (at0 b)) n m)) K w := by
  have hsh : w.shape? b = some (t, c.size) := by simp [World.shape?, hb]
  refine ⟨⟨some (at0 b), n, m⟩, w.freeze ⟨b, c.size, none⟩ 1, ?_, ?_⟩
  · simp [convert, run_underlying hs, run_underlying he, markStringish, shape, freeze, Sem.run, hsh, RTy.val, Ty.val, Cell.val]
  · obtain ⟨lo, hi⟩ := fr
    refine hK _ (if lo == hi then (c.size, c.size + 1) else (min lo c.size, max hi (c.size + 1))) ?_ ⟨rfl, rfl, rfl, by simp [World.freeze], fun k hk hn => ?_⟩
    · simp [World.freeze, Array.getElem?_modify, hb]
    · simp only [World.freeze, Array.getElem?_modify]
      rw [if_neg (by decide)]
      simp only
      rw [Array.getElem?_modify, if_neg (fun h => hn h.symm)]

theorem equalIn_nil {t : TypeId} {ms : Array (String × TypeId)} (hi : P.underlying t = some (.interface ms)) (n : Nat) (d : TypeId) (v : Value) (w : World) : (Op.equalIn (n + 1) t (.iface d v) .nilIface).run P w = .ok false w := by
  simp [Op.equalIn, run_underlying hi]
theorem equalIn_nil' {t : TypeId} {ms : Array (String × TypeId)} (hi : P.underlying t = some (.interface ms)) (n : Nat) (w : World) : (Op.equalIn (n + 1) t .nilIface .nilIface).run P w = .ok true w := by
  simp [Op.equalIn, run_underlying hi]
theorem equal_nil {t : TypeId} {ms : Array (String × TypeId)} (hi : P.underlying t = some (.interface ms)) (d : TypeId) (v : Value) (w : World) : (Op.equalIn Op.maxDepth t (.iface d v) .nilIface).run P w = .ok false w := equalIn_nil hi _ d v w
theorem equal_nil' {t : TypeId} {ms : Array (String × TypeId)} (hi : P.underlying t = some (.interface ms)) (w : World) : (Op.equalIn Op.maxDepth t .nilIface .nilIface).run P w = .ok true w := equalIn_nil' hi _ w
/-- an interface value, held against nil -/
theorem rdB_nnil {t : TypeId} {o1 : Operand} {d : TypeId} {v : Value} {K : Bool → World → Prop} (h : K true w) (hi : ∃ ms, P.underlying t = some (.interface ms)) : rdB P (do eqGuard .neq t o1 (.const .nilIface) (.iface d v) .nilIface; binOp .neq t (.iface d v) .nilIface : Sem Value) K w := by
  obtain ⟨ms, hi⟩ := hi
  refine ⟨true, ?_, h⟩
  simp [eqGuard, binOp, run_underlying hi, Op.equal, equal_nil hi]
theorem rdB_nnil' {t : TypeId} {o1 : Operand} {K : Bool → World → Prop} (h : K false w) (hi : ∃ ms, P.underlying t = some (.interface ms)) : rdB P (do eqGuard .neq t o1 (.const .nilIface) .nilIface .nilIface; binOp .neq t .nilIface .nilIface : Sem Value) K w := by
  obtain ⟨ms, hi⟩ := hi
  refine ⟨false, ?_, h⟩
  simp [eqGuard, binOp, run_underlying hi, Op.equal, equal_nil' hi]
theorem rdB_nil {t : TypeId} {o1 : Operand} {d : TypeId} {v : Value} {K : Bool → World → Prop} (h : K false w) (hi : ∃ ms, P.underlying t = some (.interface ms)) : rdB P (do eqGuard .eql t o1 (.const .nilIface) (.iface d v) .nilIface; binOp .eql t (.iface d v) .nilIface : Sem Value) K w := by
  obtain ⟨ms, hi⟩ := hi
  refine ⟨false, ?_, h⟩
  simp [eqGuard, binOp, run_underlying hi, Op.equal, equal_nil hi]
theorem rdB_nil' {t : TypeId} {o1 : Operand} {K : Bool → World → Prop} (h : K true w) (hi : ∃ ms, P.underlying t = some (.interface ms)) : rdB P (do eqGuard .eql t o1 (.const .nilIface) .nilIface .nilIface; binOp .eql t .nilIface .nilIface : Sem Value) K w := by
  obtain ⟨ms, hi⟩ := hi
  refine ⟨true, ?_, h⟩
  simp [eqGuard, binOp, run_underlying hi, Op.equal, equal_nil' hi]
/-- two pointers to boxes -/
theorem equal_ptr {t e : TypeId} {n : Nat} (hu : P.underlying t = some (.pointer e)) (hs : ∀ w, (Go.sizeOf e).run P w = .ok n w) (hn : n ≠ 0) {p q : Option Addr} (hp : ∀ a, p = some a → ∃ c u, w.heap[a.block]? = some (.cells c u (0, 0))) (hq : ∀ a, q = some a → ∃ c u, w.heap[a.block]? = some (.cells c u (0, 0))) (k : Nat) :
    (Op.equalIn (k + 1) t (.pointer p) (.pointer q)).run P w = .ok (decide (p = q)) w := by
  cases p with
  | none => cases q <;> simp [Op.equalIn, run_underlying hu]
  | some a =>
    cases q with
    | none => simp [Op.equalIn, run_underlying hu]
    | some b =>
      by_cases hab : a = b
      · subst hab
        simp [Op.equalIn, run_underlying hu, hs, hn, run_sameAddr_same]
      · obtain ⟨c, u, ha⟩ := hp a rfl
        obtain ⟨c', u', hb⟩ := hq b rfl
        simp [Op.equalIn, run_underlying hu, hs, hn, hab]
        exact run_sameAddr_other w hab ha hb
theorem rdB_neqp {t e : TypeId} {n : Nat} (hu : P.underlying t = some (.pointer e)) (hs : ∀ w, (Go.sizeOf e).run P w = .ok n w) (hn : n ≠ 0) {p q : Option Addr} {o1 o2 : Operand} {K : Bool → World → Prop} (hp : ∀ a, p = some a → ∃ c u, w.heap[a.block]? = some (.cells c u (0, 0))) (hq : ∀ a, q = some a → ∃ c u, w.heap[a.block]? = some (.cells c u (0, 0)))
    (h : K (decide (p ≠ q)) w) : rdB P (do eqGuard .neq t o1 o2 (.pointer p) (.pointer q); binOp .neq t (.pointer p) (.pointer q) : Sem Value) K w := by
  refine ⟨decide (p ≠ q), ?_, h⟩
  have e : (Op.equal t (.pointer p) (.pointer q)).run P w = .ok (decide (p = q)) w := equal_ptr hu hs hn hp hq 9999
  simp [eqGuard, binOp, e]
/-- a function value, held against nil -/
theorem equal_func {t : TypeId} {ps rs : Array TypeId} {vr : Bool} (hu : P.underlying t = some (.func ps rs vr)) (g : Fn) (a b : Array Value) (n : Nat) : (Op.equalIn (n + 1) t (.func g a b) .nilFunc).run P w = .ok false w := by
  simp [Op.equalIn, run_underlying hu]
theorem equal_nfunc {t : TypeId} {ps rs : Array TypeId} {vr : Bool} (hu : P.underlying t = some (.func ps rs vr)) (n : Nat) : (Op.equalIn (n + 1) t .nilFunc .nilFunc).run P w = .ok true w := by
  simp [Op.equalIn, run_underlying hu]
theorem rdB_nfunc {t : TypeId} {ps rs : Array TypeId} {vr : Bool} (hu : P.underlying t = some (.func ps rs vr)) {o1 : Operand} {g : Fn} {a b : Array Value} {K : Bool → World → Prop} (h : K true w) : rdB P (do eqGuard .neq t o1 (.const .nilFunc) (.func g a b) .nilFunc; binOp .neq t (.func g a b) .nilFunc : Sem Value) K w := by
  refine ⟨true, ?_, h⟩
  have e : (Op.equal t (.func g a b) .nilFunc).run P w = .ok false w := equal_func hu g a b 9999
  simp [eqGuard, binOp, e]
theorem rdB_nfunc' {t : TypeId} {ps rs : Array TypeId} {vr : Bool} (hu : P.underlying t = some (.func ps rs vr)) {o1 : Operand} {K : Bool → World → Prop} (h : K false w) : rdB P (do eqGuard .neq t o1 (.const .nilFunc) .nilFunc .nilFunc; binOp .neq t .nilFunc .nilFunc : Sem Value) K w := by
  refine ⟨false, ?_, h⟩
  have e : (Op.equal t .nilFunc .nilFunc).run P w = .ok true w := equal_nfunc hu 9999
  simp [eqGuard, binOp, e]
end
end Go.Vx
