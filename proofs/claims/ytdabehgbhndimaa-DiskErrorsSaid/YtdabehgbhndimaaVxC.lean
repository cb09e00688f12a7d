/-
  The operations' conditions are enough for their runs.
-/
import Derived.Test.YtdabehgbhndimaaVxB
set_option linter.unusedSimpArgs false
set_option linter.unusedVariables false
namespace Go.Vx
open Go

def QR.holds (P : Program) (q : QR) (s : Sem Next) : Prop :=
  match q with
  | .no => True
  | .val v => ∀ w, s.run P w = .ok (.value v) w
  | .cond c f => ∀ x, c x → ∀ w, s.run P w = .ok (.value (f x)) w
  | .read rd f => ∀ x w, rd x w → s.run P w = .ok (.value (f x)) w

section
variable {T : Tab} {P : Program} {ev : Ev} {ρ : Operand → Value}

theorem scaled_eq (n s : Nat) : scaled n s = n * s := by
  unfold scaled
  split
  · simp
  · rfl

theorem holds_map {q : QR} {s : Sem Value} (h : q.holds P (do pure (.value (← s)))) : q.holds P (do pure (.value (← s))) := h

/-- a run that answers a value in every world -/
theorem holds_val {v : Value} {s : Sem Value} (h : ∀ w, s.run P w = .ok v w) : (QR.val v).holds P (do pure (.value (← s))) := by
  intro w; simp [h w]
theorem holds_cond {X : Type} {c : X → Prop} {val : X → Value} {s : Sem Value} (h : ∀ x, c x → ∀ w, s.run P w = .ok (val x) w) : (QR.cond c val).holds P (do pure (.value (← s))) := by
  intro x hx w; simp [h x hx w]
theorem holds_read {X : Type} {rd : X → World → Prop} {val : X → Value} {s : Sem Value} (h : ∀ x w, rd x w → s.run P w = .ok (val x) w) : (QR.read rd val).holds P (do pure (.value (← s))) := by
  intro x w hx; simp [h x w hx]

theorem ibin_ok (op : BinOp) (k : IntKind) (x y : Int) (xt : TypeId) (a b : Operand) (hs : isShift op = false) : (ibin op k x y).holds P (do pure (.value (← (do eqGuard op xt a b (.int k x) (.int k y); binOp op xt (.int k x) (.int k y))))) := by
  cases op <;> simp only [isShift] at hs <;> simp only [ibin] <;> first
    | (refine holds_val fun w => ?_; simp [eqGuard, binOp, Op.intArith, Op.intBits, Op.intCmp]; done)
    | (refine holds_cond fun _ hy w => ?_; simp [eqGuard, binOp, Op.intDiv, hy]; done)
    | trivial
    | (exact absurd hs (by simp))

theorem ishift_ok (op : BinOp) (k k' : IntKind) (x y : Int) (xt : TypeId) (a b : Operand) (hs : isShift op = true) : (ishift op k x y).holds P (do pure (.value (← (do eqGuard op xt a b (.int k x) (.int k' y); binOp op xt (.int k x) (.int k' y))))) := by
  cases op <;> simp only [isShift] at hs <;> simp only [ishift] <;> first
    | (refine holds_cond fun _ hy w => ?_; simp [eqGuard, binOp, Op.shift, Int.not_lt.2 hy]; done)
    | (exact absurd hs (by simp))

theorem sbin_ok (op : BinOp) (x y : ByteArray) (xt : TypeId) (a b : Operand) : (sbin op x y).holds P (do pure (.value (← (do eqGuard op xt a b (.string x) (.string y); binOp op xt (.string x) (.string y))))) := by
  cases op <;> simp only [sbin] <;> first
    | (refine holds_val fun w => ?_; simp [eqGuard, binOp, Op.stringOp]; done)
    | (refine holds_cond fun _ hy w => ?_; have hn : ¬ (((x.size + y.size : Nat) : Int) > IntKind.i64.max) := by omega
       have he : (eqGuard .add xt a b (.string x) (.string y)).run P w = .ok () w := rfl
       have hb : (binOp .add xt (.string x) (.string y)).run P w = .ok (.string (x ++ y)) w := by
         show (Op.stringOp .add x y).run P w = _
         unfold Op.stringOp; simp only [if_neg hn]; rfl
       simp only [Sem.run_bind, he, hb, Result.andThen_ok])
    | trivial

theorem nilTest_in {t : TypeId} {d : TypeDesc} {a b : Value} {r : Bool} (n : Nat) (hu : P.underlying t = some d) (h : nilTest d a b = some r) (w : World) : (Op.equalIn (n + 1) t a b).run P w = .ok r w := by
  unfold nilTest at h
  simp only [Op.equalIn, Sem.run_bind, run_underlying hu, Result.andThen_ok]
  split at h
  · rename_i e a; cases h; cases a <;> rfl
  · rename_i e a n c m k; cases h; cases a <;> rfl
  · rename_i k e m; cases h; cases m <;> rfl
  · cases h

theorem nilTest_eq {t : TypeId} {d : TypeDesc} {a b : Value} {r : Bool} (hu : P.underlying t = some d) (h : nilTest d a b = some r) (w : World) : (Op.equal t a b).run P w = .ok r w :=
  nilTest_in 9999 hu h w

theorem nilTest_guard {t : TypeId} {d : TypeDesc} {a b : Value} {r : Bool} (h : nilTest d a b = some r) (op : BinOp) (x y : Operand) (w : World) : (eqGuard op t x y a b).run P w = .ok () w := by
  unfold nilTest at h
  split at h
  · unfold eqGuard; split <;> rfl
  · unfold eqGuard; split <;> rfl
  · unfold eqGuard; split <;> rfl
  · cases h

theorem nilTest_bin {t : TypeId} {d : TypeDesc} {a b : Value} {r : Bool} (hu : P.underlying t = some d) (h : nilTest d a b = some r) (w : World) :
    (binOp .eql t a b).run P w = .ok (.bool r) w ∧ (binOp .neq t a b).run P w = .ok (.bool !r) w := by
  have he := nilTest_eq hu h w
  unfold nilTest at h
  split at h
  · simp [binOp, he]
  · simp [binOp, he]
  · simp [binOp, he]
  · cases h

theorem binQ0_ok (ok : T.Ok P) (op : BinOp) (xt : TypeId) (x y : Operand) (a b : Value) : (binQ0 T P op xt x y a b).holds P (do pure (.value (← (do eqGuard op xt x y a b; binOp op xt a b)))) := by
  unfold binQ0
  split
  · rename_i k m k' n
    split
    · rename_i hs; exact ishift_ok op k k' m n xt x y hs
    · rename_i hs
      split
      · rename_i hk; obtain rfl := of_decide_eq_true hk; exact ibin_ok op _ m n xt x y hs
      · trivial
  · exact sbin_ok op _ _ xt x y
  · have hread : ∀ o, (QR.read (fun (r : Bool) w => (do eqGuard o xt x y a b; binOp o xt a b : Sem Value).run P w = .ok (.bool r) w) (fun r => .bool r)).holds P (do pure (.value (← (do eqGuard o xt x y a b; binOp o xt a b)))) :=
      fun o => holds_read fun x w h => h
    split
    · split
      · rename_i i _ hi
        split
        · rename_i r hr
          refine holds_val fun w => ?_
          simp [nilTest_guard hr, (nilTest_bin (ok.get hi).und hr w).1]
        · exact hread _
      · exact hread _
    · split
      · rename_i i _ hi
        split
        · rename_i r hr
          refine holds_val fun w => ?_
          simp [nilTest_guard hr, (nilTest_bin (ok.get hi).und hr w).2]
        · exact hread _
      · exact hread _
    · trivial

theorem binQ_ok (ok : T.Ok P) (op : BinOp) (xt : TypeId) (x y : Operand) (a b : Value) : (binQ T P op xt x y a b).holds P (do pure (.value (← (do eqGuard op xt x y a b; binOp op xt a b)))) := by
  unfold binQ
  split
  · split
    · exact holds_read fun x w h => h
    · exact holds_read fun x w h => h
    · trivial
  · exact binQ0_ok ok op xt x y a b

theorem run_loadCells : ∀ (vs : List Value) (p : Addr) (i : Nat) (acc : Array Value) (w : World), cellsAt w p i vs → (loadCellsFrom p i vs.length acc).run P w = .ok (acc ++ vs.toArray) w
  | [], p, i, acc, w, _ => by simp [loadCellsFrom]
  | v :: r, p, i, acc, w, h => by
    simp only [List.length_cons, loadCellsFrom, load, Sem.run_bind, Sem.run, h.1, Result.andThen_ok]
    rw [run_loadCells r p (i + 1) (acc.push v) w h.2]
    simp

theorem loadQ_ok (ok : T.Ok P) (t : TypeId) (p : Addr) : (loadQ T t p).holds P (do pure (.value (← Instr.loadAt t (.pointer (some p))))) := by
  unfold loadQ
  split
  · rename_i i hi
    have io := ok.get hi
    have hw := io.wf
    unfold Inf.wf at hw
    split
    · rename_i c hc
      rw [hc] at hw
      have hw : isAggD i.desc = false := by simpa using hw
      refine holds_read fun x w h => ?_
      simp [Instr.loadAt, Instr.sureAddr, loadVar, io.run_isAgg, hw, load, Sem.run, h]
    · rename_i cs hc
      rw [hc] at hw
      simp only [Bool.and_eq_true] at hw
      have hn : cs.length = i.size := Nat.eq_of_beq_eq_true hw.2
      refine holds_read fun x w h => ?_
      have hl := run_loadCells (P := P) (Cells.vals cs x) p 0 #[] w h
      rw [Cells.length_vals, hn] at hl
      simp [Instr.loadAt, Instr.sureAddr, loadVar, io.run_isAgg, hw.1, io.run_size, loadCells, hl]
  · trivial


theorem run_sliceBound {n : Int} {k : IntKind} {y : Nat} {c : BoundsCode} (h : 0 ≤ n ∧ n ≤ y) (w : World) : (Instr.sliceBound (.int k n) y c).run P w = .ok n.toNat w := by
  simp [Instr.sliceBound, asIntOf, h.1, h.2, Sem.run]

theorem bnd_some {v : Value} {d : Nat} {l : Int × Bool} (h : bnd (some v) d = some l) : ∃ k, v = .int k l.1 := by
  cases v <;> simp only [bnd] at h <;> first | (cases h; done) | skip
  cases h
  exact ⟨_, rfl⟩

theorem run_sliceBounds {isS : Bool} {len cap : Nat} {lo hi mx : Option Value} {l h m : Int × Bool} (hl : bnd lo 0 = some l) (hh : bnd hi len = some h) (hm : bnd mx cap = some m) (hno : ¬ (hi = none ∧ mx ≠ none))
    (hc : 0 ≤ l.1 ∧ l.1 ≤ h.1 ∧ h.1 ≤ m.1 ∧ m.1 ≤ cap) (w : World) : (Instr.sliceBounds isS len cap lo hi mx).run P w = .ok (l.1.toNat, h.1.toNat, m.1.toNat) w := by
  obtain ⟨c1, c2, c3, c4⟩ := hc
  have e1 : ((m.1.toNat : Nat) : Int) = m.1 := Int.toNat_of_nonneg (by omega)
  have e2 : ((h.1.toNat : Nat) : Int) = h.1 := Int.toNat_of_nonneg (by omega)
  have bl : ∀ (k : IntKind) (c : BoundsCode), (Instr.sliceBound (.int k l.1) h.1.toNat c).run P w = .ok l.1.toNat w := fun k c => run_sliceBound ⟨c1, by omega⟩ w
  have bh : ∀ (k : IntKind) (c : BoundsCode), (Instr.sliceBound (.int k h.1) m.1.toNat c).run P w = .ok h.1.toNat w := fun k c => run_sliceBound ⟨by omega, by omega⟩ w
  have bm : ∀ (k : IntKind) (c : BoundsCode), (Instr.sliceBound (.int k m.1) cap c).run P w = .ok m.1.toNat w := fun k c => run_sliceBound ⟨by omega, by omega⟩ w
  have lo' : ∀ (c : BoundsCode), (match lo with | some v => Instr.sliceBound v h.1.toNat c | none => (pure 0 : Sem Nat)).run P w = .ok l.1.toNat w := by
    intro c
    cases lo with
    | none => cases hl; rfl
    | some v => obtain ⟨k, rfl⟩ := bnd_some hl; exact bl k c
  unfold Instr.sliceBounds
  cases mx with
  | some v =>
    obtain ⟨k, rfl⟩ := bnd_some hm
    cases hi with
    | none => exact absurd ⟨rfl, by simp⟩ hno
    | some v =>
      obtain ⟨k2, rfl⟩ := bnd_some hh
      simp only [Sem.run_bind, bm, bh, Result.andThen_ok]
      cases lo with
      | none => cases hl; rfl
      | some v => obtain ⟨k, rfl⟩ := bnd_some hl; simp [bl]
  | none =>
    cases hm
    cases hi with
    | none =>
      cases hh
      simp only [Sem.run_bind, Sem.run_pure, Result.andThen_ok]
      cases lo with
      | none => cases hl; simp
      | some v => obtain ⟨k, rfl⟩ := bnd_some hl; simp only [Int.toNat_natCast] at bl; simp [bl]
    | some v =>
      obtain ⟨k2, rfl⟩ := bnd_some hh
      simp only [Int.toNat_natCast] at bh
      simp only [Sem.run_bind, Sem.run_pure, bh, Result.andThen_ok]
      cases lo with
      | none => cases hl; simp
      | some v => obtain ⟨k, rfl⟩ := bnd_some hl; simp [bl]

theorem sliceQ_ok (ok : T.Ok P) (t : TypeId) (x : Value) (lo hi mx : Option Value) : (sliceQ T t x lo hi mx).holds P (do pure (.value (← Instr.sliceAt t x lo hi mx))) := by
  unfold sliceQ
  split
  · rename_i i hi'
    have io := ok.get hi'
    split
    · rename_i e a len cap hd
      split
      · rename_i j l h m hj hl hh hm
        split
        · trivial
        · rename_i hno
          refine holds_cond fun _ hc w => ?_
          have hb := run_sliceBounds (P := P) (isS := true) hl hh hm (by rintro ⟨rfl, h2⟩; cases mx with | none => exact h2 rfl | some v => exact hno v rfl rfl) hc w
          simp [Instr.sliceAt, io.run_und, hd, Instr.slice, hb, (ok.get hj).run_size, Sl.cut, scaled_eq]
      · trivial
    · rename_i s hd
      split
      · rename_i l h hl hh
        refine holds_cond fun _ hc w => ?_
        have hb := run_sliceBounds (P := P) (isS := false) (cap := s.size) (mx := none) (m := ((s.size : Int), false)) hl hh rfl (by simp) ⟨hc.1, hc.2.1, hc.2.2, Int.le_refl _⟩ w
        simp [Instr.sliceAt, io.run_und, hd, Instr.slice, hb]
      · trivial
    · rename_i n e a hd
      split
      · rename_i j l h m hj hl hh hm
        split
        · trivial
        · rename_i hno
          refine holds_cond fun _ hc w => ?_
          have hb := run_sliceBounds (P := P) (isS := false) hl hh hm (by rintro ⟨rfl, h2⟩; cases mx with | none => exact h2 rfl | some v => exact hno v rfl rfl) hc w
          simp [Instr.sliceAt, io.run_und, hd, Instr.sureAddr, hb, (ok.get hj).run_size, Sl.cut, scaled_eq]
          split <;> rfl
      · trivial
    · trivial
  · trivial

theorem partQ_ok (ok : T.Ok P) (t : TypeId) (cs : Array Value) (off : Nat) : (partQ T t cs.toList off).holds P (do pure (.value (← part t cs off))) := by
  unfold partQ
  split
  · rename_i i hi
    have io := ok.get hi
    split
    · rename_i ha
      refine holds_val fun w => ?_
      have e : cs.extract off (off + i.size) = ((cs.toList.drop off).take i.size).toArray := by
        apply Array.ext'
        simp [List.extract_eq_take_drop]
      simp [part, io.run_isAgg, ha, io.run_size, e]
    · rename_i ha
      split
      · rename_i v hv
        refine holds_val fun w => ?_
        have hv' : cs[off]? = some v := by rw [← hv]; simp
        simp [part, io.run_isAgg, ha, hv']
      · trivial
  · trivial

theorem evs_ok {ev : Ev} {ρ : Operand → Value} (hE : ∀ x v, ev x = some v → ρ x = v) : ∀ {l : List Operand} {vs : List Value}, evs ev l = some vs → l.map ρ = vs
  | [], vs, h => by cases h; rfl
  | x :: r, vs, h => by
    simp only [evs] at h
    split at h
    · rename_i v l hv hl
      cases h
      simp [hE _ _ hv, evs_ok hE hl]
    · cases h

theorem evs_arr {ev : Ev} {ρ : Operand → Value} (hE : ∀ x v, ev x = some v → ρ x = v) {l : Array Operand} {vs : List Value} (h : evs ev l.toList = some vs) : l.map ρ = vs.toArray := by
  rw [← evs_ok hE h]
  apply Array.ext'
  simp

theorem evPs_ok {ev : Ev} {ρ : Operand → Value} (hE : ∀ x v, ev x = some v → ρ x = v) : ∀ {l : List (Nat × Operand)} {vs : List (Nat × Value)}, evPs ev l = some vs → (l.map fun (i, x) => (i, ρ x)) = vs
  | [], vs, h => by cases h; rfl
  | x :: r, vs, h => by
    simp only [evPs] at h
    split at h
    · rename_i v l hv hl
      cases h
      simp [hE _ _ hv, evPs_ok hE hl]
    · cases h

theorem evPs_arr {ev : Ev} {ρ : Operand → Value} (hE : ∀ x v, ev x = some v → ρ x = v) {l : Array (Nat × Operand)} {vs : List (Nat × Value)} (h : evPs ev l.toList = some vs) : (l.map fun (i, x) => (i, ρ x)) = vs.toArray := by
  rw [← evPs_ok hE h]
  apply Array.ext'
  simp

theorem length_putIn : ∀ (vs cs : List Value) (off : Nat), (putIn cs off vs).length = cs.length
  | [], cs, off => rfl
  | v :: r, cs, off => by rw [putIn, length_putIn r]; simp

theorem fold_putIn : ∀ (vs : List Value) (cs : List Value) (off k : Nat), ((vs.zipIdx k).foldl (fun (a : Array Value) (x : Value × Nat) => a.setIfInBounds (off + x.2) x.1) cs.toArray) = (putIn cs (off + k) vs).toArray
  | [], cs, off, k => by simp [putIn]
  | v :: r, cs, off, k => by
    simp only [List.zipIdx_cons, List.foldl_cons, putIn]
    have : (cs.toArray).setIfInBounds (off + k) v = (cs.set (off + k) v).toArray := by simp
    rw [this, fold_putIn r _ off (k + 1)]
    rw [Nat.add_assoc]

theorem fillQ_ok {place : Nat → Option (Nat × Nat)} : ∀ {ps : List (Nat × Value)} {cs out : List Value}, fillQ place cs ps = some out → Instr.fill place cs.toArray ps = some out.toArray
  | [], cs, out, h => by cases h; rfl
  | p :: r, cs, out, h => by
    simp only [fillQ] at h
    split at h
    · cases h
    · rename_i os hos
      split at h
      · rename_i hc
        simp only [Bool.and_eq_true] at hc
        have h1 : p.2.cells.size = os.2 := by have := Nat.eq_of_beq_eq_true hc.1; simpa using this
        have h2 : os.1 + p.2.cells.size ≤ cs.length := by have := Nat.le_of_ble_eq_true hc.2; simpa using this
        obtain ⟨k, v⟩ := p
        simp only at h1 h2 hos h
        simp only [Instr.fill, hos]
        rw [if_neg (by simp [h1]; omega)]
        have e : (v.cells.zipIdx.foldl (fun cs (c, j) => cs.setIfInBounds (os.1 + j) c) cs.toArray) = (putIn cs os.1 v.cells.toList).toArray := by
          have := fold_putIn v.cells.toList cs os.1 0
          rw [Nat.add_zero] at this
          rw [← this, ← Array.foldl_toList]
          simp
        rw [e]
        exact fillQ_ok h
      · cases h

theorem placesQ_ok (ok : T.Ok P) : ∀ {fs : List Field} {pl : List (Nat × Nat)}, placesQ T fs = some pl → ∀ w, (fs.mapM (fun f => Prod.mk f.offset <$> sizeOf f.type : Field → Sem (Nat × Nat))).run P w = .ok pl w
  | [], pl, h, w => by cases h; rfl
  | f :: r, pl, h, w => by
    simp only [placesQ] at h
    split at h
    · rename_i j l hj hl
      cases h
      simp [List.mapM_cons, (ok.get hj).run_size, placesQ_ok ok hl w]
    · cases h

theorem buildQ_ok (ok : T.Ok P) (t : TypeId) (ps : List (Nat × Value)) : (buildQ T t ps).holds P (do pure (.value (← Instr.build t ps.toArray))) := by
  unfold buildQ
  split
  · rename_i i hi
    have io := ok.get hi
    split
    · rename_i fs z hd hz
      split
      · rename_i pl hpl
        split
        · rename_i cs hcs
          refine holds_val fun w => ?_
          have hm : (fs.mapM (fun f => Prod.mk f.offset <$> sizeOf f.type : Field → Sem (Nat × Nat))).run P w = .ok pl.toArray w := by
            have := placesQ_ok ok hpl w
            obtain ⟨fl⟩ := fs
            simp [List.mapM_toArray, this]
          have hf := fillQ_ok hcs
          simp only [Array.toArray_toList] at hf
          simp [Instr.build, io.run_zero _ hz, io.run_und, hd, hm, hf]
        · trivial
      · trivial
    · rename_i n e z hd hz
      split
      · rename_i j hj
        split
        · rename_i cs hcs
          refine holds_val fun w => ?_
          have hf := fillQ_ok hcs
          simp only [Array.toArray_toList] at hf
          simp [Instr.build, io.run_zero _ hz, io.run_und, hd, (ok.get hj).run_size, hf]
        · trivial
      · trivial
    · trivial
  · trivial


theorem maxQ_ok (b : Bool) (l : List Value) (ts : Array TypeId) (t : TypeId) : (maxQ b l).holds P (do pure (.value (← (match b with | true => Builtin.max_ ts t l.toArray | false => Builtin.min_ ts t l.toArray)))) := by
  unfold maxQ
  split
  · rename_i k x k' y
    refine holds_val fun w => ?_
    cases b
    · simp [Builtin.min_, Builtin.min2]
    · simp [Builtin.max_, Builtin.max2]
  · trivial

set_option maxHeartbeats 1000000 in
theorem quiet_sound (ok : T.Ok P) (hE : ∀ x v, ev x = some v → ρ x = v) (o : Oper) : (quiet T P ev o).holds P (execOp ρ o) := by
  obtain ⟨dst, op, type, pos, after, guard⟩ := o
  cases op <;> simp only [quiet, execOp] <;> try trivial
  case move x =>
    split
    · rename_i v hv; rw [hE _ _ hv]; intro w; rfl
    · trivial
  case assign x =>
    split
    · rename_i v hv; rw [hE _ _ hv]; intro w; rfl
    · trivial
  case pick c a b =>
    split
    · rename_i hc
      split
      · rename_i v hv; intro w; simp [hE _ _ hc, hE _ _ hv, asBool]
      · trivial
    · rename_i hc
      split
      · rename_i v hv; intro w; simp [hE _ _ hc, hE _ _ hv, asBool]
      · trivial
    · trivial
  case nilCheck x =>
    split
    · rename_i p hp
      intro a ha w
      subst ha
      simp [hE _ _ hp]
    · rename_i f a b hp; intro w; simp [hE _ _ hp]
    · rename_i t v hp; intro w; simp [hE _ _ hp]
    · trivial
  case fieldAddr s x f =>
    split
    · rename_i a i hx hi
      have io := ok.get hi
      split
      · rename_i fs hd
        split
        · rename_i fd hf
          split
          · rename_i j hj
            split
            · rename_i hz
              have hf' : fs[f]? = some fd := by rw [← hf]; simp
              have hz' : ¬ j.size = 0 := fun h => by rw [h] at hz; exact absurd hz (by decide)
              refine holds_val fun w => ?_
              simp [Instr.fieldAt, io.run_und, hd, hf', hE _ _ hx, Instr.sureAddr, fieldPlace, (ok.get hj).run_size, hz']
            · trivial
          · trivial
        · trivial
      · trivial
    · trivial
  case field s x f =>
    split
    · rename_i cs i hx hi
      have io := ok.get hi
      split
      · rename_i fs hd
        split
        · rename_i fd hf
          have hf' : fs[f]? = some fd := by rw [← hf]; simp
          have hp := partQ_ok ok fd.type cs fd.offset
          have hr : ∀ w, (Instr.field s (ρ x) f).run P w = (part fd.type cs fd.offset).run P w := by
            intro w
            simp [Instr.field, io.run_und, hd, hf', hE _ _ hx, asAgg]
          unfold QR.holds at hp ⊢
          split
          · trivial
          · intro w
            rename_i v heq
            rw [heq] at hp
            have := hp w
            simp only [Sem.run_bind, hr] at this ⊢
            exact this
          · rename_i c f heq
            rw [heq] at hp
            intro x hx w
            have := hp x hx w
            simp only [Sem.run_bind, hr] at this ⊢
            exact this
          · rename_i c f heq
            rw [heq] at hp
            intro x w hx
            have := hp x w hx
            simp only [Sem.run_bind, hr] at this ⊢
            exact this
        · trivial
      · trivial
    · trivial
  case indexAddr t x ix =>
    split
    · rename_i a len cap k n i hx hn hi
      have io := ok.get hi
      split
      · rename_i e hd
        split
        · rename_i j hj
          refine holds_cond fun p hc w => ?_
          obtain ⟨rfl, h0, h1⟩ := hc
          simp [Instr.indexAt, hE _ _ hx, hE _ _ hn, asIntOf, io.run_und, hd, h0, h1, (ok.get hj).run_size, scaled_eq]
        · trivial
      · trivial
    · rename_i p k n i hx hn hi
      have io := ok.get hi
      split
      · rename_i len e hd
        split
        · rename_i j hj
          refine holds_cond fun _ hc w => ?_
          obtain ⟨h0, h1⟩ := hc
          simp [Instr.indexAt, hE _ _ hx, hE _ _ hn, asIntOf, io.run_und, hd, Instr.sureAddr, h0, h1, (ok.get hj).run_size, scaled_eq]
        · trivial
      · trivial
    · trivial
  case index t x ix =>
    split
    · rename_i s k n i hx hn hi
      have io := ok.get hi
      split
      · rename_i hd
        refine holds_cond fun b hc w => ?_
        obtain ⟨h0, h1⟩ := hc
        simp [Instr.index, hE _ _ hx, hE _ _ hn, asIntOf, io.run_und, hd, h0, h1]
      · trivial
    · trivial
  case load t x =>
    split
    · rename_i p hp; rw [hE _ _ hp]; exact loadQ_ok ok t p
    · trivial
  case binOp op t x y yt =>
    split
    · rename_i a b ha hb; rw [hE _ _ ha, hE _ _ hb]; exact binQ_ok ok op t x y a b
    · trivial
  case unOp op t x =>
    split
    · rename_i b hb; rw [hE _ _ hb]; intro w; rfl
    · rename_i k n hb; rw [hE _ _ hb]; intro w; rfl
    · trivial
  case convert src dst x =>
    split
    · rename_i k n i j hx hi hj
      split
      · rename_i k1 k2 h1 h2
        refine holds_val fun w => ?_
        simp [convert, (ok.get hi).run_und, (ok.get hj).run_und, h1, h2, hE _ _ hx, Conv.intToInt]
      · trivial
    · trivial
  case extract t ix =>
    split
    · rename_i vs hv
      split
      · rename_i v hx
        have hx' : vs[ix]? = some v := by rw [← hx]; simp
        refine holds_val fun w => ?_
        simp [Instr.extract, hE _ _ hv, hx']
      · trivial
    · trivial
  case build t parts =>
    split
    · rename_i ps hps
      have := buildQ_ok ok t ps
      rw [← evPs_arr hE hps] at this
      exact this
    · trivial
  case slice t x lo hi mx =>
    split
    · rename_i v l h m hx hl hh hm
      have e1 : lo.map ρ = l := by
        cases lo with
        | none => simpa using hl
        | some y =>
          simp only at hl
          cases hy : ev y with
          | none => rw [hy] at hl; cases hl
          | some u => rw [hy] at hl; cases hl; simp [hE _ _ hy]
      have e2 : hi.map ρ = h := by
        cases hi with
        | none => simpa using hh
        | some y =>
          simp only at hh
          cases hy : ev y with
          | none => rw [hy] at hh; cases hh
          | some u => rw [hy] at hh; cases hh; simp [hE _ _ hy]
      have e3 : mx.map ρ = m := by
        cases mx with
        | none => simpa using hm
        | some y =>
          simp only at hm
          cases hy : ev y with
          | none => rw [hy] at hm; cases hm
          | some u => rw [hy] at hm; cases hm; simp [hE _ _ hy]
      rw [e1, e2, e3, hE _ _ hx]
      exact sliceQ_ok ok t v l h m
    · trivial
  case makeInterface t x =>
    split
    · rename_i v i hx hi
      have io := ok.get hi
      split
      · trivial
      · rename_i hne
        refine holds_val fun w => ?_
        simp only [Instr.makeInterface, Sem.run_bind, io.run_und, Result.andThen_ok, hE _ _ hx]
        first | rfl | (split; (rename_i ms hd; exact absurd hd (hne ms)); rfl)
    · trivial
  case makeFunc fn first captured =>
    split
    · rename_i a b ha hb
      refine holds_val fun w => ?_
      rw [evs_arr hE ha, evs_arr hE hb]
      rfl
    · trivial
  case lookup t m k b =>
    split
    · rename_i vm vk i hm hk hi
      rw [hE _ _ hm, hE _ _ hk]
      exact holds_read fun x w h => h
    · trivial
  case call c =>
    obtain ⟨callee, args, argTypes⟩ := c
    cases callee with
    | value f => trivial
    | invoke r n => trivial
    | builtin b =>
      simp only
      split
      · rename_i x t hargs hts
        have ha : args.map ρ = #[x] := evs_arr hE hargs
        have ht : argTypes[0]? = some t := by
          have : argTypes = #[t] := by
            apply Array.ext'
            simpa using hts
          rw [this]; rfl
        split
        · rename_i a n cp i hi
          split
          · rename_i e hd
            refine fun w => ?_
            simp [resolve, ha, invoke, builtin, Builtin.len_, ht, (ok.get hi).run_und, hd, goInt]
          · trivial
        · rename_i a cp n i hi
          split
          · rename_i e hd
            refine fun w => ?_
            simp [resolve, ha, invoke, builtin, Builtin.cap_, ht, (ok.get hi).run_und, hd, goInt]
          · trivial
        · rename_i s i hi
          split
          · rename_i hd
            refine fun w => ?_
            simp [resolve, ha, invoke, builtin, Builtin.len_, ht, (ok.get hi).run_und, hd, goInt]
          · trivial
        · rename_i m i hi
          split
          · rename_i k e hd
            refine fun n w h => ?_
            simp [resolve, ha, invoke, builtin, h]
          · trivial
        · trivial
      · rename_i l hargs hno
        have ha : args.map ρ = l.toArray := evs_arr hE hargs
        split
        · have := maxQ_ok (P := P) true l argTypes type
          simp only at this
          simp only [resolve, ha, invoke, builtin, pure_bind]
          exact this
        · have := maxQ_ok (P := P) false l argTypes type
          simp only at this
          simp only [resolve, ha, invoke, builtin, pure_bind]
          exact this
        · trivial
      · trivial


end
end Go.Vx
