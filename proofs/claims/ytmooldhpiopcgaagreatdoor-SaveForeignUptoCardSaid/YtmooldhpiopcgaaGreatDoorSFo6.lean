/- The law holds for every input: it returns true, and each argument reads behind the call as it did. Conditions: those of the form alone. -/
import Derived.Test.YtmooldhpiopcgaaGreatDoorSFo5
set_option linter.unusedVariables false
set_option linter.unusedSimpArgs false
set_option linter.unusedSectionVars false
set_option linter.unusedSimpArgs false
set_option linter.unusedVariables false
set_option maxRecDepth 100000
namespace Go.Proofs.YtmooldhpiopcgaaGreatDoor
namespace Dq
open Go Go.Vx Go.ChangeShapes Go.WideShapes Go.RowKit Dsk
theorem own : ownKnob Tryz.prog.godebug = none := by kernel_rfl
theorem laidOut : laidOutB Tryz.prog = true := by kernel_rfl
theorem u4 : Tryz.prog.underlying 4 = some .bool := i4_ok.und
theorem uStr : Tryz.prog.underlying 9 = some .string := i9_ok.und
theorem gErr : Tryz.prog.globalNamed "errors.errorType" = some 0 := by kernel_rfl
theorem tRt : (Tryz.prog.cutTypes.find? (·.1 == "internal/reflectlite.rtype")).map (·.2) = some 211 := by kernel_rfl
theorem typesN : Tryz.prog.types.size = 363 := by kernel_rfl
theorem oneRow : ((List.range 363).filter fun t => Tryz.prog.rowNamed t [101, 114, 114, 111, 114]) = [26] := by kernel_rfl
theorem hdlE : typeHandle Tryz.prog 26 = hdl 26 := by kernel_rfl
abbrev laidL : List (String × DataW Unit) := [("errors.errorType", Rows.laid_errors_errorType)]
theorem cell_laid {W : World} (h : laidMetH Tryz.prog laidL W) : W.cell? ⟨0, 0, none⟩ = some (rty 26) := by
  have h' : laidMet Tryz.prog [] W ∧ handlesMet Tryz.prog laidL W := h
  obtain ⟨name, u, ty, e1, e2, e3, e4, e5⟩ := h'.2 _ (List.mem_singleton.2 rfl)
  have en : name = [101, 114, 114, 111, 114] := (Option.some.inj e1).symm
  subst en
  obtain rfl := Option.some.inj (tRt.symm.trans e2)
  have hm : ty ∈ (List.range 363).filter fun t => Tryz.prog.rowNamed t [101, 114, 114, 111, 114] := List.mem_filter.2 ⟨List.mem_range.2 (by rw [← typesN]; exact e3), e4⟩
  rw [oneRow] at hm
  obtain rfl := List.mem_singleton.1 hm
  rw [hdlE] at e5
  simpa using World.var?_cell gErr e5 0
theorem laid_of {W : World} (h : laidMetH Tryz.prog laidL W) : LaidE W := by
  have h := cell_laid h
  unfold World.cell? at h
  split at h
  · rename_i cs t fr hb
    exact ⟨cs, t, fr, hb, h⟩
  all_goals simp_all
noncomputable def laidWorld (os : Os) : World :=
  let w0 := World.holding Tryz.prog os ⟨#[], #[], []⟩
  { w0 with heap := w0.heap.modify 0 fun
    | .cells _ t frozen => .cells #[.iface 211 (.agg #[.pointer (some ⟨2, 26, none⟩)])] t frozen
    | o => o }
theorem laid_met (os : Os) (args : Array Value) : laidMetH Tryz.prog laidL ((laidWorld os).forCall (fun _ _ => 0) ⟨#[], args, []⟩).memory :=
  laidMetH_of_parts (laidMet_nil _ _) (by kernel_rfl)
theorem trodAll_get {H : Type} {enc : TypeId × Value → H} {P : Program} {w : World} {base : Nat} {spare : Nat → Bool} {held : Bool} : ∀ {ts : List TypeId} {vs : List Value} {ds : List (DataW H)} {ps : List MemPlace}, DataW.TrodAll enc P w base spare held ts vs ds ps →
    vs.length = ts.length ∧ ds.length = ts.length ∧ ∀ (j : Nat) t v d, ts[j]? = some t → vs[j]? = some v → ds[j]? = some d → ∃ p, DataW.Trod enc P w base spare held t v d p
  | [], [], [], _, _ => ⟨rfl, rfl, fun j t v d h => by simp at h⟩
  | t :: ts, v :: vs, d :: ds, ps, ⟨p, q, h1, h2, e⟩ => by
    obtain ⟨a, b, c⟩ := trodAll_get h2
    refine ⟨by simp [a], by simp [b], fun j t' v' d' ht hv hd => ?_⟩
    match j with
    | 0 => cases ht; cases hv; cases hd; exact ⟨p, h1⟩
    | j + 1 => exact c j t' v' d' (by simpa using ht) (by simpa using hv) (by simpa using hd)
  | [], _ :: _, _, _, h => h.elim
  | [], [], _ :: _, _, h => h.elim
  | _ :: _, [], _, _, h => h.elim
  | _ :: _, _ :: _, [], _, h => h.elim
theorem weigh {H : Type} {ts : List TypeId} {ds : List (DataW H)} (h : (DataW.weightsEach Tryz.prog ts ds).all (· ≤ reachBytes) = true) (j : Nat) {t : TypeId} {d : DataW H} (ht : ts[j]? = some t) (hd : ds[j]? = some d) : ∀ n ∈ d.weights Tryz.prog t, n ≤ reachBytes := by
  intro n hn
  have := List.all_eq_true.1 h _ (DataW.weights_mem_each ht hd n hn)
  simpa using this
end Dq
end Go.Proofs.YtmooldhpiopcgaaGreatDoor
set_option linter.unusedSimpArgs false
set_option linter.unusedVariables false
set_option maxRecDepth 100000
namespace Go.Proofs.YtmooldhpiopcgaaGreatDoor
open Go Go.Vx Cdc Trx
section
variable {w w' : World} {S : Nat → Prop} {p : Nat} {e : Enc} {lim na : Nat} {O : Nat → Prop} {M : Parts}
def Old (w W : World) (a0 a : Sl) : Prop := ∀ y b, By w y b → (∀ k, y.blk k → a0.blk k → top y ≤ top a0) → By W y b ∧ ∀ k, y.blk k → a.blk k → top y ≤ top a
end
end Go.Proofs.YtmooldhpiopcgaaGreatDoor
set_option linter.unusedSimpArgs false
set_option linter.unusedVariables false
set_option maxRecDepth 100000
namespace Go.Proofs.YtmooldhpiopcgaaGreatDoor
open Go Go.Vx Cdc Trx
section
variable {w w' W W' : World} {S : Nat → Prop} {p : Nat} {e : Enc} {lim na : Nat} {O : Nat → Prop} {M : Parts}
abbrev txO (e : Enc) (lim : Nat) (tp : Option Addr) (a : Sl) : Obj := .cells #[.int .i64 e.num, .int .i64 (lim : Int), .pointer tp, .slice a.a a.len a.cap] 141 (0, 0)
abbrev frLs (p b1 b2 b6 b7 : Nat) (ps : Sl) (f n : Nat) : List (Nat × Obj) := [(b7, .cells #[.int .i64 (n : Int)] 3 (0, 0)), (b6, .cells #[.int .i64 (f : Int)] 3 (0, 0)), (b2, .cells #[.slice ps.a ps.len ps.cap] 165 (0, 0)), (b1, .cells #[.pointer (some (at0 p))] 51 (0, 0))]
structure FrI (w W : World) (p : Nat) (e : Enc) (lim : Nat) (tp : Option Addr) (a0 : Sl) (b1 b2 b6 b7 : Nat) (a ps : Sl) (ab cb : Bs) (pl : List Pc) (M' : Parts) (n : Nat) : Prop where
  st : St (fun k => k = p ∨ a0.blk k) w W (frLs p b1 b2 b6 b7 ps (ab.length - cb.length) n)
  tx : W.heap[p]? = some (txO e lim tp a)
  own : SlOwn W 0 a 5 1 (bv ab)
  suf : ∃ x, ab = x ++ cb
  row : SlOwn W w.heap.size ps 146 7 (flat c146 (pl.map pcT))
  its : Its W e pl M'
  tops : ∀ x ∈ pl, ∀ k, x.bytes.blk k → a.blk k → top x.bytes ≤ top a
  pblk : ∀ x ∈ pl, ∀ k, x.bytes.blk k → a0.blk k ∨ w.heap.size ≤ k
  ablk : ∀ k, a.blk k → a0.blk k ∨ w.heap.size ≤ k
  old : Old w W a0 a
  cnt : pl.length + cb.length ≤ ab.length
variable {tp : Option Addr} {a0 a ps : Sl} {b1 b2 b6 b7 n : Nat} {ab cb : Bs} {pl : List Pc} {M' : Parts}
end
end Go.Proofs.YtmooldhpiopcgaaGreatDoor
set_option linter.unusedSimpArgs false
set_option linter.unusedVariables false
set_option maxRecDepth 100000
namespace Go.Proofs.YtmooldhpiopcgaaGreatDoor
open Go Go.Vx Cdc Trx
namespace Cdc
structure LEd where
  f : Int
  t : Int
  put : List Int
end Cdc
section
variable {w w' W W' : World} {S : Nat → Prop} {p : Nat} {e : Enc} {lim na : Nat} {O : Nat → Prop} {M : Parts}
end
end Go.Proofs.YtmooldhpiopcgaaGreatDoor
set_option linter.unusedSimpArgs false
set_option linter.unusedVariables false
set_option maxRecDepth 100000
namespace Go.Proofs.YtmooldhpiopcgaaGreatDoor
open Go Go.Vx Go.ChangeShapes Go.WideShapes Go.RowKit Cdc
theorem ui : Tryz.prog.underlying 3 = some (.int .i64) := i3_ok.und
theorem ub : Tryz.prog.underlying 5 = some (.int .u8) := i5_ok.und
theorem uBytes : Tryz.prog.underlying 30 = some (.slice 5) := i30_ok.und
theorem ci : Tryz.prog.cellsOf 3 = 1 := by kernel_rfl
theorem cby : Tryz.prog.cellsOf 5 = 1 := by kernel_rfl
theorem bby : Tryz.prog.bytesOf 5 = 1 := by kernel_rfl
theorem cbs : Tryz.prog.cellsOf 30 = 1 := by kernel_rfl
theorem rows_of2 {cs : List Cell} {β : Type} {Q : Cells.T cs → β → Prop} : ∀ (rows : List (List Value)), (∀ r ∈ rows, ∃ x y, r = Cells.vals cs x ∧ Q x y) → ∃ (xs : List (Cells.T cs)) (ys : List β), rows.flatten = flat cs xs ∧ xs.length = rows.length ∧ xs.length = ys.length ∧ ∀ (i : Nat) x y, xs[i]? = some x → ys[i]? = some y → Q x y
  | [], _ => ⟨[], [], rfl, rfl, rfl, fun i x y hx => by simp at hx⟩
  | r :: rs, h => by
    obtain ⟨x, y, hx, hq⟩ := h r List.mem_cons_self
    obtain ⟨xs, ys, h1, h2, h3, h4⟩ := rows_of2 rs fun r' hr' => h r' (List.mem_cons_of_mem _ hr')
    refine ⟨x :: xs, y :: ys, ?_, by simp [h2], by simp [h3], fun i x' y' hx' hy' => ?_⟩
    · rw [List.flatten_cons, h1, hx]; rfl
    · match i with
      | 0 => cases hx'; cases hy'; exact hq
      | i + 1 => exact h4 i x' y' (by simpa using hx') (by simpa using hy')
section
variable {H : Type} {enc : TypeId × Value → H} {W : World} {base fuel : Nat} {held : Bool}
abbrev bulk (d : DataW H) : Nat := Rows.uptoBulk d
theorem bulk_one (d : DataW H) : 1 ≤ bulk d := by
  unfold bulk
  cases d with
  | lit l => cases l <;> simp [Rows.uptoBulk]
  | nil => simp [Rows.uptoBulk]
  | ptr d => simp [Rows.uptoBulk]
  | slice elems spare => simp [Rows.uptoBulk]
  | agg parts => simp [Rows.uptoBulk]
  | iface t d => simp [Rows.uptoBulk]
  | map entries => simp [Rows.uptoBulk]
  | held h => simp [Rows.uptoBulk]
theorem bulk_part {d : DataW H} {l : List (DataW H)} (h : d ∈ l) : bulk d ≤ Rows.uptoBulkAll l := by
  induction l with
  | nil => cases h
  | cons x r ih =>
    simp only [Rows.uptoBulkAll]
    cases List.mem_cons.1 h with
    | inl e => subst e; show Rows.uptoBulk d ≤ _; omega
    | inr e => have := ih e; show Rows.uptoBulk d ≤ _; have : Rows.uptoBulk d ≤ Rows.uptoBulkAll r := this; omega
theorem bulk_len (l : List (DataW H)) : l.length ≤ Rows.uptoBulkAll l := by
  induction l with
  | nil => simp [Rows.uptoBulkAll]
  | cons x r ih => have := bulk_one x; unfold bulk at this; simp only [Rows.uptoBulkAll, List.length_cons]; omega
theorem open_rowsB {t e : TypeId} {sz : Nat} {cs : List Value} {x : DataW H × List MemPlace} (ht : Tryz.prog.underlying t = some (.slice e)) (hsz : Tryz.prog.cellsOf e = sz) (hpos : 0 < sz)
    (h : DataW.trod enc Tryz.prog W base (fun _ => true) held fuel t cs = some x) (hw : ∀ n ∈ x.1.weights Tryz.prog t, n ≤ reachBytes) :
    ∃ (s : Sl) (rows : List (List Value)), cs = [.slice s.a s.len s.cap] ∧ SlX W s sz rows.flatten ∧ rows.length = s.len ∧ s.len ≤ bulk x.1 ∧
      ∀ r ∈ rows, r.length = sz ∧ ∃ n y, DataW.trod enc Tryz.prog W base (fun _ => true) held n e r = some y ∧ (∀ k ∈ y.1.weights Tryz.prog e, k ≤ reachBytes) ∧ bulk y.1 ≤ bulk x.1 := by
  obtain ⟨s, rows, h1, h2, h3, h4, h6, h5⟩ := open_rowsM ht hsz hpos h hw
  refine ⟨s, rows, h1, h2, h3, ?_, fun r hr => ?_⟩
  · rcases h6 with h6 | ⟨els, rst, hx, hl⟩
    · omega
    · have := bulk_len els
      rw [hx]
      show _ ≤ Rows.uptoBulk (.slice els rst)
      simp only [Rows.uptoBulk]; omega
  · obtain ⟨a, n, y, b, c, els, rst, hx, hm⟩ := h5 r hr
    refine ⟨a, n, y, b, c, ?_⟩
    have := bulk_part hm
    rw [hx]
    show _ ≤ Rows.uptoBulk (.slice els rst)
    simp only [Rows.uptoBulk]; omega
theorem open_fields {t : TypeId} {fs : Array Field} {L : List (TypeId × Nat)} {cs : List Value} {x : DataW H × List MemPlace} (hu : Tryz.prog.underlying t = some (.struct fs)) (hfs : fs.toList.map (fun f => (f.type, f.offset)) = L)
    (h : DataW.trod enc Tryz.prog W base (fun _ => true) held fuel t cs = some x) (hw : ∀ n ∈ x.1.weights Tryz.prog t, n ≤ reachBytes) :
    ∃ n, ∀ (i : Nat) (t' o : Nat), L[i]? = some (t', o) → ∃ y, DataW.trod enc Tryz.prog W base (fun _ => true) held n t' ((cs.drop o).take (Tryz.prog.cellsOf t')) = some y ∧ (∀ k ∈ y.1.weights Tryz.prog t', k ≤ reachBytes) ∧ bulk y.1 ≤ bulk x.1 := by
  obtain ⟨xs, n, _, rfl, _, hxl, hall⟩ := DataW.trod_struct hu h
  refine ⟨n, fun i t' o hi => ?_⟩
  rw [← hfs, List.getElem?_map] at hi
  obtain ⟨f, hf, he⟩ := Option.map_eq_some_iff.1 hi
  cases he
  have hf' : fs[i]? = some f := by simpa using hf
  have h1 := hall i f hf'
  have hil : i < xs.length := by rw [hxl]; exact (Array.getElem?_eq_some_iff.1 hf').1
  rw [List.getElem?_eq_getElem hil] at h1
  refine ⟨xs[i], h1, fun k hk => hw k ?_, ?_⟩
  · simp only [DataW.weights, hu]
    exact DataW.weights_mem_each (j := i) (t := f.type) (d := xs[i].1) (by rw [List.getElem?_map, hf]; rfl) (by rw [List.getElem?_map, List.getElem?_eq_getElem hil]; rfl) k hk
  · have hm : xs[i].1 ∈ xs.map (·.1) := List.mem_map.2 ⟨xs[i], List.getElem_mem hil, rfl⟩
    have := bulk_part hm
    show _ ≤ Rows.uptoBulk (.agg (xs.map (·.1)))
    simp only [Rows.uptoBulk]; omega
theorem open_u8 {cs : List Value} {x : DataW H × List MemPlace} (h : DataW.trod enc Tryz.prog W base (fun _ => true) held fuel 5 cs = some x) : ∃ b : UInt8, cs = [.int .u8 (b.toNat : Int)] := by
  have : ∃ n, cs = [.int .u8 n] ∧ (Lit.int .u8 n).wf = true := by
    cases fuel with
    | zero => simp [DataW.trod] at h
    | succ m =>
      unfold DataW.trod at h
      rw [ub] at h
      split at h <;> simp_all
  obtain ⟨n, rfl, hn⟩ := this
  have hr : 0 ≤ n ∧ n < 256 := by
    have h1 : IntKind.min .u8 = 0 := rfl
    have h2 : IntKind.max .u8 = 255 := rfl
    simp [Lit.wf, h1, h2] at hn
    omega
  refine ⟨UInt8.ofNat n.toNat, ?_⟩
  have : (UInt8.ofNat n.toNat).toNat = n.toNat := by
    rw [UInt8.toNat_ofNat']
    exact Nat.mod_eq_of_lt (by omega)
  rw [this]
  congr 2
  omega
theorem open_bytes {cs : List Value} {x : DataW H × List MemPlace} (h : DataW.trod enc Tryz.prog W base (fun _ => true) held fuel 30 cs = some x) (hw : ∀ n ∈ x.1.weights Tryz.prog 30, n ≤ reachBytes) :
    ∃ (s : Sl) (l : List UInt8), cs = [.slice s.a s.len s.cap] ∧ SlX W s 1 (bv l) ∧ l.length ≤ 2 ^ 47 := by
  obtain ⟨s, rows, rfl, hs, hl, hby, hr⟩ := open_rows uBytes cby (by decide) h hw
  obtain ⟨xs, ls, h1, h2, h3, h4⟩ := rows_of2 (cs := [.int .u8]) (β := UInt8) (Q := fun x y => x.1 = (y.toNat : Int)) rows (fun r hr' => by
    obtain ⟨_, n, y, hy, _⟩ := hr r hr'
    obtain ⟨b, rfl⟩ := open_u8 hy
    exact ⟨((b.toNat : Int), ()), b, rfl, rfl⟩)
  refine ⟨s, ls, rfl, ?_, ?_⟩
  · rw [h1] at hs
    have e : flat [.int .u8] xs = bv ls := by
      clear h1 h2 hs
      induction xs generalizing ls with
      | nil =>
        cases ls with
        | nil => rfl
        | cons y r => simp at h3
      | cons x r ih =>
        cases ls with
        | nil => simp at h3
        | cons y q =>
          have h0 := h4 0 x y rfl rfl
          have := ih q (by simpa using h3) fun i x' y' hx hy => h4 (i + 1) x' y' (by simpa using hx) (by simpa using hy)
          simp only [flat, List.flatMap_cons] at this ⊢
          rw [this]
          obtain ⟨n, ⟨⟩⟩ := x
          dsimp only at h0
          subst h0
          rfl
    rw [e] at hs; exact hs
  · rw [← h3, h2, hl]
    rw [bby] at hby
    unfold reachBytes at hby
    omega
structure LAsk where
  kind : Int
  at_ : Int
  b : Int
  mkd : Int
  count : Int
  arg : Int
  past : Bool
end
section
variable {H : Type} {enc : TypeId × Value → H} {W : World} {base : Nat}
end
end Go.Proofs.YtmooldhpiopcgaaGreatDoor
set_option linter.unusedSimpArgs false
set_option linter.unusedVariables false
set_option maxRecDepth 100000
namespace Go.Proofs.YtmooldhpiopcgaaGreatDoor
namespace Dq
open Go Go.Vx Go.ChangeShapes Go.WideShapes Go.RowKit Dsk Cdc
theorem cstr : Tryz.prog.cellsOf 9 = 1 := by kernel_rfl
theorem cffile : Tryz.prog.cellsOf 65 = 2 := by kernel_rfl
theorem cffiles : Tryz.prog.cellsOf 37 = 1 := by kernel_rfl
theorem cscene : Tryz.prog.cellsOf 39 = 4 := by kernel_rfl
theorem uFFiles : Tryz.prog.underlying 37 = some (.slice 65) := by kernel_rfl
theorem sFFile : ∃ fs : Array Field, Tryz.prog.underlying 65 = some (.struct fs) ∧ fs.toList.map (fun f => (f.type, f.offset)) = [(9, 0), (30, 1)] := ⟨_, i65_ok.und, rfl⟩
theorem sScene : ∃ fs : Array Field, Tryz.prog.underlying 39 = some (.struct fs) ∧ fs.toList.map (fun f => (f.type, f.offset)) = [(37, 0), (9, 1), (3, 2), (30, 3)] := ⟨_, i39_ok.und, rfl⟩
section
variable {H : Type} {enc : TypeId × Value → H} {W : World} {base fuel : Nat} {held : Bool}
theorem open_strB {cs : List Value} {x : DataW H × List MemPlace} (h : DataW.trod enc Tryz.prog W base (fun _ => true) held fuel 9 cs = some x) (hb : bulk x.1 ≤ 1048576) : ∃ s : ByteArray, cs = [.string s] ∧ s.size < 1048576 := by
  obtain ⟨s, e1, e2, _⟩ := DataW.trod_string uStr h
  refine ⟨s, e1, ?_⟩
  have hb : Rows.uptoBulk x.1 ≤ 1048576 := hb
  rw [e2] at hb
  simp only [Rows.uptoBulk] at hb
  have : s.data.toList.length = s.size := by simp
  omega
theorem open_bytesB {cs : List Value} {x : DataW H × List MemPlace} (h : DataW.trod enc Tryz.prog W base (fun _ => true) held fuel 30 cs = some x) (hw : ∀ n ∈ x.1.weights Tryz.prog 30, n ≤ reachBytes) (hb : bulk x.1 ≤ 1048576) :
    ∃ (s : Sl) (l : List UInt8), cs = [.slice s.a s.len s.cap] ∧ SlX W s 1 (bv l) ∧ l.length ≤ 1048576 := by
  obtain ⟨s, l, e, h1, _⟩ := open_bytes h hw
  obtain ⟨s', _, e', _, _, hl, _⟩ := open_rowsB uBytes cby (by decide) h hw
  refine ⟨s, l, e, h1, ?_⟩
  rw [e] at e'
  have : s.len = s'.len := by simp at e'; exact e'.2.1
  have := bys_len h1
  omega
theorem open_file {cs : List Value} {x : DataW H × List MemPlace} (hl : cs.length = 2) (h : DataW.trod enc Tryz.prog W base (fun _ => true) held fuel 65 cs = some x) (hw : ∀ n ∈ x.1.weights Tryz.prog 65, n ≤ reachBytes) (hb : bulk x.1 ≤ 1048576) :
    ∃ (y : Cells.T c65) (o : Nm × List UInt8), cs = Cells.vals c65 y ∧ (y.1 = o.1 ∧ Bytes W y.2.1 o.2 ∧ o.1.size < 2 ^ 62 ∧ o.2.length ≤ 2 ^ 30) := by
  obtain ⟨fs, hu, hfs⟩ := sFFile
  obtain ⟨n, hall⟩ := open_fields hu hfs h hw
  obtain ⟨v0, v1, rfl⟩ : ∃ v0 v1, cs = [v0, v1] := by
    match cs, hl with
    | [v0, v1], _ => exact ⟨v0, v1, rfl⟩
  obtain ⟨y0, h0, _, hb0⟩ := hall 0 _ _ rfl
  obtain ⟨y1, h1, hw1, hb1⟩ := hall 1 _ _ rfl
  rw [cstr] at h0
  rw [cbs] at h1
  obtain ⟨n0, e0, i0⟩ := open_strB h0 (by omega)
  obtain ⟨s1, l1, e1, g1, k1⟩ := open_bytesB h1 hw1 (by omega)
  simp at e0 e1
  subst e0 e1
  exact ⟨(n0, s1, ()), (n0, l1), rfl, rfl, g1, by dsimp only; omega, by dsimp only; omega⟩
theorem open_files {cs : List Value} {x : DataW H × List MemPlace} (h : DataW.trod enc Tryz.prog W base (fun _ => true) held fuel 37 cs = some x) (hw : ∀ n ∈ x.1.weights Tryz.prog 37, n ≤ reachBytes) (hb : bulk x.1 ≤ 1048576) :
    ∃ (s : Sl) (rows : List (Cells.T c65)) (fs : Fls), cs = [.slice s.a s.len s.cap] ∧ FlsIn W s rows fs := by
  obtain ⟨s, rows, rfl, hs, hl, hby, hr⟩ := open_rowsB uFFiles cffile (by decide) h hw
  obtain ⟨xs, ls, h1, h2, h3, h4⟩ := rows_of2 (cs := c65) (β := Nm × List UInt8) (Q := fun y o => y.1 = o.1 ∧ Bytes W y.2.1 o.2 ∧ o.1.size < 2 ^ 62 ∧ o.2.length ≤ 2 ^ 30) rows (fun r hr' => by
    obtain ⟨hrl, n, y, hy, hwy, hby⟩ := hr r hr'
    exact open_file hrl hy hwy (by omega))
  rw [h1] at hs
  exact ⟨s, xs, ls, rfl, hs, h3, h4⟩
theorem open_scene {cs : List Value} {x : DataW H × List MemPlace} (hl : cs.length = 4) (h : DataW.trod enc Tryz.prog W base (fun _ => true) held fuel 39 cs = some x) (hw : ∀ n ∈ x.1.weights Tryz.prog 39, n ≤ reachBytes) (hb : bulk x.1 ≤ 1048576) :
    ∃ (y : Cells.T c39) (rows : List (Cells.T c65)) (fs : Fls) (data : List UInt8), cs = Cells.vals c39 y ∧ Scn W y rows fs data := by
  obtain ⟨fs, hu, hfs⟩ := sScene
  obtain ⟨n, hall⟩ := open_fields hu hfs h hw
  obtain ⟨v0, v1, v2, v3, rfl⟩ : ∃ v0 v1 v2 v3, cs = [v0, v1, v2, v3] := by
    match cs, hl with
    | [v0, v1, v2, v3], _ => exact ⟨v0, v1, v2, v3, rfl⟩
  obtain ⟨y0, h0, hw0, hb0⟩ := hall 0 _ _ rfl
  obtain ⟨y1, h1, hw1, hb1⟩ := hall 1 _ _ rfl
  obtain ⟨y2, h2, hw2, hb2⟩ := hall 2 _ _ rfl
  obtain ⟨y3, h3, hw3, hb3⟩ := hall 3 _ _ rfl
  rw [cffiles] at h0
  rw [cstr] at h1
  rw [ci] at h2
  rw [cbs] at h3
  obtain ⟨s0, rows, fl, e0, g0⟩ := open_files h0 hw0 (by omega)
  obtain ⟨n1, e1, i1⟩ := open_strB h1 (by omega)
  obtain ⟨n2, e2, _⟩ := open_i64 ui h2
  obtain ⟨s3, l3, e3, g3, k3⟩ := open_bytesB h3 hw3 (by omega)
  simp at e0 e1 e2 e3
  subst e0 e1 e2 e3
  exact ⟨(s0, n1, n2, s3, ()), rows, fl, l3, rfl, g0, g3, by dsimp only; omega, by omega⟩
theorem arg_scene {v : Value} {d : DataW H} {p : List MemPlace} (hv : Value.okWide Tryz.prog W .any base 39 v) (h : DataW.Trod enc Tryz.prog W 0 (fun _ => true) true 39 v d p) (hw : ∀ n ∈ d.weights Tryz.prog 39, n ≤ reachBytes) (hb : bulk d ≤ 1048576) :
    ∃ (y : Cells.T c39) (rows : List (Cells.T c65)) (fs : Fls) (data : List UInt8), v = .agg (scells y) ∧ Scn W y rows fs data := by
  obtain ⟨fs, hu, _⟩ := sScene
  obtain ⟨cs, rfl, hsz⟩ := okWide_struct hu hv
  obtain ⟨n, hn⟩ := h
  rw [cscene] at hsz
  obtain ⟨y, rows, fl, l, e, h1⟩ := open_scene (cs := cs.toList) (by simpa using hsz) (by simpa [Value.cells] using hn) hw hb
  exact ⟨y, rows, fl, l, by show _ = Value.agg (Cells.vals c39 y).toArray; rw [← e], h1⟩
end
section
variable {H : Type} {enc : TypeId × Value → H} {W : World} {base : Nat}
theorem arg_bytesB {v : Value} {d : DataW H} {p : List MemPlace} (hv : Value.okWide Tryz.prog W .any base 30 v) (h : DataW.Trod enc Tryz.prog W 0 (fun _ => true) true 30 v d p) (hw : ∀ n ∈ d.weights Tryz.prog 30, n ≤ reachBytes) (hb : bulk d ≤ 1048576) :
    ∃ (s : Sl) (l : List UInt8), v = .slice s.a s.len s.cap ∧ Bytes W s l := by
  obtain ⟨a, len, cap, rfl⟩ := okWide_slice uBytes hv
  obtain ⟨n, hn⟩ := h
  obtain ⟨s, l, e, h1, _⟩ := open_bytesB hn hw hb
  exact ⟨s, l, by simpa [Value.cells] using e, h1⟩
end
theorem list_2 {α : Type} (l : List α) (h : l.length = 2) : ∃ v0 v1, l = [v0, v1] := by
  match l, h with
  | [v0, v1], _ => exact ⟨v0, v1, rfl⟩
theorem recBytes : Tryz.prog.readableRec 30 = true := by kernel_rfl
theorem recScene : Tryz.prog.readableRec 39 = true := by kernel_rfl
theorem recs2 {t : TypeId} (h : t = 39 ∨ t = 30) : Tryz.prog.readableRec t = true ∧ t < Tryz.prog.types.size := by
  rcases h with rfl | rfl
  · exact ⟨recScene, by rw [typesN]; decide⟩
  · exact ⟨recBytes, by rw [typesN]; decide⟩
end Dq
end Go.Proofs.YtmooldhpiopcgaaGreatDoor
set_option linter.unusedSimpArgs false
set_option linter.unusedVariables false
namespace Go.Proofs.YtmooldhpiopcgaaGreatDoor
namespace Dq
open Go Go.Vx Go.ChangeShapes Go.WideShapes Go.RowKit
theorem and2 {a b : Bool} (h : a = true) (h' : b = true) : (a && b) = true := by rw [h, h']; rfl
theorem saveForeign_witness (os : Os) {H : Type} (enc : TypeId × Value → H) :
    (Rows.OpenSpec.upto Rows.saveForeignSpec).preRow enc Tryz.prog Tryz.f5 Rows.saveForeignUptoRow.domain false laidL ((laidWorld os).forCall (fun _ _ => 0) ⟨#[], #[.agg #[.slice none 0 0, .string ⟨#[]⟩, .int .i64 0, .slice none 0 0], .slice none 0 0], []⟩).memory #[.agg #[.slice none 0 0, .string ⟨#[]⟩, .int .i64 0, .slice none 0 0], .slice none 0 0] := by
  have hw : (DataW.whole enc Tryz.prog ((laidWorld os).forCall (fun _ _ => 0) ⟨#[], #[.agg #[.slice none 0 0, .string ⟨#[]⟩, .int .i64 0, .slice none 0 0], .slice none 0 0], []⟩).memory Tryz.f5.params.toList (Rows.OpenSpec.upto Rows.saveForeignSpec).vars false (#[.agg #[.slice none 0 0, .string ⟨#[]⟩, .int .i64 0, .slice none 0 0], .slice none 0 0] : Array Value).toList 8).map (fun x => (x.1, x.2.1)) =
      some ([.agg [.nil, .lit (.string []), .lit (.int .i64 0), .nil], .nil], []) := by kernel_rfl
  obtain ⟨⟨x1, x2, x3⟩, hx, hx1⟩ := Option.map_eq_some_iff.1 hw
  simp only [Prod.mk.injEq] at hx1
  obtain ⟨rfl, rfl⟩ := hx1
  exact OpenSpec.preRow_of_cond 8 hx (by kernel_rfl) (fun k hk => by cases hk; kernel_rfl) (by kernel_rfl) (laid_met os _)
set_option maxRecDepth 100000 in
set_option maxHeartbeats 2000000 in
theorem saveForeign_lifted (os : Os) (started : os.Started) (H : Type) (enc : TypeId × Value → H) (F : Stop.Interp) :
    ReturnsInHanded {} Tryz.checked os 5 .any ((Rows.OpenSpec.upto Rows.saveForeignSpec).preRow enc Tryz.prog Tryz.f5 Rows.saveForeignUptoRow.domain false laidL) (((Rows.OpenSpec.upto Rows.saveForeignSpec).at F).post enc Tryz.prog Tryz.f5 false true false false) := by
  refine returnsInHanded_of_row (C := Tryz.checked) (s := Rows.OpenSpec.upto Rows.saveForeignSpec) own started (by kernel_rfl) Tryz.func5
    (witness_row_atRef (enc := enc) (C := Tryz.checked) false (laidWorld os) #[.agg #[.slice none 0 0, .string ⟨#[]⟩, .int .i64 0, .slice none 0 0], .slice none 0 0] rfl (by kernel_rfl) (by kernel_rfl) (by kernel_rfl) (saveForeign_witness os enc)) ?_
  intro W base args ds gs before hval0 hW _ hk hwt0 hL _ _
  have hval : ∀ (j : Nat) t v, Tryz.f5.params[j]? = some t → args[j]? = some v → Value.okWide Tryz.prog W .any base t v := hval0
  have hwt : (DataW.weightsEach Tryz.prog (Tryz.f5.params.toList ++ []) (ds ++ gs)).all (· ≤ reachBytes) = true := hwt0
  have hW' := hW
  obtain ⟨p, q, hA0, hV, rfl, hfz, hnd⟩ := hW
  have hA : DataW.TrodAll enc Tryz.prog W 0 (fun _ => true) true Tryz.f5.params.toList args.toList ds p := hA0
  clear hA0 hval0 hwt0
  rw [Tryz.params5] at hA hval hwt
  obtain ⟨rfl, rfl⟩ := trodVars_none hV
  obtain ⟨hn1, hn2, hT⟩ := trodAll_get hA
  obtain ⟨v0, v1, hv⟩ := list_2 args.toList hn1
  obtain rfl : args = #[v0, v1] := by cases args; simp_all
  obtain ⟨d0, d1, rfl⟩ := list_2 ds hn2
  have hbulk0 : bulk d0 ≤ 1048576 := by
    have h : Rows.uptoBulkAll ([d0, d1] ++ []) ≤ 1048576 := of_decide_eq_true (hk _ rfl)
    simp only [List.append_nil, Rows.uptoBulkAll] at h
    show Rows.uptoBulk d0 ≤ _
    omega
  have hbulk1 : bulk d1 ≤ 1048576 := by
    have h : Rows.uptoBulkAll ([d0, d1] ++ []) ≤ 1048576 := of_decide_eq_true (hk _ rfl)
    simp only [List.append_nil, Rows.uptoBulkAll] at h
    show Rows.uptoBulk d1 ≤ _
    omega
  obtain ⟨p0, q0⟩ := hT 0 39 v0 d0 rfl rfl rfl
  obtain ⟨p1, q1⟩ := hT 1 30 v1 d1 rfl rfl rfl
  obtain ⟨y, rows, fl, data, rfl, hsc⟩ := arg_scene (hval 0 39 v0 rfl rfl) q0 (weigh hwt 0 rfl rfl) hbulk0
  obtain ⟨sx, other, rfl, hot⟩ := arg_bytesB (hval 1 30 v1 rfl rfl) q1 (weigh hwt 1 rfl rfl) hbulk1
  have walk := foreign_walk (laid_of hL) hsc hot (K := fun r w' => r = true ∧ Ext W w') fun w' e => ⟨rfl, e⟩
  refine walk.mono fun e W' ⟨x, he, hx, hext⟩ => ⟨.bool true, ?_, ?_⟩
  · subst hx; exact he
  · exact post_same (s := Rows.saveForeignSpec) hW' rfl rfl u4 rfl laidOut (fun t ht => by
      rw [Tryz.params5] at ht
      have ht : t ∈ [39, 30] := ht
      simp only [List.mem_cons, List.not_mem_nil, or_false] at ht
      exact recs2 ht) hext
set_option maxHeartbeats 0 in
theorem saveForeign_facts : joinedFacts Tryz.pinned.checked.prog 5 Tryz.f5 (Rows.OpenSpec.upto Rows.saveForeignSpec).bare Rows.saveForeignUptoRow = true := by
  unfold joinedFacts
  with_reducible repeat' apply and2
  all_goals as_aux_lemma => kernel_rfl
theorem saveForeign_row : Rows.SaveForeignUptoSaid :=
  OpenClaim.holds_of_cond 5 Tryz.f5 rfl rfl rfl rfl rfl rfl rfl ⟨rfl, rfl, rfl, rfl, rfl⟩ rfl rfl rfl rfl rfl (by as_aux_lemma => kernel_rfl) Tryz.func5 saveForeign_facts
    (of_decide_eq_true (by as_aux_lemma => kernel_rfl)) (by unfold Func.isWrapper; rw [if_neg (by as_aux_lemma => decide +kernel)]; exact ⟨rfl, rfl⟩)
    (fun os started H enc _ F => by rw [OpenClaim.pre_eq_preRow]; exact saveForeign_lifted os started H enc F)
end Dq
theorem saveForeign_holds : Rows.SaveForeignUptoCardSaid :=
  Claim7.holds_tied_plain_at .later [] [.handle] true (true, "8fa86d716e3cbb5d44ad5d616054dc9adf16b2d155b2b8fa930f25b85a3d54ce") true
    Dq.saveForeign_row (fun _ h => by cases h) (by as_aux_lemma => kernel_rfl) (fun _ h => by cases h) saveForeignUpto_row_tie rfl ⟨rfl, rfl⟩ (by as_aux_lemma => kernel_rfl) rfl
    (fun f fn hf hfn => by
      obtain rfl : f = 5 := Option.some.inj ((show Tryz.prog.funcNamed "copyist/copyistlaw17.SaveForeign" = some 5 by as_aux_lemma => kernel_rfl).symm.trans hf) |>.symm
      obtain rfl : fn = Tryz.f5 := (Option.some.inj (Tryz.func5.symm.trans hfn)).symm
      exact ⟨by as_aux_lemma => kernel_rfl, fun j t ht => by
        rw [Tryz.params5] at ht
        have hm : t ∈ [39, 30] := by simpa using Array.mem_of_getElem? ht
        have hall : ([39, 30].all fun u => !Tryz.prog.wantsStandIn u) = true := by as_aux_lemma => kernel_rfl
        exact (show Tryz.prog.wantsStandIn t = false by simpa using List.all_eq_true.1 hall t hm)⟩)
    (by as_aux_lemma => kernel_rfl)
end Go.Proofs.YtmooldhpiopcgaaGreatDoor
