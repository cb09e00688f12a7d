/- The law holds for every input: it returns true, and each argument reads behind the call as it did. Conditions: those of the form alone. -/
import Derived.Test.YtolhlldgnfbemaaGreatMSp6
set_option linter.unusedVariables false
set_option linter.unusedSimpArgs false
set_option linter.unusedSectionVars false
set_option maxRecDepth 100000
namespace Go.Proofs.YtolhlldgnfbemaaGreat
open Go Go.Vx Go.ChangeShapes Go.WideShapes Go.RowKit Cdc
theorem Tryz.own : ownKnob Tryz.prog.godebug = none := by kernel_rfl
theorem Tryz.laidOut : laidOutB Tryz.prog = true := by kernel_rfl
theorem ui : Tryz.prog.underlying 3 = some (.int .i64) := i3_ok.und
theorem ub : Tryz.prog.underlying 5 = some (.int .u8) := i5_ok.und
theorem u4 : Tryz.prog.underlying 4 = some .bool := i4_ok.und
theorem uInts : Tryz.prog.underlying 37 = some (.slice 3) := i37_ok.und
theorem uBytes : Tryz.prog.underlying 22 = some (.slice 5) := i22_ok.und
theorem uEdits : Tryz.prog.underlying 69 = some (.slice 103) := by kernel_rfl
theorem uEditss : Tryz.prog.underlying 23 = some (.slice 69) := by kernel_rfl
theorem uAsks : Tryz.prog.underlying 24 = some (.slice 33) := by kernel_rfl
theorem ci : Tryz.prog.cellsOf 3 = 1 := by kernel_rfl
theorem cby : Tryz.prog.cellsOf 5 = 1 := by kernel_rfl
theorem bby : Tryz.prog.bytesOf 5 = 1 := by kernel_rfl
theorem cbo : Tryz.prog.cellsOf 4 = 1 := by kernel_rfl
theorem cbs : Tryz.prog.cellsOf 22 = 1 := by kernel_rfl
theorem cis : Tryz.prog.cellsOf 37 = 1 := by kernel_rfl
theorem ced : Tryz.prog.cellsOf 103 = 3 := by kernel_rfl
theorem ceds : Tryz.prog.cellsOf 69 = 1 := by kernel_rfl
theorem cess : Tryz.prog.cellsOf 23 = 1 := by kernel_rfl
theorem cas : Tryz.prog.cellsOf 24 = 1 := by kernel_rfl
theorem cask : Tryz.prog.cellsOf 33 = 7 := by kernel_rfl
theorem cmv : Tryz.prog.cellsOf 31 = 3 := by kernel_rfl
theorem clook : Tryz.prog.cellsOf 26 = 4 := by kernel_rfl
theorem sEdit : ∃ fs : Array Field, Tryz.prog.underlying 103 = some (.struct fs) ∧ fs.toList.map (fun f => (f.type, f.offset)) = [(3, 0), (3, 1), (37, 2)] := ⟨_, i103_ok.und, rfl⟩
theorem sMove : ∃ fs : Array Field, Tryz.prog.underlying 31 = some (.struct fs) ∧ fs.toList.map (fun f => (f.type, f.offset)) = [(3, 0), (3, 1), (3, 2)] := ⟨_, i31_ok.und, rfl⟩
theorem sAsk : ∃ fs : Array Field, Tryz.prog.underlying 33 = some (.struct fs) ∧ fs.toList.map (fun f => (f.type, f.offset)) = [(3, 0), (3, 1), (3, 2), (31, 3), (4, 6)] := ⟨_, i33_ok.und, rfl⟩
theorem sLook : ∃ fs : Array Field, Tryz.prog.underlying 26 = some (.struct fs) ∧ fs.toList.map (fun f => (f.type, f.offset)) = [(3, 0), (22, 1), (23, 2), (24, 3)] := ⟨_, i26_ok.und, rfl⟩
theorem rows_of2 {cs : List Cell} {β : Type} {Q : Cells.T cs → β → Prop} : ∀ (rows : List (List Value)), (∀ r ∈ rows, ∃ x y, r = Cells.vals cs x ∧ Q x y) → ∃ (xs : List (Cells.T cs)) (ys : List β), rows.flatten = flat cs xs ∧ xs.length = rows.length ∧ xs.length = ys.length ∧ ∀ (i : Nat) x y, xs[i]? = some x → ys[i]? = some y → Q x y
 | [], _ => ⟨[], [], rfl, rfl, rfl, fun i x y hx => by simp at hx⟩
 | r :: rs, h => by
  obtain ⟨x, y, hx, hq⟩ := h r List.mem_cons_self
  obtain ⟨xs, ys, h1, h2, h3, h4⟩ := rows_of2 rs fun r' hr' => h r' (List.mem_cons_of_mem _ hr')
  refine ⟨x :: xs, y :: ys, ?_, by simp [h2], by simp [h3], fun i x' y' hx' hy' => ?_⟩
  ·rw [List.flatten_cons, h1, hx]; rfl
  ·match i with
   | 0 => cases hx'; cases hy'; exact hq
   | i + 1 => exact h4 i x' y' (by simpa using hx') (by simpa using hy')
abbrev In64 (x : Int) : Prop := -(2 ^ 63) ≤ x ∧ x < 2 ^ 63
theorem wf64 {n : Int} (h : (Lit.int .i64 n).wf = true) : In64 n := by
 have h1 : IntKind.min .i64 = -9223372036854775808 := rfl
 have h2 : IntKind.max .i64 = 9223372036854775807 := rfl
 simp [Lit.wf, h1, h2] at h
 unfold In64
 omega
section
variable {H : Type} {enc : TypeId × Value → H} {W : World} {base fuel : Nat} {held : Bool}
abbrev bulk (d : DataW H) : Nat := Rows.uptoBulk d
theorem bulk_one (d : DataW H) : 1 ≤ bulk d := by
 unfold bulk
 cases d with
 | lit l => cases l <;> simp [Rows.uptoBulk]
 | nil => simp [Rows.uptoBulk]
 | ptr d => simp [Rows.uptoBulk]
 | slice elems spare => simp [Rows.uptoBulk]
 | agg parts => simp [Rows.uptoBulk]
 | iface t d => simp [Rows.uptoBulk]
 | map entries => simp [Rows.uptoBulk]
 | held h => simp [Rows.uptoBulk]
theorem bulk_part {d : DataW H} {l : List (DataW H)} (h : d ∈ l) : bulk d ≤ Rows.uptoBulkAll l := by
 induction l with
 | nil => cases h
 | cons x r ih =>
  simp only [Rows.uptoBulkAll]
  cases List.mem_cons.1 h with
  | inl e => subst e; show Rows.uptoBulk d ≤ _; omega
  | inr e => have := ih e; show Rows.uptoBulk d ≤ _; have : Rows.uptoBulk d ≤ Rows.uptoBulkAll r := this; omega
theorem bulk_len (l : List (DataW H)) : l.length ≤ Rows.uptoBulkAll l := by
 induction l with
 | nil => simp [Rows.uptoBulkAll]
 | cons x r ih => have := bulk_one x; unfold bulk at this; simp only [Rows.uptoBulkAll, List.length_cons]; omega
theorem open_rowsB {t e : TypeId} {sz : Nat} {cs : List Value} {x : DataW H × List MemPlace} (ht : Tryz.prog.underlying t = some (.slice e)) (hsz : Tryz.prog.cellsOf e = sz) (hpos : 0 < sz)
  (h : DataW.trod enc Tryz.prog W base (fun _ => true) held fuel t cs = some x) (hw : ∀ n ∈ x.1.weights Tryz.prog t, n ≤ reachBytes) :
  ∃ (s : Sl) (rows : List (List Value)), cs = [.slice s.a s.len s.cap] ∧ SlX W s sz rows.flatten ∧ rows.length = s.len ∧ s.len ≤ bulk x.1 ∧
   ∀ r ∈ rows, r.length = sz ∧ ∃ n y, DataW.trod enc Tryz.prog W base (fun _ => true) held n e r = some y ∧ (∀ k ∈ y.1.weights Tryz.prog e, k ≤ reachBytes) ∧ bulk y.1 ≤ bulk x.1 := by
 obtain ⟨s, rows, h1, h2, h3, h4, h6, h5⟩ := open_rowsM ht hsz hpos h hw
 refine ⟨s, rows, h1, h2, h3, ?_, fun r hr => ?_⟩
 ·rcases h6 with h6 | ⟨els, rst, hx, hl⟩
  ·omega
  ·have := bulk_len els
   rw [hx]
   show _ ≤ Rows.uptoBulk (.slice els rst)
   simp only [Rows.uptoBulk]; omega
 ·obtain ⟨a, n, y, b, c, els, rst, hx, hm⟩ := h5 r hr
  refine ⟨a, n, y, b, c, ?_⟩
  have := bulk_part hm
  rw [hx]
  show _ ≤ Rows.uptoBulk (.slice els rst)
  simp only [Rows.uptoBulk]; omega
theorem open_fields {t : TypeId} {fs : Array Field} {L : List (TypeId × Nat)} {cs : List Value} {x : DataW H × List MemPlace} (hu : Tryz.prog.underlying t = some (.struct fs)) (hfs : fs.toList.map (fun f => (f.type, f.offset)) = L)
  (h : DataW.trod enc Tryz.prog W base (fun _ => true) held fuel t cs = some x) (hw : ∀ n ∈ x.1.weights Tryz.prog t, n ≤ reachBytes) :
  ∃ n, ∀ (i : Nat) (t' o : Nat), L[i]? = some (t', o) → ∃ y, DataW.trod enc Tryz.prog W base (fun _ => true) held n t' ((cs.drop o).take (Tryz.prog.cellsOf t')) = some y ∧ (∀ k ∈ y.1.weights Tryz.prog t', k ≤ reachBytes) ∧ bulk y.1 ≤ bulk x.1 := by
 obtain ⟨xs, n, _, rfl, _, hxl, hall⟩ := DataW.trod_struct hu h
 refine ⟨n, fun i t' o hi => ?_⟩
 rw [← hfs, List.getElem?_map] at hi
 obtain ⟨f, hf, he⟩ := Option.map_eq_some_iff.1 hi
 cases he
 have hf' : fs[i]? = some f := by simpa using hf
 have h1 := hall i f hf'
 have hil : i < xs.length := by rw [hxl]; exact (Array.getElem?_eq_some_iff.1 hf').1
 rw [List.getElem?_eq_getElem hil] at h1
 refine ⟨xs[i], h1, fun k hk => hw k ?_, ?_⟩
 ·simp only [DataW.weights, hu]
  exact DataW.weights_mem_each (j := i) (t := f.type) (d := xs[i].1) (by rw [List.getElem?_map, hf]; rfl) (by rw [List.getElem?_map, List.getElem?_eq_getElem hil]; rfl) k hk
 ·have hm : xs[i].1 ∈ xs.map (·.1) := List.mem_map.2 ⟨xs[i], List.getElem_mem hil, rfl⟩
  have := bulk_part hm
  show _ ≤ Rows.uptoBulk (.agg (xs.map (·.1)))
  simp only [Rows.uptoBulk]; omega
theorem open_u8 {cs : List Value} {x : DataW H × List MemPlace} (h : DataW.trod enc Tryz.prog W base (fun _ => true) held fuel 5 cs = some x) : ∃ b : UInt8, cs = [.int .u8 (b.toNat : Int)] := by
 have : ∃ n, cs = [.int .u8 n] ∧ (Lit.int .u8 n).wf = true := by
  cases fuel with
  | zero => simp [DataW.trod] at h
  | succ m =>
   unfold DataW.trod at h
   rw [ub] at h
   split at h <;> simp_all
 obtain ⟨n, rfl, hn⟩ := this
 have hr : 0 ≤ n ∧ n < 256 := by
  have h1 : IntKind.min .u8 = 0 := rfl
  have h2 : IntKind.max .u8 = 255 := rfl
  simp [Lit.wf, h1, h2] at hn
  omega
 refine ⟨UInt8.ofNat n.toNat, ?_⟩
 have : (UInt8.ofNat n.toNat).toNat = n.toNat := by
  rw [UInt8.toNat_ofNat']
  exact Nat.mod_eq_of_lt (by omega)
 rw [this]
 congr 2
 omega
theorem open_ints {cs : List Value} {x : DataW H × List MemPlace} (h : DataW.trod enc Tryz.prog W base (fun _ => true) held fuel 37 cs = some x) (hw : ∀ n ∈ x.1.weights Tryz.prog 37, n ≤ reachBytes) :
  ∃ (s : Sl) (l : List Int), cs = [.slice s.a s.len s.cap] ∧ SlX W s 1 (iv l) ∧ l.length ≤ bulk x.1 ∧ ∀ n ∈ l, In64 n := by
 obtain ⟨s, rows, rfl, hs, hl, hby, hr⟩ := open_rowsB uInts ci (by decide) h hw
 obtain ⟨xs, h1, h2, h3⟩ := rows_of (cs := [.int .i64]) (Q := fun x => (Lit.int .i64 x.1).wf = true) rows (fun r hr' => by
  obtain ⟨_, n, y, hy, _⟩ := hr r hr'
  obtain ⟨k, rfl, hk⟩ := open_i64 ui hy
  exact ⟨(k, ()), rfl, hk⟩)
 refine ⟨s, xs.map (·.1), rfl, ?_, by rw [List.length_map, h2, hl]; exact hby, ?_⟩
 ·rw [h1] at hs
  have e : flat [.int .i64] xs = (xs.map (·.1)).map (Value.int .i64) := by
   simp only [flat, List.map_map, List.flatMap_def]
   clear h1 h2 h3 hs
   induction xs with
   | nil => rfl
   | cons x r ih => simp only [List.map_cons, List.flatten_cons, ih]; rfl
  rw [e] at hs; exact hs
 ·intro n hn
  obtain ⟨x, hx, rfl⟩ := List.mem_map.1 hn
  exact wf64 (h3 x hx)
theorem open_bytes {cs : List Value} {x : DataW H × List MemPlace} (h : DataW.trod enc Tryz.prog W base (fun _ => true) held fuel 22 cs = some x) (hw : ∀ n ∈ x.1.weights Tryz.prog 22, n ≤ reachBytes) :
  ∃ (s : Sl) (l : List UInt8), cs = [.slice s.a s.len s.cap] ∧ SlX W s 1 (bv l) ∧ l.length ≤ 2 ^ 47 := by
 obtain ⟨s, rows, rfl, hs, hl, hby, hr⟩ := open_rows uBytes cby (by decide) h hw
 obtain ⟨xs, ls, h1, h2, h3, h4⟩ := rows_of2 (cs := [.int .u8]) (β := UInt8) (Q := fun x y => x.1 = (y.toNat : Int)) rows (fun r hr' => by
  obtain ⟨_, n, y, hy, _⟩ := hr r hr'
  obtain ⟨b, rfl⟩ := open_u8 hy
  exact ⟨((b.toNat : Int), ()), b, rfl, rfl⟩)
 refine ⟨s, ls, rfl, ?_, ?_⟩
 ·rw [h1] at hs
  have e : flat [.int .u8] xs = bv ls := by
   clear h1 h2 hs
   induction xs generalizing ls with
   | nil =>
    cases ls with
    | nil => rfl
    | cons y r => simp at h3
   | cons x r ih =>
    cases ls with
    | nil => simp at h3
    | cons y q =>
     have h0 := h4 0 x y rfl rfl
     have := ih q (by simpa using h3) fun i x' y' hx hy => h4 (i + 1) x' y' (by simpa using hx) (by simpa using hy)
     simp only [flat, List.flatMap_cons] at this ⊢
     rw [this]
     obtain ⟨n, ⟨⟩⟩ := x
     dsimp only at h0
     subst h0
     rfl
  rw [e] at hs; exact hs
 ·rw [← h3, h2, hl]
  rw [bby] at hby
  unfold reachBytes at hby
  omega
theorem open_bool {cs : List Value} {x : DataW H × List MemPlace} (h : DataW.trod enc Tryz.prog W base (fun _ => true) held fuel 4 cs = some x) : ∃ b, cs = [.bool b] := by
 cases fuel with
 | zero => simp [DataW.trod] at h
 | succ m =>
  unfold DataW.trod at h
  rw [u4] at h
  split at h <;> simp_all
structure EdX (w : World) (s : Sl) (es : List LEd) : Prop where
 ex : ∃ ys : List (Cells.T c103), SlX w s 3 (flat c103 ys) ∧ ys.length = es.length ∧ ∀ (i : Nat) y x, ys[i]? = some y → es[i]? = some x → y.1 = x.f ∧ y.2.1 = x.t ∧ SlX w y.2.2.1 1 (iv x.put) ∧ x.put.length ≤ 1048576
 few : es.length ≤ 1048576
structure EdsX (w : World) (s : Sl) (L : List (List LEd)) : Prop where
 ex : ∃ ys : List Sl, SlX w s 1 (ys.map fun y => .slice y.a y.len y.cap) ∧ ys.length = L.length ∧ ∀ (i : Nat) y es, ys[i]? = some y → L[i]? = some es → EdX w y es
 few : L.length ≤ 1048576
structure LAsk where
 kind : Int
 at_ : Int
 b : Int
 mkd : Int
 count : Int
 arg : Int
 past : Bool
abbrev askT (a : LAsk) : Cells.T c33 := (a.kind, a.at_, a.b, a.mkd, a.count, a.arg, a.past, ())
structure AsksX (w : World) (s : Sl) (L : List LAsk) : Prop where
 row : SlX w s 7 (flat c33 (L.map askT))
 few : L.length ≤ 1048576
 i64 : ∀ a ∈ L, In64 a.kind ∧ In64 a.at_ ∧ In64 a.b ∧ In64 a.mkd ∧ In64 a.count ∧ In64 a.arg
structure LookX (w : World) (y : Cells.T c26) (enc : Int) (l : List UInt8) (L : List (List LEd)) (al : List LAsk) : Prop where
 e : y.1 = enc
 i64 : In64 enc
 bytes : SlX w y.2.1 1 (bv l)
 blen : l.length ≤ 2 ^ 47
 edits : EdsX w y.2.2.1 L
 asks : AsksX w y.2.2.2.1 al
theorem open_edit {cs : List Value} {x : DataW H × List MemPlace} (hl : cs.length = 3) (h : DataW.trod enc Tryz.prog W base (fun _ => true) held fuel 103 cs = some x) (hw : ∀ n ∈ x.1.weights Tryz.prog 103, n ≤ reachBytes) (hb : bulk x.1 ≤ 1048576) :
  ∃ (y : Cells.T c103) (o : LEd), cs = Cells.vals c103 y ∧ (y.1 = o.f ∧ y.2.1 = o.t ∧ SlX W y.2.2.1 1 (iv o.put) ∧ o.put.length ≤ 1048576) := by
 obtain ⟨fs, hu, hfs⟩ := sEdit
 obtain ⟨n, hall⟩ := open_fields hu hfs h hw
 obtain ⟨v0, v1, v2, rfl⟩ : ∃ v0 v1 v2, cs = [v0, v1, v2] := by
  match cs, hl with
  | [v0, v1, v2], _ => exact ⟨v0, v1, v2, rfl⟩
 obtain ⟨y0, h0, _⟩ := hall 0 _ _ rfl
 obtain ⟨y1, h1, _⟩ := hall 1 _ _ rfl
 obtain ⟨y2, h2, hw2, hb2⟩ := hall 2 _ _ rfl
 rw [ci] at h0 h1
 rw [cis] at h2
 obtain ⟨n0, e0, i0⟩ := open_i64 ui h0
 obtain ⟨n1, e1, i1⟩ := open_i64 ui h1
 obtain ⟨s2, l2, e2, g2, k2, _⟩ := open_ints h2 hw2
 simp at e0 e1 e2
 subst e0 e1 e2
 exact ⟨(n0, n1, s2, ()), ⟨n0, n1, l2⟩, rfl, rfl, rfl, g2, by dsimp only; omega⟩
theorem open_edits {cs : List Value} {x : DataW H × List MemPlace} (h : DataW.trod enc Tryz.prog W base (fun _ => true) held fuel 69 cs = some x) (hw : ∀ n ∈ x.1.weights Tryz.prog 69, n ≤ reachBytes) (hb : bulk x.1 ≤ 1048576) :
  ∃ (s : Sl) (es : List LEd), cs = [.slice s.a s.len s.cap] ∧ EdX W s es := by
 obtain ⟨s, rows, rfl, hs, hl, hby, hr⟩ := open_rowsB uEdits ced (by decide) h hw
 obtain ⟨xs, ls, h1, h2, h3, h4⟩ := rows_of2 (cs := c103) (β := LEd) (Q := fun y o => y.1 = o.f ∧ y.2.1 = o.t ∧ SlX W y.2.2.1 1 (iv o.put) ∧ o.put.length ≤ 1048576) rows (fun r hr' => by
  obtain ⟨hrl, n, y, hy, hwy, hby⟩ := hr r hr'
  exact open_edit hrl hy hwy (by omega))
 rw [h1] at hs
 exact ⟨s, ls, rfl, ⟨xs, hs, h3, h4⟩, by omega⟩
theorem open_editss {cs : List Value} {x : DataW H × List MemPlace} (h : DataW.trod enc Tryz.prog W base (fun _ => true) held fuel 23 cs = some x) (hw : ∀ n ∈ x.1.weights Tryz.prog 23, n ≤ reachBytes) (hb : bulk x.1 ≤ 1048576) :
  ∃ (s : Sl) (L : List (List LEd)), cs = [.slice s.a s.len s.cap] ∧ EdsX W s L := by
 obtain ⟨s, rows, rfl, hs, hl, hby, hr⟩ := open_rowsB uEditss ceds (by decide) h hw
 obtain ⟨xs, ls, h1, h2, h3, h4⟩ := rows_of2 (cs := [.sl]) (β := List LEd) (Q := fun y o => EdX W y.1 o) rows (fun r hr' => by
  obtain ⟨hrl, n, y, hy, hwy, hby⟩ := hr r hr'
  obtain ⟨s', es, rfl, he⟩ := open_edits hy hwy (by omega)
  exact ⟨(s', ()), es, rfl, he⟩)
 rw [h1] at hs
 have e : flat [.sl] xs = (xs.map (·.1)).map fun y => .slice y.a y.len y.cap := by
  simp only [flat, List.map_map, List.flatMap_def]
  clear h1 h2 h3 h4 hs
  induction xs with
  | nil => rfl
  | cons x r ih => simp only [List.map_cons, List.flatten_cons, ih]; rfl
 rw [e] at hs
 refine ⟨s, ls, rfl, ⟨xs.map (·.1), hs, by rw [List.length_map]; exact h3, fun i y es hy he => ?_⟩, by omega⟩
 rw [List.getElem?_map] at hy
 obtain ⟨z, hz, rfl⟩ := Option.map_eq_some_iff.1 hy
 exact h4 i z es hz he
theorem open_ask {cs : List Value} {x : DataW H × List MemPlace} (hl : cs.length = 7) (h : DataW.trod enc Tryz.prog W base (fun _ => true) held fuel 33 cs = some x) (hw : ∀ n ∈ x.1.weights Tryz.prog 33, n ≤ reachBytes) :
  ∃ (y : Cells.T c33) (o : LAsk), cs = Cells.vals c33 y ∧ (y = askT o ∧ In64 o.kind ∧ In64 o.at_ ∧ In64 o.b ∧ In64 o.mkd ∧ In64 o.count ∧ In64 o.arg) := by
 obtain ⟨fs, hu, hfs⟩ := sAsk
 obtain ⟨n, hall⟩ := open_fields hu hfs h hw
 obtain ⟨v0, v1, v2, v3, v4, v5, v6, rfl⟩ : ∃ v0 v1 v2 v3 v4 v5 v6, cs = [v0, v1, v2, v3, v4, v5, v6] := by
  match cs, hl with
  | [v0, v1, v2, v3, v4, v5, v6], _ => exact ⟨v0, v1, v2, v3, v4, v5, v6, rfl⟩
 obtain ⟨y0, h0, _⟩ := hall 0 _ _ rfl
 obtain ⟨y1, h1, _⟩ := hall 1 _ _ rfl
 obtain ⟨y2, h2, _⟩ := hall 2 _ _ rfl
 obtain ⟨y3, h3, hw3, _⟩ := hall 3 _ _ rfl
 obtain ⟨y4, h4, _⟩ := hall 4 _ _ rfl
 rw [ci] at h0 h1 h2
 rw [cmv] at h3
 rw [cbo] at h4
 obtain ⟨fs', hu', hfs'⟩ := sMove
 obtain ⟨n', hall'⟩ := open_fields hu' hfs' h3 hw3
 obtain ⟨z0, k0, _⟩ := hall' 0 _ _ rfl
 obtain ⟨z1, k1, _⟩ := hall' 1 _ _ rfl
 obtain ⟨z2, k2, _⟩ := hall' 2 _ _ rfl
 rw [ci] at k0 k1 k2
 obtain ⟨n0, e0, i0⟩ := open_i64 ui h0
 obtain ⟨n1, e1, i1⟩ := open_i64 ui h1
 obtain ⟨n2, e2, i2⟩ := open_i64 ui h2
 obtain ⟨n3, e3, i3⟩ := open_i64 ui k0
 obtain ⟨n4, e4, i4⟩ := open_i64 ui k1
 obtain ⟨n5, e5, i5⟩ := open_i64 ui k2
 obtain ⟨b6, e6⟩ := open_bool h4
 simp at e0 e1 e2 e3 e4 e5 e6
 subst e0 e1 e2 e3 e4 e5 e6
 exact ⟨_, ⟨n0, n1, n2, n3, n4, n5, b6⟩, rfl, rfl, wf64 i0, wf64 i1, wf64 i2, wf64 i3, wf64 i4, wf64 i5⟩
theorem open_asks {cs : List Value} {x : DataW H × List MemPlace} (h : DataW.trod enc Tryz.prog W base (fun _ => true) held fuel 24 cs = some x) (hw : ∀ n ∈ x.1.weights Tryz.prog 24, n ≤ reachBytes) (hb : bulk x.1 ≤ 1048576) :
  ∃ (s : Sl) (L : List LAsk), cs = [.slice s.a s.len s.cap] ∧ AsksX W s L := by
 obtain ⟨s, rows, rfl, hs, hl, hby, hr⟩ := open_rowsB uAsks cask (by decide) h hw
 obtain ⟨xs, ls, h1, h2, h3, h4⟩ := rows_of2 (cs := c33) (β := LAsk) (Q := fun y o => y = askT o ∧ In64 o.kind ∧ In64 o.at_ ∧ In64 o.b ∧ In64 o.mkd ∧ In64 o.count ∧ In64 o.arg) rows (fun r hr' => by
  obtain ⟨hrl, n, y, hy, hwy, hby⟩ := hr r hr'
  exact open_ask hrl hy hwy)
 have e : xs = ls.map askT := by
  refine List.ext_getElem? fun i => ?_
  rw [List.getElem?_map]
  rcases Nat.lt_or_ge i xs.length with u | u
  ·have a1 : xs[i]? = some xs[i] := List.getElem?_eq_getElem u
   have a2 : ls[i]? = some ls[i] := List.getElem?_eq_getElem (by omega)
   rw [a1, a2, (h4 i _ _ a1 a2).1]; rfl
  ·rw [List.getElem?_eq_none u, List.getElem?_eq_none (by omega)]; rfl
 rw [h1, e] at hs
 refine ⟨s, ls, rfl, hs, by omega, fun a ha => ?_⟩
 obtain ⟨i, hi⟩ := List.getElem?_of_mem ha
 have hil := (List.getElem?_eq_some_iff.1 hi).1
 exact (h4 i _ _ (List.getElem?_eq_getElem (by omega)) hi).2
theorem open_look {cs : List Value} {x : DataW H × List MemPlace} (hl : cs.length = 4) (h : DataW.trod enc Tryz.prog W base (fun _ => true) held fuel 26 cs = some x) (hw : ∀ n ∈ x.1.weights Tryz.prog 26, n ≤ reachBytes) (hb : bulk x.1 ≤ 1048576) :
  ∃ (y : Cells.T c26) (c : Int) (l : List UInt8) (L : List (List LEd)) (al : List LAsk), cs = Cells.vals c26 y ∧ LookX W y c l L al := by
 obtain ⟨fs, hu, hfs⟩ := sLook
 obtain ⟨n, hall⟩ := open_fields hu hfs h hw
 obtain ⟨v0, v1, v2, v3, rfl⟩ : ∃ v0 v1 v2 v3, cs = [v0, v1, v2, v3] := by
  match cs, hl with
  | [v0, v1, v2, v3], _ => exact ⟨v0, v1, v2, v3, rfl⟩
 obtain ⟨y0, h0, _⟩ := hall 0 _ _ rfl
 obtain ⟨y1, h1, hw1, hb1⟩ := hall 1 _ _ rfl
 obtain ⟨y2, h2, hw2, hb2⟩ := hall 2 _ _ rfl
 obtain ⟨y3, h3, hw3, hb3⟩ := hall 3 _ _ rfl
 rw [ci] at h0
 rw [cbs] at h1
 rw [cess] at h2
 rw [cas] at h3
 obtain ⟨n0, e0, i0⟩ := open_i64 ui h0
 obtain ⟨s1, l1, e1, g1, k1⟩ := open_bytes h1 hw1
 obtain ⟨s2, L2, e2, g2⟩ := open_editss h2 hw2 (by omega)
 obtain ⟨s3, L3, e3, g3⟩ := open_asks h3 hw3 (by omega)
 simp at e0 e1 e2 e3
 subst e0 e1 e2 e3
 exact ⟨(n0, s1, s2, s3, ()), n0, l1, L2, L3, rfl, ⟨rfl, wf64 i0, g1, k1, g2, g3⟩⟩
end
theorem trodAll_get {H : Type} {enc : TypeId × Value → H} {P : Program} {w : World} {base : Nat} {spare : Nat → Bool} {held : Bool} : ∀ {ts : List TypeId} {vs : List Value} {ds : List (DataW H)} {ps : List MemPlace}, DataW.TrodAll enc P w base spare held ts vs ds ps →
  vs.length = ts.length ∧ ds.length = ts.length ∧ ∀ (j : Nat) t v d, ts[j]? = some t → vs[j]? = some v → ds[j]? = some d → ∃ p, DataW.Trod enc P w base spare held t v d p
 | [], [], [], _, _ => ⟨rfl, rfl, fun j t v d h => by simp at h⟩
 | t :: ts, v :: vs, d :: ds, ps, ⟨p, q, h1, h2, e⟩ => by
  obtain ⟨a, b, c⟩ := trodAll_get h2
  refine ⟨by simp [a], by simp [b], fun j t' v' d' ht hv hd => ?_⟩
  match j with
  | 0 => cases ht; cases hv; cases hd; exact ⟨p, h1⟩
  | j + 1 => exact c j t' v' d' (by simpa using ht) (by simpa using hv) (by simpa using hd)
 | [], _ :: _, _, _, h => h.elim
 | [], [], _ :: _, _, h => h.elim
 | _ :: _, [], _, _, h => h.elim
 | _ :: _, _ :: _, [], _, h => h.elim
theorem list_1 {α : Type} (l : List α) (h : l.length = 1) : ∃ v0, l = [v0] := by
 match l, h with
 | [v0], _ => exact ⟨v0, rfl⟩
theorem weigh {H : Type} {ts : List TypeId} {ds : List (DataW H)} (h : (DataW.weightsEach Tryz.prog ts ds).all (· ≤ reachBytes) = true) (j : Nat) {t : TypeId} {d : DataW H} (ht : ts[j]? = some t) (hd : ds[j]? = some d) : ∀ n ∈ d.weights Tryz.prog t, n ≤ reachBytes := by
 intro n hn
 have := List.all_eq_true.1 h _ (DataW.weights_mem_each ht hd n hn)
 simpa using this
section
variable {H : Type} {enc : TypeId × Value → H} {W : World} {base : Nat}
theorem arg_look {v : Value} {d : DataW H} {p : List MemPlace} (hv : Value.okWide Tryz.prog W .any base 26 v) (h : DataW.Trod enc Tryz.prog W 0 (fun _ => true) true 26 v d p) (hw : ∀ n ∈ d.weights Tryz.prog 26, n ≤ reachBytes) (hb : bulk d ≤ 1048576) :
  ∃ (y : Cells.T c26) (c : Int) (l : List UInt8) (L : List (List LEd)) (al : List LAsk), v = .agg (Cells.vals c26 y).toArray ∧ LookX W y c l L al := by
 obtain ⟨fs, hu, _⟩ := sLook
 obtain ⟨cs, rfl, hsz⟩ := okWide_struct hu hv
 obtain ⟨n, hn⟩ := h
 rw [clook] at hsz
 obtain ⟨y, c, l, L, al, e, h1⟩ := open_look (cs := cs.toList) (by simpa using hsz) (by simpa [Value.cells] using hn) hw hb
 exact ⟨y, c, l, L, al, by rw [← e], h1⟩
end
theorem tsize : 150 ≤ Tryz.prog.types.size := of_decide_eq_true (by kernel_rfl)
theorem recLook : Tryz.prog.readableRec 26 = true := by kernel_rfl
theorem recs {t : TypeId} (h : t = 26) : Tryz.prog.readableRec t = true ∧ t < Tryz.prog.types.size := by
 have := tsize
 subst h
 exact ⟨recLook, Nat.lt_of_lt_of_le (by decide) this⟩
end Go.Proofs.YtolhlldgnfbemaaGreat
namespace Go.Proofs.YtolhlldgnfbemaaGreat
open Go Go.Vx
noncomputable def F9 (a0 : (Int × Sl × Sl × Sl × Unit)) (K : Bool → World → Prop) : World → Prop :=
 newO (.cells #[(.int .i64 a0.1), (.slice a0.2.1.a a0.2.1.len a0.2.1.cap), (.slice a0.2.2.1.a a0.2.2.1.len a0.2.2.1.cap), (.slice a0.2.2.2.1.a a0.2.2.2.1.len a0.2.2.2.1.cap)] 26) fun b1 =>
 lds c26 (at0 b1) fun (x2 : (Int × Sl × Sl × Sl × Unit)) =>
 callT Tryz.prog 11 #[(.agg (Cells.vals c26 x2).toArray)] (.tup [(.one .ptr), (.one .bool)]) fun (x3 : (Option Addr × Bool × Unit)) =>
 join (S := Bool × Unit) (fun J4 =>
 sif (!x3.2.1) (
 J4 (true, ())) (
 J4 ((Option.isNone x3.1), ()))) fun (s5 : Bool × Unit) =>
 sif s5.1 (
 K x3.2.1) (
 join (S := Unit) (fun J6 =>
 sloop (S := Int × Unit) (fun (s8 : Int × Unit) again9 =>
 ld (.sl) (⟨b1, 3, none⟩ : Addr) fun (x10 : Sl) =>
 sif (decide (s8.1 < ((x10.len : Nat) : Int))) (
 ld (.sl) (⟨b1, 3, none⟩ : Addr) fun (x11 : Sl) =>
 ix x11.a x11.len s8.1 fun p12 =>
 lds c33 (p12.add (scaled (Int.toNat s8.1) 7)) fun (x13 : (Int × Int × Int × Int × Int × Int × Bool × Unit)) =>
 newO (.cells #[(.int .i64 (0 : Int)), (.int .i64 (0 : Int)), (.int .i64 (0 : Int)), (.int .i64 (0 : Int)), (.int .i64 (0 : Int)), (.int .i64 (0 : Int)), (.bool false)] 33) fun b14 =>
 aggSt (at0 b14) (.agg (Cells.vals c33 x13).toArray) 7 <|
 join (S := Unit) (fun J15 =>
 sloop (S := Int × Unit) (fun (s17 : Int × Unit) again18 =>
 sif (decide (s17.1 < (3 : Int))) (
 ld (.int .i64) (⟨b14, 1, none⟩ : Addr) fun (x19 : Int) =>
 ld (.int .i64) (⟨b14, 2, none⟩ : Addr) fun (x20 : Int) =>
 callT Tryz.prog 30 #[(.pointer x3.1), (.int .i64 x19), (.int .i64 x20), (.int .i64 s17.1)] (.tup [(.agg c62), (.one (.int .i64))]) fun (x21 : ((Int × Int × Int × Unit) × Int × Unit)) =>
 newO (.cells #[(.int .i64 (0 : Int)), (.int .i64 (0 : Int)), (.int .i64 (0 : Int))] 62) fun b22 =>
 aggSt (at0 b22) (.agg (Cells.vals c62 x21.1).toArray) 3 <|
 ld (.int .i64) (⟨b14, 2, none⟩ : Addr) fun (x23 : Int) =>
 ld (.int .i64) (⟨b14, 1, none⟩ : Addr) fun (x24 : Int) =>
 callT Tryz.prog 30 #[(.pointer x3.1), (.int .i64 x23), (.int .i64 x24), (.int .i64 s17.1)] (.tup [(.agg c62), (.one (.int .i64))]) fun (x25 : ((Int × Int × Int × Unit) × Int × Unit)) =>
 newO (.cells #[(.int .i64 (0 : Int)), (.int .i64 (0 : Int)), (.int .i64 (0 : Int))] 62) fun b26 =>
 aggSt (at0 b26) (.agg (Cells.vals c62 x25.1).toArray) 3 <|
 join (S := Bool × Unit) (fun J27 =>
 sif (x21.2.1 != (0 : Int)) (
 J27 (true, ())) (
 sif (x25.2.1 != (0 : Int)) (
 J27 (true, ())) (
 ld (.int .i64) (at0 b22) fun (x29 : Int) =>
 ld (.int .i64) (at0 b26) fun (x30 : Int) =>
 sif (x29 != x30) (
 J27 (true, ())) (
 ld (.int .i64) (⟨b22, 1, none⟩ : Addr) fun (x31 : Int) =>
 ld (.int .i64) (⟨b26, 1, none⟩ : Addr) fun (x32 : Int) =>
 sif (x31 != x32) (
 J27 (true, ())) (
 ld (.int .i64) (⟨b22, 2, none⟩ : Addr) fun (x33 : Int) =>
 ld (.int .i64) (⟨b26, 2, none⟩ : Addr) fun (x34 : Int) =>
 sif (x33 != x34) (
 J27 (true, ())) (
 lds c62 (at0 b22) fun (x35 : (Int × Int × Int × Unit)) =>
 callT Tryz.prog 31 #[(.pointer x3.1), (.agg (Cells.vals c62 x35).toArray)] (.one (.one .bool)) fun (x36 : Bool) =>
 sif (!x36) (
 J27 (true, ())) (
 ld (.int .i64) (⟨b22, 2, none⟩ : Addr) fun (x37 : Int) =>
 rdB Tryz.prog (do eqGuard .neq 4 (Operand.tmp 102) (Operand.tmp 104) (.bool (x37 == (1 : Int))) (.bool (s17.1 == (2 : Int))); binOp .neq 4 (.bool (x37 == (1 : Int))) (.bool (s17.1 == (2 : Int))) : Sem Value) fun r38 =>
 J27 (r38, ())))))))) fun (s28 : Bool × Unit) =>
 sif s28.1 (
 K false) (
 again18 ((IntKind.wrap .i64 (s17.1 + (1 : Int))), ()))) (
 J15 ())) ((0 : Int), ())) fun (s16 : Unit) =>
 ld (.int .i64) (⟨b14, 1, none⟩ : Addr) fun (x39 : Int) =>
 lds c31 (⟨b14, 3, none⟩ : Addr) fun (x40 : (Int × Int × Int × Unit)) =>
 callT Tryz.prog 32 #[(.pointer x3.1), (.int .i64 x39), (.agg (Cells.vals c31 x40).toArray)] (.tup [(.agg c62), (.one (.int .i64))]) fun (x41 : ((Int × Int × Int × Unit) × Int × Unit)) =>
 newO (.cells #[(.int .i64 (0 : Int)), (.int .i64 (0 : Int)), (.int .i64 (0 : Int))] 62) fun b42 =>
 aggSt (at0 b42) (.agg (Cells.vals c62 x41.1).toArray) 3 <|
 join (S := Bool × Unit) (fun J43 =>
 sif (x41.2.1 == (0 : Int)) (
 lds c62 (at0 b42) fun (x45 : (Int × Int × Int × Unit)) =>
 callT Tryz.prog 31 #[(.pointer x3.1), (.agg (Cells.vals c62 x45).toArray)] (.one (.one .bool)) fun (x46 : Bool) =>
 sif (!x46) (
 J43 (true, ())) (
 sif (x41.2.1 != (0 : Int)) (
 ld (.int .i64) (at0 b42) fun (x47 : Int) =>
 sif (x47 != (0 : Int)) (
 J43 (true, ())) (
 ld (.int .i64) (⟨b42, 1, none⟩ : Addr) fun (x48 : Int) =>
 sif (x48 != (0 : Int)) (
 J43 (true, ())) (
 ld (.int .i64) (⟨b42, 2, none⟩ : Addr) fun (x49 : Int) =>
 J43 ((x49 != (0 : Int)), ())))) (
 J43 (false, ())))) (
 sif (x41.2.1 != (0 : Int)) (
 ld (.int .i64) (at0 b42) fun (x50 : Int) =>
 sif (x50 != (0 : Int)) (
 J43 (true, ())) (
 ld (.int .i64) (⟨b42, 1, none⟩ : Addr) fun (x51 : Int) =>
 sif (x51 != (0 : Int)) (
 J43 (true, ())) (
 ld (.int .i64) (⟨b42, 2, none⟩ : Addr) fun (x52 : Int) =>
 J43 ((x52 != (0 : Int)), ())))) (
 J43 (false, ())))) fun (s44 : Bool × Unit) =>
 sif s44.1 (
 K false) (
 ld (.int .i64) (⟨b14, 1, none⟩ : Addr) fun (x53 : Int) =>
 callT Tryz.prog 12 #[(.pointer x3.1), (.int .i64 x53), (.bool false)] (.one (.one (.int .i64))) fun (x54 : Int) =>
 callT Tryz.prog 13 #[(.pointer x3.1), (.int .i64 x54)] (.tup [(.agg c36), (.one .sl), (.one .bool)]) fun (x55 : ((Int × Int × Int × Int × Unit) × Sl × Bool × Unit)) =>
 newO (.cells #[(.int .i64 (0 : Int)), (.int .i64 (0 : Int)), (.int .i64 (0 : Int)), (.int .i64 (0 : Int))] 36) fun b56 =>
 aggSt (at0 b56) (.agg (Cells.vals c36 x55.1).toArray) 4 <|
 ld (.int .i64) (⟨b14, 1, none⟩ : Addr) fun (x57 : Int) =>
 callT Tryz.prog 32 #[(.pointer x3.1), (.int .i64 x57), (.agg #[(.int .i64 (21 : Int)), (.int .i64 (0 : Int)), (.int .i64 (0 : Int))])] (.tup [(.agg c62), (.one (.int .i64))]) fun (x58 : ((Int × Int × Int × Unit) × Int × Unit)) =>
 aggSt (at0 b42) (.agg (Cells.vals c62 x58.1).toArray) 3 <|
 join (S := Bool × Unit) (fun J59 =>
 sif (!x55.2.2.1) (
 J59 (true, ())) (
 sif (x58.2.1 != (0 : Int)) (
 sif (x58.2.1 != (80 : Int)) (
 J59 (true, ())) (
 sif (x58.2.1 == (0 : Int)) (
 ld (.int .i64) (at0 b42) fun (x61 : Int) =>
 sif (x61 != x54) (
 J59 (true, ())) (
 ld (.int .i64) (⟨b42, 1, none⟩ : Addr) fun (x62 : Int) =>
 ld (.int .i64) (⟨b56, 1, none⟩ : Addr) fun (x63 : Int) =>
 sif (decide (x62 > x63)) (
 J59 (true, ())) (
 ld (.int .i64) (⟨b42, 2, none⟩ : Addr) fun (x64 : Int) =>
 J59 ((x64 != (0 : Int)), ())))) (
 J59 (false, ())))) (
 sif (x58.2.1 == (0 : Int)) (
 ld (.int .i64) (at0 b42) fun (x65 : Int) =>
 sif (x65 != x54) (
 J59 (true, ())) (
 ld (.int .i64) (⟨b42, 1, none⟩ : Addr) fun (x66 : Int) =>
 ld (.int .i64) (⟨b56, 1, none⟩ : Addr) fun (x67 : Int) =>
 sif (decide (x66 > x67)) (
 J59 (true, ())) (
 ld (.int .i64) (⟨b42, 2, none⟩ : Addr) fun (x68 : Int) =>
 J59 ((x68 != (0 : Int)), ())))) (
 J59 (false, ()))))) fun (s60 : Bool × Unit) =>
 sif s60.1 (
 K false) (
 again9 ((IntKind.wrap .i64 (s8.1 + (1 : Int))), ())))) (
 J6 ())) ((0 : Int), ())) fun (s7 : Unit) =>
 K true)
noncomputable def h9 : Hint := (hS (hR 2) (hS (hR 7) (hS (hJ (528482304, [(28, tB)]) (.region [] (.ops 3 (.split 25 (.skips 2 (hO 1)) (hO 3)))) (hC (hS (hR 2) hL) hL)) (hJ (25108406941546723055343157692830665664409421777855064571876, []) (hS (hR 1) (.block (.loop 25108406941546723055343157692830665664409421777855064571876 [(5, tI)] (hS (hS (hR 5) (hC hL hL)) (hS (.block (hS (hR 7) (hJ (162259276829213363387179963780996, []) (hS (hR 1) (.block (.loop 162259276829213363387179963780996 [(7, tI)] (hS (hS (hR 2) (hC hL hL)) (hS (.block (hS (hR 13) (hS (hR 13) (hJ (162259276829139576415283172081664, [(106, tB)]) (.region [] (.ops 3 (.split 68 (.skips 2 (.ops 2 (.skips 5 (.ops 2 (.skips 5 (.ops 2 (.skips 5 (.ops 2 (.skips 4 (.ops 2 (.skips 6 (hO 1)))))))))))) (.ops 4 (.split 72 (.skips 5 (.ops 2 (.skips 5 (.ops 2 (.skips 5 (.ops 2 (.skips 4 (.ops 2 (.skips 6 (hO 1)))))))))) (.ops 7 (.split 79 (.skips 5 (.ops 2 (.skips 5 (.ops 2 (.skips 4 (.ops 2 (.skips 6 (hO 1)))))))) (.ops 7 (.split 86 (.skips 5 (.ops 2 (.skips 4 (.ops 2 (.skips 6 (hO 1)))))) (.ops 7 (.split 93 (.skips 4 (.ops 2 (.skips 6 (hO 1)))) (.ops 6 (.split 99 (.skips 6 (hO 1)) (hO 7)))))))))))))) (hC (hS (hR 1) hL) hL))))) (hR 3)))))) (hS (hR 12) (hS (hJ (11150372516188561834210617079836239485468672, [(142, tB)]) (.region [] (.ops 3 (.split 118 (.ops 6 (.split 124 (.skips 17 (hO 1)) (.ops 3 (.split 127 (.ops 4 (.split 131 (.skips 3 (.ops 2 (.skips 3 (hO 3)))) (.ops 5 (.split 136 (.skips 3 (hO 3)) (hO 6))))) (.skips 13 (hO 2)))))) (.skips 4 (.ops 5 (.split 127 (.ops 4 (.split 131 (.skips 3 (.ops 2 (.skips 3 (hO 3)))) (.ops 5 (.split 136 (.skips 3 (hO 3)) (hO 6))))) (.skips 13 (hO 2)))))))) (hC (hS (hR 1) hL) hL)) (hS (hR 5) (hS (hR 11) (hS (hR 10) (hJ (25108406935700716506019546020015926333544289699232407879680, [(193, tB)]) (.region [] (.ops 3 (.split 164 (.skips 6 (.ops 2 (.skips 20 (hO 1)))) (.ops 3 (.split 167 (.ops 5 (.split 172 (.skips 20 (hO 1)) (.ops 3 (.split 175 (.ops 5 (.split 180 (.skips 5 (.ops 2 (.skips 3 (hO 3)))) (.ops 7 (.split 187 (.skips 3 (hO 3)) (hO 6))))) (.skips 16 (hO 2)))))) (.skips 2 (.ops 6 (.split 175 (.ops 5 (.split 180 (.skips 5 (.ops 2 (.skips 3 (hO 3)))) (.ops 7 (.split 187 (.skips 3 (hO 3)) (hO 6))))) (.skips 16 (hO 2)))))))))) (hC (hS (hR 1) hL) hL)))))))))) (hR 3)))))) (hS (hR 1) hL)))))
theorem F9_calls {a0 : (Int × Sl × Sl × Sl × Unit)} {K : Bool → World → Prop} {w : World} (h : F9 a0 K w) : callT Tryz.prog 9 #[(.agg (Cells.vals c26 a0).toArray)] (.one (.one .bool)) K w := tied tabOk Tryz.func9 h9 [(.agg (Cells.vals c26 a0).toArray)] h
noncomputable def F11 (a0 : (Int × Sl × Sl × Sl × Unit)) (K : (Option Addr × Bool × Unit) → World → Prop) : World → Prop :=
 newO (.cells #[(.int .i64 a0.1), (.slice a0.2.1.a a0.2.1.len a0.2.1.cap), (.slice a0.2.2.1.a a0.2.2.1.len a0.2.2.1.cap), (.slice a0.2.2.2.1.a a0.2.2.2.1.len a0.2.2.2.1.cap)] 26) fun b1 =>
 callT Tryz.prog 33 #[] (.one (.one .bool)) fun (x2 : Bool) =>
 sif (!x2) (
 K (none, false, ())) (
 join (S := Bool × Unit) (fun J3 =>
 ld (.int .i64) (at0 b1) fun (x5 : Int) =>
 sif (decide (x5 < (1 : Int))) (
 J3 (true, ())) (
 ld (.int .i64) (at0 b1) fun (x6 : Int) =>
 sif (decide (x6 > (4 : Int))) (
 J3 (true, ())) (
 ld (.sl) (⟨b1, 1, none⟩ : Addr) fun (x7 : Sl) =>
 J3 ((decide (((x7.len : Nat) : Int) > (65536 : Int))), ())))) fun (s4 : Bool × Unit) =>
 sif s4.1 (
 K (none, true, ())) (
 drew <|
 ld (.int .i64) (at0 b1) fun (x8 : Int) =>
 ld (.sl) (⟨b1, 1, none⟩ : Addr) fun (x9 : Sl) =>
 rawT Tryz.prog (.one (.one .sl)) (Builtin.append_ #[22, 22] 22 #[(.slice none 0 0), (.slice x9.a x9.len x9.cap)]) fun (x10 : Sl) =>
 keep (fun w => w.cell? (at0 b1) = some (Cell.val (.int .i64) x8)) <|
 callT Tryz.prog 23 #[(.int .i64 x8), (.slice x10.a x10.len x10.cap), (.int .i64 (65536 : Int))] (.tup [(.one .ptr), (.one (.int .i64))]) fun (x11 : (Option Addr × Int × Unit)) =>
 join (S := Bool × Unit) (fun J12 =>
 sif (Option.isNone x11.1) (
 J12 (true, ())) (
 J12 ((x11.2.1 != (0 : Int)), ()))) fun (s13 : Bool × Unit) =>
 sif s13.1 (
 K (none, false, ())) (
 join (S := Unit) (fun J14 =>
 sloop (S := Int × Unit) (fun (s16 : Int × Unit) again17 =>
 ld (.sl) (⟨b1, 2, none⟩ : Addr) fun (x18 : Sl) =>
 sif (decide (s16.1 < ((x18.len : Nat) : Int))) (
 ld (.sl) (⟨b1, 2, none⟩ : Addr) fun (x19 : Sl) =>
 ix x19.a x19.len s16.1 fun p20 =>
 ld (.sl) (p20.add (scaled (Int.toNat s16.1) 1)) fun (x21 : Sl) =>
 callT Tryz.prog 35 #[(.slice x21.a x21.len x21.cap)] (.one (.one .sl)) fun (x22 : Sl) =>
 callT Tryz.prog 34 #[(.pointer x11.1), (.slice x22.a x22.len x22.cap)] (.one (.one (.int .i64))) fun (x23 : Int) =>
 again17 ((IntKind.wrap .i64 (s16.1 + (1 : Int))), ())) (
 J14 ())) ((0 : Int), ())) fun (s15 : Unit) =>
 K (x11.1, true, ()))))
noncomputable def h11 : Hint := (hS (hR 3) (hS (hS (hR 2) (hC (hS (hR 2) hL) hL)) (hS (hJ (8388096, [(22, tB)]) (.region [] (.ops 4 (.split 12 (.skips 3 (.ops 2 (.skips 4 (hO 1)))) (.ops 5 (.split 17 (.skips 4 (hO 1)) (hO 5)))))) (hC (hS (hR 2) hL) hL)) (hS (.region [0, 1, 2, 3, 4, 5, 6, 7, 8, 9, 10] (hO 11)) (hS (hJ (270582939648, [(37, tB)]) (.region [] (.ops 3 (.split 34 (.skips 2 (hO 1)) (hO 3)))) (hC (hS (hR 2) hL) hL)) (hJ (9006924376834112, []) (hS (hR 1) (.block (.loop 9006924376834112 [(6, tI)] (hS (hS (hR 5) (hC hL hL)) (hS (.block (hR 8)) (hR 3)))))) (hS (hR 3) hL)))))))
theorem F11_calls {a0 : (Int × Sl × Sl × Sl × Unit)} {K : (Option Addr × Bool × Unit) → World → Prop} {w : World} (h : F11 a0 K w) : callT Tryz.prog 11 #[(.agg (Cells.vals c26 a0).toArray)] (.tup [(.one .ptr), (.one .bool)]) K w := tied tabOk Tryz.func11 h11 [(.agg (Cells.vals c26 a0).toArray)] h
noncomputable def F13 (a0 : Option Addr) (a1 : Int) (K : ((Int × Int × Int × Int × Unit) × Sl × Bool × Unit) → World → Prop) : World → Prop :=
 newO (.cells #[(.int .i64 (0 : Int)), (.int .i64 (0 : Int)), (.int .i64 (0 : Int)), (.int .i64 (0 : Int))] 36) fun b1 =>
 callT Tryz.prog 20 #[(.pointer a0), (.int .i64 a1)] (.one (.one (.int .i64))) fun (x2 : Int) =>
 callT Tryz.prog 41 #[(.pointer a0), (.int .i64 x2)] (.tup [(.agg c36), (.one (.int .i64))]) fun (x3 : ((Int × Int × Int × Int × Unit) × Int × Unit)) =>
 newO (.cells #[(.int .i64 (0 : Int)), (.int .i64 (0 : Int)), (.int .i64 (0 : Int)), (.int .i64 (0 : Int))] 36) fun b4 =>
 aggSt (at0 b4) (.agg (Cells.vals c36 x3.1).toArray) 4 <|
 join (S := Bool × Unit) (fun J5 =>
 drew <|
 sif (x3.2.1 != (0 : Int)) (
 J5 (true, ())) (
 ld (.int .i64) (at0 b4) fun (x7 : Int) =>
 sif (decide (x7 < (0 : Int))) (
 J5 (true, ())) (
 ld (.int .i64) (⟨b4, 1, none⟩ : Addr) fun (x8 : Int) =>
 ld (.int .i64) (at0 b4) fun (x9 : Int) =>
 sif (decide (x8 < x9)) (
 J5 (true, ())) (
 ld (.int .i64) (⟨b4, 2, none⟩ : Addr) fun (x10 : Int) =>
 ld (.int .i64) (⟨b4, 1, none⟩ : Addr) fun (x11 : Int) =>
 sif (decide (x10 < x11)) (
 J5 (true, ())) (
 ld (.int .i64) (⟨b4, 2, none⟩ : Addr) fun (x12 : Int) =>
 callT Tryz.prog 37 #[(.pointer a0)] (.one (.one (.int .i64))) fun (x13 : Int) =>
 keep (fun w => w.cell? (⟨b4, 2, none⟩ : Addr) = some (Cell.val (.int .i64) x12)) <|
 J5 ((decide (x12 > x13)), ())))))) fun (s6 : Bool × Unit) =>
 sif s6.1 (
 lds c36 (at0 b4) fun (x14 : (Int × Int × Int × Int × Unit)) =>
 aggSt (at0 b1) (.agg (Cells.vals c36 x14).toArray) 4 <|
 lds c36 (at0 b1) fun (x15 : (Int × Int × Int × Int × Unit)) =>
 K (x15, ⟨none, 0, 0⟩, false, ())) (
 ld (.int .i64) (at0 b4) fun (x16 : Int) =>
 ld (.int .i64) (⟨b4, 1, none⟩ : Addr) fun (x17 : Int) =>
 callT Tryz.prog 25 #[(.pointer a0), (.int .i64 x16), (.int .i64 x17)] (.one (.one .sl)) fun (x18 : Sl) =>
 drew <|
 lds c36 (at0 b4) fun (x19 : (Int × Int × Int × Int × Unit)) =>
 ld (.int .i64) (⟨b4, 1, none⟩ : Addr) fun (x20 : Int) =>
 ld (.int .i64) (at0 b4) fun (x21 : Int) =>
 aggSt (at0 b1) (.agg (Cells.vals c36 x19).toArray) 4 <|
 keep (fun w => w.cell? (at0 b4) = some (Cell.val (.int .i64) x21)) <|
 keep (fun w => w.cell? (⟨b4, 1, none⟩ : Addr) = some (Cell.val (.int .i64) x20)) <|
 lds c36 (at0 b1) fun (x22 : (Int × Int × Int × Int × Unit)) =>
 K (x22, x18, (((x18.len : Nat) : Int) == (IntKind.wrap .i64 (x20 - x21))), ()))
noncomputable def h13 : Hint := (hS (hR 3) (hS (hR 11) (hS (hJ (70368743915520, [(45, tB)]) (.region [0, 1, 2, 3, 4, 5, 6, 7, 8, 9, 10, 11, 12, 13, 14, 15, 16, 17, 18, 19, 20, 21, 22, 23, 24, 25, 26, 27] (.ops 3 (.split 20 (.skips 3 (.ops 2 (.skips 5 (.ops 2 (.skips 5 (.ops 2 (.skips 5 (hO 1)))))))) (.ops 5 (.split 25 (.skips 5 (.ops 2 (.skips 5 (.ops 2 (.skips 5 (hO 1)))))) (.ops 7 (.split 32 (.skips 5 (.ops 2 (.skips 5 (hO 1)))) (.ops 7 (.split 39 (.skips 5 (hO 1)) (hO 6)))))))))) (hC (hS (hR 4) hL) hL)) (hS (hR 7) (hS (.region [0, 1, 2, 3, 4, 5, 6, 7, 8, 9, 10, 11, 12] (hO 13)) hL)))))
theorem F13_calls {a0 : Option Addr} {a1 : Int} {K : ((Int × Int × Int × Int × Unit) × Sl × Bool × Unit) → World → Prop} {w : World} (h : F13 a0 a1 K w) : callT Tryz.prog 13 #[(.pointer a0), (.int .i64 a1)] (.tup [(.agg c36), (.one .sl), (.one .bool)]) K w := tied tabOk Tryz.func13 h13 [(.pointer a0), (.int .i64 a1)] h
noncomputable def F28 (a0 : Option Addr) (a1 : Int) (a2 : Bool) (K : Bool → World → Prop) : World → Prop :=
 join (S := Bool × Unit) (fun J1 =>
 sif (decide (a1 < (0 : Int))) (
 J1 (true, ())) (
 callT Tryz.prog 37 #[(.pointer a0)] (.one (.one (.int .i64))) fun (x3 : Int) =>
 J1 ((decide (a1 > x3)), ()))) fun (s2 : Bool × Unit) =>
 sif s2.1 (
 K false) (
 callT Tryz.prog 13 #[(.pointer a0), (.int .i64 a1)] (.tup [(.agg c36), (.one .sl), (.one .bool)]) fun (x4 : ((Int × Int × Int × Int × Unit) × Sl × Bool × Unit)) =>
 newO (.cells #[(.int .i64 (0 : Int)), (.int .i64 (0 : Int)), (.int .i64 (0 : Int)), (.int .i64 (0 : Int))] 36) fun b5 =>
 aggSt (at0 b5) (.agg (Cells.vals c36 x4.1).toArray) 4 <|
 join (S := Bool × Unit) (fun J6 =>
 sif (!x4.2.2.1) (
 J6 (true, ())) (
 ld (.int .i64) (at0 b5) fun (x8 : Int) =>
 sif (decide (a1 < x8)) (
 J6 (true, ())) (
 ld (.int .i64) (⟨b5, 1, none⟩ : Addr) fun (x9 : Int) =>
 sif (decide (a1 > x9)) (
 J6 (true, ())) (
 ld (.int .i64) (at0 b5) fun (x10 : Int) =>
 callT Tryz.prog 60 #[(.slice x4.2.1.a x4.2.1.len x4.2.1.cap), (.int .i64 (IntKind.wrap .i64 (a1 - x10)))] (.one (.one .bool)) fun (x11 : Bool) =>
 J6 ((!x11), ()))))) fun (s7 : Bool × Unit) =>
 sif s7.1 (
 K false) (
 sif a2 (
 K true) (
 ld (.int .i64) (⟨b5, 1, none⟩ : Addr) fun (x12 : Int) =>
 sif (decide (a1 < x12)) (
 callT Tryz.prog 20 #[(.pointer a0), (.int .i64 a1)] (.one (.one (.int .i64))) fun (x13 : Int) =>
 callT Tryz.prog 19 #[(.pointer a0)] (.one (.one (.int .i64))) fun (x14 : Int) =>
 K (decide (x13 < x14))) (
 ld (.int .i64) (at0 b5) fun (x15 : Int) =>
 ld (.int .i64) (⟨b5, 1, none⟩ : Addr) fun (x16 : Int) =>
 sif (x15 == x16) (
 callT Tryz.prog 20 #[(.pointer a0), (.int .i64 a1)] (.one (.one (.int .i64))) fun (x17 : Int) =>
 callT Tryz.prog 19 #[(.pointer a0)] (.one (.one (.int .i64))) fun (x18 : Int) =>
 K (decide (x17 < x18))) (
 K false)))))
noncomputable def h28 : Hint := (hS (hR 1) (hS (hJ (261120, [(17, tB)]) (.region [] (.ops 3 (.split 12 (.skips 4 (hO 1)) (hO 5)))) (hC (hS (hR 1) hL) hL)) (hS (hR 11) (hS (hJ (281474943156224, [(47, tB)]) (.region [] (.ops 3 (.split 27 (.skips 4 (.ops 2 (.skips 4 (.ops 2 (.skips 7 (hO 1)))))) (.ops 6 (.split 33 (.skips 4 (.ops 2 (.skips 7 (hO 1)))) (.ops 6 (.split 39 (.skips 7 (hO 1)) (hO 8)))))))) (hC (hS (hR 1) hL) hL)) (hS (.region [] (.ops 2 (.split 49 (.skips 19 (hO 2)) (.ops 5 (.split 54 (.skips 5 (hO 11)) (.ops 7 (.split 61 (hO 9) (.skips 6 (hO 3))))))))) hL)))))
theorem F28_calls {a0 : Option Addr} {a1 : Int} {a2 : Bool} {K : Bool → World → Prop} {w : World} (h : F28 a0 a1 a2 K w) : callT Tryz.prog 28 #[(.pointer a0), (.int .i64 a1), (.bool a2)] (.one (.one .bool)) K w := tied tabOk Tryz.func28 h28 [(.pointer a0), (.int .i64 a1), (.bool a2)] h
noncomputable def F31 (a0 : Option Addr) (a1 : (Int × Int × Int × Unit)) (K : Bool → World → Prop) : World → Prop :=
 newO (.cells #[(.int .i64 a1.1), (.int .i64 a1.2.1), (.int .i64 a1.2.2.1)] 62) fun b1 =>
 join (S := Bool × Unit) (fun J2 =>
 drew <|
 ld (.int .i64) (at0 b1) fun (x4 : Int) =>
 sif (decide (x4 < (0 : Int))) (
 J2 (true, ())) (
 ld (.int .i64) (⟨b1, 1, none⟩ : Addr) fun (x5 : Int) =>
 ld (.int .i64) (at0 b1) fun (x6 : Int) =>
 sif (decide (x5 < x6)) (
 J2 (true, ())) (
 ld (.int .i64) (⟨b1, 1, none⟩ : Addr) fun (x7 : Int) =>
 callT Tryz.prog 37 #[(.pointer a0)] (.one (.one (.int .i64))) fun (x8 : Int) =>
 keep (fun w => w.cell? (⟨b1, 1, none⟩ : Addr) = some (Cell.val (.int .i64) x7)) <|
 J2 ((decide (x7 > x8)), ())))) fun (s3 : Bool × Unit) =>
 sif s3.1 (
 K false) (
 ld (.int .i64) (⟨b1, 2, none⟩ : Addr) fun (x9 : Int) =>
 sif (x9 == (0 : Int)) (
 ld (.int .i64) (at0 b1) fun (x10 : Int) =>
 callT Tryz.prog 28 #[(.pointer a0), (.int .i64 x10), (.bool true)] (.one (.one .bool)) fun (x11 : Bool) =>
 sif x11 (
 ld (.int .i64) (⟨b1, 1, none⟩ : Addr) fun (x12 : Int) =>
 callT Tryz.prog 28 #[(.pointer a0), (.int .i64 x12), (.bool true)] (.one (.one .bool)) fun (x13 : Bool) =>
 K x13) (
 K false)) (
 ld (.int .i64) (at0 b1) fun (x14 : Int) =>
 callT Tryz.prog 13 #[(.pointer a0), (.int .i64 x14)] (.tup [(.agg c36), (.one .sl), (.one .bool)]) fun (x15 : ((Int × Int × Int × Int × Unit) × Sl × Bool × Unit)) =>
 newO (.cells #[(.int .i64 (0 : Int)), (.int .i64 (0 : Int)), (.int .i64 (0 : Int)), (.int .i64 (0 : Int))] 36) fun b16 =>
 aggSt (at0 b16) (.agg (Cells.vals c36 x15.1).toArray) 4 <|
 join (S := Bool × Unit) (fun J17 =>
 sif (!x15.2.2.1) (
 J17 (true, ())) (
 ld (.int .i64) (at0 b16) fun (x19 : Int) =>
 ld (.int .i64) (at0 b1) fun (x20 : Int) =>
 J17 ((x19 != x20), ()))) fun (s18 : Bool × Unit) =>
 sif s18.1 (
 K false) (
 drew <|
 ld (.int .i64) (⟨b1, 1, none⟩ : Addr) fun (x21 : Int) =>
 callT Tryz.prog 37 #[(.pointer a0)] (.one (.one (.int .i64))) fun (x22 : Int) =>
 keep (fun w => w.cell? (⟨b1, 1, none⟩ : Addr) = some (Cell.val (.int .i64) x21)) <|
 sif (x21 == x22) (
 K true) (
 ld (.int .i64) (⟨b1, 1, none⟩ : Addr) fun (x23 : Int) =>
 callT Tryz.prog 13 #[(.pointer a0), (.int .i64 x23)] (.tup [(.agg c36), (.one .sl), (.one .bool)]) fun (x24 : ((Int × Int × Int × Int × Unit) × Sl × Bool × Unit)) =>
 aggSt (at0 b16) (.agg (Cells.vals c36 x24.1).toArray) 4 <|
 sif x24.2.2.1 (
 ld (.int .i64) (at0 b16) fun (x25 : Int) =>
 ld (.int .i64) (⟨b1, 1, none⟩ : Addr) fun (x26 : Int) =>
 K (x25 == x26)) (
 K false)))))
noncomputable def h31 : Hint := (hS (hR 2) (hS (hJ (33554176, [(24, tB)]) (.region [0, 1, 2, 3, 4, 5, 6, 7, 8, 9, 10, 11, 12, 13, 14, 15, 16] (.ops 4 (.split 11 (.skips 5 (.ops 2 (.skips 5 (hO 1)))) (.ops 7 (.split 18 (.skips 5 (hO 1)) (hO 6)))))) (hC (hS (hR 1) hL) hL)) (hS (hS (hR 3) (hC (hS (.region [] (.ops 5 (.split 32 (hO 6) (.skips 4 (hO 2))))) hL) hL)) (hS (hR 12) (hS (hJ (35958428274786304, [(54, tB)]) (.region [] (.ops 3 (.split 48 (.skips 5 (hO 1)) (hO 6)))) (hC (hS (hR 1) hL) hL)) (hS (hS (.region [0, 1, 2, 3, 4] (hO 5)) (hC (hS (hR 1) hL) hL)) (hS (hR 10) (hS (.region [] (.ops 2 (.split 69 (hO 7) (.skips 5 (hO 2))))) hL))))))))
theorem F31_calls {a0 : Option Addr} {a1 : (Int × Int × Int × Unit)} {K : Bool → World → Prop} {w : World} (h : F31 a0 a1 K w) : callT Tryz.prog 31 #[(.pointer a0), (.agg (Cells.vals c62 a1).toArray)] (.one (.one .bool)) K w := tied tabOk Tryz.func31 h31 [(.pointer a0), (.agg (Cells.vals c62 a1).toArray)] h
noncomputable def F33  (K : Bool → World → Prop) : World → Prop :=
 newO (.cells #[(.int .u8 (97 : Int)), (.int .u8 (98 : Int)), (.int .u8 (99 : Int))] 5) fun b1 =>
 callT Tryz.prog 23 #[(.int .i64 (1 : Int)), (.slice (some (at0 b1)) 3 3), (.int .i64 (9 : Int))] (.tup [(.one .ptr), (.one (.int .i64))]) fun (x2 : (Option Addr × Int × Unit)) =>
 join (S := Bool × Unit) (fun J3 =>
 sif (Option.isNone x2.1) (
 J3 (true, ())) (
 J3 ((x2.2.1 != (0 : Int)), ()))) fun (s4 : Bool × Unit) =>
 sif s4.1 (
 K false) (
 callT Tryz.prog 16 #[(.pointer x2.1), (.int .i64 (0 : Int)), (.agg #[(.int .i64 (2 : Int)), (.int .i64 (0 : Int)), (.int .i64 (0 : Int))]), (.bool false)] (.tup [(.agg c43), (.one (.int .i64))]) fun (x5 : ((Int × Int × Int × Unit) × Int × Unit)) =>
 newO (.cells #[(.int .i64 (0 : Int)), (.int .i64 (0 : Int)), (.int .i64 (0 : Int))] 43) fun b6 =>
 aggSt (at0 b6) (.agg (Cells.vals c43 x5.1).toArray) 3 <|
 sif (x5.2.1 == (0 : Int)) (
 ld (.int .i64) (at0 b6) fun (x7 : Int) =>
 K (x7 == (1 : Int))) (
 K false))
noncomputable def h33 : Hint := (hS (hR 1) (hS (hR 7) (hS (hJ (64512, [(15, tB)]) (.region [] (.ops 3 (.split 12 (.skips 2 (hO 1)) (hO 3)))) (hC (hS (hR 1) hL) hL)) (hS (hR 9) (hS (.region [] (.ops 3 (.split 24 (hO 5) (.skips 3 (hO 2))))) hL)))))
theorem F33_calls {K : Bool → World → Prop} {w : World} (h : F33  K w) : callT Tryz.prog 33 #[] (.one (.one .bool)) K w := tied tabOk Tryz.func33 h33 [] h
noncomputable def F35 (a0 : Sl) (K : Sl → World → Prop) : World → Prop :=
 join (S := Sl × Unit) (fun J1 =>
 sloop (S := Sl × Int × Unit) (fun (s3 : Sl × Int × Unit) again4 =>
 sif (decide (s3.2.1 < ((a0.len : Nat) : Int))) (
 drew <|
 ix a0.a a0.len s3.2.1 fun p5 =>
 ld (.int .i64) (p5.add (scaled (Int.toNat s3.2.1) 3)) fun (x6 : Int) =>
 ix a0.a a0.len s3.2.1 fun p7 =>
 ld (.int .i64) ((p7.add (scaled (Int.toNat s3.2.1) 3)).add 1) fun (x8 : Int) =>
 ix a0.a a0.len s3.2.1 fun p9 =>
 ld (.sl) ((p9.add (scaled (Int.toNat s3.2.1) 3)).add 2) fun (x10 : Sl) =>
 rawT Tryz.prog (.one (.one .sl)) (Builtin.append_ #[37, 37] 37 #[(.slice none 0 0), (.slice x10.a x10.len x10.cap)]) fun (x11 : Sl) =>
 keep (fun w => w.cell? ((p7.add (scaled (Int.toNat s3.2.1) 3)).add 1) = some (Cell.val (.int .i64) x8)) <|
 keep (fun w => w.cell? (p5.add (scaled (Int.toNat s3.2.1) 3)) = some (Cell.val (.int .i64) x6)) <|
 newO (.cells #[(.int .i64 x6), (.int .i64 x8), (.slice x11.a x11.len x11.cap)] 103) fun b12 =>
 rawT Tryz.prog (.one (.one .sl)) (Builtin.append_ #[69, 69] 69 #[(.slice s3.1.a s3.1.len s3.1.cap), (.slice (some (at0 b12)) 1 1)]) fun (x13 : Sl) =>
 again4 (x13, (IntKind.wrap .i64 (s3.2.1 + (1 : Int))), ())) (
 J1 (s3.1, ()))) (⟨none, 0, 0⟩, (0 : Int), ())) fun (s2 : Sl × Unit) =>
 K s2.1
noncomputable def h35 : Hint := (hS (hR 1) (hS (hR 1) (hJ (2147483640, [(3, tS)]) (hS (hR 1) (.block (.loop 2147483640 [(3, tS), (4, tI)] (hS (hS (hR 4) (hC hL hL)) (hS (.block (.region [0, 1, 2, 3, 4, 5, 6, 7, 8, 9, 10, 11, 12, 13, 14, 15, 16, 17, 18, 19, 20] (hO 21))) (hR 3)))))) (hS (hR 2) hL))))
theorem F35_calls {a0 : Sl} {K : Sl → World → Prop} {w : World} (h : F35 a0 K w) : callT Tryz.prog 35 #[(.slice a0.a a0.len a0.cap)] (.one (.one .sl)) K w := tied tabOk Tryz.func35 h35 [(.slice a0.a a0.len a0.cap)] h
end Go.Proofs.YtolhlldgnfbemaaGreat
namespace Go.Proofs.YtolhlldgnfbemaaGreat
open Go Go.Vx Cdc Trx Gly Clu Lns Obx Mot
theorem eEdits : ElemOk Tryz.prog 69 103 3 40 := ElemOk.of (z := .agg #[.int .i64 0, .int .i64 0, .slice none 0 0]) i69_ok i103_ok rfl rfl rfl (by decide)
section
variable {w w' : World}
theorem able_call {K : Bool → World → Prop} (hK : ∀ w', Ext w w' → K true w') : callT Tryz.prog 33 #[] (.one (.one .bool)) K w := by
 refine F33_calls ?_
 unfold F33
 refine (St.start w).newO fun b1 w1 S1 e1 => ?_
 have hB : By w1 ⟨some (at0 b1), 3, 3⟩ [97, 98, 99] := SlIn.of_box (S1.at_ 0 rfl) (n := 3) (sz := 1) rfl
 refine open_call (e := .u8) (lim := 9) hB (by decide) (by decide) fun p O M w2 tx hA _ e2 _ => ?_
 have hA : atoms (aOf .u8 M) = [97, 98, 99] := by rw [hA]; kernel_rfl
 have ta : TxA w2 p [97, 98, 99] := ⟨_, _, _, _, _, tx, hA⟩
 refine join_r (fun x W => x = (false, ()) ∧ w2 = W) (sif_false ⟨rfl, rfl⟩) ?_
 rintro _ _ ⟨rfl, rfl⟩
 refine sif_false (mchars_call (kind := 2) (count := 0) (arg := 0) (x := 0) ta fun w3 e3 => ?_)
 rw [able_is]
 refine ((S1.ext e2).ext e3).newO fun b6 w4 S4 e4 => S4.aggSt 0 rfl rfl rfl rfl fun w5 S5 _ => ?_
 exact sif_true (S5.ld (off := 0) 0 rfl (x := 1) rfl (hK w5 S5.upd))
theorem ix_fX {c : Cell} {cs : List Cell} {s : Sl} {xs : List (Cells.T cs)} {n : Int} {j : Nat} {K : Addr → c.T → World → Prop} (h : SlX w s cs.length (flat cs xs)) (h0 : 0 ≤ n) {x : Cells.T cs} {y : c.T} (hx : xs[n.toNat]? = some x) (hy : (Cells.vals cs x)[j]? = some (c.val y))
  (hK : ∀ p, (∀ w', Ext w w' → w'.cell? ((p.add (scaled (Int.toNat n) cs.length)).add j) = some (c.val y)) → K p y w) :
  ix s.a s.len n (fun p => ld c ((p.add (scaled (Int.toNat n) cs.length)).add j) (K p)) w := by
 have hlt := (List.getElem?_eq_some_iff.1 hx).1
 have hjl : j < cs.length := by
  have := (List.getElem?_eq_some_iff.1 hy).1
  rwa [vals_len] at this
 have hl := h.lenR (by omega)
 obtain ⟨t, h⟩ := h.in_of (by omega)
 refine h.ix h0 (by omega) (by omega) fun b off ha hv => ?_
 have hc : w.cell? (((⟨b, off, none⟩ : Addr).add (scaled (Int.toNat n) cs.length)).add j) = some (c.val y) := by
  rw [addr_add, addr_add]
  have := hv j (c.val y) (by rw [flat_get cs xs _ j x hx hjl]; exact hy)
  simpa [scaled_eq] using this
 exact ld_of (x := y) hc (hK _ fun w' x' => cell_ext hc x')
theorem ix_fX0 {c : Cell} {cs : List Cell} {s : Sl} {xs : List (Cells.T cs)} {n : Int} {K : Addr → c.T → World → Prop} (h : SlX w s cs.length (flat cs xs)) (h0 : 0 ≤ n) {x : Cells.T cs} {y : c.T} (hx : xs[n.toNat]? = some x) (hy : (Cells.vals cs x)[0]? = some (c.val y))
  (hK : ∀ p, (∀ w', Ext w w' → w'.cell? (p.add (scaled (Int.toNat n) cs.length)) = some (c.val y)) → K p y w) :
  ix s.a s.len n (fun p => ld c (p.add (scaled (Int.toNat n) cs.length)) (K p)) w := by
 have hlt := (List.getElem?_eq_some_iff.1 hx).1
 have hjl : 0 < cs.length := by
  have := (List.getElem?_eq_some_iff.1 hy).1
  rwa [vals_len] at this
 have hl := h.lenR (by omega)
 obtain ⟨t, h⟩ := h.in_of (by omega)
 refine h.ix h0 (by omega) (by omega) fun b off ha hv => ?_
 have hc : w.cell? ((⟨b, off, none⟩ : Addr).add (scaled (Int.toNat n) cs.length)) = some (c.val y) := by
  rw [addr_add]
  have := hv 0 (c.val y) (by rw [flat_get cs xs _ 0 x hx hjl]; exact hy)
  simpa [scaled_eq] using this
 exact ld_of (x := y) hc (hK _ fun w' x' => cell_ext hc x')
set_option maxHeartbeats 400000 in
theorem own_call {s : Sl} {es : List LEd} (h : EdX w s es) {K : Sl → World → Prop} (hK : ∀ r ys w', EdIn w' r 103 ys es → (∀ k, r.blk k → w.heap.size ≤ k) → (∀ (i : Nat) y, ys[i]? = some y → ∀ k, y.2.2.1.blk k → w.heap.size ≤ k) → Ext w w' → K r w') :
  callT Tryz.prog 35 #[.slice s.a s.len s.cap] (.one (.one .sl)) K w := by
 refine F35_calls ?_
 unfold F35
 obtain ⟨ys0, hs, hyl, hy0⟩ := h.ex
 have few := h.few
 have hsl : ys0.length = s.len := SlX.lenR (cs := c103) hs (by decide)
 refine join_r (fun x W => ∃ ys, SlOwn W w.heap.size x.1 103 3 (flat c103 ys) ∧ ys.length = es.length ∧ (∀ (i : Nat) y z, ys[i]? = some y → es[i]? = some z → y.1 = z.f ∧ y.2.1 = z.t ∧ SlOwn W w.heap.size y.2.2.1 3 1 (iv z.put) ∧ z.put.length ≤ 1048576) ∧ Ext w W) ?_ ?_
 ·refine sloop_r (fun x W => ∃ (i : Nat) (ys : List (Cells.T c103)), i ≤ es.length ∧ x.2 = ((i : Int), ()) ∧ SlOwn W w.heap.size x.1 103 3 (flat c103 ys) ∧ ys.length = i ∧ (∀ (j : Nat) y z, ys[j]? = some y → es[j]? = some z → y.1 = z.f ∧ y.2.1 = z.t ∧ SlOwn W w.heap.size y.2.2.1 3 1 (iv z.put) ∧ z.put.length ≤ 1048576) ∧ Ext w W) (fun x _ => ((es.length : Int) - x.2.1).toNat) ⟨0, [], Nat.zero_le _, rfl, SlOwn.nil _ _ _ _, rfl, fun j y z hy => by simp at hy, Ext.refl w⟩ ?_
  rintro ⟨r, _⟩ W ⟨i, ys, hi, rfl, hr, hl, hys, eW⟩
  dsimp only at hr ⊢
  have hrl : ys.length = r.len := SlOwn.lenR (cs := c103) hr (by decide)
  refine sif_r (fun hc => ?_) (fun hc => ?_)
  ·simp only [decide_eq_true_eq] at hc
   obtain ⟨y, hy⟩ : ∃ y, ys0[i]? = some y := ⟨_, List.getElem?_eq_getElem (by omega)⟩
   obtain ⟨z, hz⟩ : ∃ z, es[i]? = some z := ⟨_, List.getElem?_eq_getElem (by omega)⟩
   obtain ⟨y1, y2, y3, y4⟩ := hy0 i y z hy hz
   have ew : IntKind.wrap .i64 ((i : Int) + 1) = ((i + 1 : Nat) : Int) := by rw [wrap64 (by omega) (by omega)]; omega
   rw [ew]
   refine drew_r fun w2 e2 _ => ?_
   have x2 := eW.trans e2
   have hyn : ys0[((i : Int)).toNat]? = some y := by rw [Int.toNat_natCast]; exact hy
   have hs2 := hs.ext x2
   refine ix_fX0 (c := .int .i64) (cs := c103) (xs := ys0) (y := y.1) hs2 (Int.natCast_nonneg i) hyn rfl fun q1 k1 => ?_
   refine ix_fX (c := .int .i64) (cs := c103) (xs := ys0) (j := 1) (y := y.2.1) hs2 (Int.natCast_nonneg i) hyn rfl fun q2 k2 => ?_
   refine ix_fX (c := .sl) (cs := c103) (xs := ys0) (j := 2) (y := y.2.2.1) hs2 (Int.natCast_nonneg i) hyn rfl fun q3 k3 => ?_
   have hpl : z.put.length = y.2.2.1.len := by have := y3.len1; rwa [List.length_map] at this
   refine append_rx eInts eInts.ts_ (B := w.heap.size) (s := ⟨none, 0, 0⟩) (x := y.2.2.1) (vs := []) (us := iv z.put) (SlOwn.nil w2 w.heap.size 3 1) (y3.ext x2) (fun v hv => by obtain ⟨n, _, rfl⟩ := List.mem_map.1 hv; rfl) (by
    show (0 + y.2.2.1.len + (0 + y.2.2.1.len) / 4 + 512) * 8 ≤ 2 ^ 48
    omega) (by have := x2.size; omega) fun s3 w3 o3 l3 u3 b3 => ?_
   have e3 : Ext w2 w3 := (Ext.refl w2).step u3 fun k hk => by obtain ⟨_, hp, _⟩ := hk; cases hp
   have x3 := x2.trans e3
   rw [List.nil_append] at o3
   refine keep_r (k2 w3 e3) (keep_r (k1 w3 e3) (newO_r fun b12 w4 e4 n4 hb4 _ => ?_))
   have x4 := x3.trans e4
   have hbox : SlX w4 ⟨some (at0 b12), 1, 1⟩ 3 (flat c103 [(y.1, y.2.1, s3, ())]) := (SlIn.of_box n4 (n := 1) (sz := 3) rfl).x
   refine append_rx eEdits eEdits.ts_ (x := ⟨some (at0 b12), 1, 1⟩) (hr.ext ((e2.trans e3).trans e4)) hbox (fun v hv => by
    have hv : v ∈ [Value.int .i64 y.1, .int .i64 y.2.1, .slice s3.a s3.len s3.cap] := hv
    simp only [List.mem_cons, List.not_mem_nil, or_false] at hv
    rcases hv with rfl | rfl | rfl <;> rfl) (by
    show (r.len + 1 + (r.len + 1) / 4 + 512) * 40 ≤ 2 ^ 48
    omega) (by have := x4.size; omega) fun r' w5 o5 l5 u5 b5 => ?_
   have x5 : Ext w w5 := x4.step u5 fun k hk => hr.blk_ge hk
   have ef : flat c103 ys ++ flat c103 [(y.1, y.2.1, s3, ())] = flat c103 (ys ++ [(y.1, y.2.1, s3, ())]) := by simp [flat]
   rw [ef] at o5
   have ne : ∀ {sl : Sl} {v : List Int} {V : World}, SlOwn V w.heap.size sl 3 1 (iv v) → Ext V w4 → SlOwn w5 w.heap.size sl 3 1 (iv v) := fun ho e => (ho.ext e).ty (t := 3) u5 (fun k hk c fr hn => by
    obtain ⟨c', fr', hc'⟩ := (hr.ext ((e2.trans e3).trans e4)).in.blk_cells hk
    rw [hn] at hc'
    cases hc')
   refine ⟨⟨i + 1, ys ++ [(y.1, y.2.1, s3, ())], by omega, rfl, o5, by simp [hl], fun j y' z' hy' hz' => ?_, x5⟩, by (try dsimp only); omega⟩
   by_cases hj : j < ys.length
   ·rw [List.getElem?_append_left hj] at hy'
    obtain ⟨g1, g2, g3, g4⟩ := hys j y' z' hy' hz'
    exact ⟨g1, g2, ne g3 ((e2.trans e3).trans e4), g4⟩
   ·have hje : j = i := by
     have := (List.getElem?_eq_some_iff.1 hy').1
     simp at this; omega
    subst hje
    rw [← hl, List.getElem?_concat_length] at hy'
    cases hy'
    rw [hz] at hz'; cases hz'
    exact ⟨y1, y2, ne o3 e4, y4⟩
  ·simp only [decide_eq_false_iff_not] at hc
   obtain rfl : i = es.length := by omega
   exact ⟨ys, hr, hl, hys, eW⟩
 rintro ⟨r, _⟩ W ⟨ys, hr, hl, hys, eW⟩
 refine hK r ys W ⟨hr.in, hl, fun i y z hy hz => ?_⟩ (fun k hk => hr.blk_ge hk) (fun i y hy k hk => ?_) eW
 ·obtain ⟨g1, g2, g3, g4⟩ := hys i y z hy hz
  exact ⟨g1, g2, ⟨_, g3.in⟩, by omega⟩
 ·obtain ⟨z, hz⟩ : ∃ z, es[i]? = some z := ⟨_, List.getElem?_eq_getElem (by have := (List.getElem?_eq_some_iff.1 hy).1; omega)⟩
  exact (hys i y z hy hz).2.2.1.blk_ge hk
abbrev lkO (y : Cells.T c26) : Obj := .cells #[.int .i64 y.1, .slice y.2.1.a y.2.1.len y.2.1.cap, .slice y.2.2.1.a y.2.2.1.len y.2.2.1.cap, .slice y.2.2.2.1.a y.2.2.2.1.len y.2.2.2.1.cap] 26 (0, 0)
theorem EdX.ext {s : Sl} {es : List LEd} (h : EdX w s es) (e : Ext w w') : EdX w' s es := by
 obtain ⟨ys, h1, h2, h3⟩ := h.ex
 exact ⟨⟨ys, h1.ext e, h2, fun i y x hy hx => by obtain ⟨a, b, c, d⟩ := h3 i y x hy hx; exact ⟨a, b, c.ext e, d⟩⟩, h.few⟩
theorem refuse_put {e : Enc} {lim : Nat} {A : As} {es : List LEd} (h : refuseP e lim A es = 0) : putsz e es ≤ lim := by
 unfold refuseP at h
 split at h
 ·cases h
 split at h
 ·cases h
 rename_i hr
 split at h
 ·cases h
 split at h
 ·cases h
 have gl := gone_le (A := A) (es := es) (a := 0) (Int.le_refl _) (by simpa using hr)
 omega
theorem enc_num {c : Int} (h : 1 ≤ c ∧ c ≤ 4) : ∃ e : Enc, e.num = c := by
 rcases (by omega : c = 1 ∨ c = 2 ∨ c = 3 ∨ c = 4) with rfl | rfl | rfl | rfl
 ·exact ⟨.u8, rfl⟩
 ·exact ⟨.le, rfl⟩
 ·exact ⟨.be, rfl⟩
 ·exact ⟨.l1, rfl⟩
set_option maxHeartbeats 1000000 in
theorem ltext_call {y : Cells.T c26} {c : Int} {l : List UInt8} {L : List (List LEd)} {al : List LAsk} (h : LookX w y c l L al) {K : Option Addr × Bool × Unit → World → Prop} (hN : ∀ w', Ext w w' → K (none, true, ()) w')
  (hS : ∀ p A w', TxA w' p A → Ext w w' → K (some (at0 p), true, ()) w') :
  callT Tryz.prog 11 #[.agg (Cells.vals c26 y).toArray] (.tup [(.one .ptr), (.one .bool)]) K w := by
 refine F11_calls (a0 := y) ?_
 unfold F11
 have hbl : l.length = y.2.1.len := by have := h.bytes.len1; rwa [List.length_map] at this
 obtain ⟨ys, hys, hyl, hye⟩ := h.edits.ex
 have few := h.edits.few
 have hsl : ys.length = y.2.2.1.len := by have := hys.len1; rwa [List.length_map] at this
 refine (St.start w).newO fun b1 w1 S1 e1 => able_call fun w2 e2 => sif_false ?_
 have S2 := S1.ext e2
 have S2 : St (fun _ => False) w w2 [(b1, lkO y)] := S2
 refine join_r (fun x W => x = (decide (¬ (1 ≤ c ∧ c ≤ 4 ∧ l.length ≤ 65536)), ()) ∧ w2 = W) ?_ ?_
 ·refine S2.ld (off := 0) 0 rfl (x := c) (congrArg (fun (n : Int) => some (Value.int .i64 n)) h.e) (sif_r (fun hc => ⟨tupb ?_, rfl⟩) (fun hc => S2.ld (off := 0) 0 rfl (x := c) (congrArg (fun (n : Int) => some (Value.int .i64 n)) h.e) (sif_r (fun hc2 => ⟨tupb ?_, rfl⟩) (fun hc2 => S2.ld (off := 1) 0 rfl (x := y.2.1) rfl ⟨tupb ?_, rfl⟩))))
  all_goals simp only [decide_eq_true_eq, decide_eq_false_iff_not, true_iff, gt_iff_lt] at *
  all_goals omega
 rintro _ _ ⟨rfl, rfl⟩
 refine sif_r (fun hc => hN w2 S2.upd) (fun hc => ?_)
 have hc := Classical.byContradiction (fun hn => (of_decide_eq_false hc) hn)
 obtain ⟨e, hen⟩ := enc_num (c := c) ⟨hc.1, hc.2.1⟩
 refine S2.drew fun w3 S3 e3 _ => S3.ld (off := 0) 0 rfl (x := c) (congrArg (fun (n : Int) => some (Value.int .i64 n)) h.e) (S3.ld (off := 1) 0 rfl (x := y.2.1) rfl ?_)
 refine app_by (s := ⟨none, 0, 0⟩) (l := []) (m := l) (B := w.heap.size) (SlOwn.nil w3 w.heap.size 5 1) (h.bytes.ext S3.upd) (by
  show 0 + y.2.1.len + (0 + y.2.1.len) / 4 + 512 ≤ 2 ^ 48
  omega) S3.upd.size fun s4 w4 o4 l4 u4 b4 _ => ?_
 have e4 : Ext w3 w4 := (Ext.refl w3).step u4 fun k hk => by obtain ⟨_, hp, _⟩ := hk; cases hp
 have S4 := S3.ext e4
 rw [List.nil_append] at o4
 refine S4.keep (off := 0) 0 rfl (v := .int .i64 c) (congrArg (fun (n : Int) => some (Value.int .i64 n)) h.e) ?_
 rw [← hen]
 have hB4 : By w4 s4 l := o4.in
 refine open_call (e := e) (lim := 65536) hB4 hc.2.2 (Nat.le_refl _) fun p O M w5 tx hA _ e5 hnew => ?_
 have S5 := S4.ext e5
 refine join_r (fun x W => x = (false, ()) ∧ w5 = W) (sif_false ⟨rfl, rfl⟩) ?_
 rintro _ _ ⟨rfl, rfl⟩
 refine sif_false ?_
 have hb1 : b1 < w4.heap.size := lt_of_heap (S4.at_ 0 rfl)
 have hw4 : w.heap.size ≤ w4.heap.size := S4.upd.size
 refine join_r (fun _ W => ∃ O M na, Txt W p e 65536 na O M ∧ St (fun _ => False) w W [(b1, lkO y)]) ?_ (fun _ W ⟨O, M, na, t, S⟩ => hS p _ W ⟨_, _, _, _, _, t, rfl⟩ S.upd)
 refine sloop_r (fun x W => ∃ (i : Nat) (O : Nat → Prop) (M : Parts) (na : Nat), x = ((i : Int), ()) ∧ i ≤ L.length ∧ Txt W p e 65536 na O M ∧ na ≤ 65536 * i ∧ szs (aOf e M) ≤ 65536 ∧ (∀ k, O k → w4.heap.size ≤ k) ∧ St (fun _ => False) w W [(b1, lkO y)]) (fun x _ => ((L.length : Int) - x.1).toNat) ⟨0, O, M, 0, rfl, Nat.zero_le _, tx, Nat.zero_le _, ?_, hnew, S5⟩ ?_
 ·rw [hA, szs_all]; exact hc.2.2
 rintro _ W ⟨i, O, M, na, rfl, hi, t, hna, hsz, hO, SW⟩
 dsimp only
 refine SW.ld (off := 2) 0 rfl (x := y.2.2.1) rfl (sif_r (fun hc => ?_) (fun hc => ?_))
 ·simp only [decide_eq_true_eq] at hc
  have ew : IntKind.wrap .i64 ((i : Int) + 1) = ((i + 1 : Nat) : Int) := by rw [wrap64 (by omega) (by omega)]; omega
  rw [ew]
  obtain ⟨q, hq⟩ : ∃ q, ys[i]? = some q := ⟨_, List.getElem?_eq_getElem (by omega)⟩
  obtain ⟨es, hes⟩ : ∃ es, L[i]? = some es := ⟨_, List.getElem?_eq_getElem (by omega)⟩
  refine SW.ld (off := 2) 0 rfl (x := y.2.2.1) rfl (ix_ldX (c := .sl) (xs := ys) (hys.ext SW.upd) (Int.natCast_nonneg i) (x := q) (by rw [Int.toNat_natCast]; exact hq) fun p1 => ?_)
  refine own_call ((hye i q es hq hes).ext SW.upd) fun r zs w6 hE hr hz e6 => ?_
  have t6 := t.ext e6
  have S6 := SW.ext e6
  refine changeG_call t6 hE hsz (fun k hk hOk => ?_) (fun j z hj k hk hOk => ?_) (by omega) (fun cc w7 _ _ e7 => ⟨⟨i + 1, O, M, na, rfl, by omega, t6.ext e7, by omega, hsz, hO, S6.ext e7⟩, by omega⟩) fun h0 O' M' w7 t7 _ hs7 u7 _ o2 => ?_
  ·have := hr k hk; have := t.own k hOk; omega
  ·have := hz j z hj k hk; have := t.own k hOk; omega
  ·have hp := refuse_put h0
   refine ⟨⟨i + 1, O', M', _, rfl, by omega, t7, by omega, hs7, fun k hk => ?_, S6.fresh u7 (fun k hk => .inr (by have := hO k hk.1; omega)) (fun z hz hk => ?_)⟩, by omega⟩
   ·rcases o2 k hk with hh | hh
    ·exact hO k hh
    ·have := e6.size; have := SW.upd.size
     have h9 : w4.heap.size ≤ W.heap.size := by
      have := hO p t.op
      have := t.own p t.op
      omega
     omega
   ·rw [List.mem_singleton.1 hz] at hk
    have := hO _ hk.1
    dsimp only at this
    omega
 ·simp only [decide_eq_false_iff_not] at hc
  exact ⟨O, M, na, t, SW⟩
end
section
variable {w w' : World} {p : Nat} {A : List Int}
abbrev lnO (l : Ln) : Obj := .cells #[.int .i64 (l.from_ : Int), .int .i64 (l.to_ : Int), .int .i64 (l.next : Int), .int .i64 (l.kind : Int)] 36 (0, 0)
abbrev lnZ : Obj := .cells #[.int .i64 0, .int .i64 0, .int .i64 0, .int .i64 0] 36 (0, 0)
theorem lline_call (h : TxA w p A) {n : Int} {K : Cells.T c36 × Sl × Bool × Unit → World → Prop} (hK : ∀ s w', SlIn w' s 3 1 (iv (rowB A (ofI A n))) → Ext w w' → K (lnT (rowL A (ofI A n)), s, true, ()) w') :
  callT Tryz.prog 13 #[.pointer (some (at0 p)), .int .i64 n] (.tup [(.agg c36), (.one .sl), (.one .bool)]) K w := by
 refine F13_calls ?_
 unfold F13
 have hi := ofI_le A n
 have ok := row_ok hi
 have hA := h.len
 have ft := ok.ft; have tn := ok.tn; have nl := ok.nl
 generalize hI : ofI A n = i at *
 refine (St.start w).newO fun b1 w1 S1 e1 => (h.ext e1).of fun w2 e2 => ?_
 rw [hI]
 refine ((h.ext e1).ext e2).at_ hi fun w3 e3 => ?_
 refine ((S1.ext e2).ext e3).newO fun b4 w4 S4 e4 => S4.aggSt 0 rfl rfl rfl rfl fun w5 S5 u5 => ?_
 have S5 : St (fun _ => False) w w5 [(b4, lnO (rowL A i)), (b1, lnZ)] := S5
 refine join_r (fun y W => y = (false, ()) ∧ St (fun _ => False) w W [(b4, lnO (rowL A i)), (b1, lnZ)]) ?_ ?_
 ·refine S5.drew fun w6 S6 e6 _ => sif_false (S6.ld (off := 0) 0 rfl (x := ((rowL A i).from_ : Int)) rfl (sif_r (fun hc => by simp only [decide_eq_true_eq] at hc; omega) (fun _ => ?_)))
  refine S6.ld (off := 1) 0 rfl (x := ((rowL A i).to_ : Int)) rfl (S6.ld (off := 0) 0 rfl (x := ((rowL A i).from_ : Int)) rfl (sif_r (fun hc => by simp only [decide_eq_true_eq] at hc; omega) (fun _ => ?_)))
  refine S6.ld (off := 2) 0 rfl (x := ((rowL A i).next : Int)) rfl (S6.ld (off := 1) 0 rfl (x := ((rowL A i).to_ : Int)) rfl (sif_r (fun hc => by simp only [decide_eq_true_eq] at hc; omega) (fun _ => ?_)))
  refine S6.ld (off := 2) 0 rfl (x := ((rowL A i).next : Int)) rfl ((h.ext S6.upd).tlen fun w7 e7 => (S6.ext e7).keep (off := 2) 0 rfl (v := .int .i64 ((rowL A i).next : Int)) rfl ⟨tupb ?_, S6.ext e7⟩)
  simp only [decide_eq_true_eq, gt_iff_lt, Bool.false_eq_true, iff_false]; omega
 rintro _ W ⟨rfl, SW⟩
 refine sif_false (SW.ld (off := 0) 0 rfl (x := ((rowL A i).from_ : Int)) rfl (SW.ld (off := 1) 0 rfl (x := ((rowL A i).to_ : Int)) rfl ((h.ext SW.upd).atoms fun s w6 o6 e6 => ?_)))
 rw [sub_row] at o6
 have S6 := SW.ext e6
 have hsl : s.len = (rowL A i).to_ - (rowL A i).from_ := by
  have := o6.len1
  rw [List.length_map, rowB_length hi] at this
  exact this.symm
 refine S6.drew fun w7 S7 e7 _ => S7.lds 0 (lnT (rowL A i)) rfl (S7.ld (off := 1) 0 rfl (x := ((rowL A i).to_ : Int)) rfl (S7.ld (off := 0) 0 rfl (x := ((rowL A i).from_ : Int)) rfl (S7.aggSt 1 rfl rfl rfl rfl fun w8 S8 u8 => ?_)))
 refine S8.keep (off := 0) 0 rfl (v := .int .i64 ((rowL A i).from_ : Int)) rfl (S8.keep (off := 1) 0 rfl (v := .int .i64 ((rowL A i).to_ : Int)) rfl (S8.lds 1 (lnT (rowL A i)) rfl ?_))
 have e9 : (((s.len : Nat) : Int) == IntKind.wrap .i64 (((rowL A i).to_ : Int) - ((rowL A i).from_ : Int))) = true := by
  rw [wrap64 (by omega) (by omega), beq_iff_eq]; omega
 rw [e9]
 exact hK s w8 ((o6.ext e7).box (S7.at_ 1 rfl) (by decide) u8).in S8.upd
theorem lhome_call (h : TxA w p A) {n : Nat} {past : Bool} (hs : Stand A n past) {K : Bool → World → Prop} (hK : ∀ w', Ext w w' → K true w') :
  callT Tryz.prog 28 #[.pointer (some (at0 p)), .int .i64 (n : Int), .bool past] (.one (.one .bool)) K w := by
 refine F28_calls ?_
 unfold F28
 obtain ⟨h1, h2, h3, h4, h5, h6⟩ := stand_home hs
 have hof : ofI A (n : Int) = nb A n := by unfold ofI; rw [inT_of h4]
 have hA := h.len
 generalize hi : nb A n = i at *
 have ok := row_ok h1
 have tn := ok.tn; have nl := ok.nl; have ft := ok.ft
 refine join_r (fun y W => y = (false, ()) ∧ Ext w W) ?_ ?_
 ·refine sif_r (fun hc => by simp only [decide_eq_true_eq] at hc; omega) (fun _ => h.tlen fun w1 e1 => ⟨tupb ?_, e1⟩)
  simp only [decide_eq_true_eq, gt_iff_lt, Bool.false_eq_true, iff_false]; omega
 rintro _ w1 ⟨rfl, e1⟩
 refine sif_false (lline_call (h.ext e1) fun s w2 o2 e2 => ?_)
 rw [hof] at o2
 rw [hof]
 refine ((St.start w).ext (e1.trans e2)).newO fun b5 w3 S3 e3 => S3.aggSt 0 rfl rfl rfl rfl fun w4 S4 u4 => ?_
 have S4 : St (fun _ => False) w w4 [(b5, lnO (rowL A i))] := S4
 have o4 := (o2.ext e3).box (S3.at_ 0 rfl) (by decide) u4
 refine join_r (fun y W => y = (false, ()) ∧ St (fun _ => False) w W [(b5, lnO (rowL A i))]) ?_ ?_
 ·refine sif_false (S4.ld (off := 0) 0 rfl (x := ((rowL A i).from_ : Int)) rfl (sif_r (fun hc => by simp only [decide_eq_true_eq] at hc; omega) (fun _ => ?_)))
  refine S4.ld (off := 1) 0 rfl (x := ((rowL A i).to_ : Int)) rfl (sif_r (fun hc => by simp only [decide_eq_true_eq] at hc; omega) (fun _ => ?_))
  refine S4.ld (off := 0) 0 rfl (x := ((rowL A i).from_ : Int)) rfl ?_
  have ew : IntKind.wrap .i64 ((n : Int) - ((rowL A i).from_ : Int)) = ((n - (rowL A i).from_ : Nat) : Int) := by rw [wrap64 (by omega) (by omega)]; omega
  rw [ew]
  refine isbreak_call o4 (by rw [rowB_length h1]; omega) fun w5 e5 => ⟨?_, S4.ext e5⟩
  rw [Int.toNat_natCast, h5, decide_eq_true ⟨by omega, by rw [rowB_length h1]; omega⟩]; rfl
 rintro _ W ⟨rfl, SW⟩
 refine sif_false (sif_r (fun hp => hK W SW.upd) (fun hp => ?_))
 obtain ⟨g1, g2⟩ := h6 hp
 have fin : ∀ {V : World}, Ext w V → callT Tryz.prog 20 #[.pointer (some (at0 p)), .int .i64 (n : Int)] (.one (.one (.int .i64))) (fun x => callT Tryz.prog 19 #[.pointer (some (at0 p))] (.one (.one (.int .i64))) fun y => K (decide (x < y))) V := fun x => (h.ext x).of fun w6 e6 => (h.ext (x.trans e6)).count fun w7 e7 => by
  have hlt : ((ofI A (n : Int) : Nat) : Int) < (lnN A : Int) := by rw [hof]; omega
  rw [decide_eq_true hlt]
  exact hK w7 ((x.trans e6).trans e7)
 refine SW.ld (off := 1) 0 rfl (x := ((rowL A i).to_ : Int)) rfl (sif_r (fun hc => fin SW.upd) (fun hc => ?_))
 simp only [decide_eq_false_iff_not] at hc
 refine SW.ld (off := 0) 0 rfl (x := ((rowL A i).from_ : Int)) rfl (SW.ld (off := 1) 0 rfl (x := ((rowL A i).to_ : Int)) rfl (sif_r (fun _ => fin SW.upd) (fun hc2 => ?_)))
 simp only [beq_eq_false_iff_ne, ne_eq] at hc2
 omega
abbrev askO (a : LAsk) : Obj := .cells #[.int .i64 a.kind, .int .i64 a.at_, .int .i64 a.b, .int .i64 a.mkd, .int .i64 a.count, .int .i64 a.arg, .bool a.past] 33 (0, 0)
theorem ask_move {W : World} {b : Nat} {a : LAsk} {K : Cells.T c31 → World → Prop} (hb : W.heap[b]? = some (askO a)) (hK : K (mvM a.mkd a.count a.arg) W) : lds c31 ⟨b, 3, none⟩ K W :=
 lds_r (x := mvM a.mkd a.count a.arg) hb (fun j v hv => by
  match j with
  | 0 => exact hv
  | 1 => exact hv
  | 2 => exact hv
  | j + 3 => cases hv) hK
end
section
variable {w w' : World} {p : Nat} {A : List Int} {y : Cells.T c26} {c : Int} {l : List UInt8} {L : List (List LEd)} {al : List LAsk}
theorem LookX.ask (h : LookX w y c l L al) {W : World} (x : Ext w W) {i : Nat} {a : LAsk} (ha : al[i]? = some a) {K : Addr → Cells.T c33 → World → Prop} (hK : ∀ q, K q (askT a) W) :
  ix y.2.2.2.1.a y.2.2.2.1.len (i : Int) (fun q => lds c33 (q.add (scaled (Int.toNat (i : Int)) 7)) (K q)) W :=
 ix_ldsX (cs := c33) (xs := al.map askT) (h.asks.row.ext x) (by decide) (Int.natCast_nonneg i) (by rw [Int.toNat_natCast, List.getElem?_map, ha]; rfl) hK
theorem LookX.alen (h : LookX w y c l L al) : al.length = y.2.2.2.1.len := by
 have := SlX.lenR (cs := c33) h.asks.row (by decide)
 rwa [List.length_map] at this
theorem law_r {W0 : World} {x3 : Option Addr × Bool × Unit} {K : Bool → World → Prop} {R : World → Prop} (hx : x3 = (none, true, ()) ∨ ∃ p, x3 = (some (at0 p), true, ()) ∧ R W0)
  (hN : K true W0) : join (S := Bool × Unit) (fun J4 => sif (!x3.2.1) (J4 (true, ())) (J4 ((Option.isNone x3.1), ()))) (fun s5 => sif s5.1 (K x3.2.1) R) W0 := by
 rcases hx with rfl | ⟨p, rfl, hR⟩
 ·exact join_r (fun s W => s = (true, ()) ∧ W0 = W) (sif_false ⟨rfl, rfl⟩) (by rintro _ _ ⟨rfl, rfl⟩; exact sif_true hN)
 ·exact join_r (fun s W => s = (false, ()) ∧ W0 = W) (sif_false ⟨rfl, rfl⟩) (by rintro _ _ ⟨rfl, rfl⟩; exact sif_false hR)
theorem cur_line (A : List Int) (x : Int) (past : Bool) : nb A (clampP A x past) ≤ brs A ∧ ofI A (clampP A x past : Int) = nb A (clampP A x past) ∧ (rowL A (nb A (clampP A x past))).from_ ≤ clampP A x past ∧ clampP A x past ≤ (rowL A (nb A (clampP A x past))).to_ ∧ clampP A x past ≤ A.length := by
 have hs := stand_clamp A x past
 obtain ⟨h1, h2, h3⟩ := hs.row
 exact ⟨h1, by unfold ofI; rw [inT_of hs.len], h2, h3, hs.len⟩
end
section
variable {w w' : World} {p : Nat} {A : List Int} {y : Cells.T c26} {c : Int} {l : List UInt8} {L : List (List LEd)} {al : List LAsk}
theorem LookX.ext {W : World} (h : LookX w y c l L al) (e : Ext w W) : LookX W y c l L al :=
 ⟨h.e, h.i64, h.bytes.ext e, h.blen, ⟨by obtain ⟨ys, g1, g2, g3⟩ := h.edits.ex; exact ⟨ys, g1.ext e, g2, fun i q es hq he => (g3 i q es hq he).ext e⟩, h.edits.few⟩, ⟨h.asks.row.ext e, h.asks.few, h.asks.i64⟩⟩
end
abbrev spLO (l : Ld) : Obj := .cells #[.int .i64 l.1.1, .int .i64 l.1.2.1, .int .i64 l.1.2.2] 62 (0, 0)
abbrev SpT := Cells.T c62 × Int × Unit
abbrev spLT (l : Ld) : SpT := ((l.1.1, l.1.2.1, l.1.2.2, ()), l.2, ())
abbrev ldLO (l : Ld) : Obj := .cells #[.int .i64 l.1.1, .int .i64 l.1.2.1, .int .i64 l.1.2.2] 43 (0, 0)
theorem kif' (c : Int) : (if (9999 : Int) < (if (1 : Int) > c then (1 : Int) else c) then (9999 : Int) else (if (1 : Int) > c then (1 : Int) else c)) = (kOf c : Int) := by
 unfold kOf
 split <;> split at * <;> split <;> omega
theorem kOf_rng (c : Int) : 1 ≤ kOf c ∧ kOf c ≤ 9999 := by unfold kOf; split <;> omega
section
variable {w w' : World} {p : Nat} {A : List Int}
set_option maxHeartbeats 1000000 in
theorem lineend_call (h : TxA w p A) {s : Nat} (hs : clampP A (s : Int) true = s) {to_ kind count arg : Int} {K : Int × Bool × Unit → World → Prop}
  (hK : ∀ w', Ext w w' → K (((rowL A (ofI A (passedP A s (decide (kind = 25)) (kOf count) : Int))).to_ : Int), decide (ofI A (passedP A s (decide (kind = 25)) (kOf count) : Int) < ofI A to_), ()) w') :
  callT Tryz.prog 62 #[.pointer (some (at0 p)), .int .i64 (s : Int), .int .i64 to_, .agg (Cells.vals c31 (mvM kind count arg)).toArray] (.tup [(.one (.int .i64)), (.one .bool)]) K w := by
 refine F62_calls (a3 := mvM kind count arg) ?_
 unfold F62
 have eb : (kind == 25) = decide (kind = 25) := by rw [Bool.eq_iff_iff, beq_iff_eq, decide_eq_true_eq]
 obtain ⟨big, hbig⟩ : ∃ big, decide (kind = 25) = big := ⟨_, rfl⟩
 rw [hbig] at hK eb
 have hkr := kOf_rng count
 obtain ⟨kk, hkk⟩ : ∃ kk, kOf count = kk := ⟨_, rfl⟩
 rw [hkk] at hK hkr
 refine (St.start w).newO fun b1 w1 S1 e1 => ?_
 have S1 : St (fun _ => False) w w1 [(b1, mvMO kind count arg)] := S1
 refine S1.ld (off := 0) 0 rfl (x := kind) rfl ?_
 rw [eb]
 refine newwalk_call (h.ext S1.upd) hs fun bw r0 w2 hw hbw e2 => ?_
 have S2 := S1.ext e2
 have hon := (pos_is A (s : Int) true).1
 have hoff : offP A (posP A (s : Int) true) = s := by rw [(pos_is A (s : Int) true).2.1, hs]
 have hpass : passedP A s big kk = ((((((aft A (posP A (s : Int) true)).filter (begB A big)).map (offP A)).take (kk - 1)).getLast?).getD s) := by
  unfold passedP
  have := marks_aft (begB A big) hon
  rw [hoff] at this
  rw [this]
 rw [hpass] at hK
 obtain ⟨f, hf⟩ : ∃ f, (((((aft A (posP A (s : Int) true)).filter (begB A big)).map (offP A)).take (kk - 1)).getLast?).getD s = f := ⟨_, rfl⟩
 rw [hf] at hK
 have fin : ∀ {W : World}, Ext w W → (callT Tryz.prog 36 #[.pointer (some (at0 p)), .int .i64 (f : Int), .bool true] (.one (.agg c72)) fun x14 => newO (.cells #[(.int .i64 (0 : Int)), (.int .i64 (0 : Int)), (.int .i64 (0 : Int)), (.int .i64 (0 : Int)), (.int .i64 (0 : Int)), (.slice none 0 0), (.slice none 0 0)] 72) fun b15 =>
   aggSt (at0 b15) (.agg (Cells.vals c72 x14).toArray) 7 <| drew <| ld (.int .i64) (⟨b15, 1, none⟩ : Addr) fun (x16 : Int) => ld (.int .i64) (⟨b15, 4, none⟩ : Addr) fun (x17 : Int) =>
   callT Tryz.prog 20 #[(.pointer (some (at0 p))), (.int .i64 to_)] (.one (.one (.int .i64))) fun (x18 : Int) => keep (fun w => w.cell? (⟨b15, 4, none⟩ : Addr) = some (Cell.val (.int .i64) x17)) <| keep (fun w => w.cell? (⟨b15, 1, none⟩ : Addr) = some (Cell.val (.int .i64) x16)) <|
   K (x16, (decide (x18 > x17)), ())) W := fun {W} eW => by
  refine rowat_call (h.ext eW) fun r w3 hr e3 => ?_
  have er : rowI A (f : Int) true = ofI A (f : Int) := by unfold rowI; rw [if_pos rfl]
  rw [er] at hr
  refine ((St.start w).ext (eW.trans e3)).newAgg rfl rfl rfl fun b15 w4 S4 e4 => ?_
  have S4 : St (fun _ => False) w w4 [(b15, rwO r)] := S4
  have ht := hr.t; have hn := hr.num
  refine S4.drew fun w5 S5 e5 _ => S5.ld (off := 1) 0 rfl (x := r.2.1) rfl (S5.ld (off := 4) 0 rfl (x := r.2.2.2.2.1) rfl ((h.ext S5.upd).of fun w6 e6 => ?_))
  have S6 := S5.ext e6
  refine S6.keep (off := 4) 0 rfl (v := .int .i64 r.2.2.2.2.1) rfl (S6.keep (off := 1) 0 rfl (v := .int .i64 r.2.1) rfl ?_)
  rw [ht, hn]
  have := hK w6 S6.upd
  have ed : decide (((ofI A to_ : Nat) : Int) > ((ofI A (f : Int) : Nat) : Int)) = decide (ofI A (f : Int) < ofI A to_) := by rw [Bool.eq_iff_iff, decide_eq_true_eq, decide_eq_true_eq]; omega
  rw [ed]; exact this
 refine join_r (fun x W => x = ((f : Int), ()) ∧ Ext w W) ?_ (fun x W hx => by rw [hx.1]; exact fin hx.2)
 refine S2.ld (off := 1) 0 rfl (x := count) rfl ?_
 rw [kif', hkk]
 have ew0 : IntKind.wrap .i64 ((kk : Int) - 1) = ((kk - 1 : Nat) : Int) := by rw [wrap64 (by omega) (by omega)]; omega
 rw [ew0]
 have hbw2 : w.heap.size ≤ bw := by have := S1.upd.size; omega
 refine sloop_g (fun (g : Nat × Nat × (Nat × Nat) × RwT) x W => x = ((g.2.1 : Int), (g.1 : Int), ()) ∧ g.1 ≤ 9999 ∧ WkIs W bw p A big g.2.2.1 g.2.2.2 ∧ Ext w W ∧ ((((aft A g.2.2.1).filter (begB A big)).map (offP A)).take g.1).getLast?.getD g.2.1 = f) (fun g => (aft A g.2.2.1).length) (kk - 1, s, posP A (s : Int) true, r0) ⟨rfl, by dsimp only; omega, hw, S2.upd, hf⟩ ?_
 rintro ⟨k, v, q, r⟩ _ W R ⟨rfl, hk, hW, eW, hv⟩ hR
 dsimp only at hk hW hv hR ⊢
 refine join_r (fun x V => (x = (false, ()) ∧ v = f ∧ Ext w V) ∨ (x = (true, ()) ∧ 0 < k ∧ ∃ q2 r2, nextW A q = some q2 ∧ WkIs V bw p A big q2 r2 ∧ Ext w V)) ?_ ?_
 ·refine sif_r (fun hc => ?_) (fun hc => ?_)
  ·simp only [decide_eq_true_eq, gt_iff_lt] at hc
   refine wknext_call hW (fun hn W1 e1' => .inl ⟨rfl, ?_, eW.trans e1'⟩) (fun q2 r2 W1 hn hW1 u1 => .inr ⟨rfl, by omega, q2, r2, hn, hW1, eW.step u1 fun k hk => by omega⟩)
   rw [aft_none hn] at hv
   simpa using hv
  ·simp only [decide_eq_false_iff_not, gt_iff_lt] at hc
   refine .inl ⟨rfl, ?_, eW⟩
   rw [show k = 0 by omega] at hv
   simpa using hv
 rintro _ V (⟨rfl, rfl, eV⟩ | ⟨rfl, hk0, q2, r2, hn, hV, eV⟩)
 ·exact sif_false ⟨rfl, eV⟩
 refine sif_true (wkbegins_call hV (nextW_plc hW.on hn) fun V1 e1' => ?_)
 have hlen : (aft A q2).length < (aft A q).length := by rw [aft_some hn]; simp
 rw [aft_some hn] at hv
 refine sif_r (fun hb => ?_) (fun hb => ?_)
 ·refine wkat_call (hV.ext e1') fun V2 e2' => ?_
  have ew : IntKind.wrap .i64 ((k : Int) - 1) = ((k - 1 : Nat) : Int) := by rw [wrap64 (by omega) (by omega)]; omega
  rw [ew]
  refine hR (k - 1, offP A q2, q2, r2) _ V2 ⟨rfl, by dsimp only; omega, (hV.ext e1').ext e2', (eV.trans e1').trans e2', ?_⟩ hlen
  dsimp only
  rw [List.filter_cons_of_pos hb, List.map_cons, show k = k - 1 + 1 by omega, List.take_succ_cons, List.getLast?_cons] at hv
  simpa using hv
 ·refine hR (k, v, q2, r2) _ V1 ⟨rfl, hk, hV.ext e1', eV.trans e1', ?_⟩ hlen
  dsimp only
  rw [List.filter_cons_of_neg (by rw [hb]; decide)] at hv
  exact hv
theorem sp_end {W w0 : World} {b1 : Nat} {l : Ld} {o : Obj} {ls : List (Nat × Obj)} {K : SpT → World → Prop} {a b c : Int} {i : Nat} (S : St (fun _ => False) w0 W ls) (hi : ls[i]? = some (b1, spLO ((a, b, c), 0))) (hK : ∀ w', Ext w0 w' → K (spLT l) w') :
  aggSt (at0 b1) (.agg #[.int .i64 l.1.1, .int .i64 l.1.2.1, .int .i64 l.1.2.2]) 3 (lds c62 (at0 b1) fun y => K (y, l.2, ())) W := by
 have hlt := (List.getElem?_eq_some_iff.1 hi).1
 refine S.aggSt i hi rfl rfl rfl fun w1 S1 _ => S1.lds i (spLT l).1 (by rw [List.getElem?_set_self hlt]; rfl) (hK w1 S1.upd)
set_option maxHeartbeats 1000000 in
theorem between_call (h : TxA w p A) {a b kind : Int} {K : SpT → World → Prop} (hK : ∀ w', Ext w w' → K (spLT (betweenP A a b kind)) w') :
  callT Tryz.prog 30 #[.pointer (some (at0 p)), .int .i64 a, .int .i64 b, .int .i64 kind] (.tup [(.agg c62), (.one (.int .i64))]) K w := by
 refine F30_calls ?_
 unfold F30
 have hA := h.len
 unfold betweenP at hK
 dsimp only at hK
 refine (St.start w).newO fun b1 w1 S1 e1 => mclamp_call (h.ext S1.upd) fun w2 e2 => mclamp_call (h.ext (S1.ext e2).upd) fun w3 e3 => ?_
 have S3 := (S1.ext e2).ext e3
 have S3 : St (fun _ => False) w w3 [(b1, spLO ((0, 0, 0), 0))] := S3
 obtain ⟨ca, hca⟩ : ∃ ca, clampP A a true = ca := ⟨_, rfl⟩
 obtain ⟨cb, hcb⟩ : ∃ cb, clampP A b true = cb := ⟨_, rfl⟩
 rw [hca, hcb] at hK
 rw [hca, hcb]
 have emin : (if (cb : Int) < (ca : Int) then (cb : Int) else (ca : Int)) = ((min ca cb : Nat) : Int) := by split <;> omega
 have emax : (if (cb : Int) > (ca : Int) then (cb : Int) else (ca : Int)) = ((max ca cb : Nat) : Int) := by split <;> omega
 rw [emin, emax]
 obtain ⟨lo, hlo⟩ : ∃ lo, min ca cb = lo := ⟨_, rfl⟩
 obtain ⟨hi, hhi⟩ : ∃ hi, max ca cb = hi := ⟨_, rfl⟩
 rw [hlo, hhi] at hK
 rw [hlo, hhi]
 refine rowat_call (h.ext S3.upd) fun r w4 hr e4 => ?_
 have er : rowI A (hi : Int) true = ofI A (hi : Int) := by unfold rowI; rw [if_pos rfl]
 rw [er] at hr
 obtain ⟨i, hi'⟩ : ∃ i, ofI A (hi : Int) = i := ⟨_, rfl⟩
 rw [hi'] at hK hr
 have hf := hr.f; have ht := hr.t; have hn := hr.num; have fw := hr.few
 have hib := hr.row; have hbl := brs_le A
 refine (S3.ext e4).newAgg rfl rfl rfl fun b5 w5 S5 e5 => ?_
 have S5 : St (fun _ => False) w w5 [(b5, rwO r), (b1, spLO ((0, 0, 0), 0))] := S5
 have hr5 := hr.ext e5
 refine sif_r (fun hk => ?_) (fun hk => ?_)
 ·rw [beq_iff_eq] at hk
  rw [if_pos hk] at hK
  refine join_r (fun x V => x = (((if hi = (rowL A i).from_ ∧ lo < hi ∧ 0 < i then max (rowL A (i - 1)).to_ lo else hi : Nat) : Int), ()) ∧ ∃ ls, St (fun _ => False) w V ls ∧ ls[ls.length - 1]? = some (b1, spLO ((0, 0, 0), 0))) ?_ ?_
  ·refine join_r (fun x V => x = (decide (hi = (rowL A i).from_ ∧ lo < hi ∧ 0 < i), ()) ∧ w5 = V) ?_ ?_
   ·refine S5.ld (off := 0) 0 rfl (x := r.1) rfl ?_
    rw [hf]
    refine sif_r (fun h1 => sif_r (fun h2 => S5.ld (off := 4) 0 rfl (x := r.2.2.2.2.1) rfl ⟨tupb ?_, rfl⟩) (fun h2 => ⟨tupb ?_, rfl⟩)) (fun h1 => ⟨tupb ?_, rfl⟩)
    ·simp only [beq_iff_eq, decide_eq_true_eq, gt_iff_lt] at h1 h2 ⊢
     rw [hn]; omega
    ·simp only [beq_iff_eq, decide_eq_false_iff_not] at h1 h2
     simp only [Bool.false_eq_true, decide_eq_true_eq, false_iff]; omega
    ·simp only [beq_eq_false_iff_ne, ne_eq] at h1
     simp only [Bool.false_eq_true, decide_eq_true_eq, false_iff]; omega
   rintro _ _ ⟨rfl, rfl⟩
   refine sif_r (fun hc => ?_) (fun hc => ?_)
   ·have hc := of_decide_eq_true hc
    rw [if_pos hc]
    refine S5.ld (off := 4) 0 rfl (x := r.2.2.2.2.1) rfl ?_
    have ew : IntKind.wrap .i64 (r.2.2.2.2.1 - 1) = ((i - 1 : Nat) : Int) := by rw [hn, wrap64 (by omega) (by omega)]; omega
    rw [ew]
    refine (h.ext S5.upd).at_ (by omega) fun w6 e6 => (S5.ext e6).newAgg rfl rfl rfl fun b14 w7 S7 _ => ?_
    have S7 : St (fun _ => False) w w7 [(b14, .cells #[.int .i64 ((rowL A (i - 1)).from_ : Int), .int .i64 ((rowL A (i - 1)).to_ : Int), .int .i64 ((rowL A (i - 1)).next : Int), .int .i64 ((rowL A (i - 1)).kind : Int)] 36 (0, 0)), (b5, rwO r), (b1, spLO ((0, 0, 0), 0))] := S7
    refine S7.ld (off := 1) 0 rfl (x := ((rowL A (i - 1)).to_ : Int)) rfl ⟨?_, _, S7, rfl⟩
    have : (if (lo : Int) > ((rowL A (i - 1)).to_ : Int) then (lo : Int) else ((rowL A (i - 1)).to_ : Int)) = ((max (rowL A (i - 1)).to_ lo : Nat) : Int) := by split <;> omega
    rw [this]
   ·have hc := of_decide_eq_false hc
    rw [if_neg hc]
    exact ⟨rfl, _, S5, rfl⟩
  rintro _ V ⟨rfl, ls, SV, hls⟩
  refine sp_end (l := (((lo : Int), (((if hi = (rowL A i).from_ ∧ lo < hi ∧ 0 < i then max (rowL A (i - 1)).to_ lo else hi : Nat) : Int)), 0), 0)) (o := spLO ((0, 0, 0), 0)) SV hls fun w' x => ?_
  have := hK w' x
  split at this
  ·rename_i hc; rw [if_pos hc]; exact this
  ·rename_i hc; rw [if_neg hc]; exact this
 rw [beq_eq_false_iff_ne] at hk
 rw [if_neg hk] at hK
 refine sif_r (fun hk => ?_) (fun hk => ?_)
 ·rw [beq_iff_eq] at hk
  rw [if_pos hk] at hK
  refine join_r (fun x V => x = (((if hi < (rowL A i).to_ then placeR A i ((firstI (rowC A i) (hi : Int) : Nat) + 1) else hi : Nat) : Int), ()) ∧ St (fun _ => False) w V [(b5, rwO r), (b1, spLO ((0, 0, 0), 0))]) ?_ ?_
  ·refine S5.ld (off := 1) 0 rfl (x := r.2.1) rfl ?_
   rw [ht]
   refine sif_r (fun hc => ?_) (fun hc => ?_)
   ·simp only [decide_eq_true_eq] at hc
    rw [if_pos (by omega)]
    refine S5.drew fun w6 S6 e6 _ => S6.lds 0 r rfl (S6.lds 0 r rfl (mcol_call (hr5.ext e6) fun w7 e7 => ?_))
    have S7 := S6.ext e7
    have hfl := firstI_le (rowC A i) (hi : Int)
    have ew : IntKind.wrap .i64 ((firstI (rowC A i) (hi : Int) : Int) + 1) = ((firstI (rowC A i) (hi : Int) : Nat) : Int) + 1 := wrap64 (by omega) (by omega)
    rw [ew]
    exact S7.keeps 0 (x := r) rfl (mplace_call ((hr5.ext e6).ext e7) fun w8 e8 => ⟨rfl, S7.ext e8⟩)
   ·simp only [decide_eq_false_iff_not] at hc
    rw [if_neg (by omega)]
    exact ⟨rfl, S5⟩
  rintro _ V ⟨rfl, SV⟩
  exact sp_end (l := (((lo : Int), (((if hi < (rowL A i).to_ then placeR A i ((firstI (rowC A i) (hi : Int) : Nat) + 1) else hi : Nat) : Int)), 0), 0)) (o := spLO ((0, 0, 0), 0)) (i := 1) SV rfl hK
 rw [beq_eq_false_iff_ne] at hk
 rw [if_neg hk] at hK
 refine sif_r (fun hk => ?_) (fun hk => ?_)
 ·rw [beq_iff_eq] at hk
  rw [if_pos hk] at hK
  refine rowat_call (h.ext S5.upd) fun r1 w6 hr1 e6 => rowat_call (h.ext (S5.ext e6).upd) fun r2 w7 hr2 e7 => ?_
  have S7 := (S5.ext e6).ext e7
  refine S7.newO fun b27 w8 S8 e8 => S8.newO fun b28 w9 S9 e9 => S9.aggSt 1 rfl rfl rfl rfl fun w10 S10 _ => S10.aggSt 0 rfl rfl rfl rfl fun w11 S11 _ => ?_
  have S11 : St (fun _ => False) w w11 [(b28, rwO r2), (b27, rwO r1), (b5, rwO r), (b1, spLO ((0, 0, 0), 0))] := S11
  refine S11.ld (off := 0) 1 rfl (x := r1.1) rfl (S11.ld (off := 2) 0 rfl (x := r2.2.2.1) rfl ?_)
  rw [hr1.f, hr2.n]
  exact sp_end (l := ((((rowL A (rowI A (lo : Int) false)).from_ : Int), ((rowL A (rowI A (hi : Int) false)).next : Int), 1), 0)) (o := spLO ((0, 0, 0), 0)) (i := 3) S11 rfl hK
 ·rw [beq_eq_false_iff_ne] at hk
  rw [if_neg hk] at hK
  exact sp_end (l := noP 1) (o := spLO ((0, 0, 0), 0)) (i := 1) S5 rfl hK
set_option maxHeartbeats 2000000 in
theorem reach_call (h : TxA w p A) {x kind count arg : Int} {K : SpT → World → Prop} (hK : ∀ w', Ext w w' → K (spLT (reachP A x kind count arg)) w') :
  callT Tryz.prog 32 #[.pointer (some (at0 p)), .int .i64 x, .agg (Cells.vals c31 (mvM kind count arg)).toArray] (.tup [(.agg c62), (.one (.int .i64))]) K w := by
 refine F32_calls (a2 := mvM kind count arg) ?_
 unfold F32
 refine (St.start w).newO fun b1 w1 S1 e1 => S1.newO fun b2 w2 S2 e2 => mclamp_call (h.ext S2.upd) fun w3 e3 => (S2.ext e3).newO fun b4 w4 S4 e4 => ?_
 have S4 : St (fun _ => False) w w4 [(b4, ldLO (noP 1)), (b2, spLO ((0, 0, 0), 0)), (b1, mvMO kind count arg)] := S4
 have ss := stand_past (stand_clamp A x false)
 unfold reachP at hK
 dsimp only at hK
 obtain ⟨s, hs⟩ : ∃ s, clampP A x false = s := ⟨_, rfl⟩
 rw [hs] at hK ss
 rw [hs]
 have hsc := ss.clamp
 obtain ⟨l, hl⟩ : ∃ l, goP A (s : Int) kind count arg = l := ⟨_, rfl⟩
 rw [hl] at hK
 unfold goP at hl
 refine join_r (fun y V => y = (l.2, ()) ∧ ∃ kd, (kd = kind ∨ (kind = 60 ∧ kd = 15)) ∧ St (fun _ => False) w V [(b4, ldLO l), (b2, spLO ((0, 0, 0), 0)), (b1, mvMO kd count arg)]) ?_ ?_
 ·refine S4.ld (off := 0) 2 rfl (x := kind) rfl ?_
  have two : ∀ {lo hi : Int} {V : World}, join (S := Bool × Unit) (fun J8 => sif (decide (kind ≥ lo)) (J8 (decide (kind ≤ hi), ())) (J8 (false, ()))) = join (S := Bool × Unit) (fun J8 => sif (decide (kind ≥ lo)) (J8 (decide (kind ≤ hi), ())) (J8 (false, ()))) := rfl
  have rng : ∀ {lo hi : Int} {V : World} {B C : World → Prop}, (lo ≤ kind ∧ kind ≤ hi → B V) → (¬ (lo ≤ kind ∧ kind ≤ hi) → C V) → join (S := Bool × Unit) (fun J8 => sif (decide (kind ≥ lo)) (J8 (decide (kind ≤ hi), ())) (J8 (false, ()))) (fun s9 => sif s9.1 B C) V := fun {lo hi V B C} hB hC => by
   refine join_r (fun y V' => y = (decide (lo ≤ kind ∧ kind ≤ hi), ()) ∧ V = V') ?_ ?_
   ·refine sif_r (fun h1 => ⟨tupb ?_, rfl⟩) (fun h1 => ⟨tupb ?_, rfl⟩)
    ·simp only [decide_eq_true_eq, ge_iff_le] at h1 ⊢
     exact ⟨fun hh => ⟨h1, hh⟩, fun hh => hh.2⟩
    ·simp only [decide_eq_false_iff_not, ge_iff_le] at h1
     simp only [Bool.false_eq_true, decide_eq_true_eq, false_iff]
     exact fun hh => h1 hh.1
   ·rintro _ _ ⟨rfl, rfl⟩
    exact sif_r (fun hc => hB (of_decide_eq_true hc)) (fun hc => hC (of_decide_eq_false hc))
  refine rng (fun hc => ?_) (fun hc => ?_)
  ·rw [if_pos hc] at hl
   refine S4.lds 2 (mvM kind count arg) rfl (mchars_call (h.ext S4.upd) fun w5 e5 => ?_)
   rw [hl]
   exact (S4.ext e5).aggSt 0 rfl rfl rfl rfl fun w6 S6 _ => ⟨rfl, kind, .inl rfl, S6⟩
  rw [if_neg hc] at hl
  refine rng (fun hc => ?_) (fun hc => ?_)
  ·rw [if_pos hc] at hl
   refine S4.drew fun w5 S5 e5 _ => S5.lds 2 (mvM kind count arg) rfl (mcolumn_call (h.ext S5.upd) fun w6 e6 => ?_)
   have S6 := S5.ext e6
   refine S6.keeps 2 (x := mvM kind count arg) rfl (mrows_call (h.ext S6.upd) fun w7 e7 => ?_)
   rw [hl]
   exact (S6.ext e7).aggSt 0 rfl rfl rfl rfl fun w6 S6 _ => ⟨rfl, kind, .inl rfl, S6⟩
  rw [if_neg hc] at hl
  refine sif_r (fun hc => ?_) (fun hc => ?_)
  ·rw [beq_iff_eq] at hc
   rw [if_pos hc] at hl
   refine S4.stC (off := 0) 2 rfl (by show 0 < 3; decide) fun w5 S5 _ => ?_
   have S5 : St (fun _ => False) w w5 [(b4, ldLO (noP 1)), (b2, spLO ((0, 0, 0), 0)), (b1, mvMO 15 count arg)] := S5
   refine S5.lds 2 (mvM 15 count arg) rfl (mrows_call (h.ext S5.upd) fun w6 e6 => ?_)
   rw [hl]
   exact (S5.ext e6).aggSt 0 rfl rfl rfl rfl fun w6 S6 _ => ⟨rfl, 15, .inr ⟨hc, rfl⟩, S6⟩
  rw [beq_eq_false_iff_ne] at hc
  rw [if_neg hc] at hl
  refine rng (fun hc => ?_) (fun hc => ?_)
  ·rw [if_pos hc] at hl
   refine S4.lds 2 (mvM kind count arg) rfl (mwords_call (h.ext S4.upd) fun w5 e5 => ?_)
   rw [hl]
   exact (S4.ext e5).aggSt 0 rfl rfl rfl rfl fun w6 S6 _ => ⟨rfl, kind, .inl rfl, S6⟩
  rw [if_neg hc] at hl
  refine rng (fun hc => ?_) (fun hc => ?_)
  ·rw [if_pos hc] at hl
   refine S4.lds 2 (mvM kind count arg) rfl (mparas_call (h.ext S4.upd) fun w5 e5 => ?_)
   rw [hl]
   exact (S4.ext e5).aggSt 0 rfl rfl rfl rfl fun w6 S6 _ => ⟨rfl, kind, .inl rfl, S6⟩
  rw [if_neg hc] at hl
  rw [← hl]
  exact ⟨rfl, kind, .inl rfl, S4⟩
 rintro _ w5 ⟨rfl, kd, hkd, S5⟩
 refine sif_r (fun hz => ?_) (fun hz => ?_)
 ·have hz : l.2 ≠ 0 := by simpa using hz
  rw [if_pos hz] at hK
  exact sp_end (l := noP l.2) (o := spLO ((0, 0, 0), 0)) (i := 1) S5 rfl hK
 have hz : l.2 = 0 := by simpa using hz
 rw [if_neg (by omega)] at hK
 refine join_r (fun _ V => ¬ ((kind = 21 ∨ kind = 25) ∧ ofI A (passedP A s (decide (kind = 25)) (kOf count) : Int) < ofI A l.1.1) ∧ St (fun _ => False) w V [(b4, ldLO l), (b2, spLO ((0, 0, 0), 0)), (b1, mvMO kd count arg)]) ?_ ?_
 ·refine join_r (fun y V => y = (decide (kind = 21 ∨ kind = 25), ()) ∧ w5 = V) ?_ ?_
  ·refine S5.ld (off := 0) 2 rfl (x := kd) rfl (sif_r (fun h1 => ⟨tupb ?_, rfl⟩) (fun h1 => S5.ld (off := 0) 2 rfl (x := kd) rfl ⟨tupb ?_, rfl⟩))
   ·simp only [beq_iff_eq] at h1
    simp only [true_iff, decide_eq_true_eq]; omega
   ·simp only [beq_eq_false_iff_ne, ne_eq] at h1
    simp only [beq_iff_eq, decide_eq_true_eq]; omega
  rintro _ _ ⟨rfl, rfl⟩
  refine sif_r (fun hc => ?_) (fun hc => ?_)
  ·have hc := of_decide_eq_true hc
   have hkd : kd = kind := by omega
   subst hkd
   refine S5.ld (off := 0) 0 rfl (x := l.1.1) rfl (S5.lds 2 (mvM kd count arg) rfl (lineend_call (h.ext S5.upd) hsc fun w6 e6 => ?_))
   have S6 := S5.ext e6
   refine sif_r (fun hd => ?_) (fun hd => ?_)
   ·have hd := of_decide_eq_true hd
    rw [if_pos ⟨hc, hd⟩] at hK
    exact sp_end (l := (((s : Int), ((rowL A (ofI A (passedP A s (decide (kd = 25)) (kOf count) : Int))).to_ : Int), 0), 0)) (o := spLO ((0, 0, 0), 0)) (i := 1) S6 rfl hK
   ·have hd := of_decide_eq_false hd
    exact ⟨fun hh => hd hh.2, S6⟩
  ·have hc := of_decide_eq_false hc
   exact ⟨fun hh => hc hh.1, S5⟩
 rintro _ w6 ⟨hn, S6⟩
 rw [if_neg hn] at hK
 refine S6.ld (off := 0) 0 rfl (x := l.1.1) rfl (S6.ld (off := 1) 0 rfl (x := l.1.2.1) rfl (between_call (h.ext S6.upd) fun w7 e7 => ?_))
 exact sp_end (o := spLO ((0, 0, 0), 0)) (i := 1) (S6.ext e7) rfl hK
end
section
variable {w w' : World} {p : Nat} {A : List Int} {y : Cells.T c26} {c : Int} {l : List UInt8} {L : List (List LEd)} {al : List LAsk}
set_option maxHeartbeats 1000000 in
theorem lspans_call (h : TxA w p A) {f t : Nat} {kind : Int} (ok : SpanOk A f t kind) {K : Bool → World → Prop} (hK : ∀ w', Ext w w' → K true w') :
  callT Tryz.prog 31 #[.pointer (some (at0 p)), .agg (Cells.vals c62 ((f : Int), (t : Int), kind, ())).toArray] (.one (.one .bool)) K w := by
 refine F31_calls (a1 := ((f : Int), (t : Int), kind, ())) ?_
 unfold F31
 have hle := ok.le; have hlen := ok.len; have hA := h.len
 refine (St.start w).newO fun b1 w1 S1 e1 => ?_
 have S1 : St (fun _ => False) w w1 [(b1, spLO (((f : Int), (t : Int), kind), 0))] := S1
 refine join_r (fun x V => x = (false, ()) ∧ St (fun _ => False) w V [(b1, spLO (((f : Int), (t : Int), kind), 0))]) ?_ ?_
 ·refine S1.drew fun w2 S2 e2 _ => S2.ld (off := 0) 0 rfl (x := (f : Int)) rfl (sif_r (fun hc => by simp only [decide_eq_true_eq] at hc; omega) (fun _ => S2.ld (off := 1) 0 rfl (x := (t : Int)) rfl (S2.ld (off := 0) 0 rfl (x := (f : Int)) rfl (sif_r (fun hc => by simp only [decide_eq_true_eq] at hc; omega) (fun _ => S2.ld (off := 1) 0 rfl (x := (t : Int)) rfl ((h.ext S2.upd).tlen fun w3 e3 => (S2.ext e3).keep (off := 1) 0 rfl (v := .int .i64 (t : Int)) rfl ⟨tupb ?_, S2.ext e3⟩))))))
  simp only [decide_eq_true_eq, gt_iff_lt, Bool.false_eq_true, iff_false]; omega
 rintro _ w3 ⟨rfl, S3⟩
 refine sif_false (S3.ld (off := 2) 0 rfl (x := kind) rfl (sif_r (fun hk => ?_) (fun hk => ?_)))
 ·rw [beq_iff_eq] at hk
  obtain ⟨z1, z2⟩ := ok.zero hk
  exact S3.ld (off := 0) 0 rfl (x := (f : Int)) rfl (lhome_call (h.ext S3.upd) z1 fun w4 e4 => sif_true ((S3.ext e4).ld (off := 1) 0 rfl (x := (t : Int)) rfl (lhome_call (h.ext (S3.ext e4).upd) z2 fun w5 e5 => hK w5 ((S3.ext e4).ext e5).upd)))
 ·rw [beq_eq_false_iff_ne] at hk
  obtain ⟨z1, z2⟩ := ok.lines hk
  have hof : ∀ n : Nat, n ≤ A.length → ofI A (n : Int) = nb A n := fun n hn => by unfold ofI; rw [inT_of hn]
  refine S3.ld (off := 0) 0 rfl (x := (f : Int)) rfl (lline_call (h.ext S3.upd) fun s w4 o4 e4 => ?_)
  rw [hof f (by omega)]
  refine (S3.ext e4).newAgg rfl rfl rfl fun b16 w5 S5 e5 => ?_
  have S5 : St (fun _ => False) w w5 [(b16, lnO (rowL A (nb A f))), (b1, spLO (((f : Int), (t : Int), kind), 0))] := S5
  refine join_r (fun x V => x = (false, ()) ∧ w5 = V) ?_ ?_
  ·refine sif_false (S5.ld (off := 0) 0 rfl (x := ((rowL A (nb A f)).from_ : Int)) rfl (S5.ld (off := 0) 1 rfl (x := (f : Int)) rfl ⟨?_, rfl⟩))
   have : ((((rowL A (nb A f)).from_ : Nat) : Int) != (f : Int)) = false := by rw [bne_eq_false_iff_eq]; omega
   rw [this]
  rintro _ _ ⟨rfl, rfl⟩
  refine sif_false (S5.drew fun w6 S6 e6 _ => S6.ld (off := 1) 1 rfl (x := (t : Int)) rfl ((h.ext S6.upd).tlen fun w7 e7 => (S6.ext e7).keep (off := 1) 1 rfl (v := .int .i64 (t : Int)) rfl ?_))
  have S7 := S6.ext e7
  refine sif_r (fun hc => hK w7 S7.upd) (fun hc => ?_)
  have hts : t = (rowL A (nb A t)).from_ := by
   rcases z2 with z | z
   ·rw [beq_eq_false_iff_ne] at hc
    exact absurd (by omega) hc
   ·exact z
  refine S7.ld (off := 1) 1 rfl (x := (t : Int)) rfl (lline_call (h.ext S7.upd) fun s2 w8 o8 e8 => ?_)
  rw [hof t (by omega)]
  refine (S7.ext e8).aggSt 0 rfl rfl rfl rfl fun w9 S9 _ => sif_true ?_
  have S9 : St (fun _ => False) w w9 [(b16, lnO (rowL A (nb A t))), (b1, spLO (((f : Int), (t : Int), kind), 0))] := S9
  refine S9.ld (off := 0) 0 rfl (x := ((rowL A (nb A t)).from_ : Int)) rfl (S9.ld (off := 1) 1 rfl (x := (t : Int)) rfl ?_)
  have e : ((((rowL A (nb A t)).from_ : Nat) : Int) == (t : Int)) = true := by rw [beq_iff_eq]; omega
  rw [e]
  exact hK w9 S9.upd
set_option maxHeartbeats 2000000 in
theorem spans_walk (h : LookX w y c l L al) {K : Bool → World → Prop} (hK : ∀ w', Ext w w' → K true w') :
  callT Tryz.prog 9 #[.agg (Cells.vals c26 y).toArray] (.one (.one .bool)) K w := by
 refine F9_calls (a0 := y) ?_
 unfold F9
 have hal := h.alen
 have hfew := h.asks.few
 refine (St.start w).newO fun b1 w1 S1 e1 => ?_
 have S1 : St (fun _ => False) w w1 [(b1, lkO y)] := S1
 refine S1.lds 0 y rfl (ltext_call (h := h.ext e1) (fun w2 e2 => law_r (.inl rfl) (hK w2 (S1.ext e2).upd)) fun p A w2 tx2 e2 => law_r (.inr ⟨p, rfl, ?_⟩) (hK w2 (S1.ext e2).upd))
 have S2 := S1.ext e2
 refine join_r (fun _ W => Ext w W) ?_ (fun _ W hW => hK W hW)
 refine sloop_r (fun x W => ∃ i : Nat, x = ((i : Int), ()) ∧ i ≤ al.length ∧ TxA W p A ∧ St (fun _ => False) w W [(b1, lkO y)]) (fun x _ => ((al.length : Int) - x.1).toNat) ⟨0, rfl, Nat.zero_le _, tx2, S2⟩ ?_
 rintro _ W ⟨i, rfl, hi, tx, SW⟩
 dsimp only
 refine SW.ld (off := 3) 0 rfl (x := y.2.2.2.1) rfl (sif_r (fun hc => ?_) (fun hc => SW.upd))
 simp only [decide_eq_true_eq] at hc
 obtain ⟨a, ha⟩ : ∃ a, al[i]? = some a := ⟨_, List.getElem?_eq_getElem (by omega)⟩
 have ewi : IntKind.wrap .i64 ((i : Int) + 1) = ((i + 1 : Nat) : Int) := by rw [wrap64 (by omega) (by omega)]; omega
 rw [ewi]
 refine SW.ld (off := 3) 0 rfl (x := y.2.2.2.1) rfl (h.ask SW.upd ha fun q1 => ?_)
 refine (St.start W).newAgg rfl rfl rfl fun bA w4 T4 _ => ?_
 have T4 : St (fun _ => False) W w4 [(bA, askO a)] := T4
 refine join_r (fun _ V => St (fun _ => False) W V [(bA, askO a)]) ?_ ?_
 ·refine sloop_r (fun x V => ∃ n : Nat, x = ((n : Int), ()) ∧ n ≤ 3 ∧ St (fun _ => False) W V [(bA, askO a)]) (fun x _ => (3 - x.1).toNat) ⟨0, rfl, by decide, T4⟩ ?_
  rintro _ V ⟨n, rfl, hn, SV⟩
  dsimp only
  refine sif_r (fun hc => ?_) (fun hc => SV)
  simp only [decide_eq_true_eq] at hc
  have ewn : IntKind.wrap .i64 ((n : Int) + 1) = ((n + 1 : Nat) : Int) := by rw [wrap64 (by omega) (by omega)]; omega
  rw [ewn]
  obtain ⟨f, t, eb, okb⟩ := between_is A a.at_ a.b (kind := (n : Int)) (by omega)
  obtain ⟨kk, hkk⟩ : ∃ kk : Int, (if (n : Int) = 2 then (1 : Int) else 0) = kk := ⟨_, rfl⟩
  rw [hkk] at eb okb
  refine SV.ld (off := 1) 0 rfl (x := a.at_) rfl (SV.ld (off := 2) 0 rfl (x := a.b) rfl (between_call (tx.ext SV.upd) fun w5 e5 => ?_))
  rw [eb]
  refine (SV.ext e5).newAgg rfl rfl rfl fun b22 w6 S6 e6 => ?_
  have S6 : St (fun _ => False) W w6 [(b22, spLO (((f : Int), (t : Int), kk), 0)), (bA, askO a)] := S6
  refine S6.ld (off := 2) 1 rfl (x := a.b) rfl (S6.ld (off := 1) 1 rfl (x := a.at_) rfl (between_call (tx.ext S6.upd) fun w7 e7 => ?_))
  rw [between_sym, eb]
  refine (S6.ext e7).newAgg rfl rfl rfl fun b26 w8 S8 e8 => ?_
  have S8 : St (fun _ => False) W w8 [(b26, spLO (((f : Int), (t : Int), kk), 0)), (b22, spLO (((f : Int), (t : Int), kk), 0)), (bA, askO a)] := S8
  refine join_r (fun x V => x = (false, ()) ∧ St (fun _ => False) W V [(b26, spLO (((f : Int), (t : Int), kk), 0)), (b22, spLO (((f : Int), (t : Int), kk), 0)), (bA, askO a)]) ?_ ?_
  ·refine sif_false (sif_false (S8.ld (off := 0) 1 rfl (x := (f : Int)) rfl (S8.ld (off := 0) 0 rfl (x := (f : Int)) rfl ?_)))
   rw [bne_self_eq_false]
   refine sif_false (S8.ld (off := 1) 1 rfl (x := (t : Int)) rfl (S8.ld (off := 1) 0 rfl (x := (t : Int)) rfl ?_))
   rw [bne_self_eq_false]
   refine sif_false (S8.ld (off := 2) 1 rfl (x := kk) rfl (S8.ld (off := 2) 0 rfl (x := kk) rfl ?_))
   rw [bne_self_eq_false]
   refine sif_false (S8.lds 1 ((f : Int), (t : Int), kk, ()) rfl (lspans_call (tx.ext S8.upd) okb fun w9 e9 => sif_false ?_))
   have S9 := S8.ext e9
   refine S9.ld (off := 2) 1 rfl (x := kk) rfl (rdB_neqb u4 ⟨?_, S9⟩)
   have : ((kk == (1 : Int)) != ((n : Int) == (2 : Int))) = false := by
    rw [bne_eq_false_iff_eq, Bool.eq_iff_iff, beq_iff_eq, beq_iff_eq]
    split at hkk <;> omega
   rw [this]
  rintro _ U ⟨rfl, SU⟩
  exact sif_false ⟨⟨n + 1, rfl, by omega, SU.tail.tail⟩, by omega⟩
 rintro _ w5 T5
 obtain ⟨r1, r2⟩ := reach_is A a.at_ a.mkd a.count a.arg
 refine T5.ld (off := 1) 0 rfl (x := a.at_) rfl (ask_move (T5.at_ 0 rfl) (reach_call (tx.ext T5.upd) fun w6 e6 => ?_))
 obtain ⟨l, hl⟩ : ∃ l, reachP A a.at_ a.mkd a.count a.arg = l := ⟨_, rfl⟩
 rw [hl] at r1 r2
 rw [hl]
 refine (T5.ext e6).newAgg rfl rfl rfl fun b42 w7 T7 e7 => ?_
 have T7 : St (fun _ => False) W w7 [(b42, spLO l), (bA, askO a)] := T7
 refine join_r (fun x V => x = (false, ()) ∧ St (fun _ => False) W V [(b42, spLO l), (bA, askO a)]) ?_ ?_
 ·by_cases hz : l.2 = 0
  ·obtain ⟨f, t, k, hl2, ok⟩ := r1 hz
   clear hl r1 r2
   subst hl2
   exact sif_true (T7.lds 0 ((f : Int), (t : Int), k, ()) rfl (lspans_call (tx.ext T7.upd) ok fun w8 e8 => sif_false (sif_false ⟨rfl, T7.ext e8⟩)))
  ·have h0 := r2 hz
   have v0 : (some (Value.int .i64 l.1.1) : Option Value) = some (Value.int .i64 0) := by rw [h0]
   have v1 : (some (Value.int .i64 l.1.2.1) : Option Value) = some (Value.int .i64 0) := by rw [h0]
   have v2 : (some (Value.int .i64 l.1.2.2) : Option Value) = some (Value.int .i64 0) := by rw [h0]
   exact sif_r (fun hh => absurd (by simpa using hh) hz) (fun _ => sif_r (fun _ => T7.ld (off := 0) 0 rfl (x := 0) v0 (sif_false (T7.ld (off := 1) 0 rfl (x := 0) v1 (sif_false (T7.ld (off := 2) 0 rfl (x := 0) v2 ⟨rfl, T7⟩))))) (fun _ => ⟨rfl, T7⟩))
 rintro _ w8 ⟨rfl, T8⟩
 clear r1 r2 hl
 obtain ⟨k1, k2, k3, k4, k5⟩ := cur_line A a.at_ false
 have rw21 := reach_w A a.at_ 0
 refine sif_false (T8.ld (off := 1) 1 rfl (x := a.at_) rfl (mclamp_call (tx.ext T8.upd) fun w9 e9 => ?_))
 have T9 := T8.ext e9
 obtain ⟨s0, hs0⟩ : ∃ s0, clampP A a.at_ false = s0 := ⟨_, rfl⟩
 rw [hs0] at k1 k2 k3 k4 k5 rw21
 rw [hs0]
 refine lline_call (tx.ext T9.upd) fun s w10 o10 e10 => ?_
 rw [k2]
 obtain ⟨j, hj⟩ : ∃ j, nb A s0 = j := ⟨_, rfl⟩
 rw [hj] at rw21
 rw [hj]
 refine (T9.ext e10).newAgg rfl rfl rfl fun b56 w11 T11 e11 => ?_
 have T11 : St (fun _ => False) W w11 [(b56, lnO (rowL A j)), (b42, spLO l), (bA, askO a)] := T11
 refine T11.ld (off := 1) 2 rfl (x := a.at_) rfl (reach_call (kind := 21) (count := 0) (arg := 0) (tx.ext T11.upd) fun w12 e12 => ?_)
 obtain ⟨l2, hl2⟩ : ∃ l2, reachP A a.at_ 21 0 0 = l2 := ⟨_, rfl⟩
 rw [hl2] at rw21
 rw [hl2]
 refine (T11.ext e12).aggSt 1 rfl rfl rfl rfl fun w13 T13 _ => ?_
 have T13 : St (fun _ => False) W w13 [(b56, lnO (rowL A j)), (b42, spLO l2), (bA, askO a)] := T13
 refine join_r (fun x V => x = (false, ()) ∧ w13 = V) ?_ ?_
 ·rcases rw21 with rfl | ⟨t, rfl, ht⟩
  ·exact sif_false (sif_true (sif_false (sif_false ⟨rfl, rfl⟩)))
  ·refine sif_false (sif_false (sif_true (T13.ld (off := 0) 1 rfl (x := (s0 : Int)) rfl ?_)))
   rw [bne_self_eq_false]
   exact sif_false (T13.ld (off := 1) 1 rfl (x := (t : Int)) rfl (T13.ld (off := 1) 0 rfl (x := ((rowL A j).to_ : Int)) rfl (sif_r (fun hc => by simp only [decide_eq_true_eq, gt_iff_lt] at hc; omega) (fun _ => T13.ld (off := 2) 1 rfl (x := 0) rfl ⟨rfl, rfl⟩))))
 rintro _ _ ⟨rfl, rfl⟩
 exact sif_false ⟨⟨i + 1, rfl, by omega, tx.ext T13.upd, SW.ext T13.upd⟩, by omega⟩
end
end Go.Proofs.YtolhlldgnfbemaaGreat
namespace Go.Proofs.YtolhlldgnfbemaaGreat
open Go Go.Vx Go.ChangeShapes Go.WideShapes Go.RowKit
set_option maxRecDepth 100000 in
theorem motionSpans_lifted (os : Os) (started : os.Started) (H : Type) (enc : TypeId × Value → H) (F : Stop.Interp) :
  ReturnsInHanded {} Tryz.checked os 9 .any ((Rows.OpenSpec.upto Rows.motionSpansSpec).pre6 enc Tryz.prog Tryz.f9 Rows.motionSpansUptoRow.domain false) (((Rows.OpenSpec.upto Rows.motionSpansSpec).at F).post enc Tryz.prog Tryz.f9 false true false false) := by
 refine returnsInHanded_of_cond_sized (C := Tryz.checked) (s := Rows.OpenSpec.upto Rows.motionSpansSpec) (k := Rows.uptoSmall) rfl Tryz.own started (by kernel_rfl) Tryz.func9
  (OpenSpec.witness (enc := enc) (C := Tryz.checked) (s := Rows.OpenSpec.upto Rows.motionSpansSpec) (k := Rows.uptoSmall) rfl false ⟨#[], #[.agg #[.int .i64 0, .slice none 0 0, .slice none 0 0, .slice none 0 0]], []⟩ 8 (by kernel_rfl) (by kernel_rfl) (by kernel_rfl)
   (x := ([.agg [.lit (.int .i64 0), .nil, .nil, .nil]], [], [])) (by kernel_rfl) rfl (by kernel_rfl)) ?_
 intro W base args ds gs before hval0 hW _ hk hwt0 _
 have hval : ∀ (j : Nat) t v, Tryz.f9.params[j]? = some t → args[j]? = some v → Value.okWide Tryz.prog W .any base t v := hval0
 have hwt : (DataW.weightsEach Tryz.prog (Tryz.f9.params.toList ++ []) (ds ++ gs)).all (· ≤ reachBytes) = true := hwt0
 have hW' := hW
 obtain ⟨p, q, hA0, hV, rfl, hfz, hnd⟩ := hW
 have hA : DataW.TrodAll enc Tryz.prog W 0 (fun _ => true) true Tryz.f9.params.toList args.toList ds p := hA0
 clear hA0 hval0 hwt0
 rw [Tryz.params9] at hA hval hwt
 obtain ⟨rfl, rfl⟩ := trodVars_none hV
 obtain ⟨hn1, hn2, hT⟩ := trodAll_get hA
 obtain ⟨v0, hv⟩ := list_1 args.toList hn1
 obtain rfl : args = #[v0] := by cases args; simp_all
 obtain ⟨d0, rfl⟩ := list_1 ds hn2
 have hbulk : bulk d0 ≤ 1048576 := by
  have h : Rows.uptoBulkAll ([d0] ++ []) ≤ 1048576 := of_decide_eq_true hk
  simp only [List.append_nil, Rows.uptoBulkAll] at h
  show Rows.uptoBulk d0 ≤ _
  omega
 obtain ⟨p0, q0⟩ := hT 0 26 v0 d0 rfl rfl rfl
 obtain ⟨y, c, l, L, al, rfl, hL⟩ := arg_look (hval 0 26 v0 rfl rfl) q0 (weigh hwt 0 rfl rfl) hbulk
 have walk := spans_walk hL (K := fun r w' => r = true ∧ Ext W w') fun w' e => ⟨rfl, e⟩
 refine walk.mono fun e W' ⟨x, he, hx, hext⟩ => ⟨.bool true, ?_, ?_⟩
 ·subst hx; exact he
 ·exact post_same (s := Rows.motionSpansSpec) hW' rfl rfl u4 rfl Tryz.laidOut (fun t ht => by
   rw [Tryz.params9] at ht
   have ht : t ∈ [26] := ht
   simp only [List.mem_cons, List.not_mem_nil, or_false] at ht
   exact recs ht) hext
theorem motionSpans_holds : Rows.MotionSpansUptoSaid :=
 OpenClaim.holds_of_cond 9 Tryz.f9 rfl rfl rfl rfl rfl rfl rfl ⟨rfl, rfl, rfl, rfl, rfl⟩ rfl rfl rfl rfl rfl (by kernel_rfl) Tryz.func9 (by kernel_rfl)
  (of_decide_eq_true (by kernel_rfl)) (by unfold Func.isWrapper; rw [if_neg (by decide +kernel)]; exact ⟨rfl, rfl⟩)
  (fun os started H enc _ F => motionSpans_lifted os started H enc F)
end Go.Proofs.YtolhlldgnfbemaaGreat
