/- What the reading of an argument says of memory: calls, faults, cuts. Conditions: the form of the claim, its reach. -/
import Derived.Test.YtdabehgbhndimaaLw2
import Derived.Test.YtdabehgbhndimaaRows
import Derived.Test.YtdabehgbhndimaaVxO
set_option linter.unusedSimpArgs false
set_option linter.unusedVariables false
namespace Go.Proofs.Ytdabehgbhndimaa
open Go Go.Vx Go.ChangeShapes Dsk

theorem Try.own : ownKnob Try.prog.godebug = none := by kernel_rfl
theorem Try.laidOut : laidOutB Try.prog = true := by kernel_rfl
theorem ui : Try.prog.underlying 3 = some (.int .i64) := i3_ok.und
theorem ubool : Try.prog.underlying 4 = some .bool := i4_ok.und
theorem uOps : Try.prog.underlying 22 = some (.slice 39) := i22_ok.und
theorem ci : Try.prog.cellsOf 3 = 1 := by kernel_rfl
theorem bi : Try.prog.bytesOf 3 = 8 := by kernel_rfl
theorem cb : Try.prog.cellsOf 5 = 1 := by kernel_rfl
theorem bb1 : Try.prog.bytesOf 5 = 1 := by kernel_rfl
theorem cstr : Try.prog.cellsOf 9 = 1 := by kernel_rfl
theorem cbs : Try.prog.cellsOf 33 = 1 := by kernel_rfl
theorem cis : Try.prog.cellsOf 35 = 1 := by kernel_rfl
theorem cfs : Try.prog.cellsOf 34 = 1 := by kernel_rfl
theorem ccut : Try.prog.cellsOf 37 = 2 := by kernel_rfl
theorem cfault : Try.prog.cellsOf 74 = 5 := by kernel_rfl
theorem bfault : Try.prog.bytesOf 74 = 56 := by kernel_rfl
theorem cop : Try.prog.cellsOf 39 = 8 := by kernel_rfl
theorem bop : Try.prog.bytesOf 39 = 128 := by kernel_rfl
theorem sCut : ∃ fs : Array Field, Try.prog.underlying 37 = some (.struct fs) ∧ fs.toList.map (fun f => (f.type, f.offset)) = [(3, 0), (35, 1)] := ⟨_, i37_ok.und, rfl⟩
theorem sFault : ∃ fs : Array Field, Try.prog.underlying 74 = some (.struct fs) ∧ fs.toList.map (fun f => (f.type, f.offset)) = [(3, 0), (3, 1), (3, 2), (37, 3)] := ⟨_, i74_ok.und, rfl⟩
theorem sOp : ∃ fs : Array Field, Try.prog.underlying 39 = some (.struct fs) ∧ fs.toList.map (fun f => (f.type, f.offset)) = [(3, 0), (3, 1), (9, 2), (9, 3), (33, 4), (34, 5), (37, 6)] := ⟨_, i39_ok.und, rfl⟩

theorem SlX.lie {w : World} {s : Sl} {sz : Nat} {us : List Value} (h : SlX w s sz us) : Lie (fun k => k < w.heap.size) s := by
  rcases h.at_ with ⟨h, _⟩ | ⟨t, h⟩
  · exact .inl h
  · exact .inr fun k hk => h.blk_lt hk

theorem rows_of2 {cs : List Cell} {β : Type} {Q : Cells.T cs → β → Prop} : ∀ (rows : List (List Value)), (∀ r ∈ rows, ∃ x y, r = Cells.vals cs x ∧ Q x y) → ∃ (xs : List (Cells.T cs)) (ys : List β), rows.flatten = flat cs xs ∧ xs.length = rows.length ∧ xs.length = ys.length ∧ ∀ (i : Nat) x y, xs[i]? = some x → ys[i]? = some y → Q x y
  | [], _ => ⟨[], [], rfl, rfl, rfl, fun i x y hx => by simp at hx⟩
  | r :: rs, h => by
    obtain ⟨x, y, hx, hq⟩ := h r List.mem_cons_self
    obtain ⟨xs, ys, h1, h2, h3, h4⟩ := rows_of2 rs fun r' hr' => h r' (List.mem_cons_of_mem _ hr')
    refine ⟨x :: xs, y :: ys, ?_, by simp [h2], by simp [h3], fun i x' y' hx' hy' => ?_⟩
    · rw [List.flatten_cons, h1, hx]; rfl
    · match i with
      | 0 => cases hx'; cases hy'; exact hq
      | i + 1 => exact h4 i x' y' (by simpa using hx') (by simpa using hy')

section
variable {H : Type} {enc : TypeId × Value → H} {W : World} {base fuel : Nat} {held : Bool}

theorem open_fields {t : TypeId} {fs : Array Field} {L : List (TypeId × Nat)} {cs : List Value} {x : DataW H × List MemPlace} (hu : Try.prog.underlying t = some (.struct fs)) (hfs : fs.toList.map (fun f => (f.type, f.offset)) = L)
    (h : DataW.trod enc Try.prog W base (fun _ => true) held fuel t cs = some x) (hw : ∀ n ∈ x.1.weights Try.prog t, n ≤ reachBytes) :
    ∃ n, ∀ (i : Nat) (t' o : Nat), L[i]? = some (t', o) → ∃ y, DataW.trod enc Try.prog W base (fun _ => true) held n t' ((cs.drop o).take (Try.prog.cellsOf t')) = some y ∧ ∀ k ∈ y.1.weights Try.prog t', k ≤ reachBytes := by
  obtain ⟨xs, n, _, rfl, _, hxl, hall⟩ := DataW.trod_struct hu h
  refine ⟨n, fun i t' o hi => ?_⟩
  rw [← hfs, List.getElem?_map] at hi
  obtain ⟨f, hf, he⟩ := Option.map_eq_some_iff.1 hi
  cases he
  have hf' : fs[i]? = some f := by simpa using hf
  have h1 := hall i f hf'
  have hil : i < xs.length := by rw [hxl]; exact (Array.getElem?_eq_some_iff.1 hf').1
  rw [List.getElem?_eq_getElem hil] at h1
  refine ⟨xs[i], h1, fun k hk => hw k ?_⟩
  simp only [DataW.weights, hu]
  exact DataW.weights_mem_each (j := i) (t := f.type) (d := xs[i].1) (by rw [List.getElem?_map, hf]; rfl) (by rw [List.getElem?_map, List.getElem?_eq_getElem hil]; rfl) k hk

theorem open_str {cs : List Value} {x : DataW H × List MemPlace} (h : DataW.trod enc Try.prog W base (fun _ => true) held fuel 9 cs = some x) : ∃ n, cs = [.string n] := by
  cases fuel with
  | zero => simp [DataW.trod] at h
  | succ m =>
    unfold DataW.trod at h
    rw [us] at h
    split at h <;> simp_all
theorem open_u8 {cs : List Value} {x : DataW H × List MemPlace} (h : DataW.trod enc Try.prog W base (fun _ => true) held fuel 5 cs = some x) : ∃ b : UInt8, cs = [.int .u8 (b.toNat : Int)] := by
  have : ∃ n, cs = [.int .u8 n] ∧ (Lit.int .u8 n).wf = true := by
    cases fuel with
    | zero => simp [DataW.trod] at h
    | succ m =>
      unfold DataW.trod at h
      rw [ub] at h
      split at h <;> simp_all
  obtain ⟨n, rfl, hn⟩ := this
  have hr : 0 ≤ n ∧ n < 256 := by
    have h1 : IntKind.min .u8 = 0 := rfl
    have h2 : IntKind.max .u8 = 255 := rfl
    simp [Lit.wf, h1, h2] at hn
    omega
  refine ⟨UInt8.ofNat n.toNat, ?_⟩
  have : (UInt8.ofNat n.toNat).toNat = n.toNat := by
    rw [UInt8.toNat_ofNat']
    exact Nat.mod_eq_of_lt (by omega)
  rw [this]
  congr 2
  omega
theorem open_ints {cs : List Value} {x : DataW H × List MemPlace} (h : DataW.trod enc Try.prog W base (fun _ => true) held fuel 35 cs = some x) (hw : ∀ n ∈ x.1.weights Try.prog 35, n ≤ reachBytes) :
    ∃ (s : Sl) (l : List Int), cs = [.slice s.a s.len s.cap] ∧ SlX W s 1 (iv l) ∧ l.length ≤ 2 ^ 44 := by
  obtain ⟨s, l, h1, h2, h3, _⟩ := open_text uI ui ci bi h hw
  exact ⟨s, l, h1, h2, by omega⟩
theorem open_bytes {cs : List Value} {x : DataW H × List MemPlace} (h : DataW.trod enc Try.prog W base (fun _ => true) held fuel 33 cs = some x) (hw : ∀ n ∈ x.1.weights Try.prog 33, n ≤ reachBytes) :
    ∃ (s : Sl) (l : List UInt8), cs = [.slice s.a s.len s.cap] ∧ Bytes W s l ∧ l.length ≤ 2 ^ 47 := by
  obtain ⟨s, rows, rfl, hs, hl, hby, hr⟩ := open_rows uB cb (by decide) h hw
  obtain ⟨xs, ls, h1, h2, h3, h4⟩ := rows_of2 (cs := [.int .u8]) (β := UInt8) (Q := fun x y => x.1 = (y.toNat : Int)) rows (fun r hr' => by
    obtain ⟨_, n, y, hy, _⟩ := hr r hr'
    obtain ⟨b, rfl⟩ := open_u8 hy
    exact ⟨((b.toNat : Int), ()), b, rfl, rfl⟩)
  refine ⟨s, ls, rfl, ?_, ?_⟩
  · rw [h1] at hs
    have e : flat [.int .u8] xs = bv ls := by
      clear h1 h2 hs
      induction xs generalizing ls with
      | nil =>
        cases ls with
        | nil => rfl
        | cons y r => simp at h3
      | cons x r ih =>
        cases ls with
        | nil => simp at h3
        | cons y q =>
          have h0 := h4 0 x y rfl rfl
          have := ih q (by simpa using h3) fun i x' y' hx hy => h4 (i + 1) x' y' (by simpa using hx) (by simpa using hy)
          simp only [flat, List.flatMap_cons] at this ⊢
          rw [this]
          obtain ⟨n, ⟨⟩⟩ := x
          dsimp only at h0
          subst h0
          rfl
    rw [e] at hs; exact hs
  · rw [← h3, h2, hl]
    rw [bb1] at hby
    unfold reachBytes at hby
    omega

theorem list2 (cs : List Value) (h : cs.length = 2) : ∃ v0 v1, cs = [v0, v1] := by
  match cs, h with
  | [v0, v1], _ => exact ⟨v0, v1, rfl⟩
theorem list5 (cs : List Value) (h : cs.length = 5) : ∃ v0 v1 v2 v3 v4, cs = [v0, v1, v2, v3, v4] := by
  match cs, h with
  | [v0, v1, v2, v3, v4], _ => exact ⟨v0, v1, v2, v3, v4, rfl⟩
theorem list8 (cs : List Value) (h : cs.length = 8) : ∃ v0 v1 v2 v3 v4 v5 v6 v7, cs = [v0, v1, v2, v3, v4, v5, v6, v7] := by
  match cs, h with
  | [v0, v1, v2, v3, v4, v5, v6, v7], _ => exact ⟨v0, v1, v2, v3, v4, v5, v6, v7, rfl⟩

theorem open_cut {cs : List Value} {x : DataW H × List MemPlace} (hl : cs.length = 2) (h : DataW.trod enc Try.prog W base (fun _ => true) held fuel 37 cs = some x) (hw : ∀ n ∈ x.1.weights Try.prog 37, n ≤ reachBytes) :
    ∃ (c : Cells.T c37) (l : List Int), cs = Cells.vals c37 c ∧ SlX W c.2.1 1 (iv l) ∧ l.length ≤ 2 ^ 44 := by
  obtain ⟨fs, hu, hfs⟩ := sCut
  obtain ⟨n, hall⟩ := open_fields hu hfs h hw
  obtain ⟨v0, v1, rfl⟩ := list2 cs hl
  obtain ⟨y0, h0, _⟩ := hall 0 _ _ rfl
  obtain ⟨y1, h1, hw1⟩ := hall 1 _ _ rfl
  rw [ci] at h0
  rw [cis] at h1
  obtain ⟨n0, e0, _⟩ := open_i64 ui h0
  obtain ⟨s, l, e1, g1, g2⟩ := open_ints h1 hw1
  simp at e0 e1
  subst e0 e1
  exact ⟨(n0, s, ()), l, rfl, g1, g2⟩

theorem open_fault {cs : List Value} {x : DataW H × List MemPlace} (hl : cs.length = 5) (h : DataW.trod enc Try.prog W base (fun _ => true) held fuel 74 cs = some x) (hw : ∀ n ∈ x.1.weights Try.prog 74, n ≤ reachBytes) :
    ∃ (r : Cells.T c74) (f : Int × Fault), cs = Cells.vals c74 r ∧ r.1 = f.1 ∧ r.2.1 = f.2.kind ∧ r.2.2.1 = f.2.part ∧ r.2.2.2.1 = f.2.names ∧ SlX W r.2.2.2.2.1 1 (iv f.2.bytes) ∧ f.2.bytes.length ≤ 2 ^ 44 ∧ Lie (fun k => k < W.heap.size) r.2.2.2.2.1 := by
  obtain ⟨fs, hu, hfs⟩ := sFault
  obtain ⟨n, hall⟩ := open_fields hu hfs h hw
  obtain ⟨v0, v1, v2, v3, v4, rfl⟩ := list5 cs hl
  obtain ⟨y0, h0, _⟩ := hall 0 _ _ rfl
  obtain ⟨y1, h1, _⟩ := hall 1 _ _ rfl
  obtain ⟨y2, h2, _⟩ := hall 2 _ _ rfl
  obtain ⟨y3, h3, hw3⟩ := hall 3 _ _ rfl
  rw [ci] at h0 h1 h2
  rw [ccut] at h3
  obtain ⟨n0, e0, _⟩ := open_i64 ui h0
  obtain ⟨n1, e1, _⟩ := open_i64 ui h1
  obtain ⟨n2, e2, _⟩ := open_i64 ui h2
  obtain ⟨⟨nm, s, ⟨⟩⟩, l, e3, g1, g2⟩ := open_cut rfl h3 hw3
  simp [Cells.vals, Cell.val] at e0 e1 e2 e3
  obtain ⟨rfl, rfl⟩ := e3
  subst e0 e1 e2
  exact ⟨(n0, n1, n2, nm, s, ()), (n0, ⟨n1, n2, nm, l⟩), rfl, rfl, rfl, rfl, rfl, g1, g2, SlX.lie g1⟩

theorem open_faults {cs : List Value} {x : DataW H × List MemPlace} (h : DataW.trod enc Try.prog W base (fun _ => true) held fuel 34 cs = some x) (hw : ∀ n ∈ x.1.weights Try.prog 34, n ≤ reachBytes) :
    ∃ (s : Sl) (rows : List (Cells.T c74)) (fl : List (Int × Fault)), cs = [.slice s.a s.len s.cap] ∧ FaultsIn W (fun k => k < W.heap.size) s rows fl ∧ fl.length * 56 ≤ 2 ^ 47 := by
  obtain ⟨s, rows, rfl, hs, hl, hby, hr⟩ := open_rows uF cfault (by decide) h hw
  obtain ⟨xs, ls, h1, h2, h3, h4⟩ := rows_of2 (cs := c74) (β := Int × Fault) (Q := fun r f => r.1 = f.1 ∧ r.2.1 = f.2.kind ∧ r.2.2.1 = f.2.part ∧ r.2.2.2.1 = f.2.names ∧ SlX W r.2.2.2.2.1 1 (iv f.2.bytes) ∧ f.2.bytes.length ≤ 2 ^ 44 ∧ Lie (fun k => k < W.heap.size) r.2.2.2.2.1) rows (fun r hr' => by
    obtain ⟨hrl, n, y, hy, hwy⟩ := hr r hr'
    exact open_fault hrl hy hwy)
  rw [h1] at hs
  refine ⟨s, xs, ls, rfl, ⟨hs, SlX.lie hs, h3, h4⟩, ?_⟩
  rw [← h3, h2, hl]
  rw [bfault] at hby
  unfold reachBytes at hby
  omega

theorem open_op {cs : List Value} {x : DataW H × List MemPlace} (hl : cs.length = 8) (h : DataW.trod enc Try.prog W base (fun _ => true) held fuel 39 cs = some x) (hw : ∀ n ∈ x.1.weights Try.prog 39, n ≤ reachBytes) :
    ∃ (y : Cells.T c39) (o : DOp), cs = Cells.vals c39 y ∧ OpIn W (fun k => k < W.heap.size) y o := by
  obtain ⟨fs, hu, hfs⟩ := sOp
  obtain ⟨n, hall⟩ := open_fields hu hfs h hw
  obtain ⟨v0, v1, v2, v3, v4, v5, v6, v7, rfl⟩ := list8 cs hl
  obtain ⟨y0, h0, _⟩ := hall 0 _ _ rfl
  obtain ⟨y1, h1, _⟩ := hall 1 _ _ rfl
  obtain ⟨y2, h2, _⟩ := hall 2 _ _ rfl
  obtain ⟨y3, h3, _⟩ := hall 3 _ _ rfl
  obtain ⟨y4, h4, hw4⟩ := hall 4 _ _ rfl
  obtain ⟨y5, h5, hw5⟩ := hall 5 _ _ rfl
  obtain ⟨y6, h6, hw6⟩ := hall 6 _ _ rfl
  rw [ci] at h0 h1
  rw [cstr] at h2 h3
  rw [cbs] at h4
  rw [cfs] at h5
  rw [ccut] at h6
  obtain ⟨n0, e0, _⟩ := open_i64 ui h0
  obtain ⟨n1, e1, _⟩ := open_i64 ui h1
  obtain ⟨n2, e2⟩ := open_str h2
  obtain ⟨n3, e3⟩ := open_str h3
  obtain ⟨s4, l4, e4, g4, k4⟩ := open_bytes h4 hw4
  obtain ⟨s5, rows, fl, e5, g5, k5⟩ := open_faults h5 hw5
  obtain ⟨⟨nm, s6, ⟨⟩⟩, l6, e6, g6, k6⟩ := open_cut rfl h6 hw6
  simp [Cells.vals, Cell.val] at e0 e1 e2 e3 e4 e5 e6
  obtain ⟨rfl, rfl⟩ := e6
  subst e0 e1 e2 e3 e4 e5
  exact ⟨(n0, n1, n2, n3, s4, s5, nm, s6, ()), ⟨n0, n1, n2, n3, l4, fl, nm, l6⟩, rfl, ⟨rfl, rfl, rfl, rfl, g4, SlX.lie g4, k4, ⟨rows, g5⟩, k5, rfl, g6, SlX.lie g6⟩⟩

theorem open_ops {cs : List Value} {x : DataW H × List MemPlace} (h : DataW.trod enc Try.prog W base (fun _ => true) held fuel 22 cs = some x) (hw : ∀ n ∈ x.1.weights Try.prog 22, n ≤ reachBytes) :
    ∃ (s : Sl) (ys : List (Cells.T c39)) (os : List DOp), cs = [.slice s.a s.len s.cap] ∧ OpsIn W (fun k => k < W.heap.size) s ys os := by
  obtain ⟨s, rows, rfl, hs, hl, hby, hr⟩ := open_rows uOps cop (by decide) h hw
  obtain ⟨xs, ls, h1, h2, h3, h4⟩ := rows_of2 (cs := c39) (β := DOp) (Q := fun y o => OpIn W (fun k => k < W.heap.size) y o) rows (fun r hr' => by
    obtain ⟨hrl, n, y, hy, hwy⟩ := hr r hr'
    exact open_op hrl hy hwy)
  rw [h1] at hs
  refine ⟨s, xs, ls, rfl, ⟨hs, SlX.lie hs, h3, ?_, h4⟩⟩
  rw [← h3, h2, hl]
  rw [bop] at hby
  unfold reachBytes at hby
  omega
end
end Go.Proofs.Ytdabehgbhndimaa
