/- What the reading of an argument says of memory: steps, texts, lists of texts. Conditions: the form of the claim, its reach. -/
import Derived.Test.YtocdfkeflakemaaBnk
import Derived.Test.YtocdfkeflakemaaRows
import Derived.Test.YtocdfkeflakemaaVxO
set_option linter.unusedSimpArgs false
set_option linter.unusedVariables false
namespace Go.Proofs.Ytocdfkeflakemaa
open Go Go.Vx Go.ChangeShapes

theorem Try.own : ownKnob Try.prog.godebug = none := by kernel_rfl
theorem Try.laidOut : laidOutB Try.prog = true := by kernel_rfl
theorem u22 : Try.prog.underlying 22 = some (.slice 55) := i22_ok.und
theorem u3 : Try.prog.underlying 3 = some (.int .i64) := i3_ok.und
theorem u4 : Try.prog.underlying 4 = some .bool := i4_ok.und
theorem c3_1 : Try.prog.cellsOf 3 = 1 := by kernel_rfl
theorem b3_8 : Try.prog.bytesOf 3 = 8 := by kernel_rfl
theorem c23_1 : Try.prog.cellsOf 23 = 1 := by kernel_rfl
theorem b23_24 : Try.prog.bytesOf 23 = 24 := by kernel_rfl
theorem c55_5 : Try.prog.cellsOf 55 = 5 := by kernel_rfl
theorem b55_56 : Try.prog.bytesOf 55 = 56 := by kernel_rfl
theorem u55 : ∃ fs : Array Field, Try.prog.underlying 55 = some (.struct fs) ∧ fs.toList.map (fun f => (f.type, f.offset)) = [(3, 0), (3, 1), (3, 2), (3, 3), (23, 4)] := ⟨_, i55_ok.und, rfl⟩

section
variable {H : Type} {enc : TypeId × Value → H} {W : World} {base fuel : Nat} {held : Bool}

theorem open_txt {cs : List Value} {x : DataW H × List MemPlace} (h : DataW.trod enc Try.prog W base (fun _ => true) held fuel 23 cs = some x) (hw : ∀ n ∈ x.1.weights Try.prog 23, n ≤ reachBytes) :
    ∃ (s : Sl) (l : List Int), cs = [.slice s.a s.len s.cap] ∧ Txt W s l ∧ l.length ≤ 2 ^ 44 - 512 := by
  obtain ⟨s, l, h1, h2, h3, _⟩ := open_text u23 u3 c3_1 b3_8 h hw
  exact ⟨s, l, h1, h2, h3⟩

theorem list5 (cs : List Value) (h : cs.length = 5) : ∃ v0 v1 v2 v3 v4, cs = [v0, v1, v2, v3, v4] := by
  match cs, h with
  | [v0, v1, v2, v3, v4], _ => exact ⟨v0, v1, v2, v3, v4, rfl⟩

theorem open_step {cs : List Value} {x : DataW H × List MemPlace} (hl : cs.length = 5) (h : DataW.trod enc Try.prog W base (fun _ => true) held fuel 55 cs = some x) (hw : ∀ n ∈ x.1.weights Try.prog 55, n ≤ reachBytes) :
    ∃ y : Cells.T c55, cs = Cells.vals c55 y ∧ ∃ l, Txt W y.2.2.2.2.1 l ∧ l.length ≤ 2 ^ 44 - 512 := by
  obtain ⟨fs, hu, hfs⟩ := u55
  obtain ⟨xs, n, _, rfl, _, hxl, hall⟩ := DataW.trod_struct hu h
  obtain ⟨v0, v1, v2, v3, v4, rfl⟩ := list5 cs hl
  · clear hl
    have field : ∀ (i : Nat) (t o : Nat), [((3 : TypeId), 0), (3, 1), (3, 2), (3, 3), (23, 4)][i]? = some (t, o) → ∃ y, xs[i]? = some y ∧ DataW.trod enc Try.prog W base (fun _ => true) held n t (([v0, v1, v2, v3, v4].drop o).take (Try.prog.cellsOf t)) = some y ∧ ∀ k ∈ y.1.weights Try.prog t, k ≤ reachBytes := by
      intro i t o hi
      rw [← hfs, List.getElem?_map] at hi
      obtain ⟨f, hf, he⟩ := Option.map_eq_some_iff.1 hi
      cases he
      have hf' : fs[i]? = some f := by simpa using hf
      have h1 := hall i f hf'
      have hil : i < xs.length := by rw [hxl]; exact (Array.getElem?_eq_some_iff.1 hf').1
      rw [List.getElem?_eq_getElem hil] at h1
      refine ⟨xs[i], List.getElem?_eq_getElem hil, h1, fun k hk => hw k ?_⟩
      simp only [DataW.weights, hu]
      exact DataW.weights_mem_each (j := i) (t := f.type) (d := xs[i].1) (by rw [List.getElem?_map, hf]; rfl) (by rw [List.getElem?_map, List.getElem?_eq_getElem hil]; rfl) k hk
    obtain ⟨y0, _, h0, _⟩ := field 0 3 0 rfl
    obtain ⟨y1, _, h1, _⟩ := field 1 3 1 rfl
    obtain ⟨y2, _, h2, _⟩ := field 2 3 2 rfl
    obtain ⟨y3, _, h3, _⟩ := field 3 3 3 rfl
    obtain ⟨y4, _, h4, hw4⟩ := field 4 23 4 rfl
    rw [c3_1] at h0 h1 h2 h3
    rw [c23_1] at h4
    obtain ⟨n0, e0, _⟩ := open_i64 u3 h0
    obtain ⟨n1, e1, _⟩ := open_i64 u3 h1
    obtain ⟨n2, e2, _⟩ := open_i64 u3 h2
    obtain ⟨n3, e3, _⟩ := open_i64 u3 h3
    obtain ⟨s, l, e4, ht, hl⟩ := open_txt h4 hw4
    simp at e0 e1 e2 e3 e4
    subst e0 e1 e2 e3 e4
    exact ⟨(n0, n1, n2, n3, s, ()), rfl, l, ht, hl⟩

theorem open_steps {cs : List Value} {x : DataW H × List MemPlace} (h : DataW.trod enc Try.prog W base (fun _ => true) held fuel 22 cs = some x) (hw : ∀ n ∈ x.1.weights Try.prog 22, n ≤ reachBytes) :
    ∃ (s : Sl) (xs : List (Cells.T c55)), cs = [.slice s.a s.len s.cap] ∧ StepsIn W s xs := by
  obtain ⟨s, rows, rfl, hs, hl, hb, hr⟩ := open_rows u22 c55_5 (by decide) h hw
  obtain ⟨xs, e1, e2, hq⟩ := rows_of (cs := c55) (Q := fun y => ∃ l, Txt W y.2.2.2.2.1 l ∧ l.length ≤ 2 ^ 44 - 512) rows fun r hr' => by
    obtain ⟨hrl, n, y, hy, hwy⟩ := hr r hr'
    exact open_step hrl hy hwy
  rw [e1] at hs
  refine ⟨s, xs, rfl, hs, fun i x hx => hq x (List.mem_of_getElem? hx), ?_⟩
  rw [b55_56] at hb
  unfold reachBytes at hb
  omega

/-- a list of texts -/
structure TxtsIn (W : World) (s : Sl) (ss : List Sl) (ls : List (List Int)) : Prop where
  row : SlX W s 1 (ss.map sv)
  len : ss.length = ls.length
  txt : ∀ (i : Nat) (x : Sl) (l : List Int), ss[i]? = some x → ls[i]? = some l → Txt W x l ∧ l.length ≤ 2 ^ 44 - 512
  few : ss.length ≤ 2 ^ 44
theorem u34 : Try.prog.underlying 34 = some (.slice 23) := i34_ok.und
theorem open_txts {cs : List Value} {x : DataW H × List MemPlace} (h : DataW.trod enc Try.prog W base (fun _ => true) held fuel 34 cs = some x) (hw : ∀ n ∈ x.1.weights Try.prog 34, n ≤ reachBytes) :
    ∃ (s : Sl) (ss : List Sl) (ls : List (List Int)), cs = [.slice s.a s.len s.cap] ∧ TxtsIn W s ss ls := by
  obtain ⟨s, rows, rfl, hs, hl, hb, hr⟩ := open_rows u34 c23_1 (by decide) h hw
  have key : ∀ rows : List (List Value), (∀ r ∈ rows, ∃ (x : Sl) (l : List Int), r = [sv x] ∧ Txt W x l ∧ l.length ≤ 2 ^ 44 - 512) → ∃ (ss : List Sl) (ls : List (List Int)), rows.flatten = ss.map sv ∧ ss.length = rows.length ∧ ss.length = ls.length ∧ ∀ (i : Nat) (x : Sl) (l : List Int), ss[i]? = some x → ls[i]? = some l → Txt W x l ∧ l.length ≤ 2 ^ 44 - 512 := by
    intro rows
    induction rows with
    | nil => exact fun _ => ⟨[], [], rfl, rfl, rfl, fun i x l hx => by simp at hx⟩
    | cons r rs ih =>
      intro hr
      obtain ⟨x, l, rfl, h1, h2⟩ := hr _ List.mem_cons_self
      obtain ⟨ss, ls, g1, g2, g3, g4⟩ := ih fun r' hr' => hr r' (List.mem_cons_of_mem _ hr')
      refine ⟨x :: ss, l :: ls, by simp [g1], by simp [g2], by simp [g3], fun i x' l' hx hl => ?_⟩
      match i with
      | 0 => cases hx; cases hl; exact ⟨h1, h2⟩
      | i + 1 => exact g4 i x' l' (by simpa using hx) (by simpa using hl)
  obtain ⟨ss, ls, e1, e2, e3, hq⟩ := key rows fun r hr' => by
    obtain ⟨hrl, n, y, hy, hwy⟩ := hr r hr'
    obtain ⟨x, l, g1, g2, g3⟩ := open_txt hy hwy
    exact ⟨x, l, g1, g2, g3⟩
  rw [e1] at hs
  refine ⟨s, ss, ls, rfl, hs, e3, hq, ?_⟩
  rw [b23_24] at hb
  unfold reachBytes at hb
  omega
end
end Go.Proofs.Ytocdfkeflakemaa
