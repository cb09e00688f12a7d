/-
  Arguments opened: what a reading says of the cells; and the end of a call that leaves all that was there as it was.
-/
import Derived.Test.YtdabehgbhndimaaVxR
import Derived.ProofKit
import Derived.SizedLaws
import Derived.Carry
set_option linter.unusedSimpArgs false
set_option linter.unusedVariables false
namespace Go.Vx
open Go Go.ChangeShapes

theorem cell_spot {w : World} {a : Addr} {v : Value} (h : w.cell? a = some v) : a.spot = none ∧ ∃ c t fr, w.heap[a.block]? = some (.cells c t fr) ∧ c[a.off]? = some v := by
  unfold World.cell? at h
  split at h
  · rename_i c t fr hh
    split at h
    · cases h
    · rename_i hs
      exact ⟨by cases hsp : a.spot with | none => rfl | some _ => rw [hsp] at hs; exact absurd rfl hs, c, t, fr, hh, h⟩
  · cases h

theorem add_block (a : Addr) (n : Nat) : (a.add n).block = a.block := by unfold Addr.add; split <;> rfl
theorem add_spot (a : Addr) (n : Nat) (h : a.spot = none) : a.add n = ⟨a.block, a.off + n, none⟩ := by
  obtain ⟨b, o, s⟩ := a
  simp only at h
  subst h
  exact addr_add b o n

theorem cells_get {w : World} {base : Nat} {a : Addr} {n : Nat} {r : List Value} (h : w.cells? base a n = some r) : r.length = n ∧ ∀ j, j < n → w.cell? (a.add j) = r[j]? := by
  unfold World.cells? at h
  split at h
  · have hl := mapM_some_length h
    rw [List.length_range] at hl
    refine ⟨hl, fun j hj => ?_⟩
    exact mapM_some_get h j j (by simp [hj])
  · cases h

section
variable {H : Type} {enc : TypeId × Value → H} {P : Program} {W : World} {base fuel : Nat} {held : Bool}

theorem weights_all {e : TypeId} {d : DataW H} {n : Nat} (hn : n ∈ d.weights P e) : ∀ l : List (DataW H), d ∈ l → n ∈ DataW.weightsAll P e l
  | [], h => by cases h
  | x :: r, h => by
    simp only [DataW.weightsAll, List.mem_append]
    rcases List.mem_cons.1 h with rfl | h
    · exact .inl hn
    · exact .inr (weights_all hn r h)

/-- a slice: its elements' cells, each as it is read -/
theorem open_rows {t e : TypeId} {sz : Nat} {cs : List Value} {x : DataW H × List MemPlace} (ht : P.underlying t = some (.slice e)) (hsz : P.cellsOf e = sz) (hpos : 0 < sz)
    (h : DataW.trod enc P W base (fun _ => true) held fuel t cs = some x) (hw : ∀ n ∈ x.1.weights P t, n ≤ reachBytes) :
    ∃ (s : Sl) (rows : List (List Value)), cs = [.slice s.a s.len s.cap] ∧ SlX W s sz rows.flatten ∧ rows.length = s.len ∧ s.len * P.bytesOf e ≤ reachBytes ∧
      ∀ r ∈ rows, r.length = sz ∧ ∃ n y, DataW.trod enc P W base (fun _ => true) held n e r = some y ∧ ∀ k ∈ y.1.weights P e, k ≤ reachBytes := by
  rcases DataW.trod_slice ht h with ⟨rfl, rfl⟩ | ⟨a, len, cap, elems, rest, n, _, rfl, rfl, hb, hl, hm, hlen, hel, hsp, _⟩
  · exact ⟨⟨none, 0, 0⟩, [], rfl, ⟨.inl ⟨rfl, rfl⟩⟩, rfl, by simp, fun r hr => by cases hr⟩
  obtain ⟨hrl, hre⟩ := hsp rfl
  subst hsz
  have each : ∀ i, i < len → ∃ r y, W.cells? base (a.add (i * P.cellsOf e)) (P.cellsOf e) = some r ∧ elems[i]? = some y ∧ DataW.trod enc P W base (fun _ => true) held n e r = some y := by
    intro i hi
    have h1 := hel i hi
    rw [List.getElem?_eq_getElem (by omega)] at h1
    obtain ⟨r, h2, h3⟩ := Option.bind_eq_some_iff.1 h1
    exact ⟨r, _, h2, List.getElem?_eq_getElem (by omega), h3⟩
  have wn : (elems.length + rest.length) * P.bytesOf e ≤ reachBytes := by
    have := hw ((elems.length + rest.length) * P.bytesOf e) (by simp [DataW.weights, ht])
    exact this
  refine ⟨⟨some a, len, cap⟩, (List.range len).map fun i => (W.cells? base (a.add (i * P.cellsOf e)) (P.cellsOf e)).getD [], rfl, ?_, by simp, ?_, ?_⟩
  · by_cases h0 : len = 0
    · subst h0; exact ⟨.inl ⟨rfl, rfl⟩⟩
    -- the last place that is read
    have last : ∃ v, W.cell? ((a.add ((cap - 1) * P.cellsOf e)).add (P.cellsOf e - 1)) = some v := by
      have fin : ∀ r, W.cells? base (a.add ((cap - 1) * P.cellsOf e)) (P.cellsOf e) = some r → ∃ v, W.cell? ((a.add ((cap - 1) * P.cellsOf e)).add (P.cellsOf e - 1)) = some v := by
        intro r hr
        obtain ⟨g1, g2⟩ := cells_get hr
        rw [g2 _ (by omega)]
        exact ⟨_, List.getElem?_eq_getElem (by omega)⟩
      by_cases hcl : cap - 1 < len
      · obtain ⟨r, _, h1, _⟩ := each (cap - 1) hcl
        exact fin r h1
      · have h1 := hre (cap - 1 - len) (by omega)
        rw [show len + (cap - 1 - len) = cap - 1 by omega] at h1
        rw [List.getElem?_eq_getElem (by omega)] at h1
        obtain ⟨r, h2, _⟩ := Option.bind_eq_some_iff.1 h1
        exact fin r h2
    obtain ⟨v, hv⟩ := last
    have hspot : a.spot = none := by
      obtain ⟨r, _, h1, _⟩ := each 0 (by omega)
      obtain ⟨g1, g2⟩ := cells_get h1
      have h2 := g2 0 (by omega)
      rw [Nat.zero_mul, List.getElem?_eq_getElem (by omega)] at h2
      exact (cell_spot h2).1
    rw [add_spot a _ hspot, addr_add] at hv
    obtain ⟨_, c, tt, fr, hh, hc⟩ := cell_spot hv
    simp only at hh hc
    have hlast := (Array.getElem?_eq_some_iff.1 hc).1
    have hcap : (cap - 1) * P.cellsOf e + P.cellsOf e = cap * P.cellsOf e := by rw [← Nat.succ_mul]; congr 1; omega
    have rowlen : ∀ i, i < len → ((W.cells? base (a.add (i * P.cellsOf e)) (P.cellsOf e)).getD []).length = P.cellsOf e := by
      intro i hi
      obtain ⟨r, _, h1, _⟩ := each i hi
      rw [h1]; exact (cells_get h1).1
    refine ⟨.inr ⟨tt, ?_, hl, .inr ⟨a.block, a.off, c, fr, ?_, hh, by simp only; omega, ?_⟩⟩⟩
    · have key : ∀ (k : Nat), k ≤ len → (((List.range k).map fun i => (W.cells? base (a.add (i * P.cellsOf e)) (P.cellsOf e)).getD []).flatten).length = k * P.cellsOf e := by
        intro k
        induction k with
        | zero => intro _; simp
        | succ k ih =>
          intro hk
          rw [List.range_succ, List.map_append, List.flatten_append, List.length_append, ih (by omega), Nat.succ_mul]
          simp [rowlen k (by omega)]
      exact key len (Nat.le_refl _)
    · obtain ⟨b, o, s⟩ := a
      simp only at hspot
      subst hspot
      rfl
    · have key : ∀ (k : Nat), k ≤ len → ∀ i v, (((List.range k).map fun i => (W.cells? base (a.add (i * P.cellsOf e)) (P.cellsOf e)).getD []).flatten)[i]? = some v → c[a.off + i]? = some v := by
        intro k
        induction k with
        | zero => intro _ i v hi; simp at hi
        | succ k ih =>
          intro hk i v hi
          have hkl : (((List.range k).map fun i => (W.cells? base (a.add (i * P.cellsOf e)) (P.cellsOf e)).getD []).flatten).length = k * P.cellsOf e := by
            have key2 : ∀ (k : Nat), k ≤ len → (((List.range k).map fun i => (W.cells? base (a.add (i * P.cellsOf e)) (P.cellsOf e)).getD []).flatten).length = k * P.cellsOf e := by
              intro k
              induction k with
              | zero => intro _; simp
              | succ k ih =>
                intro hk
                rw [List.range_succ, List.map_append, List.flatten_append, List.length_append, ih (by omega), Nat.succ_mul]
                simp [rowlen k (by omega)]
            exact key2 k (by omega)
          rw [List.range_succ, List.map_append, List.flatten_append] at hi
          by_cases hik : i < k * P.cellsOf e
          · rw [List.getElem?_append_left (by omega)] at hi
            exact ih (by omega) i v hi
          · rw [List.getElem?_append_right (by omega), hkl] at hi
            simp only [List.map_cons, List.map_nil, List.flatten_cons, List.flatten_nil, List.append_nil] at hi
            obtain ⟨r, _, h1, _⟩ := each k (by omega)
            rw [h1] at hi
            simp only [Option.getD_some] at hi
            obtain ⟨g1, g2⟩ := cells_get h1
            have hj := (List.getElem?_eq_some_iff.1 hi).1
            have := g2 (i - k * P.cellsOf e) (by omega)
            rw [hi, add_spot a _ hspot, addr_add] at this
            obtain ⟨_, c', t', fr', hh', hc'⟩ := cell_spot this
            simp only at hh' hc'
            rw [hh] at hh'
            cases hh'
            rw [show a.off + i = a.off + k * P.cellsOf e + (i - k * P.cellsOf e) by omega]
            exact hc'
      exact key len (Nat.le_refl _)
  · have : len * P.bytesOf e ≤ (elems.length + rest.length) * P.bytesOf e := Nat.mul_le_mul_right _ (by omega)
    exact Nat.le_trans this wn
  · intro r hr
    obtain ⟨i, hi, rfl⟩ := List.mem_map.1 hr
    have hi := List.mem_range.1 hi
    obtain ⟨r, y, h1, h2, h3⟩ := each i hi
    rw [h1]
    refine ⟨(cells_get h1).1, n, y, h3, fun k hk => hw k ?_⟩
    simp only [DataW.weights, ht, List.mem_cons, List.mem_append]
    exact .inr (.inl (weights_all hk _ (List.mem_map.2 ⟨y, List.mem_of_getElem? h2, rfl⟩)))

/-- an integer, read -/
theorem open_i64 {t : TypeId} {cs : List Value} {x : DataW H × List MemPlace} (ht : P.underlying t = some (.int .i64)) (h : DataW.trod enc P W base (fun _ => true) held fuel t cs = some x) : ∃ n, cs = [.int .i64 n] ∧ (Lit.int .i64 n).wf = true := by
  cases fuel with
  | zero => simp [DataW.trod] at h
  | succ m =>
    unfold DataW.trod at h
    rw [ht] at h
    split at h <;> simp_all

/-- choose an element for each row -/
theorem rows_of {cs : List Cell} {Q : Cells.T cs → Prop} : ∀ (rows : List (List Value)), (∀ r ∈ rows, ∃ x, r = Cells.vals cs x ∧ Q x) → ∃ xs : List (Cells.T cs), rows.flatten = flat cs xs ∧ xs.length = rows.length ∧ ∀ x ∈ xs, Q x
  | [], _ => ⟨[], rfl, rfl, fun x hx => by cases hx⟩
  | r :: rs, h => by
    obtain ⟨x, hx, hq⟩ := h r List.mem_cons_self
    obtain ⟨xs, h1, h2, h3⟩ := rows_of rs fun r' hr' => h r' (List.mem_cons_of_mem _ hr')
    refine ⟨x :: xs, ?_, by simp [h2], fun y hy => ?_⟩
    · rw [List.flatten_cons, h1, hx]; rfl
    · rcases List.mem_cons.1 hy with rfl | hy
      · exact hq
      · exact h3 y hy

/-- a text: a slice of integers -/
theorem open_text {t e : TypeId} {cs : List Value} {x : DataW H × List MemPlace} (ht : P.underlying t = some (.slice e)) (he : P.underlying e = some (.int .i64)) (hc : P.cellsOf e = 1) (hb : P.bytesOf e = 8)
    (h : DataW.trod enc P W base (fun _ => true) held fuel t cs = some x) (hw : ∀ n ∈ x.1.weights P t, n ≤ reachBytes) :
    ∃ (s : Sl) (l : List Int), cs = [.slice s.a s.len s.cap] ∧ SlX W s 1 (l.map (Value.int .i64)) ∧ l.length ≤ 2 ^ 44 - 512 ∧ ∀ n ∈ l, (Lit.int .i64 n).wf = true := by
  obtain ⟨s, rows, rfl, hs, hl, hby, hr⟩ := open_rows ht hc (by decide) h hw
  obtain ⟨xs, h1, h2, h3⟩ := rows_of (cs := [.int .i64]) (Q := fun x => (Lit.int .i64 x.1).wf = true) rows (fun r hr' => by
    obtain ⟨_, n, y, hy, _⟩ := hr r hr'
    obtain ⟨k, rfl, hk⟩ := open_i64 he hy
    exact ⟨(k, ()), rfl, hk⟩)
  refine ⟨s, xs.map (·.1), rfl, ?_, ?_, ?_⟩
  · rw [h1] at hs
    have e : flat [.int .i64] xs = (xs.map (·.1)).map (Value.int .i64) := by
      simp only [flat, List.map_map, List.flatMap_def]
      clear h1 h2 h3 hs
      induction xs with
      | nil => rfl
      | cons x r ih => simp only [List.map_cons, List.flatten_cons, ih]; rfl
    rw [e] at hs; exact hs
  · rw [List.length_map, h2, hl]
    rw [hb] at hby
    unfold reachBytes at hby
    omega
  · intro n hn
    obtain ⟨x, hx, rfl⟩ := List.mem_map.1 hn
    exact h3 x hx
end
end Go.Vx

namespace Go.Vx
open Go Go.ChangeShapes Go.RowKit
section
variable {H : Type} {enc : TypeId × Value → H} {P : Program} {W W' : World}

theorem Ext.below (e : Ext W W') : Below W.heap.size W W' := ⟨e.os, e.tape, e.output, e.size, fun k hk => e.at_ k hk id⟩

theorem stays_all (hl : laidOutB P = true) {sp : Nat → Bool} : ∀ {ts : List TypeId} {vs : List Value} {ds : List (DataW H)} {ps : List MemPlace}, (∀ t ∈ ts, P.readableRec t = true ∧ t < P.types.size) →
    DataW.TrodAll enc P W 0 (fun _ => true) true ts vs ds ps → (∀ p ∈ ps, W.sameAt W' p) → (∀ p ∈ ps, sp p.block = true) → DataW.TrodAll enc P W' 0 sp true ts vs ds ps
  | [], [], [], _, _, h, _, _ => h
  | t :: ts, v :: vs, d :: ds, ps, hr, ⟨p, q, h1, h2, e⟩, hs, hsp => by
    subst e
    exact ⟨p, q, WideElems.Trod_stays hl (hr t List.mem_cons_self).1 (hr t List.mem_cons_self).2 h1 (fun x hx => hs x (List.mem_append_left _ hx)) (fun x hx => hsp x (List.mem_append_left _ hx)),
      stays_all hl (fun t' ht' => hr t' (List.mem_cons_of_mem _ ht')) h2 (fun x hx => hs x (List.mem_append_right _ hx)) (fun x hx => hsp x (List.mem_append_right _ hx)), rfl⟩
  | [], _ :: _, _, _, _, h, _, _ => h.elim
  | [], [], _ :: _, _, _, h, _, _ => h.elim
  | _ :: _, [], _, _, _, h, _, _ => h.elim
  | _ :: _, _ :: _, [], _, _, h, _, _ => h.elim

/-- the end of a law: true, and all that was there as it was -/
theorem post_same {f : Func} {s : ChangeSpec} {apart fresh handsOn again : Bool} {args : Array Value} {ds gs : List (DataW H)} {before : List MemPlace} {tb : TypeId}
    (hW : DataW.Whole enc P f.params.toList s.vars apart W args.toList ds gs before) (hv : s.vars = []) (hr : f.resultTypes = #[tb]) (hb : P.underlying tb = some .bool)
    (hs : s.fn H (ds ++ gs) = { results := [.lit (.bool true)], args := ds }) (hl : laidOutB P = true) (hrd : ∀ t ∈ f.params.toList, P.readableRec t = true ∧ t < P.types.size)
    (e : Ext W W') : s.post enc P f apart fresh handsOn again W args (.bool true) W' := by
  have hlt := hW.lt
  have hW0 := hW
  obtain ⟨pa, pv, hA, hV, rfl, hz, hn⟩ := hW
  have hBl := e.below
  have hsame : ∀ p ∈ pa ++ pv, W.sameAt W' p := fun p hp => hBl.same (hlt p hp)
  have hold : ∀ p ∈ pa ++ pv, (fun b => decide (b < W.heap.size)) p.block = true := fun p hp => by simpa using hlt p hp
  have hres : ∀ (b : Nat) (sp : Nat → Bool) (hd : Bool), DataW.TrodAll enc P W' b sp hd f.resultTypes.toList ((Value.bool true).resultList f.resultTypes.size) (s.fn H (ds ++ gs)).results [] := by
    intro b sp hd
    rw [hs, hr]
    exact trodAll_mk1 ⟨1, by simp [DataW.trod, hb, Value.cells]⟩
  have hargs : ∀ sp : Nat → Bool, (∀ p ∈ pa, sp p.block = true) → DataW.TrodAll enc P W' 0 sp true f.params.toList args.toList (s.fn H (ds ++ gs)).args pa := by
    intro sp hsp
    rw [hs]
    exact stays_all hl hrd hA (fun p hp => hsame p (List.mem_append_left _ hp)) hsp
  have hgs : gs = [] ∧ pv = [] := by
    rw [hv] at hV
    exact trodVars_none hV
  obtain ⟨rfl, rfl⟩ := hgs
  have hvars : ∀ sp : Nat → Bool, DataW.TrodVars enc P W' sp s.vars (s.fn H (ds ++ [])).vars [] := by
    intro sp
    rw [hs, hv]
    exact rfl
  have hall : ∀ p ∈ ([] ++ pa) ++ [], p ∈ pa ++ [] := fun p hp => by simpa using hp
  refine ⟨ds, [], pa ++ [], [], pa, [], hW0, hres _ _ _, hargs _ (fun p hp => hold p (List.mem_append_left _ hp)), hvars _, hBl.frame _, fun _ => ⟨ok_one hr rfl (okWide_bool_mk hb true), [.lit (.bool true)] ++ ds, [], ([] ++ pa) ++ [], ?_, fun p hp _ => hall p hp⟩⟩
  have h1 := trodAll_append (hargs (fun _ => true) (fun _ _ => rfl)) (hres 0 (fun _ => true) true)
  rw [hs] at h1
  have h2 := hvars (fun _ => true)
  rw [hs] at h2
  refine ⟨[] ++ pa, [], h1, h2, rfl, ?_, fun ha => ?_⟩
  · intro b off hp
    have hp' := hall _ hp
    have hb' := hlt _ hp'
    rw [hBl.frozen (p := ⟨b, off, none⟩) hb']
    exact hz b off hp'
  · have := hn ha
    simpa using this
end
end Go.Vx
