/-
  A range over a map that does not turn meanwhile: each entry once, in whatever order.
-/
import Derived.Test.YtdabehgbhndimaaVxK
set_option linter.unusedSimpArgs false
set_option linter.unusedVariables false
namespace Go.Vx
open Go

/-- an iterator over a map, and what it has given -/
structure Iter (w : World) (r m : Nat) (es done : List MapEntry) : Prop where
  at_ : ∃ clock, w.heap[m]? = some (.map es.toArray clock) ∧ (∀ x ∈ es, x.born < clock) ∧ w.heap[r]? = some (.mapIter (some m) clock (done.map (·.born)).toArray clock)
  nd : (es.map (·.born)).Nodup
  sub : ∀ x ∈ done, x ∈ es
  dnd : (done.map (·.born)).Nodup

section
variable {S : Nat → Prop} {w w' : World} {P : Program}

theorem Iter.ne {r m : Nat} {es done : List MapEntry} (h : Iter w r m es done) : r ≠ m := by
  rintro rfl
  obtain ⟨c, h1, _, h2⟩ := h.at_
  rw [h1] at h2; cases h2
theorem Iter.upd {r m : Nat} {es done : List MapEntry} (h : Iter w r m es done) (u : Upd S w w') (h1 : ¬ S r) (h2 : ¬ S m) : Iter w' r m es done := by
  obtain ⟨c, g1, g2, g3⟩ := h.at_
  exact ⟨⟨c, u.get g1 h2, g2, u.get g3 h1⟩, h.nd, h.sub, h.dnd⟩
theorem Iter.ext {r m : Nat} {es done : List MapEntry} (h : Iter w r m es done) (u : Ext w w') : Iter w' r m es done := h.upd u id id
/-- blocks of cells turn -/
theorem Iter.cells {r m : Nat} {es done : List MapEntry} (h : Iter w r m es done) (u : Upd S w w') (hS : ∀ k, S k → ∃ c t fr, w.heap[k]? = some (.cells c t fr)) : Iter w' r m es done := by
  obtain ⟨c, g1, g2, g3⟩ := h.at_
  refine h.upd u (fun hk => ?_) (fun hk => ?_)
  · obtain ⟨c, t, fr, hc⟩ := hS _ hk; rw [g3] at hc; cases hc
  · obtain ⟨c, t, fr, hc⟩ := hS _ hk; rw [g1] at hc; cases hc

theorem born_inj {es : List MapEntry} (hn : (es.map (·.born)).Nodup) {x y : MapEntry} (hx : x ∈ es) (hy : y ∈ es) (h : x.born = y.born) : x = y := by
  induction es with
  | nil => cases hx
  | cons z r ih =>
    simp only [List.map_cons, List.nodup_cons] at hn
    rcases List.mem_cons.1 hx with h1 | h1 <;> rcases List.mem_cons.1 hy with h2 | h2
    · rw [h1, h2]
    · rw [h1] at h; exact absurd (List.mem_map.2 ⟨y, h2, h.symm⟩ : z.born ∈ r.map (·.born)) hn.1
    · rw [h2] at h; exact absurd (List.mem_map.2 ⟨x, h1, h⟩ : z.born ∈ r.map (·.born)) hn.1
    · exact ih hn.2 h1 h2

theorem nodup_of_born {es : List MapEntry} (h : (es.map (·.born)).Nodup) : es.Nodup := (List.pairwise_map.1 h).imp fun hne e => hne (by rw [e])

theorem range_r {t kt et : TypeId} (ht : P.underlying t = some (.map kt et)) {m clock : Nat} {es : List MapEntry} (hm : w.heap[m]? = some (.map es.toArray clock)) (hb : ∀ x ∈ es, x.born < clock) (hn : (es.map (·.born)).Nodup) {K : Option Addr → World → Prop}
    (hK : ∀ r w', Iter w' r m es [] → Ext w w' → r = w.heap.size → K (some (at0 r)) w') : rawT P (.one (.one .ptr)) (Instr.range t (.map (some m))) K w := by
  have hg : (getObj m).run P w = .ok (.map es.toArray clock) w := by simp [getObj, Sem.run, hm]
  refine ⟨some (at0 w.heap.size), w.alloc (.mapIter (some m) clock #[] clock), ?_, hK _ _ ⟨⟨clock, (Ext.alloc w _).ext_get hm, hb, heap_alloc w _⟩, hn, (fun x hx => by cases hx), List.nodup_nil⟩ (Ext.alloc w _) rfl⟩
  simp [Instr.range, run_underlying ht, hg, newObj, Sem.run, World.alloc_eq, RTy.val, Ty.val, Cell.val]

theorem run_choose_map (n : Nat) (hn : 0 < n) : ∃ k w', (choose (.mapNext n)).run P w = .ok k w' ∧ k < n ∧ Ext w w' ∧ w'.heap = w.heap := by
  by_cases h : n ≤ 1
  · refine ⟨0, w, ?_, hn, Ext.refl w, rfl⟩
    simp [choose, Sem.run, Question.forced, h]
  · refine ⟨(Question.mapNext n).cut (w.tape w.drawn (.mapNext n)), w.drew, run_choose P _ (by simp [Question.forced, h]), ?_, Ext.drew w, rfl⟩
    exact Nat.mod_lt _ hn

theorem next_r {r m : Nat} {es done : List MapEntry} (h : Iter w r m es done) {t : TypeId} {K : Bool → List Value → World → Prop}
    (h0 : ∀ w', Ext w w' → w'.heap = w.heap → done.Perm es → K false [] w')
    (h1 : ∀ x w', x ∈ es → x ∉ done → Iter w' r m es (done ++ [x]) → Upd (fun k => k = r) w w' → w'.heap.size = w.heap.size → K true [x.key, x.val] w') :
    nextE P (Instr.next (.pointer (some (at0 r))) false t) K w := by
  obtain ⟨c, g1, g2, g3⟩ := h.at_
  have hr : ∀ W : World, W.heap = w.heap → (getObj r).run P W = .ok (.mapIter (some m) c (done.map (·.born)).toArray c) W := fun W hW => by simp [getObj, Sem.run, hW, g3]
  have hm : ∀ W : World, W.heap = w.heap → (getObj m).run P W = .ok (.map es.toArray c) W := fun W hW => by simp [getObj, Sem.run, hW, g1]
  obtain ⟨left, hleft⟩ : ∃ left, left = es.filter fun e => !(done.map (·.born)).contains e.born := ⟨_, rfl⟩
  have hl : (es.toArray.filter fun e => !(done.map (·.born)).toArray.contains e.born) = left.toArray := by rw [hleft]; simp
  have hmem : ∀ x, x ∈ left ↔ x ∈ es ∧ x ∉ done := by
    intro x
    rw [hleft, List.mem_filter]
    simp only [Bool.not_eq_true', List.contains_eq_mem, decide_eq_false_iff_not]
    refine ⟨fun ⟨a, b⟩ => ⟨a, fun hd => b (List.mem_map.2 ⟨x, hd, rfl⟩)⟩, fun ⟨a, b⟩ => ⟨a, fun hd => ?_⟩⟩
    obtain ⟨y, hy, hyx⟩ := List.mem_map.1 hd
    rw [born_inj h.nd (h.sub y hy) a hyx] at hy
    exact b hy
  have hold : (left.toArray.filter fun e => decide (e.born < c)) = left.toArray := by
    apply Array.ext'
    simp only [Array.toList_filter]
    rw [List.filter_eq_self.2]
    intro x hx
    simpa using g2 x ((hmem x).1 (by simpa using hx)).1
  have hnew : (left.toArray.filter fun e => decide (e.born ≥ c)) = #[] := by
    apply Array.ext'
    simp only [Array.toList_filter]
    rw [List.filter_eq_nil_iff.2]
    intro x hx
    have := g2 x ((hmem x).1 (by simpa using hx)).1
    simp; omega
  have hun : (!(done.map (·.born)).toArray.isEmpty && !es.toArray.isEmpty && es.toArray.all (fun e => decide (e.born ≥ c))) = false := by
    cases hes : es with
    | nil => simp
    | cons x r =>
      have := g2 x (by rw [hes]; exact List.mem_cons_self)
      simp [List.all_cons, this, Nat.not_le.2 this]
  cases hle : left with
  | nil =>
    rw [hle] at hold hnew hl hmem
    obtain ⟨k, w', hc, hk, e, he⟩ := run_choose_map (P := P) (w := w) 1 (by omega)
    have hk0 : k = 0 := by omega
    subst hk0
    refine ⟨false, [], w', ?_, h0 w' e he ?_⟩
    · have hcand : ((if (#[] : Array MapEntry).isEmpty = true then #[none] else #[]) ++ ((#[] : Array MapEntry) ++ #[]).map some : Array (Option MapEntry)) = #[none] := by simp
      have hs1 : (#[none] : Array (Option MapEntry)).size = 1 := rfl
      simp only [Instr.next, Sem.run_bind, hr w rfl, hm w rfl, Result.andThen_ok, hl, hun, Bool.false_eq_true, if_false, Sem.run_pure, hold, hnew, hcand, hs1, hc]
      rfl
    · refine (List.perm_ext_iff_of_nodup (nodup_of_born h.dnd) (nodup_of_born h.nd)).2 fun x => ⟨h.sub x, fun hx => ?_⟩
      by_cases hd : x ∈ done
      · exact hd
      · exact absurd ((hmem x).2 ⟨hx, hd⟩) (by simp)
  | cons y ys =>
    have hpos : 0 < left.length := by rw [hle]; simp
    obtain ⟨k, w', hc, hk, e, he⟩ := run_choose_map (P := P) (w := w) left.length hpos
    have hx : left[k] ∈ es ∧ left[k] ∉ done := (hmem _).1 (List.getElem_mem _)
    have hset : ∀ o', (setObj r o').run P w' = .ok () { w' with heap := w'.heap.setIfInBounds r o' } := fun o' => by simp [setObj, Sem.run, he, g3]
    have g3' : w'.heap[r]? = some (.mapIter (some m) c (done.map (·.born)).toArray c) := by rw [he]; exact g3
    obtain ⟨u1, u2⟩ := upd_setObj (o' := .mapIter (some m) c ((done.map (·.born)).toArray.push left[k].born) c) g3'
    refine ⟨true, [left[k].key, left[k].val], _, ?_, h1 left[k] _ hx.1 hx.2 ⟨⟨c, ?_, g2, ?_⟩, h.nd, fun z hz => ?_, ?_⟩ (Upd.new (Upd.of_ext e) u1 fun _ _ h => h) (by simp [he])⟩
    · have hemp : left.toArray.isEmpty = false := by rw [hle]; rfl
      have hcand : ((if left.toArray.isEmpty then #[none] else #[]) ++ (left.toArray ++ #[]).map some : Array (Option MapEntry)) = (left.map some).toArray := by
        rw [hemp]; simp
      have hs1 : ((left.map some).toArray : Array (Option MapEntry)).size = left.length := by simp
      have hget : ((left.map some).toArray : Array (Option MapEntry))[k]? = some (some left[k]) := by simp [List.getElem?_eq_getElem hk]
      simp only [Instr.next, Sem.run_bind, hr w rfl, hm w rfl, Result.andThen_ok, hl, hun, Bool.false_eq_true, if_false, Sem.run_pure, hold, hnew, hcand, hs1, hc, hget, hset]
    · exact u1.get (by rw [he]; exact g1) (fun hh => h.ne hh.symm)
    · simp only [List.map_append, List.map_cons, List.map_nil]
      simpa using u2
    · rcases List.mem_append.1 hz with hz | hz
      · exact h.sub z hz
      · simp at hz; subst hz; exact hx.1
    · rw [List.map_append, List.nodup_append]
      refine ⟨h.dnd, by simp, fun a ha b hb hab => ?_⟩
      simp at hb
      obtain ⟨z, hz, rfl⟩ := List.mem_map.1 ha
      rw [hb] at hab
      rw [born_inj h.nd (h.sub z hz) hx.1 hab] at hz
      exact hx.2 hz

/-- the entry that the last step gave -/
theorem entry_run {r m : Nat} {es done : List MapEntry} {x : MapEntry} (h : Iter w r m es (done ++ [x])) : (Instr.entry (.pointer (some (at0 r)))).run P w = .ok (.tuple #[x.key, x.val]) w := by
  obtain ⟨c, g1, g2, g3⟩ := h.at_
  have hr : (getObj r).run P w = .ok (.mapIter (some m) c ((done ++ [x]).map (·.born)).toArray c) w := by simp [getObj, Sem.run, g3]
  have hm : (getObj m).run P w = .ok (.map es.toArray c) w := by simp [getObj, Sem.run, g1]
  have hf : es.find? (fun e => e.born == x.born) = some x := by
    have hx := h.sub x (by simp)
    cases hf : es.find? (fun e => e.born == x.born) with
    | none =>
      rw [List.find?_eq_none] at hf
      exact absurd (hf x hx) (by simp)
    | some y =>
      have h1 := List.find?_some hf
      have h2 := List.mem_of_find?_eq_some hf
      rw [born_inj h.nd h2 hx (by simpa using h1)]
  simp [Instr.entry, hr, hm, hf]
theorem entry_r {r m : Nat} {es done : List MapEntry} {x : MapEntry} (h : Iter w r m es (done ++ [x])) {t : RTy} (y : t.T) {K : t.T → World → Prop} (hy : .tuple #[x.key, x.val] = t.val y) (hK : K y w) : rawT P t (Instr.entry (.pointer (some (at0 r)))) K w :=
  ⟨y, w, by rw [entry_run h, hy], hK⟩
end
end Go.Vx
