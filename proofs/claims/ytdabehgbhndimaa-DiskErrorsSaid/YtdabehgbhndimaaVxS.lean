/-
  A function's own boxes: what they hold is one fact, carried from step to step.
-/
import Derived.Test.YtdabehgbhndimaaVxN
set_option linter.unusedSimpArgs false
set_option linter.unusedVariables false
namespace Go.Vx
open Go

/-- From w0, where the function began, to w: old blocks have turned within M alone; the boxes of one's own are listed, each with what it holds. -/
structure St (M : Nat → Prop) (w0 w : World) (ls : List (Nat × Obj)) : Prop where
  upd : Upd M w0 w
  old : ∀ k, M k → k < w0.heap.size
  loc : ∀ x ∈ ls, w.heap[x.1]? = some x.2 ∧ w0.heap.size ≤ x.1
  nd : (ls.map (·.1)).Nodup

def noM : Nat → Prop := fun _ => False

section
variable {M : Nat → Prop} {w0 w : World} {ls : List (Nat × Obj)}

theorem St.start (w : World) : St (fun _ => False) w w [] := ⟨Upd.refl _ _, fun _ h => h.elim, (fun _ h => by cases h), List.nodup_nil⟩
theorem St.startM (M : Nat → Prop) (w : World) (h : ∀ k, M k → k < w.heap.size) : St M w w [] := ⟨Upd.refl _ _, h, (fun _ h => by cases h), List.nodup_nil⟩
theorem St.at_ (S : St M w0 w ls) (i : Nat) {b : Nat} {o : Obj} (h : ls[i]? = some (b, o)) : w.heap[b]? = some o := (S.loc _ (List.mem_of_getElem? h)).1
theorem St.ge (S : St M w0 w ls) (i : Nat) {b : Nat} {o : Obj} (h : ls[i]? = some (b, o)) : w0.heap.size ≤ b := (S.loc _ (List.mem_of_getElem? h)).2

theorem St.lt (S : St M w0 w ls) : ∀ x ∈ ls, x.1 < w.heap.size := fun x hx => lt_of_heap (S.loc x hx).1
/-- behind a step that turns old blocks within M alone -/
theorem St.step (S : St M w0 w ls) {M' : Nat → Prop} {w' : World} (u : Upd M' w w') (hM : ∀ k, M' k → M k) : St M w0 w' ls :=
  ⟨S.upd.new u fun k _ h => hM k h, S.old, fun x hx => ⟨u.get (S.loc x hx).1 fun h => by have := S.old _ (hM _ h); have := (S.loc x hx).2; omega, (S.loc x hx).2⟩, S.nd⟩
theorem St.ext (S : St M w0 w ls) {w' : World} (u : Ext w w') : St M w0 w' ls := S.step u fun _ h => h.elim
/-- behind a step that turns blocks that are new, but no box -/
theorem St.fresh (S : St M w0 w ls) {M' : Nat → Prop} {w' : World} (u : Upd M' w w') (hM : ∀ k, M' k → M k ∨ w0.heap.size ≤ k) (hb : ∀ x ∈ ls, ¬ M' x.1) : St M w0 w' ls :=
  ⟨S.upd.new u fun k hk h => (hM k h).resolve_right (by omega), S.old, fun x hx => ⟨u.get (S.loc x hx).1 (hb x hx), (S.loc x hx).2⟩, S.nd⟩

theorem St.tail {x : Nat × Obj} (S : St M w0 w (x :: ls)) : St M w0 w ls := ⟨S.upd, S.old, fun y hy => S.loc y (List.mem_cons_of_mem _ hy), (List.nodup_cons.1 S.nd).2⟩
/-- the same, with more blocks that may turn -/
theorem St.newO' (S : St M w0 w ls) {o : Obj} {K : Nat → World → Prop} (h : ∀ b w1, St M w0 w1 ((b, o) :: ls) → Ext w w1 → b = w.heap.size → K b w1) : Go.Vx.newO o K w := by
  refine newO_r fun b w1 e n hb _ => h b w1 ⟨S.upd.new e fun _ _ h => h.elim, S.old, fun x hx => ?_, ?_⟩ e hb
  · rcases List.mem_cons.1 hx with rfl | hx
    · exact ⟨n, by rw [hb]; exact S.upd.size⟩
    · exact ⟨e.ext_get (S.loc x hx).1, (S.loc x hx).2⟩
  · refine List.nodup_cons.2 ⟨fun hm => ?_, S.nd⟩
    obtain ⟨x, hx, he⟩ := List.mem_map.1 hm
    have := lt_of_heap (S.loc x hx).1
    simp only at he
    omega
theorem St.newO (S : St M w0 w ls) {o : Obj} {K : Nat → World → Prop} (h : ∀ b w1, St M w0 w1 ((b, o) :: ls) → Ext w w1 → K b w1) : Go.Vx.newO o K w := S.newO' fun b w1 S e _ => h b w1 S e
theorem St.drew (S : St M w0 w ls) {K : World → Prop} (h : ∀ w1, St M w0 w1 ls → Ext w w1 → w1.heap = w.heap → K w1) : Go.Vx.drew K w := drew_r fun w1 e he => h w1 (S.ext e) e he

theorem St.ld (S : St M w0 w ls) (i : Nat) {c : Cell} {b off : Nat} {K : c.T → World → Prop} {x : c.T} {cs : Array Value} {t : TypeId} {fr : Nat × Nat} (hi : ls[i]? = some (b, .cells cs t fr)) (hc : cs[off]? = some (c.val x)) (h : K x w) :
    Go.Vx.ld c ⟨b, off, none⟩ K w := ld_r (S.at_ i hi) hc h
theorem St.lds (S : St M w0 w ls) (i : Nat) {cs : List Cell} {b : Nat} {K : Cells.T cs → World → Prop} (x : Cells.T cs) {t : TypeId} {fr : Nat × Nat} (hi : ls[i]? = some (b, .cells (Cells.vals cs x).toArray t fr)) (h : K x w) :
    Go.Vx.lds cs ⟨b, 0, none⟩ K w := lds_r (S.at_ i hi) (fun j v hv => by rw [Nat.zero_add]; simpa using hv) h

theorem setRow_whole (vs : List Value) (c : Array Value) (h : c.size = vs.length) : setRow c 0 vs = vs.toArray := by
  apply Array.ext_getElem?
  intro i
  by_cases hi : i < vs.length
  · have := get_setRow vs c 0 i (by omega) hi
    rw [Nat.zero_add] at this
    rw [this]; simp
  · rw [get_setRow_ge _ _ _ _ (by omega)]
    simp [Array.getElem?_eq_none, h, Nat.le_of_not_lt hi]

theorem set_loc {i b : Nat} {o o' : Obj} {w1 : World} (S : St M w0 w ls) (hi : ls[i]? = some (b, o)) (u : Upd (fun k => k = b) w w1) (hb : w1.heap[b]? = some o') : St M w0 w1 (ls.set i (b, o')) := by
  have hge := S.ge i hi
  refine ⟨S.upd.new u fun k hk h => by omega, S.old, fun x hx => ?_, ?_⟩
  · obtain ⟨j, hj⟩ := List.getElem?_of_mem hx
    rw [List.getElem?_set] at hj
    split at hj
    · split at hj
      · cases hj; exact ⟨hb, hge⟩
      · cases hj
    · rename_i hne
      have hm := List.mem_of_getElem? hj
      refine ⟨u.get (S.loc x hm).1 fun e => ?_, (S.loc x hm).2⟩
      have hnd := S.nd
      have h1 : (ls.map (·.1))[i]? = some b := by rw [List.getElem?_map, hi]; rfl
      have h2 : (ls.map (·.1))[j]? = some b := by rw [List.getElem?_map, hj, ← e]; rfl
      have hil := (List.getElem?_eq_some_iff.1 h1).1
      exact hne ((List.getElem?_inj hil hnd).1 (h1.trans h2.symm))
  · rw [List.map_set]
    have h1 : (ls.map (·.1))[i]? = some b := by rw [List.getElem?_map, hi]; rfl
    have e : (ls.map (·.1)).set i b = ls.map (·.1) := by
      apply List.ext_getElem?
      intro j
      rw [List.getElem?_set]
      split
      · rename_i hij
        subst hij
        rw [h1]
        split
        · rfl
        · rename_i hn; exact absurd (List.getElem?_eq_some_iff.1 h1).1 hn
      · rfl
    simp only
    rw [e]
    exact S.nd

theorem St.aggSt (S : St M w0 w ls) (i : Nat) {b n : Nat} {vs : Array Value} {K : World → Prop} {c : Array Value} {t : TypeId} (hi : ls[i]? = some (b, .cells c t (0, 0))) (hn : vs.size = n) (hc : c.size = n) (h1 : vs.toList.all isOne = true)
    (h : ∀ w1, St M w0 w1 (ls.set i (b, .cells vs t (0, 0))) → Upd (fun k => k = b) w w1 → K w1) : Go.Vx.aggSt ⟨b, 0, none⟩ (.agg vs) n K w := by
  refine aggSt_r (S.at_ i hi) hn h1 (by omega) fun w1 u hb _ => h w1 ?_ u
  rw [setRow_whole vs.toList c (by simp; omega)] at hb
  exact set_loc S hi u (by simpa using hb)
theorem St.stC (S : St M w0 w ls) (i : Nat) {b off : Nat} {v : Value} {K : World → Prop} {c : Array Value} {t : TypeId} (hi : ls[i]? = some (b, .cells c t (0, 0))) (ho : off < c.size)
    (h : ∀ w1, St M w0 w1 (ls.set i (b, .cells (c.setIfInBounds off v) t (0, 0))) → Upd (fun k => k = b) w w1 → K w1) : Go.Vx.stC ⟨b, off, none⟩ v K w :=
  stC_r (S.at_ i hi) ho fun w1 u hb _ => h w1 (set_loc S hi u hb) u

/-- a new variable that is set at once -/
theorem St.newAgg (S : St M w0 w ls) {n : Nat} {t : TypeId} {vs c : Array Value} {K : Nat → World → Prop} (hn : vs.size = n) (hc : c.size = n) (h1 : vs.toList.all isOne = true)
    (h : ∀ b w1, St M w0 w1 ((b, .cells vs t (0, 0)) :: ls) → Ext w w1 → K b w1) : Go.Vx.newO (.cells c t) (fun b => Go.Vx.aggSt (at0 b) (.agg vs) n (K b)) w := by
  refine S.newO' fun b w1 S1 e1 hb => S1.aggSt 0 rfl hn hc h1 fun w2 S2 u2 => h b w2 S2 (e1.step u2 ?_)
  rintro k rfl
  omega

/-- a row of another type stays when a box is set -/
theorem SlIn.box {s : Sl} {t t' : TypeId} {sz : Nat} {vs : List Value} {b : Nat} {c : Array Value} {fr : Nat × Nat} {w1 : World} (h : SlIn w s t sz vs) (hb : w.heap[b]? = some (.cells c t' fr)) (ht : t ≠ t') (u : Upd (fun k => k = b) w w1) : SlIn w1 s t sz vs := by
  refine h.upd u fun k hk e => ?_
  obtain ⟨p, hp, rfl⟩ := hk
  rcases h.at_ with ⟨hn, _⟩ | ⟨b', off, c', fr', ha, hb', _⟩
  · rw [hn] at hp; cases hp
  · rw [ha] at hp; cases hp
    simp only at e
    rw [e, hb] at hb'
    cases hb'
    exact ht rfl
theorem SlOwn.box {B : Nat} {s : Sl} {t t' : TypeId} {sz : Nat} {vs : List Value} {b : Nat} {c : Array Value} {fr : Nat × Nat} {w1 : World} (h : SlOwn w B s t sz vs) (hb : w.heap[b]? = some (.cells c t' fr)) (ht : t ≠ t') (u : Upd (fun k => k = b) w w1) : SlOwn w1 B s t sz vs := by
  refine h.upd u fun k _ hk e => ?_
  obtain ⟨p, hp, rfl⟩ := hk
  rcases h.at_ with ⟨hn, _⟩ | ⟨b', off, c', ha, _, hb', _⟩
  · rw [hn] at hp; cases hp
  · rw [ha] at hp; cases hp
    simp only at e
    rw [e, hb] at hb'
    cases hb'
    exact ht rfl

/-- a whole box as a row -/
theorem SlIn.of_box {b n sz : Nat} {c : Array Value} {t : TypeId} {fr : Nat × Nat} (hb : w.heap[b]? = some (.cells c t fr)) (h : c.size = n * sz) : SlIn w ⟨some (at0 b), n, n⟩ t sz c.toList :=
  ⟨by simpa using h, Nat.le_refl _, .inr ⟨b, 0, c, fr, rfl, hb, by simp only; omega, fun i v hv => by rw [Nat.zero_add]; simpa using hv⟩⟩
theorem St.keep (S : St M w0 w ls) (i : Nat) {b off : Nat} {v : Value} {cs : Array Value} {t : TypeId} {fr : Nat × Nat} {K : World → Prop} (hi : ls[i]? = some (b, .cells cs t fr)) (hc : cs[off]? = some v) (h : K w) :
    Go.Vx.keep (fun w => w.cell? ⟨b, off, none⟩ = some v) K w := ⟨cell_of (S.at_ i hi) hc, h⟩
theorem St.keeps (S : St M w0 w ls) (i : Nat) {b : Nat} {cs : List Cell} {x : Cells.T cs} {t : TypeId} {fr : Nat × Nat} {K : World → Prop} (hi : ls[i]? = some (b, .cells (Cells.vals cs x).toArray t fr)) (h : K w) :
    Go.Vx.keep (fun w => cellsAt w ⟨b, 0, none⟩ 0 (Cells.vals cs x)) K w :=
  ⟨cellsAt_of _ 0 fun j v hj => by rw [Nat.zero_add, Nat.zero_add]; exact cell_of (S.at_ i hi) (by simpa using hj), h⟩
end
end Go.Vx
