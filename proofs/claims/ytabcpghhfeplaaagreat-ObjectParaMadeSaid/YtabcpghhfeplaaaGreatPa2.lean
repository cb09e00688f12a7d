/- YtabcpghhfeplaaaGreatPa2: parts of the proof, put together by program. -/
import Derived.Test.YtabcpghhfeplaaaGreatPa1
set_option linter.unusedVariables false
set_option linter.unusedSimpArgs false
set_option linter.unusedSectionVars false
set_option linter.unusedSimpArgs false
set_option linter.unusedVariables false
namespace Go.Vx
open Go
structure St (M : Nat → Prop) (w0 w : World) (ls : List (Nat × Obj)) : Prop where
  upd : Upd M w0 w
  old : ∀ k, M k → k < w0.heap.size
  loc : ∀ x ∈ ls, w.heap[x.1]? = some x.2 ∧ w0.heap.size ≤ x.1
  nd : (ls.map (·.1)).Nodup
section
variable {M : Nat → Prop} {w0 w : World} {ls : List (Nat × Obj)}
theorem St.start (w : World) : St (fun _ => False) w w [] := ⟨Upd.refl _ _, fun _ h => h.elim, (fun _ h => by cases h), List.nodup_nil⟩
theorem St.startM (M : Nat → Prop) (w : World) (h : ∀ k, M k → k < w.heap.size) : St M w w [] := ⟨Upd.refl _ _, h, (fun _ h => by cases h), List.nodup_nil⟩
theorem St.at_ (S : St M w0 w ls) (i : Nat) {b : Nat} {o : Obj} (h : ls[i]? = some (b, o)) : w.heap[b]? = some o := (S.loc _ (List.mem_of_getElem? h)).1
theorem St.ge (S : St M w0 w ls) (i : Nat) {b : Nat} {o : Obj} (h : ls[i]? = some (b, o)) : w0.heap.size ≤ b := (S.loc _ (List.mem_of_getElem? h)).2
theorem St.lt (S : St M w0 w ls) : ∀ x ∈ ls, x.1 < w.heap.size := fun x hx => lt_of_heap (S.loc x hx).1
theorem St.step (S : St M w0 w ls) {M' : Nat → Prop} {w' : World} (u : Upd M' w w') (hM : ∀ k, M' k → M k) : St M w0 w' ls :=
  ⟨S.upd.new u fun k _ h => hM k h, S.old, fun x hx => ⟨u.get (S.loc x hx).1 fun h => by have := S.old _ (hM _ h); have := (S.loc x hx).2; omega, (S.loc x hx).2⟩, S.nd⟩
theorem St.ext (S : St M w0 w ls) {w' : World} (u : Ext w w') : St M w0 w' ls := S.step u fun _ h => h.elim
theorem St.fresh (S : St M w0 w ls) {M' : Nat → Prop} {w' : World} (u : Upd M' w w') (hM : ∀ k, M' k → M k ∨ w0.heap.size ≤ k) (hb : ∀ x ∈ ls, ¬ M' x.1) : St M w0 w' ls :=
  ⟨S.upd.new u fun k hk h => (hM k h).resolve_right (by omega), S.old, fun x hx => ⟨u.get (S.loc x hx).1 (hb x hx), (S.loc x hx).2⟩, S.nd⟩
theorem St.tail {x : Nat × Obj} (S : St M w0 w (x :: ls)) : St M w0 w ls := ⟨S.upd, S.old, fun y hy => S.loc y (List.mem_cons_of_mem _ hy), (List.nodup_cons.1 S.nd).2⟩
theorem St.newO' (S : St M w0 w ls) {o : Obj} {K : Nat → World → Prop} (h : ∀ b w1, St M w0 w1 ((b, o) :: ls) → Ext w w1 → b = w.heap.size → K b w1) : Go.Vx.newO o K w := by
  refine newO_r fun b w1 e n hb _ => h b w1 ⟨S.upd.new e fun _ _ h => h.elim, S.old, fun x hx => ?_, ?_⟩ e hb
  · rcases List.mem_cons.1 hx with rfl | hx
    · exact ⟨n, by rw [hb]; exact S.upd.size⟩
    · exact ⟨e.ext_get (S.loc x hx).1, (S.loc x hx).2⟩
  · refine List.nodup_cons.2 ⟨fun hm => ?_, S.nd⟩
    obtain ⟨x, hx, he⟩ := List.mem_map.1 hm
    have := lt_of_heap (S.loc x hx).1
    simp only at he
    omega
theorem St.newO (S : St M w0 w ls) {o : Obj} {K : Nat → World → Prop} (h : ∀ b w1, St M w0 w1 ((b, o) :: ls) → Ext w w1 → K b w1) : Go.Vx.newO o K w := S.newO' fun b w1 S e _ => h b w1 S e
theorem St.drew (S : St M w0 w ls) {K : World → Prop} (h : ∀ w1, St M w0 w1 ls → Ext w w1 → w1.heap = w.heap → K w1) : Go.Vx.drew K w := drew_r fun w1 e he => h w1 (S.ext e) e he
theorem St.ld (S : St M w0 w ls) (i : Nat) {c : Cell} {b off : Nat} {K : c.T → World → Prop} {x : c.T} {cs : Array Value} {t : TypeId} {fr : Nat × Nat} (hi : ls[i]? = some (b, .cells cs t fr)) (hc : cs[off]? = some (c.val x)) (h : K x w) :
    Go.Vx.ld c ⟨b, off, none⟩ K w := ld_r (S.at_ i hi) hc h
theorem St.lds (S : St M w0 w ls) (i : Nat) {cs : List Cell} {b : Nat} {K : Cells.T cs → World → Prop} (x : Cells.T cs) {t : TypeId} {fr : Nat × Nat} (hi : ls[i]? = some (b, .cells (Cells.vals cs x).toArray t fr)) (h : K x w) :
    Go.Vx.lds cs ⟨b, 0, none⟩ K w := lds_r (S.at_ i hi) (fun j v hv => by rw [Nat.zero_add]; simpa using hv) h
theorem setRow_whole (vs : List Value) (c : Array Value) (h : c.size = vs.length) : setRow c 0 vs = vs.toArray := by
  apply Array.ext_getElem?
  intro i
  by_cases hi : i < vs.length
  · have := get_setRow vs c 0 i (by omega) hi
    rw [Nat.zero_add] at this
    rw [this]; simp
  · rw [get_setRow_ge _ _ _ _ (by omega)]
    simp [Array.getElem?_eq_none, h, Nat.le_of_not_lt hi]
theorem set_loc {i b : Nat} {o o' : Obj} {w1 : World} (S : St M w0 w ls) (hi : ls[i]? = some (b, o)) (u : Upd (fun k => k = b) w w1) (hb : w1.heap[b]? = some o') : St M w0 w1 (ls.set i (b, o')) := by
  have hge := S.ge i hi
  refine ⟨S.upd.new u fun k hk h => by omega, S.old, fun x hx => ?_, ?_⟩
  · obtain ⟨j, hj⟩ := List.getElem?_of_mem hx
    rw [List.getElem?_set] at hj
    split at hj
    · split at hj
      · cases hj; exact ⟨hb, hge⟩
      · cases hj
    · rename_i hne
      have hm := List.mem_of_getElem? hj
      refine ⟨u.get (S.loc x hm).1 fun e => ?_, (S.loc x hm).2⟩
      have hnd := S.nd
      have h1 : (ls.map (·.1))[i]? = some b := by rw [List.getElem?_map, hi]; rfl
      have h2 : (ls.map (·.1))[j]? = some b := by rw [List.getElem?_map, hj, ← e]; rfl
      have hil := (List.getElem?_eq_some_iff.1 h1).1
      exact hne ((List.getElem?_inj hil hnd).1 (h1.trans h2.symm))
  · rw [List.map_set]
    have h1 : (ls.map (·.1))[i]? = some b := by rw [List.getElem?_map, hi]; rfl
    have e : (ls.map (·.1)).set i b = ls.map (·.1) := by
      apply List.ext_getElem?
      intro j
      rw [List.getElem?_set]
      split
      · rename_i hij
        subst hij
        rw [h1]
        split
        · rfl
        · rename_i hn; exact absurd (List.getElem?_eq_some_iff.1 h1).1 hn
      · rfl
    simp only
    rw [e]
    exact S.nd
theorem St.aggSt (S : St M w0 w ls) (i : Nat) {b n : Nat} {vs : Array Value} {K : World → Prop} {c : Array Value} {t : TypeId} (hi : ls[i]? = some (b, .cells c t (0, 0))) (hn : vs.size = n) (hc : c.size = n) (h1 : vs.toList.all isOne = true)
    (h : ∀ w1, St M w0 w1 (ls.set i (b, .cells vs t (0, 0))) → Upd (fun k => k = b) w w1 → K w1) : Go.Vx.aggSt ⟨b, 0, none⟩ (.agg vs) n K w := by
  refine aggSt_r (S.at_ i hi) hn h1 (by omega) fun w1 u hb _ => h w1 ?_ u
  rw [setRow_whole vs.toList c (by simp; omega)] at hb
  exact set_loc S hi u (by simpa using hb)
theorem St.stC (S : St M w0 w ls) (i : Nat) {b off : Nat} {v : Value} {K : World → Prop} {c : Array Value} {t : TypeId} (hi : ls[i]? = some (b, .cells c t (0, 0))) (ho : off < c.size)
    (h : ∀ w1, St M w0 w1 (ls.set i (b, .cells (c.setIfInBounds off v) t (0, 0))) → Upd (fun k => k = b) w w1 → K w1) : Go.Vx.stC ⟨b, off, none⟩ v K w :=
  stC_r (S.at_ i hi) ho fun w1 u hb _ => h w1 (set_loc S hi u hb) u
theorem St.newAgg (S : St M w0 w ls) {n : Nat} {t : TypeId} {vs c : Array Value} {K : Nat → World → Prop} (hn : vs.size = n) (hc : c.size = n) (h1 : vs.toList.all isOne = true)
    (h : ∀ b w1, St M w0 w1 ((b, .cells vs t (0, 0)) :: ls) → Ext w w1 → K b w1) : Go.Vx.newO (.cells c t) (fun b => Go.Vx.aggSt (at0 b) (.agg vs) n (K b)) w := by
  refine S.newO' fun b w1 S1 e1 hb => S1.aggSt 0 rfl hn hc h1 fun w2 S2 u2 => h b w2 S2 (e1.step u2 ?_)
  rintro k rfl
  omega
theorem SlIn.box {s : Sl} {t t' : TypeId} {sz : Nat} {vs : List Value} {b : Nat} {c : Array Value} {fr : Nat × Nat} {w1 : World} (h : SlIn w s t sz vs) (hb : w.heap[b]? = some (.cells c t' fr)) (ht : t ≠ t') (u : Upd (fun k => k = b) w w1) : SlIn w1 s t sz vs := by
  refine h.upd u fun k hk e => ?_
  obtain ⟨p, hp, rfl⟩ := hk
  rcases h.at_ with ⟨hn, _⟩ | ⟨b', off, c', fr', ha, hb', _⟩
  · rw [hn] at hp; cases hp
  · rw [ha] at hp; cases hp
    simp only at e
    rw [e, hb] at hb'
    cases hb'
    exact ht rfl
theorem SlOwn.box {B : Nat} {s : Sl} {t t' : TypeId} {sz : Nat} {vs : List Value} {b : Nat} {c : Array Value} {fr : Nat × Nat} {w1 : World} (h : SlOwn w B s t sz vs) (hb : w.heap[b]? = some (.cells c t' fr)) (ht : t ≠ t') (u : Upd (fun k => k = b) w w1) : SlOwn w1 B s t sz vs := by
  refine h.upd u fun k _ hk e => ?_
  obtain ⟨p, hp, rfl⟩ := hk
  rcases h.at_ with ⟨hn, _⟩ | ⟨b', off, c', ha, _, hb', _⟩
  · rw [hn] at hp; cases hp
  · rw [ha] at hp; cases hp
    simp only at e
    rw [e, hb] at hb'
    cases hb'
    exact ht rfl
theorem SlIn.of_box {b n sz : Nat} {c : Array Value} {t : TypeId} {fr : Nat × Nat} (hb : w.heap[b]? = some (.cells c t fr)) (h : c.size = n * sz) : SlIn w ⟨some (at0 b), n, n⟩ t sz c.toList :=
  ⟨by simpa using h, Nat.le_refl _, .inr ⟨b, 0, c, fr, rfl, hb, by simp only; omega, fun i v hv => by rw [Nat.zero_add]; simpa using hv⟩⟩
theorem St.keep (S : St M w0 w ls) (i : Nat) {b off : Nat} {v : Value} {cs : Array Value} {t : TypeId} {fr : Nat × Nat} {K : World → Prop} (hi : ls[i]? = some (b, .cells cs t fr)) (hc : cs[off]? = some v) (h : K w) :
    Go.Vx.keep (fun w => w.cell? ⟨b, off, none⟩ = some v) K w := ⟨cell_of (S.at_ i hi) hc, h⟩
theorem St.keeps (S : St M w0 w ls) (i : Nat) {b : Nat} {cs : List Cell} {x : Cells.T cs} {t : TypeId} {fr : Nat × Nat} {K : World → Prop} (hi : ls[i]? = some (b, .cells (Cells.vals cs x).toArray t fr)) (h : K w) :
    Go.Vx.keep (fun w => cellsAt w ⟨b, 0, none⟩ 0 (Cells.vals cs x)) K w :=
  ⟨cellsAt_of _ 0 fun j v hj => by rw [Nat.zero_add, Nat.zero_add]; exact cell_of (S.at_ i hi) (by simpa using hj), h⟩
end
end Go.Vx
set_option linter.unusedSimpArgs false
set_option linter.unusedVariables false
namespace Go.Vx
open Go
theorem vals_len : ∀ (cs : List Cell) (x : Cells.T cs), (Cells.vals cs x).length = cs.length
  | [], _ => rfl
  | c :: r, x => by simp [Cells.vals, vals_len r x.2]
def flat (cs : List Cell) (xs : List (Cells.T cs)) : List Value := xs.flatMap (Cells.vals cs)
theorem flat_append (cs : List Cell) (xs ys : List (Cells.T cs)) : flat cs (xs ++ ys) = flat cs xs ++ flat cs ys := by simp [flat]
theorem flat_one (cs : List Cell) (x : Cells.T cs) : flat cs [x] = Cells.vals cs x := by simp [flat]
theorem flat_len (cs : List Cell) : ∀ xs : List (Cells.T cs), (flat cs xs).length = xs.length * cs.length
  | [] => by simp [flat]
  | x :: r => by
    have := flat_len cs r
    simp only [flat] at this ⊢
    rw [List.flatMap_cons, List.length_append, vals_len, this, List.length_cons, Nat.succ_mul]
    omega
theorem flat_get (cs : List Cell) : ∀ (xs : List (Cells.T cs)) (n j : Nat) (x : Cells.T cs), xs[n]? = some x → j < cs.length → (flat cs xs)[n * cs.length + j]? = (Cells.vals cs x)[j]?
  | [], n, j, x, h, _ => by simp at h
  | y :: r, 0, j, x, h, hj => by
    simp at h
    subst h
    simp only [flat, List.flatMap_cons, Nat.zero_mul, Nat.zero_add]
    rw [List.getElem?_append_left (by rw [vals_len]; exact hj)]
  | y :: r, n + 1, j, x, h, hj => by
    have ih := flat_get cs r n j x (by simpa using h) hj
    simp only [flat, List.flatMap_cons] at ih ⊢
    rw [List.getElem?_append_right (by rw [vals_len, Nat.succ_mul]; omega), vals_len, ← ih]
    congr 1
    rw [Nat.succ_mul]; omega
section
variable {w : World}
theorem SlIn.lenR {s : Sl} {t : TypeId} {cs : List Cell} {xs : List (Cells.T cs)} (h : SlIn w s t cs.length (flat cs xs)) (hc : 0 < cs.length) : xs.length = s.len := by
  have := h.len
  rw [flat_len] at this
  exact Nat.eq_of_mul_eq_mul_right hc this
theorem SlOwn.lenR {B : Nat} {s : Sl} {t : TypeId} {cs : List Cell} {xs : List (Cells.T cs)} (h : SlOwn w B s t cs.length (flat cs xs)) (hc : 0 < cs.length) : xs.length = s.len := h.in.lenR hc
theorem ix_lds {cs : List Cell} {s : Sl} {t : TypeId} {xs : List (Cells.T cs)} {n : Int} {K : Addr → Cells.T cs → World → Prop} (h : SlIn w s t cs.length (flat cs xs)) (hc : 0 < cs.length) (h0 : 0 ≤ n) {x : Cells.T cs} (hx : xs[n.toNat]? = some x) (hK : ∀ p, K p x w) :
    ix s.a s.len n (fun p => lds cs (p.add (scaled (Int.toNat n) cs.length)) (K p)) w := by
  have hlt := (List.getElem?_eq_some_iff.1 hx).1
  have hl := h.lenR hc
  refine h.ix h0 (by omega) hc fun b off ha hv => ?_
  rw [addr_add]
  refine ⟨x, cellsAt_of _ 0 fun j v hj => ?_, hK _⟩
  have hjl : j < cs.length := by
    have := (List.getElem?_eq_some_iff.1 hj).1
    rwa [vals_len] at this
  have := hv j v (by rw [flat_get cs xs _ j x hx hjl]; exact hj)
  simpa [scaled_eq] using this
theorem ix_ldf {c : Cell} {cs : List Cell} {s : Sl} {t : TypeId} {xs : List (Cells.T cs)} {n : Int} {j : Nat} {K : Addr → c.T → World → Prop} (h : SlIn w s t cs.length (flat cs xs)) (h0 : 0 ≤ n) {x : Cells.T cs} {y : c.T} (hx : xs[n.toNat]? = some x) (hy : (Cells.vals cs x)[j]? = some (c.val y)) (hK : ∀ p, K p y w) :
    ix s.a s.len n (fun p => ld c ((p.add (scaled (Int.toNat n) cs.length)).add j) (K p)) w := by
  have hlt := (List.getElem?_eq_some_iff.1 hx).1
  have hjl : j < cs.length := by
    have := (List.getElem?_eq_some_iff.1 hy).1
    rwa [vals_len] at this
  have hl := h.lenR (by omega)
  refine h.ix h0 (by omega) (by omega) fun b off ha hv => ?_
  rw [addr_add, addr_add]
  refine ld_of (x := y) ?_ (hK _)
  have := hv j (c.val y) (by rw [flat_get cs xs _ j x hx hjl]; exact hy)
  simpa [scaled_eq] using this
theorem ix_ldf0 {c : Cell} {cs : List Cell} {s : Sl} {t : TypeId} {xs : List (Cells.T cs)} {n : Int} {K : Addr → c.T → World → Prop} (h : SlIn w s t cs.length (flat cs xs)) (h0 : 0 ≤ n) {x : Cells.T cs} {y : c.T} (hx : xs[n.toNat]? = some x) (hy : (Cells.vals cs x)[0]? = some (c.val y)) (hK : ∀ p, K p y w) :
    ix s.a s.len n (fun p => ld c (p.add (scaled (Int.toNat n) cs.length)) (K p)) w := by
  have hlt := (List.getElem?_eq_some_iff.1 hx).1
  have hjl : 0 < cs.length := by
    have := (List.getElem?_eq_some_iff.1 hy).1
    rwa [vals_len] at this
  have hl := h.lenR (by omega)
  refine h.ix h0 (by omega) (by omega) fun b off ha hv => ?_
  rw [addr_add]
  refine ld_of (x := y) ?_ (hK _)
  have := hv 0 (c.val y) (by rw [flat_get cs xs _ 0 x hx hjl]; exact hy)
  simpa [scaled_eq] using this
theorem SlX.in_of {s : Sl} {sz : Nat} {vs : List Value} (h : SlX w s sz vs) (hl : 0 < s.len) : ∃ t, SlIn w s t sz vs := by
  rcases h.at_ with ⟨h1, _⟩ | h
  · omega
  · exact h
theorem SlX.len1 {s : Sl} {vs : List Value} (h : SlX w s 1 vs) : vs.length = s.len := by have := h.len; omega
theorem SlX.lenR {s : Sl} {cs : List Cell} {xs : List (Cells.T cs)} (h : SlX w s cs.length (flat cs xs)) (hc : 0 < cs.length) : xs.length = s.len := by
  have := h.len
  rw [flat_len] at this
  exact Nat.eq_of_mul_eq_mul_right hc this
theorem ix_ldX {c : Cell} {s : Sl} {xs : List c.T} {n : Int} {K : Addr → c.T → World → Prop} (h : SlX w s 1 (xs.map c.val)) (h0 : 0 ≤ n) {x : c.T} (hx : xs[n.toNat]? = some x) (hK : ∀ p, K p x w) :
    ix s.a s.len n (fun p => ld c (p.add (scaled (Int.toNat n) 1)) (K p)) w := by
  have hlt := (List.getElem?_eq_some_iff.1 hx).1
  have hl := h.len1
  rw [List.length_map] at hl
  obtain ⟨t, h⟩ := h.in_of (by omega)
  exact ix_ld h h0 hx hK
end
end Go.Vx
set_option linter.unusedSimpArgs false
set_option linter.unusedVariables false
namespace Go.Vx
open Go
section
variable {S : Nat → Prop} {w w' : World}
theorem SlIn.blk_cells {s : Sl} {t : TypeId} {sz : Nat} {vs : List Value} (h : SlIn w s t sz vs) {k : Nat} (hk : s.blk k) : ∃ c fr, w.heap[k]? = some (.cells c t fr) := by
  obtain ⟨p, hp, rfl⟩ := hk
  rcases h.at_ with ⟨hn, _⟩ | ⟨b, off, c, fr, h1, h2, _⟩
  · rw [hn] at hp; cases hp
  · rw [h1] at hp; cases hp; exact ⟨c, fr, h2⟩
def NoTy (w : World) (S : Nat → Prop) (t : TypeId) : Prop := ∀ k, S k → ∀ c fr, w.heap[k]? ≠ some (.cells c t fr)
theorem SlIn.ty {s : Sl} {t : TypeId} {sz : Nat} {vs : List Value} (h : SlIn w s t sz vs) (u : Upd S w w') (hS : NoTy w S t) : SlIn w' s t sz vs :=
  h.upd u fun k hk hSk => by obtain ⟨c, fr, hc⟩ := h.blk_cells hk; exact hS k hSk c fr hc
theorem SlOwn.ty {B : Nat} {s : Sl} {t : TypeId} {sz : Nat} {vs : List Value} (h : SlOwn w B s t sz vs) (u : Upd S w w') (hS : NoTy w S t) : SlOwn w' B s t sz vs :=
  h.upd u fun k _ hk hSk => by obtain ⟨c, fr, hc⟩ := h.in.blk_cells hk; exact hS k hSk c fr hc
theorem NoTy.blk {s : Sl} {t t' : TypeId} {sz : Nat} {vs : List Value} (h : SlIn w s t sz vs) (ht : t ≠ t') : NoTy w s.blk t' := by
  intro k hk c fr hc
  obtain ⟨c', fr', hc'⟩ := h.blk_cells hk
  rw [hc] at hc'; cases hc'; exact ht rfl
theorem NoTy.box {b : Nat} {t t' : TypeId} {c : Array Value} {fr : Nat × Nat} (h : w.heap[b]? = some (.cells c t fr)) (ht : t ≠ t') : NoTy w (fun k => k = b) t' := by
  rintro k rfl c' fr' hc
  rw [hc] at h; cases h; exact ht rfl
theorem NoTy.mono {S' : Nat → Prop} {t : TypeId} (h : NoTy w S t) (hs : ∀ k, S' k → S k) : NoTy w S' t := fun k hk => h k (hs k hk)
structure Rows2 (w : World) (B : Nat) (s : Sl) (t2 t1 : TypeId) (vs : List Sl) (ls : List (List Value)) : Prop where
  row : SlOwn w B s t2 1 (vs.map fun s => .slice s.a s.len s.cap)
  len : vs.length = ls.length
  txt : ∀ (i : Nat) (x : Sl) (l : List Value), vs[i]? = some x → ls[i]? = some l → SlIn w x t1 1 l
theorem Rows2.ext {B : Nat} {s : Sl} {t2 t1 : TypeId} {vs : List Sl} {ls : List (List Value)} (h : Rows2 w B s t2 t1 vs ls) (e : Ext w w') : Rows2 w' B s t2 t1 vs ls :=
  ⟨h.row.ext e, h.len, fun i x l hx hl => (h.txt i x l hx hl).ext e⟩
theorem Rows2.ty {B : Nat} {s : Sl} {t2 t1 : TypeId} {vs : List Sl} {ls : List (List Value)} (h : Rows2 w B s t2 t1 vs ls) (u : Upd S w w') (h2 : NoTy w S t2) (h1 : NoTy w S t1) : Rows2 w' B s t2 t1 vs ls :=
  ⟨h.row.ty u h2, h.len, fun i x l hx hl => (h.txt i x l hx hl).ty u h1⟩
theorem Rows2.nil (w : World) (B : Nat) (t2 t1 : TypeId) : Rows2 w B ⟨none, 0, 0⟩ t2 t1 [] [] := ⟨SlOwn.nil w B t2 1, rfl, fun i x l hx => by simp at hx⟩
theorem Rows2.length {B : Nat} {s : Sl} {t2 t1 : TypeId} {vs : List Sl} {ls : List (List Value)} (h : Rows2 w B s t2 t1 vs ls) : ls.length = s.len := by
  have := h.row.len1; rw [List.length_map] at this; rw [← h.len]; exact this
theorem Rows2.push {P : Program} {ts rt : TypeId} {B : Nat} {s : Sl} {t2 t1 : TypeId} {vs : List Sl} {ls : List (List Value)} {x : Sl} {l : List Value} {b : Nat} {K : Sl → World → Prop} (h : Rows2 w B s t2 t1 vs ls) {bytes : Nat} (E : ElemOk P ts t2 1 bytes) (hx : SlIn w x t1 1 l) (ht : t2 ≠ t1)
    (hb : w.heap[b]? = some (.cells #[.slice x.a x.len x.cap] t2 (0, 0))) (hroom : (s.len + 1 + (s.len + 1) / 4 + 512) * bytes ≤ 2 ^ 48) (hB : B ≤ w.heap.size)
    (hK : ∀ s' w', Rows2 w' B s' t2 t1 (vs ++ [x]) (ls ++ [l]) → Upd s.blk w w' → (∀ k, s'.blk k → s.blk k ∨ w.heap.size ≤ k) → K s' w') :
    rawT P (.one (.one .sl)) (Builtin.append_ #[ts, ts] rt #[.slice s.a s.len s.cap, .slice (some (at0 b)) 1 1]) K w := by
  have hone : SlIn w ⟨some (at0 b), 1, 1⟩ t2 1 [.slice x.a x.len x.cap] := SlIn.of_box (n := 1) (sz := 1) hb rfl
  refine append_r (x := ⟨some (at0 b), 1, 1⟩) E E.ts_ h.row hone (fun v hv => by simp at hv; subst hv; rfl) hroom hB fun s' w2 o2 _ u2 hbk => hK s' w2 ⟨by simpa using o2, by simp [h.len], fun i y l' hy hl => ?_⟩ u2 hbk
  have hno := NoTy.blk h.row.in ht
  by_cases hi : i < vs.length
  · rw [List.getElem?_append_left hi] at hy
    rw [List.getElem?_append_left (by rw [← h.len]; exact hi)] at hl
    exact (h.txt i y l' hy hl).ty u2 hno
  · rw [List.getElem?_append_right (by omega)] at hy
    rw [List.getElem?_append_right (by rw [← h.len]; omega)] at hl
    have h0 : i - vs.length = 0 := by have := (List.getElem?_eq_some_iff.1 hy).1; simp at this; omega
    rw [← h.len, h0] at hl
    rw [h0] at hy
    cases hy; cases hl
    exact hx.ty u2 hno
end
end Go.Vx
set_option linter.unusedSimpArgs false
set_option linter.unusedVariables false
namespace Go.Vx
open Go
structure Iter (w : World) (r m : Nat) (es done : List MapEntry) : Prop where
  at_ : ∃ clock, w.heap[m]? = some (.map es.toArray clock) ∧ (∀ x ∈ es, x.born < clock) ∧ w.heap[r]? = some (.mapIter (some m) clock (done.map (·.born)).toArray clock)
  nd : (es.map (·.born)).Nodup
  sub : ∀ x ∈ done, x ∈ es
  dnd : (done.map (·.born)).Nodup
section
variable {S : Nat → Prop} {w w' : World} {P : Program}
theorem Iter.ne {r m : Nat} {es done : List MapEntry} (h : Iter w r m es done) : r ≠ m := by
  rintro rfl
  obtain ⟨c, h1, _, h2⟩ := h.at_
  rw [h1] at h2; cases h2
theorem Iter.upd {r m : Nat} {es done : List MapEntry} (h : Iter w r m es done) (u : Upd S w w') (h1 : ¬ S r) (h2 : ¬ S m) : Iter w' r m es done := by
  obtain ⟨c, g1, g2, g3⟩ := h.at_
  exact ⟨⟨c, u.get g1 h2, g2, u.get g3 h1⟩, h.nd, h.sub, h.dnd⟩
theorem Iter.ext {r m : Nat} {es done : List MapEntry} (h : Iter w r m es done) (u : Ext w w') : Iter w' r m es done := h.upd u id id
theorem Iter.cells {r m : Nat} {es done : List MapEntry} (h : Iter w r m es done) (u : Upd S w w') (hS : ∀ k, S k → ∃ c t fr, w.heap[k]? = some (.cells c t fr)) : Iter w' r m es done := by
  obtain ⟨c, g1, g2, g3⟩ := h.at_
  refine h.upd u (fun hk => ?_) (fun hk => ?_)
  · obtain ⟨c, t, fr, hc⟩ := hS _ hk; rw [g3] at hc; cases hc
  · obtain ⟨c, t, fr, hc⟩ := hS _ hk; rw [g1] at hc; cases hc
end
end Go.Vx
set_option linter.unusedSimpArgs false
set_option linter.unusedVariables false
namespace Go.Vx
open Go
section
variable {w w' : World} {P : Program}
theorem makeSlice_r {ts e : TypeId} {ie : Inf} {z : Value} (hts : P.underlying ts = some (.slice e)) (he : InfOk P e ie) (hz : ie.zero = some z) (hzs : z.cells.size = ie.size) {n : Int} {K : Sl → World → Prop} (h0 : 0 ≤ n) (hn : n * ie.bytes ≤ 2 ^ 48) (hn2 : n ≤ 9223372036854775807)
    (hK : ∀ b w' c, w'.heap[b]? = some (.cells c e (0, 0)) → c.size = n.toNat * ie.size → (∀ i, i < c.size → c[i]? = z.cells[i % ie.size]?) → Ext w w' → b = w.heap.size → K ⟨some (at0 b), n.toNat, n.toNat⟩ w') :
    rawT P (.one (.one .sl)) (Instr.makeSlice ts (.int .i64 n) (.int .i64 n)) K w := by
  obtain ⟨j, hj, hs, hb, hz'⟩ := he.infoX
  have hw : IntKind.i64.wrap n = n := IntWalk.i64_in _ ⟨by omega, hn2⟩
  have hu := fun W => run_underlying hts W
  have hti : ∀ W, (typeInfo e).run P W = .ok j W := fun W => run_typeInfo W hj
  have hsz : ∀ W, (sizeOf e).run P W = .ok ie.size W := fun W => he.run_size W
  have hzv : ∀ W, (zeroValue e).run P W = .ok z W := fun W => he.run_zero W hz
  have hlarge : (decide (n < 0) || decide ((j.bytes : Int) * n > 2 ^ 48)) = false := by
    rw [hb, Int.mul_comm]
    simp only [Bool.or_eq_false_iff, decide_eq_false_iff_not]
    omega
  obtain ⟨c, hc⟩ : ∃ c : Array Value, c = (Array.range (n.toNat * ie.size)).map (fun k => (if n.toNat * ie.size = 0 then (#[] : Array Value) else z.cells)[k % (if n.toNat * ie.size = 0 then (#[] : Array Value) else z.cells).size]!) := ⟨_, rfl⟩
  refine ⟨⟨some (at0 w.heap.size), n.toNat, n.toNat⟩, w.alloc (.cells c e), ?_, hK _ _ c (heap_alloc w _) (by rw [hc]; simp) (fun i hi => ?_) (Ext.alloc w _) rfl⟩
  · have hlt : ¬ n < 0 := by omega
    have hgt : ¬ ((j.bytes : Int) * n > 2 ^ 48) := by rw [hb, Int.mul_comm]; omega
    have hgt2 : ¬ (281474976710656 < (j.bytes : Int) * n) := by omega
    by_cases hz0 : n.toNat * ie.size = 0
    · simp only [hz0, if_true] at hc
      simp only [Instr.makeSlice, Sem.run_bind, hu, Result.andThen_ok, asInt, asIntOf, Sem.run_pure, hti, hw, hlarge, Bool.false_or, decide_eq_true_eq, hlt, hsz]
      simp [hgt2, run_askRoom, hsz, hz0, newRow, newObj, Sem.run, World.alloc_eq, hc, RTy.val, Ty.val, Cell.val]
    · simp only [hz0, if_false] at hc
      simp only [Instr.makeSlice, Sem.run_bind, hu, Result.andThen_ok, asInt, asIntOf, Sem.run_pure, hti, hw, hlarge, Bool.false_or, decide_eq_true_eq, hlt, hsz]
      simp [hgt2, run_askRoom, hsz, hz0, hzv, newRow, newObj, Sem.run, World.alloc_eq, hc, RTy.val, Ty.val, Cell.val]
  · rw [hc] at hi ⊢
    have hi : i < n.toNat * ie.size := by simpa using hi
    have hz0 : ¬ n.toNat * ie.size = 0 := by omega
    have hpos : 0 < ie.size := Nat.pos_of_ne_zero fun h => hz0 (by rw [h]; simp)
    have hm : i % ie.size < z.cells.size := by rw [hzs]; exact Nat.mod_lt _ hpos
    simp only [if_neg hz0]
    have hg : z.cells[i % ie.size]! = z.cells[i % ie.size] := getElem!_pos z.cells _ hm
    rw [Array.getElem?_map, Array.getElem?_eq_getElem (by simpa using hi), Array.getElem?_eq_getElem hm]
    simp only [Option.map_some, Array.getElem_range, hzs, hg]
theorem copy_r {ts xt rt e : TypeId} {sz : Nat} (hts : P.underlying ts = some (.slice e)) (hsz : ∀ w, (sizeOf e).run P w = .ok sz w) {b off dl dc : Nat} {c : Array Value} {t : TypeId} {x : Sl} {us : List Value} {K : Int → World → Prop}
    (hb : w.heap[b]? = some (.cells c t (0, 0))) (hfit : off + us.length ≤ c.size) (hx : SlX w x sz us) (hle : x.len ≤ dl) (h1 : ∀ v ∈ us, isOne v = true)
    (hK : ∀ w', w'.heap[b]? = some (.cells (setRow c off us) t (0, 0)) → Upd (fun k => k = b) w w' → w'.heap.size = w.heap.size → K x.len w') :
    rawT P (.one (.one (.int .i64))) (Builtin.copy_ #[ts, xt] rt #[.slice (some ⟨b, off, none⟩) dl dc, .slice x.a x.len x.cap]) K w := by
  obtain ⟨w1, hr, hu, hb1, hz⟩ := run_storeRow P us b off 0 c t w h1 hb (by omega)
  refine ⟨x.len, w1, ?_, hK w1 (by simpa using hb1) hu hz⟩
  have hmin : Nat.min x.len dl = x.len := Nat.min_eq_left hle
  have hfx := run_firstCellsX P hx
  simp [Builtin.copy_, run_underlying hts, Builtin.lenOf, hsz, hmin, hfx, hr, goInt, RTy.val, Ty.val, Cell.val]
end
end Go.Vx
set_option linter.unusedSimpArgs false
set_option linter.unusedVariables false
namespace Go.Vx
open Go
section
variable {w w' : World} {P : Program}
theorem append_run2 (P : Program) {ts xt rt : TypeId} {e xe : TypeId} {i : TypeInfo} {z : Value} (hts : P.underlying ts = some (.slice e)) (hxt : P.underlying xt = some (.slice xe)) (hi : P.info? e = some i) (hz : i.zero = some z)
    {B : Nat} {s x : Sl} {vs us : List Value} (hs : SlOwn w B s e i.size vs) (hx : SlX w x i.size us) (h1 : ∀ v ∈ us, isOne v = true) (hzl : z.cells.size = i.size)
    (hroom : (s.len + x.len + (s.len + x.len) / 4 + 512) * i.bytes ≤ 2 ^ 48) (hb0 : 0 < i.bytes) (hB : B ≤ w.heap.size) :
    ∃ s' w', (Builtin.append_ #[ts, xt] rt #[.slice s.a s.len s.cap, .slice x.a x.len x.cap]).run P w = .ok (.slice s'.a s'.len s'.cap) w' ∧ SlOwn w' B s' e i.size (vs ++ us) ∧ s'.len = s.len + x.len ∧
      Upd (fun k => s.blk k) w w' ∧ (∀ k, s'.blk k → s.blk k ∨ w.heap.size ≤ k) ∧ (Ext w w' ∨ ∃ b off c, s.a = some ⟨b, off, none⟩ ∧ w.heap[b]? = some (.cells c e (0, 0)) ∧ w'.heap[b]? = some (.cells (setRow c (off + s.len * i.size) us) e (0, 0))) := by
  have hfx := run_firstCellsX P hx
  have hfs := run_firstCells P hs.in
  have hu1 := fun W => run_underlying hts W
  have hu2 := fun W => run_underlying hxt W
  have hsz : ∀ W, (sizeOf e).run P W = .ok i.size W := fun W => by simp [sizeOf, run_typeInfo W hi]
  have hti : ∀ W, (typeInfo e).run P W = .ok i W := fun W => run_typeInfo W hi
  have hzv : ∀ W, (zeroValue e).run P W = .ok z W := fun W => by simp [zeroValue, run_typeInfo W hi, hz]
  have hlen := hs.len
  have hxlen := hx.len
  by_cases hneed : s.len + x.len ≤ s.cap
  ·
    rcases hs.at_ with ⟨ha, hc⟩ | ⟨b, off, c, ha, hB', hb, hcap, hv⟩
    · have hl0 : x.len = 0 := by omega
      have hsl : s.len = 0 := by omega
      have hus : us = [] := by rw [hl0, Nat.zero_mul] at hxlen; exact List.length_eq_zero_iff.1 hxlen
      refine ⟨⟨none, 0, s.cap⟩, w, ?_, ⟨by simp [hus, hlen, hsl], by simp, .inl ⟨rfl, hc⟩⟩, by simp [hl0, hsl], Upd.refl _ _, (fun k hk => by obtain ⟨p, hp, _⟩ := hk; cases hp), .inl (Ext.refl w)⟩
      have hfx' : (Builtin.firstCells i.size 0 (.slice x.a 0 x.cap)).run P w = .ok #[] w := by rw [hl0, hus] at hfx; exact hfx
      simp [Builtin.append_, hu1, hu2, hsz, Builtin.lenOf, hl0, hsl, ha, hfx', hc]
    · have hfit : s.len * i.size + us.length ≤ s.cap * i.size := by
        rw [hxlen, ← Nat.add_mul]; exact Nat.mul_le_mul_right _ hneed
      obtain ⟨w1, hr, hu, hb1, _⟩ := run_storeRow P us b (off + s.len * i.size) 0 c e w h1 hb (by omega)
      refine ⟨⟨s.a, s.len + x.len, s.cap⟩, w1, ?_, ⟨by simp [hlen, hxlen, Nat.add_mul], hneed, .inr ⟨b, off, setRow c (off + s.len * i.size + 0) us, ha, hB', hb1, by rw [size_setRow]; exact hcap, ?_⟩⟩, rfl, hu.mono fun k _ hk => ⟨_, ha, hk.symm⟩, fun k hk => .inl hk, .inr ⟨b, off, c, ha, hb, hb1⟩⟩
      · simp [Builtin.append_, hu1, hu2, hsz, Builtin.lenOf, hneed, hfx, ha, addr_add, hr]
      · intro j v hj
        rw [Nat.add_zero]
        by_cases hjl : j < vs.length
        · rw [List.getElem?_append_left hjl] at hj
          rw [get_setRow_lt _ _ _ _ (by omega)]; exact hv j v hj
        · rw [List.getElem?_append_right (by omega)] at hj
          have hlt := (List.getElem?_eq_some_iff.1 hj).1
          rw [show off + j = off + s.len * i.size + (j - vs.length) by omega, get_setRow _ _ _ _ (by omega) hlt]
          exact hj
  ·
    have hle := nextslicecap_le (need := s.len + x.len) (old := s.cap) (by omega)
    have hroom' : ¬ (Builtin.nextslicecap (s.len + x.len) s.cap * i.bytes > 2 ^ 48) := by
      have := Nat.mul_le_mul_right i.bytes hle
      omega
    obtain ⟨nc, hnc, hncl⟩ : ∃ nc, (Question.appendCap (s.len + x.len) s.cap e).cut (w.tape w.drawn (Question.appendCap (s.len + x.len) s.cap e)) = nc ∧ s.len + x.len ≤ nc := ⟨_, rfl, by simp only [Question.cut]; omega⟩
    have hfx' : (Builtin.firstCells i.size x.len (.slice x.a x.len x.cap)).run P w.drew = .ok us.toArray w.drew := run_firstCellsX P (hx.ext (Ext.drew w))
    have hfs' : (Builtin.firstCells i.size s.len (.slice s.a s.len s.cap)).run P w.drew = .ok vs.toArray w.drew := run_firstCells P (hs.in.ext (Ext.drew w))
    let row := vs.toArray ++ us.toArray ++ Builtin.zeroCells z.cells (nc - (s.len + x.len))
    have hrow : row.size = nc * i.size := by
      simp only [row, Array.size_append, List.size_toArray, Builtin.zeroCells, Array.size_map, Array.size_range, hzl, hlen, hxlen]
      rw [← Nat.add_mul, ← Nat.add_mul]
      congr 1; omega
    have hext : Ext w (w.drew.alloc (.cells row e)) := (Ext.drew w).trans (Ext.alloc w.drew _)
    refine ⟨⟨some ⟨w.heap.size, 0, none⟩, s.len + x.len, nc⟩, w.drew.alloc (.cells row e), ?_, ⟨by simp [hlen, hxlen, Nat.add_mul], hncl, .inr ⟨w.heap.size, 0, row, rfl, hB, heap_alloc w.drew _, by rw [hrow]; simp, ?_⟩⟩, rfl,
      (Upd.of_ext hext), (fun k hk => .inr (by obtain ⟨p, hp, rfl⟩ := hk; cases hp; exact Nat.le_refl _)), .inl hext⟩
    · have hb0' : ¬ i.bytes = 0 := by omega
      simp [Builtin.append_, hu1, hu2, hsz, Builtin.lenOf, hneed, hti, hb0', hroom', run_askRoom, hfs', hfx', hzv, newRow, newObj, Sem.run, Question.forced, hnc, row]
    · intro j v hj
      rw [Nat.zero_add]
      have hlt := (List.getElem?_eq_some_iff.1 hj).1
      have : row[j]? = (vs ++ us)[j]? := by
        simp only [row]
        rw [Array.getElem?_append_left (by simpa using hlt)]
        simp
      rw [this]; exact hj
end
end Go.Vx
set_option linter.unusedSimpArgs false
set_option linter.unusedVariables false
namespace Go.Vx
open Go
structure Key (κ : Type) [BEq κ] [LawfulBEq κ] where
  kv : κ → Value
  desc : TypeDesc
  same : ∀ a b : κ, Instr.sameNow desc (kv a) (kv b) = some (a == b)
  check : ∀ (P : Program) (kt : TypeId) (b : Bool) (n : Nat) (a : κ) (w : World), P.underlying kt = some desc → (Instr.checkKey b (n + 1) kt (kv a)).run P w = .ok () w
  bits : ∀ n a, Instr.sameBits n (kv a) (kv a) = true
def Key.int : Key Int where
  kv := .int .i64
  desc := .int .i64
  same a b := by simp [Instr.sameNow]
  check P kt b n a w h := by simp [Instr.checkKey, run_underlying h]
  bits n a := by cases n <;> simp [Instr.sameBits]
instance lawfulBytes : LawfulBEq ByteArray where
  eq_of_beq {a b} h := by
    cases a; cases b
    have h : ByteArray.beq _ _ = true := h
    simp only [ByteArray.beq] at h
    simpa using h
  rfl {a} := by
    cases a
    show ByteArray.beq _ _ = true
    simp [ByteArray.beq]
def Key.str : Key ByteArray where
  kv := .string
  desc := .string
  same a b := by simp [Instr.sameNow]
  check P kt b n a w h := by simp [Instr.checkKey, run_underlying h]
  bits n a := by cases n <;> simp [Instr.sameBits]
abbrev KEnt (κ : Type) := κ × Value × Nat
section
variable {S S' : Nat → Prop} {w w' : World} {P : Program} {κ : Type} [BEq κ] [LawfulBEq κ] [DecidableEq κ] {k_ : Key κ}
def KEnt.ent (k_ : Key κ) (x : KEnt κ) : MapEntry := ⟨k_.kv x.1, x.2.1, x.2.2⟩
structure MapK (k_ : Key κ) (w : World) (m : Nat) (es : List (KEnt κ)) : Prop where
  heap : ∃ clock, w.heap[m]? = some (.map (es.map (KEnt.ent k_)).toArray clock) ∧ ∀ x ∈ es, x.2.2 < clock
  keys : (es.map (·.1)).Nodup
  born : (es.map (·.2.2)).Nodup
theorem MapK.upd {m : Nat} {es : List (KEnt κ)} (h : MapK k_ w m es) (hu : Upd S w w') (hS : ¬ S m) : MapK k_ w' m es := by
  have _d := (inferInstance : DecidableEq κ)
  clear _d
  obtain ⟨⟨c, h1, h2⟩, h3, h4⟩ := h
  exact ⟨⟨c, hu.get h1 hS, h2⟩, h3, h4⟩
theorem MapK.ext {m : Nat} {es : List (KEnt κ)} (h : MapK k_ w m es) (hu : Ext w w') : MapK k_ w' m es := h.upd hu id
structure MapTyK (k_ : Key κ) (P : Program) (t : TypeId) (z : Value) : Prop where
  ok : ∃ kt et, P.underlying t = some (.map kt et) ∧ P.underlying kt = some k_.desc ∧ ∀ w, (zeroValue et).run P w = .ok z w
theorem MapTyK.of {t kt et : TypeId} {i ik ie : Inf} (h : InfOk P t i) (hk : InfOk P kt ik) (he : InfOk P et ie) (hd : i.desc = .map kt et) (hkd : ik.desc = k_.desc) {z : Value} (hz : ie.zero = some z) : MapTyK k_ P t z :=
  have _d := (inferInstance : DecidableEq κ)
  ⟨kt, et, by rw [h.und, hd], by rw [hk.und, hkd], fun w => he.run_zero w hz⟩
theorem MapK.made (m : Nat) (h : w.heap[m]? = some (.map #[] 0)) : MapK k_ w m [] :=
  have _d := (inferInstance : DecidableEq κ)
  ⟨⟨0, h, fun _ hx => by cases hx⟩, List.nodup_nil, List.nodup_nil⟩
end
end Go.Vx
set_option linter.unusedSimpArgs false
set_option linter.unusedVariables false
namespace Go.Vx
open Go
abbrev bv (l : List UInt8) : List Value := l.map fun b => .int .u8 (b.toNat : Int)
theorem bv_one (l : List UInt8) : ∀ v ∈ bv l, isOne v = true := by
  intro v hv
  obtain ⟨x, _, rfl⟩ := List.mem_map.1 hv
  rfl
section
variable {S S' : Nat → Prop} {w w' : World} {P : Program}
theorem equalIn_nil {t : TypeId} {ms : Array (String × TypeId)} (hi : P.underlying t = some (.interface ms)) (n : Nat) (d : TypeId) (v : Value) (w : World) : (Op.equalIn (n + 1) t (.iface d v) .nilIface).run P w = .ok false w := by
  simp [Op.equalIn, run_underlying hi]
theorem equal_nil {t : TypeId} {ms : Array (String × TypeId)} (hi : P.underlying t = some (.interface ms)) (d : TypeId) (v : Value) (w : World) : (Op.equalIn Op.maxDepth t (.iface d v) .nilIface).run P w = .ok false w := equalIn_nil hi _ d v w
theorem rdB_nil {t : TypeId} {o1 : Operand} {d : TypeId} {v : Value} {K : Bool → World → Prop} (h : K false w) (hi : ∃ ms, P.underlying t = some (.interface ms)) : rdB P (do eqGuard .eql t o1 (.const .nilIface) (.iface d v) .nilIface; binOp .eql t (.iface d v) .nilIface : Sem Value) K w := by
  obtain ⟨ms, hi⟩ := hi
  refine ⟨false, ?_, h⟩
  simp [eqGuard, binOp, run_underlying hi, Op.equal, equal_nil hi]
end
end Go.Vx
set_option linter.unusedSimpArgs false
set_option linter.unusedVariables false
namespace Go.Proofs.YtabcpghhfeplaaaGreat
namespace Cdc
abbrev Bs := List UInt8
inductive Enc where
  | u8 | le | be | l1
  deriving DecidableEq
def Enc.num : Enc → Int
  | .u8 => 1
  | .le => 2
  | .be => 3
  | .l1 => 4
def bnds (c : Nat) : Nat × Nat × Nat :=
  if c < 128 then (1, 0, 0) else if c < 194 then (0, 0, 0) else if c < 224 then (2, 128, 191) else if c = 224 then (3, 160, 191) else if c = 237 then (3, 128, 159)
  else if c < 240 then (3, 128, 191) else if c = 240 then (4, 144, 191) else if c < 244 then (4, 128, 191) else if c = 244 then (4, 128, 143) else (0, 0, 0)
def cont (c : UInt8) : Bool := c.toNat / 64 == 2
def more : Nat → Bs → Nat
  | n + 1, b :: r => if cont b then more n r + 1 else 0
  | _, _ => 0
def rowOf : Bs → Nat × Nat
  | [] => (0, 0)
  | b :: r => if (bnds b.toNat).1 < 2 then ((bnds b.toNat).1, (bnds b.toNat).1) else
    match r with
    | [] => (1, (bnds b.toNat).1)
    | c :: r' => if c.toNat < (bnds b.toNat).2.1 ∨ (bnds b.toNat).2.2 < c.toNat then (1, (bnds b.toNat).1) else (2 + more ((bnds b.toNat).1 - 2) r', (bnds b.toNat).1)
def lead (n c : Nat) : Nat := if n = 2 then c % 32 else if n = 3 then c % 16 else if n = 4 then c % 8 else c
def rest (a : Nat) (l : Bs) : Nat := l.foldl (fun a c => a * 64 + c.toNat % 64) a
def nx8 : Bs → Int × Nat
  | [] => (0, 0)
  | b :: r => if (rowOf (b :: r)).2 = 0 ∨ (rowOf (b :: r)).1 < (rowOf (b :: r)).2 then (-1 - (b.toNat : Int), 1)
    else ((rest (lead (rowOf (b :: r)).2 b.toNat) (r.take ((rowOf (b :: r)).2 - 1)) : Nat), (rowOf (b :: r)).2)
def un (be : Bool) (a b : UInt8) : Nat := if be then b.toNat + a.toNat * 256 else a.toNat + b.toNat * 256
def nx16 (be : Bool) : Bs → Int × Nat
  | [] => (0, 0)
  | [b] => (-1 - (b.toNat : Int), 1)
  | a :: b :: r => if un be a b / 1024 = 54 then
      match r with
      | c :: d :: _ => if un be c d / 1024 = 55 then (65536 + ((un be a b % 1024 * 1024 + un be c d % 1024 : Nat) : Int), 4) else ((un be a b : Nat), 2)
      | _ => ((un be a b : Nat), 2)
    else ((un be a b : Nat), 2)
def nx1 : Bs → Int × Nat
  | [] => (0, 0)
  | b :: _ => ((b.toNat : Int), 1)
def nx : Enc → Bs → Int × Nat
  | .u8, l => nx8 l
  | .le, l => nx16 false l
  | .be, l => nx16 true l
  | .l1, l => nx1 l
theorem bnds_le (c : Nat) : (bnds c).1 ≤ 4 := by
  unfold bnds; repeat' split
  all_goals simp
theorem more_le : ∀ (n : Nat) (l : Bs), more n l ≤ n ∧ more n l ≤ l.length
  | 0, l => by cases l <;> simp [more]
  | n + 1, [] => by simp [more]
  | n + 1, b :: r => by
    have := more_le n r
    simp only [more]
    split <;> simp <;> omega
theorem more_take : ∀ (n : Nat) (l : Bs) (k : Nat), more n (l.take k) = min k (more n l)
  | 0, l, k => by cases l <;> cases k <;> simp [more]
  | n + 1, [], k => by simp [more]
  | n + 1, b :: r, 0 => by simp [more]
  | n + 1, b :: r, k + 1 => by
    simp only [List.take_succ_cons, more]
    split
    · rw [more_take n r k]; omega
    · simp
theorem rowOf_bnds (b : UInt8) (r : Bs) : (rowOf (b :: r)).2 = (bnds b.toNat).1 := by
  simp only [rowOf]
  repeat' split
  all_goals rfl
theorem rowOf_le (b : UInt8) (r : Bs) : (rowOf (b :: r)).1 ≤ (b :: r).length ∧ (rowOf (b :: r)).1 ≤ max 1 (rowOf (b :: r)).2 := by
  simp only [rowOf]
  split
  · simp; omega
  · split
    · simp; omega
    · rename_i c r'
      split
      · simp; omega
      · have := more_le ((bnds b.toNat).1 - 2) r'
        simp; omega
theorem rowOf_take (b : UInt8) (r : Bs) (k : Nat) : (rowOf (b :: r.take k)).1 ≤ (rowOf (b :: r)).1 ∧ ((rowOf (b :: r)).1 ≤ k + 1 → (rowOf (b :: r.take k)).1 = (rowOf (b :: r)).1) := by
  simp only [rowOf]
  split
  · simp
  · rename_i h2
    cases r with
    | nil => simp
    | cons c r' =>
      cases k with
      | zero =>
        simp only [List.take_zero]
        split
        · simp
        · simp; omega
      | succ k =>
        simp only [List.take_succ_cons]
        split
        · simp
        · simp only [more_take]; omega
theorem nx8_size (b : UInt8) (r : Bs) : 1 ≤ (nx8 (b :: r)).2 ∧ (nx8 (b :: r)).2 ≤ (b :: r).length ∧ (nx8 (b :: r)).2 ≤ 4 := by
  have h1 := rowOf_le b r
  have h2 := rowOf_bnds b r
  have h3 := bnds_le b.toNat
  simp only [nx8]
  split
  · simp
  · simp only; omega
theorem nx8_take (b : UInt8) (r : Bs) (k : Nat) (h : (nx8 (b :: r)).2 ≤ k + 1) : nx8 (b :: r.take k) = nx8 (b :: r) := by
  have h1 := rowOf_take b r k
  have h2 := rowOf_bnds b r
  have h3 := rowOf_bnds b (r.take k)
  have h4 := rowOf_le b r
  simp only [nx8] at h ⊢
  rw [h3, ← h2]
  split at h
  · rename_i hc
    have : (rowOf (b :: r)).2 = 0 ∨ (rowOf (b :: List.take k r)).1 < (rowOf (b :: r)).2 := by omega
    rw [if_pos this, if_pos hc]
  · rename_i hc
    simp only at h
    rw [if_neg hc, if_neg (by omega), List.take_take, Nat.min_eq_left (by omega)]
theorem nx16_size (be : Bool) (b : UInt8) (r : Bs) : 1 ≤ (nx16 be (b :: r)).2 ∧ (nx16 be (b :: r)).2 ≤ (b :: r).length ∧ (nx16 be (b :: r)).2 ≤ 4 := by
  cases r with
  | nil => simp [nx16]
  | cons c r =>
    simp only [nx16]
    split
    · split
      · split <;> simp
      · simp
    · simp
theorem nx16_take (be : Bool) (b : UInt8) (r : Bs) (k : Nat) (h : (nx16 be (b :: r)).2 ≤ k + 1) : nx16 be (b :: r.take k) = nx16 be (b :: r) := by
  cases r with
  | nil => simp [nx16]
  | cons c r =>
    have hs : 1 < (nx16 be (b :: c :: r)).2 := by
      simp only [nx16]
      split
      · split
        · split <;> simp
        · simp
      · simp
    obtain ⟨k, rfl⟩ : ∃ k', k = k' + 1 := ⟨k - 1, by omega⟩
    simp only [List.take_succ_cons, nx16] at h ⊢
    split
    · rename_i hu
      rw [if_pos hu] at h
      match r, k with
      | [], k => simp
      | [_], 0 => simp
      | [_], k + 1 => simp
      | c :: d :: r, 0 =>
        simp only at h ⊢
        split at h
        · simp at h
        · rename_i h55; simp [h55]
      | c :: d :: r, 1 =>
        simp only at h ⊢
        split at h
        · simp at h
        · rename_i h55; simp [h55]
      | c :: d :: r, k + 2 => simp
    · rfl
theorem nx_size (e : Enc) {l : Bs} (h : l ≠ []) : 1 ≤ (nx e l).2 ∧ (nx e l).2 ≤ l.length ∧ (nx e l).2 ≤ 4 := by
  cases l with
  | nil => exact absurd rfl h
  | cons b r =>
    cases e with
    | u8 => exact nx8_size b r
    | le => exact nx16_size _ b r
    | be => exact nx16_size _ b r
    | l1 => simp [nx, nx1]
theorem nx_take (e : Enc) {l : Bs} {k : Nat} (h : l ≠ []) (hk : (nx e l).2 ≤ k) : nx e (l.take k) = nx e l := by
  cases l with
  | nil => exact absurd rfl h
  | cons b r =>
    have hs := (nx_size e h).1
    obtain ⟨k, rfl⟩ : ∃ k', k = k' + 1 := ⟨k - 1, by omega⟩
    rw [List.take_succ_cons]
    cases e with
    | u8 => exact nx8_take b r k hk
    | le => exact nx16_take _ b r k hk
    | be => exact nx16_take _ b r k hk
    | l1 => rfl
def ats (e : Enc) (l : Bs) : List (Int × Nat) :=
  if h : l = [] then [] else nx e l :: ats e (l.drop (nx e l).2)
termination_by l.length
decreasing_by
  have h1 := nx_size e h
  have : 0 < l.length := List.length_pos_iff.2 h
  simp only [List.length_drop]; omega
theorem ats_nil (e : Enc) : ats e [] = [] := by rw [ats]; simp
theorem ats_cons (e : Enc) {l : Bs} (h : l ≠ []) : ats e l = nx e l :: ats e (l.drop (nx e l).2) := by rw [ats]; simp [h]
def szs (l : List (Int × Nat)) : Nat := (l.map (·.2)).sum
theorem szs_nil : szs [] = 0 := rfl
theorem szs_cons (x : Int × Nat) (l : List (Int × Nat)) : szs (x :: l) = x.2 + szs l := by simp [szs]
theorem szs_append (l m : List (Int × Nat)) : szs (l ++ m) = szs l + szs m := by simp [szs]
theorem szs_ats (e : Enc) : ∀ (n : Nat) (l : Bs), l.length ≤ n → szs (ats e l) = l.length := by
  intro n
  induction n with
  | zero => intro l h; obtain rfl : l = [] := List.length_eq_zero_iff.1 (by omega); simp [ats_nil, szs]
  | succ n ih =>
    intro l h
    by_cases hl : l = []
    · subst hl; simp [ats_nil, szs]
    · have h1 := nx_size e hl
      have : 0 < l.length := List.length_pos_iff.2 hl
      rw [ats_cons e hl, szs_cons, ih _ (by simp only [List.length_drop]; omega), List.length_drop]
      omega
theorem szs_all (e : Enc) (l : Bs) : szs (ats e l) = l.length := szs_ats e _ l (Nat.le_refl _)
theorem ats_cut (e : Enc) : ∀ (j : Nat) (l : Bs), ats e (l.take (szs ((ats e l).take j))) = (ats e l).take j ∧ ats e (l.drop (szs ((ats e l).take j))) = (ats e l).drop j := by
  intro j
  induction j with
  | zero => intro l; simp [szs, ats_nil]
  | succ j ih =>
    intro l
    by_cases hl : l = []
    · subst hl; simp [ats_nil]
    · have h1 := nx_size e hl
      obtain ⟨g1, g2⟩ := ih (l.drop (nx e l).2)
      rw [ats_cons e hl]
      simp only [List.take_succ_cons, List.drop_succ_cons, szs_cons]
      generalize hm : szs ((ats e (l.drop (nx e l).2)).take j) = m at g1 g2 ⊢
      have hne : l.take ((nx e l).2 + m) ≠ [] := by
        have : 0 < l.length := List.length_pos_iff.2 hl
        intro hc
        have := congrArg List.length hc
        rw [List.length_take, List.length_nil] at this; omega
      constructor
      · rw [ats_cons e hne, nx_take e hl (by omega), List.drop_take]
        have : (nx e l).2 + m - (nx e l).2 = m := by omega
        rw [this, g1]
      · rw [← List.drop_drop, g2]
theorem ats_pos (e : Enc) : ∀ (n : Nat) (l : Bs), l.length ≤ n → ∀ x ∈ ats e l, 1 ≤ x.2 ∧ x.2 ≤ 4 := by
  intro n
  induction n with
  | zero => intro l h x hx; obtain rfl : l = [] := List.length_eq_zero_iff.1 (by omega); rw [ats_nil] at hx; cases hx
  | succ n ih =>
    intro l h x hx
    by_cases hl : l = []
    · subst hl; rw [ats_nil] at hx; cases hx
    · have h1 := nx_size e hl
      have : 0 < l.length := List.length_pos_iff.2 hl
      rw [ats_cons e hl] at hx
      rcases List.mem_cons.1 hx with rfl | hx
      · exact ⟨h1.1, h1.2.2⟩
      · exact ih _ (by simp only [List.length_drop]; omega) x hx
end Cdc
end Go.Proofs.YtabcpghhfeplaaaGreat
set_option linter.unusedSimpArgs false
set_option linter.unusedVariables false
namespace Go.Proofs.YtabcpghhfeplaaaGreat
open Go Go.Vx
namespace Trx
structure Sums where
  atoms : Nat
  bytes : Nat
  breaks : Nat
  lf : Bool
  cr : Bool
  deriving DecidableEq
structure Sums.Ok (s : Sums) : Prop where
  brk : s.breaks ≤ s.atoms
  byt : s.atoms ≤ s.bytes
  lf : s.lf = true → 1 ≤ s.breaks
  cr : s.cr = true → 1 ≤ s.breaks
  nil : s.atoms = 0 → s = ⟨0, 0, 0, false, false⟩
def Sums.zero : Sums := ⟨0, 0, 0, false, false⟩
def Sums.add (s o : Sums) : Sums :=
  if s.atoms = 0 then o else if o.atoms = 0 then s else
    ⟨s.atoms + o.atoms, s.bytes + o.bytes, s.breaks + o.breaks - (if s.cr && o.lf then 1 else 0), s.lf, o.cr⟩
theorem Sums.zero_ok : Sums.zero.Ok := ⟨Nat.le_refl _, Nat.le_refl _, (fun h => by cases h), (fun h => by cases h), fun _ => rfl⟩
theorem Sums.add_zero {s : Sums} (h : s.Ok) : s.add .zero = s := by
  unfold Sums.add Sums.zero
  split
  · rename_i h0; rw [h.nil h0]
  · rfl
theorem Sums.zero_add (s : Sums) : Sums.zero.add s = s := rfl
theorem Sums.add_ok {s o : Sums} (h : s.Ok) (h' : o.Ok) : (s.add o).Ok := by
  unfold Sums.add
  split
  · exact h'
  · split
    · exact h
    · have := h.brk; have := h.byt; have := h'.brk; have := h'.byt
      have h1 := h.lf; have h2 := h'.cr; have h3 := h.cr; have h4 := h'.lf
      refine ⟨?_, ?_, ?_, ?_, ?_⟩
      · show s.breaks + o.breaks - _ ≤ s.atoms + o.atoms
        omega
      · show s.atoms + o.atoms ≤ s.bytes + o.bytes
        omega
      · show s.lf = true → 1 ≤ s.breaks + o.breaks - _
        intro e
        have := h1 e
        split
        · rename_i hc
          simp only [Bool.and_eq_true] at hc
          have := h4 hc.2
          omega
        · omega
      · show o.cr = true → 1 ≤ s.breaks + o.breaks - _
        intro e
        have := h2 e
        split
        · rename_i hc
          simp only [Bool.and_eq_true] at hc
          have := h3 hc.1
          omega
        · omega
      · intro e
        have : s.atoms + o.atoms = 0 := e
        omega
theorem Sums.add_assoc {a b c : Sums} (ha : a.Ok) (hb : b.Ok) (hc : c.Ok) : (a.add b).add c = a.add (b.add c) := by
  by_cases h1 : a.atoms = 0
  · have := ha.nil h1; subst this; rfl
  by_cases h2 : b.atoms = 0
  · have := hb.nil h2; subst this
    have e := Sums.add_zero ha
    unfold Sums.zero at e
    rw [e]; rfl
  by_cases h3 : c.atoms = 0
  · have := hc.nil h3; subst this
    have e := Sums.add_zero (Sums.add_ok ha hb)
    have e' := Sums.add_zero hb
    unfold Sums.zero at e e'
    rw [e, e']
  have h12 : ¬ a.atoms + b.atoms = 0 := by omega
  have h23 : ¬ b.atoms + c.atoms = 0 := by omega
  simp only [Sums.add, if_neg h1, if_neg h2, if_neg h3, if_neg h12, if_neg h23]
  have a1 : (if a.cr = true then 1 else 0) ≤ a.breaks := by split; exact ha.cr ‹_›; omega
  have b1 : (if b.lf = true then 1 else 0) ≤ b.breaks := by split; exact hb.lf ‹_›; omega
  have b2 : (if b.cr = true then 1 else 0) ≤ b.breaks := by split; exact hb.cr ‹_›; omega
  have c1 : (if c.lf = true then 1 else 0) ≤ c.breaks := by split; exact hc.lf ‹_›; omega
  refine (Sums.mk.injEq ..).mpr ⟨by omega, by omega, ?_, rfl, rfl⟩
  cases h5 : a.cr <;> cases h6 : b.lf <;> cases h7 : b.cr <;> cases h8 : c.lf <;> simp only [h5, h6, h7, h8, Bool.and_true, Bool.and_false, Bool.and_self, if_true, if_false, Bool.false_eq_true, reduceIte] at a1 b1 b2 c1 ⊢ <;> omega
theorem Sums.add_bytes (s o : Sums) (h : s.Ok) (h' : o.Ok) : (s.add o).bytes = s.bytes + o.bytes ∧ (s.add o).atoms = s.atoms + o.atoms := by
  unfold Sums.add
  split
  · rename_i h0; rw [h.nil h0]; simp
  · split
    · rename_i h0; rw [h'.nil h0]; simp
    · exact ⟨rfl, rfl⟩
structure Pc where
  bytes : Sl
  tag : Int
  sm : Sums
def Pc.zero : Pc := ⟨⟨none, 0, 0⟩, 0, .zero⟩
inductive Tr where
  | nil
  | node (b : Nat) (l : Tr) (x : Pc) (r : Tr)
def Tr.ptr : Tr → Option Addr
  | .nil => none
  | .node b _ _ _ => some (at0 b)
def Tr.size : Tr → Nat
  | .nil => 0
  | .node _ l _ r => l.size + 1 + r.size
def Tr.tall : Tr → Nat
  | .nil => 0
  | .node _ l _ r => max l.tall r.tall + 1
def Tr.items : Tr → List Pc
  | .nil => []
  | .node _ l x r => l.items ++ x :: r.items
def tot (l : List Pc) : Sums := l.foldr (fun x s => x.sm.add s) .zero
def AllOk (l : List Pc) : Prop := ∀ x ∈ l, x.sm.Ok
theorem tot_ok : ∀ {l : List Pc}, AllOk l → (tot l).Ok
  | [], _ => Sums.zero_ok
  | x :: r, h => Sums.add_ok (h x List.mem_cons_self) (tot_ok fun y hy => h y (List.mem_cons_of_mem _ hy))
theorem tot_append : ∀ {l m : List Pc}, AllOk l → AllOk m → tot (l ++ m) = (tot l).add (tot m)
  | [], m, _, _ => rfl
  | x :: r, m, h, h' => by
    have hr : AllOk r := fun y hy => h y (List.mem_cons_of_mem _ hy)
    show x.sm.add (tot (r ++ m)) = (x.sm.add (tot r)).add (tot m)
    rw [tot_append hr h', Sums.add_assoc (h x List.mem_cons_self) (tot_ok hr) (tot_ok h')]
theorem tot_one {x : Pc} (h : x.sm.Ok) : tot [x] = x.sm := Sums.add_zero h
theorem size_items : ∀ t : Tr, t.items.length = t.size
  | .nil => rfl
  | .node _ l x r => by
    simp only [Tr.items, Tr.size, List.length_append, List.length_cons, size_items l, size_items r]; omega
theorem tall_le : ∀ t : Tr, t.tall ≤ t.size
  | .nil => Nat.le_refl _
  | .node _ l x r => by
    have := tall_le l; have := tall_le r
    simp only [Tr.tall, Tr.size]; omega
theorem tall_pos {t : Tr} (h : 0 < t.tall) : ∃ b l x r, t = .node b l x r := by
  cases t with
  | nil => exact absurd h (by decide)
  | node b l x r => exact ⟨b, l, x, r, rfl⟩
theorem AllOk.left {l m : List Pc} (h : AllOk (l ++ m)) : AllOk l := fun x hx => h x (List.mem_append_left _ hx)
theorem AllOk.right {l m : List Pc} (h : AllOk (l ++ m)) : AllOk m := fun x hx => h x (List.mem_append_right _ hx)
theorem AllOk.append {l m : List Pc} (h : AllOk l) (h' : AllOk m) : AllOk (l ++ m) := fun x hx => (List.mem_append.1 hx).elim (h x) (h' x)
theorem AllOk.cons {x : Pc} {m : List Pc} (h : x.sm.Ok) (h' : AllOk m) : AllOk (x :: m) := fun y hy => (List.mem_cons.1 hy).elim (fun e => e ▸ h) (h' y)
theorem AllOk.one {x : Pc} (h : x.sm.Ok) : AllOk [x] := fun y hy => by rw [List.mem_singleton.1 hy]; exact h
theorem AllOk.head {x : Pc} {m : List Pc} (h : AllOk (x :: m)) : x.sm.Ok := h x List.mem_cons_self
theorem AllOk.tail {x : Pc} {m : List Pc} (h : AllOk (x :: m)) : AllOk m := fun y hy => h y (List.mem_cons_of_mem _ hy)
end Trx
end Go.Proofs.YtabcpghhfeplaaaGreat
set_option linter.unusedSimpArgs false
set_option linter.unusedVariables false
namespace Go.Proofs.YtabcpghhfeplaaaGreat
open Cdc Trx
namespace Trx
def one1 (a : Int) (n : Nat) : Sums := ⟨1, n, if a = 10 ∨ a = 13 then 1 else 0, a == 10, a == 13⟩
theorem one1_ok (a : Int) {n : Nat} (h : 1 ≤ n) : (one1 a n).Ok := by
  refine ⟨?_, h, ?_, ?_, ?_⟩
  · show (if a = 10 ∨ a = 13 then 1 else 0) ≤ 1
    split <;> omega
  · intro e
    have : a = 10 := by simpa [one1] using e
    show 1 ≤ if a = 10 ∨ a = 13 then 1 else 0
    rw [if_pos (.inl this)]; omega
  · intro e
    have : a = 13 := by simpa [one1] using e
    show 1 ≤ if a = 10 ∨ a = 13 then 1 else 0
    rw [if_pos (.inr this)]; omega
  · intro e; exact absurd e (by show ¬ 1 = 0; omega)
abbrev As := List (Int × Nat)
def Posd (l : As) : Prop := ∀ x ∈ l, 1 ≤ x.2
theorem Posd.tail {x : Int × Nat} {l : As} (h : Posd (x :: l)) : Posd l := fun y hy => h y (List.mem_cons_of_mem _ hy)
theorem Posd.left {l m : As} (h : Posd (l ++ m)) : Posd l := fun y hy => h y (List.mem_append_left _ hy)
theorem Posd.right {l m : As} (h : Posd (l ++ m)) : Posd m := fun y hy => h y (List.mem_append_right _ hy)
theorem Posd.app {l m : As} (h : Posd l) (h' : Posd m) : Posd (l ++ m) := fun y hy => (List.mem_append.1 hy).elim (h y) (h' y)
theorem Posd.take {l : As} (h : Posd l) (n : Nat) : Posd (l.take n) := fun y hy => h y (List.mem_of_mem_take hy)
theorem Posd.drop {l : As} (h : Posd l) (n : Nat) : Posd (l.drop n) := fun y hy => h y (List.mem_of_mem_drop hy)
theorem ats_posd (e : Enc) (l : Bs) : Posd (ats e l) := fun x hx => (ats_pos e _ l (Nat.le_refl _) x hx).1
def msr : As → Sums
  | [] => .zero
  | x :: r => (one1 x.1 x.2).add (msr r)
theorem msr_ok : ∀ {l : As}, Posd l → (msr l).Ok
  | [], _ => Sums.zero_ok
  | x :: r, h => Sums.add_ok (one1_ok _ (h x List.mem_cons_self)) (msr_ok h.tail)
theorem msr_append : ∀ {l m : As}, Posd l → Posd m → msr (l ++ m) = (msr l).add (msr m)
  | [], m, _, _ => rfl
  | x :: r, m, h, h' => by
    show (one1 x.1 x.2).add (msr (r ++ m)) = ((one1 x.1 x.2).add (msr r)).add (msr m)
    rw [msr_append h.tail h', Sums.add_assoc (one1_ok _ (h x List.mem_cons_self)) (msr_ok h.tail) (msr_ok h')]
theorem msr_one (a : Int) {n : Nat} (h : 1 ≤ n) : msr [(a, n)] = one1 a n := Sums.add_zero (one1_ok a h)
theorem msr_atoms : ∀ {l : As}, Posd l → (msr l).atoms = l.length
  | [], _ => rfl
  | x :: r, h => by
    have := (Sums.add_bytes _ _ (one1_ok x.1 (h x List.mem_cons_self)) (msr_ok h.tail)).2
    show ((one1 x.1 x.2).add (msr r)).atoms = _
    rw [this, msr_atoms h.tail, List.length_cons]
    show 1 + _ = _; omega
theorem msr_bytes : ∀ {l : As}, Posd l → (msr l).bytes = szs l
  | [], _ => rfl
  | x :: r, h => by
    have := (Sums.add_bytes _ _ (one1_ok x.1 (h x List.mem_cons_self)) (msr_ok h.tail)).1
    show ((one1 x.1 x.2).add (msr r)).bytes = _
    rw [this, msr_bytes h.tail, szs_cons]; rfl
def isE (a : Int) (r : List Int) : Bool := a == 10 || (a == 13 && r.head? != some 10)
def brs : List Int → Nat
  | [] => 0
  | a :: r => (if isE a r then 1 else 0) + brs r
def nb : List Int → Nat → Nat
  | [], _ => 0
  | _ :: _, 0 => 0
  | a :: r, n + 1 => (if isE a r then 1 else 0) + nb r n
def sk : List Int → Nat → Option Nat
  | _, 0 => some 0
  | [], _ + 1 => none
  | a :: r, k + 1 => (sk r (if isE a r then k else k + 1)).map (· + 1)
abbrev atoms (l : As) : List Int := l.map (·.1)
theorem msr_lf : ∀ {l : As}, Posd l → (msr l).lf = ((atoms l).head? == some 10)
  | [], _ => rfl
  | x :: r, h => by
    show ((one1 x.1 x.2).add (msr r)).lf = _
    unfold Sums.add
    rw [if_neg (show ¬ (one1 x.1 x.2).atoms = 0 by show ¬ 1 = 0; omega)]
    split <;> (simp [one1, atoms]; done)
theorem msr_cr : ∀ {l : As}, Posd l → (msr l).cr = ((atoms l).getLast? == some 13)
  | [], _ => rfl
  | [x], h => by rw [msr_one x.1 (h x List.mem_cons_self)]; simp [one1, atoms]
  | x :: y :: r, h => by
    have ih := msr_cr h.tail
    have ha := msr_atoms h.tail
    show ((one1 x.1 x.2).add (msr (y :: r))).cr = _
    unfold Sums.add
    rw [if_neg (show ¬ (one1 x.1 x.2).atoms = 0 by show ¬ 1 = 0; omega), if_neg (show ¬ (msr (y :: r)).atoms = 0 by rw [ha]; simp)]
    show (msr (y :: r)).cr = _
    rw [ih]
    simp [atoms]
theorem brk_arith (a : Int) (g : Bool) (n : Nat) (h : g = true → 1 ≤ n) : (if a = 10 ∨ a = 13 then 1 else 0) + n - (if ((a == 13) && g) = true then 1 else 0) = (if (a == 10 || (a == 13 && !g)) = true then 1 else 0) + n := by
  by_cases h10 : a = 10
  · simp [h10]
  · by_cases h13 : a = 13
    · cases g with
      | true =>
        have := h rfl
        simp [h13]
      | false => simp [h13]
    · simp [h10, h13]
theorem msr_breaks : ∀ {l : As}, Posd l → (msr l).breaks = brs (atoms l)
  | [], _ => rfl
  | x :: r, h => by
    have ih := msr_breaks h.tail
    have hlf := msr_lf h.tail
    have ha := msr_atoms h.tail
    have hok := msr_ok h.tail
    show ((one1 x.1 x.2).add (msr r)).breaks = (if isE x.1 (atoms r) then 1 else 0) + brs (atoms r)
    unfold Sums.add
    rw [if_neg (show ¬ (one1 x.1 x.2).atoms = 0 by show ¬ 1 = 0; omega)]
    split
    · rename_i h0
      have : r = [] := by rw [ha] at h0; exact List.length_eq_zero_iff.1 h0
      subst this
      show (if x.1 = 10 ∨ x.1 = 13 then 1 else 0) = _
      simp [isE, brs]
    · show (if x.1 = 10 ∨ x.1 = 13 then 1 else 0) + (msr r).breaks - (if (x.1 == 13) && (msr r).lf then 1 else 0) = _
      have := hok.lf
      rw [ih] at this ⊢
      rw [hlf] at this ⊢
      exact brk_arith x.1 _ _ this
theorem brs_nb : ∀ (l : List Int), brs l = nb l l.length
  | [] => rfl
  | a :: r => by rw [brs, List.length_cons, nb, brs_nb r]
theorem nb_ge : ∀ (l : List Int) (n : Nat), l.length ≤ n → nb l n = brs l
  | [], n, _ => by cases n <;> rfl
  | a :: r, 0, h => by simp at h
  | a :: r, n + 1, h => by rw [nb, brs, nb_ge r n (by simpa using h)]
theorem nb_zero (l : List Int) : nb l 0 = 0 := by cases l <;> rfl
def split13 (l : List Int) (n : Nat) : Bool := (0 < n) && l[n - 1]? == some 13 && l[n]? == some 10
theorem brs_take : ∀ (l : List Int) (n : Nat), brs (l.take n) = nb l n + (if split13 l n then 1 else 0)
  | [], n => by cases n <;> simp [brs, nb, split13]
  | a :: r, 0 => by simp [brs, nb, split13]
  | a :: r, 1 => by
    simp only [List.take_succ_cons, List.take_zero, brs, nb, nb_zero]
    unfold isE split13
    by_cases h10 : a = 10
    · simp [h10]
    · by_cases h13 : a = 13
      · subst h13
        cases r with
        | nil => simp
        | cons b r => by_cases hb : b = 10 <;> simp [hb]
      · simp [h10, h13]
  | a :: r, n + 2 => by
    have ih := brs_take r (n + 1)
    simp only [List.take_succ_cons, brs, nb]
    have e1 : isE a (r.take (n + 1)) = isE a r := by
      unfold isE
      cases r <;> simp
    have e2 : split13 (a :: r) (n + 2) = split13 r (n + 1) := by
      unfold split13
      simp
    rw [e1, ih, e2]; omega
theorem sk_of : ∀ (l : List Int) (k m : Nat), 1 ≤ k → m ≤ l.length → k ≤ brs (l.take m) → (∀ j, j < m → brs (l.take j) < k) → sk l k = some (if split13 l m then m + 1 else m)
  | [], k, m, hk, hm, h1, _ => by
    have : m = 0 := by simpa using hm
    subst this; simp [brs] at h1; omega
  | a :: r, k, 0, hk, _, h1, _ => by simp [brs] at h1; omega
  | a :: r, k, 1, hk, _, h1, _ => by
    simp only [List.take_succ_cons, List.take_zero, brs] at h1
    have hk1 : k = 1 := by split at h1 <;> omega
    subst hk1
    have ha : isE a [] = true := by
      by_cases h : isE a [] = true
      · exact h
      · rw [if_neg h] at h1; omega
    rw [sk]
    unfold isE at ha
    simp at ha
    by_cases h10 : a = 10
    · subst h10; simp [isE, sk, split13]
    · have h13 : a = 13 := ha.resolve_left h10
      subst h13
      cases r with
      | nil => simp [isE, sk, split13]
      | cons b r =>
        by_cases hb : b = 10
        · subst hb; simp [isE, sk, split13]
        · have : ¬ (some b = some (10 : Int)) := by simpa using hb
          simp [isE, sk, split13, hb]
  | a :: r, k, m + 2, hk, hm, h1, h0 => by
    obtain ⟨k', rfl⟩ : ∃ k', k = k' + 1 := ⟨k - 1, by omega⟩
    have e1 : ∀ j, isE a (r.take (j + 1)) = isE a r := by
      intro j; unfold isE
      cases r <;> simp
    have e2 : split13 (a :: r) (m + 2) = split13 r (m + 1) := by
      unfold split13
      simp
    have hE1 : (if isE a [] then 1 else 0) < k' + 1 := by
      have := h0 1 (by omega)
      simpa [brs] using this
    have hm' : m + 1 ≤ r.length := by simp at hm; omega
    simp only [List.take_succ_cons, brs, e1] at h1
    have h0' : ∀ j, j < m + 1 → (if isE a (r.take j) then 1 else 0) + brs (r.take j) < k' + 1 := by
      intro j hj
      have := h0 (j + 1) (by omega)
      simpa [List.take_succ_cons, brs] using this
    rw [sk, e2]
    have hle : isE a r = true → isE a [] = true := by
      unfold isE; simp; intro h; rcases h with h | h
      · exact .inl h
      · exact .inr h.1
    cases hE : isE a r with
    | true =>
      rw [hE] at h1
      have hk1 : 1 ≤ k' := by rw [hle hE] at hE1; simp at hE1; omega
      rw [if_pos rfl]
      have := sk_of r k' (m + 1) hk1 hm' (by simp at h1; omega) (fun j hj => by
        cases j with
        | zero => simp [brs]; omega
        | succ j => have := h0' (j + 1) hj; rw [e1, hE] at this; simp at this; omega)
      rw [this]
      split <;> simp
    | false =>
      rw [hE] at h1
      simp only [Bool.false_eq_true, if_false]
      have := sk_of r (k' + 1) (m + 1) (by omega) hm' (by simpa using h1) (fun j hj => by
        cases j with
        | zero => simp [brs]
        | succ j => have := h0' (j + 1) hj; rw [e1, hE] at this; simpa using this)
      rw [this]
      split <;> simp
theorem sk_none : ∀ (l : List Int) (k : Nat), brs l < k → sk l k = none
  | [], 0, h => by simp at h
  | [], k + 1, _ => rfl
  | a :: r, 0, h => by omega
  | a :: r, k + 1, h => by
    rw [sk, sk_none r _ (by rw [brs] at h; split <;> simp_all <;> omega)]
    rfl
theorem sk_some : ∀ (l : List Int) (k : Nat), k ≤ brs l → ∃ m, sk l k = some m ∧ m ≤ l.length ∧ nb l m = k ∧ ∀ j, j < m → nb l j < k
  | l, 0, _ => ⟨0, by cases l <;> rfl, Nat.zero_le _, nb_zero l, fun j h => by omega⟩
  | [], k + 1, h => by simp [brs] at h
  | a :: r, k + 1, h => by
    have hle : (if isE a r then k else k + 1) ≤ brs r := by rw [brs] at h; split <;> simp_all <;> omega
    obtain ⟨m, h1, h2, h3, h4⟩ := sk_some r _ hle
    refine ⟨m + 1, by rw [sk, h1]; rfl, by simpa using h2, ?_, ?_⟩
    · rw [nb, h3]; split <;> omega
    · intro j hj
      cases j with
      | zero => rw [nb_zero]; omega
      | succ j =>
        rw [nb]
        have := h4 j (by omega)
        cases hE : isE a r <;> rw [hE] at this <;> simp at this ⊢ <;> omega
theorem nb_mono : ∀ (l : List Int) (n m : Nat), n ≤ m → nb l n ≤ nb l m
  | [], n, m, _ => by cases n <;> cases m <;> simp [nb]
  | a :: r, 0, m, _ => by rw [nb_zero]; omega
  | a :: r, n + 1, m + 1, h => by rw [nb, nb]; have := nb_mono r n m (by omega); omega
theorem nb_le : ∀ (l : List Int) (n : Nat), nb l n ≤ n
  | [], n => by cases n <;> simp [nb]
  | a :: r, 0 => by rw [nb_zero]; omega
  | a :: r, n + 1 => by rw [nb]; have := nb_le r n; split <;> omega
theorem pos_step {e : Enc} {l : Bs} {j : Nat} (h : szs ((ats e l).take j) < l.length) : ∃ a n, (ats e l)[j]? = some (a, n) ∧ nx e (l.drop (szs ((ats e l).take j))) = (a, n) ∧ (ats e l).take (j + 1) = (ats e l).take j ++ [(a, n)] ∧ szs ((ats e l).take (j + 1)) = szs ((ats e l).take j) + n ∧ 1 ≤ n ∧
    szs ((ats e l).take (j + 1)) ≤ l.length := by
  have hc := (ats_cut e j l).2
  have hne : l.drop (szs ((ats e l).take j)) ≠ [] := fun hn => by
    have := congrArg List.length hn
    rw [List.length_drop, List.length_nil] at this; omega
  rw [ats_cons e hne] at hc
  have hj : j < (ats e l).length := by
    by_cases hj : j < (ats e l).length
    · exact hj
    · have hz : (ats e l).drop j = [] := List.drop_eq_nil_of_le (by omega)
      rw [hz] at hc; cases hc
  have hd := List.drop_eq_getElem_cons hj
  rw [hd] at hc
  obtain ⟨h1, -⟩ := List.cons.inj hc
  have ht : (ats e l).take (j + 1) = (ats e l).take j ++ [(ats e l)[j]] := by rw [List.take_succ_eq_append_getElem hj]
  have hp := ats_posd e l _ (List.getElem_mem hj)
  have hx := List.getElem?_eq_getElem hj
  generalize (ats e l)[j] = x at *
  obtain ⟨a, n⟩ := x
  have hs : szs ((ats e l).take (j + 1)) = szs ((ats e l).take j) + n := by rw [ht, szs_append, szs_cons, szs_nil, Nat.add_zero]
  refine ⟨a, n, hx, h1, ht, hs, hp, ?_⟩
  have ha := szs_all e l
  rw [← List.take_append_drop (j + 1) (ats e l), szs_append] at ha
  omega
theorem szs_zero : ∀ {l : As}, Posd l → szs l = 0 → l = []
  | [], _, _ => rfl
  | x :: r, h, h0 => by rw [szs_cons] at h0; have := h x List.mem_cons_self; omega
theorem pos_end {e : Enc} {l : Bs} {j : Nat} (h : ¬ szs ((ats e l).take j) < l.length) : (ats e l).take j = ats e l := by
  have ha := szs_all e l
  rw [← List.take_append_drop j (ats e l), szs_append] at ha
  have := szs_zero ((ats_posd e l).drop j) (by omega)
  rw [List.drop_eq_nil_iff] at this
  exact List.take_of_length_le this
theorem pos_le {e : Enc} {l : Bs} (j : Nat) : szs ((ats e l).take j) ≤ l.length := by
  have ha := szs_all e l
  rw [← List.take_append_drop j (ats e l), szs_append] at ha
  omega
theorem msr_snoc {l : As} {a : Int} {n : Nat} (h : Posd l) (hn : 1 ≤ n) : msr (l ++ [(a, n)]) = (msr l).add (one1 a n) := by
  rw [msr_append h (fun x hx => by rw [List.mem_singleton.1 hx]; exact hn), msr_one a hn]
end Trx
end Go.Proofs.YtabcpghhfeplaaaGreat
set_option linter.unusedSimpArgs false
set_option linter.unusedVariables false
namespace Go.Proofs.YtabcpghhfeplaaaGreat
namespace Cdc
def sz8 (a : Int) : Nat := if a < -256 ∨ (-129 < a ∧ a < 0) ∨ 1114111 < a ∨ (55296 ≤ a ∧ a ≤ 57343) then 0 else if a < 128 then 1 else if a < 2048 then 2 else if a < 65536 then 3 else 4
def sz16 (a : Int) : Nat := if a < -256 ∨ 1114111 < a then 0 else if a < 0 then 1 else if a < 65536 then 2 else 4
def sz1 (a : Int) : Nat := if a < 0 ∨ 255 < a then 0 else 1
def sz : Enc → Int → Nat
  | .u8, a => sz8 a
  | .le, a => sz16 a
  | .be, a => sz16 a
  | .l1, a => sz1 a
def cts : Nat → Nat → Bs
  | 0, _ => []
  | k + 1, a => UInt8.ofNat (128 + a / 64 ^ k % 64) :: cts k a
def mk8 (n : Nat) : Nat := if n = 2 then 192 else if n = 3 then 224 else 240
def pt8 (a : Int) : Bs := if a < 0 then [UInt8.ofNat (-1 - a).toNat] else if sz8 a = 1 then [UInt8.ofNat a.toNat] else UInt8.ofNat (mk8 (sz8 a) + a.toNat / 64 ^ (sz8 a - 1)) :: cts (sz8 a - 1) a.toNat
def uni (be : Bool) (u : Nat) : Bs := if be then [UInt8.ofNat (u / 256), UInt8.ofNat u] else [UInt8.ofNat u, UInt8.ofNat (u / 256)]
def pt16 (be : Bool) (a : Int) : Bs := if a < 0 then [UInt8.ofNat (-1 - a).toNat] else if a < 65536 then uni be a.toNat else uni be (55296 + (a.toNat - 65536) / 1024) ++ uni be (56320 + a.toNat % 1024)
def pt1 (a : Int) : Bs := [UInt8.ofNat a.toNat]
def pt : Enc → Int → Bs
  | .u8, a => pt8 a
  | .le, a => pt16 false a
  | .be, a => pt16 true a
  | .l1, a => pt1 a
theorem cts_len : ∀ (k a : Nat), (cts k a).length = k
  | 0, _ => rfl
  | k + 1, a => congrArg (· + 1) (cts_len k a)
theorem uni_len (be : Bool) (u : Nat) : (uni be u).length = 2 := by unfold uni; split <;> rfl
theorem pt_len (e : Enc) (a : Int) (h : sz e a ≠ 0) : (pt e a).length = sz e a := by
  have h16 : ∀ be, sz16 a ≠ 0 → (pt16 be a).length = sz16 a := by
    intro be h
    simp only [pt16, sz16] at h ⊢
    repeat' split at h
    · exact absurd rfl h
    · rename_i h1 h2; rw [if_pos h2, if_neg h1, if_pos h2]; rfl
    · rename_i h1 h2 h3; rw [if_neg h2, if_pos h3, if_neg h1, if_neg h2, if_pos h3]; exact uni_len _ _
    · rename_i h1 h2 h3; rw [if_neg h2, if_neg h3, if_neg h1, if_neg h2, if_neg h3, List.length_append, uni_len, uni_len]
  cases e with
  | u8 =>
    simp only [sz, pt, pt8] at h ⊢
    by_cases h0 : a < 0
    · rw [if_pos h0]
      simp only [sz8] at h ⊢
      split at h
      · exact absurd rfl h
      · rename_i h1; rw [if_neg h1, if_pos (by omega)]; rfl
    · rw [if_neg h0]
      split
      · rename_i h1; rw [h1]; rfl
      · simp only [List.length_cons, cts_len]; omega
  | le => exact h16 _ h
  | be => exact h16 _ h
  | l1 => simp only [sz, sz1] at h ⊢; split at h; exact absurd rfl h; rename_i h1; rw [if_neg h1]; rfl
end Cdc
end Go.Proofs.YtabcpghhfeplaaaGreat
set_option linter.unusedSimpArgs false
set_option linter.unusedVariables false
namespace Go.Proofs.YtabcpghhfeplaaaGreat
namespace Cdc
theorem byte_nat {n : Nat} (h : n < 256) : (UInt8.ofNat n).toNat = n := by rw [UInt8.toNat_ofNat']; omega
theorem cont_byte (q : Nat) : cont (UInt8.ofNat (128 + q % 64)) = true := by
  unfold cont; rw [byte_nat (by omega)]; simp; omega
def Scalar (a : Int) : Prop := (0 ≤ a ∧ a < 55296) ∨ (57343 < a ∧ a ≤ 1114111)
theorem nx8_pt {a : Int} (h : Scalar a) (r : Bs) : nx8 (pt8 a ++ r) = (a, sz8 a) := by
  obtain ⟨n, rfl⟩ : ∃ n : Nat, a = (n : Int) := Int.eq_ofNat_of_zero_le (by rcases h with h | h <;> omega)
  have hs : sz8 (n : Int) = if n < 128 then 1 else if n < 2048 then 2 else if n < 65536 then 3 else 4 := by
    unfold sz8
    rw [if_neg (by rcases h with h | h <;> omega)]
    repeat' split
    all_goals first | rfl | omega
  unfold pt8
  rw [if_neg (by omega), hs, Int.toNat_natCast]
  by_cases h1 : n < 128
  · rw [if_pos h1, if_pos rfl]
    have hb : (UInt8.ofNat n).toNat = n := byte_nat (by omega)
    show nx8 (UInt8.ofNat n :: r) = _
    have hbn : bnds n = (1, 0, 0) := by unfold bnds; rw [if_pos h1]
    have hr : rowOf (UInt8.ofNat n :: r) = (1, 1) := by simp only [rowOf, hb, hbn]; rfl
    simp only [nx8, hr, hb]
    rw [if_neg (by decide)]
    rfl
  rw [if_neg h1]
  by_cases h2 : n < 2048
  · rw [if_pos h2, if_neg (by decide)]
    have hb : (UInt8.ofNat (mk8 2 + n / 64 ^ (2 - 1))).toNat = 192 + n / 64 := by
      show (UInt8.ofNat (192 + n / 64)).toNat = _
      exact byte_nat (by omega)
    have hc : (UInt8.ofNat (128 + n / 64 ^ 0 % 64)).toNat = 128 + n % 64 := by
      rw [byte_nat (by omega)]; simp
    have hbn : bnds (192 + n / 64) = (2, 128, 191) := by
      unfold bnds; rw [if_neg (by omega), if_neg (by omega), if_pos (by omega)]
    show nx8 (UInt8.ofNat (mk8 2 + n / 64 ^ (2 - 1)) :: UInt8.ofNat (128 + n / 64 ^ 0 % 64) :: r) = _
    have hr : rowOf (UInt8.ofNat (mk8 2 + n / 64 ^ (2 - 1)) :: UInt8.ofNat (128 + n / 64 ^ 0 % 64) :: r) = (2, 2) := by
      simp only [rowOf, hb, hbn, hc]
      rw [if_neg (by decide), if_neg (by omega)]
      cases r <;> rfl
    simp only [nx8, hr, hb]
    rw [if_neg (by decide)]
    show (((rest (lead 2 (192 + n / 64)) [UInt8.ofNat (128 + n / 64 ^ 0 % 64)] : Nat) : Int), 2) = _
    have : rest (lead 2 (192 + n / 64)) [UInt8.ofNat (128 + n / 64 ^ 0 % 64)] = n := by
      show (192 + n / 64) % 32 * 64 + (UInt8.ofNat (128 + n / 64 ^ 0 % 64)).toNat % 64 = n
      rw [hc]; omega
    rw [this]
  rw [if_neg h2]
  by_cases h3 : n < 65536
  · rw [if_pos h3, if_neg (by decide)]
    have hb : (UInt8.ofNat (mk8 3 + n / 64 ^ (3 - 1))).toNat = 224 + n / 4096 := by
      show (UInt8.ofNat (224 + n / 4096)).toNat = _
      exact byte_nat (by omega)
    have hc : (UInt8.ofNat (128 + n / 64 ^ 1 % 64)).toNat = 128 + n / 64 % 64 := by
      rw [byte_nat (by omega)]
    have hd : (UInt8.ofNat (128 + n / 64 ^ 0 % 64)).toNat = 128 + n % 64 := by
      rw [byte_nat (by omega)]; simp
    have hbn : ∃ lo hi, bnds (224 + n / 4096) = (3, lo, hi) ∧ ¬ (128 + n / 64 % 64 < lo ∨ hi < 128 + n / 64 % 64) := by
      unfold bnds
      rw [if_neg (by omega), if_neg (by omega), if_neg (by omega)]
      split
      · exact ⟨_, _, rfl, by omega⟩
      · split
        · exact ⟨_, _, rfl, by rcases h with h | h <;> omega⟩
        · rw [if_pos (by omega)]
          exact ⟨_, _, rfl, by omega⟩
    obtain ⟨lo, hi, hbn, hin⟩ := hbn
    show nx8 (UInt8.ofNat (mk8 3 + n / 64 ^ (3 - 1)) :: UInt8.ofNat (128 + n / 64 ^ 1 % 64) :: UInt8.ofNat (128 + n / 64 ^ 0 % 64) :: r) = _
    have hr : rowOf (UInt8.ofNat (mk8 3 + n / 64 ^ (3 - 1)) :: UInt8.ofNat (128 + n / 64 ^ 1 % 64) :: UInt8.ofNat (128 + n / 64 ^ 0 % 64) :: r) = (3, 3) := by
      simp only [rowOf, hb, hbn, hc]
      rw [if_neg (by decide), if_neg hin]
      show (2 + more 1 _, 3) = _
      simp only [more, cont_byte, if_true]
    simp only [nx8, hr, hb]
    rw [if_neg (by decide)]
    show (((rest (lead 3 (224 + n / 4096)) [UInt8.ofNat (128 + n / 64 ^ 1 % 64), UInt8.ofNat (128 + n / 64 ^ 0 % 64)] : Nat) : Int), 3) = _
    have : rest (lead 3 (224 + n / 4096)) [UInt8.ofNat (128 + n / 64 ^ 1 % 64), UInt8.ofNat (128 + n / 64 ^ 0 % 64)] = n := by
      show ((224 + n / 4096) % 16 * 64 + (UInt8.ofNat (128 + n / 64 ^ 1 % 64)).toNat % 64) * 64 + (UInt8.ofNat (128 + n / 64 ^ 0 % 64)).toNat % 64 = n
      rw [hc, hd]; omega
    rw [this]
  rw [if_neg h3, if_neg (by decide)]
  have hb : (UInt8.ofNat (mk8 4 + n / 64 ^ (4 - 1))).toNat = 240 + n / 262144 := by
    show (UInt8.ofNat (240 + n / 262144)).toNat = _
    exact byte_nat (by rcases h with h | h <;> omega)
  have hc : (UInt8.ofNat (128 + n / 64 ^ 2 % 64)).toNat = 128 + n / 4096 % 64 := by
    rw [byte_nat (by omega)]
  have hd : (UInt8.ofNat (128 + n / 64 ^ 1 % 64)).toNat = 128 + n / 64 % 64 := by
    rw [byte_nat (by omega)]
  have he : (UInt8.ofNat (128 + n / 64 ^ 0 % 64)).toNat = 128 + n % 64 := by
    rw [byte_nat (by omega)]; simp
  have hbn : ∃ lo hi, bnds (240 + n / 262144) = (4, lo, hi) ∧ ¬ (128 + n / 4096 % 64 < lo ∨ hi < 128 + n / 4096 % 64) := by
    unfold bnds
    rw [if_neg (by omega), if_neg (by omega), if_neg (by omega), if_neg (by omega), if_neg (by omega), if_neg (by omega)]
    split
    · exact ⟨_, _, rfl, by omega⟩
    · split
      · exact ⟨_, _, rfl, by omega⟩
      · rw [if_pos (by rcases h with h | h <;> omega)]
        exact ⟨_, _, rfl, by rcases h with h | h <;> omega⟩
  obtain ⟨lo, hi, hbn, hin⟩ := hbn
  show nx8 (UInt8.ofNat (mk8 4 + n / 64 ^ (4 - 1)) :: UInt8.ofNat (128 + n / 64 ^ 2 % 64) :: UInt8.ofNat (128 + n / 64 ^ 1 % 64) :: UInt8.ofNat (128 + n / 64 ^ 0 % 64) :: r) = _
  have hr : rowOf (UInt8.ofNat (mk8 4 + n / 64 ^ (4 - 1)) :: UInt8.ofNat (128 + n / 64 ^ 2 % 64) :: UInt8.ofNat (128 + n / 64 ^ 1 % 64) :: UInt8.ofNat (128 + n / 64 ^ 0 % 64) :: r) = (4, 4) := by
    simp only [rowOf, hb, hbn, hc]
    rw [if_neg (by decide), if_neg hin]
    show (2 + more 2 _, 4) = _
    simp only [more, cont_byte, if_true]
  simp only [nx8, hr, hb]
  rw [if_neg (by decide)]
  show (((rest (lead 4 (240 + n / 262144)) [UInt8.ofNat (128 + n / 64 ^ 2 % 64), UInt8.ofNat (128 + n / 64 ^ 1 % 64), UInt8.ofNat (128 + n / 64 ^ 0 % 64)] : Nat) : Int), 4) = _
  have : rest (lead 4 (240 + n / 262144)) [UInt8.ofNat (128 + n / 64 ^ 2 % 64), UInt8.ofNat (128 + n / 64 ^ 1 % 64), UInt8.ofNat (128 + n / 64 ^ 0 % 64)] = n := by
    show (((240 + n / 262144) % 8 * 64 + (UInt8.ofNat (128 + n / 64 ^ 2 % 64)).toNat % 64) * 64 + (UInt8.ofNat (128 + n / 64 ^ 1 % 64)).toNat % 64) * 64 + (UInt8.ofNat (128 + n / 64 ^ 0 % 64)).toNat % 64 = n
    rw [hc, hd, he]; rcases h with h | h <;> omega
  rw [this]
theorem uni_two (be : Bool) (u : Nat) (hu : u < 65536) : ∃ x y, uni be u = [x, y] ∧ un be x y = u := by
  have h1 : (UInt8.ofNat (u / 256)).toNat = u / 256 := byte_nat (by omega)
  have h2 : (UInt8.ofNat u).toNat = u % 256 := by rw [UInt8.toNat_ofNat']
  cases be with
  | false => exact ⟨_, _, rfl, by show (UInt8.ofNat u).toNat + (UInt8.ofNat (u / 256)).toNat * 256 = u; rw [h1, h2]; omega⟩
  | true => exact ⟨_, _, rfl, by show (UInt8.ofNat u).toNat + (UInt8.ofNat (u / 256)).toNat * 256 = u; rw [h1, h2]; omega⟩
theorem nx16_pt {be : Bool} {a : Int} (h : Scalar a) (r : Bs) : nx16 be (pt16 be a ++ r) = (a, sz16 a) := by
  obtain ⟨n, rfl⟩ : ∃ n : Nat, a = (n : Int) := Int.eq_ofNat_of_zero_le (by rcases h with h | h <;> omega)
  unfold pt16 sz16
  have a1 : ¬ (n : Int) < 0 := by omega
  have a2 : ¬ ((n : Int) < -256 ∨ 1114111 < (n : Int)) := by rcases h with h | h <;> omega
  rw [if_neg a1, if_neg a2, if_neg a1, Int.toNat_natCast]
  by_cases h1 : (n : Int) < 65536
  · rw [if_pos h1, if_pos h1]
    obtain ⟨x, y, e, hu⟩ := uni_two be n (by omega)
    rw [e]
    show nx16 be (x :: y :: r) = _
    simp only [nx16, hu]
    rw [if_neg (by rcases h with h | h <;> omega)]
  · rw [if_neg h1, if_neg h1]
    obtain ⟨x, y, e, hu⟩ := uni_two be (55296 + (n - 65536) / 1024) (by rcases h with h | h <;> omega)
    obtain ⟨x', y', e', hu'⟩ := uni_two be (56320 + n % 1024) (by omega)
    rw [e, e']
    show nx16 be (x :: y :: x' :: y' :: r) = _
    simp only [nx16, hu, hu']
    rw [if_pos (by rcases h with h | h <;> omega), if_pos (by omega)]
    have : (65536 : Int) + (((55296 + (n - 65536) / 1024) % 1024 * 1024 + (56320 + n % 1024) % 1024 : Nat) : Int) = (n : Int) := by rcases h with h | h <;> omega
    rw [this]
theorem nx1_pt {a : Int} (h0 : 0 ≤ a) (h : a ≤ 255) (r : Bs) : nx1 (pt1 a ++ r) = (a, sz1 a) := by
  obtain ⟨n, rfl⟩ := Int.eq_ofNat_of_zero_le h0
  have : (UInt8.ofNat n).toNat = n := byte_nat (by omega)
  show (((UInt8.ofNat n).toNat : Int), 1) = _
  rw [this]
  unfold sz1
  rw [if_neg (by omega)]
theorem nx_pt {e : Enc} {a : Int} (h : Scalar a) (hf : sz e a ≠ 0) (r : Bs) : nx e (pt e a ++ r) = (a, sz e a) := by
  cases e with
  | u8 => exact nx8_pt h r
  | le => exact nx16_pt h r
  | be => exact nx16_pt h r
  | l1 =>
    have hh : ¬ (a < 0 ∨ 255 < a) := fun hc => hf (by show sz1 a = 0; unfold sz1; rw [if_pos hc])
    exact nx1_pt (by omega) (by omega) r
theorem ats_pt {e : Enc} {a : Int} (h : Scalar a) (hf : sz e a ≠ 0) (r : Bs) : ats e (pt e a ++ r) = (a, sz e a) :: ats e r := by
  have hl := pt_len e a hf
  have hne : pt e a ++ r ≠ [] := fun hc => by
    have := congrArg List.length hc
    rw [List.length_append, List.length_nil] at this
    omega
  rw [ats_cons e hne, nx_pt h hf]
  have : (pt e a ++ r).drop (sz e a) = r := by rw [← hl, List.drop_left]
  rw [this]
end Cdc
end Go.Proofs.YtabcpghhfeplaaaGreat
set_option linter.unusedSimpArgs false
set_option linter.unusedVariables false
set_option maxRecDepth 100000
namespace Go.Proofs.YtabcpghhfeplaaaGreat
open Go Go.Vx
def bs_29aed6ba : ByteArray := { data := #[48, 48, 57, 49, 53, 48, 48, 57, 51, 57, 49, 48, 48, 57, 53, 56, 48, 48, 57, 53, 70, 49, 48, 48, 57, 55, 56, 48, 48, 57, 55, 70, 49, 48, 48, 57, 57, 53, 48, 48, 57, 65, 56, 49, 48, 48, 57, 65, 65, 48, 48, 57, 66, 48, 49, 48, 48, 57, 66, 50, 48, 48, 57, 66, 50, 49, 48, 48, 57, 66, 54, 48, 48, 57, 66, 57, 49, 48, 48, 57, 68, 67, 48, 48, 57, 68, 68, 49, 48, 48, 57, 68, 70, 48, 48, 57, 68, 70, 49, 48, 48, 57, 70, 48, 48, 48, 57, 70, 49, 49, 48, 48, 65, 57, 53, 48, 48, 65, 65, 56, 49, 48, 48, 65, 65, 65, 48, 48, 65, 66, 48, 49, 48, 48, 65, 66, 50, 48, 48, 65, 66, 51, 49, 48, 48, 65, 66, 53, 48, 48, 65, 66, 57, 49, 48, 48, 65, 70, 57, 48, 48, 65, 70, 57, 49, 48, 48, 66, 49, 53, 48, 48, 66, 50, 56, 49, 48, 48, 66, 50, 65, 48, 48, 66, 51, 48, 49, 48, 48, 66, 51, 50, 48, 48, 66, 51, 51, 49, 48, 48, 66, 51, 53, 48, 48, 66, 51, 57, 49, 48, 48, 66, 53, 67, 48, 48, 66, 53, 68, 49, 48, 48, 66, 53, 70, 48, 48, 66, 53, 70, 49, 48, 48, 66, 55, 49, 48, 48, 66, 55, 49, 49, 48, 48, 67, 49, 53, 48, 48, 67, 50, 56, 49, 48, 48, 67, 50, 65, 48, 48, 67, 51, 57, 49, 48, 48, 67, 53, 56, 48, 48, 67, 53, 65, 49, 48, 48, 68, 49, 53, 48, 48, 68, 51, 65, 49] }
def bs_88441808 : ByteArray := { data := #[48, 48, 48, 48, 48, 48, 48, 48, 48, 57, 51, 48, 48, 48, 48, 65, 48, 48, 48, 48, 65, 50, 48, 48, 48, 48, 66, 48, 48, 48, 48, 67, 51, 48, 48, 48, 48, 68, 48, 48, 48, 48, 68, 49, 48, 48, 48, 48, 69, 48, 48, 48, 49, 70, 51, 48, 48, 48, 55, 70, 48, 48, 48, 57, 70, 51, 48, 48, 48, 65, 57, 48, 48, 48, 65, 57, 69, 48, 48, 48, 65, 68, 48, 48, 48, 65, 68, 51, 48, 48, 48, 65, 69, 48, 48, 48, 65, 69, 69, 48, 48, 51, 48, 48, 48, 48, 51, 54, 70, 52, 48, 48, 52, 56, 51, 48, 48, 52, 56, 57, 52, 48, 48, 53, 57, 49, 48, 48, 53, 66, 68, 52, 48, 48, 53, 66, 70, 48, 48, 53, 66, 70, 52, 48, 48, 53, 67, 49, 48, 48, 53, 67, 50, 52, 48, 48, 53, 67, 52, 48, 48, 53, 67, 53, 52, 48, 48, 53, 67, 55, 48, 48, 53, 67, 55, 52, 48, 48, 54, 48, 48, 48, 48, 54, 48, 53, 55, 48, 48, 54, 49, 48, 48, 48, 54, 49, 65, 52, 48, 48, 54, 49, 67, 48, 48, 54, 49, 67, 51, 48, 48, 54, 52, 66, 48, 48, 54, 53, 70, 52, 48, 48, 54, 55, 48, 48, 48, 54, 55, 48, 52, 48, 48, 54, 68, 54, 48, 48, 54, 68, 67, 52, 48, 48, 54, 68, 68, 48, 48, 54, 68, 68, 55, 48, 48, 54, 68, 70, 48, 48, 54, 69, 52, 52, 48, 48, 54, 69, 55, 48, 48, 54, 69, 56, 52, 48, 48, 54, 69, 65, 48, 48, 54, 69, 68, 52, 48, 48, 55, 48, 70, 48, 48, 55, 48, 70, 55, 48, 48, 55, 49, 49, 48, 48, 55, 49, 49, 52, 48, 48, 55, 51, 48, 48, 48, 55, 52, 65, 52, 48, 48, 55, 65, 54, 48, 48, 55, 66, 48, 52, 48, 48, 55, 69, 66, 48, 48, 55, 70, 51, 52, 48, 48, 55, 70, 68, 48, 48, 55, 70, 68, 52, 48, 48, 56, 49, 54, 48, 48, 56, 49, 57, 52, 48, 48, 56, 49, 66, 48, 48, 56, 50, 51, 52, 48, 48, 56, 50, 53, 48, 48, 56, 50, 55, 52, 48, 48, 56, 50, 57, 48, 48, 56, 50, 68, 52, 48, 48, 56, 53, 57, 48, 48, 56, 53, 66, 52, 48, 48, 56, 57, 48, 48, 48, 56, 57, 49, 55, 48, 48, 56, 57, 56, 48, 48, 56, 57, 70, 52, 48, 48, 56, 67, 65, 48, 48, 56, 69, 49, 52, 48, 48, 56, 69, 50, 48, 48, 56, 69, 50, 55, 48, 48, 56, 69, 51, 48, 48, 57, 48, 50, 52, 48, 48, 57, 48, 51, 48, 48, 57, 48, 51, 56, 48, 48, 57, 51, 65, 48, 48, 57, 51, 65, 52, 48, 48, 57, 51, 66, 48, 48, 57, 51, 66, 56, 48, 48, 57, 51, 67, 48, 48, 57, 51, 67, 52, 48, 48, 57, 51, 69, 48, 48, 57, 52, 48, 56, 48, 48, 57, 52, 49, 48, 48, 57, 52, 56, 52, 48, 48, 57, 52, 57, 48, 48, 57, 52, 67, 56, 48, 48, 57, 52, 68, 48, 48, 57, 52, 68, 52, 48, 48, 57, 52, 69, 48, 48, 57, 52, 70, 56, 48, 48, 57, 53, 49, 48, 48, 57, 53, 55, 52, 48, 48, 57, 54, 50, 48, 48, 57, 54, 51, 52, 48, 48, 57, 56, 49, 48, 48, 57, 56, 49, 52, 48, 48, 57, 56, 50, 48, 48, 57, 56, 51, 56, 48, 48, 57, 66, 67, 48, 48, 57, 66, 67, 52, 48, 48, 57, 66, 69, 48, 48, 57, 66, 69, 52, 48, 48, 57, 66, 70, 48, 48, 57, 67, 48, 56, 48, 48, 57, 67, 49, 48, 48, 57, 67, 52, 52, 48, 48, 57, 67, 55, 48, 48, 57, 67, 56, 56, 48, 48, 57, 67, 66, 48, 48, 57, 67, 67, 56, 48, 48, 57, 67, 68, 48, 48, 57, 67, 68, 52, 48, 48, 57, 68, 55, 48, 48, 57, 68, 55, 52, 48, 48, 57, 69, 50, 48, 48, 57, 69, 51, 52, 48, 48, 57, 70, 69, 48, 48, 57, 70, 69, 52, 48, 48, 65, 48, 49, 48, 48, 65, 48, 50, 52, 48, 48, 65, 48, 51, 48, 48, 65, 48, 51, 56, 48, 48, 65, 51, 67, 48, 48, 65, 51, 67, 52, 48, 48, 65, 51, 69, 48, 48, 65, 52, 48, 56, 48, 48, 65, 52, 49, 48, 48, 65, 52, 50, 52, 48, 48, 65, 52, 55, 48, 48, 65, 52, 56, 52, 48, 48, 65, 52, 66, 48, 48, 65, 52, 68, 52, 48, 48, 65, 53, 49, 48, 48, 65, 53, 49, 52, 48, 48, 65, 55, 48, 48, 48, 65, 55, 49, 52, 48, 48, 65, 55, 53, 48, 48, 65, 55, 53, 52, 48, 48, 65, 56, 49, 48, 48, 65, 56, 50, 52, 48, 48, 65, 56, 51, 48, 48, 65, 56, 51, 56, 48, 48, 65, 66, 67, 48, 48, 65, 66, 67, 52, 48, 48, 65, 66, 69, 48, 48, 65, 67, 48, 56, 48, 48, 65, 67, 49, 48, 48, 65, 67, 53, 52, 48, 48, 65, 67, 55, 48, 48, 65, 67, 56, 52, 48, 48, 65, 67, 57, 48, 48, 65, 67, 57, 56, 48, 48, 65, 67, 66, 48, 48, 65, 67, 67, 56, 48, 48, 65, 67, 68, 48, 48, 65, 67, 68, 52, 48, 48, 65, 69, 50, 48, 48, 65, 69, 51, 52, 48, 48, 65, 70, 65, 48, 48, 65, 70, 70, 52, 48, 48, 66, 48, 49, 48, 48, 66, 48, 49, 52, 48, 48, 66, 48, 50, 48, 48, 66, 48, 51, 56, 48, 48, 66, 51, 67, 48, 48, 66, 51, 67, 52, 48, 48, 66, 51, 69, 48, 48, 66, 51, 70, 52, 48, 48, 66, 52, 48, 48, 48, 66, 52, 48, 56, 48, 48, 66, 52, 49, 48, 48, 66, 52, 52, 52, 48, 48, 66, 52, 55, 48, 48, 66, 52, 56, 56, 48, 48, 66, 52, 66, 48, 48, 66, 52, 67, 56, 48, 48, 66, 52, 68, 48, 48, 66, 52, 68, 52, 48, 48, 66, 53, 53, 48, 48, 66, 53, 55, 52, 48, 48, 66, 54, 50, 48, 48, 66, 54, 51, 52, 48, 48, 66, 56, 50, 48, 48, 66, 56, 50, 52, 48, 48, 66, 66, 69, 48, 48, 66, 66, 69, 52, 48, 48, 66, 66, 70, 48, 48, 66, 66, 70, 56, 48, 48, 66, 67, 48, 48, 48, 66, 67, 48, 52, 48, 48, 66, 67, 49, 48, 48, 66, 67, 50, 56, 48, 48, 66, 67, 54, 48, 48, 66, 67, 56, 56, 48, 48, 66, 67, 65, 48, 48, 66, 67, 67, 56, 48, 48, 66, 67, 68, 48, 48, 66, 67, 68, 52, 48, 48, 66, 68, 55, 48, 48, 66, 68, 55, 52, 48, 48, 67, 48, 48, 48, 48, 67, 48, 48, 52, 48, 48, 67, 48, 49, 48, 48, 67, 48, 51, 56, 48, 48, 67, 48, 52, 48, 48, 67, 48, 52, 52, 48, 48, 67, 51, 67, 48, 48, 67, 51, 67, 52, 48, 48, 67, 51, 69, 48, 48, 67, 52, 48, 52, 48, 48, 67, 52, 49, 48, 48, 67, 52, 52, 56, 48, 48, 67, 52, 54, 48, 48, 67, 52, 56, 52, 48, 48, 67, 52, 65, 48, 48, 67, 52, 68, 52, 48, 48, 67, 53, 53, 48, 48, 67, 53, 54, 52, 48, 48, 67, 54, 50, 48, 48, 67, 54, 51, 52, 48, 48, 67, 56, 49, 48, 48, 67, 56, 49, 52, 48, 48, 67, 56, 50, 48, 48, 67, 56, 51, 56, 48, 48, 67, 66, 67, 48, 48, 67, 66, 67, 52, 48, 48, 67, 66, 69, 48, 48, 67, 66, 69, 56, 48, 48, 67, 66, 70, 48, 48, 67, 66, 70, 52, 48, 48, 67, 67, 48, 48, 48, 67, 67, 49, 56, 48, 48, 67, 67, 50, 48, 48, 67, 67, 50, 52, 48, 48, 67, 67, 51, 48, 48, 67, 67, 52, 56, 48, 48, 67, 67, 54, 48, 48, 67, 67, 54, 52, 48, 48, 67, 67, 55, 48, 48, 67, 67, 56, 56, 48, 48, 67, 67, 65, 48, 48, 67, 67, 66, 56, 48, 48, 67, 67, 67, 48, 48, 67, 67, 68, 52, 48, 48, 67, 68, 53, 48, 48, 67, 68, 54, 52, 48, 48, 67, 69, 50, 48, 48, 67, 69, 51, 52, 48, 48, 67, 70, 51, 48, 48, 67, 70, 51, 56, 48, 48, 68, 48, 48, 48, 48, 68, 48, 49, 52, 48, 48, 68, 48, 50, 48, 48, 68, 48, 51, 56, 48, 48, 68, 51, 66, 48, 48, 68, 51, 67, 52, 48, 48, 68, 51, 69, 48, 48, 68, 51, 69, 52, 48, 48, 68, 51, 70, 48, 48, 68, 52, 48, 56, 48, 48, 68, 52, 49, 48, 48, 68, 52, 52, 52, 48, 48, 68, 52, 54, 48, 48, 68, 52, 56, 56, 48, 48, 68, 52, 65, 48, 48, 68, 52, 67, 56, 48, 48, 68, 52, 68, 48, 48, 68, 52, 68, 52, 48, 48, 68, 52, 69, 48, 48, 68, 52, 69, 55, 48, 48, 68, 53, 55, 48, 48, 68, 53, 55, 52, 48, 48, 68, 54, 50, 48, 48, 68, 54, 51, 52, 48, 48, 68, 56, 49, 48, 48, 68, 56, 49, 52, 48, 48, 68, 56, 50, 48, 48, 68, 56, 51, 56, 48, 48, 68, 67, 65, 48, 48, 68, 67, 65, 52, 48, 48, 68, 67, 70, 48, 48, 68, 67, 70, 52, 48, 48, 68, 68, 48, 48, 48, 68, 68, 49, 56, 48, 48, 68, 68, 50, 48, 48, 68, 68, 52, 52, 48, 48, 68, 68, 54, 48, 48, 68, 68, 54, 52, 48, 48, 68, 68, 56, 48, 48, 68, 68, 69, 56, 48, 48, 68, 68, 70, 48, 48, 68, 68, 70, 52, 48, 48, 68, 70, 50, 48, 48, 68, 70, 51, 56, 48, 48, 69, 51, 49, 48, 48, 69, 51, 49, 52, 48, 48, 69, 51, 51, 48, 48, 69, 51, 51, 56, 48, 48, 69, 51, 52, 48, 48, 69, 51, 65, 52, 48, 48, 69, 52, 55, 48, 48, 69, 52, 69, 52, 48, 48, 69, 66, 49, 48, 48, 69, 66, 49, 52, 48, 48, 69, 66, 51, 48, 48, 69, 66, 51, 56, 48, 48, 69, 66, 52, 48, 48, 69, 66, 67, 52, 48, 48, 69, 67, 56, 48, 48, 69, 67, 69, 52, 48, 48, 70, 49, 56, 48, 48, 70, 49, 57, 52, 48, 48, 70, 51, 53, 48, 48, 70, 51, 53, 52, 48, 48, 70, 51, 55, 48, 48, 70, 51, 55, 52, 48, 48, 70, 51, 57, 48, 48, 70, 51, 57, 52, 48, 48, 70, 51, 69, 48, 48, 70, 51, 70, 56, 48, 48, 70, 55, 49, 48, 48, 70, 55, 69, 52, 48, 48, 70, 55, 70, 48, 48, 70, 55, 70, 56, 48, 48, 70, 56, 48, 48, 48, 70, 56, 52, 52, 48, 48, 70, 56, 54, 48, 48, 70, 56, 55, 52, 48, 48, 70, 56, 68, 48, 48, 70, 57, 55, 52, 48, 48, 70, 57, 57, 48, 48, 70, 66, 67, 52, 48, 48, 70, 67, 54, 48, 48, 70, 67, 54, 52, 48, 49, 48, 50, 68, 48, 49, 48, 51, 48, 52, 48, 49, 48, 51, 49, 48, 49, 48, 51, 49, 56, 48, 49, 48, 51, 50, 48, 49, 48, 51, 55, 52, 48, 49, 48, 51, 57, 48, 49, 48, 51, 65, 52, 48, 49, 48, 51, 66, 48, 49, 48, 51, 67, 56, 48, 49, 48, 51, 68, 48, 49, 48, 51, 69, 52, 48, 49, 48, 53, 54, 48, 49, 48, 53, 55, 56, 48, 49, 48, 53, 56, 48, 49, 48, 53, 57, 52, 48, 49, 48, 53, 69, 48, 49, 48, 54, 48, 52, 48, 49, 48, 55, 49, 48, 49, 48, 55, 52, 52, 48, 49, 48, 56, 50, 48, 49, 48, 56, 50, 52, 48, 49, 48, 56, 52, 48, 49, 48, 56, 52, 56, 48, 49, 48, 56, 53, 48, 49, 48, 56, 54, 52, 48, 49, 48, 56, 68, 48, 49, 48, 56, 68, 52, 48, 49, 48, 57, 68, 48, 49, 48, 57, 68, 52, 48, 49, 49, 48, 48, 48, 49, 49, 53, 70, 57, 48, 49, 49, 54, 48, 48, 49, 49, 65, 55, 65, 48, 49, 49, 65, 56, 48, 49, 49, 70, 70, 66, 48, 49, 51, 53, 68, 48, 49, 51, 53, 70, 52, 48, 49, 55, 66, 52, 48, 49, 55, 66, 53, 52, 48, 49, 55, 66, 54, 48, 49, 55, 66, 54, 56, 48, 49, 55, 66, 55, 48, 49, 55, 66, 68, 52, 48, 49, 55, 66, 69, 48, 49, 55, 67, 53, 56, 48, 49, 55, 67, 54, 48, 49, 55, 67, 54, 52, 48, 49, 55, 67, 55, 48, 49, 55, 67, 56, 56, 48, 49, 55, 67, 57, 48, 49, 55, 68, 51, 52, 48, 49, 55, 68, 68, 48, 49, 55, 68, 68, 52, 48, 49, 56, 48, 66, 48, 49, 56, 48, 68, 52, 48, 49, 56, 48, 69, 48, 49, 56, 48, 69, 51, 48, 49, 56, 48, 70, 48, 49, 56, 48, 70, 52, 48, 49, 56, 65, 57, 48, 49, 56, 65, 57, 52, 48, 49, 65, 66, 48, 48, 49, 65, 67, 69, 52, 48, 49, 68, 67, 48, 48, 49, 68, 70, 70, 52, 48, 50, 48, 48, 66, 48, 50, 48, 48, 66, 51, 48, 50, 48, 48, 67, 48, 50, 48, 48, 67, 52, 48, 50, 48, 48, 68, 48, 50, 48, 48, 68, 53, 48, 50, 48, 48, 69, 48, 50, 48, 48, 70, 51, 48, 50, 48, 50, 56, 48, 50, 48, 50, 69, 51, 48, 50, 48, 51, 67, 48, 50, 48, 51, 67, 69, 48, 50, 48, 52, 57, 48, 50, 48, 52, 57, 69, 48, 50, 48, 54, 48, 48, 50, 48, 54, 70, 51, 48, 50, 48, 68, 48, 48, 50, 48, 70, 48, 52, 48, 50, 49, 50, 50, 48, 50, 49, 50, 50, 69, 48, 50, 49, 51, 57, 48, 50, 49, 51, 57, 69, 48, 50, 49, 57, 52, 48, 50, 49, 57, 57, 69, 48, 50, 49, 65, 57, 48, 50, 49, 65, 65, 69, 48, 50, 51, 49, 65, 48, 50, 51, 49, 66, 69, 48, 50, 51, 50, 56, 48, 50, 51, 50, 56, 69, 48, 50, 51, 56, 56, 48, 50, 51, 56, 56, 69, 48, 50, 51, 67, 70, 48, 50, 51, 67, 70, 69, 48, 50, 51, 69, 57, 48, 50, 51, 70, 51, 69, 48, 50, 51, 70, 56, 48, 50, 51, 70, 65, 69, 48, 50, 52, 67, 50, 48, 50, 52, 67, 50, 69, 48, 50, 53, 65, 65, 48, 50, 53, 65, 66, 69, 48, 50, 53, 66, 54, 48, 50, 53, 66, 54, 69, 48, 50, 53, 67, 48, 48, 50, 53, 67, 48, 69, 48, 50, 53, 70, 66, 48, 50, 53, 70, 69, 69, 48, 50, 54, 48, 48, 48, 50, 54, 48, 53, 69, 48, 50, 54, 48, 55, 48, 50, 54, 49, 50, 69, 48, 50, 54, 49, 52, 48, 50, 54, 56, 53, 69, 48, 50, 54, 57, 48, 48, 50, 55, 48, 53, 69, 48, 50, 55, 48, 56, 48, 50, 55, 49, 50, 69, 48, 50, 55, 49, 52, 48, 50, 55, 49, 52, 69, 48, 50, 55, 49, 54, 48, 50, 55, 49, 54, 69, 48, 50, 55, 49, 68, 48, 50, 55, 49, 68, 69, 48, 50, 55, 50, 49, 48, 50, 55, 50, 49, 69, 48, 50, 55, 50, 56, 48, 50, 55, 50, 56, 69, 48, 50, 55, 51, 51, 48, 50, 55, 51, 52, 69, 48, 50, 55, 52, 52, 48, 50, 55, 52, 52, 69, 48, 50, 55, 52, 55, 48, 50, 55, 52, 55, 69, 48, 50, 55, 52, 67, 48, 50, 55, 52, 67, 69, 48, 50, 55, 52, 69, 48, 50, 55, 52, 69, 69, 48, 50, 55, 53, 51, 48, 50, 55, 53, 53, 69, 48, 50, 55, 53, 55, 48, 50, 55, 53, 55, 69, 48, 50, 55, 54, 51, 48, 50, 55, 54, 55, 69, 48, 50, 55, 57, 53, 48, 50, 55, 57, 55, 69, 48, 50, 55, 65, 49, 48, 50, 55, 65, 49, 69, 48, 50, 55, 66, 48, 48, 50, 55, 66, 48, 69, 48, 50, 55, 66, 70, 48, 50, 55, 66, 70, 69, 48, 50, 57, 51, 52, 48, 50, 57, 51, 53, 69, 48, 50, 66, 48, 53, 48, 50, 66, 48, 55, 69, 48, 50, 66, 49, 66, 48, 50, 66, 49, 67, 69, 48, 50, 66, 53, 48, 48, 50, 66, 53, 48, 69, 48, 50, 66, 53, 53, 48, 50, 66, 53, 53, 69, 48, 51, 48, 50, 65, 48, 51, 48, 50, 70, 52, 48, 51, 48, 51, 48, 48, 51, 48, 51, 48, 69, 48, 51, 48, 51, 68, 48, 51, 48, 51, 68, 69, 48, 51, 48, 57, 57, 48, 51, 48, 57, 65, 52, 48, 51, 50, 57, 55, 48, 51, 50, 57, 55, 69, 48, 51, 50, 57, 57, 48, 51, 50, 57, 57, 69, 48, 65, 54, 54, 70, 48, 65, 54, 55, 50, 52, 48, 65, 54, 55, 52, 48, 65, 54, 55, 68, 52, 48, 65, 54, 57, 69, 48, 65, 54, 57, 70, 52, 48, 65, 54, 70, 48, 48, 65, 54, 70, 49, 52, 48, 65, 57, 54, 48, 48, 65, 57, 55, 67, 57, 48, 68, 55, 66, 48, 48, 68, 55, 67, 54, 65, 48, 68, 55, 67, 66, 48, 68, 55, 70, 66, 66, 48, 70, 66, 49, 69, 48, 70, 66, 49, 69, 52, 48, 70, 69, 48, 48, 48, 70, 69, 48, 70, 52, 48, 70, 69, 50, 48, 48, 70, 69, 50, 70, 52, 48, 70, 69, 70, 70, 48, 70, 69, 70, 70, 51, 48, 70, 70, 57, 69, 48, 70, 70, 57, 70, 52, 48, 70, 70, 70, 48, 48, 70, 70, 70, 66, 51, 49, 48, 49, 70, 68, 49, 48, 49, 70, 68, 52, 49, 49, 48, 66, 68, 49, 49, 48, 66, 68, 55, 49, 49, 48, 67, 68, 49, 49, 48, 67, 68, 55, 49, 49, 49, 67, 50, 49, 49, 49, 67, 51, 55, 49, 51, 52, 51, 48, 49, 51, 52, 51, 70, 51, 49, 66, 67, 65, 48, 49, 66, 67, 65, 51, 51, 49, 68, 49, 54, 53, 49, 68, 49, 54, 53, 52, 49, 68, 49, 54, 55, 49, 68, 49, 54, 57, 52, 49, 68, 49, 54, 69, 49, 68, 49, 55, 50, 52, 49, 68, 49, 55, 51, 49, 68, 49, 55, 65, 51, 49, 68, 49, 55, 66, 49, 68, 49, 56, 50, 52, 49, 68, 49, 56, 53, 49, 68, 49, 56, 66, 52, 49, 68, 49, 65, 65, 49, 68, 49, 65, 68, 52, 49, 70, 48, 48, 48, 49, 70, 48, 70, 70, 69, 49, 70, 49, 48, 68, 49, 70, 49, 48, 70, 69, 49, 70, 49, 50, 70, 49, 70, 49, 50, 70, 69, 49, 70, 49, 54, 67, 49, 70, 49, 55, 49, 69, 49, 70, 49, 55, 69, 49, 70, 49, 55, 70, 69, 49, 70, 49, 56, 69, 49, 70, 49, 56, 69, 69, 49, 70, 49, 57, 49, 49, 70, 49, 57, 65, 69, 49, 70, 49, 65, 68, 49, 70, 49, 69, 53, 69, 49, 70, 49, 69, 54, 49, 70, 49, 70, 70, 54, 49, 70, 50, 48, 49, 49, 70, 50, 48, 70, 69, 49, 70, 50, 49, 65, 49, 70, 50, 49, 65, 69, 49, 70, 50, 50, 70, 49, 70, 50, 50, 70, 69, 49, 70, 50, 51, 50, 49, 70, 50, 51, 65, 69, 49, 70, 50, 51, 67, 49, 70, 50, 51, 70, 69, 49, 70, 50, 52, 57, 49, 70, 51, 70, 65, 69, 49, 70, 51, 70, 66, 49, 70, 51, 70, 70, 52, 49, 70, 52, 48, 48, 49, 70, 53, 51, 68, 69, 49, 70, 53, 52, 54, 49, 70, 54, 52, 70, 69, 49, 70, 54, 56, 48, 49, 70, 54, 70, 70, 69, 49, 70, 55, 55, 52, 49, 70, 55, 55, 70, 69, 49, 70, 55, 68, 53, 49, 70, 55, 70, 70, 69, 49, 70, 56, 48, 67, 49, 70, 56, 48, 70, 69, 49, 70, 56, 52, 56, 49, 70, 56, 52, 70, 69, 49, 70, 56, 53, 65, 49, 70, 56, 53, 70, 69, 49, 70, 56, 56, 56, 49, 70, 56, 56, 70, 69, 49, 70, 56, 65, 69, 49, 70, 56, 70, 70, 69, 49, 70, 57, 48, 67, 49, 70, 57, 51, 65, 69, 49, 70, 57, 51, 67, 49, 70, 57, 52, 53, 69, 49, 70, 57, 52, 55, 49, 70, 65, 70, 70, 69, 49, 70, 67, 48, 48, 49, 70, 70, 70, 68, 69, 69, 48, 48, 48, 48, 69, 48, 48, 49, 70, 51, 69, 48, 48, 50, 48, 69, 48, 48, 55, 70, 52, 69, 48, 48, 56, 48, 69, 48, 48, 70, 70, 51, 69, 48, 49, 48, 48, 69, 48, 49, 69, 70, 52, 69, 48, 49, 70, 48, 69, 48, 70, 70, 70, 51] }
def bs_94cae01e : ByteArray := { data := #[48, 48, 48, 48, 57, 48, 48, 48, 48, 68, 49, 48, 48, 48, 50, 48, 48, 48, 48, 50, 48, 49, 48, 48, 48, 51, 48, 48, 48, 48, 51, 57, 50, 48, 48, 48, 52, 49, 48, 48, 48, 53, 65, 50, 48, 48, 48, 53, 70, 48, 48, 48, 53, 70, 50, 48, 48, 48, 54, 49, 48, 48, 48, 55, 65, 50, 48, 48, 48, 56, 53, 48, 48, 48, 56, 53, 49, 48, 48, 48, 65, 48, 48, 48, 48, 65, 48, 49, 48, 48, 48, 65, 65, 48, 48, 48, 65, 65, 50, 48, 48, 48, 66, 53, 48, 48, 48, 66, 53, 50, 48, 48, 48, 66, 65, 48, 48, 48, 66, 65, 50, 48, 48, 48, 67, 48, 48, 48, 48, 68, 54, 50, 48, 48, 48, 68, 56, 48, 48, 48, 70, 54, 50, 48, 48, 48, 70, 56, 48, 48, 50, 67, 49, 50, 48, 48, 51, 48, 48, 48, 48, 51, 55, 52, 50, 48, 48, 51, 55, 54, 48, 48, 51, 55, 68, 50, 48, 48, 51, 55, 70, 48, 48, 51, 55, 70, 50, 48, 48, 51, 56, 54, 48, 48, 51, 56, 54, 50, 48, 48, 51, 56, 56, 48, 48, 51, 70, 53, 50, 48, 48, 51, 70, 55, 48, 48, 52, 56, 49, 50, 48, 48, 52, 56, 51, 48, 48, 53, 50, 70, 50, 48, 48, 53, 51, 49, 48, 48, 53, 53, 54, 50, 48, 48, 53, 54, 48, 48, 48, 53, 56, 56, 50, 48, 48, 53, 57, 49, 48, 48, 53, 66, 68, 50, 48, 48, 53, 68, 48, 48, 48, 53, 69, 65, 50, 48, 48, 54, 49, 48, 48, 48, 54, 49, 65, 50, 48, 48, 54, 50, 48, 48, 48, 54, 54, 57, 50, 48, 48, 54, 54, 69, 48, 48, 54, 68, 51, 50, 48, 48, 54, 68, 53, 48, 48, 54, 68, 67, 50, 48, 48, 54, 68, 70, 48, 48, 54, 69, 56, 50, 48, 48, 54, 69, 65, 48, 48, 54, 70, 67, 50, 48, 48, 55, 49, 48, 48, 48, 55, 52, 65, 50, 48, 48, 57, 48, 48, 48, 48, 57, 54, 51, 50, 48, 48, 57, 54, 54, 48, 48, 57, 54, 70, 50, 48, 48, 57, 55, 49, 48, 48, 68, 70, 51, 50, 48, 48, 69, 48, 49, 48, 48, 69, 51, 65, 50, 48, 48, 69, 52, 48, 48, 48, 69, 52, 69, 50, 48, 48, 69, 53, 48, 48, 48, 69, 53, 57, 50, 48, 48, 69, 56, 49, 48, 48, 69, 68, 70, 50, 48, 48, 70, 49, 56, 48, 48, 70, 51, 57, 50, 48, 48, 70, 52, 48, 48, 48, 70, 56, 52, 50, 48, 48, 70, 57, 48, 48, 48, 70, 66, 67, 50, 48, 49, 48, 48, 48, 48, 49, 48, 52, 57, 50, 48, 49, 48, 53, 48, 48, 49, 48, 57, 68, 50, 48, 49, 48, 65, 48, 48, 49, 48, 70, 65, 50, 48, 49, 48, 70, 67, 48, 49, 49, 70, 70, 50, 48, 49, 50, 48, 48, 48, 49, 51, 53, 70, 50, 48, 49, 54, 56, 48, 48, 49, 54, 56, 48, 49, 48, 49, 55, 56, 48, 48, 49, 55, 68, 51, 50, 48, 49, 69, 48, 48, 48, 49, 70, 70, 67, 50, 48, 50, 48, 48, 48, 48, 50, 48, 48, 65, 49, 48, 50, 48, 50, 56, 48, 50, 48, 50, 57, 49, 48, 50, 48, 50, 70, 48, 50, 48, 50, 70, 49, 48, 50, 48, 53, 70, 48, 50, 48, 53, 70, 49, 48, 50, 49, 50, 54, 48, 50, 49, 50, 54, 50, 48, 50, 49, 50, 65, 48, 50, 49, 50, 66, 50, 48, 50, 49, 54, 48, 48, 50, 49, 56, 56, 50, 48, 51, 48, 48, 48, 48, 51, 48, 48, 48, 49, 48, 51, 48, 48, 53, 48, 51, 48, 48, 55, 50, 48, 51, 48, 50, 49, 48, 51, 48, 50, 70, 50, 48, 51, 48, 52, 49, 48, 51, 48, 57, 54, 50, 48, 51, 48, 57, 57, 48, 51, 48, 57, 65, 50, 48, 51, 48, 57, 68, 48, 51, 48, 57, 70, 50, 48, 51, 48, 65, 49, 48, 51, 48, 70, 65, 50, 48, 51, 48, 70, 67, 48, 51, 48, 70, 70, 50, 48, 51, 49, 48, 53, 48, 51, 49, 50, 70, 50, 48, 51, 49, 51, 49, 48, 51, 49, 56, 69, 50, 48, 51, 52, 48, 48, 48, 52, 68, 66, 70, 50, 48, 52, 69, 48, 48, 48, 57, 70, 70, 70, 50, 48, 65, 57, 54, 48, 48, 65, 57, 55, 67, 50, 48, 65, 67, 48, 48, 48, 68, 55, 65, 51, 50, 48, 68, 55, 66, 48, 48, 68, 55, 70, 66, 50, 48, 70, 57, 48, 48, 48, 70, 65, 70, 70, 50, 48, 70, 66, 49, 68, 48, 70, 66, 52, 70, 50, 48, 70, 70, 49, 48, 48, 70, 70, 49, 57, 50, 48, 70, 70, 50, 49, 48, 70, 70, 51, 65, 50, 48, 70, 70, 52, 49, 48, 70, 70, 53, 65, 50, 48, 70, 70, 54, 54, 48, 70, 70, 68, 67, 50, 49, 48, 52, 48, 48, 49, 48, 52, 52, 70, 50, 50, 48, 48, 48, 48, 50, 70, 65, 49, 70, 50, 51, 48, 48, 48, 48, 51, 50, 51, 65, 70, 50] }
abbrev c24 : List Cell := [.int .i64, .sl]
abbrev c28 : List Cell := [.ptr, .sl]
abbrev c34 : List Cell := [.int .i64, .int .i64, .int .i64]
abbrev c39 : List Cell := [.int .i64, .int .i64, .int .i64]
abbrev c43 : List Cell := [.int .i64, .int .i64, .int .i64, .int .i64, .int .i64, .int .i64, .sl]
abbrev c72 : List Cell := [.int .i64, .int .i64, .int .i64, .bool, .int .i64]
abbrev c83 : List Cell := [.int .i64, .int .i64, .sl]
abbrev c89 : List Cell := [.int .i64, .any]
abbrev c100 : List Cell := [.int .i64, .int .i64, .int .i64, .int .i64]
abbrev c105 : List Cell := [.ptr]
abbrev c107 : List Cell := [.int .i64, .int .i64, .ptr, .sl]
abbrev c110 : List Cell := [.int .i64, .int .i64, .int .i64, .bool, .bool]
abbrev c112 : List Cell := [.sl, .int .i64, .int .i64, .int .i64, .int .i64, .bool, .bool]
abbrev c144 : List Cell := [.ptr, .ptr, .sl, .int .i64, .int .i64, .int .i64, .int .i64, .bool, .bool, .int .i64, .int .i64, .int .i64, .int .i64, .int .i64, .bool, .bool]
abbrev c149 : List Cell := [.int .i64, .int .i64, .int .i64]
abbrev c163 : List Cell := []
abbrev c165 : List Cell := [.int .i64]
abbrev c166 : List Cell := []
abbrev c169 : List Cell := [.int .i64, .int .i64, .int .i64, .int .i64]
abbrev c174 : List Cell := [.int .i64, .int .i64, .int .i64, .int .i64]
abbrev c180 : List Cell := [.int .i64, .int .i64, .int .i64]
abbrev c192 : List Cell := [.int .i64, .int .i64, .int .i64, .int .i64, .int .i64]
abbrev c224 : List Cell := [.int .u8, .int .u8, .int .u8, .int .u8, .int .u8]
abbrev c227 : List Cell := [.int .u8, .int .u8]
noncomputable def i0 : Inf := ⟨Tryz.t0.desc, Tryz.t0.size, Tryz.t0.bytes, Tryz.t0.zero, (.one .any), (.tup [])⟩
theorem i0_ok : InfOk Tryz.prog 0 i0 := ⟨by kernel_rfl, by kernel_rfl, by kernel_rfl⟩
noncomputable def i3 : Inf := ⟨Tryz.t3.desc, Tryz.t3.size, Tryz.t3.bytes, Tryz.t3.zero, (.one (.int .i64)), (.one (.one (.int .i64)))⟩
theorem i3_ok : InfOk Tryz.prog 3 i3 := ⟨by kernel_rfl, by kernel_rfl, by kernel_rfl⟩
noncomputable def i4 : Inf := ⟨Tryz.t4.desc, Tryz.t4.size, Tryz.t4.bytes, Tryz.t4.zero, (.one .bool), (.one (.one .bool))⟩
theorem i4_ok : InfOk Tryz.prog 4 i4 := ⟨by kernel_rfl, by kernel_rfl, by kernel_rfl⟩
noncomputable def i5 : Inf := ⟨Tryz.t5.desc, Tryz.t5.size, Tryz.t5.bytes, Tryz.t5.zero, (.one (.int .u8)), (.one (.one (.int .u8)))⟩
theorem i5_ok : InfOk Tryz.prog 5 i5 := ⟨by kernel_rfl, by kernel_rfl, by kernel_rfl⟩
noncomputable def i9 : Inf := ⟨Tryz.t9.desc, Tryz.t9.size, Tryz.t9.bytes, Tryz.t9.zero, (.one .str), (.one (.one .str))⟩
theorem i9_ok : InfOk Tryz.prog 9 i9 := ⟨by kernel_rfl, by kernel_rfl, by kernel_rfl⟩
noncomputable def i21 : Inf := ⟨Tryz.t21.desc, Tryz.t21.size, Tryz.t21.bytes, Tryz.t21.zero, (.one (.int .i32)), (.one (.one (.int .i32)))⟩
theorem i21_ok : InfOk Tryz.prog 21 i21 := ⟨by kernel_rfl, by kernel_rfl, by kernel_rfl⟩
noncomputable def i22 : Inf := ⟨Tryz.t22.desc, Tryz.t22.size, Tryz.t22.bytes, Tryz.t22.zero, (.one .sl), (.one (.one .sl))⟩
theorem i22_ok : InfOk Tryz.prog 22 i22 := ⟨by kernel_rfl, by kernel_rfl, by kernel_rfl⟩
noncomputable def i24 : Inf := ⟨Tryz.t23.desc, Tryz.t24.size, Tryz.t24.bytes, Tryz.t24.zero, (.agg c24), (.one (.agg c24))⟩
theorem i24_ok : InfOk Tryz.prog 24 i24 := ⟨by kernel_rfl, by kernel_rfl, by kernel_rfl⟩
noncomputable def i25 : Inf := ⟨Tryz.t25.desc, Tryz.t25.size, Tryz.t25.bytes, Tryz.t25.zero, (.one .ptr), (.one (.one .ptr))⟩
theorem i25_ok : InfOk Tryz.prog 25 i25 := ⟨by kernel_rfl, by kernel_rfl, by kernel_rfl⟩
noncomputable def i26 : Inf := ⟨Tryz.t26.desc, Tryz.t26.size, Tryz.t26.bytes, Tryz.t26.zero, (.one .sl), (.one (.one .sl))⟩
theorem i26_ok : InfOk Tryz.prog 26 i26 := ⟨by kernel_rfl, by kernel_rfl, by kernel_rfl⟩
noncomputable def i28 : Inf := ⟨Tryz.t27.desc, Tryz.t28.size, Tryz.t28.bytes, Tryz.t28.zero, (.agg c28), (.one (.agg c28))⟩
theorem i28_ok : InfOk Tryz.prog 28 i28 := ⟨by kernel_rfl, by kernel_rfl, by kernel_rfl⟩
noncomputable def i29 : Inf := ⟨Tryz.t29.desc, Tryz.t29.size, Tryz.t29.bytes, Tryz.t29.zero, (.one .any), (.tup [(.agg c28), (.one .bool)])⟩
theorem i29_ok : InfOk Tryz.prog 29 i29 := ⟨by kernel_rfl, by kernel_rfl, by kernel_rfl⟩
noncomputable def i34 : Inf := ⟨Tryz.t33.desc, Tryz.t34.size, Tryz.t34.bytes, Tryz.t34.zero, (.agg c34), (.one (.agg c34))⟩
theorem i34_ok : InfOk Tryz.prog 34 i34 := ⟨by kernel_rfl, by kernel_rfl, by kernel_rfl⟩
noncomputable def i35 : Inf := ⟨Tryz.t3.desc, Tryz.t35.size, Tryz.t35.bytes, Tryz.t35.zero, (.one (.int .i64)), (.one (.one (.int .i64)))⟩
theorem i35_ok : InfOk Tryz.prog 35 i35 := ⟨by kernel_rfl, by kernel_rfl, by kernel_rfl⟩
noncomputable def i36 : Inf := ⟨Tryz.t36.desc, Tryz.t36.size, Tryz.t36.bytes, Tryz.t36.zero, (.one .any), (.tup [(.agg c34), (.one (.int .i64))])⟩
theorem i36_ok : InfOk Tryz.prog 36 i36 := ⟨by kernel_rfl, by kernel_rfl, by kernel_rfl⟩
noncomputable def i39 : Inf := ⟨Tryz.t38.desc, Tryz.t39.size, Tryz.t39.bytes, Tryz.t39.zero, (.agg c39), (.one (.agg c39))⟩
theorem i39_ok : InfOk Tryz.prog 39 i39 := ⟨by kernel_rfl, by kernel_rfl, by kernel_rfl⟩
noncomputable def i41 : Inf := ⟨Tryz.t41.desc, Tryz.t41.size, Tryz.t41.bytes, Tryz.t41.zero, (.one .sl), (.one (.one .sl))⟩
theorem i41_ok : InfOk Tryz.prog 41 i41 := ⟨by kernel_rfl, by kernel_rfl, by kernel_rfl⟩
noncomputable def i43 : Inf := ⟨Tryz.t42.desc, Tryz.t43.size, Tryz.t43.bytes, Tryz.t43.zero, (.agg c43), (.one (.agg c43))⟩
theorem i43_ok : InfOk Tryz.prog 43 i43 := ⟨by kernel_rfl, by kernel_rfl, by kernel_rfl⟩
noncomputable def i54 : Inf := ⟨Tryz.t54.desc, Tryz.t54.size, Tryz.t54.bytes, Tryz.t54.zero, (.one .sl), (.one (.one .sl))⟩
theorem i54_ok : InfOk Tryz.prog 54 i54 := ⟨by kernel_rfl, by kernel_rfl, by kernel_rfl⟩
noncomputable def i60 : Inf := ⟨Tryz.t60.desc, Tryz.t60.size, Tryz.t60.bytes, Tryz.t60.zero, (.one .any), (.tup [(.one .sl), (.one (.int .i64))])⟩
theorem i60_ok : InfOk Tryz.prog 60 i60 := ⟨by kernel_rfl, by kernel_rfl, by kernel_rfl⟩
noncomputable def i62 : Inf := ⟨Tryz.t62.desc, Tryz.t62.size, Tryz.t62.bytes, Tryz.t62.zero, (.one .any), (.tup [(.one .ptr), (.one (.int .i64))])⟩
theorem i62_ok : InfOk Tryz.prog 62 i62 := ⟨by kernel_rfl, by kernel_rfl, by kernel_rfl⟩
noncomputable def i66 : Inf := ⟨Tryz.t66.desc, Tryz.t66.size, Tryz.t66.bytes, Tryz.t66.zero, (.one .any), (.tup [(.one (.int .i64)), (.one .bool)])⟩
theorem i66_ok : InfOk Tryz.prog 66 i66 := ⟨by kernel_rfl, by kernel_rfl, by kernel_rfl⟩
noncomputable def i68 : Inf := ⟨Tryz.t68.desc, Tryz.t68.size, Tryz.t68.bytes, Tryz.t68.zero, (.one .sl), (.one (.one .sl))⟩
theorem i68_ok : InfOk Tryz.prog 68 i68 := ⟨by kernel_rfl, by kernel_rfl, by kernel_rfl⟩
noncomputable def i72 : Inf := ⟨Tryz.t71.desc, Tryz.t72.size, Tryz.t72.bytes, Tryz.t72.zero, (.agg c72), (.one (.agg c72))⟩
theorem i72_ok : InfOk Tryz.prog 72 i72 := ⟨by kernel_rfl, by kernel_rfl, by kernel_rfl⟩
noncomputable def i79 : Inf := ⟨Tryz.t79.desc, Tryz.t79.size, Tryz.t79.bytes, Tryz.t79.zero, (.one .any), (.one (.one .any))⟩
theorem i79_ok : InfOk Tryz.prog 79 i79 := ⟨by kernel_rfl, by kernel_rfl, by kernel_rfl⟩
noncomputable def i83 : Inf := ⟨Tryz.t82.desc, Tryz.t83.size, Tryz.t83.bytes, Tryz.t83.zero, (.agg c83), (.one (.agg c83))⟩
theorem i83_ok : InfOk Tryz.prog 83 i83 := ⟨by kernel_rfl, by kernel_rfl, by kernel_rfl⟩
noncomputable def i84 : Inf := ⟨Tryz.t84.desc, Tryz.t84.size, Tryz.t84.bytes, Tryz.t84.zero, (.one .sl), (.one (.one .sl))⟩
theorem i84_ok : InfOk Tryz.prog 84 i84 := ⟨by kernel_rfl, by kernel_rfl, by kernel_rfl⟩
noncomputable def i85 : Inf := ⟨Tryz.t85.desc, Tryz.t85.size, Tryz.t85.bytes, Tryz.t85.zero, (.one .any), (.tup [(.one .sl), (.one (.int .i64))])⟩
theorem i85_ok : InfOk Tryz.prog 85 i85 := ⟨by kernel_rfl, by kernel_rfl, by kernel_rfl⟩
noncomputable def i87 : Inf := ⟨Tryz.t87.desc, Tryz.t87.size, Tryz.t87.bytes, Tryz.t87.zero, (.one .any), (.one (.one .any))⟩
theorem i87_ok : InfOk Tryz.prog 87 i87 := ⟨by kernel_rfl, by kernel_rfl, by kernel_rfl⟩
noncomputable def i89 : Inf := ⟨Tryz.t88.desc, Tryz.t89.size, Tryz.t89.bytes, Tryz.t89.zero, (.agg c89), (.one (.agg c89))⟩
theorem i89_ok : InfOk Tryz.prog 89 i89 := ⟨by kernel_rfl, by kernel_rfl, by kernel_rfl⟩
noncomputable def i91 : Inf := ⟨Tryz.t91.desc, Tryz.t91.size, Tryz.t91.bytes, Tryz.t91.zero, (.one .any), (.tup [(.one (.int .i64)), (.one (.int .i64)), (.one .bool)])⟩
theorem i91_ok : InfOk Tryz.prog 91 i91 := ⟨by kernel_rfl, by kernel_rfl, by kernel_rfl⟩
noncomputable def i95 : Inf := ⟨Tryz.t95.desc, Tryz.t95.size, Tryz.t95.bytes, Tryz.t95.zero, (.one .sl), (.one (.one .sl))⟩
theorem i95_ok : InfOk Tryz.prog 95 i95 := ⟨by kernel_rfl, by kernel_rfl, by kernel_rfl⟩
noncomputable def i97 : Inf := ⟨Tryz.t96.desc, Tryz.t97.size, Tryz.t97.bytes, Tryz.t97.zero, (.one .any), (.one (.one .any))⟩
theorem i97_ok : InfOk Tryz.prog 97 i97 := ⟨by kernel_rfl, by kernel_rfl, by kernel_rfl⟩
noncomputable def i100 : Inf := ⟨Tryz.t99.desc, Tryz.t100.size, Tryz.t100.bytes, Tryz.t100.zero, (.agg c100), (.one (.agg c100))⟩
theorem i100_ok : InfOk Tryz.prog 100 i100 := ⟨by kernel_rfl, by kernel_rfl, by kernel_rfl⟩
noncomputable def i101 : Inf := ⟨Tryz.t101.desc, Tryz.t101.size, Tryz.t101.bytes, Tryz.t101.zero, (.one .any), (.tup [(.one (.int .i64)), (.one (.int .i64))])⟩
theorem i101_ok : InfOk Tryz.prog 101 i101 := ⟨by kernel_rfl, by kernel_rfl, by kernel_rfl⟩
noncomputable def i103 : Inf := ⟨Tryz.t103.desc, Tryz.t103.size, Tryz.t103.bytes, Tryz.t103.zero, (.one .ptr), (.one (.one .ptr))⟩
theorem i103_ok : InfOk Tryz.prog 103 i103 := ⟨by kernel_rfl, by kernel_rfl, by kernel_rfl⟩
noncomputable def i105 : Inf := ⟨Tryz.t104.desc, Tryz.t105.size, Tryz.t105.bytes, Tryz.t105.zero, (.agg c105), (.one (.agg c105))⟩
theorem i105_ok : InfOk Tryz.prog 105 i105 := ⟨by kernel_rfl, by kernel_rfl, by kernel_rfl⟩
noncomputable def i107 : Inf := ⟨Tryz.t106.desc, Tryz.t107.size, Tryz.t107.bytes, Tryz.t107.zero, (.agg c107), (.one (.agg c107))⟩
theorem i107_ok : InfOk Tryz.prog 107 i107 := ⟨by kernel_rfl, by kernel_rfl, by kernel_rfl⟩
noncomputable def i108 : Inf := ⟨Tryz.t108.desc, Tryz.t108.size, Tryz.t108.bytes, Tryz.t108.zero, (.one .sl), (.one (.one .sl))⟩
theorem i108_ok : InfOk Tryz.prog 108 i108 := ⟨by kernel_rfl, by kernel_rfl, by kernel_rfl⟩
noncomputable def i110 : Inf := ⟨Tryz.t109.desc, Tryz.t110.size, Tryz.t110.bytes, Tryz.t110.zero, (.agg c110), (.one (.agg c110))⟩
theorem i110_ok : InfOk Tryz.prog 110 i110 := ⟨by kernel_rfl, by kernel_rfl, by kernel_rfl⟩
noncomputable def i112 : Inf := ⟨Tryz.t111.desc, Tryz.t112.size, Tryz.t112.bytes, Tryz.t112.zero, (.agg c112), (.one (.agg c112))⟩
theorem i112_ok : InfOk Tryz.prog 112 i112 := ⟨by kernel_rfl, by kernel_rfl, by kernel_rfl⟩
noncomputable def i117 : Inf := ⟨Tryz.t117.desc, Tryz.t117.size, Tryz.t117.bytes, Tryz.t117.zero, (.one .any), (.tup [(.agg c100), (.one (.int .i64))])⟩
theorem i117_ok : InfOk Tryz.prog 117 i117 := ⟨by kernel_rfl, by kernel_rfl, by kernel_rfl⟩
noncomputable def i122 : Inf := ⟨Tryz.t121.desc, Tryz.t122.size, Tryz.t122.bytes, Tryz.t122.zero, (.one .any), (.one (.one .any))⟩
theorem i122_ok : InfOk Tryz.prog 122 i122 := ⟨by kernel_rfl, by kernel_rfl, by kernel_rfl⟩
noncomputable def i132 : Inf := ⟨Tryz.t131.desc, Tryz.t132.size, Tryz.t132.bytes, Tryz.t132.zero, (.one .any), (.one (.one .any))⟩
theorem i132_ok : InfOk Tryz.prog 132 i132 := ⟨by kernel_rfl, by kernel_rfl, by kernel_rfl⟩
noncomputable def i139 : Inf := ⟨Tryz.t139.desc, Tryz.t139.size, Tryz.t139.bytes, Tryz.t139.zero, (.one .any), (.tup [(.agg c112), (.one .bool)])⟩
theorem i139_ok : InfOk Tryz.prog 139 i139 := ⟨by kernel_rfl, by kernel_rfl, by kernel_rfl⟩
noncomputable def i144 : Inf := ⟨Tryz.t143.desc, Tryz.t144.size, Tryz.t144.bytes, Tryz.t144.zero, (.agg c144), (.one (.agg c144))⟩
theorem i144_ok : InfOk Tryz.prog 144 i144 := ⟨by kernel_rfl, by kernel_rfl, by kernel_rfl⟩
noncomputable def i146 : Inf := ⟨Tryz.t146.desc, Tryz.t146.size, Tryz.t146.bytes, Tryz.t146.zero, (.one .any), (.one (.one .any))⟩
theorem i146_ok : InfOk Tryz.prog 146 i146 := ⟨by kernel_rfl, by kernel_rfl, by kernel_rfl⟩
noncomputable def i147 : Inf := ⟨Tryz.t147.desc, Tryz.t147.size, Tryz.t147.bytes, Tryz.t147.zero, (.one .any), (.one (.one .any))⟩
theorem i147_ok : InfOk Tryz.prog 147 i147 := ⟨by kernel_rfl, by kernel_rfl, by kernel_rfl⟩
noncomputable def i149 : Inf := ⟨Tryz.t33.desc, Tryz.t149.size, Tryz.t149.bytes, Tryz.t149.zero, (.agg c149), (.one (.agg c149))⟩
theorem i149_ok : InfOk Tryz.prog 149 i149 := ⟨by kernel_rfl, by kernel_rfl, by kernel_rfl⟩
noncomputable def i150 : Inf := ⟨Tryz.t150.desc, Tryz.t150.size, Tryz.t150.bytes, Tryz.t150.zero, (.one .any), (.tup [(.agg c149), (.one (.int .i64))])⟩
theorem i150_ok : InfOk Tryz.prog 150 i150 := ⟨by kernel_rfl, by kernel_rfl, by kernel_rfl⟩
noncomputable def i154 : Inf := ⟨Tryz.t154.desc, Tryz.t154.size, Tryz.t154.bytes, Tryz.t154.zero, (.one .any), (.tup [(.agg c112), (.agg c112)])⟩
theorem i154_ok : InfOk Tryz.prog 154 i154 := ⟨by kernel_rfl, by kernel_rfl, by kernel_rfl⟩
noncomputable def i157 : Inf := ⟨Tryz.t157.desc, Tryz.t157.size, Tryz.t157.bytes, Tryz.t157.zero, (.one .any), (.tup [(.agg c105), (.one (.int .i64))])⟩
theorem i157_ok : InfOk Tryz.prog 157 i157 := ⟨by kernel_rfl, by kernel_rfl, by kernel_rfl⟩
noncomputable def i163 : Inf := ⟨Tryz.t162.desc, Tryz.t163.size, Tryz.t163.bytes, Tryz.t163.zero, (.agg c163), (.one (.agg c163))⟩
theorem i163_ok : InfOk Tryz.prog 163 i163 := ⟨by kernel_rfl, by kernel_rfl, by kernel_rfl⟩
noncomputable def i165 : Inf := ⟨Tryz.t164.desc, Tryz.t165.size, Tryz.t165.bytes, Tryz.t165.zero, (.agg c165), (.one (.agg c165))⟩
theorem i165_ok : InfOk Tryz.prog 165 i165 := ⟨by kernel_rfl, by kernel_rfl, by kernel_rfl⟩
noncomputable def i166 : Inf := ⟨Tryz.t162.desc, Tryz.t166.size, Tryz.t166.bytes, Tryz.t166.zero, (.agg c166), (.one (.agg c166))⟩
theorem i166_ok : InfOk Tryz.prog 166 i166 := ⟨by kernel_rfl, by kernel_rfl, by kernel_rfl⟩
noncomputable def i169 : Inf := ⟨Tryz.t168.desc, Tryz.t169.size, Tryz.t169.bytes, Tryz.t169.zero, (.agg c169), (.one (.agg c169))⟩
theorem i169_ok : InfOk Tryz.prog 169 i169 := ⟨by kernel_rfl, by kernel_rfl, by kernel_rfl⟩
noncomputable def i172 : Inf := ⟨Tryz.t172.desc, Tryz.t172.size, Tryz.t172.bytes, Tryz.t172.zero, (.one .sl), (.one (.one .sl))⟩
theorem i172_ok : InfOk Tryz.prog 172 i172 := ⟨by kernel_rfl, by kernel_rfl, by kernel_rfl⟩
noncomputable def i174 : Inf := ⟨Tryz.t99.desc, Tryz.t174.size, Tryz.t174.bytes, Tryz.t174.zero, (.agg c174), (.one (.agg c174))⟩
theorem i174_ok : InfOk Tryz.prog 174 i174 := ⟨by kernel_rfl, by kernel_rfl, by kernel_rfl⟩
noncomputable def i180 : Inf := ⟨Tryz.t179.desc, Tryz.t180.size, Tryz.t180.bytes, Tryz.t180.zero, (.agg c180), (.one (.agg c180))⟩
theorem i180_ok : InfOk Tryz.prog 180 i180 := ⟨by kernel_rfl, by kernel_rfl, by kernel_rfl⟩
noncomputable def i187 : Inf := ⟨Tryz.t187.desc, Tryz.t187.size, Tryz.t187.bytes, Tryz.t187.zero, (.one .any), (.tup [(.one .sl), (.one (.int .i64)), (.one (.int .i64))])⟩
theorem i187_ok : InfOk Tryz.prog 187 i187 := ⟨by kernel_rfl, by kernel_rfl, by kernel_rfl⟩
noncomputable def i189 : Inf := ⟨Tryz.t189.desc, Tryz.t189.size, Tryz.t189.bytes, Tryz.t189.zero, (.one .any), (.tup [(.one .ptr), (.one .ptr)])⟩
theorem i189_ok : InfOk Tryz.prog 189 i189 := ⟨by kernel_rfl, by kernel_rfl, by kernel_rfl⟩
noncomputable def i192 : Inf := ⟨Tryz.t192.desc, Tryz.t192.size, Tryz.t192.bytes, Tryz.t192.zero, (.agg c192), (.one (.agg c192))⟩
theorem i192_ok : InfOk Tryz.prog 192 i192 := ⟨by kernel_rfl, by kernel_rfl, by kernel_rfl⟩
noncomputable def i196 : Inf := ⟨Tryz.t196.desc, Tryz.t196.size, Tryz.t196.bytes, Tryz.t196.zero, (.one .any), (.tup [(.agg c174), (.one (.int .i64))])⟩
theorem i196_ok : InfOk Tryz.prog 196 i196 := ⟨by kernel_rfl, by kernel_rfl, by kernel_rfl⟩
noncomputable def i199 : Inf := ⟨Tryz.t199.desc, Tryz.t199.size, Tryz.t199.bytes, Tryz.t199.zero, (.one .sl), (.one (.one .sl))⟩
theorem i199_ok : InfOk Tryz.prog 199 i199 := ⟨by kernel_rfl, by kernel_rfl, by kernel_rfl⟩
noncomputable def i200 : Inf := ⟨Tryz.t200.desc, Tryz.t200.size, Tryz.t200.bytes, Tryz.t200.zero, (.one .any), (.tup [(.one .sl), (.one (.int .i64))])⟩
theorem i200_ok : InfOk Tryz.prog 200 i200 := ⟨by kernel_rfl, by kernel_rfl, by kernel_rfl⟩
noncomputable def i204 : Inf := ⟨Tryz.t204.desc, Tryz.t204.size, Tryz.t204.bytes, Tryz.t204.zero, (.one .any), (.tup [(.agg c112), (.one .ptr)])⟩
theorem i204_ok : InfOk Tryz.prog 204 i204 := ⟨by kernel_rfl, by kernel_rfl, by kernel_rfl⟩
noncomputable def i224 : Inf := ⟨Tryz.t224.desc, Tryz.t224.size, Tryz.t224.bytes, Tryz.t224.zero, (.agg c224), (.one (.agg c224))⟩
theorem i224_ok : InfOk Tryz.prog 224 i224 := ⟨by kernel_rfl, by kernel_rfl, by kernel_rfl⟩
noncomputable def i225 : Inf := ⟨Tryz.t225.desc, Tryz.t225.size, Tryz.t225.bytes, Tryz.t225.zero, (.one .any), (.tup [(.one (.int .i64)), (.one (.int .u8)), (.one (.int .u8))])⟩
theorem i225_ok : InfOk Tryz.prog 225 i225 := ⟨by kernel_rfl, by kernel_rfl, by kernel_rfl⟩
noncomputable def i227 : Inf := ⟨Tryz.t227.desc, Tryz.t227.size, Tryz.t227.bytes, Tryz.t227.zero, (.agg c227), (.one (.agg c227))⟩
theorem i227_ok : InfOk Tryz.prog 227 i227 := ⟨by kernel_rfl, by kernel_rfl, by kernel_rfl⟩
noncomputable def tab : Tab := ⟨[(0, i0), (3, i3), (4, i4), (5, i5), (9, i9), (21, i21), (22, i22), (24, i24), (25, i25), (26, i26), (28, i28), (29, i29), (34, i34), (35, i35), (36, i36), (39, i39), (41, i41), (43, i43), (54, i54), (60, i60), (62, i62), (66, i66), (68, i68), (72, i72), (79, i79), (83, i83), (84, i84), (85, i85), (87, i87), (89, i89), (91, i91), (95, i95), (97, i97), (100, i100), (101, i101), (103, i103), (105, i105), (107, i107), (108, i108), (110, i110), (112, i112), (117, i117), (122, i122), (132, i132), (139, i139), (144, i144), (146, i146), (147, i147), (149, i149), (150, i150), (154, i154), (157, i157), (163, i163), (165, i165), (166, i166), (169, i169), (172, i172), (174, i174), (180, i180), (187, i187), (189, i189), (192, i192), (196, i196), (199, i199), (200, i200), (204, i204), (224, i224), (225, i225), (227, i227)], [16, 17, 18, 19, 20, 21, 22, 23, 24, 25, 26, 27, 28, 29, 30, 31, 32, 33, 34, 35, 36, 37, 38, 39, 40, 41, 42, 43, 44, 45, 46, 47, 49, 50, 51, 55, 57, 58, 59, 61, 62, 63, 64, 65, 66, 67, 68, 69, 70, 71, 72, 73, 74, 75, 76, 77, 78, 79, 80, 81, 83, 84, 85, 86, 87, 88, 89, 90, 91, 92, 93, 95, 96, 97, 98, 102, 103, 104, 105, 106, 107, 108, 109, 110, 111, 112, 113, 114, 115, 116, 117, 118, 119, 120, 121, 122, 123, 124, 125, 126, 127, 128, 129, 130, 131, 132, 133, 134, 135, 136, 137, 138, 139, 140, 142, 143, 144, 145, 146, 147, 148, 149, 150, 151, 152, 153, 154, 155, 156, 157, 158, 159, 160, 161, 162, 163, 164, 165, 166, 167, 168, 169, 170, 171, 172, 198, 199, 200, 206, 207, 208, 209]⟩
theorem fnsOk : FnsOk Tryz.prog [16, 17, 18, 19, 20, 21, 22, 23, 24, 25, 26, 27, 28, 29, 30, 31, 32, 33, 34, 35, 36, 37, 38, 39, 40, 41, 42, 43, 44, 45, 46, 47, 49, 50, 51, 55, 57, 58, 59, 61, 62, 63, 64, 65, 66, 67, 68, 69, 70, 71, 72, 73, 74, 75, 76, 77, 78, 79, 80, 81, 83, 84, 85, 86, 87, 88, 89, 90, 91, 92, 93, 95, 96, 97, 98, 102, 103, 104, 105, 106, 107, 108, 109, 110, 111, 112, 113, 114, 115, 116, 117, 118, 119, 120, 121, 122, 123, 124, 125, 126, 127, 128, 129, 130, 131, 132, 133, 134, 135, 136, 137, 138, 139, 140, 142, 143, 144, 145, 146, 147, 148, 149, 150, 151, 152, 153, 154, 155, 156, 157, 158, 159, 160, 161, 162, 163, 164, 165, 166, 167, 168, 169, 170, 171, 172, 198, 199, 200, 206, 207, 208, 209] := ⟨by kernel_rfl, by kernel_rfl, by kernel_rfl, by kernel_rfl, by kernel_rfl, by kernel_rfl, by kernel_rfl, by kernel_rfl, by kernel_rfl, by kernel_rfl, by kernel_rfl, by kernel_rfl, by kernel_rfl, by kernel_rfl, by kernel_rfl, by kernel_rfl, by kernel_rfl, by kernel_rfl, by kernel_rfl, by kernel_rfl, by kernel_rfl, by kernel_rfl, by kernel_rfl, by kernel_rfl, by kernel_rfl, by kernel_rfl, by kernel_rfl, by kernel_rfl, by kernel_rfl, by kernel_rfl, by kernel_rfl, by kernel_rfl, by kernel_rfl, by kernel_rfl, by kernel_rfl, by kernel_rfl, by kernel_rfl, by kernel_rfl, by kernel_rfl, by kernel_rfl, by kernel_rfl, by kernel_rfl, by kernel_rfl, by kernel_rfl, by kernel_rfl, by kernel_rfl, by kernel_rfl, by kernel_rfl, by kernel_rfl, by kernel_rfl, by kernel_rfl, by kernel_rfl, by kernel_rfl, by kernel_rfl, by kernel_rfl, by kernel_rfl, by kernel_rfl, by kernel_rfl, by kernel_rfl, by kernel_rfl, by kernel_rfl, by kernel_rfl, by kernel_rfl, by kernel_rfl, by kernel_rfl, by kernel_rfl, by kernel_rfl, by kernel_rfl, by kernel_rfl, by kernel_rfl, by kernel_rfl, by kernel_rfl, by kernel_rfl, by kernel_rfl, by kernel_rfl, by kernel_rfl, by kernel_rfl, by kernel_rfl, by kernel_rfl, by kernel_rfl, by kernel_rfl, by kernel_rfl, by kernel_rfl, by kernel_rfl, by kernel_rfl, by kernel_rfl, by kernel_rfl, by kernel_rfl, by kernel_rfl, by kernel_rfl, by kernel_rfl, by kernel_rfl, by kernel_rfl, by kernel_rfl, by kernel_rfl, by kernel_rfl, by kernel_rfl, by kernel_rfl, by kernel_rfl, by kernel_rfl, by kernel_rfl, by kernel_rfl, by kernel_rfl, by kernel_rfl, by kernel_rfl, by kernel_rfl, by kernel_rfl, by kernel_rfl, by kernel_rfl, by kernel_rfl, by kernel_rfl, by kernel_rfl, by kernel_rfl, by kernel_rfl, by kernel_rfl, by kernel_rfl, by kernel_rfl, by kernel_rfl, by kernel_rfl, by kernel_rfl, by kernel_rfl, by kernel_rfl, by kernel_rfl, by kernel_rfl, by kernel_rfl, by kernel_rfl, by kernel_rfl, by kernel_rfl, by kernel_rfl, by kernel_rfl, by kernel_rfl, by kernel_rfl, by kernel_rfl, by kernel_rfl, by kernel_rfl, by kernel_rfl, by kernel_rfl, by kernel_rfl, by kernel_rfl, by kernel_rfl, by kernel_rfl, by kernel_rfl, by kernel_rfl, by kernel_rfl, by kernel_rfl, by kernel_rfl, by kernel_rfl, by kernel_rfl, by kernel_rfl, by kernel_rfl, by kernel_rfl, by kernel_rfl, trivial⟩
theorem tabOk : tab.Ok Tryz.prog := ⟨⟨i0_ok, i3_ok, i4_ok, i5_ok, i9_ok, i21_ok, i22_ok, i24_ok, i25_ok, i26_ok, i28_ok, i29_ok, i34_ok, i35_ok, i36_ok, i39_ok, i41_ok, i43_ok, i54_ok, i60_ok, i62_ok, i66_ok, i68_ok, i72_ok, i79_ok, i83_ok, i84_ok, i85_ok, i87_ok, i89_ok, i91_ok, i95_ok, i97_ok, i100_ok, i101_ok, i103_ok, i105_ok, i107_ok, i108_ok, i110_ok, i112_ok, i117_ok, i122_ok, i132_ok, i139_ok, i144_ok, i146_ok, i147_ok, i149_ok, i150_ok, i154_ok, i157_ok, i163_ok, i165_ok, i166_ok, i169_ok, i172_ok, i174_ok, i180_ok, i187_ok, i189_ok, i192_ok, i196_ok, i199_ok, i200_ok, i204_ok, i224_ok, i225_ok, i227_ok, trivial⟩, fnsOk, by kernel_rfl⟩
end Go.Proofs.YtabcpghhfeplaaaGreat
set_option linter.unusedSimpArgs false
set_option linter.unusedVariables false
set_option maxRecDepth 100000
namespace Go.Proofs.YtabcpghhfeplaaaGreat
open Cdc
namespace Gly
structure Row where
  lo : Nat
  hi : Nat
  v : Nat
def digit (c : UInt8) : Nat := if 57 < c.toNat then c.toNat - 55 else c.toNat - 48
def num (l : Bs) : Nat := l.foldl (fun n c => n * 16 + digit c) 0
def okC (c : UInt8) : Bool := (Nat.ble 48 c.toNat && Nat.ble c.toNat 57) || (Nat.ble 65 c.toNat && Nat.ble c.toNat 70)
def rowsN : Nat → Bs → List Row
  | 0, _ => []
  | n + 1, l => ⟨num (l.take 5), num ((l.drop 5).take 5), num ((l.drop 10).take 1)⟩ :: rowsN n (l.drop 11)
def lkup : List Row → Nat → Nat
  | [], _ => 0
  | r :: t, a => bif Nat.ble r.lo a && Nat.ble a r.hi then r.v else lkup t a
def srt : Nat → List Row → Bool
  | _, [] => true
  | m, r :: t => Nat.ble m r.lo && (Nat.ble r.lo r.hi && srt (r.hi + 1) t)
theorem okC_iff (c : UInt8) : okC c = true ↔ (48 ≤ c.toNat ∧ c.toNat ≤ 57) ∨ (65 ≤ c.toNat ∧ c.toNat ≤ 70) := by
  simp [okC, Nat.ble_eq]
theorem rowsN_len : ∀ (n : Nat) (l : Bs), (rowsN n l).length = n
  | 0, _ => rfl
  | n + 1, l => by rw [rowsN, List.length_cons, rowsN_len]
theorem rowsN_get : ∀ (n : Nat) (l : Bs) (m : Nat), m < n → (rowsN n l)[m]? = some ⟨num ((l.drop (11 * m)).take 5), num ((l.drop (11 * m + 5)).take 5), num ((l.drop (11 * m + 10)).take 1)⟩
  | n + 1, l, 0, _ => by simp [rowsN]
  | n + 1, l, m + 1, h => by
    rw [rowsN, List.getElem?_cons_succ, rowsN_get n _ m (by omega)]
    simp only [List.drop_drop]
    rw [show 11 + 11 * m = 11 * (m + 1) by omega, show 11 + (11 * m + 5) = 11 * (m + 1) + 5 by omega, show 11 + (11 * m + 10) = 11 * (m + 1) + 10 by omega]
theorem srt_get : ∀ {T : List Row} {m : Nat}, srt m T = true → ∀ {i : Nat} {r : Row}, T[i]? = some r → m ≤ r.lo ∧ r.lo ≤ r.hi
  | [], _, _, i, r, hr => by simp at hr
  | x :: t, m, h, 0, r, hr => by
    cases hr
    simp only [srt, Bool.and_eq_true, Nat.ble_eq] at h
    exact ⟨h.1, h.2.1⟩
  | x :: t, m, h, i + 1, r, hr => by
    simp only [srt, Bool.and_eq_true, Nat.ble_eq] at h
    have := srt_get h.2.2 (i := i) (by simpa using hr)
    exact ⟨by omega, this.2⟩
theorem srt_lt : ∀ {T : List Row} {m : Nat}, srt m T = true → ∀ {i j : Nat} {r s : Row}, i < j → T[i]? = some r → T[j]? = some s → r.hi < s.lo
  | [], _, _, i, j, r, s, _, hr, _ => by simp at hr
  | x :: t, m, h, 0, j + 1, r, s, _, hr, hs => by
    cases hr
    simp only [srt, Bool.and_eq_true, Nat.ble_eq] at h
    have := srt_get h.2.2 (i := j) (by simpa using hs)
    omega
  | x :: t, m, h, i + 1, j + 1, r, s, hij, hr, hs => by
    simp only [srt, Bool.and_eq_true, Nat.ble_eq] at h
    exact srt_lt h.2.2 (i := i) (j := j) (by omega) (by simpa using hr) (by simpa using hs)
theorem lkup_none : ∀ {T : List Row} {a : Nat}, (∀ (i : Nat) (r : Row), T[i]? = some r → a < r.lo ∨ r.hi < a) → lkup T a = 0
  | [], _, _ => rfl
  | x :: t, a, h => by
    have h0 := h 0 x rfl
    have : (Nat.ble x.lo a && Nat.ble a x.hi) = false := by
      rw [Bool.eq_false_iff]
      simp only [ne_eq, Bool.and_eq_true, Nat.ble_eq]
      omega
    rw [lkup, this]
    exact lkup_none fun i r hr => h (i + 1) r (by simpa using hr)
theorem lkup_at : ∀ {T : List Row} {m a : Nat}, srt m T = true → ∀ {i : Nat} {r : Row}, T[i]? = some r → r.lo ≤ a → a ≤ r.hi → lkup T a = r.v
  | [], _, _, _, i, r, hr, _, _ => by simp at hr
  | x :: t, m, a, h, 0, r, hr, h1, h2 => by
    cases hr
    have : (Nat.ble x.lo a && Nat.ble a x.hi) = true := by simp only [Bool.and_eq_true, Nat.ble_eq]; omega
    rw [lkup, this]; rfl
  | x :: t, m, a, h, i + 1, r, hr, h1, h2 => by
    have hlt := srt_lt h (i := 0) (j := i + 1) (by omega) rfl hr
    have : (Nat.ble x.lo a && Nat.ble a x.hi) = false := by
      rw [Bool.eq_false_iff]
      simp only [ne_eq, Bool.and_eq_true, Nat.ble_eq]
      omega
    rw [lkup, this]
    simp only [srt, Bool.and_eq_true, Nat.ble_eq] at h
    exact lkup_at h.2.2 (i := i) (by simpa using hr) h1 h2
theorem num_lt : ∀ (l : Bs), l.all okC = true → num l < 16 ^ l.length := by
  have key : ∀ (l : Bs) (n k : Nat), l.all okC = true → n < 16 ^ k → l.foldl (fun n c => n * 16 + digit c) n < 16 ^ (k + l.length) := by
    intro l
    induction l with
    | nil => intro n k _ h; simpa using h
    | cons c r ih =>
      intro n k h hn
      simp only [List.all_cons, Bool.and_eq_true] at h
      have hc := (okC_iff c).1 h.1
      have hd : digit c < 16 := by unfold digit; split <;> omega
      rw [List.foldl_cons, List.length_cons, show k + (r.length + 1) = (k + 1) + r.length by omega]
      refine ih _ _ h.2 ?_
      rw [Nat.pow_succ]; omega
  intro l h
  have := key l 0 0 h (by simp)
  simpa [num] using this
noncomputable def clsT : List Row := rowsN 324 bs_88441808.data.toList
noncomputable def cnjT : List Row := rowsN 26 bs_29aed6ba.data.toList
noncomputable def wrdT : List Row := rowsN 81 bs_94cae01e.data.toList
instance (a : Int) : Decidable (Scalar a) := by unfold Scalar; infer_instance
noncomputable def cls (a : Int) : Nat :=
  if Scalar a then (if 44032 ≤ a ∧ a < 55204 then (if (a.toNat - 44032) % 28 = 0 then 12 else 13) else lkup clsT a.toNat) else 3
noncomputable def cnj (a : Int) : Nat :=
  if a = 2381 ∨ a = 2509 ∨ a = 2765 ∨ a = 2893 ∨ a = 3149 ∨ a = 3405 then 3 else if a = 8204 then 0 else if cls a = 4 ∨ cls a = 5 then 2 else if cls a = 0 ∧ Scalar a then lkup cnjT a.toNat else 0
noncomputable def wrd (a : Int) : Nat :=
  if Scalar a then (if lkup wrdT a.toNat = 2 then 2 else if lkup wrdT a.toNat = 1 then 0 else 1) else 1
end Gly
end Go.Proofs.YtabcpghhfeplaaaGreat
set_option linter.unusedSimpArgs false
set_option linter.unusedVariables false
namespace Go.Proofs.YtabcpghhfeplaaaGreat
open Gly
namespace Clu
structure Sc where
  last : Nat
  flags : Nat
  pict : Nat
  conj : Nat
def Sc.zero : Sc := ⟨0, 0, 0, 0⟩
def Sc.note (s : Sc) (c p : Nat) : Sc :=
  ⟨c, if c = 6 then s.flags + 1 else 0, if c = 14 then 1 else if s.pict = 1 ∧ c = 5 then 2 else if s.pict = 1 ∧ c = 4 then s.pict else 0,
    if p = 1 then 1 else if 0 < s.conj ∧ p = 3 then 2 else if 0 < s.conj ∧ p = 2 then s.conj else 0⟩
def apart (c : Nat) : Bool := decide (c = 1 ∨ c = 2 ∨ c = 3)
def hangul (l r : Nat) : Bool :=
  decide ((l = 9 ∧ (r = 9 ∨ r = 10 ∨ r = 12 ∨ r = 13)) ∨ ((l = 12 ∨ l = 10) ∧ (r = 10 ∨ r = 11)) ∨ ((l = 13 ∨ l = 11) ∧ r = 11))
def joins (s : Sc) (c p : Nat) : Bool :=
  if s.last = 1 ∧ c = 2 then true else if apart s.last = true ∨ apart c = true then false else if c = 4 ∨ c = 5 ∨ c = 8 ∨ s.last = 7 then true else if hangul s.last c then true
  else if p = 1 ∧ s.conj = 2 then true else if c = 14 then s.pict == 2 else if c = 6 then s.flags % 2 == 1 else false
noncomputable def stp (s : Sc) (a : Int) : Sc := if joins s (cls a) (cnj a) then s.note (cls a) (cnj a) else Sc.zero.note (cls a) (cnj a)
noncomputable def sc (l : List Int) : Sc := l.foldl stp Sc.zero
theorem stp_zero (a : Int) : stp Sc.zero a = Sc.zero.note (cls a) (cnj a) := by unfold stp; split <;> rfl
theorem stp_not {s : Sc} {a : Int} (h : joins s (cls a) (cnj a) = false) : stp s a = stp Sc.zero a := by rw [stp_zero]; unfold stp; rw [if_neg (by rw [h]; decide)]
theorem stp_joins {s : Sc} {a : Int} (h : joins s (cls a) (cnj a) = true) : stp s a = s.note (cls a) (cnj a) := by unfold stp; rw [if_pos h]
theorem sc_snoc (l : List Int) (a : Int) : sc (l ++ [a]) = stp (sc l) a := by simp [sc]
theorem flags_stp (s : Sc) (a : Int) : (stp s a).flags ≤ s.flags + 1 := by
  unfold stp
  split <;> (simp only [Sc.note, Sc.zero]; split <;> omega)
theorem flags_le (l : List Int) : (sc l).flags ≤ l.length := by
  have key : ∀ (l : List Int) (s : Sc), (l.foldl stp s).flags ≤ s.flags + l.length := by
    intro l
    induction l with
    | nil => intro s; simp
    | cons a r ih => intro s; have := ih (stp s a); have := flags_stp s a; simp only [List.foldl_cons, List.length_cons]; omega
  have := key l Sc.zero
  simpa [sc, Sc.zero] using this
theorem last_stp (s : Sc) (a : Int) : (stp s a).last = cls a := by unfold stp; split <;> rfl
noncomputable def bk (A : List Int) (k : Nat) : Bool := match A[k]? with
  | some a => k == 0 || !joins (sc (A.take k)) (cls a) (cnj a)
  | none => k == A.length
theorem bk_zero (A : List Int) : bk A 0 = true := by
  unfold bk
  cases A <;> simp
theorem bk_len (A : List Int) : bk A A.length = true := by
  unfold bk
  rw [List.getElem?_eq_none (Nat.le_refl _)]
  simp
theorem bk_at {A : List Int} {k : Nat} {a : Int} (h : A[k]? = some a) (h0 : 0 < k) : bk A k = !joins (sc (A.take k)) (cls a) (cnj a) := by
  unfold bk
  rw [h]
  have : (k == 0) = false := by rw [beq_eq_false_iff_ne]; omega
  simp [this]
theorem bk_le {A : List Int} {k : Nat} (h : bk A k = true) : k ≤ A.length := by
  unfold bk at h
  split at h
  · rename_i a ha
    have := (List.getElem?_eq_some_iff.1 ha).1
    omega
  · simp only [beq_iff_eq] at h; omega
theorem sc_bk {A : List Int} {i : Nat} {a : Int} (hb : bk A i = true) (ha : A[i]? = some a) : sc (A.take (i + 1)) = sc [a] := by
  rw [List.take_add_one, ha]
  show sc (A.take i ++ [a]) = _
  rw [sc_snoc]
  show _ = stp Sc.zero a
  cases i with
  | zero => rfl
  | succ i =>
    rw [bk_at ha (by omega)] at hb
    exact stp_not (by simpa using hb)
noncomputable def cutsTo (A : List Int) (k : Nat) : List Nat := (List.range (k + 1)).filter (bk A)
noncomputable def cuts (A : List Int) : List Nat := cutsTo A A.length
theorem cutsTo_zero (A : List Int) : cutsTo A 0 = [0] := by
  unfold cutsTo
  have : List.range (0 + 1) = [0] := rfl
  rw [this, List.filter_cons_of_pos (bk_zero A)]; rfl
theorem cutsTo_next {A : List Int} {i j : Nat} (hij : i < j) (hb : bk A j = true) (hn : ∀ k, i < k → k < j → bk A k = false) : cutsTo A j = cutsTo A i ++ [j] := by
  unfold cutsTo
  have key : ∀ d, i + d < j → (List.range (i + d + 1)).filter (bk A) = (List.range (i + 1)).filter (bk A) := by
    intro d
    induction d with
    | zero => intro _; rfl
    | succ d ih =>
      intro h
      rw [show i + (d + 1) + 1 = (i + d + 1) + 1 by omega, List.range_succ, List.filter_append, ih (by omega), List.filter_cons_of_neg (by rw [hn _ (by omega) (by omega)]; decide)]
      simp
  rw [List.range_succ, List.filter_append, List.filter_cons_of_pos hb]
  obtain ⟨d, rfl⟩ : ∃ d, j = i + d + 1 := ⟨j - i - 1, by omega⟩
  rw [key d (by omega)]; rfl
theorem mem_cuts {A : List Int} {k : Nat} : k ∈ cuts A ↔ bk A k = true := by
  unfold cuts cutsTo
  rw [List.mem_filter, List.mem_range]
  exact ⟨fun h => h.2, fun h => ⟨by have := bk_le h; omega, h⟩⟩
theorem cuts_lt {A : List Int} : (cuts A).Pairwise (· < ·) := (List.pairwise_lt_range).filter _
theorem cutsTo_len (A : List Int) (k : Nat) : (cutsTo A k).length ≤ k + 1 := by
  unfold cutsTo
  have := List.length_filter_le (bk A) (List.range (k + 1))
  rwa [List.length_range] at this
end Clu
end Go.Proofs.YtabcpghhfeplaaaGreat
set_option linter.unusedSimpArgs false
set_option linter.unusedVariables false
set_option maxRecDepth 100000
namespace Go.Proofs.YtabcpghhfeplaaaGreat
open Trx Gly Clu
namespace Lns
structure Ln where
  from_ : Nat
  to_ : Nat
  next : Nat
  kind : Nat
  deriving DecidableEq
def isb (A : List Int) (n : Nat) : Bool := match A[n]? with
  | some a => isE a (A.drop (n + 1))
  | none => false
theorem nb_succ : ∀ (A : List Int) (n : Nat), nb A (n + 1) = nb A n + (if isb A n then 1 else 0)
  | [], n => by cases n <;> simp [nb, isb]
  | a :: r, 0 => by simp [nb, nb_zero, isb]
  | a :: r, n + 1 => by
    have ih := nb_succ r n
    rw [nb, ih, nb]
    have : isb (a :: r) (n + 1) = isb r n := by simp [isb]
    rw [this]; omega
theorem isb_iff {A : List Int} {n : Nat} {a : Int} (h : A[n]? = some a) : isb A n = true ↔ a = 10 ∨ (a = 13 ∧ A[n + 1]? ≠ some 10) := by
  unfold isb
  rw [h]
  simp only [isE, Bool.or_eq_true, beq_iff_eq, Bool.and_eq_true, bne_iff_ne, ne_eq, List.head?_drop]
theorem isb_lt {A : List Int} {n : Nat} (h : isb A n = true) : n < A.length := by
  unfold isb at h
  split at h
  · rename_i a ha; exact (List.getElem?_eq_some_iff.1 ha).1
  · cases h
theorem sk_get {A : List Int} {k m : Nat} (h : sk A k = some m) : k ≤ brs A ∧ m ≤ A.length ∧ nb A m = k ∧ ∀ j, j < m → nb A j < k := by
  by_cases hk : k ≤ brs A
  · obtain ⟨m', h1, h2, h3, h4⟩ := sk_some A k hk
    rw [h] at h1; cases h1
    exact ⟨hk, h2, h3, h4⟩
  · rw [sk_none A k (by omega)] at h; cases h
theorem sk_ok {A : List Int} {k : Nat} (h : k ≤ brs A) : ∃ m, sk A k = some m := by
  obtain ⟨m, h1, _⟩ := sk_some A k h
  exact ⟨m, h1⟩
theorem sk_zero (A : List Int) : sk A 0 = some 0 := by cases A <;> rfl
theorem sk_lt {A : List Int} {i j m x : Nat} (h1 : sk A i = some m) (h2 : sk A j = some x) (hij : i < j) : m < x := by
  obtain ⟨_, _, g1, _⟩ := sk_get h1
  obtain ⟨_, _, g2, g3⟩ := sk_get h2
  rcases Nat.lt_or_ge m x with h | h
  · exact h
  · have := nb_mono A x m h; omega
theorem sk_end {A : List Int} {k m : Nat} (h : sk A (k + 1) = some m) : 0 < m ∧ isb A (m - 1) = true := by
  obtain ⟨_, _, h3, h4⟩ := sk_get h
  cases m with
  | zero => rw [nb_zero] at h3; omega
  | succ m =>
    refine ⟨by omega, ?_⟩
    have := h4 m (by omega)
    rw [nb_succ] at h3
    rw [Nat.add_sub_cancel]
    cases hb : isb A m with
    | true => rfl
    | false => rw [hb] at h3; simp at h3; omega
def lnC (A : List Int) (f x : Nat) : Ln := if A[x - 1]? = some 13 then ⟨f, x - 1, x, 3⟩ else if f + 1 < x ∧ A[x - 2]? = some 13 then ⟨f, x - 2, x, 2⟩ else ⟨f, x - 1, x, 1⟩
def lnAt (A : List Int) (i : Nat) : Option Ln := match sk A i with
  | none => none
  | some f => some (match sk A (i + 1) with | some x => lnC A f x | none => ⟨f, A.length, A.length, 0⟩)
def lnI (A : List Int) (i : Int) : Option Ln := if i < 0 then none else lnAt A i.toNat
def ended (A : List Int) : Bool := decide (0 < A.length) && sk A (brs A) == some A.length
def lnN (A : List Int) : Nat := brs A + (if ended A then 0 else 1)
theorem lnAt_some {A : List Int} {i : Nat} {l : Ln} (h : lnAt A i = some l) : i ≤ brs A ∧ sk A i = some l.from_ := by
  unfold lnAt at h
  split at h
  · cases h
  · rename_i f hf
    cases h
    refine ⟨(sk_get hf).1, ?_⟩
    split
    · unfold lnC; split
      · exact hf
      · split <;> exact hf
    · exact hf
theorem lnAt_ok {A : List Int} {i : Nat} (h : i ≤ brs A) : ∃ l, lnAt A i = some l := by
  obtain ⟨m, hm⟩ := sk_ok h
  unfold lnAt; rw [hm]; exact ⟨_, rfl⟩
structure LnOk (A : List Int) (i : Nat) (l : Ln) : Prop where
  ft : l.from_ ≤ l.to_
  tn : l.to_ ≤ l.next
  nl : l.next ≤ A.length
  nbf : ∀ k, l.from_ ≤ k → k < l.next → nb A k = i
  nbF : nb A l.from_ = i
  tail : sk A (i + 1) = none → l.kind = 0 ∧ l.to_ = A.length ∧ l.next = A.length
  brk : ∀ x, sk A (i + 1) = some x → l.next = x ∧ l.to_ < l.next ∧ l.kind ≠ 0 ∧ nb A x = i + 1
  plain : ∀ j a, l.from_ ≤ j → j < l.to_ → A[j]? = some a → a ≠ 10 ∧ a ≠ 13
  atTo : ∀ a, l.to_ < l.next → A[l.to_]? = some a → a = 10 ∨ a = 13
  noLF : ∀ j, l.from_ ≤ j → j < l.to_ → A[j]? ≠ some 13
theorem ln_ok {A : List Int} {i : Nat} {l : Ln} (h : lnAt A i = some l) : LnOk A i l := by
  obtain ⟨hi, hf⟩ := lnAt_some h
  obtain ⟨_, hfl, hnf, hfmin⟩ := sk_get hf
  unfold lnAt at h
  rw [hf] at h
  simp only [Option.some.injEq] at h
  cases hx : sk A (i + 1) with
  | none =>
    rw [hx] at h
    simp only at h
    have hbr : brs A ≤ i := by
      rcases Nat.lt_or_ge i (brs A) with h1 | h1
      · obtain ⟨m, hm⟩ := sk_ok (A := A) (k := i + 1) (by omega)
        rw [hm] at hx; cases hx
      · exact h1
    have hall : ∀ k, l.from_ ≤ k → nb A k = i := fun k hk => by
      have h1 := nb_mono A _ _ hk
      have h2 := nb_mono A k (max k A.length) (by omega)
      rw [nb_ge A (max k A.length) (by omega)] at h2
      omega
    have pl : ∀ j a, l.from_ ≤ j → j < A.length → A[j]? = some a → a ≠ 10 ∧ a ≠ 13 := by
      have no : ∀ j, l.from_ ≤ j → isb A j = false := fun j hj => by
        have h1 := hall j hj
        have h2 := hall (j + 1) (by omega)
        rw [nb_succ, h1] at h2
        cases hb : isb A j with
        | false => rfl
        | true => rw [hb] at h2; simp at h2
      intro j a hj hjl ha
      have h1 := no j hj
      constructor
      · intro e
        have := (isb_iff ha).2 (.inl e)
        rw [h1] at this; cases this
      · intro e
        have h2 := no (j + 1) (by omega)
        by_cases h10 : A[j + 1]? = some 10
        · have := (isb_iff h10).2 (.inl rfl)
          rw [h2] at this; cases this
        · have := (isb_iff ha).2 (.inr ⟨e, h10⟩)
          rw [h1] at this; cases this
    have el : l = ⟨l.from_, A.length, A.length, 0⟩ := h.symm
    have e1 : l.to_ = A.length := by rw [el]
    have e2 : l.next = A.length := by rw [el]
    have e3 : l.kind = 0 := by rw [el]
    exact ⟨by omega, by omega, by omega, fun k h1 _ => hall k h1, hnf, fun _ => ⟨e3, e1, e2⟩, (fun x hx' => by rw [hx] at hx'; cases hx'), fun j a h1 h2 => pl j a h1 (by omega), fun a h1 => by omega, fun j h1 h2 h3 => (pl j 13 h1 (by omega) h3).2 rfl⟩
  | some x =>
    rw [hx] at h
    simp only at h
    obtain ⟨hib, hxl, hnx, hxmin⟩ := sk_get hx
    obtain ⟨hx0, hxe⟩ := sk_end hx
    have hfx := sk_lt hf hx (by omega)
    have hmid : ∀ k, l.from_ ≤ k → k < x → nb A k = i := fun k h1 h2 => by
      have := nb_mono A _ _ h1
      have := hxmin k h2
      omega
    have no : ∀ j, l.from_ ≤ j → j + 1 < x → isb A j = false := fun j hj hjx => by
      have h1 := hmid j hj (by omega)
      have h2 := hmid (j + 1) (by omega) hjx
      rw [nb_succ, h1] at h2
      cases hb : isb A j with
      | false => rfl
      | true => rw [hb] at h2; simp at h2
    obtain ⟨a, ha⟩ : ∃ a, A[x - 1]? = some a := ⟨_, List.getElem?_eq_getElem (by omega)⟩
    have hend := (isb_iff ha).1 hxe
    have nx : x - 1 + 1 = x := by omega
    have fin : ∀ t, l.to_ = t → l.next = x → l.from_ ≤ t → t < x → l.kind ≠ 0 → (∀ a, A[t]? = some a → a = 10 ∨ a = 13) → (t + 1 = x ∨ (t + 2 = x ∧ A[t]? = some 13)) → (t + 1 = x → ∀ j, j + 1 = t → l.from_ ≤ j → A[t]? = some 10 → A[j]? ≠ some 13) → LnOk A i l := by
      intro t e1 e2 h1 h2 h3 h4 h5 h6
      have pl : ∀ j a, l.from_ ≤ j → j < t → A[j]? = some a → a ≠ 10 ∧ a ≠ 13 := by
        intro j a hj hjt ha
        have g1 := no j hj (by omega)
        refine ⟨fun e => ?_, fun e => ?_⟩
        · have := (isb_iff ha).2 (.inl e)
          rw [g1] at this; cases this
        · by_cases h10 : A[j + 1]? = some 10
          · by_cases hj2 : j + 2 < x
            · have g2 := no (j + 1) (by omega) (by omega)
              have := (isb_iff h10).2 (.inl rfl)
              rw [g2] at this; cases this
            · rcases h5 with h5 | h5
              · have ht : t = j + 1 := by omega
                subst ht
                exact h6 h5 j rfl hj h10 (by rw [ha, e])
              · omega
          · have := (isb_iff ha).2 (.inr ⟨e, h10⟩)
            rw [g1] at this; cases this
      exact ⟨by omega, by omega, by omega, fun k g1 g2 => hmid k g1 (by omega), hnf, (fun hn => by rw [hx] at hn; cases hn), (fun y hy => by rw [hx] at hy; cases hy; exact ⟨e2, by omega, h3, hnx⟩), fun j a g1 g2 => pl j a g1 (by omega), fun a _ g => h4 a (by rw [← e1]; exact g), fun j g1 g2 g3 => (pl j 13 g1 (by omega) g3).2 rfl⟩
    unfold lnC at h
    split at h
    · rename_i h13
      have el : l = ⟨l.from_, x - 1, x, 3⟩ := h.symm
      refine fin (x - 1) (by rw [el]) (by rw [el]) (by omega) (by omega) (by rw [el]; exact (by decide : (3 : Nat) ≠ 0)) (fun a h => by rw [h13] at h; cases h; exact .inr rfl) (.inl (by omega)) (fun _ j _ _ h => by rw [h13] at h; cases h)
    · rename_i h13
      have ha10 : a = 10 := by
        rcases hend with h | h
        · exact h
        · exact absurd (by rw [ha, h.1]) h13
      split at h
      · rename_i h2
        have el : l = ⟨l.from_, x - 2, x, 2⟩ := h.symm
        exact fin (x - 2) (by rw [el]) (by rw [el]) (by omega) (by omega) (by rw [el]; exact (by decide : (2 : Nat) ≠ 0)) (fun a h => by rw [h2.2] at h; cases h; exact .inr rfl) (.inr ⟨by omega, h2.2⟩) (fun h => by omega)
      · rename_i h2
        have el : l = ⟨l.from_, x - 1, x, 1⟩ := h.symm
        refine fin (x - 1) (by rw [el]) (by rw [el]) (by omega) (by omega) (by rw [el]; exact (by decide : (1 : Nat) ≠ 0)) (fun b h => by rw [ha] at h; cases h; exact .inl ha10) (.inl (by omega)) (fun _ j hj hfj _ h => h2 ⟨by omega, ?_⟩)
        rw [← h]; congr 1; omega
theorem ln_of (A : List Int) {at_ : Nat} (h : at_ ≤ A.length) : ∃ l, lnAt A (nb A at_) = some l ∧ l.from_ ≤ at_ ∧ (at_ < l.next ∨ (sk A (nb A at_ + 1) = none ∧ l.next = A.length)) := by
  have hle : nb A at_ ≤ brs A := by rw [brs_nb]; exact nb_mono A _ _ h
  obtain ⟨l, hl⟩ := lnAt_ok hle
  obtain ⟨_, hf⟩ := lnAt_some hl
  obtain ⟨_, _, g1, g2⟩ := sk_get hf
  have ok := ln_ok hl
  refine ⟨l, hl, ?_, ?_⟩
  · rcases Nat.lt_or_ge at_ l.from_ with h1 | h1
    · have := g2 at_ h1; omega
    · exact h1
  · cases hx : sk A (nb A at_ + 1) with
    | none => exact .inr ⟨rfl, (ok.tail hx).2.2⟩
    | some x =>
      obtain ⟨e1, _, _, e2⟩ := ok.brk x hx
      left
      rcases Nat.lt_or_ge at_ l.next with h1 | h1
      · exact h1
      · have := nb_mono A l.next at_ h1
        rw [e1, e2] at this; omega
end Lns
end Go.Proofs.YtabcpghhfeplaaaGreat
set_option linter.unusedSimpArgs false
set_option linter.unusedVariables false
set_option maxRecDepth 100000
namespace Go.Proofs.YtabcpghhfeplaaaGreat
open Trx Gly Clu Lns
namespace Obx
structure Cel where
  from_ : Nat
  to_ : Nat
  kind : Nat
  alone : Bool
  atom : Int
def Cel.is (c : Cel) (a : Int) : Bool := c.alone && c.atom == a
noncomputable def celAt (A : List Int) (off i j : Nat) : Cel := ⟨off + i, off + j, wrd (A[i]?.getD 0), decide (j = i + 1), A[i]?.getD 0⟩
noncomputable def celsL (A : List Int) (off : Nat) : List Nat → List Cel
  | i :: j :: r => celAt A off i j :: celsL A off (j :: r)
  | _ => []
noncomputable def cels (A : List Int) (off : Nat) : List Cel := celsL A off (cuts A)
theorem celsL_len (A : List Int) (off : Nat) : ∀ L : List Nat, (celsL A off L).length = L.length - 1
  | [] => rfl
  | [_] => rfl
  | i :: j :: r => by rw [celsL, List.length_cons, celsL_len A off (j :: r)]; simp
theorem celsL_get (A : List Int) (off : Nat) : ∀ (L : List Nat) (m i j : Nat), L[m]? = some i → L[m + 1]? = some j → (celsL A off L)[m]? = some (celAt A off i j)
  | [], _, _, _, h, _ => by simp at h
  | [_], m, _, _, _, h => by simp at h
  | i :: j :: r, 0, _, _, h, h' => by
    simp at h h'
    subst h h'
    rfl
  | i :: j :: r, m + 1, x, y, h, h' => by
    rw [celsL, List.getElem?_cons_succ]
    exact celsL_get A off (j :: r) m x y (by simpa using h) (by simpa using h')
theorem celsL_of (A : List Int) (off : Nat) : ∀ (L : List Nat) (m : Nat) (c : Cel), (celsL A off L)[m]? = some c → ∃ i j, L[m]? = some i ∧ L[m + 1]? = some j ∧ c = celAt A off i j := by
  intro L m c h
  have hl := (List.getElem?_eq_some_iff.1 h).1
  rw [celsL_len] at hl
  have h1 : L[m]? = some L[m] := List.getElem?_eq_getElem (by omega)
  have h2 : L[m + 1]? = some L[m + 1] := List.getElem?_eq_getElem (by omega)
  have := celsL_get A off L m _ _ h1 h2
  rw [h] at this
  exact ⟨_, _, h1, h2, Option.some.inj this⟩
theorem cuts_head (A : List Int) : (cuts A)[0]? = some 0 := by
  unfold cuts cutsTo
  rw [List.range_succ_eq_map, List.filter_cons_of_pos (bk_zero A)]
  rfl
theorem cuts_inj {A : List Int} {m n i j : Nat} (hmn : m < n) (h : (cuts A)[m]? = some i) (h' : (cuts A)[n]? = some j) : i < j := by
  have hp := cuts_lt (A := A)
  obtain ⟨h1, rfl⟩ := List.getElem?_eq_some_iff.1 h
  obtain ⟨h2, rfl⟩ := List.getElem?_eq_some_iff.1 h'
  exact List.pairwise_iff_getElem.1 hp m n h1 h2 hmn
theorem cuts_bk {A : List Int} {m i : Nat} (h : (cuts A)[m]? = some i) : bk A i = true := mem_cuts.1 (List.mem_of_getElem? h)
theorem cuts_pos (A : List Int) : 0 < (cuts A).length := by
  have := (List.getElem?_eq_some_iff.1 (cuts_head A)).1
  exact this
structure CelOk (A : List Int) (off m : Nat) (c : Cel) : Prop where
  ex : ∃ i j, (cuts A)[m]? = some i ∧ (cuts A)[m + 1]? = some j ∧ i < j ∧ j ≤ A.length ∧ c.from_ = off + i ∧ c.to_ = off + j ∧ bk A i = true ∧ bk A j = true ∧ A[i]? = some c.atom ∧ c.kind = wrd c.atom ∧ (c.alone = true ↔ j = i + 1)
theorem cels_ok {A : List Int} {off m : Nat} {c : Cel} (h : (cels A off)[m]? = some c) : CelOk A off m c := by
  obtain ⟨i, j, h1, h2, rfl⟩ := celsL_of A off _ m c h
  have hij := cuts_inj (by omega) h1 h2
  have hj := bk_le (cuts_bk h2)
  have ha : A[i]? = some A[i] := List.getElem?_eq_getElem (by omega)
  refine ⟨i, j, h1, h2, hij, hj, rfl, rfl, cuts_bk h1, cuts_bk h2, ?_, rfl, by simp [celAt]⟩
  simp [celAt, ha]
theorem cels_len (A : List Int) (off : Nat) : (cels A off).length = (cuts A).length - 1 := celsL_len A off _
theorem cels_le (A : List Int) (off : Nat) : (cels A off).length ≤ A.length := by
  rw [cels_len]
  have := cutsTo_len A A.length
  unfold cuts; omega
noncomputable def firstI (C : List Cel) (at_ : Int) : Nat := C.findIdx fun c => decide (at_ < (c.to_ : Int))
theorem firstI_le (C : List Cel) (at_ : Int) : firstI C at_ ≤ C.length := List.findIdx_le_length
theorem firstI_eq {C : List Cel} {at_ : Int} {i : Nat} (hi : i ≤ C.length) (h1 : ∀ (j : Nat) (c : Cel), j < i → C[j]? = some c → (c.to_ : Int) ≤ at_) (h2 : ∀ c, C[i]? = some c → at_ < (c.to_ : Int)) : firstI C at_ = i := by
  unfold firstI
  by_cases he : i = C.length
  · subst he
    rw [List.findIdx_eq_length]
    intro c hc
    obtain ⟨j, hj⟩ := List.getElem?_of_mem hc
    have := h1 j c (List.getElem?_eq_some_iff.1 hj).1 hj
    rw [decide_eq_false_iff_not]; omega
  · have hlt : i < C.length := by omega
    rw [List.findIdx_eq hlt]
    refine ⟨decide_eq_true (h2 _ (List.getElem?_eq_getElem hlt)), fun j hj => ?_⟩
    have := h1 j _ hj (List.getElem?_eq_getElem (by omega))
    rw [decide_eq_false_iff_not]; omega
def nthL (C : List Cel) (want other : Int) : List Nat → Nat → Nat → Option Nat
  | [], _, _ => none
  | i :: r, k, d => match C[i]? with
    | none => none
    | some c => if c.is other then nthL C want other r k (d + 1) else if c.is want = false then nthL C want other r k d else if 0 < d then nthL C want other r k (d - 1) else if k = 1 then some i else nthL C want other r (k - 1) d
def walkI (up : Bool) (n : Nat) (i : Int) : List Nat := if up then List.range' i.toNat (n - i.toNat) else (List.range (i + 1).toNat).reverse
theorem walkI_up {n i : Nat} (h : i < n) : walkI true n (i : Int) = i :: walkI true n ((i : Int) + 1) := by
  unfold walkI
  rw [if_pos rfl, if_pos rfl, Int.toNat_natCast]
  have e : n - i = (n - ((i : Int) + 1).toNat) + 1 := by omega
  rw [e, List.range'_succ]
  have e2 : ((i : Int) + 1).toNat = i + 1 := by omega
  rw [e2]
theorem walkI_down {n i : Nat} : walkI false n (i : Int) = i :: walkI false n ((i : Int) - 1) := by
  unfold walkI
  rw [if_neg (by decide), if_neg (by decide)]
  have e : ((i : Int) + 1).toNat = i + 1 := by omega
  have e2 : ((i : Int) - 1 + 1).toNat = i := by omega
  rw [e, e2, List.range_succ, List.reverse_append]
  rfl
theorem walkI_end (up : Bool) {n : Nat} {i : Int} (h : ¬ (0 ≤ i ∧ i < n)) (h1 : -1 ≤ i) (h2 : up = true → 0 ≤ i) (h3 : up = false → i < n) : walkI up n i = [] := by
  unfold walkI
  cases up with
  | true =>
    rw [if_pos rfl]
    have := h2 rfl
    have e : n - i.toNat = 0 := by omega
    rw [e]; rfl
  | false =>
    rw [if_neg (by decide)]
    have := h3 rfl
    have e : (i + 1).toNat = 0 := by omega
    rw [e]; rfl
theorem nthL_mem {C : List Cel} {want other : Int} : ∀ {L : List Nat} {k d j : Nat}, nthL C want other L k d = some j → j ∈ L ∧ ∃ c, C[j]? = some c ∧ c.is want = true
  | [], _, _, _, h => by simp [nthL] at h
  | i :: r, k, d, j, h => by
    rw [nthL] at h
    cases hc : C[i]? with
    | none => rw [hc] at h; simp at h
    | some c =>
      rw [hc] at h
      simp only at h
      split at h
      · have := nthL_mem h; exact ⟨List.mem_cons_of_mem _ this.1, this.2⟩
      · split at h
        · have := nthL_mem h; exact ⟨List.mem_cons_of_mem _ this.1, this.2⟩
        · rename_i hw
          split at h
          · have := nthL_mem h; exact ⟨List.mem_cons_of_mem _ this.1, this.2⟩
          · split at h
            · cases h; exact ⟨List.mem_cons_self, c, hc, by simpa using hw⟩
            · have := nthL_mem h; exact ⟨List.mem_cons_of_mem _ this.1, this.2⟩
def fellow (a : Int) : Option Int := if a = 40 then some 41 else if a = 91 then some 93 else if a = 123 then some 125 else if a = 60 then some 62 else none
def times (count : Int) : Nat := (max count 1).toNat
def checked (n : Nat) (at_ kind count lo hi : Int) : Int := if kind < lo ∨ hi < kind ∨ count < 0 then 1 else if at_ < 0 ∨ (n : Int) < at_ then 2 else 0
noncomputable def hollow (A : List Int) (one two : Cel) : Int × Int × Int :=
  let a := (lnAt A (nb A one.from_)).getD ⟨0, 0, 0, 0⟩
  let b := (lnAt A (nb A two.from_)).getD ⟨0, 0, 0, 0⟩
  if a.to_ ≠ one.to_ ∨ a = b then (one.to_, two.from_, 0)
  else if (cels ((A.drop b.from_).take (two.from_ - b.from_)) b.from_).any (fun c => c.kind != 0) then (one.to_, two.from_, 0)
  else if a.next = b.from_ then (one.to_, one.to_, 0) else (a.next, b.from_, 1)
def pick (C : List Cel) : Option Nat → Option Nat → Option (Cel × Cel)
  | some one, some two => match C[one]?, C[two]? with
    | some c, some d => some (c, d)
    | _, _ => none
  | _, _ => none
noncomputable def bracketsP (C : List Cel) (at_ : Int) (arg shut : Int) (k : Nat) : Option (Cel × Cel) :=
  let i := firstI C at_
  if i = C.length ∨ C.length < k then none else
    let hit := (C[i]?.map fun c => c.is arg).getD false
    pick C (nthL C arg shut (walkI false C.length (if hit then (i : Int) else (i : Int) - 1)) k 0) (nthL C shut arg (walkI true C.length (if hit then (i : Int) + 1 else (i : Int))) k 0)
noncomputable def blocksP (A : List Int) (at_ kind count arg : Int) : (Int × Int × Int) × Int :=
  if checked A.length at_ kind count 67 68 = 1 then ((0, 0, 0), 1) else
  match fellow arg with
  | none => ((0, 0, 0), 1)
  | some shut =>
    if checked A.length at_ kind count 67 68 ≠ 0 then ((0, 0, 0), checked A.length at_ kind count 67 68) else
    match bracketsP (cels A 0) at_ arg shut (times count) with
    | none => ((0, 0, 0), 90)
    | some (c, d) => if kind = 67 then (hollow A c d, 0) else ((c.from_, d.to_, 0), 0)
end Obx
end Go.Proofs.YtabcpghhfeplaaaGreat
set_option linter.unusedSimpArgs false
set_option linter.unusedVariables false
set_option maxRecDepth 100000
set_option linter.unusedVariables false
namespace Go.Proofs.YtabcpghhfeplaaaGreat
open Go Go.Vx
noncomputable def F68 (a0 : Sl) (K : Sl → World → Prop) : World → Prop :=
 newO (.cells #[(.int .i64 (0 : Int))] 3) fun b1 =>
 newO (.cells #[(.slice none 0 0)] 26) fun b2 =>
 stC (at0 b2) (.slice (some (at0 b1)) 1 1) <|
 callT Tryz.prog 93 #[(.slice a0.a a0.len a0.cap), (.int .i64 (0 : Int)), (.func (Fn.func 94) #[] #[(.pointer (some (at0 b2)))])] (.tup []) fun (x3 : (Unit)) =>
 ld (.sl) (at0 b2) fun (x4 : Sl) =>
 K x4
noncomputable def h68 : Hint := (.seq none (.region [] (.ops 1 .done)) (.seq none (.region [] (.ops 3 .done)) (.seq none (.region [] (.ops 3 .done)) (.seq none (.region [] (.ops 2 .done)) .leaf))))
theorem F68_tie (a0 : Sl) (K : Sl → World → Prop) : vcgF tab Tryz.prog Tryz.f68 h68 [(.slice a0.a a0.len a0.cap)] (.one (.one .sl)) K = F68 a0 K := by kernel_rfl
theorem F68_calls {a0 : Sl} {K : Sl → World → Prop} {w : World} (h : F68 a0 K w) : callT Tryz.prog 68 #[(.slice a0.a a0.len a0.cap)] (.one (.one .sl)) K w :=
  vcgF_sound tabOk Tryz.func68 h68 [(.slice a0.a a0.len a0.cap)] (.one (.one .sl)) K w (Eq.mpr (congrFun (F68_tie a0 K) w) h)
noncomputable def F69 (a0 : Int) (K : Int → World → Prop) : World → Prop :=
 callT Tryz.prog 95 #[(.int .i64 a0)] (.one (.one .bool)) fun (x1 : Bool) =>
 sif (!x1) (
 K (1 : Int)) (
 callT Tryz.prog 96 #[(.string bs_94cae01e), (.int .i64 a0)] (.one (.one (.int .i64))) fun (x2 : Int) =>
 sif (x2 == (2 : Int)) (
 K (2 : Int)) (
 sif (x2 == (1 : Int)) (
 K (0 : Int)) (
 K (1 : Int))))
noncomputable def h69 : Hint := (.seq none (.region [] (.ops 1 .done)) (.seq none (.seq none (.region [] (.ops 3 .done)) (.cond none (.seq none (.region [] (.ops 1 .done)) .leaf) .leaf)) (.seq none (.seq none (.region [] (.ops 2 .done)) (.block (.seq none (.region [] (.ops 2 .done)) (.cond none (.seq none (.region [] (.ops 1 .done)) .leaf) (.seq none (.region [] (.ops 2 .done)) (.cond none (.seq none (.region [] (.ops 1 .done)) .leaf) .leaf)))))) (.seq none (.region [] (.ops 1 .done)) .leaf))))
theorem F69_tie (a0 : Int) (K : Int → World → Prop) : vcgF tab Tryz.prog Tryz.f69 h69 [(.int .i64 a0)] (.one (.one (.int .i64))) K = F69 a0 K := by kernel_rfl
theorem F69_calls {a0 : Int} {K : Int → World → Prop} {w : World} (h : F69 a0 K w) : callT Tryz.prog 69 #[(.int .i64 a0)] (.one (.one (.int .i64))) K w :=
  vcgF_sound tabOk Tryz.func69 h69 [(.int .i64 a0)] (.one (.one (.int .i64))) K w (Eq.mpr (congrFun (F69_tie a0 K) w) h)
noncomputable def F93 (a0 : Sl) (a1 : Int) (a2 : Value) (K : Unit → World → Prop) : World → Prop :=
 sloop (S := Int × Unit) (fun (s1 : Int × Unit) again2 =>
 sif (decide (s1.1 < ((a0.len : Nat) : Int))) (
 ix a0.a a0.len s1.1 fun p3 =>
 ld (.int .i64) (p3.add (scaled (Int.toNat s1.1) 1)) fun (x4 : Int) =>
 callT Tryz.prog 121 #[(.int .i64 x4)] (.one (.agg c169)) fun (x5 : (Int × Int × Int × Int × Unit)) =>
 newO (.cells #[(.int .i64 (0 : Int)), (.int .i64 (0 : Int)), (.int .i64 (0 : Int)), (.int .i64 (0 : Int))] 169) fun b6 =>
 aggSt (at0 b6) (.agg (Cells.vals c169 x5).toArray) 4 <|
 join (S := Unit) (fun J7 =>
 sloop (S := Int × Unit) (fun (s9 : Int × Unit) again10 =>
 sif (decide (s9.1 < ((a0.len : Nat) : Int))) (
 ix a0.a a0.len s9.1 fun p11 =>
 ld (.int .i64) (p11.add (scaled (Int.toNat s9.1) 1)) fun (x12 : Int) =>
 callT Tryz.prog 122 #[(.pointer (some (at0 b6))), (.int .i64 x12)] (.one (.one .bool)) fun (x13 : Bool) =>
 sif x13 (
 again10 ((IntKind.wrap .i64 (s9.1 + (1 : Int))), ())) (
 callX Tryz.prog (do let d ← Deferred.ofValue a2 #[(.int .i64 s9.1)]; invoke d.target d.args : Sem Next) (.one (.one .bool)) fun (x14 : Bool) =>
 sif (!x14) (
 K ()) (
 again2 (s9.1, ())))) (
 J7 ())) ((IntKind.wrap .i64 (s1.1 + (1 : Int))), ())) fun (s8 : Unit) =>
 callX Tryz.prog (do let d ← Deferred.ofValue a2 #[(.int .i64 ((a0.len : Nat) : Int))]; invoke d.target d.args : Sem Next) (.one (.one .bool)) fun (x15 : Bool) =>
 K ()) (
 K ())) (a1, ())
noncomputable def h93 : Hint := (.scope (.seq none (.region [] (.ops 2 .done)) (.seq none .leaf (.block (.loop 2199023254976 [(6, (.one (.int .i64)))] (.seq none (.seq none (.region [] (.ops 4 .done)) (.cond none .leaf .leaf)) (.block (.seq none (.region [] (.ops 7 .done)) (.seq (some (137438429504, [])) (.seq none (.region [] (.ops 3 .done)) (.block (.loop 137436856640 [(8, (.one (.int .i64)))] (.seq none (.seq none (.region [] (.ops 4 .done)) (.cond none .leaf .leaf)) (.seq none (.block (.seq none (.seq none (.region [] (.ops 5 .done)) (.cond none .leaf .leaf)) (.seq none (.seq none (.region [] (.ops 4 .done)) (.cond none .leaf .leaf)) (.seq none (.region [] (.ops 2 .done)) .leaf)))) (.region [] (.ops 3 .done))))))) (.seq none (.region [] (.ops 4 .done)) .leaf))))))))))
theorem F93_tie (a0 : Sl) (a1 : Int) (a2 : Value) (K : Unit → World → Prop) : vcgF tab Tryz.prog Tryz.f93 h93 [(.slice a0.a a0.len a0.cap), (.int .i64 a1), a2] (.tup []) K = F93 a0 a1 a2 K := by kernel_rfl
theorem F93_calls {a0 : Sl} {a1 : Int} {a2 : Value} {K : Unit → World → Prop} {w : World} (h : F93 a0 a1 a2 K w) : callT Tryz.prog 93 #[(.slice a0.a a0.len a0.cap), (.int .i64 a1), a2] (.tup []) K w :=
  vcgF_sound tabOk Tryz.func93 h93 [(.slice a0.a a0.len a0.cap), (.int .i64 a1), a2] (.tup []) K w (Eq.mpr (congrFun (F93_tie a0 a1 a2 K) w) h)
noncomputable def F94 (a0 : Int) (v0 : Addr) (K : Bool → World → Prop) : World → Prop :=
 ld (.sl) v0 fun (x1 : Sl) =>
 newO (.cells #[(.int .i64 a0)] 3) fun b2 =>
 rawT Tryz.prog (.one (.one .sl)) (Builtin.append_ #[26, 26] 26 #[(.slice x1.a x1.len x1.cap), (.slice (some (at0 b2)) 1 1)]) fun (x3 : Sl) =>
 stC v0 (.slice x3.a x3.len x3.cap) <|
 K true
noncomputable def h94 : Hint := (.seq none (.region [] (.ops 1 .done)) (.seq none (.region [] (.ops 5 .done)) (.seq none (.region [] (.ops 1 .done)) .leaf)))
theorem F94_tie (a0 : Int) (v0 : Addr) (K : Bool → World → Prop) : vcgF tab Tryz.prog Tryz.f94 h94 [(.int .i64 a0), (.pointer (some v0))] (.one (.one .bool)) K = F94 a0 v0 K := by kernel_rfl
theorem F94_calls {a0 : Int} {v0 : Addr} {K : Bool → World → Prop} {w : World} (h : F94 a0 v0 K w) : callT Tryz.prog 94 #[(.int .i64 a0), (.pointer (some v0))] (.one (.one .bool)) K w :=
  vcgF_sound tabOk Tryz.func94 h94 [(.int .i64 a0), (.pointer (some v0))] (.one (.one .bool)) K w (Eq.mpr (congrFun (F94_tie a0 v0 K) w) h)
noncomputable def F95 (a0 : Int) (K : Bool → World → Prop) : World → Prop :=
 sif (decide (a0 ≥ (0 : Int))) (
 sif (decide (a0 < (55296 : Int))) (
 K true) (
 sif (decide (a0 > (57343 : Int))) (
 K (decide (a0 ≤ (1114111 : Int)))) (
 K false))) (
 sif (decide (a0 > (57343 : Int))) (
 K (decide (a0 ≤ (1114111 : Int)))) (
 K false))
noncomputable def h95 : Hint := (.seq none (.region [] (.ops 1 .done)) (.seq none (.region [] (.ops 3 (.split 5 (.ops 4 (.split 9 (.skips 6 (.ops 2 .done)) (.ops 3 (.split 12 (.ops 5 .done) (.skips 2 (.ops 3 .done)))))) (.skips 2 (.ops 5 (.split 12 (.ops 5 .done) (.skips 2 (.ops 3 .done)))))))) .leaf))
theorem F95_tie (a0 : Int) (K : Bool → World → Prop) : vcgF tab Tryz.prog Tryz.f95 h95 [(.int .i64 a0)] (.one (.one .bool)) K = F95 a0 K := by kernel_rfl
theorem F95_calls {a0 : Int} {K : Bool → World → Prop} {w : World} (h : F95 a0 K w) : callT Tryz.prog 95 #[(.int .i64 a0)] (.one (.one .bool)) K w :=
  vcgF_sound tabOk Tryz.func95 h95 [(.int .i64 a0)] (.one (.one .bool)) K w (Eq.mpr (congrFun (F95_tie a0 K) w) h)
noncomputable def F96 (a0 : ByteArray) (a1 : Int) (K : Int → World → Prop) : World → Prop :=
 chk ((11 : Int) ≠ 0) <|
 join (S := Unit) (fun J1 =>
 sloop (S := Int × Int × Unit) (fun (s3 : Int × Int × Unit) again4 =>
 sif (decide (s3.1 < s3.2.1)) (
 chk ((2 : Int) ≠ 0) <|
 chk (0 ≤ (IntKind.wrap .i64 ((IntKind.wrap .i64 (Int.tdiv (IntKind.wrap .i64 (s3.1 + s3.2.1)) (2 : Int))) * (11 : Int))) ∧ (IntKind.wrap .i64 ((IntKind.wrap .i64 (Int.tdiv (IntKind.wrap .i64 (s3.1 + s3.2.1)) (2 : Int))) * (11 : Int))) ≤ (IntKind.wrap .i64 ((IntKind.wrap .i64 ((IntKind.wrap .i64 (Int.tdiv (IntKind.wrap .i64 (s3.1 + s3.2.1)) (2 : Int))) + (1 : Int))) * (11 : Int))) ∧ (IntKind.wrap .i64 ((IntKind.wrap .i64 ((IntKind.wrap .i64 (Int.tdiv (IntKind.wrap .i64 (s3.1 + s3.2.1)) (2 : Int))) + (1 : Int))) * (11 : Int))) ≤ ((a0.size : Nat) : Int)) <|
 chk (0 ≤ (0 : Int) ∧ (0 : Int) ≤ (5 : Int) ∧ (5 : Int) ≤ (((a0.extract (Int.toNat (IntKind.wrap .i64 ((IntKind.wrap .i64 (Int.tdiv (IntKind.wrap .i64 (s3.1 + s3.2.1)) (2 : Int))) * (11 : Int)))) (Int.toNat (IntKind.wrap .i64 ((IntKind.wrap .i64 ((IntKind.wrap .i64 (Int.tdiv (IntKind.wrap .i64 (s3.1 + s3.2.1)) (2 : Int))) + (1 : Int))) * (11 : Int))))).size : Nat) : Int)) <|
 callT Tryz.prog 123 #[(.string ((a0.extract (Int.toNat (IntKind.wrap .i64 ((IntKind.wrap .i64 (Int.tdiv (IntKind.wrap .i64 (s3.1 + s3.2.1)) (2 : Int))) * (11 : Int)))) (Int.toNat (IntKind.wrap .i64 ((IntKind.wrap .i64 ((IntKind.wrap .i64 (Int.tdiv (IntKind.wrap .i64 (s3.1 + s3.2.1)) (2 : Int))) + (1 : Int))) * (11 : Int))))).extract (Int.toNat 0) (Int.toNat (5 : Int))))] (.one (.one (.int .i64))) fun (x5 : Int) =>
 sif (decide (a1 < x5)) (
 again4 (s3.1, (IntKind.wrap .i64 (Int.tdiv (IntKind.wrap .i64 (s3.1 + s3.2.1)) (2 : Int))), ())) (
 chk (0 ≤ (5 : Int) ∧ (5 : Int) ≤ (10 : Int) ∧ (10 : Int) ≤ (((a0.extract (Int.toNat (IntKind.wrap .i64 ((IntKind.wrap .i64 (Int.tdiv (IntKind.wrap .i64 (s3.1 + s3.2.1)) (2 : Int))) * (11 : Int)))) (Int.toNat (IntKind.wrap .i64 ((IntKind.wrap .i64 ((IntKind.wrap .i64 (Int.tdiv (IntKind.wrap .i64 (s3.1 + s3.2.1)) (2 : Int))) + (1 : Int))) * (11 : Int))))).size : Nat) : Int)) <|
 callT Tryz.prog 123 #[(.string ((a0.extract (Int.toNat (IntKind.wrap .i64 ((IntKind.wrap .i64 (Int.tdiv (IntKind.wrap .i64 (s3.1 + s3.2.1)) (2 : Int))) * (11 : Int)))) (Int.toNat (IntKind.wrap .i64 ((IntKind.wrap .i64 ((IntKind.wrap .i64 (Int.tdiv (IntKind.wrap .i64 (s3.1 + s3.2.1)) (2 : Int))) + (1 : Int))) * (11 : Int))))).extract (Int.toNat (5 : Int)) (Int.toNat (10 : Int))))] (.one (.one (.int .i64))) fun (x6 : Int) =>
 sif (decide (a1 > x6)) (
 again4 ((IntKind.wrap .i64 ((IntKind.wrap .i64 (Int.tdiv (IntKind.wrap .i64 (s3.1 + s3.2.1)) (2 : Int))) + (1 : Int))), s3.2.1, ())) (
 chk (0 ≤ (10 : Int) ∧ (10 : Int) ≤ (((a0.extract (Int.toNat (IntKind.wrap .i64 ((IntKind.wrap .i64 (Int.tdiv (IntKind.wrap .i64 (s3.1 + s3.2.1)) (2 : Int))) * (11 : Int)))) (Int.toNat (IntKind.wrap .i64 ((IntKind.wrap .i64 ((IntKind.wrap .i64 (Int.tdiv (IntKind.wrap .i64 (s3.1 + s3.2.1)) (2 : Int))) + (1 : Int))) * (11 : Int))))).size : Nat) : Int) ∧ (((a0.extract (Int.toNat (IntKind.wrap .i64 ((IntKind.wrap .i64 (Int.tdiv (IntKind.wrap .i64 (s3.1 + s3.2.1)) (2 : Int))) * (11 : Int)))) (Int.toNat (IntKind.wrap .i64 ((IntKind.wrap .i64 ((IntKind.wrap .i64 (Int.tdiv (IntKind.wrap .i64 (s3.1 + s3.2.1)) (2 : Int))) + (1 : Int))) * (11 : Int))))).size : Nat) : Int) ≤ (((a0.extract (Int.toNat (IntKind.wrap .i64 ((IntKind.wrap .i64 (Int.tdiv (IntKind.wrap .i64 (s3.1 + s3.2.1)) (2 : Int))) * (11 : Int)))) (Int.toNat (IntKind.wrap .i64 ((IntKind.wrap .i64 ((IntKind.wrap .i64 (Int.tdiv (IntKind.wrap .i64 (s3.1 + s3.2.1)) (2 : Int))) + (1 : Int))) * (11 : Int))))).size : Nat) : Int)) <|
 callT Tryz.prog 123 #[(.string ((a0.extract (Int.toNat (IntKind.wrap .i64 ((IntKind.wrap .i64 (Int.tdiv (IntKind.wrap .i64 (s3.1 + s3.2.1)) (2 : Int))) * (11 : Int)))) (Int.toNat (IntKind.wrap .i64 ((IntKind.wrap .i64 ((IntKind.wrap .i64 (Int.tdiv (IntKind.wrap .i64 (s3.1 + s3.2.1)) (2 : Int))) + (1 : Int))) * (11 : Int))))).extract (Int.toNat (10 : Int)) (Int.toNat (((a0.extract (Int.toNat (IntKind.wrap .i64 ((IntKind.wrap .i64 (Int.tdiv (IntKind.wrap .i64 (s3.1 + s3.2.1)) (2 : Int))) * (11 : Int)))) (Int.toNat (IntKind.wrap .i64 ((IntKind.wrap .i64 ((IntKind.wrap .i64 (Int.tdiv (IntKind.wrap .i64 (s3.1 + s3.2.1)) (2 : Int))) + (1 : Int))) * (11 : Int))))).size : Nat) : Int))))] (.one (.one (.int .i64))) fun (x7 : Int) =>
 K x7))) (
 J1 ())) ((0 : Int), (IntKind.wrap .i64 (Int.tdiv ((ByteArray.size a0 : Nat) : Int) (11 : Int))), ())) fun (s2 : Unit) =>
 K (0 : Int)
noncomputable def h96 : Hint := (.seq none (.region [] (.ops 1 .done)) (.seq none (.region [] (.ops 5 .done)) (.seq (some (17592186040816, [])) (.block (.loop 17592186040816 [(5, (.one (.int .i64))), (6, (.one (.int .i64)))] (.seq none (.seq none (.region [] (.ops 3 .done)) (.cond none .leaf .leaf)) (.block (.seq none (.region [] (.ops 5 .done)) (.seq none (.region [] (.ops 8 .done)) (.block (.seq none (.region [] (.ops 6 .done)) (.cond none (.region [] (.ops 2 .done)) (.seq none (.region [] (.ops 6 .done)) (.cond none (.region [] (.ops 3 .done)) (.seq none (.region [] (.ops 4 .done)) .leaf)))))))))))) (.seq none (.region [] (.ops 1 .done)) .leaf))))
theorem F96_tie (a0 : ByteArray) (a1 : Int) (K : Int → World → Prop) : vcgF tab Tryz.prog Tryz.f96 h96 [(.string a0), (.int .i64 a1)] (.one (.one (.int .i64))) K = F96 a0 a1 K := by kernel_rfl
theorem F96_calls {a0 : ByteArray} {a1 : Int} {K : Int → World → Prop} {w : World} (h : F96 a0 a1 K w) : callT Tryz.prog 96 #[(.string a0), (.int .i64 a1)] (.one (.one (.int .i64))) K w :=
  vcgF_sound tabOk Tryz.func96 h96 [(.string a0), (.int .i64 a1)] (.one (.one (.int .i64))) K w (Eq.mpr (congrFun (F96_tie a0 a1 K) w) h)
noncomputable def F121 (a0 : Int) (K : (Int × Int × Int × Int × Unit) → World → Prop) : World → Prop :=
 newO (.cells #[(.int .i64 (0 : Int)), (.int .i64 (0 : Int)), (.int .i64 (0 : Int)), (.int .i64 (0 : Int))] 169) fun b1 =>
 newO (.cells #[(.int .i64 (0 : Int)), (.int .i64 (0 : Int)), (.int .i64 (0 : Int)), (.int .i64 (0 : Int))] 169) fun b2 =>
 callT Tryz.prog 124 #[(.int .i64 a0)] (.one (.one (.int .i64))) fun (x3 : Int) =>
 callT Tryz.prog 147 #[(.int .i64 a0)] (.one (.one (.int .i64))) fun (x4 : Int) =>
 callT Tryz.prog 146 #[(.pointer (some (at0 b2))), (.int .i64 x3), (.int .i64 x4)] (.tup []) fun (x5 : (Unit)) =>
 lds c169 (at0 b2) fun (x6 : (Int × Int × Int × Int × Unit)) =>
 aggSt (at0 b1) (.agg (Cells.vals c169 x6).toArray) 4 <|
 lds c169 (at0 b1) fun (x7 : (Int × Int × Int × Int × Unit)) =>
 K x7
noncomputable def h121 : Hint := (.seq none (.region [] (.ops 1 .done)) (.seq none (.region [] (.ops 1 .done)) (.seq none (.region [] (.ops 5 .done)) (.seq none (.region [] (.ops 2 .done)) .leaf))))
theorem F121_tie (a0 : Int) (K : (Int × Int × Int × Int × Unit) → World → Prop) : vcgF tab Tryz.prog Tryz.f121 h121 [(.int .i64 a0)] (.one (.agg c169)) K = F121 a0 K := by kernel_rfl
theorem F121_calls {a0 : Int} {K : (Int × Int × Int × Int × Unit) → World → Prop} {w : World} (h : F121 a0 K w) : callT Tryz.prog 121 #[(.int .i64 a0)] (.one (.agg c169)) K w :=
  vcgF_sound tabOk Tryz.func121 h121 [(.int .i64 a0)] (.one (.agg c169)) K w (Eq.mpr (congrFun (F121_tie a0 K) w) h)
noncomputable def F122 (a0 : Option Addr) (a1 : Int) (K : Bool → World → Prop) : World → Prop :=
 callT Tryz.prog 124 #[(.int .i64 a1)] (.one (.one (.int .i64))) fun (x1 : Int) =>
 callT Tryz.prog 147 #[(.int .i64 a1)] (.one (.one (.int .i64))) fun (x2 : Int) =>
 join (S := Bool × Unit) (fun J3 =>
 join (S := Bool × Unit) (fun J5 =>
 nn a0 fun p7 =>
 ld (.int .i64) p7 fun (x8 : Int) =>
 sif (x8 == (1 : Int)) (
 J5 ((x1 == (2 : Int)), ())) (
 J5 (false, ()))) fun (s6 : Bool × Unit) =>
 sif s6.1 (
 J3 (true, ())) (
 join (S := Bool × Unit) (fun J9 =>
 nn a0 fun p11 =>
 ld (.int .i64) p11 fun (x12 : Int) =>
 callT Tryz.prog 125 #[(.int .i64 x12)] (.one (.one .bool)) fun (x13 : Bool) =>
 sif x13 (
 J9 (x13, ())) (
 callT Tryz.prog 125 #[(.int .i64 x1)] (.one (.one .bool)) fun (x14 : Bool) =>
 J9 (x14, ()))) fun (s10 : Bool × Unit) =>
 sif s10.1 (
 J3 (false, ())) (
 join (S := Bool × Unit) (fun J15 =>
 sif (x1 == (4 : Int)) (
 J15 ((x1 == (4 : Int)), ())) (
 sif (x1 == (5 : Int)) (
 J15 ((x1 == (5 : Int)), ())) (
 sif (x1 == (8 : Int)) (
 J15 ((x1 == (8 : Int)), ())) (
 nn a0 fun p17 =>
 ld (.int .i64) p17 fun (x18 : Int) =>
 J15 ((x18 == (7 : Int)), ()))))) fun (s16 : Bool × Unit) =>
 sif s16.1 (
 J3 (true, ())) (
 nn a0 fun p19 =>
 ld (.int .i64) p19 fun (x20 : Int) =>
 callT Tryz.prog 148 #[(.int .i64 x20), (.int .i64 x1)] (.one (.one .bool)) fun (x21 : Bool) =>
 sif x21 (
 J3 (true, ())) (
 join (S := Bool × Unit) (fun J22 =>
 sif (x2 == (1 : Int)) (
 nn a0 fun p24 =>
 ld (.int .i64) (p24.add 3) fun (x25 : Int) =>
 J22 ((x25 == (2 : Int)), ())) (
 J22 (false, ()))) fun (s23 : Bool × Unit) =>
 sif s23.1 (
 J3 (true, ())) (
 sif (x1 == (14 : Int)) (
 nn a0 fun p26 =>
 ld (.int .i64) (p26.add 2) fun (x27 : Int) =>
 J3 ((x27 == (2 : Int)), ())) (
 sif (x1 == (6 : Int)) (
 nn a0 fun p28 =>
 ld (.int .i64) (p28.add 1) fun (x29 : Int) =>
 chk ((2 : Int) ≠ 0) <|
 J3 (((Int.tmod x29 (2 : Int)) == (1 : Int)), ())) (
 J3 (false, ()))))))))) fun (s4 : Bool × Unit) =>
 join (S := Unit) (fun J30 =>
 sif s4.1 (
 callT Tryz.prog 146 #[(.pointer a0), (.int .i64 x1), (.int .i64 x2)] (.tup []) fun (x32 : (Unit)) =>
 J30 ()) (
 J30 ())) fun (s31 : Unit) =>
 K s4.1
noncomputable def h122 : Hint := (.seq none (.region [] (.ops 1 .done)) (.seq none (.region [] (.ops 6 .done)) (.seq none (.region [] (.ops 1 .done)) (.seq (some (75557863725914323415168, [(7, (.one .bool))])) (.block (.seq (some (4190208, [(12, (.one .bool))])) (.region [] (.ops 6 (.split 18 (.ops 4 .done) (.skips 2 (.ops 2 .done))))) (.cond none (.region [] (.ops 1 .done)) (.seq (some (1069547520, [(22, (.one .bool))])) (.seq none (.region [] (.ops 6 .done)) (.cond none .leaf (.region [] (.ops 3 .done)))) (.cond none .leaf (.seq (some (4396972769280, [(30, (.one .bool))])) (.seq none (.region [] (.ops 3 .done)) (.cond none .leaf (.seq none (.region [] (.ops 3 .done)) (.cond none .leaf (.seq none (.region [] (.ops 3 .done)) (.cond none .leaf (.region [] (.ops 6 .done)))))))) (.cond none (.region [] (.ops 1 .done)) (.seq none (.region [] (.ops 7 .done)) (.cond none (.region [] (.ops 1 .done)) (.seq (some (575897802350002176, [(49, (.one .bool))])) (.region [] (.ops 3 (.split 52 (.ops 7 .done) (.skips 5 (.ops 2 .done))))) (.cond none (.region [] (.ops 1 .done)) (.seq none (.region [] (.ops 3 .done)) (.cond none (.region [] (.ops 6 .done)) (.seq none (.region [] (.ops 3 .done)) (.cond none (.region [] (.ops 7 .done)) .leaf))))))))))))))) (.seq (some (2342293775503344025993216, [])) (.seq none (.region [] (.ops 1 .done)) (.cond none (.region [] (.ops 4 .done)) .leaf)) (.seq none (.region [] (.ops 2 .done)) .leaf))))))
theorem F122_tie (a0 : Option Addr) (a1 : Int) (K : Bool → World → Prop) : vcgF tab Tryz.prog Tryz.f122 h122 [(.pointer a0), (.int .i64 a1)] (.one (.one .bool)) K = F122 a0 a1 K := by kernel_rfl
theorem F122_calls {a0 : Option Addr} {a1 : Int} {K : Bool → World → Prop} {w : World} (h : F122 a0 a1 K w) : callT Tryz.prog 122 #[(.pointer a0), (.int .i64 a1)] (.one (.one .bool)) K w :=
  vcgF_sound tabOk Tryz.func122 h122 [(.pointer a0), (.int .i64 a1)] (.one (.one .bool)) K w (Eq.mpr (congrFun (F122_tie a0 a1 K) w) h)
noncomputable def F123 (a0 : ByteArray) (K : Int → World → Prop) : World → Prop :=
 join (S := Int × Unit) (fun J1 =>
 rawT Tryz.prog (.one (.one .ptr)) (Instr.range 9 (.string a0)) fun (x3 : Option Addr) =>
 sloop (S := Int × Unit) (fun (s4 : Int × Unit) again5 =>
 nextS Tryz.prog (Instr.next (.pointer x3) true 0) (fun p6 c7 =>
 sif true (
 join (S := Int × Unit) (fun J8 =>
 sif (decide (c7 > (57 : Int))) (
 J8 ((IntKind.wrap .i64 ((IntKind.wrap .i64 (IntKind.wrap .i32 (c7 - (65 : Int)))) + (10 : Int))), ())) (
 J8 ((IntKind.wrap .i64 (IntKind.wrap .i32 (c7 - (48 : Int)))), ()))) fun (s9 : Int × Unit) =>
 again5 ((IntKind.wrap .i64 ((IntKind.wrap .i64 (s4.1 * (16 : Int))) + s9.1)), ())) (
 J1 (s4.1, ()))) (
 sif false (
 fun _ => False) (
 J1 (s4.1, ())))) ((0 : Int), ())) fun (s2 : Int × Unit) =>
 K s2.1
noncomputable def h123 : Hint := (.seq none (.region [] (.ops 1 .done)) (.seq none (.region [] (.ops 1 .done)) (.seq (some (33554408, [(3, (.one (.int .i64)))])) (.seq none (.region [] (.ops 2 .done)) (.block (.loop 33554024 [(3, (.one (.int .i64)))] (.seq none (.region [] (.ops 2 .done)) (.seq none (.cond none .leaf .leaf) (.block (.seq none (.region [] (.ops 2 .done)) (.seq none (.region [] (.ops 4 .done)) (.seq (some (2064448, [(6, (.one (.int .i64)))])) (.seq none (.region [] (.ops 2 .done)) (.cond none (.region [] (.ops 5 .done)) .leaf)) (.region [] (.ops 5 .done))))))))))) (.seq none (.region [] (.ops 2 .done)) .leaf))))
theorem F123_tie (a0 : ByteArray) (K : Int → World → Prop) : vcgF tab Tryz.prog Tryz.f123 h123 [(.string a0)] (.one (.one (.int .i64))) K = F123 a0 K := by kernel_rfl
theorem F123_calls {a0 : ByteArray} {K : Int → World → Prop} {w : World} (h : F123 a0 K w) : callT Tryz.prog 123 #[(.string a0)] (.one (.one (.int .i64))) K w :=
  vcgF_sound tabOk Tryz.func123 h123 [(.string a0)] (.one (.one (.int .i64))) K w (Eq.mpr (congrFun (F123_tie a0 K) w) h)
noncomputable def F124 (a0 : Int) (K : Int → World → Prop) : World → Prop :=
 callT Tryz.prog 95 #[(.int .i64 a0)] (.one (.one .bool)) fun (x1 : Bool) =>
 sif (!x1) (
 K (3 : Int)) (
 join (S := Bool × Unit) (fun J2 =>
 sif (decide ((IntKind.wrap .i64 (a0 - (44032 : Int))) ≥ (0 : Int))) (
 J2 ((decide ((IntKind.wrap .i64 (a0 - (44032 : Int))) < (11172 : Int))), ())) (
 J2 (false, ()))) fun (s3 : Bool × Unit) =>
 sif s3.1 (
 chk ((28 : Int) ≠ 0) <|
 sif ((Int.tmod (IntKind.wrap .i64 (a0 - (44032 : Int))) (28 : Int)) == (0 : Int)) (
 K (12 : Int)) (
 K (13 : Int))) (
 callT Tryz.prog 96 #[(.string bs_88441808), (.int .i64 a0)] (.one (.one (.int .i64))) fun (x4 : Int) =>
 K x4))
noncomputable def h124 : Hint := (.seq none (.region [] (.ops 1 .done)) (.seq none (.seq none (.region [] (.ops 3 .done)) (.cond none (.seq none (.region [] (.ops 1 .done)) .leaf) .leaf)) (.seq none (.seq none (.region [] (.ops 3 .done)) (.seq (some (32256, [(14, (.one .bool))])) (.region [] (.ops 3 (.split 11 (.ops 3 .done) (.skips 2 (.ops 1 .done))))) (.cond none (.seq none (.seq none (.region [] (.ops 3 .done)) (.cond none (.seq none (.region [] (.ops 1 .done)) .leaf) .leaf)) (.seq none (.region [] (.ops 1 .done)) .leaf)) .leaf))) (.seq none (.region [] (.ops 3 .done)) .leaf))))
theorem F124_tie (a0 : Int) (K : Int → World → Prop) : vcgF tab Tryz.prog Tryz.f124 h124 [(.int .i64 a0)] (.one (.one (.int .i64))) K = F124 a0 K := by kernel_rfl
theorem F124_calls {a0 : Int} {K : Int → World → Prop} {w : World} (h : F124 a0 K w) : callT Tryz.prog 124 #[(.int .i64 a0)] (.one (.one (.int .i64))) K w :=
  vcgF_sound tabOk Tryz.func124 h124 [(.int .i64 a0)] (.one (.one (.int .i64))) K w (Eq.mpr (congrFun (F124_tie a0 K) w) h)
noncomputable def F125 (a0 : Int) (K : Bool → World → Prop) : World → Prop :=
 sif (a0 == (1 : Int)) (
 K true) (
 sif (a0 == (2 : Int)) (
 K true) (
 K (a0 == (3 : Int))))
noncomputable def h125 : Hint := (.seq none (.region [] (.ops 1 .done)) (.seq none (.region [] (.ops 3 (.split 5 (.skips 2 (.ops 2 (.skips 2 (.ops 2 .done)))) (.ops 4 (.split 9 (.skips 2 (.ops 2 .done)) (.ops 4 .done)))))) .leaf))
theorem F125_tie (a0 : Int) (K : Bool → World → Prop) : vcgF tab Tryz.prog Tryz.f125 h125 [(.int .i64 a0)] (.one (.one .bool)) K = F125 a0 K := by kernel_rfl
theorem F125_calls {a0 : Int} {K : Bool → World → Prop} {w : World} (h : F125 a0 K w) : callT Tryz.prog 125 #[(.int .i64 a0)] (.one (.one .bool)) K w :=
  vcgF_sound tabOk Tryz.func125 h125 [(.int .i64 a0)] (.one (.one .bool)) K w (Eq.mpr (congrFun (F125_tie a0 K) w) h)
noncomputable def F146 (a0 : Option Addr) (a1 : Int) (a2 : Int) (K : Unit → World → Prop) : World → Prop :=
 nn a0 fun p1 =>
 stC p1 (.int .i64 a1) <|
 join (S := Unit) (fun J2 =>
 sif (a1 == (6 : Int)) (
 nn a0 fun p4 =>
 ld (.int .i64) (p4.add 1) fun (x5 : Int) =>
 nn a0 fun p6 =>
 stC (p6.add 1) (.int .i64 (IntKind.wrap .i64 (x5 + (1 : Int)))) <|
 J2 ()) (
 nn a0 fun p7 =>
 stC (p7.add 1) (.int .i64 (0 : Int)) <|
 J2 ())) fun (s3 : Unit) =>
 join (S := Unit) (fun J8 =>
 sif (a1 == (14 : Int)) (
 nn a0 fun p10 =>
 stC (p10.add 2) (.int .i64 (1 : Int)) <|
 J8 ()) (
 join (S := Bool × Unit) (fun J11 =>
 nn a0 fun p13 =>
 ld (.int .i64) (p13.add 2) fun (x14 : Int) =>
 sif (x14 == (1 : Int)) (
 J11 ((a1 == (5 : Int)), ())) (
 J11 (false, ()))) fun (s12 : Bool × Unit) =>
 sif s12.1 (
 nn a0 fun p15 =>
 stC (p15.add 2) (.int .i64 (2 : Int)) <|
 J8 ()) (
 join (S := Bool × Unit) (fun J16 =>
 nn a0 fun p18 =>
 ld (.int .i64) (p18.add 2) fun (x19 : Int) =>
 sif (x19 == (1 : Int)) (
 J16 ((a1 == (4 : Int)), ())) (
 J16 (false, ()))) fun (s17 : Bool × Unit) =>
 sif s17.1 (
 J8 ()) (
 nn a0 fun p20 =>
 stC (p20.add 2) (.int .i64 (0 : Int)) <|
 J8 ())))) fun (s9 : Unit) =>
 sif (a2 == (1 : Int)) (
 nn a0 fun p21 =>
 stC (p21.add 3) (.int .i64 (1 : Int)) <|
 K ()) (
 join (S := Bool × Unit) (fun J22 =>
 nn a0 fun p24 =>
 ld (.int .i64) (p24.add 3) fun (x25 : Int) =>
 sif (decide (x25 > (0 : Int))) (
 J22 ((a2 == (3 : Int)), ())) (
 J22 (false, ()))) fun (s23 : Bool × Unit) =>
 sif s23.1 (
 nn a0 fun p26 =>
 stC (p26.add 3) (.int .i64 (2 : Int)) <|
 K ()) (
 join (S := Bool × Unit) (fun J27 =>
 nn a0 fun p29 =>
 ld (.int .i64) (p29.add 3) fun (x30 : Int) =>
 sif (decide (x30 > (0 : Int))) (
 J27 ((a2 == (2 : Int)), ())) (
 J27 (false, ()))) fun (s28 : Bool × Unit) =>
 sif s28.1 (
 K ()) (
 nn a0 fun p31 =>
 stC (p31.add 3) (.int .i64 (0 : Int)) <|
 K ())))
noncomputable def h146 : Hint := (.seq none (.region [] (.ops 5 .done)) (.seq (some (4193280, [])) (.seq none (.region [] (.ops 2 .done)) (.cond none (.region [] (.ops 8 .done)) (.region [] (.ops 4 .done)))) (.seq (some (18014398505287680, [])) (.block (.seq none (.region [] (.ops 3 .done)) (.cond none (.region [] (.ops 4 .done)) (.seq (some (2196875771904, [(31, (.one .bool))])) (.region [] (.ops 6 (.split 37 (.ops 4 .done) (.skips 2 (.ops 2 .done))))) (.cond none (.region [] (.ops 4 .done)) (.seq (some (17996806323437568, [(44, (.one .bool))])) (.region [] (.ops 6 (.split 50 (.ops 4 .done) (.skips 2 (.ops 2 .done))))) (.cond none .leaf (.region [] (.ops 4 .done))))))))) (.block (.seq none (.region [] (.ops 3 .done)) (.cond none (.region [] (.ops 4 .done)) (.seq (some (9435509593702435651584, [(63, (.one .bool))])) (.region [] (.ops 6 (.split 69 (.ops 4 .done) (.skips 2 (.ops 2 .done))))) (.cond none (.region [] (.ops 4 .done)) (.seq (some (77295694591610352857776128, [(76, (.one .bool))])) (.region [] (.ops 6 (.split 82 (.ops 4 .done) (.skips 2 (.ops 2 .done))))) (.cond none .leaf (.region [] (.ops 4 .done))))))))))))
theorem F146_tie (a0 : Option Addr) (a1 : Int) (a2 : Int) (K : Unit → World → Prop) : vcgF tab Tryz.prog Tryz.f146 h146 [(.pointer a0), (.int .i64 a1), (.int .i64 a2)] (.tup []) K = F146 a0 a1 a2 K := by kernel_rfl
theorem F146_calls {a0 : Option Addr} {a1 : Int} {a2 : Int} {K : Unit → World → Prop} {w : World} (h : F146 a0 a1 a2 K w) : callT Tryz.prog 146 #[(.pointer a0), (.int .i64 a1), (.int .i64 a2)] (.tup []) K w :=
  vcgF_sound tabOk Tryz.func146 h146 [(.pointer a0), (.int .i64 a1), (.int .i64 a2)] (.tup []) K w (Eq.mpr (congrFun (F146_tie a0 a1 a2 K) w) h)
noncomputable def F147 (a0 : Int) (K : Int → World → Prop) : World → Prop :=
 join (S := Bool × Unit) (fun J1 =>
 sif (a0 == (2381 : Int)) (
 J1 ((a0 == (2381 : Int)), ())) (
 sif (a0 == (2509 : Int)) (
 J1 ((a0 == (2509 : Int)), ())) (
 sif (a0 == (2765 : Int)) (
 J1 ((a0 == (2765 : Int)), ())) (
 sif (a0 == (2893 : Int)) (
 J1 ((a0 == (2893 : Int)), ())) (
 sif (a0 == (3149 : Int)) (
 J1 ((a0 == (3149 : Int)), ())) (
 J1 ((a0 == (3405 : Int)), ()))))))) fun (s2 : Bool × Unit) =>
 sif s2.1 (
 K (3 : Int)) (
 sif (a0 == (8204 : Int)) (
 K (0 : Int)) (
 join (S := Unit) (fun J3 =>
 callT Tryz.prog 124 #[(.int .i64 a0)] (.one (.one (.int .i64))) fun (x5 : Int) =>
 join (S := Bool × Unit) (fun J6 =>
 sif (x5 == (4 : Int)) (
 J6 ((x5 == (4 : Int)), ())) (
 J6 ((x5 == (5 : Int)), ()))) fun (s7 : Bool × Unit) =>
 sif s7.1 (
 K (2 : Int)) (
 sif (x5 == (0 : Int)) (
 callT Tryz.prog 95 #[(.int .i64 a0)] (.one (.one .bool)) fun (x8 : Bool) =>
 sif x8 (
 callT Tryz.prog 96 #[(.string bs_29aed6ba), (.int .i64 a0)] (.one (.one (.int .i64))) fun (x9 : Int) =>
 K x9) (
 J3 ())) (
 J3 ()))) fun (s4 : Unit) =>
 K (0 : Int)))
noncomputable def h147 : Hint := (.seq none (.region [] (.ops 1 .done)) (.seq none (.seq none (.region [] (.ops 1 .done)) (.block (.seq (some (2032, [(4, (.one .bool))])) (.seq none (.region [] (.ops 2 .done)) (.cond none .leaf (.seq none (.region [] (.ops 2 .done)) (.cond none .leaf (.seq none (.region [] (.ops 2 .done)) (.cond none .leaf (.seq none (.region [] (.ops 2 .done)) (.cond none .leaf (.seq none (.region [] (.ops 2 .done)) (.cond none .leaf (.region [] (.ops 2 .done)))))))))))) (.cond none (.seq none (.region [] (.ops 1 .done)) .leaf) (.seq none (.region [] (.ops 2 .done)) (.cond none (.seq none (.region [] (.ops 1 .done)) .leaf) .leaf)))))) (.seq (some (16769028, [])) (.seq none (.region [] (.ops 2 .done)) (.block (.seq (some (229376, [(15, (.one .bool))])) (.seq none (.region [] (.ops 2 .done)) (.cond none .leaf (.region [] (.ops 2 .done)))) (.cond none (.seq none (.region [] (.ops 1 .done)) .leaf) (.seq none (.region [] (.ops 2 .done)) (.cond none (.seq none (.region [] (.ops 2 .done)) (.cond none (.seq none (.region [] (.ops 3 .done)) .leaf) .leaf)) .leaf)))))) (.seq none (.region [] (.ops 1 .done)) .leaf))))
theorem F147_tie (a0 : Int) (K : Int → World → Prop) : vcgF tab Tryz.prog Tryz.f147 h147 [(.int .i64 a0)] (.one (.one (.int .i64))) K = F147 a0 K := by kernel_rfl
theorem F147_calls {a0 : Int} {K : Int → World → Prop} {w : World} (h : F147 a0 K w) : callT Tryz.prog 147 #[(.int .i64 a0)] (.one (.one (.int .i64))) K w :=
  vcgF_sound tabOk Tryz.func147 h147 [(.int .i64 a0)] (.one (.one (.int .i64))) K w (Eq.mpr (congrFun (F147_tie a0 K) w) h)
noncomputable def F148 (a0 : Int) (a1 : Int) (K : Bool → World → Prop) : World → Prop :=
 join (S := Unit) (fun J1 =>
 join (S := Bool × Unit) (fun J3 =>
 sif (a1 == (9 : Int)) (
 J3 ((a1 == (9 : Int)), ())) (
 sif (a1 == (12 : Int)) (
 J3 ((a1 == (12 : Int)), ())) (
 J3 ((a1 == (13 : Int)), ())))) fun (s4 : Bool × Unit) =>
 sif s4.1 (
 K (a0 == (9 : Int))) (
 sif (a1 == (10 : Int)) (
 sif (a0 == (9 : Int)) (
 K true) (
 J1 ())) (
 sif (a1 == (11 : Int)) (
 J1 ()) (
 K false)))) fun (s2 : Unit) =>
 join (S := Bool × Unit) (fun J5 =>
 sif (a0 == (12 : Int)) (
 J5 (true, ())) (
 J5 ((a0 == (10 : Int)), ()))) fun (s6 : Bool × Unit) =>
 sif s6.1 (
 K true) (
 sif (a1 == (11 : Int)) (
 sif (a0 == (13 : Int)) (
 K true) (
 K (a0 == (11 : Int)))) (
 K false))
noncomputable def h148 : Hint := (.seq none (.region [] (.ops 1 .done)) (.seq none (.seq none (.region [] (.ops 1 .done)) (.block (.seq (some (262096, [])) (.block (.seq none (.block (.seq none (.block (.seq none (.seq none (.seq (some (960, [(6, (.one .bool))])) (.seq none (.region [] (.ops 2 .done)) (.cond none .leaf (.seq none (.region [] (.ops 2 .done)) (.cond none .leaf (.region [] (.ops 2 .done)))))) (.cond none .leaf .leaf)) (.seq none (.seq none (.region [] (.ops 2 .done)) (.cond none .leaf .leaf)) (.seq none (.region [] (.ops 2 .done)) (.cond none .leaf .leaf)))) .leaf)) (.seq none (.seq none (.region [] (.ops 3 .done)) .leaf) .leaf))) (.seq none (.region [] (.ops 2 .done)) (.cond none (.seq none (.region [] (.ops 1 .done)) .leaf) .leaf)))) (.seq none (.seq none (.seq (some (16515072, [(23, (.one .bool))])) (.region [] (.ops 3 (.split 20 (.skips 2 (.ops 1 .done)) (.ops 3 .done)))) (.cond none (.seq none (.region [] (.ops 1 .done)) .leaf) .leaf)) (.seq none (.region [] (.ops 3 (.split 26 (.ops 3 (.split 29 (.skips 2 (.ops 3 .done)) (.ops 5 .done))) (.skips 6 (.ops 2 .done))))) .leaf)) .leaf)))) (.seq none (.region [] (.ops 1 .done)) .leaf)))
theorem F148_tie (a0 : Int) (a1 : Int) (K : Bool → World → Prop) : vcgF tab Tryz.prog Tryz.f148 h148 [(.int .i64 a0), (.int .i64 a1)] (.one (.one .bool)) K = F148 a0 a1 K := by kernel_rfl
theorem F148_calls {a0 : Int} {a1 : Int} {K : Bool → World → Prop} {w : World} (h : F148 a0 a1 K w) : callT Tryz.prog 148 #[(.int .i64 a0), (.int .i64 a1)] (.one (.one .bool)) K w :=
  vcgF_sound tabOk Tryz.func148 h148 [(.int .i64 a0), (.int .i64 a1)] (.one (.one .bool)) K w (Eq.mpr (congrFun (F148_tie a0 a1 K) w) h)
end Go.Proofs.YtabcpghhfeplaaaGreat
set_option linter.unusedSimpArgs false
set_option linter.unusedVariables false
namespace Go.Proofs.YtabcpghhfeplaaaGreat
open Go Go.Vx
theorem nat_ofInt {b : Nat} {a : Int} (h0 : 0 ≤ a) (h : a < 2 ^ b) : (BitVec.ofInt b a).toNat = a.toNat := by
  rw [BitVec.toNat_ofInt]
  have e : ((2 ^ b : Nat) : Int) = (2 : Int) ^ b := by simp
  rw [e, Int.emod_eq_of_lt h0 h]
theorem and_lo {b k : Nat} {a m : Int} (h0 : 0 ≤ a) (h : a < 2 ^ b) (hm : m = 2 ^ k - 1) (hk : k ≤ b) : ((BitVec.toNat (BitVec.ofInt b a &&& BitVec.ofInt b m) : Nat) : Int) = a % 2 ^ k := by
  have h1 : (1 : Int) ≤ 2 ^ k := by have : (0 : Int) < 2 ^ k := Int.pow_pos (by decide); omega
  have h2 : (2 : Int) ^ k ≤ 2 ^ b := by
    have : (2 : Nat) ^ k ≤ 2 ^ b := Nat.pow_le_pow_right (by decide) hk
    exact_mod_cast this
  rw [BitVec.toNat_and, nat_ofInt h0 h, nat_ofInt (by omega) (by omega)]
  have : m.toNat = 2 ^ k - 1 := by
    have e : ((2 ^ k : Nat) : Int) = (2 : Int) ^ k := by simp
    omega
  rw [this, Nat.and_two_pow_sub_one_eq_mod]
  have e : ((2 ^ k : Nat) : Int) = (2 : Int) ^ k := by simp
  rw [Int.natCast_emod, e, Int.toNat_of_nonneg h0]
theorem or_shift {b k : Nat} {a c : Int} (h0 : 0 ≤ a) (hc0 : 0 ≤ c) (hc : c < 2 ^ k) (h : a * 2 ^ k + c < 2 ^ b) : ((BitVec.toNat (BitVec.ofInt b (a * 2 ^ k) ||| BitVec.ofInt b c) : Nat) : Int) = a * 2 ^ k + c := by
  have hp : (0 : Int) < 2 ^ k := Int.pow_pos (by decide)
  have hak : 0 ≤ a * 2 ^ k := Int.mul_nonneg h0 (by omega)
  rw [BitVec.toNat_or, nat_ofInt hak (by omega), nat_ofInt hc0 (by omega)]
  have e : ((2 ^ k : Nat) : Int) = (2 : Int) ^ k := by simp
  have e1 : (a * 2 ^ k).toNat = a.toNat <<< k := by
    rw [Nat.shiftLeft_eq]
    have : ((a * 2 ^ k).toNat : Int) = ((a.toNat * 2 ^ k : Nat) : Int) := by
      rw [Int.toNat_of_nonneg hak, Int.natCast_mul, e, Int.toNat_of_nonneg h0]
    exact_mod_cast this
  rw [e1, ← Nat.shiftLeft_add_eq_or_of_lt (by omega), ← e1, Int.natCast_add, Int.toNat_of_nonneg hak, Int.toNat_of_nonneg hc0]
theorem or_shift' {b k : Nat} {a c : Int} (h0 : 0 ≤ a) (hc0 : 0 ≤ c) (hc : c < 2 ^ k) (h : a * 2 ^ k + c < 2 ^ b) : ((BitVec.toNat (BitVec.ofInt b c ||| BitVec.ofInt b (a * 2 ^ k)) : Nat) : Int) = a * 2 ^ k + c := by
  rw [BitVec.or_comm]; exact or_shift h0 hc0 hc h
theorem and_hi {a m : Int} (h0 : 0 ≤ a) (h : a < 2 ^ 63) (hm : m = 1023) : ((BitVec.toNat (BitVec.ofInt 64 a &&& ~~~(BitVec.ofInt 64 m)) : Nat) : Int) = a / 1024 * 1024 := by
  subst hm
  have e0 : (~~~(BitVec.ofInt 64 1023) : BitVec 64).toNat = (2 ^ 54 - 1) <<< 10 := by decide
  rw [BitVec.toNat_and, nat_ofInt h0 (by omega), e0]
  have : a.toNat &&& (2 ^ 54 - 1) <<< 10 = (a.toNat >>> 10) <<< 10 := by
    apply Nat.eq_of_testBit_eq
    intro i
    rw [Nat.testBit_and, Nat.testBit_shiftLeft, Nat.testBit_shiftLeft, Nat.testBit_two_pow_sub_one, Nat.testBit_shiftRight]
    by_cases hi : 10 ≤ i
    · have e : 10 + (i - 10) = i := by omega
      rw [e]
      by_cases h64 : i < 64
      · have : i - 10 < 54 := by omega
        simp [hi, this]
      · have hb : a.toNat.testBit i = false := Nat.testBit_lt_two_pow (Nat.lt_of_lt_of_le (by omega : a.toNat < 2 ^ 63) (Nat.pow_le_pow_right (by decide) (by omega)))
        simp [hb]
    · simp [hi]
  rw [this, Nat.shiftLeft_eq, Nat.shiftRight_eq_div_pow]
  omega
theorem wrap64 {a : Int} (h0 : -(2 ^ 63) ≤ a) (h : a < 2 ^ 63) : IntKind.wrap .i64 a = a := by
  simp only [IntKind.wrap, IntKind.signed, IntKind.bits]
  simp [Int.bmod_def]; omega
theorem wrap8 {a : Int} (h0 : 0 ≤ a) (h : a < 256) : IntKind.wrap .u8 a = a := by
  simp only [IntKind.wrap, IntKind.signed, IntKind.bits]
  simp; omega
theorem wrap8m {a : Int} : IntKind.wrap .u8 a = a % 256 := by
  simp only [IntKind.wrap, IntKind.signed, IntKind.bits]
  simp
end Go.Proofs.YtabcpghhfeplaaaGreat
