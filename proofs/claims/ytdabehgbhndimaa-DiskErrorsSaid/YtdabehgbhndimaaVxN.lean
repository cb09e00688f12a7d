/-
  Memory, more: rules for append and slicing; maps with integer keys.
-/
import Derived.Test.YtdabehgbhndimaaVxM
set_option linter.unusedSimpArgs false
set_option linter.unusedVariables false
namespace Go.Vx
open Go

structure ElemOk (P : Program) (ts e : TypeId) (sz bytes : Nat) : Prop where
  ts_ : P.underlying ts = some (.slice e)
  e_ : ∃ i z, P.info? e = some i ∧ i.size = sz ∧ i.bytes = bytes ∧ i.zero = some z ∧ z.cells.size = sz
  pos : 0 < bytes

theorem ElemOk.of {P : Program} {ts e : TypeId} {it ie : Inf} (h : InfOk P ts it) (he : InfOk P e ie) (hd : it.desc = .slice e) {z : Value} (hz : ie.zero = some z) (hzs : z.cells.size = ie.size) (hb : 0 < ie.bytes) : ElemOk P ts e ie.size ie.bytes := by
  obtain ⟨j, hj, h1, h2, h3⟩ := he.infoX
  exact ⟨by rw [h.und, hd], ⟨j, z, hj, h1, h2, h3.trans hz, hzs⟩, hb⟩

section
variable {S : Nat → Prop} {w w' : World} {P : Program}

theorem append_rx {ts xt rt e xe : TypeId} {sz bytes : Nat} (E : ElemOk P ts e sz bytes) (hxt : P.underlying xt = some (.slice xe)) {B : Nat} {s x : Sl} {vs us : List Value} {K : Sl → World → Prop}
    (hs : SlOwn w B s e sz vs) (hx : SlX w x sz us) (h1 : ∀ v ∈ us, isOne v = true) (hroom : (s.len + x.len + (s.len + x.len) / 4 + 512) * bytes ≤ 2 ^ 48) (hB : B ≤ w.heap.size)
    (h : ∀ s' w', SlOwn w' B s' e sz (vs ++ us) → s'.len = s.len + x.len → Upd s.blk w w' → (∀ k, s'.blk k → s.blk k ∨ w.heap.size ≤ k) → K s' w') :
    rawT P (.one (.one .sl)) (Builtin.append_ #[ts, xt] rt #[.slice s.a s.len s.cap, .slice x.a x.len x.cap]) K w := by
  obtain ⟨i, z, hi, rfl, rfl, hz, hzs⟩ := E.e_
  obtain ⟨s', w', hr, ho, hl, hu, hb⟩ := append_run (rt := rt) P E.ts_ hxt hi hz hs hx h1 hzs hroom E.pos hB
  exact ⟨s', w', hr, h s' w' ho hl hu hb⟩

theorem append_r {ts xt rt e xe : TypeId} {sz bytes : Nat} (E : ElemOk P ts e sz bytes) (hxt : P.underlying xt = some (.slice xe)) {B : Nat} {s x : Sl} {t' : TypeId} {vs us : List Value} {K : Sl → World → Prop}
    (hs : SlOwn w B s e sz vs) (hx : SlIn w x t' sz us) (h1 : ∀ v ∈ us, isOne v = true) (hroom : (s.len + x.len + (s.len + x.len) / 4 + 512) * bytes ≤ 2 ^ 48) (hB : B ≤ w.heap.size)
    (h : ∀ s' w', SlOwn w' B s' e sz (vs ++ us) → s'.len = s.len + x.len → Upd s.blk w w' → (∀ k, s'.blk k → s.blk k ∨ w.heap.size ≤ k) → K s' w') :
    rawT P (.one (.one .sl)) (Builtin.append_ #[ts, xt] rt #[.slice s.a s.len s.cap, .slice x.a x.len x.cap]) K w := by
  exact append_rx E hxt hs hx.x h1 hroom hB h

/-- an append of zeros to nothing: a new row -/
theorem append0_r {ts rt it e : TypeId} {sz bytes : Nat} {k : IntKind} (E : ElemOk P ts e sz bytes) (hit : P.underlying it = some (.int k)) {n : Int} {K : Sl → World → Prop} (h0 : 0 ≤ n) (hn : n * bytes ≤ 2 ^ 48) (hn2 : n ≤ 9223372036854775807)
    (h : ∀ s' w' vs, SlOwn w' w.heap.size s' e sz vs → (s'.len : Int) = n → Ext w w' → (n = 0 → s'.a = none) → K s' w') :
    rawT P (.one (.one .sl)) (Builtin.append_ #[ts, it] rt #[.slice none 0 0, .int .i64 n]) K w := by
  obtain ⟨i, z, hi, rfl, rfl, hz, hzs⟩ := E.e_
  obtain ⟨m, rfl⟩ := Int.eq_ofNat_of_zero_le h0
  have hu1 := fun W => run_underlying E.ts_ W
  have hu2 := fun W => run_underlying hit W
  have hsz : ∀ W, (sizeOf e).run P W = .ok i.size W := fun W => by simp [sizeOf, run_typeInfo W hi]
  have hti : ∀ W, (typeInfo e).run P W = .ok i W := fun W => run_typeInfo W hi
  have hzv : ∀ W, (zeroValue e).run P W = .ok z W := fun W => by simp [zeroValue, run_typeInfo W hi, hz]
  have hwrap : IntKind.i64.wrap (m : Int) = m := IntWalk.i64_in _ ⟨by omega, hn2⟩
  have hlt : ¬ ((m : Int) < 0) := by omega
  have hgt : ¬ ((m : Int) * (i.bytes : Int) > 2 ^ 48) := by omega
  by_cases hm : m = 0
  · subst hm
    refine ⟨⟨none, 0, 0⟩, w, ?_, h _ _ [] (SlOwn.nil _ _ _ _) rfl (Ext.refl w) fun _ => rfl⟩
    have hw0 : IntKind.i64.wrap 0 = 0 := by decide
    simp [Builtin.append_, hu1, hu2, hsz, hti, asInt, asIntOf, hw0]
    rfl
  · have hb0' : ¬ i.bytes = 0 := by have := E.pos; omega
    have hroom' : ¬ (Builtin.nextslicecap m 0 * i.bytes > 2 ^ 48) := by
      have e : Builtin.nextslicecap m 0 = m := by unfold Builtin.nextslicecap; rw [if_pos (by omega)]
      rw [e]
      have : ((m * i.bytes : Nat) : Int) ≤ 2 ^ 48 := by simpa using hn
      omega
    have hmax : ¬ ((m : Int) > IntKind.i64.max) := by rw [show IntKind.i64.max = 9223372036854775807 by decide]; omega
    have hneed : ¬ m ≤ 0 := by omega
    have hgt2 : ¬ (281474976710656 < (m : Int) * (i.bytes : Int)) := by omega
    have hmax2 : ¬ (9223372036854775807 < (m : Int)) := by omega
    obtain ⟨nc, hnc, hncl⟩ : ∃ nc, (Question.appendCap m 0 e).cut (w.tape w.drawn (Question.appendCap m 0 e)) = nc ∧ m ≤ nc := ⟨_, rfl, by simp only [Question.cut]; omega⟩
    have hfc : ∀ W, (Builtin.firstCells i.size 0 (.slice none 0 0)).run P W = .ok #[] W := fun W => rfl
    have hsz0 : ∀ n, (Builtin.zeroCells z.cells n).size = n * i.size := fun n => by simp [Builtin.zeroCells, hzs]
    obtain ⟨row, hrow⟩ : ∃ row : Array Value, row = (if m * i.size = 0 then #[] else Builtin.zeroCells z.cells m) ++ Builtin.zeroCells z.cells (nc - m) := ⟨_, rfl⟩
    have hrs : row.size = nc * i.size := by
      rw [hrow, Array.size_append]
      have : (if m * i.size = 0 then (#[] : Array Value) else Builtin.zeroCells z.cells m).size = m * i.size := by
        split
        · rename_i h0; rw [h0]; rfl
        · exact hsz0 m
      rw [this, hsz0, ← Nat.add_mul]; congr 1; omega
    refine ⟨⟨some ⟨w.heap.size, 0, none⟩, m, nc⟩, w.drew.alloc (.cells row e), ?_, h _ _ (row.toList.take (m * i.size)) ⟨?_, hncl, .inr ⟨w.heap.size, 0, row, rfl, Nat.le_refl _, heap_alloc w.drew _, by rw [hrs]; simp, ?_⟩⟩ rfl ((Ext.drew w).trans (Ext.alloc w.drew _)) fun h0 => absurd h0 (by omega)⟩
    · by_cases h0 : m * i.size = 0
      · simp only [if_pos h0] at hrow
        simp [Builtin.append_, hu1, hu2, hsz, hti, hwrap, hlt, hgt, asInt, asIntOf, hneed, hm, hgt2, hmax2, hroom', hb0', h0, hnc, run_askRoom, hzv, newRow, newObj, Sem.run, Question.forced, hfc, hrow]
        rfl
      · simp only [if_neg h0] at hrow
        simp [Builtin.append_, hu1, hu2, hsz, hti, hwrap, hlt, hgt, asInt, asIntOf, hneed, hm, hgt2, hmax2, hroom', hb0', h0, hnc, run_askRoom, hzv, newRow, newObj, Sem.run, Question.forced, hfc, hrow]
        rfl
    · show (row.toList.take (m * i.size)).length = m * i.size
      rw [List.length_take, Array.length_toList, hrs]
      exact Nat.min_eq_left (Nat.mul_le_mul_right _ hncl)
    · intro j v hj
      rw [Nat.zero_add]
      rw [List.getElem?_take] at hj
      split at hj
      · simpa using hj
      · cases hj

/-- a part of what a slice holds -/
theorem slc_r {s : Sl} {t : TypeId} {sz : Nat} {vs : List Value} {l h m : Int} {K : Sl → World → Prop} (hs : SlIn w s t sz vs) (h0 : 0 ≤ l) (h1 : l ≤ h) (h2 : h ≤ s.len) (h3 : h ≤ m) (h4 : m ≤ s.cap)
    (hK : ∀ s', SlIn w s' t sz ((vs.drop (l.toNat * sz)).take ((h.toNat - l.toNat) * sz)) → s'.len = h.toNat - l.toNat → (s'.a = none ↔ s.a = none) → (∀ k, s'.blk k → s.blk k) → K s' w) : slc s.a l h m s.cap sz K w := by
  refine ⟨(), ⟨h0, h1, h3, h4⟩, hK _ ⟨?_, ?_, ?_⟩ rfl ?_ ?_⟩
  · show ((vs.drop (l.toNat * sz)).take ((h.toNat - l.toNat) * sz)).length = (h.toNat - l.toNat) * sz
    rw [List.length_take, List.length_drop, hs.len, ← Nat.sub_mul]
    exact Nat.min_eq_left (Nat.mul_le_mul_right _ (by omega))
  · show h.toNat - l.toNat ≤ m.toNat - l.toNat
    omega
  · rcases hs.at_ with ⟨ha, hc⟩ | ⟨b, off, c, fr, ha, hb, hcap, hv⟩
    · refine .inl ⟨?_, ?_⟩
      · show (if m.toNat = l.toNat then s.a else s.a.map _) = none
        rw [ha]; split <;> rfl
      · show m.toNat - l.toNat = 0
        omega
    · have hin : ∀ j v, ((vs.drop (l.toNat * sz)).take ((h.toNat - l.toNat) * sz))[j]? = some v → c[off + l.toNat * sz + j]? = some v := by
        intro j v hj
        rw [List.getElem?_take] at hj
        split at hj
        · rw [List.getElem?_drop] at hj
          rw [Nat.add_assoc]; exact hv _ _ hj
        · cases hj
      by_cases hml : m.toNat = l.toNat
      · refine .inr ⟨b, off, c, fr, ?_, hb, ?_, ?_⟩
        · show (if m.toNat = l.toNat then s.a else s.a.map _) = _
          rw [if_pos hml, ha]
        · show off + (m.toNat - l.toNat) * sz ≤ c.size
          rw [hml, Nat.sub_self, Nat.zero_mul]; omega
        · intro j v hj
          have : h.toNat - l.toNat = 0 := by omega
          rw [this, Nat.zero_mul] at hj
          cases hj
      · refine .inr ⟨b, off + l.toNat * sz, c, fr, ?_, hb, ?_, hin⟩
        · show (if m.toNat = l.toNat then s.a else s.a.map _) = _
          rw [if_neg hml, ha, scaled_eq]
          simp [addr_add]
        · show off + l.toNat * sz + (m.toNat - l.toNat) * sz ≤ c.size
          have : l.toNat * sz + (m.toNat - l.toNat) * sz = m.toNat * sz := by rw [← Nat.add_mul]; congr 1; omega
          have h5 : m.toNat * sz ≤ s.cap * sz := Nat.mul_le_mul_right _ (by omega)
          omega
  · show (if m.toNat = l.toNat then s.a else s.a.map _) = none ↔ _
    split <;> simp
  · rintro k ⟨p, hp, rfl⟩
    have hp : (if m.toNat = l.toNat then s.a else s.a.map (·.add (scaled l.toNat sz))) = some p := hp
    split at hp
    · exact ⟨p, hp, rfl⟩
    · cases ha : s.a with
      | none => rw [ha] at hp; cases hp
      | some q =>
        rw [ha] at hp
        cases hp
        exact ⟨q, ha, by unfold Addr.add; split <;> rfl⟩

/-- the same of a row of one's own -/
theorem slc_ro {B : Nat} {s : Sl} {t : TypeId} {sz : Nat} {vs : List Value} {l h m : Int} {K : Sl → World → Prop} (hs : SlOwn w B s t sz vs) (h0 : 0 ≤ l) (h1 : l ≤ h) (h2 : h ≤ s.len) (h3 : h ≤ m) (h4 : m ≤ s.cap)
    (hK : ∀ s', SlOwn w B s' t sz ((vs.drop (l.toNat * sz)).take ((h.toNat - l.toNat) * sz)) → s'.len = h.toNat - l.toNat → (s'.a = none ↔ s.a = none) → (∀ k, s'.blk k → s.blk k) → K s' w) : slc s.a l h m s.cap sz K w := by
  refine slc_r (K := fun s' w' => s'.len = h.toNat - l.toNat → K s' w') hs.in h0 h1 h2 h3 h4 (fun s' hi hl ha hb _ => hK s' ⟨hi.len, hi.le, ?_⟩ hl ha hb) |> fun ⟨u, hc, hk⟩ => ⟨u, hc, hk rfl⟩
  rcases hi.at_ with h | ⟨b, off, c, fr, ha', hb', hrest⟩
  · exact .inl h
  · obtain ⟨p, hp, hpb⟩ := hb b ⟨_, ha', rfl⟩
    rcases hs.at_ with ⟨hn, _⟩ | ⟨b2, off2, c2, ha2, hB, hb2, _⟩
    · rw [hn] at hp; cases hp
    · rw [ha2] at hp; cases hp
      simp only at hpb
      subst hpb
      rw [hb2] at hb'
      cases hb'
      exact .inr ⟨b2, off, _, ha', hB, hb2, hrest⟩

/- maps with integer keys -/
abbrev IEnt := Int × Value × Nat
def IEnt.ent (x : IEnt) : MapEntry := ⟨.int .i64 x.1, x.2.1, x.2.2⟩

structure MapI (w : World) (m : Nat) (es : List IEnt) : Prop where
  heap : ∃ clock, w.heap[m]? = some (.map (es.map IEnt.ent).toArray clock) ∧ ∀ x ∈ es, x.2.2 < clock
  keys : (es.map (·.1)).Nodup
  born : (es.map (·.2.2)).Nodup

/-- what is held under a key -/
def mget (es : List IEnt) (k : Int) : Option Value := (es.find? (·.1 == k)).map (·.2.1)

theorem MapI.upd {m : Nat} {es : List IEnt} (h : MapI w m es) (hu : Upd S w w') (hS : ¬ S m) : MapI w' m es := by
  obtain ⟨⟨c, h1, h2⟩, h3, h4⟩ := h
  exact ⟨⟨c, hu.get h1 hS, h2⟩, h3, h4⟩
theorem MapI.ext {m : Nat} {es : List IEnt} (h : MapI w m es) (hu : Ext w w') : MapI w' m es := h.upd hu id

theorem findNow_int (q : IntKind) (k : Int) : ∀ (es : List IEnt) (i : Nat), Instr.findNow (.int q) (.int .i64 k) (es.map IEnt.ent) i = some ((es.findIdx? (·.1 == k)).map fun j => (i + j, ((es[j]?).map (·.2.1)).getD default))
  | [], i => by simp [Instr.findNow]
  | x :: r, i => by
    simp only [List.map_cons, Instr.findNow, IEnt.ent, Instr.sameNow, if_true]
    by_cases hx : x.1 = k
    · subst hx; simp [List.findIdx?_cons]
    · have h1 : (k == x.1) = false := by simp; exact fun h => hx h.symm
      have h2 : (x.1 == k) = false := by simpa using hx
      rw [h1]
      simp only
      rw [findNow_int q k r (i + 1), List.findIdx?_cons, h2]
      cases r.findIdx? (·.1 == k) with
      | none => simp
      | some j => simp; omega

theorem mget_eq (es : List IEnt) (k : Int) : mget es k = (es.findIdx? (·.1 == k)).map fun j => ((es[j]?).map (·.2.1)).getD default := by
  unfold mget
  induction es with
  | nil => rfl
  | cons x r ih =>
    rw [List.find?_cons, List.findIdx?_cons]
    cases x.1 == k with
    | true => simp
    | false =>
      simp only [Bool.false_eq_true, if_false]
      rw [ih]
      cases r.findIdx? (·.1 == k) <;> simp

structure MapTy (P : Program) (t : TypeId) (z : Value) : Prop where
  ok : ∃ kt et, P.underlying t = some (.map kt et) ∧ P.underlying kt = some (.int .i64) ∧ ∀ w, (zeroValue et).run P w = .ok z w

theorem MapTy.of {t kt et : TypeId} {i ik ie : Inf} (h : InfOk P t i) (hk : InfOk P kt ik) (he : InfOk P et ie) (hd : i.desc = .map kt et) (hkd : ik.desc = .int .i64) {z : Value} (hz : ie.zero = some z) : MapTy P t z :=
  ⟨kt, et, by rw [h.und, hd], by rw [hk.und, hkd], fun w => he.run_zero w hz⟩

theorem run_checkKey {kt : TypeId} (h : P.underlying kt = some (.int .i64)) (b : Bool) (n : Nat) (k : Int) : (Instr.checkKey b (n + 1) kt (.int .i64 k)).run P w = .ok () w := by
  simp [Instr.checkKey, run_underlying h]

theorem run_findKey {kt : TypeId} (h : P.underlying kt = some (.int .i64)) (k : Int) (es : List IEnt) :
    (Instr.findKey kt (.int .i64 k) (es.map IEnt.ent)).run P w = .ok ((es.findIdx? (·.1 == k)).map fun j => (j, ((es[j]?).map (·.2.1)).getD default)) w := by
  simp only [Instr.findKey, Sem.run_bind, run_underlying h, Result.andThen_ok, findNow_int, Nat.zero_add, Sem.run_pure]

theorem lookup_run {t : TypeId} {z : Value} (T : MapTy P t z) {m : Nat} {es : List IEnt} (hm : MapI w m es) (k : Int) :
    (Instr.lookup t (.map (some m)) (.int .i64 k) true).run P w = .ok (match mget es k with | some v => .tuple #[v, .bool true] | none => .tuple #[z, .bool false]) w := by
  obtain ⟨kt, et, h1, h2, h3⟩ := T.ok
  obtain ⟨⟨c, hh, _⟩, _, _⟩ := hm
  have hg : (getObj m).run P w = .ok (.map (es.map IEnt.ent).toArray c) w := by simp [getObj, Sem.run, hh]
  have hc : ∀ b, (Instr.checkKey b 10000 kt (.int .i64 k)).run P w = .ok () w := fun b => run_checkKey h2 b 9999 k
  simp only [Instr.lookup, Sem.run_bind, run_underlying h1, Result.andThen_ok, hg, Sem.run_pure, hc, run_findKey h2]
  rw [mget_eq]
  cases es.findIdx? (·.1 == k) with
  | none => simp [h3]
  | some j => simp

theorem lookup1_run {t : TypeId} {z : Value} (T : MapTy P t z) {m : Nat} {es : List IEnt} (hm : MapI w m es) (k : Int) :
    (Instr.lookup t (.map (some m)) (.int .i64 k) false).run P w = .ok ((mget es k).getD z) w := by
  obtain ⟨kt, et, h1, h2, h3⟩ := T.ok
  obtain ⟨⟨c, hh, _⟩, _, _⟩ := hm
  have hg : (getObj m).run P w = .ok (.map (es.map IEnt.ent).toArray c) w := by simp [getObj, Sem.run, hh]
  have hc : ∀ b, (Instr.checkKey b 10000 kt (.int .i64 k)).run P w = .ok () w := fun b => run_checkKey h2 b 9999 k
  simp only [Instr.lookup, Sem.run_bind, run_underlying h1, Result.andThen_ok, hg, Sem.run_pure, hc, run_findKey h2]
  rw [mget_eq]
  cases es.findIdx? (·.1 == k) with
  | none => simp [h3]
  | some j => simp

theorem upd_setObj {m : Nat} {o o' : Obj} (hm : w.heap[m]? = some o) : Upd (fun k => k = m) w { w with heap := w.heap.setIfInBounds m o' } ∧ (w.heap.setIfInBounds m o')[m]? = some o' := by
  have hlt := lt_of_heap hm
  refine ⟨⟨rfl, rfl, rfl, by simp, fun k hk hn => ?_⟩, by simp [hlt]⟩
  simp only
  rw [Array.getElem?_setIfInBounds_ne (fun h => hn h.symm)]

theorem nodup_set_key : ∀ (es : List IEnt) (j : Nat) (v : Value), ((es.modify j fun x => (x.1, v, x.2.2)).map (·.1)) = es.map (·.1) ∧ ((es.modify j fun x => (x.1, v, x.2.2)).map (·.2.2)) = es.map (·.2.2)
  | [], j, v => by cases j <;> simp [List.modify]
  | x :: r, 0, v => by simp
  | x :: r, j + 1, v => by
    have := nodup_set_key r j v
    simp [this.1, this.2]

theorem mget_modify : ∀ (es : List IEnt) (k : Int) (j : Nat) (v : Value), es.findIdx? (·.1 == k) = some j → ∀ k', mget (es.modify j fun x => (x.1, v, x.2.2)) k' = if k' = k then some v else mget es k'
  | [], k, j, v, h, k' => by simp at h
  | x :: r, k, j, v, h, k' => by
    rw [List.findIdx?_cons] at h
    by_cases hx : x.1 = k
    · simp [hx] at h
      subst h
      simp only [List.modify_zero_cons, mget, List.find?_cons]
      by_cases hk : k' = k
      · subst hk; simp [hx]
      · have : (x.1 == k') = false := by simp; rw [hx]; exact fun h => hk h.symm
        simp [this, hk]
    · have hx' : (x.1 == k) = false := by simpa using hx
      simp only [hx', Bool.false_eq_true, if_false] at h
      cases hr : r.findIdx? (·.1 == k) with
      | none => rw [hr] at h; simp at h
      | some i =>
        rw [hr] at h
        simp at h
        subst h
        have ih := mget_modify r k i v hr k'
        simp only [List.modify_succ_cons, mget, List.find?_cons]
        by_cases hk : x.1 = k'
        · have hne : ¬ k' = k := fun h => hx (hk.trans h)
          simp [hk, hne]
        · have : (x.1 == k') = false := by simpa using hk
          simp only [this]
          exact ih

theorem mget_push (es : List IEnt) (k : Int) (v : Value) (b : Nat) (h : es.findIdx? (·.1 == k) = none) (k' : Int) : mget (es ++ [(k, v, b)]) k' = if k' = k then some v else mget es k' := by
  unfold mget
  rw [List.find?_append]
  by_cases hk : k' = k
  · subst hk
    have : es.find? (·.1 == k') = none := by
      rw [List.find?_eq_none]
      rw [List.findIdx?_eq_none_iff] at h
      intro x hx; simpa using h x hx
    simp [this]
  · have : (k == k') = false := by simp; exact fun h => hk h.symm
    simp [this, hk]

theorem update_run {t : TypeId} {z : Value} (T : MapTy P t z) {m : Nat} {es : List IEnt} (hm : MapI w m es) (k : Int) (v : Value) :
    ∃ es' w', (Instr.mapUpdate t (.map (some m)) (.int .i64 k) v).run P w = .ok () w' ∧ MapI w' m es' ∧ (∀ k', mget es' k' = if k' = k then some v else mget es k') ∧ Upd (fun b => b = m) w w' ∧ w'.heap.size = w.heap.size ∧ es'.length ≤ es.length + 1 := by
  obtain ⟨kt, et, h1, h2, h3⟩ := T.ok
  obtain ⟨⟨c, hh, hc'⟩, hk, hb⟩ := hm
  have hg : (getObj m).run P w = .ok (.map (es.map IEnt.ent).toArray c) w := by simp [getObj, Sem.run, hh]
  have hc : ∀ b, (Instr.checkKey b 10000 kt (.int .i64 k)).run P w = .ok () w := fun b => run_checkKey h2 b 9999 k
  have hset : ∀ o', (setObj m o').run P w = .ok () { w with heap := w.heap.setIfInBounds m o' } := fun o' => by simp [setObj, Sem.run, hh]
  cases hf : es.findIdx? (·.1 == k) with
  | none =>
    obtain ⟨u1, u2⟩ := upd_setObj (o' := .map ((es ++ [(k, v, c)]).map IEnt.ent).toArray (c + 1)) hh
    refine ⟨es ++ [(k, v, c)], _, ?_, ⟨⟨c + 1, u2, fun x hx => ?_⟩, ?_, ?_⟩, mget_push es k v c hf, u1, by simp, by simp⟩
    · simp only [Instr.mapUpdate, Sem.run_bind, run_underlying h1, Result.andThen_ok, hg, hc, run_findKey h2, hf, Option.map_none]
      have e : ((es.map IEnt.ent).toArray.push { key := .int .i64 k, val := v, born := c }) = ((es ++ [(k, v, c)]).map IEnt.ent).toArray := by
        apply Array.ext'; simp [IEnt.ent]
      rw [e]
      exact hset _
    · rcases List.mem_append.1 hx with hx | hx
      · have := hc' x hx; omega
      · simp at hx; subst hx; simp
    · rw [List.map_append, List.nodup_append]
      refine ⟨hk, by simp, fun a ha b hb' => ?_⟩
      simp at hb'; subst hb'
      rw [List.findIdx?_eq_none_iff] at hf
      obtain ⟨x, hx, rfl⟩ := List.mem_map.1 ha
      simpa using hf x hx
    · rw [List.map_append, List.nodup_append]
      refine ⟨hb, by simp, fun a ha b hb' => ?_⟩
      simp at hb'; subst hb'
      obtain ⟨x, hx, rfl⟩ := List.mem_map.1 ha
      have := hc' x hx; omega
  | some j =>
    obtain ⟨e1, e2⟩ := nodup_set_key es j v
    obtain ⟨u1, u2⟩ := upd_setObj (o' := .map ((es.modify j fun x => (x.1, v, x.2.2)).map IEnt.ent).toArray c) hh
    have hj := List.findIdx?_eq_some_iff_getElem.1 hf
    obtain ⟨hjl, hjk, _⟩ := hj
    have hjk : es[j].1 = k := by simpa using hjk
    refine ⟨es.modify j fun x => (x.1, v, x.2.2), _, ?_, ⟨⟨c, u2, fun x hx => ?_⟩, by rw [e1]; exact hk, by rw [e2]; exact hb⟩, mget_modify es k j v hf, u1, by simp, by simp⟩
    · have hkey : ((((es.map IEnt.ent).toArray[j]?).map (·.key)).getD (.int .i64 k)) = .int .i64 k := by
        simp [List.getElem?_map, List.getElem?_eq_getElem hjl, IEnt.ent, hjk]
      have hstay : (Instr.keyThatStays (.int .i64 k) (.int .i64 k)).run P w = .ok (.int .i64 k) w := by
        simp [Instr.keyThatStays, Instr.sameBits]
      simp only [Instr.mapUpdate, Sem.run_bind, run_underlying h1, Result.andThen_ok, hg, hc, run_findKey h2, hf, Option.map_some, hkey, hstay]
      have e : ((es.map IEnt.ent).toArray.modify j fun e => { e with key := .int .i64 k, val := v }) = ((es.modify j fun x => (x.1, v, x.2.2)).map IEnt.ent).toArray := by
        apply Array.ext'
        simp only [Array.toList_modify]
        apply List.ext_getElem?
        intro i
        simp only [List.getElem?_modify, List.getElem?_map]
        by_cases hij : j = i
        · subst hij
          simp [List.getElem?_eq_getElem hjl, IEnt.ent, hjk]
        · simp [hij]
      rw [e]
      exact hset _
    · have : x.2.2 ∈ (es.modify j fun x => (x.1, v, x.2.2)).map (·.2.2) := List.mem_map_of_mem hx
      rw [e2] at this
      obtain ⟨y, hy, hxy⟩ := List.mem_map.1 this
      rw [← hxy]; exact hc' y hy

theorem mget_erase : ∀ (es : List IEnt) (k : Int) (j : Nat), (es.map (·.1)).Nodup → es.findIdx? (·.1 == k) = some j → ∀ k', mget (es.eraseIdx j) k' = if k' = k then none else mget es k'
  | [], k, j, _, h, k' => by simp at h
  | x :: r, k, j, hn, h, k' => by
    rw [List.findIdx?_cons] at h
    simp only [List.map_cons, List.nodup_cons] at hn
    by_cases hx : x.1 = k
    · simp [hx] at h
      subst h
      simp only [List.eraseIdx_zero, List.tail_cons]
      by_cases hk : k' = k
      · subst hk
        simp only [if_true]
        unfold mget
        have : r.find? (·.1 == k') = none := by
          rw [List.find?_eq_none]
          intro y hy
          simp
          intro he
          exact hn.1 (by rw [hx, ← he]; exact List.mem_map_of_mem hy)
        rw [this]; rfl
      · have : (x.1 == k') = false := by simp; rw [hx]; exact fun h => hk h.symm
        simp [mget, List.find?_cons, this, hk]
    · have hx' : (x.1 == k) = false := by simpa using hx
      simp only [hx', Bool.false_eq_true, if_false] at h
      cases hr : r.findIdx? (·.1 == k) with
      | none => rw [hr] at h; simp at h
      | some i =>
        rw [hr] at h
        simp at h
        subst h
        have ih := mget_erase r k i hn.2 hr k'
        simp only [List.eraseIdx_cons_succ, mget, List.find?_cons]
        by_cases hk : x.1 = k'
        · have hne : ¬ k' = k := fun h => hx (hk.trans h)
          simp [hk, hne]
        · have : (x.1 == k') = false := by simpa using hk
          simp only [this]
          exact ih

theorem map_erase {α β : Type} (f : α → β) : ∀ (l : List α) (j : Nat), (l.eraseIdx j).map f = (l.map f).eraseIdx j
  | [], j => by simp
  | x :: r, 0 => by simp
  | x :: r, j + 1 => by simp [map_erase f r j]

theorem delete_run {t kt' rt : TypeId} {z : Value} (T : MapTy P t z) {m : Nat} {es : List IEnt} (hm : MapI w m es) (k : Int) :
    ∃ es' w', (Builtin.delete_ #[t, kt'] rt #[.map (some m), .int .i64 k]).run P w = .ok (.tuple #[]) w' ∧ MapI w' m es' ∧ (∀ k', mget es' k' = if k' = k then none else mget es k') ∧ Upd (fun b => b = m) w w' ∧ w'.heap.size = w.heap.size ∧ es'.length ≤ es.length := by
  obtain ⟨kt, et, h1, h2, h3⟩ := T.ok
  obtain ⟨⟨c, hh, hc'⟩, hk, hb⟩ := hm
  have hg : (getObj m).run P w = .ok (.map (es.map IEnt.ent).toArray c) w := by simp [getObj, Sem.run, hh]
  have hc : ∀ b, (Instr.checkKey b 10000 kt (.int .i64 k)).run P w = .ok () w := fun b => run_checkKey h2 b 9999 k
  have hset : ∀ o', (setObj m o').run P w = .ok () { w with heap := w.heap.setIfInBounds m o' } := fun o' => by simp [setObj, Sem.run, hh]
  cases hf : es.findIdx? (·.1 == k) with
  | none =>
    obtain ⟨u1, u2⟩ := upd_setObj (o' := .map (es.map IEnt.ent).toArray c) hh
    refine ⟨es, _, ?_, ⟨⟨c, u2, hc'⟩, hk, hb⟩, fun k' => ?_, u1, by simp, Nat.le_refl _⟩
    · simp [Builtin.delete_, run_underlying h1, hg, hc, run_findKey h2, hf, hset]
    · by_cases hkk : k' = k
      · subst hkk; rw [if_pos rfl, mget_eq, hf]; rfl
      · rw [if_neg hkk]
  | some j =>
    obtain ⟨hjl, _, _⟩ := List.findIdx?_eq_some_iff_getElem.1 hf
    obtain ⟨u1, u2⟩ := upd_setObj (o' := .map ((es.eraseIdx j).map IEnt.ent).toArray c) hh
    refine ⟨es.eraseIdx j, _, ?_, ⟨⟨c, u2, fun x hx => hc' x (List.mem_of_mem_eraseIdx hx)⟩, ?_, ?_⟩, mget_erase es k j hk hf, u1, by simp, ?_⟩
    · have e : (es.map IEnt.ent).toArray.eraseIdxIfInBounds j = ((es.eraseIdx j).map IEnt.ent).toArray := by
        apply Array.ext'
        simp [Array.eraseIdxIfInBounds, hjl, map_erase]
      simp [Builtin.delete_, run_underlying h1, hg, hc, run_findKey h2, hf, hset, map_erase]
    · rw [map_erase]; exact hk.sublist (List.eraseIdx_sublist _ _)
    · rw [map_erase]; exact hb.sublist (List.eraseIdx_sublist _ _)
    · rw [List.length_eraseIdx]; split <;> omega

theorem MapI.made (m : Nat) (h : w.heap[m]? = some (.map #[] 0)) : MapI w m [] := ⟨⟨0, h, fun _ hx => by cases hx⟩, List.nodup_nil, List.nodup_nil⟩

/- rules for the ways -/
theorem sif_r {b : Bool} {A B : World → Prop} (h1 : b = true → A w) (h2 : b = false → B w) : sif b A B w := ⟨h1, h2⟩
theorem join_r {T : Type} {body : (T → World → Prop) → World → Prop} {rest : T → World → Prop} (J : T → World → Prop) (hb : body J w) (hr : ∀ s w', J s w' → rest s w') : join body rest w := ⟨J, hb, hr⟩
theorem sloop_r {T : Type} {body : T → (T → World → Prop) → World → Prop} {s0 : T} (I : T → World → Prop) (μ : T → World → Nat) (h0 : I s0 w)
    (hr : ∀ s w', I s w' → body s (fun s' w'' => I s' w'' ∧ μ s' w'' < μ s w') w') : sloop body s0 w := ⟨I, μ, h0, hr⟩
theorem keep_r {p K : World → Prop} (h1 : p w) (h2 : K w) : keep p K w := ⟨h1, h2⟩
theorem chk_r {c : Prop} {K : World → Prop} (h1 : c) (h2 : K w) : chk c K w := ⟨(), h1, h2⟩
theorem tupb {a b : Bool} (h : a = true ↔ b = true) : (a, ()) = (b, ()) := by rw [Bool.eq_iff_iff.2 h]

/-- an element of one cell -/
theorem ix_ld {c : Cell} {s : Sl} {t : TypeId} {xs : List c.T} {n : Int} {K : Addr → c.T → World → Prop} (h : SlIn w s t 1 (xs.map c.val)) (h0 : 0 ≤ n) {x : c.T} (hx : xs[n.toNat]? = some x) (hK : ∀ p, K p x w) :
    ix s.a s.len n (fun p => ld c (p.add (scaled (Int.toNat n) 1)) (K p)) w := by
  have hlt := (List.getElem?_eq_some_iff.1 hx).1
  have hl := h.len
  rw [List.length_map, Nat.mul_one] at hl
  refine h.ix h0 (by omega) (by omega) fun b off ha hv => ?_
  rw [addr_add]
  refine ld_of (x := x) ?_ (hK _)
  have := hv 0 (c.val x) (by rw [Nat.mul_one, Nat.add_zero, List.getElem?_map, hx]; rfl)
  simpa [scaled] using this

theorem SlIn.len1 {s : Sl} {t : TypeId} {vs : List Value} (h : SlIn w s t 1 vs) : vs.length = s.len := by have := h.len; omega
theorem SlOwn.len1 {B : Nat} {s : Sl} {t : TypeId} {vs : List Value} (h : SlOwn w B s t 1 vs) : vs.length = s.len := by have := h.len; omega
end
end Go.Vx
