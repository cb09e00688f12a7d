/-
  Maps with keys of any kind that compare at once: strings, ints. What a look, a store, a delete do.
-/
import Derived.Test.YtdabehgbhndimaaVxG
set_option linter.unusedSimpArgs false
set_option linter.unusedVariables false
namespace Go.Vx
open Go
/-- a kind of keys -/
structure Key (κ : Type) [BEq κ] [LawfulBEq κ] where
  kv : κ → Value
  desc : TypeDesc
  same : ∀ a b : κ, Instr.sameNow desc (kv a) (kv b) = some (a == b)
  check : ∀ (P : Program) (kt : TypeId) (b : Bool) (n : Nat) (a : κ) (w : World), P.underlying kt = some desc → (Instr.checkKey b (n + 1) kt (kv a)).run P w = .ok () w
  bits : ∀ n a, Instr.sameBits n (kv a) (kv a) = true
def Key.int : Key Int where
  kv := .int .i64
  desc := .int .i64
  same a b := by simp [Instr.sameNow]
  check P kt b n a w h := by simp [Instr.checkKey, run_underlying h]
  bits n a := by cases n <;> simp [Instr.sameBits]
instance lawfulBytes : LawfulBEq ByteArray where
  eq_of_beq {a b} h := by
    cases a; cases b
    have h : ByteArray.beq _ _ = true := h
    simp only [ByteArray.beq] at h
    simpa using h
  rfl {a} := by
    cases a
    show ByteArray.beq _ _ = true
    simp [ByteArray.beq]
def Key.str : Key ByteArray where
  kv := .string
  desc := .string
  same a b := by simp [Instr.sameNow]
  check P kt b n a w h := by simp [Instr.checkKey, run_underlying h]
  bits n a := by cases n <;> simp [Instr.sameBits]
abbrev KEnt (κ : Type) := κ × Value × Nat
section
variable {S S' : Nat → Prop} {w w' : World} {P : Program} {κ : Type} [BEq κ] [LawfulBEq κ] [DecidableEq κ] {k_ : Key κ}
def KEnt.ent (k_ : Key κ) (x : KEnt κ) : MapEntry := ⟨k_.kv x.1, x.2.1, x.2.2⟩

structure MapK (k_ : Key κ) (w : World) (m : Nat) (es : List (KEnt κ)) : Prop where
  heap : ∃ clock, w.heap[m]? = some (.map (es.map (KEnt.ent k_)).toArray clock) ∧ ∀ x ∈ es, x.2.2 < clock
  keys : (es.map (·.1)).Nodup
  born : (es.map (·.2.2)).Nodup

/-- what is held under a key -/
def kget (es : List (KEnt κ)) (k : κ) : Option Value := (es.find? (·.1 == k)).map (·.2.1)

theorem MapK.upd {m : Nat} {es : List (KEnt κ)} (h : MapK k_ w m es) (hu : Upd S w w') (hS : ¬ S m) : MapK k_ w' m es := by
  have _d := (inferInstance : DecidableEq κ)
  clear _d
  obtain ⟨⟨c, h1, h2⟩, h3, h4⟩ := h
  exact ⟨⟨c, hu.get h1 hS, h2⟩, h3, h4⟩
theorem MapK.ext {m : Nat} {es : List (KEnt κ)} (h : MapK k_ w m es) (hu : Ext w w') : MapK k_ w' m es := h.upd hu id

theorem findNow_k (k : κ) : ∀ (es : List (KEnt κ)) (i : Nat), Instr.findNow k_.desc (k_.kv k) (es.map (KEnt.ent k_)) i = some ((es.findIdx? (·.1 == k)).map fun j => (i + j, ((es[j]?).map (·.2.1)).getD default))
  | [], i => by simp [Instr.findNow]
  | x :: r, i => by
    simp only [List.map_cons, Instr.findNow, KEnt.ent, k_.same]
    by_cases hx : x.1 = k
    · subst hx; simp [List.findIdx?_cons]
    · have h1 : (k == x.1) = false := by simp; exact fun h => hx h.symm
      have h2 : (x.1 == k) = false := by simpa using hx
      rw [h1]
      simp only
      rw [findNow_k k r (i + 1), List.findIdx?_cons, h2]
      cases r.findIdx? (·.1 == k) with
      | none => simp
      | some j => simp; omega

theorem kget_eq (es : List (KEnt κ)) (k : κ) : kget es k = (es.findIdx? (·.1 == k)).map fun j => ((es[j]?).map (·.2.1)).getD default := by
  have _l := (inferInstance : LawfulBEq κ)
  clear _l
  have _d := (inferInstance : DecidableEq κ)
  clear _d
  unfold kget
  induction es with
  | nil => rfl
  | cons x r ih =>
    rw [List.find?_cons, List.findIdx?_cons]
    cases x.1 == k with
    | true => simp
    | false =>
      simp only [Bool.false_eq_true, if_false]
      rw [ih]
      cases r.findIdx? (·.1 == k) <;> simp

structure MapTyK (k_ : Key κ) (P : Program) (t : TypeId) (z : Value) : Prop where
  ok : ∃ kt et, P.underlying t = some (.map kt et) ∧ P.underlying kt = some k_.desc ∧ ∀ w, (zeroValue et).run P w = .ok z w

theorem MapTyK.of {t kt et : TypeId} {i ik ie : Inf} (h : InfOk P t i) (hk : InfOk P kt ik) (he : InfOk P et ie) (hd : i.desc = .map kt et) (hkd : ik.desc = k_.desc) {z : Value} (hz : ie.zero = some z) : MapTyK k_ P t z :=
  have _d := (inferInstance : DecidableEq κ)
  ⟨kt, et, by rw [h.und, hd], by rw [hk.und, hkd], fun w => he.run_zero w hz⟩

theorem run_findKeyK {kt : TypeId} (h : P.underlying kt = some k_.desc) (k : κ) (es : List (KEnt κ)) :
    (Instr.findKey kt (k_.kv k) (es.map (KEnt.ent k_))).run P w = .ok ((es.findIdx? (·.1 == k)).map fun j => (j, ((es[j]?).map (·.2.1)).getD default)) w := by
  simp only [Instr.findKey, Sem.run_bind, run_underlying h, Result.andThen_ok, findNow_k, Nat.zero_add, Sem.run_pure]

theorem lookupK_run {t : TypeId} {z : Value} (T : MapTyK k_ P t z) {m : Nat} {es : List (KEnt κ)} (hm : MapK k_ w m es) (k : κ) :
    (Instr.lookup t (.map (some m)) (k_.kv k) true).run P w = .ok (match kget es k with | some v => .tuple #[v, .bool true] | none => .tuple #[z, .bool false]) w := by
  obtain ⟨kt, et, h1, h2, h3⟩ := T.ok
  obtain ⟨⟨c, hh, _⟩, _, _⟩ := hm
  have hg : (getObj m).run P w = .ok (.map (es.map (KEnt.ent k_)).toArray c) w := by simp [getObj, Sem.run, hh]
  have hc : ∀ b, (Instr.checkKey b 10000 kt (k_.kv k)).run P w = .ok () w := fun b => k_.check P kt b 9999 k w h2
  simp only [Instr.lookup, Sem.run_bind, run_underlying h1, Result.andThen_ok, hg, Sem.run_pure, hc, run_findKeyK h2]
  rw [kget_eq]
  cases es.findIdx? (·.1 == k) with
  | none => simp [h3]
  | some j => simp

theorem lookupK1_run {t : TypeId} {z : Value} (T : MapTyK k_ P t z) {m : Nat} {es : List (KEnt κ)} (hm : MapK k_ w m es) (k : κ) :
    (Instr.lookup t (.map (some m)) (k_.kv k) false).run P w = .ok ((kget es k).getD z) w := by
  obtain ⟨kt, et, h1, h2, h3⟩ := T.ok
  obtain ⟨⟨c, hh, _⟩, _, _⟩ := hm
  have hg : (getObj m).run P w = .ok (.map (es.map (KEnt.ent k_)).toArray c) w := by simp [getObj, Sem.run, hh]
  have hc : ∀ b, (Instr.checkKey b 10000 kt (k_.kv k)).run P w = .ok () w := fun b => k_.check P kt b 9999 k w h2
  simp only [Instr.lookup, Sem.run_bind, run_underlying h1, Result.andThen_ok, hg, Sem.run_pure, hc, run_findKeyK h2]
  rw [kget_eq]
  cases es.findIdx? (·.1 == k) with
  | none => simp [h3]
  | some j => simp

theorem nodup_set_keyK : ∀ (es : List (KEnt κ)) (j : Nat) (v : Value), ((es.modify j fun x => (x.1, v, x.2.2)).map (·.1)) = es.map (·.1) ∧ ((es.modify j fun x => (x.1, v, x.2.2)).map (·.2.2)) = es.map (·.2.2)
  | [], j, v => by
    have _l := (inferInstance : LawfulBEq κ)
    clear _l
    have _d := (inferInstance : DecidableEq κ)
    clear _d
    cases j <;> simp [List.modify]
  | x :: r, 0, v => by simp
  | x :: r, j + 1, v => by
    have := nodup_set_keyK r j v
    simp [this.1, this.2]

theorem kget_modify : ∀ (es : List (KEnt κ)) (k : κ) (j : Nat) (v : Value), es.findIdx? (·.1 == k) = some j → ∀ k', kget (es.modify j fun x => (x.1, v, x.2.2)) k' = if k' = k then some v else kget es k'
  | [], k, j, v, h, k' => by simp at h
  | x :: r, k, j, v, h, k' => by
    rw [List.findIdx?_cons] at h
    by_cases hx : x.1 = k
    · simp [hx] at h
      subst h
      simp only [List.modify_zero_cons, kget, List.find?_cons]
      by_cases hk : k' = k
      · subst hk; simp [hx]
      · have : (x.1 == k') = false := by simp; rw [hx]; exact fun h => hk h.symm
        simp [this, hk]
    · have hx' : (x.1 == k) = false := by simpa using hx
      simp only [hx', Bool.false_eq_true, if_false] at h
      cases hr : r.findIdx? (·.1 == k) with
      | none => rw [hr] at h; simp at h
      | some i =>
        rw [hr] at h
        simp at h
        subst h
        have ih := kget_modify r k i v hr k'
        simp only [List.modify_succ_cons, kget, List.find?_cons]
        by_cases hk : x.1 = k'
        · have hne : ¬ k' = k := fun h => hx (hk.trans h)
          simp [hk, hne]
        · have : (x.1 == k') = false := by simpa using hk
          simp only [this]
          exact ih

theorem kget_push (es : List (KEnt κ)) (k : κ) (v : Value) (b : Nat) (h : es.findIdx? (·.1 == k) = none) (k' : κ) : kget (es ++ [(k, v, b)]) k' = if k' = k then some v else kget es k' := by
  unfold kget
  rw [List.find?_append]
  by_cases hk : k' = k
  · subst hk
    have : es.find? (·.1 == k') = none := by
      rw [List.find?_eq_none]
      rw [List.findIdx?_eq_none_iff] at h
      intro x hx; simpa using h x hx
    simp [this]
  · have : (k == k') = false := by simp; exact fun h => hk h.symm
    simp [this, hk]

theorem updateK_run {t : TypeId} {z : Value} (T : MapTyK k_ P t z) {m : Nat} {es : List (KEnt κ)} (hm : MapK k_ w m es) (k : κ) (v : Value) :
    ∃ es' w', (Instr.mapUpdate t (.map (some m)) (k_.kv k) v).run P w = .ok () w' ∧ MapK k_ w' m es' ∧ (∀ k', kget es' k' = if k' = k then some v else kget es k') ∧ Upd (fun b => b = m) w w' ∧ w'.heap.size = w.heap.size ∧ es'.length ≤ es.length + 1 := by
  obtain ⟨kt, et, h1, h2, h3⟩ := T.ok
  obtain ⟨⟨c, hh, hc'⟩, hk, hb⟩ := hm
  have hg : (getObj m).run P w = .ok (.map (es.map (KEnt.ent k_)).toArray c) w := by simp [getObj, Sem.run, hh]
  have hc : ∀ b, (Instr.checkKey b 10000 kt (k_.kv k)).run P w = .ok () w := fun b => k_.check P kt b 9999 k w h2
  have hset : ∀ o', (setObj m o').run P w = .ok () { w with heap := w.heap.setIfInBounds m o' } := fun o' => by simp [setObj, Sem.run, hh]
  cases hf : es.findIdx? (·.1 == k) with
  | none =>
    obtain ⟨u1, u2⟩ := upd_setObj (o' := .map ((es ++ [(k, v, c)]).map (KEnt.ent k_)).toArray (c + 1)) hh
    refine ⟨es ++ [(k, v, c)], _, ?_, ⟨⟨c + 1, u2, fun x hx => ?_⟩, ?_, ?_⟩, kget_push es k v c hf, u1, by simp, by simp⟩
    · simp only [Instr.mapUpdate, Sem.run_bind, run_underlying h1, Result.andThen_ok, hg, hc, run_findKeyK h2, hf, Option.map_none]
      have e : ((es.map (KEnt.ent k_)).toArray.push { key := k_.kv k, val := v, born := c }) = ((es ++ [(k, v, c)]).map (KEnt.ent k_)).toArray := by
        apply Array.ext'; simp [KEnt.ent]
      rw [e]
      exact hset _
    · rcases List.mem_append.1 hx with hx | hx
      · have := hc' x hx; omega
      · simp at hx; subst hx; simp
    · rw [List.map_append, List.nodup_append]
      refine ⟨hk, by simp, fun a ha b hb' => ?_⟩
      simp at hb'; subst hb'
      rw [List.findIdx?_eq_none_iff] at hf
      obtain ⟨x, hx, rfl⟩ := List.mem_map.1 ha
      simpa using hf x hx
    · rw [List.map_append, List.nodup_append]
      refine ⟨hb, by simp, fun a ha b hb' => ?_⟩
      simp at hb'; subst hb'
      obtain ⟨x, hx, rfl⟩ := List.mem_map.1 ha
      have := hc' x hx; omega
  | some j =>
    obtain ⟨e1, e2⟩ := nodup_set_keyK es j v
    obtain ⟨u1, u2⟩ := upd_setObj (o' := .map ((es.modify j fun x => (x.1, v, x.2.2)).map (KEnt.ent k_)).toArray c) hh
    have hj := List.findIdx?_eq_some_iff_getElem.1 hf
    obtain ⟨hjl, hjk, _⟩ := hj
    have hjk : es[j].1 = k := by simpa using hjk
    refine ⟨es.modify j fun x => (x.1, v, x.2.2), _, ?_, ⟨⟨c, u2, fun x hx => ?_⟩, by rw [e1]; exact hk, by rw [e2]; exact hb⟩, kget_modify es k j v hf, u1, by simp, by simp⟩
    · have hkey : ((((es.map (KEnt.ent k_)).toArray[j]?).map (·.key)).getD (k_.kv k)) = k_.kv k := by
        simp [List.getElem?_map, List.getElem?_eq_getElem hjl, KEnt.ent, hjk]
      have hstay : (Instr.keyThatStays (k_.kv k) (k_.kv k)).run P w = .ok (k_.kv k) w := by
        simp [Instr.keyThatStays, k_.bits]
      simp only [Instr.mapUpdate, Sem.run_bind, run_underlying h1, Result.andThen_ok, hg, hc, run_findKeyK h2, hf, Option.map_some, hkey, hstay]
      have e : ((es.map (KEnt.ent k_)).toArray.modify j fun e => { e with key := k_.kv k, val := v }) = ((es.modify j fun x => (x.1, v, x.2.2)).map (KEnt.ent k_)).toArray := by
        apply Array.ext'
        simp only [Array.toList_modify]
        apply List.ext_getElem?
        intro i
        simp only [List.getElem?_modify, List.getElem?_map]
        by_cases hij : j = i
        · subst hij
          simp [List.getElem?_eq_getElem hjl, KEnt.ent, hjk]
        · simp [hij]
      rw [e]
      exact hset _
    · have : x.2.2 ∈ (es.modify j fun x => (x.1, v, x.2.2)).map (·.2.2) := List.mem_map_of_mem hx
      rw [e2] at this
      obtain ⟨y, hy, hxy⟩ := List.mem_map.1 this
      rw [← hxy]; exact hc' y hy

theorem kget_erase : ∀ (es : List (KEnt κ)) (k : κ) (j : Nat), (es.map (·.1)).Nodup → es.findIdx? (·.1 == k) = some j → ∀ k', kget (es.eraseIdx j) k' = if k' = k then none else kget es k'
  | [], k, j, _, h, k' => by simp at h
  | x :: r, k, j, hn, h, k' => by
    rw [List.findIdx?_cons] at h
    simp only [List.map_cons, List.nodup_cons] at hn
    by_cases hx : x.1 = k
    · simp [hx] at h
      subst h
      simp only [List.eraseIdx_zero, List.tail_cons]
      by_cases hk : k' = k
      · subst hk
        simp only [if_true]
        unfold kget
        have : r.find? (·.1 == k') = none := by
          rw [List.find?_eq_none]
          intro y hy
          simp
          intro he
          exact hn.1 (by rw [hx, ← he]; exact List.mem_map_of_mem hy)
        rw [this]; rfl
      · have : (x.1 == k') = false := by simp; rw [hx]; exact fun h => hk h.symm
        simp [kget, List.find?_cons, this, hk]
    · have hx' : (x.1 == k) = false := by simpa using hx
      simp only [hx', Bool.false_eq_true, if_false] at h
      cases hr : r.findIdx? (·.1 == k) with
      | none => rw [hr] at h; simp at h
      | some i =>
        rw [hr] at h
        simp at h
        subst h
        have ih := kget_erase r k i hn.2 hr k'
        simp only [List.eraseIdx_cons_succ, kget, List.find?_cons]
        by_cases hk : x.1 = k'
        · have hne : ¬ k' = k := fun h => hx (hk.trans h)
          simp [hk, hne]
        · have : (x.1 == k') = false := by simpa using hk
          simp only [this]
          exact ih

theorem deleteK_run {t kt' rt : TypeId} {z : Value} (T : MapTyK k_ P t z) {m : Nat} {es : List (KEnt κ)} (hm : MapK k_ w m es) (k : κ) :
    ∃ es' w', (Builtin.delete_ #[t, kt'] rt #[.map (some m), k_.kv k]).run P w = .ok (.tuple #[]) w' ∧ MapK k_ w' m es' ∧ (∀ k', kget es' k' = if k' = k then none else kget es k') ∧ Upd (fun b => b = m) w w' ∧ w'.heap.size = w.heap.size ∧ es'.length ≤ es.length := by
  obtain ⟨kt, et, h1, h2, h3⟩ := T.ok
  obtain ⟨⟨c, hh, hc'⟩, hk, hb⟩ := hm
  have hg : (getObj m).run P w = .ok (.map (es.map (KEnt.ent k_)).toArray c) w := by simp [getObj, Sem.run, hh]
  have hc : ∀ b, (Instr.checkKey b 10000 kt (k_.kv k)).run P w = .ok () w := fun b => k_.check P kt b 9999 k w h2
  have hset : ∀ o', (setObj m o').run P w = .ok () { w with heap := w.heap.setIfInBounds m o' } := fun o' => by simp [setObj, Sem.run, hh]
  cases hf : es.findIdx? (·.1 == k) with
  | none =>
    obtain ⟨u1, u2⟩ := upd_setObj (o' := .map (es.map (KEnt.ent k_)).toArray c) hh
    refine ⟨es, _, ?_, ⟨⟨c, u2, hc'⟩, hk, hb⟩, fun k' => ?_, u1, by simp, Nat.le_refl _⟩
    · simp [Builtin.delete_, run_underlying h1, hg, hc, run_findKeyK h2, hf, hset]
    · by_cases hkk : k' = k
      · subst hkk; rw [if_pos rfl, kget_eq, hf]; rfl
      · rw [if_neg hkk]
  | some j =>
    obtain ⟨hjl, _, _⟩ := List.findIdx?_eq_some_iff_getElem.1 hf
    obtain ⟨u1, u2⟩ := upd_setObj (o' := .map ((es.eraseIdx j).map (KEnt.ent k_)).toArray c) hh
    refine ⟨es.eraseIdx j, _, ?_, ⟨⟨c, u2, fun x hx => hc' x (List.mem_of_mem_eraseIdx hx)⟩, ?_, ?_⟩, kget_erase es k j hk hf, u1, by simp, ?_⟩
    · have e : (es.map (KEnt.ent k_)).toArray.eraseIdxIfInBounds j = ((es.eraseIdx j).map (KEnt.ent k_)).toArray := by
        apply Array.ext'
        simp [Array.eraseIdxIfInBounds, hjl, map_erase]
      simp [Builtin.delete_, run_underlying h1, hg, hc, run_findKeyK h2, hf, hset, map_erase]
    · rw [map_erase]; exact hk.sublist (List.eraseIdx_sublist _ _)
    · rw [map_erase]; exact hb.sublist (List.eraseIdx_sublist _ _)
    · rw [List.length_eraseIdx]; split <;> omega

theorem MapK.made (m : Nat) (h : w.heap[m]? = some (.map #[] 0)) : MapK k_ w m [] :=
  have _d := (inferInstance : DecidableEq κ)
  ⟨⟨0, h, fun _ hx => by cases hx⟩, List.nodup_nil, List.nodup_nil⟩

end
end Go.Vx
