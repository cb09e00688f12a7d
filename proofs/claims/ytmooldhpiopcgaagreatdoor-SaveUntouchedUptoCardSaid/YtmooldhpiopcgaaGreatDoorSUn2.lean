/- YtmooldhpiopcgaaGreatDoorSUn2: parts of the proof, put together by program. -/
import Derived.Test.YtmooldhpiopcgaaGreatDoorSUn1
set_option linter.unusedVariables false
set_option linter.unusedSimpArgs false
set_option linter.unusedSectionVars false
set_option linter.unusedSimpArgs false
set_option linter.unusedVariables false
namespace Go.Vx
open Go
section
variable {w w' : World} {P : Program}
theorem append_run2 (P : Program) {ts xt rt : TypeId} {e xe : TypeId} {i : TypeInfo} {z : Value} (hts : P.underlying ts = some (.slice e)) (hxt : P.underlying xt = some (.slice xe)) (hi : P.info? e = some i) (hz : i.zero = some z)
    {B : Nat} {s x : Sl} {vs us : List Value} (hs : SlOwn w B s e i.size vs) (hx : SlX w x i.size us) (h1 : ∀ v ∈ us, isOne v = true) (hzl : z.cells.size = i.size)
    (hroom : (s.len + x.len + (s.len + x.len) / 4 + 512) * i.bytes ≤ 2 ^ 48) (hb0 : 0 < i.bytes) (hB : B ≤ w.heap.size) :
    ∃ s' w', (Builtin.append_ #[ts, xt] rt #[.slice s.a s.len s.cap, .slice x.a x.len x.cap]).run P w = .ok (.slice s'.a s'.len s'.cap) w' ∧ SlOwn w' B s' e i.size (vs ++ us) ∧ s'.len = s.len + x.len ∧
      Upd (fun k => s.blk k) w w' ∧ (∀ k, s'.blk k → s.blk k ∨ w.heap.size ≤ k) ∧ (Ext w w' ∨ ∃ b off c, s.a = some ⟨b, off, none⟩ ∧ w.heap[b]? = some (.cells c e (0, 0)) ∧ w'.heap[b]? = some (.cells (setRow c (off + s.len * i.size) us) e (0, 0))) := by
  have hfx := run_firstCellsX P hx
  have hfs := run_firstCells P hs.in
  have hu1 := fun W => run_underlying hts W
  have hu2 := fun W => run_underlying hxt W
  have hsz : ∀ W, (sizeOf e).run P W = .ok i.size W := fun W => by simp [sizeOf, run_typeInfo W hi]
  have hti : ∀ W, (typeInfo e).run P W = .ok i W := fun W => run_typeInfo W hi
  have hzv : ∀ W, (zeroValue e).run P W = .ok z W := fun W => by simp [zeroValue, run_typeInfo W hi, hz]
  have hlen := hs.len
  have hxlen := hx.len
  by_cases hneed : s.len + x.len ≤ s.cap
  ·
    rcases hs.at_ with ⟨ha, hc⟩ | ⟨b, off, c, ha, hB', hb, hcap, hv⟩
    · have hl0 : x.len = 0 := by omega
      have hsl : s.len = 0 := by omega
      have hus : us = [] := by rw [hl0, Nat.zero_mul] at hxlen; exact List.length_eq_zero_iff.1 hxlen
      refine ⟨⟨none, 0, s.cap⟩, w, ?_, ⟨by simp [hus, hlen, hsl], by simp, .inl ⟨rfl, hc⟩⟩, by simp [hl0, hsl], Upd.refl _ _, (fun k hk => by obtain ⟨p, hp, _⟩ := hk; cases hp), .inl (Ext.refl w)⟩
      have hfx' : (Builtin.firstCells i.size 0 (.slice x.a 0 x.cap)).run P w = .ok #[] w := by rw [hl0, hus] at hfx; exact hfx
      simp [Builtin.append_, hu1, hu2, hsz, Builtin.lenOf, hl0, hsl, ha, hfx', hc]
    · have hfit : s.len * i.size + us.length ≤ s.cap * i.size := by
        rw [hxlen, ← Nat.add_mul]; exact Nat.mul_le_mul_right _ hneed
      obtain ⟨w1, hr, hu, hb1, _⟩ := run_storeRow P us b (off + s.len * i.size) 0 c e w h1 hb (by omega)
      refine ⟨⟨s.a, s.len + x.len, s.cap⟩, w1, ?_, ⟨by simp [hlen, hxlen, Nat.add_mul], hneed, .inr ⟨b, off, setRow c (off + s.len * i.size + 0) us, ha, hB', hb1, by rw [size_setRow]; exact hcap, ?_⟩⟩, rfl, hu.mono fun k _ hk => ⟨_, ha, hk.symm⟩, fun k hk => .inl hk, .inr ⟨b, off, c, ha, hb, hb1⟩⟩
      · simp [Builtin.append_, hu1, hu2, hsz, Builtin.lenOf, hneed, hfx, ha, addr_add, hr]
      · intro j v hj
        rw [Nat.add_zero]
        by_cases hjl : j < vs.length
        · rw [List.getElem?_append_left hjl] at hj
          rw [get_setRow_lt _ _ _ _ (by omega)]; exact hv j v hj
        · rw [List.getElem?_append_right (by omega)] at hj
          have hlt := (List.getElem?_eq_some_iff.1 hj).1
          rw [show off + j = off + s.len * i.size + (j - vs.length) by omega, get_setRow _ _ _ _ (by omega) hlt]
          exact hj
  ·
    have hle := nextslicecap_le (need := s.len + x.len) (old := s.cap) (by omega)
    have hroom' : ¬ (Builtin.nextslicecap (s.len + x.len) s.cap * i.bytes > 2 ^ 48) := by
      have := Nat.mul_le_mul_right i.bytes hle
      omega
    obtain ⟨nc, hnc, hncl⟩ : ∃ nc, (Question.appendCap (s.len + x.len) s.cap e).cut (w.tape w.drawn (Question.appendCap (s.len + x.len) s.cap e)) = nc ∧ s.len + x.len ≤ nc := ⟨_, rfl, by simp only [Question.cut]; omega⟩
    have hfx' : (Builtin.firstCells i.size x.len (.slice x.a x.len x.cap)).run P w.drew = .ok us.toArray w.drew := run_firstCellsX P (hx.ext (Ext.drew w))
    have hfs' : (Builtin.firstCells i.size s.len (.slice s.a s.len s.cap)).run P w.drew = .ok vs.toArray w.drew := run_firstCells P (hs.in.ext (Ext.drew w))
    let row := vs.toArray ++ us.toArray ++ Builtin.zeroCells z.cells (nc - (s.len + x.len))
    have hrow : row.size = nc * i.size := by
      simp only [row, Array.size_append, List.size_toArray, Builtin.zeroCells, Array.size_map, Array.size_range, hzl, hlen, hxlen]
      rw [← Nat.add_mul, ← Nat.add_mul]
      congr 1; omega
    have hext : Ext w (w.drew.alloc (.cells row e)) := (Ext.drew w).trans (Ext.alloc w.drew _)
    refine ⟨⟨some ⟨w.heap.size, 0, none⟩, s.len + x.len, nc⟩, w.drew.alloc (.cells row e), ?_, ⟨by simp [hlen, hxlen, Nat.add_mul], hncl, .inr ⟨w.heap.size, 0, row, rfl, hB, heap_alloc w.drew _, by rw [hrow]; simp, ?_⟩⟩, rfl,
      (Upd.of_ext hext), (fun k hk => .inr (by obtain ⟨p, hp, rfl⟩ := hk; cases hp; exact Nat.le_refl _)), .inl hext⟩
    · have hb0' : ¬ i.bytes = 0 := by omega
      simp [Builtin.append_, hu1, hu2, hsz, Builtin.lenOf, hneed, hti, hb0', hroom', run_askRoom, hfs', hfx', hzv, newRow, newObj, Sem.run, Question.forced, hnc, row]
    · intro j v hj
      rw [Nat.zero_add]
      have hlt := (List.getElem?_eq_some_iff.1 hj).1
      have : row[j]? = (vs ++ us)[j]? := by
        simp only [row]
        rw [Array.getElem?_append_left (by simpa using hlt)]
        simp
      rw [this]; exact hj
theorem ix_st {c : Cell} {s : Sl} {t : TypeId} {B : Nat} {xs : List c.T} {n : Int} {x : c.T} {K : World → Prop} (h : SlOwn w B s t 1 (xs.map c.val)) (h0 : 0 ≤ n) (hn : n < s.len)
    (hK : ∀ w', SlOwn w' B s t 1 ((xs.set n.toNat x).map c.val) → Upd s.blk w w' → w'.heap.size = w.heap.size → K w') : ix s.a s.len n (fun p => stC (p.add (scaled n.toNat 1)) (c.val x) K) w := by
  have hl := h.len1
  rw [List.length_map] at hl
  rcases h.at_ with ⟨ha, hc⟩ | ⟨b, off, cs, ha, hB, hb, hcap, hv⟩
  · have := h.le; omega
  · have hle := h.le
    refine ⟨⟨b, off, none⟩, ⟨ha, h0, hn⟩, ?_⟩
    dsimp only
    rw [addr_add, scaled_eq, Nat.mul_one]
    refine stC_r hb (by omega) fun w1 u1 n1 hz => hK w1 ⟨by simp [hl], h.le, .inr ⟨b, off, _, ha, hB, n1, by simpa using hcap, fun i v hi => ?_⟩⟩ (u1.mono fun k _ hk => ⟨_, ha, hk.symm⟩) hz
    rw [List.getElem?_map, List.getElem?_set] at hi
    by_cases hin : n.toNat = i
    · rw [if_pos hin, if_pos (by omega)] at hi
      rw [Array.getElem?_setIfInBounds, if_pos (by omega), if_pos (by omega)]
      exact hi
    · rw [if_neg hin] at hi
      rw [Array.getElem?_setIfInBounds, if_neg (by omega)]
      exact hv i v (by rw [List.getElem?_map]; exact hi)
end
end Go.Vx
set_option linter.unusedSimpArgs false
set_option linter.unusedVariables false
namespace Go.Vx
open Go
structure Key (κ : Type) [BEq κ] [LawfulBEq κ] where
  kv : κ → Value
  desc : TypeDesc
  same : ∀ a b : κ, Instr.sameNow desc (kv a) (kv b) = some (a == b)
  check : ∀ (P : Program) (kt : TypeId) (b : Bool) (n : Nat) (a : κ) (w : World), P.underlying kt = some desc → (Instr.checkKey b (n + 1) kt (kv a)).run P w = .ok () w
  bits : ∀ n a, Instr.sameBits n (kv a) (kv a) = true
def Key.int : Key Int where
  kv := .int .i64
  desc := .int .i64
  same a b := by simp [Instr.sameNow]
  check P kt b n a w h := by simp [Instr.checkKey, run_underlying h]
  bits n a := by cases n <;> simp [Instr.sameBits]
instance lawfulBytes : LawfulBEq ByteArray where
  eq_of_beq {a b} h := by
    cases a; cases b
    have h : ByteArray.beq _ _ = true := h
    simp only [ByteArray.beq] at h
    simpa using h
  rfl {a} := by
    cases a
    show ByteArray.beq _ _ = true
    simp [ByteArray.beq]
def Key.str : Key ByteArray where
  kv := .string
  desc := .string
  same a b := by simp [Instr.sameNow]
  check P kt b n a w h := by simp [Instr.checkKey, run_underlying h]
  bits n a := by cases n <;> simp [Instr.sameBits]
abbrev KEnt (κ : Type) := κ × Value × Nat
section
variable {S S' : Nat → Prop} {w w' : World} {P : Program} {κ : Type} [BEq κ] [LawfulBEq κ] [DecidableEq κ] {k_ : Key κ}
def KEnt.ent (k_ : Key κ) (x : KEnt κ) : MapEntry := ⟨k_.kv x.1, x.2.1, x.2.2⟩
structure MapK (k_ : Key κ) (w : World) (m : Nat) (es : List (KEnt κ)) : Prop where
  heap : ∃ clock, w.heap[m]? = some (.map (es.map (KEnt.ent k_)).toArray clock) ∧ ∀ x ∈ es, x.2.2 < clock
  keys : (es.map (·.1)).Nodup
  born : (es.map (·.2.2)).Nodup
def kget (es : List (KEnt κ)) (k : κ) : Option Value := (es.find? (·.1 == k)).map (·.2.1)
theorem MapK.upd {m : Nat} {es : List (KEnt κ)} (h : MapK k_ w m es) (hu : Upd S w w') (hS : ¬ S m) : MapK k_ w' m es := by
  have _d := (inferInstance : DecidableEq κ)
  clear _d
  obtain ⟨⟨c, h1, h2⟩, h3, h4⟩ := h
  exact ⟨⟨c, hu.get h1 hS, h2⟩, h3, h4⟩
theorem findNow_k (k : κ) : ∀ (es : List (KEnt κ)) (i : Nat), Instr.findNow k_.desc (k_.kv k) (es.map (KEnt.ent k_)) i = some ((es.findIdx? (·.1 == k)).map fun j => (i + j, ((es[j]?).map (·.2.1)).getD default))
  | [], i => by simp [Instr.findNow]
  | x :: r, i => by
    simp only [List.map_cons, Instr.findNow, KEnt.ent, k_.same]
    by_cases hx : x.1 = k
    · subst hx; simp [List.findIdx?_cons]
    · have h1 : (k == x.1) = false := by simp; exact fun h => hx h.symm
      have h2 : (x.1 == k) = false := by simpa using hx
      rw [h1]
      simp only
      rw [findNow_k k r (i + 1), List.findIdx?_cons, h2]
      cases r.findIdx? (·.1 == k) with
      | none => simp
      | some j => simp; omega
theorem kget_eq (es : List (KEnt κ)) (k : κ) : kget es k = (es.findIdx? (·.1 == k)).map fun j => ((es[j]?).map (·.2.1)).getD default := by
  have _l := (inferInstance : LawfulBEq κ)
  clear _l
  have _d := (inferInstance : DecidableEq κ)
  clear _d
  unfold kget
  induction es with
  | nil => rfl
  | cons x r ih =>
    rw [List.find?_cons, List.findIdx?_cons]
    cases x.1 == k with
    | true => simp
    | false =>
      simp only [Bool.false_eq_true, if_false]
      rw [ih]
      cases r.findIdx? (·.1 == k) <;> simp
structure MapTyK (k_ : Key κ) (P : Program) (t : TypeId) (z : Value) : Prop where
  ok : ∃ kt et, P.underlying t = some (.map kt et) ∧ P.underlying kt = some k_.desc ∧ ∀ w, (zeroValue et).run P w = .ok z w
theorem MapTyK.of {t kt et : TypeId} {i ik ie : Inf} (h : InfOk P t i) (hk : InfOk P kt ik) (he : InfOk P et ie) (hd : i.desc = .map kt et) (hkd : ik.desc = k_.desc) {z : Value} (hz : ie.zero = some z) : MapTyK k_ P t z :=
  have _d := (inferInstance : DecidableEq κ)
  ⟨kt, et, by rw [h.und, hd], by rw [hk.und, hkd], fun w => he.run_zero w hz⟩
theorem run_findKeyK {kt : TypeId} (h : P.underlying kt = some k_.desc) (k : κ) (es : List (KEnt κ)) :
    (Instr.findKey kt (k_.kv k) (es.map (KEnt.ent k_))).run P w = .ok ((es.findIdx? (·.1 == k)).map fun j => (j, ((es[j]?).map (·.2.1)).getD default)) w := by
  simp only [Instr.findKey, Sem.run_bind, run_underlying h, Result.andThen_ok, findNow_k, Nat.zero_add, Sem.run_pure]
theorem lookupK1_run {t : TypeId} {z : Value} (T : MapTyK k_ P t z) {m : Nat} {es : List (KEnt κ)} (hm : MapK k_ w m es) (k : κ) :
    (Instr.lookup t (.map (some m)) (k_.kv k) false).run P w = .ok ((kget es k).getD z) w := by
  obtain ⟨kt, et, h1, h2, h3⟩ := T.ok
  obtain ⟨⟨c, hh, _⟩, _, _⟩ := hm
  have hg : (getObj m).run P w = .ok (.map (es.map (KEnt.ent k_)).toArray c) w := by simp [getObj, Sem.run, hh]
  have hc : ∀ b, (Instr.checkKey b 10000 kt (k_.kv k)).run P w = .ok () w := fun b => k_.check P kt b 9999 k w h2
  simp only [Instr.lookup, Sem.run_bind, run_underlying h1, Result.andThen_ok, hg, Sem.run_pure, hc, run_findKeyK h2]
  rw [kget_eq]
  cases es.findIdx? (·.1 == k) with
  | none => simp [h3]
  | some j => simp
theorem nodup_set_keyK : ∀ (es : List (KEnt κ)) (j : Nat) (v : Value), ((es.modify j fun x => (x.1, v, x.2.2)).map (·.1)) = es.map (·.1) ∧ ((es.modify j fun x => (x.1, v, x.2.2)).map (·.2.2)) = es.map (·.2.2)
  | [], j, v => by
    have _l := (inferInstance : LawfulBEq κ)
    clear _l
    have _d := (inferInstance : DecidableEq κ)
    clear _d
    cases j <;> simp [List.modify]
  | x :: r, 0, v => by simp
  | x :: r, j + 1, v => by
    have := nodup_set_keyK r j v
    simp [this.1, this.2]
theorem kget_modify : ∀ (es : List (KEnt κ)) (k : κ) (j : Nat) (v : Value), es.findIdx? (·.1 == k) = some j → ∀ k', kget (es.modify j fun x => (x.1, v, x.2.2)) k' = if k' = k then some v else kget es k'
  | [], k, j, v, h, k' => by simp at h
  | x :: r, k, j, v, h, k' => by
    rw [List.findIdx?_cons] at h
    by_cases hx : x.1 = k
    · simp [hx] at h
      subst h
      simp only [List.modify_zero_cons, kget, List.find?_cons]
      by_cases hk : k' = k
      · subst hk; simp [hx]
      · have : (x.1 == k') = false := by simp; rw [hx]; exact fun h => hk h.symm
        simp [this, hk]
    · have hx' : (x.1 == k) = false := by simpa using hx
      simp only [hx', Bool.false_eq_true, if_false] at h
      cases hr : r.findIdx? (·.1 == k) with
      | none => rw [hr] at h; simp at h
      | some i =>
        rw [hr] at h
        simp at h
        subst h
        have ih := kget_modify r k i v hr k'
        simp only [List.modify_succ_cons, kget, List.find?_cons]
        by_cases hk : x.1 = k'
        · have hne : ¬ k' = k := fun h => hx (hk.trans h)
          simp [hk, hne]
        · have : (x.1 == k') = false := by simpa using hk
          simp only [this]
          exact ih
theorem kget_push (es : List (KEnt κ)) (k : κ) (v : Value) (b : Nat) (h : es.findIdx? (·.1 == k) = none) (k' : κ) : kget (es ++ [(k, v, b)]) k' = if k' = k then some v else kget es k' := by
  unfold kget
  rw [List.find?_append]
  by_cases hk : k' = k
  · subst hk
    have : es.find? (·.1 == k') = none := by
      rw [List.find?_eq_none]
      rw [List.findIdx?_eq_none_iff] at h
      intro x hx; simpa using h x hx
    simp [this]
  · have : (k == k') = false := by simp; exact fun h => hk h.symm
    simp [this, hk]
theorem updateK_run {t : TypeId} {z : Value} (T : MapTyK k_ P t z) {m : Nat} {es : List (KEnt κ)} (hm : MapK k_ w m es) (k : κ) (v : Value) :
    ∃ es' w', (Instr.mapUpdate t (.map (some m)) (k_.kv k) v).run P w = .ok () w' ∧ MapK k_ w' m es' ∧ (∀ k', kget es' k' = if k' = k then some v else kget es k') ∧ Upd (fun b => b = m) w w' ∧ w'.heap.size = w.heap.size ∧ es'.length ≤ es.length + 1 := by
  obtain ⟨kt, et, h1, h2, h3⟩ := T.ok
  obtain ⟨⟨c, hh, hc'⟩, hk, hb⟩ := hm
  have hg : (getObj m).run P w = .ok (.map (es.map (KEnt.ent k_)).toArray c) w := by simp [getObj, Sem.run, hh]
  have hc : ∀ b, (Instr.checkKey b 10000 kt (k_.kv k)).run P w = .ok () w := fun b => k_.check P kt b 9999 k w h2
  have hset : ∀ o', (setObj m o').run P w = .ok () { w with heap := w.heap.setIfInBounds m o' } := fun o' => by simp [setObj, Sem.run, hh]
  cases hf : es.findIdx? (·.1 == k) with
  | none =>
    obtain ⟨u1, u2⟩ := upd_setObj (o' := .map ((es ++ [(k, v, c)]).map (KEnt.ent k_)).toArray (c + 1)) hh
    refine ⟨es ++ [(k, v, c)], _, ?_, ⟨⟨c + 1, u2, fun x hx => ?_⟩, ?_, ?_⟩, kget_push es k v c hf, u1, by simp, by simp⟩
    · simp only [Instr.mapUpdate, Sem.run_bind, run_underlying h1, Result.andThen_ok, hg, hc, run_findKeyK h2, hf, Option.map_none]
      have e : ((es.map (KEnt.ent k_)).toArray.push { key := k_.kv k, val := v, born := c }) = ((es ++ [(k, v, c)]).map (KEnt.ent k_)).toArray := by
        apply Array.ext'; simp [KEnt.ent]
      rw [e]
      exact hset _
    · rcases List.mem_append.1 hx with hx | hx
      · have := hc' x hx; omega
      · simp at hx; subst hx; simp
    · rw [List.map_append, List.nodup_append]
      refine ⟨hk, by simp, fun a ha b hb' => ?_⟩
      simp at hb'; subst hb'
      rw [List.findIdx?_eq_none_iff] at hf
      obtain ⟨x, hx, rfl⟩ := List.mem_map.1 ha
      simpa using hf x hx
    · rw [List.map_append, List.nodup_append]
      refine ⟨hb, by simp, fun a ha b hb' => ?_⟩
      simp at hb'; subst hb'
      obtain ⟨x, hx, rfl⟩ := List.mem_map.1 ha
      have := hc' x hx; omega
  | some j =>
    obtain ⟨e1, e2⟩ := nodup_set_keyK es j v
    obtain ⟨u1, u2⟩ := upd_setObj (o' := .map ((es.modify j fun x => (x.1, v, x.2.2)).map (KEnt.ent k_)).toArray c) hh
    have hj := List.findIdx?_eq_some_iff_getElem.1 hf
    obtain ⟨hjl, hjk, _⟩ := hj
    have hjk : es[j].1 = k := by simpa using hjk
    refine ⟨es.modify j fun x => (x.1, v, x.2.2), _, ?_, ⟨⟨c, u2, fun x hx => ?_⟩, by rw [e1]; exact hk, by rw [e2]; exact hb⟩, kget_modify es k j v hf, u1, by simp, by simp⟩
    · have hkey : ((((es.map (KEnt.ent k_)).toArray[j]?).map (·.key)).getD (k_.kv k)) = k_.kv k := by
        simp [List.getElem?_map, List.getElem?_eq_getElem hjl, KEnt.ent, hjk]
      have hstay : (Instr.keyThatStays (k_.kv k) (k_.kv k)).run P w = .ok (k_.kv k) w := by
        simp [Instr.keyThatStays, k_.bits]
      simp only [Instr.mapUpdate, Sem.run_bind, run_underlying h1, Result.andThen_ok, hg, hc, run_findKeyK h2, hf, Option.map_some, hkey, hstay]
      have e : ((es.map (KEnt.ent k_)).toArray.modify j fun e => { e with key := k_.kv k, val := v }) = ((es.modify j fun x => (x.1, v, x.2.2)).map (KEnt.ent k_)).toArray := by
        apply Array.ext'
        simp only [Array.toList_modify]
        apply List.ext_getElem?
        intro i
        simp only [List.getElem?_modify, List.getElem?_map]
        by_cases hij : j = i
        · subst hij
          simp [List.getElem?_eq_getElem hjl, KEnt.ent, hjk]
        · simp [hij]
      rw [e]
      exact hset _
    · have : x.2.2 ∈ (es.modify j fun x => (x.1, v, x.2.2)).map (·.2.2) := List.mem_map_of_mem hx
      rw [e2] at this
      obtain ⟨y, hy, hxy⟩ := List.mem_map.1 this
      rw [← hxy]; exact hc' y hy
theorem kget_erase : ∀ (es : List (KEnt κ)) (k : κ) (j : Nat), (es.map (·.1)).Nodup → es.findIdx? (·.1 == k) = some j → ∀ k', kget (es.eraseIdx j) k' = if k' = k then none else kget es k'
  | [], k, j, _, h, k' => by simp at h
  | x :: r, k, j, hn, h, k' => by
    rw [List.findIdx?_cons] at h
    simp only [List.map_cons, List.nodup_cons] at hn
    by_cases hx : x.1 = k
    · simp [hx] at h
      subst h
      simp only [List.eraseIdx_zero, List.tail_cons]
      by_cases hk : k' = k
      · subst hk
        simp only [if_true]
        unfold kget
        have : r.find? (·.1 == k') = none := by
          rw [List.find?_eq_none]
          intro y hy
          simp
          intro he
          exact hn.1 (by rw [hx, ← he]; exact List.mem_map_of_mem hy)
        rw [this]; rfl
      · have : (x.1 == k') = false := by simp; rw [hx]; exact fun h => hk h.symm
        simp [kget, List.find?_cons, this, hk]
    · have hx' : (x.1 == k) = false := by simpa using hx
      simp only [hx', Bool.false_eq_true, if_false] at h
      cases hr : r.findIdx? (·.1 == k) with
      | none => rw [hr] at h; simp at h
      | some i =>
        rw [hr] at h
        simp at h
        subst h
        have ih := kget_erase r k i hn.2 hr k'
        simp only [List.eraseIdx_cons_succ, kget, List.find?_cons]
        by_cases hk : x.1 = k'
        · have hne : ¬ k' = k := fun h => hx (hk.trans h)
          simp [hk, hne]
        · have : (x.1 == k') = false := by simpa using hk
          simp only [this]
          exact ih
theorem deleteK_run {t kt' rt : TypeId} {z : Value} (T : MapTyK k_ P t z) {m : Nat} {es : List (KEnt κ)} (hm : MapK k_ w m es) (k : κ) :
    ∃ es' w', (Builtin.delete_ #[t, kt'] rt #[.map (some m), k_.kv k]).run P w = .ok (.tuple #[]) w' ∧ MapK k_ w' m es' ∧ (∀ k', kget es' k' = if k' = k then none else kget es k') ∧ Upd (fun b => b = m) w w' ∧ w'.heap.size = w.heap.size ∧ es'.length ≤ es.length := by
  obtain ⟨kt, et, h1, h2, h3⟩ := T.ok
  obtain ⟨⟨c, hh, hc'⟩, hk, hb⟩ := hm
  have hg : (getObj m).run P w = .ok (.map (es.map (KEnt.ent k_)).toArray c) w := by simp [getObj, Sem.run, hh]
  have hc : ∀ b, (Instr.checkKey b 10000 kt (k_.kv k)).run P w = .ok () w := fun b => k_.check P kt b 9999 k w h2
  have hset : ∀ o', (setObj m o').run P w = .ok () { w with heap := w.heap.setIfInBounds m o' } := fun o' => by simp [setObj, Sem.run, hh]
  cases hf : es.findIdx? (·.1 == k) with
  | none =>
    obtain ⟨u1, u2⟩ := upd_setObj (o' := .map (es.map (KEnt.ent k_)).toArray c) hh
    refine ⟨es, _, ?_, ⟨⟨c, u2, hc'⟩, hk, hb⟩, fun k' => ?_, u1, by simp, Nat.le_refl _⟩
    · simp [Builtin.delete_, run_underlying h1, hg, hc, run_findKeyK h2, hf, hset]
    · by_cases hkk : k' = k
      · subst hkk; rw [if_pos rfl, kget_eq, hf]; rfl
      · rw [if_neg hkk]
  | some j =>
    obtain ⟨hjl, _, _⟩ := List.findIdx?_eq_some_iff_getElem.1 hf
    obtain ⟨u1, u2⟩ := upd_setObj (o' := .map ((es.eraseIdx j).map (KEnt.ent k_)).toArray c) hh
    refine ⟨es.eraseIdx j, _, ?_, ⟨⟨c, u2, fun x hx => hc' x (List.mem_of_mem_eraseIdx hx)⟩, ?_, ?_⟩, kget_erase es k j hk hf, u1, by simp, ?_⟩
    · have e : (es.map (KEnt.ent k_)).toArray.eraseIdxIfInBounds j = ((es.eraseIdx j).map (KEnt.ent k_)).toArray := by
        apply Array.ext'
        simp [Array.eraseIdxIfInBounds, hjl, map_erase]
      simp [Builtin.delete_, run_underlying h1, hg, hc, run_findKeyK h2, hf, hset, map_erase]
    · rw [map_erase]; exact hk.sublist (List.eraseIdx_sublist _ _)
    · rw [map_erase]; exact hb.sublist (List.eraseIdx_sublist _ _)
    · rw [List.length_eraseIdx]; split <;> omega
theorem MapK.made (m : Nat) (h : w.heap[m]? = some (.map #[] 0)) : MapK k_ w m [] :=
  have _d := (inferInstance : DecidableEq κ)
  ⟨⟨0, h, fun _ hx => by cases hx⟩, List.nodup_nil, List.nodup_nil⟩
end
end Go.Vx
set_option linter.unusedSimpArgs false
set_option linter.unusedVariables false
namespace Go.Vx
open Go
abbrev bv (l : List UInt8) : List Value := l.map fun b => .int .u8 (b.toNat : Int)
theorem bv_one (l : List UInt8) : ∀ v ∈ bv l, isOne v = true := by
  intro v hv
  obtain ⟨x, _, rfl⟩ := List.mem_map.1 hv
  rfl
theorem bytes_eq {a b : ByteArray} : (a.toList == b.toList) = decide (a = b) := by
  rw [Bool.eq_iff_iff, beq_iff_eq, decide_eq_true_eq, ByteArray.toList_eq, ByteArray.toList_eq]
  constructor
  · intro h
    cases a; cases b
    simp only at h
    congr 1
    exact Array.ext' h
  · intro h; rw [h]
section
variable {S S' : Nat → Prop} {w w' : World} {P : Program}
theorem strBytes_r {ts td e : TypeId} (hs : P.underlying ts = some .string) (hd : P.underlying td = some (.slice e)) (he : P.underlying e = some (.int .u8)) {s : ByteArray} {K : Sl → World → Prop}
    (hK : ∀ s' w', SlIn w' s' e 1 (bv s.data.toList) → Ext w w' → (∀ k, s'.blk k → w.heap.size ≤ k) → K s' w') : rawT P (.one (.one .sl)) (convert ts td (.string s)) K w := by
  have hr := run_bytes_of_string (P := P) w ts td e s hs hd he
  refine ⟨⟨some (at0 w.heap.size), s.size, grownCap w s.size 0 e⟩, _, hr, hK _ _ ⟨by rw [List.length_map, Array.length_toList]; exact (Nat.mul_one _).symm, ?_, .inr ⟨w.heap.size, 0, bytesRow s (grownCap w s.size 0 e), ((bytesRow s (grownCap w s.size 0 e)).size, (bytesRow s (grownCap w s.size 0 e)).size + 1), rfl, heap_alloc w.drew _, ?_, ?_⟩⟩ ?_ ?_⟩
  · show s.size ≤ grownCap w s.size 0 e
    unfold grownCap; simp only [Question.cut]; omega
  · have h1 : s.size ≤ grownCap w s.size 0 e := by unfold grownCap; simp only [Question.cut]; omega
    have h2 : s.data.size = s.size := rfl
    simp [bytesRow]; omega
  · intro i v hv
    have hlt := (List.getElem?_eq_some_iff.1 hv).1
    simp only [List.length_map, Array.length_toList] at hlt
    rw [Nat.zero_add]
    unfold bytesRow
    rw [Array.getElem?_append_left (by simpa using hlt)]
    rw [← hv]
    simp
  · exact (Ext.drew w).trans (Ext.alloc w.drew _)
  · rintro k ⟨p, hp, rfl⟩; cases hp; exact Nat.le_refl _
theorem bytesStr_r {ts tb e : TypeId} (hs : P.underlying tb = some (.slice e)) (he : P.underlying e = some (.int .u8)) (hd : P.underlying ts = some .string) {s : Sl} {l : List UInt8} {K : ByteArray → World → Prop} (h : SlX w s 1 (bv l))
    (hK : K ⟨l.toArray⟩ w) : rawT P (.one (.one .str)) (convert tb ts (.slice s.a s.len s.cap)) K w := by
  have hl : l.length = s.len := by have := h.len; simp at this; omega
  rcases h.at_ with ⟨h1, h2⟩ | ⟨t, h⟩
  · have hl0 : l = [] := List.length_eq_zero_iff.1 (by omega)
    subst hl0
    refine ⟨⟨#[]⟩, w, ?_, hK⟩
    rw [h1]
    cases ha : s.a with
    | none =>
      rw [run_convert_bytes_string w tb ts e none 0 s.cap hs he hd]
      rfl
    | some a =>
      have := run_convert_bytes_back (P := P) w tb ts e a s.cap [] hs he hd (fun j hj => by simp at hj)
      exact this
  · rcases h.at_ with ⟨ha, hc⟩ | ⟨b, off, c, fr, ha, hb, hcap, hv⟩
    · have h0 : s.len = 0 := by have := h.le; omega
      have hl0 : l = [] := List.length_eq_zero_iff.1 (by omega)
      subst hl0
      refine ⟨⟨#[]⟩, w, ?_, hK⟩
      rw [h0, ha, run_convert_bytes_string w tb ts e none 0 s.cap hs he hd]
      rfl
    · refine ⟨⟨l.toArray⟩, w, ?_, hK⟩
      rw [ha, ← hl]
      refine run_convert_bytes_back w tb ts e _ s.cap l hs he hd fun j hj => ?_
      rw [addr_add]
      exact cell_of hb (hv j _ (by simp [hj]))
theorem lit_r {tb e : TypeId} (hs : P.underlying tb = some (.slice e)) (he : P.underlying e = some (.int .u8)) {b n m : Nat} {c : Array Value} {t : TypeId} {fr : Nat × Nat} {K : Sl → World → Prop} (hb : w.heap[b]? = some (.cells c t fr))
    (hK : ∀ w' fr', w'.heap[b]? = some (.cells c t fr') → Upd (fun k => k = b) w w' → K ⟨some (at0 b), n, m⟩ w') : rawT P (.one (.one .sl)) (convert tb tb (.slice (some (at0 b)) n m)) K w := by
  have hsh : w.shape? b = some (t, c.size) := by simp [World.shape?, hb]
  refine ⟨⟨some (at0 b), n, m⟩, w.freeze ⟨b, c.size, none⟩ 1, ?_, ?_⟩
  · simp [convert, run_underlying hs, run_underlying he, markStringish, shape, freeze, Sem.run, hsh, RTy.val, Ty.val, Cell.val]
  · obtain ⟨lo, hi⟩ := fr
    refine hK _ (if lo == hi then (c.size, c.size + 1) else (min lo c.size, max hi (c.size + 1))) ?_ ⟨rfl, rfl, rfl, by simp [World.freeze], fun k hk hn => ?_⟩
    · simp [World.freeze, Array.getElem?_modify, hb]
    · simp only [World.freeze, Array.getElem?_modify]
      rw [if_neg (by decide)]
      simp only
      rw [Array.getElem?_modify, if_neg (fun h => hn h.symm)]
theorem equalIn_nil {t : TypeId} {ms : Array (String × TypeId)} (hi : P.underlying t = some (.interface ms)) (n : Nat) (d : TypeId) (v : Value) (w : World) : (Op.equalIn (n + 1) t (.iface d v) .nilIface).run P w = .ok false w := by
  simp [Op.equalIn, run_underlying hi]
theorem equalIn_nil' {t : TypeId} {ms : Array (String × TypeId)} (hi : P.underlying t = some (.interface ms)) (n : Nat) (w : World) : (Op.equalIn (n + 1) t .nilIface .nilIface).run P w = .ok true w := by
  simp [Op.equalIn, run_underlying hi]
theorem equal_nil {t : TypeId} {ms : Array (String × TypeId)} (hi : P.underlying t = some (.interface ms)) (d : TypeId) (v : Value) (w : World) : (Op.equalIn Op.maxDepth t (.iface d v) .nilIface).run P w = .ok false w := equalIn_nil hi _ d v w
theorem equal_nil' {t : TypeId} {ms : Array (String × TypeId)} (hi : P.underlying t = some (.interface ms)) (w : World) : (Op.equalIn Op.maxDepth t .nilIface .nilIface).run P w = .ok true w := equalIn_nil' hi _ w
theorem rdB_nnil {t : TypeId} {o1 : Operand} {d : TypeId} {v : Value} {K : Bool → World → Prop} (h : K true w) (hi : ∃ ms, P.underlying t = some (.interface ms)) : rdB P (do eqGuard .neq t o1 (.const .nilIface) (.iface d v) .nilIface; binOp .neq t (.iface d v) .nilIface : Sem Value) K w := by
  obtain ⟨ms, hi⟩ := hi
  refine ⟨true, ?_, h⟩
  simp [eqGuard, binOp, run_underlying hi, Op.equal, equal_nil hi]
theorem rdB_nnil' {t : TypeId} {o1 : Operand} {K : Bool → World → Prop} (h : K false w) (hi : ∃ ms, P.underlying t = some (.interface ms)) : rdB P (do eqGuard .neq t o1 (.const .nilIface) .nilIface .nilIface; binOp .neq t .nilIface .nilIface : Sem Value) K w := by
  obtain ⟨ms, hi⟩ := hi
  refine ⟨false, ?_, h⟩
  simp [eqGuard, binOp, run_underlying hi, Op.equal, equal_nil' hi]
theorem rdB_nil {t : TypeId} {o1 : Operand} {d : TypeId} {v : Value} {K : Bool → World → Prop} (h : K false w) (hi : ∃ ms, P.underlying t = some (.interface ms)) : rdB P (do eqGuard .eql t o1 (.const .nilIface) (.iface d v) .nilIface; binOp .eql t (.iface d v) .nilIface : Sem Value) K w := by
  obtain ⟨ms, hi⟩ := hi
  refine ⟨false, ?_, h⟩
  simp [eqGuard, binOp, run_underlying hi, Op.equal, equal_nil hi]
theorem rdB_nil' {t : TypeId} {o1 : Operand} {K : Bool → World → Prop} (h : K true w) (hi : ∃ ms, P.underlying t = some (.interface ms)) : rdB P (do eqGuard .eql t o1 (.const .nilIface) .nilIface .nilIface; binOp .eql t .nilIface .nilIface : Sem Value) K w := by
  obtain ⟨ms, hi⟩ := hi
  refine ⟨true, ?_, h⟩
  simp [eqGuard, binOp, run_underlying hi, Op.equal, equal_nil' hi]
theorem equal_ptr {t e : TypeId} {n : Nat} (hu : P.underlying t = some (.pointer e)) (hs : ∀ w, (Go.sizeOf e).run P w = .ok n w) (hn : n ≠ 0) {p q : Option Addr} (hp : ∀ a, p = some a → ∃ c u, w.heap[a.block]? = some (.cells c u (0, 0))) (hq : ∀ a, q = some a → ∃ c u, w.heap[a.block]? = some (.cells c u (0, 0))) (k : Nat) :
    (Op.equalIn (k + 1) t (.pointer p) (.pointer q)).run P w = .ok (decide (p = q)) w := by
  cases p with
  | none => cases q <;> simp [Op.equalIn, run_underlying hu]
  | some a =>
    cases q with
    | none => simp [Op.equalIn, run_underlying hu]
    | some b =>
      by_cases hab : a = b
      · subst hab
        simp [Op.equalIn, run_underlying hu, hs, hn, run_sameAddr_same]
      · obtain ⟨c, u, ha⟩ := hp a rfl
        obtain ⟨c', u', hb⟩ := hq b rfl
        simp [Op.equalIn, run_underlying hu, hs, hn, hab]
        exact run_sameAddr_other w hab ha hb
theorem rdB_neqp {t e : TypeId} {n : Nat} (hu : P.underlying t = some (.pointer e)) (hs : ∀ w, (Go.sizeOf e).run P w = .ok n w) (hn : n ≠ 0) {p q : Option Addr} {o1 o2 : Operand} {K : Bool → World → Prop} (hp : ∀ a, p = some a → ∃ c u, w.heap[a.block]? = some (.cells c u (0, 0))) (hq : ∀ a, q = some a → ∃ c u, w.heap[a.block]? = some (.cells c u (0, 0)))
    (h : K (decide (p ≠ q)) w) : rdB P (do eqGuard .neq t o1 o2 (.pointer p) (.pointer q); binOp .neq t (.pointer p) (.pointer q) : Sem Value) K w := by
  refine ⟨decide (p ≠ q), ?_, h⟩
  have e : (Op.equal t (.pointer p) (.pointer q)).run P w = .ok (decide (p = q)) w := equal_ptr hu hs hn hp hq 9999
  simp [eqGuard, binOp, e]
theorem equal_func {t : TypeId} {ps rs : Array TypeId} {vr : Bool} (hu : P.underlying t = some (.func ps rs vr)) (g : Fn) (a b : Array Value) (n : Nat) : (Op.equalIn (n + 1) t (.func g a b) .nilFunc).run P w = .ok false w := by
  simp [Op.equalIn, run_underlying hu]
theorem equal_nfunc {t : TypeId} {ps rs : Array TypeId} {vr : Bool} (hu : P.underlying t = some (.func ps rs vr)) (n : Nat) : (Op.equalIn (n + 1) t .nilFunc .nilFunc).run P w = .ok true w := by
  simp [Op.equalIn, run_underlying hu]
theorem rdB_nfunc {t : TypeId} {ps rs : Array TypeId} {vr : Bool} (hu : P.underlying t = some (.func ps rs vr)) {o1 : Operand} {g : Fn} {a b : Array Value} {K : Bool → World → Prop} (h : K true w) : rdB P (do eqGuard .neq t o1 (.const .nilFunc) (.func g a b) .nilFunc; binOp .neq t (.func g a b) .nilFunc : Sem Value) K w := by
  refine ⟨true, ?_, h⟩
  have e : (Op.equal t (.func g a b) .nilFunc).run P w = .ok false w := equal_func hu g a b 9999
  simp [eqGuard, binOp, e]
theorem rdB_nfunc' {t : TypeId} {ps rs : Array TypeId} {vr : Bool} (hu : P.underlying t = some (.func ps rs vr)) {o1 : Operand} {K : Bool → World → Prop} (h : K false w) : rdB P (do eqGuard .neq t o1 (.const .nilFunc) .nilFunc .nilFunc; binOp .neq t .nilFunc .nilFunc : Sem Value) K w := by
  refine ⟨false, ?_, h⟩
  have e : (Op.equal t .nilFunc .nilFunc).run P w = .ok true w := equal_nfunc hu 9999
  simp [eqGuard, binOp, e]
end
end Go.Vx
set_option linter.unusedSimpArgs false
set_option linter.unusedVariables false
namespace Go.Proofs.YtmooldhpiopcgaaGreatDoor
namespace Cdc
abbrev Bs := List UInt8
inductive Enc where
  | u8 | le | be | l1
  deriving DecidableEq
def Enc.num : Enc → Int
  | .u8 => 1
  | .le => 2
  | .be => 3
  | .l1 => 4
def bnds (c : Nat) : Nat × Nat × Nat :=
  if c < 128 then (1, 0, 0) else if c < 194 then (0, 0, 0) else if c < 224 then (2, 128, 191) else if c = 224 then (3, 160, 191) else if c = 237 then (3, 128, 159)
  else if c < 240 then (3, 128, 191) else if c = 240 then (4, 144, 191) else if c < 244 then (4, 128, 191) else if c = 244 then (4, 128, 143) else (0, 0, 0)
def cont (c : UInt8) : Bool := c.toNat / 64 == 2
def more : Nat → Bs → Nat
  | n + 1, b :: r => if cont b then more n r + 1 else 0
  | _, _ => 0
def rowOf : Bs → Nat × Nat
  | [] => (0, 0)
  | b :: r => if (bnds b.toNat).1 < 2 then ((bnds b.toNat).1, (bnds b.toNat).1) else
    match r with
    | [] => (1, (bnds b.toNat).1)
    | c :: r' => if c.toNat < (bnds b.toNat).2.1 ∨ (bnds b.toNat).2.2 < c.toNat then (1, (bnds b.toNat).1) else (2 + more ((bnds b.toNat).1 - 2) r', (bnds b.toNat).1)
def lead (n c : Nat) : Nat := if n = 2 then c % 32 else if n = 3 then c % 16 else if n = 4 then c % 8 else c
def rest (a : Nat) (l : Bs) : Nat := l.foldl (fun a c => a * 64 + c.toNat % 64) a
def nx8 : Bs → Int × Nat
  | [] => (0, 0)
  | b :: r => if (rowOf (b :: r)).2 = 0 ∨ (rowOf (b :: r)).1 < (rowOf (b :: r)).2 then (-1 - (b.toNat : Int), 1)
    else ((rest (lead (rowOf (b :: r)).2 b.toNat) (r.take ((rowOf (b :: r)).2 - 1)) : Nat), (rowOf (b :: r)).2)
def un (be : Bool) (a b : UInt8) : Nat := if be then b.toNat + a.toNat * 256 else a.toNat + b.toNat * 256
def nx16 (be : Bool) : Bs → Int × Nat
  | [] => (0, 0)
  | [b] => (-1 - (b.toNat : Int), 1)
  | a :: b :: r => if un be a b / 1024 = 54 then
      match r with
      | c :: d :: _ => if un be c d / 1024 = 55 then (65536 + ((un be a b % 1024 * 1024 + un be c d % 1024 : Nat) : Int), 4) else ((un be a b : Nat), 2)
      | _ => ((un be a b : Nat), 2)
    else ((un be a b : Nat), 2)
def nx1 : Bs → Int × Nat
  | [] => (0, 0)
  | b :: _ => ((b.toNat : Int), 1)
def nx : Enc → Bs → Int × Nat
  | .u8, l => nx8 l
  | .le, l => nx16 false l
  | .be, l => nx16 true l
  | .l1, l => nx1 l
theorem bnds_le (c : Nat) : (bnds c).1 ≤ 4 := by
  unfold bnds; repeat' split
  all_goals simp
theorem more_le : ∀ (n : Nat) (l : Bs), more n l ≤ n ∧ more n l ≤ l.length
  | 0, l => by cases l <;> simp [more]
  | n + 1, [] => by simp [more]
  | n + 1, b :: r => by
    have := more_le n r
    simp only [more]
    split <;> simp <;> omega
theorem more_take : ∀ (n : Nat) (l : Bs) (k : Nat), more n (l.take k) = min k (more n l)
  | 0, l, k => by cases l <;> cases k <;> simp [more]
  | n + 1, [], k => by simp [more]
  | n + 1, b :: r, 0 => by simp [more]
  | n + 1, b :: r, k + 1 => by
    simp only [List.take_succ_cons, more]
    split
    · rw [more_take n r k]; omega
    · simp
theorem rowOf_bnds (b : UInt8) (r : Bs) : (rowOf (b :: r)).2 = (bnds b.toNat).1 := by
  simp only [rowOf]
  repeat' split
  all_goals rfl
theorem rowOf_le (b : UInt8) (r : Bs) : (rowOf (b :: r)).1 ≤ (b :: r).length ∧ (rowOf (b :: r)).1 ≤ max 1 (rowOf (b :: r)).2 := by
  simp only [rowOf]
  split
  · simp; omega
  · split
    · simp; omega
    · rename_i c r'
      split
      · simp; omega
      · have := more_le ((bnds b.toNat).1 - 2) r'
        simp; omega
theorem rowOf_take (b : UInt8) (r : Bs) (k : Nat) : (rowOf (b :: r.take k)).1 ≤ (rowOf (b :: r)).1 ∧ ((rowOf (b :: r)).1 ≤ k + 1 → (rowOf (b :: r.take k)).1 = (rowOf (b :: r)).1) := by
  simp only [rowOf]
  split
  · simp
  · rename_i h2
    cases r with
    | nil => simp
    | cons c r' =>
      cases k with
      | zero =>
        simp only [List.take_zero]
        split
        · simp
        · simp; omega
      | succ k =>
        simp only [List.take_succ_cons]
        split
        · simp
        · simp only [more_take]; omega
theorem nx8_size (b : UInt8) (r : Bs) : 1 ≤ (nx8 (b :: r)).2 ∧ (nx8 (b :: r)).2 ≤ (b :: r).length ∧ (nx8 (b :: r)).2 ≤ 4 := by
  have h1 := rowOf_le b r
  have h2 := rowOf_bnds b r
  have h3 := bnds_le b.toNat
  simp only [nx8]
  split
  · simp
  · simp only; omega
theorem nx8_take (b : UInt8) (r : Bs) (k : Nat) (h : (nx8 (b :: r)).2 ≤ k + 1) : nx8 (b :: r.take k) = nx8 (b :: r) := by
  have h1 := rowOf_take b r k
  have h2 := rowOf_bnds b r
  have h3 := rowOf_bnds b (r.take k)
  have h4 := rowOf_le b r
  simp only [nx8] at h ⊢
  rw [h3, ← h2]
  split at h
  · rename_i hc
    have : (rowOf (b :: r)).2 = 0 ∨ (rowOf (b :: List.take k r)).1 < (rowOf (b :: r)).2 := by omega
    rw [if_pos this, if_pos hc]
  · rename_i hc
    simp only at h
    rw [if_neg hc, if_neg (by omega), List.take_take, Nat.min_eq_left (by omega)]
theorem nx16_size (be : Bool) (b : UInt8) (r : Bs) : 1 ≤ (nx16 be (b :: r)).2 ∧ (nx16 be (b :: r)).2 ≤ (b :: r).length ∧ (nx16 be (b :: r)).2 ≤ 4 := by
  cases r with
  | nil => simp [nx16]
  | cons c r =>
    simp only [nx16]
    split
    · split
      · split <;> simp
      · simp
    · simp
theorem nx16_take (be : Bool) (b : UInt8) (r : Bs) (k : Nat) (h : (nx16 be (b :: r)).2 ≤ k + 1) : nx16 be (b :: r.take k) = nx16 be (b :: r) := by
  cases r with
  | nil => simp [nx16]
  | cons c r =>
    have hs : 1 < (nx16 be (b :: c :: r)).2 := by
      simp only [nx16]
      split
      · split
        · split <;> simp
        · simp
      · simp
    obtain ⟨k, rfl⟩ : ∃ k', k = k' + 1 := ⟨k - 1, by omega⟩
    simp only [List.take_succ_cons, nx16] at h ⊢
    split
    · rename_i hu
      rw [if_pos hu] at h
      match r, k with
      | [], k => simp
      | [_], 0 => simp
      | [_], k + 1 => simp
      | c :: d :: r, 0 =>
        simp only at h ⊢
        split at h
        · simp at h
        · rename_i h55; simp [h55]
      | c :: d :: r, 1 =>
        simp only at h ⊢
        split at h
        · simp at h
        · rename_i h55; simp [h55]
      | c :: d :: r, k + 2 => simp
    · rfl
theorem nx_size (e : Enc) {l : Bs} (h : l ≠ []) : 1 ≤ (nx e l).2 ∧ (nx e l).2 ≤ l.length ∧ (nx e l).2 ≤ 4 := by
  cases l with
  | nil => exact absurd rfl h
  | cons b r =>
    cases e with
    | u8 => exact nx8_size b r
    | le => exact nx16_size _ b r
    | be => exact nx16_size _ b r
    | l1 => simp [nx, nx1]
theorem nx_take (e : Enc) {l : Bs} {k : Nat} (h : l ≠ []) (hk : (nx e l).2 ≤ k) : nx e (l.take k) = nx e l := by
  cases l with
  | nil => exact absurd rfl h
  | cons b r =>
    have hs := (nx_size e h).1
    obtain ⟨k, rfl⟩ : ∃ k', k = k' + 1 := ⟨k - 1, by omega⟩
    rw [List.take_succ_cons]
    cases e with
    | u8 => exact nx8_take b r k hk
    | le => exact nx16_take _ b r k hk
    | be => exact nx16_take _ b r k hk
    | l1 => rfl
def ats (e : Enc) (l : Bs) : List (Int × Nat) :=
  if h : l = [] then [] else nx e l :: ats e (l.drop (nx e l).2)
termination_by l.length
decreasing_by
  have h1 := nx_size e h
  have : 0 < l.length := List.length_pos_iff.2 h
  simp only [List.length_drop]; omega
theorem ats_nil (e : Enc) : ats e [] = [] := by rw [ats]; simp
theorem ats_cons (e : Enc) {l : Bs} (h : l ≠ []) : ats e l = nx e l :: ats e (l.drop (nx e l).2) := by rw [ats]; simp [h]
def szs (l : List (Int × Nat)) : Nat := (l.map (·.2)).sum
theorem szs_nil : szs [] = 0 := rfl
theorem szs_cons (x : Int × Nat) (l : List (Int × Nat)) : szs (x :: l) = x.2 + szs l := by simp [szs]
theorem szs_append (l m : List (Int × Nat)) : szs (l ++ m) = szs l + szs m := by simp [szs]
theorem szs_ats (e : Enc) : ∀ (n : Nat) (l : Bs), l.length ≤ n → szs (ats e l) = l.length := by
  intro n
  induction n with
  | zero => intro l h; obtain rfl : l = [] := List.length_eq_zero_iff.1 (by omega); simp [ats_nil, szs]
  | succ n ih =>
    intro l h
    by_cases hl : l = []
    · subst hl; simp [ats_nil, szs]
    · have h1 := nx_size e hl
      have : 0 < l.length := List.length_pos_iff.2 hl
      rw [ats_cons e hl, szs_cons, ih _ (by simp only [List.length_drop]; omega), List.length_drop]
      omega
theorem szs_all (e : Enc) (l : Bs) : szs (ats e l) = l.length := szs_ats e _ l (Nat.le_refl _)
theorem ats_cut (e : Enc) : ∀ (j : Nat) (l : Bs), ats e (l.take (szs ((ats e l).take j))) = (ats e l).take j ∧ ats e (l.drop (szs ((ats e l).take j))) = (ats e l).drop j := by
  intro j
  induction j with
  | zero => intro l; simp [szs, ats_nil]
  | succ j ih =>
    intro l
    by_cases hl : l = []
    · subst hl; simp [ats_nil]
    · have h1 := nx_size e hl
      obtain ⟨g1, g2⟩ := ih (l.drop (nx e l).2)
      rw [ats_cons e hl]
      simp only [List.take_succ_cons, List.drop_succ_cons, szs_cons]
      generalize hm : szs ((ats e (l.drop (nx e l).2)).take j) = m at g1 g2 ⊢
      have hne : l.take ((nx e l).2 + m) ≠ [] := by
        have : 0 < l.length := List.length_pos_iff.2 hl
        intro hc
        have := congrArg List.length hc
        rw [List.length_take, List.length_nil] at this; omega
      constructor
      · rw [ats_cons e hne, nx_take e hl (by omega), List.drop_take]
        have : (nx e l).2 + m - (nx e l).2 = m := by omega
        rw [this, g1]
      · rw [← List.drop_drop, g2]
theorem ats_pos (e : Enc) : ∀ (n : Nat) (l : Bs), l.length ≤ n → ∀ x ∈ ats e l, 1 ≤ x.2 ∧ x.2 ≤ 4 := by
  intro n
  induction n with
  | zero => intro l h x hx; obtain rfl : l = [] := List.length_eq_zero_iff.1 (by omega); rw [ats_nil] at hx; cases hx
  | succ n ih =>
    intro l h x hx
    by_cases hl : l = []
    · subst hl; rw [ats_nil] at hx; cases hx
    · have h1 := nx_size e hl
      have : 0 < l.length := List.length_pos_iff.2 hl
      rw [ats_cons e hl] at hx
      rcases List.mem_cons.1 hx with rfl | hx
      · exact ⟨h1.1, h1.2.2⟩
      · exact ih _ (by simp only [List.length_drop]; omega) x hx
end Cdc
end Go.Proofs.YtmooldhpiopcgaaGreatDoor
set_option linter.unusedSimpArgs false
set_option linter.unusedVariables false
namespace Go.Proofs.YtmooldhpiopcgaaGreatDoor.Flp
open Go Cdc
def fi (n : Int) : Nat := FloatKind.f64.nearest n
def dv (a b : Nat) : Nat := (FloatKind.f64.format.div a b).getD 0
def sb (a b : Nat) : Nat := (FloatKind.f64.format.sub a b).getD 0
def ge (a b : Nat) : Bool := FloatKind.f64.format.order a b == some .gt || FloatKind.f64.format.order a b == some .eq
def le (a b : Nat) : Bool := FloatKind.f64.format.order a b == some .lt || FloatKind.f64.format.order a b == some .eq
def B52 : Nat := 4503599627370496
theorem b52 : 0 < B52 := by decide
theorem inf_eq : Ieee.double.infRung = 2047 * B52 := by decide
theorem sgn_eq : Ieee.double.signWeight = 2048 * B52 := by decide
theorem bin_eq : Ieee.double.binade = B52 := by decide
theorem least_eq : Ieee.double.leastPlace = -1074 := by decide
theorem frac_eq : (Ieee.double.fractionBits : Int) = 52 := rfl
attribute [local irreducible] B52
theorem near_le (neg : Bool) (mag : Nat) (place : Int) : ∃ r, r ≤ 2047 * B52 ∧ Ieee.double.nearest neg mag place = Ieee.double.word neg r := by
  unfold Ieee.Format.nearest
  split
  · exact ⟨0, Nat.zero_le _, rfl⟩
  · exact ⟨_, by rw [inf_eq]; exact Nat.min_le_right _ _, rfl⟩
theorem word_mod (neg : Bool) {r : Nat} (h : r < 2048 * B52) : (Ieee.double.word neg r) % Ieee.double.signWeight = r := by
  unfold Ieee.Format.word
  rw [sgn_eq]
  split
  · rw [Nat.add_mod_left, Nat.mod_eq_of_lt h]
  · exact Nat.mod_eq_of_lt h
theorem word_div (neg : Bool) {r : Nat} (h : r < 2048 * B52) : (Ieee.double.word neg r / Ieee.double.signWeight % 2 == 1) = neg := by
  unfold Ieee.Format.word
  rw [sgn_eq]
  have hb := b52
  cases neg
  · rw [if_neg (by decide), Nat.div_eq_of_lt h]; rfl
  · rw [if_pos rfl, Nat.add_div_left _ (by omega), Nat.div_eq_of_lt h]; rfl
theorem read_word (neg : Bool) {r : Nat} (h : r ≤ 2047 * B52) : (∃ m p, Ieee.double.read (Ieee.double.word neg r) = .number neg m p ∧ (r ≠ 0 → m ≠ 0)) ∨ (r = 2047 * B52 ∧ Ieee.double.read (Ieee.double.word neg r) = .infinity neg) := by
  have hb := b52
  have hr : r < 2048 * B52 := by omega
  have e1 := word_mod neg hr
  have e2 := word_div neg hr
  unfold Ieee.Format.read
  simp only [e1, e2]
  rw [bin_eq, inf_eq]
  by_cases h1 : r < B52
  · rw [if_pos h1]; exact .inl ⟨_, _, rfl, id⟩
  rw [if_neg h1]
  by_cases h2 : r < 2047 * B52
  · rw [if_pos h2]
    exact .inl ⟨_, _, rfl, fun _ => by omega⟩
  rw [if_neg h2]
  have h3 : r = 2047 * B52 := by omega
  rw [if_pos h3]
  exact .inr ⟨h3, rfl⟩
theorem fi_eq (n : Int) : fi n = Ieee.double.nearest (n < 0) n.natAbs 0 := rfl
theorem cut_le (x : Nat) : Ieee.Toward.even.cut false x 0 ≤ x + 1 := by
  unfold Ieee.Toward.cut
  have : min 0 (x.log2 + 2) = 0 := Nat.zero_min _
  simp only [this, Nat.shiftLeft_zero, Nat.div_one]
  have h : ∀ b : Bool, b.toNat ≤ 1 := fun b => by cases b <;> decide
  exact Nat.add_le_add_left (h _) _
theorem fits {B L c : Nat} (hB : 2 < B) (hL : L < 40) (hc : c ≤ 2 * B + 1) : min ((L + 1022) * B + c) (2047 * B) ≠ 0 ∧ min ((L + 1022) * B + c) (2047 * B) < 2047 * B := by
  have h1 : (L + 1022) * B = L * B + 1022 * B := Nat.add_mul _ _ _
  have h2 : L * B ≤ 40 * B := Nat.mul_le_mul_right _ (by omega)
  omega
theorem near_eq {mag : Nat} (h : mag ≠ 0) (hl : mag.log2 < 40) : ∃ c, c ≤ mag <<< (52 - mag.log2) + 1 ∧ Ieee.double.nearest false mag 0 = Ieee.double.word false (min ((mag.log2 + 1022) * B52 + c) (2047 * B52)) := by
  refine ⟨_, cut_le _, ?_⟩
  unfold Ieee.Format.nearest
  rw [if_neg h]
  have el : max ((0 : Int) + (mag.log2 : Int) - (Ieee.double.fractionBits : Int)) Ieee.double.leastPlace = (mag.log2 : Int) - 52 := by
    rw [frac_eq, least_eq]; omega
  simp only [el]
  rw [least_eq, bin_eq, inf_eq]
  rw [show (0 - ((mag.log2 : Int) - 52)).toNat = 52 - mag.log2 by omega, show ((mag.log2 : Int) - 52 - 0).toNat = 0 by omega, show ((mag.log2 : Int) - 52 - -1074).toNat = mag.log2 + 1022 by omega]
theorem shl_lt {k : Nat} (hz : k ≠ 0) (hl : k.log2 < 40) : k <<< (52 - k.log2) < 2 * B52 := by
  rw [Nat.shiftLeft_eq]
  have hlt : k < 2 ^ (k.log2 + 1) := Nat.lt_log2_self
  have h2 : 2 ^ (k.log2 + 1) * 2 ^ (52 - k.log2) = 2 ^ 53 := by
    rw [← Nat.pow_add, show k.log2 + 1 + (52 - k.log2) = 53 by omega]
  have h3 : (2 : Nat) ^ 53 = 2 * B52 := by unfold B52; rfl
  rw [← h3, ← h2]
  exact Nat.mul_lt_mul_of_pos_right hlt (Nat.two_pow_pos _)
theorem fi_num {n : Int} (h0 : 0 ≤ n) (h1 : n < 1099511627776) : ∃ m p, Ieee.double.read (fi n) = .number false m p ∧ (n ≠ 0 → m ≠ 0) := by
  obtain ⟨k, rfl⟩ := Int.eq_ofNat_of_zero_le h0
  have hn : decide ((k : Int) < 0) = false := decide_eq_false (by omega)
  rw [fi_eq, hn, Int.natAbs_natCast]
  by_cases hz : k = 0
  · subst hz
    rcases read_word false (r := 0) (Nat.zero_le _) with ⟨m, p, h, _⟩ | ⟨h, _⟩
    · exact ⟨m, p, h, fun h => absurd rfl h⟩
    · have := b52; omega
  have hl : k.log2 < 40 := (Nat.log2_lt hz).2 (by omega)
  obtain ⟨c, hc, e⟩ := near_eq hz hl
  have hx := shl_lt hz hl
  have hB : 2 < B52 := by unfold B52; decide
  obtain ⟨r0, r1⟩ := fits hB hl (c := c) (by omega)
  rw [e]
  rcases read_word false (Nat.le_of_lt r1) with ⟨m, p, h, hm⟩ | ⟨h, _⟩
  · exact ⟨m, p, h, fun _ => hm r0⟩
  · omega
theorem dv_some {a b : Int} (ha : 0 ≤ a ∧ a < 1099511627776) (hb : 0 < b ∧ b < 1099511627776) : FloatKind.f64.format.div (fi a) (fi b) = some (dv (fi a) (fi b)) ∧ ∃ d, Ieee.double.read (dv (fi a) (fi b)) = d ∧ ((∃ s m p, d = .number s m p) ∨ ∃ s, d = .infinity s) := by
  obtain ⟨m, p, h1, _⟩ := fi_num ha.1 ha.2
  obtain ⟨m', p', h2, h3⟩ := fi_num (by omega) hb.2
  have h3 := h3 (by omega)
  have e : FloatKind.f64.format.div (fi a) (fi b) = some (dv (fi a) (fi b)) ∧ ∃ s x y, dv (fi a) (fi b) = Ieee.double.nearest s x y := by
    unfold dv
    have hd : FloatKind.f64.format.div (fi a) (fi b) = (((Ieee.double.read (fi a)).quotient (Ieee.double.fractionBits + 2) (Ieee.double.read (fi b))).map Ieee.double.write) := rfl
    rw [hd, h1, h2]
    unfold Ieee.Datum.quotient
    simp only [if_neg h3, Option.map_some, Option.getD_some]
    exact ⟨by first | rfl | trivial, _, _, _, rfl⟩
  refine ⟨e.1, _, rfl, ?_⟩
  obtain ⟨s, x, y, e⟩ := e.2
  rw [e]
  obtain ⟨r, hr, er⟩ := near_le s x y
  rw [er]
  rcases read_word s hr with ⟨m, p, h, _⟩ | ⟨_, h⟩
  · exact .inl ⟨_, _, _, h⟩
  · exact .inr ⟨_, h⟩
theorem one_num : ∃ m p, Ieee.double.read 4607182418800017408 = .number false m p := ⟨4503599627370496, -52, by decide +kernel⟩
theorem sb_some {a b : Int} (ha : 0 ≤ a ∧ a < 1099511627776) (hb : 0 < b ∧ b < 1099511627776) : FloatKind.f64.format.sub 4607182418800017408 (dv (fi a) (fi b)) = some (sb 4607182418800017408 (dv (fi a) (fi b))) := by
  obtain ⟨_, d, h1, h2⟩ := dv_some ha hb
  obtain ⟨m, p, h3⟩ := one_num
  unfold sb
  have hd : FloatKind.f64.format.sub 4607182418800017408 (dv (fi a) (fi b)) = (((Ieee.double.read 4607182418800017408).sum (Ieee.double.read (dv (fi a) (fi b))).opposite).map Ieee.double.write) := rfl
  rw [hd, h1, h3]
  rcases h2 with ⟨s, m', p', rfl⟩ | ⟨s, rfl⟩
  · rfl
  · rfl
def zc (l : List UInt8) (a u : Nat) : Nat := ((List.range u).filter fun j => l.getD (a + 2 * j) 1 == 0).length
theorem zc_succ (l : List UInt8) (a u : Nat) : zc l a (u + 1) = zc l a u + if l.getD (a + 2 * u) 1 = 0 then 1 else 0 := by
  unfold zc
  rw [List.range_succ, List.filter_append, List.length_append]
  congr 1
  rw [List.filter_cons]
  by_cases h : l.getD (a + 2 * u) 1 = 0
  · rw [if_pos h, h]; rfl
  · rw [if_neg h, if_neg (by simpa using h)]; rfl
theorem zc_le (l : List UInt8) (a u : Nat) : zc l a u ≤ u := by
  unfold zc
  have := List.length_filter_le (fun j => l.getD (a + 2 * j) 1 == 0) (List.range u)
  simpa using this
def hrK : Nat → List UInt8 → Nat × Nat
  | 0, _ => (0, 0)
  | _ + 1, [] => (0, 0)
  | n + 1, b :: r => ((if 128 ≤ b.toNat then (nx8 (b :: r)).2 else 0) + (hrK n ((b :: r).drop (nx8 (b :: r)).2)).1, (if (nx8 (b :: r)).1 < 0 then 1 else 0) + (hrK n ((b :: r).drop (nx8 (b :: r)).2)).2)
noncomputable def guessP (l : List UInt8) : Int × Nat :=
  let u := l.length / 2
  let hi := dv (fi (zc l 0 u)) (fi u)
  let lo := dv (fi (zc l 1 u)) (fi u)
  if 0 < u ∧ ge lo 4602678819172646912 = true ∧ le hi 4593671619917905920 = true then (2, lo) else
  if 0 < u ∧ ge hi 4602678819172646912 = true ∧ le lo 4593671619917905920 = true then (3, hi) else
  let x := hrK l.length l
  if x.2 = 0 then (1, 4607182418800017408) else
  let good := dv (fi ((x.1 : Int) - x.2)) (fi x.1)
  if ge good 4604930618986332160 = true then (1, good) else (4, sb 4607182418800017408 good)
theorem hr_nil (n : Nat) : hrK n [] = (0, 0) := by cases n <;> rfl
theorem hr_le : ∀ (n : Nat) (l : List UInt8), (hrK n l).2 ≤ (hrK n l).1 ∧ (hrK n l).1 ≤ l.length
  | 0, l => ⟨Nat.le_refl _, Nat.zero_le _⟩
  | n + 1, [] => ⟨Nat.le_refl _, Nat.zero_le _⟩
  | n + 1, b :: r => by
    obtain ⟨h1, h2⟩ := hr_le n ((b :: r).drop (nx8 (b :: r)).2)
    obtain ⟨s1, s2, s3⟩ := nx8_size b r
    have h3 : (nx8 (b :: r)).1 < 0 → 128 ≤ b.toNat := fun h => Decidable.byContradiction fun hb => by
      have hb : b.toNat < 128 := by omega
      have e : bnds b.toNat = (1, 0, 0) := by unfold bnds; rw [if_pos (by omega)]
      have er : rowOf (b :: r) = (1, 1) := by simp only [rowOf, e]; rfl
      simp only [nx8, er] at h
      rw [if_neg (by omega)] at h
      have : (0 : Int) ≤ ((rest (lead 1 b.toNat) (r.take (1 - 1)) : Nat) : Int) := Int.natCast_nonneg _
      omega
    rw [List.length_drop] at h2
    simp only [hrK]
    constructor
    · split
      · rw [if_pos (h3 ‹_›)]; omega
      · omega
    · split <;> omega
theorem guess_range (l : List UInt8) : 1 ≤ (guessP l).1 ∧ (guessP l).1 ≤ 4 := by
  have h : (guessP l).1 = 1 ∨ (guessP l).1 = 2 ∨ (guessP l).1 = 3 ∨ (guessP l).1 = 4 := by
    unfold guessP
    simp only
    repeat' split
    · exact .inr (.inl rfl)
    · exact .inr (.inr (.inl rfl))
    · exact .inl rfl
    · exact .inl rfl
    · exact .inr (.inr (.inr rfl))
  omega
end Go.Proofs.YtmooldhpiopcgaaGreatDoor.Flp
set_option linter.unusedSimpArgs false
set_option linter.unusedVariables false
set_option maxRecDepth 100000
namespace Go.Proofs.YtmooldhpiopcgaaGreatDoor
open Go Go.Vx
abbrev c32 : List Cell := [.int .i64, .int .i64, .sl, .bool]
abbrev c39 : List Cell := [.sl, .str, .int .i64, .sl]
abbrev c47 : List Cell := [.ptr, .ptr, .int .i64, .int .i64, .sl, .bool, .sl, .bool]
abbrev c56 : List Cell := [.int .i64, .int .i64, .int .i64]
abbrev c57 : List Cell := [.int .i64, .int .i64, .int .i64]
abbrev c65 : List Cell := [.str, .sl]
abbrev c72 : List Cell := [.int .i64, .sl]
abbrev c81 : List Cell := [.int .i64, .sl]
abbrev c86 : List Cell := [.sl, .sl]
abbrev c89 : List Cell := [.int .i64, .int .i64, .sl]
abbrev c101 : List Cell := [.str, .str, .int .i64, .any]
abbrev c107 : List Cell := [.int .i64, .map, .map, .sl, .int .i64, .bool, .map, .int .i64]
abbrev c110 : List Cell := [.ptr, .str, .sl, .int .i64, .int .i64, .int .i64, .int .i64, .int .i64, .int .i64]
abbrev c119 : List Cell := [.sl, .sl]
abbrev c123 : List Cell := [.int .i64, .sl, .int .i64, .int .i64]
abbrev c127 : List Cell := [.ptr, .str]
abbrev c132 : List Cell := [.int .i64, .int .i64, .int .i64, .int .i64, .sl]
abbrev c139 : List Cell := [.ptr]
abbrev c141 : List Cell := [.int .i64, .int .i64, .ptr, .sl]
abbrev c144 : List Cell := [.int .i64, .int .i64, .int .i64, .bool, .bool]
abbrev c146 : List Cell := [.sl, .int .i64, .int .i64, .int .i64, .int .i64, .bool, .bool]
abbrev c154 : List Cell := [.ptr, .ptr]
abbrev c156 : List Cell := [.ptr, .ptr]
abbrev c158 : List Cell := [.ptr, .ptr, .ptr, .ptr, .ptr, .ptr, .sl]
abbrev c162 : List Cell := [.int .i64, .int .i64, .str, .str, .int .i64, .int .i64, .bool, .sl, .sl, .int .i64, .sl]
abbrev c180 : List Cell := []
abbrev c186 : List Cell := [.ptr, .ptr, .sl, .int .i64, .int .i64, .int .i64, .int .i64, .bool, .bool, .int .i64, .int .i64, .int .i64, .int .i64, .int .i64, .bool, .bool]
abbrev c223 : List Cell := [.ptr, .any, .int .u64]
abbrev c239 : List Cell := [.int .i64, .sl, .sl, .sl, .bool, .sl, .int .i64]
abbrev c240 : List Cell := [.int .i64, .int .i64, .sl, .bool]
abbrev c245 : List Cell := [.ptr, .str, .sl, .int .i64, .int .i64, .int .i64, .int .i64, .int .i64, .int .i64]
abbrev c247 : List Cell := [.int .i64, .sl, .int .i64, .int .i64, .int .i64, .int .i64, .int .i64]
abbrev c252 : List Cell := [.str, .str, .str, .sl]
abbrev c255 : List Cell := [.str, .int .i64]
abbrev c263 : List Cell := [.int .i64]
abbrev c264 : List Cell := []
abbrev c298 : List Cell := [.sl, .int .i64, .int .i64]
abbrev c317 : List Cell := [.str, .str, .int .i64]
abbrev c323 : List Cell := [.int .i64, .int .i64]
abbrev c331 : List Cell := [.int .i64, .int .i64, .int .i64, .int .i64, .int .i64]
abbrev c348 : List Cell := [.int .u8, .int .u8, .int .u8, .int .u8, .int .u8]
abbrev c352 : List Cell := [.int .u8, .int .u8]
noncomputable def i0 : Inf := ⟨Tryz.t0.desc, Tryz.t0.size, Tryz.t0.bytes, Tryz.t0.zero, (.one .any), (.tup [])⟩
theorem i0_ok : InfOk Tryz.prog 0 i0 := ⟨by kernel_rfl, by kernel_rfl, by kernel_rfl⟩
noncomputable def i3 : Inf := ⟨Tryz.t3.desc, Tryz.t3.size, Tryz.t3.bytes, Tryz.t3.zero, (.one (.int .i64)), (.one (.one (.int .i64)))⟩
theorem i3_ok : InfOk Tryz.prog 3 i3 := ⟨by kernel_rfl, by kernel_rfl, by kernel_rfl⟩
noncomputable def i4 : Inf := ⟨Tryz.t4.desc, Tryz.t4.size, Tryz.t4.bytes, Tryz.t4.zero, (.one .bool), (.one (.one .bool))⟩
theorem i4_ok : InfOk Tryz.prog 4 i4 := ⟨by kernel_rfl, by kernel_rfl, by kernel_rfl⟩
noncomputable def i5 : Inf := ⟨Tryz.t5.desc, Tryz.t5.size, Tryz.t5.bytes, Tryz.t5.zero, (.one (.int .u8)), (.one (.one (.int .u8)))⟩
theorem i5_ok : InfOk Tryz.prog 5 i5 := ⟨by kernel_rfl, by kernel_rfl, by kernel_rfl⟩
noncomputable def i9 : Inf := ⟨Tryz.t9.desc, Tryz.t9.size, Tryz.t9.bytes, Tryz.t9.zero, (.one .str), (.one (.one .str))⟩
theorem i9_ok : InfOk Tryz.prog 9 i9 := ⟨by kernel_rfl, by kernel_rfl, by kernel_rfl⟩
noncomputable def i20 : Inf := ⟨Tryz.t20.desc, Tryz.t20.size, Tryz.t20.bytes, Tryz.t20.zero, (.one .any), (.one (.one .any))⟩
theorem i20_ok : InfOk Tryz.prog 20 i20 := ⟨by kernel_rfl, by kernel_rfl, by kernel_rfl⟩
noncomputable def i21 : Inf := ⟨Tryz.t21.desc, Tryz.t21.size, Tryz.t21.bytes, Tryz.t21.zero, (.one (.int .i32)), (.one (.one (.int .i32)))⟩
theorem i21_ok : InfOk Tryz.prog 21 i21 := ⟨by kernel_rfl, by kernel_rfl, by kernel_rfl⟩
noncomputable def i24 : Inf := ⟨Tryz.t24.desc, Tryz.t24.size, Tryz.t24.bytes, Tryz.t24.zero, (.one .ptr), (.one (.one .ptr))⟩
theorem i24_ok : InfOk Tryz.prog 24 i24 := ⟨by kernel_rfl, by kernel_rfl, by kernel_rfl⟩
noncomputable def i26 : Inf := ⟨Tryz.t25.desc, Tryz.t26.size, Tryz.t26.bytes, Tryz.t26.zero, (.one .any), (.one (.one .any))⟩
theorem i26_ok : InfOk Tryz.prog 26 i26 := ⟨by kernel_rfl, by kernel_rfl, by kernel_rfl⟩
noncomputable def i27 : Inf := ⟨Tryz.t27.desc, Tryz.t27.size, Tryz.t27.bytes, Tryz.t27.zero, (.one .any), (.tup [(.one .ptr), (.one .any)])⟩
theorem i27_ok : InfOk Tryz.prog 27 i27 := ⟨by kernel_rfl, by kernel_rfl, by kernel_rfl⟩
noncomputable def i29 : Inf := ⟨Tryz.t29.desc, Tryz.t29.size, Tryz.t29.bytes, Tryz.t29.zero, (.one .ptr), (.one (.one .ptr))⟩
theorem i29_ok : InfOk Tryz.prog 29 i29 := ⟨by kernel_rfl, by kernel_rfl, by kernel_rfl⟩
noncomputable def i30 : Inf := ⟨Tryz.t30.desc, Tryz.t30.size, Tryz.t30.bytes, Tryz.t30.zero, (.one .sl), (.one (.one .sl))⟩
theorem i30_ok : InfOk Tryz.prog 30 i30 := ⟨by kernel_rfl, by kernel_rfl, by kernel_rfl⟩
noncomputable def i32 : Inf := ⟨Tryz.t31.desc, Tryz.t32.size, Tryz.t32.bytes, Tryz.t32.zero, (.agg c32), (.one (.agg c32))⟩
theorem i32_ok : InfOk Tryz.prog 32 i32 := ⟨by kernel_rfl, by kernel_rfl, by kernel_rfl⟩
noncomputable def i33 : Inf := ⟨Tryz.t3.desc, Tryz.t33.size, Tryz.t33.bytes, Tryz.t33.zero, (.one (.int .i64)), (.one (.one (.int .i64)))⟩
theorem i33_ok : InfOk Tryz.prog 33 i33 := ⟨by kernel_rfl, by kernel_rfl, by kernel_rfl⟩
noncomputable def i34 : Inf := ⟨Tryz.t34.desc, Tryz.t34.size, Tryz.t34.bytes, Tryz.t34.zero, (.one .any), (.tup [(.one .ptr), (.agg c32), (.one (.int .i64))])⟩
theorem i34_ok : InfOk Tryz.prog 34 i34 := ⟨by kernel_rfl, by kernel_rfl, by kernel_rfl⟩
noncomputable def i37 : Inf := ⟨Tryz.t37.desc, Tryz.t37.size, Tryz.t37.bytes, Tryz.t37.zero, (.one .sl), (.one (.one .sl))⟩
theorem i37_ok : InfOk Tryz.prog 37 i37 := ⟨by kernel_rfl, by kernel_rfl, by kernel_rfl⟩
noncomputable def i39 : Inf := ⟨Tryz.t38.desc, Tryz.t39.size, Tryz.t39.bytes, Tryz.t39.zero, (.agg c39), (.one (.agg c39))⟩
theorem i39_ok : InfOk Tryz.prog 39 i39 := ⟨by kernel_rfl, by kernel_rfl, by kernel_rfl⟩
noncomputable def i42 : Inf := ⟨Tryz.t42.desc, Tryz.t42.size, Tryz.t42.bytes, Tryz.t42.zero, (.one .any), (.tup [(.one .ptr), (.one .bool)])⟩
theorem i42_ok : InfOk Tryz.prog 42 i42 := ⟨by kernel_rfl, by kernel_rfl, by kernel_rfl⟩
noncomputable def i47 : Inf := ⟨Tryz.t46.desc, Tryz.t47.size, Tryz.t47.bytes, Tryz.t47.zero, (.agg c47), (.one (.agg c47))⟩
theorem i47_ok : InfOk Tryz.prog 47 i47 := ⟨by kernel_rfl, by kernel_rfl, by kernel_rfl⟩
noncomputable def i48 : Inf := ⟨Tryz.t48.desc, Tryz.t48.size, Tryz.t48.bytes, Tryz.t48.zero, (.one .any), (.tup [(.one (.int .i64)), (.one (.int .i64))])⟩
theorem i48_ok : InfOk Tryz.prog 48 i48 := ⟨by kernel_rfl, by kernel_rfl, by kernel_rfl⟩
noncomputable def i51 : Inf := ⟨Tryz.t51.desc, Tryz.t51.size, Tryz.t51.bytes, Tryz.t51.zero, (.one .ptr), (.one (.one .ptr))⟩
theorem i51_ok : InfOk Tryz.prog 51 i51 := ⟨by kernel_rfl, by kernel_rfl, by kernel_rfl⟩
noncomputable def i56 : Inf := ⟨Tryz.t56.desc, Tryz.t56.size, Tryz.t56.bytes, Tryz.t56.zero, (.agg c56), (.one (.agg c56))⟩
theorem i56_ok : InfOk Tryz.prog 56 i56 := ⟨by kernel_rfl, by kernel_rfl, by kernel_rfl⟩
noncomputable def i57 : Inf := ⟨Tryz.t56.desc, Tryz.t57.size, Tryz.t57.bytes, Tryz.t57.zero, (.agg c57), (.one (.agg c57))⟩
theorem i57_ok : InfOk Tryz.prog 57 i57 := ⟨by kernel_rfl, by kernel_rfl, by kernel_rfl⟩
noncomputable def i60 : Inf := ⟨Tryz.t60.desc, Tryz.t60.size, Tryz.t60.bytes, Tryz.t60.zero, (.one .any), (.tup [(.agg c57), (.one .any)])⟩
theorem i60_ok : InfOk Tryz.prog 60 i60 := ⟨by kernel_rfl, by kernel_rfl, by kernel_rfl⟩
noncomputable def i65 : Inf := ⟨Tryz.t64.desc, Tryz.t65.size, Tryz.t65.bytes, Tryz.t65.zero, (.agg c65), (.one (.agg c65))⟩
theorem i65_ok : InfOk Tryz.prog 65 i65 := ⟨by kernel_rfl, by kernel_rfl, by kernel_rfl⟩
noncomputable def i69 : Inf := ⟨Tryz.t69.desc, Tryz.t69.size, Tryz.t69.bytes, Tryz.t69.zero, (.one .sl), (.one (.one .sl))⟩
theorem i69_ok : InfOk Tryz.prog 69 i69 := ⟨by kernel_rfl, by kernel_rfl, by kernel_rfl⟩
noncomputable def i70 : Inf := ⟨Tryz.t70.desc, Tryz.t70.size, Tryz.t70.bytes, Tryz.t70.zero, (.one .sl), (.one (.one .sl))⟩
theorem i70_ok : InfOk Tryz.prog 70 i70 := ⟨by kernel_rfl, by kernel_rfl, by kernel_rfl⟩
noncomputable def i72 : Inf := ⟨Tryz.t71.desc, Tryz.t72.size, Tryz.t72.bytes, Tryz.t72.zero, (.agg c72), (.one (.agg c72))⟩
theorem i72_ok : InfOk Tryz.prog 72 i72 := ⟨by kernel_rfl, by kernel_rfl, by kernel_rfl⟩
noncomputable def i79 : Inf := ⟨Tryz.t79.desc, Tryz.t79.size, Tryz.t79.bytes, Tryz.t79.zero, (.one .sl), (.one (.one .sl))⟩
theorem i79_ok : InfOk Tryz.prog 79 i79 := ⟨by kernel_rfl, by kernel_rfl, by kernel_rfl⟩
noncomputable def i81 : Inf := ⟨Tryz.t80.desc, Tryz.t81.size, Tryz.t81.bytes, Tryz.t81.zero, (.agg c81), (.one (.agg c81))⟩
theorem i81_ok : InfOk Tryz.prog 81 i81 := ⟨by kernel_rfl, by kernel_rfl, by kernel_rfl⟩
noncomputable def i84 : Inf := ⟨Tryz.t84.desc, Tryz.t84.size, Tryz.t84.bytes, Tryz.t84.zero, (.one .sl), (.one (.one .sl))⟩
theorem i84_ok : InfOk Tryz.prog 84 i84 := ⟨by kernel_rfl, by kernel_rfl, by kernel_rfl⟩
noncomputable def i86 : Inf := ⟨Tryz.t85.desc, Tryz.t86.size, Tryz.t86.bytes, Tryz.t86.zero, (.agg c86), (.one (.agg c86))⟩
theorem i86_ok : InfOk Tryz.prog 86 i86 := ⟨by kernel_rfl, by kernel_rfl, by kernel_rfl⟩
noncomputable def i89 : Inf := ⟨Tryz.t88.desc, Tryz.t89.size, Tryz.t89.bytes, Tryz.t89.zero, (.agg c89), (.one (.agg c89))⟩
theorem i89_ok : InfOk Tryz.prog 89 i89 := ⟨by kernel_rfl, by kernel_rfl, by kernel_rfl⟩
noncomputable def i90 : Inf := ⟨Tryz.t90.desc, Tryz.t90.size, Tryz.t90.bytes, Tryz.t90.zero, (.one .sl), (.one (.one .sl))⟩
theorem i90_ok : InfOk Tryz.prog 90 i90 := ⟨by kernel_rfl, by kernel_rfl, by kernel_rfl⟩
noncomputable def i92 : Inf := ⟨Tryz.t92.desc, Tryz.t92.size, Tryz.t92.bytes, Tryz.t92.zero, (.one .any), (.tup [(.one .ptr), (.one (.int .i64))])⟩
theorem i92_ok : InfOk Tryz.prog 92 i92 := ⟨by kernel_rfl, by kernel_rfl, by kernel_rfl⟩
noncomputable def i94 : Inf := ⟨Tryz.t94.desc, Tryz.t94.size, Tryz.t94.bytes, Tryz.t94.zero, (.one .any), (.tup [(.one .sl), (.one .any)])⟩
theorem i94_ok : InfOk Tryz.prog 94 i94 := ⟨by kernel_rfl, by kernel_rfl, by kernel_rfl⟩
noncomputable def i99 : Inf := ⟨Tryz.t99.desc, Tryz.t99.size, Tryz.t99.bytes, Tryz.t99.zero, (.one .ptr), (.one (.one .ptr))⟩
theorem i99_ok : InfOk Tryz.prog 99 i99 := ⟨by kernel_rfl, by kernel_rfl, by kernel_rfl⟩
noncomputable def i101 : Inf := ⟨Tryz.t100.desc, Tryz.t101.size, Tryz.t101.bytes, Tryz.t101.zero, (.agg c101), (.one (.agg c101))⟩
theorem i101_ok : InfOk Tryz.prog 101 i101 := ⟨by kernel_rfl, by kernel_rfl, by kernel_rfl⟩
noncomputable def i103 : Inf := ⟨Tryz.t102.desc, Tryz.t103.size, Tryz.t103.bytes, Tryz.t103.zero, (.one .map), (.one (.one .map))⟩
theorem i103_ok : InfOk Tryz.prog 103 i103 := ⟨by kernel_rfl, by kernel_rfl, by kernel_rfl⟩
noncomputable def i104 : Inf := ⟨Tryz.t104.desc, Tryz.t104.size, Tryz.t104.bytes, Tryz.t104.zero, (.one .sl), (.one (.one .sl))⟩
theorem i104_ok : InfOk Tryz.prog 104 i104 := ⟨by kernel_rfl, by kernel_rfl, by kernel_rfl⟩
noncomputable def i105 : Inf := ⟨Tryz.t105.desc, Tryz.t105.size, Tryz.t105.bytes, Tryz.t105.zero, (.one .map), (.one (.one .map))⟩
theorem i105_ok : InfOk Tryz.prog 105 i105 := ⟨by kernel_rfl, by kernel_rfl, by kernel_rfl⟩
noncomputable def i107 : Inf := ⟨Tryz.t106.desc, Tryz.t107.size, Tryz.t107.bytes, Tryz.t107.zero, (.agg c107), (.one (.agg c107))⟩
theorem i107_ok : InfOk Tryz.prog 107 i107 := ⟨by kernel_rfl, by kernel_rfl, by kernel_rfl⟩
noncomputable def i110 : Inf := ⟨Tryz.t109.desc, Tryz.t110.size, Tryz.t110.bytes, Tryz.t110.zero, (.agg c110), (.one (.agg c110))⟩
theorem i110_ok : InfOk Tryz.prog 110 i110 := ⟨by kernel_rfl, by kernel_rfl, by kernel_rfl⟩
noncomputable def i112 : Inf := ⟨Tryz.t112.desc, Tryz.t112.size, Tryz.t112.bytes, Tryz.t112.zero, (.one .any), (.one (.one .any))⟩
theorem i112_ok : InfOk Tryz.prog 112 i112 := ⟨by kernel_rfl, by kernel_rfl, by kernel_rfl⟩
noncomputable def i113 : Inf := ⟨Tryz.t113.desc, Tryz.t113.size, Tryz.t113.bytes, Tryz.t113.zero, (.one .any), (.tup [(.one (.int .i64)), (.one .any)])⟩
theorem i113_ok : InfOk Tryz.prog 113 i113 := ⟨by kernel_rfl, by kernel_rfl, by kernel_rfl⟩
noncomputable def i117 : Inf := ⟨Tryz.t117.desc, Tryz.t117.size, Tryz.t117.bytes, Tryz.t117.zero, (.one .sl), (.one (.one .sl))⟩
theorem i117_ok : InfOk Tryz.prog 117 i117 := ⟨by kernel_rfl, by kernel_rfl, by kernel_rfl⟩
noncomputable def i119 : Inf := ⟨Tryz.t119.desc, Tryz.t119.size, Tryz.t119.bytes, Tryz.t119.zero, (.agg c119), (.one (.agg c119))⟩
theorem i119_ok : InfOk Tryz.prog 119 i119 := ⟨by kernel_rfl, by kernel_rfl, by kernel_rfl⟩
noncomputable def i120 : Inf := ⟨Tryz.t120.desc, Tryz.t120.size, Tryz.t120.bytes, Tryz.t120.zero, (.one .sl), (.one (.one .sl))⟩
theorem i120_ok : InfOk Tryz.prog 120 i120 := ⟨by kernel_rfl, by kernel_rfl, by kernel_rfl⟩
noncomputable def i121 : Inf := ⟨Tryz.t121.desc, Tryz.t121.size, Tryz.t121.bytes, Tryz.t121.zero, (.one .ptr), (.one (.one .ptr))⟩
theorem i121_ok : InfOk Tryz.prog 121 i121 := ⟨by kernel_rfl, by kernel_rfl, by kernel_rfl⟩
noncomputable def i123 : Inf := ⟨Tryz.t122.desc, Tryz.t123.size, Tryz.t123.bytes, Tryz.t123.zero, (.agg c123), (.one (.agg c123))⟩
theorem i123_ok : InfOk Tryz.prog 123 i123 := ⟨by kernel_rfl, by kernel_rfl, by kernel_rfl⟩
noncomputable def i127 : Inf := ⟨Tryz.t126.desc, Tryz.t127.size, Tryz.t127.bytes, Tryz.t127.zero, (.agg c127), (.one (.agg c127))⟩
theorem i127_ok : InfOk Tryz.prog 127 i127 := ⟨by kernel_rfl, by kernel_rfl, by kernel_rfl⟩
noncomputable def i128 : Inf := ⟨Tryz.t128.desc, Tryz.t128.size, Tryz.t128.bytes, Tryz.t128.zero, (.one .any), (.tup [(.agg c127), (.one (.int .i64))])⟩
theorem i128_ok : InfOk Tryz.prog 128 i128 := ⟨by kernel_rfl, by kernel_rfl, by kernel_rfl⟩
noncomputable def i132 : Inf := ⟨Tryz.t131.desc, Tryz.t132.size, Tryz.t132.bytes, Tryz.t132.zero, (.agg c132), (.one (.agg c132))⟩
theorem i132_ok : InfOk Tryz.prog 132 i132 := ⟨by kernel_rfl, by kernel_rfl, by kernel_rfl⟩
noncomputable def i133 : Inf := ⟨Tryz.t133.desc, Tryz.t133.size, Tryz.t133.bytes, Tryz.t133.zero, (.one .any), (.tup [(.agg c132), (.one .bool)])⟩
theorem i133_ok : InfOk Tryz.prog 133 i133 := ⟨by kernel_rfl, by kernel_rfl, by kernel_rfl⟩
noncomputable def i136 : Inf := ⟨Tryz.t135.desc, Tryz.t136.size, Tryz.t136.bytes, Tryz.t136.zero, (.one .any), (.one (.one .any))⟩
theorem i136_ok : InfOk Tryz.prog 136 i136 := ⟨by kernel_rfl, by kernel_rfl, by kernel_rfl⟩
noncomputable def i137 : Inf := ⟨Tryz.t137.desc, Tryz.t137.size, Tryz.t137.bytes, Tryz.t137.zero, (.one .ptr), (.one (.one .ptr))⟩
theorem i137_ok : InfOk Tryz.prog 137 i137 := ⟨by kernel_rfl, by kernel_rfl, by kernel_rfl⟩
noncomputable def i139 : Inf := ⟨Tryz.t138.desc, Tryz.t139.size, Tryz.t139.bytes, Tryz.t139.zero, (.agg c139), (.one (.agg c139))⟩
theorem i139_ok : InfOk Tryz.prog 139 i139 := ⟨by kernel_rfl, by kernel_rfl, by kernel_rfl⟩
noncomputable def i141 : Inf := ⟨Tryz.t140.desc, Tryz.t141.size, Tryz.t141.bytes, Tryz.t141.zero, (.agg c141), (.one (.agg c141))⟩
theorem i141_ok : InfOk Tryz.prog 141 i141 := ⟨by kernel_rfl, by kernel_rfl, by kernel_rfl⟩
noncomputable def i144 : Inf := ⟨Tryz.t143.desc, Tryz.t144.size, Tryz.t144.bytes, Tryz.t144.zero, (.agg c144), (.one (.agg c144))⟩
theorem i144_ok : InfOk Tryz.prog 144 i144 := ⟨by kernel_rfl, by kernel_rfl, by kernel_rfl⟩
noncomputable def i146 : Inf := ⟨Tryz.t145.desc, Tryz.t146.size, Tryz.t146.bytes, Tryz.t146.zero, (.agg c146), (.one (.agg c146))⟩
theorem i146_ok : InfOk Tryz.prog 146 i146 := ⟨by kernel_rfl, by kernel_rfl, by kernel_rfl⟩
noncomputable def i147 : Inf := ⟨Tryz.t147.desc, Tryz.t147.size, Tryz.t147.bytes, Tryz.t147.zero, (.one .any), (.one (.one .any))⟩
theorem i147_ok : InfOk Tryz.prog 147 i147 := ⟨by kernel_rfl, by kernel_rfl, by kernel_rfl⟩
noncomputable def i153 : Inf := ⟨Tryz.t153.desc, Tryz.t153.size, Tryz.t153.bytes, Tryz.t153.zero, (.one .ptr), (.one (.one .ptr))⟩
theorem i153_ok : InfOk Tryz.prog 153 i153 := ⟨by kernel_rfl, by kernel_rfl, by kernel_rfl⟩
noncomputable def i154 : Inf := ⟨Tryz.t154.desc, Tryz.t154.size, Tryz.t154.bytes, Tryz.t154.zero, (.agg c154), (.one (.agg c154))⟩
theorem i154_ok : InfOk Tryz.prog 154 i154 := ⟨by kernel_rfl, by kernel_rfl, by kernel_rfl⟩
noncomputable def i155 : Inf := ⟨Tryz.t155.desc, Tryz.t155.size, Tryz.t155.bytes, Tryz.t155.zero, (.one .ptr), (.one (.one .ptr))⟩
theorem i155_ok : InfOk Tryz.prog 155 i155 := ⟨by kernel_rfl, by kernel_rfl, by kernel_rfl⟩
noncomputable def i156 : Inf := ⟨Tryz.t156.desc, Tryz.t156.size, Tryz.t156.bytes, Tryz.t156.zero, (.agg c156), (.one (.agg c156))⟩
theorem i156_ok : InfOk Tryz.prog 156 i156 := ⟨by kernel_rfl, by kernel_rfl, by kernel_rfl⟩
noncomputable def i158 : Inf := ⟨Tryz.t157.desc, Tryz.t158.size, Tryz.t158.bytes, Tryz.t158.zero, (.agg c158), (.one (.agg c158))⟩
theorem i158_ok : InfOk Tryz.prog 158 i158 := ⟨by kernel_rfl, by kernel_rfl, by kernel_rfl⟩
noncomputable def i162 : Inf := ⟨Tryz.t161.desc, Tryz.t162.size, Tryz.t162.bytes, Tryz.t162.zero, (.agg c162), (.one (.agg c162))⟩
theorem i162_ok : InfOk Tryz.prog 162 i162 := ⟨by kernel_rfl, by kernel_rfl, by kernel_rfl⟩
noncomputable def i165 : Inf := ⟨Tryz.t165.desc, Tryz.t165.size, Tryz.t165.bytes, Tryz.t165.zero, (.one .sl), (.one (.one .sl))⟩
theorem i165_ok : InfOk Tryz.prog 165 i165 := ⟨by kernel_rfl, by kernel_rfl, by kernel_rfl⟩
noncomputable def i172 : Inf := ⟨Tryz.t171.desc, Tryz.t172.size, Tryz.t172.bytes, Tryz.t172.zero, (.one .any), (.one (.one .any))⟩
theorem i172_ok : InfOk Tryz.prog 172 i172 := ⟨by kernel_rfl, by kernel_rfl, by kernel_rfl⟩
noncomputable def i176 : Inf := ⟨Tryz.t176.desc, Tryz.t176.size, Tryz.t176.bytes, Tryz.t176.zero, (.one .ptr), (.one (.one .ptr))⟩
theorem i176_ok : InfOk Tryz.prog 176 i176 := ⟨by kernel_rfl, by kernel_rfl, by kernel_rfl⟩
noncomputable def i177 : Inf := ⟨Tryz.t177.desc, Tryz.t177.size, Tryz.t177.bytes, Tryz.t177.zero, (.one .ptr), (.one (.one .ptr))⟩
theorem i177_ok : InfOk Tryz.prog 177 i177 := ⟨by kernel_rfl, by kernel_rfl, by kernel_rfl⟩
noncomputable def i180 : Inf := ⟨Tryz.t179.desc, Tryz.t180.size, Tryz.t180.bytes, Tryz.t180.zero, (.agg c180), (.one (.agg c180))⟩
theorem i180_ok : InfOk Tryz.prog 180 i180 := ⟨by kernel_rfl, by kernel_rfl, by kernel_rfl⟩
noncomputable def i182 : Inf := ⟨Tryz.t182.desc, Tryz.t182.size, Tryz.t182.bytes, Tryz.t182.zero, (.one .any), (.one (.one .any))⟩
theorem i182_ok : InfOk Tryz.prog 182 i182 := ⟨by kernel_rfl, by kernel_rfl, by kernel_rfl⟩
noncomputable def i183 : Inf := ⟨Tryz.t183.desc, Tryz.t183.size, Tryz.t183.bytes, Tryz.t183.zero, (.one .any), (.one (.one .any))⟩
theorem i183_ok : InfOk Tryz.prog 183 i183 := ⟨by kernel_rfl, by kernel_rfl, by kernel_rfl⟩
noncomputable def i184 : Inf := ⟨Tryz.t184.desc, Tryz.t184.size, Tryz.t184.bytes, Tryz.t184.zero, (.one .any), (.one (.one .any))⟩
theorem i184_ok : InfOk Tryz.prog 184 i184 := ⟨by kernel_rfl, by kernel_rfl, by kernel_rfl⟩
noncomputable def i186 : Inf := ⟨Tryz.t185.desc, Tryz.t186.size, Tryz.t186.bytes, Tryz.t186.zero, (.agg c186), (.one (.agg c186))⟩
theorem i186_ok : InfOk Tryz.prog 186 i186 := ⟨by kernel_rfl, by kernel_rfl, by kernel_rfl⟩
noncomputable def i190 : Inf := ⟨Tryz.t190.desc, Tryz.t190.size, Tryz.t190.bytes, Tryz.t190.zero, (.one .any), (.tup [(.one .ptr), (.one (.int .i64))])⟩
theorem i190_ok : InfOk Tryz.prog 190 i190 := ⟨by kernel_rfl, by kernel_rfl, by kernel_rfl⟩
noncomputable def i196 : Inf := ⟨Tryz.t196.desc, Tryz.t196.size, Tryz.t196.bytes, Tryz.t196.zero, (.one .any), (.tup [(.agg c146), (.one .bool)])⟩
theorem i196_ok : InfOk Tryz.prog 196 i196 := ⟨by kernel_rfl, by kernel_rfl, by kernel_rfl⟩
noncomputable def i198 : Inf := ⟨Tryz.t198.desc, Tryz.t198.size, Tryz.t198.bytes, Tryz.t198.zero, (.one .any), (.tup [(.agg c146), (.agg c146)])⟩
theorem i198_ok : InfOk Tryz.prog 198 i198 := ⟨by kernel_rfl, by kernel_rfl, by kernel_rfl⟩
noncomputable def i201 : Inf := ⟨Tryz.t201.desc, Tryz.t201.size, Tryz.t201.bytes, Tryz.t201.zero, (.one .any), (.tup [(.agg c139), (.one (.int .i64))])⟩
theorem i201_ok : InfOk Tryz.prog 201 i201 := ⟨by kernel_rfl, by kernel_rfl, by kernel_rfl⟩
noncomputable def i204 : Inf := ⟨Tryz.t203.desc, Tryz.t204.size, Tryz.t204.bytes, Tryz.t204.zero, (.one .any), (.one (.one .any))⟩
theorem i204_ok : InfOk Tryz.prog 204 i204 := ⟨by kernel_rfl, by kernel_rfl, by kernel_rfl⟩
noncomputable def i214 : Inf := ⟨Tryz.t214.desc, Tryz.t214.size, Tryz.t214.bytes, Tryz.t214.zero, (.one .any), (.tup [(.one .any), (.one .bool)])⟩
theorem i214_ok : InfOk Tryz.prog 214 i214 := ⟨by kernel_rfl, by kernel_rfl, by kernel_rfl⟩
noncomputable def i216 : Inf := ⟨Tryz.t216.desc, Tryz.t216.size, Tryz.t216.bytes, Tryz.t216.zero, (.one .any), (.one (.one .any))⟩
theorem i216_ok : InfOk Tryz.prog 216 i216 := ⟨by kernel_rfl, by kernel_rfl, by kernel_rfl⟩
noncomputable def i217 : Inf := ⟨Tryz.t217.desc, Tryz.t217.size, Tryz.t217.bytes, Tryz.t217.zero, (.one .any), (.one (.one .any))⟩
theorem i217_ok : InfOk Tryz.prog 217 i217 := ⟨by kernel_rfl, by kernel_rfl, by kernel_rfl⟩
noncomputable def i218 : Inf := ⟨Tryz.t218.desc, Tryz.t218.size, Tryz.t218.bytes, Tryz.t218.zero, (.one .sl), (.one (.one .sl))⟩
theorem i218_ok : InfOk Tryz.prog 218 i218 := ⟨by kernel_rfl, by kernel_rfl, by kernel_rfl⟩
noncomputable def i223 : Inf := ⟨Tryz.t222.desc, Tryz.t223.size, Tryz.t223.bytes, Tryz.t223.zero, (.agg c223), (.one (.agg c223))⟩
theorem i223_ok : InfOk Tryz.prog 223 i223 := ⟨by kernel_rfl, by kernel_rfl, by kernel_rfl⟩
noncomputable def i226 : Inf := ⟨Tryz.t5.desc, Tryz.t226.size, Tryz.t226.bytes, Tryz.t226.zero, (.one (.int .u8)), (.one (.one (.int .u8)))⟩
theorem i226_ok : InfOk Tryz.prog 226 i226 := ⟨by kernel_rfl, by kernel_rfl, by kernel_rfl⟩
noncomputable def i230 : Inf := ⟨Tryz.t230.desc, Tryz.t230.size, Tryz.t230.bytes, Tryz.t230.zero, (.one (.int .u64)), (.one (.one (.int .u64)))⟩
theorem i230_ok : InfOk Tryz.prog 230 i230 := ⟨by kernel_rfl, by kernel_rfl, by kernel_rfl⟩
noncomputable def i235 : Inf := ⟨Tryz.t235.desc, Tryz.t235.size, Tryz.t235.bytes, Tryz.t235.zero, (.one .sl), (.one (.one .sl))⟩
theorem i235_ok : InfOk Tryz.prog 235 i235 := ⟨by kernel_rfl, by kernel_rfl, by kernel_rfl⟩
noncomputable def i236 : Inf := ⟨Tryz.t236.desc, Tryz.t236.size, Tryz.t236.bytes, Tryz.t236.zero, (.one .sl), (.one (.one .sl))⟩
theorem i236_ok : InfOk Tryz.prog 236 i236 := ⟨by kernel_rfl, by kernel_rfl, by kernel_rfl⟩
noncomputable def i237 : Inf := ⟨Tryz.t237.desc, Tryz.t237.size, Tryz.t237.bytes, Tryz.t237.zero, (.one .sl), (.one (.one .sl))⟩
theorem i237_ok : InfOk Tryz.prog 237 i237 := ⟨by kernel_rfl, by kernel_rfl, by kernel_rfl⟩
noncomputable def i239 : Inf := ⟨Tryz.t238.desc, Tryz.t239.size, Tryz.t239.bytes, Tryz.t239.zero, (.agg c239), (.one (.agg c239))⟩
theorem i239_ok : InfOk Tryz.prog 239 i239 := ⟨by kernel_rfl, by kernel_rfl, by kernel_rfl⟩
noncomputable def i240 : Inf := ⟨Tryz.t31.desc, Tryz.t240.size, Tryz.t240.bytes, Tryz.t240.zero, (.agg c240), (.one (.agg c240))⟩
theorem i240_ok : InfOk Tryz.prog 240 i240 := ⟨by kernel_rfl, by kernel_rfl, by kernel_rfl⟩
noncomputable def i241 : Inf := ⟨Tryz.t241.desc, Tryz.t241.size, Tryz.t241.bytes, Tryz.t241.zero, (.one .any), (.tup [(.one .ptr), (.agg c240), (.one (.int .i64))])⟩
theorem i241_ok : InfOk Tryz.prog 241 i241 := ⟨by kernel_rfl, by kernel_rfl, by kernel_rfl⟩
noncomputable def i245 : Inf := ⟨Tryz.t244.desc, Tryz.t245.size, Tryz.t245.bytes, Tryz.t245.zero, (.agg c245), (.one (.agg c245))⟩
theorem i245_ok : InfOk Tryz.prog 245 i245 := ⟨by kernel_rfl, by kernel_rfl, by kernel_rfl⟩
noncomputable def i247 : Inf := ⟨Tryz.t246.desc, Tryz.t247.size, Tryz.t247.bytes, Tryz.t247.zero, (.agg c247), (.one (.agg c247))⟩
theorem i247_ok : InfOk Tryz.prog 247 i247 := ⟨by kernel_rfl, by kernel_rfl, by kernel_rfl⟩
noncomputable def i252 : Inf := ⟨Tryz.t251.desc, Tryz.t252.size, Tryz.t252.bytes, Tryz.t252.zero, (.agg c252), (.one (.agg c252))⟩
theorem i252_ok : InfOk Tryz.prog 252 i252 := ⟨by kernel_rfl, by kernel_rfl, by kernel_rfl⟩
noncomputable def i255 : Inf := ⟨Tryz.t254.desc, Tryz.t255.size, Tryz.t255.bytes, Tryz.t255.zero, (.agg c255), (.one (.agg c255))⟩
theorem i255_ok : InfOk Tryz.prog 255 i255 := ⟨by kernel_rfl, by kernel_rfl, by kernel_rfl⟩
noncomputable def i257 : Inf := ⟨Tryz.t257.desc, Tryz.t257.size, Tryz.t257.bytes, Tryz.t257.zero, (.one .any), (.tup [(.one .sl), (.one (.int .i64)), (.one (.int .i64))])⟩
theorem i257_ok : InfOk Tryz.prog 257 i257 := ⟨by kernel_rfl, by kernel_rfl, by kernel_rfl⟩
noncomputable def i259 : Inf := ⟨Tryz.t259.desc, Tryz.t259.size, Tryz.t259.bytes, Tryz.t259.zero, (.one .any), (.tup [(.one .ptr), (.one .ptr)])⟩
theorem i259_ok : InfOk Tryz.prog 259 i259 := ⟨by kernel_rfl, by kernel_rfl, by kernel_rfl⟩
noncomputable def i263 : Inf := ⟨Tryz.t262.desc, Tryz.t263.size, Tryz.t263.bytes, Tryz.t263.zero, (.agg c263), (.one (.agg c263))⟩
theorem i263_ok : InfOk Tryz.prog 263 i263 := ⟨by kernel_rfl, by kernel_rfl, by kernel_rfl⟩
noncomputable def i264 : Inf := ⟨Tryz.t179.desc, Tryz.t264.size, Tryz.t264.bytes, Tryz.t264.zero, (.agg c264), (.one (.agg c264))⟩
theorem i264_ok : InfOk Tryz.prog 264 i264 := ⟨by kernel_rfl, by kernel_rfl, by kernel_rfl⟩
noncomputable def i271 : Inf := ⟨Tryz.t271.desc, Tryz.t271.size, Tryz.t271.bytes, Tryz.t271.zero, (.one .any), (.tup [(.one .any), (.one .bool)])⟩
theorem i271_ok : InfOk Tryz.prog 271 i271 := ⟨by kernel_rfl, by kernel_rfl, by kernel_rfl⟩
noncomputable def i273 : Inf := ⟨Tryz.t273.desc, Tryz.t273.size, Tryz.t273.bytes, Tryz.t273.zero, (.one .any), (.tup [(.one (.int .i64)), (.one (.int .u8)), (.one (.int .u8))])⟩
theorem i273_ok : InfOk Tryz.prog 273 i273 := ⟨by kernel_rfl, by kernel_rfl, by kernel_rfl⟩
noncomputable def i276 : Inf := ⟨Tryz.t275.desc, Tryz.t276.size, Tryz.t276.bytes, Tryz.t276.zero, (.one .any), (.one (.one .any))⟩
theorem i276_ok : InfOk Tryz.prog 276 i276 := ⟨by kernel_rfl, by kernel_rfl, by kernel_rfl⟩
noncomputable def i278 : Inf := ⟨Tryz.t278.desc, Tryz.t278.size, Tryz.t278.bytes, Tryz.t278.zero, (.one .any), (.tup [(.one (.int .i64)), (.one .any)])⟩
theorem i278_ok : InfOk Tryz.prog 278 i278 := ⟨by kernel_rfl, by kernel_rfl, by kernel_rfl⟩
noncomputable def i298 : Inf := ⟨Tryz.t297.desc, Tryz.t298.size, Tryz.t298.bytes, Tryz.t298.zero, (.agg c298), (.one (.agg c298))⟩
theorem i298_ok : InfOk Tryz.prog 298 i298 := ⟨by kernel_rfl, by kernel_rfl, by kernel_rfl⟩
noncomputable def i302 : Inf := ⟨Tryz.t302.desc, Tryz.t302.size, Tryz.t302.bytes, Tryz.t302.zero, (.one .any), (.tup [(.agg c146), (.one .ptr)])⟩
theorem i302_ok : InfOk Tryz.prog 302 i302 := ⟨by kernel_rfl, by kernel_rfl, by kernel_rfl⟩
noncomputable def i304 : Inf := ⟨Tryz.t304.desc, Tryz.t304.size, Tryz.t304.bytes, Tryz.t304.zero, (.one .any), (.one (.one .any))⟩
theorem i304_ok : InfOk Tryz.prog 304 i304 := ⟨by kernel_rfl, by kernel_rfl, by kernel_rfl⟩
noncomputable def i305 : Inf := ⟨Tryz.t305.desc, Tryz.t305.size, Tryz.t305.bytes, Tryz.t305.zero, (.one .any), (.one (.one .any))⟩
theorem i305_ok : InfOk Tryz.prog 305 i305 := ⟨by kernel_rfl, by kernel_rfl, by kernel_rfl⟩
noncomputable def i313 : Inf := ⟨Tryz.t313.desc, Tryz.t313.size, Tryz.t313.bytes, Tryz.t313.zero, (.one .any), (.one (.one .any))⟩
theorem i313_ok : InfOk Tryz.prog 313 i313 := ⟨by kernel_rfl, by kernel_rfl, by kernel_rfl⟩
noncomputable def i314 : Inf := ⟨Tryz.t314.desc, Tryz.t314.size, Tryz.t314.bytes, Tryz.t314.zero, (.one .any), (.tup [(.agg c56), (.one .bool), (.one (.int .i64))])⟩
theorem i314_ok : InfOk Tryz.prog 314 i314 := ⟨by kernel_rfl, by kernel_rfl, by kernel_rfl⟩
noncomputable def i317 : Inf := ⟨Tryz.t316.desc, Tryz.t317.size, Tryz.t317.bytes, Tryz.t317.zero, (.agg c317), (.one (.agg c317))⟩
theorem i317_ok : InfOk Tryz.prog 317 i317 := ⟨by kernel_rfl, by kernel_rfl, by kernel_rfl⟩
noncomputable def i323 : Inf := ⟨Tryz.t323.desc, Tryz.t323.size, Tryz.t323.bytes, Tryz.t323.zero, (.agg c323), (.one (.agg c323))⟩
theorem i323_ok : InfOk Tryz.prog 323 i323 := ⟨by kernel_rfl, by kernel_rfl, by kernel_rfl⟩
noncomputable def i324 : Inf := ⟨Tryz.t324.desc, Tryz.t324.size, Tryz.t324.bytes, Tryz.t324.zero, (.one .any), (.tup [(.one .sl), (.one (.int .i64))])⟩
theorem i324_ok : InfOk Tryz.prog 324 i324 := ⟨by kernel_rfl, by kernel_rfl, by kernel_rfl⟩
noncomputable def i326 : Inf := ⟨Tryz.t326.desc, Tryz.t326.size, Tryz.t326.bytes, Tryz.t326.zero, (.one .any), (.tup [(.agg c56), (.one (.int .i64))])⟩
theorem i326_ok : InfOk Tryz.prog 326 i326 := ⟨by kernel_rfl, by kernel_rfl, by kernel_rfl⟩
noncomputable def i331 : Inf := ⟨Tryz.t331.desc, Tryz.t331.size, Tryz.t331.bytes, Tryz.t331.zero, (.agg c331), (.one (.agg c331))⟩
theorem i331_ok : InfOk Tryz.prog 331 i331 := ⟨by kernel_rfl, by kernel_rfl, by kernel_rfl⟩
noncomputable def i348 : Inf := ⟨Tryz.t348.desc, Tryz.t348.size, Tryz.t348.bytes, Tryz.t348.zero, (.agg c348), (.one (.agg c348))⟩
theorem i348_ok : InfOk Tryz.prog 348 i348 := ⟨by kernel_rfl, by kernel_rfl, by kernel_rfl⟩
noncomputable def i352 : Inf := ⟨Tryz.t352.desc, Tryz.t352.size, Tryz.t352.bytes, Tryz.t352.zero, (.agg c352), (.one (.agg c352))⟩
theorem i352_ok : InfOk Tryz.prog 352 i352 := ⟨by kernel_rfl, by kernel_rfl, by kernel_rfl⟩
noncomputable def tab : Tab := ⟨[(0, i0), (3, i3), (4, i4), (5, i5), (9, i9), (20, i20), (21, i21), (24, i24), (26, i26), (27, i27), (29, i29), (30, i30), (32, i32), (33, i33), (34, i34), (37, i37), (39, i39), (42, i42), (47, i47), (48, i48), (51, i51), (56, i56), (57, i57), (60, i60), (65, i65), (69, i69), (70, i70), (72, i72), (79, i79), (81, i81), (84, i84), (86, i86), (89, i89), (90, i90), (92, i92), (94, i94), (99, i99), (101, i101), (103, i103), (104, i104), (105, i105), (107, i107), (110, i110), (112, i112), (113, i113), (117, i117), (119, i119), (120, i120), (121, i121), (123, i123), (127, i127), (128, i128), (132, i132), (133, i133), (136, i136), (137, i137), (139, i139), (141, i141), (144, i144), (146, i146), (147, i147), (153, i153), (154, i154), (155, i155), (156, i156), (158, i158), (162, i162), (165, i165), (172, i172), (176, i176), (177, i177), (180, i180), (182, i182), (183, i183), (184, i184), (186, i186), (190, i190), (196, i196), (198, i198), (201, i201), (204, i204), (214, i214), (216, i216), (217, i217), (218, i218), (223, i223), (226, i226), (230, i230), (235, i235), (236, i236), (237, i237), (239, i239), (240, i240), (241, i241), (245, i245), (247, i247), (252, i252), (255, i255), (257, i257), (259, i259), (263, i263), (264, i264), (271, i271), (273, i273), (276, i276), (278, i278), (298, i298), (302, i302), (304, i304), (305, i305), (313, i313), (314, i314), (317, i317), (323, i323), (324, i324), (326, i326), (331, i331), (348, i348), (352, i352)], [14, 15, 16, 17, 18, 19, 20, 21, 22, 23, 24, 25, 26, 27, 28, 29, 30, 31, 32, 33, 34, 35, 36, 37, 38, 39, 40, 41, 42, 43, 44, 45, 46, 47, 48, 49, 50, 51, 53, 54, 55, 56, 57, 58, 59, 60, 61, 62, 63, 64, 65, 67, 68, 69, 70, 71, 72, 73, 74, 75, 76, 77, 78, 79, 80, 81, 82, 83, 84, 85, 86, 88, 89, 90, 92, 93, 94, 95, 96, 97, 100, 101, 104, 107, 108, 109, 110, 111, 112, 113, 114, 115, 116, 117, 118, 119, 120, 121, 122, 123, 124, 125, 126, 127, 128, 129, 130, 134, 135, 137, 138, 139, 140, 141, 142, 143, 144, 145, 146, 147, 148, 149, 150, 151, 152, 153, 155, 156, 157, 158, 159, 160, 165, 168, 169, 184, 185, 186, 187, 188, 189, 190, 191, 192, 193, 194, 195, 196, 197, 198, 199, 202, 210, 211, 212, 213, 214, 216, 217, 218, 219, 220, 223, 224, 225, 226, 227, 228, 229, 230, 231, 232, 259, 280, 281, 282, 283]⟩
theorem fnsOk : FnsOk Tryz.prog [14, 15, 16, 17, 18, 19, 20, 21, 22, 23, 24, 25, 26, 27, 28, 29, 30, 31, 32, 33, 34, 35, 36, 37, 38, 39, 40, 41, 42, 43, 44, 45, 46, 47, 48, 49, 50, 51, 53, 54, 55, 56, 57, 58, 59, 60, 61, 62, 63, 64, 65, 67, 68, 69, 70, 71, 72, 73, 74, 75, 76, 77, 78, 79, 80, 81, 82, 83, 84, 85, 86, 88, 89, 90, 92, 93, 94, 95, 96, 97, 100, 101, 104, 107, 108, 109, 110, 111, 112, 113, 114, 115, 116, 117, 118, 119, 120, 121, 122, 123, 124, 125, 126, 127, 128, 129, 130, 134, 135, 137, 138, 139, 140, 141, 142, 143, 144, 145, 146, 147, 148, 149, 150, 151, 152, 153, 155, 156, 157, 158, 159, 160, 165, 168, 169, 184, 185, 186, 187, 188, 189, 190, 191, 192, 193, 194, 195, 196, 197, 198, 199, 202, 210, 211, 212, 213, 214, 216, 217, 218, 219, 220, 223, 224, 225, 226, 227, 228, 229, 230, 231, 232, 259, 280, 281, 282, 283] := ⟨by kernel_rfl, by kernel_rfl, by kernel_rfl, by kernel_rfl, by kernel_rfl, by kernel_rfl, by kernel_rfl, by kernel_rfl, by kernel_rfl, by kernel_rfl, by kernel_rfl, by kernel_rfl, by kernel_rfl, by kernel_rfl, by kernel_rfl, by kernel_rfl, by kernel_rfl, by kernel_rfl, by kernel_rfl, by kernel_rfl, by kernel_rfl, by kernel_rfl, by kernel_rfl, by kernel_rfl, by kernel_rfl, by kernel_rfl, by kernel_rfl, by kernel_rfl, by kernel_rfl, by kernel_rfl, by kernel_rfl, by kernel_rfl, by kernel_rfl, by kernel_rfl, by kernel_rfl, by kernel_rfl, by kernel_rfl, by kernel_rfl, by kernel_rfl, by kernel_rfl, by kernel_rfl, by kernel_rfl, by kernel_rfl, by kernel_rfl, by kernel_rfl, by kernel_rfl, by kernel_rfl, by kernel_rfl, by kernel_rfl, by kernel_rfl, by kernel_rfl, by kernel_rfl, by kernel_rfl, by kernel_rfl, by kernel_rfl, by kernel_rfl, by kernel_rfl, by kernel_rfl, by kernel_rfl, by kernel_rfl, by kernel_rfl, by kernel_rfl, by kernel_rfl, by kernel_rfl, by kernel_rfl, by kernel_rfl, by kernel_rfl, by kernel_rfl, by kernel_rfl, by kernel_rfl, by kernel_rfl, by kernel_rfl, by kernel_rfl, by kernel_rfl, by kernel_rfl, by kernel_rfl, by kernel_rfl, by kernel_rfl, by kernel_rfl, by kernel_rfl, by kernel_rfl, by kernel_rfl, by kernel_rfl, by kernel_rfl, by kernel_rfl, by kernel_rfl, by kernel_rfl, by kernel_rfl, by kernel_rfl, by kernel_rfl, by kernel_rfl, by kernel_rfl, by kernel_rfl, by kernel_rfl, by kernel_rfl, by kernel_rfl, by kernel_rfl, by kernel_rfl, by kernel_rfl, by kernel_rfl, by kernel_rfl, by kernel_rfl, by kernel_rfl, by kernel_rfl, by kernel_rfl, by kernel_rfl, by kernel_rfl, by kernel_rfl, by kernel_rfl, by kernel_rfl, by kernel_rfl, by kernel_rfl, by kernel_rfl, by kernel_rfl, by kernel_rfl, by kernel_rfl, by kernel_rfl, by kernel_rfl, by kernel_rfl, by kernel_rfl, by kernel_rfl, by kernel_rfl, by kernel_rfl, by kernel_rfl, by kernel_rfl, by kernel_rfl, by kernel_rfl, by kernel_rfl, by kernel_rfl, by kernel_rfl, by kernel_rfl, by kernel_rfl, by kernel_rfl, by kernel_rfl, by kernel_rfl, by kernel_rfl, by kernel_rfl, by kernel_rfl, by kernel_rfl, by kernel_rfl, by kernel_rfl, by kernel_rfl, by kernel_rfl, by kernel_rfl, by kernel_rfl, by kernel_rfl, by kernel_rfl, by kernel_rfl, by kernel_rfl, by kernel_rfl, by kernel_rfl, by kernel_rfl, by kernel_rfl, by kernel_rfl, by kernel_rfl, by kernel_rfl, by kernel_rfl, by kernel_rfl, by kernel_rfl, by kernel_rfl, by kernel_rfl, by kernel_rfl, by kernel_rfl, by kernel_rfl, by kernel_rfl, by kernel_rfl, by kernel_rfl, by kernel_rfl, by kernel_rfl, by kernel_rfl, by kernel_rfl, by kernel_rfl, by kernel_rfl, by kernel_rfl, by kernel_rfl, by kernel_rfl, by kernel_rfl, trivial⟩
theorem tabOk : tab.Ok Tryz.prog := ⟨⟨i0_ok, i3_ok, i4_ok, i5_ok, i9_ok, i20_ok, i21_ok, i24_ok, i26_ok, i27_ok, i29_ok, i30_ok, i32_ok, i33_ok, i34_ok, i37_ok, i39_ok, i42_ok, i47_ok, i48_ok, i51_ok, i56_ok, i57_ok, i60_ok, i65_ok, i69_ok, i70_ok, i72_ok, i79_ok, i81_ok, i84_ok, i86_ok, i89_ok, i90_ok, i92_ok, i94_ok, i99_ok, i101_ok, i103_ok, i104_ok, i105_ok, i107_ok, i110_ok, i112_ok, i113_ok, i117_ok, i119_ok, i120_ok, i121_ok, i123_ok, i127_ok, i128_ok, i132_ok, i133_ok, i136_ok, i137_ok, i139_ok, i141_ok, i144_ok, i146_ok, i147_ok, i153_ok, i154_ok, i155_ok, i156_ok, i158_ok, i162_ok, i165_ok, i172_ok, i176_ok, i177_ok, i180_ok, i182_ok, i183_ok, i184_ok, i186_ok, i190_ok, i196_ok, i198_ok, i201_ok, i204_ok, i214_ok, i216_ok, i217_ok, i218_ok, i223_ok, i226_ok, i230_ok, i235_ok, i236_ok, i237_ok, i239_ok, i240_ok, i241_ok, i245_ok, i247_ok, i252_ok, i255_ok, i257_ok, i259_ok, i263_ok, i264_ok, i271_ok, i273_ok, i276_ok, i278_ok, i298_ok, i302_ok, i304_ok, i305_ok, i313_ok, i314_ok, i317_ok, i323_ok, i324_ok, i326_ok, i331_ok, i348_ok, i352_ok, trivial⟩, fnsOk, by kernel_rfl⟩
end Go.Proofs.YtmooldhpiopcgaaGreatDoor
set_option linter.unusedSimpArgs false
set_option linter.unusedVariables false
set_option maxRecDepth 100000
set_option linter.unusedVariables false
namespace Go.Proofs.YtmooldhpiopcgaaGreatDoor
open Go Go.Vx
noncomputable def F15 (a0 : ByteArray) (K : Bool → World → Prop) : World → Prop :=
 join (S := Bool × Unit) (fun J1 =>
 sif (((ByteArray.size a0 : Nat) : Int) == (0 : Int)) (
 J1 (true, ())) (
 sif (decide (((ByteArray.size a0 : Nat) : Int) ≥ (32 : Int))) (
 J1 (true, ())) (
 callT Tryz.prog 50 #[(.string a0), (.string { data := #[126] })] (.one (.one .bool)) fun (x3 : Bool) =>
 J1 (x3, ())))) fun (s2 : Bool × Unit) =>
 sif s2.1 (
 K false) (
 callT Tryz.prog 51 #[(.string a0), (.func (.func 52) #[] #[])] (.one (.one (.int .i64))) fun (x4 : Int) =>
 K (decide (x4 < (0 : Int))))
noncomputable def h15 : Hint := (.seq none (.region [] (.ops 1 .done)) (.seq none (.seq (some (32760, [(14, (.one .bool))])) (.region [] (.ops 4 (.split 6 (.skips 3 (.ops 2 (.skips 2 (.ops 1 .done)))) (.ops 5 (.split 11 (.skips 2 (.ops 1 .done)) (.ops 3 .done)))))) (.cond none (.seq none (.region [] (.ops 1 .done)) .leaf) .leaf)) (.seq none (.region [] (.ops 4 .done)) .leaf)))
theorem F15_tie (a0 : ByteArray) (K : Bool → World → Prop) : vcgF tab Tryz.prog Tryz.f15 h15 [(.string a0)] (.one (.one .bool)) K = F15 a0 K := by kernel_rfl
theorem F15_calls {a0 : ByteArray} {K : Bool → World → Prop} {w : World} (h : F15 a0 K w) : callT Tryz.prog 15 #[(.string a0)] (.one (.one .bool)) K w :=
  vcgF_sound tabOk Tryz.func15 h15 [(.string a0)] (.one (.one .bool)) K w (Eq.mpr (congrFun (F15_tie a0 K) w) h)
noncomputable def F17 (a0 : Int) (K : (Option Addr × Value × Unit) → World → Prop) : World → Prop :=
 join (S := Bool × Unit) (fun J1 =>
 sif (decide (a0 < (0 : Int))) (
 J1 (true, ())) (
 J1 ((decide (a0 > (1048576 : Int))), ()))) fun (s2 : Bool × Unit) =>
 sif s2.1 (
 newO (.cells #[(.string { data := #[110, 101, 119] }), (.string { data := #[] }), (.int .i64 (0 : Int)), (.iface 33 (.int .i64 (1 : Int)))] 101) fun b3 =>
 K (none, (.iface 99 (.pointer (some (at0 b3)))), ())) (
 newO (.map #[] 0) fun b4 =>
 newO (.map #[] 0) fun b5 =>
 newO (.cells #[(.int .i64 a0), (.map (some b4)), (.map (some b5)), (.slice none 0 0), (.int .i64 (0 : Int)), (.bool false), (.map none), (.int .i64 (0 : Int))] 107) fun b6 =>
 K ((some (at0 b6)), .nilIface, ()))
noncomputable def h17 : Hint := (.seq none (.region [] (.ops 2 .done)) (.seq none (.seq (some (1008, [(9, (.one .bool))])) (.region [] (.ops 3 (.split 6 (.skips 2 (.ops 1 .done)) (.ops 3 .done)))) (.cond none (.seq none (.region [] (.ops 6 .done)) .leaf) .leaf)) (.seq none (.region [] (.ops 7 .done)) .leaf)))
theorem F17_tie (a0 : Int) (K : (Option Addr × Value × Unit) → World → Prop) : vcgF tab Tryz.prog Tryz.f17 h17 [(.int .i64 a0)] (.tup [(.one .ptr), (.one .any)]) K = F17 a0 K := by kernel_rfl
theorem F17_calls {a0 : Int} {K : (Option Addr × Value × Unit) → World → Prop} {w : World} (h : F17 a0 K w) : callT Tryz.prog 17 #[(.int .i64 a0)] (.tup [(.one .ptr), (.one .any)]) K w :=
  vcgF_sound tabOk Tryz.func17 h17 [(.int .i64 a0)] (.tup [(.one .ptr), (.one .any)]) K w (Eq.mpr (congrFun (F17_tie a0 K) w) h)
noncomputable def F18 (a0 : Option Addr) (a1 : ByteArray) (a2 : Int) (a3 : Int) (K : (Option Addr × (Int × Int × Sl × Bool × Unit) × Int × Unit) → World → Prop) : World → Prop :=
 newO (.cells #[(.int .i64 (0 : Int)), (.int .i64 (0 : Int)), (.slice none 0 0), (.bool false)] 32) fun b1 =>
 newO (.cells #[(.int .i64 (0 : Int)), (.int .i64 (0 : Int)), (.slice none 0 0), (.bool false)] 32) fun b2 =>
 callT Tryz.prog 15 #[(.string a1)] (.one (.one .bool)) fun (x3 : Bool) =>
 sif (!x3) (
 drew <|
 lds c32 (at0 b2) fun (x4 : (Int × Int × Sl × Bool × Unit)) =>
 aggSt (at0 b1) (.agg (Cells.vals c32 x4).toArray) 4 <|
 lds c32 (at0 b1) fun (x5 : (Int × Int × Sl × Bool × Unit)) =>
 K (none, x5, (164 : Int), ())) (
 join (S := Bool × Unit) (fun J6 =>
 sif (decide (a2 < (0 : Int))) (
 J6 (true, ())) (
 J6 ((decide (a2 > (4 : Int))), ()))) fun (s7 : Bool × Unit) =>
 sif s7.1 (
 drew <|
 lds c32 (at0 b2) fun (x8 : (Int × Int × Sl × Bool × Unit)) =>
 aggSt (at0 b1) (.agg (Cells.vals c32 x8).toArray) 4 <|
 lds c32 (at0 b1) fun (x9 : (Int × Int × Sl × Bool × Unit)) =>
 K (none, x9, (10 : Int), ())) (
 join (S := Bool × Unit) (fun J10 =>
 sif (decide (a3 < (0 : Int))) (
 J10 (true, ())) (
 J10 ((decide (a3 > (65536 : Int))), ()))) fun (s11 : Bool × Unit) =>
 sif s11.1 (
 drew <|
 lds c32 (at0 b2) fun (x12 : (Int × Int × Sl × Bool × Unit)) =>
 aggSt (at0 b1) (.agg (Cells.vals c32 x12).toArray) 4 <|
 lds c32 (at0 b1) fun (x13 : (Int × Int × Sl × Bool × Unit)) =>
 K (none, x13, (1 : Int), ())) (
 callT Tryz.prog 34 #[(.pointer a0), (.string a1)] (.tup [(.agg c57), (.one .any)]) fun (x14 : ((Int × Int × Int × Unit) × Value × Unit)) =>
 newO (.cells #[(.int .i64 (0 : Int)), (.int .i64 (0 : Int)), (.int .i64 (0 : Int))] 57) fun b15 =>
 aggSt (at0 b15) (.agg (Cells.vals c57 x14.1).toArray) 3 <|
 callT Tryz.prog 53 #[x14.2.1, (.iface 33 (.int .i64 (162 : Int)))] (.one (.one .bool)) fun (x16 : Bool) =>
 sif x16 (
 newO (.cells (Value.cells (.agg #[(.pointer a0), (.string a1), (.slice none 0 0), (.int .i64 (0 : Int)), (.int .i64 (0 : Int)), (.int .i64 (0 : Int)), (.int .i64 (0 : Int)), (.int .i64 (0 : Int)), (.int .i64 (0 : Int))])) 110) fun b17 =>
 aggSt (at0 b1) (.agg #[(.int .i64 (if (1 : Int) > a2 then (1 : Int) else a2)), (.int .i64 (0 : Int)), (.slice none 0 0), (.bool true)]) 4 <|
 lds c32 (at0 b1) fun (x18 : (Int × Int × Sl × Bool × Unit)) =>
 K ((some (at0 b17)), x18, (0 : Int), ())) (
 rdB Tryz.prog (do eqGuard .neq 26 (Operand.tmp 56) (Operand.const Value.nilIface) x14.2.1 .nilIface; binOp .neq 26 x14.2.1 .nilIface : Sem Value) fun r19 =>
 sif r19 (
 drew <|
 lds c32 (at0 b2) fun (x20 : (Int × Int × Sl × Bool × Unit)) =>
 callT Tryz.prog 54 #[x14.2.1] (.one (.one (.int .i64))) fun (x21 : Int) =>
 keep (fun w => cellsAt w (at0 b2) 0 (Cells.vals c32 x20)) <|
 aggSt (at0 b1) (.agg (Cells.vals c32 x20).toArray) 4 <|
 lds c32 (at0 b1) fun (x22 : (Int × Int × Sl × Bool × Unit)) =>
 K (none, x22, x21, ())) (
 callT Tryz.prog 49 #[(.pointer a0), (.string a1)] (.tup [(.one .sl), (.one .any)]) fun (x23 : (Sl × Value × Unit)) =>
 rdB Tryz.prog (do eqGuard .neq 26 (Operand.tmp 67) (Operand.const Value.nilIface) x23.2.1 .nilIface; binOp .neq 26 x23.2.1 .nilIface : Sem Value) fun r24 =>
 sif r24 (
 drew <|
 lds c32 (at0 b2) fun (x25 : (Int × Int × Sl × Bool × Unit)) =>
 callT Tryz.prog 54 #[x23.2.1] (.one (.one (.int .i64))) fun (x26 : Int) =>
 keep (fun w => cellsAt w (at0 b2) 0 (Cells.vals c32 x25)) <|
 aggSt (at0 b1) (.agg (Cells.vals c32 x25).toArray) 4 <|
 lds c32 (at0 b1) fun (x27 : (Int × Int × Sl × Bool × Unit)) =>
 K (none, x27, x26, ())) (
 join (S := Int × Int × Unit) (fun J28 =>
 callT Tryz.prog 24 #[(.slice x23.1.a x23.1.len x23.1.cap)] (.tup [(.one (.int .i64)), (.one (.int .i64))]) fun (x30 : (Int × Int × Unit)) =>
 join (S := Bool × Unit) (fun J31 =>
 sif (a2 == (0 : Int)) (
 J31 ((x30.1 != (0 : Int)), ())) (
 J31 (false, ()))) fun (s32 : Bool × Unit) =>
 sif s32.1 (
 J28 (x30.1, x30.2.1, ())) (
 sif (a2 == (0 : Int)) (
 callT Tryz.prog 55 #[(.slice x23.1.a x23.1.len x23.1.cap)] (.tup [(.one (.int .i64)), (.one .any)]) fun (x33 : (Int × Value × Unit)) =>
 J28 (x33.1, (0 : Int), ())) (
 callT Tryz.prog 25 #[(.int .i64 a2)] (.one (.one .sl)) fun (x34 : Sl) =>
 callT Tryz.prog 56 #[(.slice x23.1.a x23.1.len x23.1.cap), (.slice x34.a x34.len x34.cap)] (.one (.one .bool)) fun (x35 : Bool) =>
 sif x35 (
 callT Tryz.prog 25 #[(.int .i64 a2)] (.one (.one .sl)) fun (x36 : Sl) =>
 J28 (a2, ((x36.len : Nat) : Int), ())) (
 J28 (a2, (0 : Int), ()))))) fun (s29 : Int × Int × Unit) =>
 sif (decide ((IntKind.wrap .i64 (((x23.1.len : Nat) : Int) - s29.2.1)) > a3)) (
 drew <|
 lds c32 (at0 b2) fun (x37 : (Int × Int × Sl × Bool × Unit)) =>
 aggSt (at0 b1) (.agg (Cells.vals c32 x37).toArray) 4 <|
 lds c32 (at0 b1) fun (x38 : (Int × Int × Sl × Bool × Unit)) =>
 K (none, x38, (50 : Int), ())) (
 drew <|
 slc x23.1.a 0 s29.2.1 ((x23.1.cap : Nat) : Int) x23.1.cap 1 fun x39 =>
 lds c57 (at0 b15) fun (x40 : (Int × Int × Int × Unit)) =>
 callT Tryz.prog 57 #[(.slice x39.a x39.len x39.cap)] (.one (.one .sl)) fun (x41 : Sl) =>
 keep (fun w => cellsAt w (at0 b15) 0 (Cells.vals c57 x40)) <|
 newO (.cells (Value.cells (.agg #[(.pointer a0), (.string a1), (.slice x41.a x41.len x41.cap), (.int .i64 x40.1), (.int .i64 x40.2.1), (.int .i64 x40.2.2.1), (.int .i64 (0 : Int)), (.int .i64 (0 : Int)), (.int .i64 (0 : Int))])) 110) fun b42 =>
 slc x23.1.a s29.2.1 ((x23.1.len : Nat) : Int) ((x23.1.cap : Nat) : Int) x23.1.cap 1 fun x43 =>
 callT Tryz.prog 57 #[(.slice x43.a x43.len x43.cap)] (.one (.one .sl)) fun (x44 : Sl) =>
 aggSt (at0 b1) (.agg #[(.int .i64 s29.1), (.int .i64 s29.2.1), (.slice x44.a x44.len x44.cap), (.bool false)]) 4 <|
 lds c32 (at0 b1) fun (x45 : (Int × Int × Sl × Bool × Unit)) =>
 K ((some (at0 b42)), x45, (0 : Int), ()))))))))
noncomputable def h18 : Hint := (.seq none (.region [] (.ops 3 .done)) (.seq none (.region [] (.ops 1 .done)) (.seq none (.block (.seq none (.region [] (.ops 4 .done)) (.cond none (.seq none (.region [0, 1, 2, 3] (.ops 4 .done)) .leaf) (.seq (some (2130706432, [(24, (.one .bool))])) (.region [] (.ops 3 (.split 27 (.skips 2 (.ops 2 .done)) (.ops 4 .done)))) (.cond none (.seq none (.region [0, 1, 2, 3] (.ops 4 .done)) .leaf) (.seq (some (545460846592, [(32, (.one .bool))])) (.region [] (.ops 3 (.split 35 (.skips 2 (.ops 2 .done)) (.ops 4 .done)))) (.cond none (.seq none (.region [0, 1, 2, 3] (.ops 4 .done)) .leaf) .leaf))))))) (.seq none (.region [] (.ops 9 .done)) (.seq none (.seq none (.region [] (.ops 3 .done)) (.cond none (.seq none (.region [] (.ops 10 .done)) .leaf) .leaf)) (.seq none (.seq none (.region [] (.ops 2 .done)) (.cond none (.seq none (.region [0, 1, 2, 3, 4, 5] (.ops 6 .done)) .leaf) .leaf)) (.seq none (.region [] (.ops 8 .done)) (.seq none (.seq none (.region [] (.ops 2 .done)) (.cond none (.seq none (.region [0, 1, 2, 3, 4, 5] (.ops 6 .done)) .leaf) .leaf)) (.seq none (.region [] (.ops 1 .done)) (.seq (some (5070602396190551123117167837188, [(2, (.one (.int .i64))), (15, (.one (.int .i64)))])) (.seq none (.region [] (.ops 7 .done)) (.block (.seq (some (19191697386382238148460544, [(77, (.one .bool))])) (.region [] (.ops 3 (.split 80 (.ops 4 .done) (.skips 2 (.ops 2 .done))))) (.cond none (.region [] (.ops 4 .done)) (.seq none (.region [] (.ops 3 .done)) (.cond none (.region [] (.ops 6 .done)) (.seq none (.region [] (.ops 5 .done)) (.cond none (.region [] (.ops 4 .done)) .leaf)))))))) (.seq none (.seq none (.region [] (.ops 6 .done)) (.cond none (.seq none (.region [0, 1, 2, 3] (.ops 4 .done)) .leaf) .leaf)) (.seq none (.region [0, 1, 2, 3, 4, 6, 5, 7, 8, 9] (.ops 10 .done)) (.seq none (.region [] (.ops 11 .done)) .leaf)))))))))))))
theorem F18_tie (a0 : Option Addr) (a1 : ByteArray) (a2 : Int) (a3 : Int) (K : (Option Addr × (Int × Int × Sl × Bool × Unit) × Int × Unit) → World → Prop) : vcgF tab Tryz.prog Tryz.f18 h18 [(.pointer a0), (.string a1), (.int .i64 a2), (.int .i64 a3)] (.tup [(.one .ptr), (.agg c32), (.one (.int .i64))]) K = F18 a0 a1 a2 a3 K := by kernel_rfl
theorem F18_calls {a0 : Option Addr} {a1 : ByteArray} {a2 : Int} {a3 : Int} {K : (Option Addr × (Int × Int × Sl × Bool × Unit) × Int × Unit) → World → Prop} {w : World} (h : F18 a0 a1 a2 a3 K w) : callT Tryz.prog 18 #[(.pointer a0), (.string a1), (.int .i64 a2), (.int .i64 a3)] (.tup [(.one .ptr), (.agg c32), (.one (.int .i64))]) K w :=
  vcgF_sound tabOk Tryz.func18 h18 [(.pointer a0), (.string a1), (.int .i64 a2), (.int .i64 a3)] (.tup [(.one .ptr), (.agg c32), (.one (.int .i64))]) K w (Eq.mpr (congrFun (F18_tie a0 a1 a2 a3 K) w) h)
noncomputable def F27 (a0 : Option Addr) (a1 : Option Addr) (a2 : Bool) (K : Int → World → Prop) : World → Prop :=
 join (S := Addr × Value × Unit) (fun J1 =>
 drew <|
 nn a0 fun p3 =>
 ld (.ptr) p3 fun (x4 : Option Addr) =>
 nn a0 fun p5 =>
 ld (.str) (p5.add 1) fun (x6 : ByteArray) =>
 both (
 newO (.cells #[(.int .i64 (0 : Int)), (.int .i64 (0 : Int)), (.int .i64 (0 : Int))] 57) fun b7 =>
 keep (fun w => w.cell? (p5.add 1) = some (Cell.val (.str) x6)) <|
 keep (fun w => w.cell? p3 = some (Cell.val (.ptr) x4)) <|
 callT Tryz.prog 34 #[(.pointer x4), (.string x6)] (.tup [(.agg c57), (.one .any)]) fun (x8 : ((Int × Int × Int × Unit) × Value × Unit)) =>
 aggSt (at0 b7) (.agg (Cells.vals c57 x8.1).toArray) 3 <|
 J1 ((at0 b7), x8.2.1, ())) <|
 callT Tryz.prog 34 #[(.pointer x4), (.string x6)] (.tup [(.agg c57), (.one .any)]) fun (x9 : ((Int × Int × Int × Unit) × Value × Unit)) =>
 both (
 newO (.cells #[(.int .i64 (0 : Int)), (.int .i64 (0 : Int)), (.int .i64 (0 : Int))] 57) fun b10 =>
 keep (fun w => w.cell? (p5.add 1) = some (Cell.val (.str) x6)) <|
 keep (fun w => w.cell? p3 = some (Cell.val (.ptr) x4)) <|
 aggSt (at0 b10) (.agg (Cells.vals c57 x9.1).toArray) 3 <|
 J1 ((at0 b10), x9.2.1, ())) <|
 nothing) fun (s2 : Addr × Value × Unit) =>
 join (S := Bool × Unit) (fun J11 =>
 rdB Tryz.prog (do eqGuard .neq 26 (Operand.tmp 21) (Operand.const Value.nilIface) s2.2.1 .nilIface; binOp .neq 26 s2.2.1 .nilIface : Sem Value) fun r13 =>
 sif r13 (
 callT Tryz.prog 53 #[s2.2.1, (.iface 33 (.int .i64 (162 : Int)))] (.one (.one .bool)) fun (x14 : Bool) =>
 J11 ((!x14), ())) (
 J11 (false, ()))) fun (s12 : Bool × Unit) =>
 sif s12.1 (
 callT Tryz.prog 54 #[s2.2.1] (.one (.one (.int .i64))) fun (x15 : Int) =>
 K x15) (
 join (S := Unit) (fun J16 =>
 join (S := Bool × Unit) (fun J18 =>
 drew <|
 rdB Tryz.prog (do eqGuard .eql 26 (Operand.tmp 31) (Operand.const Value.nilIface) s2.2.1 .nilIface; binOp .eql 26 s2.2.1 .nilIface : Sem Value) fun r20 =>
 sif r20 (
 lds c57 s2.1 fun (x21 : (Int × Int × Int × Unit)) =>
 nn a0 fun p22 =>
 lds c57 (p22.add 6) fun (x23 : (Int × Int × Int × Unit)) =>
 rdB Tryz.prog (do eqGuard .eql 57 (Operand.tmp 34) (Operand.tmp 38) (.agg (Cells.vals c57 x21).toArray) (.agg (Cells.vals c57 x23).toArray); binOp .eql 57 (.agg (Cells.vals c57 x21).toArray) (.agg (Cells.vals c57 x23).toArray) : Sem Value) fun r24 =>
 J18 (r24, ())) (
 J18 (false, ()))) fun (s19 : Bool × Unit) =>
 sif s19.1 (
 lds c57 s2.1 fun (x25 : (Int × Int × Int × Unit)) =>
 nn a0 fun p26 =>
 aggSt (p26.add 3) (.agg (Cells.vals c57 x25).toArray) 3 <|
 J16 ()) (
 J16 ())) fun (s17 : Unit) =>
 join (S := Bool × Unit) (fun J27 =>
 drew <|
 sif (!a2) (
 lds c57 s2.1 fun (x29 : (Int × Int × Int × Unit)) =>
 nn a0 fun p30 =>
 lds c57 (p30.add 3) fun (x31 : (Int × Int × Int × Unit)) =>
 rdB Tryz.prog (do eqGuard .neq 57 (Operand.tmp 48) (Operand.tmp 52) (.agg (Cells.vals c57 x29).toArray) (.agg (Cells.vals c57 x31).toArray); binOp .neq 57 (.agg (Cells.vals c57 x29).toArray) (.agg (Cells.vals c57 x31).toArray) : Sem Value) fun r32 =>
 J27 (r32, ())) (
 J27 (false, ()))) fun (s28 : Bool × Unit) =>
 sif s28.1 (
 K (170 : Int)) (
 drew <|
 nn a0 fun p33 =>
 ld (.str) (p33.add 1) fun (x34 : ByteArray) =>
 nn a0 fun p35 =>
 nn a0 fun p36 =>
 callT Tryz.prog 58 #[(.pointer a0), (.string x34), (.pointer a1), (.pointer (some (p35.add 6))), (.pointer (some (p36.add 3)))] (.one (.one .any)) fun (x37 : Value) =>
 callT Tryz.prog 54 #[x37] (.one (.one (.int .i64))) fun (x38 : Int) =>
 K x38))
noncomputable def h27 : Hint := (.seq none (.region [] (.ops 1 .done)) (.seq (some (2097024, [(7, (.one .addr)), (8, (.one .any))])) (.region [0, 1, 2, 3, 4, 5, 6, 7, 8, 9, 10, 11, 13, 14] (.float [12] (.ops 8 (.alt none (.plain (.ops 6 .done)) (.ops 4 (.alt none (.plain (.ops 2 .done)) .stop)))))) (.seq none (.seq (some (534773760, [(28, (.one .bool))])) (.region [] (.ops 3 (.split 23 (.ops 5 .done) (.skips 4 (.ops 1 .done))))) (.cond none (.seq none (.region [] (.ops 3 .done)) .leaf) .leaf)) (.seq (some (35182224605184, [])) (.seq (some (2196875771904, [(40, (.one .bool))])) (.region [0, 1, 2, 3, 4, 5, 6, 7, 8, 9] (.ops 3 (.split 33 (.ops 7 .done) (.skips 6 (.ops 1 .done))))) (.cond none (.region [] (.ops 5 .done)) .leaf)) (.seq none (.seq (some (35993612646875136, [(54, (.one .bool))])) (.region [0, 1, 2, 3, 4, 5, 6, 7, 8, 9] (.ops 3 (.split 47 (.ops 7 .done) (.skips 6 (.ops 1 .done))))) (.cond none (.seq none (.region [] (.ops 1 .done)) .leaf) .leaf)) (.seq none (.region [0, 1, 2, 3, 4, 5, 6, 7, 8, 9, 10, 11, 12, 13] (.ops 14 .done)) (.seq none (.region [] (.ops 3 .done)) .leaf)))))))
theorem F27_tie (a0 : Option Addr) (a1 : Option Addr) (a2 : Bool) (K : Int → World → Prop) : vcgF tab Tryz.prog Tryz.f27 h27 [(.pointer a0), (.pointer a1), (.bool a2)] (.one (.one (.int .i64))) K = F27 a0 a1 a2 K := by kernel_rfl
theorem F27_calls {a0 : Option Addr} {a1 : Option Addr} {a2 : Bool} {K : Int → World → Prop} {w : World} (h : F27 a0 a1 a2 K w) : callT Tryz.prog 27 #[(.pointer a0), (.pointer a1), (.bool a2)] (.one (.one (.int .i64))) K w :=
  vcgF_sound tabOk Tryz.func27 h27 [(.pointer a0), (.pointer a1), (.bool a2)] (.one (.one (.int .i64))) K w (Eq.mpr (congrFun (F27_tie a0 a1 a2 K) w) h)
noncomputable def F32 (a0 : Option Addr) (a1 : ByteArray) (a2 : Sl) (K : Value → World → Prop) : World → Prop :=
 nn a0 fun p1 =>
 ld (.map) (p1.add 1) fun (x2 : Option Nat) =>
 rdT Tryz.prog (.one (.one .ptr)) (Instr.lookup 103 (.map x2) (.string a1) false) fun (x3 : Option Addr) =>
 nn a0 fun p4 =>
 ld (.int .i64) p4 fun (x5 : Int) =>
 join (S := Int × Unit) (fun J6 =>
 nn a0 fun p8 =>
 ld (.map) (p8.add 1) fun (x9 : Option Nat) =>
 rawT Tryz.prog (.one (.one .ptr)) (Instr.range 103 (.map x9)) fun (x10 : Option Addr) =>
 sloop (S := Int × Unit) (fun (s11 : Int × Unit) again12 =>
 nextE Tryz.prog (Instr.next (.pointer x10) false 0) fun r13 rest14 =>
 sif r13 (
 rawT Tryz.prog (.tup [(.one .str), (.one .ptr)]) (Instr.entry (.pointer x10)) fun (x15 : ByteArray × Option Addr × Unit) =>
 rdB Tryz.prog (do eqGuard .neq 121 (Operand.tmp 30) (Operand.tmp 31) (.pointer x15.2.1) (.pointer x3); binOp .neq 121 (.pointer x15.2.1) (.pointer x3) : Sem Value) fun r16 =>
 sif r16 (
 nn x15.2.1 fun p17 =>
 ld (.sl) (p17.add 1) fun (x18 : Sl) =>
 again12 ((IntKind.wrap .i64 (s11.1 - ((x18.len : Nat) : Int))), ())) (
 again12 (s11.1, ()))) (
 J6 (s11.1, ()))) (x5, ())) fun (s7 : Int × Unit) =>
 nn a0 fun p19 =>
 ld (.bool) (p19.add 5) fun (x20 : Bool) =>
 sif x20 (
 newO (.cells #[(.string { data := #[112, 117, 116] }), (.string a1), (.int .i64 (0 : Int)), (.iface 33 (.int .i64 (165 : Int)))] 101) fun b21 =>
 K (.iface 99 (.pointer (some (at0 b21))))) (
 callT Tryz.prog 60 #[(.string a1)] (.one (.one .bool)) fun (x22 : Bool) =>
 sif (!x22) (
 newO (.cells #[(.string { data := #[112, 117, 116] }), (.string a1), (.int .i64 (0 : Int)), (.iface 33 (.int .i64 (164 : Int)))] 101) fun b23 =>
 K (.iface 99 (.pointer (some (at0 b23))))) (
 join (S := Bool × Unit) (fun J24 =>
 join (S := Bool × Unit) (fun J26 =>
 sif (Option.isNone x3) (
 nn a0 fun p28 =>
 ld (.map) (p28.add 1) fun (x29 : Option Nat) =>
 rdN Tryz.prog (Builtin.len_ #[103] 3 #[(.map x29)]) fun x30 =>
 J26 ((decide (x30 ≥ (16 : Int))), ())) (
 J26 (false, ()))) fun (s27 : Bool × Unit) =>
 sif s27.1 (
 J24 (s27.1, ())) (
 J24 ((decide (((a2.len : Nat) : Int) > s7.1)), ()))) fun (s25 : Bool × Unit) =>
 sif s25.1 (
 newO (.cells #[(.string { data := #[112, 117, 116] }), (.string a1), (.int .i64 (0 : Int)), (.iface 33 (.int .i64 (161 : Int)))] 101) fun b31 =>
 K (.iface 99 (.pointer (some (at0 b31))))) (
 join (S := Option Addr × Unit) (fun J32 =>
 sif (Option.isNone x3) (
 callT Tryz.prog 61 #[(.pointer a0)] (.one (.one .ptr)) fun (x34 : Option Addr) =>
 nn a0 fun p35 =>
 ld (.map) (p35.add 1) fun (x36 : Option Nat) =>
 rawU Tryz.prog (Instr.mapUpdate 103 (.map x36) (.string a1) (.pointer x34)) <|
 J32 (x34, ())) (
 J32 (x3, ()))) fun (s33 : Option Addr × Unit) =>
 callT Tryz.prog 62 #[(.pointer a0)] (.tup []) fun (x37 : (Unit)) =>
 callT Tryz.prog 63 #[(.slice a2.a a2.len a2.cap)] (.one (.one .sl)) fun (x38 : Sl) =>
 nn s33.1 fun p39 =>
 stC (p39.add 1) (.slice x38.a x38.len x38.cap) <|
 callT Tryz.prog 64 #[(.pointer s33.1)] (.tup []) fun (x40 : (Unit)) =>
 nn s33.1 fun p41 =>
 ld (.int .i64) (p41.add 3) fun (x42 : Int) =>
 nn s33.1 fun p43 =>
 stC (p43.add 3) (.int .i64 (IntKind.wrap .i64 (x42 + (1 : Int)))) <|
 K .nilIface)))
noncomputable def h32 : Hint := (.seq none (.region [] (.ops 1 .done)) (.seq none (.region [] (.ops 7 .done)) (.seq none (.region [] (.ops 5 .done)) (.seq (some (1099509531904, [(8, (.one (.int .i64)))])) (.seq none (.region [] (.ops 5 .done)) (.block (.loop 1099444520192 [(8, (.one (.int .i64)))] (.seq none (.region [] (.ops 2 .done)) (.seq none (.cond none .leaf .leaf) (.block (.seq none (.region [] (.op (some (.tup [(.one .str), (.one .ptr)])) (.ops 2 .done))) (.seq none (.region [] (.ops 3 .done)) (.cond none (.region [] (.ops 8 .done)) .leaf))))))))) (.seq none (.block (.seq none (.region [] (.ops 5 .done)) (.cond none (.seq none (.region [] (.ops 6 .done)) .leaf) (.seq none (.region [] (.ops 4 .done)) (.cond none (.seq none (.region [] (.ops 6 .done)) .leaf) (.seq (some (18888889470726277431296, [(59, (.one .bool))])) (.seq (some (1180015159965107879936, [(59, (.one .bool))])) (.region [] (.ops 3 (.split 62 (.ops 8 .done) (.skips 6 (.ops 2 .done))))) (.cond none .leaf (.region [] (.ops 5 .done)))) (.cond none (.seq none (.region [] (.ops 6 .done)) .leaf) .leaf))))))) (.seq (some (618365556732882822862209152, [(7, (.one .ptr))])) (.seq none (.region [] (.ops 2 .done)) (.cond none (.seq none (.region [] (.ops 3 .done)) (.region [] (.ops 7 .done))) .leaf)) (.seq none (.region [] (.ops 2 .done)) (.seq none (.region [] (.ops 6 .done)) (.seq none (.region [] (.ops 2 .done)) (.seq none (.region [] (.ops 8 .done)) (.seq none (.region [] (.ops 1 .done)) .leaf)))))))))))
theorem F32_tie (a0 : Option Addr) (a1 : ByteArray) (a2 : Sl) (K : Value → World → Prop) : vcgF tab Tryz.prog Tryz.f32 h32 [(.pointer a0), (.string a1), (.slice a2.a a2.len a2.cap)] (.one (.one .any)) K = F32 a0 a1 a2 K := by kernel_rfl
theorem F32_calls {a0 : Option Addr} {a1 : ByteArray} {a2 : Sl} {K : Value → World → Prop} {w : World} (h : F32 a0 a1 a2 K w) : callT Tryz.prog 32 #[(.pointer a0), (.string a1), (.slice a2.a a2.len a2.cap)] (.one (.one .any)) K w :=
  vcgF_sound tabOk Tryz.func32 h32 [(.pointer a0), (.string a1), (.slice a2.a a2.len a2.cap)] (.one (.one .any)) K w (Eq.mpr (congrFun (F32_tie a0 a1 a2 K) w) h)
noncomputable def F34 (a0 : Option Addr) (a1 : ByteArray) (K : ((Int × Int × Int × Unit) × Value × Unit) → World → Prop) : World → Prop :=
 newO (.cells #[(.pointer a0)] 24) fun b1 =>
 newO (.cells #[(.string a1)] 9) fun b2 =>
 newO (.cells #[(.int .i64 (0 : Int)), (.int .i64 (0 : Int)), (.int .i64 (0 : Int))] 57) fun b3 =>
 newO (.cells #[(.int .i64 (0 : Int)), (.int .i64 (0 : Int)), (.int .i64 (0 : Int))] 57) fun b4 =>
 ld (.ptr) (at0 b1) fun (x5 : Option Addr) =>
 ld (.str) (at0 b2) fun (x6 : ByteArray) =>
 callT Tryz.prog 65 #[(.pointer x5), (.string { data := #[115, 116, 97, 109, 112] }), (.string x6), (.func (Fn.func 66) #[] #[(.pointer (some (at0 b1))), (.pointer (some (at0 b2))), (.pointer (some (at0 b4)))]), .nilFunc] (.one (.one .any)) fun (x7 : Value) =>
 rdB Tryz.prog (do eqGuard .neq 26 (Operand.tmp 12) (Operand.const Value.nilIface) x7 .nilIface; binOp .neq 26 x7 .nilIface : Sem Value) fun r8 =>
 sif r8 (
 aggSt (at0 b3) (.agg #[(.int .i64 (0 : Int)), (.int .i64 (0 : Int)), (.int .i64 (0 : Int))]) 3 <|
 lds c57 (at0 b3) fun (x9 : (Int × Int × Int × Unit)) =>
 K (x9, x7, ())) (
 lds c57 (at0 b4) fun (x10 : (Int × Int × Int × Unit)) =>
 aggSt (at0 b3) (.agg (Cells.vals c57 x10).toArray) 3 <|
 lds c57 (at0 b3) fun (x11 : (Int × Int × Int × Unit)) =>
 K (x11, .nilIface, ()))
noncomputable def h34 : Hint := (.seq none (.region [] (.ops 4 .done)) (.seq none (.region [] (.ops 1 .done)) (.seq none (.region [] (.ops 5 .done)) (.seq none (.seq none (.region [] (.ops 2 .done)) (.cond none (.seq none (.region [] (.ops 4 .done)) .leaf) .leaf)) (.seq none (.region [] (.ops 3 .done)) .leaf)))))
theorem F34_tie (a0 : Option Addr) (a1 : ByteArray) (K : ((Int × Int × Int × Unit) × Value × Unit) → World → Prop) : vcgF tab Tryz.prog Tryz.f34 h34 [(.pointer a0), (.string a1)] (.tup [(.agg c57), (.one .any)]) K = F34 a0 a1 K := by kernel_rfl
theorem F34_calls {a0 : Option Addr} {a1 : ByteArray} {K : ((Int × Int × Int × Unit) × Value × Unit) → World → Prop} {w : World} (h : F34 a0 a1 K w) : callT Tryz.prog 34 #[(.pointer a0), (.string a1)] (.tup [(.agg c57), (.one .any)]) K w :=
  vcgF_sound tabOk Tryz.func34 h34 [(.pointer a0), (.string a1)] (.tup [(.agg c57), (.one .any)]) K w (Eq.mpr (congrFun (F34_tie a0 a1 K) w) h)
noncomputable def F40 (a0 : Option Addr) (a1 : (Int × Sl × Unit)) (K : Unit → World → Prop) : World → Prop :=
 newO (.cells #[(.int .i64 a1.1), (.slice a1.2.1.a a1.2.1.len a1.2.1.cap)] 72) fun b1 =>
 nn a0 fun p2 =>
 ld (.bool) (p2.add 5) fun (x3 : Bool) =>
 sif x3 (
 K ()) (
 join (S := Unit) (fun J4 =>
 drew <|
 nn a0 fun p6 =>
 ld (.sl) (p6.add 3) fun (x7 : Sl) =>
 ld (.int .i64) (at0 b1) fun (x8 : Int) =>
 nn a0 fun p9 =>
 ld (.sl) (p9.add 3) fun (x10 : Sl) =>
 slc x7.a 0 (if ((x10.len : Nat) : Int) < (if (0 : Int) > x8 then (0 : Int) else x8) then ((x10.len : Nat) : Int) else (if (0 : Int) > x8 then (0 : Int) else x8)) ((x7.cap : Nat) : Int) x7.cap 1 fun x11 =>
 sloop (S := Int × Unit) (fun (s12 : Int × Unit) again13 =>
 sif (decide (s12.1 < ((x11.len : Nat) : Int))) (
 ix x11.a x11.len s12.1 fun p14 =>
 ld (.any) (p14.add (scaled (Int.toNat s12.1) 1)) fun (x15 : Value) =>
 nn a0 fun p16 =>
 ld (.map) (p16.add 2) fun (x17 : Option Nat) =>
 callX Tryz.prog (do let d ← Deferred.ofValue x15 #[(.map x17)]; invoke d.target d.args : Sem Next) (.tup []) fun (x18 : (Unit)) =>
 again13 ((IntKind.wrap .i64 (s12.1 + (1 : Int))), ())) (
 J4 ())) ((0 : Int), ())) fun (s5 : Unit) =>
 join (S := Unit) (fun J19 =>
 nn a0 fun p21 =>
 ld (.map) (p21.add 2) fun (x22 : Option Nat) =>
 callT Tryz.prog 71 #[(.map x22)] (.one (.one .sl)) fun (x23 : Sl) =>
 sloop (S := Int × Unit) (fun (s24 : Int × Unit) again25 =>
 sif (decide (s24.1 < ((x23.len : Nat) : Int))) (
 ix x23.a x23.len s24.1 fun p26 =>
 ld (.str) (p26.add (scaled (Int.toNat s24.1) 1)) fun (x27 : ByteArray) =>
 join (S := Int × Unit) (fun J28 =>
 ld (.sl) (⟨b1, 1, none⟩ : Addr) fun (x30 : Sl) =>
 sif (decide (s24.1 < ((x30.len : Nat) : Int))) (
 ld (.sl) (⟨b1, 1, none⟩ : Addr) fun (x31 : Sl) =>
 ix x31.a x31.len s24.1 fun p32 =>
 ld (.int .i64) (p32.add (scaled (Int.toNat s24.1) 1)) fun (x33 : Int) =>
 J28 (x33, ())) (
 J28 ((0 : Int), ()))) fun (s29 : Int × Unit) =>
 nn a0 fun p34 =>
 ld (.map) (p34.add 2) fun (x35 : Option Nat) =>
 rdT Tryz.prog (.one (.one .ptr)) (Instr.lookup 103 (.map x35) (.string x27) false) fun (x36 : Option Addr) =>
 callT Tryz.prog 72 #[(.pointer x36), (.int .i64 s29.1)] (.tup []) fun (x37 : (Unit)) =>
 again25 ((IntKind.wrap .i64 (s24.1 + (1 : Int))), ())) (
 J19 ())) ((0 : Int), ())) fun (s20 : Unit) =>
 nn a0 fun p38 =>
 ld (.map) (p38.add 2) fun (x39 : Option Nat) =>
 callT Tryz.prog 73 #[(.map x39)] (.one (.one .map)) fun (x40 : Option Nat) =>
 nn a0 fun p41 =>
 stC (p41.add 1) (.map x40) <|
 nn a0 fun p42 =>
 stC (p42.add 3) (.slice none 0 0) <|
 nn a0 fun p43 =>
 stC (p43.add 5) (.bool true) <|
 K ())
noncomputable def h40 : Hint := (.seq none (.region [] (.ops 1 .done)) (.seq none (.seq none (.region [] (.ops 4 .done)) (.cond none .leaf .leaf)) (.seq (some (549755805728, [])) (.seq none (.region [0, 1, 2, 3, 4, 5, 6, 7, 8, 9, 10, 11, 12, 13, 14, 15] (.ops 16 .done)) (.block (.loop 549487378464 [(28, (.one (.int .i64)))] (.seq none (.region [] (.ops 1 .done)) (.seq none (.cond none .leaf .leaf) (.seq none (.block (.seq none (.region [] (.ops 3 .done)) (.region [] (.ops 6 .done)))) (.region [] (.ops 2 .done)))))))) (.seq (some (590295809808949838272, [])) (.seq none (.region [] (.ops 7 .done)) (.block (.loop 590295775174333563328 [(45, (.one (.int .i64)))] (.seq none (.region [] (.ops 1 .done)) (.seq none (.cond none .leaf .leaf) (.seq none (.block (.seq none (.region [] (.ops 5 .done)) (.seq none (.region [] (.ops 1 .done)) (.seq (some (1151795604700004608, [(8, (.one (.int .i64)))])) (.seq none (.region [] (.ops 5 .done)) (.cond none (.region [] (.ops 6 .done)) .leaf)) (.region [] (.ops 8 .done)))))) (.region [] (.ops 2 .done)))))))) (.seq none (.region [] (.ops 13 .done)) (.region [] (.ops 4 .done)))))))
theorem F40_tie (a0 : Option Addr) (a1 : (Int × Sl × Unit)) (K : Unit → World → Prop) : vcgF tab Tryz.prog Tryz.f40 h40 [(.pointer a0), (.agg (Cells.vals c72 a1).toArray)] (.tup []) K = F40 a0 a1 K := by kernel_rfl
theorem F40_calls {a0 : Option Addr} {a1 : (Int × Sl × Unit)} {K : Unit → World → Prop} {w : World} (h : F40 a0 a1 K w) : callT Tryz.prog 40 #[(.pointer a0), (.agg (Cells.vals c72 a1).toArray)] (.tup []) K w :=
  vcgF_sound tabOk Tryz.func40 h40 [(.pointer a0), (.agg (Cells.vals c72 a1).toArray)] (.tup []) K w (Eq.mpr (congrFun (F40_tie a0 a1 K) w) h)
noncomputable def F49 (a0 : Option Addr) (a1 : ByteArray) (K : (Sl × Value × Unit) → World → Prop) : World → Prop :=
 newO (.cells #[(.pointer a0)] 24) fun b1 =>
 newO (.cells #[(.string a1)] 9) fun b2 =>
 newO (.cells #[(.slice none 0 0)] 30) fun b3 =>
 ld (.ptr) (at0 b1) fun (x4 : Option Addr) =>
 ld (.str) (at0 b2) fun (x5 : ByteArray) =>
 callT Tryz.prog 65 #[(.pointer x4), (.string { data := #[114, 101, 97, 100] }), (.string x5), (.func (Fn.func 87) #[] #[(.pointer (some (at0 b1))), (.pointer (some (at0 b2))), (.pointer (some (at0 b3)))]), .nilFunc] (.one (.one .any)) fun (x6 : Value) =>
 rdB Tryz.prog (do eqGuard .neq 26 (Operand.tmp 12) (Operand.const Value.nilIface) x6 .nilIface; binOp .neq 26 x6 .nilIface : Sem Value) fun r7 =>
 sif r7 (
 K (⟨none, 0, 0⟩, x6, ())) (
 ld (.sl) (at0 b3) fun (x8 : Sl) =>
 K (x8, .nilIface, ()))
noncomputable def h49 : Hint := (.seq none (.region [] (.ops 4 .done)) (.seq none (.region [] (.ops 1 .done)) (.seq none (.region [] (.ops 5 .done)) (.seq none (.seq none (.region [] (.ops 2 .done)) (.cond none (.seq none (.region [] (.ops 3 .done)) .leaf) .leaf)) (.seq none (.region [] (.ops 3 .done)) .leaf)))))
theorem F49_tie (a0 : Option Addr) (a1 : ByteArray) (K : (Sl × Value × Unit) → World → Prop) : vcgF tab Tryz.prog Tryz.f49 h49 [(.pointer a0), (.string a1)] (.tup [(.one .sl), (.one .any)]) K = F49 a0 a1 K := by kernel_rfl
theorem F49_calls {a0 : Option Addr} {a1 : ByteArray} {K : (Sl × Value × Unit) → World → Prop} {w : World} (h : F49 a0 a1 K w) : callT Tryz.prog 49 #[(.pointer a0), (.string a1)] (.tup [(.one .sl), (.one .any)]) K w :=
  vcgF_sound tabOk Tryz.func49 h49 [(.pointer a0), (.string a1)] (.tup [(.one .sl), (.one .any)]) K w (Eq.mpr (congrFun (F49_tie a0 a1 K) w) h)
noncomputable def F50 (a0 : ByteArray) (a1 : ByteArray) (K : Bool → World → Prop) : World → Prop :=
 callT Tryz.prog 88 #[(.string a0), (.string a1)] (.one (.one .bool)) fun (x1 : Bool) =>
 K x1
noncomputable def h50 : Hint := (.seq none (.region [] (.ops 1 .done)) (.seq none (.region [] (.ops 4 .done)) .leaf))
theorem F50_tie (a0 : ByteArray) (a1 : ByteArray) (K : Bool → World → Prop) : vcgF tab Tryz.prog Tryz.f50 h50 [(.string a0), (.string a1)] (.one (.one .bool)) K = F50 a0 a1 K := by kernel_rfl
theorem F50_calls {a0 : ByteArray} {a1 : ByteArray} {K : Bool → World → Prop} {w : World} (h : F50 a0 a1 K w) : callT Tryz.prog 50 #[(.string a0), (.string a1)] (.one (.one .bool)) K w :=
  vcgF_sound tabOk Tryz.func50 h50 [(.string a0), (.string a1)] (.one (.one .bool)) K w (Eq.mpr (congrFun (F50_tie a0 a1 K) w) h)
noncomputable def F51 (a0 : ByteArray) (a1 : Value) (K : Int → World → Prop) : World → Prop :=
 callT Tryz.prog 89 #[(.string a0), a1, (.bool true)] (.one (.one (.int .i64))) fun (x1 : Int) =>
 K x1
noncomputable def h51 : Hint := (.seq none (.region [] (.ops 1 .done)) (.seq none (.region [] (.ops 4 .done)) .leaf))
theorem F51_tie (a0 : ByteArray) (a1 : Value) (K : Int → World → Prop) : vcgF tab Tryz.prog Tryz.f51 h51 [(.string a0), a1] (.one (.one (.int .i64))) K = F51 a0 a1 K := by kernel_rfl
theorem F51_calls {a0 : ByteArray} {a1 : Value} {K : Int → World → Prop} {w : World} (h : F51 a0 a1 K w) : callT Tryz.prog 51 #[(.string a0), a1] (.one (.one (.int .i64))) K w :=
  vcgF_sound tabOk Tryz.func51 h51 [(.string a0), a1] (.one (.one (.int .i64))) K w (Eq.mpr (congrFun (F51_tie a0 a1 K) w) h)
noncomputable def F52 (a0 : Int) (K : Bool → World → Prop) : World → Prop :=
 join (S := Bool × Unit) (fun J1 =>
 join (S := Bool × Unit) (fun J3 =>
 sif (decide (a0 ≥ (97 : Int))) (
 J3 ((decide (a0 ≤ (122 : Int))), ())) (
 J3 (false, ()))) fun (s4 : Bool × Unit) =>
 sif s4.1 (
 J1 (s4.1, ())) (
 join (S := Bool × Unit) (fun J5 =>
 sif (decide (a0 ≥ (65 : Int))) (
 J5 ((decide (a0 ≤ (90 : Int))), ())) (
 J5 (false, ()))) fun (s6 : Bool × Unit) =>
 sif s6.1 (
 J1 (s6.1, ())) (
 sif (decide (a0 ≥ (48 : Int))) (
 J1 ((decide (a0 ≤ (57 : Int))), ())) (
 J1 (false, ()))))) fun (s2 : Bool × Unit) =>
 sif s2.1 (
 K false) (
 callT Tryz.prog 90 #[(.string { data := #[46, 95, 45, 126] }), (.int .i32 a0)] (.one (.one .bool)) fun (x7 : Bool) =>
 K (!x7))
noncomputable def h52 : Hint := (.seq none (.region [] (.ops 1 .done)) (.seq none (.block (.seq (some (4194296, [(3, (.one .bool))])) (.seq (some (1016, [(3, (.one .bool))])) (.region [] (.ops 3 (.split 6 (.ops 4 .done) (.skips 2 (.ops 2 .done))))) (.cond none .leaf (.seq (some (64520, [(3, (.one .bool))])) (.region [] (.ops 3 (.split 12 (.ops 4 .done) (.skips 2 (.ops 2 .done))))) (.cond none .leaf (.region [] (.ops 3 (.split 18 (.ops 4 .done) (.skips 2 (.ops 2 .done))))))))) (.cond none (.seq none (.region [] (.ops 1 .done)) .leaf) .leaf))) (.seq none (.region [] (.ops 4 .done)) .leaf)))
theorem F52_tie (a0 : Int) (K : Bool → World → Prop) : vcgF tab Tryz.prog Tryz.f52 h52 [(.int .i32 a0)] (.one (.one .bool)) K = F52 a0 K := by kernel_rfl
theorem F52_calls {a0 : Int} {K : Bool → World → Prop} {w : World} (h : F52 a0 K w) : callT Tryz.prog 52 #[(.int .i32 a0)] (.one (.one .bool)) K w :=
  vcgF_sound tabOk Tryz.func52 h52 [(.int .i32 a0)] (.one (.one .bool)) K w (Eq.mpr (congrFun (F52_tie a0 K) w) h)
noncomputable def F53 (a0 : Value) (a1 : Value) (K : Bool → World → Prop) : World → Prop :=
 join (S := Bool × Unit) (fun J1 =>
 rdB Tryz.prog (do eqGuard .eql 26 (Operand.tmp 6) (Operand.const Value.nilIface) a0 .nilIface; binOp .eql 26 a0 .nilIface : Sem Value) fun r3 =>
 sif r3 (
 J1 (true, ())) (
 rdB Tryz.prog (do eqGuard .eql 26 (Operand.tmp 9) (Operand.const Value.nilIface) a1 .nilIface; binOp .eql 26 a1 .nilIface : Sem Value) fun r4 =>
 J1 (r4, ()))) fun (s2 : Bool × Unit) =>
 sif s2.1 (
 rdB Tryz.prog (do eqGuard .eql 26 (Operand.tmp 12) (Operand.tmp 13) a0 a1; binOp .eql 26 a0 a1 : Sem Value) fun r5 =>
 K r5) (
 callX Tryz.prog (callFunc 91 #[a1]) (.one (.one .any)) fun (x6 : Value) =>
 callX Tryz.prog (invoke (.fn (.method "Comparable") #[]) (#[x6] ++ #[])) (.one (.one .bool)) fun (x7 : Bool) =>
 callT Tryz.prog 92 #[a0, a1, (.bool x7)] (.one (.one .bool)) fun (x8 : Bool) =>
 K x8)
noncomputable def h53 : Hint := (.seq none (.region [] (.ops 1 .done)) (.seq none (.seq (some (4032, [(11, (.one .bool))])) (.region [] (.ops 3 (.split 8 (.skips 2 (.ops 1 .done)) (.ops 3 .done)))) (.cond none (.seq none (.region [] (.ops 4 .done)) .leaf) .leaf)) (.seq none (.region [] (.ops 4 .done)) (.seq none (.region [] (.ops 5 .done)) .leaf))))
theorem F53_tie (a0 : Value) (a1 : Value) (K : Bool → World → Prop) : vcgF tab Tryz.prog Tryz.f53 h53 [a0, a1] (.one (.one .bool)) K = F53 a0 a1 K := by kernel_rfl
theorem F53_calls {a0 : Value} {a1 : Value} {K : Bool → World → Prop} {w : World} (h : F53 a0 a1 K w) : callT Tryz.prog 53 #[a0, a1] (.one (.one .bool)) K w :=
  vcgF_sound tabOk Tryz.func53 h53 [a0, a1] (.one (.one .bool)) K w (Eq.mpr (congrFun (F53_tie a0 a1 K) w) h)
noncomputable def F54 (a0 : Value) (K : Int → World → Prop) : World → Prop :=
 newO (.cells #[(.pointer none)] 99) fun b1 =>
 newO (.cells #[(.int .i64 (0 : Int))] 33) fun b2 =>
 rdB Tryz.prog (do eqGuard .eql 26 (Operand.tmp 6) (Operand.const Value.nilIface) a0 .nilIface; binOp .eql 26 a0 .nilIface : Sem Value) fun r3 =>
 sif r3 (
 K (0 : Int)) (
 join (S := Bool × Unit) (fun J4 =>
 callT Tryz.prog 93 #[a0, (.iface 176 (.pointer (some (at0 b1))))] (.one (.one .bool)) fun (x6 : Bool) =>
 sif x6 (
 ld (.ptr) (at0 b1) fun (x7 : Option Addr) =>
 nn x7 fun p8 =>
 ld (.any) (p8.add 3) fun (x9 : Value) =>
 callT Tryz.prog 93 #[x9, (.iface 177 (.pointer (some (at0 b2))))] (.one (.one .bool)) fun (x10 : Bool) =>
 J4 (x10, ())) (
 J4 (false, ()))) fun (s5 : Bool × Unit) =>
 sif s5.1 (
 ld (.int .i64) (at0 b2) fun (x11 : Int) =>
 K x11) (
 K (160 : Int)))
noncomputable def h54 : Hint := (.seq none (.region [] (.ops 1 .done)) (.seq none (.region [] (.ops 1 .done)) (.seq none (.region [] (.ops 1 .done)) (.seq none (.block (.seq none (.region [] (.ops 3 .done)) (.cond none (.seq none (.region [] (.ops 1 .done)) .leaf) (.seq (some (1048320, [(8, (.one .bool))])) (.region [] (.ops 4 (.split 12 (.ops 8 .done) (.skips 6 (.ops 2 .done))))) (.cond none (.seq none (.region [] (.ops 2 .done)) .leaf) .leaf))))) (.seq none (.region [] (.ops 1 .done)) .leaf)))))
theorem F54_tie (a0 : Value) (K : Int → World → Prop) : vcgF tab Tryz.prog Tryz.f54 h54 [a0] (.one (.one (.int .i64))) K = F54 a0 K := by kernel_rfl
theorem F54_calls {a0 : Value} {K : Int → World → Prop} {w : World} (h : F54 a0 K w) : callT Tryz.prog 54 #[a0] (.one (.one (.int .i64))) K w :=
  vcgF_sound tabOk Tryz.func54 h54 [a0] (.one (.one (.int .i64))) K w (Eq.mpr (congrFun (F54_tie a0 K) w) h)
noncomputable def F56 (a0 : Sl) (a1 : Sl) (K : Bool → World → Prop) : World → Prop :=
 sif (decide (((a0.len : Nat) : Int) ≥ ((a1.len : Nat) : Int))) (
 slc a0.a 0 ((a1.len : Nat) : Int) ((a0.cap : Nat) : Int) a0.cap 1 fun x1 =>
 callT Tryz.prog 96 #[(.slice x1.a x1.len x1.cap), (.slice a1.a a1.len a1.cap)] (.one (.one .bool)) fun (x2 : Bool) =>
 K x2) (
 K false)
noncomputable def h56 : Hint := (.seq none (.region [] (.ops 1 .done)) (.seq none (.region [] (.ops 6 (.split 10 (.ops 8 .done) (.skips 6 (.ops 2 .done))))) .leaf))
theorem F56_tie (a0 : Sl) (a1 : Sl) (K : Bool → World → Prop) : vcgF tab Tryz.prog Tryz.f56 h56 [(.slice a0.a a0.len a0.cap), (.slice a1.a a1.len a1.cap)] (.one (.one .bool)) K = F56 a0 a1 K := by kernel_rfl
theorem F56_calls {a0 : Sl} {a1 : Sl} {K : Bool → World → Prop} {w : World} (h : F56 a0 a1 K w) : callT Tryz.prog 56 #[(.slice a0.a a0.len a0.cap), (.slice a1.a a1.len a1.cap)] (.one (.one .bool)) K w :=
  vcgF_sound tabOk Tryz.func56 h56 [(.slice a0.a a0.len a0.cap), (.slice a1.a a1.len a1.cap)] (.one (.one .bool)) K w (Eq.mpr (congrFun (F56_tie a0 a1 K) w) h)
noncomputable def F57 (a0 : Sl) (K : Sl → World → Prop) : World → Prop :=
 sif (Option.isNone a0.a) (
 K ⟨none, 0, 0⟩) (
 newO (.cells #[] 5) fun b1 =>
 rawT Tryz.prog (.one (.one .sl)) (Builtin.append_ #[30, 30] 30 #[(.slice (some (at0 b1)) 0 0), (.slice a0.a a0.len a0.cap)]) fun (x2 : Sl) =>
 K x2)
noncomputable def h57 : Hint := (.seq none (.region [] (.ops 1 .done)) (.seq none (.seq none (.region [] (.ops 2 .done)) (.cond none (.seq none (.region [] (.ops 1 .done)) .leaf) .leaf)) (.seq none (.region [] (.ops 4 .done)) .leaf)))
theorem F57_tie (a0 : Sl) (K : Sl → World → Prop) : vcgF tab Tryz.prog Tryz.f57 h57 [(.slice a0.a a0.len a0.cap)] (.one (.one .sl)) K = F57 a0 K := by kernel_rfl
theorem F57_calls {a0 : Sl} {K : Sl → World → Prop} {w : World} (h : F57 a0 K w) : callT Tryz.prog 57 #[(.slice a0.a a0.len a0.cap)] (.one (.one .sl)) K w :=
  vcgF_sound tabOk Tryz.func57 h57 [(.slice a0.a a0.len a0.cap)] (.one (.one .sl)) K w (Eq.mpr (congrFun (F57_tie a0 K) w) h)
noncomputable def F58 (a0 : Option Addr) (a1 : ByteArray) (a2 : Option Addr) (a3 : Option Addr) (a4 : Option Addr) (K : Value → World → Prop) : World → Prop :=
 callT Tryz.prog 97 #[(.pointer a0), (.string a1), (.pointer a2), (.pointer a3)] (.one (.one .any)) fun (x1 : Value) =>
 rdB Tryz.prog (do eqGuard .neq 26 (Operand.tmp 17) (Operand.const Value.nilIface) x1 .nilIface; binOp .neq 26 x1 .nilIface : Sem Value) fun r2 =>
 sif r2 (
 K x1) (
 nn a3 fun p3 =>
 lds c57 p3 fun (x4 : (Int × Int × Int × Unit)) =>
 nn a4 fun p5 =>
 aggSt p5 (.agg (Cells.vals c57 x4).toArray) 3 <|
 nn a0 fun p6 =>
 ld (.ptr) p6 fun (x7 : Option Addr) =>
 callT Tryz.prog 76 #[(.pointer x7)] (.one (.one .any)) fun (x8 : Value) =>
 K x8)
noncomputable def h58 : Hint := (.seq none (.region [] (.ops 1 .done)) (.seq none (.region [] (.ops 6 .done)) (.seq none (.seq none (.region [] (.ops 2 .done)) (.cond none (.seq none (.region [] (.ops 2 .done)) .leaf) .leaf)) (.seq none (.region [] (.ops 6 .done)) (.seq none (.region [] (.ops 6 .done)) .leaf)))))
theorem F58_tie (a0 : Option Addr) (a1 : ByteArray) (a2 : Option Addr) (a3 : Option Addr) (a4 : Option Addr) (K : Value → World → Prop) : vcgF tab Tryz.prog Tryz.f58 h58 [(.pointer a0), (.string a1), (.pointer a2), (.pointer a3), (.pointer a4)] (.one (.one .any)) K = F58 a0 a1 a2 a3 a4 K := by kernel_rfl
theorem F58_calls {a0 : Option Addr} {a1 : ByteArray} {a2 : Option Addr} {a3 : Option Addr} {a4 : Option Addr} {K : Value → World → Prop} {w : World} (h : F58 a0 a1 a2 a3 a4 K w) : callT Tryz.prog 58 #[(.pointer a0), (.string a1), (.pointer a2), (.pointer a3), (.pointer a4)] (.one (.one .any)) K w :=
  vcgF_sound tabOk Tryz.func58 h58 [(.pointer a0), (.string a1), (.pointer a2), (.pointer a3), (.pointer a4)] (.one (.one .any)) K w (Eq.mpr (congrFun (F58_tie a0 a1 a2 a3 a4 K) w) h)
noncomputable def F59 (a0 : Option Addr) (K : Sl → World → Prop) : World → Prop :=
 nn a0 fun p1 =>
 ld (.bool) (p1.add 5) fun (x2 : Bool) =>
 sif x2 (
 K ⟨none, 0, 0⟩) (
 nn a0 fun p3 =>
 ld (.map) (p3.add 1) fun (x4 : Option Nat) =>
 callT Tryz.prog 71 #[(.map x4)] (.one (.one .sl)) fun (x5 : Sl) =>
 K x5)
noncomputable def h59 : Hint := (.seq none (.region [] (.ops 1 .done)) (.seq none (.seq none (.region [] (.ops 4 .done)) (.cond none (.seq none (.region [] (.ops 1 .done)) .leaf) .leaf)) (.seq none (.region [] (.ops 6 .done)) .leaf)))
theorem F59_tie (a0 : Option Addr) (K : Sl → World → Prop) : vcgF tab Tryz.prog Tryz.f59 h59 [(.pointer a0)] (.one (.one .sl)) K = F59 a0 K := by kernel_rfl
theorem F59_calls {a0 : Option Addr} {K : Sl → World → Prop} {w : World} (h : F59 a0 K w) : callT Tryz.prog 59 #[(.pointer a0)] (.one (.one .sl)) K w :=
  vcgF_sound tabOk Tryz.func59 h59 [(.pointer a0)] (.one (.one .sl)) K w (Eq.mpr (congrFun (F59_tie a0 K) w) h)
noncomputable def F60 (a0 : ByteArray) (K : Bool → World → Prop) : World → Prop :=
 join (S := Bool × Unit) (fun J1 =>
 sif (((ByteArray.size a0 : Nat) : Int) == (0 : Int)) (
 J1 (true, ())) (
 J1 ((decide (((ByteArray.size a0 : Nat) : Int) > (32 : Int))), ()))) fun (s2 : Bool × Unit) =>
 sif s2.1 (
 K false) (
 join (S := Unit) (fun J3 =>
 rawT Tryz.prog (.one (.one .sl)) (convert 9 30 (.string a0)) fun x5 =>
 sloop (S := Int × Unit) (fun (s6 : Int × Unit) again7 =>
 sif (decide (s6.1 < ((x5.len : Nat) : Int))) (
 join (S := Unit) (fun J8 =>
 ix x5.a x5.len s6.1 fun p10 =>
 ld (.int .u8) (p10.add (scaled (Int.toNat s6.1) 1)) fun (x11 : Int) =>
 join (S := Bool × Unit) (fun J12 =>
 join (S := Bool × Unit) (fun J14 =>
 sif (decide ((97 : Int) ≤ x11)) (
 J14 ((decide (x11 ≤ (122 : Int))), ())) (
 J14 (false, ()))) fun (s15 : Bool × Unit) =>
 sif s15.1 (
 J12 (s15.1, ())) (
 join (S := Bool × Unit) (fun J16 =>
 sif (decide ((65 : Int) ≤ x11)) (
 J16 ((decide (x11 ≤ (90 : Int))), ())) (
 J16 (false, ()))) fun (s17 : Bool × Unit) =>
 sif s17.1 (
 J12 (s17.1, ())) (
 sif (decide ((48 : Int) ≤ x11)) (
 J12 ((decide (x11 ≤ (57 : Int))), ())) (
 J12 (false, ()))))) fun (s13 : Bool × Unit) =>
 sif s13.1 (
 J8 ()) (
 join (S := Bool × Unit) (fun J18 =>
 sif (x11 == (46 : Int)) (
 J18 ((x11 == (46 : Int)), ())) (
 sif (x11 == (95 : Int)) (
 J18 ((x11 == (95 : Int)), ())) (
 sif (x11 == (45 : Int)) (
 J18 ((x11 == (45 : Int)), ())) (
 J18 ((x11 == (126 : Int)), ()))))) fun (s19 : Bool × Unit) =>
 sif s19.1 (
 J8 ()) (
 K false))) fun (s9 : Unit) =>
 again7 ((IntKind.wrap .i64 (s6.1 + (1 : Int))), ())) (
 J3 ())) ((0 : Int), ())) fun (s4 : Unit) =>
 K true)
noncomputable def h60 : Hint := (.seq none (.region [] (.ops 1 .done)) (.seq none (.seq (some (8160, [(12, (.one .bool))])) (.region [] (.ops 4 (.split 8 (.skips 3 (.ops 1 .done)) (.ops 4 .done)))) (.cond none (.seq none (.region [] (.ops 1 .done)) .leaf) .leaf)) (.seq (some (562949953413140, [])) (.seq none (.region [] (.ops 4 .done)) (.block (.loop 562949953355796 [(16, (.one (.int .i64)))] (.seq none (.region [] (.ops 1 .done)) (.seq none (.cond none .leaf .leaf) (.seq (some (281474976448532, [])) (.block (.seq none (.region [] (.ops 3 .done)) (.block (.seq (some (549754765312, [(20, (.one .bool))])) (.seq (some (133169152, [(20, (.one .bool))])) (.region [] (.ops 3 (.split 23 (.ops 4 .done) (.skips 2 (.ops 2 .done))))) (.cond none .leaf (.seq (some (8456765440, [(20, (.one .bool))])) (.region [] (.ops 3 (.split 29 (.ops 4 .done) (.skips 2 (.ops 2 .done))))) (.cond none .leaf (.region [] (.ops 3 (.split 35 (.ops 4 .done) (.skips 2 (.ops 2 .done))))))))) (.cond none .leaf (.seq (some (280925220896768, [(39, (.one .bool))])) (.seq none (.region [] (.ops 3 .done)) (.cond none .leaf (.seq none (.region [] (.ops 3 .done)) (.cond none .leaf (.seq none (.region [] (.ops 3 .done)) (.cond none .leaf (.region [] (.ops 3 .done)))))))) (.cond none .leaf (.seq none (.region [] (.ops 1 .done)) .leaf)))))))) (.region [] (.ops 2 .done)))))))) (.seq none (.region [] (.ops 1 .done)) .leaf))))
theorem F60_tie (a0 : ByteArray) (K : Bool → World → Prop) : vcgF tab Tryz.prog Tryz.f60 h60 [(.string a0)] (.one (.one .bool)) K = F60 a0 K := by kernel_rfl
theorem F60_calls {a0 : ByteArray} {K : Bool → World → Prop} {w : World} (h : F60 a0 K w) : callT Tryz.prog 60 #[(.string a0)] (.one (.one .bool)) K w :=
  vcgF_sound tabOk Tryz.func60 h60 [(.string a0)] (.one (.one .bool)) K w (Eq.mpr (congrFun (F60_tie a0 K) w) h)
noncomputable def F61 (a0 : Option Addr) (K : Option Addr → World → Prop) : World → Prop :=
 nn a0 fun p1 =>
 ld (.int .i64) (p1.add 4) fun (x2 : Int) =>
 nn a0 fun p3 =>
 stC (p3.add 4) (.int .i64 (IntKind.wrap .i64 (x2 + (1 : Int)))) <|
 nn a0 fun p4 =>
 ld (.int .i64) (p4.add 4) fun (x5 : Int) =>
 newO (.cells #[(.int .i64 x5), (.slice none 0 0), (.int .i64 (0 : Int)), (.int .i64 (0 : Int))] 123) fun b6 =>
 K (some (at0 b6))
noncomputable def h61 : Hint := (.seq none (.region [] (.ops 1 .done)) (.seq none (.region [] (.ops 8 .done)) (.seq none (.region [] (.ops 7 .done)) .leaf)))
theorem F61_tie (a0 : Option Addr) (K : Option Addr → World → Prop) : vcgF tab Tryz.prog Tryz.f61 h61 [(.pointer a0)] (.one (.one .ptr)) K = F61 a0 K := by kernel_rfl
theorem F61_calls {a0 : Option Addr} {K : Option Addr → World → Prop} {w : World} (h : F61 a0 K w) : callT Tryz.prog 61 #[(.pointer a0)] (.one (.one .ptr)) K w :=
  vcgF_sound tabOk Tryz.func61 h61 [(.pointer a0)] (.one (.one .ptr)) K w (Eq.mpr (congrFun (F61_tie a0 K) w) h)
noncomputable def F62 (a0 : Option Addr) (K : Unit → World → Prop) : World → Prop :=
 nn a0 fun p1 =>
 ld (.map) (p1.add 1) fun (x2 : Option Nat) =>
 callT Tryz.prog 73 #[(.map x2)] (.one (.one .map)) fun (x3 : Option Nat) =>
 nn a0 fun p4 =>
 stC (p4.add 2) (.map x3) <|
 nn a0 fun p5 =>
 stC (p5.add 3) (.slice none 0 0) <|
 K ()
noncomputable def h62 : Hint := (.region [] (.ops 13 .done))
theorem F62_tie (a0 : Option Addr) (K : Unit → World → Prop) : vcgF tab Tryz.prog Tryz.f62 h62 [(.pointer a0)] (.tup []) K = F62 a0 K := by kernel_rfl
theorem F62_calls {a0 : Option Addr} {K : Unit → World → Prop} {w : World} (h : F62 a0 K w) : callT Tryz.prog 62 #[(.pointer a0)] (.tup []) K w :=
  vcgF_sound tabOk Tryz.func62 h62 [(.pointer a0)] (.tup []) K w (Eq.mpr (congrFun (F62_tie a0 K) w) h)
noncomputable def F63 (a0 : Sl) (K : Sl → World → Prop) : World → Prop :=
 sif (Option.isNone a0.a) (
 K ⟨none, 0, 0⟩) (
 newO (.cells #[] 5) fun b1 =>
 rawT Tryz.prog (.one (.one .sl)) (Builtin.append_ #[30, 30] 30 #[(.slice (some (at0 b1)) 0 0), (.slice a0.a a0.len a0.cap)]) fun (x2 : Sl) =>
 K x2)
noncomputable def h63 : Hint := (.seq none (.region [] (.ops 1 .done)) (.seq none (.seq none (.region [] (.ops 2 .done)) (.cond none (.seq none (.region [] (.ops 1 .done)) .leaf) .leaf)) (.seq none (.region [] (.ops 4 .done)) .leaf)))
theorem F63_tie (a0 : Sl) (K : Sl → World → Prop) : vcgF tab Tryz.prog Tryz.f63 h63 [(.slice a0.a a0.len a0.cap)] (.one (.one .sl)) K = F63 a0 K := by kernel_rfl
theorem F63_calls {a0 : Sl} {K : Sl → World → Prop} {w : World} (h : F63 a0 K w) : callT Tryz.prog 63 #[(.slice a0.a a0.len a0.cap)] (.one (.one .sl)) K w :=
  vcgF_sound tabOk Tryz.func63 h63 [(.slice a0.a a0.len a0.cap)] (.one (.one .sl)) K w (Eq.mpr (congrFun (F63_tie a0 K) w) h)
noncomputable def F64 (a0 : Option Addr) (K : Unit → World → Prop) : World → Prop :=
 nn a0 fun p1 =>
 ld (.sl) (p1.add 1) fun (x2 : Sl) =>
 nn a0 fun p3 =>
 stC (p3.add 2) (.int .i64 ((x2.len : Nat) : Int)) <|
 K ()
noncomputable def h64 : Hint := (.region [] (.ops 9 .done))
theorem F64_tie (a0 : Option Addr) (K : Unit → World → Prop) : vcgF tab Tryz.prog Tryz.f64 h64 [(.pointer a0)] (.tup []) K = F64 a0 K := by kernel_rfl
theorem F64_calls {a0 : Option Addr} {K : Unit → World → Prop} {w : World} (h : F64 a0 K w) : callT Tryz.prog 64 #[(.pointer a0)] (.tup []) K w :=
  vcgF_sound tabOk Tryz.func64 h64 [(.pointer a0)] (.tup []) K w (Eq.mpr (congrFun (F64_tie a0 K) w) h)
noncomputable def F65 (a0 : Option Addr) (a1 : ByteArray) (a2 : ByteArray) (a3 : Value) (a4 : Value) (K : Value → World → Prop) : World → Prop :=
 nn a0 fun p1 =>
 ld (.bool) (p1.add 5) fun (x2 : Bool) =>
 sif x2 (
 newO (.cells #[(.string a1), (.string a2), (.int .i64 (0 : Int)), (.iface 33 (.int .i64 (165 : Int)))] 101) fun b3 =>
 K (.iface 99 (.pointer (some (at0 b3))))) (
 nn a0 fun p4 =>
 ld (.int .i64) (p4.add 7) fun (x5 : Int) =>
 nn a0 fun p6 =>
 stC (p6.add 7) (.int .i64 (IntKind.wrap .i64 (x5 + (1 : Int)))) <|
 nn a0 fun p7 =>
 ld (.int .i64) (p7.add 7) fun (x8 : Int) =>
 nn a0 fun p9 =>
 ld (.map) (p9.add 6) fun (x10 : Option Nat) =>
 rdT Tryz.prog (.one (.agg c132)) (Instr.lookup 105 (.map x10) (.int .i64 x8) false) fun (x11 : (Int × Int × Int × Int × Sl × Unit)) =>
 newO (.cells #[(.int .i64 (0 : Int)), (.int .i64 (0 : Int)), (.int .i64 (0 : Int)), (.int .i64 (0 : Int)), (.slice none 0 0)] 132) fun b12 =>
 aggSt (at0 b12) (.agg (Cells.vals c132 x11).toArray) 5 <|
 join (S := Int × Unit) (fun J13 =>
 ld (.int .i64) (⟨b12, 1, none⟩ : Addr) fun (x15 : Int) =>
 sif (x15 == (1 : Int)) (
 J13 ((160 : Int), ())) (
 sif (x15 == (2 : Int)) (
 rdB Tryz.prog (do eqGuard .neq 182 (Operand.tmp 50) (Operand.const Value.nilFunc) a4 .nilFunc; binOp .neq 182 a4 .nilFunc : Sem Value) fun r16 =>
 sif r16 (
 ld (.int .i64) (⟨b12, 2, none⟩ : Addr) fun (x17 : Int) =>
 callX Tryz.prog (do let d ← Deferred.ofValue a4 #[(.int .i64 x17)]; invoke d.target d.args : Sem Next) (.one (.one (.int .i64))) fun (x18 : Int) =>
 J13 (x18, ())) (
 J13 ((160 : Int), ()))) (
 sif (x15 == (4 : Int)) (
 lds c72 (⟨b12, 3, none⟩ : Addr) fun (x19 : (Int × Sl × Unit)) =>
 callT Tryz.prog 40 #[(.pointer a0), (.agg (Cells.vals c72 x19).toArray)] (.tup []) fun (x20 : (Unit)) =>
 J13 ((165 : Int), ())) (
 sif (x15 == (5 : Int)) (
 callX Tryz.prog (do let d ← Deferred.ofValue a3 #[]; invoke d.target d.args : Sem Next) (.one (.one (.int .i64))) fun (x21 : Int) =>
 lds c72 (⟨b12, 3, none⟩ : Addr) fun (x22 : (Int × Sl × Unit)) =>
 callT Tryz.prog 40 #[(.pointer a0), (.agg (Cells.vals c72 x22).toArray)] (.tup []) fun (x23 : (Unit)) =>
 J13 ((165 : Int), ())) (
 sif (x15 == (3 : Int)) (
 callX Tryz.prog (do let d ← Deferred.ofValue a3 #[]; invoke d.target d.args : Sem Next) (.one (.one (.int .i64))) fun (x24 : Int) =>
 sif (x24 != (0 : Int)) (
 J13 (x24, ())) (
 J13 ((160 : Int), ()))) (
 callX Tryz.prog (do let d ← Deferred.ofValue a3 #[]; invoke d.target d.args : Sem Next) (.one (.one (.int .i64))) fun (x25 : Int) =>
 J13 (x25, ()))))))) fun (s14 : Int × Unit) =>
 sif (s14.1 == (0 : Int)) (
 K .nilIface) (
 newO (.cells #[(.string a1), (.string a2), (.int .i64 x8), (.iface 33 (.int .i64 s14.1))] 101) fun b26 =>
 K (.iface 99 (.pointer (some (at0 b26))))))
noncomputable def h65 : Hint := (.seq none (.region [] (.ops 1 .done)) (.seq none (.seq none (.region [] (.ops 4 .done)) (.cond none (.seq none (.region [] (.ops 7 .done)) .leaf) .leaf)) (.seq none (.region [] (.ops 8 .done)) (.seq none (.region [] (.ops 5 .done)) (.seq none (.region [] (.ops 8 .done)) (.seq none (.region [] (.ops 1 .done)) (.seq (some (151115727447430600351744, [(13, (.one (.int .i64)))])) (.seq none (.region [] (.ops 2 .done)) (.block (.seq none (.region [] (.ops 2 .done)) (.cond none .leaf (.seq none (.region [] (.ops 2 .done)) (.cond none (.seq none (.region [] (.ops 2 .done)) (.cond none (.region [] (.ops 5 .done)) .leaf)) (.seq none (.region [] (.ops 2 .done)) (.cond none (.seq none (.region [] (.ops 4 .done)) (.region [] (.ops 1 .done))) (.seq none (.region [] (.ops 2 .done)) (.cond none (.seq none (.region [] (.ops 2 .done)) (.seq none (.region [] (.ops 4 .done)) (.region [] (.ops 1 .done)))) (.seq none (.region [] (.ops 2 .done)) (.cond none (.seq none (.region [] (.ops 3 .done)) (.seq none (.region [] (.ops 2 .done)) (.cond none (.region [] (.ops 2 .done)) .leaf))) (.region [] (.ops 3 .done)))))))))))))) (.seq none (.seq none (.region [] (.ops 2 .done)) (.cond none (.seq none (.region [] (.ops 1 .done)) .leaf) .leaf)) (.seq none (.region [] (.ops 9 .done)) .leaf)))))))))
theorem F65_tie (a0 : Option Addr) (a1 : ByteArray) (a2 : ByteArray) (a3 : Value) (a4 : Value) (K : Value → World → Prop) : vcgF tab Tryz.prog Tryz.f65 h65 [(.pointer a0), (.string a1), (.string a2), a3, a4] (.one (.one .any)) K = F65 a0 a1 a2 a3 a4 K := by kernel_rfl
theorem F65_calls {a0 : Option Addr} {a1 : ByteArray} {a2 : ByteArray} {a3 : Value} {a4 : Value} {K : Value → World → Prop} {w : World} (h : F65 a0 a1 a2 a3 a4 K w) : callT Tryz.prog 65 #[(.pointer a0), (.string a1), (.string a2), a3, a4] (.one (.one .any)) K w :=
  vcgF_sound tabOk Tryz.func65 h65 [(.pointer a0), (.string a1), (.string a2), a3, a4] (.one (.one .any)) K w (Eq.mpr (congrFun (F65_tie a0 a1 a2 a3 a4 K) w) h)
noncomputable def F66 (v0 : Addr) (v1 : Addr) (v2 : Addr) (K : Int → World → Prop) : World → Prop :=
 ld (.ptr) v0 fun (x1 : Option Addr) =>
 ld (.str) v1 fun (x2 : ByteArray) =>
 callT Tryz.prog 67 #[(.pointer x1), (.string x2)] (.tup [(.agg c127), (.one (.int .i64))]) fun (x3 : ((Option Addr × ByteArray × Unit) × Int × Unit)) =>
 newO (.cells #[(.pointer none), (.string { data := #[] })] 127) fun b4 =>
 aggSt (at0 b4) (.agg (Cells.vals c127 x3.1).toArray) 2 <|
 join (S := Unit) (fun J5 =>
 sif (x3.2.1 == (0 : Int)) (
 drew <|
 ld (.ptr) (at0 b4) fun (x7 : Option Addr) =>
 nn x7 fun p8 =>
 ld (.int .i64) p8 fun (x9 : Int) =>
 ld (.ptr) (at0 b4) fun (x10 : Option Addr) =>
 nn x10 fun p11 =>
 ld (.sl) (p11.add 1) fun (x12 : Sl) =>
 ld (.ptr) (at0 b4) fun (x13 : Option Addr) =>
 nn x13 fun p14 =>
 ld (.int .i64) (p14.add 3) fun (x15 : Int) =>
 aggSt v2 (.agg #[(.int .i64 (0 : Int)), (.int .i64 (0 : Int)), (.int .i64 (0 : Int))]) 3 <|
 keep (fun w => w.cell? (p14.add 3) = some (Cell.val (.int .i64) x15)) <|
 keep (fun w => w.cell? (at0 b4) = some (Cell.val (.ptr) x13)) <|
 keep (fun w => w.cell? (p11.add 1) = some (Cell.val (.sl) x12)) <|
 keep (fun w => w.cell? (at0 b4) = some (Cell.val (.ptr) x10)) <|
 keep (fun w => w.cell? p8 = some (Cell.val (.int .i64) x9)) <|
 keep (fun w => w.cell? (at0 b4) = some (Cell.val (.ptr) x7)) <|
 chk (0 ≤ (0 : Int) ∧ (0 : Int) < ((3 : Nat) : Int)) <|
 stC (v2.add (scaled (Int.toNat (0 : Int)) 1)) (.int .i64 x9) <|
 keep (fun w => w.cell? (p14.add 3) = some (Cell.val (.int .i64) x15)) <|
 keep (fun w => w.cell? (at0 b4) = some (Cell.val (.ptr) x13)) <|
 keep (fun w => w.cell? (p11.add 1) = some (Cell.val (.sl) x12)) <|
 keep (fun w => w.cell? (at0 b4) = some (Cell.val (.ptr) x10)) <|
 chk (0 ≤ (1 : Int) ∧ (1 : Int) < ((3 : Nat) : Int)) <|
 stC (v2.add (scaled (Int.toNat (1 : Int)) 1)) (.int .i64 ((x12.len : Nat) : Int)) <|
 keep (fun w => w.cell? (p14.add 3) = some (Cell.val (.int .i64) x15)) <|
 keep (fun w => w.cell? (at0 b4) = some (Cell.val (.ptr) x13)) <|
 chk (0 ≤ (2 : Int) ∧ (2 : Int) < ((3 : Nat) : Int)) <|
 stC (v2.add (scaled (Int.toNat (2 : Int)) 1)) (.int .i64 x15) <|
 J5 ()) (
 J5 ())) fun (s6 : Unit) =>
 K x3.2.1
noncomputable def h66 : Hint := (.seq none (.region [] (.ops 1 .done)) (.seq none (.region [] (.ops 9 .done)) (.seq (some (8589930496, [])) (.seq none (.region [] (.ops 2 .done)) (.cond none (.region [0, 1, 2, 3, 4, 5, 6, 7, 8, 9, 10, 11, 12, 13, 14, 15, 16, 17, 18, 19, 20, 21, 22] (.ops 23 .done)) .leaf)) (.seq none (.region [] (.ops 2 .done)) .leaf))))
theorem F66_tie (v0 : Addr) (v1 : Addr) (v2 : Addr) (K : Int → World → Prop) : vcgF tab Tryz.prog Tryz.f66 h66 [(.pointer (some v0)), (.pointer (some v1)), (.pointer (some v2))] (.one (.one (.int .i64))) K = F66 v0 v1 v2 K := by kernel_rfl
theorem F66_calls {v0 : Addr} {v1 : Addr} {v2 : Addr} {K : Int → World → Prop} {w : World} (h : F66 v0 v1 v2 K w) : callT Tryz.prog 66 #[(.pointer (some v0)), (.pointer (some v1)), (.pointer (some v2))] (.one (.one (.int .i64))) K w :=
  vcgF_sound tabOk Tryz.func66 h66 [(.pointer (some v0)), (.pointer (some v1)), (.pointer (some v2))] (.one (.one (.int .i64))) K w (Eq.mpr (congrFun (F66_tie v0 v1 v2 K) w) h)
noncomputable def F67 (a0 : Option Addr) (a1 : ByteArray) (K : ((Option Addr × ByteArray × Unit) × Int × Unit) → World → Prop) : World → Prop :=
 newO (.cells #[(.pointer none), (.string { data := #[] })] 127) fun b1 =>
 callT Tryz.prog 60 #[(.string a1)] (.one (.one .bool)) fun (x2 : Bool) =>
 sif (!x2) (
 aggSt (at0 b1) (.agg #[(.pointer none), (.string { data := #[] })]) 2 <|
 lds c127 (at0 b1) fun (x3 : (Option Addr × ByteArray × Unit)) =>
 K (x3, (164 : Int), ())) (
 nn a0 fun p4 =>
 ld (.map) (p4.add 1) fun (x5 : Option Nat) =>
 rdT Tryz.prog (.one (.one .ptr)) (Instr.lookup 103 (.map x5) (.string a1) false) fun (x6 : Option Addr) =>
 sif (Option.isNone x6) (
 aggSt (at0 b1) (.agg #[(.pointer none), (.string { data := #[] })]) 2 <|
 lds c127 (at0 b1) fun (x7 : (Option Addr × ByteArray × Unit)) =>
 K (x7, (162 : Int), ())) (
 aggSt (at0 b1) (.agg #[(.pointer x6), (.string a1)]) 2 <|
 lds c127 (at0 b1) fun (x8 : (Option Addr × ByteArray × Unit)) =>
 K (x8, (0 : Int), ())))
noncomputable def h67 : Hint := (.seq none (.region [] (.ops 2 .done)) (.seq none (.seq none (.region [] (.ops 3 .done)) (.cond none (.seq none (.region [] (.ops 3 .done)) .leaf) .leaf)) (.seq none (.region [] (.ops 7 .done)) (.seq none (.seq none (.region [] (.ops 2 .done)) (.cond none (.seq none (.region [] (.ops 3 .done)) .leaf) .leaf)) (.seq none (.region [] (.ops 5 .done)) .leaf)))))
theorem F67_tie (a0 : Option Addr) (a1 : ByteArray) (K : ((Option Addr × ByteArray × Unit) × Int × Unit) → World → Prop) : vcgF tab Tryz.prog Tryz.f67 h67 [(.pointer a0), (.string a1)] (.tup [(.agg c127), (.one (.int .i64))]) K = F67 a0 a1 K := by kernel_rfl
theorem F67_calls {a0 : Option Addr} {a1 : ByteArray} {K : ((Option Addr × ByteArray × Unit) × Int × Unit) → World → Prop} {w : World} (h : F67 a0 a1 K w) : callT Tryz.prog 67 #[(.pointer a0), (.string a1)] (.tup [(.agg c127), (.one (.int .i64))]) K w :=
  vcgF_sound tabOk Tryz.func67 h67 [(.pointer a0), (.string a1)] (.tup [(.agg c127), (.one (.int .i64))]) K w (Eq.mpr (congrFun (F67_tie a0 a1 K) w) h)
noncomputable def F71 (a0 : Option Nat) (K : Sl → World → Prop) : World → Prop :=
 join (S := Sl × Unit) (fun J1 =>
 rawT Tryz.prog (.one (.one .ptr)) (Instr.range 103 (.map a0)) fun (x3 : Option Addr) =>
 sloop (S := Sl × Unit) (fun (s4 : Sl × Unit) again5 =>
 nextE Tryz.prog (Instr.next (.pointer x3) false 0) fun r6 rest7 =>
 sif r6 (
 rawT Tryz.prog (.tup [(.one .str), (.one .ptr)]) (Instr.entry (.pointer x3)) fun (x8 : ByteArray × Option Addr × Unit) =>
 newO (.cells #[(.string x8.1)] 9) fun b9 =>
 rawT Tryz.prog (.one (.one .sl)) (Builtin.append_ #[117, 117] 117 #[(.slice s4.1.a s4.1.len s4.1.cap), (.slice (some (at0 b9)) 1 1)]) fun (x10 : Sl) =>
 again5 (x10, ())) (
 J1 (s4.1, ()))) (⟨none, 0, 0⟩, ())) fun (s2 : Sl × Unit) =>
 callT Tryz.prog 101 #[(.slice s2.1.a s2.1.len s2.1.cap)] (.tup []) fun (x11 : (Unit)) =>
 K s2.1
noncomputable def h71 : Hint := (.seq none (.region [] (.ops 1 .done)) (.seq none (.region [] (.ops 1 .done)) (.seq (some (32760, [(3, (.one .sl))])) (.seq none (.region [] (.ops 2 .done)) (.block (.loop 32664 [(3, (.one .sl))] (.seq none (.region [] (.ops 2 .done)) (.seq none (.cond none .leaf .leaf) (.block (.seq none (.region [] (.op (some (.tup [(.one .str), (.one .ptr)])) (.ops 2 .done))) (.region [] (.ops 5 .done))))))))) (.seq none (.region [] (.ops 2 .done)) (.seq none (.region [] (.ops 2 .done)) .leaf)))))
theorem F71_tie (a0 : Option Nat) (K : Sl → World → Prop) : vcgF tab Tryz.prog Tryz.f71 h71 [(.map a0)] (.one (.one .sl)) K = F71 a0 K := by kernel_rfl
theorem F71_calls {a0 : Option Nat} {K : Sl → World → Prop} {w : World} (h : F71 a0 K w) : callT Tryz.prog 71 #[(.map a0)] (.one (.one .sl)) K w :=
  vcgF_sound tabOk Tryz.func71 h71 [(.map a0)] (.one (.one .sl)) K w (Eq.mpr (congrFun (F71_tie a0 K) w) h)
noncomputable def F72 (a0 : Option Addr) (a1 : Int) (K : Unit → World → Prop) : World → Prop :=
 drew <|
 nn a0 fun p1 =>
 ld (.int .i64) (p1.add 2) fun (x2 : Int) =>
 nn a0 fun p3 =>
 ld (.sl) (p3.add 1) fun (x4 : Sl) =>
 nn a0 fun p5 =>
 ld (.int .i64) (p5.add 2) fun (x6 : Int) =>
 nn a0 fun p7 =>
 ld (.sl) (p7.add 1) fun (x8 : Sl) =>
 slc x8.a 0 (IntKind.wrap .i64 (x2 + (if (IntKind.wrap .i64 (((x4.len : Nat) : Int) - x6)) < (if (0 : Int) > a1 then (0 : Int) else a1) then (IntKind.wrap .i64 (((x4.len : Nat) : Int) - x6)) else (if (0 : Int) > a1 then (0 : Int) else a1)))) (IntKind.wrap .i64 (x2 + (if (IntKind.wrap .i64 (((x4.len : Nat) : Int) - x6)) < (if (0 : Int) > a1 then (0 : Int) else a1) then (IntKind.wrap .i64 (((x4.len : Nat) : Int) - x6)) else (if (0 : Int) > a1 then (0 : Int) else a1)))) x8.cap 1 fun x9 =>
 nn a0 fun p10 =>
 stC (p10.add 1) (.slice x9.a x9.len x9.cap) <|
 callT Tryz.prog 64 #[(.pointer a0)] (.tup []) fun (x11 : (Unit)) =>
 K ()
noncomputable def h72 : Hint := (.seq none (.region [0, 1, 2, 3, 4, 5, 6, 7, 8, 9, 10, 11, 12, 13, 14, 15, 16, 17, 18] (.ops 19 .done)) (.seq none (.region [] (.ops 11 .done)) (.region [] (.ops 2 .done))))
theorem F72_tie (a0 : Option Addr) (a1 : Int) (K : Unit → World → Prop) : vcgF tab Tryz.prog Tryz.f72 h72 [(.pointer a0), (.int .i64 a1)] (.tup []) K = F72 a0 a1 K := by kernel_rfl
theorem F72_calls {a0 : Option Addr} {a1 : Int} {K : Unit → World → Prop} {w : World} (h : F72 a0 a1 K w) : callT Tryz.prog 72 #[(.pointer a0), (.int .i64 a1)] (.tup []) K w :=
  vcgF_sound tabOk Tryz.func72 h72 [(.pointer a0), (.int .i64 a1)] (.tup []) K w (Eq.mpr (congrFun (F72_tie a0 a1 K) w) h)
noncomputable def F73 (a0 : Option Nat) (K : Option Nat → World → Prop) : World → Prop :=
 sif (Option.isNone a0) (
 K none) (
 callX Tryz.prog (callFunc 102 #[(.iface 103 (.map a0))]) (.one (.one .any)) fun (x1 : Value) =>
 rawT Tryz.prog (.one (.one .map)) (Instr.typeAssert x1 20 103 false) fun (x2 : Option Nat) =>
 K x2)
noncomputable def h73 : Hint := (.seq none (.region [] (.ops 1 .done)) (.seq none (.seq none (.region [] (.ops 2 .done)) (.cond none (.seq none (.region [] (.ops 1 .done)) .leaf) .leaf)) (.seq none (.region [] (.ops 5 .done)) .leaf)))
theorem F73_tie (a0 : Option Nat) (K : Option Nat → World → Prop) : vcgF tab Tryz.prog Tryz.f73 h73 [(.map a0)] (.one (.one .map)) K = F73 a0 K := by kernel_rfl
theorem F73_calls {a0 : Option Nat} {K : Option Nat → World → Prop} {w : World} (h : F73 a0 K w) : callT Tryz.prog 73 #[(.map a0)] (.one (.one .map)) K w :=
  vcgF_sound tabOk Tryz.func73 h73 [(.map a0)] (.one (.one .map)) K w (Eq.mpr (congrFun (F73_tie a0 K) w) h)
noncomputable def F75 (a0 : Option Addr) (a1 : ByteArray) (K : Value → World → Prop) : World → Prop :=
 newO (.cells #[(.pointer a0)] 24) fun b1 =>
 newO (.cells #[(.string a1)] 9) fun b2 =>
 ld (.ptr) (at0 b1) fun (x3 : Option Addr) =>
 ld (.str) (at0 b2) fun (x4 : ByteArray) =>
 callT Tryz.prog 65 #[(.pointer x3), (.string { data := #[114, 101, 109, 111, 118, 101] }), (.string x4), (.func (Fn.func 103) #[] #[(.pointer (some (at0 b1))), (.pointer (some (at0 b2)))]), .nilFunc] (.one (.one .any)) fun (x5 : Value) =>
 K x5
noncomputable def h75 : Hint := (.seq none (.region [] (.ops 3 .done)) (.seq none (.region [] (.ops 5 .done)) .leaf))
theorem F75_tie (a0 : Option Addr) (a1 : ByteArray) (K : Value → World → Prop) : vcgF tab Tryz.prog Tryz.f75 h75 [(.pointer a0), (.string a1)] (.one (.one .any)) K = F75 a0 a1 K := by kernel_rfl
theorem F75_calls {a0 : Option Addr} {a1 : ByteArray} {K : Value → World → Prop} {w : World} (h : F75 a0 a1 K w) : callT Tryz.prog 75 #[(.pointer a0), (.string a1)] (.one (.one .any)) K w :=
  vcgF_sound tabOk Tryz.func75 h75 [(.pointer a0), (.string a1)] (.one (.one .any)) K w (Eq.mpr (congrFun (F75_tie a0 a1 K) w) h)
noncomputable def F76 (a0 : Option Addr) (K : Value → World → Prop) : World → Prop :=
 newO (.cells #[(.pointer a0)] 24) fun b1 =>
 ld (.ptr) (at0 b1) fun (x2 : Option Addr) =>
 callT Tryz.prog 65 #[(.pointer x2), (.string { data := #[115, 121, 110, 99, 100, 105, 114] }), (.string { data := #[] }), (.func (Fn.func 106) #[] #[(.pointer (some (at0 b1)))]), .nilFunc] (.one (.one .any)) fun (x3 : Value) =>
 K x3
noncomputable def h76 : Hint := (.seq none (.region [] (.ops 2 .done)) (.seq none (.region [] (.ops 4 .done)) .leaf))
theorem F76_tie (a0 : Option Addr) (K : Value → World → Prop) : vcgF tab Tryz.prog Tryz.f76 h76 [(.pointer a0)] (.one (.one .any)) K = F76 a0 K := by kernel_rfl
theorem F76_calls {a0 : Option Addr} {K : Value → World → Prop} {w : World} (h : F76 a0 K w) : callT Tryz.prog 76 #[(.pointer a0)] (.one (.one .any)) K w :=
  vcgF_sound tabOk Tryz.func76 h76 [(.pointer a0)] (.one (.one .any)) K w (Eq.mpr (congrFun (F76_tie a0 K) w) h)
noncomputable def F87 (v0 : Addr) (v1 : Addr) (v2 : Addr) (K : Int → World → Prop) : World → Prop :=
 ld (.ptr) v0 fun (x1 : Option Addr) =>
 ld (.str) v1 fun (x2 : ByteArray) =>
 callT Tryz.prog 67 #[(.pointer x1), (.string x2)] (.tup [(.agg c127), (.one (.int .i64))]) fun (x3 : ((Option Addr × ByteArray × Unit) × Int × Unit)) =>
 newO (.cells #[(.pointer none), (.string { data := #[] })] 127) fun b4 =>
 aggSt (at0 b4) (.agg (Cells.vals c127 x3.1).toArray) 2 <|
 join (S := Unit) (fun J5 =>
 sif (x3.2.1 == (0 : Int)) (
 ld (.ptr) (at0 b4) fun (x7 : Option Addr) =>
 nn x7 fun p8 =>
 ld (.sl) (p8.add 1) fun (x9 : Sl) =>
 callT Tryz.prog 63 #[(.slice x9.a x9.len x9.cap)] (.one (.one .sl)) fun (x10 : Sl) =>
 stC v2 (.slice x10.a x10.len x10.cap) <|
 J5 ()) (
 J5 ())) fun (s6 : Unit) =>
 K x3.2.1
noncomputable def h87 : Hint := (.seq none (.region [] (.ops 1 .done)) (.seq none (.region [] (.ops 9 .done)) (.seq (some (1044480, [])) (.seq none (.region [] (.ops 2 .done)) (.cond none (.region [] (.ops 7 .done)) .leaf)) (.seq none (.region [] (.ops 2 .done)) .leaf))))
theorem F87_tie (v0 : Addr) (v1 : Addr) (v2 : Addr) (K : Int → World → Prop) : vcgF tab Tryz.prog Tryz.f87 h87 [(.pointer (some v0)), (.pointer (some v1)), (.pointer (some v2))] (.one (.one (.int .i64))) K = F87 v0 v1 v2 K := by kernel_rfl
theorem F87_calls {v0 : Addr} {v1 : Addr} {v2 : Addr} {K : Int → World → Prop} {w : World} (h : F87 v0 v1 v2 K w) : callT Tryz.prog 87 #[(.pointer (some v0)), (.pointer (some v1)), (.pointer (some v2))] (.one (.one (.int .i64))) K w :=
  vcgF_sound tabOk Tryz.func87 h87 [(.pointer (some v0)), (.pointer (some v1)), (.pointer (some v2))] (.one (.one (.int .i64))) K w (Eq.mpr (congrFun (F87_tie v0 v1 v2 K) w) h)
noncomputable def F88 (a0 : ByteArray) (a1 : ByteArray) (K : Bool → World → Prop) : World → Prop :=
 sif (decide (((ByteArray.size a0 : Nat) : Int) ≥ ((ByteArray.size a1 : Nat) : Int))) (
 chk (0 ≤ (IntKind.wrap .i64 (((ByteArray.size a0 : Nat) : Int) - ((ByteArray.size a1 : Nat) : Int))) ∧ (IntKind.wrap .i64 (((ByteArray.size a0 : Nat) : Int) - ((ByteArray.size a1 : Nat) : Int))) ≤ ((a0.size : Nat) : Int) ∧ ((a0.size : Nat) : Int) ≤ ((a0.size : Nat) : Int)) <|
 K (ByteArray.toList (a0.extract (Int.toNat (IntKind.wrap .i64 (((ByteArray.size a0 : Nat) : Int) - ((ByteArray.size a1 : Nat) : Int)))) (Int.toNat ((a0.size : Nat) : Int))) == ByteArray.toList a1)) (
 K false)
noncomputable def h88 : Hint := (.seq none (.region [] (.ops 1 .done)) (.seq none (.region [] (.ops 6 (.split 10 (.ops 11 .done) (.skips 9 (.ops 2 .done))))) .leaf))
theorem F88_tie (a0 : ByteArray) (a1 : ByteArray) (K : Bool → World → Prop) : vcgF tab Tryz.prog Tryz.f88 h88 [(.string a0), (.string a1)] (.one (.one .bool)) K = F88 a0 a1 K := by kernel_rfl
theorem F88_calls {a0 : ByteArray} {a1 : ByteArray} {K : Bool → World → Prop} {w : World} (h : F88 a0 a1 K w) : callT Tryz.prog 88 #[(.string a0), (.string a1)] (.one (.one .bool)) K w :=
  vcgF_sound tabOk Tryz.func88 h88 [(.string a0), (.string a1)] (.one (.one .bool)) K w (Eq.mpr (congrFun (F88_tie a0 a1 K) w) h)
noncomputable def F89 (a0 : ByteArray) (a1 : Value) (a2 : Bool) (K : Int → World → Prop) : World → Prop :=
 join (S := Unit) (fun J1 =>
 rawT Tryz.prog (.one (.one .ptr)) (Instr.range 9 (.string a0)) fun (x3 : Option Addr) =>
 sloop (S := Unit) (fun (s4 : Unit) again5 =>
 nextS Tryz.prog (Instr.next (.pointer x3) true 0) (fun p6 c7 =>
 sif true (
 callX Tryz.prog (do let d ← Deferred.ofValue a1 #[(.int .i32 c7)]; invoke d.target d.args : Sem Next) (.one (.one .bool)) fun (x8 : Bool) =>
 rdB Tryz.prog (do eqGuard .eql 4 (Operand.tmp 17) (Operand.tmp 18) (.bool x8) (.bool a2); binOp .eql 4 (.bool x8) (.bool a2) : Sem Value) fun r9 =>
 sif r9 (
 K p6) (
 again5 ())) (
 J1 ())) (
 sif false (
 fun _ => False) (
 J1 ()))) ()) fun (s2 : Unit) =>
 K (-1 : Int)
noncomputable def h89 : Hint := (.seq none (.region [] (.ops 1 .done)) (.seq (some (2097088, [])) (.seq none (.region [] (.ops 2 .done)) (.block (.loop 2095552 [] (.seq none (.region [] (.ops 2 .done)) (.seq none (.cond none .leaf .leaf) (.block (.seq none (.region [] (.ops 4 .done)) (.seq none (.region [] (.ops 5 .done)) (.cond none (.seq none (.region [] (.ops 2 .done)) .leaf) .leaf))))))))) (.seq none (.region [] (.ops 1 .done)) .leaf)))
theorem F89_tie (a0 : ByteArray) (a1 : Value) (a2 : Bool) (K : Int → World → Prop) : vcgF tab Tryz.prog Tryz.f89 h89 [(.string a0), a1, (.bool a2)] (.one (.one (.int .i64))) K = F89 a0 a1 a2 K := by kernel_rfl
theorem F89_calls {a0 : ByteArray} {a1 : Value} {a2 : Bool} {K : Int → World → Prop} {w : World} (h : F89 a0 a1 a2 K w) : callT Tryz.prog 89 #[(.string a0), a1, (.bool a2)] (.one (.one (.int .i64))) K w :=
  vcgF_sound tabOk Tryz.func89 h89 [(.string a0), a1, (.bool a2)] (.one (.one (.int .i64))) K w (Eq.mpr (congrFun (F89_tie a0 a1 a2 K) w) h)
noncomputable def F90 (a0 : ByteArray) (a1 : Int) (K : Bool → World → Prop) : World → Prop :=
 callT Tryz.prog 130 #[(.string a0), (.int .i32 a1)] (.one (.one (.int .i64))) fun (x1 : Int) =>
 K (decide (x1 ≥ (0 : Int)))
noncomputable def h90 : Hint := (.seq none (.region [] (.ops 1 .done)) (.seq none (.region [] (.ops 5 .done)) .leaf))
theorem F90_tie (a0 : ByteArray) (a1 : Int) (K : Bool → World → Prop) : vcgF tab Tryz.prog Tryz.f90 h90 [(.string a0), (.int .i32 a1)] (.one (.one .bool)) K = F90 a0 a1 K := by kernel_rfl
theorem F90_calls {a0 : ByteArray} {a1 : Int} {K : Bool → World → Prop} {w : World} (h : F90 a0 a1 K w) : callT Tryz.prog 90 #[(.string a0), (.int .i32 a1)] (.one (.one .bool)) K w :=
  vcgF_sound tabOk Tryz.func90 h90 [(.string a0), (.int .i32 a1)] (.one (.one .bool)) K w (Eq.mpr (congrFun (F90_tie a0 a1 K) w) h)
noncomputable def F92 (a0 : Value) (a1 : Value) (a2 : Bool) (K : Bool → World → Prop) : World → Prop :=
 sloop (S := Value × Unit) (fun (s1 : Value × Unit) again2 =>
 join (S := Bool × Unit) (fun J3 =>
 sif a2 (
 rdB Tryz.prog (do eqGuard .eql 26 (Operand.tmp 16) (Operand.tmp 17) s1.1 a1; binOp .eql 26 s1.1 a1 : Sem Value) fun r5 =>
 J3 (r5, ())) (
 J3 (false, ()))) fun (s4 : Bool × Unit) =>
 sif s4.1 (
 K true) (
 rawT Tryz.prog (.tup [(.one .any), (.one .bool)]) (Instr.typeAssert s1.1 26 213 true) fun (x6 : (Value × Bool × Unit)) =>
 join (S := Bool × Unit) (fun J7 =>
 sif x6.2.1 (
 callX Tryz.prog (invoke (.fn (.method "Is") #[]) (#[x6.1] ++ #[a1])) (.one (.one .bool)) fun (x9 : Bool) =>
 J7 (x9, ())) (
 J7 (false, ()))) fun (s8 : Bool × Unit) =>
 sif s8.1 (
 K true) (
 rawT Tryz.prog (.tup [(.one .any), (.one .bool)]) (Instr.typeAssert s1.1 26 216 true) fun (x10 : Value × Bool × Unit) =>
 sif x10.2.1 (
 callX Tryz.prog (invoke (.fn (.method "Unwrap") #[]) (#[x10.1] ++ #[])) (.one (.one .any)) fun (x11 : Value) =>
 rdB Tryz.prog (do eqGuard .eql 26 (Operand.tmp 37) (Operand.const Value.nilIface) x11 .nilIface; binOp .eql 26 x11 .nilIface : Sem Value) fun r12 =>
 sif r12 (
 K false) (
 again2 (x11, ()))) (
 rawT Tryz.prog (.tup [(.one .any), (.one .bool)]) (Instr.typeAssert s1.1 26 217 true) fun (x13 : Value × Bool × Unit) =>
 sif x13.2.1 (
 join (S := Unit) (fun J14 =>
 callX Tryz.prog (invoke (.fn (.method "Unwrap") #[]) (#[x13.1] ++ #[])) (.one (.one .sl)) fun (x16 : Sl) =>
 sloop (S := Int × Unit) (fun (s17 : Int × Unit) again18 =>
 sif (decide (s17.1 < ((x16.len : Nat) : Int))) (
 ix x16.a x16.len s17.1 fun p19 =>
 ld (.any) (p19.add (scaled (Int.toNat s17.1) 1)) fun (x20 : Value) =>
 callT Tryz.prog 92 #[x20, a1, (.bool a2)] (.one (.one .bool)) fun (x21 : Bool) =>
 sif x21 (
 K true) (
 again18 ((IntKind.wrap .i64 (s17.1 + (1 : Int))), ()))) (
 J14 ())) ((0 : Int), ())) fun (s15 : Unit) =>
 K false) (
 K false))))) (a0, ())
noncomputable def h92 : Hint := (.seq none (.region [] (.ops 1 .done)) (.block (.loop 18014398509479873 [(0, (.one .any))] (.block (.seq none (.seq (some (1032192, [(19, (.one .bool))])) (.region [] (.ops 2 (.split 15 (.ops 4 .done) (.skips 3 (.ops 1 .done))))) (.cond none (.seq none (.region [] (.ops 1 .done)) .leaf) .leaf)) (.seq none (.seq none (.region [] (.ops 7 .done)) (.seq (some (2113929216, [(30, (.one .bool))])) (.region [] (.ops 2 (.split 26 (.ops 4 .done) (.skips 3 (.ops 1 .done))))) (.cond none (.seq none (.region [] (.ops 1 .done)) .leaf) .leaf))) (.seq none (.region [] (.ops 1 .done)) (.block (.seq none (.region [] (.op (some (.tup [(.one .any), (.one .bool)])) (.ops 2 .done))) (.cond none (.seq none (.region [] (.ops 1 .done)) (.seq none (.region [] (.ops 3 .done)) (.seq none (.region [] (.ops 2 .done)) (.cond none (.seq none (.region [] (.ops 1 .done)) .leaf) .leaf)))) (.seq none (.region [] (.op (some (.tup [(.one .any), (.one .bool)])) (.ops 2 .done))) (.cond none (.seq none (.region [] (.ops 1 .done)) (.seq (some (18010000462975040, [])) (.seq none (.region [] (.ops 4 .done)) (.block (.loop 17979214137397312 [(45, (.one (.int .i64)))] (.seq none (.region [] (.ops 1 .done)) (.seq none (.cond none .leaf .leaf) (.seq none (.block (.seq none (.region [] (.ops 3 .done)) (.seq none (.region [] (.ops 4 .done)) (.cond none (.seq none (.region [] (.ops 1 .done)) .leaf) .leaf)))) (.region [] (.ops 2 .done)))))))) (.seq none (.region [] (.ops 1 .done)) .leaf))) (.seq none (.region [] (.ops 1 .done)) (.seq none (.region [] (.ops 1 .done)) .leaf))))))))))))))
theorem F92_tie (a0 : Value) (a1 : Value) (a2 : Bool) (K : Bool → World → Prop) : vcgF tab Tryz.prog Tryz.f92 h92 [a0, a1, (.bool a2)] (.one (.one .bool)) K = F92 a0 a1 a2 K := by kernel_rfl
theorem F92_calls {a0 : Value} {a1 : Value} {a2 : Bool} {K : Bool → World → Prop} {w : World} (h : F92 a0 a1 a2 K w) : callT Tryz.prog 92 #[a0, a1, (.bool a2)] (.one (.one .bool)) K w :=
  vcgF_sound tabOk Tryz.func92 h92 [a0, a1, (.bool a2)] (.one (.one .bool)) K w (Eq.mpr (congrFun (F92_tie a0 a1 a2 K) w) h)
noncomputable def F93 (a0 : Value) (a1 : Value) (K : Bool → World → Prop) : World → Prop :=
 rdB Tryz.prog (do eqGuard .eql 26 (Operand.tmp 8) (Operand.const Value.nilIface) a0 .nilIface; binOp .eql 26 a0 .nilIface : Sem Value) fun r1 =>
 sif r1 (
 K false) (
 join (S := Unit) (fun J2 =>
 rdB Tryz.prog (do eqGuard .eql 20 (Operand.tmp 10) (Operand.const Value.nilIface) a1 .nilIface; binOp .eql 20 a1 .nilIface : Sem Value) fun r4 =>
 sif r4 (
 fun _ => False) (
 J2 ())) fun (s3 : Unit) =>
 callX Tryz.prog (callFunc 131 #[a1]) (.one (.agg c223)) fun (x5 : (Option Addr × Value × Int × Unit)) =>
 newO (.cells #[(.pointer none), (.pointer none), (.int .u64 (0 : Int))] 223) fun b6 =>
 aggSt (at0 b6) (.agg (Cells.vals c223 x5).toArray) 3 <|
 lds c223 (at0 b6) fun (x7 : (Option Addr × Value × Int × Unit)) =>
 callX Tryz.prog (callFunc 132 #[(.agg (Cells.vals c223 x7).toArray)]) (.one (.one .any)) fun (x8 : Value) =>
 join (S := Unit) (fun J9 =>
 join (S := Bool × Unit) (fun J11 =>
 callX Tryz.prog (invoke (.fn (.method "Kind") #[]) (#[x8] ++ #[])) (.one (.one (.int .u8))) fun (x13 : Int) =>
 sif (x13 != (22 : Int)) (
 J11 (true, ())) (
 lds c223 (at0 b6) fun (x14 : (Option Addr × Value × Int × Unit)) =>
 callX Tryz.prog (callFunc 133 #[(.agg (Cells.vals c223 x14).toArray)]) (.one (.one .bool)) fun (x15 : Bool) =>
 J11 (x15, ()))) fun (s12 : Bool × Unit) =>
 sif s12.1 (
 fun _ => False) (
 J9 ())) fun (s10 : Unit) =>
 callX Tryz.prog (invoke (.fn (.method "Elem") #[]) (#[x8] ++ #[])) (.one (.one .any)) fun (x16 : Value) =>
 join (S := Unit) (fun J17 =>
 join (S := Bool × Unit) (fun J19 =>
 callX Tryz.prog (invoke (.fn (.method "Kind") #[]) (#[x16] ++ #[])) (.one (.one (.int .u8))) fun (x21 : Int) =>
 sif (x21 != (20 : Int)) (
 ld (.any) (at0 0) fun (x22 : Value) =>
 callX Tryz.prog (invoke (.fn (.method "Implements") #[]) (#[x16] ++ #[x22])) (.one (.one .bool)) fun (x23 : Bool) =>
 J19 ((!x23), ())) (
 J19 (false, ()))) fun (s20 : Bool × Unit) =>
 sif s20.1 (
 fun _ => False) (
 J17 ())) fun (s18 : Unit) =>
 lds c223 (at0 b6) fun (x24 : (Option Addr × Value × Int × Unit)) =>
 callT Tryz.prog 134 #[a0, a1, (.agg (Cells.vals c223 x24).toArray), x16] (.one (.one .bool)) fun (x25 : Bool) =>
 K x25)
noncomputable def h93 : Hint := (.seq none (.region [] (.ops 1 .done)) (.seq none (.seq none (.region [] (.ops 2 .done)) (.cond none (.seq none (.region [] (.ops 1 .done)) .leaf) .leaf)) (.seq (some (7168, [])) (.seq none (.region [] (.ops 2 .done)) (.cond none (.region [] (.ops 2 .done)) .leaf)) (.seq none (.region [] (.ops 4 .done)) (.seq none (.region [] (.ops 3 .done)) (.seq (some (33423360, [])) (.seq (some (16646144, [(23, (.one .bool))])) (.region [] (.ops 4 (.split 20 (.skips 2 (.ops 1 .done)) (.ops 3 .done)))) (.cond none (.region [] (.ops 2 .done)) .leaf)) (.seq none (.region [] (.ops 3 .done)) (.seq (some (137304735744, [])) (.seq (some (68585259008, [(35, (.one .bool))])) (.region [] (.ops 4 (.split 30 (.ops 5 .done) (.skips 4 (.ops 1 .done))))) (.cond none (.region [] (.ops 2 .done)) .leaf)) (.seq none (.region [] (.ops 6 .done)) .leaf)))))))))
theorem F93_tie (a0 : Value) (a1 : Value) (K : Bool → World → Prop) : vcgF tab Tryz.prog Tryz.f93 h93 [a0, a1] (.one (.one .bool)) K = F93 a0 a1 K := by kernel_rfl
theorem F93_calls {a0 : Value} {a1 : Value} {K : Bool → World → Prop} {w : World} (h : F93 a0 a1 K w) : callT Tryz.prog 93 #[a0, a1] (.one (.one .bool)) K w :=
  vcgF_sound tabOk Tryz.func93 h93 [a0, a1] (.one (.one .bool)) K w (Eq.mpr (congrFun (F93_tie a0 a1 K) w) h)
noncomputable def F96 (a0 : Sl) (a1 : Sl) (K : Bool → World → Prop) : World → Prop :=
 rawT Tryz.prog (.one (.one .str)) (convert 30 9 (.slice a0.a a0.len a0.cap)) fun x1 =>
 rawT Tryz.prog (.one (.one .str)) (convert 30 9 (.slice a1.a a1.len a1.cap)) fun x2 =>
 K (ByteArray.toList x1 == ByteArray.toList x2)
noncomputable def h96 : Hint := (.seq none (.region [] (.ops 1 .done)) (.seq none (.region [] (.ops 6 .done)) .leaf))
theorem F96_tie (a0 : Sl) (a1 : Sl) (K : Bool → World → Prop) : vcgF tab Tryz.prog Tryz.f96 h96 [(.slice a0.a a0.len a0.cap), (.slice a1.a a1.len a1.cap)] (.one (.one .bool)) K = F96 a0 a1 K := by kernel_rfl
theorem F96_calls {a0 : Sl} {a1 : Sl} {K : Bool → World → Prop} {w : World} (h : F96 a0 a1 K w) : callT Tryz.prog 96 #[(.slice a0.a a0.len a0.cap), (.slice a1.a a1.len a1.cap)] (.one (.one .bool)) K w :=
  vcgF_sound tabOk Tryz.func96 h96 [(.slice a0.a a0.len a0.cap), (.slice a1.a a1.len a1.cap)] (.one (.one .bool)) K w (Eq.mpr (congrFun (F96_tie a0 a1 K) w) h)
noncomputable def F97 (a0 : Option Addr) (a1 : ByteArray) (a2 : Option Addr) (a3 : Option Addr) (K : Value → World → Prop) : World → Prop :=
 newO (.cells #[(.pointer a0)] 29) fun b1 =>
 newO (.cells #[.nilIface] 26) fun b2 =>
 chk (((ByteArray.size a1 + ByteArray.size ({ data := #[126] }) : Nat) : Int) ≤ IntKind.max .i64) <|
 newO (.cells #[(.string { data := #[] })] 9) fun b3 =>
 stC (at0 b3) (.string (a1 ++ ({ data := #[126] }))) <|
 drew <|
 ld (.ptr) (at0 b1) fun (x4 : Option Addr) =>
 nn x4 fun p5 =>
 ld (.ptr) p5 fun (x6 : Option Addr) =>
 ld (.str) (at0 b3) fun (x7 : ByteArray) =>
 callT Tryz.prog 137 #[(.pointer x6), (.string x7)] (.one (.one .any)) fun (x8 : Value) =>
 chk (isOne x8 = true) <|
 stC (at0 b2) x8 <|
 join (S := Unit) (fun J9 =>
 ld (.any) (at0 b2) fun (x11 : Value) =>
 callT Tryz.prog 53 #[x11, (.iface 33 (.int .i64 (163 : Int)))] (.one (.one .bool)) fun (x12 : Bool) =>
 sif x12 (
 drew <|
 ld (.ptr) (at0 b1) fun (x13 : Option Addr) =>
 nn x13 fun p14 =>
 ld (.ptr) p14 fun (x15 : Option Addr) =>
 ld (.str) (at0 b3) fun (x16 : ByteArray) =>
 callT Tryz.prog 75 #[(.pointer x15), (.string x16)] (.one (.one .any)) fun (x17 : Value) =>
 chk (isOne x17 = true) <|
 stC (at0 b2) x17 <|
 ld (.any) (at0 b2) fun (x18 : Value) =>
 rdB Tryz.prog (do eqGuard .eql 26 (Operand.tmp 29) (Operand.const Value.nilIface) x18 .nilIface; binOp .eql 26 x18 .nilIface : Sem Value) fun r19 =>
 sif r19 (
 drew <|
 ld (.ptr) (at0 b1) fun (x20 : Option Addr) =>
 nn x20 fun p21 =>
 ld (.ptr) p21 fun (x22 : Option Addr) =>
 ld (.str) (at0 b3) fun (x23 : ByteArray) =>
 callT Tryz.prog 137 #[(.pointer x22), (.string x23)] (.one (.one .any)) fun (x24 : Value) =>
 chk (isOne x24 = true) <|
 stC (at0 b2) x24 <|
 J9 ()) (
 J9 ())) (
 J9 ())) fun (s10 : Unit) =>
 ld (.any) (at0 b2) fun (x25 : Value) =>
 rdB Tryz.prog (do eqGuard .neq 26 (Operand.tmp 37) (Operand.const Value.nilIface) x25 .nilIface; binOp .neq 26 x25 .nilIface : Sem Value) fun r26 =>
 sif r26 (
 ld (.any) (at0 b2) fun (x27 : Value) =>
 chk (isOne x27 = true) <|
 stC (at0 b2) x27 <|
 lastX Tryz.prog { target := .fn (Fn.func 136) #[(.pointer (some (at0 b2))), (.pointer (some (at0 b1))), (.pointer (some (at0 b3)))], args := #[] ++ #[] } <|
 ld (.any) (at0 b2) fun (x28 : Value) =>
 K x28) (
 ld (.ptr) (at0 b1) fun (x29 : Option Addr) =>
 ld (.str) (at0 b3) fun (x30 : ByteArray) =>
 callT Tryz.prog 138 #[(.pointer x29), (.string x30), (.pointer a2)] (.one (.one .any)) fun (x31 : Value) =>
 chk (isOne x31 = true) <|
 stC (at0 b2) x31 <|
 ld (.any) (at0 b2) fun (x32 : Value) =>
 rdB Tryz.prog (do eqGuard .neq 26 (Operand.tmp 44) (Operand.const Value.nilIface) x32 .nilIface; binOp .neq 26 x32 .nilIface : Sem Value) fun r33 =>
 sif r33 (
 ld (.any) (at0 b2) fun (x34 : Value) =>
 chk (isOne x34 = true) <|
 stC (at0 b2) x34 <|
 lastX Tryz.prog { target := .fn (Fn.func 136) #[(.pointer (some (at0 b2))), (.pointer (some (at0 b1))), (.pointer (some (at0 b3)))], args := #[] ++ #[] } <|
 ld (.any) (at0 b2) fun (x35 : Value) =>
 K x35) (
 drew <|
 ld (.ptr) (at0 b1) fun (x36 : Option Addr) =>
 nn x36 fun p37 =>
 ld (.ptr) p37 fun (x38 : Option Addr) =>
 ld (.str) (at0 b3) fun (x39 : ByteArray) =>
 callT Tryz.prog 139 #[(.pointer x38), (.string x39)] (.one (.one .any)) fun (x40 : Value) =>
 chk (isOne x40 = true) <|
 stC (at0 b2) x40 <|
 ld (.any) (at0 b2) fun (x41 : Value) =>
 rdB Tryz.prog (do eqGuard .neq 26 (Operand.tmp 53) (Operand.const Value.nilIface) x41 .nilIface; binOp .neq 26 x41 .nilIface : Sem Value) fun r42 =>
 sif r42 (
 ld (.any) (at0 b2) fun (x43 : Value) =>
 chk (isOne x43 = true) <|
 stC (at0 b2) x43 <|
 lastX Tryz.prog { target := .fn (Fn.func 136) #[(.pointer (some (at0 b2))), (.pointer (some (at0 b1))), (.pointer (some (at0 b3)))], args := #[] ++ #[] } <|
 ld (.any) (at0 b2) fun (x44 : Value) =>
 K x44) (
 join (S := Addr × Unit) (fun J45 =>
 drew <|
 ld (.ptr) (at0 b1) fun (x47 : Option Addr) =>
 nn x47 fun p48 =>
 ld (.ptr) p48 fun (x49 : Option Addr) =>
 ld (.str) (at0 b3) fun (x50 : ByteArray) =>
 both (
 newO (.cells #[(.int .i64 (0 : Int)), (.int .i64 (0 : Int)), (.int .i64 (0 : Int))] 57) fun b51 =>
 keep (fun w => w.cell? (at0 b3) = some (Cell.val (.str) x50)) <|
 keep (fun w => w.cell? p48 = some (Cell.val (.ptr) x49)) <|
 keep (fun w => w.cell? (at0 b1) = some (Cell.val (.ptr) x47)) <|
 callT Tryz.prog 34 #[(.pointer x49), (.string x50)] (.tup [(.agg c57), (.one .any)]) fun (x52 : ((Int × Int × Int × Unit) × Value × Unit)) =>
 aggSt (at0 b51) (.agg (Cells.vals c57 x52.1).toArray) 3 <|
 chk (isOne x52.2.1 = true) <|
 stC (at0 b2) x52.2.1 <|
 J45 ((at0 b51), ())) <|
 callT Tryz.prog 34 #[(.pointer x49), (.string x50)] (.tup [(.agg c57), (.one .any)]) fun (x53 : ((Int × Int × Int × Unit) × Value × Unit)) =>
 both (
 newO (.cells #[(.int .i64 (0 : Int)), (.int .i64 (0 : Int)), (.int .i64 (0 : Int))] 57) fun b54 =>
 keep (fun w => w.cell? (at0 b3) = some (Cell.val (.str) x50)) <|
 keep (fun w => w.cell? p48 = some (Cell.val (.ptr) x49)) <|
 keep (fun w => w.cell? (at0 b1) = some (Cell.val (.ptr) x47)) <|
 aggSt (at0 b54) (.agg (Cells.vals c57 x53.1).toArray) 3 <|
 chk (isOne x53.2.1 = true) <|
 stC (at0 b2) x53.2.1 <|
 J45 ((at0 b54), ())) <|
 nothing) fun (s46 : Addr × Unit) =>
 ld (.any) (at0 b2) fun (x55 : Value) =>
 rdB Tryz.prog (do eqGuard .neq 26 (Operand.tmp 65) (Operand.const Value.nilIface) x55 .nilIface; binOp .neq 26 x55 .nilIface : Sem Value) fun r56 =>
 sif r56 (
 ld (.any) (at0 b2) fun (x57 : Value) =>
 chk (isOne x57 = true) <|
 stC (at0 b2) x57 <|
 lastX Tryz.prog { target := .fn (Fn.func 136) #[(.pointer (some (at0 b2))), (.pointer (some (at0 b1))), (.pointer (some (at0 b3)))], args := #[] ++ #[] } <|
 ld (.any) (at0 b2) fun (x58 : Value) =>
 K x58) (
 lds c57 s46.1 fun (x59 : (Int × Int × Int × Unit)) =>
 nn a3 fun p60 =>
 aggSt p60 (.agg (Cells.vals c57 x59).toArray) 3 <|
 drew <|
 ld (.ptr) (at0 b1) fun (x61 : Option Addr) =>
 nn x61 fun p62 =>
 ld (.ptr) p62 fun (x63 : Option Addr) =>
 ld (.str) (at0 b3) fun (x64 : ByteArray) =>
 callT Tryz.prog 140 #[(.pointer x63), (.string x64), (.string a1)] (.one (.one .any)) fun (x65 : Value) =>
 chk (isOne x65 = true) <|
 stC (at0 b2) x65 <|
 lastX Tryz.prog { target := .fn (Fn.func 136) #[(.pointer (some (at0 b2))), (.pointer (some (at0 b1))), (.pointer (some (at0 b3)))], args := #[] ++ #[] } <|
 ld (.any) (at0 b2) fun (x66 : Value) =>
 K x66))))
noncomputable def h97 : Hint := (.seq none (.region [] (.ops 2 .done)) (.seq none (.region [] (.ops 4 .done)) (.seq none (.later (.ops 1 .done)) (.seq none (.region [0, 1, 2, 3, 4, 5, 6] (.ops 7 .done)) (.seq (some (137437904896, [])) (.seq none (.region [] (.ops 3 .done)) (.cond none (.seq none (.region [0, 1, 2, 3, 4, 5, 6] (.ops 7 .done)) (.seq none (.region [] (.ops 2 .done)) (.cond none (.region [0, 1, 2, 3, 4, 5, 6] (.ops 7 .done)) .leaf))) .leaf)) (.seq none (.seq none (.region [] (.ops 2 .done)) (.cond none (.seq none (.region [] (.ops 2 .done)) .leaf) .leaf)) (.seq none (.seq none (.region [] (.ops 5 .done)) (.seq none (.region [] (.ops 2 .done)) (.cond none (.seq none (.region [] (.ops 2 .done)) .leaf) .leaf))) (.seq none (.seq none (.region [0, 1, 2, 3, 4, 5, 6] (.ops 7 .done)) (.seq none (.region [] (.ops 2 .done)) (.cond none (.seq none (.region [] (.ops 2 .done)) .leaf) .leaf))) (.seq (some (36821430553381176320, [(10, (.one .addr))])) (.region [0, 1, 2, 3, 4, 5, 6, 7, 8, 10, 11] (.float [9] (.ops 5 (.alt none (.plain (.ops 6 .done)) (.ops 4 (.alt none (.plain (.ops 2 .done)) .stop)))))) (.seq none (.seq none (.region [] (.ops 2 .done)) (.cond none (.seq none (.region [] (.ops 2 .done)) .leaf) .leaf)) (.seq none (.region [] (.ops 4 .done)) (.seq none (.region [0, 1, 2, 3, 4, 5, 6, 7] (.ops 8 .done)) .leaf))))))))))))
theorem F97_tie (a0 : Option Addr) (a1 : ByteArray) (a2 : Option Addr) (a3 : Option Addr) (K : Value → World → Prop) : vcgF tab Tryz.prog Tryz.f97 h97 [(.pointer a0), (.string a1), (.pointer a2), (.pointer a3)] (.one (.one .any)) K = F97 a0 a1 a2 a3 K := by kernel_rfl
theorem F97_calls {a0 : Option Addr} {a1 : ByteArray} {a2 : Option Addr} {a3 : Option Addr} {K : Value → World → Prop} {w : World} (h : F97 a0 a1 a2 a3 K w) : callT Tryz.prog 97 #[(.pointer a0), (.string a1), (.pointer a2), (.pointer a3)] (.one (.one .any)) K w :=
  vcgF_sound tabOk Tryz.func97 h97 [(.pointer a0), (.string a1), (.pointer a2), (.pointer a3)] (.one (.one .any)) K w (Eq.mpr (congrFun (F97_tie a0 a1 a2 a3 K) w) h)
noncomputable def F103 (v0 : Addr) (v1 : Addr) (K : Int → World → Prop) : World → Prop :=
 ld (.ptr) v0 fun (x1 : Option Addr) =>
 ld (.str) v1 fun (x2 : ByteArray) =>
 callT Tryz.prog 67 #[(.pointer x1), (.string x2)] (.tup [(.agg c127), (.one (.int .i64))]) fun (x3 : ((Option Addr × ByteArray × Unit) × Int × Unit)) =>
 newO (.cells #[(.pointer none), (.string { data := #[] })] 127) fun b4 =>
 aggSt (at0 b4) (.agg (Cells.vals c127 x3.1).toArray) 2 <|
 join (S := Unit) (fun J5 =>
 sif (x3.2.1 == (0 : Int)) (
 ld (.ptr) v0 fun (x7 : Option Addr) =>
 callT Tryz.prog 104 #[(.pointer x7), (.func (Fn.func 105) #[] #[(.pointer (some v1))])] (.tup []) fun (x8 : (Unit)) =>
 J5 ()) (
 J5 ())) fun (s6 : Unit) =>
 K x3.2.1
noncomputable def h103 : Hint := (.seq none (.region [] (.ops 1 .done)) (.seq none (.region [] (.ops 9 .done)) (.seq (some (63488, [])) (.seq none (.region [] (.ops 2 .done)) (.cond none (.region [] (.ops 3 .done)) .leaf)) (.seq none (.region [] (.ops 2 .done)) .leaf))))
theorem F103_tie (v0 : Addr) (v1 : Addr) (K : Int → World → Prop) : vcgF tab Tryz.prog Tryz.f103 h103 [(.pointer (some v0)), (.pointer (some v1))] (.one (.one (.int .i64))) K = F103 v0 v1 K := by kernel_rfl
theorem F103_calls {v0 : Addr} {v1 : Addr} {K : Int → World → Prop} {w : World} (h : F103 v0 v1 K w) : callT Tryz.prog 103 #[(.pointer (some v0)), (.pointer (some v1))] (.one (.one (.int .i64))) K w :=
  vcgF_sound tabOk Tryz.func103 h103 [(.pointer (some v0)), (.pointer (some v1))] (.one (.one (.int .i64))) K w (Eq.mpr (congrFun (F103_tie v0 v1 K) w) h)
noncomputable def F104 (a0 : Option Addr) (a1 : Value) (K : Unit → World → Prop) : World → Prop :=
 nn a0 fun p1 =>
 ld (.map) (p1.add 1) fun (x2 : Option Nat) =>
 callX Tryz.prog (do let d ← Deferred.ofValue a1 #[(.map x2)]; invoke d.target d.args : Sem Next) (.tup []) fun (x3 : (Unit)) =>
 nn a0 fun p4 =>
 ld (.sl) (p4.add 3) fun (x5 : Sl) =>
 chk (oneAll [a1] = true) <|
 newO (.cells #[a1] 147) fun b6 =>
 rawT Tryz.prog (.one (.one .sl)) (Builtin.append_ #[104, 104] 104 #[(.slice x5.a x5.len x5.cap), (.slice (some (at0 b6)) 1 1)]) fun (x7 : Sl) =>
 nn a0 fun p8 =>
 stC (p8.add 3) (.slice x7.a x7.len x7.cap) <|
 K ()
noncomputable def h104 : Hint := (.seq none (.region [] (.ops 6 .done)) (.region [] (.ops 11 .done)))
theorem F104_tie (a0 : Option Addr) (a1 : Value) (K : Unit → World → Prop) : vcgF tab Tryz.prog Tryz.f104 h104 [(.pointer a0), a1] (.tup []) K = F104 a0 a1 K := by kernel_rfl
theorem F104_calls {a0 : Option Addr} {a1 : Value} {K : Unit → World → Prop} {w : World} (h : F104 a0 a1 K w) : callT Tryz.prog 104 #[(.pointer a0), a1] (.tup []) K w :=
  vcgF_sound tabOk Tryz.func104 h104 [(.pointer a0), a1] (.tup []) K w (Eq.mpr (congrFun (F104_tie a0 a1 K) w) h)
noncomputable def F105 (a0 : Option Nat) (v0 : Addr) (K : Unit → World → Prop) : World → Prop :=
 ld (.str) v0 fun (x1 : ByteArray) =>
 rawT Tryz.prog (.tup []) (Builtin.delete_ #[103, 9] 0 #[(.map a0), (.string x1)]) fun (x2 : (Unit)) =>
 K ()
noncomputable def h105 : Hint := (.region [] (.ops 3 .done))
theorem F105_tie (a0 : Option Nat) (v0 : Addr) (K : Unit → World → Prop) : vcgF tab Tryz.prog Tryz.f105 h105 [(.map a0), (.pointer (some v0))] (.tup []) K = F105 a0 v0 K := by kernel_rfl
theorem F105_calls {a0 : Option Nat} {v0 : Addr} {K : Unit → World → Prop} {w : World} (h : F105 a0 v0 K w) : callT Tryz.prog 105 #[(.map a0), (.pointer (some v0))] (.tup []) K w :=
  vcgF_sound tabOk Tryz.func105 h105 [(.map a0), (.pointer (some v0))] (.tup []) K w (Eq.mpr (congrFun (F105_tie a0 v0 K) w) h)
noncomputable def F106 (v0 : Addr) (K : Int → World → Prop) : World → Prop :=
 ld (.ptr) v0 fun (x1 : Option Addr) =>
 callT Tryz.prog 62 #[(.pointer x1)] (.tup []) fun (x2 : (Unit)) =>
 K (0 : Int)
noncomputable def h106 : Hint := (.seq none (.region [] (.ops 1 .done)) (.seq none (.region [] (.ops 2 .done)) (.seq none (.region [] (.ops 1 .done)) .leaf)))
theorem F106_tie (v0 : Addr) (K : Int → World → Prop) : vcgF tab Tryz.prog Tryz.f106 h106 [(.pointer (some v0))] (.one (.one (.int .i64))) K = F106 v0 K := by kernel_rfl
theorem F106_calls {v0 : Addr} {K : Int → World → Prop} {w : World} (h : F106 v0 K w) : callT Tryz.prog 106 #[(.pointer (some v0))] (.one (.one (.int .i64))) K w :=
  vcgF_sound tabOk Tryz.func106 h106 [(.pointer (some v0))] (.one (.one (.int .i64))) K w (Eq.mpr (congrFun (F106_tie v0 K) w) h)
noncomputable def F130 (a0 : ByteArray) (a1 : Int) (K : Int → World → Prop) : World → Prop :=
 join (S := Bool × Unit) (fun J1 =>
 sif (decide ((0 : Int) ≤ a1)) (
 J1 ((decide (a1 < (128 : Int))), ())) (
 J1 (false, ()))) fun (s2 : Bool × Unit) =>
 sif s2.1 (
 callT Tryz.prog 159 #[(.string a0), (.int .u8 (IntKind.wrap .u8 a1))] (.one (.one (.int .i64))) fun (x3 : Int) =>
 K x3) (
 sif (a1 == (65533 : Int)) (
 join (S := Unit) (fun J4 =>
 rawT Tryz.prog (.one (.one .ptr)) (Instr.range 9 (.string a0)) fun (x6 : Option Addr) =>
 sloop (S := Unit) (fun (s7 : Unit) again8 =>
 nextS Tryz.prog (Instr.next (.pointer x6) true 0) (fun p9 c10 =>
 sif true (
 sif (c10 == (65533 : Int)) (
 K p9) (
 again8 ())) (
 J4 ())) (
 sif false (
 fun _ => False) (
 J4 ()))) ()) fun (s5 : Unit) =>
 K (-1 : Int)) (
 callT Tryz.prog 160 #[(.int .i32 a1)] (.one (.one .bool)) fun (x11 : Bool) =>
 sif (!x11) (
 K (-1 : Int)) (
 rawT Tryz.prog (.one (.one .str)) (convert 21 9 (.int .i32 a1)) fun x12 =>
 join (S := Unit) (fun J13 =>
 sloop (S := Int × Unit) (fun (s15 : Int × Unit) again16 =>
 sif (decide (s15.1 < ((ByteArray.size a0 : Nat) : Int))) (
 join (S := Int × Unit) (fun J17 =>
 drew <|
 sidx a0 s15.1 fun b19 =>
 sidx x12 (IntKind.wrap .i64 (((ByteArray.size x12 : Nat) : Int) - (1 : Int))) fun b20 =>
 sif (((b19.toNat : Nat) : Int) != ((b20.toNat : Nat) : Int)) (
 drew <|
 chk (0 ≤ (IntKind.wrap .i64 (s15.1 + (1 : Int))) ∧ (IntKind.wrap .i64 (s15.1 + (1 : Int))) ≤ ((a0.size : Nat) : Int) ∧ ((a0.size : Nat) : Int) ≤ ((a0.size : Nat) : Int)) <|
 sidx x12 (IntKind.wrap .i64 (((ByteArray.size x12 : Nat) : Int) - (1 : Int))) fun b21 =>
 callT Tryz.prog 159 #[(.string (a0.extract (Int.toNat (IntKind.wrap .i64 (s15.1 + (1 : Int)))) (Int.toNat ((a0.size : Nat) : Int)))), (.int .u8 ((b21.toNat : Nat) : Int))] (.one (.one (.int .i64))) fun (x22 : Int) =>
 sif (decide (x22 < (0 : Int))) (
 K (-1 : Int)) (
 J17 ((IntKind.wrap .i64 (s15.1 + (IntKind.wrap .i64 (x22 + (1 : Int))))), ()))) (
 J17 (s15.1, ()))) fun (s18 : Int × Unit) =>
 join (S := Unit) (fun J23 =>
 sloop (S := Int × Unit) (fun (s25 : Int × Unit) again26 =>
 sif (decide (s25.1 < ((ByteArray.size x12 : Nat) : Int))) (
 drew <|
 sidx a0 (IntKind.wrap .i64 (s18.1 - s25.1)) fun b27 =>
 sidx x12 (IntKind.wrap .i64 ((IntKind.wrap .i64 (((ByteArray.size x12 : Nat) : Int) - (1 : Int))) - s25.1)) fun b28 =>
 sif (((b27.toNat : Nat) : Int) != ((b28.toNat : Nat) : Int)) (
 fun _ => False) (
 again26 ((IntKind.wrap .i64 (s25.1 + (1 : Int))), ()))) (
 J23 ())) ((1 : Int), ())) fun (s24 : Unit) =>
 K (IntKind.wrap .i64 (s18.1 - (IntKind.wrap .i64 (((ByteArray.size x12 : Nat) : Int) - (1 : Int)))))) (
 J13 ())) ((IntKind.wrap .i64 (((ByteArray.size x12 : Nat) : Int) - (1 : Int))), ())) fun (s14 : Unit) =>
 K (-1 : Int))))
noncomputable def h130 : Hint := (.seq none (.region [] (.ops 1 .done)) (.block (.seq (some (185610707941024670611867973754967943496303432957952, [(160, (.one .bool))])) (.region [] (.ops 3 (.split 163 (.ops 4 .done) (.skips 2 (.ops 2 .done))))) (.cond none (.seq none (.region [] (.ops 5 .done)) .leaf) (.seq none (.region [] (.ops 3 .done)) (.cond none (.seq (some (12236019084101081353454927044903249887955870178684698736, [])) (.seq none (.region [] (.ops 2 .done)) (.block (.loop 12164183355622992813219379528005579144973741782332342384 [] (.seq none (.region [] (.ops 2 .done)) (.seq none (.cond none .leaf .leaf) (.block (.seq none (.region [] (.ops 4 .done)) (.seq none (.region [] (.ops 2 .done)) (.cond none (.seq none (.region [] (.ops 2 .done)) .leaf) .leaf))))))))) (.seq none (.region [] (.ops 1 .done)) .leaf)) (.seq none (.region [] (.ops 4 .done)) (.cond none (.seq none (.region [] (.ops 1 .done)) .leaf) (.scope (.seq none (.region [] (.ops 3 .done)) (.seq none (.region [] (.ops 4 .done)) (.seq none (.region [] (.ops 2 .done)) (.seq none (.region [] (.ops 1 .done)) (.seq (some (633825300114114700748343221776, [])) (.block (.loop 633825300114114700748343221776 [(9, (.one (.int .i64)))] (.seq none (.seq none (.region [] (.ops 4 .done)) (.cond none .leaf .leaf)) (.block (.scope (.seq (some (281474842495504, [(9, (.one (.int .i64)))])) (.seq none (.region [0, 1, 2, 3, 4, 5, 6] (.ops 7 .done)) (.cond none (.seq none (.region [0, 1, 2, 3, 4, 5, 6, 7, 8] (.ops 9 .done)) (.seq none (.seq none (.region [] (.ops 2 .done)) (.cond none (.seq none (.region [] (.ops 1 .done)) .leaf) .leaf)) (.region [] (.ops 5 .done)))) .leaf)) (.seq (some (36893206672442396672, [])) (.seq none (.region [] (.ops 1 .done)) (.block (.loop 36893206672442396672 [(12, (.one (.int .i64)))] (.seq none (.seq none (.region [] (.ops 4 .done)) (.cond none .leaf .leaf)) (.seq none (.block (.seq none (.region [0, 1, 2, 3, 4, 5, 6, 7, 8, 9, 10] (.ops 11 .done)) (.cond none .leaf .leaf))) (.region [] (.ops 3 .done))))))) (.seq none (.seq none (.region [] (.ops 4 .done)) .leaf) .leaf)))))))) (.seq none (.seq none (.region [] (.ops 1 .done)) .leaf) .leaf)))))))))))))))
theorem F130_tie (a0 : ByteArray) (a1 : Int) (K : Int → World → Prop) : vcgF tab Tryz.prog Tryz.f130 h130 [(.string a0), (.int .i32 a1)] (.one (.one (.int .i64))) K = F130 a0 a1 K := by kernel_rfl
theorem F130_calls {a0 : ByteArray} {a1 : Int} {K : Int → World → Prop} {w : World} (h : F130 a0 a1 K w) : callT Tryz.prog 130 #[(.string a0), (.int .i32 a1)] (.one (.one (.int .i64))) K w :=
  vcgF_sound tabOk Tryz.func130 h130 [(.string a0), (.int .i32 a1)] (.one (.one (.int .i64))) K w (Eq.mpr (congrFun (F130_tie a0 a1 K) w) h)
noncomputable def F134 (a0 : Value) (a1 : Value) (a2 : (Option Addr × Value × Int × Unit)) (a3 : Value) (K : Bool → World → Prop) : World → Prop :=
 newO (.cells #[(.pointer a2.1), a2.2.1, (.int .u64 a2.2.2.1)] 223) fun b1 =>
 sloop (S := Value × Unit) (fun (s2 : Value × Unit) again3 =>
 callX Tryz.prog (callFunc 91 #[s2.1]) (.one (.one .any)) fun (x4 : Value) =>
 callX Tryz.prog (invoke (.fn (.method "AssignableTo") #[]) (#[x4] ++ #[a3])) (.one (.one .bool)) fun (x5 : Bool) =>
 sif x5 (
 lds c223 (at0 b1) fun (x6 : (Option Addr × Value × Int × Unit)) =>
 callX Tryz.prog (callFunc 163 #[(.agg (Cells.vals c223 x6).toArray)]) (.one (.agg c223)) fun (x7 : (Option Addr × Value × Int × Unit)) =>
 callX Tryz.prog (callFunc 131 #[s2.1]) (.one (.agg c223)) fun (x8 : (Option Addr × Value × Int × Unit)) =>
 callX Tryz.prog (callFunc 164 #[(.agg (Cells.vals c223 x7).toArray), (.agg (Cells.vals c223 x8).toArray)]) (.tup []) fun (x9 : (Unit)) =>
 K true) (
 rawT Tryz.prog (.tup [(.one .any), (.one .bool)]) (Instr.typeAssert s2.1 26 270 true) fun (x10 : (Value × Bool × Unit)) =>
 join (S := Bool × Unit) (fun J11 =>
 sif x10.2.1 (
 callX Tryz.prog (invoke (.fn (.method "As") #[]) (#[x10.1] ++ #[a1])) (.one (.one .bool)) fun (x13 : Bool) =>
 J11 (x13, ())) (
 J11 (false, ()))) fun (s12 : Bool × Unit) =>
 sif s12.1 (
 K true) (
 rawT Tryz.prog (.tup [(.one .any), (.one .bool)]) (Instr.typeAssert s2.1 26 216 true) fun (x14 : Value × Bool × Unit) =>
 sif x14.2.1 (
 callX Tryz.prog (invoke (.fn (.method "Unwrap") #[]) (#[x14.1] ++ #[])) (.one (.one .any)) fun (x15 : Value) =>
 rdB Tryz.prog (do eqGuard .eql 26 (Operand.tmp 42) (Operand.const Value.nilIface) x15 .nilIface; binOp .eql 26 x15 .nilIface : Sem Value) fun r16 =>
 sif r16 (
 K false) (
 again3 (x15, ()))) (
 rawT Tryz.prog (.tup [(.one .any), (.one .bool)]) (Instr.typeAssert s2.1 26 217 true) fun (x17 : Value × Bool × Unit) =>
 sif x17.2.1 (
 join (S := Unit) (fun J18 =>
 callX Tryz.prog (invoke (.fn (.method "Unwrap") #[]) (#[x17.1] ++ #[])) (.one (.one .sl)) fun (x20 : Sl) =>
 sloop (S := Int × Unit) (fun (s21 : Int × Unit) again22 =>
 sif (decide (s21.1 < ((x20.len : Nat) : Int))) (
 join (S := Unit) (fun J23 =>
 ix x20.a x20.len s21.1 fun p25 =>
 ld (.any) (p25.add (scaled (Int.toNat s21.1) 1)) fun (x26 : Value) =>
 rdB Tryz.prog (do eqGuard .eql 26 (Operand.tmp 54) (Operand.const Value.nilIface) x26 .nilIface; binOp .eql 26 x26 .nilIface : Sem Value) fun r27 =>
 sif r27 (
 J23 ()) (
 lds c223 (at0 b1) fun (x28 : (Option Addr × Value × Int × Unit)) =>
 callT Tryz.prog 134 #[x26, a1, (.agg (Cells.vals c223 x28).toArray), a3] (.one (.one .bool)) fun (x29 : Bool) =>
 sif x29 (
 K true) (
 J23 ()))) fun (s24 : Unit) =>
 again22 ((IntKind.wrap .i64 (s21.1 + (1 : Int))), ())) (
 J18 ())) ((0 : Int), ())) fun (s19 : Unit) =>
 K false) (
 K false))))) (a0, ())
noncomputable def h134 : Hint := (.seq none (.region [] (.ops 2 .done)) (.block (.loop 4611686018427379457 [(0, (.one .any))] (.block (.seq none (.seq none (.region [] (.ops 4 .done)) (.cond none (.seq none (.region [] (.ops 5 .done)) (.seq none (.region [] (.ops 1 .done)) .leaf)) .leaf)) (.seq none (.seq none (.region [] (.ops 7 .done)) (.seq (some (67645734912, [(35, (.one .bool))])) (.region [] (.ops 2 (.split 31 (.ops 4 .done) (.skips 3 (.ops 1 .done))))) (.cond none (.seq none (.region [] (.ops 1 .done)) .leaf) .leaf))) (.seq none (.region [] (.ops 1 .done)) (.block (.seq none (.region [] (.op (some (.tup [(.one .any), (.one .bool)])) (.ops 2 .done))) (.cond none (.seq none (.region [] (.ops 1 .done)) (.seq none (.region [] (.ops 3 .done)) (.seq none (.region [] (.ops 2 .done)) (.cond none (.seq none (.region [] (.ops 1 .done)) .leaf) .leaf)))) (.seq none (.region [] (.op (some (.tup [(.one .any), (.one .bool)])) (.ops 2 .done))) (.cond none (.seq none (.region [] (.ops 1 .done)) (.seq (some (4611545280939049216, [])) (.seq none (.region [] (.ops 4 .done)) (.block (.loop 4610560118520561920 [(50, (.one (.int .i64)))] (.seq none (.region [] (.ops 1 .done)) (.seq none (.cond none .leaf .leaf) (.seq (some (2301339409586340096, [])) (.block (.seq none (.region [] (.ops 3 .done)) (.seq none (.seq none (.region [] (.ops 2 .done)) (.cond none .leaf .leaf)) (.seq none (.region [] (.ops 5 .done)) (.cond none (.seq none (.region [] (.ops 1 .done)) .leaf) .leaf))))) (.region [] (.ops 2 .done)))))))) (.seq none (.region [] (.ops 1 .done)) .leaf))) (.seq none (.region [] (.ops 1 .done)) (.seq none (.region [] (.ops 1 .done)) .leaf))))))))))))))
theorem F134_tie (a0 : Value) (a1 : Value) (a2 : (Option Addr × Value × Int × Unit)) (a3 : Value) (K : Bool → World → Prop) : vcgF tab Tryz.prog Tryz.f134 h134 [a0, a1, (.agg (Cells.vals c223 a2).toArray), a3] (.one (.one .bool)) K = F134 a0 a1 a2 a3 K := by kernel_rfl
theorem F134_calls {a0 : Value} {a1 : Value} {a2 : (Option Addr × Value × Int × Unit)} {a3 : Value} {K : Bool → World → Prop} {w : World} (h : F134 a0 a1 a2 a3 K w) : callT Tryz.prog 134 #[a0, a1, (.agg (Cells.vals c223 a2).toArray), a3] (.one (.one .bool)) K w :=
  vcgF_sound tabOk Tryz.func134 h134 [a0, a1, (.agg (Cells.vals c223 a2).toArray), a3] (.one (.one .bool)) K w (Eq.mpr (congrFun (F134_tie a0 a1 a2 a3 K) w) h)
noncomputable def F136 (v0 : Addr) (v1 : Addr) (v2 : Addr) (K : Unit → World → Prop) : World → Prop :=
 ld (.any) v0 fun (x1 : Value) =>
 rdB Tryz.prog (do eqGuard .neq 26 (Operand.tmp 3) (Operand.const Value.nilIface) x1 .nilIface; binOp .neq 26 x1 .nilIface : Sem Value) fun r2 =>
 sif r2 (
 drew <|
 ld (.ptr) v1 fun (x3 : Option Addr) =>
 nn x3 fun p4 =>
 ld (.ptr) p4 fun (x5 : Option Addr) =>
 ld (.str) v2 fun (x6 : ByteArray) =>
 callT Tryz.prog 75 #[(.pointer x5), (.string x6)] (.one (.one .any)) fun (x7 : Value) =>
 K ()) (
 K ())
noncomputable def h136 : Hint := (.seq none (.region [] (.ops 2 .done)) (.cond none (.region [0, 1, 2, 3, 4, 5] (.ops 6 .done)) .leaf))
noncomputable def F137 (a0 : Option Addr) (a1 : ByteArray) (K : Value → World → Prop) : World → Prop :=
 newO (.cells #[(.pointer a0)] 24) fun b1 =>
 newO (.cells #[(.string a1)] 9) fun b2 =>
 ld (.ptr) (at0 b1) fun (x3 : Option Addr) =>
 ld (.str) (at0 b2) fun (x4 : ByteArray) =>
 callT Tryz.prog 65 #[(.pointer x3), (.string { data := #[109, 97, 107, 101] }), (.string x4), (.func (Fn.func 166) #[] #[(.pointer (some (at0 b1))), (.pointer (some (at0 b2)))]), .nilFunc] (.one (.one .any)) fun (x5 : Value) =>
 K x5
noncomputable def h137 : Hint := (.seq none (.region [] (.ops 3 .done)) (.seq none (.region [] (.ops 5 .done)) .leaf))
theorem F137_tie (a0 : Option Addr) (a1 : ByteArray) (K : Value → World → Prop) : vcgF tab Tryz.prog Tryz.f137 h137 [(.pointer a0), (.string a1)] (.one (.one .any)) K = F137 a0 a1 K := by kernel_rfl
theorem F137_calls {a0 : Option Addr} {a1 : ByteArray} {K : Value → World → Prop} {w : World} (h : F137 a0 a1 K w) : callT Tryz.prog 137 #[(.pointer a0), (.string a1)] (.one (.one .any)) K w :=
  vcgF_sound tabOk Tryz.func137 h137 [(.pointer a0), (.string a1)] (.one (.one .any)) K w (Eq.mpr (congrFun (F137_tie a0 a1 K) w) h)
noncomputable def F138 (a0 : Option Addr) (a1 : ByteArray) (a2 : Option Addr) (K : Value → World → Prop) : World → Prop :=
 newO (.cells #[(.pointer a0)] 29) fun b1 =>
 newO (.cells #[(.string a1)] 9) fun b2 =>
 newO (.cells #[.nilIface] 26) fun b3 =>
 ld (.ptr) (at0 b1) fun (x4 : Option Addr) =>
 nn x4 fun p5 =>
 ld (.sl) (p5.add 2) fun (x6 : Sl) =>
 callT Tryz.prog 57 #[(.slice x6.a x6.len x6.cap)] (.one (.one .sl)) fun (x7 : Sl) =>
 newO (.cells #[(.slice none 0 0)] 30) fun b8 =>
 stC (at0 b8) (.slice x7.a x7.len x7.cap) <|
 callT Tryz.prog 168 #[(.pointer a2), (.int .i64 (1024 : Int))] (.one (.one .any)) fun (x9 : Value) =>
 rangeE (S := Sl × Unit) Tryz.prog (Slots.vals [(20, (.one .sl))]) x9 (fun l10 rc11 R12 (s13 : Sl × Unit) =>
 begR l10 rc11 <|
 ld (.sl) (at0 b8) fun (x15 : Sl) =>
 rawT Tryz.prog (.one (.one .sl)) (Builtin.append_ #[30, 30] 30 #[(.slice x15.a x15.len x15.cap), (.slice s13.1.a s13.1.len s13.1.cap)]) fun (x16 : Sl) =>
 stC (at0 b8) (.slice x16.a x16.len x16.cap) <|
 ld (.sl) (at0 b8) fun (x17 : Sl) =>
 sif (decide (((x17.len : Nat) : Int) ≥ (1024 : Int))) (
 drew <|
 ld (.ptr) (at0 b1) fun (x18 : Option Addr) =>
 nn x18 fun p19 =>
 ld (.ptr) p19 fun (x20 : Option Addr) =>
 ld (.str) (at0 b2) fun (x21 : ByteArray) =>
 ld (.sl) (at0 b8) fun (x22 : Sl) =>
 slc x22.a 0 (1024 : Int) ((x22.cap : Nat) : Int) x22.cap 1 fun x23 =>
 callT Tryz.prog 169 #[(.pointer x20), (.string x21), (.slice x23.a x23.len x23.cap)] (.tup [(.one (.int .i64)), (.one .any)]) fun (x24 : (Int × Value × Unit)) =>
 rdB Tryz.prog (do eqGuard .neq 26 (Operand.tmp 38) (Operand.const Value.nilIface) x24.2.1 .nilIface; binOp .neq 26 x24.2.1 .nilIface : Sem Value) fun r25 =>
 sif r25 (
 chk (isOne x24.2.1 = true) <|
 stC (at0 b3) x24.2.1 <|
 endR l10 rc11 (some .ret) R12) (
 ld (.sl) (at0 b8) fun (x26 : Sl) =>
 slc x26.a (1024 : Int) ((x26.len : Nat) : Int) ((x26.cap : Nat) : Int) x26.cap 1 fun x27 =>
 callT Tryz.prog 57 #[(.slice x27.a x27.len x27.cap)] (.one (.one .sl)) fun (x28 : Sl) =>
 stC (at0 b8) (.slice x28.a x28.len x28.cap) <|
 endR l10 rc11 none R12)) (
 endR l10 rc11 none R12)) fun D14 => aft (
 ld (.sl) (at0 b8) fun (x39 : Sl) =>
 sif (((x39.len : Nat) : Int) == (0 : Int)) (
 chk (isOne .nilIface = true) <|
 stC (at0 b3) .nilIface <|
 endM D14 <|
 ld (.any) (at0 b3) fun (x40 : Value) =>
 K x40) (
 drew <|
 ld (.ptr) (at0 b1) fun (x41 : Option Addr) =>
 nn x41 fun p42 =>
 ld (.ptr) p42 fun (x43 : Option Addr) =>
 ld (.str) (at0 b2) fun (x44 : ByteArray) =>
 ld (.sl) (at0 b8) fun (x45 : Sl) =>
 callT Tryz.prog 169 #[(.pointer x43), (.string x44), (.slice x45.a x45.len x45.cap)] (.tup [(.one (.int .i64)), (.one .any)]) fun (x46 : (Int × Value × Unit)) =>
 chk (isOne x46.2.1 = true) <|
 stC (at0 b3) x46.2.1 <|
 endM D14 <|
 ld (.any) (at0 b3) fun (x47 : Value) =>
 K x47)) (fun i29 =>
 onE i29 0 (
 ld (.sl) (at0 b8) fun (x30 : Sl) =>
 sif (((x30.len : Nat) : Int) == (0 : Int)) (
 chk (isOne .nilIface = true) <|
 stC (at0 b3) .nilIface <|
 endM D14 <|
 ld (.any) (at0 b3) fun (x31 : Value) =>
 K x31) (
 drew <|
 ld (.ptr) (at0 b1) fun (x32 : Option Addr) =>
 nn x32 fun p33 =>
 ld (.ptr) p33 fun (x34 : Option Addr) =>
 ld (.str) (at0 b2) fun (x35 : ByteArray) =>
 ld (.sl) (at0 b8) fun (x36 : Sl) =>
 callT Tryz.prog 169 #[(.pointer x34), (.string x35), (.slice x36.a x36.len x36.cap)] (.tup [(.one (.int .i64)), (.one .any)]) fun (x37 : (Int × Value × Unit)) =>
 chk (isOne x37.2.1 = true) <|
 stC (at0 b3) x37.2.1 <|
 endM D14 <|
 ld (.any) (at0 b3) fun (x38 : Value) =>
 K x38)) (
 fun _ => False)) (
 endM D14 <|
 ld (.any) (at0 b3) fun (x48 : Value) =>
 K x48)
noncomputable def h138 : Hint := (.seq none (.region [] (.ops 3 .done)) (.seq none (.region [] (.ops 7 .done)) (.seq none (.seq none (.region [] (.ops 2 .done)) (.block (.range [(20, (.one .sl))] (.region [] (.ops 1 .done)) (.block (.seq none (.region [] (.ops 4 .done)) (.seq none (.region [] (.ops 3 .done)) (.cond none (.seq none (.seq none (.region [0, 1, 2, 3, 4, 5, 6, 7, 8, 9, 10, 11, 12] (.ops 13 .done)) (.seq none (.region [] (.ops 2 .done)) (.cond none (.seq none (.region [] (.ops 2 .done)) .leaf) .leaf))) (.region [] (.ops 4 .done))) .leaf))))))) (.seq none (.seq none (.region [] (.ops 3 .done)) (.cond none (.seq none (.region [] (.ops 1 .done)) .leaf) .leaf)) (.seq none (.region [0, 1, 2, 3, 4, 5, 6, 7, 8, 9, 10, 11] (.ops 12 .done)) (.seq none (.region [] (.ops 2 .done)) .leaf))))))
theorem F138_tie (a0 : Option Addr) (a1 : ByteArray) (a2 : Option Addr) (K : Value → World → Prop) : vcgF tab Tryz.prog Tryz.f138 h138 [(.pointer a0), (.string a1), (.pointer a2)] (.one (.one .any)) K = F138 a0 a1 a2 K := by kernel_rfl
theorem F138_calls {a0 : Option Addr} {a1 : ByteArray} {a2 : Option Addr} {K : Value → World → Prop} {w : World} (h : F138 a0 a1 a2 K w) : callT Tryz.prog 138 #[(.pointer a0), (.string a1), (.pointer a2)] (.one (.one .any)) K w :=
  vcgF_sound tabOk Tryz.func138 h138 [(.pointer a0), (.string a1), (.pointer a2)] (.one (.one .any)) K w (Eq.mpr (congrFun (F138_tie a0 a1 a2 K) w) h)
noncomputable def F139 (a0 : Option Addr) (a1 : ByteArray) (K : Value → World → Prop) : World → Prop :=
 newO (.cells #[(.pointer a0)] 24) fun b1 =>
 newO (.cells #[(.string a1)] 9) fun b2 =>
 ld (.ptr) (at0 b1) fun (x3 : Option Addr) =>
 ld (.str) (at0 b2) fun (x4 : ByteArray) =>
 callT Tryz.prog 65 #[(.pointer x3), (.string { data := #[115, 121, 110, 99] }), (.string x4), (.func (Fn.func 170) #[] #[(.pointer (some (at0 b1))), (.pointer (some (at0 b2)))]), .nilFunc] (.one (.one .any)) fun (x5 : Value) =>
 K x5
noncomputable def h139 : Hint := (.seq none (.region [] (.ops 3 .done)) (.seq none (.region [] (.ops 5 .done)) .leaf))
theorem F139_tie (a0 : Option Addr) (a1 : ByteArray) (K : Value → World → Prop) : vcgF tab Tryz.prog Tryz.f139 h139 [(.pointer a0), (.string a1)] (.one (.one .any)) K = F139 a0 a1 K := by kernel_rfl
theorem F139_calls {a0 : Option Addr} {a1 : ByteArray} {K : Value → World → Prop} {w : World} (h : F139 a0 a1 K w) : callT Tryz.prog 139 #[(.pointer a0), (.string a1)] (.one (.one .any)) K w :=
  vcgF_sound tabOk Tryz.func139 h139 [(.pointer a0), (.string a1)] (.one (.one .any)) K w (Eq.mpr (congrFun (F139_tie a0 a1 K) w) h)
noncomputable def F140 (a0 : Option Addr) (a1 : ByteArray) (a2 : ByteArray) (K : Value → World → Prop) : World → Prop :=
 newO (.cells #[(.pointer a0)] 24) fun b1 =>
 newO (.cells #[(.string a1)] 9) fun b2 =>
 newO (.cells #[(.string a2)] 9) fun b3 =>
 ld (.ptr) (at0 b1) fun (x4 : Option Addr) =>
 ld (.str) (at0 b2) fun (x5 : ByteArray) =>
 callT Tryz.prog 65 #[(.pointer x4), (.string { data := #[114, 101, 110, 97, 109, 101] }), (.string x5), (.func (Fn.func 171) #[] #[(.pointer (some (at0 b3))), (.pointer (some (at0 b1))), (.pointer (some (at0 b2)))]), .nilFunc] (.one (.one .any)) fun (x6 : Value) =>
 K x6
noncomputable def h140 : Hint := (.seq none (.region [] (.ops 4 .done)) (.seq none (.region [] (.ops 5 .done)) .leaf))
theorem F140_tie (a0 : Option Addr) (a1 : ByteArray) (a2 : ByteArray) (K : Value → World → Prop) : vcgF tab Tryz.prog Tryz.f140 h140 [(.pointer a0), (.string a1), (.string a2)] (.one (.one .any)) K = F140 a0 a1 a2 K := by kernel_rfl
theorem F140_calls {a0 : Option Addr} {a1 : ByteArray} {a2 : ByteArray} {K : Value → World → Prop} {w : World} (h : F140 a0 a1 a2 K w) : callT Tryz.prog 140 #[(.pointer a0), (.string a1), (.string a2)] (.one (.one .any)) K w :=
  vcgF_sound tabOk Tryz.func140 h140 [(.pointer a0), (.string a1), (.string a2)] (.one (.one .any)) K w (Eq.mpr (congrFun (F140_tie a0 a1 a2 K) w) h)
noncomputable def F166 (v0 : Addr) (v1 : Addr) (K : Int → World → Prop) : World → Prop :=
 ld (.ptr) v0 fun (x1 : Option Addr) =>
 ld (.str) v1 fun (x2 : ByteArray) =>
 callT Tryz.prog 67 #[(.pointer x1), (.string x2)] (.tup [(.agg c127), (.one (.int .i64))]) fun (x3 : ((Option Addr × ByteArray × Unit) × Int × Unit)) =>
 newO (.cells #[(.pointer none), (.string { data := #[] })] 127) fun b4 =>
 aggSt (at0 b4) (.agg (Cells.vals c127 x3.1).toArray) 2 <|
 sif (x3.2.1 == (164 : Int)) (
 K x3.2.1) (
 sif (x3.2.1 == (0 : Int)) (
 K (163 : Int)) (
 ld (.ptr) v0 fun (x5 : Option Addr) =>
 nn x5 fun p6 =>
 ld (.map) (p6.add 1) fun (x7 : Option Nat) =>
 rdN Tryz.prog (Builtin.len_ #[103] 3 #[(.map x7)]) fun x8 =>
 sif (decide (x8 ≥ (16 : Int))) (
 K (161 : Int)) (
 ld (.ptr) v0 fun (x9 : Option Addr) =>
 callT Tryz.prog 61 #[(.pointer x9)] (.one (.one .ptr)) fun (x10 : Option Addr) =>
 newO (.cells #[(.pointer none)] 121) fun b11 =>
 stC (at0 b11) (.pointer x10) <|
 ld (.ptr) v0 fun (x12 : Option Addr) =>
 callT Tryz.prog 104 #[(.pointer x12), (.func (Fn.func 167) #[] #[(.pointer (some (at0 b11))), (.pointer (some v1))])] (.tup []) fun (x13 : (Unit)) =>
 K (0 : Int))))
noncomputable def h166 : Hint := (.seq none (.region [] (.ops 1 .done)) (.seq none (.seq none (.region [] (.ops 9 .done)) (.block (.seq none (.region [] (.ops 3 .done)) (.cond none (.seq none (.region [] (.ops 2 .done)) .leaf) (.seq none (.region [] (.ops 3 .done)) (.cond none (.seq none (.region [] (.ops 1 .done)) .leaf) (.seq none (.region [] (.ops 7 .done)) (.cond none (.seq none (.region [] (.ops 1 .done)) .leaf) .leaf)))))))) (.seq none (.region [] (.ops 4 .done)) (.seq none (.region [] (.ops 3 .done)) (.seq none (.region [] (.ops 1 .done)) .leaf)))))
theorem F166_tie (v0 : Addr) (v1 : Addr) (K : Int → World → Prop) : vcgF tab Tryz.prog Tryz.f166 h166 [(.pointer (some v0)), (.pointer (some v1))] (.one (.one (.int .i64))) K = F166 v0 v1 K := by kernel_rfl
theorem F166_calls {v0 : Addr} {v1 : Addr} {K : Int → World → Prop} {w : World} (h : F166 v0 v1 K w) : callT Tryz.prog 166 #[(.pointer (some v0)), (.pointer (some v1))] (.one (.one (.int .i64))) K w :=
  vcgF_sound tabOk Tryz.func166 h166 [(.pointer (some v0)), (.pointer (some v1))] (.one (.one (.int .i64))) K w (Eq.mpr (congrFun (F166_tie v0 v1 K) w) h)
noncomputable def F167 (a0 : Option Nat) (v0 : Addr) (v1 : Addr) (K : Unit → World → Prop) : World → Prop :=
 ld (.str) v1 fun (x1 : ByteArray) =>
 ld (.ptr) v0 fun (x2 : Option Addr) =>
 rawU Tryz.prog (Instr.mapUpdate 103 (.map a0) (.string x1) (.pointer x2)) <|
 K ()
noncomputable def h167 : Hint := (.region [] (.ops 4 .done))
theorem F167_tie (a0 : Option Nat) (v0 : Addr) (v1 : Addr) (K : Unit → World → Prop) : vcgF tab Tryz.prog Tryz.f167 h167 [(.map a0), (.pointer (some v0)), (.pointer (some v1))] (.tup []) K = F167 a0 v0 v1 K := by kernel_rfl
theorem F167_calls {a0 : Option Nat} {v0 : Addr} {v1 : Addr} {K : Unit → World → Prop} {w : World} (h : F167 a0 v0 v1 K w) : callT Tryz.prog 167 #[(.map a0), (.pointer (some v0)), (.pointer (some v1))] (.tup []) K w :=
  vcgF_sound tabOk Tryz.func167 h167 [(.map a0), (.pointer (some v0)), (.pointer (some v1))] (.tup []) K w (Eq.mpr (congrFun (F167_tie a0 v0 v1 K) w) h)
noncomputable def F169 (a0 : Option Addr) (a1 : ByteArray) (a2 : Sl) (K : (Int × Value × Unit) → World → Prop) : World → Prop :=
 newO (.cells #[(.pointer a0)] 24) fun b1 =>
 newO (.cells #[(.string a1)] 9) fun b2 =>
 newO (.cells #[(.slice a2.a a2.len a2.cap)] 30) fun b3 =>
 newO (.cells #[(.int .i64 (0 : Int))] 3) fun b4 =>
 stC (at0 b4) (.int .i64 (0 : Int)) <|
 newO (.cells #[.nilFunc] 305) fun b5 =>
 chk (isOne (.func (Fn.func 201) #[] #[(.pointer (some (at0 b1))), (.pointer (some (at0 b2))), (.pointer (some (at0 b4)))]) = true) <|
 stC (at0 b5) (.func (Fn.func 201) #[] #[(.pointer (some (at0 b1))), (.pointer (some (at0 b2))), (.pointer (some (at0 b4)))]) <|
 ld (.ptr) (at0 b1) fun (x6 : Option Addr) =>
 ld (.str) (at0 b2) fun (x7 : ByteArray) =>
 callT Tryz.prog 65 #[(.pointer x6), (.string { data := #[97, 112, 112, 101, 110, 100] }), (.string x7), (.func (Fn.func 203) #[] #[(.pointer (some (at0 b5))), (.pointer (some (at0 b3)))]), (.func (Fn.func 204) #[] #[(.pointer (some (at0 b5))), (.pointer (some (at0 b3)))])] (.one (.one .any)) fun (x8 : Value) =>
 join (S := Unit) (fun J9 =>
 ld (.ptr) (at0 b1) fun (x11 : Option Addr) =>
 nn x11 fun p12 =>
 ld (.bool) (p12.add 5) fun (x13 : Bool) =>
 sif x13 (
 stC (at0 b4) (.int .i64 (0 : Int)) <|
 J9 ()) (
 J9 ())) fun (s10 : Unit) =>
 ld (.int .i64) (at0 b4) fun (x14 : Int) =>
 K (x14, x8, ())
noncomputable def h169 : Hint := (.seq none (.region [] (.ops 5 .done)) (.seq none (.region [] (.ops 2 .done)) (.seq none (.region [] (.ops 3 .done)) (.seq none (.region [] (.ops 6 .done)) (.seq (some (1966080, [])) (.seq none (.region [] (.ops 4 .done)) (.cond none (.region [] (.ops 1 .done)) .leaf)) (.seq none (.region [] (.ops 4 .done)) .leaf))))))
theorem F169_tie (a0 : Option Addr) (a1 : ByteArray) (a2 : Sl) (K : (Int × Value × Unit) → World → Prop) : vcgF tab Tryz.prog Tryz.f169 h169 [(.pointer a0), (.string a1), (.slice a2.a a2.len a2.cap)] (.tup [(.one (.int .i64)), (.one .any)]) K = F169 a0 a1 a2 K := by kernel_rfl
theorem F169_calls {a0 : Option Addr} {a1 : ByteArray} {a2 : Sl} {K : (Int × Value × Unit) → World → Prop} {w : World} (h : F169 a0 a1 a2 K w) : callT Tryz.prog 169 #[(.pointer a0), (.string a1), (.slice a2.a a2.len a2.cap)] (.tup [(.one (.int .i64)), (.one .any)]) K w :=
  vcgF_sound tabOk Tryz.func169 h169 [(.pointer a0), (.string a1), (.slice a2.a a2.len a2.cap)] (.tup [(.one (.int .i64)), (.one .any)]) K w (Eq.mpr (congrFun (F169_tie a0 a1 a2 K) w) h)
noncomputable def F170 (v0 : Addr) (v1 : Addr) (K : Int → World → Prop) : World → Prop :=
 ld (.ptr) v0 fun (x1 : Option Addr) =>
 ld (.str) v1 fun (x2 : ByteArray) =>
 callT Tryz.prog 67 #[(.pointer x1), (.string x2)] (.tup [(.agg c127), (.one (.int .i64))]) fun (x3 : ((Option Addr × ByteArray × Unit) × Int × Unit)) =>
 newO (.cells #[(.pointer none), (.string { data := #[] })] 127) fun b4 =>
 aggSt (at0 b4) (.agg (Cells.vals c127 x3.1).toArray) 2 <|
 join (S := Unit) (fun J5 =>
 sif (x3.2.1 == (0 : Int)) (
 ld (.ptr) (at0 b4) fun (x7 : Option Addr) =>
 callT Tryz.prog 64 #[(.pointer x7)] (.tup []) fun (x8 : (Unit)) =>
 J5 ()) (
 J5 ())) fun (s6 : Unit) =>
 K x3.2.1
noncomputable def h170 : Hint := (.seq none (.region [] (.ops 1 .done)) (.seq none (.region [] (.ops 9 .done)) (.seq (some (63488, [])) (.seq none (.region [] (.ops 2 .done)) (.cond none (.region [] (.ops 3 .done)) .leaf)) (.seq none (.region [] (.ops 2 .done)) .leaf))))
theorem F170_tie (v0 : Addr) (v1 : Addr) (K : Int → World → Prop) : vcgF tab Tryz.prog Tryz.f170 h170 [(.pointer (some v0)), (.pointer (some v1))] (.one (.one (.int .i64))) K = F170 v0 v1 K := by kernel_rfl
theorem F170_calls {v0 : Addr} {v1 : Addr} {K : Int → World → Prop} {w : World} (h : F170 v0 v1 K w) : callT Tryz.prog 170 #[(.pointer (some v0)), (.pointer (some v1))] (.one (.one (.int .i64))) K w :=
  vcgF_sound tabOk Tryz.func170 h170 [(.pointer (some v0)), (.pointer (some v1))] (.one (.one (.int .i64))) K w (Eq.mpr (congrFun (F170_tie v0 v1 K) w) h)
noncomputable def F171 (v0 : Addr) (v1 : Addr) (v2 : Addr) (K : Int → World → Prop) : World → Prop :=
 ld (.str) v0 fun (x1 : ByteArray) =>
 callT Tryz.prog 60 #[(.string x1)] (.one (.one .bool)) fun (x2 : Bool) =>
 sif (!x2) (
 K (164 : Int)) (
 ld (.ptr) v1 fun (x3 : Option Addr) =>
 ld (.str) v2 fun (x4 : ByteArray) =>
 callT Tryz.prog 67 #[(.pointer x3), (.string x4)] (.tup [(.agg c127), (.one (.int .i64))]) fun (x5 : ((Option Addr × ByteArray × Unit) × Int × Unit)) =>
 newO (.cells #[(.pointer none), (.string { data := #[] })] 127) fun b6 =>
 aggSt (at0 b6) (.agg (Cells.vals c127 x5.1).toArray) 2 <|
 join (S := Unit) (fun J7 =>
 join (S := Bool × Unit) (fun J9 =>
 sif (x5.2.1 == (0 : Int)) (
 ld (.str) v2 fun (x11 : ByteArray) =>
 ld (.str) v0 fun (x12 : ByteArray) =>
 J9 ((!(ByteArray.toList x11 == ByteArray.toList x12)), ())) (
 J9 (false, ()))) fun (s10 : Bool × Unit) =>
 sif s10.1 (
 ld (.ptr) v1 fun (x13 : Option Addr) =>
 callT Tryz.prog 104 #[(.pointer x13), (.func (Fn.func 172) #[] #[(.pointer (some (at0 b6))), (.pointer (some v0))])] (.tup []) fun (x14 : (Unit)) =>
 J7 ()) (
 J7 ())) fun (s8 : Unit) =>
 K x5.2.1)
noncomputable def h171 : Hint := (.seq none (.region [] (.ops 1 .done)) (.seq none (.seq none (.region [] (.ops 3 .done)) (.cond none (.seq none (.region [] (.ops 1 .done)) .leaf) .leaf)) (.seq none (.region [] (.ops 9 .done)) (.seq (some (33521664, [])) (.seq (some (4161536, [(21, (.one .bool))])) (.region [] (.ops 3 (.split 17 (.ops 4 .done) (.skips 3 (.ops 1 .done))))) (.cond none (.region [] (.ops 3 .done)) .leaf)) (.seq none (.region [] (.ops 2 .done)) .leaf)))))
theorem F171_tie (v0 : Addr) (v1 : Addr) (v2 : Addr) (K : Int → World → Prop) : vcgF tab Tryz.prog Tryz.f171 h171 [(.pointer (some v0)), (.pointer (some v1)), (.pointer (some v2))] (.one (.one (.int .i64))) K = F171 v0 v1 v2 K := by kernel_rfl
theorem F171_calls {v0 : Addr} {v1 : Addr} {v2 : Addr} {K : Int → World → Prop} {w : World} (h : F171 v0 v1 v2 K w) : callT Tryz.prog 171 #[(.pointer (some v0)), (.pointer (some v1)), (.pointer (some v2))] (.one (.one (.int .i64))) K w :=
  vcgF_sound tabOk Tryz.func171 h171 [(.pointer (some v0)), (.pointer (some v1)), (.pointer (some v2))] (.one (.one (.int .i64))) K w (Eq.mpr (congrFun (F171_tie v0 v1 v2 K) w) h)
noncomputable def F172 (a0 : Option Nat) (v0 : Addr) (v1 : Addr) (K : Unit → World → Prop) : World → Prop :=
 ld (.str) (v0.add 1) fun (x1 : ByteArray) =>
 rawT Tryz.prog (.tup []) (Builtin.delete_ #[103, 9] 0 #[(.map a0), (.string x1)]) fun (x2 : (Unit)) =>
 ld (.str) v1 fun (x3 : ByteArray) =>
 ld (.ptr) v0 fun (x4 : Option Addr) =>
 rawU Tryz.prog (Instr.mapUpdate 103 (.map a0) (.string x3) (.pointer x4)) <|
 K ()
noncomputable def h172 : Hint := (.seq none (.region [] (.ops 4 .done)) (.region [] (.ops 5 .done)))
theorem F172_tie (a0 : Option Nat) (v0 : Addr) (v1 : Addr) (K : Unit → World → Prop) : vcgF tab Tryz.prog Tryz.f172 h172 [(.map a0), (.pointer (some v0)), (.pointer (some v1))] (.tup []) K = F172 a0 v0 v1 K := by kernel_rfl
theorem F172_calls {a0 : Option Nat} {v0 : Addr} {v1 : Addr} {K : Unit → World → Prop} {w : World} (h : F172 a0 v0 v1 K w) : callT Tryz.prog 172 #[(.map a0), (.pointer (some v0)), (.pointer (some v1))] (.tup []) K w :=
  vcgF_sound tabOk Tryz.func172 h172 [(.map a0), (.pointer (some v0)), (.pointer (some v1))] (.tup []) K w (Eq.mpr (congrFun (F172_tie a0 v0 v1 K) w) h)
noncomputable def F201 (a0 : Sl) (v0 : Addr) (v1 : Addr) (v2 : Addr) (K : Int → World → Prop) : World → Prop :=
 ld (.ptr) v0 fun (x1 : Option Addr) =>
 ld (.str) v1 fun (x2 : ByteArray) =>
 callT Tryz.prog 67 #[(.pointer x1), (.string x2)] (.tup [(.agg c127), (.one (.int .i64))]) fun (x3 : ((Option Addr × ByteArray × Unit) × Int × Unit)) =>
 newO (.cells #[(.pointer none), (.string { data := #[] })] 127) fun b4 =>
 aggSt (at0 b4) (.agg (Cells.vals c127 x3.1).toArray) 2 <|
 sif (x3.2.1 != (0 : Int)) (
 K x3.2.1) (
 ld (.ptr) v0 fun (x5 : Option Addr) =>
 callT Tryz.prog 202 #[(.pointer x5)] (.one (.one (.int .i64))) fun (x6 : Int) =>
 stC v2 (.int .i64 (if x6 < ((a0.len : Nat) : Int) then x6 else ((a0.len : Nat) : Int))) <|
 drew <|
 ld (.ptr) (at0 b4) fun (x7 : Option Addr) =>
 ld (.ptr) (at0 b4) fun (x8 : Option Addr) =>
 nn x8 fun p9 =>
 ld (.sl) (p9.add 1) fun (x10 : Sl) =>
 ld (.int .i64) v2 fun (x11 : Int) =>
 slc a0.a 0 x11 ((a0.cap : Nat) : Int) a0.cap 1 fun x12 =>
 rawT Tryz.prog (.one (.one .sl)) (Builtin.append_ #[30, 30] 30 #[(.slice x10.a x10.len x10.cap), (.slice x12.a x12.len x12.cap)]) fun (x13 : Sl) =>
 keep (fun w => w.cell? (at0 b4) = some (Cell.val (.ptr) x7)) <|
 nn x7 fun p14 =>
 stC (p14.add 1) (.slice x13.a x13.len x13.cap) <|
 join (S := Unit) (fun J15 =>
 ld (.int .i64) v2 fun (x17 : Int) =>
 sif (decide (x17 > (0 : Int))) (
 ld (.ptr) (at0 b4) fun (x18 : Option Addr) =>
 nn x18 fun p19 =>
 ld (.int .i64) (p19.add 3) fun (x20 : Int) =>
 nn x18 fun p21 =>
 stC (p21.add 3) (.int .i64 (IntKind.wrap .i64 (x20 + (1 : Int)))) <|
 J15 ()) (
 J15 ())) fun (s16 : Unit) =>
 ld (.int .i64) v2 fun (x22 : Int) =>
 sif (decide (x22 < ((a0.len : Nat) : Int))) (
 K (161 : Int)) (
 K (0 : Int)))
noncomputable def h201 : Hint := (.seq none (.region [] (.ops 1 .done)) (.seq none (.region [] (.ops 9 .done)) (.seq none (.seq none (.region [] (.ops 2 .done)) (.cond none (.seq none (.region [] (.ops 2 .done)) .leaf) .leaf)) (.seq none (.region [] (.ops 6 .done)) (.seq none (.region [0, 1, 2, 3, 4, 5, 6, 7, 8, 9, 10, 11, 12, 13] (.ops 14 .done)) (.seq (some (35150012350464, [])) (.seq none (.region [] (.ops 2 .done)) (.cond none (.region [] (.ops 9 .done)) .leaf)) (.seq none (.seq none (.region [] (.ops 4 .done)) (.cond none (.seq none (.region [] (.ops 1 .done)) .leaf) .leaf)) (.seq none (.region [] (.ops 1 .done)) .leaf))))))))
theorem F201_tie (a0 : Sl) (v0 : Addr) (v1 : Addr) (v2 : Addr) (K : Int → World → Prop) : vcgF tab Tryz.prog Tryz.f201 h201 [(.slice a0.a a0.len a0.cap), (.pointer (some v0)), (.pointer (some v1)), (.pointer (some v2))] (.one (.one (.int .i64))) K = F201 a0 v0 v1 v2 K := by kernel_rfl
theorem F201_calls {a0 : Sl} {v0 : Addr} {v1 : Addr} {v2 : Addr} {K : Int → World → Prop} {w : World} (h : F201 a0 v0 v1 v2 K w) : callT Tryz.prog 201 #[(.slice a0.a a0.len a0.cap), (.pointer (some v0)), (.pointer (some v1)), (.pointer (some v2))] (.one (.one (.int .i64))) K w :=
  vcgF_sound tabOk Tryz.func201 h201 [(.slice a0.a a0.len a0.cap), (.pointer (some v0)), (.pointer (some v1)), (.pointer (some v2))] (.one (.one (.int .i64))) K w (Eq.mpr (congrFun (F201_tie a0 v0 v1 v2 K) w) h)
noncomputable def F202 (a0 : Option Addr) (K : Int → World → Prop) : World → Prop :=
 nn a0 fun p1 =>
 ld (.int .i64) p1 fun (x2 : Int) =>
 join (S := Int × Unit) (fun J3 =>
 nn a0 fun p5 =>
 ld (.map) (p5.add 1) fun (x6 : Option Nat) =>
 rawT Tryz.prog (.one (.one .ptr)) (Instr.range 103 (.map x6)) fun (x7 : Option Addr) =>
 sloop (S := Int × Unit) (fun (s8 : Int × Unit) again9 =>
 nextE Tryz.prog (Instr.next (.pointer x7) false 0) fun r10 rest11 =>
 sif r10 (
 rawT Tryz.prog (.tup [(.one .str), (.one .ptr)]) (Instr.entry (.pointer x7)) fun (x12 : ByteArray × Option Addr × Unit) =>
 nn x12.2.1 fun p13 =>
 ld (.sl) (p13.add 1) fun (x14 : Sl) =>
 again9 ((IntKind.wrap .i64 (s8.1 - ((x14.len : Nat) : Int))), ())) (
 J3 (s8.1, ()))) (x2, ())) fun (s4 : Int × Unit) =>
 K (if (0 : Int) > s4.1 then (0 : Int) else s4.1)
noncomputable def h202 : Hint := (.seq none (.region [] (.ops 1 .done)) (.seq none (.region [] (.ops 5 .done)) (.seq (some (67107880, [(3, (.one (.int .i64)))])) (.seq none (.region [] (.ops 5 .done)) (.block (.loop 67076136 [(3, (.one (.int .i64)))] (.seq none (.region [] (.ops 2 .done)) (.seq none (.cond none .leaf .leaf) (.block (.seq none (.region [] (.op (some (.tup [(.one .str), (.one .ptr)])) (.ops 2 .done))) (.region [] (.ops 8 .done))))))))) (.seq none (.region [] (.ops 3 .done)) .leaf))))
theorem F202_tie (a0 : Option Addr) (K : Int → World → Prop) : vcgF tab Tryz.prog Tryz.f202 h202 [(.pointer a0)] (.one (.one (.int .i64))) K = F202 a0 K := by kernel_rfl
theorem F202_calls {a0 : Option Addr} {K : Int → World → Prop} {w : World} (h : F202 a0 K w) : callT Tryz.prog 202 #[(.pointer a0)] (.one (.one (.int .i64))) K w :=
  vcgF_sound tabOk Tryz.func202 h202 [(.pointer a0)] (.one (.one (.int .i64))) K w (Eq.mpr (congrFun (F202_tie a0 K) w) h)
noncomputable def F203 (v0 : Addr) (v1 : Addr) (K : Int → World → Prop) : World → Prop :=
 ld (.any) v0 fun (x1 : Value) =>
 ld (.sl) v1 fun (x2 : Sl) =>
 callX Tryz.prog (do let d ← Deferred.ofValue x1 #[(.slice x2.a x2.len x2.cap)]; invoke d.target d.args : Sem Next) (.one (.one (.int .i64))) fun (x3 : Int) =>
 K x3
noncomputable def h203 : Hint := (.seq none (.region [] (.ops 1 .done)) (.seq none (.region [] (.ops 4 .done)) .leaf))
theorem F203_tie (v0 : Addr) (v1 : Addr) (K : Int → World → Prop) : vcgF tab Tryz.prog Tryz.f203 h203 [(.pointer (some v0)), (.pointer (some v1))] (.one (.one (.int .i64))) K = F203 v0 v1 K := by kernel_rfl
theorem F203_calls {v0 : Addr} {v1 : Addr} {K : Int → World → Prop} {w : World} (h : F203 v0 v1 K w) : callT Tryz.prog 203 #[(.pointer (some v0)), (.pointer (some v1))] (.one (.one (.int .i64))) K w :=
  vcgF_sound tabOk Tryz.func203 h203 [(.pointer (some v0)), (.pointer (some v1))] (.one (.one (.int .i64))) K w (Eq.mpr (congrFun (F203_tie v0 v1 K) w) h)
noncomputable def F204 (a0 : Int) (v0 : Addr) (v1 : Addr) (K : Int → World → Prop) : World → Prop :=
 drew <|
 ld (.any) v0 fun (x1 : Value) =>
 ld (.sl) v1 fun (x2 : Sl) =>
 ld (.sl) v1 fun (x3 : Sl) =>
 slc x2.a 0 (if ((x3.len : Nat) : Int) < (if (0 : Int) > a0 then (0 : Int) else a0) then ((x3.len : Nat) : Int) else (if (0 : Int) > a0 then (0 : Int) else a0)) ((x2.cap : Nat) : Int) x2.cap 1 fun x4 =>
 callX Tryz.prog (do let d ← Deferred.ofValue x1 #[(.slice x4.a x4.len x4.cap)]; invoke d.target d.args : Sem Next) (.one (.one (.int .i64))) fun (x5 : Int) =>
 join (S := Bool × Unit) (fun J6 =>
 sif (x5 != (0 : Int)) (
 J6 ((x5 != (161 : Int)), ())) (
 J6 (false, ()))) fun (s7 : Bool × Unit) =>
 sif s7.1 (
 K x5) (
 K (160 : Int))
noncomputable def h204 : Hint := (.seq none (.region [] (.ops 1 .done)) (.seq none (.seq none (.region [0, 1, 2, 3, 4, 5, 6, 7, 8, 9] (.ops 10 .done)) (.seq (some (2064384, [(20, (.one .bool))])) (.region [] (.ops 3 (.split 17 (.ops 3 .done) (.skips 2 (.ops 1 .done))))) (.cond none (.seq none (.region [] (.ops 2 .done)) .leaf) .leaf))) (.seq none (.region [] (.ops 1 .done)) .leaf)))
theorem F204_tie (a0 : Int) (v0 : Addr) (v1 : Addr) (K : Int → World → Prop) : vcgF tab Tryz.prog Tryz.f204 h204 [(.int .i64 a0), (.pointer (some v0)), (.pointer (some v1))] (.one (.one (.int .i64))) K = F204 a0 v0 v1 K := by kernel_rfl
theorem F204_calls {a0 : Int} {v0 : Addr} {v1 : Addr} {K : Int → World → Prop} {w : World} (h : F204 a0 v0 v1 K w) : callT Tryz.prog 204 #[(.int .i64 a0), (.pointer (some v0)), (.pointer (some v1))] (.one (.one (.int .i64))) K w :=
  vcgF_sound tabOk Tryz.func204 h204 [(.int .i64 a0), (.pointer (some v0)), (.pointer (some v1))] (.one (.one (.int .i64))) K w (Eq.mpr (congrFun (F204_tie a0 v0 v1 K) w) h)
noncomputable def F254 (a0 : Option Addr) (K : Value → World → Prop) : World → Prop :=
 nn a0 fun p1 =>
 ld (.any) (p1.add 3) fun (x2 : Value) =>
 K x2
noncomputable def h254 : Hint := (.seq none (.region [] (.ops 1 .done)) (.seq none (.region [] (.ops 5 .done)) .leaf))
theorem F254_tie (a0 : Option Addr) (K : Value → World → Prop) : vcgF tab Tryz.prog Tryz.f254 h254 [(.pointer a0)] (.one (.one .any)) K = F254 a0 K := by kernel_rfl
theorem F254_calls {a0 : Option Addr} {K : Value → World → Prop} {w : World} (h : F254 a0 K w) : callT Tryz.prog 254 #[(.pointer a0)] (.one (.one .any)) K w :=
  vcgF_sound tabOk Tryz.func254 h254 [(.pointer a0)] (.one (.one .any)) K w (Eq.mpr (congrFun (F254_tie a0 K) w) h)
end Go.Proofs.YtmooldhpiopcgaaGreatDoor
set_option linter.unusedSimpArgs false
set_option linter.unusedVariables false
namespace Go.Proofs.YtmooldhpiopcgaaGreatDoor.Dsk
abbrev Nm := ByteArray
structure Fl where
  data : List UInt8
  synced : Nat
  count : Int
inductive Deed where
  | mk (n : Nm) (i : Nat)
  | rm (n : Nm)
  | mv (a b : Nm) (i : Nat)
abbrev Dir := Nm → Option Nat
def dset (f : Dir) (k : Nm) (v : Option Nat) : Dir := fun x => if x = k then v else f x
def Deed.on : Deed → Dir → Dir
  | .mk n i, f => dset f n (some i)
  | .rm n, f => dset f n none
  | .mv a b i, f => dset (dset f a none) b (some i)
def onAll : List Deed → Dir → Dir
  | [], f => f
  | a :: r, f => onAll r (a.on f)
structure Fault where
  kind : Int
  part : Int
  names : Int
  bytes : List Int
structure Dk where
  space : Int
  files : List Fl
  lasts : Dir
  acts : List Deed
  down : Bool
  plan : Int → Option Fault
  steps : Int
def Dk.seen (D : Dk) : Dir := onAll D.acts D.lasts
def Lists (f : Dir) (l : List Nm) : Prop := l.Nodup ∧ ∀ n, n ∈ l ↔ (f n).isSome = true
def sortN (l : List Nm) : List Nm := ((l.map fun n => n.data.toList).mergeSort fun x y => decide (x ≤ y)).map fun l => ⟨l.toArray⟩
open Classical in
noncomputable def names (f : Dir) : List Nm := if h : ∃ l, Lists f l then sortN h.choose else []
def okByte (b : UInt8) : Bool := decide ((97 ≤ b.toNat ∧ b.toNat ≤ 122) ∨ (65 ≤ b.toNat ∧ b.toNat ≤ 90) ∨ (48 ≤ b.toNat ∧ b.toNat ≤ 57) ∨ b.toNat = 46 ∨ b.toNat = 95 ∨ b.toNat = 45 ∨ b.toNat = 126)
def okName (n : Nm) : Bool := n.size != 0 && decide (n.size ≤ 32) && n.data.toList.all okByte
def fl (D : Dk) (i : Nat) : Fl := D.files.getD i ⟨[], 0, 0⟩
def sumZ : List Int → Int
  | [] => 0
  | x :: r => x + sumZ r
def weigh (D : Dk) (o : Option Nat) (n : Nm) : Int := match D.seen n with | some i => if some i = o then 0 else (fl D i).data.length | none => 0
noncomputable def usedBut (D : Dk) (o : Option Nat) : Int := sumZ ((names D.seen).map (weigh D o))
noncomputable def room (D : Dk) : Int := max (D.space - usedBut D none) 0
def find (D : Dk) (n : Nm) : Option Nat × Int :=
  if okName n = false then (none, 164) else match D.seen n with | none => (none, 162) | some i => (some i, 0)
def put1 (l : List Fl) (i : Nat) (f : Fl → Fl) : List Fl := l.modify i f
def settle (D : Dk) : Dk := { D with lasts := D.seen, acts := [] }
noncomputable def putR (D : Dk) (n : Nm) (b : List UInt8) : Dk × Int :=
  if D.down = true then (D, 165) else if okName n = false then (D, 164) else
  if (D.seen n = none ∧ 16 ≤ (names D.seen).length) ∨ (b.length : Int) > D.space - usedBut D (D.seen n) then (D, 161) else
  match D.seen n with
  | some i => ({ settle D with files := put1 D.files i fun f => ⟨b, b.length, f.count + 1⟩ }, 0)
  | none => ({ D with lasts := dset D.seen n (some D.files.length), acts := [], files := D.files ++ [⟨b, b.length, 1⟩] }, 0)
noncomputable def mkR (n : Nm) (D : Dk) : Dk × Int :=
  let r := find D n
  if r.2 = 164 then (D, 164) else if r.2 = 0 then (D, 163) else if 16 ≤ (names D.seen).length then (D, 161) else
  ({ D with files := D.files ++ [⟨[], 0, 0⟩], acts := D.acts ++ [.mk n D.files.length] }, 0)
noncomputable def apR (n : Nm) (b : List UInt8) (D : Dk) : Dk × Int × Int :=
  match find D n with
  | (none, e) => (D, e, 0)
  | (some i, _) =>
    let k : Int := if room D < (b.length : Int) then room D else b.length
    ({ D with files := put1 D.files i fun f => ⟨f.data ++ b.take k.toNat, f.synced, if k > 0 then f.count + 1 else f.count⟩ }, if k < b.length then 161 else 0, k)
noncomputable def apPart (n : Nm) (b : List UInt8) (k : Int) (D : Dk) : Dk × Int × Int :=
  let r := apR n (b.take (min (max k 0) b.length).toNat) D
  (r.1, if r.2.1 ≠ 0 ∧ r.2.1 ≠ 161 then r.2.1 else 160, r.2.2)
def syR (n : Nm) (D : Dk) : Dk × Int :=
  match find D n with
  | (none, e) => (D, e)
  | (some i, _) => ({ D with files := put1 D.files i fun f => ⟨f.data, f.data.length, f.count⟩ }, 0)
def mvR (a b : Nm) (D : Dk) : Dk × Int :=
  if okName b = false then (D, 164) else
  match find D a with
  | (none, e) => (D, e)
  | (some i, _) => if a = b then (D, 0) else ({ D with acts := D.acts ++ [.mv a b i] }, 0)
def rmR (n : Nm) (D : Dk) : Dk × Int :=
  match find D n with
  | (none, e) => (D, e)
  | (some _, _) => ({ D with acts := D.acts ++ [.rm n] }, 0)
def Fl.cut (f : Fl) (more : Int) : Fl :=
  let n := f.synced + (min (max more 0).toNat (f.data.length - f.synced))
  ⟨f.data.take n, n, f.count⟩
def cutAll (f : Dir) (bytes : List Int) : List Nm → Nat → List Fl → List Fl
  | [], _, l => l
  | n :: r, i, l => cutAll f bytes r (i + 1) (put1 l ((f n).getD 0) fun x => x.cut (bytes.getD i 0))
noncomputable def crash (D : Dk) (nm : Int) (bytes : List Int) : Dk :=
  if D.down = true then D else
  let l := onAll (D.acts.take (min (max nm 0).toNat D.acts.length)) D.lasts
  { D with lasts := l, acts := [], files := cutAll l bytes (names l) 0 D.files, down := true }
noncomputable def faulty {α : Type} (D1 : Dk) (a : α) (act : Dk → Dk × Int × α) (part : Option (Int → Dk → Dk × Int × α)) (f : Fault) : Dk × Int × α :=
  if f.kind = 1 then (D1, 160, a) else
  if f.kind = 2 then (part.map fun p => p f.part D1).getD (D1, 160, a) else
  if f.kind = 4 then (crash D1 f.names f.bytes, 165, a) else
  if f.kind = 5 then (crash (act D1).1 f.names f.bytes, 165, (act D1).2.2) else
  if f.kind = 3 then ((act D1).1, if (act D1).2.1 ≠ 0 then (act D1).2.1 else 160, (act D1).2.2) else
  act D1
noncomputable def step {α : Type} (D : Dk) (a : α) (act : Dk → Dk × Int × α) (part : Option (Int → Dk → Dk × Int × α)) : Dk × Int × α :=
  if D.down = true then (D, 165, a) else
  match D.plan (D.steps + 1) with
  | none => act { D with steps := D.steps + 1 }
  | some f => faulty { D with steps := D.steps + 1 } a act part f
def u (f : Dk → Dk × Int) (D : Dk) : Dk × Int × Unit := ((f D).1, (f D).2, ())
def rdR (n : Nm) (D : Dk) : Dk × Int × List UInt8 :=
  match find D n with
  | (none, e) => (D, e, [])
  | (some i, _) => (D, 0, (fl D i).data)
def stR (n : Nm) (D : Dk) : Dk × Int × Int × Int × Int :=
  match find D n with
  | (none, e) => (D, e, 0, 0, 0)
  | (some i, _) => (D, 0, (i : Int) + 1, (fl D i).data.length, (fl D i).count)
noncomputable def callMake (D : Dk) (n : Nm) : Dk × Int × Unit := step D () (u (mkR n)) none
noncomputable def callSync (D : Dk) (n : Nm) : Dk × Int × Unit := step D () (u (syR n)) none
noncomputable def callSyncDir (D : Dk) : Dk × Int × Unit := step D () (u fun D => (settle D, 0)) none
noncomputable def callRename (D : Dk) (a b : Nm) : Dk × Int × Unit := step D () (u (mvR a b)) none
noncomputable def callRemove (D : Dk) (n : Nm) : Dk × Int × Unit := step D () (u (rmR n)) none
noncomputable def callRead (D : Dk) (n : Nm) : Dk × Int × List UInt8 := let r := step D [] (rdR n) none; (r.1, r.2.1, if r.2.1 = 0 then r.2.2 else [])
noncomputable def callStamp (D : Dk) (n : Nm) : Dk × Int × Int × Int × Int := let r := step D (0, 0, 0) (stR n) none; (r.1, r.2.1, if r.2.1 = 0 then r.2.2 else (0, 0, 0))
noncomputable def callAppend (D : Dk) (n : Nm) (b : List UInt8) : Dk × Int × Int := let r := step D 0 (apR n b) (some (apPart n b)); (r.1, r.2.1, if r.1.down = true then 0 else r.2.2)
end Go.Proofs.YtmooldhpiopcgaaGreatDoor.Dsk
set_option linter.unusedSimpArgs false
set_option linter.unusedVariables false
namespace Go.Proofs.YtmooldhpiopcgaaGreatDoor
namespace Dq
open Go Go.Vx Dsk
abbrev sv (s : Sl) : Value := .slice s.a s.len s.cap
abbrev iv (l : List Int) : List Value := l.map (Value.int .i64)
abbrev Ints (w : World) (s : Sl) (l : List Int) : Prop := SlIn w s 3 1 (iv l)
abbrev Bytes (w : World) (s : Sl) (l : List UInt8) : Prop := SlX w s 1 (bv l)
abbrev BytesO (w : World) (B : Nat) (s : Sl) (l : List UInt8) : Prop := SlOwn w B s 5 1 (bv l)
theorem EB : ElemOk Tryz.prog 30 5 1 1 := ElemOk.of (z := .int .u8 0) i30_ok i5_ok rfl rfl rfl (by decide)
theorem ES : ElemOk Tryz.prog 117 9 1 16 := ElemOk.of (z := .string ⟨#[]⟩) i117_ok i9_ok rfl rfl rfl (by decide)
theorem EA : ElemOk Tryz.prog 104 147 1 8 := ElemOk.of (z := .nilFunc) i104_ok i147_ok rfl rfl rfl (by decide)
theorem uB : Tryz.prog.underlying 30 = some (.slice 5) := i30_ok.und
theorem ub : Tryz.prog.underlying 5 = some (.int .u8) := i5_ok.und
theorem uS : Tryz.prog.underlying 117 = some (.slice 9) := i117_ok.und
theorem us : Tryz.prog.underlying 9 = some .string := i9_ok.und
theorem uA : Tryz.prog.underlying 104 = some (.slice 147) := i104_ok.und
theorem uE : ∃ ms, Tryz.prog.underlying 26 = some (.interface ms) := ⟨_, i26_ok.und⟩
theorem uD : Tryz.prog.underlying 103 = some (.map 9 121) := i103_ok.und
theorem MD : MapTyK Key.str Tryz.prog 103 (.pointer none) := MapTyK.of i103_ok i9_ok i121_ok rfl rfl rfl
theorem MP : MapTyK Key.int Tryz.prog 105 (.agg #[.int .i64 0, .int .i64 0, .int .i64 0, .int .i64 0, .slice none 0 0]) := MapTyK.of i105_ok i3_ok i132_ok rfl rfl rfl
structure DirIn (w : World) (m : Nat) (fb : List Nat) (f : Dir) : Prop where
  ex : ∃ es, MapK Key.str w m es ∧ ∀ k, kget es k = (f k).map fun i => Value.pointer (some (at0 (fb.getD i 0)))
  ids : ∀ k i, f k = some i → i < fb.length
abbrev fbox (i : Nat) (s : Sl) (f : Fl) : Obj := .cells #[.int .i64 ((i : Int) + 1), sv s, .int .i64 (f.synced : Int), .int .i64 f.count] 123 (0, 0)
structure FilesIn (w : World) (fb : List Nat) (ds : List Sl) (fs : List Fl) : Prop where
  lf : fb.length = fs.length
  ld : ds.length = fs.length
  nd : fb.Nodup
  dd : ∀ (i j : Nat) (s t : Sl), i < j → ds[i]? = some s → ds[j]? = some t → ∀ k, s.blk k → ¬ t.blk k
  at_ : ∀ (i b : Nat) (s : Sl) (f : Fl), fb[i]? = some b → ds[i]? = some s → fs[i]? = some f → w.heap[b]? = some (fbox i s f) ∧ BytesO w 0 s f.data
def ActIn (w : World) (F : Nat → Prop) (fb : List Nat) (v : Value) : Deed → Prop
  | .rm n => ∃ b, v = .func (.func 105) #[] #[.pointer (some (at0 b))] ∧ w.heap[b]? = some (.cells #[.string n] 9 (0, 0)) ∧ F b
  | .mk n i => ∃ b1 b2, v = .func (.func 167) #[] #[.pointer (some (at0 b1)), .pointer (some (at0 b2))] ∧ w.heap[b1]? = some (.cells #[.pointer (some (at0 (fb.getD i 0)))] 121 (0, 0)) ∧ w.heap[b2]? = some (.cells #[.string n] 9 (0, 0)) ∧ F b1 ∧ F b2 ∧ i < fb.length
  | .mv a b i => ∃ b1 b2, v = .func (.func 172) #[] #[.pointer (some (at0 b1)), .pointer (some (at0 b2))] ∧ w.heap[b1]? = some (.cells #[.pointer (some (at0 (fb.getD i 0))), .string a] 127 (0, 0)) ∧ w.heap[b2]? = some (.cells #[.string b] 9 (0, 0)) ∧ F b1 ∧ F b2 ∧ i < fb.length
structure ActsIn (w : World) (F : Nat → Prop) (fb : List Nat) (sa : Sl) (vs : List Value) (as_ : List Deed) : Prop where
  row : SlOwn w 0 sa 147 1 vs
  len : vs.length = as_.length
  at_ : ∀ (i : Nat) (v : Value) (a : Deed), vs[i]? = some v → as_[i]? = some a → ActIn w F fb v a
def FaultIn (w : World) (F : Nat → Prop) (k : Int) : Option Value → Option Fault → Prop
  | none, none => True
  | some v, some f => ∃ s : Sl, v = .agg #[.int .i64 k, .int .i64 f.kind, .int .i64 f.part, .int .i64 f.names, sv s] ∧ Ints w s f.bytes ∧ (∀ k, s.blk k → F k) ∧ f.bytes.length ≤ 2 ^ 60
  | _, _ => False
def PlanIn (w : World) (F : Nat → Prop) (pl : Option Nat) (p : Int → Option Fault) : Prop :=
  (pl = none ∧ ∀ k, p k = none) ∨ ∃ m es, pl = some m ∧ F m ∧ MapK Key.int w m es ∧ ∀ k, FaultIn w F k (kget es k) (p k)
abbrev dbox (D : Dk) (ms ml : Nat) (sa : Sl) (pl : Option Nat) : Obj := .cells #[.int .i64 D.space, .map (some ms), .map (some ml), sv sa, .int .i64 (D.files.length : Int), .bool D.down, .map pl, .int .i64 D.steps] 107 (0, 0)
structure DiskAt (w : World) (d : Nat) (F : Nat → Prop) (D : Dk) (ms ml : Nat) (sa : Sl) (pl : Option Nat) (vs : List Value) (fb : List Nat) (ds : List Sl) : Prop where
  box : w.heap[d]? = some (dbox D ms ml sa pl)
  seen : DirIn w ms fb D.seen
  lasts : DirIn w ml fb D.lasts
  files : FilesIn w fb ds D.files
  acts : ActsIn w F fb sa vs D.acts
  plan : PlanIn w F pl D.plan
  ne : ms ≠ ml
  nes : pl ≠ some ms
  nel : pl ≠ some ml
  fd : F d
  fms : F ms
  fml : F ml
  ffb : ∀ b ∈ fb, F b
  fds : ∀ s ∈ ds, ∀ k, s.blk k → F k
  fsa : ∀ k, sa.blk k → F k
  lt : ∀ k, F k → k < w.heap.size
def DiskIn (w : World) (d : Nat) (F : Nat → Prop) (D : Dk) : Prop := ∃ ms ml sa pl vs fb ds, DiskAt w d F D ms ml sa pl vs fb ds
section
variable {w w' : World} {S F F' : Nat → Prop} {d m : Nat} {f : Dir} {fb : List Nat} {ds : List Sl} {fs : List Fl} {sa : Sl} {vs : List Value} {D : Dk} {pl : Option Nat} {p : Int → Option Fault}
theorem MapK.heap_at {κ : Type} [BEq κ] [LawfulBEq κ] {k_ : Key κ} {es : List (KEnt κ)} (h : MapK k_ w m es) : ∃ o c, w.heap[m]? = some (.map o c) := by
  obtain ⟨⟨c, h1, _⟩, _, _⟩ := h
  exact ⟨_, c, h1⟩
theorem NoTy.map {o : Array MapEntry} {c : Nat} {t : TypeId} (h : w.heap[m]? = some (.map o c)) : NoTy w (fun k => k = m) t := by
  rintro k rfl c' fr hc
  rw [h] at hc; cases hc
theorem DirIn.upd (h : DirIn w m fb f) (u : Upd S w w') (hS : ¬ S m) : DirIn w' m fb f := by
  obtain ⟨⟨es, h1, h2⟩, h3⟩ := h
  exact ⟨⟨es, h1.upd u hS, h2⟩, h3⟩
theorem DirIn.map_at (h : DirIn w m fb f) : ∃ o c, w.heap[m]? = some (.map o c) := by
  obtain ⟨⟨es, h1, _⟩, _⟩ := h
  exact MapK.heap_at h1
theorem FilesIn.upd (h : FilesIn w fb ds fs) (u : Upd S w w') (h1 : ∀ b ∈ fb, ¬ S b) (h2 : ∀ s ∈ ds, ∀ k, s.blk k → ¬ S k) : FilesIn w' fb ds fs :=
  ⟨h.lf, h.ld, h.nd, h.dd, fun i b s f hb hs hf => let ⟨g1, g2⟩ := h.at_ i b s f hb hs hf; ⟨u.get g1 (h1 b (List.mem_of_getElem? hb)), g2.upd u fun k _ hk => h2 s (List.mem_of_getElem? hs) k hk⟩⟩
theorem FilesIn.get_ds (h : FilesIn w fb ds fs) {i : Nat} {s : Sl} (hs : ds[i]? = some s) : ∃ b f, fb[i]? = some b ∧ fs[i]? = some f ∧ w.heap[b]? = some (fbox i s f) ∧ BytesO w 0 s f.data := by
  have hlt := (List.getElem?_eq_some_iff.1 hs).1
  have h1 := h.lf
  have h2 := h.ld
  obtain ⟨b, hb⟩ : ∃ b, fb[i]? = some b := ⟨_, List.getElem?_eq_getElem (by omega)⟩
  obtain ⟨f, hf⟩ : ∃ f, fs[i]? = some f := ⟨_, List.getElem?_eq_getElem (by omega)⟩
  exact ⟨b, f, hb, hf, h.at_ i b s f hb hs hf⟩
theorem FilesIn.get_fb (h : FilesIn w fb ds fs) {b : Nat} (hb : b ∈ fb) : ∃ i s f, fb[i]? = some b ∧ ds[i]? = some s ∧ fs[i]? = some f ∧ w.heap[b]? = some (fbox i s f) ∧ BytesO w 0 s f.data := by
  obtain ⟨i, hi, hb⟩ := List.mem_iff_getElem.1 hb
  have h1 := h.lf
  have h2 := h.ld
  obtain ⟨s, hs⟩ : ∃ s, ds[i]? = some s := ⟨_, List.getElem?_eq_getElem (by omega)⟩
  obtain ⟨f, hf⟩ : ∃ f, fs[i]? = some f := ⟨_, List.getElem?_eq_getElem (by omega)⟩
  have hb' : fb[i]? = some b := by rw [List.getElem?_eq_getElem hi, hb]
  exact ⟨i, s, f, hb', hs, hf, h.at_ i b s f hb' hs hf⟩
theorem FilesIn.ty (h : FilesIn w fb ds fs) (u : Upd S w w') (h1 : NoTy w S 123) (h2 : NoTy w S 5) : FilesIn w' fb ds fs := by
  refine h.upd u (fun b hb hS => ?_) fun s hs k hk hS => ?_
  · obtain ⟨i, s, f, _, _, _, g, _⟩ := h.get_fb hb
    exact h1 b hS _ _ g
  · obtain ⟨i, hi, hs'⟩ := List.mem_iff_getElem.1 hs
    obtain ⟨b, f, _, _, _, g⟩ := h.get_ds (i := i) (s := s) (by rw [List.getElem?_eq_getElem hi, hs'])
    obtain ⟨c, fr, hc⟩ := g.in.blk_cells hk
    exact h2 k hS _ _ hc
theorem ActIn.upd {v : Value} {a : Deed} (h : ActIn w F fb v a) (u : Upd S w w') (hS : ∀ k, F k → ¬ S k) (hF : ∀ k, F k → F' k) : ActIn w' F' fb v a := by
  cases a with
  | rm n => obtain ⟨b, h1, h2, h3⟩ := h; exact ⟨b, h1, u.get h2 (hS b h3), hF b h3⟩
  | mk n i => obtain ⟨b1, b2, h1, h2, h3, h4, h5, h6⟩ := h; exact ⟨b1, b2, h1, u.get h2 (hS _ h4), u.get h3 (hS _ h5), hF _ h4, hF _ h5, h6⟩
  | mv a b i => obtain ⟨b1, b2, h1, h2, h3, h4, h5, h6⟩ := h; exact ⟨b1, b2, h1, u.get h2 (hS _ h4), u.get h3 (hS _ h5), hF _ h4, hF _ h5, h6⟩
theorem ActIn.ty {v : Value} {a : Deed} (h : ActIn w F fb v a) (u : Upd S w w') (h1 : NoTy w S 9) (h2 : NoTy w S 121) (h3 : NoTy w S 127) (hF : ∀ k, F k → F' k) : ActIn w' F' fb v a := by
  cases a with
  | rm n => obtain ⟨b, g1, g2, g3⟩ := h; exact ⟨b, g1, u.get g2 fun hS => h1 _ hS _ _ g2, hF _ g3⟩
  | mk n i => obtain ⟨b1, b2, g1, g2, g3, g4, g5, g6⟩ := h; exact ⟨b1, b2, g1, u.get g2 fun hS => h2 _ hS _ _ g2, u.get g3 fun hS => h1 _ hS _ _ g3, hF _ g4, hF _ g5, g6⟩
  | mv a b i => obtain ⟨b1, b2, g1, g2, g3, g4, g5, g6⟩ := h; exact ⟨b1, b2, g1, u.get g2 fun hS => h3 _ hS _ _ g2, u.get g3 fun hS => h1 _ hS _ _ g3, hF _ g4, hF _ g5, g6⟩
theorem ActsIn.ty {as_ : List Deed} (h : ActsIn w F fb sa vs as_) (u : Upd S w w') (h0 : NoTy w S 147) (h1 : NoTy w S 9) (h2 : NoTy w S 121) (h3 : NoTy w S 127) (hF : ∀ k, F k → F' k) : ActsIn w' F' fb sa vs as_ :=
  ⟨h.row.ty u h0, h.len, fun i v a hv ha => (h.at_ i v a hv ha).ty u h1 h2 h3 hF⟩
theorem FaultIn.upd {k : Int} {v : Option Value} {g : Option Fault} (h : FaultIn w F k v g) (u : Upd S w w') (hS : NoTy w S 3) (hF : ∀ k, F k → F' k) : FaultIn w' F' k v g := by
  match v, g, h with
  | none, none, _ => trivial
  | some v, some g, ⟨s, h1, h2, h3, h4⟩ => exact ⟨s, h1, h2.ty u hS, fun k hk => hF k (h3 k hk), h4⟩
theorem PlanIn.upd (h : PlanIn w F pl p) (u : Upd S w w') (h1 : ∀ m, pl = some m → ¬ S m) (hS : NoTy w S 3) (hF : ∀ k, F k → F' k) : PlanIn w' F' pl p := by
  rcases h with h | ⟨m, es, g1, g2, g3, g4⟩
  · exact .inl h
  · exact .inr ⟨m, es, g1, hF m g2, g3.upd u (h1 m g1), fun k => (g4 k).upd u hS hF⟩
theorem FaultIn.old {k : Int} {v : Option Value} {g : Option Fault} (h : FaultIn w F k v g) (u : Upd S w w') (hS : ∀ k, F k → ¬ S k) : FaultIn w' F k v g := by
  match v, g, h with
  | none, none, _ => trivial
  | some v, some g, ⟨s, h1, h2, h3, h4⟩ => exact ⟨s, h1, h2.upd u fun k hk => hS k (h3 k hk), h3, h4⟩
theorem PlanIn.map_at (h : PlanIn w F (some m) p) : ∃ o c, w.heap[m]? = some (.map o c) := by
  rcases h with ⟨h, _⟩ | ⟨m', es, g1, _, g3, _⟩
  · cases h
  · cases g1; exact MapK.heap_at g3
theorem DiskIn.frame (h : DiskIn w d F D) (u : Upd S w w') (hS : ∀ k, F k → ¬ S k) : DiskIn w' d F D := by
  obtain ⟨ms, ml, sa, pl, vs, fb, ds, A⟩ := h
  refine ⟨ms, ml, sa, pl, vs, fb, ds, u.get A.box (hS _ A.fd), A.seen.upd u (hS _ A.fms), A.lasts.upd u (hS _ A.fml), A.files.upd u (fun b hb => hS _ (A.ffb b hb)) (fun s hs k hk => hS _ (A.fds s hs k hk)),
    ⟨A.acts.row.upd u fun k _ hk => hS _ (A.fsa k hk), A.acts.len, fun i v a hv ha => (A.acts.at_ i v a hv ha).upd u hS fun _ h => h⟩, ?_, A.ne, A.nes, A.nel, A.fd, A.fms, A.fml, A.ffb, A.fds, A.fsa, fun k hk => Nat.lt_of_lt_of_le (A.lt k hk) u.size⟩
  rcases A.plan with h | ⟨m, es, g1, g2, g3, g4⟩
  · exact .inl h
  · exact .inr ⟨m, es, g1, g2, g3.upd u (hS m g2), fun k => (g4 k).old u hS⟩
theorem DiskIn.ext (h : DiskIn w d F D) (e : Ext w w') : DiskIn w' d F D := h.frame e fun _ _ => id
theorem DiskIn.lt (h : DiskIn w d F D) : ∀ k, F k → k < w.heap.size := by obtain ⟨ms, ml, sa, pl, vs, fb, ds, A⟩ := h; exact A.lt
theorem DiskIn.fd (h : DiskIn w d F D) : F d := by obtain ⟨ms, ml, sa, pl, vs, fb, ds, A⟩ := h; exact A.fd
theorem DiskAt.box_set {ms ml : Nat} {D' : Dk} (A : DiskAt w d F D ms ml sa pl vs fb ds) (u : Upd (fun k => k = d) w w') (hb : w'.heap[d]? = some (dbox D' ms ml sa pl)) (h1 : D'.files = D.files) (h2 : D'.lasts = D.lasts) (h3 : D'.acts = D.acts) (h4 : D'.plan = D.plan) : DiskAt w' d F D' ms ml sa pl vs fb ds := by
  have no : ∀ t : TypeId, 107 ≠ t → NoTy w (fun k => k = d) t := fun t ht => NoTy.box A.box ht
  have nm : ∀ m, (∃ o c, w.heap[m]? = some (.map o c)) → ¬ (fun k => k = d) m := by
    rintro m ⟨o, c, hm⟩ rfl
    rw [A.box] at hm; cases hm
  have hseen : D'.seen = D.seen := by simp only [Dk.seen, h2, h3]
  refine ⟨hb, ?_, ?_, ?_, ?_, ?_, A.ne, A.nes, A.nel, A.fd, A.fms, A.fml, A.ffb, A.fds, A.fsa, fun k hk => Nat.lt_of_lt_of_le (A.lt k hk) u.size⟩
  · rw [hseen]; exact A.seen.upd u (nm _ A.seen.map_at)
  · rw [h2]; exact A.lasts.upd u (nm _ A.lasts.map_at)
  · rw [h1]; exact A.files.ty u (no _ (by decide)) (no _ (by decide))
  · rw [h3]; exact A.acts.ty u (no _ (by decide)) (no _ (by decide)) (no _ (by decide)) (no _ (by decide)) fun _ h => h
  · rw [h4]; exact A.plan.upd u (fun m hm => nm m (by subst hm; exact A.plan.map_at)) (no _ (by decide)) fun _ h => h
end
end Dq
end Go.Proofs.YtmooldhpiopcgaaGreatDoor
set_option linter.unusedSimpArgs false
set_option linter.unusedVariables false
namespace Go.Proofs.YtmooldhpiopcgaaGreatDoor
namespace Dq
open Go Go.Vx Dsk
theorem nm_mk (n : Nm) : (⟨n.data.toList.toArray⟩ : ByteArray) = n := by cases n; simp
theorem sort_perm {l l' : List (List UInt8)} (h : l.Perm l') : (l.mergeSort fun x y => decide (x ≤ y)) = l'.mergeSort fun x y => decide (x ≤ y) := by
  have tr : ∀ a b c : List UInt8, decide (a ≤ b) = true → decide (b ≤ c) = true → decide (a ≤ c) = true := fun a b c h1 h2 => by
    simp only [decide_eq_true_eq] at *; exact List.le_trans h1 h2
  have to : ∀ a b : List UInt8, (decide (a ≤ b) || decide (b ≤ a)) = true := fun a b => by
    simp only [Bool.or_eq_true, decide_eq_true_eq]; exact List.le_total a b
  refine List.Perm.eq_of_pairwise (le := fun x y => decide (x ≤ y) = true) (fun a b _ _ h1 h2 => ?_) (List.pairwise_mergeSort tr to l) (List.pairwise_mergeSort tr to l') (((List.mergeSort_perm l _).trans h).trans (List.mergeSort_perm l' _).symm)
  simp only [decide_eq_true_eq] at h1 h2
  exact List.le_antisymm h1 h2
theorem sortN_eq {l l' : List Nm} (h : l.Perm l') : sortN l = sortN l' := by
  unfold sortN
  rw [sort_perm (h.map _)]
theorem sortN_perm (l : List Nm) : (sortN l).Perm l := by
  have h := (List.mergeSort_perm (l.map fun n => n.data.toList) (fun x y => decide (x ≤ y))).map fun l : List UInt8 => (⟨l.toArray⟩ : ByteArray)
  have e : (l.map fun n : Nm => n.data.toList).map (fun l : List UInt8 => (⟨l.toArray⟩ : ByteArray)) = l := by
    rw [List.map_map]
    conv => rhs; rw [← List.map_id l]
    exact List.map_congr_left fun n _ => nm_mk n
  rw [e] at h
  exact h
theorem lists_perm {f : Dir} {l l' : List Nm} (h : Lists f l) (h' : Lists f l') : l.Perm l' := (List.perm_ext_iff_of_nodup h.1 h'.1).2 fun n => (h.2 n).trans (h'.2 n).symm
theorem names_eq {f : Dir} {l : List Nm} (h : Lists f l) : names f = sortN l := by
  unfold names
  have hx : ∃ l, Lists f l := ⟨l, h⟩
  rw [dif_pos hx]
  exact sortN_eq (lists_perm (f := f) hx.choose_spec h)
theorem names_lists {f : Dir} {l : List Nm} (h : Lists f l) : Lists f (names f) := by
  rw [names_eq h]
  have hp := sortN_perm l
  exact ⟨hp.nodup_iff.2 h.1, fun n => (hp.mem_iff).trans (h.2 n)⟩
theorem names_len {f : Dir} {l : List Nm} (h : Lists f l) : (names f).length = l.length := by rw [names_eq h]; exact (sortN_perm l).length_eq
theorem sumZ_perm {l l' : List Int} (h : l.Perm l') : sumZ l = sumZ l' := by
  induction h with
  | nil => rfl
  | cons x _ ih => simp only [sumZ, ih]
  | swap x y l => simp only [sumZ]; omega
  | trans _ _ h1 h2 => exact h1.trans h2
theorem sumZ_append (l l' : List Int) : sumZ (l ++ l') = sumZ l + sumZ l' := by
  induction l with
  | nil => simp [sumZ]
  | cons x r ih => simp only [List.cons_append, sumZ, ih]; omega
theorem used_eq {D : Dk} {o : Option Nat} {l : List Nm} (h : Lists D.seen l) : usedBut D o = sumZ (l.map (weigh D o)) := by
  unfold usedBut
  rw [names_eq h]
  exact sumZ_perm ((sortN_perm l).map _)
theorem weigh_nonneg (D : Dk) (o : Option Nat) (n : Nm) : 0 ≤ weigh D o n := by
  unfold weigh
  split
  · split <;> omega
  · omega
theorem sumZ_nonneg {l : List Int} (h : ∀ x ∈ l, 0 ≤ x) : 0 ≤ sumZ l := by
  induction l with
  | nil => exact Int.le_refl 0
  | cons x r ih =>
    have h1 := h x List.mem_cons_self
    have h2 := ih fun y hy => h y (List.mem_cons_of_mem _ hy)
    simp only [sumZ]; omega
theorem sumZ_le {l : List Int} {B : Int} (h : ∀ x ∈ l, x ≤ B) : sumZ l ≤ (l.length : Int) * B := by
  induction l with
  | nil => simp [sumZ]
  | cons x r ih =>
    have h1 := h x List.mem_cons_self
    have h2 := ih fun y hy => h y (List.mem_cons_of_mem _ hy)
    simp only [sumZ, List.length_cons, Int.natCast_add, Int.add_mul, Int.natCast_one, Int.one_mul]; omega
section
variable {κ : Type} [BEq κ] [LawfulBEq κ]
theorem kget_mem {es : List (KEnt κ)} (hn : (es.map (·.1)).Nodup) : ∀ x ∈ es, kget es x.1 = some x.2.1 := by
  induction es with
  | nil => intro x hx; cases hx
  | cons y r ih =>
    intro x hx
    simp only [List.map_cons, List.nodup_cons] at hn
    unfold kget
    rw [List.find?_cons]
    rcases List.mem_cons.1 hx with e | hx
    · subst e; simp
    · have hne : (y.1 == x.1) = false := by
        simp only [beq_eq_false_iff_ne, ne_eq]
        intro e
        exact hn.1 (by rw [e]; exact List.mem_map.2 ⟨x, hx, rfl⟩)
      rw [hne]
      exact ih hn.2 x hx
theorem mem_kget {es : List (KEnt κ)} {k : κ} {v : Value} (h : kget es k = some v) : ∃ x ∈ es, x.1 = k ∧ x.2.1 = v := by
  unfold kget at h
  obtain ⟨x, hx, rfl⟩ := Option.map_eq_some_iff.1 h
  exact ⟨x, List.mem_of_find?_eq_some hx, by simpa using List.find?_some hx, rfl⟩
end
end Dq
end Go.Proofs.YtmooldhpiopcgaaGreatDoor
set_option linter.unusedSimpArgs false
set_option linter.unusedVariables false
namespace Go.Proofs.YtmooldhpiopcgaaGreatDoor
namespace Dq
open Go Go.Vx Dsk
structure Good (n : Nat) (f : Dir) : Prop where
  ids : ∀ k i, f k = some i → i < n
  few : ∃ l, Lists f l ∧ l.length ≤ 16
  inj : ∀ a b i, f a = some i → f b = some i → a = b
  okn : ∀ k i, f k = some i → okName k = true
structure DkOk (D : Dk) (N : Nat) : Prop where
  space : 0 ≤ D.space ∧ D.space ≤ 1048576
  fil : ∀ (i : Nat) (f : Fl), D.files[i]? = some f → f.data.length ≤ 1048576 ∧ f.synced ≤ f.data.length ∧ 0 ≤ f.count ∧ f.count ≤ N
  num : D.files.length ≤ N
  good : ∀ k, Good D.files.length (onAll (D.acts.take k) D.lasts)
  steps : 0 ≤ D.steps ∧ D.steps ≤ N
  acts : D.acts.length ≤ N
theorem DkOk.seen {D : Dk} {N : Nat} (h : DkOk D N) : Good D.files.length D.seen := by
  have := h.good D.acts.length
  rwa [List.take_length] at this
theorem DkOk.mono {D : Dk} {N M : Nat} (h : DkOk D N) (hm : N ≤ M) : DkOk D M :=
  ⟨h.space, fun i f hf => let ⟨a, b, c, d⟩ := h.fil i f hf; ⟨a, b, c, by omega⟩, Nat.le_trans h.num hm, h.good, ⟨h.steps.1, by have := h.steps.2; omega⟩, Nat.le_trans h.acts hm⟩
theorem Good.mono {n m : Nat} {f : Dir} (h : Good n f) (hm : n ≤ m) : Good m f := ⟨fun k i hi => Nat.lt_of_lt_of_le (h.ids k i hi) hm, h.few, h.inj, h.okn⟩
theorem Good.names {n : Nat} {f : Dir} (h : Good n f) : Lists f (names f) ∧ (names f).length ≤ 16 := by
  obtain ⟨l, h1, h2⟩ := h.few
  exact ⟨names_lists h1, by rw [names_len h1]; exact h2⟩
theorem DkOk.fl {D : Dk} {N : Nat} (h : DkOk D N) (i : Nat) : (fl D i).data.length ≤ 1048576 ∧ (fl D i).synced ≤ (fl D i).data.length := by
  unfold Dsk.fl
  rw [List.getD_eq_getElem?_getD]
  cases hf : D.files[i]? with
  | none => simp
  | some f => have := h.fil i f hf; exact ⟨this.1, this.2.1⟩
theorem DkOk.weigh {D : Dk} {N : Nat} (h : DkOk D N) (o : Option Nat) (n : Nm) : Dsk.weigh D o n ≤ 1048576 := by
  unfold Dsk.weigh
  split
  · split
    · omega
    · rename_i i _ _
      have := (h.fl i).1
      omega
  · omega
theorem DkOk.used {D : Dk} {N : Nat} (h : DkOk D N) (o : Option Nat) : 0 ≤ usedBut D o ∧ usedBut D o ≤ 16777216 := by
  obtain ⟨h1, h2⟩ := h.seen.names
  unfold usedBut
  refine ⟨sumZ_nonneg fun x hx => ?_, ?_⟩
  · obtain ⟨n, _, rfl⟩ := List.mem_map.1 hx
    exact weigh_nonneg D o n
  · have := sumZ_le (l := (names D.seen).map (Dsk.weigh D o)) (B := 1048576) fun x hx => by
      obtain ⟨n, _, rfl⟩ := List.mem_map.1 hx
      exact h.weigh o n
    rw [List.length_map] at this
    have h3 : ((names D.seen).length : Int) ≤ 16 := by omega
    have h4 : ((names D.seen).length : Int) * 1048576 ≤ 16 * 1048576 := Int.mul_le_mul_of_nonneg_right h3 (by decide)
    omega
end Dq
end Go.Proofs.YtmooldhpiopcgaaGreatDoor
set_option linter.unusedSimpArgs false
set_option linter.unusedVariables false
namespace Go.Proofs.YtmooldhpiopcgaaGreatDoor
namespace Dq
open Go Go.Vx Dsk
section
variable {w w' : World} {S F F' : Nat → Prop} {d m ms ml : Nat} {f : Dir} {fb : List Nat} {ds : List Sl} {fs : List Fl} {sa : Sl} {vs : List Value} {D : Dk} {pl : Option Nat} {p : Int → Option Fault} {N : Nat}
theorem isName_call {n : Nm} {K : Bool → World → Prop} (hK : ∀ w', Ext w w' → K (okName n) w') : callT Tryz.prog 60 #[.string n] (.one (.one .bool)) K w := by
  refine F60_calls ?_
  unfold F60
  refine join_at (decide (n.size = 0 ∨ 32 < n.size), ()) (sif_r (fun h => ⟨tupb (by (try simp only [decide_eq_true_eq, decide_eq_false_iff_not, beq_iff_eq, Bool.not_eq_true, beq_eq_false_iff_ne, ne_eq, Bool.false_eq_true, false_iff, iff_false, true_iff, iff_true, ge_iff_le, gt_iff_lt, Int.not_le, Int.not_lt] at *); first | omega | (constructor <;> intro h9 <;> omega)), rfl⟩) (fun h => ⟨tupb (by (try simp only [decide_eq_true_eq, decide_eq_false_iff_not, beq_iff_eq, Bool.not_eq_true, beq_eq_false_iff_ne, ne_eq, Bool.false_eq_true, false_iff, iff_false, true_iff, iff_true, ge_iff_le, gt_iff_lt, Int.not_le, Int.not_lt] at *); first | omega | (constructor <;> intro h9 <;> omega)), rfl⟩)) (sif_r (fun hc => ?_) (fun hc => ?_))
  · have hc : n.size = 0 ∨ 32 < n.size := of_decide_eq_true hc
    have e : okName n = false := by
      unfold okName
      rcases hc with h | h
      · simp [h]
      · have : ¬ n.size ≤ 32 := by omega
        simp [this]
    rw [← e]; exact hK w (Ext.refl w)
  have hc : ¬ (n.size = 0 ∨ 32 < n.size) := of_decide_eq_false hc
  have hlen : n.data.toList.length = n.size := by simp
  refine join_r (fun _ w' => Ext w w' ∧ n.data.toList.all okByte = true) ?_ ?_
  · refine strBytes_r us uB ub fun s w1 i1 e1 hb => ?_
    have hs := i1.len1
    rw [List.length_map] at hs
    refine sloop_r (fun s' w' => ∃ k : Nat, k ≤ n.size ∧ s' = ((k : Int), ()) ∧ Ext w1 w' ∧ ∀ b ∈ n.data.toList.take k, okByte b = true) (fun s' _ => (n.size - s'.1).toNat) ⟨0, by omega, rfl, Ext.refl _, fun b hb => by simp at hb⟩ ?_
    rintro _ w2 ⟨k, hk, rfl, e2, hall⟩
    dsimp only
    have ek : IntKind.wrap .i64 ((k : Int) + 1) = ((k + 1 : Nat) : Int) := by rw [IntWalk.i64_in _ ⟨by omega, by omega⟩]; omega
    simp only [ek]
    refine sif_r (fun hd => ?_) (fun hd => ?_)
    · have hd : k < n.size := by have := of_decide_eq_true hd; omega
      obtain ⟨b, hb⟩ : ∃ b, n.data.toList[k]? = some b := ⟨_, List.getElem?_eq_getElem (by omega)⟩
      have hx : (n.data.toList.map fun b => (b.toNat : Int))[(k : Int).toNat]? = some (b.toNat : Int) := by
        rw [Int.toNat_natCast, List.getElem?_map, hb]; rfl
      have hi2 : SlIn w2 s 5 1 ((n.data.toList.map fun b => (b.toNat : Int)).map (Cell.int .u8).val) := by
        have := i1.ext e2
        rw [List.map_map]; exact this
      have fin : okByte b = true → ∀ b' ∈ n.data.toList.take (k + 1), okByte b' = true := by
        intro h1 b' hb'
        rw [List.take_add_one, hb] at hb'
        rcases List.mem_append.1 hb' with h | h
        · exact hall b' h
        · simp at h; subst h; exact h1
      have hdef : okByte b = true ↔ ((97 ≤ b.toNat ∧ b.toNat ≤ 122) ∨ (65 ≤ b.toNat ∧ b.toNat ≤ 90) ∨ (48 ≤ b.toNat ∧ b.toNat ≤ 57) ∨ b.toNat = 46 ∨ b.toNat = 95 ∨ b.toNat = 45 ∨ b.toNat = 126) := by unfold okByte; exact decide_eq_true_iff
      generalize b.toNat = x at hx hdef
      refine join_r (fun _ w' => okByte b = true ∧ w2 = w') ?_ (fun _ w' ⟨h1, h2⟩ => by subst h2; exact ⟨⟨k + 1, hd, rfl, e2, fin h1⟩, by omega⟩)
      refine ix_ld (c := .int .u8) (xs := n.data.toList.map fun b => (b.toNat : Int)) (x := (x : Int)) hi2 (by omega) hx fun _ => ?_
      refine join_at (decide ((97 ≤ x ∧ x ≤ 122) ∨ (65 ≤ x ∧ x ≤ 90) ∨ (48 ≤ x ∧ x ≤ 57)), ()) ?_ ?_
      · refine join_at (decide (97 ≤ x ∧ x ≤ 122), ()) (sif_r (fun h => ⟨tupb (by (try simp only [decide_eq_true_eq, decide_eq_false_iff_not, beq_iff_eq, Bool.not_eq_true, beq_eq_false_iff_ne, ne_eq, Bool.false_eq_true, false_iff, iff_false, true_iff, iff_true, ge_iff_le, gt_iff_lt, Int.not_le, Int.not_lt] at *); first | omega | (constructor <;> intro h9 <;> omega)), rfl⟩) (fun h => ⟨tupb (by (try simp only [decide_eq_true_eq, decide_eq_false_iff_not, beq_iff_eq, Bool.not_eq_true, beq_eq_false_iff_ne, ne_eq, Bool.false_eq_true, false_iff, iff_false, true_iff, iff_true, ge_iff_le, gt_iff_lt, Int.not_le, Int.not_lt] at *); first | omega | (constructor <;> intro h9 <;> omega)), rfl⟩)) (sif_r (fun h => ?_) (fun h => ?_))
        · have h := of_decide_eq_true h
          exact ⟨tupb (by simp [h]), rfl⟩
        have h := of_decide_eq_false h
        refine join_at (decide (65 ≤ x ∧ x ≤ 90), ()) (sif_r (fun h => ⟨tupb (by (try simp only [decide_eq_true_eq, decide_eq_false_iff_not, beq_iff_eq, Bool.not_eq_true, beq_eq_false_iff_ne, ne_eq, Bool.false_eq_true, false_iff, iff_false, true_iff, iff_true, ge_iff_le, gt_iff_lt, Int.not_le, Int.not_lt] at *); first | omega | (constructor <;> intro h9 <;> omega)), rfl⟩) (fun h => ⟨tupb (by (try simp only [decide_eq_true_eq, decide_eq_false_iff_not, beq_iff_eq, Bool.not_eq_true, beq_eq_false_iff_ne, ne_eq, Bool.false_eq_true, false_iff, iff_false, true_iff, iff_true, ge_iff_le, gt_iff_lt, Int.not_le, Int.not_lt] at *); first | omega | (constructor <;> intro h9 <;> omega)), rfl⟩)) (sif_r (fun h1 => ?_) (fun h1 => ?_))
        · have h1 := of_decide_eq_true h1
          exact ⟨tupb (by simp [h1]), rfl⟩
        have h1 := of_decide_eq_false h1
        refine sif_r (fun h2 => ⟨tupb ?_, rfl⟩) (fun h2 => ⟨tupb ?_, rfl⟩)
        · simp only [decide_eq_true_eq] at h2 ⊢; omega
        · simp only [decide_eq_false_iff_not, decide_eq_true_eq, Bool.false_eq_true, false_iff] at h2 ⊢; omega
      · refine sif_r (fun h => ⟨hdef.2 (by have := of_decide_eq_true h; omega), rfl⟩) (fun h => ?_)
        have h := of_decide_eq_false h
        refine join_at (decide (x = 46 ∨ x = 95 ∨ x = 45 ∨ x = 126), ()) ?_ (sif_r (fun h1 => ⟨hdef.2 (by have := of_decide_eq_true h1; omega), rfl⟩) (fun h1 => ?_))
        · refine sif_r (fun h1 => ?_) (fun h1 => sif_r (fun h2 => ?_) (fun h2 => sif_r (fun h3 => ?_) (fun h3 => ?_)))
          · have h1 : (x : Int) = 46 := by simpa using h1
            exact ⟨tupb (by simp only [beq_iff_eq, decide_eq_true_eq]; omega), rfl⟩
          · have h1 : ¬ (x : Int) = 46 := by simpa using h1
            have h2 : (x : Int) = 95 := by simpa using h2
            exact ⟨tupb (by simp only [beq_iff_eq, decide_eq_true_eq]; omega), rfl⟩
          · have h1 : ¬ (x : Int) = 46 := by simpa using h1
            have h2 : ¬ (x : Int) = 95 := by simpa using h2
            have h3 : (x : Int) = 45 := by simpa using h3
            exact ⟨tupb (by simp only [beq_iff_eq, decide_eq_true_eq]; omega), rfl⟩
          · have h1 : ¬ (x : Int) = 46 := by simpa using h1
            have h2 : ¬ (x : Int) = 95 := by simpa using h2
            have h3 : ¬ (x : Int) = 45 := by simpa using h3
            exact ⟨tupb (by simp only [beq_iff_eq, decide_eq_true_eq]; omega), rfl⟩
        · have h1 := of_decide_eq_false h1
          have hno : ¬ okByte b = true := fun hh => by have := hdef.1 hh; omega
          have e : okName n = false := by
            unfold okName
            have : n.data.toList.all okByte = false := by
              cases ha : n.data.toList.all okByte with
              | false => rfl
              | true => exact absurd (List.all_eq_true.1 ha b (List.mem_of_getElem? hb)) hno
            rw [this, Bool.and_false]
          rw [← e]
          exact hK w2 (e1.trans e2)
    · have hd : k = n.size := by have := of_decide_eq_false hd; omega
      refine ⟨e1.trans e2, List.all_eq_true.2 fun b hb => hall b ?_⟩
      rw [List.take_of_length_le (by omega)]; exact hb
  · rintro _ w1 ⟨e1, hall⟩
    have e : okName n = true := by
      unfold okName
      have h1 : ¬ n.size = 0 := fun h => hc (.inl h)
      have h2 : n.size ≤ 32 := by omega
      simp [h1, h2, hall]
    rw [← e]; exact hK w1 e1
theorem DiskAt.ext (A : DiskAt w d F D ms ml sa pl vs fb ds) (e : Ext w w') : DiskAt w' d F D ms ml sa pl vs fb ds :=
  ⟨e.ext_get A.box, A.seen.upd e id, A.lasts.upd e id, A.files.upd e (fun _ _ => id) (fun _ _ _ _ => id), A.acts.ty e (fun _ h => h.elim) (fun _ h => h.elim) (fun _ h => h.elim) (fun _ h => h.elim) fun _ h => h,
    A.plan.upd e (fun _ _ => id) (fun _ h => h.elim) fun _ h => h, A.ne, A.nes, A.nel, A.fd, A.fms, A.fml, A.ffb, A.fds, A.fsa, fun k hk => Nat.lt_of_lt_of_le (A.lt k hk) e.size⟩
theorem DiskAt.in (A : DiskAt w d F D ms ml sa pl vs fb ds) : DiskIn w d F D := ⟨ms, ml, sa, pl, vs, fb, ds, A⟩
theorem DirIn.look (h : DirIn w m fb f) (k : Nm) {K : Option Addr → World → Prop} (hK : K ((f k).map fun i => at0 (fb.getD i 0)) w) : rdT Tryz.prog (.one (.one .ptr)) (Instr.lookup 103 (.map (some m)) (.string k) false) K w := by
  obtain ⟨⟨es, h1, h2⟩, h3⟩ := h
  refine ⟨_, ?_, hK⟩
  have := lookupK1_run MD h1 k
  rw [show Key.str.kv k = Value.string k from rfl, h2 k] at this
  dsimp only
  rw [this]
  cases f k <;> rfl
theorem DirIn.lists (h : DirIn w m fb f) : ∃ es, MapK Key.str w m es ∧ (∀ k, kget es k = (f k).map fun i => Value.pointer (some (at0 (fb.getD i 0)))) ∧ Lists f (es.map (·.1)) := by
  obtain ⟨⟨es, h1, h2⟩, h3⟩ := h
  refine ⟨es, h1, h2, h1.keys, fun n => ?_⟩
  constructor
  · intro hn
    obtain ⟨x, hx, rfl⟩ := List.mem_map.1 hn
    have := kget_mem h1.keys x hx
    rw [h2] at this
    obtain ⟨i, hi, _⟩ := Option.map_eq_some_iff.1 this
    rw [hi]; rfl
  · intro hn
    obtain ⟨i, hi⟩ := Option.isSome_iff_exists.1 hn
    have := h2 n
    rw [hi] at this
    obtain ⟨x, hx, hxn, _⟩ := mem_kget this
    exact List.mem_map.2 ⟨x, hx, hxn⟩
theorem DirIn.len (h : DirIn w m fb f) {K : Int → World → Prop} (hK : K ((names f).length : Int) w) : rdN Tryz.prog (Builtin.len_ #[103] 3 #[.map (some m)]) K w := by
  obtain ⟨es, h1, h2, h3⟩ := h.lists
  obtain ⟨⟨c, hh, _⟩, _, _⟩ := h1
  refine ⟨_, ?_, hK⟩
  rw [names_len h3]
  have hg : (getObj m).run Tryz.prog w = .ok (.map (es.map (KEnt.ent Key.str)).toArray c) w := by simp [getObj, Sem.run, hh]
  simp [Builtin.len_, run_underlying uD, hg, goInt]
theorem find_call (A : DiskAt w d F D ms ml sa pl vs fb ds) {n : Nm} {K : ((Option Addr × ByteArray × Unit) × Int × Unit) → World → Prop}
    (hK : ∀ nm w', Ext w w' → ((find D n).1.isSome = true → nm = n) → K (((find D n).1.map fun i => at0 (fb.getD i 0), nm, ()), (find D n).2, ()) w') :
    callT Tryz.prog 67 #[.pointer (some (at0 d)), .string n] (.tup [(.agg c127), (.one (.int .i64))]) K w := by
  refine F67_calls ?_
  unfold F67
  refine (St.start w).newO fun b1 w1 S e1 => isName_call fun w2 e2 => ?_
  have S := S.ext e2
  have e12 := e1.trans e2
  refine sif_r (fun hc => ?_) (fun hc => ?_)
  · have hc : okName n = false := by simpa using hc
    have e : find D n = (none, 164) := by simp only [find, if_pos hc]
    rw [e] at hK
    exact S.aggSt 0 rfl rfl rfl rfl fun w3 S3 u3 => S3.lds 0 (none, ⟨#[]⟩, ()) rfl (hK _ w3 S3.upd (fun h => by cases h))
  have hc : okName n = true := by simpa using hc
  have A2 := A.ext e12
  refine nn_some ?_
  rw [addr_add]
  refine ld_r A2.box (x := some ms) rfl (A2.seen.look n ?_)
  have e : find D n = match D.seen n with | none => (none, 162) | some i => (some i, 0) := by simp only [find]; rw [if_neg (by simp [hc])] <;> rfl
  rw [e] at hK
  cases hs : D.seen n with
  | none =>
    rw [hs] at hK
    exact sif_true (S.aggSt 0 rfl rfl rfl rfl fun w3 S3 u3 => S3.lds 0 (none, ⟨#[]⟩, ()) rfl (hK _ w3 S3.upd (fun h => by cases h)))
  | some i =>
    rw [hs] at hK
    exact sif_false (S.aggSt 0 rfl rfl rfl rfl fun w3 S3 u3 => S3.lds 0 (some (at0 (fb.getD i 0)), n, ()) rfl (hK n w3 S3.upd fun _ => rfl))
theorem cloneB_call {x : Sl} {l : List UInt8} {K : Sl → World → Prop} (hx : Bytes w x l) (hl : l.length ≤ 2 ^ 44) (hK : ∀ s w', BytesO w' w.heap.size s l → Ext w w' → K s w') : callT Tryz.prog 63 #[.slice x.a x.len x.cap] (.one (.one .sl)) K w := by
  refine F63_calls ?_
  unfold F63
  have hn := hx.len1
  rw [List.length_map] at hn
  refine sif_r (fun hc => ?_) (fun hc => ?_)
  · have h0 : l = [] := by
      rcases hx.at_ with ⟨_, h⟩ | ⟨t, h⟩
      · simpa using h
      · rcases h.at_ with ⟨_, h1⟩ | ⟨b, off, c, fr, ha, _⟩
        · have := h.le; exact List.length_eq_zero_iff.1 (by omega)
        · rw [ha] at hc; cases hc
    subst h0
    exact hK _ w (SlOwn.nil _ _ _ _) (Ext.refl w)
  · refine newO_r fun b1 w1 e1 n1 hb1 _ => ?_
    have o1 : SlOwn w1 w.heap.size ⟨some (at0 b1), 0, 0⟩ 5 1 (bv []) := ⟨rfl, Nat.le_refl _, .inr ⟨b1, 0, #[], rfl, by omega, n1, by simp, fun i v hv => by simp at hv⟩⟩
    refine append_rx (s := ⟨some (at0 b1), 0, 0⟩) EB uB o1 (hx.ext e1) (bv_one l) (by dsimp only; omega) e1.size fun s' w2 o2 _ u2 _ => hK s' w2 (by simpa using o2) (e1.step u2 fun k hk => o1.blk_ge hk)
theorem clone_find : Extern.find Tryz.f102 = some Extern.MapsClone.clone := by kernel_rfl
theorem clone_next : Extern.findNext Tryz.f102 = none := by kernel_rfl
theorem clone_name : (Tryz.f102.name == "runtime.NumGoroutine") = false := by kernel_rfl
theorem clone_body : Tryz.f102.body.isNone = true := by kernel_rfl
theorem clone_run {P : Program} {t : TypeId} {r c : Nat} {es : Array MapEntry} (h : w.heap[r]? = some (.map es c)) : (Extern.MapsClone.clone #[.iface t (.map (some r))]).run P w = .ok (.iface t (.map (some w.heap.size))) (w.alloc (.map es c)) := by
  have hg : (getObj r).run P w = .ok (.map es c) w := by simp [getObj, Sem.run, h]
  have e : Extern.MapsClone.clone #[.iface t (.map (some r))] = (getObj r >>= fun o => match o with | .map es c => (newObj (.map es c) >>= fun b => pure (.iface t (.map (some b)))) | _ => stuck "maps.clone: a map expected") := rfl
  rw [e]
  simp [hg, newObj, Sem.run, World.alloc_eq]
theorem mclone_call (h : DirIn w m fb f) {K : Option Nat → World → Prop} (hK : ∀ m' w', DirIn w' m' fb f → Ext w w' → m' = w.heap.size → K (some m') w') : callT Tryz.prog 73 #[.map (some m)] (.one (.one .map)) K w := by
  refine F73_calls ?_
  unfold F73
  obtain ⟨⟨es, h1, h2⟩, h3⟩ := h
  have h1' := h1
  obtain ⟨⟨c, hh, hc⟩, hk, hb⟩ := h1
  have hg : (getObj m).run Tryz.prog w = .ok (.map (es.map (KEnt.ent Key.str)).toArray c) w := by simp [getObj, Sem.run, hh]
  refine sif_false (.inr (.inl ⟨.iface 103 (.map (some w.heap.size)), w.alloc (.map (es.map (KEnt.ent Key.str)).toArray c), ?_, ?_⟩))
  · have hm : ∀ W, (mark (.extern 102)).run Tryz.prog W = .ok () W := fun _ => rfl
    have hn1 : ¬ Tryz.f102.name = "runtime.NumGoroutine" := by simpa using clone_name
    have hn2 : Tryz.f102.body = none := by simpa using clone_body
    simp [callFunc, run_program, hn1, hn2, Tryz.func102, clone_name, clone_body, clone_next, clone_find, hm, clone_run hh, RTy.val, Ty.val, Cell.val]
  · have e1 := Ext.alloc w (.map (es.map (KEnt.ent Key.str)).toArray c)
    refine ⟨some w.heap.size, _, ?_, hK w.heap.size _ ⟨⟨es, ⟨⟨c, heap_alloc w _, hc⟩, hk, hb⟩, h2⟩, h3⟩ e1 rfl⟩
    simp [Instr.typeAssert, run_underlying uD, RTy.val, Ty.val, Cell.val]
end
end Dq
end Go.Proofs.YtmooldhpiopcgaaGreatDoor
namespace Go.Proofs
open Go.Shelf
def Tryz.lays119_ren : Go.Shelf.Ren := ⟨fun | 119 => 160 | n => n, fun | 21 => 21 | 4 => 4 | n => n, fun | n => n⟩
theorem Tryz.lays119 : Go.Proofs.Lays.n119 Tryz.prog Tryz.lays119_ren := {
  mixed := by kernel_rfl
  f119 := Tryz.func160.trans (congrArg some (by kernel_rfl))
  t4 := Tryz.underlying4
  a4 := Tryz.isAgg4
  z4 := Tryz.sizeOf4
  v4 := Tryz.zeroValue4
  t21 := Tryz.underlying21
  a21 := Tryz.isAgg21
  z21 := Tryz.sizeOf21
  v21 := Tryz.zeroValue21 }
theorem Tryz.utf8_ValidRune (r : Int) (w : World) :
    Calls Tryz.prog 160 #[.int .i32 r] w fun e w' => e = .returned (.bool (Lib.validRune r)) ∧ w' = w := Any.utf8_ValidRune Tryz.lays119 r w
def Tryz.lays137_ren : Go.Shelf.Ren := ⟨fun | 137 => 159 | 217 => 199 | 266 => 221 | n => n, fun | 9 => 9 | 5 => 5 | 3 => 3 | n => n, fun | n => n⟩
theorem Tryz.lays137 : Go.Proofs.Lays.n137 Tryz.prog Tryz.lays137_ren := {
  mixed := by kernel_rfl
  f137 := Tryz.func159.trans (congrArg some (by kernel_rfl))
  f217 := Tryz.func199.trans (congrArg some (by kernel_rfl))
  f266 := Tryz.func221.trans (congrArg some (by kernel_rfl))
  t3 := Tryz.underlying3
  a3 := Tryz.isAgg3
  z3 := Tryz.sizeOf3
  v3 := Tryz.zeroValue3
  t5 := Tryz.underlying5
  a5 := Tryz.isAgg5
  z5 := Tryz.sizeOf5
  v5 := Tryz.zeroValue5
  t9 := Tryz.underlying9
  a9 := Tryz.isAgg9
  z9 := Tryz.sizeOf9
  v9 := Tryz.zeroValue9 }
open Go.RowKit in
theorem Tryz.strings_IndexByte (s : ByteArray) (c : Int) (w : World) :
    Calls Tryz.prog 159 #[.string s, .int .u8 c] w fun e w' => e = .returned (.int .i64 (Lib.indexByte s.data.toList c.toNat.toUInt8)) ∧ w' = w := Any.strings_IndexByte Tryz.lays137 s c w
def Tryz.lays190_ren : Go.Shelf.Ren := ⟨fun | 190 => 101 | 125 => 142 | 258 => 141 | 128 => 182 | 129 => 183 | 302 => 173 | 303 => 174 | 304 => 175 | 305 => 176 | 306 => 177 | 307 => 178 | 308 => 179 | 309 => 180 | 310 => 181 | 333 => 205 | 329 => 206 | 330 => 207 | 334 => 208 | 335 => 209 | 336 => 210 | 344 => 222 | n => n, fun | 31 => 117 | 9 => 9 | 3 => 3 | 46 => 230 | 0 => 0 | 51 => 289 | 53 => 291 | 4 => 4 | 183 => 282 | 182 => 281 | 131 => 286 | 5 => 5 | 218 => 306 | 222 => 310 | 228 => 320 | 229 => 48 | n => n, fun | n => n⟩
theorem Tryz.lays190 : Go.Proofs.Lays.n190 Tryz.prog Tryz.lays190_ren := {
  mixed := by kernel_rfl
  f125 := Tryz.func142.trans (congrArg some (by kernel_rfl))
  f128 := Tryz.func182.trans (congrArg some (by kernel_rfl))
  f129 := Tryz.func183.trans (congrArg some (by kernel_rfl))
  f190 := Tryz.func101.trans (congrArg some (by kernel_rfl))
  f258 := Tryz.func141.trans (congrArg some (by kernel_rfl))
  f302 := Tryz.func173.trans (congrArg some (by kernel_rfl))
  f303 := Tryz.func174.trans (congrArg some (by kernel_rfl))
  f304 := Tryz.func175.trans (congrArg some (by kernel_rfl))
  f305 := Tryz.func176.trans (congrArg some (by kernel_rfl))
  f306 := Tryz.func177.trans (congrArg some (by kernel_rfl))
  f307 := Tryz.func178.trans (congrArg some (by kernel_rfl))
  f308 := Tryz.func179.trans (congrArg some (by kernel_rfl))
  f309 := Tryz.func180.trans (congrArg some (by kernel_rfl))
  f310 := Tryz.func181.trans (congrArg some (by kernel_rfl))
  f329 := Tryz.func206.trans (congrArg some (by kernel_rfl))
  f330 := Tryz.func207.trans (congrArg some (by kernel_rfl))
  f333 := Tryz.func205.trans (congrArg some (by kernel_rfl))
  f334 := Tryz.func208.trans (congrArg some (by kernel_rfl))
  f335 := Tryz.func209.trans (congrArg some (by kernel_rfl))
  f336 := Tryz.func210.trans (congrArg some (by kernel_rfl))
  f344 := Tryz.func222.trans (congrArg some (by kernel_rfl))
  t0 := Tryz.underlying0
  a0 := Tryz.isAgg0
  z0 := Tryz.sizeOf0
  v0 := Tryz.zeroValue0
  t3 := Tryz.underlying3
  a3 := Tryz.isAgg3
  z3 := Tryz.sizeOf3
  v3 := Tryz.zeroValue3
  t4 := Tryz.underlying4
  a4 := Tryz.isAgg4
  z4 := Tryz.sizeOf4
  v4 := Tryz.zeroValue4
  t5 := Tryz.underlying5
  a5 := Tryz.isAgg5
  z5 := Tryz.sizeOf5
  v5 := Tryz.zeroValue5
  t9 := Tryz.underlying9
  a9 := Tryz.isAgg9
  z9 := Tryz.sizeOf9
  v9 := Tryz.zeroValue9
  t31 := Tryz.underlying117
  a31 := Tryz.isAgg117
  z31 := Tryz.sizeOf117
  v31 := Tryz.zeroValue117
  t46 := Tryz.underlying230
  a46 := Tryz.isAgg230
  z46 := Tryz.sizeOf230
  v46 := Tryz.zeroValue230
  t51 := Tryz.underlying289
  a51 := Tryz.isAgg289
  z51 := Tryz.sizeOf289
  v51 := Tryz.zeroValue289
  t53 := Tryz.underlying291
  a53 := Tryz.isAgg291
  z53 := Tryz.sizeOf291
  v53 := Tryz.zeroValue291
  t131 := Tryz.underlying286
  a131 := Tryz.isAgg286
  z131 := Tryz.sizeOf286
  v131 := Tryz.zeroValue286
  t182 := Tryz.underlying281
  a182 := Tryz.isAgg281
  z182 := Tryz.sizeOf281
  v182 := Tryz.zeroValue281
  t183 := Tryz.underlying282
  a183 := Tryz.isAgg282
  z183 := Tryz.sizeOf282
  v183 := Tryz.zeroValue282
  t218 := Tryz.underlying306
  a218 := Tryz.isAgg306
  z218 := Tryz.sizeOf306
  v218 := Tryz.zeroValue306
  t222 := Tryz.underlying310
  a222 := Tryz.isAgg310
  z222 := Tryz.sizeOf310
  v222 := Tryz.zeroValue310
  t228 := Tryz.underlying320
  a228 := Tryz.isAgg320
  z228 := Tryz.sizeOf320
  v228 := Tryz.zeroValue320
  t229 := Tryz.underlying48
  a229 := Tryz.isAgg48
  z229 := Tryz.sizeOf48
  v229 := Tryz.zeroValue48 }
open Go.Sort Go.RowKit in
theorem Tryz.slices_Sort_string (blk off cap : Nat) (ss : List (List UInt8)) (w : World) (hH : Holds encStr w blk off ss.toArray) (hblk : blk < w.heap.size) (hsz : ss.length < 4611686018427387904) :
    Calls Tryz.prog 101 #[.slice (some ⟨blk, off, none⟩) ss.length cap] w fun e w' =>
      e = .returned (.tuple #[]) ∧ ∃ n os, w' = grow (putRow encStr (Sort.ahead w n) blk off (ss.mergeSort fun x y => decide (x ≤ y)).toArray) os := Any.slices_Sort_string Tryz.lays190 blk off cap ss w hH hblk hsz
def Tryz.lays151_ren : Go.Shelf.Ren := ⟨fun | 151 => 90 | 152 => 130 | 137 => 159 | 119 => 160 | 224 => 161 | 225 => 162 | 217 => 199 | 266 => 221 | n => n, fun | 9 => 9 | 21 => 21 | 4 => 4 | 3 => 3 | 5 => 5 | 0 => 0 | 46 => 230 | n => n, fun | n => n⟩
theorem Tryz.lays151 : Go.Proofs.Lays.n151 Tryz.prog Tryz.lays151_ren := {
  mixed := by kernel_rfl
  f119 := Tryz.func160.trans (congrArg some (by kernel_rfl))
  f137 := Tryz.func159.trans (congrArg some (by kernel_rfl))
  f151 := Tryz.func90.trans (congrArg some (by kernel_rfl))
  f152 := Tryz.func130.trans (congrArg some (by kernel_rfl))
  f217 := Tryz.func199.trans (congrArg some (by kernel_rfl))
  f224 := Tryz.func161.trans (congrArg some (by kernel_rfl))
  f225 := Tryz.func162.trans (congrArg some (by kernel_rfl))
  f266 := Tryz.func221.trans (congrArg some (by kernel_rfl))
  t0 := Tryz.underlying0
  a0 := Tryz.isAgg0
  z0 := Tryz.sizeOf0
  v0 := Tryz.zeroValue0
  t3 := Tryz.underlying3
  a3 := Tryz.isAgg3
  z3 := Tryz.sizeOf3
  v3 := Tryz.zeroValue3
  t4 := Tryz.underlying4
  a4 := Tryz.isAgg4
  z4 := Tryz.sizeOf4
  v4 := Tryz.zeroValue4
  t5 := Tryz.underlying5
  a5 := Tryz.isAgg5
  z5 := Tryz.sizeOf5
  v5 := Tryz.zeroValue5
  t9 := Tryz.underlying9
  a9 := Tryz.isAgg9
  z9 := Tryz.sizeOf9
  v9 := Tryz.zeroValue9
  t21 := Tryz.underlying21
  a21 := Tryz.isAgg21
  z21 := Tryz.sizeOf21
  v21 := Tryz.zeroValue21
  t46 := Tryz.underlying230
  a46 := Tryz.isAgg230
  z46 := Tryz.sizeOf230
  v46 := Tryz.zeroValue230 }
open Go.RowKit Go.Lib in
theorem Tryz.strings_ContainsRune_ascii (s : ByteArray) (r : Int) (w : World) (h0 : 0 ≤ r) (h1 : r < 128) :
    Calls Tryz.prog 90 #[.string s, .int .i32 r] w fun e w' => e = .returned (.bool (decide (0 ≤ Lib.indexByte s.data.toList r.toNat.toUInt8))) ∧ w' = w := Any.strings_ContainsRune_ascii Tryz.lays151 s r w h0 h1
open Go.RowKit Go.Sort in
theorem Tryz.slices_Sort_string_none (p : Option Addr) (cap : Nat) (w : World) :
    Calls Tryz.prog 101 #[.slice p 0 cap] w fun e w' => e = .returned (.tuple #[]) ∧ w' = w := Any.slices_Sort_string_none Tryz.lays190 p cap w
end Go.Proofs
