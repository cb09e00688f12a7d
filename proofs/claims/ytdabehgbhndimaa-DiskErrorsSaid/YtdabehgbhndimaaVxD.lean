/-
  The operations that may do anything: their conditions are enough for their runs.
-/
import Derived.Test.YtdabehgbhndimaaVxC
set_option linter.unusedSimpArgs false
set_option linter.unusedVariables false
namespace Go.Vx
open Go

section
variable {T : Tab} {P : Program} {ev : Ev} {ρ : Operand → Value}

theorem run_store_one {v u : Value} {p : Addr} {w : World} (hv : isOne v = true) (hu : w.cell? p = some u) (hf : w.frozen? p = false) : (store p v).run P w = .ok () (w.setCell p v) := by
  cases v with
  | agg c => cases hv
  | tuple c => cases hv
  | _ => simp [store, Sem.run, hu, hf]

theorem run_storeCells : ∀ (vs : List Value) (p : Addr) (i : Nat) (K : World → Prop) (w : World), (∀ v ∈ vs, isOne v = true) → stCs p i vs K w →
    ∃ w', (storeCells p vs i).run P w = .ok () w' ∧ K w'
  | [], p, i, K, w, _, h => ⟨w, rfl, h⟩
  | v :: r, p, i, K, w, ho, h => by
    obtain ⟨⟨⟨u, hu⟩, hf⟩, h⟩ := h
    obtain ⟨w', hr, hK⟩ := run_storeCells r p (i + 1) K _ (fun x hx => ho x (List.mem_cons_of_mem _ hx)) h
    refine ⟨w', ?_, hK⟩
    simp only [storeCells, Sem.run_bind, run_store_one (ho v List.mem_cons_self) hu hf, Result.andThen_ok]
    exact hr

theorem run_callFunc {f : FuncId} {args : Array Value} (h : ((P.funcs[f]?).map fun fn => (fn.body.isNone, fn.name == "runtime.NumGoroutine")) = some (false, false)) (w : World) : (callFunc f args).run P w = .ok (.enter f args) w := by
  cases hf : P.funcs[f]? with
  | none => rw [hf] at h; cases h
  | some fn =>
    rw [hf] at h
    simp only [Option.map_some, Option.some.injEq, Prod.mk.injEq] at h
    unfold callFunc
    simp only [Sem.run_bind, program, Sem.run, Result.andThen_ok, hf, h.1, h.2, Bool.false_eq_true, if_false]
    rfl

def Leads (o : Oper) (a : Act) (K : Value → World → Prop) (a' : Act) (w' : World) : Prop := ∃ v, a' = a.put o.dst v ∧ K v w'

theorem up_value {o : Oper} {a : Act} {K : Value → World → Prop} {s : Sem Value} {w w' : World} {v : Value} (h : s.run P w = .ok v w') (hK : K v w') {F : Exit → Act → World → Prop} :
    o.upon P a (Leads o a K) F ((do pure (.value (← s)) : Sem Next).run P w) := by
  simp only [Sem.run_bind, h, Result.andThen_ok]
  exact ⟨v, rfl, hK⟩

theorem up_skip {o : Oper} {a : Act} {K : Value → World → Prop} {s : Sem Unit} {w w' : World} (h : s.run P w = .ok () w') (hK : K undef w') {F : Exit → Act → World → Prop} :
    o.upon P a (Leads o a K) F ((do s; pure .skip : Sem Next).run P w) := by
  simp only [Sem.run_bind, h, Result.andThen_ok]
  exact ⟨undef, rfl, hK⟩

theorem up_call {o : Oper} {a : Act} {K : Value → World → Prop} {w : World} {f : FuncId} {args : Array Value} {t : RTy} (h : callT P f args t (fun x => K (t.val x)) w) :
    o.upon P a (Leads o a K) (fun _ _ _ => False) (.ok (.enter f args) w) := by
  simp only [Oper.upon]
  refine Calls.mono h fun e w' he => ?_
  obtain ⟨x, rfl, hK⟩ := he
  exact ⟨_, rfl, hK⟩

theorem up_x {o : Oper} {a : Act} {K : Value → World → Prop} {s : Sem Next} {w : World} {t : RTy} (h : callX P s t (fun x => K (t.val x)) w) :
    o.upon P a (Leads o a K) (fun _ _ _ => False) (s.run P w) := by
  rcases h with ⟨g, gargs, hr, hc⟩ | ⟨x, w', hr, hK⟩
  · rw [hr]; exact up_call hc
  · rw [hr]; exact ⟨_, rfl, hK⟩

theorem cells_one {v : Value} (h : isOne v = true) : v.cells = #[v] := by cases v <;> first | rfl | cases h

theorem fillO_fillQ : ∀ {ps : List (Nat × Value)} {cs out : List Value}, oneAll (ps.map (·.2)) = true → fillO cs ps = some out → fillQ (fun k => some (k * 1, 1)) cs ps = some out
  | [], cs, out, _, h => h
  | p :: r, cs, out, h1, h => by
    simp only [List.map_cons, oneAll, Bool.and_eq_true] at h1
    simp only [fillO] at h
    split at h
    · rename_i hlt
      have hlt : p.1 < cs.length := by simpa using hlt
      have e : p.2.cells.toList = [p.2] := by rw [cells_one h1.1]
      have hb : (Nat.beq 1 1 && Nat.ble (p.1 + 1) cs.length) = true := by simp; omega
      simp only [fillQ, e, List.length_cons, List.length_nil, Nat.mul_one, Nat.zero_add, hb, putIn]
      have := fillO_fillQ h1.2 h
      simpa only [Nat.mul_one] using this
    · cases h

set_option maxHeartbeats 1000000 in
theorem eff_sound (ok : T.Ok P) (hE : ∀ x v, ev x = some v → ρ x = v) (o : Oper) (rt : Option RTy) (K : Value → World → Prop) (a : Act) (ha : a.eval = ρ) (w : World) (h : eff T P ev o rt K w) :
    o.upon P a (Leads o a K) (fun _ _ _ => False) ((execOp a.eval o).run P w) := by
  subst ha
  obtain ⟨dst, op, type, pos, after, guard⟩ := o
  cases op <;> simp only [eff] at h <;> simp only [execOp]
  all_goals try exact h.elim
  case alloc t =>
    cases hi : T.get t with
    | none => simp only [hi] at h
    | some i =>
      simp only [hi] at h
      cases hz : i.zero with
      | none => simp only [hz] at h
      | some z =>
        simp only [hz] at h
        refine up_value (w' := w.alloc (.cells z.cells t)) (v := .pointer (some ⟨w.heap.size, 0, none⟩)) ?_ h
        simp [Instr.alloc, (ok.get hi).run_zero _ hz, newVar, newRow, newObj, Sem.run, World.alloc_eq]
  case box t x =>
    cases hv : ev x with
    | none => simp only [hv] at h
    | some v =>
      simp only [hv] at h
      rw [hE _ _ hv]
      have h' : newO (.cells v.cells t) (fun b => K (.pointer (some ⟨b, 0, none⟩))) w := by
        cases hop : isOpqT T t with
        | true =>
          simp only [hop] at h
          obtain ⟨_, h1, h2⟩ := h
          simp only [oneAll, Bool.and_true] at h1
          rw [cells_one h1]; exact h2
        | false => simp only [hop] at h; exact h
      refine up_value (w' := w.alloc (.cells v.cells t)) (v := .pointer (some ⟨w.heap.size, 0, none⟩)) ?_ h'
      simp [Instr.box, newVar, newRow, newObj, Sem.run, World.alloc_eq]
  case buildSlice t len parts =>
    cases hps : evPs ev parts.toList with
    | none => simp only [hps] at h
    | some ps =>
    cases hi : T.get t with
    | none => simp only [hps, hi] at h
    | some i =>
    simp only [hps, hi] at h
    cases hd : i.desc with
    | slice e =>
      simp only [hd] at h
      cases hj : T.get e with
      | none => simp only [hj] at h
      | some j =>
      simp only [hj] at h
      cases hz : j.zero with
      | none => simp only [hz] at h
      | some z =>
      cases hle : (Nat.ble (len * j.size) (2 ^ 24) && !Nat.beq j.size 0) with
      | false => simp only [hz, hle] at h
      | true =>
      simp only [hz, hle] at h
      simp only [Bool.and_eq_true, Bool.not_eq_true'] at hle
      have hle1 : ¬ (len * j.size > 2 ^ 24) := by have := Nat.le_of_ble_eq_true hle.1; omega
      have h' : ∃ cs, fillQ (fun k => some (k * j.size, j.size)) ((List.range (len * j.size)).map fun k => (z.cells.toList)[k % z.cells.toList.length]?.getD default) ps = some cs ∧ newO (.cells cs.toArray e) (fun b => K (.slice (some ⟨b, 0, none⟩) len len)) w := by
        cases hop : (isOpqT T e && Nat.beq j.size 1) with
        | true =>
          simp only [hop] at h
          simp only [Bool.and_eq_true] at hop
          have h1 : j.size = 1 := Nat.eq_of_beq_eq_true hop.2
          obtain ⟨_, h2, h3⟩ := h
          cases hcs : fillO ((List.range (len * j.size)).map fun k => (z.cells.toList)[k % z.cells.toList.length]?.getD default) ps with
          | some cs =>
            simp only [hcs] at h3
            refine ⟨cs, ?_, h3⟩
            rw [h1] at hcs ⊢
            exact fillO_fillQ h2 hcs
          | none => simp only [hcs] at h3
        | false =>
          simp only [hop] at h
          cases hcs : fillQ (fun k => some (k * j.size, j.size)) ((List.range (len * j.size)).map fun k => (z.cells.toList)[k % z.cells.toList.length]?.getD default) ps with
          | some cs => simp only [hcs] at h; exact ⟨cs, rfl, h⟩
          | none => simp only [hcs] at h
      obtain ⟨cs, hcs, h⟩ := h'
      refine up_value (w' := w.alloc (.cells cs.toArray e)) (v := .slice (some ⟨w.heap.size, 0, none⟩) len len) ?_ h
      have hf := fillQ_ok hcs
      have he : ((List.range (len * j.size)).map fun k => (z.cells.toList)[k % z.cells.toList.length]?.getD default).toArray = (Array.range (len * j.size)).map (fun k => z.cells[k % z.cells.size]!) := by
        apply Array.ext'
        simp [getElem!_def]
        intro k hk
        cases z.cells[k % z.cells.size]? <;> rfl
      rw [he] at hf
      have hf2 : len * j.size = 0 → Instr.fill (fun k => some (k * j.size, j.size)) ((Array.range (len * j.size)).map (fun k => (#[] : Array Value)[k % (#[] : Array Value).size]!)) ps = some cs.toArray := by
        intro h0
        have h1 : Array.range 0 = #[] := rfl
        rw [← hf]; simp only [h0, h1, Array.map_empty]
      simp only [Instr.buildSlice, Sem.run_bind, (ok.get hi).run_und, hd, Result.andThen_ok, (ok.get hj).run_size, if_neg hle1, Sem.run_pure, evPs_arr hE hps]
      by_cases h0 : len * j.size = 0
      · simp only [if_pos h0, Sem.run_bind, Sem.run_pure, Result.andThen_ok, hf2 h0]
        simp [newRow, newObj, Sem.run, World.alloc_eq]
      · simp only [if_neg h0, Sem.run_bind, Sem.run_pure, Result.andThen_ok, (ok.get hj).run_zero _ hz, hf]
        simp [newRow, newObj, Sem.run, World.alloc_eq]
    | _ => simp only [hd] at h
  case store t p x =>
    cases hp : ev p with
    | none => simp only [hp] at h
    | some vp =>
    cases hv : ev x with
    | none => cases vp with
      | pointer q => cases q <;> simp only [hp, hv] at h
      | _ => simp only [hp, hv] at h
    | some v =>
    cases hi : T.get t with
    | none => cases vp with
      | pointer q => cases q <;> simp only [hp, hv, hi] at h
      | _ => simp only [hp, hv, hi] at h
    | some i =>
    cases vp with
    | pointer q =>
      cases q with
      | none => simp only [hp, hv, hi] at h
      | some p' =>
      simp only [hp, hv, hi] at h
      have io := ok.get hi
      have hw := io.wf
      unfold Inf.wf at hw
      simp only [hE _ _ hp, hE _ _ hv]
      cases hc : i.ty with
      | one c =>
        have core : isOne v = true → Nat.beq i.size 1 = true → stC p' v (K undef) w →
            Oper.upon P ⟨dst, .store t p x, type, pos, after, guard⟩ a (Leads ⟨dst, .store t p x, type, pos, after, guard⟩ a K) (fun _ _ _ => False) ((do Instr.storeAt t (.pointer (some p')) v; pure .skip : Sem Next).run P w) := by
          intro hone hs1 h
          have hsz : i.size = 1 := Nat.eq_of_beq_eq_true hs1
          obtain ⟨⟨⟨u, hu⟩, hfr⟩, h⟩ := h
          have hcell : v.cells = #[v] := by
            cases v with
            | agg c => cases hone
            | _ => rfl
          refine up_skip (w' := w.setCell p' v) ?_ h
          simp only [Instr.storeAt, Instr.sureAddr, storeVar, Sem.run_bind, Sem.run_pure, Result.andThen_ok, io.run_size, hcell]
          simp [hsz, storeCells, run_store_one hone hu hfr, Addr.add]
        by_cases hany : c = .any
        · subst hany
          have h' : (match Nat.beq i.size 1 with | true => cdE (fun _ : Unit => isOne v = true) (fun _ => stC p' v (K undef)) | false => fun _ => False) w := by
            simp only [hc] at h; exact h
          cases hs1 : Nat.beq i.size 1 with
          | false => rw [hs1] at h'; exact h'.elim
          | true =>
            rw [hs1] at h'
            obtain ⟨_, ho, h'⟩ := h'
            exact core ho hs1 h'
        · have h' : isOne v = true ∧ (match Nat.beq i.size 1 with | true => stC p' v (K undef) | false => fun _ => False) w := by
            cases hone : isOne v with
            | false => cases c <;> simp only [hc, hone] at h <;> first | exact absurd rfl hany | exact h.elim
            | true => cases c <;> simp only [hc, hone] at h <;> first | exact absurd rfl hany | exact ⟨rfl, h⟩
          cases hs1 : Nat.beq i.size 1 with
          | false => rw [hs1] at h'; exact h'.2.elim
          | true =>
            rw [hs1] at h'
            exact core h'.1 hs1 h'.2
      | agg cs =>
        have h' : aggSt p' v i.size (K undef) w := by
          cases isOne v <;> simpa only [hc] using h
        unfold aggSt at h'
        cases hc2 : (Nat.beq v.cells.toList.length i.size && v.cells.toList.all isOne) with
        | false => simp only [hc2] at h'
        | true =>
        simp only [hc2] at h'
        simp only [Bool.and_eq_true] at hc2
        have hsz : v.cells.size = i.size := by have := Nat.eq_of_beq_eq_true hc2.1; simpa using this
        obtain ⟨w', hr, hK⟩ := run_storeCells (P := P) v.cells.toList p' 0 (K undef) w (fun x hx => List.all_eq_true.1 hc2.2 x hx) h'
        refine up_skip (w' := w') ?_ hK
        simp [Instr.storeAt, Instr.sureAddr, storeVar, io.run_size, hsz, hr]
    | _ => simp only [hp, hv, hi] at h
  case makeMap t r =>
    cases r with
    | some r => exact h.elim
    | none =>
      refine up_value (w' := w.alloc (.map #[] 0)) (v := .map (some w.heap.size)) ?_ h
      simp [Instr.makeMap, newObj, Sem.run, World.alloc_eq]
  case makeSlice t l c =>
    cases hl : ev l <;> cases hc : ev c <;> cases hi : rt <;> simp only [hl, hc, hi] at h
    obtain ⟨x, w', hr, hK⟩ := h
    simp only [hE _ _ hl, hE _ _ hc]
    exact up_value hr hK
  case convert s d x =>
    cases hv : ev x <;> cases hi : rt <;> simp only [hv, hi] at h
    obtain ⟨x, w', hr, hK⟩ := h
    simp only [hE _ _ hv]
    exact up_value hr hK
  case mapUpdate t m k x =>
    cases hm : ev m <;> cases hk : ev k <;> cases hx : ev x <;> simp only [hm, hk, hx] at h
    obtain ⟨w', hr, hK⟩ := h
    simp only [hE _ _ hm, hE _ _ hk, hE _ _ hx]
    exact up_skip hr hK
  case insert t m k x =>
    cases hm : ev m <;> cases hk : ev k <;> cases hx : ev x <;> simp only [hm, hk, hx] at h
    obtain ⟨w', hr, hK⟩ := h
    simp only [hE _ _ hm, hE _ _ hk, hE _ _ hx]
    exact up_skip hr hK
  case mapEntry t m k =>
    cases hm : ev m <;> cases hk : ev k <;> cases hi : rt <;> simp only [hm, hk, hi] at h
    obtain ⟨x, w', hr, hK⟩ := h
    simp only [hE _ _ hm, hE _ _ hk]
    exact up_value hr hK
  case entryStore t m s x =>
    cases hm : ev m <;> cases hk : ev s <;> cases hx : ev x <;> simp only [hm, hk, hx] at h
    obtain ⟨w', hr, hK⟩ := h
    simp only [hE _ _ hm, hE _ _ hk, hE _ _ hx]
    exact up_skip hr hK
  case range t x =>
    cases hv : ev x <;> simp only [hv] at h
    obtain ⟨x, w', hr, hK⟩ := h
    simp only [hE _ _ hv]
    exact up_value hr hK
  case next it str =>
    cases hv : ev it <;> simp only [hv] at h
    obtain ⟨b, rest, w', hr, hK⟩ := h
    simp only [hE _ _ hv]
    exact up_value hr hK
  case entry it =>
    cases hv : ev it <;> cases hi : rt <;> simp only [hv, hi] at h
    obtain ⟨x, w', hr, hK⟩ := h
    simp only [hE _ _ hv]
    exact up_value hr hK
  case typeAssert x xt as_ ok' =>
    cases hv : ev x <;> cases hi : rt <;> simp only [hv, hi] at h
    obtain ⟨x, w', hr, hK⟩ := h
    simp only [hE _ _ hv]
    exact up_value hr hK
  case waits g =>
    cases hi : rt <;> simp only [hi] at h
    obtain ⟨x, w', hr, hK⟩ := h
    exact up_value hr hK
  case call c =>
    obtain ⟨callee, args, argTypes⟩ := c
    cases has : evs ev args.toList with
    | none => simp only [has] at h
    | some as_ =>
    cases hi : rt with
    | none => simp only [has, hi] at h
    | some i =>
    simp only [has, hi] at h
    have ha : args.map a.eval = as_.toArray := evs_arr hE has
    cases callee with
    | builtin b =>
      simp only at h
      cases b <;> simp only at h
      case append =>
        obtain ⟨x, w', hr, hK⟩ := h
        simp only [resolve, ha, pure_bind, invoke, builtin]
        exact up_value hr hK
      case copy =>
        obtain ⟨x, w', hr, hK⟩ := h
        simp only [resolve, ha, pure_bind, invoke, builtin]
        exact up_value hr hK
      case delete =>
        obtain ⟨x, w', hr, hK⟩ := h
        simp only [resolve, ha, pure_bind, invoke, builtin]
        exact up_value hr hK
      case clear =>
        obtain ⟨x, w', hr, hK⟩ := h
        simp only [resolve, ha, pure_bind, invoke, builtin]
        exact up_value hr hK
    | value f =>
      have dyn : ∀ vf, a.eval f = vf → callX P (do let d ← Deferred.ofValue vf as_.toArray; invoke d.target d.args) i (fun x => K (i.val x)) w →
          Oper.upon P ⟨dst, .call ⟨.value f, args, argTypes⟩, type, pos, after, guard⟩ a (Leads ⟨dst, .call ⟨.value f, args, argTypes⟩, type, pos, after, guard⟩ a K) (fun _ _ _ => False) ((do let d ← resolve a.eval ⟨.value f, args, argTypes⟩ type; invoke d.target d.args : Sem Next).run P w) := by
        intro vf hf h
        simp only [resolve, ha, hf]
        exact up_x h
      cases f with
      | func g =>
        simp only at h
        cases hg : T.fns.elem g with
        | false =>
          simp only [hg] at h
          simp only [resolve, ha, Act.eval, Deferred.ofValue, pure_bind, invoke]
          have e : (#[] ++ as_.toArray ++ #[] : Array Value) = as_.toArray := by simp
          rw [e]
          exact up_x h
        | true =>
        simp only [hg] at h
        have := run_callFunc (P := P) (f := g) (args := as_.toArray) (fns_ok ok.fns hg) w
        simp only [resolve, ha, Act.eval, Deferred.ofValue, pure_bind, invoke]
        have e : (#[] ++ as_.toArray ++ #[] : Array Value) = as_.toArray := by simp
        rw [e, this]
        exact up_call h
      | tmp t =>
        cases hvf : ev (.tmp t) <;> simp only [hvf] at h
        exact dyn _ (hE _ _ hvf) h
      | const v =>
        cases hvf : ev (.const v) <;> simp only [hvf] at h
        exact dyn _ (hE _ _ hvf) h
      | global g =>
        cases hvf : ev (.global g) <;> simp only [hvf] at h
        exact dyn _ (hE _ _ hvf) h
    | invoke r name =>
      cases hvr : ev r <;> simp only [hvr] at h
      simp only [resolve, ha, hE _ _ hvr, pure_bind]
      exact up_x h

end
end Go.Vx
