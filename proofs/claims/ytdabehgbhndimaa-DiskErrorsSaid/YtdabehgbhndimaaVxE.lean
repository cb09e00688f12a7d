/-
  The conditions of a function's whole text, and that they are enough: a call of the function ends in a value of its type for which what was asked holds.
-/
import Derived.Test.YtdabehgbhndimaaVxD
import Derived.Test.YtdabehgbhndimaaVxU
set_option linter.unusedSimpArgs false
set_option linter.unusedVariables false
namespace Go.Vx
open Go

/-- what is known of the slots -/
abbrev Fr := Nat → Option Value
def Fr.set (φ : Fr) (d : Nat) (v : Value) : Fr := fun i => match Nat.beq i d with | true => some v | false => φ i
def Fr.del (φ : Fr) (d : Nat) : Fr := fun i => match Nat.beq i d with | true => none | false => φ i
def Fr.put (φ : Fr) (dst : Option Nat) (v : Value) : Fr := match dst with | some d => φ.set d v | none => φ
def Fr.drop (φ : Fr) (dst : Option Nat) : Fr := match dst with | some d => φ.del d | none => φ
def Fr.ev (φ : Fr) : Ev
  | .tmp t => φ t
  | .const v => some v
  | .global g => some (.pointer (some ⟨g, 0, none⟩))
  | .func f => some (.func (.func f) #[] #[])

structure Fits (n : Nat) (φ : Fr) (a : Act) : Prop where
  size : a.tmps.size = n
  defers : a.defers = []
  at_ : ∀ i v, φ i = some v → a.tmps[i]? = some v

/-- how a region is gone through: an operation; one that is left out; a guard's two ways -/
inductive RS where
  | done
  | op (rt : Option RTy) (r : RS)
  | skip (r : RS)
  | split (d : Nat) (t e : RS)
  | float (f : Nat) (r : RS)
  | now (r : RS)
  | both (a : RS) (rt : Option RTy) (b : RS)

abbrev HV := List (Nat × (World → Prop))

def pend (un : Nat → Nat → Bool) (i : Nat) : HV → (World → Prop) → World → Prop
  | [], K => K
  | x :: r, K => match un x.1 i with | true => keep x.2 (pend un i r K) | false => pend un i r K

def gIs (ops : List Oper) (φ : Fr) (o : Oper) : Option Bool :=
  match o.guard with
  | none => some true
  | some g => match ops[g.1]? with
    | none => none
    | some og => match og.dst with
      | none => none
      | some d => match φ d with
        | some (.bool b) => match b, g.2 with
          | true, true => some true
          | false, false => some true
          | _, _ => some false
        | some (.tuple _) => some false
        | _ => none

def dOk (n : Nat) (o : Oper) : Bool := match o.dst with | some d => Nat.blt d n | none => true

def rtOf (T : Tab) (o : Oper) : Option RTy → Option RTy
  | some t => some t
  | none => match T.get o.type with | some i => some i.rty | none => none

def vops (T : Tab) (P : Program) (n : Nat) (ops : List Oper) (un : Nat → Nat → Bool) : RS → List Nat → Fr → HV → (Fr → World → Prop) → World → Prop
  | .done, σ, φ, _, K => match σ with | [] => K φ | _ :: _ => fun _ => False
  | .op rt r, σ, φ, H, K => match σ with
    | [] => fun _ => False
    | i :: σ => match ops[i]? with
      | none => fun _ => False
      | some o => match gIs ops φ o, dOk n o with
        | some true, true => match T.cls o.op with
          | .free => match quiet T P φ.ev o with
            | .val v => vops T P n ops un r σ (φ.put o.dst v) H K
            | .cond c f => cdE c fun x => vops T P n ops un r σ (φ.put o.dst (f x)) H K
            | _ => fun _ => False
          | .read => match quiet T P φ.ev o with
            | .val v => vops T P n ops un r σ (φ.put o.dst v) H K
            | .cond c f => cdE c fun x => vops T P n ops un r σ (φ.put o.dst (f x)) H K
            | .read rd f => rdE rd fun x => vops T P n ops un r σ (φ.put o.dst (f x)) ((i, rd x) :: H) K
            | .no => fun _ => False
          | .eff => eff T P φ.ev o (rtOf T o rt) fun v => pend un i H (vops T P n ops un r σ (φ.put o.dst v) H K)
        | _, _ => fun _ => False
  | .skip r, σ, φ, H, K => match σ with
    | [] => fun _ => False
    | i :: σ => match ops[i]? with
      | none => fun _ => False
      | some o => match gIs ops φ o, dOk n o with
        | some false, true => vops T P n ops un r σ (φ.put o.dst undef) H K
        | _, _ => fun _ => False
  | .split d t e, σ, φ, H, K => match φ d with
    | some (.bool b) => sif b (vops T P n ops un t σ (φ.set d (.bool true)) H K) (vops T P n ops un e σ (φ.set d (.bool false)) H K)
    | _ => fun _ => False
  | .float _ _, _, _, _, _ => fun _ => False
  | .now _, _, _, _, _ => fun _ => False
  | .both _ _ _, _, _, _, _ => fun _ => False

/-- both are asked for -/
def both (A B : World → Prop) : World → Prop := fun w => A w ∧ B w

/-- with one that floats -/
def vopsA (T : Tab) (P : Program) (n : Nat) (ops : List Oper) (un : Nat → Nat → Bool) (f : Nat) (bf : Nat → Bool) : RS → List Nat → Fr → HV → (Fr → World → Prop) → World → Prop
  | .now r, σ, φ, H, K => match σ with
    | [] => vops T P n ops un r [f] φ H K
    | i :: σ => match bf i with
      | true => vops T P n ops un r (f :: i :: σ) φ H K
      | false => fun _ => False
  | .both a rt r, σ, φ, H, K => match σ with
    | [] => fun _ => False
    | i :: σ => match ops[i]? with
      | none => fun _ => False
      | some o => match bf i, gIs ops φ o, dOk n o, T.cls o.op with
        | false, some true, true, .eff => both (vops T P n ops un a (f :: i :: σ) φ H K) (eff T P φ.ev o (rtOf T o rt) fun v => pend un i H (vopsA T P n ops un f bf r σ (φ.put o.dst v) H K))
        | _, _, _, _ => fun _ => False
  | .op _ r, σ, φ, H, K => match σ with
    | [] => fun _ => False
    | i :: σ => match ops[i]? with
      | none => fun _ => False
      | some o => match bf i, gIs ops φ o, dOk n o with
        | false, some true, true => match T.cls o.op with
          | .free => match quiet T P φ.ev o with
            | .val v => vopsA T P n ops un f bf r σ (φ.put o.dst v) H K
            | .cond c g => cdE c fun x => vopsA T P n ops un f bf r σ (φ.put o.dst (g x)) H K
            | _ => fun _ => False
          | .read => match quiet T P φ.ev o with
            | .val v => vopsA T P n ops un f bf r σ (φ.put o.dst v) H K
            | .cond c g => cdE c fun x => vopsA T P n ops un f bf r σ (φ.put o.dst (g x)) H K
            | .read rd g => rdE rd fun x => vopsA T P n ops un f bf r σ (φ.put o.dst (g x)) ((i, rd x) :: H) K
            | .no => fun _ => False
          | .eff => fun _ => False
        | _, _, _ => fun _ => False
  | .skip r, σ, φ, H, K => match σ with
    | [] => fun _ => False
    | i :: σ => match ops[i]? with
      | none => fun _ => False
      | some o => match bf i, gIs ops φ o, dOk n o with
        | false, some false, true => match T.cls o.op with
          | .eff => fun _ => False
          | _ => vopsA T P n ops un f bf r σ (φ.put o.dst undef) H K
        | _, _, _ => fun _ => False
  | .split d t e, σ, φ, H, K => match φ d with
    | some (.bool b) => sif b (vopsA T P n ops un f bf t σ (φ.set d (.bool true)) H K) (vopsA T P n ops un f bf e σ (φ.set d (.bool false)) H K)
    | _ => fun _ => False
  | .done, _, _, _, _ => fun _ => False
  | .float _ _, _, _, _, _ => fun _ => False

def Agree (m : Nat) (a a' : Act) : Prop := ∀ i, m.testBit i = false → a'.tmps[i]? = a.tmps[i]?

theorem Agree.refl (m : Nat) (a : Act) : Agree m a a := fun _ _ => rfl
theorem Agree.trans {m : Nat} {a b c : Act} (h : Agree m a b) (h' : Agree m b c) : Agree m a c := fun i hi => (h' i hi).trans (h i hi)
theorem Agree.mono {m m' : Nat} {a b : Act} (h : Agree m a b) (hs : ∀ i, m.testBit i = true → m'.testBit i = true) : Agree m' a b := fun i hi => h i (by
  cases hm : m.testBit i with
  | false => rfl
  | true => rw [hs i hm] at hi; cases hi)

theorem Fits.ev {n : Nat} {φ : Fr} {a : Act} (h : Fits n φ a) : ∀ x v, φ.ev x = some v → a.eval x = v := by
  intro x v hx
  cases x with
  | tmp t => simp only [Fr.ev] at hx; have := h.at_ t v hx; simp [Act.eval, Array.getD_eq_getD_getElem?, this]
  | const u => cases hx; rfl
  | global g => cases hx; rfl
  | func f => cases hx; rfl

theorem Fits.put {n : Nat} {φ : Fr} {a : Act} (h : Fits n φ a) {o : Oper} (hd : dOk n o = true) (v : Value) : Fits n (φ.put o.dst v) (a.put o.dst v) := by
  unfold dOk at hd
  cases ho : o.dst with
  | none => exact h
  | some d =>
    rw [ho] at hd
    have hd : d < n := by simpa using hd
    refine ⟨by simp [Act.put, h.size], by simp [Act.put, h.defers], fun i u hi => ?_⟩
    simp only [Fr.put, Fr.set] at hi
    split at hi
    · rename_i e
      obtain rfl := Nat.eq_of_beq_eq_true e
      cases hi
      simp [Act.put, h.size, hd]
    · rename_i e
      have hne : d ≠ i := fun hh => by rw [hh, Nat.beq_refl] at e; cases e
      simp only [Act.put]
      rw [Array.getElem?_setIfInBounds_ne hne]
      exact h.at_ i u hi

theorem Fits.drop {n : Nat} {φ : Fr} {a : Act} (h : Fits n φ a) (dst : Option Nat) (v : Value) : Fits n (φ.drop dst) (a.put dst v) := by
  cases dst with
  | none => exact h
  | some d =>
    refine ⟨by simp [Act.put, h.size], by simp [Act.put, h.defers], fun i u hi => ?_⟩
    simp only [Fr.drop, Fr.del] at hi
    split at hi
    · cases hi
    · rename_i e
      have hne : d ≠ i := fun hh => by rw [hh, Nat.beq_refl] at e; cases e
      simp only [Act.put]
      rw [Array.getElem?_setIfInBounds_ne hne]
      exact h.at_ i u hi

theorem Fits.set {n : Nat} {φ : Fr} {a : Act} (h : Fits n φ a) {d : Nat} {v : Value} (hv : a.tmps[d]? = some v) : Fits n (φ.set d v) a := by
  refine ⟨h.size, h.defers, fun i u hi => ?_⟩
  simp only [Fr.set] at hi
  split at hi
  · rename_i e; obtain rfl := Nat.eq_of_beq_eq_true e; cases hi; exact hv
  · exact h.at_ i u hi

theorem Agree.put {m : Nat} {a : Act} {o : Oper} (hm : ∀ d, o.dst = some d → m.testBit d = true) (v : Value) : Agree m a (a.put o.dst v) := by
  intro i hi
  cases ho : o.dst with
  | none => rfl
  | some d =>
    have hne : d ≠ i := fun hh => by have := hm d ho; rw [hh, hi] at this; cases this
    simp only [Act.put]
    rw [Array.getElem?_setIfInBounds_ne hne]

theorem gIs_wanted {n : Nat} {ops : Array Oper} {φ : Fr} {a : Act} (h : Fits n φ a) {o : Oper} {r : Bool} (hg : gIs ops.toList φ o = some r) : Region.wanted o (yielded ops a.tmps) = r := by
  unfold gIs at hg
  unfold Region.wanted
  split at hg
  · rename_i e; cases hg; rw [e]
  · rename_i g e
    rw [e]
    obtain ⟨j, want⟩ := g
    simp only at hg ⊢
    split at hg
    · cases hg
    · rename_i og hog
      have hog' : ops[j]? = some og := by rw [← hog]; simp
      split at hg
      · cases hg
      · rename_i d hd
        split at hg
        · rename_i b hb
          have ht := h.at_ d _ hb
          have hy : yielded ops a.tmps j = some b := by
            unfold yielded
            simp [hog', hd, ht]
          rw [hy]
          cases b <;> cases want <;> simp only at hg <;> cases hg <;> rfl
        · rename_i vs hb
          have ht := h.at_ d _ hb
          have hy : yielded ops a.tmps j = none := by
            unfold yielded
            simp [hog', hd, ht]
          rw [hy]
          cases hg
          rfl
        · cases hg

theorem pend_out {un : Nat → Nat → Bool} {i : Nat} {K : World → Prop} : ∀ {H : HV} {w : World}, pend un i H K w → (∀ x ∈ H, un x.1 i = true → x.2 w) ∧ K w
  | [], w, h => ⟨fun _ hx => (by cases hx), h⟩
  | x :: r, w, h => by
    simp only [pend] at h
    cases hu : un x.1 i with
    | true =>
      simp only [hu] at h
      obtain ⟨h1, h2⟩ := h
      obtain ⟨h3, h4⟩ := pend_out h2
      refine ⟨fun y hy hyu => ?_, h4⟩
      rcases List.mem_cons.1 hy with rfl | hy
      · exact h1
      · exact h3 y hy hyu
    | false =>
      simp only [hu] at h
      obtain ⟨h3, h4⟩ := pend_out h
      refine ⟨fun y hy hyu => ?_, h4⟩
      rcases List.mem_cons.1 hy with rfl | hy
      · rw [hu] at hyu; cases hyu
      · exact h3 y hy hyu

/-- the held reads of the run, by what the conditions hold -/
def HRel (P : Program) (Hs : Held) (H : HV) : Prop :=
  ∀ x ∈ Hs, (∀ w', x.2.1.run P w' = .ok (.value x.2.2) w') ∨ ∃ p, (x.1, p) ∈ H ∧ ∀ w', p w' → x.2.1.run P w' = .ok (.value x.2.2) w'

theorem vops_sound {T : Tab} {P : Program} (ok : T.Ok P) {n : Nat} {ops : Array Oper} {un : Nat → Nat → Bool} {m : Nat} (hm : ∀ o ∈ ops.toList, ∀ d, o.dst = some d → m.testBit d = true) {K : Fr → World → Prop} {a0 : Act} :
    ∀ (rs : RS) (σ : List Nat) (φ : Fr) (H : HV) (Hs : Held) (a : Act) (w : World), Fits n φ a → HRel P Hs H → Agree m a0 a → vops T P n ops.toList un rs σ φ H K w →
      wpS T.cls P ops un (fun a' w' => ∃ φ', Fits n φ' a' ∧ Agree m a0 a' ∧ K φ' w') σ Hs a w := by
  intro rs
  induction rs with
  | done =>
    intro σ φ H Hs a w hF hH hA h
    cases σ with
    | nil => exact ⟨φ, hF, hA, h⟩
    | cons i σ => exact h.elim
  | op rt r ih =>
    intro σ φ H Hs a w hF hH hA h
    cases σ with
    | nil => exact h.elim
    | cons i σ =>
      simp only [vops] at h
      cases ho : ops.toList[i]? with
      | none => simp only [ho] at h
      | some o =>
        simp only [ho] at h
        have ho' : ops[i]? = some o := by rw [← ho]; simp
        have hmo := hm o (List.mem_of_getElem? ho)
        cases hg : gIs ops.toList φ o with
        | none => simp only [hg] at h
        | some b =>
        cases b with
        | false => simp only [hg] at h
        | true =>
        cases hd : dOk n o with
        | false => simp only [hg, hd] at h
        | true =>
        simp only [hg, hd] at h
        rw [wpS]
        simp only [ho', gIs_wanted hF hg, if_true]
        have hq := quiet_sound ok hF.ev o
        have step : ∀ v H' Hs' w', HRel P Hs' H' → vops T P n ops.toList un r σ (φ.put o.dst v) H' K w' →
            wpS T.cls P ops un (fun a' w' => ∃ φ', Fits n φ' a' ∧ Agree m a0 a' ∧ K φ' w') σ Hs' (a.put o.dst v) w' :=
          fun v H' Hs' w' hr hh => ih σ _ H' Hs' _ w' (hF.put hd v) hr (hA.trans (Agree.put hmo v)) hh
        cases hc : T.cls o.op with
        | free =>
          simp only [hc] at h ⊢
          cases hqq : quiet T P φ.ev o with
          | no => simp only [hqq] at h
          | val v => simp only [hqq] at h hq; exact ⟨v, hq, step v H Hs w hH h⟩
          | cond c f =>
            simp only [hqq] at h hq
            obtain ⟨x, hx, h⟩ := h
            exact ⟨f x, hq x hx, step _ H Hs w hH h⟩
          | read rd f => simp only [hqq] at h
        | read =>
          simp only [hc] at h ⊢
          cases hqq : quiet T P φ.ev o with
          | no => simp only [hqq] at h
          | val v =>
            simp only [hqq] at h hq
            refine ⟨v, hq w, step v H _ w (fun x hx => ?_) h⟩
            rcases List.mem_cons.1 hx with rfl | hx
            · exact .inl hq
            · exact hH x hx
          | cond c f =>
            simp only [hqq] at h hq
            obtain ⟨x, hx, h⟩ := h
            refine ⟨f x, hq x hx w, step _ H _ w (fun y hy => ?_) h⟩
            rcases List.mem_cons.1 hy with rfl | hy
            · exact .inl (hq x hx)
            · exact hH y hy
          | read rd f =>
            simp only [hqq] at h hq
            obtain ⟨x, hx, h⟩ := h
            refine ⟨f x, hq x w hx, step _ _ _ w (fun y hy => ?_) h⟩
            rcases List.mem_cons.1 hy with rfl | hy
            · exact .inr ⟨rd x, List.mem_cons_self, fun w' hw' => hq x w' hw'⟩
            · rcases hH y hy with h | ⟨p, hp, hpw⟩
              · exact .inl h
              · exact .inr ⟨p, List.mem_cons_of_mem _ hp, hpw⟩
        | eff =>
          simp only [hc] at h ⊢
          have he := eff_sound ok hF.ev o (rtOf T o rt) _ a rfl w h
          refine upon_mono (fun a' w' hl => ?_) (fun _ _ _ h => h) he
          obtain ⟨v, rfl, hp⟩ := hl
          obtain ⟨h1, h2⟩ := pend_out hp
          refine ⟨fun x hx hu => ?_, step v H Hs w' hH h2⟩
          rcases hH x hx with h | ⟨p, hp, hpw⟩
          · exact h w'
          · exact hpw w' (h1 _ hp hu)
  | skip r ih =>
    intro σ φ H Hs a w hF hH hA h
    cases σ with
    | nil => exact h.elim
    | cons i σ =>
      simp only [vops] at h
      cases ho : ops.toList[i]? with
      | none => simp only [ho] at h
      | some o =>
        simp only [ho] at h
        have ho' : ops[i]? = some o := by rw [← ho]; simp
        have hmo := hm o (List.mem_of_getElem? ho)
        cases hg : gIs ops.toList φ o with
        | none => simp only [hg] at h
        | some b =>
        cases b with
        | true => simp only [hg] at h
        | false =>
        cases hd : dOk n o with
        | false => simp only [hg, hd] at h
        | true =>
        simp only [hg, hd] at h
        rw [wpS]
        simp only [ho', gIs_wanted hF hg, Bool.false_eq_true, if_false]
        exact ih σ _ H Hs _ w (hF.put hd undef) hH (hA.trans (Agree.put hmo undef)) h
  | split d t e iht ihe =>
    intro σ φ H Hs a w hF hH hA h
    simp only [vops] at h
    cases hd : φ d with
    | none => simp only [hd] at h
    | some v =>
      cases v with
      | bool b =>
        simp only [hd] at h
        have hv := hF.at_ d _ hd
        cases b with
        | true => exact iht σ _ H Hs a w (hF.set hv) hH hA (h.1 rfl)
        | false => exact ihe σ _ H Hs a w (hF.set hv) hH hA (h.2 rfl)
      | _ => simp only [hd] at h
  | float f r _ => intro σ φ H Hs a w hF hH hA h; exact h.elim
  | now r _ => intro σ φ H Hs a w hF hH hA h; exact h.elim
  | both a rt b _ _ => intro σ φ H Hs a w hF hH hA h; exact h.elim

theorem vopsA_sound {T : Tab} {P : Program} (ok : T.Ok P) {n : Nat} {ops : Array Oper} {un : Nat → Nat → Bool} {f : Nat} {bf : Nat → Bool} {m : Nat} (hm : ∀ o ∈ ops.toList, ∀ d, o.dst = some d → m.testBit d = true) {K : Fr → World → Prop} {a0 : Act} :
    ∀ (rs : RS) (σ : List Nat) (φ : Fr) (H : HV) (Hs : Held) (a : Act) (w : World), Fits n φ a → HRel P Hs H → Agree m a0 a → vopsA T P n ops.toList un f bf rs σ φ H K w →
      wpA T.cls P ops un (fun a' w' => ∃ φ', Fits n φ' a' ∧ Agree m a0 a' ∧ K φ' w') f bf σ Hs a w := by
  intro rs
  induction rs with
  | done => intro σ φ H Hs a w hF hH hA h; exact h.elim
  | float f r _ => intro σ φ H Hs a w hF hH hA h; exact h.elim
  | now r _ =>
    intro σ φ H Hs a w hF hH hA h
    cases σ with
    | nil => exact vops_sound ok hm r _ φ H Hs a w hF hH hA h
    | cons i σ =>
      simp only [vopsA] at h
      cases hb : bf i with
      | false => simp only [hb] at h
      | true =>
        simp only [hb] at h
        simp only [wpA, hb]
        exact vops_sound ok hm r _ φ H Hs a w hF hH hA h
  | both x rt r _ ih =>
    intro σ φ H Hs a w hF hH hA h
    cases σ with
    | nil => exact h.elim
    | cons i σ =>
      simp only [vopsA] at h
      cases ho : ops.toList[i]? with
      | none => simp only [ho] at h
      | some o =>
        simp only [ho] at h
        have ho' : ops[i]? = some o := by rw [← ho]; simp
        have hmo := hm o (List.mem_of_getElem? ho)
        cases hb : bf i with
        | true => simp only [hb] at h
        | false =>
        cases hg : gIs ops.toList φ o with
        | none => simp only [hb, hg] at h
        | some b =>
        cases b with
        | false => simp only [hb, hg] at h
        | true =>
        cases hd : dOk n o with
        | false => simp only [hb, hg, hd] at h
        | true =>
        cases hc : T.cls o.op with
        | free => simp only [hb, hg, hd, hc] at h
        | read => simp only [hb, hg, hd, hc] at h
        | eff =>
          simp only [hb, hg, hd, hc] at h
          obtain ⟨hx, h⟩ := h
          have he : isEff T.cls ops i = true := by unfold isEff; simp only [ho', hc]
          simp only [wpA, hb, he]
          refine ⟨vops_sound ok hm x _ φ H Hs a w hF hH hA hx, ?_⟩
          unfold stepS
          simp only [ho', gIs_wanted hF hg, if_true, hc]
          have he := eff_sound ok hF.ev o (rtOf T o rt) _ a rfl w h
          refine upon_mono (fun a' w' hl => ?_) (fun _ _ _ h => h) he
          obtain ⟨v, rfl, hp⟩ := hl
          obtain ⟨h1, h2⟩ := pend_out hp
          refine ⟨fun y hy hu => ?_, ih σ _ H Hs _ w' (hF.put hd v) hH (hA.trans (Agree.put hmo v)) h2⟩
          rcases hH y hy with h | ⟨p, hp, hpw⟩
          · exact h w'
          · exact hpw w' (h1 _ hp hu)
  | op rt r ih =>
    intro σ φ H Hs a w hF hH hA h
    cases σ with
    | nil => exact h.elim
    | cons i σ =>
      simp only [vopsA] at h
      cases ho : ops.toList[i]? with
      | none => simp only [ho] at h
      | some o =>
        simp only [ho] at h
        have ho' : ops[i]? = some o := by rw [← ho]; simp
        have hmo := hm o (List.mem_of_getElem? ho)
        cases hb : bf i with
        | true => simp only [hb] at h
        | false =>
        cases hg : gIs ops.toList φ o with
        | none => simp only [hb, hg] at h
        | some b =>
        cases b with
        | false => simp only [hb, hg] at h
        | true =>
        cases hd : dOk n o with
        | false => simp only [hb, hg, hd] at h
        | true =>
        simp only [hb, hg, hd] at h
        have hq := quiet_sound ok hF.ev o
        have step : ∀ v H' Hs' w', HRel P Hs' H' → vopsA T P n ops.toList un f bf r σ (φ.put o.dst v) H' K w' →
            wpA T.cls P ops un (fun a' w' => ∃ φ', Fits n φ' a' ∧ Agree m a0 a' ∧ K φ' w') f bf σ Hs' (a.put o.dst v) w' :=
          fun v H' Hs' w' hr hh => ih σ _ H' Hs' _ w' (hF.put hd v) hr (hA.trans (Agree.put hmo v)) hh
        cases hc : T.cls o.op with
        | free =>
          have he : isEff T.cls ops i = false := by unfold isEff; simp only [ho', hc]
          simp only [wpA, hb, he]
          unfold stepS
          simp only [ho', gIs_wanted hF hg, if_true, hc] at h ⊢
          cases hqq : quiet T P φ.ev o with
          | no => simp only [hqq] at h
          | val v => simp only [hqq] at h hq; exact ⟨v, hq, step v H Hs w hH h⟩
          | cond c f =>
            simp only [hqq] at h hq
            obtain ⟨x, hx, h⟩ := h
            exact ⟨f x, hq x hx, step _ H Hs w hH h⟩
          | read rd f => simp only [hqq] at h
        | read =>
          have he : isEff T.cls ops i = false := by unfold isEff; simp only [ho', hc]
          simp only [wpA, hb, he]
          unfold stepS
          simp only [ho', gIs_wanted hF hg, if_true, hc] at h ⊢
          cases hqq : quiet T P φ.ev o with
          | no => simp only [hqq] at h
          | val v =>
            simp only [hqq] at h hq
            refine ⟨v, hq w, step v H _ w (fun x hx => ?_) h⟩
            rcases List.mem_cons.1 hx with rfl | hx
            · exact .inl hq
            · exact hH x hx
          | cond c f =>
            simp only [hqq] at h hq
            obtain ⟨x, hx, h⟩ := h
            refine ⟨f x, hq x hx w, step _ H _ w (fun y hy => ?_) h⟩
            rcases List.mem_cons.1 hy with rfl | hy
            · exact .inl (hq x hx)
            · exact hH y hy
          | read rd f =>
            simp only [hqq] at h hq
            obtain ⟨x, hx, h⟩ := h
            refine ⟨f x, hq x w hx, step _ _ _ w (fun y hy => ?_) h⟩
            rcases List.mem_cons.1 hy with rfl | hy
            · exact .inr ⟨rd x, List.mem_cons_self, fun w' hw' => hq x w' hw'⟩
            · rcases hH y hy with h | ⟨p, hp, hpw⟩
              · exact .inl h
              · exact .inr ⟨p, List.mem_cons_of_mem _ hp, hpw⟩
        | eff => simp only [hc] at h
  | skip r ih =>
    intro σ φ H Hs a w hF hH hA h
    cases σ with
    | nil => exact h.elim
    | cons i σ =>
      simp only [vopsA] at h
      cases ho : ops.toList[i]? with
      | none => simp only [ho] at h
      | some o =>
        simp only [ho] at h
        have ho' : ops[i]? = some o := by rw [← ho]; simp
        have hmo := hm o (List.mem_of_getElem? ho)
        cases hb : bf i with
        | true => simp only [hb] at h
        | false =>
        cases hg : gIs ops.toList φ o with
        | none => simp only [hb, hg] at h
        | some b =>
        cases b with
        | true => simp only [hb, hg] at h
        | false =>
        cases hd : dOk n o with
        | false => simp only [hb, hg, hd] at h
        | true =>
        simp only [hb, hg, hd] at h
        have go : isEff T.cls ops i = false → vopsA T P n ops.toList un f bf r σ (φ.put o.dst undef) H K w → wpA T.cls P ops un (fun a' w' => ∃ φ', Fits n φ' a' ∧ Agree m a0 a' ∧ K φ' w') f bf (i :: σ) Hs a w := fun he h => by
          simp only [wpA, hb, he]
          unfold stepS
          simp only [ho', gIs_wanted hF hg, Bool.false_eq_true, if_false]
          exact ih σ _ H Hs _ w (hF.put hd undef) hH (hA.trans (Agree.put hmo undef)) h
        cases hc : T.cls o.op with
        | eff => simp only [hc] at h
        | free => simp only [hc] at h; exact go (by unfold isEff; simp only [ho', hc]) h
        | read => simp only [hc] at h; exact go (by unfold isEff; simp only [ho', hc]) h
  | split d t e iht ihe =>
    intro σ φ H Hs a w hF hH hA h
    simp only [vopsA] at h
    cases hd : φ d with
    | none => simp only [hd] at h
    | some v =>
      cases v with
      | bool b =>
        simp only [hd] at h
        have hv := hF.at_ d _ hd
        cases b with
        | true => exact iht σ _ H Hs a w (hF.set hv) hH hA (h.1 rfl)
        | false => exact ihe σ _ H Hs a w (hF.set hv) hH hA (h.2 rfl)
      | _ => simp only [hd] at h

/- the whole text -/
@[reducible] def Slots.T : List (Nat × Ty) → Type
  | [] => Unit
  | x :: r => x.2.T × Slots.T r

def rdTys : (tys : List (Nat × Ty)) → Fr → (Slots.T tys → World → Prop) → World → Prop
  | [], _, K => K ()
  | x :: r, φ, K => match φ x.1 with
    | none => fun _ => False
    | some v => match x.2.of v with
      | none => fun _ => False
      | some y => rdTys r φ fun s => K (y, s)

def Fr.cut (φ : Fr) (kill : Nat) : (tys : List (Nat × Ty)) → Slots.T tys → Fr
  | [], _ => fun i => match kill.testBit i with | true => none | false => φ i
  | x :: r, s => (Fr.cut φ kill r s.2).set x.1 (x.2.val s.1)

/-- a place where ways meet -/
def join {S : Type} (body : (S → World → Prop) → World → Prop) (rest : S → World → Prop) : World → Prop :=
  fun w => ∃ J : S → World → Prop, body J w ∧ ∀ s w', J s w' → rest s w'

/-- a loop, from what it begins with -/
def sloop {S : Type} (body : S → (S → World → Prop) → World → Prop) (s0 : S) : World → Prop :=
  fun w => ∃ (I : S → World → Prop) (μ : S → World → Nat), I s0 w ∧ ∀ s w', I s w' → body s (fun s' w'' => I s' w'' ∧ μ s' w'' < μ s w') w'

def drew (K : World → Prop) : World → Prop := fun w => K w.drew

inductive Hint where
  | leaf
  | seq (cut : Option (Nat × List (Nat × Ty))) (a b : Hint)
  | cond (k : Option Bool) (a b : Hint)
  | block (a : Hint)
  | loop (kill : Nat) (tys : List (Nat × Ty)) (a : Hint)
  | region (σ : List Nat) (rs : RS)

structure Ks where
  normal : Fr → World → Prop
  exit : Nat → Fr → World → Prop
  ret : Fr → World → Prop

def maskOps : List Oper → Nat
  | [] => 0
  | o :: r => match o.dst with | some d => (1 <<< d) ||| maskOps r | none => maskOps r

def maskC : Code → Nat
  | .region _ ops _ => maskOps ops.toList
  | .seq a b => maskC a ||| maskC b
  | .cond _ a b => maskC a ||| maskC b
  | .block _ a => maskC a
  | .loop a => maskC a
  | _ => 0

/-- the numbers that are bound ahead of each -/
def bef : List Oper → List Nat → List Nat
  | [], acc => acc
  | o :: r, acc => bef r (acc ++ [o.after.toList.foldl (fun s e => match Region.binds .any e with
      | true => s ||| (1 <<< e.on) ||| (match acc[e.on]? with | some x => x | none => 0)
      | false => s) 0])

def befOf (l : List Nat) (i : Nat) : Nat := match l[i]? with | some x => x | none => 0

def covers (kill m : Nat) : Bool := Nat.beq (m &&& kill) m

def vcg (T : Tab) (P : Program) (n : Nat) : Code → Hint → Fr → Ks → World → Prop
  | .skip, _, φ, k => k.normal φ
  | .region _ ops draw, h, φ, k => match h with
    | .region σ rs => match draw with
      | false => vops T P n ops.toList (fun _ _ => false) rs (List.range ops.size) φ [] k.normal
      | true => match rs with
        | .float f r => (match orderF T.cls ops (befOf (bef ops.toList [])) f σ with
          | true => drew (vopsA T P n ops.toList (fun x i => !(befOf (bef ops.toList []) i).testBit x) f (fun i => (befOf (bef ops.toList []) i).testBit f) r σ φ [] k.normal)
          | false => fun _ => False)
        | rs => match orderOk T.cls ops (befOf (bef ops.toList [])) σ with
          | true => drew (vops T P n ops.toList (fun x i => !(befOf (bef ops.toList []) i).testBit x) rs σ φ [] k.normal)
          | false => fun _ => False
    | _ => fun _ => False
  | .seq a b, h, φ, k => match h with
    | .seq cut ha hb => match cut with
      | none => vcg T P n a ha φ ⟨fun φ' => vcg T P n b hb φ' k, k.exit, k.ret⟩
      | some c => match covers c.1 (maskC a) with
        | true => join (fun J => vcg T P n a ha φ ⟨fun φ' => rdTys c.2 φ' J, k.exit, k.ret⟩) (fun s => vcg T P n b hb (φ.cut c.1 c.2 s) k)
        | false => fun _ => False
    | _ => fun _ => False
  | .cond c a b, h, φ, k => match h with
    | .cond q ha hb => match φ.ev c with
      | some (.bool t) => match q with
        | none => sif t (vcg T P n a ha φ k) (vcg T P n b hb φ k)
        | some true => (match t with | true => vcg T P n a ha φ k | false => fun _ => False)
        | some false => (match t with | false => vcg T P n b hb φ k | true => fun _ => False)
      | _ => fun _ => False
    | _ => fun _ => False
  | .block id a, h, φ, k => match h with
    | .block ha => vcg T P n a ha φ ⟨k.normal, fun i φ' => match Nat.beq i id with | true => k.normal φ' | false => k.exit i φ', k.ret⟩
    | _ => fun _ => False
  | .loop a, h, φ, k => match h with
    | .loop kill tys ha => match covers kill (maskC a) with
      | true => rdTys tys φ (sloop fun s again => vcg T P n a ha (φ.cut kill tys s) ⟨fun φ' => rdTys tys φ' again, k.exit, k.ret⟩)
      | false => fun _ => False
    | _ => fun _ => False
  | .exit i, _, φ, k => k.exit i φ
  | .ret, _, φ, k => k.ret φ
  | _, _, _, _ => fun _ => False

/-- what the run ends in -/
def Ks.post (k : Ks) (n m : Nat) (a0 : Act) : Exit → Act → World → Prop
  | .normal, a, w => ∃ φ, Fits n φ a ∧ Agree m a0 a ∧ k.normal φ w
  | .exit i, a, w => ∃ φ, Fits n φ a ∧ Agree m a0 a ∧ k.exit i φ w
  | .ret, a, w => ∃ φ, Fits n φ a ∧ k.ret φ w
  | _, _, _ => False

theorem testBit_one (d i : Nat) : (1 <<< d).testBit i = decide (d = i) := by
  rw [Nat.one_shiftLeft]
  exact Nat.testBit_two_pow

theorem maskOps_ok (l : List Oper) : ∀ {o : Oper}, o ∈ l → ∀ d, o.dst = some d → (maskOps l).testBit d = true := by
  induction l with
  | nil => intro o h; cases h
  | cons x r ih =>
    intro o h d hd
    rcases List.mem_cons.1 h with rfl | h
    · simp only [maskOps, hd, Nat.testBit_or, testBit_one, decide_true, Bool.true_or]
    · have := ih h d hd
      simp only [maskOps]
      cases x.dst with
      | none => exact this
      | some e => simp only [Nat.testBit_or, this, Bool.or_true]

theorem covers_ok {kill m i : Nat} (h : covers kill m = true) (hi : m.testBit i = true) : kill.testBit i = true := by
  have e : m &&& kill = m := Nat.eq_of_beq_eq_true h
  have : (m &&& kill).testBit i = (m.testBit i && kill.testBit i) := Nat.testBit_and m kill i
  rw [e, hi] at this
  simpa using this.symm

theorem rdTys_out : ∀ {tys : List (Nat × Ty)} {φ : Fr} {K : Slots.T tys → World → Prop} {w : World}, rdTys tys φ K w →
    ∃ s, K s w ∧ ∀ {n : Nat} {ψ : Fr} {a : Act} {kill : Nat}, Fits n φ a → Fits n (fun i => match kill.testBit i with | true => none | false => ψ i) a → Fits n (ψ.cut kill tys s) a
  | [], φ, K, w, h => ⟨(), h, fun _ h => h⟩
  | x :: r, φ, K, w, h => by
    simp only [rdTys] at h
    cases hx : φ x.1 with
    | none => simp only [hx] at h
    | some v =>
      simp only [hx] at h
      cases hy : x.2.of v with
      | none => simp only [hy] at h
      | some y =>
        simp only [hy] at h
        obtain ⟨s, hs, hf⟩ := rdTys_out h
        refine ⟨(y, s), hs, fun hF hψ => ?_⟩
        refine (hf hF hψ).set ?_
        rw [hF.at_ _ _ hx, Ty.of_val hy]

theorem wp_loop_ghost {P : Program} {Q : Exit → Act → World → Prop} {c : Code} {S : Type} (R : S → Act → World → Prop) (μ : S → World → Nat) {s : S} {a : Act} {w : World} (h₀ : R s a w)
    (round : ∀ s a w, R s a w → c.wp P (Exit.then (fun a' w' => ∃ s', R s' a' w' ∧ μ s' w' < μ s w) Q) a w) : (Code.loop c).wp P Q a w := by
  intro b k cs
  have key : ∀ n s a w, μ s w = n → R s a w →
      ∃ e a' w', Q e a' w' ∧ Arrives P (lone (b.at a (.code c :: .inLoop c :: k)) cs w) b k cs e a' w' := by
    intro n
    induction n using Nat.strongRecOn with
    | _ n ih =>
      intro s a w hn hI
      obtain ⟨e, a₁, w₁, hq, harr⟩ := round s a w hI b (.inLoop c :: k) cs
      cases e with
      | normal =>
        obtain ⟨s', hI₁, hlt⟩ := hq
        obtain ⟨e₂, a₂, w₂, hq₂, harr₂⟩ := ih (μ s' w₁) (hn ▸ hlt) s' a₁ w₁ rfl hI₁
        exact ⟨e₂, a₂, w₂, hq₂, .of_steps (Steps.trans harr (.one step_inLoop)) harr₂⟩
      | exit id => exact ⟨_, a₁, w₁, hq, .pass (x := .inLoop c) rfl (fun _ _ => .inl (by simp)) harr⟩
      | goto l => exact ⟨_, a₁, w₁, hq, .pass (x := .inLoop c) rfl (fun _ _ => .inl (by simp)) harr⟩
      | ret => exact ⟨_, a₁, w₁, hq, .pass (x := .inLoop c) rfl (fun _ _ => .inl (by simp)) harr⟩
      | panic ch => exact ⟨_, a₁, w₁, hq, .pass (x := .inLoop c) rfl (fun _ _ => .inl (by simp)) harr⟩
      | outgrown => exact ⟨_, a₁, w₁, hq, .pass (x := .inLoop c) rfl (fun _ _ => .inl (by simp)) harr⟩
  obtain ⟨e, a', w', hq, harr⟩ := key _ s a w rfl h₀
  exact ⟨e, a', w', hq, .of_steps (.one step_loop) harr⟩

theorem vcg_sound {T : Tab} {P : Program} (ok : T.Ok P) {n : Nat} : ∀ (c : Code) (h : Hint) (φ : Fr) (k : Ks) (a : Act) (w : World), Fits n φ a → vcg T P n c h φ k w → c.wp P (k.post n (maskC c) a) a w := by
  intro c
  induction c with
  | skip => intro h φ k a w hF hv; exact wp_skip ⟨φ, hF, Agree.refl _ _, hv⟩
  | exit i => intro h φ k a w hF hv; exact wp_exit ⟨φ, hF, Agree.refl _ _, hv⟩
  | ret => intro h φ k a w hF hv; exact wp_ret ⟨φ, hF, hv⟩
  | region id ops draw =>
    intro h φ k a w hF hv
    cases h with
    | region σ rs =>
      simp only [vcg] at hv
      cases draw with
      | false =>
        simp only at hv
        have := vops_sound ok (un := fun _ _ => false) (m := maskOps ops.toList) (a0 := a) (fun o ho d hd => maskOps_ok _ ho d hd) rs _ φ [] [] a w hF (fun x hx => by cases hx) (Agree.refl _ _) hv
        exact wp_region (wpOps_of_wpS (fun a' w' hq => hq) _ _ _ _ this)
      | true =>
        have plain : (match orderOk T.cls ops (befOf (bef ops.toList [])) σ with
          | true => drew (vops T P n ops.toList (fun x i => !(befOf (bef ops.toList []) i).testBit x) rs σ φ [] k.normal)
          | false => fun _ => False) w → (Code.region id ops true).wp P (k.post n (maskC (.region id ops true)) a) a w := fun hv => by
         cases ho : orderOk T.cls ops (befOf (bef ops.toList [])) σ with
         | false => simp only [ho] at hv
         | true =>
          simp only [ho] at hv
          have := vops_sound ok (un := fun x i => !(befOf (bef ops.toList []) i).testBit x) (m := maskOps ops.toList) (a0 := a) (fun o ho d hd => maskOps_ok _ ho d hd) rs σ φ [] [] a w.drew hF (fun x hx => by cases hx) (Agree.refl _ _) hv
          exact wp_region_one ok.mixed ho (fun a' w' hq => hq) this
        cases rs with
        | float f r =>
          simp only at hv
          cases ho : orderF T.cls ops (befOf (bef ops.toList [])) f σ with
          | false => simp only [ho] at hv
          | true =>
            simp only [ho] at hv
            have := vopsA_sound ok (un := fun x i => !(befOf (bef ops.toList []) i).testBit x) (f := f) (bf := fun i => (befOf (bef ops.toList []) i).testBit f) (m := maskOps ops.toList) (a0 := a) (fun o ho d hd => maskOps_ok _ ho d hd) r σ φ [] [] a w.drew hF (fun x hx => by cases hx) (Agree.refl _ _) hv
            exact wp_region_float ok.mixed ho (fun a' w' hq => hq) this
        | done => exact plain hv
        | op rt r => exact plain hv
        | skip r => exact plain hv
        | split d t e => exact plain hv
        | now r => exact plain hv
        | both a rt r => exact plain hv
    | _ => exact False.elim hv
  | seq x y ihx ihy =>
    intro h φ k a w hF hv
    cases h with
    | seq cut ha hb =>
      simp only [vcg] at hv
      have ml : ∀ i, (maskC x).testBit i = true → (maskC (.seq x y)).testBit i = true := fun i hi => by simp [maskC, Nat.testBit_or, hi]
      have mr : ∀ i, (maskC y).testBit i = true → (maskC (.seq x y)).testBit i = true := fun i hi => by simp [maskC, Nat.testBit_or, hi]
      have rest : ∀ (a' : Act) (w' : World), Agree (maskC x) a a' → y.wp P (k.post n (maskC y) a') a' w' → y.wp P (k.post n (maskC (.seq x y)) a) a' w' := by
        intro a' w' hA hw
        refine wp_mono hw fun e a'' w'' hq => ?_
        cases e with
        | normal => obtain ⟨φ', h1, h2, h3⟩ := hq; exact ⟨φ', h1, (hA.mono ml).trans (h2.mono mr), h3⟩
        | exit i => obtain ⟨φ', h1, h2, h3⟩ := hq; exact ⟨φ', h1, (hA.mono ml).trans (h2.mono mr), h3⟩
        | ret => exact hq
        | _ => exact hq.elim
      cases cut with
      | none =>
        simp only at hv
        refine wp_seq (wp_mono (ihx ha φ _ a w hF hv) fun e a' w' hq => ?_)
        cases e with
        | normal => obtain ⟨φ', h1, h2, h3⟩ := hq; exact rest a' w' h2 (ihy hb φ' k a' w' h1 h3)
        | exit i => obtain ⟨φ', h1, h2, h3⟩ := hq; exact ⟨φ', h1, h2.mono ml, h3⟩
        | ret => exact hq
        | _ => exact hq.elim
      | some c =>
        simp only at hv
        cases hc : covers c.1 (maskC x) with
        | false => simp only [hc] at hv
        | true =>
          simp only [hc] at hv
          obtain ⟨J, hv, hJ⟩ := hv
          refine wp_seq (wp_mono (ihx ha φ _ a w hF hv) fun e a' w' hq => ?_)
          cases e with
          | normal =>
            obtain ⟨φ', h1, h2, h3⟩ := hq
            obtain ⟨s, hs, hf⟩ := rdTys_out h3
            refine rest a' w' h2 (ihy hb _ k a' w' (hf (ψ := φ) (kill := c.1) h1 ⟨h1.size, h1.defers, fun i v hi => ?_⟩) (hJ s w' hs))
            split at hi
            · cases hi
            · rename_i hki
              have hm : (maskC x).testBit i = false := by
                cases hm : (maskC x).testBit i with
                | false => rfl
                | true => rw [covers_ok hc hm] at hki; cases hki
              rw [h2 i hm]; exact hF.at_ i v hi
          | exit i => obtain ⟨φ', h1, h2, h3⟩ := hq; exact ⟨φ', h1, h2.mono ml, h3⟩
          | ret => exact hq
          | _ => exact hq.elim
    | _ => exact False.elim hv
  | cond c x y ihx ihy =>
    intro h φ k a w hF hv
    cases h with
    | cond q ha hb =>
      simp only [vcg] at hv
      have ml : ∀ i, (maskC x).testBit i = true → (maskC (.cond c x y)).testBit i = true := fun i hi => by simp [maskC, Nat.testBit_or, hi]
      have mr : ∀ i, (maskC y).testBit i = true → (maskC (.cond c x y)).testBit i = true := fun i hi => by simp [maskC, Nat.testBit_or, hi]
      have up : ∀ (m : Nat) e a' w', (∀ i, m.testBit i = true → (maskC (.cond c x y)).testBit i = true) → k.post n m a e a' w' → k.post n (maskC (.cond c x y)) a e a' w' := by
        intro m e a' w' hm hq
        cases e with
        | normal => obtain ⟨φ', h1, h2, h3⟩ := hq; exact ⟨φ', h1, h2.mono hm, h3⟩
        | exit i => obtain ⟨φ', h1, h2, h3⟩ := hq; exact ⟨φ', h1, h2.mono hm, h3⟩
        | ret => exact hq
        | _ => exact hq.elim
      cases he : φ.ev c with
      | none => simp only [he] at hv
      | some v =>
        cases v with
        | bool t =>
          simp only [he] at hv
          have hev := hF.ev c _ he
          refine wp_cond (t := t) hev ?_
          cases q with
          | none =>
            cases t with
            | true => exact wp_mono (ihx ha φ k a w hF (hv.1 rfl)) fun e a' w' hq => up _ e a' w' ml hq
            | false => exact wp_mono (ihy hb φ k a w hF (hv.2 rfl)) fun e a' w' hq => up _ e a' w' mr hq
          | some q =>
            cases q with
            | true =>
              cases t with
              | true => exact wp_mono (ihx ha φ k a w hF hv) fun e a' w' hq => up _ e a' w' ml hq
              | false => exact hv.elim
            | false =>
              cases t with
              | false => exact wp_mono (ihy hb φ k a w hF hv) fun e a' w' hq => up _ e a' w' mr hq
              | true => exact hv.elim
        | _ => simp only [he] at hv
    | _ => exact False.elim hv
  | block id x ih =>
    intro h φ k a w hF hv
    cases h with
    | block ha =>
      simp only [vcg] at hv
      refine wp_block (wp_mono (ih ha φ _ a w hF hv) fun e a' w' hq => ?_)
      cases e with
      | normal => exact hq
      | exit i =>
        obtain ⟨φ', h1, h2, h3⟩ := hq
        by_cases hi : i = id
        · subst hi
          simp only [Nat.beq_refl] at h3
          simp only [Exit.inBlock, if_true]
          exact ⟨φ', h1, h2, h3⟩
        · have hb : Nat.beq i id = false := by
            cases hb : Nat.beq i id with
            | false => rfl
            | true => exact absurd (Nat.eq_of_beq_eq_true hb) hi
          simp only [hb] at h3
          simp only [Exit.inBlock, if_neg hi]
          exact ⟨φ', h1, h2, h3⟩
      | ret => exact hq
      | _ => exact hq.elim
    | _ => exact False.elim hv
  | loop x ih =>
    intro h φ k a w hF hv
    cases h with
    | loop kill tys ha =>
      simp only [vcg] at hv
      cases hc : covers kill (maskC x) with
      | false => simp only [hc] at hv
      | true =>
        simp only [hc] at hv
        obtain ⟨s0, ⟨I, μ, h0, hround⟩, hf⟩ := rdTys_out hv
        have out : ∀ {a' : Act}, Agree (maskC x) a a' → (a'.tmps.size = n) → a'.defers = [] → Fits n (fun i => match kill.testBit i with | true => none | false => φ i) a' := by
          intro a' hA hs hd
          refine ⟨hs, hd, fun i v hi => ?_⟩
          split at hi
          · cases hi
          · rename_i hki
            have hm : (maskC x).testBit i = false := by
              cases hm : (maskC x).testBit i with
              | false => rfl
              | true => rw [covers_ok hc hm] at hki; cases hki
            rw [hA i hm]; exact hF.at_ i v hi
        refine wp_loop_ghost (S := Slots.T tys) (fun s a' w' => Fits n (φ.cut kill tys s) a' ∧ Agree (maskC x) a a' ∧ I s w') μ (s := s0) ⟨hf hF (out (Agree.refl _ _) hF.size hF.defers), Agree.refl _ _, h0⟩ ?_
        rintro s a' w' ⟨hF', hA', hI⟩
        refine wp_mono (ih ha _ _ a' w' hF' (hround s w' hI)) fun e a'' w'' hq => ?_
        cases e with
        | normal =>
          obtain ⟨φ', h1, h2, h3⟩ := hq
          obtain ⟨s', ⟨hs1, hs2⟩, hf'⟩ := rdTys_out h3
          exact ⟨s', ⟨hf' h1 (out (hA'.trans h2) h1.size h1.defers), hA'.trans h2, hs1⟩, hs2⟩
        | exit i => obtain ⟨φ', h1, h2, h3⟩ := hq; exact ⟨φ', h1, hA'.trans h2, h3⟩
        | ret => exact hq
        | _ => exact hq.elim
    | _ => exact False.elim hv
  | rangeFunc => intro h φ k a w hF hv; exact False.elim hv
  | scope => intro h φ k a w hF hv; exact False.elim hv
  | label => intro h φ k a w hF hv; exact False.elim hv
  | goto => intro h φ k a w hF hv; exact False.elim hv
  | refuse => intro h φ k a w hF hv; exact False.elim hv

/-- the results -/
def vres (T : Tab) : List ResultVar → Fr → (List Value → World → Prop) → World → Prop
  | [], _, K => K []
  | .tmp t :: r, φ, K => match φ t with
    | some v => vres T r φ fun l => K (v :: l)
    | none => fun _ => False
  | .cell a t :: r, φ, K => match φ a with
    | some (.pointer (some p)) => match loadQ T t p with
      | .read rd f => rdE rd fun x => vres T r φ fun l => K (f x :: l)
      | _ => fun _ => False
    | _ => fun _ => False

def vfin (t : RTy) (K : t.T → World → Prop) (l : List Value) : World → Prop :=
  match (match l with | [v] => t.of v | l => t.of (.tuple l.toArray)) with
  | some x => K x
  | none => fun _ => False

def Fr.init (args : List Value) : Fr := fun i => args[i]?

def vcgF (T : Tab) (P : Program) (fn : Func) (h : Hint) (args : List Value) (t : RTy) (K : t.T → World → Prop) : World → Prop :=
  match fn.body, Nat.ble args.length fn.ntmps with
  | some c, true => vcg T P fn.ntmps c h (Fr.init args) ⟨fun φ => vres T fn.results.toList φ (vfin t K), fun _ _ _ => False, fun φ => vres T fn.results.toList φ (vfin t K)⟩
  | _, _ => fun _ => False

theorem vres_out {T : Tab} {P : Program} (ok : T.Ok P) {n : Nat} {φ : Fr} {a : Act} (hF : Fits n φ a) : ∀ {rs : List ResultVar} {K : List Value → World → Prop} {w : World}, vres T rs φ K w →
    ∃ l, K l w ∧ l.length = rs.length ∧ (rs.mapM (fun | .tmp t => pure (a.tmps.getD t undef) | .cell x t => do loadVar t (← asAddr (a.tmps.getD x undef)) : ResultVar → Sem Value)).run P w = .ok l w
  | [], K, w, h => ⟨[], h, rfl, rfl⟩
  | .tmp t :: r, K, w, h => by
    simp only [vres] at h
    cases hv : φ t with
    | none => simp only [hv] at h
    | some v =>
      simp only [hv] at h
      obtain ⟨l, hl, hn, hr⟩ := vres_out ok hF h
      have := hF.ev (.tmp t) v hv
      simp only [Act.eval] at this
      refine ⟨v :: l, hl, by simp [hn], ?_⟩
      rw [List.mapM_cons]
      simp only [Sem.run_bind, Sem.run_pure, Result.andThen_ok, this, hr]
  | .cell x t :: r, K, w, h => by
    simp only [vres] at h
    cases hv : φ x with
    | none => simp only [hv] at h
    | some v =>
      cases v with
      | pointer p =>
        cases p with
        | none => simp only [hv] at h
        | some p =>
          simp only [hv] at h
          have hq := loadQ_ok ok t p
          cases hl : loadQ T t p with
          | read rd f =>
            simp only [hl] at h hq
            obtain ⟨y, hy, h⟩ := h
            obtain ⟨l, hl, hn, hr⟩ := vres_out ok hF h
            have := hF.ev (.tmp x) _ hv
            simp only [Act.eval] at this
            have hq' := hq y w hy
            have hld : (loadVar t p).run P w = .ok (f y) w := by
              cases hlr : (loadVar t p).run P w with
              | ok v' w' => simp [Instr.loadAt, Instr.sureAddr, hlr] at hq'; simp [hq']
              | halt x w' => simp [Instr.loadAt, Instr.sureAddr, hlr] at hq'
            refine ⟨f y :: l, hl, by simp [hn], ?_⟩
            rw [List.mapM_cons]
            have hA : (asAddr (.pointer (some p))).run P w = .ok p w := rfl
            simp only [Sem.run_bind, Sem.run_pure, Result.andThen_ok, this, hA, hld, hr]
          | _ => simp only [hl] at h
      | _ => simp only [hv] at h

theorem vcgF_sound {T : Tab} {P : Program} (ok : T.Ok P) {f : FuncId} {fn : Func} (hf : P.funcs[f]? = some fn) (h : Hint) (args : List Value) (t : RTy) (K : t.T → World → Prop) (w : World)
    (hv : vcgF T P fn h args t K w) : callT P f args.toArray t K w := by
  unfold vcgF at hv
  cases hb : fn.body with
  | none => simp only [hb] at hv
  | some c =>
  cases hs : Nat.ble args.length fn.ntmps with
  | false => simp only [hb, hs] at hv
  | true =>
  simp only [hb, hs] at hv
  have hs' := Nat.le_of_ble_eq_true hs
  have fin : ∀ (φ : Fr) (a : Act) (w' : World), Fits fn.ntmps φ a → vres T fn.results.toList φ (vfin t K) w' →
      a.defers = [] ∧ ∃ v, (results fn a.tmps).run P w' = .ok v w' ∧ ∃ x, Ending.returned v = .returned (t.val x) ∧ K x w' := by
    intro φ a w' hF hr
    obtain ⟨l, hl, hn, hm⟩ := vres_out ok hF hr
    refine ⟨hF.defers, ?_⟩
    have hres : (results fn a.tmps).run P w' = .ok (match l with | [v] => v | l => .tuple l.toArray) w' := by
      unfold results
      have hm2 : (fn.results.mapM (fun | .tmp t => pure (a.tmps.getD t undef) | .cell x t => do loadVar t (← asAddr (a.tmps.getD x undef)) : ResultVar → Sem Value)).run P w' = .ok l.toArray w' := by
        have e : fn.results = fn.results.toList.toArray := by simp
        rw [e, List.mapM_toArray, Sem.run_map, hm]; rfl
      refine (Sem.run_bind P w' _ _).trans ?_
      refine (congrArg (fun r => Result.andThen r _) hm2).trans ?_
      simp only [Result.andThen_ok]
      match l with
      | [] => rfl
      | [v] => rfl
      | v :: u :: r => rfl
    refine ⟨_, hres, ?_⟩
    unfold vfin at hl
    match l with
    | [] =>
      simp only at hl ⊢
      cases hx : t.of (.tuple ([] : List Value).toArray) with
      | none => simp only [hx] at hl
      | some x => simp only [hx] at hl; exact ⟨x, by rw [RTy.of_val hx], hl⟩
    | [v] =>
      simp only at hl ⊢
      cases hx : t.of v with
      | none => simp only [hx] at hl
      | some x => simp only [hx] at hl; exact ⟨x, by rw [RTy.of_val hx], hl⟩
    | v :: u :: r =>
      simp only at hl ⊢
      cases hx : t.of (.tuple (v :: u :: r).toArray) with
      | none => simp only [hx] at hl
      | some x => simp only [hx] at hl; exact ⟨x, by rw [RTy.of_val hx], hl⟩
  unfold callT
  refine calls_of_wp hf hb (wp_mono (vcg_sound ok c h _ _ _ w ⟨?_, rfl, fun i v hi => ?_⟩ hv) fun e a' w' hq => ?_)
  · simp; omega
  · simp only [Fr.init] at hi
    have hlt : i < args.length := (List.getElem?_eq_some_iff.1 hi).1
    rw [Array.getElem?_append_left (by simpa using hlt)]
    simpa using hi
  · cases e with
    | normal => obtain ⟨φ, h1, h2, h3⟩ := hq; exact fin φ a' w' h1 h3
    | exit i => obtain ⟨φ, h1, h2, h3⟩ := hq; exact h3.elim
    | ret => obtain ⟨φ, h1, h3⟩ := hq; exact fin φ a' w' h1 h3
    | _ => exact hq.elim

#print axioms vcgF_sound
end Go.Vx
