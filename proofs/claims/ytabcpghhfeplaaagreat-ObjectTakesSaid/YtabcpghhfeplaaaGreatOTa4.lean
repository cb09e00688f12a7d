/- YtabcpghhfeplaaaGreatOTa4: parts of the proof, put together by program. -/
import Derived.Test.YtabcpghhfeplaaaGreatOTa3
set_option linter.unusedVariables false
set_option linter.unusedSimpArgs false
set_option linter.unusedSectionVars false
noncomputable section
set_option maxRecDepth 100000
namespace Go.Proofs.YtabcpghhfeplaaaGreat
open Go Go.Vx Trx
section
variable {w w' : World} {S : Nat -> Prop}
theorem Af9 {t : Tr} {k n : Nat} (hk : k < 2) (hn : 0 < n) (ht : t.In w) (hf : Fine t.items) {K : Int -> Wp} (hK : ∀ w', Ext w w' -> K ((Yg k n t.items : Nat) : Int) w') :
  Ac Tryz.prog 90 #[trV t, .int .i64 (k : Int), .int .i64 (n : Int)] rI K w := by
 refine A90 (a0 := (t.ptr, ())) ?_
 unfold F90
 have few := hf.few
 refine (St.start w).Af λ b1 w1 S1 e1 => Aa (λ h => ?_) (λ _ => S1.Af λ b2 w2 S2 e2 => ?_)
 ·simp only [decide_eq_true_eq] at h; omega
 let z1 : Nat × Obj := (b1, .cells (Cells.vals c105 (t.ptr, ())).toArray 105 (0, 0))
 refine Ae (λ x w' => x = ((t.items.length : Int), ()) /\ Yg k n t.items = t.items.length + 1 /\ Ext w w') ?_ ?_
 ·refine S2.ld 1 rfl (x := t.ptr) rfl ?_
  refine Am (λ x w' => ∃ (t' : Tr) (a r : List Pc), x = ((a.length : Int), t'.ptr, ()) /\ t'.In w /\ t.items = a ++ (t'.items ++ r) /\ (∀ i, i <= a.length -> keyOf k (tot (t.items.take i)) < n) /\ (r = [] \/ n <= keyOf k (tot (a ++ t'.items))) /\
   St (λ _ => False) w w' [(b2, .cells (Cells.vals Ap (smT (tot a))).toArray 110 (0, 0)), z1]) (λ x w' => Bs7 w' x.2.1) ⟨t, [], [], rfl, ht, by simp, λ i hi => ?_, .inl rfl, S2⟩ ?_
  ·have : i = 0 := by simpa using hi
   subst this
   unfold keyOf; split <;> exact hn
  rintro _ w5 ⟨t', a, r, rfl, htw, eq, hlow, hr, S5⟩
  have ht' := htw.ext S5.upd
  have hfa := (eq ▸ hf.ok).left
  have okta := Gy hfa
  cases t' with
  | nil =>
   refine Aa (λ h => by cases h) (λ _ => ?_)
   have hr' : r = [] := by
    rcases hr with h | h
    ·exact h
    ·have := hlow a.length (Nat.le_refl _)
     rw [eq, List.take_left] at this
     simp only [Tr.items, List.append_nil] at h
     omega
   subst hr'
   have el : t.items = a := by rw [eq]; simp [Tr.items]
   refine ⟨by rw [el], ?_, S5.upd⟩
   exact Ay4 λ i hi => hlow i (by rw [← el]; exact hi)
  | node b l x rr =>
   have hti : (Tr.node b l x rr).items = l.items ++ x :: rr.items := rfl
   have hft : Fine (Tr.node b l x rr).items := Fine.part hf eq
   have okl : Cb l.items := hft.ok.left
   have okx : x.sm.Ok := hft.ok.right.head
   have okr : Cb rr.items := hft.ok.right.tail
   have sl := Dk l
   have small := hf.small
   rw [eq, Dc hfa (eq ▸ hf.ok).right, Dc (eq ▸ hf.ok).right.left (eq ▸ hf.ok).right.right] at small
   have sm2 : (tot (Tr.node b l x rr).items).bytes = (tot l.items).bytes + (x.sm.bytes + (tot rr.items).bytes) := by
    rw [hti, Dc okl (Cb.cons okx okr)]
    have ex : x :: rr.items = [x] ++ rr.items := rfl
    rw [ex, Dc (Cb.one okx) okr, Uj okx]
   have lens : t.items.length = a.length + (l.items.length + (1 + rr.items.length) + r.length) := by rw [eq, hti]; simp; omega
   have okm := Ce.Zw okta (Gy okl)
   have bm := (Ce.Nr _ _ okta (Gy okl)).1
   have el : (tot a).add (tot l.items) = tot (a ++ l.items) := (Gu hfa okl).symm
   refine Aa (λ _ => S5.lds 0 (smT (tot a)) rfl (S5.Wy rfl rfl rfl λ b9 w6 S6 e6 => ?_)) (λ h => by cases h)
   let z2 : Nat × Obj := (b2, .cells (Cells.vals Ap (smT (tot a))).toArray 110 (0, 0))
   refine Ae (λ _ w' => St (λ _ => False) w w' [(b9, .cells (Cells.vals Ap (smT ((tot a).add (tot l.items)))).toArray 110 (0, 0)), z2, z1]) ?_ ?_
   ·refine Cj (htw.ext S6.upd) ?_
    cases l with
    | nil =>
     have e : (tot a).add (tot (Tr.nil).items) = tot a := Ce.add_zero okta
     rw [e]
     exact Aa (λ h => by cases h) (λ _ => S6)
    | node bl ll lx lr =>
     refine Aa (λ _ => S6.drew λ w7 S7 e7 _ => S7.lds 1 (smT (tot a)) rfl ?_) (λ h => by cases h)
     have ht7 := htw.ext S7.upd
     refine Cj ht7 (Y5 ht7.2.1 (Ag6 okta (Gy okl) (by omega) λ w8 e8 => ?_))
     exact (S7.ext e8).Ad 0 rfl rfl rfl rfl λ w9 S9 u9 => S9
   ·intro _ w7 S7
    refine S7.lds 0 (smT _) rfl (Bo5 hk λ w8 e8 => ?_)
    have S8 := S7.ext e8
    rw [el]
    refine Aa (λ h => ?_) (λ h => ?_)
    ·simp only [decide_eq_true_eq, ge_iff_le] at h
     refine Cj (htw.ext S8.upd) ⟨⟨l, a, x :: rr.items ++ r, rfl, htw.2.1, by rw [eq, hti]; simp, hlow, .inr (by omega), S8.tail⟩, ?_⟩
     dsimp only
     rw [Ja (htw.ext S8.upd).2.1, Ja ht']
     show l.size < l.size + 1 + rr.size
     omega
    ·simp only [decide_eq_false_iff_not, ge_iff_le] at h
     have hlt : keyOf k (tot (a ++ l.items)) < n := by omega
     have S8' := S8
     rw [el] at S8'
     refine Cj (htw.ext S8.upd) (Hw (htw.ext S8.upd).2.1 (S8'.drew λ w9 S9 e9 _ => S9.lds 0 (smT _) rfl (Gh (htw.ext S9.upd) (Zf λ w10 e10 => ?_))))
     have S10 := S9.ext e10
     refine S10.keeps 0 rfl (Ag6 (el ▸ okm) okx (by rw [← el]; omega) λ w11 e11 => (S10.ext e11).Ad 1 rfl rfl rfl rfl λ w12 S12 u12 => ?_)
     have es : (tot (a ++ l.items)).add x.sm = tot (a ++ (l.items ++ [x])) := by
      rw [← List.append_assoc, Gu (Cb.append hfa okl) (Cb.one okx), Uj okx]
     rw [es] at S12
     refine S12.lds 1 (smT _) rfl (Bo5 hk λ w13 e13 => ?_)
     have S13 := S12.ext e13
     have ew : W64 ((a.length : Int) + W64 ((l.size : Int) + 1)) = ((a.length + l.items.length + 1 : Nat) : Int) := by
      rw [wrap64 (a := (l.size : Int) + 1) (by omega) (by omega), wrap64 (by omega) (by omega)]; omega
     rw [ew]
     have hlow2 : ∀ i, i <= a.length + l.items.length -> keyOf k (tot (t.items.take i)) < n := by
      intro i hi
      by_cases h1 : i <= a.length
      ·exact hlow i h1
      ·obtain ⟨j, rfl⟩ : ∃ j, i = a.length + j := ⟨i - a.length, by omega⟩
       have e1 : t.items.take (a.length + j) = a ++ l.items.take j := by
        rw [eq, List.take_length_add_append, hti, List.append_assoc, List.take_append_of_le_length (by omega)]
       have e2 : a ++ l.items = (a ++ l.items.take j) ++ l.items.drop j := by simp
       have okt : Cb (l.items.take j) := λ y hy => okl y (List.mem_of_mem_take hy)
       have okd : Cb (l.items.drop j) := λ y hy => okl y (List.mem_of_mem_drop hy)
       rw [e1]
       rw [e2, Gu (Cb.append hfa okt) okd] at hlt
       exact Nat.lt_of_le_of_lt (Y8 (Gy (Cb.append hfa okt)) (Gy okd)) hlt
     have etk : t.items.take (a.length + l.items.length + 1) = a ++ (l.items ++ [x]) := by
      rw [eq, hti, Nat.add_assoc, List.take_length_add_append, List.append_assoc, List.take_length_add_append]
      rfl
     refine Aa (λ h2 => ?_) (λ h2 => ?_)
     ·simp only [decide_eq_true_eq, ge_iff_le] at h2
      have := Aa2 (k := k) (n := n) (l := t.items) (j := a.length + l.items.length + 1) (by omega) (by rw [etk]; omega) λ i hi => hlow2 i (by omega)
      rw [← this]
      exact hK w13 S13.upd
     ·simp only [decide_eq_false_iff_not, ge_iff_le] at h2
      refine Dz (htw.ext S13.upd) ⟨⟨rr, a ++ (l.items ++ [x]), r, by simp; omega, htw.2.2, by rw [eq, hti]; simp, λ i hi => ?_, ?_, S13.tail⟩, ?_⟩
      ·by_cases h1 : i <= a.length + l.items.length
       ·exact hlow2 i h1
       ·have : i = a.length + l.items.length + 1 := by simp at hi; omega
        rw [this, etk]; omega
      ·rcases hr with h | h
       ·exact .inl h
       ·refine .inr ?_
        have : a ++ (l.items ++ [x]) ++ rr.items = a ++ (Tr.node b l x rr).items := by rw [hti]; simp
        rw [this]; exact h
      ·dsimp only
       rw [Ja (htw.ext S13.upd).2.2, Ja ht']
       show rr.size < l.size + 1 + rr.size
       omega
 ·rintro _ w5 ⟨rfl, hfi, he⟩
  have ew : W64 ((t.items.length : Int) + 1) = ((Yg k n t.items : Nat) : Int) := by rw [hfi, wrap64 (by omega) (by omega)]; omega
  show K (W64 ((t.items.length : Int) + 1)) w5
  rw [ew]
  exact hK w5 he
end
section
variable {w w' : World} {S : Nat -> Prop}
theorem Gt {m : Nat} {o o' : Obj} (hm : w.heap[m]? = some o) : Upd (λ k => k = m) w (w.putObj m o') /\ (w.putObj m o').heap[m]? = some o' := Wi hm
def Bz4 : Obj -> Bool
 | .cells _ t _ => t == 144 || (t == 146 || (t == 147 || t == 112))
 | .deferred _ => true
 | _ => false
structure Fh (W W' : World) : Prop where
 size : W.heap.size <= W'.heap.size
 at_ : ∀ (k : Nat) (o : Obj), W.heap[k]? = some o -> Bz4 o = true -> W'.heap[k]? = some o
theorem Fh.refl (W : World) : Fh W W := ⟨Nat.le_refl _, λ _ _ h _ => h⟩
theorem Fh.trans {W W' W'' : World} (h : Fh W W') (h' : Fh W' W'') : Fh W W'' := ⟨Nat.le_trans h.size h'.size, λ k o ho hp => h'.at_ k o (h.at_ k o ho hp) hp⟩
theorem Fh.ext {W W' : World} (e : Ext W W') : Fh W W' := ⟨e.size, λ _ _ h _ => e.ext_get h⟩
theorem Fh.upd {W W' : World} (u : Upd S W W') (h : ∀ k, S k -> ∀ o, W.heap[k]? = some o -> Bz4 o = false) : Fh W W' :=
 ⟨u.size, λ k o ho hp => u.get ho λ hk => by rw [h k hk o ho] at hp; cases hp⟩
theorem Trx.Tr.In.stay : ∀ {t : Tr}, t.In w -> Fh w w' -> t.In w'
 | .nil, _, _ => trivial
 | .node _ _ _ _, h, s => ⟨s.at_ _ _ h.1 rfl, h.2.1.stay s, h.2.2.stay s⟩
theorem Bs0 {l : Nat} {v : Value} {R : Bool -> Wp} (h : Ag7 Tryz.prog l [v] R w) :
  Bf Tryz.prog (do let d ← Deferred.ofValue (.func (.yield l) #[] #[]) #[v]; invoke d.target d.args : Sem Next) (.one (.one .bool)) R w := by
 obtain ⟨f, tmps, assign, body, h1, h2⟩ := h
 refine .inr (.inr ⟨l, f, tmps, assign, body, ?_, h2⟩)
 simp only [Deferred.ofValue, pure_bind, invoke]
 exact h1
structure ItE (l b1 b2 : Nat) (W : World) : Prop where
 y : W.heap[b1]? = some (.cells #[.func (.yield l) #[] #[]] 146 (0, 0))
 f : W.heap[b2]? = some (.cells #[.func (.func 101) #[] #[.pointer (some (at0 b2)), .pointer (some (at0 b1))]] 147 (0, 0))
theorem ItE.stay {l b1 b2 : Nat} (h : ItE l b1 b2 w) (s : Fh w w') : ItE l b1 b2 w' := ⟨s.at_ _ _ h.y rfl, s.at_ _ _ h.f rfl⟩
theorem Ax7 {l b1 b2 : Nat} {rc : LoopState -> Option Code -> Loop} {its : List Pc} {Inv : Nat -> Wp} {Brk : World -> Prop}
  (hx : ∀ j W W', Inv j W -> Ext W W' -> Inv j W')
  (hy : ∀ (j : Nat) (x : Pc) (W : World) (K : Bool -> Wp), its[j]? = some x -> Inv j W -> W.heap[l]? = some (.loop (rc .ready none)) ->
   (∀ c W', Fh W W' -> (c = true -> Inv (j + 1) W' /\ W'.heap[l]? = some (.loop (rc .ready none))) -> (c = false -> Brk W') -> K c W') -> Ag7 Tryz.prog l [pcV x] K W) :
  ∀ (t : Tr) (m : Nat) (pre post : List Pc) (W : World) (K : Bool -> Wp), t.In W -> ItE l b1 b2 W -> W.heap[l]? = some (.loop (rc .ready none)) -> Fine t.items -> m < 2 ^ 61 -> its = pre ++ (t.items.drop m ++ post) -> Inv pre.length W ->
   (∀ c W', Fh W W' -> (c = true -> Inv (pre.length + (t.items.length - m)) W' /\ W'.heap[l]? = some (.loop (rc .ready none))) -> (c = false -> Brk W') -> K c W') ->
   Ac Tryz.prog 101 #[.pointer t.ptr, .int .i64 (m : Int), .pointer (some (at0 b2)), .pointer (some (at0 b1))] rB K W := by
 intro t
 induction t with
 | nil =>
  intro m pre post W K _ hE hr _ _ hi hI hK
  refine Cg3 ?_
  unfold F101
  refine Ae (λ s W' => s = (true, ()) /\ W = W') (Aa (λ _ => ⟨rfl, rfl⟩) (λ h => by cases h)) ?_
  rintro _ _ ⟨rfl, rfl⟩
  exact Cm (hK true W (Fh.refl W) (λ _ => ⟨by simpa [Tr.items] using hI, hr⟩) (λ h => by cases h))
 | node b lt x rt ihl ihr =>
  intro m pre post W K ht hE hr hf hm hi hI hK
  refine Cg3 ?_
  unfold F101
  have hti : (Tr.node b lt x rt).items = lt.items ++ x :: rt.items := rfl
  have hsz : (Tr.node b lt x rt).items.length = (Tr.node b lt x rt).size := Dk _
  have hsl := Dk lt
  have hlen : (Tr.node b lt x rt).items.length = lt.items.length + 1 + rt.items.length := by rw [hti]; simp; omega
  have few := hf.few
  have hfl : Fine lt.items := hf.left
  have hfr : Fine rt.items := by
   have h2 : Fine (x :: rt.items) := (hti ▸ hf).right
   have ex : x :: rt.items = [x] ++ rt.items := rfl
   exact (ex ▸ h2).right
  refine Ae (λ s W' => s = (decide ((m : Int) >= (((Tr.node b lt x rt).size : Nat) : Int)), ()) /\ W = W') (Aa (λ h => by cases h) (λ _ => Dv (by rw [addr_add]; exact Dt ht.1 (x := ((Tr.node b lt x rt).size : Int)) rfl ⟨rfl, rfl⟩))) ?_
  rintro _ _ ⟨rfl, rfl⟩
  refine Aa (λ h => ?_) (λ h => ?_)
  ·simp only [decide_eq_true_eq, ge_iff_le] at h
   refine hK true W (Fh.refl W) (λ _ => ⟨?_, hr⟩) (λ h => by cases h)
   have : (Tr.node b lt x rt).items.length - m = 0 := by omega
   rw [this]; exact hI
  simp only [decide_eq_false_iff_not, ge_iff_le] at h
  refine Cj ht (Hw ht.2.1 ?_)
  refine Ae (λ s W' => (s.1 = false -> Fh W W' /\ Inv (pre.length + (lt.items.length - m)) W' /\ W'.heap[l]? = some (.loop (rc .ready none))) /\ (s.1 = true -> Fh W W' /\ Brk W')) ?_ ?_
  ·refine Fg λ W1 e1 _ => ?_
   have s1 := Fh.ext e1
   refine Aa (λ h2 => ?_) (λ h2 => ?_)
   ·simp only [decide_eq_true_eq] at h2
    refine Dt (hE.stay s1).f (x := (.func (.func 101) #[] #[.pointer (some (at0 b2)), .pointer (some (at0 b1))] : Value)) rfl ?_
    refine Cj (ht.stay s1) (func_x (by kernel_rfl) ?_)
    refine ihl m pre (x :: rt.items ++ post) W1 _ (ht.2.1.stay s1) (hE.stay s1) (e1.ext_get hr) hfl hm ?_ (hx _ _ _ hI e1) ?_
    ·rw [hi, hti, List.drop_append_of_le_length (by omega)]; simp
    ·intro c W2 s2 ht2 hf2
     refine ⟨λ hc => ?_, λ hc => ?_⟩
     ·have hct : c = true := by simpa using hc
      obtain ⟨i2, r2⟩ := ht2 hct
      exact ⟨s1.trans s2, i2, r2⟩
     ·have hcf : c = false := by simpa using hc
      exact ⟨s1.trans s2, hf2 hcf⟩
   ·simp only [decide_eq_false_iff_not] at h2
    refine ⟨λ _ => ⟨s1, ?_, e1.ext_get hr⟩, λ h => by cases h⟩
    have : lt.items.length - m = 0 := by omega
    rw [this]; exact hx _ _ _ hI e1
  rintro ⟨sb, _⟩ W2 ⟨hA, hB⟩
  refine Aa (λ e => ?_) (λ e => ?_)
  ·obtain ⟨s2, hb2⟩ := hB e
   exact hK false W2 s2 (λ h => by cases h) (λ _ => hb2)
  obtain ⟨s2, i2, r2⟩ := hA e
  refine Ae (λ s W' => (s.1 = false -> Fh W W' /\ Inv (pre.length + (lt.items.length - m) + (if m <= lt.items.length then 1 else 0)) W' /\ W'.heap[l]? = some (.loop (rc .ready none))) /\ (s.1 = true -> Fh W W' /\ Brk W')) ?_ ?_
  ·refine Fg λ W3 e3 _ => ?_
   have s3 := s2.trans (Fh.ext e3)
   refine Aa (λ h3 => ?_) (λ h3 => ?_)
   ·simp only [decide_eq_true_eq] at h3
    have hle : m <= lt.items.length := by omega
    refine Dt (hE.stay s3).y (x := (.func (.yield l) #[] #[] : Value)) rfl ?_
    refine Gh (ht.stay s3) (Bs0 (hy (pre.length + (lt.items.length - m)) x W3 _ ?_ (hx _ _ _ i2 e3) (e3.ext_get r2) ?_))
    ·rw [hi, hti, List.drop_append_of_le_length hle, List.getElem?_append_right (by omega), List.append_assoc, List.getElem?_append_right (by rw [List.length_drop]; omega)]
     have : pre.length + (lt.items.length - m) - pre.length - (lt.items.drop m).length = 0 := by rw [List.length_drop]; omega
     rw [this]; rfl
    ·intro c W4 s4 ht4 hf4
     refine ⟨λ hc => ?_, λ hc => ?_⟩
     ·have hct : c = true := by simpa using hc
      obtain ⟨i4, r4⟩ := ht4 hct
      rw [if_pos hle]
      exact ⟨s3.trans s4, i4, r4⟩
     ·have hcf : c = false := by simpa using hc
      exact ⟨s3.trans s4, hf4 hcf⟩
   ·simp only [decide_eq_false_iff_not] at h3
    refine ⟨λ _ => ⟨s3, ?_, e3.ext_get r2⟩, λ h => by cases h⟩
    rw [if_neg (by omega)]; exact hx _ _ _ i2 e3
  rintro ⟨sb, _⟩ W4 ⟨hA, hB⟩
  refine Aa (λ e => ?_) (λ e => ?_)
  ·obtain ⟨s4, hb4⟩ := hB e
   exact hK false W4 s4 (λ h => by cases h) (λ _ => hb4)
  obtain ⟨s4, i4, r4⟩ := hA e
  refine Fg λ W5 e5 _ => ?_
  have s5 := s4.trans (Fh.ext e5)
  refine Dt (hE.stay s5).f (x := (.func (.func 101) #[] #[.pointer (some (at0 b2)), .pointer (some (at0 b1))] : Value)) rfl ?_
  refine Dz (ht.stay s5) (func_x (by kernel_rfl) ?_)
  have ew : (if W64 (W64 ((m : Int) - (lt.size : Int)) - 1) > 0 then W64 (W64 ((m : Int) - (lt.size : Int)) - 1) else 0) = ((m - lt.items.length - 1 : Nat) : Int) := by
   rw [wrap64 (a := (m : Int) - (lt.size : Int)) (by omega) (by omega), wrap64 (by omega) (by omega)]
   split <;> omega
  rw [ew]
  have fin : ∀ (pre' : List Pc), its = pre' ++ (rt.items.drop (m - lt.items.length - 1) ++ post) -> pre'.length = pre.length + (lt.items.length - m) + (if m <= lt.items.length then 1 else 0) ->
    Ac Tryz.prog 101 #[.pointer rt.ptr, .int .i64 ((m - lt.items.length - 1 : Nat) : Int), .pointer (some (at0 b2)), .pointer (some (at0 b1))] rB K W5 := by
   intro pre' hp hl
   refine ihr _ pre' post W5 K (ht.2.2.stay s5) (hE.stay s5) (e5.ext_get r4) hfr (by omega) hp (by rw [hl]; exact hx _ _ _ i4 e5) ?_
   intro c W6 s6 ht6 hf6
   refine hK c W6 (s5.trans s6) (λ hc => ?_) hf6
   have h6 := ht6 hc
   have el : pre'.length + (rt.items.length - (m - lt.items.length - 1)) = pre.length + ((Tr.node b lt x rt).items.length - m) := by
    rw [hl, hlen]; split <;> omega
   rw [el] at h6
   exact h6
  by_cases hle : m <= lt.items.length
  ·refine fin (pre ++ (lt.items.drop m ++ [x])) ?_ ?_
   ·rw [hi, hti, List.drop_append_of_le_length hle]
    have : m - lt.items.length - 1 = 0 := by omega
    rw [this]; simp
   ·rw [if_pos hle]; simp; omega
  ·refine fin pre ?_ ?_
   ·rw [hi, hti, List.drop_append]
    have e1 : lt.items.drop m = [] := List.drop_eq_nil_of_le (by omega)
    obtain ⟨q, hq⟩ : ∃ q, m - lt.items.length = q + 1 := ⟨m - lt.items.length - 1, by omega⟩
    rw [e1, hq]; simp
   ·rw [if_neg hle]; omega
theorem Ap5 {t : Tr} {n b1 b2 : Nat} {vals : Cells.T Ag × Unit -> List Value} {body : Nat -> (LoopState -> Option Code -> Loop) -> (Bool -> Wp) -> Cells.T Ag × Unit -> Wp} {aft' : Nat -> Option Code -> Wp}
  (hv : ∀ s, vals s = [.agg (Cells.vals Ag s.1).toArray]) (h1 : w.heap[b1]? = some (.cells #[.pointer t.ptr] 105 (0, 0))) (h2 : w.heap[b2]? = some (.cells #[.int .i64 (n : Int)] 3 (0, 0))) (ht : t.In w) (hf : Fine t.items) (hn : n < 2 ^ 61)
  (Inv : Nat -> Wp) (Brk : Code -> Wp) (h0 : ∀ W, Ext w W -> w.heap.size + 2 <= W.heap.size -> Inv 0 W) (hx : ∀ j W W', Inv j W -> Ext W W' -> Inv j W')
  (hb : ∀ (rc : LoopState -> Option Code -> Loop) j x R W, (t.items.drop n)[j]? = some x -> Inv j W -> W.heap[w.heap.size + 1]? = some (.loop (rc .ready none)) ->
   (∀ W', Fh W W' -> Inv (j + 1) W' -> W'.heap[w.heap.size + 1]? = some (.loop (rc .ready none)) -> R true W') -> (∀ e W', Fh W W' -> W'.heap[w.heap.size + 1]? = some (.loop (rc .done (some e))) -> Brk e W' -> R false W') -> body (w.heap.size + 1) rc R (pcT x, ()) W)
  (he : ∀ W W', Inv (t.items.length - n) W -> W'.heap[w.heap.size]? = some (.deferred (some [])) -> Upd (λ k => k = w.heap.size + 1) W W' -> aft' w.heap.size none W')
  (hk : ∀ e W W', Brk e W -> W'.heap[w.heap.size]? = some (.deferred (some [])) -> Upd (λ k => k = w.heap.size + 1) W W' -> aft' w.heap.size (some e) W') :
  X6 Tryz.prog vals (.func (.func 100) #[] #[.pointer (some (at0 b1)), .pointer (some (at0 b2))]) body aft' w := by
 intro rc hyield
 have e0 : Ext w (w.alloc (.deferred (some []))) := Ext.alloc w _
 generalize hW0 : w.alloc (.deferred (some [])) = W0 at *
 have d0 : W0.heap[w.heap.size]? = some (.deferred (some [])) := by rw [← hW0]; exact heap_alloc w _
 have z0 : W0.heap.size = w.heap.size + 1 := by rw [← hW0]; simp
 have e1 : Ext W0 (W0.alloc (.loop (rc .ready none))) := Ext.alloc W0 _
 have l1 : (W0.alloc (.loop (rc .ready none))).heap[w.heap.size + 1]? = some (.loop (rc .ready none)) := by rw [← z0]; exact heap_alloc W0 _
 have z1 : (W0.alloc (.loop (rc .ready none))).heap.size = w.heap.size + 2 := by simp [z0]
 generalize hW1 : W0.alloc (.loop (rc .ready none)) = W1 at *
 refine ⟨100, #[.func (.yield (w.heap.size + 1)) #[] #[], .pointer (some (at0 b1)), .pointer (some (at0 b2))], ?_, ?_⟩
 ·simp only [Deferred.ofValue, pure_bind, invoke]
  exact Fv (P := Tryz.prog) (f := 100) (by kernel_rfl) W1
 have e01 := e0.trans e1
 refine Da4 ?_
 unfold F100
 refine Ci rfl ((St.start W1).Af λ c1 W2 S2 e2 => S2.Af λ c2 W3 S3 e3 => Ci rfl (S3.stC 0 rfl (by decide) λ W4 S4 u4 => ?_))
 have e14 := S4.upd
 have hE : ItE (w.heap.size + 1) c1 c2 W4 := ⟨S4.at_ 1 rfl, S4.at_ 0 rfl⟩
 have ew4 := e01.trans e14
 refine S4.ld 0 rfl (x := (.func (.func 101) #[] #[.pointer (some (at0 c2)), .pointer (some (at0 c1))] : Value)) rfl (Dt (ew4.ext_get h1) (x := t.ptr) rfl (Dt (ew4.ext_get h2) (x := (n : Int)) rfl (func_x (by kernel_rfl) ?_)))
 have ew : (if (n : Int) > 0 then (n : Int) else 0) = (n : Int) := by split <;> omega
 rw [ew]
 refine Ax7 (Inv := Inv) (Brk := λ W => ∃ e, W.heap[w.heap.size + 1]? = some (.loop (rc .done (some e))) /\ Brk e W) (its := t.items.drop n) (rc := rc) hx ?_ t n [] [] W4 _ (ht.ext ew4) hE (e14.ext_get l1) hf hn (by simp) (h0 W4 ew4 (by have := e14.size; omega)) ?_
 ·intro j x W K hj hI hr hK
  have := hyield K (pcT x, ()) W hr (hb rc j x K W hj hI hr (λ W' s i r => hK true W' s (λ _ => ⟨i, r⟩) (λ h => by cases h)) (λ e W' s r b => hK false W' s (λ h => by cases h) (λ _ => ⟨e, r, b⟩)))
  rw [hv] at this
  exact this
 ·intro c W5 s5 ht5 hf5
  have d5 := s5.at_ _ _ (e14.ext_get (e1.ext_get d0)) rfl
  have fin : ∀ st pe, W5.heap[w.heap.size + 1]? = some (.loop (rc st pe)) -> (W5.putObj (w.heap.size + 1) (.loop (rc .exhausted pe))).heap[w.heap.size]? = some (.deferred (some [])) /\ Upd (λ k => k = w.heap.size + 1) W5 (W5.putObj (w.heap.size + 1) (.loop (rc .exhausted pe))) := by
   intro st pe h
   obtain ⟨u, _⟩ := Gt (o' := .loop (rc .exhausted pe)) h
   exact ⟨u.get d5 (by omega), u⟩
  cases c with
  | true =>
   obtain ⟨i5, r5⟩ := ht5 rfl
   obtain ⟨d6, u6⟩ := fin _ _ r5
   refine ⟨.ready, none, r5, by decide, he W5 _ ?_ d6 u6⟩
   simpa using i5
  | false =>
   obtain ⟨e, r5, b5⟩ := hf5 rfl
   obtain ⟨d6, u6⟩ := fin _ _ r5
   exact ⟨.done, some e, r5, by decide, hk e W5 _ b5 d6 u6⟩
end
end Go.Proofs.YtabcpghhfeplaaaGreat
namespace Go.Proofs.YtabcpghhfeplaaaGreat
open Go Go.Vx Cdc
section
variable {w w' : World}
def lw (be : Bool) : Int := if be then 1 else 0
theorem Ac8 {s : Sl} {be : Bool} {a b : UInt8} {r : Bs} (hB : By w s (a :: b :: r)) {K : Int -> Wp} (hK : ∀ w', Ext w w' -> K ((un be a b : Nat) : Int) w') :
  Ac Tryz.prog 206 #[.agg #[.int .i64 (lw be)], s.v] rI K w := by
 refine Ct1 (a0 := (lw be, ())) ?_
 unfold F206
 have ha := a.toNat_lt
 have hb := b.toNat_lt
 refine Bo λ b1 w1 e1 n1 _ _ => Fg λ w2 e2 _ => ?_
 have n2 := e2.ext_get n1
 have hB2 : By w2 s (a :: b :: r) := hB.ext (e1.trans e2)
 refine Dt n2 (x := lw be) rfl ?_
 have bits : ∀ x y : UInt8, W64 ((BitVec.toNat (BitVec.ofInt (IntKind.bits .i64) (W64 (x.toNat : Int)) ||| BitVec.ofInt (IntKind.bits .i64) (W64 ((W64 (y.toNat : Int)) * 2 ^ (min (Int.toNat (8 : Int)) (IntKind.bits .i64))))) : Nat) : Int) = ((x.toNat + y.toNat * 256 : Nat) : Int) := by
  intro x y
  have hx := x.toNat_lt
  have hy := y.toNat_lt
  have e : ((2 : Int) ^ (min (Int.toNat (8 : Int)) (IntKind.bits .i64))) = 2 ^ 8 := rfl
  rw [e, wrap64 (a := (x.toNat : Int)) (by omega) (by omega), wrap64 (a := (y.toNat : Int)) (by omega) (by omega), wrap64 (a := (y.toNat : Int) * 2 ^ 8) (by omega) (by omega)]
  have h := Bg4 (b := IntKind.bits .i64) (k := 8) (a := (y.toNat : Int)) (c := (x.toNat : Int)) (by omega) (by omega) (by omega) (by show _ < (2 : Int) ^ 64; omega)
  rw [h, wrap64 (by omega) (by omega)]
  omega
 cases be with
 | false =>
  have e0 : lw false = 0 := rfl
  have e1' : W64 (1 - (0 : Int)) = 1 := by decide
  rw [e0] at n2 ⊢
  refine Hg hB2 (by decide) (b := a) rfl λ p => Dt n2 (x := (0 : Int)) rfl ?_
  rw [e1']
  refine Hg hB2 (by decide) (b := b) rfl λ p => Ci (by decide) ?_
  rw [bits]
  exact hK w2 (e1.trans e2)
 | true =>
  have e0 : lw true = 1 := rfl
  have e1' : W64 (1 - (1 : Int)) = 0 := by decide
  rw [e0] at n2 ⊢
  refine Hg hB2 (by decide) (b := b) rfl λ p => Dt n2 (x := (1 : Int)) rfl ?_
  rw [e1']
  refine Hg hB2 (by decide) (b := a) rfl λ p => Ci (by decide) ?_
  rw [bits]
  exact hK w2 (e1.trans e2)
theorem Bh7 {u : Nat} (hu : u < 65536) {K : Bool -> Wp} (hK : K (decide (u / 1024 = 54)) w) : Ac Tryz.prog 207 #[.int .i64 (u : Int)] rB K w := by
 refine Ct0 ?_
 unfold F207
 have h := Br8 (a := (u : Int)) (m := 1023) (by omega) (by omega) rfl
 have e : (((BitVec.toNat (BitVec.ofInt (IntKind.bits .i64) (u : Int) &&& ~~~(BitVec.ofInt (IntKind.bits .i64) (1023 : Int))) : Nat) : Int)) = (u : Int) / 1024 * 1024 := h
 rw [e, wrap64 (by omega) (by omega)]
 have : ((u : Int) / 1024 * 1024 == (55296 : Int)) = decide (u / 1024 = 54) := by
  rw [Bool.eq_iff_iff]; simp only [beq_iff_eq, decide_eq_true_eq]; omega
 rw [this]; exact hK
theorem Bo1 {u : Nat} (hu : u < 65536) {K : Bool -> Wp} (hK : K (decide (u / 1024 = 55)) w) : Ac Tryz.prog 208 #[.int .i64 (u : Int)] rB K w := by
 refine Cs9 ?_
 unfold F208
 have h := Br8 (a := (u : Int)) (m := 1023) (by omega) (by omega) rfl
 have e : (((BitVec.toNat (BitVec.ofInt (IntKind.bits .i64) (u : Int) &&& ~~~(BitVec.ofInt (IntKind.bits .i64) (1023 : Int))) : Nat) : Int)) = (u : Int) / 1024 * 1024 := h
 rw [e, wrap64 (by omega) (by omega)]
 have : ((u : Int) / 1024 * 1024 == (56320 : Int)) = decide (u / 1024 = 55) := by
  rw [Bool.eq_iff_iff]; simp only [beq_iff_eq, decide_eq_true_eq]; omega
 rw [this]; exact hK
theorem Bl0 (be : Bool) (a b : UInt8) : un be a b < 65536 := by
 have ha := a.toNat_lt
 have hb := b.toNat_lt
 unfold un; split <;> omega
theorem Yf {s : Sl} {be : Bool} {b : UInt8} {r : Bs} (hB : By w s (b :: r)) {K : Int × Int × Unit -> Wp} (hK : ∀ w', Ext w w' -> K ((Il be (b :: r)).1, ((Il be (b :: r)).2 : Nat), ()) w') :
  Ac Tryz.prog 201 #[.agg #[.int .i64 (lw be)], s.v] (.tup [(.one (.int .i64)), (.one (.int .i64))]) K w := by
 refine Ct4 (a0 := (lw be, ())) ?_
 unfold F201
 have hlen : r.length + 1 = s.len := hB.len
 have hcap := hB.le
 have hb := b.toNat_lt
 refine Bo λ b1 w1 e1 n1 _ _ => ?_
 have hB1 : By w1 s (b :: r) := hB.ext e1
 cases r with
 | nil =>
  have hl : s.len = 1 := by simpa using hlen.symm
  refine Aa (λ _ => ?_) (λ h => by simp [hl] at h)
  refine Hg hB1 (by decide) (b := b) rfl λ p => ?_
  rw [wrap64 (a := (b.toNat : Int)) (by omega) (by omega), wrap64 (by omega) (by omega)]
  exact hK w1 e1
 | cons c r =>
  have hl2 : r.length + 2 = s.len := by simpa using hlen
  refine Aa (λ h => ?_) (λ _ => ?_)
  ·simp only [beq_iff_eq] at h; omega
  refine Tt n1 (x := (lw be, ())) (λ i v hv => by rw [Nat.zero_add, ← Array.getElem?_toList]; exact hv) (Ac8 hB1 λ w2 e2 => ?_)
  have hB2 := hB1.ext e2
  have hu := Bl0 be b c
  have n2 := e2.ext_get n1
  have short : ¬ (un be b c / 1024 = 54 /\ ∃ d e r', r = d :: e :: r' /\ un be d e / 1024 = 55) -> Il be (b :: c :: r) = (((un be b c : Nat) : Int), 2) := by
   intro h
   simp only [Il]
   split
   ·rename_i h1
    split
    ·rename_i d e r'
     split
     ·rename_i h2; exact absurd ⟨h1, d, e, r', rfl, h2⟩ h
     ·rfl
    ·rfl
   ·rfl
  refine Ae (λ _ w' => Ext w w' /\ ¬ (un be b c / 1024 = 54 /\ ∃ d e r', r = d :: e :: r' /\ un be d e / 1024 = 55)) ?_ ?_
  ·refine Ae (λ x w' => x = (decide (un be b c / 1024 = 54 /\ 4 <= s.len), ()) /\ w2 = w') ?_ ?_
   ·refine Bh7 hu (Aa (λ h => ?_) (λ h => ?_))
    ·simp only [decide_eq_true_eq] at h
     refine ⟨Aj ?_, rfl⟩
     simp only [decide_eq_true_eq]; omega
    ·simp only [decide_eq_false_iff_not] at h
     exact ⟨by rw [decide_eq_false (by omega)], rfl⟩
   ·rintro _ w' ⟨rfl, rfl⟩
    refine Aa (λ h => ?_) (λ h => ?_)
    ·simp only [decide_eq_true_eq] at h
     obtain ⟨d, e, r', rfl⟩ : ∃ d e r', r = d :: e :: r' := by
      match r, hl2 with
      | [], hl2 => simp at hl2; omega
      | [_], hl2 => simp at hl2; omega
      | d :: e :: r', _ => exact ⟨d, e, r', rfl⟩
     refine Fg λ w3 e3 _ => ?_
     have n3 := e3.ext_get n2
     have hB3 := hB2.ext e3
     refine Tt n3 (x := (lw be, ())) (λ i v hv => by rw [Nat.zero_add, ← Array.getElem?_toList]; exact hv) ?_
     refine Ah8 hB3 (by decide) (by omega) (by omega) (by omega) (by omega) λ s' hs' hl' _ => ?_
     have hR : ((b :: c :: d :: e :: r').drop (Int.toNat 2)).take (((s.len : Nat) : Int).toNat - Int.toNat 2) = d :: e :: r' := by
      have : ((s.len : Nat) : Int).toNat - Int.toNat 2 = (d :: e :: r').length := by simp at hl2 ⊢; omega
      rw [this]
      show (d :: e :: r').take _ = _
      rw [List.take_length]
     rw [hR] at hs'
     refine Ac8 hs' λ w4 e4 => Bo1 (Bl0 be d e) ?_
     have e04 := (e1.trans e2).trans (e3.trans e4)
     refine Aa (λ h5 => Ci (by decide) ?_) (λ h5 => ?_)
     ·simp only [decide_eq_true_eq] at h5
      have hv := Bl0 be d e
      have g1 := Zu (b := IntKind.bits .i64) (k := 10) (a := ((un be b c : Nat) : Int)) (m := 1023) (by omega) (by show _ < (2 : Int) ^ 64; omega) rfl (by decide)
      have g2 := Zu (b := IntKind.bits .i64) (k := 10) (a := ((un be d e : Nat) : Int)) (m := 1023) (by omega) (by show _ < (2 : Int) ^ 64; omega) rfl (by decide)
      have ep : ((2 : Int) ^ (min (Int.toNat (10 : Int)) (IntKind.bits .i64))) = 2 ^ 10 := rfl
      rw [g1, g2, ep, wrap64 (a := ((un be b c : Nat) : Int) % 2 ^ 10) (by omega) (by omega), wrap64 (a := ((un be d e : Nat) : Int) % 2 ^ 10) (by omega) (by omega),
       wrap64 (a := ((un be b c : Nat) : Int) % 2 ^ 10 * 2 ^ 10) (by omega) (by omega), wrap64 (a := 65536 + ((un be b c : Nat) : Int) % 2 ^ 10 * 2 ^ 10) (by omega) (by omega), wrap64 (by omega) (by omega)]
      have := hK w4 e04
      simp only [Il, if_pos h.1, if_pos h5] at this
      have e' : 65536 + ((un be b c : Nat) : Int) % 2 ^ 10 * 2 ^ 10 + ((un be d e : Nat) : Int) % 2 ^ 10 = 65536 + ((un be b c % 1024 * 1024 + un be d e % 1024 : Nat) : Int) := by omega
      rw [e']
      exact this
     ·simp only [decide_eq_false_iff_not] at h5
      refine ⟨e04, ?_⟩
      rintro ⟨_, d', e', r'', hr, h6⟩
      cases hr
      exact h5 h6
    ·simp only [decide_eq_false_iff_not] at h
     refine ⟨e1.trans e2, ?_⟩
     rintro ⟨h6, d', e', r'', rfl, _⟩
     simp at hl2
     omega
  ·rintro _ w' ⟨hw, hno⟩
   have := hK w' hw
   rw [short hno] at this
   exact this
theorem Aq2 {s : Sl} {b : UInt8} {r : Bs} (hB : By w s (b :: r)) {K : Int × Int × Unit -> Wp} (hK : ∀ w', Ext w w' -> K ((nx1 (b :: r)).1, ((nx1 (b :: r)).2 : Nat), ()) w') :
  Ac Tryz.prog 210 #[.agg #[], s.v] (.tup [(.one (.int .i64)), (.one (.int .i64))]) K w := by
 refine Cs7 (a0 := ()) ?_
 unfold F210
 have hb := b.toNat_lt
 refine Bo λ _ w1 e1 _ _ _ => ?_
 have hB1 : By w1 s (b :: r) := hB.ext e1
 refine Hg hB1 (by decide) (b := b) rfl λ p => ?_
 rw [wrap64 (by omega) (by omega)]
 exact hK w1 e1
def I7 : Enc -> Value
 | .u8 => .iface 163 (.agg #[])
 | .le => .iface 165 (.agg #[.int .i64 0])
 | .be => .iface 165 (.agg #[.int .i64 1])
 | .l1 => .iface 166 (.agg #[])
theorem Aj5 {e : Enc} {K : Value -> Wp} (hK : K (I7 e) w) : Ac Tryz.prog 85 #[.int .i64 e.num] (.one (.one .any)) K w := by
 refine A85 ?_
 unfold F85
 cases e with
 | u8 => exact Aa (λ _ => hK) (λ h => by cases h)
 | le => exact Aa (λ h => by cases h) (λ _ => Aa (λ _ => hK) (λ h => by cases h))
 | be => exact Aa (λ h => by cases h) (λ _ => Aa (λ h => by cases h) (λ _ => Aa (λ _ => hK) (λ h => by cases h)))
 | l1 => exact Aa (λ h => by cases h) (λ _ => Aa (λ h => by cases h) (λ _ => Aa (λ h => by cases h) (λ _ => Aa (λ _ => hK) (λ h => by cases h))))
theorem Ud (e : Enc) : ∃ t v, I7 e = .iface t v := by cases e <;> exact ⟨_, _, rfl⟩
theorem Bq3 (e : Enc) : Aw9 Tryz.prog (I7 e) "copyist/codec.first" := by
 cases e
 ·exact ⟨_, _, rfl, λ w => by kernel_rfl⟩
 ·exact ⟨_, _, rfl, λ w => by kernel_rfl⟩
 ·exact ⟨_, _, rfl, λ w => by kernel_rfl⟩
 ·exact ⟨_, _, rfl, λ w => by kernel_rfl⟩
theorem Bv0 {e : Enc} {s : Sl} {l : Bs} (hB : By w s l) (hl : l ≠ []) {K : Int × Int × Unit -> Wp} (hK : ∀ w', Ext w w' -> K ((nx e l).1, ((nx e l).2 : Nat), ()) w') :
  Bf Tryz.prog (invoke (.fn (.method "copyist/codec.first") #[]) (#[I7 e] ++ #[.slice s.a s.len s.cap])) (.tup [(.one (.int .i64)), (.one (.int .i64))]) K w := by
 cases l with
 | nil => exact absurd rfl hl
 | cons b r =>
  cases e with
  | u8 => exact Ph (f := 194) (v' := .agg #[]) (λ w => by kernel_rfl) (by kernel_rfl) (Aq1 hB hK)
  | le => exact Ph (f := 201) (v' := .agg #[.int .i64 (lw false)]) (λ w => by kernel_rfl) (by kernel_rfl) (Yf hB hK)
  | be => exact Ph (f := 201) (v' := .agg #[.int .i64 (lw true)]) (λ w => by kernel_rfl) (by kernel_rfl) (Yf hB hK)
  | l1 => exact Ph (f := 210) (v' := .agg #[]) (λ w => by kernel_rfl) (by kernel_rfl) (Aq2 hB hK)
theorem Qg {e : Enc} {s : Sl} {l : Bs} (hB : By w s l) {n : Nat} (hn : n < l.length) {K : Int × Int × Unit -> Wp} (hK : ∀ w', Ext w w' -> K ((nx e (l.drop n)).1, ((nx e (l.drop n)).2 : Nat), ()) w') :
  Ac Tryz.prog 63 #[.int .i64 e.num, s.v, .int .i64 (n : Int)] (.tup [(.one (.int .i64)), (.one (.int .i64))]) K w := by
 refine A63 ?_
 unfold F63
 have hlen := hB.len
 have hcap := hB.le
 refine Aj5 ?_
 refine Ae (λ x w' => x = (false, ()) /\ w = w') ?_ ?_
 ·obtain ⟨t, v, hc⟩ := Ud e
  rw [hc]
  refine Ai9 ?_ ⟨_, Tryz.underlying132⟩
  refine Aa (λ h => by cases h) (λ _ => Aa (λ h => ?_) (λ _ => ?_))
  ·simp only [decide_eq_true_eq] at h; omega
  ·exact ⟨by rw [decide_eq_false (by omega)], rfl⟩
 rintro _ w' ⟨rfl, rfl⟩
 refine Aa (λ h => by cases h) (λ _ => Fg λ w1 e1 _ => ?_)
 have hB1 := hB.ext e1
 refine Ah8 hB1 (by omega) (by omega) (by omega) (by omega) (by omega) λ s' hs' hl' _ => Ci (Bq3 e) ?_
 have hR : (l.drop (n : Int).toNat).take (((s.len : Nat) : Int).toNat - (n : Int).toNat) = l.drop n := by
  have : ((s.len : Nat) : Int).toNat - (n : Int).toNat = (l.drop n).length := by rw [List.length_drop]; omega
  rw [this, Int.toNat_natCast, List.take_length]
 rw [hR] at hs'
 refine Bv0 hs' (λ h => ?_) λ w2 e2 => hK w2 (e1.trans e2)
 have := congrArg List.length h
 rw [List.length_drop, List.length_nil] at this
 omega
end
section
variable {w w' : World}
theorem EBy : He Tryz.prog 22 5 1 1 := He.of (z := .int .u8 0) C22 C5 rfl rfl rfl (by decide)
theorem uBy : Tryz.prog.underlying 22 = some (.slice 5) := EBy.ts_
theorem V5 {a : Int} {K : Int -> Wp} (hK : ∀ w', Ext w w' -> K ((sz8 a : Nat) : Int) w') : Ac Tryz.prog 198 #[.agg #[], .int .i64 a] rI K w := by
 refine Ct7 (a0 := ()) ?_
 unfold F198
 refine Bo λ _ w1 e1 _ _ _ => ?_
 refine Ae (λ x w' => x = (decide (a < -256 \/ (-129 < a /\ a < 0) \/ 1114111 < a \/ (55296 <= a /\ a <= 57343)), ()) /\ w1 = w') ?_ ?_
 ·repeat' refine Aa (λ h => ?_) (λ h => ?_)
  all_goals simp only [decide_eq_true_eq, decide_eq_false_iff_not, gt_iff_lt, ge_iff_le] at *
  all_goals
   refine ⟨?_, trivial⟩
   first
    | (rw [decide_eq_true (by omega)]; done)
    | (rw [decide_eq_false (by omega)]; done)
    | (refine Aj ?_; simp only [decide_eq_true_eq]; omega)
 rintro _ w' ⟨rfl, rfl⟩
 replace hK := hK w1 e1
 unfold sz8 at hK
 refine Aa (λ h => ?_) (λ h => ?_)
 ·simp only [decide_eq_true_eq] at h
  rw [if_pos h] at hK; exact hK
 ·simp only [decide_eq_false_iff_not] at h
  rw [if_neg h] at hK
  refine Aa (λ h => ?_) (λ h => Aa (λ h => ?_) (λ h => Aa (λ h => ?_) (λ h => ?_)))
  all_goals simp only [decide_eq_true_eq, decide_eq_false_iff_not] at *
  ·rw [if_pos h] at hK; exact hK
  ·rw [if_neg (by omega), if_pos h] at hK; exact hK
  ·rw [if_neg (by omega), if_neg (by omega), if_pos h] at hK; exact hK
  ·rw [if_neg (by omega), if_neg (by omega), if_neg h] at hK; exact hK
theorem D9 {be : Bool} {a : Int} {K : Int -> Wp} (hK : ∀ w', Ext w w' -> K ((Oh a : Nat) : Int) w') : Ac Tryz.prog 205 #[.agg #[.int .i64 (lw be)], .int .i64 a] rI K w := by
 refine Ct2 (a0 := (lw be, ())) ?_
 unfold F205
 refine Bo λ _ w1 e1 _ _ _ => ?_
 refine Ae (λ x w' => x = (decide (a < -256 \/ 1114111 < a), ()) /\ w1 = w') ?_ ?_
 ·repeat' refine Aa (λ h => ?_) (λ h => ?_)
  all_goals simp only [decide_eq_true_eq, decide_eq_false_iff_not, gt_iff_lt, ge_iff_le] at *
  all_goals
   refine ⟨?_, trivial⟩
   first
    | (rw [decide_eq_true (by omega)]; done)
    | (rw [decide_eq_false (by omega)]; done)
    | (refine Aj ?_; simp only [decide_eq_true_eq]; omega)
 rintro _ w' ⟨rfl, rfl⟩
 replace hK := hK w1 e1
 unfold Oh at hK
 refine Aa (λ h => ?_) (λ h => ?_)
 ·simp only [decide_eq_true_eq] at h
  rw [if_pos h] at hK; exact hK
 ·simp only [decide_eq_false_iff_not] at h
  rw [if_neg h] at hK
  refine Aa (λ h => ?_) (λ h => Aa (λ h => ?_) (λ h => ?_))
  all_goals simp only [decide_eq_true_eq, decide_eq_false_iff_not] at *
  ·rw [if_pos h] at hK; exact hK
  ·rw [if_neg (by omega), if_pos h] at hK; exact hK
  ·rw [if_neg (by omega), if_neg h] at hK; exact hK
theorem Au8 {a : Int} {K : Int -> Wp} (hK : ∀ w', Ext w w' -> K ((sz1 a : Nat) : Int) w') : Ac Tryz.prog 214 #[.agg #[], .int .i64 a] rI K w := by
 refine Cs5 (a0 := ()) ?_
 unfold F214
 refine Bo λ _ w1 e1 _ _ _ => ?_
 refine Ae (λ x w' => x = (decide (a < 0 \/ 255 < a), ()) /\ w1 = w') ?_ ?_
 ·repeat' refine Aa (λ h => ?_) (λ h => ?_)
  all_goals simp only [decide_eq_true_eq, decide_eq_false_iff_not, gt_iff_lt, ge_iff_le] at *
  all_goals
   refine ⟨?_, trivial⟩
   first
    | (rw [decide_eq_true (by omega)]; done)
    | (rw [decide_eq_false (by omega)]; done)
    | (refine Aj ?_; simp only [decide_eq_true_eq]; omega)
 rintro _ w' ⟨rfl, rfl⟩
 replace hK := hK w1 e1
 unfold sz1 at hK
 refine Aa (λ h => ?_) (λ h => ?_)
 ·simp only [decide_eq_true_eq] at h
  rw [if_pos h] at hK; exact hK
 ·simp only [decide_eq_false_iff_not] at h
  rw [if_neg h] at hK; exact hK
theorem Bm0 {e : Enc} {a : Int} {K : Int -> Wp} (hK : ∀ w', Ext w w' -> K ((sz e a : Nat) : Int) w') :
  Bf Tryz.prog (invoke (.fn (.method "copyist/codec.size") #[]) (#[I7 e] ++ #[.int .i64 a])) (.one (.one (.int .i64))) K w := by
 cases e with
 | u8 => exact Ph (f := 198) (v' := .agg #[]) (λ w => by kernel_rfl) (by kernel_rfl) (V5 hK)
 | le => exact Ph (f := 205) (v' := .agg #[.int .i64 (lw false)]) (λ w => by kernel_rfl) (by kernel_rfl) (D9 hK)
 | be => exact Ph (f := 205) (v' := .agg #[.int .i64 (lw true)]) (λ w => by kernel_rfl) (by kernel_rfl) (D9 hK)
 | l1 => exact Ph (f := 214) (v' := .agg #[]) (λ w => by kernel_rfl) (by kernel_rfl) (Au8 hK)
theorem Bf4 {e : Enc} {a : Int} {K : Int -> Wp} (hK : ∀ w', Ext w w' -> K ((sz e a : Nat) : Int) w') : Ac Tryz.prog 111 #[.int .i64 e.num, .int .i64 a] rI K w := by
 refine Cz4 ?_
 unfold F111
 refine Aj5 ?_
 have hx := Bm0 (w := w) (e := e) (a := a) hK
 obtain ⟨t, v, hc⟩ := Ud e
 rw [hc] at hx ⊢
 exact Ai9 (Aa (λ h => by cases h) λ _ => hx) ⟨_, Tryz.underlying132⟩
theorem app1 {B : Nat} {s : Sl} {l : Bs} {c : UInt8} {v : Int} {K : Sl -> Wp} (hv : v = (c.toNat : Int)) (ho : Ah w B s 5 1 (bv l)) (hr : s.len < 2 ^ 44) (hB : B <= w.heap.size)
  (hK : ∀ s' w', Ah w' B s' 5 1 (bv (l ++ [c])) -> s'.len = s.len + 1 -> Upd s.blk w w' -> (∀ k, s'.blk k -> s.blk k \/ w.heap.size <= k) -> K s' w') :
  Af (.cells #[.int .u8 v] 5) (λ b => Df Tryz.prog (.one (.one .sl)) (Builtin.append_ #[22, 22] 22 #[.slice s.a s.len s.cap, .slice (some (at0 b)) 1 1]) K) w := by
 subst hv
 refine Bo λ b w1 e1 n1 _ _ => ?_
 refine As7 (x := ⟨some (at0 b), 1, 1⟩) EBy uBy (ho.ext e1) (Aq.Hr (n := 1) (sz := 1) n1 rfl) (λ v hv => by simp at hv; subst hv; rfl) (by dsimp only; omega) (Nat.le_trans hB e1.size) λ s' w2 o2 hl u2 hb => ?_
 refine hK s' w2 ?_ hl ((Upd.Hq e1).trans u2) λ k hk => (hb k hk).imp id (Nat.le_trans e1.size)
 simpa [bv] using o2
end
section
variable {w w' : World}
abbrev Ug (w : World) (B : Nat) (s : Sl) (l bs : Bs) (K : Sl -> Wp) : Prop :=
 ∀ s' w', Ah w' B s' 5 1 (bv (l ++ bs)) -> s'.len = s.len + bs.length -> Upd s.blk w w' -> (∀ k, s'.blk k -> s.blk k \/ w.heap.size <= k) -> K s' w'
theorem Ug.then {B : Nat} {s s1 : Sl} {l b1 b2 : Bs} {w1 : World} {K : Sl -> Wp} (hK : Ug w B s l (b1 ++ b2) K) (hl : s1.len = s.len + b1.length) (u : Upd s.blk w w1) (hb : ∀ k, s1.blk k -> s.blk k \/ w.heap.size <= k) :
  Ug w1 B s1 (l ++ b1) b2 K := λ s' w' ho hl' u' hb' =>
 hK s' w' (by rw [← List.append_assoc]; exact ho) (by rw [hl', hl, List.length_append]; omega) (u.new u' λ k hk h => (hb k h).resolve_right (by omega)) λ k hk => by
  rcases hb' k hk with h | h
  ·exact hb k h
  ·exact .inr (Nat.le_trans u.size h)
theorem Ug.ext {B : Nat} {s : Sl} {l bs : Bs} {w1 : World} {K : Sl -> Wp} (hK : Ug w B s l bs K) (e : Ext w w1) : Ug w1 B s l bs K := λ s' w' ho hl' u' hb' =>
 hK s' w' ho hl' ((Upd.Hq e).trans u') λ k hk => (hb' k hk).imp id (Nat.le_trans e.size)
theorem app1' {B : Nat} {s : Sl} {l : Bs} {c : UInt8} {v : Int} {K : Sl -> Wp} (hv : v = (c.toNat : Int)) (ho : Ah w B s 5 1 (bv l)) (hr : s.len < 2 ^ 44) (hB : B <= w.heap.size) (hK : Ug w B s l [c] K) :
  Af (.cells #[.int .u8 v] 5) (λ b => Df Tryz.prog (.one (.one .sl)) (Builtin.append_ #[22, 22] 22 #[.slice s.a s.len s.cap, .slice (some (at0 b)) 1 1]) K) w := app1 hv ho hr hB hK
theorem Ia (n : Nat) (h : n < 256) : ((UInt8.ofNat n).toNat : Int) = (n : Int) := by
 rw [UInt8.toNat_ofNat']; omega
theorem Bq1 (a j : Nat) (hj : j <= 2) : IntKind.wrap .u8 ((BitVec.toNat (BitVec.ofInt (IntKind.bits .u8) (128 : Int) ||| BitVec.ofInt (IntKind.bits .u8) (IntKind.wrap .u8 ((BitVec.toNat (BitVec.ofInt (IntKind.bits .u8) (IntKind.wrap .u8 (Int.fdiv (a : Int) (2 ^ (min (Int.toNat (W64 ((6 : Int) * (j : Int)))) (IntKind.bits .i64))))) &&& BitVec.ofInt (IntKind.bits .u8) (63 : Int)) : Nat) : Int))) : Nat) : Int) = ((UInt8.ofNat (128 + a / 64 ^ j % 64)).toNat : Int) := by
 have e : ((2 : Int) ^ (min (Int.toNat (W64 ((6 : Int) * (j : Int)))) (IntKind.bits .i64))) = ((64 ^ j : Nat) : Int) := by
  match j, hj with
  | 0, _ => decide
  | 1, _ => decide
  | 2, _ => decide
 rw [e, Int.fdiv_eq_ediv_of_nonneg _ (Int.natCast_nonneg _), ← Int.natCast_ediv]
 generalize a / 64 ^ j = q
 rw [At5 (a := (q : Int))]
 have h1 := Zu (b := IntKind.bits .u8) (k := 6) (a := (q : Int) % 256) (m := 63) (by omega) (by show _ < (2 : Int) ^ 8; omega) rfl (by decide)
 rw [h1, Vj (a := (q : Int) % 256 % 2 ^ 6) (by omega) (by omega)]
 have h2 := Qd (b := IntKind.bits .u8) (k := 6) (a := 2) (c := (q : Int) % 256 % 2 ^ 6) (by omega) (by omega) (by omega) (by show _ < (2 : Int) ^ 8; omega)
 have e2 : (2 : Int) * 2 ^ 6 = 128 := by decide
 rw [e2] at h2
 rw [h2, Vj (by omega) (by omega), Ia _ (by omega)]
 omega
theorem Bp1 (a n : Nat) (hn : n = sz8 a) (h2 : 2 <= n) : ∃ x : Int, ([(0 : Int), 0, 192, 224, 240])[n]? = some x /\ IntKind.wrap .u8 ((BitVec.toNat (BitVec.ofInt (IntKind.bits .u8) x ||| BitVec.ofInt (IntKind.bits .u8) (IntKind.wrap .u8 (Int.fdiv (a : Int) (2 ^ (min (Int.toNat (W64 ((6 : Int) * (W64 ((n : Int) - (1 : Int)))))) (IntKind.bits .i64)))))) : Nat) : Int) = ((UInt8.ofNat (mk8 n + a / 64 ^ (n - 1))).toNat : Int) := by
 have go : ∀ (k : Nat) (q m : Int), 0 <= q -> q < 2 ^ k -> 0 <= m -> m * 2 ^ k + q < 256 -> IntKind.wrap .u8 ((BitVec.toNat (BitVec.ofInt (IntKind.bits .u8) (m * 2 ^ k) ||| BitVec.ofInt (IntKind.bits .u8) (IntKind.wrap .u8 q)) : Nat) : Int) = m * 2 ^ k + q := by
  intro k q m h0 h1 hm h3
  have hp : (0 : Int) <= m * 2 ^ k := Int.mul_nonneg hm (Int.le_of_lt (Int.pow_pos (by decide)))
  rw [Vj (a := q) h0 (by omega), Qd (b := IntKind.bits .u8) hm h0 h1 h3, Vj (by omega) h3]
 unfold sz8 at hn
 split at hn
 ·omega
 split at hn
 ·omega
 split at hn
 ·subst hn
  refine ⟨192, rfl, ?_⟩
  have e : ((2 : Int) ^ (min (Int.toNat (W64 ((6 : Int) * (W64 (((2 : Nat) : Int) - (1 : Int)))))) (IntKind.bits .i64))) = ((64 : Nat) : Int) := by decide
  rw [e, Int.fdiv_eq_ediv_of_nonneg _ (by omega)]
  have := go 5 ((a : Int) / ((64 : Nat) : Int)) 6 (by omega) (by omega) (by omega) (by omega)
  have e2 : (6 : Int) * 2 ^ 5 = 192 := by decide
  rw [e2] at this
  rw [this]
  have e3 : mk8 2 + a / 64 ^ (2 - 1) = 192 + a / 64 := rfl
  rw [e3, Ia _ (by omega)]
  omega
 split at hn
 ·subst hn
  refine ⟨224, rfl, ?_⟩
  have e : ((2 : Int) ^ (min (Int.toNat (W64 ((6 : Int) * (W64 (((3 : Nat) : Int) - (1 : Int)))))) (IntKind.bits .i64))) = ((4096 : Nat) : Int) := by decide
  rw [e, Int.fdiv_eq_ediv_of_nonneg _ (by omega)]
  have := go 4 ((a : Int) / ((4096 : Nat) : Int)) 14 (by omega) (by omega) (by omega) (by omega)
  have e2 : (14 : Int) * 2 ^ 4 = 224 := by decide
  rw [e2] at this
  rw [this]
  have e3 : mk8 3 + a / 64 ^ (3 - 1) = 224 + a / 4096 := rfl
  rw [e3, Ia _ (by omega)]
  omega
 ·subst hn
  refine ⟨240, rfl, ?_⟩
  have e : ((2 : Int) ^ (min (Int.toNat (W64 ((6 : Int) * (W64 (((4 : Nat) : Int) - (1 : Int)))))) (IntKind.bits .i64))) = ((262144 : Nat) : Int) := by decide
  rw [e, Int.fdiv_eq_ediv_of_nonneg _ (by omega)]
  have := go 3 ((a : Int) / ((262144 : Nat) : Int)) 30 (by omega) (by omega) (by omega) (by omega)
  have e2 : (30 : Int) * 2 ^ 3 = 240 := by decide
  rw [e2] at this
  rw [this]
  have e3 : mk8 4 + a / 64 ^ (4 - 1) = 240 + a / 262144 := rfl
  rw [e3, Ia _ (by omega)]
  omega
theorem Bd3 : ∀ (m a k : Nat), k < m -> (cts m a)[k]? = some (UInt8.ofNat (128 + a / 64 ^ (m - 1 - k) % 64))
 | 0, _, k, h => absurd h (by omega)
 | m + 1, a, 0, _ => rfl
 | m + 1, a, k + 1, h => by
  have e : m + 1 - 1 - (k + 1) = m - 1 - k := by omega
  rw [e]
  exact Bd3 m a k (by omega)
theorem Bf9 {B : Nat} {s : Sl} {l : Bs} {a : Int} {K : Sl -> Wp} (hf : sz8 a ≠ 0) (ho : Ah w B s 5 1 (bv l)) (hr : s.len < 2 ^ 43) (hB : B <= w.heap.size) (hK : Ug w B s l (pt8 a) K) :
  Ac Tryz.prog 197 #[.agg #[], s.v, .int .i64 a] rS K w := by
 refine Ct8 (a0 := ()) ?_
 unfold F197
 refine Bo λ b1 w1 e1 n1 _ _ => ?_
 refine Tt n1 (x := ()) (λ i v hv => by cases hv) (V5 λ w2 e2 => ?_)
 have e12 := e1.trans e2
 have ho2 := ho.ext e12
 have hB2 := Nat.le_trans hB e12.size
 have hK2 := hK.ext e12
 have hrng : -256 <= a /\ (a <= -129 \/ 0 <= a) /\ a <= 1114111 := by
  simp only [sz8] at hf
  split at hf
  ·exact absurd rfl hf
  ·omega
 unfold pt8 at hK2
 refine Aa (λ h => ?_) (λ h => ?_)
 ·simp only [decide_eq_true_eq] at h
  rw [if_pos h] at hK2
  refine app1' ?_ ho2 (by omega) hB2 hK2
  rw [wrap64 (by omega) (by omega), Vj (by omega) (by omega), Ia _ (by omega)]
  omega
 simp only [decide_eq_false_iff_not] at h
 rw [if_neg h] at hK2
 obtain ⟨n, rfl⟩ := Int.eq_ofNat_of_zero_le (Int.not_lt.1 h)
 refine Aa (λ h1 => ?_) (λ h1 => ?_)
 ·simp only [beq_iff_eq] at h1
  have h1' : sz8 (n : Int) = 1 := by omega
  rw [if_pos h1'] at hK2
  refine app1' ?_ ho2 (by omega) hB2 hK2
  have : (n : Int) < 128 := by
   simp only [sz8] at h1'
   repeat' split at h1'
   all_goals first | omega | (cases h1')
  rw [Vj (by omega) (by omega), Ia _ (by omega)]
  omega
 simp only [beq_eq_false_iff_ne] at h1
 have h1' : sz8 (n : Int) ≠ 1 := by omega
 rw [if_neg h1'] at hK2
 have h4 : sz8 (n : Int) <= 4 := by unfold sz8; (repeat' split) <;> omega
 obtain ⟨x, hx, hhead⟩ := Bp1 n _ rfl (by omega)
 generalize hm : sz8 (n : Int) = m at *
 simp only [Int.toNat_natCast] at hK2
 refine (St.start w2).Wy rfl rfl rfl λ b2 w3 S3 e3 => S3.drew λ w4 S4 e4 _ => ?_
 have e24 := e3.trans e4
 have eix : ((at0 b2).add (scaled (Int.toNat ((m : Nat) : Int)) 1)) = ⟨b2, m, none⟩ := by rw [Int.toNat_natCast, addr_add]; simp [Ei]
 have hm24 : m = 2 \/ m = 3 \/ m = 4 := by omega
 have hw1 : W64 (((m : Nat) : Int) - 1) = ((m - 1 : Nat) : Int) := by rw [wrap64 (by omega) (by omega)]; omega
 refine Ci ⟨by omega, by omega⟩ ?_
 rw [eix]
 refine Dt (S4.at_ 0 rfl) (x := x) ?_ (Ci ?_ ?_)
 ·rcases hm24 with rfl | rfl | rfl <;> (cases hx; rfl)
 ·rw [hw1, wrap64 (by omega) (by omega)]; omega
 have ho4 := ho2.ext e24
 have hK4 := hK2.ext e24
 have hB4 := Nat.le_trans hB2 e24.size
 refine app1' hhead ho4 (by omega) hB4 λ s5 w5 o5 hl5 u5 hb5 => ?_
 have hK5 := Ug.then (b1 := [_]) hK4 hl5 u5 hb5
 have hB5 := Nat.le_trans hB4 u5.size
 have hcl := Ak4 (m - 1) n
 have hl5' : s5.len = s.len + 1 := hl5
 refine Ae (λ x w' => K x.1 w') ?_ (λ _ _ h => h)
 refine Am (λ x w' => ∃ k, k <= m - 1 /\ x.2.1 = ((m : Nat) : Int) - 2 - (k : Int) /\ x.1.len = s5.len + k /\ B <= w'.heap.size /\ Ah w' B x.1 5 1 (bv ((l ++ [UInt8.ofNat (mk8 m + n / 64 ^ (m - 1))]) ++ (cts (m - 1) n).take k)) /\
  Ug w' B x.1 ((l ++ [UInt8.ofNat (mk8 m + n / 64 ^ (m - 1))]) ++ (cts (m - 1) n).take k) ((cts (m - 1) n).drop k) K) (λ x _ => (x.2.1 + 1).toNat) ⟨0, Nat.zero_le _, ?_, rfl, hB5, ?_, ?_⟩ ?_
 ·show W64 (((m : Nat) : Int) - 2) = _
  rw [wrap64 (by omega) (by omega)]; omega
 ·simpa using o5
 ·simpa using hK5
 rintro ⟨s6, i, ⟨⟩⟩ w6 ⟨k, hk, hi, hl6, hB6, o6, hK6⟩
 dsimp only at hi hl6 o6 hK6 ⊢
 refine Aa (λ h => ?_) (λ h => ?_)
 ·simp only [decide_eq_true_eq, ge_iff_le] at h
  have hkm : k < m - 1 := by omega
  obtain ⟨j, hj⟩ : ∃ j : Nat, j = m - 2 - k := ⟨_, rfl⟩
  have hij : i = (j : Int) := by omega
  rw [hij]
  have hj2 : j <= 2 := by omega
  refine Ci ?_ ?_
  ·rw [wrap64 (by omega) (by omega)]; omega
  have hg := Bd3 (m - 1) n k hkm
  have ej : m - 1 - 1 - k = j := by omega
  rw [ej] at hg
  have hdr : (cts (m - 1) n).drop k = UInt8.ofNat (128 + n / 64 ^ j % 64) :: (cts (m - 1) n).drop (k + 1) := by
   have hlt : k < (cts (m - 1) n).length := by omega
   rw [List.drop_eq_getElem_cons hlt]
   rw [List.getElem?_eq_getElem hlt] at hg
   rw [Option.some.inj hg]
  rw [hdr] at hK6
  have htk : (cts (m - 1) n).take (k + 1) = (cts (m - 1) n).take k ++ [UInt8.ofNat (128 + n / 64 ^ j % 64)] := by
   rw [List.take_add_one, hg]; rfl
  refine app1' (Bq1 n j hj2) o6 (by omega) hB6 λ s7 w7 o7 hl7 u7 hb7 => ?_
  have hK7 := Ug.then (b1 := [_]) (b2 := (cts (m - 1) n).drop (k + 1)) hK6 hl7 u7 hb7
  rw [List.append_assoc, ← htk] at hK7 o7
  have hl7' : s7.len = s6.len + 1 := hl7
  have hwi : W64 ((j : Int) - 1) = (j : Int) - 1 := wrap64 (by omega) (by omega)
  rw [hwi]
  exact ⟨⟨k + 1, by omega, by omega, by omega, Nat.le_trans hB6 u7.size, o7, hK7⟩, by omega⟩
 ·simp only [decide_eq_false_iff_not, ge_iff_le] at h
  have hkm : k = m - 1 := by omega
  have : (cts (m - 1) n).drop k = [] := List.drop_eq_nil_of_le (by omega)
  rw [this] at hK6
  exact hK6 s6 w6 (by simpa using o6) rfl (Upd.refl _ _) λ k hk => .inl hk
theorem Zm {B : Nat} {s : Sl} {l : Bs} {be : Bool} {u : Nat} {K : Sl -> Wp} (hu : u < 65536) (ho : Ah w B s 5 1 (bv l)) (hr : s.len < 2 ^ 43) (hB : B <= w.heap.size) (hK : Ug w B s l (uni be u) K) :
  Ac Tryz.prog 209 #[.agg #[.int .i64 (lw be)], s.v, .int .i64 (u : Int)] rS K w := by
 refine Cs8 (a0 := (lw be, ())) ?_
 unfold F209
 refine (St.start w).Af λ b1 w1 S1 e1 => S1.Af λ b2 w2 S2 e2 => S2.drew λ w3 S3 e3 _ => ?_
 refine S3.ld 1 rfl (x := lw be) rfl (S3.ld 1 rfl (x := lw be) rfl (Ci (by decide) ?_))
 have e13 := (e1.trans e2).trans e3
 have hsh : IntKind.wrap .u8 (Int.fdiv (u : Int) (2 ^ (min (Int.toNat (8 : Int)) (IntKind.bits .i64)))) = ((UInt8.ofNat (u / 256)).toNat : Int) := by
  have e : ((2 : Int) ^ (min (Int.toNat (8 : Int)) (IntKind.bits .i64))) = 256 := by decide
  rw [e, Int.fdiv_eq_ediv_of_nonneg _ (by decide), At5, Ia _ (by omega)]
  omega
 have hlo : IntKind.wrap .u8 (u : Int) = ((UInt8.ofNat u).toNat : Int) := by
  rw [At5, UInt8.toNat_ofNat']; omega
 rw [hsh, hlo]
 have fin : ∀ (x y : UInt8) (w5 : World), Ext w w5 -> uni be u = [x, y] -> w5.heap[b2]? = some (.cells #[.int .u8 (x.toNat : Int), .int .u8 (y.toNat : Int)] 227 (0, 0)) ->
   slc (some (at0 b2)) 0 ((2 : Nat) : Int) ((2 : Nat) : Int) 2 1 (λ x5 => Df Tryz.prog (.one (.one .sl)) (Builtin.append_ #[22, 22] 22 #[(.slice s.a s.len s.cap), (.slice x5.a x5.len x5.cap)]) K) w5 := by
  intro x y w5 e5 hxy n5
  refine Xl (s := ⟨some (at0 b2), 2, 2⟩) (Aq.Hr (n := 2) (sz := 1) n5 rfl) (by decide) (by decide) (Int.le_refl _) (Int.le_refl _) (Int.le_refl _) λ s6 h6 hl6 _ _ => ?_
  have hl6' : s6.len = 2 := hl6
  refine As7 EBy uBy (ho.ext e5) h6 (λ v hv => ?_) (by omega) (Nat.le_trans hB e5.size) λ s7 w7 o7 hl7 u7 hb7 => ?_
  ·have hv' := List.mem_of_mem_drop (List.mem_of_mem_take hv)
   simp at hv'
   rcases hv' with rfl | rfl <;> rfl
  ·have hK5 := hK.ext e5
   rw [hxy] at hK5
   refine hK5 s7 w7 ?_ (by rw [hl7, hl6']; rfl) u7 hb7
   simpa [bv] using o7
 cases be with
 | false =>
  have e0 : lw false = 0 := rfl
  rw [e0] at S3 ⊢
  have ew : W64 ((1 : Int) - 0) = 1 := by decide
  rw [ew]
  refine Ci (by decide) ?_
  have a0 : ((at0 b2).add (scaled (Int.toNat (0 : Int)) 1)) = ⟨b2, 0, none⟩ := by rw [addr_add]; rfl
  have a1 : ((at0 b2).add (scaled (Int.toNat (1 : Int)) 1)) = ⟨b2, 1, none⟩ := by rw [addr_add]; rfl
  rw [a0, a1]
  refine S3.stC 0 (off := 0) rfl (by decide) λ w4 S4 u4 => S4.keep 1 rfl rfl (Ci (by decide) (S4.stC 0 (off := 1) rfl (by simp) λ w5 S5 u5 => ?_))
  exact fin _ _ w5 S5.upd rfl (S5.at_ 0 rfl)
 | true =>
  have e0 : lw true = 1 := rfl
  rw [e0] at S3 ⊢
  have ew : W64 ((1 : Int) - 1) = 0 := by decide
  rw [ew]
  refine Ci (by decide) ?_
  have a0 : ((at0 b2).add (scaled (Int.toNat (0 : Int)) 1)) = ⟨b2, 0, none⟩ := by rw [addr_add]; rfl
  have a1 : ((at0 b2).add (scaled (Int.toNat (1 : Int)) 1)) = ⟨b2, 1, none⟩ := by rw [addr_add]; rfl
  rw [a0, a1]
  refine S3.stC 0 (off := 1) rfl (by decide) λ w4 S4 u4 => S4.keep 1 rfl rfl (Ci (by decide) (S4.stC 0 (off := 0) rfl (by simp) λ w5 S5 u5 => ?_))
  exact fin _ _ w5 S5.upd rfl (S5.at_ 0 rfl)
theorem Bn7 {a : Int} (h : a < 0) (h2 : -256 <= a) : IntKind.wrap .u8 (W64 ((-1 : Int) - a)) = ((UInt8.ofNat (-1 - a).toNat).toNat : Int) := by
 rw [wrap64 (by omega) (by omega), Vj (by omega) (by omega), Ia _ (by omega)]
 omega
theorem X8 {B : Nat} {s : Sl} {l : Bs} {be : Bool} {a : Int} {K : Sl -> Wp} (hf : Oh a ≠ 0) (ho : Ah w B s 5 1 (bv l)) (hr : s.len < 2 ^ 42) (hB : B <= w.heap.size) (hK : Ug w B s l (Ac0 be a) K) :
  Ac Tryz.prog 204 #[.agg #[.int .i64 (lw be)], s.v, .int .i64 a] rS K w := by
 refine Ct3 (a0 := (lw be, ())) ?_
 unfold F204
 have hrng : -256 <= a /\ a <= 1114111 := by
  simp only [Oh] at hf
  split at hf
  ·exact absurd rfl hf
  ·omega
 refine (St.start w).Af λ b1 w1 S1 e1 => ?_
 unfold Ac0 at hK
 refine Aa (λ h => ?_) (λ h => ?_)
 ·simp only [decide_eq_true_eq] at h
  rw [if_pos h] at hK
  exact app1' (Bn7 h hrng.1) (ho.ext e1) (by omega) (Nat.le_trans hB e1.size) (hK.ext e1)
 simp only [decide_eq_false_iff_not] at h
 rw [if_neg h] at hK
 obtain ⟨n, rfl⟩ := Int.eq_ofNat_of_zero_le (Int.not_lt.1 h)
 rw [Int.toNat_natCast] at hK
 refine Aa (λ h1 => ?_) (λ h1 => ?_)
 ·simp only [decide_eq_true_eq] at h1
  rw [if_pos h1] at hK
  exact S1.lds 0 (lw be, ()) rfl (Zm (by omega) (ho.ext e1) (by omega) (Nat.le_trans hB e1.size) (hK.ext e1))
 simp only [decide_eq_false_iff_not] at h1
 rw [if_neg h1] at hK
 refine S1.drew λ w2 S2 e2 _ => S2.lds 0 (lw be, ()) rfl (S2.lds 0 (lw be, ()) rfl (Ci (by decide) ?_))
 have e12 := e1.trans e2
 have b1e : W64 ((BitVec.toNat (BitVec.ofInt (IntKind.bits .i64) (55296 : Int) ||| BitVec.ofInt (IntKind.bits .i64) (Int.fdiv (W64 ((n : Int) - (65536 : Int))) (2 ^ (min (Int.toNat (10 : Int)) (IntKind.bits .i64))))) : Nat) : Int) = ((55296 + (n - 65536) / 1024 : Nat) : Int) := by
  have e : ((2 : Int) ^ (min (Int.toNat (10 : Int)) (IntKind.bits .i64))) = 1024 := by decide
  rw [e, wrap64 (a := (n : Int) - 65536) (by omega) (by omega), Int.fdiv_eq_ediv_of_nonneg _ (by decide)]
  have h2 := Qd (b := IntKind.bits .i64) (k := 10) (a := 54) (c := ((n : Int) - 65536) / 1024) (by omega) (by omega) (by omega) (by show _ < (2 : Int) ^ 64; omega)
  have e2 : (54 : Int) * 2 ^ 10 = 55296 := by decide
  rw [e2] at h2
  rw [h2, wrap64 (by omega) (by omega)]
  omega
 have b2e : W64 ((BitVec.toNat (BitVec.ofInt (IntKind.bits .i64) (56320 : Int) ||| BitVec.ofInt (IntKind.bits .i64) (W64 ((BitVec.toNat (BitVec.ofInt (IntKind.bits .i64) (n : Int) &&& BitVec.ofInt (IntKind.bits .i64) (1023 : Int)) : Nat) : Int))) : Nat) : Int) = ((56320 + n % 1024 : Nat) : Int) := by
  have g1 := Zu (b := IntKind.bits .i64) (k := 10) (a := (n : Int)) (m := 1023) (by omega) (by show _ < (2 : Int) ^ 64; omega) rfl (by decide)
  rw [g1, wrap64 (a := (n : Int) % 2 ^ 10) (by omega) (by omega)]
  have h2 := Qd (b := IntKind.bits .i64) (k := 10) (a := 55) (c := (n : Int) % 2 ^ 10) (by omega) (by omega) (by omega) (by show _ < (2 : Int) ^ 64; omega)
  have e2 : (55 : Int) * 2 ^ 10 = 56320 := by decide
  rw [e2] at h2
  rw [h2, wrap64 (by omega) (by omega)]
  omega
 rw [b1e, b2e]
 have n2 := S2.at_ 0 rfl
 have hbo : B <= b1 \/ True := .inr trivial
 refine Zm (by omega) (ho.ext e12) (by omega) (Nat.le_trans hB e12.size) λ s3 w3 o3 hl3 u3 hb3 => ?_
 have hnb : ¬ s.blk b1 := λ hk => by
  have := (ho.ext e12).in.Ec hk
  obtain ⟨c, fr, hc⟩ := this
  rw [n2] at hc; cases hc
 refine Ar (Fa _ 0 λ j v hj => ?_) ?_
 ·rw [Nat.zero_add]
  exact cell_of (u3.get n2 hnb) (by rw [Nat.zero_add, ← Array.getElem?_toList]; exact hj)
 ·have hl3' : s3.len = s.len + 2 := by rw [hl3, O6]
  exact Zm (by omega) o3 (by omega) (Nat.le_trans (Nat.le_trans hB e12.size) u3.size) (Ug.then (hK.ext e12) hl3 u3 hb3)
theorem Bg0 {B : Nat} {s : Sl} {l : Bs} {a : Int} {K : Sl -> Wp} (hf : sz1 a ≠ 0) (ho : Ah w B s 5 1 (bv l)) (hr : s.len < 2 ^ 42) (hB : B <= w.heap.size) (hK : Ug w B s l (pt1 a) K) :
  Ac Tryz.prog 213 #[.agg #[], s.v, .int .i64 a] rS K w := by
 refine Cs6 (a0 := ()) ?_
 unfold F213
 have hrng : 0 <= a /\ a <= 255 := by
  simp only [sz1] at hf
  split at hf
  ·exact absurd rfl hf
  ·omega
 refine Bo λ b1 w1 e1 _ _ _ => app1' ?_ (ho.ext e1) (by omega) (Nat.le_trans hB e1.size) (hK.ext e1)
 rw [Vj (by omega) (by omega), Ia _ (by omega)]
 omega
theorem Cc8 {B : Nat} {s : Sl} {l : Bs} {e : Enc} {a : Int} {K : Sl -> Wp} (hf : sz e a ≠ 0) (ho : Ah w B s 5 1 (bv l)) (hr : s.len < 2 ^ 42) (hB : B <= w.heap.size) (hK : Ug w B s l (pt e a) K) :
  Bf Tryz.prog (invoke (.fn (.method "copyist/codec.put") #[]) (#[I7 e] ++ #[.slice s.a s.len s.cap, .int .i64 a])) (.one (.one .sl)) K w := by
 cases e with
 | u8 => exact P7 (f := 197) (v' := .agg #[]) (λ w => by kernel_rfl) (by kernel_rfl) (Bf9 hf ho (by omega) hB hK)
 | le => exact P7 (f := 204) (v' := .agg #[.int .i64 (lw false)]) (λ w => by kernel_rfl) (by kernel_rfl) (X8 hf ho hr hB hK)
 | be => exact P7 (f := 204) (v' := .agg #[.int .i64 (lw true)]) (λ w => by kernel_rfl) (by kernel_rfl) (X8 hf ho hr hB hK)
 | l1 => exact P7 (f := 213) (v' := .agg #[]) (λ w => by kernel_rfl) (by kernel_rfl) (Bg0 hf ho hr hB hK)
theorem Bi7 {s : Sl} {t : TypeId} {e : Enc} {a : Int} {K : Sl × Int × Int × Unit -> Wp} (hf : sz e a ≠ 0) (hs : Aq w s t 1 [.int .i64 a])
  (hK : ∀ s' w', Ah w' w.heap.size s' 5 1 (bv (pt e a)) -> Ext w w' -> K (s', 0, 0, ()) w') :
  Ac Tryz.prog 142 #[.int .i64 e.num, s.v] (.tup [(.one .sl), (.one (.int .i64)), (.one (.int .i64))]) K w := by
 refine Cw3 ?_
 unfold F142
 have hlen : s.len = 1 := by have := hs.len1; simpa using this.symm
 have hs' : Aq w s t 1 ([a].map (Cell.int .i64).val) := hs
 refine Aj5 ?_
 have put : ∀ {w1 : World} {o : Sl} {K : Sl -> Wp}, Ext w w1 -> o = ⟨none, 0, 0⟩ -> Ug w1 w.heap.size o [] (pt e a) K -> Bf Tryz.prog (invoke (.fn (.method "copyist/codec.put") #[]) (#[I7 e] ++ #[.slice o.a o.len o.cap, .int .i64 a])) (.one (.one .sl)) K w1 := by
  rintro w1 o K e1 rfl hK
  exact Cc8 hf (Ah.nil _ _ _ _) (by show (0 : Nat) < 2 ^ 42; decide) e1.size hK
 have size : ∀ {w : World} {K : Int -> Wp}, (∀ w', Ext w w' -> K ((sz e a : Nat) : Int) w') -> Bf Tryz.prog (invoke (.fn (.method "copyist/codec.size") #[]) (#[I7 e] ++ #[.int .i64 a])) (.one (.one (.int .i64))) K w := λ h => Bm0 h
 obtain ⟨ty, v, hc⟩ := Ud e
 rw [hc] at put size ⊢
 refine Ai9 (Aa (λ h => by cases h) λ _ => ?_) ⟨_, Tryz.underlying132⟩
 refine Ae (λ x w' => Ah w' w.heap.size x.1 5 1 (bv (pt e a)) /\ Ext w w') ?_ λ x w' h => hK _ _ h.1 h.2
 refine Am (λ x w' => (x = (⟨none, 0, 0⟩, 0, ()) /\ w = w') \/ (x.2.1 = 1 /\ Ah w' w.heap.size x.1 5 1 (bv (pt e a)) /\ Ext w w')) (λ x _ => (1 - x.2.1).toNat) (.inl ⟨rfl, rfl⟩) ?_
 rintro x w' (⟨rfl, rfl⟩ | ⟨hx, ho, hE⟩)
 ·refine Aa (λ _ => ?_) (λ h => ?_)
  ·refine Iu hs' (by decide) (x := a) rfl λ p => size λ w1 e1 => Aa (λ h => ?_) (λ _ => ?_)
   ·simp only [beq_iff_eq] at h; omega
   ·refine put e1 rfl λ s2 w2 o2 _ u2 _ => ⟨.inr ⟨by show W64 (0 + 1) = 1; decide, by simpa using o2, e1.trans (u2.mono λ k _ hk => ?_)⟩, by show (1 - W64 (0 + 1)).toNat < ((1 : Int) - 0).toNat; decide⟩
    obtain ⟨p, hp, _⟩ := hk
    cases hp
  ·simp only [decide_eq_false_iff_not] at h; omega
 ·refine Aa (λ h => ?_) (λ _ => ⟨ho, hE⟩)
  simp only [decide_eq_true_eq] at h; omega
end
end Go.Proofs.YtabcpghhfeplaaaGreat
namespace Go.Proofs.YtabcpghhfeplaaaGreat
open Go Go.Vx Cdc Trx
section
variable {w w' : World} {S : Nat -> Prop}
theorem E5 {a : Int} {n : Nat} {K : Cells.T Ap -> Wp} (hK : ∀ w', Ext w w' -> K (smT (one1 a n)) w') :
  Ac Tryz.prog 87 #[.int .i64 a, .int .i64 (n : Int)] (.one (.agg Ap)) K w := by
 refine A87 ?_
 unfold F87
 refine (St.start w).Af λ b1 w1 S1 e1 => S1.Af λ b2 w2 S2 e2 => S2.Ad 0 rfl rfl rfl rfl λ w3 S3 u3 => ?_
 let z1 : Nat × Obj := (b1, .cells #[(.int .i64 (0 : Int)), (.int .i64 (0 : Int)), (.int .i64 (0 : Int)), (.bool false), (.bool false)] 110 (0, 0))
 refine Ae (λ _ w' => St (λ _ => False) w w' [(b2, .cells (Cells.vals Ap (smT (one1 a n))).toArray 110 (0, 0)), z1]) ?_ ?_
 ·refine Ae (λ x w' => x = ((a == 10 || a == 13), ()) /\ w3 = w') (S3.ld 0 rfl (x := (a == 10)) rfl (Aa (λ h => ⟨by rw [h]; rfl, rfl⟩) (λ h => S3.ld 0 rfl (x := (a == 13)) rfl ⟨by rw [h]; rfl, rfl⟩))) ?_
  rintro _ w' ⟨rfl, rfl⟩
  have e0 : (one1 a n).breaks = if (a == 10 || a == 13) = true then 1 else 0 := by
   show (if a = 10 \/ a = 13 then 1 else 0) = _
   simp
  refine Aa (λ h => S3.stC 0 rfl (by show 2 < 5; decide) λ w4 S4 u4 => ?_) (λ h => ?_)
  ·have : smT (one1 a n) = ((1 : Int), (n : Int), (1 : Int), (a == 10), (a == 13), ()) := by
    unfold smT; rw [e0, if_pos h]; rfl
   rw [this]; exact S4
  ·have : smT (one1 a n) = ((1 : Int), (n : Int), (0 : Int), (a == 10), (a == 13), ()) := by
    unfold smT
    have h' : (a == 10 || a == 13) = false := h
    rw [e0, h']; rfl
   rw [this]; exact S3
 ·intro _ w5 S5
  exact S5.lds 0 (smT (one1 a n)) rfl (S5.Ad 1 rfl rfl rfl rfl λ w6 S6 u6 => S6.lds 1 (smT (one1 a n)) rfl (hK w6 S6.upd))
def Xa (e : Enc) (s : Sl) (tag : Int) (l : Bs) : Pc := ⟨s, tag, msr (ats e l)⟩
theorem Nh {e : Enc} {s : Sl} {l : Bs} {tag : Int} (hB : By w s l) (hl : l.length < 2 ^ 59) {K : Cells.T Ag -> Wp} (hK : ∀ w', Ext w w' -> K (pcT (Xa e s tag l)) w') :
  Ac Tryz.prog 64 #[.int .i64 e.num, s.v, .int .i64 tag] (.one (.agg Ag)) K w := by
 refine A64 ?_
 unfold F64
 have hlen := hB.len
 let z1 : Nat × Obj := (0, .cells #[(.slice none 0 0), (.int .i64 (0 : Int)), (.int .i64 (0 : Int)), (.int .i64 (0 : Int)), (.int .i64 (0 : Int)), (.bool false), (.bool false)] 112 (0, 0))
 refine (St.start w).Af λ b1 w1 S1 e1 => S1.Af λ b2 w2 S2 e2 => S2.Ad 0 rfl rfl rfl rfl λ w3 S3 u3 => ?_
 refine Ae (λ _ w' => St (λ _ => False) w w' [(b2, .cells (Cells.vals Ag (pcT (Xa e s tag l))).toArray 112 (0, 0)), (b1, z1.2)]) ?_ ?_
 ·refine Am (λ x w' => ∃ j, x = ((szs ((ats e l).take j) : Int), ()) /\ St (λ _ => False) w w' [(b2, .cells (Cells.vals Ag (pcT ⟨s, tag, msr ((ats e l).take j)⟩)).toArray 112 (0, 0)), (b1, z1.2)]) (λ x _ => ((l.length : Int) - x.1).toNat) ⟨0, rfl, S3⟩ ?_
  rintro _ w5 ⟨j, rfl, S5⟩
  have okj := Ko ((Es e l).take j)
  have byj := Ic ((Es e l).take j)
  refine Aa (λ h => ?_) (λ h => ?_)
  ·simp only [decide_eq_true_eq] at h
   obtain ⟨a, n, ha, hn, ht, hs, h1, hle⟩ := Qb (e := e) (l := l) (j := j) (by omega)
   refine Qg (hB.ext S5.upd) (by omega) λ w6 e6 => ?_
   rw [hn]
   have S6 := S5.ext e6
   refine S6.drew λ w7 S7 e7 _ => ?_
   have h7 : ∀ {W : World} {t : Nat}, St (λ _ => False) w W [(b2, .cells (Cells.vals Ag (pcT ⟨s, tag, msr ((ats e l).take j)⟩)).toArray 112 (0, 0)), (b1, z1.2)] -> ∀ i v, (Cells.vals Ap (smT (msr ((ats e l).take j))))[i]? = some v -> ((Cells.vals Ag (pcT ⟨s, tag, msr ((ats e l).take j)⟩)).toArray)[2 + i]? = some v := by
    intro W t _ i v hv
    match i, hv with
    | 0, hv => exact hv
    | 1, hv => exact hv
    | 2, hv => exact hv
    | 3, hv => exact hv
    | 4, hv => exact hv
    | i + 5, hv => cases hv
   refine Tt (S7.at_ 0 rfl) (x := smT (msr ((ats e l).take j))) (h7 (t := 0) S7) (E5 λ w8 e8 => ?_)
   have S8 := S7.ext e8
   refine Ar ?_ (Yu okj (Qv a h1) (by rw [byj]; show szs ((ats e l).take j) + n < 2 ^ 60; omega) λ w9 e9 => ?_)
   ·exact Fa _ 0 λ i v hv => cell_of (S8.at_ 0 rfl) (by rw [Nat.zero_add]; exact h7 (t := 0) S8 i v hv)
   have S9 := S8.ext e9
   rw [← Ao2 ((Es e l).take j) h1, ← ht]
   refine S9.Bx9 0 rfl rfl rfl (by show 2 + 5 <= 7; decide) λ w10 S10 => ?_
   have ew : W64 ((szs ((ats e l).take j) : Int) + (n : Int)) = ((szs ((ats e l).take (j + 1)) : Nat) : Int) := by
    rw [wrap64 (by omega) (by omega)]; omega
   refine ⟨⟨j + 1, by dsimp only; rw [ew], S10⟩, ?_⟩
   dsimp only
   rw [ew]; omega
  ·simp only [decide_eq_false_iff_not] at h
   rw [Uw (e := e) (l := l) (j := j) (by omega)] at S5
   exact S5
 ·intro _ w5 S5
  exact S5.lds 0 (pcT (Xa e s tag l)) rfl (S5.Ad 1 rfl rfl rfl rfl λ w6 S6 u6 => S6.lds 1 (pcT (Xa e s tag l)) rfl (hK w6 S6.upd))
end
section
variable {w w' : World} {S : Nat -> Prop}
def top (s : Sl) : Nat := match s.a with | some p => p.off + s.len | none => 0
theorem Vb {s : Sl} {l h m : Int} {k : Nat} (hk : (Sl.cut s.a l h m 1).blk k) : s.blk k := by
 obtain ⟨p, hp, rfl⟩ := hk
 have hp : (if m.toNat = l.toNat then s.a else s.a.map (·.add (scaled l.toNat 1))) = some p := hp
 split at hp
 ·exact ⟨p, hp, rfl⟩
 ·cases ha : s.a with
  | none => rw [ha] at hp; cases hp
  | some q =>
   rw [ha] at hp; cases hp
   exact ⟨q, ha, by unfold Addr.add; split <;> rfl⟩
theorem By.at0 {s : Sl} {l : Bs} (h : By w s l) {p : Addr} (hp : s.a = some p) : p.spot = none := by
 rcases h.at_ with ⟨hn, _⟩ | ⟨b, off, c, fr, ha, _⟩
 ·rw [hn] at hp; cases hp
 ·rw [ha] at hp; cases hp; rfl
theorem Ak3 {s : Sl} {b : Bs} (hB : By w s b) {l h m : Int} (h0 : 0 <= l) (h1 : l <= h) (h2 : h <= s.len) : top (Sl.cut s.a l h m 1) <= top s := by
 unfold top
 show (match (if m.toNat = l.toNat then s.a else s.a.map (·.add (scaled l.toNat 1))) with | some p => p.off + (h.toNat - l.toNat) | none => 0) <= _
 cases ha : s.a with
 | none => split <;> simp_all
 | some q =>
  have hs := hB.at0 ha
  split
  ·rename_i p hp
   split at hp
   ·cases hp
    show q.off + (h.toNat - l.toNat) <= q.off + s.len
    omega
   ·simp only [Option.map_some, Option.some.injEq] at hp
    subst hp
    obtain ⟨qb, qo, qs⟩ := q
    simp only at hs
    subst hs
    rw [Ei, addr_add]
    show qo + l.toNat * 1 + (h.toNat - l.toNat) <= qo + s.len
    omega
  ·exact Nat.zero_le _
theorem By.cut {s : Sl} {b : Bs} (hB : By w s b) {l h m : Int} (h0 : 0 <= l) (h1 : l <= h) (h2 : h <= s.len) (h3 : h <= m) (h4 : m <= s.cap) : By w (Sl.cut s.a l h m 1) ((b.drop l.toNat).take (h.toNat - l.toNat)) := by
 have := Ah8 (K := λ s' w' => By w s' ((b.drop l.toNat).take (h.toNat - l.toNat))) hB h0 h1 h2 h3 h4 λ s' h _ _ => h
 obtain ⟨_, _, h⟩ := this
 exact h
def cutAt (e : Enc) (b : Bs) (n : Nat) : Nat := szs ((ats e b).take n)
theorem Uc (e : Enc) (b : Bs) (n : Nat) : cutAt e b n <= b.length := Wv n
def Pm (e : Enc) (x : Pc) (b : Bs) (n : Nat) : Pc := Xa e (Sl.cut x.bytes.a 0 (cutAt e b n : Int) (cutAt e b n : Int) 1) x.tag (b.take (cutAt e b n))
def Dq (t : Int) (n : Nat) : Int := if 0 <= t then t + n else t
def Nw (e : Enc) (x : Pc) (b : Bs) (n : Nat) : Pc := Xa e (Sl.cut x.bytes.a (cutAt e b n : Int) (x.bytes.len : Int) (x.bytes.cap : Int) 1) (Dq x.tag (cutAt e b n)) (b.drop (cutAt e b n))
theorem Ea {e : Enc} {x : Pc} {b : Bs} {n : Nat} (hB : By w x.bytes b) (hl : b.length < 2 ^ 59) (ht : -1 <= x.tag /\ x.tag < 2 ^ 59) (hn : n < 2 ^ 62) {K : Cells.T Ag × Cells.T Ag × Unit -> Wp}
  (hK : ∀ w', Ext w w' -> K (pcT (Pm e x b n), pcT (Nw e x b n), ()) w') :
  Ac Tryz.prog 112 #[pcV x, .int .i64 e.num, .int .i64 (n : Int)] (.tup [(.agg Ag), (.agg Ag)]) K w := by
 refine Cz3 (a0 := pcT x) ?_
 unfold F112
 have hlen := hB.len
 have hcap := hB.le
 let z : Obj := .cells #[(.slice none 0 0), (.int .i64 (0 : Int)), (.int .i64 (0 : Int)), (.int .i64 (0 : Int)), (.int .i64 (0 : Int)), (.bool false), (.bool false)] 112 (0, 0)
 let q : Obj := .cells (Cells.vals Ag (pcT x)).toArray 112 (0, 0)
 refine (St.start w).Af λ b1 w1 S1 e1 => S1.Af λ b2 w2 S2 e2 => S2.Af λ b3 w3 S3 e3 => ?_
 have hcl := Uc e b n
 refine Ae (λ s w' => s = ((cutAt e b n : Int), ()) /\ St (λ _ => False) w w' [(b3, z), (b2, z), (b1, q)]) ?_ ?_
 ·refine Am (λ s w' => ∃ j, j <= n /\ s = (((n - j : Nat) : Int), (szs ((ats e b).take j) : Int), ()) /\ St (λ _ => False) w w' [(b3, z), (b2, z), (b1, q)]) (λ s _ => s.1.toNat) ⟨0, Nat.zero_le _, rfl, S3⟩ ?_
  rintro _ w5 ⟨j, hj, rfl, S5⟩
  refine Ae (λ s w' => s = (decide (j < n) && decide (szs ((ats e b).take j) < b.length), ()) /\ w5 = w') ?_ ?_
  ·refine Aa (λ h => S5.ld 2 rfl (x := x.bytes) rfl ⟨Aj ?_, rfl⟩) (λ h => ⟨Aj ?_, rfl⟩)
   ·simp only [decide_eq_true_eq, gt_iff_lt, Bool.and_eq_true] at h ⊢; omega
   ·simp only [decide_eq_false_iff_not, gt_iff_lt, Bool.and_eq_true, decide_eq_true_eq] at h ⊢
    constructor
    ·intro h; cases h
    ·intro h; omega
  rintro _ w6 ⟨rfl, rfl⟩
  refine Aa (λ h => ?_) (λ h => ?_)
  ·simp only [Bool.and_eq_true, decide_eq_true_eq] at h
   obtain ⟨a, m, ha, hm, htk, hs, h1, hle⟩ := Qb (e := e) (l := b) (j := j) h.2
   refine S5.ld 2 rfl (x := x.bytes) rfl (Qg (hB.ext S5.upd) h.2 λ w7 e7 => ?_)
   rw [hm]
   have ew : W64 ((szs ((ats e b).take j) : Int) + (m : Int)) = ((szs ((ats e b).take (j + 1)) : Nat) : Int) := by
    rw [wrap64 (by omega) (by omega)]; omega
   have ew2 : W64 (((n - j : Nat) : Int) - 1) = ((n - (j + 1) : Nat) : Int) := by
    rw [wrap64 (by omega) (by omega)]; omega
   refine ⟨⟨j + 1, by omega, by dsimp only; rw [ew, ew2], S5.ext e7⟩, ?_⟩
   dsimp only
   rw [ew2]; omega
  ·refine ⟨?_, S5⟩
   have : szs ((ats e b).take j) = cutAt e b n := by
    unfold cutAt
    by_cases hjn : j < n
    ·have hnl : ¬ szs ((ats e b).take j) < b.length := λ hc => by simp [hjn, hc] at h
     have h1 := Uw hnl
     have h2 : (ats e b).take n = ats e b := by
      refine List.take_of_length_le ?_
      have : (ats e b).length <= j := by
       have := congrArg List.length h1
       rw [List.length_take] at this; omega
      omega
     rw [h1, h2]
    ·have : j = n := by omega
     rw [this]
   rw [this]
 ·rintro _ w5 ⟨rfl, S5⟩
  refine S5.ld 2 rfl (x := x.tag) rfl ?_
  refine Ae (λ s w' => s = (Dq x.tag (cutAt e b n), ()) /\ w5 = w') ?_ ?_
  ·unfold Dq
   refine Aa (λ h => ⟨?_, rfl⟩) (λ h => ⟨?_, rfl⟩)
   ·simp only [decide_eq_true_eq, ge_iff_le] at h
    rw [if_pos h, wrap64 (by omega) (by omega)]
   ·simp only [decide_eq_false_iff_not, ge_iff_le] at h
    rw [if_neg h]
  rintro _ w6 ⟨rfl, rfl⟩
  refine S5.drew λ w7 S7 e7 _ => S7.ld 2 rfl (x := x.bytes) rfl ?_
  have hB7 : By w7 x.bytes b := hB.ext S7.upd
  have c1 := hB7.cut (l := 0) (h := (cutAt e b n : Int)) (m := (cutAt e b n : Int)) (by omega) (by omega) (by omega) (by omega) (by omega)
  have c2 := hB7.cut (l := (cutAt e b n : Int)) (h := (x.bytes.len : Int)) (m := (x.bytes.cap : Int)) (by omega) (by omega) (by omega) (by omega) (by omega)
  have d1 : (b.drop (0 : Int).toNat).take ((cutAt e b n : Int).toNat - (0 : Int).toNat) = b.take (cutAt e b n) := by simp
  have d2 : (b.drop (cutAt e b n : Int).toNat).take ((x.bytes.len : Int).toNat - (cutAt e b n : Int).toNat) = b.drop (cutAt e b n) := by
   rw [Int.toNat_natCast, Int.toNat_natCast]
   exact List.take_of_length_le (by rw [List.length_drop]; omega)
  rw [d1] at c1
  rw [d2] at c2
  refine Ci (by omega) (S7.ld 2 rfl (x := x.tag) rfl (S7.ld 2 rfl (x := x.bytes) rfl (Ci (by omega) ?_)))
  refine Nh c1 (by rw [List.length_take]; omega) λ w8 e8 => ?_
  have S8 := S7.ext e8
  refine S8.keep 2 rfl (v := .slice x.bytes.a x.bytes.len x.bytes.cap) rfl ?_
  refine Nh (c2.ext e8) (by rw [List.length_drop]; omega) λ w9 e9 => ?_
  have S9 := S8.ext e9
  exact S9.Ad 1 rfl rfl rfl rfl λ w10 S10 u10 => S10.Ad 0 rfl rfl rfl rfl λ w11 S11 u11 => S11.lds 1 (pcT (Pm e x b n)) rfl (S11.lds 0 (pcT (Nw e x b n)) rfl (hK w11 S11.upd))
end
section
variable {w w' : World} {S : Nat -> Prop}
abbrev Parts := List (Int × Bs)
def aOf (e : Enc) (M : Parts) : As := M.flatMap λ x => ats e x.2
theorem Gn (e : Enc) (x : Int × Bs) (M : Parts) : aOf e (x :: M) = ats e x.2 ++ aOf e M := rfl
theorem Fe (e : Enc) (M N : Parts) : aOf e (M ++ N) = aOf e M ++ aOf e N := by simp [aOf]
theorem Fz (e : Enc) (M : Parts) : Iz (aOf e M) := λ x hx => by
 obtain ⟨y, _, hy⟩ := List.mem_flatMap.1 hx
 exact Es e _ x hy
structure O5 (w : World) (e : Enc) (x : Pc) (y : Int × Bs) : Prop where
 by_ : By w x.bytes y.2
 sm : x.sm = msr (ats e y.2)
 tag : x.tag = y.1
 ne : y.2 ≠ []
 lo : -1 <= y.1
 hi : y.1 + y.2.length <= 2 ^ 40
def Its (w : World) (e : Enc) : List Pc -> Parts -> Prop
 | [], [] => True
 | x :: l, y :: M => O5 w e x y /\ Its w e l M
 | _, _ => False
theorem O5.upd {e : Enc} {x : Pc} {y : Int × Bs} (h : O5 w e x y) (u : Upd S w w') (hS : ∀ k, x.bytes.blk k -> ¬ S k) : O5 w' e x y := ⟨h.by_.upd u hS, h.sm, h.tag, h.ne, h.lo, h.hi⟩
theorem Its.upd {e : Enc} : ∀ {l : List Pc} {M : Parts}, Its w e l M -> Upd S w w' -> (∀ x ∈ l, ∀ k, x.bytes.blk k -> ¬ S k) -> Its w' e l M
 | [], [], _, _, _ => trivial
 | x :: l, y :: M, h, u, hS => ⟨h.1.upd u (hS x List.mem_cons_self), h.2.upd u λ z hz => hS z (List.mem_cons_of_mem _ hz)⟩
theorem Its.ext {e : Enc} {l : List Pc} {M : Parts} (h : Its w e l M) (x : Ext w w') : Its w' e l M := h.upd x λ _ _ _ _ => id
theorem Its.len {e : Enc} : ∀ {l : List Pc} {M : Parts}, Its w e l M -> l.length = M.length
 | [], [], _ => rfl
 | x :: l, y :: M, h => by simp [h.2.len]
theorem Its.app {e : Enc} : ∀ {l : List Pc} {M : Parts} {l' : List Pc} {M' : Parts}, Its w e l M -> Its w e l' M' -> Its w e (l ++ l') (M ++ M')
 | [], [], _, _, _, h => h
 | x :: l, y :: M, _, _, h, h' => ⟨h.1, h.2.app h'⟩
theorem Its.take {e : Enc} : ∀ {l : List Pc} {M : Parts} (n : Nat), Its w e l M -> Its w e (l.take n) (M.take n)
 | [], [], n, _ => by simp [Its]
 | x :: l, y :: M, 0, _ => trivial
 | x :: l, y :: M, n + 1, h => ⟨h.1, h.2.take n⟩
theorem Its.drop {e : Enc} : ∀ {l : List Pc} {M : Parts} (n : Nat), Its w e l M -> Its w e (l.drop n) (M.drop n)
 | [], [], n, _ => by simp [Its]
 | x :: l, y :: M, 0, h => h
 | x :: l, y :: M, n + 1, h => h.2.drop n
theorem Its.get {e : Enc} : ∀ {l : List Pc} {M : Parts} (n : Nat) {x : Pc}, Its w e l M -> l[n]? = some x -> ∃ y, M[n]? = some y /\ O5 w e x y
 | x :: l, y :: M, 0, z, h, hz => ⟨y, rfl, by cases hz; exact h.1⟩
 | x :: l, y :: M, n + 1, z, h, hz => h.2.get n (by simpa using hz)
theorem Its.ok {e : Enc} : ∀ {l : List Pc} {M : Parts}, Its w e l M -> Cb l
 | [], [], _ => λ _ h => by cases h
 | x :: l, y :: M, h => Cb.cons (by rw [h.1.sm]; exact Ko (Es e _)) h.2.ok
theorem Its.tot {e : Enc} : ∀ {l : List Pc} {M : Parts}, Its w e l M -> tot l = msr (aOf e M)
 | [], [], _ => rfl
 | x :: l, y :: M, h => by
  show x.sm.add (Trx.tot l) = _
  rw [h.1.sm, h.2.tot, Gn, Ob (Es e _) (Fz e M)]
theorem Its.fine {e : Enc} {l : List Pc} {M : Parts} (h : Its w e l M) (hs : szs (aOf e M) < 2 ^ 59) : Fine l := by
 refine ⟨h.ok, ?_, by rw [h.tot, Ic (Fz e M)]; omega⟩
 have key : ∀ (l : List Pc) (M : Parts), Its w e l M -> l.length <= szs (aOf e M) := by
  intro l
  induction l with
  | nil => intro M _; simp
  | cons x l ih =>
   intro M h
   cases M with
   | nil => exact h.elim
   | cons y M =>
    have h1 := ih M h.2
    have h2 := Gg e y.2
    have h3 := List.length_pos_iff.2 h.1.ne
    rw [Gn, Ba, List.length_cons]; omega
 have := key l M h
 omega
structure Txt (w : World) (p : Nat) (e : Enc) (lim na : Nat) (O : Nat -> Prop) (M : Parts) : Prop where
 ex : ∃ (t : Tr) (a : Sl) (ab : Bs), w.heap[p]? = some (.cells #[.int .i64 e.num, .int .i64 (lim : Int), .pointer t.ptr, .slice a.a a.len a.cap] 107 (0, 0)) /\ t.In w /\ Its w e t.items M /\ Ah w 0 a 5 1 (bv ab) /\
  (∀ x ∈ t.items, ∀ k, x.bytes.blk k -> a.blk k -> top x.bytes <= top a) /\ (∀ x ∈ t.items, ∀ k, x.bytes.blk k -> O k) /\ (∀ k, a.blk k -> O k) /\ a.len <= na
 lims : lim <= 65536
 sz : szs (aOf e M) <= 1048576
 op : O p
 own : ∀ k, O k -> k < w.heap.size
variable {p : Nat} {e : Enc} {lim na : Nat} {O : Nat -> Prop} {M : Parts}
theorem Txt.upd (h : Txt w p e lim na O M) (u : Upd S w w') (hS : ∀ k, O k -> ¬ S k) (hN : Eh w S 144) : Txt w' p e lim na O M := by
 obtain ⟨t, a, ab, h1, h2, h3, h4, h5, h6, h7, h8⟩ := h.ex
 exact ⟨⟨t, a, ab, u.get h1 (hS p h.op), h2.ty u hN, h3.upd u λ x hx k hk => hS k (h6 x hx k hk), h4.upd u λ k _ hk => hS k (h7 k hk), h5, h6, h7, h8⟩, h.lims, h.sz, h.op, λ k hk => Nat.lt_of_lt_of_le (h.own k hk) u.size⟩
theorem Txt.ext (h : Txt w p e lim na O M) (x : Ext w w') : Txt w' p e lim na O M := h.upd x (λ _ _ => id) λ _ hk => hk.elim
theorem Wn : ∀ {l : As}, Iz l -> l.length <= szs l
 | [], _ => Nat.zero_le _
 | x :: r, h => by rw [Ii, List.length_cons]; have := Wn h.tail; have := h x List.mem_cons_self; omega
theorem Txt.few (h : Txt w p e lim na O M) : (aOf e M).length <= 1048576 := Nat.le_trans (Wn (Fz e M)) h.sz
theorem Txt.Bw9 (h : Txt w p e lim na O M) : ∃ t : Tr, t.In w /\ Its w e t.items M /\ Fine t.items /\ (∀ {w'} {K : Addr -> Cells.T c105 -> Wp}, Ext w w' -> K (at0 p) (t.ptr, ()) w' -> nn (some (at0 p)) (λ q => lds c105 (q.add 2) (K q)) w') /\ ∀ x ∈ t.items, ∀ k, x.bytes.blk k -> O k := by
 obtain ⟨t, a, ab, h1, h2, h3, _, _, h6, _⟩ := h.ex
 refine ⟨t, h2, h3, h3.fine (by have := h.sz; have := h.lims; omega), λ {w'} {K} x hK => Dv ?_, h6⟩
 rw [addr_add]
 refine Tt (x.ext_get h1) (x := (t.ptr, ())) (λ i v hv => ?_) hK
 match i, hv with
 | 0, hv => exact hv
 | i + 1, hv => cases hv
theorem Txt.tree (h : Txt w p e lim na O M) : ∃ t : Tr, t.In w /\ Its w e t.items M /\ Fine t.items /\ ∀ {w'} {K : Addr -> Cells.T c105 -> Wp}, Ext w w' -> K (at0 p) (t.ptr, ()) w' -> nn (some (at0 p)) (λ q => lds c105 (q.add 2) (K q)) w' := by
 obtain ⟨t, h1, h2, h3, h4, _⟩ := h.Bw9
 exact ⟨t, h1, h2, h3, h4⟩
theorem Txt.enc (h : Txt w p e lim na O M) {K : Addr -> Int -> Wp} (hK : K (at0 p) e.num w) : nn (some (at0 p)) (λ q => ld (.int .i64) q (K q)) w := by
 obtain ⟨t, a, ab, h1, _⟩ := h.ex
 exact Dv (Dt h1 (x := e.num) rfl hK)
theorem Hu (h : Txt w p e lim na O M) {K : Int -> Wp} (hK : ∀ w', Ext w w' -> K (((aOf e M).length : Nat) : Int) w') :
  Ac Tryz.prog 40 #[.pointer (some (at0 p))] rI K w := by
 refine A40 ?_
 unfold F40
 obtain ⟨t, ht, hi, hf, rd⟩ := h.tree
 refine rd (Ext.refl w) (Ui ht λ w1 e1 => ?_)
 have := hK w1 e1
 rw [← Kq (Fz e M), ← hi.tot] at this
 exact this
theorem Au7 (h : Txt w p e lim na O M) {K : Int -> Wp} (hK : ∀ w', Ext w w' -> K ((szs (aOf e M) : Nat) : Int) w') :
  Ac Tryz.prog 110 #[.pointer (some (at0 p))] rI K w := by
 refine Cz5 ?_
 unfold F110
 obtain ⟨t, ht, hi, hf, rd⟩ := h.tree
 refine rd (Ext.refl w) (Ui ht λ w1 e1 => ?_)
 have := hK w1 e1
 rw [← Ic (Fz e M), ← hi.tot] at this
 exact this
def At1 (e : Enc) (M : Parts) (at_ i n : Nat) : Prop := (at_ = 0 /\ i = 0 /\ n = 0) \/ ∃ x, M[i]? = some x /\ 1 <= n /\ n <= (ats e x.2).length /\ at_ = (aOf e (M.take i)).length + n
theorem Ba9 (e : Enc) : ∀ (M : Parts) (at_ : Nat), 1 <= at_ -> at_ <= (aOf e M).length -> ∃ i n, i < M.length /\ At1 e M at_ i n /\ 1 <= n /\ at_ = (aOf e (M.take i)).length + n /\ at_ <= (aOf e (M.take (i + 1))).length /\ ∀ j, j <= i -> (aOf e (M.take j)).length < at_
 | [], at_, h1, h2 => by simp [aOf] at h2; omega
 | x :: M, at_, h1, h2 => by
  by_cases hle : at_ <= (ats e x.2).length
  ·exact ⟨0, at_, by simp, .inr ⟨x, rfl, h1, hle, by simp [aOf]⟩, h1, by simp [aOf], by simpa [aOf] using hle, λ j hj => by
    have : j = 0 := by omega
    subst this; simp [aOf]; omega⟩
  ·rw [Gn, List.length_append] at h2
   obtain ⟨i, n, hi, hs, hn, he, hle2, hlow⟩ := Ba9 e M (at_ - (ats e x.2).length) (by omega) (by omega)
   refine ⟨i + 1, n, by simpa using hi, ?_, hn, ?_, ?_, ?_⟩
   ·rcases hs with ⟨h, _⟩ | ⟨y, hy, g1, g2, g3⟩
    ·omega
    ·exact .inr ⟨y, by simpa using hy, g1, g2, by rw [List.take_succ_cons, Gn, List.length_append]; omega⟩
   ·rw [List.take_succ_cons, Gn, List.length_append]; omega
   ·rw [List.take_succ_cons, Gn, List.length_append]; omega
   ·intro j hj
    cases j with
    | zero => simp [aOf]; omega
    | succ j => rw [List.take_succ_cons, Gn, List.length_append]; have := hlow j (by omega); omega
theorem Qq {at_ : Int} (h : Txt w p e lim na O M) (hle : at_ <= ((aOf e M).length : Int)) {K : Int × Int × Unit -> Wp}
  (hK : ∀ (i n : Nat) w', At1 e M at_.toNat i n -> i <= M.length -> Ext w w' -> K ((i : Int), (n : Int), ()) w') : Ac Tryz.prog 73 #[.pointer (some (at0 p)), .int .i64 at_] (.tup [(.one (.int .i64)), (.one (.int .i64))]) K w := by
 refine A73 ?_
 unfold F73
 have few := h.few; have lim := h.lims
 obtain ⟨t, ht, hi, hf, rd⟩ := h.tree
 refine Aa (λ h => hK 0 0 w (.inl ⟨?_, rfl, rfl⟩) (Nat.zero_le _) (Ext.refl w)) (λ h => ?_)
 ·simp only [decide_eq_true_eq] at h; omega
 simp only [decide_eq_false_iff_not] at h
 obtain ⟨m, rfl⟩ : ∃ m : Nat, at_ = (m : Int) := ⟨at_.toNat, by omega⟩
 obtain ⟨i, n, hil, hs, hn, he, hle2, hlow⟩ := Ba9 e M m (by omega) (by omega)
 have hlen := hi.len
 have kk : ∀ j, keyOf 0 (tot (t.items.take j)) = (aOf e (M.take j)).length := λ j => by
  have := (hi.take j).tot
  show (tot (t.items.take j)).atoms = _
  rw [this, Kq (Fz e _)]
 have hfind : Yg 0 m t.items = i + 1 := Aa2 (by omega) (by rw [kk]; exact hle2) λ j hj => by rw [kk]; exact hlow j (by omega)
 refine rd (Ext.refl w) (Af9 (k := 0) (n := m) (by decide) (by omega) ht hf λ w1 e1 => ?_)
 have few2 := hf.few
 have ew : W64 (((i + 1 : Nat) : Int) - 1) = (i : Int) := by rw [wrap64 (by omega) (by omega)]; omega
 rw [hfind, ew]
 refine rd e1 (Yw (ht.ext e1) hf (by omega) λ w2 e2 => ?_)
 have ea : ((smT (tot (t.items.take i))).1) = (((aOf e (M.take i)).length : Nat) : Int) := by rw [← kk i]; rfl
 rw [ea]
 have ew2 : W64 ((m : Int) - (((aOf e (M.take i)).length : Nat) : Int)) = (n : Int) := by rw [wrap64 (by omega) (by omega)]; omega
 rw [ew2]
 exact hK i n w2 (by simpa using hs) (by omega) (e1.trans e2)
theorem Ac9 {e : Enc} {M : Parts} {at_ i n : Nat} (h : At1 e M at_ i n) : (aOf e M).take at_ = aOf e (M.take i) ++ (match M[i]? with | some x => (ats e x.2).take n | none => []) := by
 rcases h with ⟨rfl, rfl, rfl⟩ | ⟨x, hx, h1, h2, rfl⟩
 ·cases M[0]? <;> simp [aOf]
 ·rw [hx]
  have hil := (List.getElem?_eq_some_iff.1 hx).1
  have hd : M = M.take i ++ x :: M.drop (i + 1) := by
   have := List.drop_eq_getElem_cons hil
   have hx' : M[i] = x := by rw [List.getElem?_eq_getElem hil] at hx; exact Option.some.inj hx
   rw [hx'] at this
   rw [← this, List.take_append_drop]
  have : aOf e M = aOf e (M.take i) ++ (ats e x.2 ++ aOf e (M.drop (i + 1))) := by
   conv => lhs; rw [hd]
   rw [Fe, Gn]
  rw [this, List.take_length_add_append, List.take_append_of_le_length h2]
end
section
variable {w w' : World} {S : Nat -> Prop} {p : Nat} {e : Enc} {lim na : Nat} {O : Nat -> Prop} {M : Parts}
theorem Txt.Kz (h : Txt w p e lim na O M) : w.cell? (at0 p) = some (.int .i64 e.num) := by
 obtain ⟨t, a, ab, h1, _⟩ := h.ex
 exact cell_of h1 rfl
theorem Bf1 {l : As} (h : Iz l) (n : Nat) : szs (l.take n) <= szs l := by
 have := Ba (l.take n) (l.drop n)
 rw [List.take_append_drop] at this; omega
theorem Xh {at_ : Nat} (h : Txt w p e lim na O M) (hle : at_ <= (aOf e M).length) {K : Cells.T Ap -> Wp} (hK : ∀ w', Ext w w' -> K (smT (msr ((aOf e M).take at_))) w') :
  Ac Tryz.prog 89 #[.pointer (some (at0 p)), .int .i64 (at_ : Int)] (.one (.agg Ap)) K w := by
 refine A89 ?_
 unfold F89
 have few := h.few; have lims := h.lims; have hsz := h.sz
 obtain ⟨t, ht, hi, hf, rd⟩ := h.tree
 let z1 : Nat -> Nat × Obj := λ b => (b, .cells #[(.int .i64 (0 : Int)), (.int .i64 (0 : Int)), (.int .i64 (0 : Int)), (.bool false), (.bool false)] 110 (0, 0))
 refine (St.start w).Af λ b1 w1 S1 e1 => Qq (h.ext e1) (by omega) λ i n w2 hs hil e2 => ?_
 rw [Int.toNat_natCast] at hs
 have S2 := S1.ext e2
 have hn : n < 2 ^ 30 := by
  rcases hs with ⟨_, _, hn⟩ | ⟨x, hx, h1, h2, h3⟩
  ·omega
  ·omega
 have il := hi.len
 have fl := hf.few
 refine rd S2.upd (Yw (ht.ext S2.upd) hf (by omega) λ w3 e3 => ?_)
 have etk : tot (t.items.take i) = msr (aOf e (M.take i)) := (hi.take i).tot
 rw [etk]
 refine (S2.ext e3).Af λ b6 w4 S4 e4 => S4.Ad 0 rfl rfl rfl rfl λ w5 S5 u5 => ?_
 refine Ae (λ _ w' => St (λ _ => False) w w' [(b6, .cells (Cells.vals Ap (smT (msr ((aOf e M).take at_)))).toArray 110 (0, 0)), z1 b1]) ?_ ?_
 ·refine rd S5.upd (U1 (ht.ext S5.upd) hf (by omega) λ w6 e6 => ?_)
  refine (S5.ext e6).Af λ b12 w7 S7 e7 => S7.Ad 0 rfl rfl rfl rfl λ w8 S8 u8 => ?_
  have tk := Ac9 hs
  cases hx : t.items[i]? with
  | none =>
   have hM : M[i]? = none := List.getElem?_eq_none (by have := List.getElem?_eq_none_iff.1 hx; omega)
   have e0 : atI t.items i = (Pc.zero, false) := by unfold atI; rw [hx]
   rw [e0] at S8 ⊢
   rw [hM] at tk
   refine Aa (λ h => by cases h) (λ _ => ?_)
   rw [tk, List.append_nil]
   exact S8.tail
  | some x =>
   have e0 : atI t.items i = (x, true) := by unfold atI; rw [hx]
   rw [e0] at S8 ⊢
   obtain ⟨y, hy, hp⟩ := hi.get i hx
   rw [hy] at tk
   have hyl : y.2.length <= 1048576 := by
    have h1 : y ∈ M := List.mem_of_getElem? hy
    have h2 : szs (aOf e M) = szs (aOf e (M.take i)) + (y.2.length + szs (aOf e (M.drop (i + 1)))) := by
     have hil := (List.getElem?_eq_some_iff.1 hy).1
     have hd := List.drop_eq_getElem_cons hil
     have hx' : M[i] = y := by rw [List.getElem?_eq_getElem hil] at hy; exact Option.some.inj hy
     rw [hx'] at hd
     conv => lhs; rw [← List.take_append_drop i M, hd]
     rw [Fe, Gn, Ba, Ba, Gg]
    omega
   have hlo := hp.lo; have hhi := hp.hi
   refine Aa (λ _ => ?_) (λ h => by cases h)
   have hT := h
   have S := S8
   refine Ae (λ s W => ∃ b, s.1 = at0 b /\ W.heap[b]? = some (.cells (Cells.vals Ag (pcT (Pm e x y.2 n))).toArray 112 (0, 0)) /\ St (λ _ => False) w W [(b12, .cells (Cells.vals Ag (pcT x)).toArray 112 (0, 0)), (b6, .cells (Cells.vals Ap (smT (msr (aOf e (M.take i))))).toArray 110 (0, 0)), z1 b1]) ?_ ?_
   ·refine S.drew λ w9 S e9 _ => S.lds 0 (pcT x) rfl ((hT.ext S.upd).enc ?_)
    exact ⟨S.Af λ b18 wx S ex => Ar (hT.ext S.upd).Kz (S.keeps 1 rfl (⟨S.Af λ b19 wx S ex => Ar (hT.ext S.upd).Kz (S.keeps 2 rfl (Ea (hp.by_.ext S.upd) (by omega) (by rw [hp.tag]; omega) (by omega) λ wx ex => (λ S => S.Ad 1 rfl rfl rfl rfl λ wx S ux => S.Ad 0 rfl rfl rfl rfl λ wx S ux => ⟨b18, rfl, S.at_ 1 rfl, S.tail.tail⟩) (S.ext ex))), Ea (hp.by_.ext S.upd) (by omega) (by rw [hp.tag]; omega) (by omega) λ wx ex => (λ S => ⟨S.Af λ b22 wx S ex => Ar (hT.ext S.upd).Kz (S.keeps 2 rfl (S.Ad 1 rfl rfl rfl rfl λ wx S ux => S.Ad 0 rfl rfl rfl rfl λ wx S ux => ⟨b18, rfl, S.at_ 1 rfl, S.tail.tail⟩)), trivial⟩) (S.ext ex)⟩)), ⟨S.Af λ b23 wx S ex => Ar (hT.ext S.upd).Kz (S.keeps 1 rfl (⟨S.Af λ b24 wx S ex => Ar (hT.ext S.upd).Kz (S.keeps 2 rfl (Ea (hp.by_.ext S.upd) (by omega) (by rw [hp.tag]; omega) (by omega) λ wx ex => (λ S => S.Ad 0 rfl rfl rfl rfl λ wx S ux => S.Ad 1 rfl rfl rfl rfl λ wx S ux => ⟨b24, rfl, S.at_ 0 rfl, S.tail.tail⟩) (S.ext ex))), Ea (hp.by_.ext S.upd) (by omega) (by rw [hp.tag]; omega) (by omega) λ wx ex => (λ S => ⟨S.Af λ b27 wx S ex => Ar (hT.ext S.upd).Kz (S.keeps 2 rfl (S.Ad 0 rfl rfl rfl rfl λ wx S ux => S.Ad 1 rfl rfl rfl rfl λ wx S ux => ⟨b27, rfl, S.at_ 0 rfl, S.tail.tail⟩)), trivial⟩) (S.ext ex)⟩)), Ea (hp.by_.ext S.upd) (by omega) (by rw [hp.tag]; omega) (by omega) λ wx ex => (λ S => ⟨S.Af λ b29 wx S ex => Ar (hT.ext S.upd).Kz (S.keeps 1 rfl (⟨S.Af λ b30 wx S ex => Ar (hT.ext S.upd).Kz (S.keeps 2 rfl (S.Ad 1 rfl rfl rfl rfl λ wx S ux => S.Ad 0 rfl rfl rfl rfl λ wx S ux => ⟨b29, rfl, S.at_ 1 rfl, S.tail.tail⟩)), trivial⟩)), ⟨S.Af λ b31 wx S ex => Ar (hT.ext S.upd).Kz (S.keeps 1 rfl (⟨S.Af λ b32 wx S ex => Ar (hT.ext S.upd).Kz (S.keeps 2 rfl (S.Ad 0 rfl rfl rfl rfl λ wx S ux => S.Ad 1 rfl rfl rfl rfl λ wx S ux => ⟨b32, rfl, S.at_ 0 rfl, S.tail.tail⟩)), trivial⟩)), trivial⟩⟩) (S.ext ex)⟩⟩
   ·rintro ⟨_, _⟩ w9 ⟨b, rfl, hb, S9⟩
    refine S9.lds 1 (smT (msr (aOf e (M.take i)))) rfl ?_
    dsimp only
    rw [addr_add]
    refine Tt hb (x := smT (Pm e x y.2 n).sm) (λ j v hv => ?_) ?_
    ·match j, hv with
     | 0, hv => exact hv
     | 1, hv => exact hv
     | 2, hv => exact hv
     | 3, hv => exact hv
     | 4, hv => exact hv
     | j + 5, hv => cases hv
    have hsm : (Pm e x y.2 n).sm = msr ((ats e y.2).take n) := by
     show msr (ats e (y.2.take (cutAt e y.2 n))) = _
     unfold cutAt
     rw [(Rj e n y.2).1]
    rw [hsm]
    have p1 := Fz e (M.take i)
    have p2 := (Es e y.2).take n
    refine Yu (Ko p1) (Ko p2) ?_ λ w10 e10 => ?_
    ·have h3 := Bf1 (Fz e M) at_
     rw [tk, Ba] at h3
     rw [Ic p1, Ic p2]
     dsimp only at h3
     omega
    have S10 := S9.ext e10
    rw [← Ob p1 p2]
    dsimp only at tk
    rw [← tk]
    exact S10.Ad 1 rfl rfl rfl rfl λ w11 S11 u11 => S11.tail
 ·intro _ w6 S6
  exact S6.lds 0 (smT _) rfl (S6.Ad 1 rfl rfl rfl rfl λ w7 S7 u7 => S7.lds 1 (smT _) rfl (hK w7 S7.upd))
end
section
variable {w w' : World} {S : Nat -> Prop} {p : Nat} {e : Enc} {lim na : Nat} {O : Nat -> Prop} {M : Parts}
theorem Txt.stay (h : Txt w p e lim na O M) (u : Upd S w w') (hS : ∀ k, O k -> ¬ S k) (s : Fh w w') : Txt w' p e lim na O M := by
 obtain ⟨t, a, ab, h1, h2, h3, h4, h5, h6, h7, h8⟩ := h.ex
 exact ⟨⟨t, a, ab, u.get h1 (hS p h.op), h2.stay s, h3.upd u λ x hx k hk => hS k (h6 x hx k hk), h4.upd u λ k _ hk => hS k (h7 k hk), h5, h6, h7, h8⟩, h.lims, h.sz, h.op, λ k hk => Nat.lt_of_lt_of_le (h.own k hk) u.size⟩
def U4 : Int -> As -> List Int
 | _, [] => []
 | t, x :: r => t :: U4 (Dq t x.2) r
def tOf (e : Enc) (M : Parts) : List Int := M.flatMap λ x => U4 x.1 (ats e x.2)
theorem Yy : ∀ (t : Int) (l : As), (U4 t l).length = l.length
 | _, [] => rfl
 | t, x :: r => congrArg (· + 1) (Yy _ r)
theorem An0 (t : Int) (n m : Nat) : Dq (Dq t n) m = Dq t (n + m) := by
 unfold Dq
 by_cases h : 0 <= t
 ·simp only [if_pos h]; rw [if_pos (by omega)]; omega
 ·simp only [if_neg h]
theorem Ai6 (t : Int) : Dq t 0 = t := by unfold Dq; split <;> omega
theorem Ad1 : ∀ (t : Int) (l : As) (q : Nat), q < l.length -> (U4 t l)[q]? = some (Dq t (szs (l.take q)))
 | _, [], q, h => absurd h (by simp)
 | t, x :: r, 0, _ => by show some t = _; rw [List.take_zero, O7, Ai6]
 | t, x :: r, q + 1, h => by
  show (U4 (Dq t x.2) r)[q]? = _
  rw [Ad1 _ r q (by simpa using h), List.take_succ_cons, Ii, An0]
theorem Ba6 (e : Enc) : ∀ M : Parts, (tOf e M).length = (aOf e M).length
 | [] => rfl
 | x :: M => by
  show (U4 x.1 (ats e x.2) ++ tOf e M).length = (ats e x.2 ++ aOf e M).length
  rw [List.length_append, List.length_append, Yy, Ba6 e M]
theorem Bs5 (e : Enc) (M N : Parts) : tOf e (M ++ N) = tOf e M ++ tOf e N := by simp [tOf]
theorem Cc1 {e : Enc} {M : Parts} {i q : Nat} {y : Int × Bs} (hy : M[i]? = some y) (hq : q < (ats e y.2).length) : (aOf e M)[(aOf e (M.take i)).length + q]? = (ats e y.2)[q]? /\ (tOf e M)[(aOf e (M.take i)).length + q]? = some (Dq y.1 (szs ((ats e y.2).take q))) := by
 have hil := (List.getElem?_eq_some_iff.1 hy).1
 have hx' : M[i] = y := by rw [List.getElem?_eq_getElem hil] at hy; exact Option.some.inj hy
 have hd : M = M.take i ++ y :: M.drop (i + 1) := by
  have := List.drop_eq_getElem_cons hil
  rw [hx'] at this
  rw [← this, List.take_append_drop]
 have e1 : aOf e M = aOf e (M.take i) ++ (ats e y.2 ++ aOf e (M.drop (i + 1))) := by
  conv => lhs; rw [hd]
  rw [Fe, Gn]
 have e2 : tOf e M = tOf e (M.take i) ++ (U4 y.1 (ats e y.2) ++ tOf e (M.drop (i + 1))) := by
  conv => lhs; rw [hd]
  rw [Bs5]; rfl
 constructor
 ·rw [e1, List.getElem?_append_right (by omega), Nat.add_sub_cancel_left, List.getElem?_append_left hq]
 ·rw [e2, ← Ba6, List.getElem?_append_right (by omega), Nat.add_sub_cancel_left, List.getElem?_append_left (by rw [Yy]; exact hq), Ad1 _ _ _ hq]
theorem _root_.Go.Vx.Upd.Z9 {b k : Nat} {o : Obj} (u : Upd (λ k => k = b) w w') (h : w.heap[k]? = some o) (hn : k ≠ b) : w'.heap[k]? = some o := u.get h hn
theorem Ak1 {W : World} {b : Nat} {c : Array Value} {t : TypeId} (h : W.heap[b]? = some (.cells c t (0, 0))) (hp : Bz4 (.cells c t (0, 0)) = false) {W' : World} (u : Upd (λ k => k = b) W W') : Fh W W' :=
 Fh.upd u λ k hk o ho => by subst hk; rw [h] at ho; cases ho; exact hp
abbrev Cp4 (w : World) (e : Enc) (M : Parts) (O U : Nat -> Prop) (from_ cnt : Nat) (f : Value) (Inv : Nat -> Nat -> Wp) : Prop :=
 ∀ (N j : Nat) (a : Int) (tag : Int) (W : World) (K : Unit -> Wp), w.heap.size <= N -> N <= W.heap.size -> j < cnt -> (atoms (aOf e M))[from_ + j]? = some a -> (tOf e M)[from_ + j]? = some tag -> Inv N j W ->
  (∀ W', Fh W W' -> Upd (λ k => U k \/ N <= k) W W' -> Inv N (j + 1) W' -> K () W') ->
  Bf Tryz.prog (do let d ← Deferred.ofValue f #[.int .i64 a, .int .i64 tag]; invoke d.target d.args : Sem Next) (.tup []) K W
structure WAt (w : World) (p : Nat) (e : Enc) (lim na : Nat) (O : Nat -> Prop) (M : Parts) (its : List Pc) (b1 b2 b7 b8 N n cnt : Nat) (f : Value) (Inv : Nat -> Nat -> Wp) (c : Nat) (W : World) : Prop where
 inv : Inv N (c - n) W
 lt : c - n < cnt
 txt : Txt W p e lim na O M
 its : Its W e its M
 size : N <= W.heap.size
 h1 : W.heap[b1]? = some (.cells #[.pointer (some (at0 p))] 25 (0, 0))
 h2 : W.heap[b2]? = some (.cells #[f] 79 (0, 0))
 h7 : W.heap[b7]? = some (.cells #[.int .i64 ((n - c : Nat) : Int)] 3 (0, 0))
 h8 : W.heap[b8]? = some (.cells #[.int .i64 ((cnt - (c - n) : Nat) : Int)] 3 (0, 0))
set_option maxHeartbeats 1000000 in
theorem Au1 {from_ to_ : Int} {f : Value} (h : Txt w p e lim na O M) (hf1 : Dx f = true) (U : Nat -> Prop) (hU : ∀ k, U k -> k < w.heap.size /\ ¬ O k) (Inv : Nat -> Nat -> Wp)
  (h0 : ∀ N W, Ext w W -> w.heap.size <= N -> N <= W.heap.size -> Inv N 0 W)
  (hs : ∀ (N j : Nat) (W W' : World) (S : Nat -> Prop), w.heap.size <= N -> N <= W.heap.size -> Inv N j W -> Upd S W W' -> (∀ k, S k -> w.heap.size <= k /\ k < N) -> Inv N j W')
  (hsee : Cp4 w e M O U from_.toNat (min to_.toNat (aOf e M).length - from_.toNat) f Inv) {K : Unit -> Wp}
  (hK : ∀ N W', w.heap.size <= N -> N <= W'.heap.size -> Inv N (min to_.toNat (aOf e M).length - from_.toNat) W' -> K () W') :
  Ac Tryz.prog 47 #[.pointer (some (at0 p)), .int .i64 from_, .int .i64 to_, f] (.tup []) K w := by
 refine A47 ?_
 unfold F47
 have few := h.few; have lims := h.lims; have hsz := h.sz
 obtain ⟨t, ht, hi, hf, rd, hOt⟩ := h.Bw9
 have il := hi.len; have fl := hf.few
 refine (St.start w).Af λ b1 w1 S1 e1 => Ci (by show (Dx f && true) = true; rw [hf1]; rfl) (S1.Af λ b2 w2 S2 e2 => S2.ld 1 rfl (x := some (at0 p)) rfl (Hu (h.ext S2.upd) λ w3 e3 => ?_))
 have S3 := S2.ext e3
 have ef : (if (0 : Int) > from_ then 0 else from_) = ((from_.toNat : Nat) : Int) := by split <;> omega
 rw [ef]
 generalize hcnt : min to_.toNat (aOf e M).length - from_.toNat = cnt at *
 generalize hfr : from_.toNat = fr at *
 refine Aa (λ hc => ?_) (λ hc => ?_)
 ·have : cnt = 0 := by
   simp only [decide_eq_true_eq, ge_iff_le] at hc
   split at hc <;> omega
  subst this
  exact hK _ w3 (Nat.le_refl _) S3.upd.size (h0 _ w3 S3.upd (Nat.le_refl _) S3.upd.size)
 have hto : (if ((aOf e M).length : Int) < to_ then ((aOf e M).length : Int) else to_) = ((fr + cnt : Nat) : Int) := by
  simp only [decide_eq_false_iff_not, ge_iff_le] at hc
  split at hc
  ·rename_i hh; rw [if_pos hh]; omega
  ·rename_i hh; rw [if_neg hh]; omega
 rw [hto] at hc ⊢
 simp only [decide_eq_false_iff_not, ge_iff_le] at hc
 have hcl : fr + cnt <= (aOf e M).length := by omega
 refine S3.ld 1 rfl (x := some (at0 p)) rfl (Qq (h.ext S3.upd) (by omega) λ i n w4 hsp hil e4 => ?_)
 rw [Int.toNat_natCast] at hsp
 have S4 := S3.ext e4
 refine S4.Af λ b7 w5 S5 e5 => S5.stC 0 rfl (by decide) λ w6 S6 u6 => S6.Af λ b8 w7 S7 e7 => ?_
 have ew : W64 (((fr + cnt : Nat) : Int) - ((fr : Nat) : Int)) = (cnt : Int) := by rw [wrap64 (by omega) (by omega)]; omega
 rw [ew]
 refine S7.stC 0 rfl (by decide) λ w8 S8 u8 => S8.ld 3 rfl (x := some (at0 p)) rfl (rd S8.upd ?_)
 refine A74 (a0 := (t.ptr, ())) ?_
 unfold F74
 refine S8.Af λ c1 w9 S9 e9 => S9.Af λ c2 w10 S10 e10 => ?_
 have hx10 := S10.upd
 have hsz10 := hx10.size
 have o7 := S10.ge 3 rfl
 have o8 := S10.ge 2 rfl
 have o7l := lt_of_heap (S10.at_ 3 rfl)
 have o8l := lt_of_heap (S10.at_ 2 rfl)
 have o1l := lt_of_heap (S10.at_ 5 rfl)
 have o2l := lt_of_heap (S10.at_ 4 rfl)
 have o1 := S10.ge 5 rfl
 have o2 := S10.ge 4 rfl
 have nd : [c2, c1, b8, b7, b2, b1].Nodup := S10.nd
 simp only [List.nodup_cons, List.mem_cons, List.not_mem_nil, or_false, not_or] at nd
 let cj : Nat -> Nat := λ j => (aOf e ((M.drop i).take j)).length
 have hbase : fr = (aOf e (M.take i)).length + n := by
  rcases hsp with ⟨h1, h2, h3⟩ | ⟨x, hx, g1, g2, g3⟩
  ·subst h2; subst h3; simpa [aOf] using h1
  ·exact g3
 have hcj : ∀ j, (aOf e (M.take (i + j))).length = (aOf e (M.take i)).length + cj j := λ j => by
  show _ = _ + (aOf e ((M.drop i).take j)).length
  rw [← List.length_append, ← Fe, ← List.take_add]
 have hn : n < 2 ^ 30 := by omega
 have hcnt30 : cnt < 2 ^ 30 := by omega
 let N := w10.heap.size + 2
 let At := WAt w p e lim na O M t.items b1 b2 b7 b8 N n cnt f Inv
 have hO : ∀ k, O k -> k < w.heap.size := h.own
 have atE : ∀ {c W W'}, At c W -> Ext W W' -> At c W' := λ {c W W'} a x => ⟨hs N _ W W' _ (by omega) a.size a.inv x (λ _ h => h.elim), a.lt, a.txt.ext x, a.its.ext x, Nat.le_trans a.size x.size, x.ext_get a.h1, x.ext_get a.h2, x.ext_get a.h7, x.ext_get a.h8⟩
 have atU : ∀ {c W W'} (k0 : Nat), At c W -> w.heap.size <= k0 -> k0 < N -> k0 ≠ b1 -> k0 ≠ b2 -> k0 ≠ b7 -> k0 ≠ b8 -> Upd (λ k => k = k0) W W' -> Fh W W' -> At c W' := by
  intro c W W' k0 a g1 g2 n1 n2 n7 n8 u s
  exact ⟨hs N _ W W' _ (by omega) a.size a.inv u (λ k hk => by subst hk; exact ⟨g1, g2⟩), a.lt, a.txt.stay u (λ k hk e => by subst e; have := hO _ hk; omega) s, a.its.upd u (λ x hx k hk e => by subst e; have := hO _ (hOt x hx _ hk); omega),
   Nat.le_trans a.size u.size, u.get a.h1 (λ h => n1 h.symm), u.get a.h2 (λ h => n2 h.symm), u.get a.h7 (λ h => n7 h.symm), u.get a.h8 (λ h => n8 h.symm)⟩
 refine Ap5 (n := i) (λ _ => rfl) (S10.at_ 1 rfl) (S10.at_ 0 rfl) (ht.ext hx10) hf (by omega) (λ j W => At (cj j) W) (λ ec W => ec = .ret /\ Inv N cnt W /\ N <= W.heap.size) ?_ (λ j W W' => atE) ?_ ?_ ?_
 ·intro W x hW
  have e0 : cj 0 = 0 := rfl
  refine ⟨?_, by rw [e0]; omega, h.ext (hx10.trans x), hi.ext (hx10.trans x), hW, x.ext_get (S10.at_ 5 rfl), x.ext_get (S10.at_ 4 rfl), ?_, ?_⟩
  ·rw [e0, Nat.zero_sub]; exact h0 N W (hx10.trans x) (by omega) hW
  ·rw [e0]; exact x.ext_get (S10.at_ 3 rfl)
  ·rw [e0, Nat.zero_sub]; exact x.ext_get (S10.at_ 2 rfl)
 ·intro rc j x R W hj ha hr hRt hRf
  have hxi : t.items[i + j]? = some x := by rw [List.getElem?_drop] at hj; exact hj
  obtain ⟨y, hy, hp⟩ := hi.get (i + j) hxi
  have hcn : cj (j + 1) = cj j + (ats e y.2).length := by
   have h1 := hcj (j + 1)
   rw [show i + (j + 1) = (i + j) + 1 by omega] at h1
   have h2 : M.take (i + j + 1) = M.take (i + j) ++ [y] := by rw [List.take_add_one, hy]; rfl
   rw [h2, Fe, List.length_append, hcj j] at h1
   have h3 : (aOf e [y]).length = (ats e y.2).length := by simp [aOf]
   omega
  have hyb : (aOf e (M.take (i + j))).length = (aOf e (M.take i)).length + cj j := hcj j
  have hyl : (aOf e (M.take i)).length + cj j + (ats e y.2).length <= (aOf e M).length /\ y.2.length <= 1048576 := by
   have h1 := hcj (j + 1)
   have h2 := congrArg List.length (Fe e (M.take (i + (j + 1))) (M.drop (i + (j + 1))))
   rw [List.take_append_drop, List.length_append] at h2
   refine ⟨by omega, ?_⟩
   have h3 : y ∈ M := List.mem_of_getElem? hy
   have h4 : ∀ (M : Parts), y ∈ M -> y.2.length <= szs (aOf e M) := by
    intro M
    induction M with
    | nil => intro h; cases h
    | cons z M ih =>
     intro h
     rw [Gn, Ba, Gg]
     rcases List.mem_cons.1 h with rfl | h
     ·omega
     ·have := ih h; omega
   have := h4 M h3
   omega
  have hlo := hp.lo; have hhi := hp.hi
  refine (St.start W).Wy rfl rfl rfl λ b18 W1 T1 x1 => ⟨x1.ext_get hr, ?_⟩
  have o18 := T1.ge 0 rfl
  have a1 := atE ha x1
  have r1 := x1.ext_get hr
  have NW : N <= W.heap.size := ha.size
  have lN : w10.heap.size + 1 < N := by show _ < w10.heap.size + 2; omega
  have NN : w.heap.size <= N := by omega
  have b7N : b7 < N := by omega
  have b8N : b8 < N := by omega
  obtain ⟨u2, r2⟩ := Gt (o' := .loop (rc .busy none)) r1
  have s2 : Fh W1 (W1.putObj (w10.heap.size + 1) (.loop (rc .busy none))) := Fh.upd u2 λ k hk o ho => by subst hk; rw [r1] at ho; cases ho; rfl
  have a2 := atU (w10.heap.size + 1) a1 (by omega) lN (by omega) (by omega) (by omega) (by omega) u2 s2
  have b2' := u2.Z9 (T1.at_ 0 rfl) (by omega)
  have s02 := (Fh.ext x1).trans s2
  generalize W1.putObj (w10.heap.size + 1) (.loop (rc .busy none)) = W2 at *
  let Bd : Nat -> World -> Prop := λ q W' => At (cj j + q) W' /\ Fh W W' /\ W'.heap[w10.heap.size + 1]? = some (.loop (rc .busy none)) /\ W'.heap[b18]? = some (.cells (Cells.vals Ag (pcT x)).toArray 112 (0, 0))
  have bdE : ∀ {q W' W''}, Bd q W' -> Ext W' W'' -> Bd q W'' := λ {q W' W''} b x => ⟨atE b.1 x, b.2.1.trans (Fh.ext x), x.ext_get b.2.2.1, x.ext_get b.2.2.2⟩
  refine Am (λ s W' => ∃ q, q <= (ats e y.2).length /\ s = (((szs ((ats e y.2).take q) : Nat) : Int), ()) /\ Bd q W') (λ s _ => ((y.2.length : Int) - s.1).toNat) ⟨0, Nat.zero_le _, rfl, a2, s02, r2, b2'⟩ ?_
  rintro _ W3 ⟨q, hq, rfl, b3⟩
  have hbl := hp.by_.len
  refine Dt b3.2.2.2 (x := x.bytes) rfl (Aa (λ hlt => ?_) (λ hge => ?_))
  ·simp only [decide_eq_true_eq] at hlt
   obtain ⟨a, m, hqa, hnx, htk, hss, hm1, hsl⟩ := Qb (e := e) (l := y.2) (j := q) (by omega)
   have hql : q < (ats e y.2).length := (List.getElem?_eq_some_iff.1 hqa).1
   refine Fg λ W4 x4 _ => ?_
   have b4 := bdE b3 x4
   have hsy : szs ((ats e y.2).take q) <= y.2.length := Wv q
   have hB4 : By W4 x.bytes y.2 := by
    obtain ⟨y', hy', hp'⟩ := b4.1.its.get (i + j) hxi
    rw [hy] at hy'; cases hy'
    exact hp'.by_
   refine Dt b4.1.h1 (x := some (at0 p)) rfl (b4.1.txt.enc (Dt b4.2.2.2 (x := x.bytes) rfl (Qg hB4 (by omega) λ W5 x5 => ?_)))
   rw [hnx]
   have b5 := bdE b4 x5
   have ewa : W64 (((szs ((ats e y.2).take q) : Nat) : Int) + (m : Int)) = ((szs ((ats e y.2).take (q + 1)) : Nat) : Int) := by
    rw [wrap64 (by omega) (by omega)]; omega
   refine Ae (λ _ W' => Bd (q + 1) W') ?_ ?_
   ·refine Dt b5.1.h7 (x := ((n - (cj j + q) : Nat) : Int)) rfl (Aa (λ hg => ?_) (λ hg => ?_))
    ·simp only [decide_eq_true_eq, gt_iff_lt] at hg
     refine Dt b5.1.h7 (x := ((n - (cj j + q) : Nat) : Int)) rfl (Jl b5.1.h7 Nat.one_pos λ W6 u6 g6 _ => ?_)
     have s6 : Fh W5 W6 := Ak1 b5.1.h7 rfl u6
     have e6 : W64 (((n - (cj j + q) : Nat) : Int) - 1) = ((n - (cj j + (q + 1)) : Nat) : Int) := by rw [wrap64 (by omega) (by omega)]; omega
     rw [e6] at g6
     have a5 := b5.1
     have ec : cj j + q - n = cj j + (q + 1) - n := by omega
     refine ⟨⟨?_, by have := a5.lt; omega, a5.txt.stay u6 (λ k hk e => by subst e; have := hO _ hk; omega) s6, a5.its.upd u6 (λ x hx k hk e => by subst e; have := hO _ (hOt x hx _ hk); omega), Nat.le_trans a5.size u6.size, u6.Z9 a5.h1 (by omega), u6.Z9 a5.h2 (by omega), g6, ?_⟩, b5.2.1.trans s6, u6.Z9 b5.2.2.1 (by omega), u6.Z9 b5.2.2.2 (by omega)⟩
     ·rw [← ec]; exact hs N _ W5 W6 _ NN a5.size a5.inv u6 (λ k hk => by subst hk; exact ⟨o7, b7N⟩)
     ·rw [← ec]; exact u6.Z9 a5.h8 (by omega)
    ·simp only [decide_eq_false_iff_not, gt_iff_lt] at hg
     have hnc : n <= cj j + q := by omega
     have hlt5 := b5.1.lt
     obtain ⟨ga, gt⟩ := Cc1 (e := e) hy hql
     have eix : (aOf e (M.take (i + j))).length + q = fr + (cj j + q - n) := by omega
     rw [eix] at ga gt
     have ga' : (atoms (aOf e M))[fr + (cj j + q - n)]? = some a := by
      show ((aOf e M).map (·.1))[_]? = _
      rw [List.getElem?_map, ga, hqa]; rfl
     let Td : World -> Prop := λ W' => Inv N (cj j + q - n + 1) W' /\ Txt W' p e lim na O M /\ Its W' e t.items M /\ N <= W'.heap.size /\ W'.heap[b1]? = some (.cells #[.pointer (some (at0 p))] 25 (0, 0)) /\ W'.heap[b2]? = some (.cells #[f] 79 (0, 0)) /\
      W'.heap[b7]? = some (.cells #[.int .i64 ((n - (cj j + q) : Nat) : Int)] 3 (0, 0)) /\ W'.heap[b8]? = some (.cells #[.int .i64 ((cnt - (cj j + q - n) : Nat) : Int)] 3 (0, 0)) /\
      Fh W W' /\ W'.heap[w10.heap.size + 1]? = some (.loop (rc .busy none)) /\ W'.heap[b18]? = some (.cells (Cells.vals Ag (pcT x)).toArray 112 (0, 0))
     have told : ∀ W', Fh W5 W' -> Upd (λ k => U k \/ N <= k) W5 W' -> Inv N (cj j + q - n + 1) W' -> Td W' := by
      intro W' s u iv
      have own : ∀ k, O k -> ¬ (U k \/ N <= k) := λ k hk hh => hh.elim (λ hu => (hU k hu).2 hk) (λ hn => by have := hO k hk; omega)
      have mine : ∀ k, w.heap.size <= k -> k < N -> ¬ (U k \/ N <= k) := λ k g1 g2 hh => hh.elim (λ hu => by have := (hU k hu).1; omega) (λ hn => by omega)
      have a5 := b5.1
      exact ⟨iv, a5.txt.stay u own s, a5.its.upd u (λ x hx k hk => own k (hOt x hx k hk)), Nat.le_trans a5.size u.size, u.get a5.h1 (mine _ o1 (by omega)), u.get a5.h2 (mine _ o2 (by omega)), u.get a5.h7 (mine _ o7 b7N), u.get a5.h8 (mine _ o8 b8N), b5.2.1.trans s, u.get b5.2.2.1 (mine _ (by omega) lN), s.at_ _ _ b5.2.2.2 rfl⟩
     refine Ae (λ _ W' => Td W') ?_ ?_
     ·refine Dt b5.2.2.2 (x := x.tag) rfl (Aa (λ hneg => ?_) (λ hneg => ?_))
      ·simp only [decide_eq_true_eq] at hneg
       have htag : Dq y.1 (szs ((ats e y.2).take q)) = -1 := by
        have := hp.tag
        unfold Dq; rw [if_neg (by omega)]; omega
       rw [htag] at gt
       exact Dt b5.1.h2 (x := f) rfl (hsee N (cj j + q - n) a (-1) W5 _ NN b5.1.size hlt5 ga' gt b5.1.inv told)
      ·simp only [decide_eq_false_iff_not] at hneg
       have htag : Dq y.1 (szs ((ats e y.2).take q)) = x.tag + ((szs ((ats e y.2).take q) : Nat) : Int) := by
        have := hp.tag
        unfold Dq; rw [if_pos (by omega)]; omega
       rw [htag] at gt
       refine Dt b5.1.h2 (x := f) rfl (Dt b5.2.2.2 (x := x.tag) rfl ?_)
       rw [wrap64 (by omega) (by have := hp.tag; omega)]
       exact hsee N (cj j + q - n) a _ W5 _ NN b5.1.size hlt5 ga' gt b5.1.inv told
     ·rintro _ W6 ⟨iv, tx, is, sz, g1, g2, g7, g8, st, gl, g18⟩
      refine Dt g8 (x := ((cnt - (cj j + q - n) : Nat) : Int)) rfl (Jl g8 Nat.one_pos λ W7 u7 k7 z7 => ?_)
      have s7 : Fh W6 W7 := Ak1 g8 rfl u7
      have e7 : W64 (((cnt - (cj j + q - n) : Nat) : Int) - 1) = ((cnt - (cj j + (q + 1) - n) : Nat) : Int) := by rw [wrap64 (by omega) (by omega)]; omega
      rw [e7] at k7
      have ec : cj j + q - n + 1 = cj j + (q + 1) - n := by omega
      have iv7 : Inv N (cj j + (q + 1) - n) W7 := by
       rw [← ec]; exact hs N _ W6 W7 _ NN sz iv u7 (λ k hk => by subst hk; exact ⟨o8, b8N⟩)
      have en7 : n - (cj j + q) = n - (cj j + (q + 1)) := by omega
      rw [en7] at g7
      have st7 := st.trans s7
      have gl7 := u7.Z9 gl (by omega)
      refine Dt k7 (x := ((cnt - (cj j + (q + 1) - n) : Nat) : Int)) rfl (Aa (λ hz => ?_) (λ hz => ?_))
      ·simp only [beq_iff_eq] at hz
       obtain ⟨u8, r8⟩ := Gt (o' := .loop (rc .done (some .ret))) gl7
       refine ⟨⟨_, _, gl7⟩, hRf .ret _ (st7.trans (Fh.upd u8 λ k hk o ho => by subst hk; rw [gl7] at ho; cases ho; rfl)) r8 ⟨rfl, ?_, ?_⟩⟩
       ·have : cnt = cj j + (q + 1) - n := by omega
        conv => lhs; rw [this]
        exact hs N _ W7 _ _ NN (Nat.le_trans sz u7.size) iv7 u8 (λ k hk => by subst hk; exact ⟨by omega, lN⟩)
       ·exact Nat.le_trans (Nat.le_trans sz u7.size) u8.size
      ·simp only [beq_eq_false_iff_ne] at hz
       exact ⟨⟨iv7, by omega, tx.stay u7 (λ k hk e => by subst e; have := hO _ hk; omega) s7, is.upd u7 (λ x hx k hk e => by subst e; have := hO _ (hOt x hx _ hk); omega), Nat.le_trans sz u7.size, u7.Z9 g1 (by omega), u7.Z9 g2 (by omega), u7.Z9 g7 (by omega), k7⟩, st7, gl7, u7.Z9 g18 (by omega)⟩
   ·intro _ W6 b6
    refine ⟨⟨q + 1, by omega, by dsimp only; rw [ewa], b6⟩, ?_⟩
    dsimp only
    rw [ewa]; omega
  ·simp only [decide_eq_false_iff_not] at hge
   have hqe := Uw (e := e) (l := y.2) (j := q) (by omega)
   have hql : q = (ats e y.2).length := by
    have := congrArg List.length hqe
    rw [List.length_take] at this; omega
   obtain ⟨u8, r8⟩ := Gt (o' := .loop (rc .ready none)) b3.2.2.1
   have s8 : Fh W3 (W3.putObj (w10.heap.size + 1) (.loop (rc .ready none))) := Fh.upd u8 λ k hk o ho => by subst hk; rw [b3.2.2.1] at ho; cases ho; rfl
   refine ⟨⟨_, _, b3.2.2.1⟩, hRt _ (b3.2.1.trans s8) ?_ r8⟩
   rw [hcn, ← hql]
   exact atU (w10.heap.size + 1) b3.1 (by omega) lN (by omega) (by omega) (by omega) (by omega) u8 s8
 ·intro W W' ha _ _
  exfalso
  have h1 := hcj (t.items.length - i)
  have h2 : M.take (i + (t.items.length - i)) = M := List.take_of_length_le (by omega)
  rw [h2] at h1
  have := ha.lt
  omega
 ·rintro ec W W' ⟨rfl, iv, sz⟩ hD u
  obtain ⟨u2, _⟩ := Gt (o' := .deferred none) hD
  refine ⟨hD, hK N _ (by omega) (Nat.le_trans (Nat.le_trans sz u.size) u2.size) ?_⟩
  have i1 := hs N _ W W' _ (by omega) sz iv u (λ k hk => by subst hk; exact ⟨by omega, by show _ < w10.heap.size + 2; omega⟩)
  exact hs N _ W' _ _ (by omega) (Nat.le_trans sz u.size) i1 u2 (λ k hk => by subst hk; exact ⟨by omega, by show _ < w10.heap.size + 2; omega⟩)
end
section
variable {w w' : World} {S : Nat -> Prop} {p : Nat} {e : Enc} {lim na : Nat} {O : Nat -> Prop} {M : Parts}
abbrev iv (l : List Int) : List Value := l.map (Value.int .i64)
def sub (A : List Int) (from_ to_ : Int) : List Int := (A.drop from_.toNat).take (to_.toNat - from_.toNat)
theorem Bl4 (A : List Int) (from_ to_ : Int) : sub A from_ to_ = (A.drop from_.toNat).take (min to_.toNat A.length - from_.toNat) := by
 unfold sub
 rw [List.take_eq_take_iff, List.length_drop]; omega
theorem Ru : He Tryz.prog 26 3 1 8 := He.of (z := .int .i64 0) C26 C3 rfl rfl rfl (by decide)
theorem Zl {b : Nat} {a : Int} (h : w.heap[b]? = some (.cells #[.int .i64 a] 3 (0, 0))) : SlX w ⟨some (at0 b), 1, 1⟩ 1 [.int .i64 a] := (Aq.Hr h (n := 1) (sz := 1) rfl).x
theorem Jf {from_ to_ : Int} (h : Txt w p e lim na O M) {K : Sl -> Wp} (hK : ∀ s w', Ah w' w.heap.size s 3 1 (iv (sub (atoms (aOf e M)) from_ to_)) -> Ext w w' -> K s w') :
  Ac Tryz.prog 23 #[.pointer (some (at0 p)), .int .i64 from_, .int .i64 to_] rS K w := by
 refine A23 ?_
 unfold F23
 have few := h.few; have lims := h.lims
 have hal : (atoms (aOf e M)).length = (aOf e M).length := List.length_map _
 rw [Bl4, hal] at hK
 generalize hcnt : min to_.toNat (aOf e M).length - from_.toNat = cnt at *
 have hcl : cnt <= 1048576 := by omega
 refine Bo λ b1 w1 e1 n1 hb1 hz1 => ?_
 have h1 := h.ext e1
 refine Au1 h1 rfl (λ k => k = b1) (λ k hk => ⟨by omega, λ ho => by have := h.own k ho; omega⟩)
  (λ N j W => ∃ s, W.heap[b1]? = some (.cells #[.slice s.a s.len s.cap] 26 (0, 0)) /\ Ah W N s 3 1 (iv (((atoms (aOf e M)).drop from_.toNat).take j)) /\ Upd (λ k => k = b1) w1 W) ?_ ?_ ?_ ?_
 ·intro N W x hN hW
  exact ⟨⟨none, 0, 0⟩, x.ext_get n1, by rw [List.take_zero]; exact Ah.nil W N _ _, x.mono λ _ _ h => h.elim⟩
 ·rintro N j W W' S hN hW ⟨s, g1, g2, g3⟩ u hS
  refine ⟨s, u.get g1 (λ hb => by have := (hS _ hb).1; omega), g2.upd u (λ k hk _ hs => by have := (hS _ hs).2; omega), g3.new u λ k hk hs => by have := (hS _ hs).1; omega⟩
 ·rintro N j a tag W K' hN hW hj ha _ ⟨s, g1, g2, g3⟩ hK'
  have g2l := g2.len1
  rw [List.length_map, List.length_take, List.length_drop] at g2l
  refine func_x (caps := #[.pointer (some (at0 b1))]) (by kernel_rfl) ?_
  refine A48 ?_
  unfold F48
  refine Dt g1 (x := s) rfl (Bo λ b2 w2 e2 n2 hb2 hz2 => ?_)
  refine Du Ru Ru.ts_ (x := ⟨some (at0 b2), 1, 1⟩) (g2.ext e2) (Zl n2) (λ v hv => by rw [List.mem_singleton.1 hv]; rfl) (by
   show (s.len + 1 + (s.len + 1) / 4 + 512) * 8 <= 2 ^ 48
   omega) (by omega) λ s' w3 o3 l3 u3 b3 => ?_
  have k3 : ∀ k, s.blk k -> N <= k := λ k hk => g2.Di hk
  have g13 : w3.heap[b1]? = some (.cells #[.slice s.a s.len s.cap] 26 (0, 0)) := u3.get (e2.ext_get g1) (λ hb => by have := k3 _ hb; omega)
  refine Jl g13 Nat.one_pos λ w4 u4 n4 _ => ?_
  have o4 : Ah w4 N s' 3 1 _ := o3.box g13 (by decide) u4
  have e4 : iv (((atoms (aOf e M)).drop from_.toNat).take j) ++ [.int .i64 a] = iv (((atoms (aOf e M)).drop from_.toNat).take (j + 1)) := by
   rw [List.take_add_one, List.getElem?_drop, ha]
   simp
  rw [e4] at o4
  have s3 : Fh w2 w3 := Fh.upd u3 λ k hk o ho => by
   obtain ⟨c, fr, hc⟩ := (g2.ext e2).in.Ec hk
   rw [ho] at hc; cases hc; rfl
  refine hK' w4 (((Fh.ext e2).trans s3).trans (Ak1 g13 rfl u4)) ?_ ⟨s', n4, o4, ?_⟩
  ·refine ((e2.mono λ _ _ h => h.elim).trans (u3.mono λ k _ hk => .inr (k3 k hk))).trans (u4.mono λ k _ hk => .inl hk)
  ·exact (g3.new (e2.mono λ _ _ h => h.elim) (S' := λ _ => False) (λ _ _ h => h.elim)).new (u3.mono λ k _ hk => k3 k hk) (S' := λ k => N <= k) (λ k hk hn => by omega) |>.trans u4
 ·rintro N W hN hW ⟨s, g1, g2, g3⟩
  rw [hcnt] at g2
  refine Dt g1 (x := s) rfl (hK s W (g2.mono (by omega)) ?_)
  exact e1.step g3 λ k hk => by omega
end
section
variable {w w' : World} {S : Nat -> Prop} {p : Nat} {e : Enc} {lim na : Nat} {O : Nat -> Prop} {M : Parts}
theorem sub_one (A : List Int) (n : Nat) : sub A (n : Int) ((n : Int) + 1) = (A.drop n).take 1 := by
 unfold sub
 have : ((n : Int) + 1).toNat - (n : Int).toNat = 1 := by omega
 rw [this, Int.toNat_natCast]
theorem take_one {A : List Int} {n : Nat} {a : Int} (h : A[n]? = some a) : (A.drop n).take 1 = [a] := by
 rw [List.take_one, List.head?_drop, h]; rfl
theorem Bf0 {A : List Int} {n : Nat} (h : A[n]? = none) : (A.drop n).take 1 = [] := by
 rw [List.take_one, List.head?_drop, h]; rfl
theorem Bh5 {A : List Int} {n : Nat} (h0 : 0 < n) (h : n <= A.length) : (A.take n).getLast? = A[n - 1]? := by
 rw [List.getLast?_eq_getElem?, List.length_take, List.getElem?_take]
 have : min n A.length = n := by omega
 rw [this, if_pos (by omega)]
theorem Rk (l : As) (n : Nat) : atoms (l.take n) = (atoms l).take n := by simp [atoms]
theorem Ar2 {L : As} (h : Iz L) {n : Nat} (h0 : 0 < n) (hn : n <= L.length) : Dp (atoms L) n = ((msr (L.take n)).cr && ((atoms L)[n]? == some 10)) := by
 have hl : (atoms L).length = L.length := List.length_map _
 rw [Bn8 (h.take n), Rk, Bh5 h0 (by omega)]
 unfold Dp
 rw [decide_eq_true h0]
 rfl
theorem Ll {at_ : Int} (h : Txt w p e lim na O M) {K : Int -> Wp} (hK : ∀ w', Ext w w' -> K ((nb (atoms (aOf e M)) at_.toNat : Nat) : Int) w') :
  Ac Tryz.prog 66 #[.pointer (some (at0 p)), .int .i64 at_] rI K w := by
 refine A66 ?_
 unfold F66
 have few := h.few; have lims := h.lims
 have hal : (atoms (aOf e M)).length = (aOf e M).length := List.length_map _
 have hpos := Fz e M
 refine Aa (λ hc => ?_) (λ hc => ?_)
 ·simp only [decide_eq_true_eq] at hc
  have e0 : at_.toNat = 0 := by omega
  have := hK w (Ext.refl w)
  rw [e0, Jp] at this
  exact this
 simp only [decide_eq_false_iff_not] at hc
 obtain ⟨n, rfl⟩ : ∃ n : Nat, at_ = (n : Int) := ⟨at_.toNat, by omega⟩
 rw [Int.toNat_natCast] at hK
 refine Hu h λ w1 e1 => Aa (λ hg => ?_) (λ hg => ?_)
 ·simp only [decide_eq_true_eq, ge_iff_le] at hg
  obtain ⟨t, ht, hi, hf, rd⟩ := h.tree
  refine rd e1 (Ui (ht.ext e1) λ w2 e2 => ?_)
  have := hK w2 (e1.trans e2)
  rw [Ao1 _ _ (by omega), ← Ht hpos, ← hi.tot] at this
  exact this
 simp only [decide_eq_false_iff_not, ge_iff_le] at hg
 have hb : (msr ((aOf e M).take n)).breaks = nb (atoms (aOf e M)) n + (if Dp (atoms (aOf e M)) n then 1 else 0) := by rw [Ht (hpos.take n), Rk, Ar6]
 have hsp := Ar2 hpos (n := n) (by omega) (by omega)
 have hnl := Tq (atoms (aOf e M)) n
 refine Xh (h.ext e1) (by omega) λ w2 e2 => (St.start w2).Af λ b w3 S3 e3 => S3.Ad 0 rfl rfl rfl rfl λ w4 S4 u4 => ?_
 have e04 := (e1.trans e2).trans S4.upd
 refine Ae (λ x w' => x = (Dp (atoms (aOf e M)) n, ()) /\ St (λ _ => False) w2 w' [(b, .cells (Cells.vals Ap (smT (msr ((aOf e M).take n)))).toArray 110 (0, 0))]) ?_ ?_
 ·refine S4.ld 0 rfl (x := (msr ((aOf e M).take n)).cr) rfl (Aa (λ hr => ?_) (λ hr => ?_))
  ·have ew : W64 ((n : Int) + 1) = (n : Int) + 1 := wrap64 (by omega) (by omega)
   rw [ew]
   refine Jf (h.ext e04) λ s w5 o5 e5 => ?_
   obtain ⟨a, ha⟩ : ∃ a, (atoms (aOf e M))[n]? = some a := ⟨_, List.getElem?_eq_getElem (by omega)⟩
   rw [sub_one, take_one ha] at o5
   refine Iu (c := .int .i64) (xs := [a]) o5.in (by decide) (x := a) rfl λ p => ⟨?_, S4.ext e5⟩
   rw [hsp, hr, ha]
   rfl
  ·refine ⟨?_, S4⟩
   rw [hsp, hr]; rfl
 ·rintro _ w5 ⟨rfl, S5⟩
  have e05 := (e1.trans e2).trans S5.upd
  refine Aa (λ hr => S5.ld 0 rfl (x := (((msr ((aOf e M).take n)).breaks : Nat) : Int)) rfl ?_) (λ hr => S5.ld 0 rfl (x := (((msr ((aOf e M).take n)).breaks : Nat) : Int)) rfl ?_)
  ·have hr' : Dp (atoms (aOf e M)) n = true := hr
   rw [hb, hr', wrap64 (by simp only [if_true]; omega) (by simp only [if_true]; omega)]
   have : ((nb (atoms (aOf e M)) n + (if true = true then 1 else 0) : Nat) : Int) - 1 = ((nb (atoms (aOf e M)) n : Nat) : Int) := by simp
   rw [this]; exact hK w5 e05
  ·have hr' : Dp (atoms (aOf e M)) n = false := hr
   rw [hb, hr']
   exact hK w5 e05
theorem least (P : Nat -> Prop) [DecidablePred P] : ∀ n, P n -> ∃ j, j <= n /\ P j /\ ∀ i, i < j -> ¬ P i := by
 intro n
 induction n using Nat.strongRecOn with
 | ind n ih =>
  intro hn
  by_cases h : ∃ i, i < n /\ P i
  ·obtain ⟨i, hi, hp⟩ := h
   obtain ⟨j, h1, h2, h3⟩ := ih i hi hp
   exact ⟨j, by omega, h2, h3⟩
  ·exact ⟨n, Nat.le_refl _, hn, λ i hi hp => h ⟨i, hi, hp⟩⟩
theorem Br1 {l m : As} (h : Iz l) (h' : Iz m) : (msr l).breaks <= (msr (l ++ m)).breaks := by
 rw [Ob h h']
 exact Y8 (k := 1) (Ko h) (Ko h')
theorem Ac4 {L : As} (h : Iz L) {i j : Nat} (hij : i <= j) : (msr (L.take i)).breaks <= (msr (L.take j)).breaks := by
 obtain ⟨d, rfl⟩ : ∃ d, j = i + d := ⟨j - i, by omega⟩
 rw [List.take_add]
 exact Br1 (h.take i) ((h.drop i).take d)
def skI (A : List Int) (k : Int) : Int := if k < 0 then -1 else match sk A k.toNat with | some m => (m : Int) | none => -1
set_option maxHeartbeats 1000000 in
theorem Uo {k : Int} (h : Txt w p e lim na O M) {K : Int -> Wp} (hK : ∀ w', Ext w w' -> K (skI (atoms (aOf e M)) k) w') :
  Ac Tryz.prog 67 #[.pointer (some (at0 p)), .int .i64 k] rI K w := by
 refine A67 ?_
 unfold F67
 have few := h.few; have lims := h.lims; have hsz := h.sz
 have hal : (atoms (aOf e M)).length = (aOf e M).length := List.length_map _
 have hpos := Fz e M
 obtain ⟨t, ht, hi, hf, rd⟩ := h.tree
 refine Aa (λ hc => ?_) (λ hc => ?_)
 ·simp only [beq_iff_eq] at hc
  subst hc
  have := hK w (Ext.refl w)
  unfold skI at this
  have e0 : sk (atoms (aOf e M)) 0 = some 0 := by cases atoms (aOf e M) <;> rfl
  rw [if_neg (by decide), show (0 : Int).toNat = 0 by rfl, e0] at this
  exact this
 simp only [beq_eq_false_iff_ne] at hc
 have htb : (tot t.items).breaks = brs (atoms (aOf e M)) := by rw [hi.tot, Ht hpos]
 refine Ae (λ x w' => x = (decide (k < 0) || decide (((brs (atoms (aOf e M)) : Nat) : Int) < k), ()) /\ Ext w w') ?_ ?_
 ·refine Aa (λ hn => ⟨by rw [hn]; rfl, Ext.refl w⟩) (λ hn => rd (Ext.refl w) (Ui ht λ w1 e1 => ⟨?_, e1⟩))
  rw [hn, Bool.false_or, ← htb]; rfl
 rintro _ w1 ⟨rfl, e1⟩
 refine Aa (λ hb => ?_) (λ hb => ?_)
 ·have := hK w1 e1
  simp only [Bool.or_eq_true, decide_eq_true_eq] at hb
  unfold skI at this
  by_cases hn : k < 0
  ·rw [if_pos hn] at this; exact this
  ·rw [if_neg hn, Qr _ _ (by omega)] at this; exact this
 simp only [Bool.or_eq_false_iff, decide_eq_false_iff_not] at hb
 obtain ⟨n, rfl⟩ : ∃ n : Nat, k = (n : Int) := ⟨k.toNat, by omega⟩
 have hn1 : 1 <= n := by omega
 have hnb : n <= brs (atoms (aOf e M)) := by omega
 have il := hi.len; have fl := hf.few
 have kk : ∀ j, keyOf 1 (tot (t.items.take j)) = (msr (aOf e (M.take j))).breaks := λ j => by
  have := (hi.take j).tot
  show (tot (t.items.take j)).breaks = _
  rw [this]
 obtain ⟨j, hjl, hj1, hj0⟩ := least (λ j => n <= keyOf 1 (tot (t.items.take j))) t.items.length (by
  show n <= keyOf 1 (tot (t.items.take t.items.length))
  rw [kk, il, List.take_length, Ht hpos]; exact hnb)
 obtain ⟨i, rfl⟩ : ∃ i, j = i + 1 := by
  cases j with
  | zero =>
   have hj1' : n <= keyOf 1 (tot (t.items.take 0)) := hj1
   rw [kk, List.take_zero, Ht (Fz e _)] at hj1'
   exact absurd hj1' (by simp [aOf, brs]; omega)
  | succ i => exact ⟨i, rfl⟩
 have hfind : Yg 1 n t.items = i + 1 := Aa2 hjl hj1 λ j hj => by have := hj0 j hj; omega
 have hlow : (msr (aOf e (M.take i))).breaks < n := by have := hj0 i (by omega); simp only [kk] at this; omega
 have hhigh : n <= (msr (aOf e (M.take (i + 1)))).breaks := by have h2 : n <= keyOf 1 (tot (t.items.take (i + 1))) := hj1; rw [kk] at h2; exact h2
 obtain ⟨x, hx⟩ : ∃ x, t.items[i]? = some x := ⟨_, List.getElem?_eq_getElem (by omega)⟩
 obtain ⟨y, hy, hp⟩ := hi.get i hx
 have hM1 : aOf e (M.take (i + 1)) = aOf e (M.take i) ++ ats e y.2 := by
  rw [List.take_add_one, hy, Fe]
  show _ ++ aOf e [y] = _
  simp [aOf]
 have hMA : aOf e M = aOf e (M.take (i + 1)) ++ aOf e (M.drop (i + 1)) := by rw [← Fe, List.take_append_drop]
 have htkq : ∀ q, q <= (ats e y.2).length -> (aOf e M).take ((aOf e (M.take i)).length + q) = aOf e (M.take i) ++ (ats e y.2).take q := λ q hq => by
  rw [hMA, hM1, List.append_assoc, List.take_length_add_append, List.take_append_of_le_length hq]
 have hpi := Fz e (M.take i)
 have hpy := Es e y.2
 have hszs : szs (aOf e (M.take i)) + y.2.length <= 1048576 := by
  have := congrArg szs hMA
  rw [Ba, hM1, Ba, Gg] at this; omega
 refine rd e1 (Af9 (k := 1) (n := n) (by decide) (by omega) (ht.ext e1) hf λ w2 e2 => ?_)
 have ew : W64 (((i + 1 : Nat) : Int) - 1) = (i : Int) := by rw [wrap64 (by omega) (by omega)]; omega
 rw [hfind, ew]
 have e12 := e1.trans e2
 refine rd e12 (Yw (ht.ext e12) hf (by omega) λ w3 e3 => ?_)
 have e13 := e12.trans e3
 have etk : tot (t.items.take i) = msr (aOf e (M.take i)) := (hi.take i).tot
 rw [etk]
 refine (St.start w3).Af λ b12 w4 S4 e4 => S4.Ad 0 rfl rfl rfl rfl λ w5 S5 u5 => ?_
 refine rd (e13.trans S5.upd) (U1 (ht.ext (e13.trans S5.upd)) hf (by omega) λ w6 e6 => ?_)
 have e0 : atI t.items i = (x, true) := by unfold atI; rw [hx]
 rw [e0]
 refine (S5.ext e6).Af λ b16 w7 S7 e7 => S7.Ad 0 rfl rfl rfl rfl λ w8 S8 u8 => ?_
 let Ls : Nat -> List (Nat × Obj) := λ q => [(b16, .cells (Cells.vals Ag (pcT x)).toArray 112 (0, 0)), (b12, .cells (Cells.vals Ap (smT (msr (aOf e (M.take i) ++ (ats e y.2).take q)))).toArray 110 (0, 0))]
 have S8' : St (λ _ => False) w3 w8 (Ls 0) := by show St _ _ _ [_, _]; rw [List.take_zero, List.append_nil]; exact S8
 refine Ae (λ _ w' => ∃ q, q <= (ats e y.2).length /\ n <= (msr (aOf e (M.take i) ++ (ats e y.2).take q)).breaks /\ (∀ j, j < (aOf e (M.take i)).length + q -> (msr ((aOf e M).take j)).breaks < n) /\ St (λ _ => False) w3 w' (Ls q)) ?_ ?_
 ·refine Am (λ s w' => ∃ q, q <= (ats e y.2).length /\ s = (((szs ((ats e y.2).take q) : Nat) : Int), ()) /\ (∀ j, j < (aOf e (M.take i)).length + q -> (msr ((aOf e M).take j)).breaks < n) /\ St (λ _ => False) w3 w' (Ls q)) (λ s _ => ((y.2.length : Int) - s.1).toNat) ⟨0, Nat.zero_le _, rfl, λ j hj => ?_, S8'⟩ ?_
  ·have h1 := Ac4 hpos (i := j) (j := (aOf e (M.take i)).length + 0) (by omega)
   rw [htkq 0 (Nat.zero_le _), List.take_zero, List.append_nil] at h1
   omega
  rintro _ w9 ⟨q, hq, rfl, hlt, S9⟩
  have hbl := hp.by_.len
  have hsy : szs ((ats e y.2).take q) <= y.2.length := Wv q
  refine Ae (λ s w' => s = (decide (szs ((ats e y.2).take q) < y.2.length) && decide ((msr (aOf e (M.take i) ++ (ats e y.2).take q)).breaks < n), ()) /\ w9 = w') ?_ ?_
  ·refine S9.ld 0 rfl (x := x.bytes) rfl (Aa (λ hc => S9.ld 1 rfl (x := (((msr (aOf e (M.take i) ++ (ats e y.2).take q)).breaks : Nat) : Int)) rfl ⟨Aj ?_, rfl⟩) (λ hc => ⟨Aj ?_, rfl⟩))
   ·simp only [decide_eq_true_eq, Bool.and_eq_true] at hc ⊢; omega
   ·simp only [decide_eq_false_iff_not, Bool.and_eq_true, decide_eq_true_eq] at hc ⊢
    constructor
    ·intro h; cases h
    ·intro h; omega
  rintro _ w10 ⟨rfl, rfl⟩
  refine Aa (λ hc => ?_) (λ hc => ?_)
  ·simp only [Bool.and_eq_true, decide_eq_true_eq] at hc
   obtain ⟨a, m, hqa, hnx, htk, hss, hm1, hsl⟩ := Qb (e := e) (l := y.2) (j := q) hc.1
   have hql : q < (ats e y.2).length := (List.getElem?_eq_some_iff.1 hqa).1
   refine S9.drew λ w11 S11 e11 _ => ((h.ext e13).ext S11.upd).enc (S11.ld 0 rfl (x := x.bytes) rfl (Qg ((hp.by_.ext e13).ext S11.upd) hc.1 λ w12 e12 => ?_))
   rw [hnx]
   have S12 := S11.ext e12
   have pq := hpi.app (hpy.take q)
   refine S12.drew λ w13 S13 e13' _ => S13.lds 1 (smT _) rfl (E5 λ w14 e14 => ?_)
   have S14 := S13.ext e14
   refine S14.keeps 1 rfl (Yu (Ko pq) (Qv a hm1) ?_ λ w15 e15 => ?_)
   ·rw [Ic pq, Ba]
    show szs (aOf e (M.take i)) + szs ((ats e y.2).take q) + m < 2 ^ 60
    omega
   have S15 := S14.ext e15
   rw [← Ao2 pq hm1, List.append_assoc, ← htk]
   refine S15.Ad 1 rfl rfl rfl rfl λ w16 S16 u16 => ?_
   have ewa : W64 (((szs ((ats e y.2).take q) : Nat) : Int) + (m : Int)) = ((szs ((ats e y.2).take (q + 1)) : Nat) : Int) := by
    rw [wrap64 (by omega) (by omega)]; omega
   refine ⟨⟨q + 1, by omega, by dsimp only; rw [ewa], λ j hj => ?_, S16⟩, ?_⟩
   ·by_cases hjq : j < (aOf e (M.take i)).length + q
    ·exact hlt j hjq
    ·have : j = (aOf e (M.take i)).length + q := by omega
     subst this
     rw [htkq q (by omega)]; exact hc.2
   ·dsimp only
    rw [ewa]; omega
  ·refine ⟨q, hq, ?_, hlt, S9⟩
   by_cases hb : (msr (aOf e (M.take i) ++ (ats e y.2).take q)).breaks < n
   ·have hnl : ¬ szs ((ats e y.2).take q) < y.2.length := λ h2 => by simp [h2, hb] at hc
    rw [Uw hnl, ← hM1]; exact hhigh
   ·omega
 ·rintro _ w9 ⟨q, hq, hge, hlt, S9⟩
  have hatoms : (msr (aOf e (M.take i) ++ (ats e y.2).take q)).atoms = (aOf e (M.take i)).length + q := by
   rw [Kq (hpi.app (hpy.take q)), List.length_append, List.length_take]; omega
  have htk := htkq q hq
  have hmle : (aOf e (M.take i)).length + q <= (aOf e M).length := by
   have := congrArg List.length hMA
   rw [List.length_append, hM1, List.length_append] at this; omega
  rw [← htk] at hge hatoms
  have S9' : St (λ _ => False) w3 w9 [(b16, .cells (Cells.vals Ag (pcT x)).toArray 112 (0, 0)), (b12, .cells (Cells.vals Ap (smT (msr ((aOf e M).take ((aOf e (M.take i)).length + q))))).toArray 110 (0, 0))] := by rw [htk]; exact S9
  generalize hm : (aOf e (M.take i)).length + q = m at *
  have hm0 : 0 < m := by
   rcases Nat.eq_zero_or_pos m with h0 | h0
   ·subst h0; rw [List.take_zero] at hge
    have : (msr []).breaks = 0 := rfl
    omega
   ·exact h0
  have hres : sk (atoms (aOf e M)) n = some (if Dp (atoms (aOf e M)) m then m + 1 else m) := by
   refine Bl9 _ n m hn1 (by omega) ?_ λ j hj => ?_
   ·rw [← Rk, ← Ht (hpos.take m)]; exact hge
   ·rw [← Rk, ← Ht (hpos.take j)]; exact hlt j hj
  have hsp := Ar2 hpos (n := m) hm0 (by omega)
  have hres2 : skI (atoms (aOf e M)) (n : Int) = if Dp (atoms (aOf e M)) m then (m : Int) + 1 else (m : Int) := by
   unfold skI
   rw [if_neg (by omega), Int.toNat_natCast, hres]
   dsimp only
   split <;> omega
  rw [hres2] at hK
  have ea : ∀ {P : Int -> Wp} {W : World}, P (m : Int) W -> P (((msr ((aOf e M).take m)).atoms : Nat) : Int) W := by
   intro P W hP; rw [hatoms]; exact hP
  refine S9'.ld 1 rfl (x := (((msr ((aOf e M).take m)).atoms : Nat) : Int)) rfl (S9'.ld 1 rfl (x := (((msr ((aOf e M).take m)).atoms : Nat) : Int)) rfl ?_)
  rw [hatoms]
  have ew1 : W64 ((m : Int) + 1) = (m : Int) + 1 := wrap64 (by omega) (by omega)
  rw [ew1]
  refine Jf ((h.ext e13).ext S9'.upd) λ s w10 o10 e10 => ?_
  have S10 := S9'.ext e10
  rw [sub_one] at o10
  refine Ae (λ x w' => x = (Dp (atoms (aOf e M)) m, ()) /\ w10 = w') ?_ ?_
  ·refine S10.ld 1 rfl (x := (msr ((aOf e M).take m)).cr) rfl (Aa (λ hr => ?_) (λ hr => ?_))
   ·rw [hsp, hr, Bool.true_and]
    cases ha : (atoms (aOf e M))[m]? with
    | none =>
     rw [Bf0 ha] at o10
     have hl := o10.len1
     refine Aa (λ hc => ?_) (λ hc => ⟨rfl, rfl⟩)
     simp only [beq_iff_eq] at hc
     simp at hl; omega
    | some a =>
     rw [take_one ha] at o10
     have hl := o10.len1
     refine Aa (λ hc => Iu (c := .int .i64) (xs := [a]) o10.in (by decide) (x := a) rfl λ p => ⟨rfl, rfl⟩) (λ hc => ?_)
     simp only [beq_eq_false_iff_ne] at hc
     simp at hl; omega
   ·rw [hsp, hr]; exact ⟨rfl, rfl⟩
  rintro _ w11 ⟨rfl, rfl⟩
  have e0 := (e13.trans S10.upd)
  refine Aa (λ hr => S10.ld 1 rfl (x := (((msr ((aOf e M).take m)).atoms : Nat) : Int)) rfl ?_) (λ hr => S10.ld 1 rfl (x := (((msr ((aOf e M).take m)).atoms : Nat) : Int)) rfl ?_)
  ·rw [hatoms, ew1]
   have := hK w10 e0
   rw [if_pos hr] at this
   exact this
  ·rw [hatoms]
   have := hK w10 e0
   have hr' : Dp (atoms (aOf e M)) m = false := hr
   rw [if_neg (by rw [hr']; decide)] at this
   exact this
end
end Go.Proofs.YtabcpghhfeplaaaGreat
namespace Go.Proofs.YtabcpghhfeplaaaGreat
open Go Go.Vx Gly Clu Rgl
section
variable {w w' : World}
theorem Ai5 {l r : Nat} {K : Bool -> Wp} (h : K (Jd l r) w) : Ac Tryz.prog 160 #[.int .i64 (l : Int), .int .i64 (r : Int)] rB K w := by
 refine Cu8 ?_
 unfold F160
 have g : ∀ {b : Bool}, (b = true ↔ Jd l r = true) -> K b w := λ {b} hb => by
  have : Jd l r = b := Bool.eq_iff_iff.2 hb.symm
  rw [this] at h; exact h
 have hx : ∀ {n m : Nat}, (((n : Int) == (m : Int)) = true) = (n = m) := by intro n m; simp; omega
 refine Ae (λ x W => x = (decide (l = 9 /\ (r = 9 \/ r = 10 \/ r = 12 \/ r = 13)), ()) /\ w = W) ?_ ?_
 ·refine Aa (λ h1 => Aa (λ h2 => ⟨Aj ?_, rfl⟩) λ h2 => Aa (λ h3 => ⟨Aj ?_, rfl⟩) λ h3 => Aa (λ h4 => ⟨Aj ?_, rfl⟩) λ h4 => ⟨Aj ?_, rfl⟩) λ h1 => ⟨Aj ?_, rfl⟩
  all_goals simp only [beq_iff_eq, beq_eq_false_iff_ne, ne_eq, decide_eq_true_eq, true_iff, Bool.false_eq_true, false_iff] at *
  all_goals omega
 rintro _ _ ⟨rfl, rfl⟩
 refine Aa (λ h1 => ?_) (λ h1 => ?_)
 ·simp only [decide_eq_true_eq] at h1
  refine g ?_
  unfold Jd
  simp only [decide_eq_true_eq, true_iff]
  exact .inl h1
 simp only [decide_eq_false_iff_not] at h1
 refine Ae (λ x W => x = (decide ((l = 12 \/ l = 10) /\ (r = 10 \/ r = 11)), ()) /\ w = W) ?_ ?_
 ·refine Aa (λ h1 => Aa (λ h2 => ⟨Aj ?_, rfl⟩) λ h2 => ⟨Aj ?_, rfl⟩) λ h1 => Aa (λ h2 => Aa (λ h3 => ⟨Aj ?_, rfl⟩) λ h3 => ⟨Aj ?_, rfl⟩) λ h2 => ⟨Aj ?_, rfl⟩
  all_goals simp only [beq_iff_eq, beq_eq_false_iff_ne, ne_eq, decide_eq_true_eq, true_iff, Bool.false_eq_true, false_iff] at *
  all_goals omega
 rintro _ _ ⟨rfl, rfl⟩
 refine Aa (λ h2 => ?_) (λ h2 => ?_)
 ·simp only [decide_eq_true_eq] at h2
  refine g ?_
  unfold Jd
  simp only [decide_eq_true_eq, true_iff]
  exact .inr (.inl h2)
 simp only [decide_eq_false_iff_not] at h2
 refine Aa (λ h3 => g ?_) (λ h3 => Aa (λ h4 => g ?_) (λ h4 => g ?_))
 all_goals unfold Jd
 all_goals simp only [beq_iff_eq, beq_eq_false_iff_ne, ne_eq, decide_eq_true_eq, Bool.false_eq_true, false_iff] at *
 all_goals omega
variable {A : List Int} {s : Sl} {t : TypeId}
theorem Xk {A : List Int} {j : Nat} {a : Int} (h : A[j]? = some a) : (A.take (j + 1)).reverse = a :: (A.take j).reverse := by
 rw [List.take_add_one, h]; simp
theorem rdA (hs : Aq w s t 1 (iv A)) {j : Nat} {a : Int} (h : A[j]? = some a) {K : Addr -> Int -> Wp} (hK : ∀ q, K q a w) : ix s.a s.len (j : Int) (λ q => ld (.int .i64) (q.add (scaled (Int.toNat (j : Int)) 1)) (K q)) w :=
 Iu (c := .int .i64) (xs := A) hs (by omega) (by rw [Int.toNat_natCast]; exact h) hK
theorem X4 (hs : Aq w s t 1 (iv A)) (hl : A.length < 2 ^ 40) {k : Nat} {a : Int} (ha : A[k]? = some a) {K : Bool -> Wp} (h : K (decide (cnj a = 1) && Rx (A.take k).reverse 0) w) :
  Ac Tryz.prog 161 #[s.v, .int .i64 (k : Int)] rB K w := by
 refine Cu7 ?_
 unfold F161
 have hk := (List.getElem?_eq_some_iff.1 ha).1
 refine rdA hs ha λ q => X5 (Aa (λ h1 => ?_) (λ h1 => ?_))
 ·simp only [bne_iff_ne, ne_eq] at h1
  rw [decide_eq_false (by omega), Bool.false_and] at h; exact h
 simp only [bne_eq_false_iff_eq] at h1
 rw [decide_eq_true (by omega), Bool.true_and] at h
 have ew : W64 ((k : Int) - 1) = (k : Int) - 1 := wrap64 (by omega) (by omega)
 rw [ew]
 refine Ae (λ _ W => w = W /\ Rx (A.take k).reverse 0 = false) ?_ (λ _ W hW => by obtain ⟨rfl, hf⟩ := hW; rw [hf] at h; exact h)
 refine Am (λ x W => ∃ n j : Nat, x = ((n : Int), (j : Int) - 1, ()) /\ j <= k /\ n + j <= k /\ w = W /\ Rx (A.take k).reverse 0 = Rx (A.take j).reverse n) (λ x _ => (x.2.1 + 1).toNat) ⟨0, k, rfl, Nat.le_refl _, by omega, rfl, rfl⟩ ?_
 rintro _ _ ⟨n, j, rfl, hj, hnj, rfl, he⟩
 dsimp only
 refine Aa (λ hc => ?_) (λ hc => ?_)
 ·simp only [decide_eq_true_eq, ge_iff_le] at hc
  obtain ⟨i, rfl⟩ : ∃ i, j = i + 1 := ⟨j - 1, by omega⟩
  obtain ⟨b, hb⟩ : ∃ b, A[i]? = some b := ⟨_, List.getElem?_eq_getElem (by omega)⟩
  have e1 : ((i + 1 : Nat) : Int) - 1 = (i : Int) := by omega
  rw [Xk hb, Rx] at he
  rw [e1]
  have ewi : W64 ((i : Int) - 1) = (i : Int) - 1 := wrap64 (by omega) (by omega)
  have ewn : W64 ((n : Int) + 1) = ((n + 1 : Nat) : Int) := by rw [wrap64 (by omega) (by omega)]; omega
  rw [ewi, ewn]
  refine rdA hs hb λ q => X5 ?_
  refine Ae (λ x W => x = (((if cnj b = 3 then n + 1 else n : Nat) : Int), ()) /\ w = W) (Aa (λ h3 => ⟨?_, rfl⟩) (λ h3 => ⟨?_, rfl⟩)) ?_
  ·simp only [beq_iff_eq] at h3
   rw [if_pos (by omega)]
  ·simp only [beq_eq_false_iff_ne, ne_eq] at h3
   rw [if_neg (by omega)]
  rintro _ _ ⟨rfl, rfl⟩
  refine Ae (λ x W => x = (decide (cnj b ≠ 3 /\ cnj b ≠ 2), ()) /\ w = W) (Aa (λ h3 => ⟨Aj ?_, rfl⟩) (λ h3 => ⟨Aj ?_, rfl⟩)) ?_
  ·simp only [bne_iff_ne, ne_eq, decide_eq_true_eq] at *; omega
  ·simp only [bne_eq_false_iff_eq, ne_eq, decide_eq_true_eq, Bool.false_eq_true, false_iff] at *; omega
  rintro _ _ ⟨rfl, rfl⟩
  refine Aa (λ h3 => ?_) (λ h3 => ?_)
  ·simp only [decide_eq_true_eq] at h3
   rw [if_pos h3] at he
   rw [if_neg h3.1]
   refine Aa (λ h4 => ?_) (λ h4 => ?_)
   ·simp only [decide_eq_true_eq, gt_iff_lt] at h4
    rw [he, decide_eq_true (by omega), Bool.true_and] at h
    have : (((cnj b : Nat) : Int) == (1 : Int)) = (cnj b == 1) := by rw [Bool.eq_iff_iff, beq_iff_eq, beq_iff_eq]; omega
    rw [this]; exact h
   ·simp only [decide_eq_false_iff_not, gt_iff_lt] at h4
    rw [he, decide_eq_false (by omega), Bool.false_and] at h
    exact h
  ·simp only [decide_eq_false_iff_not] at h3
   rw [if_neg h3] at he
   exact ⟨⟨_, i, rfl, by omega, by split <;> omega, rfl, he⟩, by omega⟩
 ·simp only [decide_eq_false_iff_not, ge_iff_le] at hc
  obtain rfl : j = 0 := by omega
  exact ⟨rfl, he⟩
theorem Ai3 (hs : Aq w s t 1 (iv A)) (hl : A.length < 2 ^ 40) {k : Nat} {a b : Int} (ha : A[k + 1]? = some a) (hb : A[k]? = some b) {K : Bool -> Wp} (h : K (decide (cls a = 14 /\ cls b = 5) && Qc (A.take k).reverse) w) :
  Ac Tryz.prog 162 #[s.v, .int .i64 ((k + 1 : Nat) : Int)] rB K w := by
 refine Cu6 ?_
 unfold F162
 have hk := (List.getElem?_eq_some_iff.1 ha).1
 have ew1 : W64 (((k + 1 : Nat) : Int) - 1) = (k : Int) := by rw [wrap64 (by omega) (by omega)]; omega
 have ew2 : W64 (((k + 1 : Nat) : Int) - 2) = (k : Int) - 1 := by rw [wrap64 (by omega) (by omega)]; omega
 rw [ew1, ew2]
 refine Ae (λ x W => x = (decide (¬ (cls a = 14 /\ cls b = 5)), ()) /\ w = W) ?_ ?_
 ·refine rdA hs ha λ q => Gp (Aa (λ h1 => ⟨Aj ?_, rfl⟩) (λ h1 => rdA hs hb λ q => Gp ⟨Aj ?_, rfl⟩))
  ·simp only [bne_iff_ne, ne_eq, decide_eq_true_eq, true_iff] at *; omega
  ·simp only [bne_eq_false_iff_eq, bne_iff_ne, ne_eq, decide_eq_true_eq] at *; omega
 rintro _ _ ⟨rfl, rfl⟩
 refine Aa (λ h1 => ?_) (λ h1 => ?_)
 ·simp only [decide_eq_true_eq] at h1
  rw [decide_eq_false h1, Bool.false_and] at h; exact h
 simp only [decide_eq_false_iff_not, Decidable.not_not] at h1
 rw [decide_eq_true h1, Bool.true_and] at h
 refine Ae (λ _ W => w = W /\ Qc (A.take k).reverse = false) ?_ (λ _ W hW => by obtain ⟨rfl, hf⟩ := hW; rw [hf] at h; exact h)
 refine Am (λ x W => ∃ j : Nat, x = ((j : Int) - 1, ()) /\ j <= k /\ w = W /\ Qc (A.take k).reverse = Qc (A.take j).reverse) (λ x _ => (x.1 + 1).toNat) ⟨k, rfl, Nat.le_refl _, rfl, rfl⟩ ?_
 rintro _ _ ⟨j, rfl, hj, rfl, he⟩
 dsimp only
 refine Aa (λ hc => ?_) (λ hc => ?_)
 ·simp only [decide_eq_true_eq, ge_iff_le] at hc
  obtain ⟨i, rfl⟩ : ∃ i, j = i + 1 := ⟨j - 1, by omega⟩
  obtain ⟨c, hcc⟩ : ∃ b, A[i]? = some b := ⟨_, List.getElem?_eq_getElem (by omega)⟩
  have e1 : ((i + 1 : Nat) : Int) - 1 = (i : Int) := by omega
  rw [Xk hcc, Qc] at he
  rw [e1]
  have ewi : W64 ((i : Int) - 1) = (i : Int) - 1 := wrap64 (by omega) (by omega)
  rw [ewi]
  refine rdA hs hcc λ q => Gp (Aa (λ h3 => ?_) (λ h3 => ?_))
  ·simp only [bne_iff_ne, ne_eq] at h3
   rw [if_pos (by omega)] at he
   rw [he] at h
   have : (((cls c : Nat) : Int) == (14 : Int)) = (cls c == 14) := by rw [Bool.eq_iff_iff, beq_iff_eq, beq_iff_eq]; omega
   rw [this]; exact h
  ·simp only [bne_eq_false_iff_eq] at h3
   rw [if_neg (by omega)] at he
   exact ⟨⟨i, rfl, by omega, rfl, he⟩, by omega⟩
 ·simp only [decide_eq_false_iff_not, ge_iff_le] at hc
  obtain rfl : j = 0 := by omega
  exact ⟨rfl, he⟩
theorem Av5 (hs : Aq w s t 1 (iv A)) (hl : A.length < 2 ^ 40) {k : Nat} {a : Int} (ha : A[k]? = some a) {K : Bool -> Wp} (h : K (decide (cls a = 6) && Qk (A.take k).reverse % 2 == 1) w) :
  Ac Tryz.prog 163 #[s.v, .int .i64 (k : Int)] rB K w := by
 refine Cu5 ?_
 unfold F163
 have hk := (List.getElem?_eq_some_iff.1 ha).1
 refine rdA hs ha λ q => Gp (Aa (λ h1 => ?_) (λ h1 => ?_))
 ·simp only [bne_iff_ne, ne_eq] at h1
  rw [decide_eq_false (by omega), Bool.false_and] at h; exact h
 simp only [bne_eq_false_iff_eq] at h1
 rw [decide_eq_true (by omega), Bool.true_and] at h
 have ew : W64 ((k : Int) - 1) = (k : Int) - 1 := wrap64 (by omega) (by omega)
 rw [ew]
 refine Ae (λ x W => x = (((Qk (A.take k).reverse : Nat) : Int), ()) /\ w = W) ?_ ?_
 ·refine Am (λ x W => ∃ n j : Nat, x = ((n : Int), (j : Int) - 1, ()) /\ j <= k /\ n + j <= k /\ w = W /\ Qk (A.take k).reverse = n + Qk (A.take j).reverse) (λ x _ => (x.2.1 + 1).toNat) ⟨0, k, rfl, Nat.le_refl _, by omega, rfl, by omega⟩ ?_
  rintro _ _ ⟨n, j, rfl, hj, hnj, rfl, he⟩
  dsimp only
  refine Aa (λ hc => ?_) (λ hc => ?_)
  ·simp only [decide_eq_true_eq, ge_iff_le] at hc
   obtain ⟨i, rfl⟩ : ∃ i, j = i + 1 := ⟨j - 1, by omega⟩
   obtain ⟨c, hcc⟩ : ∃ b, A[i]? = some b := ⟨_, List.getElem?_eq_getElem (by omega)⟩
   have e1 : ((i + 1 : Nat) : Int) - 1 = (i : Int) := by omega
   rw [Xk hcc, Qk] at he
   rw [e1]
   have ewi : W64 ((i : Int) - 1) = (i : Int) - 1 := wrap64 (by omega) (by omega)
   have ewn : W64 ((n : Int) + 1) = ((n + 1 : Nat) : Int) := by rw [wrap64 (by omega) (by omega)]; omega
   rw [ewi, ewn]
   refine rdA hs hcc λ q => Gp (Aa (λ h3 => ⟨?_, rfl⟩) (λ h3 => ?_))
   ·simp only [bne_iff_ne, ne_eq] at h3
    rw [if_pos (by omega)] at he
    rw [he, Nat.add_zero]
   ·simp only [bne_eq_false_iff_eq] at h3
    rw [if_neg (by omega)] at he
    exact ⟨⟨n + 1, i, rfl, by omega, by omega, rfl, by omega⟩, by omega⟩
  ·simp only [decide_eq_false_iff_not, ge_iff_le] at hc
   obtain rfl : j = 0 := by omega
   refine ⟨?_, rfl⟩
   rw [he]; rfl
 rintro _ _ ⟨rfl, rfl⟩
 refine Ci (by decide) ?_
 rw [Int.tmod_eq_emod_of_nonneg (by omega)]
 have : ((((Qk (A.take k).reverse : Nat) : Int) % 2) == (1 : Int)) = (Qk (A.take k).reverse % 2 == 1) := by rw [Bool.eq_iff_iff, beq_iff_eq, beq_iff_eq]; omega
 rw [this]; exact h
theorem Ab8 (hs : Aq w s t 1 (iv A)) (hl : A.length < 2 ^ 40) {k : Nat} (hk : k <= A.length) {K : Bool -> Wp} (h : K (bk A k) w) :
  Ac Tryz.prog 152 #[s.v, .int .i64 (k : Int)] rB K w := by
 refine Cv4 ?_
 unfold F152
 have hlen : A.length = s.len := by have := hs.len1; rwa [List.length_map] at this
 refine Ae (λ x W => x = (false, ()) /\ w = W) (Aa (λ hc => ?_) (λ hc => ⟨Aj ?_, rfl⟩)) ?_
 ·simp only [decide_eq_true_eq] at hc; omega
 ·simp only [decide_eq_true_eq, gt_iff_lt, Bool.false_eq_true, iff_false]; omega
 rintro _ _ ⟨rfl, rfl⟩
 refine Au ?_
 refine Ae (λ x W => x = (decide (k = 0 \/ k = A.length), ()) /\ w = W) (Aa (λ hc => ⟨Aj ?_, rfl⟩) (λ hc => ⟨Aj ?_, rfl⟩)) ?_
 ·simp only [beq_iff_eq, decide_eq_true_eq, true_iff] at *; omega
 ·simp only [beq_eq_false_iff_ne, ne_eq, beq_iff_eq, decide_eq_true_eq] at *; omega
 rintro _ _ ⟨rfl, rfl⟩
 refine Aa (λ hc => ?_) (λ hc => ?_)
 ·simp only [decide_eq_true_eq] at hc
  have : bk A k = true := by
   rcases hc with rfl | rfl
   ·exact U0 A
   ·exact Az6 A
  rw [this] at h; exact h
 simp only [decide_eq_false_iff_not, not_or] at hc
 obtain ⟨j, rfl⟩ : ∃ j, k = j + 1 := ⟨k - 1, by omega⟩
 have ha : A[j + 1]? = some A[j + 1] := List.getElem?_eq_getElem (by omega)
 have hb : A[j]? = some A[j] := List.getElem?_eq_getElem (by omega)
 generalize A[j + 1] = a at *
 generalize A[j] = b at *
 have hbk : bk A (j + 1) = !Aj8 (b :: (A.take j).reverse) (cls b) (cls a) (cnj a) := by
  rw [Br3 ha (by omega), List.take_add_one, hb]
  have := Ax6 (b := b) (A.take j).reverse (cls a) (cnj a)
  rw [List.reverse_reverse] at this
  show (!joins (sc (A.take j ++ [b])) _ _) = _
  rw [this]
 rw [hbk] at h
 have ew1 : W64 (((j + 1 : Nat) : Int) - 1) = (j : Int) := by rw [wrap64 (by omega) (by omega)]; omega
 rw [ew1]
 refine rdA hs hb λ q => Gp (rdA hs ha λ q => Gp ?_)
 unfold Aj8 at h
 refine Ae (λ x W => x = (decide (cls b = 1 /\ cls a = 2), ()) /\ w = W) (Aa (λ h1 => ⟨Aj ?_, rfl⟩) (λ h1 => ⟨Aj ?_, rfl⟩)) ?_
 ·simp only [beq_iff_eq, decide_eq_true_eq] at *; omega
 ·simp only [beq_eq_false_iff_ne, ne_eq, decide_eq_true_eq, Bool.false_eq_true, false_iff] at *; omega
 rintro _ _ ⟨rfl, rfl⟩
 refine Aa (λ h1 => ?_) (λ h1 => ?_)
 ·simp only [decide_eq_true_eq] at h1
  rw [if_pos h1] at h; exact h
 simp only [decide_eq_false_iff_not] at h1
 rw [if_neg h1] at h
 refine Ae (λ x W => x = (decide (apart (cls b) = true \/ apart (cls a) = true), ()) /\ w = W) ?_ ?_
 ·refine Aa (λ g1 => ⟨Aj ?_, rfl⟩) λ g1 => Aa (λ g2 => ⟨Aj ?_, rfl⟩) λ g2 => Aa (λ g3 => ⟨Aj ?_, rfl⟩) λ g3 => Aa (λ g4 => ⟨Aj ?_, rfl⟩) λ g4 => Aa (λ g5 => ⟨Aj ?_, rfl⟩) λ g5 => ⟨Aj ?_, rfl⟩
  all_goals unfold apart
  all_goals simp only [beq_iff_eq, beq_eq_false_iff_ne, ne_eq, decide_eq_true_eq, true_iff] at *
  all_goals omega
 rintro _ _ ⟨rfl, rfl⟩
 refine Aa (λ h2 => ?_) (λ h2 => ?_)
 ·simp only [decide_eq_true_eq] at h2
  rw [if_pos h2] at h; exact h
 simp only [decide_eq_false_iff_not] at h2
 rw [if_neg h2] at h
 refine Ai5 ?_
 refine Ae (λ x W => x = ((Jd (cls b) (cls a) || decide (cls a = 4 \/ cls a = 5 \/ cls a = 8 \/ cls b = 7)), ()) /\ w = W) ?_ ?_
 ·refine Aa (λ g1 => ⟨Aj ?_, rfl⟩) λ g1 => Aa (λ g2 => ⟨Aj ?_, rfl⟩) λ g2 => Aa (λ g3 => ⟨Aj ?_, rfl⟩) λ g3 => Aa (λ g4 => ⟨Aj ?_, rfl⟩) λ g4 => ⟨Aj ?_, rfl⟩
  all_goals simp only [g1, Bool.true_or, Bool.false_or, beq_iff_eq, beq_eq_false_iff_ne, ne_eq, decide_eq_true_eq, true_iff] at *
  all_goals omega
 rintro _ _ ⟨rfl, rfl⟩
 refine Aa (λ h3 => ?_) (λ h3 => ?_)
 ·have h3 : (Jd (cls b) (cls a) || decide (cls a = 4 \/ cls a = 5 \/ cls a = 8 \/ cls b = 7)) = true := h3
  rw [h3, Bool.true_or, Bool.true_or, Bool.true_or] at h; exact h
 have h3 : (Jd (cls b) (cls a) || decide (cls a = 4 \/ cls a = 5 \/ cls a = 8 \/ cls b = 7)) = false := h3
 rw [h3, Bool.false_or] at h
 refine X4 hs hl ha (Ai3 hs hl ha hb (Av5 hs hl ha ?_))
 rw [Xk hb]
 have ht : (b :: (A.take j).reverse).tail = (A.take j).reverse := rfl
 rw [ht] at h
 generalize (decide (cnj a = 1) && Rx (b :: (A.take j).reverse) 0) = x at *
 generalize (decide (cls a = 14 /\ cls b = 5) && Qc (A.take j).reverse) = y at *
 generalize (decide (cls a = 6) && Qk (b :: (A.take j).reverse) % 2 == 1) = z at *
 cases x
 ·cases y
  ·refine Aa (λ _ => Aa (λ _ => ?_) (λ q => by cases q)) (λ q => by cases q)
   exact h
  ·exact Cm (Au h)
 ·exact Au h
end
end Go.Proofs.YtabcpghhfeplaaaGreat
namespace Go.Proofs.YtabcpghhfeplaaaGreat
open Trx Gly Clu
namespace Lns
structure Ln where
 from_ : Nat
 to_ : Nat
 next : Nat
 kind : Nat
 deriving DecidableEq
def isb (A : List Int) (n : Nat) : Bool := match A[n]? with
 | some a => isE a (A.drop (n + 1))
 | none => false
theorem Kv : ∀ (A : List Int) (n : Nat), nb A (n + 1) = nb A n + (if isb A n then 1 else 0)
 | [], n => by cases n <;> simp [nb, isb]
 | a :: r, 0 => by simp [nb, Jp, isb]
 | a :: r, n + 1 => by
  have ih := Kv r n
  rw [nb, ih, nb]
  have : isb (a :: r) (n + 1) = isb r n := by simp [isb]
  rw [this]; omega
theorem Gi {A : List Int} {n : Nat} {a : Int} (h : A[n]? = some a) : isb A n = true ↔ a = 10 \/ (a = 13 /\ A[n + 1]? ≠ some 10) := by
 unfold isb
 rw [h]
 simp only [isE, Bool.or_eq_true, beq_iff_eq, Bool.and_eq_true, bne_iff_ne, ne_eq, List.head?_drop]
theorem Bo8 {A : List Int} {n : Nat} (h : isb A n = true) : n < A.length := by
 unfold isb at h
 split at h
 ·rename_i a ha; exact (List.getElem?_eq_some_iff.1 ha).1
 ·cases h
theorem Lu {A : List Int} {k m : Nat} (h : sk A k = some m) : k <= brs A /\ m <= A.length /\ nb A m = k /\ ∀ j, j < m -> nb A j < k := by
 by_cases hk : k <= brs A
 ·obtain ⟨m', h1, h2, h3, h4⟩ := Ah9 A k hk
  rw [h] at h1; cases h1
  exact ⟨hk, h2, h3, h4⟩
 ·rw [Qr A k (by omega)] at h; cases h
theorem U9 {A : List Int} {k : Nat} (h : k <= brs A) : ∃ m, sk A k = some m := by
 obtain ⟨m, h1, _⟩ := Ah9 A k h
 exact ⟨m, h1⟩
theorem Bb0 (A : List Int) : sk A 0 = some 0 := by cases A <;> rfl
theorem Bx0 {A : List Int} {i j m x : Nat} (h1 : sk A i = some m) (h2 : sk A j = some x) (hij : i < j) : m < x := by
 obtain ⟨_, _, g1, _⟩ := Lu h1
 obtain ⟨_, _, g2, g3⟩ := Lu h2
 rcases Nat.lt_or_ge m x with h | h
 ·exact h
 ·have := Gv A x m h; omega
theorem By6 {A : List Int} {k m : Nat} (h : sk A (k + 1) = some m) : 0 < m /\ isb A (m - 1) = true := by
 obtain ⟨_, _, h3, h4⟩ := Lu h
 cases m with
 | zero => rw [Jp] at h3; omega
 | succ m =>
  refine ⟨by omega, ?_⟩
  have := h4 m (by omega)
  rw [Kv] at h3
  rw [Nat.add_sub_cancel]
  cases hb : isb A m with
  | true => rfl
  | false => rw [hb] at h3; simp at h3; omega
def lnC (A : List Int) (f x : Nat) : Ln := if A[x - 1]? = some 13 then ⟨f, x - 1, x, 3⟩ else if f + 1 < x /\ A[x - 2]? = some 13 then ⟨f, x - 2, x, 2⟩ else ⟨f, x - 1, x, 1⟩
def Eb (A : List Int) (i : Nat) : Option Ln := match sk A i with
 | none => none
 | some f => some (match sk A (i + 1) with | some x => lnC A f x | none => ⟨f, A.length, A.length, 0⟩)
def lnI (A : List Int) (i : Int) : Option Ln := if i < 0 then none else Eb A i.toNat
def ended (A : List Int) : Bool := decide (0 < A.length) && sk A (brs A) == some A.length
def lnN (A : List Int) : Nat := brs A + (if ended A then 0 else 1)
theorem Ie {A : List Int} {i : Nat} {l : Ln} (h : Eb A i = some l) : i <= brs A /\ sk A i = some l.from_ := by
 unfold Eb at h
 split at h
 ·cases h
 ·rename_i f hf
  cases h
  refine ⟨(Lu hf).1, ?_⟩
  split
  ·unfold lnC; split
   ·exact hf
   ·split <;> exact hf
  ·exact hf
theorem Ux {A : List Int} {i : Nat} (h : i <= brs A) : ∃ l, Eb A i = some l := by
 obtain ⟨m, hm⟩ := U9 h
 unfold Eb; rw [hm]; exact ⟨_, rfl⟩
structure Bw7 (A : List Int) (i : Nat) (l : Ln) : Prop where
 ft : l.from_ <= l.to_
 tn : l.to_ <= l.next
 nl : l.next <= A.length
 nbf : ∀ k, l.from_ <= k -> k < l.next -> nb A k = i
 nbF : nb A l.from_ = i
 tail : sk A (i + 1) = none -> l.kind = 0 /\ l.to_ = A.length /\ l.next = A.length
 brk : ∀ x, sk A (i + 1) = some x -> l.next = x /\ l.to_ < l.next /\ l.kind ≠ 0 /\ nb A x = i + 1
 plain : ∀ j a, l.from_ <= j -> j < l.to_ -> A[j]? = some a -> a ≠ 10 /\ a ≠ 13
 atTo : ∀ a, l.to_ < l.next -> A[l.to_]? = some a -> a = 10 \/ a = 13
 noLF : ∀ j, l.from_ <= j -> j < l.to_ -> A[j]? ≠ some 13
theorem Oo {A : List Int} {i : Nat} {l : Ln} (h : Eb A i = some l) : Bw7 A i l := by
 obtain ⟨hi, hf⟩ := Ie h
 obtain ⟨_, hfl, hnf, hfmin⟩ := Lu hf
 unfold Eb at h
 rw [hf] at h
 simp only [Option.some.injEq] at h
 cases hx : sk A (i + 1) with
 | none =>
  rw [hx] at h
  simp only at h
  have hbr : brs A <= i := by
   rcases Nat.lt_or_ge i (brs A) with h1 | h1
   ·obtain ⟨m, hm⟩ := U9 (A := A) (k := i + 1) (by omega)
    rw [hm] at hx; cases hx
   ·exact h1
  have hall : ∀ k, l.from_ <= k -> nb A k = i := λ k hk => by
   have h1 := Gv A _ _ hk
   have h2 := Gv A k (max k A.length) (by omega)
   rw [Ao1 A (max k A.length) (by omega)] at h2
   omega
  have pl : ∀ j a, l.from_ <= j -> j < A.length -> A[j]? = some a -> a ≠ 10 /\ a ≠ 13 := by
   have no : ∀ j, l.from_ <= j -> isb A j = false := λ j hj => by
    have h1 := hall j hj
    have h2 := hall (j + 1) (by omega)
    rw [Kv, h1] at h2
    cases hb : isb A j with
    | false => rfl
    | true => rw [hb] at h2; simp at h2
   intro j a hj hjl ha
   have h1 := no j hj
   constructor
   ·intro e
    have := (Gi ha).2 (.inl e)
    rw [h1] at this; cases this
   ·intro e
    have h2 := no (j + 1) (by omega)
    by_cases h10 : A[j + 1]? = some 10
    ·have := (Gi h10).2 (.inl rfl)
     rw [h2] at this; cases this
    ·have := (Gi ha).2 (.inr ⟨e, h10⟩)
     rw [h1] at this; cases this
  have el : l = ⟨l.from_, A.length, A.length, 0⟩ := h.symm
  have e1 : l.to_ = A.length := by rw [el]
  have e2 : l.next = A.length := by rw [el]
  have e3 : l.kind = 0 := by rw [el]
  exact ⟨by omega, by omega, by omega, λ k h1 _ => hall k h1, hnf, λ _ => ⟨e3, e1, e2⟩, (λ x hx' => by rw [hx] at hx'; cases hx'), λ j a h1 h2 => pl j a h1 (by omega), λ a h1 => by omega, λ j h1 h2 h3 => (pl j 13 h1 (by omega) h3).2 rfl⟩
 | some x =>
  rw [hx] at h
  simp only at h
  obtain ⟨hib, hxl, hnx, hxmin⟩ := Lu hx
  obtain ⟨hx0, hxe⟩ := By6 hx
  have hfx := Bx0 hf hx (by omega)
  have hmid : ∀ k, l.from_ <= k -> k < x -> nb A k = i := λ k h1 h2 => by
   have := Gv A _ _ h1
   have := hxmin k h2
   omega
  have no : ∀ j, l.from_ <= j -> j + 1 < x -> isb A j = false := λ j hj hjx => by
   have h1 := hmid j hj (by omega)
   have h2 := hmid (j + 1) (by omega) hjx
   rw [Kv, h1] at h2
   cases hb : isb A j with
   | false => rfl
   | true => rw [hb] at h2; simp at h2
  obtain ⟨a, ha⟩ : ∃ a, A[x - 1]? = some a := ⟨_, List.getElem?_eq_getElem (by omega)⟩
  have hend := (Gi ha).1 hxe
  have nx : x - 1 + 1 = x := by omega
  have fin : ∀ t, l.to_ = t -> l.next = x -> l.from_ <= t -> t < x -> l.kind ≠ 0 -> (∀ a, A[t]? = some a -> a = 10 \/ a = 13) -> (t + 1 = x \/ (t + 2 = x /\ A[t]? = some 13)) -> (t + 1 = x -> ∀ j, j + 1 = t -> l.from_ <= j -> A[t]? = some 10 -> A[j]? ≠ some 13) -> Bw7 A i l := by
   intro t e1 e2 h1 h2 h3 h4 h5 h6
   have pl : ∀ j a, l.from_ <= j -> j < t -> A[j]? = some a -> a ≠ 10 /\ a ≠ 13 := by
    intro j a hj hjt ha
    have g1 := no j hj (by omega)
    refine ⟨λ e => ?_, λ e => ?_⟩
    ·have := (Gi ha).2 (.inl e)
     rw [g1] at this; cases this
    ·by_cases h10 : A[j + 1]? = some 10
     ·by_cases hj2 : j + 2 < x
      ·have g2 := no (j + 1) (by omega) (by omega)
       have := (Gi h10).2 (.inl rfl)
       rw [g2] at this; cases this
      ·rcases h5 with h5 | h5
       ·have ht : t = j + 1 := by omega
        subst ht
        exact h6 h5 j rfl hj h10 (by rw [ha, e])
       ·omega
     ·have := (Gi ha).2 (.inr ⟨e, h10⟩)
      rw [g1] at this; cases this
   exact ⟨by omega, by omega, by omega, λ k g1 g2 => hmid k g1 (by omega), hnf, (λ hn => by rw [hx] at hn; cases hn), (λ y hy => by rw [hx] at hy; cases hy; exact ⟨e2, by omega, h3, hnx⟩), λ j a g1 g2 => pl j a g1 (by omega), λ a _ g => h4 a (by rw [← e1]; exact g), λ j g1 g2 g3 => (pl j 13 g1 (by omega) g3).2 rfl⟩
  unfold lnC at h
  split at h
  ·rename_i h13
   have el : l = ⟨l.from_, x - 1, x, 3⟩ := h.symm
   refine fin (x - 1) (by rw [el]) (by rw [el]) (by omega) (by omega) (by rw [el]; exact (by decide : (3 : Nat) ≠ 0)) (λ a h => by rw [h13] at h; cases h; exact .inr rfl) (.inl (by omega)) (λ _ j _ _ h => by rw [h13] at h; cases h)
  ·rename_i h13
   have ha10 : a = 10 := by
    rcases hend with h | h
    ·exact h
    ·exact absurd (by rw [ha, h.1]) h13
   split at h
   ·rename_i h2
    have el : l = ⟨l.from_, x - 2, x, 2⟩ := h.symm
    exact fin (x - 2) (by rw [el]) (by rw [el]) (by omega) (by omega) (by rw [el]; exact (by decide : (2 : Nat) ≠ 0)) (λ a h => by rw [h2.2] at h; cases h; exact .inr rfl) (.inr ⟨by omega, h2.2⟩) (λ h => by omega)
   ·rename_i h2
    have el : l = ⟨l.from_, x - 1, x, 1⟩ := h.symm
    refine fin (x - 1) (by rw [el]) (by rw [el]) (by omega) (by omega) (by rw [el]; exact (by decide : (1 : Nat) ≠ 0)) (λ b h => by rw [ha] at h; cases h; exact .inl ha10) (.inl (by omega)) (λ _ j hj hfj _ h => h2 ⟨by omega, ?_⟩)
    rw [← h]; congr 1; omega
theorem Y7 (A : List Int) {at_ : Nat} (h : at_ <= A.length) : ∃ l, Eb A (nb A at_) = some l /\ l.from_ <= at_ /\ (at_ < l.next \/ (sk A (nb A at_ + 1) = none /\ l.next = A.length)) := by
 have hle : nb A at_ <= brs A := by rw [Gz]; exact Gv A _ _ h
 obtain ⟨l, hl⟩ := Ux hle
 obtain ⟨_, hf⟩ := Ie hl
 obtain ⟨_, _, g1, g2⟩ := Lu hf
 have ok := Oo hl
 refine ⟨l, hl, ?_, ?_⟩
 ·rcases Nat.lt_or_ge at_ l.from_ with h1 | h1
  ·have := g2 at_ h1; omega
  ·exact h1
 ·cases hx : sk A (nb A at_ + 1) with
  | none => exact .inr ⟨rfl, (ok.tail hx).2.2⟩
  | some x =>
   obtain ⟨e1, _, _, e2⟩ := ok.brk x hx
   left
   rcases Nat.lt_or_ge at_ l.next with h1 | h1
   ·exact h1
   ·have := Gv A l.next at_ h1
    rw [e1, e2] at this; omega
end Lns
end Go.Proofs.YtabcpghhfeplaaaGreat
namespace Go.Proofs.YtabcpghhfeplaaaGreat
open Trx Gly Clu Lns
namespace Obx
structure Cel where
 from_ : Nat
 to_ : Nat
 kind : Nat
 alone : Bool
 atom : Int
def Cel.is (c : Cel) (a : Int) : Bool := c.alone && c.atom == a
def Yo (A : List Int) (off i j : Nat) : Cel := ⟨off + i, off + j, wrd (A[i]?.getD 0), decide (j = i + 1), A[i]?.getD 0⟩
def Ue (A : List Int) (off : Nat) : List Nat -> List Cel
 | i :: j :: r => Yo A off i j :: Ue A off (j :: r)
 | _ => []
def Bg (A : List Int) (off : Nat) : List Cel := Ue A off (cuts A)
theorem Zq (A : List Int) (off : Nat) : ∀ L : List Nat, (Ue A off L).length = L.length - 1
 | [] => rfl
 | [_] => rfl
 | i :: j :: r => by rw [Ue, List.length_cons, Zq A off (j :: r)]; simp
theorem Zr (A : List Int) (off : Nat) : ∀ (L : List Nat) (m i j : Nat), L[m]? = some i -> L[m + 1]? = some j -> (Ue A off L)[m]? = some (Yo A off i j)
 | [], _, _, _, h, _ => by simp at h
 | [_], m, _, _, _, h => by simp at h
 | i :: j :: r, 0, _, _, h, h' => by
  simp at h h'
  subst h h'
  rfl
 | i :: j :: r, m + 1, x, y, h, h' => by
  rw [Ue, List.getElem?_cons_succ]
  exact Zr A off (j :: r) m x y (by simpa using h) (by simpa using h')
theorem Bq6 (A : List Int) (off : Nat) : ∀ (L : List Nat) (m : Nat) (c : Cel), (Ue A off L)[m]? = some c -> ∃ i j, L[m]? = some i /\ L[m + 1]? = some j /\ c = Yo A off i j := by
 intro L m c h
 have hl := (List.getElem?_eq_some_iff.1 h).1
 rw [Zq] at hl
 have h1 : L[m]? = some L[m] := List.getElem?_eq_getElem (by omega)
 have h2 : L[m + 1]? = some L[m + 1] := List.getElem?_eq_getElem (by omega)
 have := Zr A off L m _ _ h1 h2
 rw [h] at this
 exact ⟨_, _, h1, h2, Option.some.inj this⟩
theorem Ag0 (A : List Int) : (cuts A)[0]? = some 0 := by
 unfold cuts Ku
 rw [List.range_succ_eq_map, List.filter_cons_of_pos (U0 A)]
 rfl
theorem Yj {A : List Int} {m n i j : Nat} (hmn : m < n) (h : (cuts A)[m]? = some i) (h' : (cuts A)[n]? = some j) : i < j := by
 have hp := Bv2 (A := A)
 obtain ⟨h1, rfl⟩ := List.getElem?_eq_some_iff.1 h
 obtain ⟨h2, rfl⟩ := List.getElem?_eq_some_iff.1 h'
 exact List.pairwise_iff_getElem.1 hp m n h1 h2 hmn
theorem Yk {A : List Int} {m i : Nat} (h : (cuts A)[m]? = some i) : bk A i = true := Ao3.1 (List.mem_of_getElem? h)
theorem Bi9 (A : List Int) : (cuts A)[(cuts A).length - 1]? = some A.length := by
 have h : A.length ∈ cuts A := Ao3.2 (Az6 A)
 obtain ⟨m, hm⟩ := List.getElem?_of_mem h
 have hl := (List.getElem?_eq_some_iff.1 hm).1
 by_cases he : m = (cuts A).length - 1
 ·rw [← he]; exact hm
 ·have h2 : (cuts A)[(cuts A).length - 1]? = some (cuts A)[(cuts A).length - 1] := List.getElem?_eq_getElem (by omega)
  have := Yj (by omega) hm h2
  have := Ag4 (Yk h2)
  omega
theorem Lj (A : List Int) : 0 < (cuts A).length := by
 have := (List.getElem?_eq_some_iff.1 (Ag0 A)).1
 exact this
structure Cf2 (A : List Int) (off m : Nat) (c : Cel) : Prop where
 ex : ∃ i j, (cuts A)[m]? = some i /\ (cuts A)[m + 1]? = some j /\ i < j /\ j <= A.length /\ c.from_ = off + i /\ c.to_ = off + j /\ bk A i = true /\ bk A j = true /\ A[i]? = some c.atom /\ c.kind = wrd c.atom /\ (c.alone = true ↔ j = i + 1)
theorem Ig {A : List Int} {off m : Nat} {c : Cel} (h : (Bg A off)[m]? = some c) : Cf2 A off m c := by
 obtain ⟨i, j, h1, h2, rfl⟩ := Bq6 A off _ m c h
 have hij := Yj (by omega) h1 h2
 have hj := Ag4 (Yk h2)
 have ha : A[i]? = some A[i] := List.getElem?_eq_getElem (by omega)
 refine ⟨i, j, h1, h2, hij, hj, rfl, rfl, Yk h1, Yk h2, ?_, rfl, by simp [Yo]⟩
 simp [Yo, ha]
theorem Q8 {A : List Int} {off m n : Nat} {c d : Cel} (hmn : m < n) (h : (Bg A off)[m]? = some c) (h' : (Bg A off)[n]? = some d) : c.to_ <= d.from_ /\ c.from_ < d.from_ /\ c.to_ < d.to_ := by
 obtain ⟨i, j, h1, h2, h3, h4, h5, h6, _⟩ := (Ig h).ex
 obtain ⟨i', j', g1, g2, g3, g4, g5, g6, _⟩ := (Ig h').ex
 have : j <= i' := by
  by_cases he : m + 1 = n
  ·subst he; rw [h2] at g1; exact Nat.le_of_eq (Option.some.inj g1)
  ·exact Nat.le_of_lt (Yj (by omega) h2 g1)
 omega
theorem Js (A : List Int) (off : Nat) : (Bg A off).length = (cuts A).length - 1 := Zq A off _
theorem Ag2 {A : List Int} {off m : Nat} {c d : Cel} (h : (Bg A off)[m]? = some c) (h' : (Bg A off)[m + 1]? = some d) : c.to_ = d.from_ := by
 obtain ⟨i, j, h1, h2, h3, h4, h5, h6, _⟩ := (Ig h).ex
 obtain ⟨i', j', g1, g2, g3, g4, g5, g6, _⟩ := (Ig h').ex
 rw [h2] at g1
 have : j = i' := Option.some.inj g1
 omega
theorem Az1 {A : List Int} {off : Nat} {c : Cel} (h : (Bg A off)[0]? = some c) : c.from_ = off := by
 obtain ⟨i, j, h1, h2, h3, h4, h5, h6, _⟩ := (Ig h).ex
 rw [Ag0] at h1
 have : 0 = i := Option.some.inj h1
 omega
theorem Bj4 {A : List Int} {off m : Nat} {c : Cel} (h : (Bg A off)[m]? = some c) (hm : m + 1 = (Bg A off).length) : c.to_ = off + A.length := by
 obtain ⟨i, j, h1, h2, h3, h4, h5, h6, _⟩ := (Ig h).ex
 have := Lj A
 rw [Js] at hm
 have e : m + 1 = (cuts A).length - 1 := hm
 rw [e, Bi9] at h2
 have : A.length = j := Option.some.inj h2
 omega
theorem Gx (A : List Int) (off : Nat) : (Bg A off).length <= A.length := by
 rw [Js]
 have := Xf A A.length
 unfold cuts; omega
def Ef (C : List Cel) (at_ : Int) : Nat := C.findIdx λ c => decide (at_ < (c.to_ : Int))
theorem Ql (C : List Cel) (at_ : Int) : Ef C at_ <= C.length := List.findIdx_le_length
theorem Uz {C : List Cel} {at_ : Int} {i : Nat} (hi : i <= C.length) (h1 : ∀ (j : Nat) (c : Cel), j < i -> C[j]? = some c -> (c.to_ : Int) <= at_) (h2 : ∀ c, C[i]? = some c -> at_ < (c.to_ : Int)) : Ef C at_ = i := by
 unfold Ef
 by_cases he : i = C.length
 ·subst he
  rw [List.findIdx_eq_length]
  intro c hc
  obtain ⟨j, hj⟩ := List.getElem?_of_mem hc
  have := h1 j c (List.getElem?_eq_some_iff.1 hj).1 hj
  rw [decide_eq_false_iff_not]; omega
 ·have hlt : i < C.length := by omega
  rw [List.findIdx_eq hlt]
  refine ⟨decide_eq_true (h2 _ (List.getElem?_eq_getElem hlt)), λ j hj => ?_⟩
  have := h1 j _ hj (List.getElem?_eq_getElem (by omega))
  rw [decide_eq_false_iff_not]; omega
theorem Ua {C : List Cel} {at_ : Int} : (∀ (j : Nat) (c : Cel), j < Ef C at_ -> C[j]? = some c -> (c.to_ : Int) <= at_) /\ (∀ c, C[Ef C at_]? = some c -> at_ < (c.to_ : Int)) := by
 constructor
 ·intro j c hj hc
  have := List.not_of_lt_findIdx hj
  obtain ⟨h, rfl⟩ := List.getElem?_eq_some_iff.1 hc
  simpa using this
 ·intro c hc
  obtain ⟨h, rfl⟩ := List.getElem?_eq_some_iff.1 hc
  have := List.findIdx_getElem (w := h)
  exact of_decide_eq_true this
def Io (C : List Cel) (want other : Int) : List Nat -> Nat -> Nat -> Option Nat
 | [], _, _ => none
 | i :: r, k, d => match C[i]? with
  | none => none
  | some c => if c.is other then Io C want other r k (d + 1) else if c.is want = false then Io C want other r k d else if 0 < d then Io C want other r k (d - 1) else if k = 1 then some i else Io C want other r (k - 1) d
def Gf (up : Bool) (n : Nat) (i : Int) : List Nat := if up then List.range' i.toNat (n - i.toNat) else (List.range (i + 1).toNat).reverse
theorem Bk8 {n i : Nat} (h : i < n) : Gf true n (i : Int) = i :: Gf true n ((i : Int) + 1) := by
 unfold Gf
 rw [if_pos rfl, if_pos rfl, Int.toNat_natCast]
 have e : n - i = (n - ((i : Int) + 1).toNat) + 1 := by omega
 rw [e, List.range'_succ]
 have e2 : ((i : Int) + 1).toNat = i + 1 := by omega
 rw [e2]
theorem At9 {n i : Nat} : Gf false n (i : Int) = i :: Gf false n ((i : Int) - 1) := by
 unfold Gf
 rw [if_neg (by decide), if_neg (by decide)]
 have e : ((i : Int) + 1).toNat = i + 1 := by omega
 have e2 : ((i : Int) - 1 + 1).toNat = i := by omega
 rw [e, e2, List.range_succ, List.reverse_append]
 rfl
theorem Be7 (up : Bool) {n : Nat} {i : Int} (h : ¬ (0 <= i /\ i < n)) (h1 : -1 <= i) (h2 : up = true -> 0 <= i) (h3 : up = false -> i < n) : Gf up n i = [] := by
 unfold Gf
 cases up with
 | true =>
  rw [if_pos rfl]
  have := h2 rfl
  have e : n - i.toNat = 0 := by omega
  rw [e]; rfl
 | false =>
  rw [if_neg (by decide)]
  have := h3 rfl
  have e : (i + 1).toNat = 0 := by omega
  rw [e]; rfl
theorem Qe {C : List Cel} {want other : Int} : ∀ {L : List Nat} {k d j : Nat}, Io C want other L k d = some j -> j ∈ L /\ ∃ c, C[j]? = some c /\ c.is want = true
 | [], _, _, _, h => by simp [Io] at h
 | i :: r, k, d, j, h => by
  rw [Io] at h
  cases hc : C[i]? with
  | none => rw [hc] at h; simp at h
  | some c =>
   rw [hc] at h
   simp only at h
   split at h
   ·have := Qe h; exact ⟨List.mem_cons_of_mem _ this.1, this.2⟩
   ·split at h
    ·have := Qe h; exact ⟨List.mem_cons_of_mem _ this.1, this.2⟩
    ·rename_i hw
     split at h
     ·have := Qe h; exact ⟨List.mem_cons_of_mem _ this.1, this.2⟩
     ·split at h
      ·cases h; exact ⟨List.mem_cons_self, c, hc, by simpa using hw⟩
      ·have := Qe h; exact ⟨List.mem_cons_of_mem _ this.1, this.2⟩
def fellow (a : Int) : Option Int := if a = 40 then some 41 else if a = 91 then some 93 else if a = 123 then some 125 else if a = 60 then some 62 else none
def times (count : Int) : Nat := (max count 1).toNat
def checked (n : Nat) (at_ kind count lo hi : Int) : Int := if kind < lo \/ hi < kind \/ count < 0 then 1 else if at_ < 0 \/ (n : Int) < at_ then 2 else 0
def Tz (A : List Int) (one two : Cel) : Int × Int × Int :=
 let a := (Eb A (nb A one.from_)).getD ⟨0, 0, 0, 0⟩
 let b := (Eb A (nb A two.from_)).getD ⟨0, 0, 0, 0⟩
 if a.to_ ≠ one.to_ \/ a = b then (one.to_, two.from_, 0)
 else if (Bg ((A.drop b.from_).take (two.from_ - b.from_)) b.from_).any (λ c => c.kind != 0) then (one.to_, two.from_, 0)
 else if a.next = b.from_ then (one.to_, one.to_, 0) else (a.next, b.from_, 1)
def pick (C : List Cel) : Option Nat -> Option Nat -> Option (Cel × Cel)
 | some one, some two => match C[one]?, C[two]? with
  | some c, some d => some (c, d)
  | _, _ => none
 | _, _ => none
def Ve (C : List Cel) (at_ : Int) (arg shut : Int) (k : Nat) : Option (Cel × Cel) :=
 let i := Ef C at_
 if i = C.length \/ C.length < k then none else
  let hit := (C[i]?.map λ c => c.is arg).getD false
  pick C (Io C arg shut (Gf false C.length (if hit then (i : Int) else (i : Int) - 1)) k 0) (Io C shut arg (Gf true C.length (if hit then (i : Int) + 1 else (i : Int))) k 0)
def La (A : List Int) (at_ kind count arg : Int) : (Int × Int × Int) × Int :=
 if checked A.length at_ kind count 67 68 = 1 then ((0, 0, 0), 1) else
 match fellow arg with
 | none => ((0, 0, 0), 1)
 | some shut =>
  if checked A.length at_ kind count 67 68 ≠ 0 then ((0, 0, 0), checked A.length at_ kind count 67 68) else
  match Ve (Bg A 0) at_ arg shut (times count) with
  | none => ((0, 0, 0), 90)
  | some (c, d) => if kind = 67 then (Tz A c d, 0) else ((c.from_, d.to_, 0), 0)
end Obx
end Go.Proofs.YtabcpghhfeplaaaGreat
namespace Go.Proofs.YtabcpghhfeplaaaGreat
open Go Go.Vx
def F68 (a0 : Sl) (K : Sl -> Wp) : Wp := Af (.cells #[(vI 0)] 3) λ b1 => Af (.cells #[(.slice none 0 0)] 26) λ b2 => stC (at0 b2) (.slice (some (at0 b1)) 1 1) <| Ac Tryz.prog 93 #[a0.v, (vI 0), (.func (Fn.func 94) #[] #[(.pointer (some (at0 b2)))])] (.tup []) λ (x3 : (Unit)) => ld (.sl) (at0 b2) λ (x4 : Sl) => K x4
def h68 : Hint := (hS (hR 1) (hS (hR 3) (hS (hR 3) (hS (hR 2) hL))))
theorem A68 {a0 : Sl} {K : Sl -> Wp} {w : World} (h : F68 a0 K w) : Ac Tryz.prog 68 #[a0.v] rS K w := tied Ai Tryz.func68 h68 _ h
def F69 (a0 : Int) (K : Int -> Wp) : Wp := cB 95 #[(vI a0)] λ x1 => sif (!x1) ( K 1) ( cN 96 #[(.string Ov), (vI a0)] λ x2 => sif (x2 == 2) ( K 2) ( sif (x2 == 1) ( K 0) ( K 1)))
def h69 : Hint := (hS (hR 1) (hS (hS (hR 3) (hC (hS (hR 1) hL) hL)) (hS (hS (hR 2) (.block (hS (hR 2) (hC (hS (hR 1) hL) (hS (hR 2) (hC (hS (hR 1) hL) hL)))))) (hS (hR 1) hL))))
theorem A69 {a0 : Int} {K : Int -> Wp} {w : World} (h : F69 a0 K w) : Ac Tryz.prog 69 #[(vI a0)] rI K w := tied Ai Tryz.func69 h69 _ h
def F93 (a0 : Sl) (a1 : Int) (a2 : Value) (K : Unit -> Wp) : Wp := sI (λ s1 again2 => sif (decide (s1.1 < ((a0.len : Nat) : Int))) ( ixI a0 s1.1 1 λ x4 => Ac Tryz.prog 121 #[(vI x4)] (.one (.agg Aa8)) λ (x5 : I4) => Af (.cells #[(vI 0), (vI 0), (vI 0), (vI 0)] 169) λ b6 => Ad (at0 b6) (vA Aa8 x5) 4 <| jU (λ J7 => sI (λ s9 again10 => sif (decide (s9.1 < ((a0.len : Nat) : Int))) ( ixI a0 s9.1 1 λ x12 => cB 122 #[(.pointer (some (at0 b6))), (vI x12)] λ x13 => sif x13 ( again10 ((W64 (s9.1 + 1)), ())) ( Bf Tryz.prog (do let d ← Deferred.ofValue a2 #[(vI s9.1)]; invoke d.target d.args : Sem Next) rB λ (x14 : Bool) => sif (!x14) ( K ()) ( again2 (s9.1, ())))) ( J7 ())) ((W64 (s1.1 + 1)), ())) λ s8 => Bf Tryz.prog (do let d ← Deferred.ofValue a2 #[(vI ((a0.len : Nat) : Int))]; invoke d.target d.args : Sem Next) rB λ (x15 : Bool) => K ()) ( K ())) (a1, ())
def h93 : Hint := (.scope (hS (hR 2) (hS hL (.block (.loop 0x1fffffffdc0 [(6, tI)] (hS (hS (hR 4) (hC hL hL)) (.block (hS (hR 7) (hJ (0x1ffff80140, []) (hS (hR 3) (.block (.loop 0x1fffe00140 [(8, tI)] (hS (hS (hR 4) (hC hL hL)) (hS (.block (hS (hS (hR 5) (hC hL hL)) (hS (hS (hR 4) (hC hL hL)) (hS (hR 2) hL)))) (hR 3)))))) (hS (hR 4) hL))))))))))
theorem A93 {a0 : Sl} {a1 : Int} {a2 : Value} {K : Unit -> Wp} {w : World} (h : F93 a0 a1 a2 K w) : Ac Tryz.prog 93 #[a0.v, (vI a1), a2] (.tup []) K w := tied Ai Tryz.func93 h93 _ h
def F94 (a0 : Int) (v0 : Addr) (K : Bool -> Wp) : Wp := ld (.sl) v0 λ (x1 : Sl) => Af (.cells #[(vI a0)] 3) λ b2 => Df Tryz.prog rS (Builtin.append_ #[26, 26] 26 #[x1.v, (.slice (some (at0 b2)) 1 1)]) λ (x3 : Sl) => stC v0 x3.v <| K true
def h94 : Hint := (hS (hR 1) (hS (hR 5) (hS (hR 1) hL)))
theorem A94 {a0 : Int} {v0 : Addr} {K : Bool -> Wp} {w : World} (h : F94 a0 v0 K w) : Ac Tryz.prog 94 #[(vI a0), (.pointer (some v0))] rB K w := tied Ai Tryz.func94 h94 _ h
def F95 (a0 : Int) (K : Bool -> Wp) : Wp := sif (decide (a0 >= 0)) ( sif (decide (a0 < 55296)) ( K true) ( sif (decide (a0 > 57343)) ( K (decide (a0 <= 1114111))) ( K false))) ( sif (decide (a0 > 57343)) ( K (decide (a0 <= 1114111))) ( K false))
def h95 : Hint := (hS (hR 1) (hS (.region [] (.ops 3 (.split 5 (.ops 4 (.split 9 (.skips 6 (hO 2)) (.ops 3 (.split 12 (hO 5) (.skips 2 (hO 3)))))) (.skips 2 (.ops 5 (.split 12 (hO 5) (.skips 2 (hO 3)))))))) hL))
theorem A95 {a0 : Int} {K : Bool -> Wp} {w : World} (h : F95 a0 K w) : Ac Tryz.prog 95 #[(vI a0)] rB K w := tied Ai Tryz.func95 h95 _ h
def F96 (a0 : ByteArray) (a1 : Int) (K : Int -> Wp) : Wp := chk ((11 : Int) ≠ 0) <| jU (λ J1 => sN (λ s3 again4 => sif (decide (s3.1 < s3.2.1)) ( chk ((2 : Int) ≠ 0) <| chk (0 <= (W64 ((W64 (Int.tdiv (W64 (s3.1 + s3.2.1)) 2)) * 11)) /\ (W64 ((W64 (Int.tdiv (W64 (s3.1 + s3.2.1)) 2)) * 11)) <= (W64 ((W64 ((W64 (Int.tdiv (W64 (s3.1 + s3.2.1)) 2)) + 1)) * 11)) /\ (W64 ((W64 ((W64 (Int.tdiv (W64 (s3.1 + s3.2.1)) 2)) + 1)) * 11)) <= ((a0.size : Nat) : Int)) <| chk (0 <= (0 : Int) /\ (0 : Int) <= 5 /\ 5 <= (((a0.extract (Int.toNat (W64 ((W64 (Int.tdiv (W64 (s3.1 + s3.2.1)) 2)) * 11))) (Int.toNat (W64 ((W64 ((W64 (Int.tdiv (W64 (s3.1 + s3.2.1)) 2)) + 1)) * 11)))).size : Nat) : Int)) <| cN 123 #[(.string ((a0.extract (Int.toNat (W64 ((W64 (Int.tdiv (W64 (s3.1 + s3.2.1)) 2)) * 11))) (Int.toNat (W64 ((W64 ((W64 (Int.tdiv (W64 (s3.1 + s3.2.1)) 2)) + 1)) * 11)))).extract (Int.toNat 0) (Int.toNat 5)))] λ x5 => sif (decide (a1 < x5)) ( again4 (s3.1, (W64 (Int.tdiv (W64 (s3.1 + s3.2.1)) 2)), ())) ( chk (0 <= (5 : Int) /\ (5 : Int) <= 10 /\ 10 <= (((a0.extract (Int.toNat (W64 ((W64 (Int.tdiv (W64 (s3.1 + s3.2.1)) 2)) * 11))) (Int.toNat (W64 ((W64 ((W64 (Int.tdiv (W64 (s3.1 + s3.2.1)) 2)) + 1)) * 11)))).size : Nat) : Int)) <| cN 123 #[(.string ((a0.extract (Int.toNat (W64 ((W64 (Int.tdiv (W64 (s3.1 + s3.2.1)) 2)) * 11))) (Int.toNat (W64 ((W64 ((W64 (Int.tdiv (W64 (s3.1 + s3.2.1)) 2)) + 1)) * 11)))).extract (Int.toNat 5) (Int.toNat 10)))] λ x6 => sif (decide (a1 > x6)) ( again4 ((W64 ((W64 (Int.tdiv (W64 (s3.1 + s3.2.1)) 2)) + 1)), s3.2.1, ())) ( chk (0 <= (10 : Int) /\ 10 <= (((a0.extract (Int.toNat (W64 ((W64 (Int.tdiv (W64 (s3.1 + s3.2.1)) 2)) * 11))) (Int.toNat (W64 ((W64 ((W64 (Int.tdiv (W64 (s3.1 + s3.2.1)) 2)) + 1)) * 11)))).size : Nat) : Int) /\ (((a0.extract (Int.toNat (W64 ((W64 (Int.tdiv (W64 (s3.1 + s3.2.1)) 2)) * 11))) (Int.toNat (W64 ((W64 ((W64 (Int.tdiv (W64 (s3.1 + s3.2.1)) 2)) + 1)) * 11)))).size : Nat) : Int) <= (((a0.extract (Int.toNat (W64 ((W64 (Int.tdiv (W64 (s3.1 + s3.2.1)) 2)) * 11))) (Int.toNat (W64 ((W64 ((W64 (Int.tdiv (W64 (s3.1 + s3.2.1)) 2)) + 1)) * 11)))).size : Nat) : Int)) <| cN 123 #[(.string ((a0.extract (Int.toNat (W64 ((W64 (Int.tdiv (W64 (s3.1 + s3.2.1)) 2)) * 11))) (Int.toNat (W64 ((W64 ((W64 (Int.tdiv (W64 (s3.1 + s3.2.1)) 2)) + 1)) * 11)))).extract (Int.toNat 10) (Int.toNat (((a0.extract (Int.toNat (W64 ((W64 (Int.tdiv (W64 (s3.1 + s3.2.1)) 2)) * 11))) (Int.toNat (W64 ((W64 ((W64 (Int.tdiv (W64 (s3.1 + s3.2.1)) 2)) + 1)) * 11)))).size : Nat) : Int))))] λ x7 => K x7))) ( J1 ())) (0, (W64 (Int.tdiv ((ByteArray.size a0 : Nat) : Int) 11)), ())) λ s2 => K 0
def h96 : Hint := (hS (hR 1) (hS (hR 5) (hJ (0xffffffff1f0, []) (.block (.loop 0xffffffff1f0 [(5, tI), (6, tI)] (hS (hS (hR 3) (hC hL hL)) (.block (hS (hR 5) (hS (hR 8) (.block (hS (hR 6) (hC (hR 2) (hS (hR 6) (hC (hR 3) (hS (hR 4) hL)))))))))))) (hS (hR 1) hL))))
theorem A96 {a0 : ByteArray} {a1 : Int} {K : Int -> Wp} {w : World} (h : F96 a0 a1 K w) : Ac Tryz.prog 96 #[(.string a0), (vI a1)] rI K w := tied Ai Tryz.func96 h96 _ h
def F121 (a0 : Int) (K : I4 -> Wp) : Wp := Af (.cells #[(vI 0), (vI 0), (vI 0), (vI 0)] 169) λ b1 => Af (.cells #[(vI 0), (vI 0), (vI 0), (vI 0)] 169) λ b2 => cN 124 #[(vI a0)] λ x3 => cN 147 #[(vI a0)] λ x4 => Ac Tryz.prog 146 #[(.pointer (some (at0 b2))), (vI x3), (vI x4)] (.tup []) λ (x5 : (Unit)) => lds Aa8 (at0 b2) λ (x6 : I4) => Ad (at0 b1) (vA Aa8 x6) 4 <| lds Aa8 (at0 b1) λ (x7 : I4) => K x7
def Cn1 : Hint := (hS (hR 1) (hS (hR 1) (hS (hR 5) (hS (hR 2) hL))))
theorem Cy4 {a0 : Int} {K : I4 -> Wp} {w : World} (h : F121 a0 K w) : Ac Tryz.prog 121 #[(vI a0)] (.one (.agg Aa8)) K w := tied Ai Tryz.func121 Cn1 _ h
def F122 (a0 : Option Addr) (a1 : Int) (K : Bool -> Wp) : Wp := cN 124 #[(vI a1)] λ x1 => cN 147 #[(vI a1)] λ x2 => jB (λ J3 => jB (λ J5 => nn a0 λ p7 => lI p7 λ x8 => sif (x8 == 1) ( J5 ((x1 == 2), ())) ( J5 (false, ()))) λ s6 => sif s6.1 ( J3 (true, ())) ( jB (λ J9 => nn a0 λ p11 => lI p11 λ x12 => cB 125 #[(vI x12)] λ x13 => sif x13 ( J9 (x13, ())) ( cB 125 #[(vI x1)] λ x14 => J9 (x14, ()))) λ s10 => sif s10.1 ( J3 (false, ())) ( jB (λ J15 => sif (x1 == 4) ( J15 ((x1 == 4), ())) ( sif (x1 == 5) ( J15 ((x1 == 5), ())) ( sif (x1 == 8) ( J15 ((x1 == 8), ())) ( nn a0 λ p17 => lI p17 λ x18 => J15 ((x18 == 7), ()))))) λ s16 => sif s16.1 ( J3 (true, ())) ( nn a0 λ p19 => lI p19 λ x20 => cB 148 #[(vI x20), (vI x1)] λ x21 => sif x21 ( J3 (true, ())) ( jB (λ J22 => sif (x2 == 1) ( nn a0 λ p24 => ld cI (p24.add 3) λ (x25 : Int) => J22 ((x25 == 2), ())) ( J22 (false, ()))) λ s23 => sif s23.1 ( J3 (true, ())) ( sif (x1 == 14) ( nn a0 λ p26 => ld cI (p26.add 2) λ (x27 : Int) => J3 ((x27 == 2), ())) ( sif (x1 == 6) ( nn a0 λ p28 => ld cI (p28.add 1) λ (x29 : Int) => chk ((2 : Int) ≠ 0) <| J3 (((Int.tmod x29 2) == 1), ())) ( J3 (false, ()))))))))) λ s4 => jU (λ J30 => sif s4.1 ( Ac Tryz.prog 146 #[(.pointer a0), (vI x1), (vI x2)] (.tup []) λ (x32 : (Unit)) => J30 ()) ( J30 ())) λ s31 => K s4.1
def h122 : Hint := (hS (hR 1) (hS (hR 6) (hS (hR 1) (hJ (0xffffffffffffffff080, [(7, tB)]) (.block (hJ (4190208, [(12, tB)]) (.region [] (.ops 6 (.split 18 (hO 4) (.skips 2 (hO 2))))) (hC (hR 1) (hJ (0x3fc00000, [(22, tB)]) (hS (hR 6) (hC hL (hR 3))) (hC hL (hJ (0x3ffc0000000, [(30, tB)]) (hS (hR 3) (hC hL (hS (hR 3) (hC hL (hS (hR 3) (hC hL (hR 6))))))) (hC (hR 1) (hS (hR 7) (hC (hR 1) (hJ ((mR [(49, 59)]), [(49, tB)]) (.region [] (.ops 3 (.split 52 (hO 7) (.skips 5 (hO 2))))) (hC (hR 1) (hS (hR 3) (hC (hR 6) (hS (hR 3) (hC (hR 7) hL))))))))))))))) (hJ ((mR [(76, 81)]), []) (hS (hR 1) (hC (hR 4) hL)) (hS (hR 2) hL))))))
theorem Cy3 {a0 : Option Addr} {a1 : Int} {K : Bool -> Wp} {w : World} (h : F122 a0 a1 K w) : Ac Tryz.prog 122 #[(.pointer a0), (vI a1)] rB K w := tied Ai Tryz.func122 h122 _ h
def F123 (a0 : ByteArray) (K : Int -> Wp) : Wp := jI (λ J1 => Df Tryz.prog rP (Instr.range 9 (.string a0)) λ (x3 : Option Addr) => sI (λ s4 again5 => Bx5 Tryz.prog (Instr.next (.pointer x3) true 0) (λ p6 c7 => sif true ( jI (λ J8 => sif (decide (c7 > 57)) ( J8 ((W64 ((W64 (IntKind.wrap .i32 (c7 - 65))) + 10)), ())) ( J8 ((W64 (IntKind.wrap .i32 (c7 - 48))), ()))) λ s9 => again5 ((W64 ((W64 (s4.1 * 16)) + s9.1)), ())) ( J1 (s4.1, ()))) ( sif false ( λ _ => False) ( J1 (s4.1, ())))) (0, ())) λ s2 => K s2.1
def Cn0 : Hint := (hS (hR 1) (hS (hR 1) (hJ (33554408, [(3, tI)]) (hS (hR 2) (.block (.loop 33554024 [(3, tI)] (hS (hR 2) (hS (hC hL hL) (.block (hS (hR 2) (hS (hR 4) (hJ (2064448, [(6, tI)]) (hS (hR 2) (hC (hR 5) hL)) (hR 5)))))))))) (hS (hR 2) hL))))
theorem Cy2 {a0 : ByteArray} {K : Int -> Wp} {w : World} (h : F123 a0 K w) : Ac Tryz.prog 123 #[(.string a0)] rI K w := tied Ai Tryz.func123 Cn0 _ h
def F124 (a0 : Int) (K : Int -> Wp) : Wp := cB 95 #[(vI a0)] λ x1 => sif (!x1) ( K 3) ( jB (λ J2 => sif (decide ((W64 (a0 - 44032)) >= 0)) ( J2 ((decide ((W64 (a0 - 44032)) < 11172)), ())) ( J2 (false, ()))) λ s3 => sif s3.1 ( chk ((28 : Int) ≠ 0) <| sif ((Int.tmod (W64 (a0 - 44032)) 28) == 0) ( K 12) ( K 13)) ( cN 96 #[(.string Ox), (vI a0)] λ x4 => K x4))
def Cm9 : Hint := (hS (hR 1) (hS (hS (hR 3) (hC (hS (hR 1) hL) hL)) (hS (hS (hR 3) (hJ (32256, [(14, tB)]) (.region [] (.ops 3 (.split 11 (hO 3) (.skips 2 (hO 1))))) (hC (hS (hS (hR 3) (hC (hS (hR 1) hL) hL)) (hS (hR 1) hL)) hL))) (hS (hR 3) hL))))
theorem Cy1 {a0 : Int} {K : Int -> Wp} {w : World} (h : F124 a0 K w) : Ac Tryz.prog 124 #[(vI a0)] rI K w := tied Ai Tryz.func124 Cm9 _ h
def F125 (a0 : Int) (K : Bool -> Wp) : Wp := sif (a0 == 1) ( K true) ( sif (a0 == 2) ( K true) ( K (a0 == 3)))
def Cm8 : Hint := (hS (hR 1) (hS (.region [] (.ops 3 (.split 5 (.skips 2 (.ops 2 (.skips 2 (hO 2)))) (.ops 4 (.split 9 (.skips 2 (hO 2)) (hO 4)))))) hL))
theorem Cy0 {a0 : Int} {K : Bool -> Wp} {w : World} (h : F125 a0 K w) : Ac Tryz.prog 125 #[(vI a0)] rB K w := tied Ai Tryz.func125 Cm8 _ h
def F146 (a0 : Option Addr) (a1 : Int) (a2 : Int) (K : Unit -> Wp) : Wp := nn a0 λ p1 => stC p1 (vI a1) <| jU (λ J2 => sif (a1 == 6) ( nn a0 λ p4 => ld cI (p4.add 1) λ (x5 : Int) => nn a0 λ p6 => stC (p6.add 1) (vI (W64 (x5 + 1))) <| J2 ()) ( nn a0 λ p7 => stC (p7.add 1) (vI 0) <| J2 ())) λ s3 => jU (λ J8 => sif (a1 == 14) ( nn a0 λ p10 => stC (p10.add 2) (vI 1) <| J8 ()) ( jB (λ J11 => nn a0 λ p13 => ld cI (p13.add 2) λ (x14 : Int) => sif (x14 == 1) ( J11 ((a1 == 5), ())) ( J11 (false, ()))) λ s12 => sif s12.1 ( nn a0 λ p15 => stC (p15.add 2) (vI 2) <| J8 ()) ( jB (λ J16 => nn a0 λ p18 => ld cI (p18.add 2) λ (x19 : Int) => sif (x19 == 1) ( J16 ((a1 == 4), ())) ( J16 (false, ()))) λ s17 => sif s17.1 ( J8 ()) ( nn a0 λ p20 => stC (p20.add 2) (vI 0) <| J8 ())))) λ s9 => sif (a2 == 1) ( nn a0 λ p21 => stC (p21.add 3) (vI 1) <| K ()) ( jB (λ J22 => nn a0 λ p24 => ld cI (p24.add 3) λ (x25 : Int) => sif (decide (x25 > 0)) ( J22 ((a2 == 3), ())) ( J22 (false, ()))) λ s23 => sif s23.1 ( nn a0 λ p26 => stC (p26.add 3) (vI 2) <| K ()) ( jB (λ J27 => nn a0 λ p29 => ld cI (p29.add 3) λ (x30 : Int) => sif (decide (x30 > 0)) ( J27 ((a2 == 2), ())) ( J27 (false, ()))) λ s28 => sif s28.1 ( K ()) ( nn a0 λ p31 => stC (p31.add 3) (vI 0) <| K ())))
def Ck9 : Hint := (hS (hR 5) (hJ (4193280, []) (hS (hR 2) (hC (hR 8) (hR 4))) (hJ ((mR [(22, 54)]), []) (.block (hS (hR 3) (hC (hR 4) (hJ (0x1ff80000000, [(31, tB)]) (.region [] (.ops 6 (.split 37 (hO 4) (.skips 2 (hO 2))))) (hC (hR 4) (hJ ((mR [(44, 54)]), [(44, tB)]) (.region [] (.ops 6 (.split 50 (hO 4) (.skips 2 (hO 2))))) (hC hL (hR 4)))))))) (.block (hS (hR 3) (hC (hR 4) (hJ ((mR [(63, 73)]), [(63, tB)]) (.region [] (.ops 6 (.split 69 (hO 4) (.skips 2 (hO 2))))) (hC (hR 4) (hJ ((mR [(76, 86)]), [(76, tB)]) (.region [] (.ops 6 (.split 82 (hO 4) (.skips 2 (hO 2))))) (hC hL (hR 4)))))))))))
theorem Cw0 {a0 : Option Addr} {a1 : Int} {a2 : Int} {K : Unit -> Wp} {w : World} (h : F146 a0 a1 a2 K w) : Ac Tryz.prog 146 #[(.pointer a0), (vI a1), (vI a2)] (.tup []) K w := tied Ai Tryz.func146 Ck9 _ h
def F147 (a0 : Int) (K : Int -> Wp) : Wp := jB (λ J1 => sif (a0 == 2381) ( J1 ((a0 == 2381), ())) ( sif (a0 == 2509) ( J1 ((a0 == 2509), ())) ( sif (a0 == 2765) ( J1 ((a0 == 2765), ())) ( sif (a0 == 2893) ( J1 ((a0 == 2893), ())) ( sif (a0 == 3149) ( J1 ((a0 == 3149), ())) ( J1 ((a0 == 3405), ()))))))) λ s2 => sif s2.1 ( K 3) ( sif (a0 == 8204) ( K 0) ( jU (λ J3 => cN 124 #[(vI a0)] λ x5 => jB (λ J6 => sif (x5 == 4) ( J6 ((x5 == 4), ())) ( J6 ((x5 == 5), ()))) λ s7 => sif s7.1 ( K 2) ( sif (x5 == 0) ( cB 95 #[(vI a0)] λ x8 => sif x8 ( cN 96 #[(.string Oy), (vI a0)] λ x9 => K x9) ( J3 ())) ( J3 ()))) λ s4 => K 0))
def Ck8 : Hint := (hS (hR 1) (hS (hS (hR 1) (.block (hJ (2032, [(4, tB)]) (hS (hR 2) (hC hL (hS (hR 2) (hC hL (hS (hR 2) (hC hL (hS (hR 2) (hC hL (hS (hR 2) (hC hL (hR 2))))))))))) (hC (hS (hR 1) hL) (hS (hR 2) (hC (hS (hR 1) hL) hL)))))) (hJ (0xffe004, []) (hS (hR 2) (.block (hJ (229376, [(15, tB)]) (hS (hR 2) (hC hL (hR 2))) (hC (hS (hR 1) hL) (hS (hR 2) (hC (hS (hR 2) (hC (hS (hR 3) hL) hL)) hL)))))) (hS (hR 1) hL))))
theorem Cv9 {a0 : Int} {K : Int -> Wp} {w : World} (h : F147 a0 K w) : Ac Tryz.prog 147 #[(vI a0)] rI K w := tied Ai Tryz.func147 Ck8 _ h
def F148 (a0 : Int) (a1 : Int) (K : Bool -> Wp) : Wp := jU (λ J1 => jB (λ J3 => sif (a1 == 9) ( J3 ((a1 == 9), ())) ( sif (a1 == 12) ( J3 ((a1 == 12), ())) ( J3 ((a1 == 13), ())))) λ s4 => sif s4.1 ( K (a0 == 9)) ( sif (a1 == 10) ( sif (a0 == 9) ( K true) ( J1 ())) ( sif (a1 == 11) ( J1 ()) ( K false)))) λ s2 => jB (λ J5 => sif (a0 == 12) ( J5 (true, ())) ( J5 ((a0 == 10), ()))) λ s6 => sif s6.1 ( K true) ( sif (a1 == 11) ( sif (a0 == 13) ( K true) ( K (a0 == 11))) ( K false))
def Ck7 : Hint := (hS (hR 1) (hS (hS (hR 1) (.block (hJ (262096, []) (.block (hS (.block (hS (.block (hS (hS (hJ (960, [(6, tB)]) (hS (hR 2) (hC hL (hS (hR 2) (hC hL (hR 2))))) (hC hL hL)) (hS (hS (hR 2) (hC hL hL)) (hS (hR 2) (hC hL hL)))) hL)) (hS (hS (hR 3) hL) hL))) (hS (hR 2) (hC (hS (hR 1) hL) hL)))) (hS (hS (hJ (0xfc0000, [(23, tB)]) (.region [] (.ops 3 (.split 20 (.skips 2 (hO 1)) (hO 3)))) (hC (hS (hR 1) hL) hL)) (hS (.region [] (.ops 3 (.split 26 (.ops 3 (.split 29 (.skips 2 (hO 3)) (hO 5))) (.skips 6 (hO 2))))) hL)) hL)))) (hS (hR 1) hL)))
theorem Cv8 {a0 : Int} {a1 : Int} {K : Bool -> Wp} {w : World} (h : F148 a0 a1 K w) : Ac Tryz.prog 148 #[(vI a0), (vI a1)] rB K w := tied Ai Tryz.func148 Ck7 _ h
end Go.Proofs.YtabcpghhfeplaaaGreat
namespace Go.Proofs.YtabcpghhfeplaaaGreat
open Go Go.Vx Cdc Gly
section
variable {w w' : World}
theorem wrap32 {a : Int} (h0 : -(2 ^ 31) <= a) (h : a < 2 ^ 31) : IntKind.wrap .i32 a = a := by
 simp only [IntKind.wrap, IntKind.signed, IntKind.bits]
 simp [Int.bmod_def]; omega
theorem Qx {a : Int} {K : Bool -> Wp} (hK : K (decide (Scalar a)) w) : Ac Tryz.prog 95 #[.int .i64 a] rB K w := by
 refine A95 ?_
 unfold F95
 have h1 : Scalar a -> K true w := λ h => by rwa [decide_eq_true h] at hK
 have h2 : ¬ Scalar a -> K false w := λ h => by rwa [decide_eq_false h] at hK
 unfold Scalar at h1 h2
 refine Aa (λ h => Aa (λ h' => ?_) (λ h' => Aa (λ h'' => ?_) (λ h'' => ?_))) (λ h => Aa (λ h'' => ?_) (λ h'' => ?_))
 all_goals simp only [decide_eq_true_eq, decide_eq_false_iff_not, gt_iff_lt, ge_iff_le] at *
 ·exact h1 (by omega)
 ·by_cases hc : a <= 1114111
  ·rw [decide_eq_true hc]; exact h1 (by omega)
  ·rw [decide_eq_false hc]; exact h2 (by omega)
 ·exact h2 (by omega)
 ·by_cases hc : a <= 1114111
  ·rw [decide_eq_true hc]; exact h1 (by omega)
  ·rw [decide_eq_false hc]; exact h2 (by omega)
 ·exact h2 (by omega)
theorem Bo7 (w : World) (s : ByteArray) (pos : Nat) : Ext w (w.iter s pos) := Ext.alloc w _
theorem Bn4 (l : Bs) (c : UInt8) : num (l ++ [c]) = num l * 16 + digit c := by simp [num]
theorem Tn {d : ByteArray} (h : d.data.toList.all okC = true) (hs : d.size <= 5) {K : Int -> Wp} (hK : ∀ w', Ext w w' -> K ((num d.data.toList : Nat) : Int) w') :
  Ac Tryz.prog 123 #[.string d] rI K w := by
 refine Cy2 ?_
 unfold F123
 have hl : d.data.toList.length = d.size := Array.length_toList
 refine Ae (λ x w' => x = (((num d.data.toList : Nat) : Int), ()) /\ Ext w w') ?_ (λ x w' h => by obtain ⟨rfl, h⟩ := h; exact hK w' h)
 refine ⟨some (at0 w.heap.size), w.iter d 0, run_range_string w 9 d C9.und, ?_⟩
 refine Am (λ x W => ∃ j, j <= d.size /\ x = (((num (d.data.toList.take j) : Nat) : Int), ()) /\ W = w.iter d j) (λ _ W => match W.heap[w.heap.size]? with | some (.stringIter _ pos) => d.size - pos | _ => 0) ⟨0, Nat.zero_le _, rfl, rfl⟩ ?_
 rintro _ W ⟨j, hj, rfl, rfl⟩
 by_cases hlt : j < d.size
 ·have hc : d.data.toList[j]? = some (d[j]'hlt) := by rw [List.getElem?_eq_getElem (by omega), Array.getElem_toList]; rfl
  have hok : okC (d[j]'hlt) = true := List.all_eq_true.1 h _ (List.mem_of_getElem? hc)
  have hok' := (Bc0 _).1 hok
  refine .inl ⟨_, _, _, run_next_ascii w d j 0 hlt (by omega), ?_⟩
  have hb := Ca0 (d.data.toList.take j) (by rw [List.all_eq_true] at h ⊢; exact λ x hx => h x (List.mem_of_mem_take hx))
  have hb2 : num (d.data.toList.take j) < 16 ^ 4 := Nat.lt_of_lt_of_le hb (Nat.pow_le_pow_right (by decide) (by rw [List.length_take]; omega))
  have hn : num (d.data.toList.take (j + 1)) = num (d.data.toList.take j) * 16 + digit (d[j]'hlt) := by rw [List.take_add_one, hc]; exact Bn4 _ _
  refine Cm (Ae (λ x W => x = (((digit (d[j]'hlt) : Nat) : Int), ()) /\ W = w.iter d (j + 1)) ?_ ?_)
  ·refine Aa (λ hg => ?_) (λ hg => ?_)
   ·simp only [decide_eq_true_eq, gt_iff_lt] at hg
    refine ⟨?_, rfl⟩
    rw [wrap32 (by omega) (by omega), wrap64 (a := ((d[j]'hlt).toNat : Int) - 65) (by omega) (by omega), wrap64 (by omega) (by omega)]
    unfold digit
    rw [if_pos (by omega)]
    congr 1; omega
   ·simp only [decide_eq_false_iff_not, gt_iff_lt] at hg
    refine ⟨?_, rfl⟩
    rw [wrap32 (by omega) (by omega), wrap64 (by omega) (by omega)]
    unfold digit
    rw [if_neg (by omega)]
    congr 1; omega
  ·rintro _ _ ⟨rfl, rfl⟩
   have hd : digit (d[j]'hlt) < 16 := by unfold digit; split <;> omega
   have ew : W64 (W64 (((num (d.data.toList.take j) : Nat) : Int) * 16) + ((digit (d[j]'hlt) : Nat) : Int)) = ((num (d.data.toList.take (j + 1)) : Nat) : Int) := by
    rw [hn, wrap64 (a := ((num (d.data.toList.take j) : Nat) : Int) * 16) (by omega) (by omega), wrap64 (by omega) (by omega)]; omega
   refine ⟨⟨j + 1, hlt, by dsimp only; rw [ew], rfl⟩, ?_⟩
   rw [World.iter_heap, World.iter_heap]
   show d.size - (j + 1) < d.size - j
   omega
 ·refine .inr ⟨_, run_next_end w d j 0 hlt, Au ⟨?_, Bo7 w d j⟩⟩
  rw [List.take_of_length_le (by omega)]
theorem Va (b : ByteArray) (s e : Nat) : (b.extract s e).data.toList = (b.data.toList.drop s).take (e - s) := by
 rw [ByteArray.data_extract, Array.toList_extract]
theorem P9 (b : ByteArray) (s e : Nat) (h : e <= b.size) : (b.extract s e).size = e - s := by
 have : (b.extract s e).data.toList.length = (b.extract s e).size := Array.length_toList
 have hb : b.data.toList.length = b.size := Array.length_toList
 rw [← this, Va, List.length_take, List.length_drop]; omega
theorem Zv {b : ByteArray} (h : b.data.toList.all okC = true) (s e : Nat) : (b.extract s e).data.toList.all okC = true := by
 rw [Va]
 rw [List.all_eq_true] at h ⊢
 exact λ x hx => h x (List.mem_of_mem_drop (List.mem_of_mem_take hx))
theorem Sr {rows : ByteArray} {n a : Nat} (hn : rows.size = 11 * n) (hs : n <= 1000) (hok : rows.data.toList.all okC = true) (hT : srt 0 (Ol n rows.data.toList) = true) {K : Int -> Wp}
  (hK : ∀ w', Ext w w' -> K ((Ip (Ol n rows.data.toList) a : Nat) : Int) w') : Ac Tryz.prog 96 #[.string rows, .int .i64 (a : Int)] rI K w := by
 refine A96 ?_
 unfold F96
 refine Ci (by decide) ?_
 have e0 : W64 (Int.tdiv ((ByteArray.size rows : Nat) : Int) 11) = (n : Int) := by
  rw [hn, Int.tdiv_eq_ediv_of_nonneg (by omega), wrap64 (by omega) (by omega)]; omega
 rw [e0]
 refine Ae (λ _ w' => Ext w w' /\ Ip (Ol n rows.data.toList) a = 0) ?_ (λ _ w' h => by have := hK w' h.1; rwa [h.2] at this)
 refine Am (λ x W => ∃ lo hi : Nat, x = ((lo : Int), (hi : Int), ()) /\ lo <= hi /\ hi <= n /\ Ext w W /\ (∀ (i : Nat) (r : Row), i < lo -> (Ol n rows.data.toList)[i]? = some r -> r.hi < a) /\ (∀ (i : Nat) (r : Row), hi <= i -> (Ol n rows.data.toList)[i]? = some r -> a < r.lo)) (λ x _ => (x.2.1 - x.1).toNat)
  ⟨0, n, rfl, Nat.zero_le _, Nat.le_refl _, Ext.refl w, λ i r h => absurd h (Nat.not_lt_zero _), λ i r h hr => by
   have := (List.getElem?_eq_some_iff.1 hr).1
   rw [Ad6] at this; omega⟩ ?_
 rintro _ W ⟨lo, hi, rfl, hlh, hhn, e1, h1, h2⟩
 dsimp only
 refine Aa (λ hc => ?_) (λ hc => ?_)
 ·simp only [decide_eq_true_eq] at hc
  obtain ⟨m, hm⟩ : ∃ m, m = (lo + hi) / 2 := ⟨_, rfl⟩
  have hmn : m < n := by omega
  have em : W64 (Int.tdiv (W64 ((lo : Int) + (hi : Int))) 2) = (m : Int) := by
   rw [wrap64 (a := (lo : Int) + (hi : Int)) (by omega) (by omega), Int.tdiv_eq_ediv_of_nonneg (by omega), wrap64 (by omega) (by omega)]; omega
  have em1 : W64 ((m : Int) + 1) = ((m + 1 : Nat) : Int) := by rw [wrap64 (by omega) (by omega)]; omega
  have e11 : W64 ((m : Int) * 11) = ((11 * m : Nat) : Int) := by rw [wrap64 (by omega) (by omega)]; omega
  have e12 : W64 (((m + 1 : Nat) : Int) * 11) = ((11 * m + 11 : Nat) : Int) := by rw [wrap64 (by omega) (by omega)]; omega
  rw [em, em1, e11, e12]
  simp only [Int.toNat_natCast]
  have sz : (rows.extract (11 * m) (11 * m + 11)).size = 11 := by rw [P9 _ _ _ (by omega)]; omega
  rw [sz]
  have ll : (rows.extract (11 * m) (11 * m + 11)).data.toList = (rows.data.toList.drop (11 * m)).take 11 := by rw [Va]; congr 1; omega
  have hrow := Ad7 n rows.data.toList m hmn
  have p1 : ((rows.extract (11 * m) (11 * m + 11)).extract (Int.toNat 0) (Int.toNat (5 : Int))).data.toList = (rows.data.toList.drop (11 * m)).take 5 := by
   rw [Va, ll]; show List.take 5 (List.drop 0 _) = _
   rw [List.drop_zero, List.take_take]; rfl
  have p2 : ((rows.extract (11 * m) (11 * m + 11)).extract (Int.toNat (5 : Int)) (Int.toNat (10 : Int))).data.toList = (rows.data.toList.drop (11 * m + 5)).take 5 := by
   rw [Va, ll]; show List.take 5 (List.drop 5 _) = _
   rw [List.drop_take, List.take_take, List.drop_drop]; rfl
  have p3 : ((rows.extract (11 * m) (11 * m + 11)).extract (Int.toNat (10 : Int)) 11).data.toList = (rows.data.toList.drop (11 * m + 10)).take 1 := by
   rw [Va, ll]; show List.take 1 (List.drop 10 _) = _
   rw [List.drop_take, List.take_take, List.drop_drop]; rfl
  have z1 : ((rows.extract (11 * m) (11 * m + 11)).extract (Int.toNat 0) (Int.toNat (5 : Int))).size <= 5 := by rw [P9 _ _ _ (by rw [sz]; decide)]; decide
  have z2 : ((rows.extract (11 * m) (11 * m + 11)).extract (Int.toNat (5 : Int)) (Int.toNat (10 : Int))).size <= 5 := by rw [P9 _ _ _ (by rw [sz]; decide)]; decide
  have z3 : ((rows.extract (11 * m) (11 * m + 11)).extract (Int.toNat (10 : Int)) 11).size <= 5 := by rw [P9 _ _ _ (by rw [sz]; decide)]; decide
  refine Ci (by decide) (Ci (by omega) (Ci (by omega) (Tn (Zv (Zv hok _ _) _ _) z1 λ w2 x2 => ?_)))
  rw [p1]
  refine Aa (λ hlt => ?_) (λ hlt => ?_)
  ·simp only [decide_eq_true_eq] at hlt
   refine ⟨⟨lo, m, rfl, by omega, by omega, e1.trans x2, h1, λ i r hi hr => ?_⟩, by omega⟩
   rcases Nat.lt_or_ge m i with hmi | hmi
   ·have := Ah4 hT hmi hrow hr
    have := (O8 hT hrow).2
    simp only at *; omega
   ·have : i = m := by omega
    subst this
    rw [hrow] at hr; cases hr
    simp only; omega
  ·simp only [decide_eq_false_iff_not] at hlt
   refine Ci (by omega) (Tn (Zv (Zv hok _ _) _ _) z2 λ w3 x3 => ?_)
   rw [p2]
   refine Aa (λ hgt => ?_) (λ hgt => ?_)
   ·simp only [decide_eq_true_eq, gt_iff_lt] at hgt
    refine ⟨⟨m + 1, hi, rfl, by omega, hhn, (e1.trans x2).trans x3, λ i r hi hr => ?_, h2⟩, by omega⟩
    rcases Nat.lt_or_ge i m with hmi | hmi
    ·have := Ah4 hT hmi hr hrow
     have := (O8 hT hrow).2
     simp only at *; omega
    ·have : i = m := by omega
     subst this
     rw [hrow] at hr; cases hr
     simp only; omega
   ·simp only [decide_eq_false_iff_not, gt_iff_lt] at hgt
    refine Ci (by omega) (Tn (Zv (Zv hok _ _) _ _) z3 λ w4 x4 => ?_)
    rw [p3]
    have := hK w4 (((e1.trans x2).trans x3).trans x4)
    rw [Bc8 hT hrow (by simp only; omega) (by simp only; omega)] at this
    exact this
 ·simp only [decide_eq_false_iff_not] at hc
  refine ⟨e1, Af1 λ i r hr => ?_⟩
  rcases Nat.lt_or_ge i lo with h | h
  ·exact .inr (h1 i r h hr)
  ·exact .inl (h2 i r (by omega) hr)
theorem Az0 : Ox.size = 11 * 324 /\ Ox.data.toList.all okC = true /\ srt 0 Cb4 = true := ⟨by kernel_rfl, by kernel_rfl, by kernel_rfl⟩
theorem Ay9 : Oy.size = 11 * 26 /\ Oy.data.toList.all okC = true /\ srt 0 Bv4 = true := ⟨by kernel_rfl, by kernel_rfl, by kernel_rfl⟩
theorem At4 : Ov.size = 11 * 81 /\ Ov.data.toList.all okC = true /\ srt 0 Be3 = true := ⟨by kernel_rfl, by kernel_rfl, by kernel_rfl⟩
theorem Xi {a : Int} (h : Scalar a) : ∃ n : Nat, a = (n : Int) /\ n <= 1114111 := ⟨a.toNat, by rcases h with h | h <;> omega, by rcases h with h | h <;> omega⟩
theorem Xg {a : Int} {K : Int -> Wp} (hK : ∀ w', Ext w w' -> K ((cls a : Nat) : Int) w') : Ac Tryz.prog 124 #[.int .i64 a] rI K w := by
 refine Cy1 ?_
 unfold F124
 refine Qx (Aa (λ h => ?_) (λ h => ?_))
 ·simp only [Bool.not_eq_true', decide_eq_false_iff_not] at h
  have := hK w (Ext.refl w)
  unfold cls at this
  rw [if_neg h] at this
  exact this
 simp only [Bool.not_eq_false', decide_eq_true_eq] at h
 obtain ⟨n, rfl, hn⟩ := Xi h
 unfold cls at hK
 rw [if_pos h] at hK
 have ew : W64 ((n : Int) - 44032) = (n : Int) - 44032 := wrap64 (by omega) (by omega)
 rw [ew]
 refine Ae (λ x w' => x = (decide (44032 <= n /\ n < 55204), ()) /\ w = w') ?_ ?_
 ·refine Aa (λ hg => ⟨Aj ?_, rfl⟩) (λ hg => ⟨Aj ?_, rfl⟩)
  ·simp only [decide_eq_true_eq, ge_iff_le] at hg ⊢; omega
  ·simp only [decide_eq_false_iff_not, decide_eq_true_eq, ge_iff_le] at hg ⊢
   exact ⟨(λ h => by cases h), λ h => by omega⟩
 rintro _ _ ⟨rfl, rfl⟩
 refine Aa (λ hg => ?_) (λ hg => ?_)
 ·simp only [decide_eq_true_eq] at hg
  refine Ci (by decide) ?_
  have e1 : Int.tmod ((n : Int) - 44032) 28 = (((n - 44032) % 28 : Nat) : Int) := by rw [Int.tmod_eq_emod_of_nonneg (by omega)]; omega
  rw [e1]
  have := hK w (Ext.refl w)
  rw [if_pos (by omega), Int.toNat_natCast] at this
  refine Aa (λ h0 => ?_) (λ h0 => ?_)
  ·simp only [beq_iff_eq] at h0
   rw [if_pos (by omega)] at this; exact this
  ·simp only [beq_eq_false_iff_ne] at h0
   rw [if_neg (by omega)] at this; exact this
 ·simp only [decide_eq_false_iff_not] at hg
  rw [if_neg (by omega), Int.toNat_natCast] at hK
  exact Sr Az0.1 (by decide) Az0.2.1 Az0.2.2 λ w1 x1 => hK w1 x1
theorem Vy {a : Int} {K : Int -> Wp} (hK : ∀ w', Ext w w' -> K ((cnj a : Nat) : Int) w') : Ac Tryz.prog 147 #[.int .i64 a] rI K w := by
 refine Cv9 ?_
 unfold F147
 unfold cnj at hK
 refine Ae (λ x w' => x = (decide (a = 2381 \/ a = 2509 \/ a = 2765 \/ a = 2893 \/ a = 3149 \/ a = 3405), ()) /\ w = w') ?_ ?_
 ·refine Aa (λ h => ⟨Aj ?_, rfl⟩) (λ h1 => Aa (λ h => ⟨Aj ?_, rfl⟩) (λ h2 => Aa (λ h => ⟨Aj ?_, rfl⟩) (λ h3 => Aa (λ h => ⟨Aj ?_, rfl⟩) (λ h4 => Aa (λ h => ⟨Aj ?_, rfl⟩) (λ h5 => ⟨Aj ?_, rfl⟩)))))
  all_goals simp only [beq_iff_eq, beq_eq_false_iff_ne, ne_eq, decide_eq_true_eq] at *
  all_goals omega
 rintro _ _ ⟨rfl, rfl⟩
 refine Aa (λ h => ?_) (λ h => ?_)
 ·simp only [decide_eq_true_eq] at h
  rw [if_pos h] at hK
  exact hK _ (Ext.refl _)
 simp only [decide_eq_false_iff_not] at h
 rw [if_neg h] at hK
 refine Aa (λ h2 => ?_) (λ h2 => ?_)
 ·simp only [beq_iff_eq] at h2
  rw [if_pos h2] at hK
  exact hK _ (Ext.refl _)
 simp only [beq_eq_false_iff_ne, ne_eq] at h2
 rw [if_neg h2] at hK
 refine Ae (λ _ w1 => Ext w w1 /\ ¬ (cls a = 4 \/ cls a = 5) /\ ¬ (cls a = 0 /\ Scalar a)) ?_ (λ _ w1 h3 => by
  have := hK w1 h3.1
  rw [if_neg h3.2.1, if_neg h3.2.2] at this
  exact this)
 refine Xg λ w1 e1 => Ae (λ x w2 => x = (decide (cls a = 4 \/ cls a = 5), ()) /\ w1 = w2) ?_ ?_
 ·refine Aa (λ h => ⟨Aj ?_, rfl⟩) (λ h => ⟨Aj ?_, rfl⟩)
  all_goals simp only [beq_iff_eq, beq_eq_false_iff_ne, ne_eq, decide_eq_true_eq] at *
  all_goals omega
 rintro _ _ ⟨rfl, rfl⟩
 refine Aa (λ h => ?_) (λ h3 => ?_)
 ·simp only [decide_eq_true_eq] at h
  rw [if_pos h] at hK
  exact hK _ e1
 simp only [decide_eq_false_iff_not] at h3
 rw [if_neg h3] at hK
 refine Aa (λ h4 => ?_) (λ h4 => ?_)
 ·simp only [beq_iff_eq] at h4
  refine Qx (Aa (λ h5 => ?_) (λ h5 => ?_))
  ·simp only [decide_eq_true_eq] at h5
   rw [if_pos ⟨by omega, h5⟩] at hK
   obtain ⟨n, rfl, hn⟩ := Xi h5
   rw [Int.toNat_natCast] at hK
   exact Sr Ay9.1 (by decide) Ay9.2.1 Ay9.2.2 λ w2 x2 => hK w2 (e1.trans x2)
  ·simp only [decide_eq_false_iff_not] at h5
   exact ⟨e1, h3, λ h => h5 h.2⟩
 ·simp only [beq_eq_false_iff_ne, ne_eq] at h4
  exact ⟨e1, h3, λ h => h4 (by rw [h.1]; rfl)⟩
theorem Be6 {a : Int} {K : Int -> Wp} (hK : ∀ w', Ext w w' -> K ((wrd a : Nat) : Int) w') : Ac Tryz.prog 69 #[.int .i64 a] rI K w := by
 refine A69 ?_
 unfold F69
 unfold wrd at hK
 refine Qx (Aa (λ h => ?_) (λ h => ?_))
 ·simp only [Bool.not_eq_true', decide_eq_false_iff_not] at h
  have := hK w (Ext.refl w)
  rw [if_neg h] at this
  exact this
 simp only [Bool.not_eq_false', decide_eq_true_eq] at h
 rw [if_pos h] at hK
 obtain ⟨n, rfl, hn⟩ := Xi h
 rw [Int.toNat_natCast] at hK
 refine Sr At4.1 (by decide) At4.2.1 At4.2.2 λ w1 x1 => ?_
 have := hK w1 x1
 show sif (((Ip Be3 n : Nat) : Int) == 2) _ _ w1
 refine Aa (λ h2 => ?_) (λ h2 => ?_)
 ·simp only [beq_iff_eq] at h2
  rw [if_pos (by omega)] at this
  exact this
 ·simp only [beq_eq_false_iff_ne, ne_eq] at h2
  rw [if_neg (by omega)] at this
  show sif (((Ip Be3 n : Nat) : Int) == 1) _ _ w1
  refine Aa (λ h3 => ?_) (λ h3 => ?_)
  ·simp only [beq_iff_eq] at h3
   rw [if_pos (by omega)] at this
   exact this
  ·simp only [beq_eq_false_iff_ne, ne_eq] at h3
   rw [if_neg (by omega)] at this
   exact this
end
end Go.Proofs.YtabcpghhfeplaaaGreat
namespace Go.Vx
open Go Go.ChangeShapes
theorem cell_spot {w : World} {a : Addr} {v : Value} (h : w.cell? a = some v) : a.spot = none /\ ∃ c t fr, w.heap[a.block]? = some (.cells c t fr) /\ c[a.off]? = some v := by
 unfold World.cell? at h
 split at h
 ·rename_i c t fr hh
  split at h
  ·cases h
  ·rename_i hs
   exact ⟨by cases hsp : a.spot with | none => rfl | some _ => rw [hsp] at hs; exact absurd rfl hs, c, t, fr, hh, h⟩
 ·cases h
theorem As8 (a : Addr) (n : Nat) (h : a.spot = none) : a.add n = ⟨a.block, a.off + n, none⟩ := by
 obtain ⟨b, o, s⟩ := a
 simp only at h
 subst h
 exact addr_add b o n
theorem Qm {w : World} {base : Nat} {a : Addr} {n : Nat} {r : List Value} (h : w.cells? base a n = some r) : r.length = n /\ ∀ j, j < n -> w.cell? (a.add j) = r[j]? := by
 unfold World.cells? at h
 split at h
 ·have hl := mapM_some_length h
  rw [List.length_range] at hl
  refine ⟨hl, λ j hj => ?_⟩
  exact mapM_some_get h j j (by simp [hj])
 ·cases h
section
variable {H : Type} {enc : TypeId × Value -> H} {P : Program} {W : World} {base fuel : Nat} {held : Bool}
theorem Zz {e : TypeId} {d : DataW H} {n : Nat} (hn : n ∈ d.weights P e) : ∀ l : List (DataW H), d ∈ l -> n ∈ DataW.weightsAll P e l
 | [], h => by cases h
 | x :: r, h => by
  simp only [DataW.weightsAll, List.mem_append]
  rcases List.mem_cons.1 h with rfl | h
  ·exact .inl hn
  ·exact .inr (Zz hn r h)
theorem Aw6 {t e : TypeId} {sz : Nat} {cs : List Value} {x : DataW H × List MemPlace} (ht : P.underlying t = some (.slice e)) (hsz : P.cellsOf e = sz) (hpos : 0 < sz)
  (h : DataW.trod enc P W base (λ _ => true) held fuel t cs = some x) (hw : ∀ n ∈ x.1.weights P t, n <= reachBytes) :
  ∃ (s : Sl) (rows : List (List Value)), cs = [.slice s.a s.len s.cap] /\ SlX W s sz rows.flatten /\ rows.length = s.len /\ s.len * P.bytesOf e <= reachBytes /\ (s.len = 0 \/ ∃ els rst, x.1 = .slice els rst /\ els.length = s.len) /\
   ∀ r ∈ rows, r.length = sz /\ ∃ n y, DataW.trod enc P W base (λ _ => true) held n e r = some y /\ (∀ k ∈ y.1.weights P e, k <= reachBytes) /\ ∃ els rst, x.1 = .slice els rst /\ y.1 ∈ els := by
 rcases DataW.trod_slice ht h with ⟨rfl, rfl⟩ | ⟨a, len, cap, elems, rest, n, _, rfl, rfl, hb, hl, hm, hlen, hel, hsp, _⟩
 ·exact ⟨⟨none, 0, 0⟩, [], rfl, ⟨.inl ⟨rfl, rfl⟩⟩, rfl, by simp, .inl rfl, λ r hr => by cases hr⟩
 obtain ⟨hrl, hre⟩ := hsp rfl
 subst hsz
 have each : ∀ i, i < len -> ∃ r y, W.cells? base (a.add (i * P.cellsOf e)) (P.cellsOf e) = some r /\ elems[i]? = some y /\ DataW.trod enc P W base (λ _ => true) held n e r = some y := by
  intro i hi
  have h1 := hel i hi
  rw [List.getElem?_eq_getElem (by omega)] at h1
  obtain ⟨r, h2, h3⟩ := Option.bind_eq_some_iff.1 h1
  exact ⟨r, _, h2, List.getElem?_eq_getElem (by omega), h3⟩
 have wn : (elems.length + rest.length) * P.bytesOf e <= reachBytes := by
  have := hw ((elems.length + rest.length) * P.bytesOf e) (by simp [DataW.weights, ht])
  exact this
 refine ⟨⟨some a, len, cap⟩, (List.range len).map λ i => (W.cells? base (a.add (i * P.cellsOf e)) (P.cellsOf e)).getD [], rfl, ?_, by simp, ?_, .inr ⟨_, _, rfl, by simp [hlen]⟩, ?_⟩
 ·by_cases h0 : len = 0
  ·subst h0; exact ⟨.inl ⟨rfl, rfl⟩⟩
  have last : ∃ v, W.cell? ((a.add ((cap - 1) * P.cellsOf e)).add (P.cellsOf e - 1)) = some v := by
   have fin : ∀ r, W.cells? base (a.add ((cap - 1) * P.cellsOf e)) (P.cellsOf e) = some r -> ∃ v, W.cell? ((a.add ((cap - 1) * P.cellsOf e)).add (P.cellsOf e - 1)) = some v := by
    intro r hr
    obtain ⟨g1, g2⟩ := Qm hr
    rw [g2 _ (by omega)]
    exact ⟨_, List.getElem?_eq_getElem (by omega)⟩
   by_cases hcl : cap - 1 < len
   ·obtain ⟨r, _, h1, _⟩ := each (cap - 1) hcl
    exact fin r h1
   ·have h1 := hre (cap - 1 - len) (by omega)
    rw [show len + (cap - 1 - len) = cap - 1 by omega] at h1
    rw [List.getElem?_eq_getElem (by omega)] at h1
    obtain ⟨r, h2, _⟩ := Option.bind_eq_some_iff.1 h1
    exact fin r h2
  obtain ⟨v, hv⟩ := last
  have hspot : a.spot = none := by
   obtain ⟨r, _, h1, _⟩ := each 0 (by omega)
   obtain ⟨g1, g2⟩ := Qm h1
   have h2 := g2 0 (by omega)
   rw [Nat.zero_mul, List.getElem?_eq_getElem (by omega)] at h2
   exact (cell_spot h2).1
  rw [As8 a _ hspot, addr_add] at hv
  obtain ⟨_, c, tt, fr, hh, hc⟩ := cell_spot hv
  simp only at hh hc
  have hlast := (Array.getElem?_eq_some_iff.1 hc).1
  have hcap : (cap - 1) * P.cellsOf e + P.cellsOf e = cap * P.cellsOf e := by rw [← Nat.succ_mul]; congr 1; omega
  have rowlen : ∀ i, i < len -> ((W.cells? base (a.add (i * P.cellsOf e)) (P.cellsOf e)).getD []).length = P.cellsOf e := by
   intro i hi
   obtain ⟨r, _, h1, _⟩ := each i hi
   rw [h1]; exact (Qm h1).1
  refine ⟨.inr ⟨tt, ?_, hl, .inr ⟨a.block, a.off, c, fr, ?_, hh, by simp only; omega, ?_⟩⟩⟩
  ·have key : ∀ (k : Nat), k <= len -> (((List.range k).map λ i => (W.cells? base (a.add (i * P.cellsOf e)) (P.cellsOf e)).getD []).flatten).length = k * P.cellsOf e := by
    intro k
    induction k with
    | zero => intro _; simp
    | succ k ih =>
     intro hk
     rw [List.range_succ, List.map_append, List.flatten_append, List.length_append, ih (by omega), Nat.succ_mul]
     simp [rowlen k (by omega)]
   exact key len (Nat.le_refl _)
  ·obtain ⟨b, o, s⟩ := a
   simp only at hspot
   subst hspot
   rfl
  ·have key : ∀ (k : Nat), k <= len -> ∀ i v, (((List.range k).map λ i => (W.cells? base (a.add (i * P.cellsOf e)) (P.cellsOf e)).getD []).flatten)[i]? = some v -> c[a.off + i]? = some v := by
    intro k
    induction k with
    | zero => intro _ i v hi; simp at hi
    | succ k ih =>
     intro hk i v hi
     have hkl : (((List.range k).map λ i => (W.cells? base (a.add (i * P.cellsOf e)) (P.cellsOf e)).getD []).flatten).length = k * P.cellsOf e := by
      have key2 : ∀ (k : Nat), k <= len -> (((List.range k).map λ i => (W.cells? base (a.add (i * P.cellsOf e)) (P.cellsOf e)).getD []).flatten).length = k * P.cellsOf e := by
       intro k
       induction k with
       | zero => intro _; simp
       | succ k ih =>
        intro hk
        rw [List.range_succ, List.map_append, List.flatten_append, List.length_append, ih (by omega), Nat.succ_mul]
        simp [rowlen k (by omega)]
      exact key2 k (by omega)
     rw [List.range_succ, List.map_append, List.flatten_append] at hi
     by_cases hik : i < k * P.cellsOf e
     ·rw [List.getElem?_append_left (by omega)] at hi
      exact ih (by omega) i v hi
     ·rw [List.getElem?_append_right (by omega), hkl] at hi
      simp only [List.map_cons, List.map_nil, List.flatten_cons, List.flatten_nil, List.append_nil] at hi
      obtain ⟨r, _, h1, _⟩ := each k (by omega)
      rw [h1] at hi
      simp only [Option.getD_some] at hi
      obtain ⟨g1, g2⟩ := Qm h1
      have hj := (List.getElem?_eq_some_iff.1 hi).1
      have := g2 (i - k * P.cellsOf e) (by omega)
      rw [hi, As8 a _ hspot, addr_add] at this
      obtain ⟨_, c', t', fr', hh', hc'⟩ := cell_spot this
      simp only at hh' hc'
      rw [hh] at hh'
      cases hh'
      rw [show a.off + i = a.off + k * P.cellsOf e + (i - k * P.cellsOf e) by omega]
      exact hc'
   exact key len (Nat.le_refl _)
 ·have : len * P.bytesOf e <= (elems.length + rest.length) * P.bytesOf e := Nat.mul_le_mul_right _ (by omega)
  exact Nat.le_trans this wn
 ·intro r hr
  obtain ⟨i, hi, rfl⟩ := List.mem_map.1 hr
  have hi := List.mem_range.1 hi
  obtain ⟨r, y, h1, h2, h3⟩ := each i hi
  rw [h1]
  refine ⟨(Qm h1).1, n, y, h3, λ k hk => hw k ?_, _, _, rfl, List.mem_map.2 ⟨y, List.mem_of_getElem? h2, rfl⟩⟩
  simp only [DataW.weights, ht, List.mem_cons, List.mem_append]
  exact .inr (.inl (Zz hk _ (List.mem_map.2 ⟨y, List.mem_of_getElem? h2, rfl⟩)))
theorem Ze {t e : TypeId} {sz : Nat} {cs : List Value} {x : DataW H × List MemPlace} (ht : P.underlying t = some (.slice e)) (hsz : P.cellsOf e = sz) (hpos : 0 < sz)
  (h : DataW.trod enc P W base (λ _ => true) held fuel t cs = some x) (hw : ∀ n ∈ x.1.weights P t, n <= reachBytes) :
  ∃ (s : Sl) (rows : List (List Value)), cs = [.slice s.a s.len s.cap] /\ SlX W s sz rows.flatten /\ rows.length = s.len /\ s.len * P.bytesOf e <= reachBytes /\
   ∀ r ∈ rows, r.length = sz /\ ∃ n y, DataW.trod enc P W base (λ _ => true) held n e r = some y /\ ∀ k ∈ y.1.weights P e, k <= reachBytes := by
 obtain ⟨s, rows, h1, h2, h3, h4, _, h5⟩ := Aw6 ht hsz hpos h hw
 exact ⟨s, rows, h1, h2, h3, h4, λ r hr => by obtain ⟨a, n, y, b, c, _⟩ := h5 r hr; exact ⟨a, n, y, b, c⟩⟩
theorem Le {t : TypeId} {cs : List Value} {x : DataW H × List MemPlace} (ht : P.underlying t = some (.int .i64)) (h : DataW.trod enc P W base (λ _ => true) held fuel t cs = some x) : ∃ n, cs = [.int .i64 n] /\ (Lit.int .i64 n).wf = true := by
 cases fuel with
 | zero => simp [DataW.trod] at h
 | succ m =>
  unfold DataW.trod at h
  rw [ht] at h
  split at h <;> simp_all
theorem Bb1 {cs : List Cell} {Q : Cells.T cs -> Prop} : ∀ (rows : List (List Value)), (∀ r ∈ rows, ∃ x, r = Cells.vals cs x /\ Q x) -> ∃ xs : List (Cells.T cs), rows.flatten = flat cs xs /\ xs.length = rows.length /\ ∀ x ∈ xs, Q x
 | [], _ => ⟨[], rfl, rfl, λ x hx => by cases hx⟩
 | r :: rs, h => by
  obtain ⟨x, hx, hq⟩ := h r List.mem_cons_self
  obtain ⟨xs, h1, h2, h3⟩ := Bb1 rs λ r' hr' => h r' (List.mem_cons_of_mem _ hr')
  refine ⟨x :: xs, ?_, by simp [h2], λ y hy => ?_⟩
  ·rw [List.flatten_cons, h1, hx]; rfl
  ·rcases List.mem_cons.1 hy with rfl | hy
   ·exact hq
   ·exact h3 y hy
theorem Bg5 {t e : TypeId} {cs : List Value} {x : DataW H × List MemPlace} (ht : P.underlying t = some (.slice e)) (he : P.underlying e = some (.int .i64)) (hc : P.cellsOf e = 1) (hb : P.bytesOf e = 8)
  (h : DataW.trod enc P W base (λ _ => true) held fuel t cs = some x) (hw : ∀ n ∈ x.1.weights P t, n <= reachBytes) :
  ∃ (s : Sl) (l : List Int), cs = [.slice s.a s.len s.cap] /\ SlX W s 1 (l.map (Value.int .i64)) /\ l.length <= 2 ^ 44 - 512 /\ ∀ n ∈ l, (Lit.int .i64 n).wf = true := by
 obtain ⟨s, rows, rfl, hs, hl, hby, hr⟩ := Ze ht hc (by decide) h hw
 obtain ⟨xs, h1, h2, h3⟩ := Bb1 (cs := [.int .i64]) (Q := λ x => (Lit.int .i64 x.1).wf = true) rows (λ r hr' => by
  obtain ⟨_, n, y, hy, _⟩ := hr r hr'
  obtain ⟨k, rfl, hk⟩ := Le he hy
  exact ⟨(k, ()), rfl, hk⟩)
 refine ⟨s, xs.map (·.1), rfl, ?_, ?_, ?_⟩
 ·rw [h1] at hs
  have e : flat [.int .i64] xs = (xs.map (·.1)).map (Value.int .i64) := by
   simp only [flat, List.map_map, List.flatMap_def]
   clear h1 h2 h3 hs
   induction xs with
   | nil => rfl
   | cons x r ih => simp only [List.map_cons, List.flatten_cons, ih]; rfl
  rw [e] at hs; exact hs
 ·rw [List.length_map, h2, hl]
  rw [hb] at hby
  unfold reachBytes at hby
  omega
 ·intro n hn
  obtain ⟨x, hx, rfl⟩ := List.mem_map.1 hn
  exact h3 x hx
end
end Go.Vx
namespace Go.Vx
open Go Go.ChangeShapes Go.RowKit
section
variable {H : Type} {enc : TypeId × Value -> H} {P : Program} {W W' : World}
theorem Ext.below (e : Ext W W') : Below W.heap.size W W' := ⟨e.os, e.tape, e.output, e.size, λ k hk => e.at_ k hk id⟩
theorem Ad3 (hl : laidOutB P = true) {sp : Nat -> Bool} : ∀ {ts : List TypeId} {vs : List Value} {ds : List (DataW H)} {ps : List MemPlace}, (∀ t ∈ ts, P.readableRec t = true /\ t < P.types.size) ->
  DataW.TrodAll enc P W 0 (λ _ => true) true ts vs ds ps -> (∀ p ∈ ps, W.sameAt W' p) -> (∀ p ∈ ps, sp p.block = true) -> DataW.TrodAll enc P W' 0 sp true ts vs ds ps
 | [], [], [], _, _, h, _, _ => h
 | t :: ts, v :: vs, d :: ds, ps, hr, ⟨p, q, h1, h2, e⟩, hs, hsp => by
  subst e
  exact ⟨p, q, WideElems.Trod_stays hl (hr t List.mem_cons_self).1 (hr t List.mem_cons_self).2 h1 (λ x hx => hs x (List.mem_append_left _ hx)) (λ x hx => hsp x (List.mem_append_left _ hx)),
   Ad3 hl (λ t' ht' => hr t' (List.mem_cons_of_mem _ ht')) h2 (λ x hx => hs x (List.mem_append_right _ hx)) (λ x hx => hsp x (List.mem_append_right _ hx)), rfl⟩
 | [], _ :: _, _, _, _, h, _, _ => h.elim
 | [], [], _ :: _, _, _, h, _, _ => h.elim
 | _ :: _, [], _, _, _, h, _, _ => h.elim
 | _ :: _, _ :: _, [], _, _, h, _, _ => h.elim
theorem Bg1 {f : Func} {s : ChangeSpec} {apart fresh handsOn again : Bool} {args : Array Value} {ds gs : List (DataW H)} {before : List MemPlace} {tb : TypeId}
  (hW : DataW.Whole enc P f.params.toList s.vars apart W args.toList ds gs before) (hv : s.vars = []) (hr : f.resultTypes = #[tb]) (hb : P.underlying tb = some .bool)
  (hs : s.fn H (ds ++ gs) = { results := [.lit (.bool true)], args := ds }) (hl : laidOutB P = true) (hrd : ∀ t ∈ f.params.toList, P.readableRec t = true /\ t < P.types.size)
  (e : Ext W W') : s.post enc P f apart fresh handsOn again W args (.bool true) W' := by
 have hlt := hW.lt
 have hW0 := hW
 obtain ⟨pa, pv, hA, hV, rfl, hz, hn⟩ := hW
 have hBl := e.below
 have hsame : ∀ p ∈ pa ++ pv, W.sameAt W' p := λ p hp => hBl.same (hlt p hp)
 have hold : ∀ p ∈ pa ++ pv, (λ b => decide (b < W.heap.size)) p.block = true := λ p hp => by simpa using hlt p hp
 have hres : ∀ (b : Nat) (sp : Nat -> Bool) (hd : Bool), DataW.TrodAll enc P W' b sp hd f.resultTypes.toList ((Value.bool true).resultList f.resultTypes.size) (s.fn H (ds ++ gs)).results [] := by
  intro b sp hd
  rw [hs, hr]
  exact trodAll_mk1 ⟨1, by simp [DataW.trod, hb, Value.cells]⟩
 have hargs : ∀ sp : Nat -> Bool, (∀ p ∈ pa, sp p.block = true) -> DataW.TrodAll enc P W' 0 sp true f.params.toList args.toList (s.fn H (ds ++ gs)).args pa := by
  intro sp hsp
  rw [hs]
  exact Ad3 hl hrd hA (λ p hp => hsame p (List.mem_append_left _ hp)) hsp
 have hgs : gs = [] /\ pv = [] := by
  rw [hv] at hV
  exact trodVars_none hV
 obtain ⟨rfl, rfl⟩ := hgs
 have hvars : ∀ sp : Nat -> Bool, DataW.TrodVars enc P W' sp s.vars (s.fn H (ds ++ [])).vars [] := by
  intro sp
  rw [hs, hv]
  exact rfl
 have hall : ∀ p ∈ ([] ++ pa) ++ [], p ∈ pa ++ [] := λ p hp => by simpa using hp
 refine ⟨ds, [], pa ++ [], [], pa, [], hW0, hres _ _ _, hargs _ (λ p hp => hold p (List.mem_append_left _ hp)), hvars _, hBl.frame _, λ _ => ⟨ok_one hr rfl (okWide_bool_mk hb true), [.lit (.bool true)] ++ ds, [], ([] ++ pa) ++ [], ?_, λ p hp _ => hall p hp⟩⟩
 have h1 := trodAll_append (hargs (λ _ => true) (λ _ _ => rfl)) (hres 0 (λ _ => true) true)
 rw [hs] at h1
 have h2 := hvars (λ _ => true)
 rw [hs] at h2
 refine ⟨[] ++ pa, [], h1, h2, rfl, ?_, λ ha => ?_⟩
 ·intro b off hp
  have hp' := hall _ hp
  have hb' := hlt _ hp'
  rw [hBl.frozen (p := ⟨b, off, none⟩) hb']
  exact hz b off hp'
 ·have := hn ha
  simpa using this
end
end Go.Vx
namespace Go.Proofs.YtabcpghhfeplaaaGreat
open Go Go.Vx Gly Clu
section
variable {w w' : World}
theorem Bq7 {a : Addr} {v : Value} (h : w.cell? a = some v) (x : Ext w w') : w'.cell? a = some v := by
 obtain ⟨hs, c, t, fr, hh, hc⟩ := cell_spot h
 obtain ⟨b, o, s⟩ := a
 simp only at hs hh hc
 subst hs
 exact cell_of (x.ext_get hh) hc
theorem Aj9 {c : Cell} {s : Sl} {t : TypeId} {xs : List c.T} {n : Int} {K : Addr -> c.T -> Wp} (h : Aq w s t 1 (xs.map c.val)) (h0 : 0 <= n) {x : c.T} (hx : xs[n.toNat]? = some x)
  (hK : ∀ p, (∀ w', Ext w w' -> w'.cell? (p.add (scaled (Int.toNat n) 1)) = some (c.val x)) -> K p x w) : ix s.a s.len n (λ p => ld c (p.add (scaled (Int.toNat n) 1)) (K p)) w := by
 have hlt := (List.getElem?_eq_some_iff.1 hx).1
 have hl := h.len
 rw [List.length_map, Nat.mul_one] at hl
 refine h.ix h0 (by omega) (by omega) λ b off ha hv => ?_
 have := hv 0 (c.val x) (by rw [Nat.mul_one, Nat.add_zero, List.getElem?_map, hx]; rfl)
 have hc : w.cell? ((⟨b, off, none⟩ : Addr).add (scaled (Int.toNat n) 1)) = some (c.val x) := by rw [addr_add]; simpa [scaled] using this
 exact Ap2 (x := x) hc (hK _ λ w' x' => Bq7 hc x')
def scO (s : Sc) : Obj := .cells #[.int .i64 (s.last : Int), .int .i64 (s.flags : Int), .int .i64 (s.pict : Int), .int .i64 (s.conj : Int)] 169 (0, 0)
abbrev scT (s : Sc) : Cells.T Aa8 := ((s.last : Int), (s.flags : Int), (s.pict : Int), (s.conj : Int), ())
theorem Bx4 {a : Addr} {K : Addr -> Wp} : nn (some a) K = K a := funext λ _ => propext G5
theorem Ab2 {c : Nat} {K : Bool -> Wp} (hK : K (apart c) w) : Ac Tryz.prog 125 #[.int .i64 (c : Int)] rB K w := by
 refine Cy0 ?_
 unfold F125
 unfold apart at hK
 refine Aa (λ h => ?_) (λ h => Aa (λ h2 => ?_) (λ h2 => ?_))
 all_goals simp only [beq_iff_eq, beq_eq_false_iff_ne, ne_eq] at *
 ·rw [decide_eq_true (by omega)] at hK; exact hK
 ·rw [decide_eq_true (by omega)] at hK; exact hK
 ·have : ((c : Int) == 3) = decide (c = 1 \/ c = 2 \/ c = 3) := by
   rw [Bool.eq_iff_iff, beq_iff_eq, decide_eq_true_eq]; omega
  rw [this]; exact hK
theorem Ap7 {l r : Nat} {K : Bool -> Wp} (hK : K (Jd l r) w) : Ac Tryz.prog 148 #[.int .i64 (l : Int), .int .i64 (r : Int)] rB K w := by
 refine Cv8 ?_
 unfold F148
 unfold Jd at hK
 have fin : ∀ {b : Bool}, (b = true ↔ ((l = 9 /\ (r = 9 \/ r = 10 \/ r = 12 \/ r = 13)) \/ ((l = 12 \/ l = 10) /\ (r = 10 \/ r = 11)) \/ ((l = 13 \/ l = 11) /\ r = 11))) -> K b w := by
  intro b hb
  have : b = decide ((l = 9 /\ (r = 9 \/ r = 10 \/ r = 12 \/ r = 13)) \/ ((l = 12 \/ l = 10) /\ (r = 10 \/ r = 11)) \/ ((l = 13 \/ l = 11) /\ r = 11)) := by rw [Bool.eq_iff_iff, hb, decide_eq_true_eq]
  rw [this]; exact hK
 refine Ae (λ _ w' => w = w' /\ (r = 10 \/ r = 11) /\ ¬ (r = 10 /\ l = 9)) ?_ ?_
 ·refine Ae (λ x w' => x = (decide (r = 9 \/ r = 12 \/ r = 13), ()) /\ w = w') ?_ ?_
  ·refine Aa (λ h => ⟨Aj ?_, rfl⟩) (λ h => Aa (λ h2 => ⟨Aj ?_, rfl⟩) (λ h2 => ⟨Aj ?_, rfl⟩))
   all_goals simp only [beq_iff_eq, beq_eq_false_iff_ne, ne_eq, decide_eq_true_eq] at *
   all_goals omega
  rintro _ _ ⟨rfl, rfl⟩
  refine Aa (λ h => fin ?_) (λ h => Aa (λ h2 => Aa (λ h3 => fin ?_) (λ h3 => ?_)) (λ h2 => Aa (λ h3 => ?_) (λ h3 => fin ?_)))
  all_goals simp only [beq_iff_eq, beq_eq_false_iff_ne, ne_eq, decide_eq_true_eq, decide_eq_false_iff_not] at *
  ·omega
  ·simp only [true_iff]; omega
  ·exact ⟨by trivial, by omega, by omega⟩
  ·exact ⟨by trivial, by omega, by omega⟩
  ·simp only [Bool.false_eq_true, false_iff]; omega
 ·rintro _ _ ⟨rfl, h1, h2⟩
  refine Ae (λ x w' => x = (decide (l = 12 \/ l = 10), ()) /\ w = w') ?_ ?_
  ·refine Aa (λ h => ⟨Aj ?_, rfl⟩) (λ h => ⟨Aj ?_, rfl⟩)
   all_goals simp only [beq_iff_eq, beq_eq_false_iff_ne, ne_eq, decide_eq_true_eq, true_iff] at *
   all_goals omega
  rintro _ _ ⟨rfl, rfl⟩
  refine Aa (λ h => fin ?_) (λ h => Aa (λ h3 => Aa (λ h4 => fin ?_) (λ h4 => fin ?_)) (λ h3 => fin ?_))
  all_goals simp only [beq_iff_eq, beq_eq_false_iff_ne, ne_eq, decide_eq_true_eq, decide_eq_false_iff_not, Bool.false_eq_true, false_iff, true_iff] at *
  all_goals omega
theorem Ae6 {b c p : Nat} {s : Sc} (h : w.heap[b]? = some (scO s)) (hf : s.flags < 2 ^ 60) {K : Unit -> Wp} (hK : ∀ w', Upd (λ k => k = b) w w' -> w'.heap[b]? = some (scO (s.note c p)) -> K () w') :
  Ac Tryz.prog 146 #[.pointer (some (at0 b)), .int .i64 (c : Int), .int .i64 (p : Int)] (.tup []) K w := by
 refine Cw0 ?_
 unfold F146
 simp only [Bx4, addr_add]
 unfold scO at h
 refine Jl h (by show _ < 4; decide) λ w1 u1 n1 _ => ?_
 let O : Nat -> Nat -> Nat -> Nat -> Obj := λ a f q j => .cells #[.int .i64 (a : Int), .int .i64 (f : Int), .int .i64 (q : Int), .int .i64 (j : Int)] 169 (0, 0)
 have n1 : w1.heap[b]? = some (O c s.flags s.pict s.conj) := n1
 refine Ae (λ _ W => Upd (λ k => k = b) w W /\ W.heap[b]? = some (O c (s.note c p).flags s.pict s.conj)) ?_ ?_
 ·refine Aa (λ hc => ?_) (λ hc => ?_)
  ·simp only [beq_iff_eq] at hc
   have hc : c = 6 := by omega
   refine Dt n1 (x := (s.flags : Int)) rfl (Jl n1 (by show _ < 4; decide) λ w2 u2 n2 _ => ⟨u1.trans u2, ?_⟩)
   have e : (s.note c p).flags = s.flags + 1 := by simp [Sc.note, hc]
   rw [e, n2, wrap64 (by omega) (by omega)]; rfl
  ·simp only [beq_eq_false_iff_ne, ne_eq] at hc
   have hc : c ≠ 6 := by omega
   refine Jl n1 (by show _ < 4; decide) λ w2 u2 n2 _ => ⟨u1.trans u2, ?_⟩
   have e : (s.note c p).flags = 0 := by simp [Sc.note, hc]
   rw [e, n2]; rfl
 rintro _ w2 ⟨u2, n2⟩
 refine Ae (λ _ W => Upd (λ k => k = b) w W /\ W.heap[b]? = some (O c (s.note c p).flags (s.note c p).pict s.conj)) ?_ ?_
 ·have hp : (s.note c p).pict = if c = 14 then 1 else if s.pict = 1 /\ c = 5 then 2 else if s.pict = 1 /\ c = 4 then s.pict else 0 := rfl
  refine Aa (λ hc => ?_) (λ hc => ?_)
  ·simp only [beq_iff_eq] at hc
   rw [hp, if_pos (by omega)]
   exact Jl n2 (by show _ < 4; decide) λ w3 u3 n3 _ => ⟨u2.trans u3, n3⟩
  simp only [beq_eq_false_iff_ne, ne_eq] at hc
  rw [hp, if_neg (by omega)]
  refine Ae (λ x W => x = (decide (s.pict = 1 /\ c = 5), ()) /\ w2 = W) ?_ ?_
  ·refine Dt n2 (x := (s.pict : Int)) rfl (Aa (λ h => ⟨Aj ?_, rfl⟩) (λ h => ⟨Aj ?_, rfl⟩))
   all_goals simp only [beq_iff_eq, beq_eq_false_iff_ne, ne_eq, decide_eq_true_eq, Bool.false_eq_true, false_iff] at *
   all_goals omega
  rintro _ _ ⟨rfl, rfl⟩
  refine Aa (λ h => ?_) (λ h => ?_)
  ·simp only [decide_eq_true_eq] at h
   rw [if_pos h]
   exact Jl n2 (by show _ < 4; decide) λ w3 u3 n3 _ => ⟨u2.trans u3, n3⟩
  simp only [decide_eq_false_iff_not] at h
  rw [if_neg h]
  refine Ae (λ x W => x = (decide (s.pict = 1 /\ c = 4), ()) /\ w2 = W) ?_ ?_
  ·refine Dt n2 (x := (s.pict : Int)) rfl (Aa (λ h => ⟨Aj ?_, rfl⟩) (λ h => ⟨Aj ?_, rfl⟩))
   all_goals simp only [beq_iff_eq, beq_eq_false_iff_ne, ne_eq, decide_eq_true_eq, Bool.false_eq_true, false_iff] at *
   all_goals omega
  rintro _ _ ⟨rfl, rfl⟩
  refine Aa (λ h => ?_) (λ h => ?_)
  ·simp only [decide_eq_true_eq] at h
   rw [if_pos h]
   exact ⟨u2, n2⟩
  ·simp only [decide_eq_false_iff_not] at h
   rw [if_neg h]
   exact Jl n2 (by show _ < 4; decide) λ w3 u3 n3 _ => ⟨u2.trans u3, n3⟩
 rintro _ w3 ⟨u3, n3⟩
 have hj : (s.note c p).conj = if p = 1 then 1 else if 0 < s.conj /\ p = 3 then 2 else if 0 < s.conj /\ p = 2 then s.conj else 0 := rfl
 have fin : ∀ {q : Nat} {W : World}, (s.note c p).conj = q -> Upd (λ k => k = b) w W -> W.heap[b]? = some (O c (s.note c p).flags (s.note c p).pict q) -> K () W := λ e u n => hK _ u (by subst e; exact n)
 refine Aa (λ hc => ?_) (λ hc => ?_)
 ·simp only [beq_iff_eq] at hc
  exact Jl n3 (by show _ < 4; decide) λ w4 u4 n4 _ => fin (q := 1) (by rw [hj, if_pos (by omega)]) (u3.trans u4) n4
 simp only [beq_eq_false_iff_ne, ne_eq] at hc
 rw [if_neg (by omega)] at hj
 refine Ae (λ x W => x = (decide (0 < s.conj /\ p = 3), ()) /\ w3 = W) ?_ ?_
 ·refine Dt n3 (x := (s.conj : Int)) rfl (Aa (λ h => ⟨Aj ?_, rfl⟩) (λ h => ⟨Aj ?_, rfl⟩))
  all_goals simp only [beq_iff_eq, decide_eq_true_eq, decide_eq_false_iff_not, Bool.false_eq_true, false_iff, gt_iff_lt] at *
  all_goals omega
 rintro _ _ ⟨rfl, rfl⟩
 refine Aa (λ h => ?_) (λ h => ?_)
 ·simp only [decide_eq_true_eq] at h
  exact Jl n3 (by show _ < 4; decide) λ w4 u4 n4 _ => fin (q := 2) (by rw [hj, if_pos h]) (u3.trans u4) n4
 simp only [decide_eq_false_iff_not] at h
 rw [if_neg h] at hj
 refine Ae (λ x W => x = (decide (0 < s.conj /\ p = 2), ()) /\ w3 = W) ?_ ?_
 ·refine Dt n3 (x := (s.conj : Int)) rfl (Aa (λ h => ⟨Aj ?_, rfl⟩) (λ h => ⟨Aj ?_, rfl⟩))
  all_goals simp only [beq_iff_eq, decide_eq_true_eq, decide_eq_false_iff_not, Bool.false_eq_true, false_iff, gt_iff_lt] at *
  all_goals omega
 rintro _ _ ⟨rfl, rfl⟩
 refine Aa (λ h => ?_) (λ h => ?_)
 ·simp only [decide_eq_true_eq] at h
  exact fin (q := s.conj) (by rw [hj, if_pos h]) u3 n3
 ·simp only [decide_eq_false_iff_not] at h
  exact Jl n3 (by show _ < 4; decide) λ w4 u4 n4 _ => fin (q := 0) (by rw [hj, if_neg h]) (u3.trans u4) n4
theorem Az7 {a : Int} {K : Cells.T Aa8 -> Wp} (hK : ∀ w', Ext w w' -> K (scT (sc [a])) w') : Ac Tryz.prog 121 #[.int .i64 a] (.one (.agg Aa8)) K w := by
 refine Cy4 ?_
 unfold F121
 refine (St.start w).Af λ b1 w1 S1 e1 => S1.Rt λ b2 w2 S2 e2 hb2 => Xg λ w3 e3 => Vy λ w4 e4 => ?_
 have S4 := (S2.ext e3).ext e4
 refine Ae6 (s := Sc.zero) (S4.at_ 0 rfl) (by decide) λ w5 u5 n5 => ?_
 have S5 := P5 S4 (i := 0) rfl u5 n5
 have e : Sc.zero.note (cls a) (cnj a) = sc [a] := (U5 a).symm
 rw [e] at S5
 refine S5.lds 0 (scT (sc [a])) rfl (S5.Ad 1 rfl rfl rfl rfl λ w6 S6 _ => S6.lds 1 (scT (sc [a])) rfl (hK w6 S6.upd))
theorem Au2 {b : Nat} {s : Sc} {a : Int} (h : w.heap[b]? = some (scO s)) (hf : s.flags < 2 ^ 60) {K : Bool -> Wp}
  (hK : ∀ w', Upd (λ k => k = b) w w' -> w'.heap[b]? = some (scO (if joins s (cls a) (cnj a) then s.note (cls a) (cnj a) else s)) -> K (joins s (cls a) (cnj a)) w') :
  Ac Tryz.prog 122 #[.pointer (some (at0 b)), .int .i64 a] rB K w := by
 refine Cy3 ?_
 unfold F122
 simp only [Bx4, addr_add]
 refine Xg λ w1 e1 => Vy λ w2 e2 => ?_
 have e12 := e1.trans e2
 have h2 := e12.ext_get h
 generalize hc : cls a = c at *
 generalize hp : cnj a = p at *
 refine Ae (λ x W => x = (joins s c p, ()) /\ w2 = W) ?_ ?_
 ·have hj : joins s c p = if s.last = 1 /\ c = 2 then true else if apart s.last = true \/ apart c = true then false else if c = 4 \/ c = 5 \/ c = 8 \/ s.last = 7 then true else if Jd s.last c then true
   else if p = 1 /\ s.conj = 2 then true else if c = 14 then s.pict == 2 else if c = 6 then s.flags % 2 == 1 else false := rfl
  unfold scO at h2
  have l0 : ∀ {K : Int -> Wp}, K (s.last : Int) w2 -> ld (.int .i64) (at0 b) K w2 := λ hk => Dt h2 (x := (s.last : Int)) rfl hk
  refine Ae (λ x W => x = (decide (s.last = 1 /\ c = 2), ()) /\ w2 = W) ?_ ?_
  ·refine l0 (Aa (λ h => ⟨Aj ?_, rfl⟩) (λ h => ⟨Aj ?_, rfl⟩))
   all_goals simp only [beq_iff_eq, beq_eq_false_iff_ne, ne_eq, decide_eq_true_eq, Bool.false_eq_true, false_iff] at *
   all_goals omega
  rintro _ _ ⟨rfl, rfl⟩
  refine Aa (λ h => ?_) (λ h => ?_)
  ·simp only [decide_eq_true_eq] at h
   exact ⟨by rw [hj, if_pos h], rfl⟩
  simp only [decide_eq_false_iff_not] at h
  rw [if_neg h] at hj
  refine Ae (λ x W => x = (decide (apart s.last = true \/ apart c = true), ()) /\ w2 = W) ?_ ?_
  ·refine l0 (Ab2 (Aa (λ h => ⟨Aj ?_, rfl⟩) (λ h => Ab2 ⟨Aj ?_, rfl⟩)))
   all_goals simp only [decide_eq_true_eq] at *
   all_goals simp [h]
  rintro _ _ ⟨rfl, rfl⟩
  refine Aa (λ h => ?_) (λ h => ?_)
  ·simp only [decide_eq_true_eq] at h
   exact ⟨by rw [hj, if_pos h], rfl⟩
  simp only [decide_eq_false_iff_not] at h
  rw [if_neg h] at hj
  refine Ae (λ x W => x = (decide (c = 4 \/ c = 5 \/ c = 8 \/ s.last = 7), ()) /\ w2 = W) ?_ ?_
  ·refine Aa (λ h => ⟨Aj ?_, rfl⟩) (λ h1 => Aa (λ h => ⟨Aj ?_, rfl⟩) (λ h3 => Aa (λ h => ⟨Aj ?_, rfl⟩) (λ h4 => l0 ⟨Aj ?_, rfl⟩)))
   all_goals simp only [beq_iff_eq, beq_eq_false_iff_ne, ne_eq, decide_eq_true_eq] at *
   all_goals omega
  rintro _ _ ⟨rfl, rfl⟩
  refine Aa (λ h => ?_) (λ h => ?_)
  ·simp only [decide_eq_true_eq] at h
   exact ⟨by rw [hj, if_pos h], rfl⟩
  simp only [decide_eq_false_iff_not] at h
  rw [if_neg h] at hj
  refine l0 (Ap7 (Aa (λ h => ?_) (λ h => ?_)))
  ·exact ⟨by rw [hj, if_pos h], rfl⟩
  rw [if_neg (by rw [h]; decide)] at hj
  refine Ae (λ x W => x = (decide (p = 1 /\ s.conj = 2), ()) /\ w2 = W) ?_ ?_
  ·refine Aa (λ h => Dt h2 (x := (s.conj : Int)) rfl ⟨Aj ?_, rfl⟩) (λ h => ⟨Aj ?_, rfl⟩)
   all_goals simp only [beq_iff_eq, beq_eq_false_iff_ne, ne_eq, decide_eq_true_eq, Bool.false_eq_true, false_iff] at *
   all_goals omega
  rintro _ _ ⟨rfl, rfl⟩
  refine Aa (λ h => ?_) (λ h => ?_)
  ·simp only [decide_eq_true_eq] at h
   exact ⟨by rw [hj, if_pos h], rfl⟩
  simp only [decide_eq_false_iff_not] at h
  rw [if_neg h] at hj
  refine Aa (λ h => ?_) (λ h => ?_)
  ·simp only [beq_iff_eq] at h
   rw [if_pos (by omega)] at hj
   refine Dt h2 (x := (s.pict : Int)) rfl ⟨?_, rfl⟩
   rw [hj]
   exact Aj (by simp only [beq_iff_eq]; omega)
  simp only [beq_eq_false_iff_ne, ne_eq] at h
  rw [if_neg (by omega)] at hj
  refine Aa (λ h => ?_) (λ h => ?_)
  ·simp only [beq_iff_eq] at h
   rw [if_pos (by omega)] at hj
   refine Dt h2 (x := (s.flags : Int)) rfl (Ci (by decide) ⟨?_, rfl⟩)
   rw [hj, Int.tmod_eq_emod_of_nonneg (by omega)]
   exact Aj (by simp only [beq_iff_eq]; omega)
  ·simp only [beq_eq_false_iff_ne, ne_eq] at h
   rw [if_neg (by omega)] at hj
   exact ⟨by rw [hj], rfl⟩
 rintro _ _ ⟨rfl, rfl⟩
 refine Ae (λ _ W => Upd (λ k => k = b) w W /\ W.heap[b]? = some (scO (if joins s c p then s.note c p else s))) ?_ (λ _ W h => hK W h.1 h.2)
 refine Aa (λ h => ?_) (λ h => ?_)
 ·have h : joins s c p = true := h
  rw [if_pos h]
  exact Ae6 h2 hf λ w3 u3 n3 => ⟨(Upd.Hq e12).trans u3, n3⟩
 ·have h : joins s c p = false := h
  rw [if_neg (by rw [h]; decide)]
  exact ⟨Upd.Hq e12, h2⟩
theorem Ay8 {A : List Int} {s : Sl} {t : TypeId} {at_ : Nat} {y : Value} (hb : bk A at_ = true) (hl : A.length < 2 ^ 59) (Inv : Nat -> Wp) (Brk : World -> Prop)
  (hs : ∀ k W, Inv k W -> Aq W s t 1 (iv A)) (hx : ∀ k W W', Inv k W -> Ext W W' -> Inv k W')
  (hy : ∀ (i j : Nat) (W : World) (K : Bool -> Wp), Inv i W -> i < j -> bk A j = true -> (∀ k, i < k -> k < j -> bk A k = false) -> (∀ c W', (c = true -> Inv j W') -> (c = false -> Brk W') -> K c W') ->
   Bf Tryz.prog (do let d ← Deferred.ofValue y #[.int .i64 (j : Int)]; invoke d.target d.args : Sem Next) (.one (.one .bool)) K W)
  (h0 : Inv at_ w) {K : Unit -> Wp} (hK : ∀ W, Inv A.length W \/ Brk W -> K () W) :
  Ac Tryz.prog 93 #[s.v, .int .i64 (at_ : Int), y] (.tup []) K w := by
 refine A93 ?_
 unfold F93
 have hlen : A.length = s.len := by have := (hs _ _ h0).len1; rwa [List.length_map] at this
 refine Am (λ x W => ∃ i, i <= A.length /\ x = ((i : Int), ()) /\ bk A i = true /\ Inv i W) (λ x _ => ((A.length : Int) - x.1).toNat) ⟨at_, Ag4 hb, rfl, hb, h0⟩ ?_
 rintro _ W ⟨i, hi, rfl, hbi, hI⟩
 refine Aa (λ hc => ?_) (λ hc => ?_)
 ·simp only [decide_eq_true_eq] at hc
  have hil : i < A.length := by omega
  have ha : A[i]? = some A[i] := List.getElem?_eq_getElem hil
  refine Iu (c := .int .i64) (xs := A) (hs _ _ hI) (by omega) (x := A[i]) (by rw [Int.toNat_natCast]; exact ha) λ p => Az7 λ w1 e1 => ?_
  refine Bo λ b w2 e2 n2 hb2 _ => Yt n2 rfl rfl (by decide) λ w3 u3 n3 _ => ?_
  have e3 : Ext W w3 := (e1.trans e2).step u3 λ k hk => by have := e1.size; omega
  have n3 : w3.heap[b]? = some (scO (sc (A.take (i + 1)))) := by rw [Cc5 hbi ha]; exact n3
  have bW : W.heap.size <= b := by have := e1.size; omega
  have ew : W64 ((i : Int) + 1) = ((i + 1 : Nat) : Int) := by rw [wrap64 (by omega) (by omega)]; omega
  rw [ew]
  refine Ae (λ _ W' => Inv i W' /\ ∀ k, i < k -> k < A.length -> bk A k = false) ?_ ?_
  ·refine Am (λ x W' => ∃ k, i < k /\ k <= A.length /\ x = ((k : Int), ()) /\ Ext W W' /\ W'.heap[b]? = some (scO (sc (A.take k))) /\ ∀ q, i < q -> q < k -> bk A q = false) (λ x _ => ((A.length : Int) - x.1).toNat) ⟨i + 1, by omega, by omega, rfl, e3, n3, λ q h1 h2 => by omega⟩ ?_
   rintro _ W4 ⟨k, hik, hkl, rfl, e4, n4, hno⟩
   refine Aa (λ hc => ?_) (λ hc => ?_)
   ·simp only [decide_eq_true_eq] at hc
    have hkl : k < A.length := by omega
    have hk : A[k]? = some A[k] := List.getElem?_eq_getElem hkl
    have hI4 := hx _ _ _ hI e4
    have hfl := Bp6 (A.take k)
    rw [List.length_take] at hfl
    refine Iu (c := .int .i64) (xs := A) (hs _ _ hI4) (by omega) (x := A[k]) (by rw [Int.toNat_natCast]; exact hk) λ p => Au2 n4 (by omega) λ w5 u5 n5 => ?_
    have e5 : Ext W w5 := e4.step u5 λ q hq => by omega
    have hbk := Br3 hk (by omega)
    refine Aa (λ hj => ?_) (λ hj => ?_)
    ·have ew : W64 ((k : Int) + 1) = ((k + 1 : Nat) : Int) := by rw [wrap64 (by omega) (by omega)]; omega
     rw [if_pos hj, ← Ad2 hj] at n5
     have e : sc (A.take (k + 1)) = stp (sc (A.take k)) A[k] := by rw [List.take_add_one, hk]; exact Ai0 _ _
     rw [← e] at n5
     refine ⟨⟨k + 1, by omega, by omega, by rw [ew], e5, n5, λ q h1 h2 => ?_⟩, by rw [ew]; omega⟩
     by_cases hq : q = k
     ·rw [hq, hbk, hj]; rfl
     ·exact hno q h1 (by omega)
    ·rw [hj] at hbk
     refine hy i k w5 _ (hx _ _ _ hI e5) hik hbk hno λ c W' h1 h2 => Aa (λ hn => ?_) (λ hn => ?_)
     ·have hc : c = false := by cases c <;> simp_all
      exact hK W' (.inr (h2 hc))
     ·have hc : c = true := by cases c <;> simp_all
      exact ⟨⟨k, by omega, rfl, hbk, h1 hc⟩, by omega⟩
   ·simp only [decide_eq_false_iff_not] at hc
    exact ⟨hx _ _ _ hI e4, λ q h1 h2 => hno q h1 (by omega)⟩
  ·rintro _ W5 ⟨hI5, hno⟩
   rw [← hlen]
   exact hy i A.length W5 _ hI5 hil (Az6 A) hno λ c W' h1 h2 => hK W' (by cases c with
    | true => exact .inl (h1 rfl)
    | false => exact .inr (h2 rfl))
 ·simp only [decide_eq_false_iff_not] at hc
  have : i = A.length := by omega
  subst this
  exact hK W (.inl hI)
abbrev nv (l : List Nat) : List Value := l.map λ (n : Nat) => Value.int .i64 (n : Int)
theorem Ak6 {A : List Int} {s : Sl} {t : TypeId} (hs : Aq w s t 1 (iv A)) (hl : A.length < 2 ^ 40) {K : Sl -> Wp} (hK : ∀ s' w', Ah w' w.heap.size s' 3 1 (nv (cuts A)) -> Ext w w' -> K s' w') :
  Ac Tryz.prog 68 #[s.v] rS K w := by
 refine A68 ?_
 unfold F68
 refine Bo λ b1 w1 e1 n1 hb1 _ => Bo λ b2 w2 e2 n2 hb2 _ => Jl n2 Nat.one_pos λ w3 u3 n3 _ => ?_
 have e3 : Ext w w3 := (e1.trans e2).step u3 λ k hk => by have := e1.size; omega
 have hb12 : w.heap.size <= b2 := by have := e1.size; omega
 have hlt : b1 ≠ b2 := by have := lt_of_heap n1; omega
 have o3 : Ah w3 w.heap.size ⟨some (at0 b1), 1, 1⟩ 3 1 (nv [0]) := by
  refine ⟨rfl, Nat.le_refl _, .inr ⟨b1, 0, #[.int .i64 0], rfl, by omega, u3.get (e2.ext_get n1) hlt, by show 0 + 1 * 1 <= 1; decide, λ i v hv => ?_⟩⟩
  rw [Nat.zero_add]
  simpa using hv
 refine Ay8 (A := A) (s := s) (t := t) (at_ := 0) (U0 A) (by omega) (λ k W => ∃ o, W.heap[b2]? = some (.cells #[.slice o.a o.len o.cap] 26 (0, 0)) /\ Ah W w.heap.size o 3 1 (nv (Ku A k)) /\ Ext w W /\ k <= A.length) (λ _ => False) ?_ ?_ ?_ ?_ ?_
 ·rintro k W ⟨o, _, _, e, _⟩
  exact hs.ext e
 ·rintro k W W' ⟨o, h1, h2, h3, h4⟩ e
  exact ⟨o, e.ext_get h1, h2.ext e, h3.trans e, h4⟩
 ·rintro i j W K' ⟨o, h1, h2, h3, h4⟩ hij hbj hno hK'
  have hol := h2.len1
  rw [List.length_map] at hol
  have hcl := Xf A i
  refine func_x (caps := #[.pointer (some (at0 b2))]) (by kernel_rfl) ?_
  refine A94 ?_
  unfold F94
  refine Dt h1 (x := o) rfl (Bo λ b4 w4 e4 n4 hb4 _ => ?_)
  refine Du Ru Ru.ts_ (x := ⟨some (at0 b4), 1, 1⟩) (h2.ext e4) (Zl n4) (λ v hv => by rw [List.mem_singleton.1 hv]; rfl) (by
   show (o.len + 1 + (o.len + 1) / 4 + 512) * 8 <= 2 ^ 48
   omega) (by have := h3.size; have := e4.size; omega) λ o' w5 o5 l5 u5 k5 => ?_
  have n5 : w5.heap[b2]? = some (.cells #[.slice o.a o.len o.cap] 26 (0, 0)) := u5.get (e4.ext_get h1) λ hb => by
   obtain ⟨c, fr, hc⟩ := (h2.ext e4).in.Ec hb
   rw [e4.ext_get h1] at hc; cases hc
  refine Jl n5 Nat.one_pos λ w6 u6 n6 _ => hK' true w6 (λ _ => ⟨o', n6, ?_, ?_, Ag4 hbj⟩) (λ h => by cases h)
  ·have := o5.box n5 (by decide) u6
   have e : nv (Ku A j) = nv (Ku A i) ++ [.int .i64 (j : Int)] := by rw [Ar0 hij hbj hno]; simp
   rw [e]; exact this
  ·exact ((h3.trans e4).step u5 λ k hk => h2.Di hk).step u6 λ k hk => by omega
 ·refine ⟨⟨some (at0 b1), 1, 1⟩, n3, ?_, e3, Nat.zero_le _⟩
  rw [Aq9]
  exact o3
 ·rintro W (⟨o, h1, h2, h3, h4⟩ | h)
  ·exact Dt h1 (x := o) rfl (hK o W h2 h3)
  ·exact h.elim
end
end Go.Proofs.YtabcpghhfeplaaaGreat
