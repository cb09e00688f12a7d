/- What the law texts shown and sameShown do. Conditions: none beyond a bank. -/
import Derived.Test.YtocdfkeflakemaaRing
set_option linter.unusedSimpArgs false
set_option linter.unusedVariables false
namespace Go.Proofs.Ytocdfkeflakemaa
open Go Go.Vx
section
variable {w w' : World} {pb m : Nat} {b : Reg.Bk}

theorem E37 : ElemOk Try.prog 37 28 2 32 := ElemOk.of (z := .agg #[.int .i64 0, .slice none 0 0]) i37_ok i28_ok rfl rfl rfl (by decide)
theorem u37 : Try.prog.underlying 37 = some (.slice 28) := i37_ok.und

theorem get_len {Z : Nat → Prop} (hB : BankIn w pb m Z b) (x : Int) : (Reg.get b x).2.1.length ≤ 140000 := by
  obtain ⟨es, _, hh⟩ := hB.map
  unfold Reg.get
  dsimp only
  split
  · simp
  · generalize (if (Reg.fnd x).1.1 = 34 then b.to else (Reg.fnd x).1.1) = k
    have := hh k
    generalize mget es k = v at this
    generalize b.held k = r at this ⊢
    match v, r, this with
    | none, none, _ => simp
    | some v, some r, ⟨s, _, _, _, h2, _⟩ => exact h2

/-- what every name shows -/
abbrev atn (i : Nat) : Int := (i : Int) - 2
structure ShownIn (w : World) (B : Nat) (s e : Sl) (xs : List (Cells.T c28)) (b : Reg.Bk) (n : Nat) : Prop where
  row : SlOwn w B s 28 2 (flat c28 xs)
  len : xs.length = n
  err : IntsO w B e ((List.range n).map fun i => (Reg.get b (atn i)).2.2)
  txt : ∀ (i : Nat) (x : Cells.T c28), xs[i]? = some x → x.1 = (Reg.get b (atn i)).1 ∧ IntsO w B x.2.1 (Reg.get b (atn i)).2.1 ∧ ∀ k, x.2.1.blk k → ¬ e.blk k

theorem ShownIn.ty {S : Nat → Prop} {B : Nat} {s e : Sl} {xs : List (Cells.T c28)} {n : Nat} (h : ShownIn w B s e xs b n) (u : Upd S w w') (h2 : NoTy w S 28) (h3 : NoTy w S 3) : ShownIn w' B s e xs b n :=
  ⟨h.row.ty u h2, h.len, h.err.ty u h3, fun i x hx => let ⟨a, c, d⟩ := h.txt i x hx; ⟨a, c.ty u h3, d⟩⟩
theorem ShownIn.ext {B : Nat} {s e : Sl} {xs : List (Cells.T c28)} {n : Nat} (h : ShownIn w B s e xs b n) (u : Ext w w') : ShownIn w' B s e xs b n :=
  h.ty u (fun _ h => h.elim) (fun _ h => h.elim)
theorem ShownIn.mono {B B' : Nat} {s e : Sl} {xs : List (Cells.T c28)} {n : Nat} (h : ShownIn w B s e xs b n) (hB : B' ≤ B) : ShownIn w B' s e xs b n :=
  ⟨h.row.mono hB, h.len, h.err.mono hB, fun i x hx => let ⟨a, c, d⟩ := h.txt i x hx; ⟨a, c.mono hB, d⟩⟩

theorem shown_call {Z : Nat → Prop} {K : (Sl × Sl × Unit) → World → Prop} (hB : BankIn w pb m Z b) (hK : ∀ s e xs w', ShownIn w' w.heap.size s e xs b 132 → Ext w w' → K (s, e, ()) w') :
    callT Try.prog 18 #[.pointer (some (at0 pb))] (.tup [(.one .sl), (.one .sl)]) K w := by
  refine F18_calls ?_
  unfold F18
  refine join_r (fun s' w' => ∃ xs, ShownIn w' w.heap.size s'.1 s'.2.1 xs b 132 ∧ Ext w w') ?_ fun s' w' ⟨xs, h, e⟩ => hK _ _ xs w' h e
  refine sloop_r (fun s' w' => ∃ (n : Nat) (xs : List (Cells.T c28)), n ≤ 132 ∧ s'.2.2.1 = atn n ∧ ShownIn w' w.heap.size s'.1 s'.2.1 xs b n ∧ Ext w w') (fun s' _ => (130 - s'.2.2.1).toNat)
    ⟨0, [], by omega, rfl, ⟨SlOwn.nil _ _ _ _, rfl, SlOwn.nil _ _ _ _, fun i x hx => by simp at hx⟩, Ext.refl w⟩ ?_
  rintro ⟨sl, se, _, ⟨⟩⟩ w1 ⟨n, xs, hn, rfl, hSh, e1⟩
  dsimp only at hSh ⊢
  refine sif_r (fun hc => ?_) (fun hc => ?_)
  · have hc : n < 132 := by have := of_decide_eq_true hc; unfold atn at this; omega
    have en : IntKind.wrap .i64 (atn n + 1) = atn (n + 1) := by unfold atn; rw [IntWalk.i64_in _ ⟨by omega, by omega⟩]; omega
    simp only [en]
    have hgl := get_len hB (atn n)
    refine get_call (hB.ext e1) fun s2 w2 o2 e2 => ?_
    have S := (St.start w1).ext e2
    refine S.newAgg rfl rfl rfl fun b6 w3 S e3 => S.drew fun w4 S e4 _ => ?_
    have e14 := e2.trans (e3.trans e4)
    generalize hg : Reg.get b (atn n) = g at hgl o2 S
    obtain ⟨gk, gt, ge⟩ := g
    dsimp only at hgl o2 S ⊢
    refine S.ld 0 (x := gk) rfl rfl (S.ld 0 (x := s2) rfl rfl ?_)
    refine clone_r (o2.in.x.ext (e3.trans e4)) (by omega) fun s5 w5 o5 e5 => ?_
    have S := S.ext e5
    refine S.keep 0 rfl rfl (S.newO fun b10 w6 S e6 => ?_)
    have e16 := e14.trans (e5.trans e6)
    have h6 := hSh.ext e16
    have hll := h6.row.lenR (cs := c28) (by decide)
    have hone : SlIn w6 ⟨some (at0 b10), 1, 1⟩ 28 2 [.int .i64 gk, .slice s5.a s5.len s5.cap] := SlIn.of_box (n := 1) (sz := 2) (S.at_ 0 rfl) rfl
    have hlen := h6.len
    have hb6 : w.heap.size ≤ w6.heap.size := (e1.trans e16).size
    refine append_r (x := ⟨some (at0 b10), 1, 1⟩) E37 u37 h6.row hone (fun v hv => by simp at hv; rcases hv with rfl | rfl <;> rfl) (show (sl.len + 1 + (sl.len + 1) / 4 + 512) * 32 ≤ _ by omega) hb6 fun s7 w7 o7 _ u7 hbk7 => ?_
    have hno := fun {t : TypeId} (ht : (28 : TypeId) ≠ t) => NoTy.blk h6.row.in ht
    have o5' := ((o5.in.ext e6).ty u7 (hno (by decide)))
    have err7 := h6.err.ty u7 (hno (by decide))
    have e17 : Ext w w7 := (e1.trans e16).step u7 fun k hk => h6.row.blk_ge hk
    refine newO_r fun b12 w8 e8 n8 hb12 _ => ?_
    have n8' : w8.heap[b12]? = some (.cells (iv [ge]).toArray 3 (0, 0)) := n8
    have h8 : Ints w8 ⟨some (at0 b12), 1, 1⟩ [ge] := box3 n8'
    have err8 := err7.ext e8
    refine app_r (x := ⟨some (at0 b12), 1, 1⟩) err8 h8.x (by simp; omega) (e17.trans e8).size fun s9 w9 o9 u9 hbk9 => ?_
    have e19 : Ext w w9 := (e17.trans e8).step u9 fun k hk => err8.blk_ge hk
    have hno3 := NoTy.blk (t' := 28) err8.in (by decide)
    refine ⟨⟨n + 1, xs ++ [(gk, s5, ())], hc, rfl, ⟨?_, by simp [hlen], ?_, ?_⟩, e19⟩, by unfold atn; omega⟩
    · rw [flat_append]
      exact (o7.ext e8).ty u9 hno3
    · rw [List.range_succ, List.map_append]
      simp only [List.map_cons, List.map_nil, hg]
      exact o9
    · intro i x hx
      by_cases hi : i < xs.length
      · rw [List.getElem?_append_left hi] at hx
        obtain ⟨h1, h2, h3⟩ := h6.txt i x hx
        have h2' := (h2.ty u7 (hno (by decide))).ext e8
        refine ⟨h1, h2'.upd u9 fun k _ hk hk' => h3 k hk hk', fun k hk hk' => ?_⟩
        rcases hbk9 k hk' with h | h
        · exact h3 k hk h
        · have := h2'.in.blk_lt hk; omega
      · rw [List.getElem?_append_right (by omega)] at hx
        have hil : i - xs.length < 1 := by have := (List.getElem?_eq_some_iff.1 hx).1; simpa using this
        have hin : i = n := by omega
        subst hin
        rw [show i - xs.length = 0 by omega] at hx
        cases hx
        rw [hg]
        have hne : ∀ k, s5.blk k → ¬ se.blk k := fun k hk hk' => by
          have h1 := o5.blk_ge hk
          have h2 := hSh.err.in.blk_lt hk'
          have := e14.size
          omega
        have o5x : IntsO w8 w.heap.size s5 gt := (((o5.mono (e1.trans e14).size).ext e6).ty u7 (hno (by decide))).ext e8
        refine ⟨rfl, o5x.upd u9 fun k _ hk hk' => hne k hk hk', fun k hk hk' => ?_⟩
        rcases hbk9 k hk' with h | h
        · exact hne k hk h
        · have := o5x.in.blk_lt hk; omega
  · have hc : n = 132 := by have := of_decide_eq_false hc; unfold atn at this; omega
    subst hc
    exact ⟨xs, hSh, e1⟩

theorem sameShown_call {Z : Nat → Prop} {b' : Reg.Bk} {B : Nat} {s e : Sl} {xs : List (Cells.T c28)} {K : Bool → World → Prop} (hB : BankIn w pb m Z b') (hs : ShownIn w B s e xs b 132) (hsame : ∀ x, Reg.get b' x = Reg.get b x) (hK : ∀ w', Ext w w' → K true w') :
    callT Try.prog 20 #[.pointer (some (at0 pb)), .slice s.a s.len s.cap, .slice e.a e.len e.cap] (.one (.one .bool)) K w := by
  refine F20_calls ?_
  unfold F20
  refine shown_call hB fun s1 e1 xs1 w1 h1 u1 => ?_
  dsimp only
  have hl := hs.row.lenR (cs := c28) (by decide)
  have hl1 := h1.row.lenR (cs := c28) (by decide)
  have hx := hs.len
  have hx1 := h1.len
  refine join_r (fun _ w' => Ext w1 w') ?_ ?_
  · refine sloop_r (fun s' w' => ∃ n : Nat, n ≤ 132 ∧ s' = ((n : Int), ()) ∧ Ext w1 w') (fun s' _ => (132 - s'.1).toNat) ⟨0, by omega, rfl, Ext.refl _⟩ ?_
    rintro _ w2 ⟨n, hn, rfl, u2⟩
    dsimp only
    refine sif_r (fun hc => ?_) (fun _ => u2)
    have hc : n < 132 := by have := of_decide_eq_true hc; omega
    have en : IntKind.wrap .i64 ((n : Int) + 1) = ((n + 1 : Nat) : Int) := by rw [IntWalk.i64_in _ ⟨by omega, by omega⟩]; omega
    simp only [en]
    obtain ⟨x, hxx⟩ : ∃ x, xs[n]? = some x := ⟨_, List.getElem?_eq_getElem (by omega)⟩
    obtain ⟨y, hyy⟩ : ∃ y, xs1[n]? = some y := ⟨_, List.getElem?_eq_getElem (by omega)⟩
    obtain ⟨g1, g2, _⟩ := hs.txt n x hxx
    obtain ⟨g3, g4, _⟩ := h1.txt n y hyy
    rw [hsame] at g3 g4
    have hgl := get_len hB (atn n)
    rw [hsame] at hgl
    refine join_r (fun s' w' => s' = (false, ()) ∧ Ext w1 w') ?_ ?_
    · refine drew_r fun w3 u3 _ => ?_
      have u13 := u2.trans u3
      have hr : SlIn w3 s 28 c28.length (flat c28 xs) := hs.row.in.ext (u1.trans u13)
      have hr1 : SlIn w3 s1 28 c28.length (flat c28 xs1) := h1.row.in.ext u13
      refine ix_ldf0 (cs := c28) (c := .int .i64) (xs := xs) (x := x) (y := x.1) hr (by omega) (by simpa using hxx) rfl fun _ => ?_
      refine ix_ldf0 (cs := c28) (c := .int .i64) (xs := xs1) (x := y) (y := y.1) hr1 (by omega) (by simpa using hyy) rfl fun _ => ?_
      refine sif_r (fun hd => ?_) (fun _ => ?_)
      · rw [g1, g3] at hd; simp at hd
      · refine ix_ldf (cs := c28) (c := .sl) (xs := xs) (x := x) (y := x.2.1) (j := 1) hr (by omega) (by simpa using hxx) rfl fun _ => ?_
        refine ix_ldf (cs := c28) (c := .sl) (xs := xs1) (x := y) (y := y.2.1) (j := 1) hr1 (by omega) (by simpa using hyy) rfl fun _ => ?_
        refine sameInts_call (g2.in.ext (u1.trans u13)).x (g4.in.ext u13).x (by omega) fun w4 u4 => ?_
        rw [decide_eq_true rfl]
        exact ⟨rfl, u13.trans u4⟩
    · rintro _ w3 ⟨rfl, u3⟩
      exact sif_false ⟨⟨n + 1, hc, rfl, u3⟩, by omega⟩
  · intro _ w2 u2
    refine sameInts_call (hs.err.in.ext (u1.trans u2)).x (h1.err.in.ext u2).x (by simp) fun w3 u3 => ?_
    rw [decide_eq_true (by simp only [hsame])]
    exact hK w3 (u1.trans (u2.trans u3))
end
end Go.Proofs.Ytocdfkeflakemaa
