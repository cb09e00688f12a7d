/- What the law texts sameInts, holds and able answer. Conditions: texts below 2^44 letters. -/
import Derived.Test.YtocdfkeflakemaaDel
import Derived.Test.YtocdfkeflakemaaVxR
set_option linter.unusedSimpArgs false
set_option linter.unusedVariables false
namespace Go.Proofs.Ytocdfkeflakemaa
open Go Go.Vx
section
variable {w w' : World} {pb m : Nat} {b : Reg.Bk} {Z : Nat → Prop}

/-- a text that may lie anywhere -/
abbrev Txt (w : World) (s : Sl) (l : List Int) : Prop := SlX w s 1 (iv l)
theorem Txt.length {s : Sl} {l : List Int} (h : Txt w s l) : l.length = s.len := by have := h.len1; rwa [List.length_map] at this
/-- a text of one's own -/
theorem clone_r {x : Sl} {l : List Int} {K : Sl → World → Prop} (hx : Txt w x l) (hl : l.length ≤ 2 ^ 44) (h : ∀ s' w', IntsO w' w.heap.size s' l → Ext w w' → K s' w') :
    rawT Try.prog (.one (.one .sl)) (Builtin.append_ #[23, 23] 23 #[.slice none 0 0, .slice x.a x.len x.cap]) K w := by
  have hn := hx.length
  refine append_rx (s := ⟨none, 0, 0⟩) E23 u23 (SlOwn.nil w w.heap.size 3 1) hx (iv_one l) (by simp only; omega) (Nat.le_refl _) fun s' w2 o2 _ u2 _ => h s' w2 (by simpa using o2) (u2.mono ?_)
  rintro k _ ⟨p, hp, _⟩
  cases hp
theorem app_r {s x : Sl} {l l' : List Int} {B : Nat} {K : Sl → World → Prop} (hs : IntsO w B s l) (hx : Txt w x l') (hl : l.length + l'.length ≤ 2 ^ 44 + 2 ^ 43) (hB : B ≤ w.heap.size) (h : ∀ s' w', IntsO w' B s' (l ++ l') → Upd s.blk w w' → (∀ k, s'.blk k → s.blk k ∨ w.heap.size ≤ k) → K s' w') :
    rawT Try.prog (.one (.one .sl)) (Builtin.append_ #[23, 23] 23 #[.slice s.a s.len s.cap, .slice x.a x.len x.cap]) K w := by
  have hn := hx.length
  have hm := hs.length
  refine append_rx E23 u23 hs hx (iv_one l') (by omega) hB fun s' w2 o2 _ u2 hbk => h s' w2 ?_ u2 hbk
  have e : iv l ++ iv l' = iv (l ++ l') := by simp [iv]
  rw [e] at o2; exact o2

theorem box3 {b : Nat} {l : List Int} {fr : Nat × Nat} (hb : w.heap[b]? = some (.cells (iv l).toArray 3 fr)) : Ints w ⟨some (at0 b), l.length, l.length⟩ l := by
  have := SlIn.of_box (sz := 1) (n := l.length) hb (by simp)
  simpa using this

theorem sameInts_call {x y : Sl} {l l' : List Int} {K : Bool → World → Prop} (hx : Txt w x l) (hy : Txt w y l') (hl : l.length ≤ 2 ^ 60) (hK : ∀ w', Ext w w' → K (decide (l = l')) w') :
    callT Try.prog 30 #[.slice x.a x.len x.cap, .slice y.a y.len y.cap] (.one (.one .bool)) K w := by
  refine F30_calls ?_
  unfold F30
  have hn := hx.length
  have hm := hy.length
  refine sif_r (fun hc => ?_) (fun hc => ?_)
  · have hc : ¬ ((x.len : Nat) : Int) = ((y.len : Nat) : Int) := by simpa using hc
    have : false = decide (l = l') := by
      symm; rw [decide_eq_false_iff_not]; rintro rfl; omega
    rw [this]; exact hK w (Ext.refl w)
  have hc : x.len = y.len := by
    have : ((x.len : Nat) : Int) = ((y.len : Nat) : Int) := by simpa using hc
    omega
  refine join_r (fun _ w' => Ext w w' ∧ l = l') ?_ ?_
  · refine sloop_r (fun s' w' => Ext w w' ∧ ∃ n : Nat, n ≤ l.length ∧ s' = ((n : Int), ()) ∧ ∀ j, j < n → l[j]? = l'[j]?) (fun s' _ => (l.length - s'.1).toNat) ⟨Ext.refl w, 0, by omega, rfl, fun j hj => by omega⟩ ?_
    rintro _ w1 ⟨e1, n, hn', rfl, hall⟩
    dsimp only
    refine sif_r (fun hd => ?_) (fun hd => ?_)
    · have hd : n < l.length := by have := of_decide_eq_true hd; omega
      obtain ⟨u, hu⟩ : ∃ u, l[n]? = some u := ⟨_, List.getElem?_eq_getElem hd⟩
      obtain ⟨v, hv⟩ : ∃ v, l'[n]? = some v := ⟨_, List.getElem?_eq_getElem (by omega)⟩
      refine drew_r fun w2 e2 _ => ?_
      have e12 := e1.trans e2
      refine ix_ldX (c := .int .i64) (xs := l) (x := u) (hx.ext e12) (by omega) (by simpa using hu) fun p => ?_
      refine ix_ldX (c := .int .i64) (xs := l') (x := v) (hy.ext e12) (by omega) (by simpa using hv) fun p => ?_
      refine sif_r (fun he => ?_) (fun he => ?_)
      · have he : u ≠ v := by simpa using he
        have : false = decide (l = l') := by
          symm; rw [decide_eq_false_iff_not]; rintro rfl
          rw [hu] at hv; cases hv; exact he rfl
        rw [this]; exact hK w2 e12
      · have he : u = v := by simpa using he
        have e : IntKind.wrap .i64 ((n : Int) + 1) = ((n + 1 : Nat) : Int) := by rw [IntWalk.i64_in _ ⟨by omega, by omega⟩]; omega
        simp only [e]
        refine ⟨⟨e12, n + 1, hd, rfl, fun j hj => ?_⟩, by omega⟩
        by_cases h : j = n
        · subst h; rw [hu, hv, he]
        · exact hall j (by omega)
    · have hd : n = l.length := by have := of_decide_eq_false hd; omega
      refine ⟨e1, ?_⟩
      apply List.ext_getElem?
      intro j
      by_cases h : j < n
      · exact hall j h
      · rw [List.getElem?_eq_none (by omega), List.getElem?_eq_none (by omega)]
  · rintro _ w1 ⟨e1, he⟩
    have : true = decide (l = l') := by simp [he]
    rw [this]; exact hK w1 e1

theorem Upd.extOf {S : Nat → Prop} {w0 : World} (e : Ext w0 w) (u : Upd S w w') (hS : ∀ k, S k → w0.heap.size ≤ k) : Ext w0 w' := e.step u hS

theorem holds_call {a1 a2 : Int} {a3 : Sl} {l : List Int} {K : Bool → World → Prop} (hB : BankIn w pb m Z b) (hs : Txt w a3 l) (hg : (Reg.get b a1).2.1.length ≤ 2 ^ 60)
    (hK : ∀ w', Ext w w' → K (decide ((Reg.get b a1) = (a2, l, 0))) w') :
    callT Try.prog 17 #[.pointer (some (at0 pb)), .int .i64 a1, .int .i64 a2, .slice a3.a a3.len a3.cap] (.one (.one .bool)) K w := by
  refine F17_calls ?_
  unfold F17
  have S := St.start w
  refine get_call hB fun s w1 o1 e1 => ?_
  have S := S.ext e1
  refine S.newAgg rfl rfl rfl fun b2 w2 S e2 => ?_
  have e12 := e1.trans e2
  have o2 := o1.in.ext e2
  generalize Reg.get b a1 = g at *
  obtain ⟨kd, t, er⟩ := g
  dsimp only at *
  have no : ¬ (kd, t, er) = (a2, l, 0) → K false w2 := fun h => by
    have : false = decide ((kd, t, er) = (a2, l, 0)) := by simp [h]
    rw [this]; exact hK w2 e12
  refine sif_r (fun hc => ?_) (fun hc => ?_)
  · have hc : er = 0 := by simpa using hc
    refine S.ld 0 (x := kd) rfl rfl (sif_r (fun hd => ?_) (fun hd => ?_))
    · have hd : kd = a2 := by simpa using hd
      refine S.ld 0 (x := s) rfl rfl (sameInts_call o2.x (hs.ext e12) hg fun w3 e3 => ?_)
      have : decide (t = l) = decide ((kd, t, er) = (a2, l, 0)) := by simp [hc, hd]
      rw [this]; exact hK w3 (e12.trans e3)
    · have hd : ¬ kd = a2 := by simpa using hd
      exact no fun h => hd (by cases h; rfl)
  · have hc : ¬ er = 0 := by simpa using hc
    exact no fun h => hc (by cases h; rfl)

theorem able_call {K : Bool → World → Prop} (hK : ∀ w', Ext w w' → K true w') : callT Try.prog 12 #[] (.one (.one .bool)) K w := by
  refine F12_calls ?_
  unfold F12
  refine new_call (Z := fun _ => False) fun pb m w1 hB1 e1 h1 h2 => ?_
  have hM : ∀ k, BM pb m k → w.heap.size ≤ k := by rintro k (rfl | rfl) <;> assumption
  have go : ∀ {w2 : World} {s3 : Bool × Unit}, s3 = (false, ()) ∧ Ext w w2 ∧ BankIn w2 pb m (fun _ => False) ⟨Reg.put (fun _ => none) 97 (some (0, [1, 2])), 97⟩ → (sif s3.1 (
    K false) (
    callT Try.prog 21 #[(.pointer (some (at0 pb))), (.int .i64 (97 : Int))] (.tup [(.agg c28), (.one (.int .i64))]) fun (x6 : ((Int × Sl × Unit) × Int × Unit)) =>
    newO (.cells #[(.int .i64 (0 : Int)), (.slice none 0 0)] 28) fun b7 =>
    aggSt (at0 b7) (.agg (Cells.vals c28 x6.1).toArray) 2 <|
    sif (x6.2.1 == (0 : Int)) (
      ld (.int .i64) (at0 b7) fun (x8 : Int) =>
      sif (x8 == (0 : Int)) (
        ld (.sl) (⟨b7, 1, none⟩ : Addr) fun (x9 : Sl) =>
        newO (.cells #[(.int .i64 (1 : Int)), (.int .i64 (2 : Int))] 3) fun b10 =>
        callT Try.prog 30 #[(.slice x9.a x9.len x9.cap), (.slice (some (at0 b10)) 2 2)] (.one (.one .bool)) fun (x11 : Bool) =>
        K x11) (
        K false)) (
      K false))) w2 := by
    rintro w2 _ ⟨rfl, e2, hB2⟩
    refine sif_false ?_
    refine get_call hB2 fun s w3 o3 e3 => ?_
    have S := (St.start w2).ext e3
    refine S.newAgg rfl rfl rfl fun b7 w4 S e4 => ?_
    have hg : Reg.get ⟨Reg.put (fun _ => none) 97 (some (0, [1, 2])), 97⟩ 97 = (0, [1, 2], 0) := rfl
    rw [hg] at S o3 ⊢
    refine sif_true (S.ld 0 (x := (0 : Int)) rfl rfl (sif_true (S.ld 0 (x := s) rfl rfl ?_)))
    refine S.newO fun b10 w5 S e5 => ?_
    have ha : Ints w5 s [1, 2] := o3.in.ext (e4.trans e5)
    have hb' : w5.heap[b10]? = some (.cells (iv [1, 2]).toArray 3 (0, 0)) := S.at_ 0 rfl
    have hb : Ints w5 ⟨some (at0 b10), 2, 2⟩ [1, 2] := box3 hb'
    have hl : [(1 : Int), 2].length ≤ 2 ^ 60 := by simp
    refine sameInts_call (y := ⟨some (at0 b10), 2, 2⟩) ha.x hb.x hl fun w6 e6 => ?_
    rw [decide_eq_true rfl]
    exact hK w6 (e2.trans (e3.trans (e4.trans (e5.trans e6))))
  refine join_r _ ?_ fun s w2 h => go h
  refine sif_false ?_
  refine newO_r fun b4 w2 e2 n2 _ _ => ?_
  have n2' : w2.heap[b4]? = some (.cells (iv [1, 2]).toArray 3 (0, 0)) := n2
  have hb : Ints w2 ⟨some (at0 b4), 2, 2⟩ [1, 2] := box3 n2'
  refine yank_call (r := (0, ⟨some (at0 b4), 2, 2⟩, ())) (hB1.ext e2) hb (by simp) (fun _ h => h.elim) fun w3 hB3 u3 => ?_
  have hg : Reg.yank ⟨fun _ => none, 0⟩ 97 0 [1, 2] = (⟨Reg.put (fun _ => none) 97 (some (0, [1, 2])), 97⟩, 0) := rfl
  rw [hg] at hB3 ⊢
  exact ⟨rfl, (e1.trans e2).step u3 hM, hB3⟩
end
end Go.Proofs.Ytocdfkeflakemaa
