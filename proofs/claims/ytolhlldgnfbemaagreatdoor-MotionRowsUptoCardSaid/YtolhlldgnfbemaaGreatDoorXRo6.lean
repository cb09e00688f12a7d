/- YtolhlldgnfbemaaGreatDoorXRo6: parts of the proof, put together by program. -/
import Derived.Test.YtolhlldgnfbemaaGreatDoorXRo5
set_option linter.unusedVariables false
set_option linter.unusedSimpArgs false
set_option linter.unusedSectionVars false
noncomputable section
set_option maxRecDepth 100000
namespace Go.Proofs.YtolhlldgnfbemaaGreatDoor
open Go Go.Vx Cdc Trx Gly Clu Lns Obx Mot
abbrev LdT := Cells.T c83 × Int × Unit
abbrev ldT (l : Ld) : LdT := ((l.1.1, l.1.2.1, l.1.2.2, ()), l.2, ())
abbrev ldZ : Obj := .cells #[.int .i64 0, .int .i64 0, .int .i64 0] 83 (0, 0)
abbrev mvO (p : Nat) (s c k : Int) (counted : Bool) (arg goal : Int) (past big : Bool) (r : RwT) : Obj :=
 .cells #[.pointer (some (at0 p)), .int .i64 s, .int .i64 c, .int .i64 k, .bool counted, .int .i64 arg, .int .i64 goal, .bool past, .bool big, .int .i64 r.1, .int .i64 r.2.1, .int .i64 r.2.2.1, .int .i64 r.2.2.2.1, .int .i64 r.2.2.2.2.1, .slice r.2.2.2.2.2.1.a r.2.2.2.2.2.1.len r.2.2.2.2.2.1.cap, .slice r.2.2.2.2.2.2.1.a r.2.2.2.2.2.2.1.len r.2.2.2.2.2.2.1.cap] 176 (0, 0)
structure Dk (w : World) (b p : Nat) (A : List Int) (x count arg goal : Int) (past big : Bool) (r : RwT) : Prop where
 tx : TxA w p A
 obj : w.heap[b]? = some (mvO p (Bj A x past : Int) ((Aq A x past).2 : Int) (kOf count : Int) (decide (0 < count)) arg goal past big r)
 row : Gv w A (Aq A x past).1 r
section
variable {w w' : World} {b p : Nat} {A : List Int} {x count arg goal : Int} {past big : Bool} {r : RwT}
theorem Dk.ext (h : Dk w b p A x count arg goal past big r) (e : Ext w w') : Dk w' b p A x count arg goal past big r := ⟨h.tx.ext e, e.ext_get h.obj, h.row.ext e⟩
theorem Dk.tK (h : Dk w b p A x count arg goal past big r) {K : Addr -> Option Addr -> Wp} (hK : K (at0 b) (some (at0 p)) w) : nn (some (at0 b)) (λ q => ld (.ptr) q (K q)) w := Ap (Cm (off := 0) h.obj rfl hK)
theorem Dk.cK (h : Dk w b p A x count arg goal past big r) {K : Addr -> Int -> Wp} (hK : K (at0 b) ((Aq A x past).2 : Int) w) : nn (some (at0 b)) (λ q => ld (.int .i64) (q.add 2) (K q)) w := Ap (Cm (off := 2) h.obj rfl hK)
theorem Dk.kK (h : Dk w b p A x count arg goal past big r) {K : Addr -> Int -> Wp} (hK : K (at0 b) (kOf count : Int) w) : nn (some (at0 b)) (λ q => ld (.int .i64) (q.add 3) (K q)) w := Ap (Cm (off := 3) h.obj rfl hK)
theorem Dk.Ap0 (h : Dk w b p A x count arg goal past big r) {K : Addr -> Bool -> Wp} (hK : K (at0 b) (decide (0 < count)) w) : nn (some (at0 b)) (λ q => ld (.bool) (q.add 4) (K q)) w := Ap (Cm (off := 4) h.obj rfl hK)
theorem Dk.Cl3 (h : Dk w b p A x count arg goal past big r) {K : Addr -> Int -> Wp} (hK : K (at0 b) arg w) : nn (some (at0 b)) (λ q => ld (.int .i64) (q.add 5) (K q)) w := Ap (Cm (off := 5) h.obj rfl hK)
theorem Dk.Cb4 (h : Dk w b p A x count arg goal past big r) {K : Addr -> Int -> Wp} (hK : K (at0 b) goal w) : nn (some (at0 b)) (λ q => ld (.int .i64) (q.add 6) (K q)) w := Ap (Cm (off := 6) h.obj rfl hK)
theorem Dk.Ci4 (h : Dk w b p A x count arg goal past big r) {K : Addr -> Bool -> Wp} (hK : K (at0 b) past w) : nn (some (at0 b)) (λ q => ld (.bool) (q.add 7) (K q)) w := Ap (Cm (off := 7) h.obj rfl hK)
theorem Dk.Bb5 (h : Dk w b p A x count arg goal past big r) {K : Addr -> Int -> Wp} (hK : K (at0 b) r.1 w) : nn (some (at0 b)) (λ q => ld (.int .i64) (q.add 9) (K q)) w := Ap (Cm (off := 9) h.obj rfl hK)
theorem Dk.Am2 (h : Dk w b p A x count arg goal past big r) {K : Addr -> Int -> Wp} (hK : K (at0 b) r.2.2.2.2.1 w) : nn (some (at0 b)) (λ q => ld (.int .i64) ((q.add 9).add 4) (K q)) w := Ap (Cm (off := 13) h.obj rfl hK)
theorem U2 {o : Array Value} {off : Nat} {r : RwT} (h : (o.toList.drop off).take 7 = Cells.vals Bg r) : ∀ (j : Nat) v, (Cells.vals Bg r)[j]? = some v -> o[off + j]? = some v := by
 intro j v hv
 rw [← h, List.getElem?_take] at hv
 split at hv
 ·rw [List.getElem?_drop] at hv
  simpa using hv
 ·cases hv
theorem Dk.Wq (h : Dk w b p A x count arg goal past big r) {K : Addr -> RwT -> Wp} (hK : K (at0 b) r w) : nn (some (at0 b)) (λ q => lds Bg (q.add 9) (K q)) w :=
 Ap (Og (off := 9) h.obj (U2 (by rfl)) hK)
theorem Dk.keepRow (h : Dk w b p A x count arg goal past big r) {K : World -> Prop} (hK : K w) : keep (λ w => Aj w ((at0 b).add 9) 0 (Cells.vals Bg r)) K w :=
 Ar (Ep (off := 9) _ 0 λ j v hv => by rw [Nat.zero_add]; exact cell_of h.obj (U2 (r := r) (by rfl) j v hv)) hK
theorem Dk.Cb3 (h : Dk w b p A x count arg goal past big r) {K : World -> Prop} (hK : K w) : keep (λ w => w.cell? ((at0 b).add 2) = some (Cell.val (.int .i64) ((Aq A x past).2 : Int))) K w := Ar (cell_of (off := 2) h.obj rfl) hK
theorem Dk.Bp3 (h : Dk w b p A x count arg goal past big r) {K : World -> Prop} (hK : K w) : keep (λ w => w.cell? ((at0 b).add 3) = some (Cell.val (.int .i64) (kOf count : Int))) K w := Ar (cell_of (off := 3) h.obj rfl) hK
theorem Dk.Bb2 (h : Dk w b p A x count arg goal past big r) {K : World -> Prop} (hK : K w) : keep (λ w => w.cell? ((at0 b).add 5) = some (Cell.val (.int .i64) arg)) K w := Ar (cell_of (off := 5) h.obj rfl) hK
theorem Dk.Bp4 (h : Dk w b p A x count arg goal past big r) {K : World -> Prop} (hK : K w) : keep (λ w => w.cell? ((at0 b).add 6) = some (Cell.val (.int .i64) goal)) K w := Ar (cell_of (off := 6) h.obj rfl) hK
theorem Dk.Zu (h : Dk w b p A x count arg goal past big r) {K : World -> Prop} (hK : K w) : keep (λ w => w.cell? (at0 b) = some (Cell.val (.ptr) (some (at0 p)))) K w := Ar (cell_of (off := 0) h.obj rfl) hK
theorem Dk.Bx1 (h : Dk w b p A x count arg goal past big r) {K : World -> Prop} (hK : K w) : keep (λ w => w.cell? (((at0 b).add 9).add 4) = some (Cell.val (.int .i64) r.2.2.2.2.1)) K w := Ar (cell_of (off := 13) h.obj rfl) hK
theorem Gg {W w0 : World} {b1 : Nat} {l : Ld} {K : LdT -> Wp} (S : St (λ _ => False) w0 W [(b1, ldZ)]) (hK : ∀ w', Ext w0 w' -> K (ldT l) w') :
  Ad (at0 b1) (.agg (Cells.vals c83 (ldT l).1).toArray) 3 (lds c83 (at0 b1) λ y => K (y, (ldT l).2.1, ())) W :=
 S.Ad 0 rfl rfl rfl rfl λ w1 S1 _ => S1.lds 0 (ldT l).1 rfl (hK w1 S1.upd)
theorem Ez {K : LdT -> Wp} (hK : ∀ w', Ext w w' -> K (ldT (noP 80)) w') : Aa Tryz.prog 179 #[] (.tup [(.agg c83), (.one (.int .i64))]) K w := by
 refine De7 ?_
 unfold F179
 exact (St.start w).Ae λ b1 w1 S1 e1 => S1.Ad 0 rfl rfl rfl rfl λ w2 S2 _ => S2.lds 0 (ldT (noP 80)).1 rfl (hK w2 S2.upd)
theorem Jj (h : Dk w b p A x count arg goal past big r) {n : Nat} {kind : Int} {K : LdT -> Wp} (hK : ∀ w', Ext w w' -> K (ldT (Gu A n kind)) w') :
  Aa Tryz.prog 180 #[.pointer (some (at0 b)), .int .i64 (n : Int), .int .i64 kind] (.tup [(.agg c83), (.one (.int .i64))]) K w := by
 refine De6 ?_
 unfold F180
 refine (St.start w).Ae λ b1 w1 S1 e1 => (h.ext e1).tK (Ah3 (h.ext e1).tx λ w2 e2 => ?_)
 exact (S1.ext e2).Ad 0 rfl rfl rfl rfl λ w3 S3 _ => S3.lds 0 (ldT (Gu A n kind)).1 rfl (hK w3 S3.upd)
theorem Sm (h : Dk w b p A x count arg goal past big r) {K : Int -> Wp} (hK : ∀ w', Ext w w' -> K (Iw A (Aq A x past).1 past : Int) w') :
  Aa Tryz.prog 181 #[.pointer (some (at0 b))] rI K w := by
 refine De5 ?_
 unfold F181
 have fw := h.row.few
 unfold Iw at hK
 refine h.Ci4 (Ac (λ hp => ?_) (λ hp => ?_))
 ·refine h.Wq (Gp h.row λ w1 e1 => ?_)
  have := hK w1 e1
  rw [if_pos hp] at this; exact this
 ·refine h.Wq (Gp h.row λ w1 e1 => ?_)
  have := hK w1 e1
  rw [if_neg (by rw [hp]; decide)] at this
  rw [wrap64 (by omega) (by omega)]
  have e : (if (0 : Int) > (((Ai A (Aq A x past).1).length : Nat) : Int) - 1 then (0 : Int) else (((Ai A (Aq A x past).1).length : Nat) : Int) - 1) = (((Ai A (Aq A x past).1).length - 1 : Nat) : Int) := by split <;> omega
  rw [e]; exact this
theorem Dk.bounds (h : Dk w b p A x count arg goal past big r) : (Aq A x past).2 <= Iw A (Aq A x past).1 past /\ Iw A (Aq A x past).1 past <= (Ai A (Aq A x past).1).length /\ (Ai A (Aq A x past).1).length <= 1048576 /\ 1 <= kOf count /\ kOf count <= 9999 /\ (Aq A x past).1 <= brs A /\ (Aq A x past).1 <= 1048576 := by
 have h1 := Bm6 A x past
 have h2 := h.row.few
 have h3 := h.row.row
 have h4 := Ku A
 have h5 := h.row.len
 exact ⟨h1.1, h1.2, h2.1, Bx3 count, Ce8 count, h3, by omega⟩
theorem Bg9 (h : Dk w b p A x count arg goal past big r) {a' : Int} {K : LdT -> Wp} (hK : ∀ w', Ext w w' -> K (ldT (Cb A x 1 count a' past)) w') :
  Aa Tryz.prog 134 #[.pointer (some (at0 b))] (.tup [(.agg c83), (.one (.int .i64))]) K w := by
 refine Dh4 ?_
 unfold F134
 obtain ⟨m1, m2, m3, m4, m5, m6, m7⟩ := h.bounds
 rw [Bj1] at hK
 refine (St.start w).Ae λ b1 w1 S1 e1 => ?_
 have h1 := h.ext e1
 refine h1.cK (Ac (λ hc => ?_) (λ hc => ?_))
 ·simp only [beq_iff_eq] at hc
  rw [if_pos (by omega)] at hK
  exact Ez λ w2 e2 => Gg (S1.ext e2) hK
 ·simp only [beq_eq_false_iff_ne, ne_eq] at hc
  rw [if_neg (by omega)] at hK
  refine S1.drew λ w2 S2 e2 _ => ?_
  have h2 := h1.ext e2
  refine h2.Wq (h2.cK (h2.kK ?_))
  rw [wrap64 (by omega) (by omega)]
  refine Ef h2.row λ w3 e3 => Jj (h2.ext e3) λ w4 e4 => Gg ((S2.ext e3).ext e4) ?_
  have e : Au A (Aq A x past).1 (((Aq A x past).2 : Int) - (kOf count : Int)) = Vk A ((Aq A x past).1, (Aq A x past).2 - kOf count) := by
   unfold Vk
   dsimp only
   rcases Nat.le_total (Aq A x past).2 (kOf count) with u | u
   ·rw [Gi (by omega), Gi (c := (((Aq A x past).2 - kOf count : Nat) : Int)) (by omega)]
   ·congr 1; omega
  rw [e]; exact hK
theorem At5 (h : Dk w b p A x count arg goal past big r) {a' : Int} {K : LdT -> Wp} (hK : ∀ w', Ext w w' -> K (ldT (Cb A x 2 count a' past)) w') :
  Aa Tryz.prog 135 #[.pointer (some (at0 b))] (.tup [(.agg c83), (.one (.int .i64))]) K w := by
 refine Dh3 ?_
 unfold F135
 obtain ⟨m1, m2, m3, m4, m5, m6, m7⟩ := h.bounds
 rw [Ad4] at hK
 refine (St.start w).Ae λ b1 w1 S1 e1 => S1.drew λ w2 S2 e2 _ => ?_
 have h2 := (h.ext e1).ext e2
 refine h2.cK (Sm h2 λ w3 e3 => (h2.ext e3).Cb3 (Ac (λ hc => ?_) (λ hc => ?_)))
 ·simp only [beq_iff_eq] at hc
  rw [if_pos (by omega)] at hK
  exact Ez λ w4 e4 => Gg ((S2.ext e3).ext e4) hK
 ·simp only [beq_eq_false_iff_ne, ne_eq] at hc
  rw [if_neg (by omega)] at hK
  refine (S2.ext e3).drew λ w4 S4 e4 _ => ?_
  have h4 := (h2.ext e3).ext e4
  refine h4.Wq (h4.cK (h4.kK (Sm h4 λ w5 e5 => ?_)))
  have h5 := h4.ext e5
  refine h5.Bp3 (h5.Cb3 (h5.keepRow ?_))
  rw [wrap64 (by omega) (by omega)]
  have em : (if ((Iw A (Aq A x past).1 past : Nat) : Int) < ((Aq A x past).2 : Int) + (kOf count : Int) then ((Iw A (Aq A x past).1 past : Nat) : Int) else ((Aq A x past).2 : Int) + (kOf count : Int)) = ((min ((Aq A x past).2 + kOf count) (Iw A (Aq A x past).1 past) : Nat) : Int) := by split <;> omega
  rw [em]
  exact Ef h5.row λ w6 e6 => Jj (h5.ext e6) λ w7 e7 => Gg (((S4.ext e5).ext e6).ext e7) hK
theorem Ap3 (A : List Int) (x count arg : Int) (past : Bool) : Cb A x 3 count arg past = Gu A (Bc A (Aq A x past).1).from_ 0 := by
 unfold Cb Aq
 dsimp only
 rw [Em, if_neg (by decide), if_neg (by decide), if_pos rfl]
theorem Ax3 (A : List Int) (x count arg : Int) (past : Bool) : Cb A x 4 count arg past = Gu A (Au A (Aq A x past).1 (Vw A (Aq A x past).1)) 0 := by
 unfold Cb Aq
 dsimp only
 rw [Em, if_neg (by decide), if_neg (by decide), if_neg (by decide), if_pos rfl]
theorem Bj0 (A : List Int) (x count arg : Int) (past : Bool) : Cb A x 6 count arg past = Gu A (Au A (Aq A x past).1 (min ((kOf count : Int) - 1) (Iw A (Aq A x past).1 past))) 0 := by
 unfold Cb Aq Iw
 dsimp only
 rw [Em, if_neg (by decide), if_neg (by decide), if_neg (by decide), if_neg (by decide), if_neg (by decide), if_pos rfl]
theorem As0 (h : Dk w b p A x count arg goal past big r) {a' : Int} {K : LdT -> Wp} (hK : ∀ w', Ext w w' -> K (ldT (Cb A x 3 count a' past)) w') :
  Aa Tryz.prog 136 #[.pointer (some (at0 b))] (.tup [(.agg c83), (.one (.int .i64))]) K w := by
 refine Dh2 ?_
 unfold F136
 rw [Ap3] at hK
 refine (St.start w).Ae λ b1 w1 S1 e1 => (h.ext e1).Bb5 ?_
 rw [h.row.f]
 exact Jj (h.ext e1) λ w2 e2 => Gg (S1.ext e2) hK
theorem Bg7 (h : Dk w b p A x count arg goal past big r) {a' : Int} {K : LdT -> Wp} (hK : ∀ w', Ext w w' -> K (ldT (Cb A x 4 count a' past)) w') :
  Aa Tryz.prog 137 #[.pointer (some (at0 b))] (.tup [(.agg c83), (.one (.int .i64))]) K w := by
 refine Dh1 ?_
 unfold F137
 rw [Ax3] at hK
 refine (St.start w).Ae λ b1 w1 S1 e1 => S1.drew λ w2 S2 e2 _ => ?_
 have h2 := (h.ext e1).ext e2
 refine h2.Wq (h2.Wq (U3 h2.row λ w3 e3 => ?_))
 have h3 := h2.ext e3
 exact h3.keepRow (Ef h3.row λ w4 e4 => Jj (h3.ext e4) λ w5 e5 => Gg (((S2.ext e3).ext e4).ext e5) hK)
theorem Bt3 (h : Dk w b p A x count arg goal past big r) {a' : Int} {K : LdT -> Wp} (hK : ∀ w', Ext w w' -> K (ldT (Cb A x 6 count a' past)) w') :
  Aa Tryz.prog 139 #[.pointer (some (at0 b))] (.tup [(.agg c83), (.one (.int .i64))]) K w := by
 refine Dg9 ?_
 unfold F139
 obtain ⟨m1, m2, m3, m4, m5, m6, m7⟩ := h.bounds
 rw [Bj0] at hK
 refine (St.start w).Ae λ b1 w1 S1 e1 => S1.drew λ w2 S2 e2 _ => ?_
 have h2 := (h.ext e1).ext e2
 refine h2.Wq (h2.kK (Sm h2 λ w3 e3 => ?_))
 have h3 := h2.ext e3
 refine h3.Bp3 (h3.keepRow ?_)
 rw [wrap64 (by omega) (by omega)]
 have em : (if ((Iw A (Aq A x past).1 past : Nat) : Int) < (kOf count : Int) - 1 then ((Iw A (Aq A x past).1 past : Nat) : Int) else (kOf count : Int) - 1) = min ((kOf count : Int) - 1) (Iw A (Aq A x past).1 past) := by split <;> omega
 rw [em]
 exact Ef h3.row λ w4 e4 => Jj (h3.ext e4) λ w5 e5 => Gg (((S2.ext e3).ext e4).ext e5) hK
end
section
variable {w w' : World} {b p : Nat} {A : List Int} {x count arg goal : Int} {past big : Bool} {r : RwT}
def Uo (A : List Int) (i : Nat) (a : Int) (j : Nat) : Bool := decide ((Ai A i)[j]?.map (·.atom) = some a)
theorem Bv7 (A : List Int) (i : Nat) (a : Int) (n c k : Nat) : Gs (Ai A i) a (upL n c) k = upF (Uo A i a) (c + 1) n k := rfl
theorem Bv9 (A : List Int) (i : Nat) (a : Int) (c k : Nat) : Gs (Ai A i) a (Qg c) k = dnF (Uo A i a) c k := rfl
theorem Ai0 {i j : Nat} {a : Int} {c : Cel} (hc : (Ai A i)[j]? = some c) : Uo A i a j = decide (c.atom = a) := by
 unfold Uo
 rw [hc]
 simp
theorem Am4 (h : Dk w b p A x count arg goal past big r) {K : Int -> Wp}
  (hK : ∀ w', Ext w w' -> K (match Gs (Ai A (Aq A x past).1) arg (upL (Ai A (Aq A x past).1).length (Aq A x past).2) (kOf count) with | some j => (j : Int) | none => -1) w') :
  Aa Tryz.prog 203 #[.pointer (some (at0 b)), .int .i64 1] rI K w := by
 refine Cl8 ?_
 unfold F203
 obtain ⟨m1, m2, m3, m4, m5, m6, m7⟩ := h.bounds
 rw [Bv7] at hK
 generalize hi : (Aq A x past).1 = i at *
 generalize hcc : (Aq A x past).2 = c at *
 refine h.kK (Af (λ _ W => upF (Uo A i arg) (c + 1) (Ai A i).length (kOf count) = none /\ Ext w W) ?_ (λ _ W hW => by have := hK W hW.2; rw [hW.1] at this; exact this))
 refine h.cK ?_
 rw [hcc, wrap64 (by omega) (by omega)]
 refine Ba (λ s W => ∃ k j : Nat, s = ((k : Int), (j : Int), ()) /\ 1 <= k /\ k <= 9999 /\ j <= (Ai A i).length + 1 /\ upF (Uo A i arg) (c + 1) (Ai A i).length (kOf count) = upF (Uo A i arg) j (Ai A i).length k /\ Ext w W) (λ s _ => ((Ai A i).length + 1 - s.2.1).toNat) ⟨kOf count, c + 1, by simp, m4, m5, by omega, rfl, Ext.refl w⟩ ?_
 rintro _ W ⟨k, j, rfl, k1, k2, hj, hu, eW⟩
 dsimp only
 have hW := h.ext eW
 have hrow := hW.row
 rw [hi] at hrow
 refine Af (λ y W' => y = (decide (j < (Ai A i).length), ()) /\ Ext w W') ?_ ?_
 ·refine Ac (λ _ => hW.Wq (Gp hrow λ w2 e2 => ⟨Aw ?_, eW.trans e2⟩)) (λ hc => ?_)
  ·simp only [decide_eq_true_eq]; omega
  ·simp only [decide_eq_false_iff_not, ge_iff_le] at hc; omega
 rintro _ W2 ⟨rfl, eW2⟩
 have h2 := h.ext eW2
 refine Ac (λ hc => ?_) (λ hc => ?_)
 ·simp only [decide_eq_true_eq] at hc
  obtain ⟨cl, hcl⟩ := Dz hc
  have ew : W64 ((j : Int) + 1) = ((j + 1 : Nat) : Int) := by rw [wrap64 (by omega) (by omega)]; omega
  rw [ew]
  refine Af (λ y W' => ∃ k' : Nat, y = ((k' : Int), ()) /\ 1 <= k' /\ k' <= 9999 /\ upF (Uo A i arg) j (Ai A i).length k = upF (Uo A i arg) (j + 1) (Ai A i).length k' /\ Ext w W') ?_ ?_
  ·refine Ed λ w3 e3 _ => ?_
   have h3 := h2.ext e3
   have hr3 := h3.row
   rw [hi] at hr3
   refine h3.Wq (h3.Cl3 (Sr hr3 hcl λ w4 e4 => (h3.ext e4).Bb2 ?_))
   have e04 := (eW2.trans e3).trans e4
   refine Ac (λ hg => ?_) (λ hg => ?_)
   ·simp only [bne_iff_ne, ne_eq] at hg
    exact ⟨k, rfl, k1, k2, Cc0 hc (by rw [Ai0 hcl, decide_eq_false hg]), e04⟩
   ·simp only [bne_eq_false_iff_eq] at hg
    have hf : Uo A i arg j = true := by rw [Ai0 hcl, decide_eq_true hg]
    have ewk : W64 ((k : Int) - 1) = ((k - 1 : Nat) : Int) := by rw [wrap64 (by omega) (by omega)]; omega
    rw [ewk]
    refine Ac (λ hz => ?_) (λ hz => ?_)
    ·simp only [beq_iff_eq] at hz
     have : k = 1 := by omega
     subst this
     have := hK w4 e04
     rw [hu, Bu8 hc hf] at this
     exact this
    ·simp only [beq_eq_false_iff_ne, ne_eq] at hz
     refine ⟨k - 1, rfl, by omega, by omega, ?_, e04⟩
     conv => lhs; rw [show k = (k - 1) + 1 by omega]
     exact Bk7 hc hf (by omega)
  rintro _ W3 ⟨k', rfl, k1', k2', hu', eW3⟩
  exact ⟨⟨k', j + 1, rfl, k1', k2', by omega, hu.trans hu', eW3⟩, by omega⟩
 ·simp only [decide_eq_false_iff_not] at hc
  exact ⟨hu.trans (Bk6 (by omega)), eW2⟩
theorem As6 (h : Dk w b p A x count arg goal past big r) {K : Int -> Wp}
  (hK : ∀ w', Ext w w' -> K (match Gs (Ai A (Aq A x past).1) arg (Qg (Aq A x past).2) (kOf count) with | some j => (j : Int) | none => -1) w') :
  Aa Tryz.prog 203 #[.pointer (some (at0 b)), .int .i64 (-1)] rI K w := by
 refine Cl8 ?_
 unfold F203
 obtain ⟨m1, m2, m3, m4, m5, m6, m7⟩ := h.bounds
 rw [Bv9] at hK
 generalize hi : (Aq A x past).1 = i at *
 generalize hcc : (Aq A x past).2 = c at *
 refine h.kK (Af (λ _ W => dnF (Uo A i arg) c (kOf count) = none /\ Ext w W) ?_ (λ _ W hW => by have := hK W hW.2; rw [hW.1] at this; exact this))
 refine h.cK ?_
 rw [hcc, wrap64 (by omega) (by omega)]
 refine Ba (λ s W => ∃ k j : Nat, s = ((k : Int), (j : Int) - 1, ()) /\ 1 <= k /\ k <= 9999 /\ j <= (Ai A i).length /\ dnF (Uo A i arg) c (kOf count) = dnF (Uo A i arg) j k /\ Ext w W) (λ s _ => (s.2.1 + 1).toNat) ⟨kOf count, c, rfl, m4, m5, by omega, rfl, Ext.refl w⟩ ?_
 rintro _ W ⟨k, j, rfl, k1, k2, hj, hu, eW⟩
 dsimp only
 have hW := h.ext eW
 have hrow := hW.row
 rw [hi] at hrow
 refine Af (λ y W' => y = (decide (0 < j), ()) /\ Ext w W') ?_ ?_
 ·refine Ac (λ hc => hW.Wq (Gp hrow λ w2 e2 => ⟨Aw ?_, eW.trans e2⟩)) (λ hc => ⟨Aw ?_, eW⟩)
  ·simp only [decide_eq_true_eq, ge_iff_le] at hc ⊢; omega
  ·simp only [decide_eq_false_iff_not, ge_iff_le, decide_eq_true_eq, Bool.false_eq_true, false_iff] at hc ⊢; omega
 rintro _ W2 ⟨rfl, eW2⟩
 have h2 := h.ext eW2
 refine Ac (λ hc => ?_) (λ hc => ?_)
 ·simp only [decide_eq_true_eq] at hc
  obtain ⟨m, rfl⟩ : ∃ m, j = m + 1 := ⟨j - 1, by omega⟩
  have em : ((m + 1 : Nat) : Int) - 1 = (m : Int) := by omega
  rw [em]
  obtain ⟨cl, hcl⟩ := Dz (C := Ai A i) (j := m) (by omega)
  have ew : W64 ((m : Int) + -1) = (m : Int) - 1 := by rw [wrap64 (by omega) (by omega)]; omega
  rw [ew]
  refine Af (λ y W' => ∃ k' : Nat, y = ((k' : Int), ()) /\ 1 <= k' /\ k' <= 9999 /\ dnF (Uo A i arg) (m + 1) k = dnF (Uo A i arg) m k' /\ Ext w W') ?_ ?_
  ·refine Ed λ w3 e3 _ => ?_
   have h3 := h2.ext e3
   have hr3 := h3.row
   rw [hi] at hr3
   refine h3.Wq (h3.Cl3 (Sr hr3 hcl λ w4 e4 => (h3.ext e4).Bb2 ?_))
   have e04 := (eW2.trans e3).trans e4
   refine Ac (λ hg => ?_) (λ hg => ?_)
   ·simp only [bne_iff_ne, ne_eq] at hg
    exact ⟨k, rfl, k1, k2, Cf3 (by rw [Ai0 hcl, decide_eq_false hg]), e04⟩
   ·simp only [bne_eq_false_iff_eq] at hg
    have hf : Uo A i arg m = true := by rw [Ai0 hcl, decide_eq_true hg]
    have ewk : W64 ((k : Int) - 1) = ((k - 1 : Nat) : Int) := by rw [wrap64 (by omega) (by omega)]; omega
    rw [ewk]
    refine Ac (λ hz => ?_) (λ hz => ?_)
    ·simp only [beq_iff_eq] at hz
     have : k = 1 := by omega
     subst this
     have := hK w4 e04
     rw [hu, Bz0 hf] at this
     exact this
    ·simp only [beq_eq_false_iff_ne, ne_eq] at hz
     refine ⟨k - 1, rfl, by omega, by omega, ?_, e04⟩
     conv => lhs; rw [show k = (k - 1) + 1 by omega]
     exact Br0 hf (by omega)
  rintro _ W3 ⟨k', rfl, k1', k2', hu', eW3⟩
  exact ⟨⟨k', m, rfl, k1', k2', by omega, hu.trans hu', eW3⟩, by omega⟩
 ·simp only [decide_eq_false_iff_not] at hc
  have : j = 0 := by omega
  subst this
  exact ⟨hu, eW2⟩
theorem Bv8 {C : List Cel} {a : Int} {n c k j : Nat} (h : Gs C a (upL n c) k = some j) : c + 1 <= j /\ j < n := by
 have := (Aa8 h).1
 unfold upL at this
 rw [List.mem_range'_1] at this
 omega
theorem Bl7 {C : List Cel} {a : Int} {c k j : Nat} (h : Gs C a (Qg c) k = some j) : j < c := by
 have := (Aa8 h).1
 unfold Qg at this
 rw [List.mem_reverse, List.mem_range] at this
 omega
theorem V5 (h : Dk w b p A x count arg goal past big r) {be kd : Int} (hb : -1 <= be /\ be <= 1) {K : LdT -> Wp}
  (hK : ∀ w', Ext w w' -> K (ldT (match Gs (Ai A (Aq A x past).1) arg (upL (Ai A (Aq A x past).1).length (Aq A x past).2) (kOf count) with | some j => Gu A (Au A (Aq A x past).1 ((j : Int) + be)) kd | none => noP 80)) w') :
  Aa Tryz.prog 183 #[.pointer (some (at0 b)), .int .i64 1, .int .i64 be, .int .i64 kd] (.tup [(.agg c83), (.one (.int .i64))]) K w := by
 refine Cl9 ?_
 unfold F183
 obtain ⟨m1, m2, m3, m4, m5, m6, m7⟩ := h.bounds
 refine (St.start w).Ae λ b1 w1 S1 e1 => Am4 (h.ext e1) λ w2 e2 => ?_
 have S2 := S1.ext e2
 have h2 := (h.ext e1).ext e2
 cases hs : Gs (Ai A (Aq A x past).1) arg (upL (Ai A (Aq A x past).1).length (Aq A x past).2) (kOf count) with
 | none =>
  rw [hs] at hK
  refine Ac (λ _ => ?_) (λ hc => by simp at hc)
  exact Ez λ w4 e4 => Gg (S2.ext e4) hK
 | some j =>
  rw [hs] at hK
  have hlt := Bv8 hs
  refine Ac (λ hc => by simp at hc; omega) (λ _ => ?_)
  refine h2.Wq ?_
  dsimp only at hK ⊢
  rw [wrap64 (by omega) (by omega)]
  exact Ef h2.row λ w6 e6 => Jj (h2.ext e6) λ w7 e7 => Gg ((S2.ext e6).ext e7) hK
theorem Zv (h : Dk w b p A x count arg goal past big r) {be kd : Int} (hb : -1 <= be /\ be <= 1) {K : LdT -> Wp}
  (hK : ∀ w', Ext w w' -> K (ldT (match Gs (Ai A (Aq A x past).1) arg (Qg (Aq A x past).2) (kOf count) with | some j => Gu A (Au A (Aq A x past).1 ((j : Int) + be)) kd | none => noP 80)) w') :
  Aa Tryz.prog 183 #[.pointer (some (at0 b)), .int .i64 (-1), .int .i64 be, .int .i64 kd] (.tup [(.agg c83), (.one (.int .i64))]) K w := by
 refine Cl9 ?_
 unfold F183
 obtain ⟨m1, m2, m3, m4, m5, m6, m7⟩ := h.bounds
 refine (St.start w).Ae λ b1 w1 S1 e1 => As6 (h.ext e1) λ w2 e2 => ?_
 have S2 := S1.ext e2
 have h2 := (h.ext e1).ext e2
 cases hs : Gs (Ai A (Aq A x past).1) arg (Qg (Aq A x past).2) (kOf count) with
 | none =>
  rw [hs] at hK
  refine Ac (λ _ => ?_) (λ hc => by simp at hc)
  exact Ez λ w4 e4 => Gg (S2.ext e4) hK
 | some j =>
  rw [hs] at hK
  have hlt := Bl7 hs
  refine Ac (λ hc => by simp at hc; omega) (λ _ => ?_)
  refine h2.Wq ?_
  dsimp only at hK ⊢
  rw [wrap64 (by omega) (by omega)]
  exact Ef h2.row λ w6 e6 => Jj (h2.ext e6) λ w7 e7 => Gg ((S2.ext e6).ext e7) hK
theorem Aw6 (h : Dk w b p A x count arg goal past big r) {K : LdT -> Wp} (hK : ∀ w', Ext w w' -> K (ldT (Cb A x 7 count arg past)) w') :
  Aa Tryz.prog 140 #[.pointer (some (at0 b))] (.tup [(.agg c83), (.one (.int .i64))]) K w := by
 refine Dg8 ?_
 unfold F140
 rw [(Qw A x count arg past).1] at hK
 refine (St.start w).Ae λ b1 w1 S1 e1 => V5 (h.ext e1) (by decide) λ w2 e2 => Gg (S1.ext e2) λ w' e' => ?_
 have := hK w' e'
 cases hs : Gs (Ai A (Aq A x past).1) arg (upL (Ai A (Aq A x past).1).length (Aq A x past).2) (kOf count) with
 | none => rw [hs] at this; exact this
 | some j => rw [hs] at this; dsimp only at this ⊢; rw [Int.add_zero]; exact this
theorem Bd6 (h : Dk w b p A x count arg goal past big r) {K : LdT -> Wp} (hK : ∀ w', Ext w w' -> K (ldT (Cb A x 9 count arg past)) w') :
  Aa Tryz.prog 142 #[.pointer (some (at0 b))] (.tup [(.agg c83), (.one (.int .i64))]) K w := by
 refine Dg6 ?_
 unfold F142
 rw [(Qw A x count arg past).2.1] at hK
 refine (St.start w).Ae λ b1 w1 S1 e1 => V5 (h.ext e1) (by decide) λ w2 e2 => Gg (S1.ext e2) λ w' e' => ?_
 have := hK w' e'
 cases hs : Gs (Ai A (Aq A x past).1) arg (upL (Ai A (Aq A x past).1).length (Aq A x past).2) (kOf count) with
 | none => rw [hs] at this; exact this
 | some j => rw [hs] at this; exact this
theorem Aw5 (h : Dk w b p A x count arg goal past big r) {K : LdT -> Wp} (hK : ∀ w', Ext w w' -> K (ldT (Cb A x 8 count arg past)) w') :
  Aa Tryz.prog 141 #[.pointer (some (at0 b))] (.tup [(.agg c83), (.one (.int .i64))]) K w := by
 refine Dg7 ?_
 unfold F141
 rw [(Qw A x count arg past).2.2.1] at hK
 refine (St.start w).Ae λ b1 w1 S1 e1 => Zv (h.ext e1) (by decide) λ w2 e2 => Gg (S1.ext e2) λ w' e' => ?_
 have := hK w' e'
 cases hs : Gs (Ai A (Aq A x past).1) arg (Qg (Aq A x past).2) (kOf count) with
 | none => rw [hs] at this; exact this
 | some j => rw [hs] at this; dsimp only at this ⊢; rw [Int.add_zero]; exact this
theorem Ar6 (h : Dk w b p A x count arg goal past big r) {K : LdT -> Wp} (hK : ∀ w', Ext w w' -> K (ldT (Cb A x 10 count arg past)) w') :
  Aa Tryz.prog 143 #[.pointer (some (at0 b))] (.tup [(.agg c83), (.one (.int .i64))]) K w := by
 refine Dg5 ?_
 unfold F143
 rw [(Qw A x count arg past).2.2.2] at hK
 refine (St.start w).Ae λ b1 w1 S1 e1 => Zv (h.ext e1) (by decide) λ w2 e2 => Gg (S1.ext e2) λ w' e' => ?_
 have := hK w' e'
 cases hs : Gs (Ai A (Aq A x past).1) arg (Qg (Aq A x past).2) (kOf count) with
 | none => rw [hs] at this; exact this
 | some j => rw [hs] at this; exact this
theorem Ax4 (A : List Int) (x count arg : Int) (past : Bool) : Cb A x 5 count arg past = ((((Au A (if (Aq A x past).1 < lnN A - 1 /\ 1 < kOf count then min ((Aq A x past).1 + kOf count - 1) (lnN A - 1) else (Aq A x past).1) (((Ai A (if (Aq A x past).1 < lnN A - 1 /\ 1 < kOf count then min ((Aq A x past).1 + kOf count - 1) (lnN A - 1) else (Aq A x past).1)).length : Int) - 1) : Nat) : Int), 1, 100000), 0) := by
 unfold Cb Aq
 dsimp only
 rw [Em, if_neg (by decide), if_neg (by decide), if_neg (by decide), if_neg (by decide), if_pos rfl]
theorem Bq5 (h : Dk w b p A x count arg goal past big r) {a' : Int} {K : LdT -> Wp} (hK : ∀ w', Ext w w' -> K (ldT (Cb A x 5 count a' past)) w') :
  Aa Tryz.prog 138 #[.pointer (some (at0 b))] (.tup [(.agg c83), (.one (.int .i64))]) K w := by
 refine Dh0 ?_
 unfold F138
 obtain ⟨m1, m2, m3, m4, m5, m6, m7⟩ := h.bounds
 have hb := Dh A; have hA := h.row.len; have hbl := Ku A
 rw [Ax4] at hK
 refine (St.start w).Ae λ b1 w1 S1 e1 => (h.ext e1).Wq (S1.Ae λ b4 w2 S2 e2 => S2.Ad 0 rfl rfl rfl rfl λ w3 S3 u3 => ?_)
 have S3 : St (λ _ => False) w w3 [(b4, rwO r), (b1, ldZ)] := S3
 have h3 := h.ext S3.upd
 have ewl : W64 ((lnN A : Int) - 1) = (lnN A : Int) - 1 := wrap64 (by omega) (by omega)
 refine Af (λ _ W => ∃ r', St (λ _ => False) w W [(b4, rwO r'), (b1, ldZ)] /\ Gv W A (if (Aq A x past).1 < lnN A - 1 /\ 1 < kOf count then min ((Aq A x past).1 + kOf count - 1) (lnN A - 1) else (Aq A x past).1) r') ?_ ?_
 ·refine h3.tK (h3.tx.count λ w4 e4 => ?_)
  have S4 := S3.ext e4
  have h4 := h3.ext e4
  rw [ewl]
  refine Af (λ y W => y = (decide ((Aq A x past).1 < lnN A - 1 /\ 1 < kOf count), ()) /\ w4 = W) ?_ ?_
  ·refine S4.ld (off := 4) 0 rfl (x := r.2.2.2.2.1) rfl ?_
   rw [h.row.num]
   refine Ac (λ hc => h4.kK ⟨Aw ?_, rfl⟩) (λ hc => ⟨Aw ?_, rfl⟩)
   ·simp only [decide_eq_true_eq, gt_iff_lt] at hc ⊢; omega
   ·simp only [decide_eq_false_iff_not, decide_eq_true_eq, Bool.false_eq_true, false_iff] at hc ⊢; omega
  rintro _ _ ⟨rfl, rfl⟩
  refine Ac (λ hc => ?_) (λ hc => ?_)
  ·have hc := of_decide_eq_true hc
   rw [if_pos hc]
   refine S4.drew λ w5 S5 e5 _ => ?_
   have h5 := h4.ext e5
   refine h5.tK (S5.ld (off := 4) 0 rfl (x := r.2.2.2.2.1) rfl (h5.kK ?_))
   rw [h.row.num, wrap64 (a := ((Aq A x past).1 : Int) + (kOf count : Int)) (by omega) (by omega), wrap64 (by omega) (by omega)]
   have em : (if (lnN A : Int) - 1 < ((Aq A x past).1 : Int) + (kOf count : Int) - 1 then (lnN A : Int) - 1 else ((Aq A x past).1 : Int) + (kOf count : Int) - 1) = ((min ((Aq A x past).1 + kOf count - 1) (lnN A - 1) : Nat) : Int) := by split <;> omega
   rw [em]
   refine Md h5.tx (by omega) λ r' w6 hr' e6 => (S5.ext e6).Ad 0 rfl rfl rfl rfl λ w7 S7 u7 => ⟨r', S7, hr'.box ((S5.ext e6).at_ 0 rfl) (by decide) u7⟩
  ·rw [if_neg (of_decide_eq_false hc)]
   exact ⟨r, S4, h4.row⟩
 rintro _ W ⟨r', SW, hr'⟩
 generalize (if (Aq A x past).1 < lnN A - 1 /\ 1 < kOf count then min ((Aq A x past).1 + kOf count - 1) (lnN A - 1) else (Aq A x past).1) = j at *
 have fw := hr'.few
 refine SW.drew λ w5 S5 e5 _ => S5.lds 0 r' rfl (S5.lds 0 r' rfl (Gp (hr'.ext e5) λ w6 e6 => ?_))
 have S6 := S5.ext e6
 rw [wrap64 (by omega) (by omega)]
 refine S6.keeps 0 (x := r') rfl (Ef ((hr'.ext e5).ext e6) λ w7 e7 => (S6.ext e7).Ad 1 rfl rfl rfl rfl λ w8 S8 _ => ?_)
 exact S8.lds 1 (((Au A j (((Ai A j).length : Int) - 1) : Nat) : Int), 1, 100000, ()) rfl (hK w8 S8.upd)
end
section
variable {w w' : World} {b p : Nat} {A : List Int} {x count arg goal g : Int} {past big : Bool} {r : RwT}
theorem I8 (h : Dk w b p A x count arg goal past big r) {line : Int} {K : LdT -> Wp} (hK : ∀ w', Ext w w' -> K (ldT (Nc A line goal)) w') :
  Aa Tryz.prog 185 #[.pointer (some (at0 b)), .int .i64 line] (.tup [(.agg c83), (.one (.int .i64))]) K w := by
 refine De2 ?_
 unfold F185
 refine (St.start w).Ae λ b1 w1 S1 e1 => S1.drew λ w2 S2 e2 _ => ?_
 have h2 := (h.ext e1).ext e2
 refine h2.tK (h2.Cb4 (h2.Cb4 (Ah1 h2.tx λ w3 e3 => (h2.ext e3).Bp4 ?_)))
 exact (S2.ext e3).Ad 0 rfl rfl rfl rfl λ w4 S4 _ => S4.lds 0 (ldT (Nc A line goal)).1 rfl (hK w4 S4.upd)
theorem Hr (h : Dk w b p A x count arg goal past big r) {line : Int} {K : LdT -> Wp} (hK : ∀ w', Ext w w' -> K (ldT (Ey A line)) w') :
  Aa Tryz.prog 186 #[.pointer (some (at0 b)), .int .i64 line] (.tup [(.agg c83), (.one (.int .i64))]) K w := by
 refine De1 ?_
 unfold F186
 have hb := Dh A; have hA := h.row.len; have hbl := Ku A
 have ewl : W64 ((lnN A : Int) - 1) = (lnN A : Int) - 1 := wrap64 (by omega) (by omega)
 have el : (if (0 : Int) > (if (lnN A : Int) - 1 < line then (lnN A : Int) - 1 else line) then (0 : Int) else (if (lnN A : Int) - 1 < line then (lnN A : Int) - 1 else line)) = (Dp A line : Int) := by
  unfold Dp
  split <;> split at * <;> omega
 refine (St.start w).Ae λ b1 w1 S1 e1 => ?_
 have S1 : St (λ _ => False) w w1 [(b1, ldZ)] := S1
 refine Af (λ y W => ∃ b8 r', y = (at0 b8, ()) /\ St (λ _ => False) w W [(b8, rwO r'), (b1, ldZ)] /\ Gv W A (Dp A line) r') ?_ ?_
 ·refine S1.drew λ w2 S2 e2 _ => ?_
  have h2 := (h.ext e1).ext e2
  refine h2.tK (h2.tK ⟨?_, ?_⟩)
  ·refine S2.Ae λ b8 w3 S3 e3 => ?_
   have h3 := h2.ext e3
   refine h3.Zu (h3.Zu (h3.tx.count λ w4 e4 => ?_))
   have h4 := h3.ext e4
   rw [ewl, el]
   refine h4.Zu (Md h4.tx (Sv A line).2 λ r' w5 hr' e5 => ?_)
   have S5 := (S3.ext e4).ext e5
   exact S5.Ad 0 rfl rfl rfl rfl λ w6 S6 u6 => ⟨b8, r', rfl, S6, hr'.box (S5.at_ 0 rfl) (by decide) u6⟩
  ·refine h2.tx.count λ w3 e3 => ?_
   have h3 := h2.ext e3
   have S3 := S2.ext e3
   rw [ewl, el]
   refine h3.Zu ⟨?_, ?_⟩
   ·refine S3.Ae λ b12 w4 S4 e4 => ?_
    have h4 := h3.ext e4
    refine h4.Zu (h4.Zu (Md h4.tx (Sv A line).2 λ r' w5 hr' e5 => ?_))
    have S5 := S4.ext e5
    exact S5.Ad 0 rfl rfl rfl rfl λ w6 S6 u6 => ⟨b12, r', rfl, S6, hr'.box (S5.at_ 0 rfl) (by decide) u6⟩
   ·refine Md h3.tx (Sv A line).2 λ r' w4 hr' e4 => ⟨?_, trivial⟩
    have h4 := h3.ext e4
    refine (S3.ext e4).Ae λ b15 w5 S5 e5 => ?_
    have h5 := h4.ext e5
    refine h5.Zu (h5.Zu ?_)
    exact S5.Ad 0 rfl rfl rfl rfl λ w6 S6 u6 => ⟨b15, r', rfl, S6, (hr'.ext e5).box (S5.at_ 0 rfl) (by decide) u6⟩
 rintro _ W ⟨b8, r', rfl, SW, hr'⟩
 have hW := h.ext SW.upd
 refine SW.drew λ w2 S2 e2 _ => S2.lds 0 r' rfl (S2.lds 0 r' rfl (U3 (hr'.ext e2) λ w3 e3 => ?_))
 have S3 := S2.ext e3
 refine S3.keeps 0 (x := r') rfl (Ef ((hr'.ext e2).ext e3) λ w4 e4 => Jj (((hW.ext e2).ext e3).ext e4) λ w5 e5 => ?_)
 have S5 := (S3.ext e4).ext e5
 exact S5.Ad 1 rfl rfl rfl rfl λ w6 S6 _ => S6.lds 1 (ldT (Ey A line)).1 rfl (hK w6 S6.upd)
theorem A8 (h : Dk w b p A x count arg goal past big r) {K : Bool -> Wp} (hK : ∀ w', Ext w w' -> K (decide ((Aq A x past).1 = lnN A - 1)) w') :
  Aa Tryz.prog 184 #[.pointer (some (at0 b))] rB K w := by
 refine De3 ?_
 unfold F184
 have hb := Dh A; have hA := h.row.len; have hbl := Ku A
 refine Ed λ w1 e1 _ => ?_
 have h1 := h.ext e1
 refine h1.Am2 (h1.tK (h1.tx.count λ w2 e2 => (h1.ext e2).Bx1 ?_))
 rw [wrap64 (by omega) (by omega), h.row.num]
 have e : (((Aq A x past).1 : Int) == (lnN A : Int) - 1) = decide ((Aq A x past).1 = lnN A - 1) := by
  rw [Bool.eq_iff_iff, beq_iff_eq, decide_eq_true_eq]; omega
 rw [e]; exact hK w2 (e1.trans e2)
theorem Be8 (A : List Int) (x g count : Int) : Et A x g 11 count = if (Aq A x false).1 = lnN A - 1 then noP 80 else Nc A (((Aq A x false).1 : Int) + kOf count) (max g 0) := by
 unfold Et Aq; dsimp only; rw [Em, if_pos rfl]
theorem Bw1 (A : List Int) (x g count : Int) : Et A x g 12 count = if (Aq A x false).1 = 0 then noP 80 else Nc A (((Aq A x false).1 : Int) - kOf count) (max g 0) := by
 unfold Et Aq; dsimp only; rw [Em, if_neg (by decide), if_pos rfl]
theorem Be5 (A : List Int) (x g count : Int) : Et A x g 13 count = if (Aq A x false).1 = lnN A - 1 then noP 80 else Ey A (((Aq A x false).1 : Int) + kOf count) := by
 unfold Et Aq; dsimp only; rw [Em, if_neg (by decide), if_neg (by decide), if_pos rfl]
theorem Be3 (A : List Int) (x g count : Int) : Et A x g 14 count = if (Aq A x false).1 = 0 then noP 80 else Ey A (((Aq A x false).1 : Int) - kOf count) := by
 unfold Et Aq; dsimp only; rw [Em, if_neg (by decide), if_neg (by decide), if_neg (by decide), if_pos rfl]
theorem Be6 (A : List Int) (x g count : Int) : Et A x g 15 count = Ey A (((Aq A x false).1 : Int) + kOf count - 1) := by
 unfold Et Aq; dsimp only; rw [Em, if_neg (by decide), if_neg (by decide), if_neg (by decide), if_neg (by decide), if_pos rfl]
theorem Be7 (A : List Int) (x g count : Int) : Et A x g 16 count = Ey A (if 0 < count then (kOf count : Int) - 1 else lnN A) := by
 unfold Et; dsimp only; rw [if_neg (by decide), if_neg (by decide), if_neg (by decide), if_neg (by decide), if_neg (by decide), if_pos rfl]
theorem Bl8 (A : List Int) (x g count : Int) : Et A x g 17 count = Ey A ((kOf count : Int) - 1) := by
 unfold Et; dsimp only; rw [if_neg (by decide), if_neg (by decide), if_neg (by decide), if_neg (by decide), if_neg (by decide), if_neg (by decide), if_pos rfl]
theorem Be4 (A : List Int) (x g count : Int) : Et A x g 18 count = if count <= 0 \/ 100 < kOf count then noP 80 else Ey A ((((kOf count * lnN A + 99) / 100 : Nat) : Int) - 1) := by
 unfold Et; dsimp only; rw [if_neg (by decide), if_neg (by decide), if_neg (by decide), if_neg (by decide), if_neg (by decide), if_neg (by decide), if_neg (by decide), if_pos rfl]
theorem Bi6 (h : Dk w b p A x count arg (max g 0) false big r) {K : LdT -> Wp} (hK : ∀ w', Ext w w' -> K (ldT (Et A x g 11 count)) w') :
  Aa Tryz.prog 144 #[.pointer (some (at0 b))] (.tup [(.agg c83), (.one (.int .i64))]) K w := by
 refine Dg4 ?_
 unfold F144
 obtain ⟨m1, m2, m3, m4, m5, m6, m7⟩ := h.bounds
 rw [Be8] at hK
 refine (St.start w).Ae λ b1 w1 S1 e1 => A8 (h.ext e1) λ w2 e2 => ?_
 have h2 := (h.ext e1).ext e2
 have S2 := S1.ext e2
 refine Ac (λ hc => ?_) (λ hc => ?_)
 ·rw [if_pos (of_decide_eq_true hc)] at hK
  exact Ez λ w3 e3 => Gg (S2.ext e3) hK
 ·rw [if_neg (of_decide_eq_false hc)] at hK
  refine S2.drew λ w3 S3 e3 _ => ?_
  have h3 := h2.ext e3
  refine h3.Am2 (h3.kK ?_)
  rw [h.row.num, wrap64 (by omega) (by omega)]
  exact I8 h3 λ w4 e4 => Gg (S3.ext e4) hK
theorem D9 (h : Dk w b p A x count arg (max g 0) false big r) {K : LdT -> Wp} (hK : ∀ w', Ext w w' -> K (ldT (Et A x g 12 count)) w') :
  Aa Tryz.prog 145 #[.pointer (some (at0 b))] (.tup [(.agg c83), (.one (.int .i64))]) K w := by
 refine Dg3 ?_
 unfold F145
 obtain ⟨m1, m2, m3, m4, m5, m6, m7⟩ := h.bounds
 rw [Bw1] at hK
 refine (St.start w).Ae λ b1 w1 S1 e1 => ?_
 have h1 := h.ext e1
 refine h1.Am2 ?_
 rw [h.row.num]
 refine Ac (λ hc => ?_) (λ hc => ?_)
 ·simp only [beq_iff_eq] at hc
  rw [if_pos (by omega)] at hK
  exact Ez λ w3 e3 => Gg (S1.ext e3) hK
 ·simp only [beq_eq_false_iff_ne, ne_eq] at hc
  rw [if_neg (by omega)] at hK
  refine S1.drew λ w3 S3 e3 _ => ?_
  have h3 := h1.ext e3
  refine h3.Am2 (h3.kK ?_)
  rw [h.row.num, wrap64 (by omega) (by omega)]
  exact I8 h3 λ w4 e4 => Gg (S3.ext e4) hK
theorem Au8 (h : Dk w b p A x count arg goal false big r) {K : LdT -> Wp} (hK : ∀ w', Ext w w' -> K (ldT (Et A x g 13 count)) w') :
  Aa Tryz.prog 146 #[.pointer (some (at0 b))] (.tup [(.agg c83), (.one (.int .i64))]) K w := by
 refine Dg2 ?_
 unfold F146
 obtain ⟨m1, m2, m3, m4, m5, m6, m7⟩ := h.bounds
 rw [Be5] at hK
 refine (St.start w).Ae λ b1 w1 S1 e1 => A8 (h.ext e1) λ w2 e2 => ?_
 have h2 := (h.ext e1).ext e2
 have S2 := S1.ext e2
 refine Ac (λ hc => ?_) (λ hc => ?_)
 ·rw [if_pos (of_decide_eq_true hc)] at hK
  exact Ez λ w3 e3 => Gg (S2.ext e3) hK
 ·rw [if_neg (of_decide_eq_false hc)] at hK
  refine S2.drew λ w3 S3 e3 _ => ?_
  have h3 := h2.ext e3
  refine h3.Am2 (h3.kK ?_)
  rw [h.row.num, wrap64 (by omega) (by omega)]
  exact Hr h3 λ w4 e4 => Gg (S3.ext e4) hK
theorem Au3 (h : Dk w b p A x count arg goal false big r) {K : LdT -> Wp} (hK : ∀ w', Ext w w' -> K (ldT (Et A x g 14 count)) w') :
  Aa Tryz.prog 147 #[.pointer (some (at0 b))] (.tup [(.agg c83), (.one (.int .i64))]) K w := by
 refine Dg1 ?_
 unfold F147
 obtain ⟨m1, m2, m3, m4, m5, m6, m7⟩ := h.bounds
 rw [Be3] at hK
 refine (St.start w).Ae λ b1 w1 S1 e1 => ?_
 have h1 := h.ext e1
 refine h1.Am2 ?_
 rw [h.row.num]
 refine Ac (λ hc => ?_) (λ hc => ?_)
 ·simp only [beq_iff_eq] at hc
  rw [if_pos (by omega)] at hK
  exact Ez λ w3 e3 => Gg (S1.ext e3) hK
 ·simp only [beq_eq_false_iff_ne, ne_eq] at hc
  rw [if_neg (by omega)] at hK
  refine S1.drew λ w3 S3 e3 _ => ?_
  have h3 := h1.ext e3
  refine h3.Am2 (h3.kK ?_)
  rw [h.row.num, wrap64 (by omega) (by omega)]
  exact Hr h3 λ w4 e4 => Gg (S3.ext e4) hK
theorem Bh3 (h : Dk w b p A x count arg goal false big r) {K : LdT -> Wp} (hK : ∀ w', Ext w w' -> K (ldT (Et A x g 15 count)) w') :
  Aa Tryz.prog 148 #[.pointer (some (at0 b))] (.tup [(.agg c83), (.one (.int .i64))]) K w := by
 refine Dg0 ?_
 unfold F148
 obtain ⟨m1, m2, m3, m4, m5, m6, m7⟩ := h.bounds
 rw [Be6] at hK
 refine (St.start w).Ae λ b1 w1 S1 e1 => S1.drew λ w3 S3 e3 _ => ?_
 have h3 := (h.ext e1).ext e3
 refine h3.Am2 (h3.kK ?_)
 rw [h.row.num, wrap64 (a := ((Aq A x false).1 : Int) + (kOf count : Int)) (by omega) (by omega), wrap64 (by omega) (by omega)]
 exact Hr h3 λ w4 e4 => Gg (S3.ext e4) hK
theorem Bh4 (h : Dk w b p A x count arg goal false big r) {K : LdT -> Wp} (hK : ∀ w', Ext w w' -> K (ldT (Et A x g 16 count)) w') :
  Aa Tryz.prog 149 #[.pointer (some (at0 b))] (.tup [(.agg c83), (.one (.int .i64))]) K w := by
 refine Df9 ?_
 unfold F149
 obtain ⟨m1, m2, m3, m4, m5, m6, m7⟩ := h.bounds
 rw [Be7] at hK
 refine (St.start w).Ae λ b1 w1 S1 e1 => ?_
 have h1 := h.ext e1
 refine h1.Ap0 (Ac (λ hc => ?_) (λ hc => ?_))
 ·have hc : ¬ 0 < count := by simpa using hc
  rw [if_neg hc] at hK
  exact h1.tK (h1.tx.count λ w2 e2 => Hr (h1.ext e2) λ w4 e4 => Gg ((S1.ext e2).ext e4) hK)
 ·have hc : 0 < count := by simpa using hc
  rw [if_pos hc] at hK
  refine h1.kK ?_
  rw [wrap64 (by omega) (by omega)]
  exact Hr h1 λ w4 e4 => Gg (S1.ext e4) hK
theorem Bk9 (h : Dk w b p A x count arg goal false big r) {K : LdT -> Wp} (hK : ∀ w', Ext w w' -> K (ldT (Et A x g 17 count)) w') :
  Aa Tryz.prog 150 #[.pointer (some (at0 b))] (.tup [(.agg c83), (.one (.int .i64))]) K w := by
 refine Df8 ?_
 unfold F150
 obtain ⟨m1, m2, m3, m4, m5, m6, m7⟩ := h.bounds
 rw [Bl8] at hK
 refine (St.start w).Ae λ b1 w1 S1 e1 => ?_
 have h1 := h.ext e1
 refine h1.kK ?_
 rw [wrap64 (by omega) (by omega)]
 exact Hr h1 λ w4 e4 => Gg (S1.ext e4) hK
theorem Bf6 (h : Dk w b p A x count arg goal false big r) {K : LdT -> Wp} (hK : ∀ w', Ext w w' -> K (ldT (Et A x g 18 count)) w') :
  Aa Tryz.prog 151 #[.pointer (some (at0 b))] (.tup [(.agg c83), (.one (.int .i64))]) K w := by
 refine Df7 ?_
 unfold F151
 obtain ⟨m1, m2, m3, m4, m5, m6, m7⟩ := h.bounds
 have hb := Dh A; have hA := h.row.len; have hbl := Ku A
 rw [Be4] at hK
 refine (St.start w).Ae λ b1 w1 S1 e1 => ?_
 have h1 := h.ext e1
 refine Af (λ y W => y = (decide (count <= 0 \/ 100 < kOf count), ()) /\ w1 = W) ?_ ?_
 ·refine h1.Ap0 (Ac (λ hc => ⟨Aw ?_, rfl⟩) (λ hc => h1.kK ⟨Aw ?_, rfl⟩))
  ·have hc : ¬ 0 < count := by simpa using hc
   simp; omega
  ·have hc : 0 < count := by simpa using hc
   simp only [decide_eq_true_eq, gt_iff_lt]; omega
 rintro _ _ ⟨rfl, rfl⟩
 refine Ac (λ hc => ?_) (λ hc => ?_)
 ·rw [if_pos (of_decide_eq_true hc)] at hK
  exact Ez λ w3 e3 => Gg (S1.ext e3) hK
 ·have hc := of_decide_eq_false hc
  rw [if_neg hc] at hK
  refine S1.drew λ w3 S3 e3 _ => ?_
  have h3 := h1.ext e3
  refine h3.kK (h3.tK (h3.tx.count λ w4 e4 => ?_))
  have h4 := h3.ext e4
  refine h4.Bp3 (Bo (by decide) ?_)
  have hm : kOf count * lnN A <= 100 * lnN A := Nat.mul_le_mul_right _ (by omega)
  have hmi : (kOf count : Int) * (lnN A : Int) = ((kOf count * lnN A : Nat) : Int) := by rw [Int.natCast_mul]
  rw [hmi]
  generalize kOf count * lnN A = m at *
  rw [wrap64 (a := (m : Int)) (by omega) (by omega), wrap64 (a := (m : Int) + 99) (by omega) (by omega)]
  have ed : Int.tdiv ((m : Int) + 99) 100 = (((m + 99) / 100 : Nat) : Int) := by rw [Int.tdiv_eq_ediv_of_nonneg (by omega)]; omega
  rw [ed, wrap64 (a := (((m + 99) / 100 : Nat) : Int)) (by omega) (by omega), wrap64 (by omega) (by omega)]
  exact Hr h4 λ w5 e5 => Gg ((S3.ext e4).ext e5) hK
end
namespace Mot
def Cl0 : List Int := [40, 91, 123, 41, 93, 125]
end Mot
section
variable {w w' : World} {b p : Nat} {A : List Int} {big : Bool} {q : Nat × Nat} {r : RwT}
end
namespace Mot
variable {A : List Int}
end Mot
section
variable {w w' : World} {b p : Nat} {A : List Int} {x count arg goal : Int} {past big : Bool} {r : RwT}
structure TxN (w : World) (p : Nat) (A : List Int) (N : Nat) : Prop where
 ex : ∃ e lim na O M, Txt w p e lim na O M /\ atoms (aOf e M) = A /\ ∀ k, O k -> k < N
theorem TxA.n (h : TxA w p A) : TxN w p A w.heap.size := by
 obtain ⟨e, lim, na, O, M, h1, h2⟩ := h.ex
 exact ⟨e, lim, na, O, M, h1, h2, h1.own⟩
theorem TxN.ext {N : Nat} (h : TxN w p A N) (x : Ext w w') : TxN w' p A N := by
 obtain ⟨e, lim, na, O, M, h1, h2, h3⟩ := h.ex
 exact ⟨e, lim, na, O, M, h1.ext x, h2, h3⟩
end
abbrev mvM (kind count arg : Int) : Cells.T c48 := (kind, count, arg, ())
abbrev D7 (kind count arg : Int) : Obj := .cells #[.int .i64 kind, .int .i64 count, .int .i64 arg] 48 (0, 0)
def vF : Option FuncId -> Value
 | none => .nilFunc
 | some g => .func (.func g) #[] #[]
def Aj2 (kind : Int) : Bool := decide ((25 <= kind /\ kind <= 28) \/ kind = 30)
section
variable {w w' : World} {b p : Nat} {A : List Int} {x goal kind count arg : Int} {past big : Bool}
theorem Bf0 {t : TypeId} {ps rs : Array TypeId} {vr : Bool} (hu : Tryz.prog.underlying t = some (.func ps rs vr)) {o1 : Operand} {v : Option FuncId} {K : Bool -> Wp} (h : K v.isNone w) : rdB Tryz.prog (do eqGuard .eql t o1 (.const .nilFunc) (vF v) .nilFunc; binOp .eql t (vF v) .nilFunc : Sem Value) K w := by
 refine ⟨v.isNone, ?_, h⟩
 cases v with
 | none =>
  have e : (Op.equal t .nilFunc .nilFunc).run Tryz.prog w = .ok true w := Ao3 hu 9999
  simp [eqGuard, binOp, vF, e]
 | some g =>
  have e : (Op.equal t (.func (.func g) #[] #[]) .nilFunc).run Tryz.prog w = .ok false w := Aw9 hu _ _ _ 9999
  simp [eqGuard, binOp, vF, e]
theorem Cc1 : Tryz.prog.underlying 173 = some (.func #[174] #[83, 37] false) := by kernel_rfl
theorem Ac2 {tab : Value} {v : Option FuncId} {ans : Ld} (h : TxA w p A)
  (htab : ∀ W (K : Value -> Wp), K (vF v) W -> Bv Tryz.prog (do let d ← Deferred.ofValue tab #[.int .i64 kind]; invoke d.target d.args : Sem Next) (.one (.one .any)) K W)
  (hnil : v = none -> ans = noP 1)
  (hdo : ∀ g, v = some g -> ((Tryz.prog.funcs[g]?).map λ fn => (fn.body.isNone, fn.name == "runtime.NumGoroutine")) = some (false, false) /\ ∀ W b r N (K : LdT -> Wp), Dk W b p A x count arg (max goal 0) past (Aj2 kind) r -> TxN W p A N -> N <= b -> (∀ W', Upd (λ k => k = b) W W' -> K (ldT ans) W') -> Aa Tryz.prog g #[.pointer (some (at0 b))] (.tup [(.agg c83), (.one (.int .i64))]) K W)
  {K : LdT -> Wp} (hK : ∀ w', Ext w w' -> K (ldT ans) w') :
  Aa Tryz.prog 89 #[tab, .pointer (some (at0 p)), .int .i64 x, .int .i64 goal, .agg (Cells.vals c48 (mvM kind count arg)).toArray, .bool past] (.tup [(.agg c83), (.one (.int .i64))]) K w := by
 refine A89 (a4 := mvM kind count arg) ?_
 unfold F89
 refine (St.start w).Ae λ b1 w1 S1 e1 => S1.Ae λ b2 w2 S2 e2 => ?_
 have S2 : St (λ _ => False) w w2 [(b2, ldZ), (b1, D7 kind count arg)] := S2
 refine S2.ld (off := 0) 1 rfl (x := kind) rfl (htab w2 _ ?_)
 refine Bf0 Cc1 ?_
 cases v with
 | none =>
  have ha := hnil rfl
  subst ha
  refine Df (S2.Ad 0 rfl rfl rfl rfl λ w3 S3 _ => S3.lds 0 (ldT (noP 1)).1 rfl (hK w3 S3.upd))
 | some g =>
  obtain ⟨hg, hdo⟩ := hdo g rfl
  refine Am (Am7 (h.ext S2.upd) λ w3 e3 => ?_)
  have S3 := S2.ext e3
  refine S3.drew λ w4 S4 e4 _ => S4.ld (off := 2) 1 rfl (x := arg) rfl (Vh (h.ext S4.upd) λ r w5 hr e5 => ?_)
  have S5 := S4.ext e5
  rw [Em] at hr
  have hr : Gv w5 A (Aq A x past).1 r := hr
  refine S5.keep (off := 2) 1 rfl (v := .int .i64 arg) rfl (S5.Q8 λ b10 w6 S6 e6 hb10 => ?_)
  have em : (if (0 : Int) > goal then (0 : Int) else goal) = max goal 0 := by split <;> omega
  rw [em] at S6
  have S6 : St (λ _ => False) w w6 [(b10, mvO p (Bj A x past : Int) 0 1 false arg (max goal 0) past false r), (b2, ldZ), (b1, D7 kind count arg)] := S6
  have hr6 := hr.ext e6
  refine Ap (Og (off := 9) (x := r) (S6.at_ 0 rfl) (U2 (by rfl)) (Yn (hr.ext e6) λ w7 e7 => Ap ?_))
  have S7 := S6.ext e7
  refine S7.stC (off := 2) 0 rfl (by show 2 < 16; decide) λ w8 S8 u8 => ?_
  have hr8 : Gv w8 A (Aq A x past).1 r := (hr6.ext e7).box (S7.at_ 0 rfl) (by decide) u8
  have S8 : St (λ _ => False) w w8 [(b10, mvO p (Bj A x past : Int) ((Aq A x past).2 : Int) 1 false arg (max goal 0) past false r), (b2, ldZ), (b1, D7 kind count arg)] := S8
  refine Af (λ _ W => Gv W A (Aq A x past).1 r /\ St (λ _ => False) w W [(b10, mvO p (Bj A x past : Int) ((Aq A x past).2 : Int) 1 false arg (max goal 0) past (Aj2 kind) r), (b2, ldZ), (b1, D7 kind count arg)]) ?_ ?_
  ·have hset : ∀ (bb : Bool), bb = Aj2 kind -> stC ((at0 b10).add 8) (.bool bb) (λ W => Gv W A (Aq A x past).1 r /\ St (λ _ => False) w W [(b10, mvO p (Bj A x past : Int) ((Aq A x past).2 : Int) 1 false arg (max goal 0) past (Aj2 kind) r), (b2, ldZ), (b1, D7 kind count arg)]) w8 := λ bb hbb => by
    subst hbb
    exact S8.stC (off := 8) 0 rfl (by show 8 < 16; decide) λ w9 S9 u9 => ⟨hr8.box (S8.at_ 0 rfl) (by decide) u9, S9⟩
   refine S8.ld (off := 0) 2 rfl (x := kind) rfl (Ac (λ hc => ?_) (λ hc => ?_))
   ·simp only [decide_eq_true_eq, ge_iff_le] at hc
    refine S8.ld (off := 0) 2 rfl (x := kind) rfl (Ac (λ hc2 => ?_) (λ hc2 => ?_))
    ·simp only [decide_eq_true_eq] at hc2
     exact Ap (hset true (by unfold Aj2; rw [decide_eq_true]; exact .inl ⟨hc, hc2⟩))
    ·simp only [decide_eq_false_iff_not] at hc2
     refine S8.ld (off := 0) 2 rfl (x := kind) rfl (Ap (hset _ ?_))
     unfold Aj2
     rw [Bool.eq_iff_iff, beq_iff_eq, decide_eq_true_eq]; omega
   ·simp only [decide_eq_false_iff_not, ge_iff_le] at hc
    refine S8.ld (off := 0) 2 rfl (x := kind) rfl (Ap (hset _ ?_))
    unfold Aj2
    rw [Bool.eq_iff_iff, beq_iff_eq, decide_eq_true_eq]; omega
  rintro _ w9 ⟨hr9, S9⟩
  refine Af (λ _ W => Gv W A (Aq A x past).1 r /\ St (λ _ => False) w W [(b10, mvO p (Bj A x past : Int) ((Aq A x past).2 : Int) (kOf count : Int) (decide (0 < count)) arg (max goal 0) past (Aj2 kind) r), (b2, ldZ), (b1, D7 kind count arg)]) ?_ ?_
  ·refine S9.ld (off := 1) 2 rfl (x := count) rfl (Ac (λ hc => ?_) (λ hc => ?_))
   ·simp only [decide_eq_true_eq, gt_iff_lt] at hc
    refine S9.ld (off := 1) 2 rfl (x := count) rfl (Ap ?_)
    have ek : (if (9999 : Int) < count then (9999 : Int) else count) = (kOf count : Int) := by unfold kOf; rw [if_pos hc]; split <;> omega
    rw [ek, decide_eq_true hc]
    refine S9.stC (off := 3) 0 rfl (by show 3 < 16; decide) λ w10 S10 u10 => Ap (S10.stC (off := 4) 0 rfl (by show 4 < 16; decide) λ w11 S11 u11 => ⟨(hr9.box (S9.at_ 0 rfl) (by decide) u10).box (S10.at_ 0 rfl) (by decide) u11, S11⟩)
   ·simp only [decide_eq_false_iff_not, gt_iff_lt] at hc
    have ek : kOf count = 1 := by unfold kOf; rw [if_neg hc]
    rw [ek, decide_eq_false hc]
    exact ⟨hr9, S9⟩
  rintro _ w10 ⟨hrow, S10⟩
  have hge : w5.heap.size <= b10 := Nat.le_of_eq hb10.symm
  have hmv : Dk w10 b10 p A x count arg (max goal 0) past (Aj2 kind) r := ⟨h.ext S10.upd, S10.at_ 0 rfl, hrow⟩
  refine func_x (caps := #[]) hg (hdo w10 b10 r w.heap.size _ hmv (h.n.ext S10.upd) (S10.ge 0 rfl) λ w11 u11 => ?_)
  have S11 : St (λ _ => False) w w11 [(b2, ldZ), (b1, D7 kind count arg)] := S10.tail.fresh u11 (λ k hk => .inr (by subst hk; exact S10.ge 0 rfl)) (λ y hy hk => by
   have hnd := S10.nd
   simp only [List.map_cons, List.map_nil, List.nodup_cons, List.mem_cons, List.not_mem_nil, or_false, not_or] at hnd
   rcases List.mem_cons.1 hy with rfl | hy
   ·exact hnd.1.1 hk.symm
   ·rw [List.mem_singleton.1 hy] at hk
    exact hnd.1.2 hk.symm)
  exact S11.Ad 0 rfl rfl rfl rfl λ w12 S12 _ => S12.lds 0 (ldT ans).1 rfl (hK w12 S12.upd)
theorem V3 {W w0 : World} {b2 : Nat} {o : Obj} {b1 : Nat} {l : Ld} {K : LdT -> Wp} (S : St (λ _ => False) w0 W [(b2, ldZ), (b1, o)]) (hK : ∀ w', Ext w0 w' -> K (ldT l) w') :
  Ad (at0 b2) (.agg (Cells.vals c83 (ldT l).1).toArray) 3 (lds c83 (at0 b2) λ y => K (y, (ldT l).2.1, ())) W :=
 S.Ad 0 rfl rfl rfl rfl λ w1 S1 _ => S1.lds 0 (ldT l).1 rfl (hK w1 S1.upd)
def Bs0 (k : Int) : Option FuncId := if k = 1 then some 134 else if k = 2 then some 135 else if k = 3 then some 136 else if k = 4 then some 137 else if k = 5 then some 138 else if k = 6 then some 139 else if k = 7 then some 140 else if k = 8 then some 141 else if k = 9 then some 142 else if k = 10 then some 143 else none
def Cd2 (k : Int) : Option FuncId := if k = 11 then some 144 else if k = 12 then some 145 else if k = 13 then some 146 else if k = 14 then some 147 else if k = 15 then some 148 else if k = 16 then some 149 else if k = 17 then some 150 else if k = 18 then some 151 else none
theorem Jv {n : Int} {k : Int} {g : FuncId} {o : Option FuncId} {K : Value -> Wp} {B : World -> Prop} (hK : K (vF (if k = n then some g else o)) w) (h2 : K (vF o) w -> B w) : sif (k == n) (K (.func (.func g) #[] #[])) B w := by
 refine Ac (λ hc => ?_) (λ hc => ?_)
 ·simp only [beq_iff_eq] at hc
  rw [if_pos hc] at hK; exact hK
 ·simp only [beq_eq_false_iff_ne, ne_eq] at hc
  rw [if_neg hc] at hK; exact h2 hK
theorem Z8 {K : Value -> Wp} (hK : K (vF (Bs0 kind)) w) : Aa Tryz.prog 90 #[.int .i64 kind] (.one (.one .any)) K w := by
 refine A90 ?_
 unfold F90
 exact Jv hK λ hK => Jv hK λ hK => Jv hK λ hK => Jv hK λ hK => Jv hK λ hK => Jv hK λ hK => Jv hK λ hK => Jv hK λ hK => Jv hK λ hK => Jv hK λ hK => hK
theorem Af4 {K : Value -> Wp} (hK : K (vF (Cd2 kind)) w) : Aa Tryz.prog 96 #[.int .i64 kind] (.one (.one .any)) K w := by
 refine A96 ?_
 unfold F96
 exact Jv hK λ hK => Jv hK λ hK => Jv hK λ hK => Jv hK λ hK => Jv hK λ hK => Jv hK λ hK => Jv hK λ hK => Jv hK λ hK => hK
theorem Am8 (h : TxA w p A) {K : LdT -> Wp} (hK : ∀ w', Ext w w' -> K (ldT (Cb A x kind count arg past)) w') :
  Aa Tryz.prog 40 #[.pointer (some (at0 p)), .int .i64 x, .agg (Cells.vals c48 (mvM kind count arg)).toArray, .bool past] (.tup [(.agg c83), (.one (.int .i64))]) K w := by
 refine A40 (a2 := mvM kind count arg) ?_
 unfold F40
 refine (St.start w).Ae λ b1 w1 S1 e1 => S1.Ae λ b2 w2 S2 e2 => ?_
 have S2 : St (λ _ => False) w w2 [(b2, ldZ), (b1, D7 kind count arg)] := S2
 refine S2.lds 1 (mvM kind count arg) rfl (Ac2 (v := Bs0 kind) (ans := Cb A x kind count arg past) (h.ext S2.upd) (λ W K hk => func_x (caps := #[]) (by kernel_rfl) (Z8 hk)) (λ hn => ?_) (λ g hg => ?_) λ w3 e3 => V3 (S2.ext e3) hK)
 ·have n1 : ¬ kind = 1 := λ h => absurd (h ▸ hn) (by decide)
  have n2 : ¬ kind = 2 := λ h => absurd (h ▸ hn) (by decide)
  have n3 : ¬ kind = 3 := λ h => absurd (h ▸ hn) (by decide)
  have n4 : ¬ kind = 4 := λ h => absurd (h ▸ hn) (by decide)
  have n5 : ¬ kind = 5 := λ h => absurd (h ▸ hn) (by decide)
  have n6 : ¬ kind = 6 := λ h => absurd (h ▸ hn) (by decide)
  have n7 : ¬ kind = 7 := λ h => absurd (h ▸ hn) (by decide)
  have n8 : ¬ kind = 8 := λ h => absurd (h ▸ hn) (by decide)
  have n9 : ¬ kind = 9 := λ h => absurd (h ▸ hn) (by decide)
  have n10 : ¬ kind = 10 := λ h => absurd (h ▸ hn) (by decide)
  unfold Cb
  dsimp only
  rw [if_neg n1, if_neg n2, if_neg n3, if_neg n4, if_neg n5, if_neg n6, if_neg (by omega), if_neg (by omega)]
 ·have up : ∀ {W : World} {b : Nat} {K : LdT -> Wp}, (∀ W', Upd (λ k => k = b) W W' -> K (ldT (Cb A x kind count arg past)) W') -> ∀ W', Ext W W' -> K (ldT (Cb A x kind count arg past)) W' := λ hk W' e => hk W' (Upd.Iq e)
  unfold Bs0 at hg
  split at hg
  ·cases hg; subst kind; exact ⟨by kernel_rfl, λ W b r N K hm _ _ hk => Bg9 hm (up hk)⟩
  split at hg
  ·cases hg; subst kind; exact ⟨by kernel_rfl, λ W b r N K hm _ _ hk => At5 hm (up hk)⟩
  split at hg
  ·cases hg; subst kind; exact ⟨by kernel_rfl, λ W b r N K hm _ _ hk => As0 hm (up hk)⟩
  split at hg
  ·cases hg; subst kind; exact ⟨by kernel_rfl, λ W b r N K hm _ _ hk => Bg7 hm (up hk)⟩
  split at hg
  ·cases hg; subst kind; exact ⟨by kernel_rfl, λ W b r N K hm _ _ hk => Bq5 hm (up hk)⟩
  split at hg
  ·cases hg; subst kind; exact ⟨by kernel_rfl, λ W b r N K hm _ _ hk => Bt3 hm (up hk)⟩
  split at hg
  ·cases hg; subst kind; exact ⟨by kernel_rfl, λ W b r N K hm _ _ hk => Aw6 hm (up hk)⟩
  split at hg
  ·cases hg; subst kind; exact ⟨by kernel_rfl, λ W b r N K hm _ _ hk => Aw5 hm (up hk)⟩
  split at hg
  ·cases hg; subst kind; exact ⟨by kernel_rfl, λ W b r N K hm _ _ hk => Bd6 hm (up hk)⟩
  split at hg
  ·cases hg; subst kind; exact ⟨by kernel_rfl, λ W b r N K hm _ _ hk => Ar6 hm (up hk)⟩
  ·cases hg
theorem Au9 (h : TxA w p A) {K : LdT -> Wp} (hK : ∀ w', Ext w w' -> K (ldT (Et A x goal kind count)) w') :
  Aa Tryz.prog 43 #[.pointer (some (at0 p)), .int .i64 x, .int .i64 goal, .agg (Cells.vals c48 (mvM kind count arg)).toArray] (.tup [(.agg c83), (.one (.int .i64))]) K w := by
 refine A43 (a3 := mvM kind count arg) ?_
 unfold F43
 refine (St.start w).Ae λ b1 w1 S1 e1 => S1.Ae λ b2 w2 S2 e2 => ?_
 have S2 : St (λ _ => False) w w2 [(b2, ldZ), (b1, D7 kind count arg)] := S2
 refine S2.lds 1 (mvM kind count arg) rfl (Ac2 (v := Cd2 kind) (ans := Et A x goal kind count) (h.ext S2.upd) (λ W K hk => func_x (caps := #[]) (by kernel_rfl) (Af4 hk)) (λ hn => ?_) (λ g hg => ?_) λ w3 e3 => V3 (S2.ext e3) hK)
 ·have n11 : ¬ kind = 11 := λ h => absurd (h ▸ hn) (by decide)
  have n12 : ¬ kind = 12 := λ h => absurd (h ▸ hn) (by decide)
  have n13 : ¬ kind = 13 := λ h => absurd (h ▸ hn) (by decide)
  have n14 : ¬ kind = 14 := λ h => absurd (h ▸ hn) (by decide)
  have n15 : ¬ kind = 15 := λ h => absurd (h ▸ hn) (by decide)
  have n16 : ¬ kind = 16 := λ h => absurd (h ▸ hn) (by decide)
  have n17 : ¬ kind = 17 := λ h => absurd (h ▸ hn) (by decide)
  have n18 : ¬ kind = 18 := λ h => absurd (h ▸ hn) (by decide)
  unfold Et
  dsimp only
  rw [if_neg n11, if_neg n12, if_neg n13, if_neg n14, if_neg n15, if_neg n16, if_neg n17, if_neg n18]
 ·have up : ∀ {W : World} {b : Nat} {K : LdT -> Wp}, (∀ W', Upd (λ k => k = b) W W' -> K (ldT (Et A x goal kind count)) W') -> ∀ W', Ext W W' -> K (ldT (Et A x goal kind count)) W' := λ hk W' e => hk W' (Upd.Iq e)
  unfold Cd2 at hg
  split at hg
  ·cases hg; subst kind; exact ⟨by kernel_rfl, λ W b r N K hm _ _ hk => Bi6 hm (up hk)⟩
  split at hg
  ·cases hg; subst kind; exact ⟨by kernel_rfl, λ W b r N K hm _ _ hk => D9 hm (up hk)⟩
  split at hg
  ·cases hg; subst kind; exact ⟨by kernel_rfl, λ W b r N K hm _ _ hk => Au8 hm (up hk)⟩
  split at hg
  ·cases hg; subst kind; exact ⟨by kernel_rfl, λ W b r N K hm _ _ hk => Au3 hm (up hk)⟩
  split at hg
  ·cases hg; subst kind; exact ⟨by kernel_rfl, λ W b r N K hm _ _ hk => Bh3 hm (up hk)⟩
  split at hg
  ·cases hg; subst kind; exact ⟨by kernel_rfl, λ W b r N K hm _ _ hk => Bh4 hm (up hk)⟩
  split at hg
  ·cases hg; subst kind; exact ⟨by kernel_rfl, λ W b r N K hm _ _ hk => Bk9 hm (up hk)⟩
  split at hg
  ·cases hg; subst kind; exact ⟨by kernel_rfl, λ W b r N K hm _ _ hk => Bf6 hm (up hk)⟩
  ·cases hg
end
end Go.Proofs.YtolhlldgnfbemaaGreatDoor
namespace Go.Proofs.YtolhlldgnfbemaaGreatDoor
open Cdc Gly Clu Lns Obx
namespace Obx
def X7 (n : Nat) : Nat := if n = 13 then 1 else if n = 10 then 2 else if n < 32 \/ n = 127 then 3 else 0
def Bu6 (n : Nat) : Nat := if (9 <= n /\ n <= 13) \/ n = 32 then 0 else if (48 <= n /\ n <= 57) \/ (65 <= n /\ n <= 90) \/ n = 95 \/ (97 <= n /\ n <= 122) then 2 else 1
theorem Cc4 : ((List.range 128).all λ n => cls (n : Int) == X7 n && cnj (n : Int) == 0 && wrd (n : Int) == Bu6 n) = true := by kernel_rfl
theorem Aj4 {v : Int} (h : 0 <= v /\ v < 128) : cls v = X7 v.toNat /\ cnj v = 0 /\ wrd v = Bu6 v.toNat := by
 have h1 := List.all_eq_true.1 Cc4 v.toNat (List.mem_range.2 (by omega))
 have e : ((v.toNat : Nat) : Int) = v := by omega
 rw [e] at h1
 simp only [Bool.and_eq_true, beq_iff_eq] at h1
 exact ⟨h1.1.1, h1.1.2, h1.2⟩
theorem Bc2 (n : Nat) : X7 n <= 3 := by unfold X7; split <;> (try split) <;> (try split) <;> omega
def Ay5 (l : List Int) : Prop := ∀ v ∈ l, 0 <= v /\ v < 128
theorem Ce9 {s : Sc} {a : Int} (ha : 0 <= a /\ a < 128) (hs : s.last <= 3) : joins s (cls a) (cnj a) = decide (s.last = 1 /\ a = 10) := by
 obtain ⟨h1, h2, _⟩ := Aj4 ha
 have h3 := Bc2 a.toNat
 rw [h1, h2]
 have h10 : X7 a.toNat = 2 ↔ a = 10 := by unfold X7; split <;> (try split) <;> (try split) <;> omega
 unfold joins
 by_cases hc : s.last = 1 /\ X7 a.toNat = 2
 ·rw [if_pos hc, decide_eq_true ⟨hc.1, h10.1 hc.2⟩]
 ·rw [if_neg hc, decide_eq_false (λ h => hc ⟨h.1, h10.2 h.2⟩)]
  split
  ·rfl
  ·rename_i hap
   simp only [not_or, apart, decide_eq_true_eq] at hap
   have e0 : s.last = 0 := by omega
   have e1 : X7 a.toNat = 0 := by omega
   rw [e0, e1]
   rfl
theorem Cb2 {A : List Int} (h : Ay5 A) : ∀ k, (sc (A.take k)).last <= 3
 | 0 => by simp [sc, Sc.zero]
 | k + 1 => by
  by_cases hk : k < A.length
  ·rw [List.take_add_one, List.getElem?_eq_getElem hk]
   show (sc (A.take k ++ [A[k]])).last <= 3
   rw [Vz, An4, (Aj4 (h _ (List.getElem_mem hk))).1]
   exact Bc2 _
  ·have := Cb2 h k
   rwa [List.take_of_length_le (by omega)] at this ⊢
theorem bk7 {A : List Int} (h : Ay5 A) {k : Nat} (hk : k <= A.length) : bk A k = !(decide (0 < k) && (A[k - 1]? == some 13) && (A[k]? == some 10)) := by
 cases k with
 | zero => rw [Xy]; rfl
 | succ k =>
  by_cases he : k + 1 = A.length
  ·rw [he, Aj1, List.getElem?_eq_none (Nat.le_refl A.length)]
   simp
  ·have ha : A[k + 1]? = some A[k + 1] := List.getElem?_eq_getElem (by omega)
   have hb : A[k]? = some A[k] := List.getElem?_eq_getElem (by omega)
   rw [Bc6 ha (by omega), Ce9 (h _ (List.getElem_mem _)) (Cb2 h _)]
   have hl : (sc (A.take (k + 1))).last = X7 (A[k]).toNat := by
    rw [List.take_add_one, hb]
    show (sc (A.take k ++ [A[k]])).last = _
    rw [Vz, An4, (Aj4 (h _ (List.getElem_mem _))).1]
   have h13 : X7 (A[k]).toNat = 1 ↔ A[k] = 13 := by
    have := h A[k] (List.getElem_mem _)
    unfold X7; split <;> (try split) <;> (try split) <;> omega
   rw [hl, ha, Nat.add_sub_cancel, hb]
   rw [Bool.eq_iff_iff]
   simp [h13]
def Bu0 (A : List Int) : Prop := ∀ k : Nat, A[k]? = some 13 -> A[k + 1]? ≠ some 10
theorem Bz6 {A : List Int} (h : Ay5 A) (hn : Bu0 A) {k : Nat} (hk : k <= A.length) : bk A k = true := by
 rw [bk7 h hk]
 cases k with
 | zero => rfl
 | succ k =>
  rw [Nat.add_sub_cancel]
  cases h1 : (A[k]? == some 13) with
  | false => simp
  | true =>
   have := hn k (by simpa using h1)
   simp [this]
theorem Br1 {A : List Int} (h : Ay5 A) (hn : Bu0 A) : cuts A = List.range (A.length + 1) := by
 unfold cuts Jp
 rw [List.filter_eq_self]
 intro k hk
 exact Bz6 h hn (by have := List.mem_range.1 hk; omega)
theorem Ck5 {A : List Int} (h : Ay5 A) (hn : Bu0 A) (off : Nat) {k : Nat} {a : Int} (ha : A[k]? = some a) : (Qx A off)[k]? = some ⟨off + k, off + k + 1, Bu6 a.toNat, true, a⟩ := by
 have hk := (List.getElem?_eq_some_iff.1 ha).1
 have hlen : (Qx A off).length = A.length := by rw [Qh, Br1 h hn, List.length_range, Nat.add_sub_cancel]
 obtain ⟨c, hc⟩ : ∃ c, (Qx A off)[k]? = some c := ⟨_, List.getElem?_eq_getElem (by omega)⟩
 obtain ⟨i, j, h1, h2, h3, h4, h5, h6, _, _, h7, h8, h9⟩ := (Oj hc).ex
 rw [Br1 h hn] at h1 h2
 rw [List.getElem?_range (by omega)] at h1
 rw [List.getElem?_range (by omega)] at h2
 cases h1; cases h2
 rw [ha] at h7
 cases h7
 obtain ⟨_, _, hw⟩ := Aj4 (h _ (List.mem_of_getElem? ha))
 rw [hc]
 obtain ⟨cf, ct, ck, ca, cat⟩ := c
 dsimp only at *
 have : ca = true := h9.2 rfl
 subst h5 h6 this
 rw [h8, hw]
 rfl
theorem Bj4 {A : List Int} (h : Ay5 A) (hn : Bu0 A) (off : Nat) : (Qx A off).length = A.length := by rw [Qh, Br1 h hn, List.length_range, Nat.add_sub_cancel]
end Obx
end Go.Proofs.YtolhlldgnfbemaaGreatDoor
namespace Go.Proofs.YtolhlldgnfbemaaGreatDoor
open Trx Gly Clu Lns Obx
namespace Obx
structure Good (A : List Int) (s : Int × Int × Int) : Prop where
 lo : 0 <= s.1
 le : s.1 <= s.2.1
 hi : s.2.1 <= A.length
 b1 : bk A s.1.toNat = true
 b2 : bk A s.2.1.toNat = true
structure LcOk (A : List Int) (l : Ln) (c : Cel) : Prop where
 lo : l.from_ <= c.from_
 lt : c.from_ < c.to_
 hi : c.to_ <= l.to_
 b1 : bk A c.from_ = true
 b2 : bk A c.to_ = true
end Obx
namespace Obx
def Tm (L : List Int) : Prop := ∀ v ∈ L, v ≠ 10 /\ v ≠ 13
theorem Tm.cl {L : List Int} (h : Tm L) : Bu0 L := λ k hk => absurd rfl (h 13 (List.mem_of_getElem? hk)).2
theorem As2 {A : List Int} {i : Nat} (h : isb A i = true) : sk A (nb A i + 1) = some (i + 1) /\ nb A (i + 1) = nb A i + 1 := by
 have hi := Cf0 h
 have hn : nb A (i + 1) = nb A i + 1 := by rw [Oc, h]; rfl
 have hle : nb A i + 1 <= brs A := by rw [← hn, Jq]; exact Jo A _ _ (by omega)
 obtain ⟨m, hm⟩ := Ak9 hle
 obtain ⟨_, _, h3, h4⟩ := Nh hm
 rw [hm]
 have h1 : ¬ i + 1 < m := λ hc => by have := h4 _ hc; omega
 have h2 : ¬ m < i + 1 := λ hc => by have := Jo A m i (by omega); omega
 exact ⟨by congr 1; omega, hn⟩
end Obx
namespace Obx
def file : List (List Int) -> List Int -> List Int
 | [], R => R
 | l :: Ls, R => l ++ 10 :: file Ls R
def Un : List (List Int) -> Nat -> Nat
 | _, 0 => 0
 | [], _ + 1 => 0
 | l :: Ls, k + 1 => l.length + 1 + Un Ls k
theorem Ab6 (Ls : List (List Int)) : Un Ls 0 = 0 := by cases Ls <;> rfl
theorem Ap6 {X : List Int} : ∀ {l : List Int}, Tm l -> brs (l ++ 10 :: X) = 1 + brs X
 | [], _ => by rw [List.nil_append, brs]; rfl
 | a :: l, h => by
  have ha := h a List.mem_cons_self
  rw [List.cons_append, brs, Ap6 (l := l) λ v hv => h v (List.mem_cons_of_mem _ hv)]
  have : isE a (l ++ 10 :: X) = false := by
   unfold isE
   simp [ha.1, ha.2]
  rw [this]; simp
theorem Xw : ∀ {l : List Int}, Tm l -> brs l = 0
 | [], _ => rfl
 | a :: l, h => by
  have ha := h a List.mem_cons_self
  rw [brs, Xw (l := l) λ v hv => h v (List.mem_cons_of_mem _ hv)]
  have : isE a l = false := by unfold isE; simp [ha.1, ha.2]
  rw [this]; simp
theorem Az1 {X : List Int} {k : Nat} : ∀ {l : List Int}, Tm l -> sk (l ++ 10 :: X) (k + 1) = (sk X k).map (· + (l.length + 1))
 | [], _ => by
  rw [List.nil_append, sk]
  have : isE 10 X = true := rfl
  rw [this]; rfl
 | a :: l, h => by
  have ha := h a List.mem_cons_self
  rw [List.cons_append, sk]
  have : isE a (l ++ 10 :: X) = false := by unfold isE; simp [ha.1, ha.2]
  rw [this]
  simp only [Bool.false_eq_true, if_false]
  rw [Az1 (l := l) λ v hv => h v (List.mem_cons_of_mem _ hv), Option.map_map]
  congr 1
def Lines (Ls : List (List Int)) : Prop := ∀ l ∈ Ls, Tm l
theorem F8 {R : List Int} (hR : Tm R) : ∀ {Ls : List (List Int)} (k : Nat), Lines Ls -> sk (file Ls R) k = if k <= Ls.length then some (Un Ls k) else none
 | Ls, 0, _ => by rw [Af1, Ab6]; simp
 | [], k + 1, _ => by
  show sk R (k + 1) = _
  rw [Ub R _ (by rw [Xw hR]; omega), if_neg (by simp)]
 | l :: Ls, k + 1, h => by
  rw [file, Az1 (h l List.mem_cons_self), F8 hR k λ x hx => h x (List.mem_cons_of_mem _ hx)]
  by_cases hk : k <= Ls.length
  ·rw [if_pos hk, if_pos (by simpa using hk), Option.map_some, Un]
   congr 1; omega
  ·rw [if_neg hk, if_neg (by simpa using hk)]; rfl
theorem Ap7 {R : List Int} (hR : Tm R) : ∀ {Ls : List (List Int)}, Lines Ls -> brs (file Ls R) = Ls.length
 | [], _ => Xw hR
 | l :: Ls, h => by rw [file, Ap6 (h l List.mem_cons_self), Ap7 hR λ x hx => h x (List.mem_cons_of_mem _ hx), List.length_cons]; omega
theorem V9 (R : List Int) : ∀ Ls : List (List Int), (file Ls R).length = Un Ls Ls.length + R.length
 | [] => by simp [file, Ab6]
 | l :: Ls => by rw [file, List.length_append, List.length_cons, V9 R Ls, List.length_cons, Un]; omega
variable {Ls : List (List Int)} {R : List Int}
theorem Bw9 (hL : Lines Ls) (hR : Tm R) : Kr (file Ls R) Ls.length = some ⟨Un Ls Ls.length, Un Ls Ls.length + R.length, Un Ls Ls.length + R.length, 0⟩ := by
 unfold Kr
 rw [F8 hR _ hL, if_pos (Nat.le_refl _), F8 hR _ hL, if_neg (by omega)]
 simp only
 rw [V9]
theorem Bo6 (hL : Lines Ls) (hR : Tm R) : lnN (file Ls R) = Ls.length + (if Ls ≠ [] /\ R = [] then 0 else 1) := by
 unfold lnN ended
 rw [Ap7 hR hL, F8 hR _ hL, if_pos (Nat.le_refl _), V9]
 congr 1
 by_cases hr : R = []
 ·subst hr
  cases Ls with
  | nil => simp [Un]
  | cons l Ls =>
   have h1 : Un (l :: Ls) (Ls.length + 1) ≠ 0 := by rw [Un]; omega
   have h2 : 0 < Un (l :: Ls) (Ls.length + 1) := by omega
   simp [h1, h2]
 ·have : 0 < R.length := List.length_pos_iff.2 hr
  have hb : (some (Un Ls Ls.length) == some (Un Ls Ls.length + R.length)) = false := by
   rw [beq_eq_false_iff_ne]
   intro h
   have := Option.some.inj h
   omega
  rw [hb, Bool.and_false, if_neg (by decide), if_neg (λ h => hr h.2)]
end Obx
namespace Mot
structure Tiny (A : List Int) : Prop where
 no : Tm A
 asc : Ay5 A
 pos : 0 < A.length
variable {A : List Int}
theorem Tiny.row (h : Tiny A) : brs A = 0 /\ lnN A = 1 /\ Bc A 0 = ⟨0, A.length, A.length, 0⟩ := by
 have hL : Lines [] := λ l hl => by cases hl
 have h1 := Bw9 (Ls := []) (R := A) hL h.no
 have h2 := Bo6 (Ls := []) (R := A) hL h.no
 have e : file [] A = A := rfl
 have o : Un [] ([] : List (List Int)).length = 0 := rfl
 rw [e, o, Nat.zero_add] at h1
 rw [e] at h2
 refine ⟨Xw h.no, ?_, ?_⟩
 ·rw [h2]; simp
 ·unfold Bc
  have h1 : Kr A 0 = some ⟨0, A.length, A.length, 0⟩ := h1
  rw [h1]; rfl
theorem Tiny.Qx (h : Tiny A) {k : Nat} {a : Int} (ha : A[k]? = some a) : (Ai A 0)[k]? = some ⟨k, k + 1, Bu6 a.toNat, true, a⟩ := by
 have e : Ai A 0 = Obx.Qx A 0 := by
  unfold Ai Bb0
  rw [h.row.2.2]
  dsimp only
  rw [List.drop_zero, Nat.sub_zero, List.take_length]
 have := Ck5 h.asc h.no.cl 0 ha
 rw [e, this]
 simp
theorem Tiny.len (h : Tiny A) : (Ai A 0).length = A.length := by
 have e : Ai A 0 = Obx.Qx A 0 := by
  unfold Ai Bb0
  rw [h.row.2.2]
  dsimp only
  rw [List.drop_zero, Nat.sub_zero, List.take_length]
 rw [e, Bj4 h.asc h.no.cl]
theorem Tiny.place (h : Tiny A) {k : Nat} (hk : k <= A.length) : Au A 0 (k : Int) = k := by
 by_cases hlt : k < A.length
 ·obtain ⟨a, ha⟩ : ∃ a, A[k]? = some a := ⟨_, List.getElem?_eq_getElem hlt⟩
  rw [Ei (by rw [h.len]; exact hlt), Ib (h.Qx ha)]
 ·rw [Fv (by rw [h.len]; omega), h.row.2.2]
  show A.length = k
  omega
theorem Tiny.plc (h : Tiny A) {k : Nat} (hk : k < A.length) : Plc A (0, k) := ⟨by have := h.row.2.1; dsimp only; omega, .inl (by rw [h.len]; exact hk)⟩
theorem Tiny.off (h : Tiny A) {k : Nat} (hk : k <= A.length) : Vk A (0, k) = k := h.place hk
theorem Tiny.Cn0 (h : Tiny A) : Aq A 0 false = (0, 0) := by
 have hp := h.plc h.pos
 have := Cd7 (past := false) hp.on (λ _ => hp)
 rw [h.off (Nat.zero_le _)] at this
 exact this
theorem Bt6 {A : List Int} (h : A.all (λ v => decide (32 <= v /\ v < 128)) = true) (h0 : 0 < A.length) : Tiny A := by
 rw [List.all_eq_true] at h
 refine ⟨λ v hv => ?_, λ v hv => ?_, h0⟩
 ·have := of_decide_eq_true (h v hv); omega
 ·have := of_decide_eq_true (h v hv); omega
theorem Ca1 : Cb [97, 98, 99] 0 2 0 0 false = Gu [97, 98, 99] 1 0 := by
 have h : Tiny [97, 98, 99] := Bt6 (by decide) (by decide)
 rw [Ad4, h.Cn0]
 have hm : Iw [97, 98, 99] 0 false = 2 := by unfold Iw; rw [h.len]; rfl
 rw [hm, if_neg (by decide)]
 have e : (min ((0 : Nat) + kOf 0) 2) = 1 := by decide
 dsimp only
 rw [e, h.off (by decide)]
end Mot
end Go.Proofs.YtolhlldgnfbemaaGreatDoor
namespace Go.Proofs.YtolhlldgnfbemaaGreatDoor
open Go Go.Vx
def F5 (a0 : (Int × Sl × Sl × Sl × Unit)) (K : Bool -> Wp) : Wp := Ae (.cells #[(vI a0.1), a0.2.1.v, a0.2.2.1.v, a0.2.2.2.1.v] 26) λ b1 => lds c26 (at0 b1) λ (x2 : (Int × Sl × Sl × Sl × Unit)) => cB 10 #[(vA c26 x2), (vI 5), (vI 5)] λ x3 => K x3
def h5 : Hint := (hS (hR 2) (hS (hR 3) hL))
theorem A5 {a0 : (Int × Sl × Sl × Sl × Unit)} {K : Bool -> Wp} {w : World} (h : F5 a0 K w) : Aa Tryz.prog 5 #[(vA c26 a0)] rB K w := tied Ah Tryz.func5 h5 _ h
def F10 (a0 : (Int × Sl × Sl × Sl × Unit)) (a1 : Int) (a2 : Int) (K : Bool -> Wp) : Wp := Ae (.cells #[(vI a0.1), a0.2.1.v, a0.2.2.1.v, a0.2.2.2.1.v] 26) λ b1 => lds c26 (at0 b1) λ (x2 : (Int × Sl × Sl × Sl × Unit)) => Aa Tryz.prog 11 #[(vA c26 x2)] (.tup [(.one .ptr), (.one .ptr), (.one .bool)]) λ (x3 : (Option Addr × Option Addr × Bool × Unit)) => jB (λ J4 => sif (!x3.2.2.1) ( J4 (true, ())) ( J4 ((Option.isNone x3.1), ()))) λ s5 => sif s5.1 ( K x3.2.2.1) ( jU (λ J6 => sI (λ s8 again9 => ld (.sl) (ad b1 3) λ (x10 : Sl) => sif (decide (s8.1 < ((x10.len : Nat) : Int))) ( ld (.sl) (ad b1 3) λ (x11 : Sl) => ixs c50 x11 s8.1 7 λ (x13 : (Int × Int × Int × Int × Int × Int × Bool × Unit)) => Ae (.cells #[(vI 0), (vI 0), (vI 0), (vI 0), (vI 0), (vI 0), (.bool false)] 50) λ b14 => Ad (at0 b14) (vA c50 x13) 7 <| jB (λ J15 => lI (at0 b14) λ x17 => sif (decide (x17 >= a1)) ( lI (at0 b14) λ x18 => sif (decide (x18 <= a2)) ( lds c50 (at0 b14) λ (x19 : (Int × Int × Int × Int × Int × Int × Bool × Unit)) => cB 18 #[(.pointer x3.1), (.pointer x3.2.1), (vA c50 x19)] λ x20 => J15 ((!x20), ())) ( J15 (false, ()))) ( J15 (false, ()))) λ s16 => sif s16.1 ( K false) ( again9 ((W64 (s8.1 + 1)), ()))) ( J6 ())) (0, ())) λ s7 => K true)
def h10 : Hint := (hS (hR 2) (hS (hR 9) (hS (hJ (0xfc0000, [(23, tB)]) (.region [] (.ops 3 (.split 20 (.skips 2 (hO 1)) (hO 3)))) (hC (hS (hR 2) hL) hL)) (hJ (0x3ffffffe000c40, []) (hS (hR 1) (.block (.loop 0x3ffffffe000c40 [(10, tI)] (hS (hS (hR 5) (hC hL hL)) (hS (.block (hS (hR 7) (hJ ((mR [(37, 54)]), [(53, tB)]) (.region [] (.ops 5 (.split 41 (.ops 6 (.split 47 (hO 6) (.skips 5 (hO 1)))) (.skips 4 (.ops 2 (.skips 5 (hO 1))))))) (hC (hS (hR 1) hL) hL)))) (hR 3)))))) (hS (hR 1) hL)))))
theorem A10 {a0 : (Int × Sl × Sl × Sl × Unit)} {a1 : Int} {a2 : Int} {K : Bool -> Wp} {w : World} (h : F10 a0 a1 a2 K w) : Aa Tryz.prog 10 #[(vA c26 a0), (vI a1), (vI a2)] rB K w := tied Ah Tryz.func10 h10 _ h
def F11 (a0 : (Int × Sl × Sl × Sl × Unit)) (K : (Option Addr × Option Addr × Bool × Unit) -> Wp) : Wp := Ae (.cells #[(vI a0.1), a0.2.1.v, a0.2.2.1.v, a0.2.2.2.1.v] 26) λ b1 => cB 19 #[] λ x2 => sif (!x2) ( K (none, none, false, ())) ( lI (at0 b1) λ x3 => ld (.sl) (ad b1 1) λ (x4 : Sl) => Aa Tryz.prog 12 #[(vI x3), x4.v, (vI 65536)] (.tup [(.one .ptr), (.one cI)]) λ (x5 : (Option Addr × Int × Unit)) => sif (x5.2.1 != 0) ( K (none, none, true, ())) ( drew <| lI (at0 b1) λ x6 => ld (.sl) (ad b1 1) λ (x7 : Sl) => Dw Tryz.prog rS (Builtin.append_ #[22, 22] 22 #[(.slice none 0 0), x7.v]) λ (x8 : Sl) => keep (λ w => w.cell? (at0 b1) = some (Cell.val cI x6)) <| Aa Tryz.prog 20 #[(vI x6), x8.v, (vI 65536)] (.tup [(.one .ptr), (.one cI)]) λ (x9 : (Option Addr × Int × Unit)) => jB (λ J10 => sif (Option.isNone x9.1) ( J10 (true, ())) ( J10 ((x9.2.1 != 0), ()))) λ s11 => sif s11.1 ( K (none, none, false, ())) ( jU (λ J12 => sI (λ s14 again15 => ld (.sl) (ad b1 2) λ (x16 : Sl) => sif (decide (s14.1 < ((x16.len : Nat) : Int))) ( drew <| ld (.sl) (ad b1 2) λ (x17 : Sl) => ixl (.sl) x17 s14.1 1 λ (x19 : Sl) => ld (.sl) (ad b1 2) λ (x20 : Sl) => ix x20.a x20.len s14.1 λ p21 => ld (.sl) (p21.add (scaled (Int.toNat s14.1) 1)) λ (x22 : Sl) => cS 15 #[x19.v] λ x23 => keep (λ w => w.cell? (p21.add (scaled (Int.toNat s14.1) 1)) = some (Cell.val (.sl) x22)) <| keep (λ w => w.cell? (ad b1 2) = some (Cell.val (.sl) x20)) <| cN 14 #[(.pointer x9.1), x23.v] λ x24 => keep (λ w => w.cell? (p21.add (scaled (Int.toNat s14.1) 1)) = some (Cell.val (.sl) x22)) <| keep (λ w => w.cell? (ad b1 2) = some (Cell.val (.sl) x20)) <| cN 16 #[(.pointer x5.1), x22.v] λ x25 => sif (x24 != x25) ( K (none, none, false, ())) ( again15 ((W64 (s14.1 + 1)), ()))) ( J12 ())) (0, ())) λ s13 => nn x5.1 λ p26 => ld (.sl) (p26.add 2) λ (x27 : Sl) => Aa Tryz.prog 17 #[x27.v] rP λ (x28 : Option Addr) => K (x9.1, x28, true, ()))))
def h11 : Hint := (hS (hR 4) (hS (hS (hR 2) (hC (hS (hR 3) hL) hL)) (hS (hR 10) (hS (hS (hR 2) (hC (hS (hR 3) hL) hL)) (hS (.region (lR 11) (hO 11)) (hS (hJ (0x1f80000000, [(36, tB)]) (.region [] (.ops 3 (.split 33 (.skips 2 (hO 1)) (hO 3)))) (hC (hS (hR 3) hL) hL)) (hJ (0xfffffe00000021c, []) (hS (hR 1) (.block (.loop 0xfffffe00000021c [(9, tI)] (hS (hS (hR 5) (hC hL hL)) (hS (.block (hS (.region [0, 1, 2, 3, 4, 5, 8, 9, 10, 11, 12, 13, 6, 7, 14, 15] (hO 16)) (hC (hS (hR 3) hL) hL))) (hR 3)))))) (hS (hR 9) hL))))))))
theorem A11 {a0 : (Int × Sl × Sl × Sl × Unit)} {K : (Option Addr × Option Addr × Bool × Unit) -> Wp} {w : World} (h : F11 a0 K w) : Aa Tryz.prog 11 #[(vA c26 a0)] (.tup [(.one .ptr), (.one .ptr), (.one .bool)]) K w := tied Ah Tryz.func11 h11 _ h
def F15 (a0 : Sl) (K : Sl -> Wp) : Wp := jS (λ J1 => Ju (S := Sl × Int × Unit) (λ s3 again4 => sif (decide (s3.2.1 < ((a0.len : Nat) : Int))) ( drew <| ix a0.a a0.len s3.2.1 λ p5 => ld cI (p5.add (scaled (Int.toNat s3.2.1) 3)) λ (x6 : Int) => ix a0.a a0.len s3.2.1 λ p7 => ld cI ((p7.add (scaled (Int.toNat s3.2.1) 3)).add 1) λ (x8 : Int) => ixf (.sl) a0 s3.2.1 3 2 λ (x10 : Sl) => Dw Tryz.prog rS (Builtin.append_ #[43, 43] 43 #[(.slice none 0 0), x10.v]) λ (x11 : Sl) => keep (λ w => w.cell? ((p7.add (scaled (Int.toNat s3.2.1) 3)).add 1) = some (Cell.val cI x8)) <| keep (λ w => w.cell? (p5.add (scaled (Int.toNat s3.2.1) 3)) = some (Cell.val cI x6)) <| Ae (.cells #[(vI x6), (vI x8), x11.v] 65) λ b12 => Dw Tryz.prog rS (Builtin.append_ #[39, 39] 39 #[s3.1.v, (.slice (some (at0 b12)) 1 1)]) λ (x13 : Sl) => again4 (x13, (W64 (s3.2.1 + 1)), ())) ( J1 (s3.1, ()))) (⟨none, 0, 0⟩, 0, ())) λ s2 => K s2.1
def h15 : Hint := (hS (hR 1) (hS (hR 1) (hJ (0x7ffffff8, [(3, tS)]) (hS (hR 1) (.block (.loop 0x7ffffff8 [(3, tS), (4, tI)] (hS (hS (hR 4) (hC hL hL)) (hS (.block (.region (lR 21) (hO 21))) (hR 3)))))) (hS (hR 2) hL))))
theorem A15 {a0 : Sl} {K : Sl -> Wp} {w : World} (h : F15 a0 K w) : Aa Tryz.prog 15 #[a0.v] rS K w := tied Ah Tryz.func15 h15 _ h
def F18 (a0 : Option Addr) (a1 : Option Addr) (a2 : (Int × Int × Int × Int × Int × Int × Bool × Unit)) (K : Bool -> Wp) : Wp := Ae (.cells #[(vI a2.1), (vI a2.2.1), (vI a2.2.2.1), (vI a2.2.2.2.1), (vI a2.2.2.2.2.1), (vI a2.2.2.2.2.2.1), (.bool a2.2.2.2.2.2.2.1)] 50) λ b1 => lI (at0 b1) λ x2 => sif (x2 == 1) ( drew <| lI (ad b1 1) λ x3 => ld (.bool) (ad b1 6) λ (x4 : Bool) => lI (ad b1 1) λ x5 => ld (.bool) (ad b1 6) λ (x6 : Bool) => cN 34 #[(.pointer a0), (vI x3), (.bool x4)] λ x7 => keep (λ w => w.cell? (ad b1 6) = some (Cell.val (.bool) x6)) <| keep (λ w => w.cell? (ad b1 1) = some (Cell.val cI x5)) <| cN 35 #[(.pointer a1), (vI x5), (.bool x6)] λ x8 => K (x7 == x8)) ( sif (x2 == 2) ( drew <| lI (ad b1 1) λ x9 => lI (ad b1 2) λ x10 => ld (.bool) (ad b1 6) λ (x11 : Bool) => lI (ad b1 1) λ x12 => lI (ad b1 2) λ x13 => ld (.bool) (ad b1 6) λ (x14 : Bool) => cN 36 #[(.pointer a0), (vI x9), (vI x10), (.bool x11)] λ x15 => keep (λ w => w.cell? (ad b1 6) = some (Cell.val (.bool) x14)) <| keep (λ w => w.cell? (ad b1 2) = some (Cell.val cI x13)) <| keep (λ w => w.cell? (ad b1 1) = some (Cell.val cI x12)) <| cN 37 #[(.pointer a1), (vI x12), (vI x13), (.bool x14)] λ x16 => K (x15 == x16)) ( sif (x2 == 3) ( drew <| lI (ad b1 1) λ x17 => lI (ad b1 1) λ x18 => cN 38 #[(.pointer a0), (vI x17)] λ x19 => keep (λ w => w.cell? (ad b1 1) = some (Cell.val cI x18)) <| cN 39 #[(.pointer a1), (vI x18)] λ x20 => K (x19 == x20)) ( sif (x2 == 4) ( lI (ad b1 1) λ x21 => lds c48 (ad b1 3) λ (x22 : I3) => ld (.bool) (ad b1 6) λ (x23 : Bool) => Aa Tryz.prog 40 #[(.pointer a0), (vI x21), (vA c48 x22), (.bool x23)] (.tup [(.agg c83), (.one cI)]) λ (x24 : (I3 × Int × Unit)) => Ae (.cells #[(vI 0), (vI 0), (vI 0)] 83) λ b25 => Ad (at0 b25) (vA c83 x24.1) 3 <| lI (ad b1 1) λ x26 => lds c48 (ad b1 3) λ (x27 : I3) => ld (.bool) (ad b1 6) λ (x28 : Bool) => Aa Tryz.prog 41 #[(.pointer a1), (vI x26), (vA c48 x27), (.bool x28)] (.tup [(.agg c83), (.one cI)]) λ (x29 : (I3 × Int × Unit)) => Ae (.cells #[(vI 0), (vI 0), (vI 0)] 83) λ b30 => Ad (at0 b30) (vA c83 x29.1) 3 <| lds c83 (at0 b25) λ (x31 : I3) => lds c83 (at0 b30) λ (x32 : I3) => cB 42 #[(vA c83 x31), (vI x24.2.1), (vA c83 x32), (vI x29.2.1)] λ x33 => K x33) ( sif (x2 == 5) ( lI (ad b1 1) λ x34 => lI (ad b1 2) λ x35 => lds c48 (ad b1 3) λ (x36 : I3) => Aa Tryz.prog 43 #[(.pointer a0), (vI x34), (vI x35), (vA c48 x36)] (.tup [(.agg c83), (.one cI)]) λ (x37 : (I3 × Int × Unit)) => Ae (.cells #[(vI 0), (vI 0), (vI 0)] 83) λ b38 => Ad (at0 b38) (vA c83 x37.1) 3 <| lI (ad b1 1) λ x39 => lI (ad b1 2) λ x40 => lds c48 (ad b1 3) λ (x41 : I3) => Aa Tryz.prog 44 #[(.pointer a1), (vI x39), (vI x40), (vA c48 x41)] (.tup [(.agg c83), (.one cI)]) λ (x42 : (I3 × Int × Unit)) => Ae (.cells #[(vI 0), (vI 0), (vI 0)] 83) λ b43 => Ad (at0 b43) (vA c83 x42.1) 3 <| lds c83 (at0 b38) λ (x44 : I3) => lds c83 (at0 b43) λ (x45 : I3) => cB 42 #[(vA c83 x44), (vI x37.2.1), (vA c83 x45), (vI x42.2.1)] λ x46 => K x46) ( sif (x2 == 6) ( lI (ad b1 1) λ x47 => lds c48 (ad b1 3) λ (x48 : I3) => ld (.bool) (ad b1 6) λ (x49 : Bool) => Aa Tryz.prog 45 #[(.pointer a0), (vI x47), (vA c48 x48), (.bool x49)] (.tup [(.agg c83), (.one cI)]) λ (x50 : (I3 × Int × Unit)) => Ae (.cells #[(vI 0), (vI 0), (vI 0)] 83) λ b51 => Ad (at0 b51) (vA c83 x50.1) 3 <| lI (ad b1 1) λ x52 => lds c48 (ad b1 3) λ (x53 : I3) => ld (.bool) (ad b1 6) λ (x54 : Bool) => Aa Tryz.prog 46 #[(.pointer a1), (vI x52), (vA c48 x53), (.bool x54)] (.tup [(.agg c83), (.one cI)]) λ (x55 : (I3 × Int × Unit)) => Ae (.cells #[(vI 0), (vI 0), (vI 0)] 83) λ b56 => Ad (at0 b56) (vA c83 x55.1) 3 <| lds c83 (at0 b51) λ (x57 : I3) => lds c83 (at0 b56) λ (x58 : I3) => cB 42 #[(vA c83 x57), (vI x50.2.1), (vA c83 x58), (vI x55.2.1)] λ x59 => K x59) ( sif (x2 == 7) ( lI (ad b1 1) λ x60 => lds c48 (ad b1 3) λ (x61 : I3) => Aa Tryz.prog 47 #[(.pointer a0), (vI x60), (vA c48 x61)] (.tup [(.agg c83), (.one cI)]) λ (x62 : (I3 × Int × Unit)) => Ae (.cells #[(vI 0), (vI 0), (vI 0)] 83) λ b63 => Ad (at0 b63) (vA c83 x62.1) 3 <| lI (ad b1 1) λ x64 => lds c48 (ad b1 3) λ (x65 : I3) => Aa Tryz.prog 48 #[(.pointer a1), (vI x64), (vA c48 x65)] (.tup [(.agg c83), (.one cI)]) λ (x66 : (I3 × Int × Unit)) => Ae (.cells #[(vI 0), (vI 0), (vI 0)] 83) λ b67 => Ad (at0 b67) (vA c83 x66.1) 3 <| lds c83 (at0 b63) λ (x68 : I3) => lds c83 (at0 b67) λ (x69 : I3) => cB 42 #[(vA c83 x68), (vI x62.2.1), (vA c83 x69), (vI x66.2.1)] λ x70 => K x70) ( sif (x2 == 8) ( lI (ad b1 1) λ x71 => lds c48 (ad b1 3) λ (x72 : I3) => Aa Tryz.prog 49 #[(.pointer a0), (vI x71), (vA c48 x72)] (.tup [(.agg c94), (.one cI)]) λ (x73 : (I3 × Int × Unit)) => Ae (.cells #[(vI 0), (vI 0), (vI 0)] 94) λ b74 => Ad (at0 b74) (vA c94 x73.1) 3 <| lI (ad b1 1) λ x75 => lds c48 (ad b1 3) λ (x76 : I3) => Aa Tryz.prog 50 #[(.pointer a1), (vI x75), (vA c48 x76)] (.tup [(.agg c94), (.one cI)]) λ (x77 : (I3 × Int × Unit)) => Ae (.cells #[(vI 0), (vI 0), (vI 0)] 94) λ b78 => Ad (at0 b78) (vA c94 x77.1) 3 <| lds c94 (at0 b74) λ (x79 : I3) => lds c94 (at0 b78) λ (x80 : I3) => cB 51 #[(vA c94 x79), (vI x73.2.1), (vA c94 x80), (vI x77.2.1)] λ x81 => K x81) ( sif (x2 == 9) ( lI (ad b1 1) λ x82 => lI (ad b1 2) λ x83 => lI (ad b1 3) λ x84 => Aa Tryz.prog 52 #[(.pointer a0), (vI x82), (vI x83), (vI x84)] (.tup [(.agg c94), (.one cI)]) λ (x85 : (I3 × Int × Unit)) => Ae (.cells #[(vI 0), (vI 0), (vI 0)] 94) λ b86 => Ad (at0 b86) (vA c94 x85.1) 3 <| lI (ad b1 1) λ x87 => lI (ad b1 2) λ x88 => lI (ad b1 3) λ x89 => Aa Tryz.prog 53 #[(.pointer a1), (vI x87), (vI x88), (vI x89)] (.tup [(.agg c94), (.one cI)]) λ (x90 : (I3 × Int × Unit)) => Ae (.cells #[(vI 0), (vI 0), (vI 0)] 94) λ b91 => Ad (at0 b91) (vA c94 x90.1) 3 <| lds c94 (at0 b86) λ (x92 : I3) => lds c94 (at0 b91) λ (x93 : I3) => cB 51 #[(vA c94 x92), (vI x85.2.1), (vA c94 x93), (vI x90.2.1)] λ x94 => K x94) ( K true)))))))))
def h18 : Hint := (hS (hR 2) (hS (hS (hR 2) (.block (hS (hR 2) (hC (hS (.region [0, 1, 2, 3, 4, 6, 7, 8, 9, 10, 5, 11, 12, 13] (hO 14)) hL) (hS (hR 2) (hC (hS (.region [0, 1, 2, 3, 4, 5, 6, 8, 9, 10, 11, 12, 13, 14, 7, 15, 16, 17] (hO 18)) hL) (hS (hR 2) (hC (hS (.region [0, 1, 2, 4, 5, 6, 3, 7, 8, 9] (hO 10)) hL) (hS (hR 2) (hC (hS (hR 14) (hS (hR 14) (hS (hR 6) hL))) (hS (hR 2) (hC (hS (hR 14) (hS (hR 14) (hS (hR 6) hL))) (hS (hR 2) (hC (hS (hR 14) (hS (hR 14) (hS (hR 6) hL))) (hS (hR 2) (hC (hS (hR 12) (hS (hR 12) (hS (hR 6) hL))) (hS (hR 2) (hC (hS (hR 12) (hS (hR 12) (hS (hR 6) hL))) (hS (hR 2) (hC (hS (hR 15) (hS (hR 15) (hS (hR 6) hL))) hL)))))))))))))))))))) (hS (hR 1) hL)))
theorem A18 {a0 : Option Addr} {a1 : Option Addr} {a2 : (Int × Int × Int × Int × Int × Int × Bool × Unit)} {K : Bool -> Wp} {w : World} (h : F18 a0 a1 a2 K w) : Aa Tryz.prog 18 #[(.pointer a0), (.pointer a1), (vA c50 a2)] rB K w := tied Ah Tryz.func18 h18 _ h
def F19  (K : Bool -> Wp) : Wp := Ae (.cells #[(.int .u8 97), (.int .u8 98), (.int .u8 99)] 5) λ b1 => Aa Tryz.prog 20 #[(vI 1), (.slice (some (at0 b1)) 3 3), (vI 9)] (.tup [(.one .ptr), (.one cI)]) λ (x2 : (Option Addr × Int × Unit)) => jB (λ J3 => sif (Option.isNone x2.1) ( J3 (true, ())) ( J3 ((x2.2.1 != 0), ()))) λ s4 => sif s4.1 ( K false) ( Aa Tryz.prog 40 #[(.pointer x2.1), (vI 0), (.agg #[(vI 2), (vI 0), (vI 0)]), (.bool false)] (.tup [(.agg c83), (.one cI)]) λ (x5 : (I3 × Int × Unit)) => Ae (.cells #[(vI 0), (vI 0), (vI 0)] 83) λ b6 => Ad (at0 b6) (vA c83 x5.1) 3 <| sif (x5.2.1 == 0) ( lI (at0 b6) λ x7 => K (x7 == 1)) ( K false))
def h19 : Hint := (hS (hR 1) (hS (hR 7) (hS (hJ (64512, [(15, tB)]) (.region [] (.ops 3 (.split 12 (.skips 2 (hO 1)) (hO 3)))) (hC (hS (hR 1) hL) hL)) (hS (hR 9) (hS (.region [] (.ops 3 (.split 24 (hO 5) (.skips 3 (hO 2))))) hL)))))
theorem A19 {K : Bool -> Wp} {w : World} (h : F19  K w) : Aa Tryz.prog 19 #[] rB K w := tied Ah Tryz.func19 h19 _ h
def F42 (a0 : I3) (a1 : Int) (a2 : I3) (a3 : Int) (K : Bool -> Wp) : Wp := Ae (.cells #[(vI a0.1), (vI a0.2.1), (vI a0.2.2.1)] 83) λ b1 => Ae (.cells #[(vI a2.1), (vI a2.2.1), (vI a2.2.2.1)] 83) λ b2 => lI (at0 b1) λ x3 => lI (at0 b2) λ x4 => sif (x3 == x4) ( lI (ad b1 1) λ x5 => lI (ad b2 1) λ x6 => sif (x5 == x6) ( lI (ad b1 2) λ x7 => lI (ad b2 2) λ x8 => sif (x7 == x8) ( K (a1 == a3)) ( K false)) ( K false)) ( K false)
def h42 : Hint := (hS (hR 3) (hS (.region [] (.ops 6 (.split 14 (.ops 7 (.split 21 (.ops 7 (.split 28 (hO 5) (.skips 3 (hO 2)))) (.skips 5 (.ops 2 (.skips 3 (hO 2)))))) (.skips 5 (.ops 2 (.skips 5 (.ops 2 (.skips 3 (hO 2))))))))) hL))
theorem A42 {a0 : I3} {a1 : Int} {a2 : I3} {a3 : Int} {K : Bool -> Wp} {w : World} (h : F42 a0 a1 a2 a3 K w) : Aa Tryz.prog 42 #[(vA c83 a0), (vI a1), (vA c83 a2), (vI a3)] rB K w := tied Ah Tryz.func42 h42 _ h
end Go.Proofs.YtolhlldgnfbemaaGreatDoor
namespace Go.Proofs.YtolhlldgnfbemaaGreatDoor
open Go Go.Vx Cdc Trx Gly Clu Lns Obx Mot
theorem Bq9 : Hl Tryz.prog 39 65 3 40 := Hl.of (z := .agg #[.int .i64 0, .int .i64 0, .slice none 0 0]) C39 C65 rfl rfl rfl (by decide)
section
variable {w w' : World}
theorem Bj7 {K : Bool -> Wp} (hK : ∀ w', Ext w w' -> K true w') : Aa Tryz.prog 19 #[] rB K w := by
 refine A19 ?_
 unfold F19
 refine (St.start w).Ae λ b1 w1 S1 e1 => ?_
 have hB : By w1 ⟨some (at0 b1), 3, 3⟩ [97, 98, 99] := Bf.Ir (S1.at_ 0 rfl) (n := 3) (sz := 1) rfl
 refine Ab5 (e := .u8) (lim := 9) hB (by decide) (by decide) λ p O M w2 tx hA _ e2 _ => ?_
 have hA : atoms (aOf .u8 M) = [97, 98, 99] := by rw [hA]; kernel_rfl
 have ta : TxA w2 p [97, 98, 99] := ⟨_, _, _, _, _, tx, hA⟩
 refine Af (λ x W => x = (false, ()) /\ w2 = W) (Am ⟨rfl, rfl⟩) ?_
 rintro _ _ ⟨rfl, rfl⟩
 refine Am (Am8 (kind := 2) (count := 0) (arg := 0) (x := 0) ta λ w3 e3 => ?_)
 rw [Ca1]
 refine ((S1.ext e2).ext e3).Ae λ b6 w4 S4 e4 => S4.Ad 0 rfl rfl rfl rfl λ w5 S5 _ => ?_
 exact Df (S5.ld (off := 0) 0 rfl (x := 1) rfl (hK w5 S5.upd))
theorem Xi {c : Cell} {cs : List Cell} {s : Sl} {xs : List (Cells.T cs)} {n : Int} {j : Nat} {K : Addr -> c.T -> Wp} (h : SlX w s cs.length (flat cs xs)) (h0 : 0 <= n) {x : Cells.T cs} {y : c.T} (hx : xs[n.toNat]? = some x) (hy : (Cells.vals cs x)[j]? = some (c.val y))
  (hK : ∀ p, (∀ w', Ext w w' -> w'.cell? ((p.add (scaled (Int.toNat n) cs.length)).add j) = some (c.val y)) -> K p y w) :
  ix s.a s.len n (λ p => ld c ((p.add (scaled (Int.toNat n) cs.length)).add j) (K p)) w := by
 have hlt := (List.getElem?_eq_some_iff.1 hx).1
 have hjl : j < cs.length := by
  have := (List.getElem?_eq_some_iff.1 hy).1
  rwa [Es] at this
 have hl := h.Js (by omega)
 obtain ⟨t, h⟩ := h.Ac7 (by omega)
 refine h.ix h0 (by omega) (by omega) λ b off ha hv => ?_
 have hc : w.cell? (((⟨b, off, none⟩ : Addr).add (scaled (Int.toNat n) cs.length)).add j) = some (c.val y) := by
  rw [addr_add, addr_add]
  have := hv j (c.val y) (by rw [flat_get cs xs _ j x hx hjl]; exact hy)
  simpa [Dy] using this
 exact Xh (x := y) hc (hK _ λ w' x' => Ti hc x')
theorem Bp5 {c : Cell} {cs : List Cell} {s : Sl} {xs : List (Cells.T cs)} {n : Int} {K : Addr -> c.T -> Wp} (h : SlX w s cs.length (flat cs xs)) (h0 : 0 <= n) {x : Cells.T cs} {y : c.T} (hx : xs[n.toNat]? = some x) (hy : (Cells.vals cs x)[0]? = some (c.val y))
  (hK : ∀ p, (∀ w', Ext w w' -> w'.cell? (p.add (scaled (Int.toNat n) cs.length)) = some (c.val y)) -> K p y w) :
  ix s.a s.len n (λ p => ld c (p.add (scaled (Int.toNat n) cs.length)) (K p)) w := by
 have hlt := (List.getElem?_eq_some_iff.1 hx).1
 have hjl : 0 < cs.length := by
  have := (List.getElem?_eq_some_iff.1 hy).1
  rwa [Es] at this
 have hl := h.Js (by omega)
 obtain ⟨t, h⟩ := h.Ac7 (by omega)
 refine h.ix h0 (by omega) (by omega) λ b off ha hv => ?_
 have hc : w.cell? ((⟨b, off, none⟩ : Addr).add (scaled (Int.toNat n) cs.length)) = some (c.val y) := by
  rw [addr_add]
  have := hv 0 (c.val y) (by rw [flat_get cs xs _ 0 x hx hjl]; exact hy)
  simpa [Dy] using this
 exact Xh (x := y) hc (hK _ λ w' x' => Ti hc x')
set_option maxHeartbeats 400000 in
theorem Bn1 {s : Sl} {es : List LEd} (h : EdX w s es) {K : Sl -> Wp} (hK : ∀ r ys w', Cg3 w' r 65 ys es -> (∀ k, r.blk k -> w.heap.size <= k) -> (∀ (i : Nat) y, ys[i]? = some y -> ∀ k, y.2.2.1.blk k -> w.heap.size <= k) -> Ext w w' -> K r w') :
  Aa Tryz.prog 15 #[s.v] rS K w := by
 refine A15 ?_
 unfold F15
 obtain ⟨ys0, hs, hyl, hy0⟩ := h.ex
 have few := h.few
 have hsl : ys0.length = s.len := SlX.Js (cs := c65) hs (by decide)
 refine Af (λ x W => ∃ ys, Ak W w.heap.size x.1 65 3 (flat c65 ys) /\ ys.length = es.length /\ (∀ (i : Nat) y z, ys[i]? = some y -> es[i]? = some z -> y.1 = z.f /\ y.2.1 = z.t /\ Ak W w.heap.size y.2.2.1 3 1 (iv z.put) /\ z.put.length <= 1048576) /\ Ext w W) ?_ ?_
 ·refine Ba (λ x W => ∃ (i : Nat) (ys : List (Cells.T c65)), i <= es.length /\ x.2 = ((i : Int), ()) /\ Ak W w.heap.size x.1 65 3 (flat c65 ys) /\ ys.length = i /\ (∀ (j : Nat) y z, ys[j]? = some y -> es[j]? = some z -> y.1 = z.f /\ y.2.1 = z.t /\ Ak W w.heap.size y.2.2.1 3 1 (iv z.put) /\ z.put.length <= 1048576) /\ Ext w W) (λ x _ => ((es.length : Int) - x.2.1).toNat) ⟨0, [], Nat.zero_le _, rfl, Ak.nil _ _ _ _, rfl, λ j y z hy => by simp at hy, Ext.refl w⟩ ?_
  rintro ⟨r, _⟩ W ⟨i, ys, hi, rfl, hr, hl, hys, eW⟩
  dsimp only at hr ⊢
  have hrl : ys.length = r.len := Ak.Js (cs := c65) hr (by decide)
  refine Ac (λ hc => ?_) (λ hc => ?_)
  ·simp only [decide_eq_true_eq] at hc
   obtain ⟨y, hy⟩ : ∃ y, ys0[i]? = some y := ⟨_, List.getElem?_eq_getElem (by omega)⟩
   obtain ⟨z, hz⟩ : ∃ z, es[i]? = some z := ⟨_, List.getElem?_eq_getElem (by omega)⟩
   obtain ⟨y1, y2, y3, y4⟩ := hy0 i y z hy hz
   have ew : W64 ((i : Int) + 1) = ((i + 1 : Nat) : Int) := by rw [wrap64 (by omega) (by omega)]; omega
   rw [ew]
   refine Ed λ w2 e2 _ => ?_
   have x2 := eW.trans e2
   have hyn : ys0[((i : Int)).toNat]? = some y := by rw [Int.toNat_natCast]; exact hy
   have hs2 := hs.ext x2
   refine Bp5 (c := .int .i64) (cs := c65) (xs := ys0) (y := y.1) hs2 (Int.natCast_nonneg i) hyn rfl λ q1 k1 => ?_
   refine Xi (c := .int .i64) (cs := c65) (xs := ys0) (j := 1) (y := y.2.1) hs2 (Int.natCast_nonneg i) hyn rfl λ q2 k2 => ?_
   refine Xi (c := .sl) (cs := c65) (xs := ys0) (j := 2) (y := y.2.2.1) hs2 (Int.natCast_nonneg i) hyn rfl λ q3 k3 => ?_
   have hpl : z.put.length = y.2.2.1.len := by have := y3.len1; rwa [List.length_map] at this
   refine Ee Va Va.ts_ (B := w.heap.size) (s := ⟨none, 0, 0⟩) (x := y.2.2.1) (vs := []) (us := iv z.put) (Ak.nil w2 w.heap.size 3 1) (y3.ext x2) (λ v hv => by obtain ⟨n, _, rfl⟩ := List.mem_map.1 hv; rfl) (by
    show (0 + y.2.2.1.len + (0 + y.2.2.1.len) / 4 + 512) * 8 <= 2 ^ 48
    omega) (by have := x2.size; omega) λ s3 w3 o3 l3 u3 b3 => ?_
   have e3 : Ext w2 w3 := (Ext.refl w2).step u3 λ k hk => by obtain ⟨_, hp, _⟩ := hk; cases hp
   have x3 := x2.trans e3
   rw [List.nil_append] at o3
   refine Ar (k2 w3 e3) (Ar (k1 w3 e3) (Ce λ b12 w4 e4 n4 hb4 _ => ?_))
   have x4 := x3.trans e4
   have hbox : SlX w4 ⟨some (at0 b12), 1, 1⟩ 3 (flat c65 [(y.1, y.2.1, s3, ())]) := (Bf.Ir n4 (n := 1) (sz := 3) rfl).x
   refine Ee Bq9 Bq9.ts_ (x := ⟨some (at0 b12), 1, 1⟩) (hr.ext ((e2.trans e3).trans e4)) hbox (λ v hv => by
    have hv : v ∈ [Value.int .i64 y.1, .int .i64 y.2.1, .slice s3.a s3.len s3.cap] := hv
    simp only [List.mem_cons, List.not_mem_nil, or_false] at hv
    rcases hv with rfl | rfl | rfl <;> rfl) (by
    show (r.len + 1 + (r.len + 1) / 4 + 512) * 40 <= 2 ^ 48
    omega) (by have := x4.size; omega) λ r' w5 o5 l5 u5 b5 => ?_
   have x5 : Ext w w5 := x4.step u5 λ k hk => hr.Fa hk
   have ef : flat c65 ys ++ flat c65 [(y.1, y.2.1, s3, ())] = flat c65 (ys ++ [(y.1, y.2.1, s3, ())]) := by simp [flat]
   rw [ef] at o5
   have ne : ∀ {sl : Sl} {v : List Int} {V : World}, Ak V w.heap.size sl 3 1 (iv v) -> Ext V w4 -> Ak w5 w.heap.size sl 3 1 (iv v) := λ ho e => (ho.ext e).ty (t := 3) u5 (λ k hk c fr hn => by
    obtain ⟨c', fr', hc'⟩ := (hr.ext ((e2.trans e3).trans e4)).in.En hk
    rw [hn] at hc'
    cases hc')
   refine ⟨⟨i + 1, ys ++ [(y.1, y.2.1, s3, ())], by omega, rfl, o5, by simp [hl], λ j y' z' hy' hz' => ?_, x5⟩, by (try dsimp only); omega⟩
   by_cases hj : j < ys.length
   ·rw [List.getElem?_append_left hj] at hy'
    obtain ⟨g1, g2, g3, g4⟩ := hys j y' z' hy' hz'
    exact ⟨g1, g2, ne g3 ((e2.trans e3).trans e4), g4⟩
   ·have hje : j = i := by
     have := (List.getElem?_eq_some_iff.1 hy').1
     simp at this; omega
    subst hje
    rw [← hl, List.getElem?_concat_length] at hy'
    cases hy'
    rw [hz] at hz'; cases hz'
    exact ⟨y1, y2, ne o3 e4, y4⟩
  ·simp only [decide_eq_false_iff_not] at hc
   obtain rfl : i = es.length := by omega
   exact ⟨ys, hr, hl, hys, eW⟩
 rintro ⟨r, _⟩ W ⟨ys, hr, hl, hys, eW⟩
 refine hK r ys W ⟨hr.in, hl, λ i y z hy hz => ?_⟩ (λ k hk => hr.Fa hk) (λ i y hy k hk => ?_) eW
 ·obtain ⟨g1, g2, g3, g4⟩ := hys i y z hy hz
  exact ⟨g1, g2, ⟨_, g3.in⟩, by omega⟩
 ·obtain ⟨z, hz⟩ : ∃ z, es[i]? = some z := ⟨_, List.getElem?_eq_getElem (by have := (List.getElem?_eq_some_iff.1 hy).1; omega)⟩
  exact (hys i y z hy hz).2.2.1.Fa hk
abbrev lkO (y : Cells.T c26) : Obj := .cells #[.int .i64 y.1, .slice y.2.1.a y.2.1.len y.2.1.cap, .slice y.2.2.1.a y.2.2.1.len y.2.2.1.cap, .slice y.2.2.2.1.a y.2.2.2.1.len y.2.2.2.1.cap] 26 (0, 0)
theorem EdX.ext {s : Sl} {es : List LEd} (h : EdX w s es) (e : Ext w w') : EdX w' s es := by
 obtain ⟨ys, h1, h2, h3⟩ := h.ex
 exact ⟨⟨ys, h1.ext e, h2, λ i y x hy hx => by obtain ⟨a, b, c, d⟩ := h3 i y x hy hx; exact ⟨a, b, c.ext e, d⟩⟩, h.few⟩
theorem At7 {e : Enc} {lim : Nat} {A : As} {es : List LEd} (h : Ig e lim A es = 0) : Bq e es <= lim := by
 unfold Ig at h
 split at h
 ·cases h
 split at h
 ·cases h
 rename_i hr
 split at h
 ·cases h
 split at h
 ·cases h
 have gl := Xk (A := A) (es := es) (a := 0) (Int.le_refl _) (by simpa using hr)
 omega
theorem By8 {c : Int} (h : 1 <= c /\ c <= 4) : ∃ e : Enc, e.num = c := by
 rcases (by omega : c = 1 \/ c = 2 \/ c = 3 \/ c = 4) with rfl | rfl | rfl | rfl
 ·exact ⟨.u8, rfl⟩
 ·exact ⟨.le, rfl⟩
 ·exact ⟨.be, rfl⟩
 ·exact ⟨.l1, rfl⟩
end
end Go.Proofs.YtolhlldgnfbemaaGreatDoor
namespace Go.Proofs.YtolhlldgnfbemaaGreatDoor
open Go Go.Vx Cdc Trx
namespace Cdc
def Rt (B : List Int) : Nat -> List LEd -> List Int
 | a, [] => B.drop a
 | a, x :: r => (B.drop a).take (x.f.toNat - a) ++ x.put ++ Rt B x.t.toNat r
theorem apply_seq {e : Enc} {A : As} : ∀ {es : List LEd} {a : Int}, 0 <= a -> a <= A.length -> Hf A.length a es = true -> atoms (Cc e A es) = (atoms A).take a.toNat ++ Rt (atoms A) a.toNat es
 | [], a, _, _, _ => by
  show atoms A = _
  rw [Rt, List.take_append_drop]
 | x :: r, a, h0, ha, hr => by
  rw [Hf, Bool.and_eq_true, decide_eq_true_eq] at hr
  obtain ⟨⟨h1, h2, h3⟩, h4⟩ := hr
  have ih := apply_seq (e := e) (es := r) (a := x.t) (by omega) h3 h4
  have hl : (atoms A).length = A.length := List.length_map ..
  have hp : atoms (prs e x.put) = x.put := by unfold prs atoms; rw [List.map_map]; exact List.map_id x.put
  rw [Cc]
  show List.map _ _ = _
  rw [List.map_append, List.map_append, List.map_take, List.map_drop]
  show (atoms (Cc e A r)).take _ ++ atoms (prs e x.put) ++ (atoms (Cc e A r)).drop _ = _
  rw [ih, hp, Rt, List.take_append_of_le_length (by rw [List.length_take]; omega), List.drop_append_of_le_length (by rw [List.length_take]; omega), List.take_take, Nat.min_eq_left (by omega), List.drop_eq_nil_of_le (by rw [List.length_take]; omega), List.nil_append]
  have e1 : (atoms A).take x.f.toNat = (atoms A).take a.toNat ++ ((atoms A).drop a.toNat).take (x.f.toNat - a.toNat) := by
   conv => lhs; rw [show x.f.toNat = a.toNat + (x.f.toNat - a.toNat) by omega]
   rw [List.take_add]
  rw [e1]; simp [List.append_assoc]
theorem Cd0 {B : List Int} {i : Nat} {es : List LEd} {v : Int} (hv : B[i]? = some v) (hf : ∀ x, es.head? = some x -> (i : Int) < x.f) : Rt B i es = v :: Rt B (i + 1) es := by
 have hlt := (List.getElem?_eq_some_iff.1 hv).1
 have hd : B.drop i = v :: B.drop (i + 1) := by rw [List.drop_eq_getElem_cons hlt, (List.getElem?_eq_some_iff.1 hv).2]
 cases es with
 | nil => exact hd
 | cons x r =>
  have := hf x rfl
  obtain ⟨m, hm⟩ : ∃ m, x.f.toNat - i = m + 1 := ⟨x.f.toNat - i - 1, by omega⟩
  rw [Rt, Rt, hd, hm, List.take_succ_cons, show x.f.toNat - (i + 1) = m by omega]; rfl
theorem Ad9 {e : Enc} {A : As} (h : ∀ a ∈ atoms A, sz e a ≠ 0) : ∀ {es : List LEd}, Ho e es = true -> ∀ a ∈ atoms (Cc e A es), sz e a ≠ 0
 | [], _ => h
 | x :: r, hf => by
  unfold Ho at hf
  rw [List.all_cons, Bool.and_eq_true] at hf
  have ih := Ad9 h (es := r) hf.2
  intro a ha
  rw [Cc] at ha
  obtain ⟨y, hy, rfl⟩ := List.mem_map.1 ha
  rw [List.mem_append, List.mem_append] at hy
  rcases hy with (hy | hy) | hy
  ·exact ih _ (List.mem_map.2 ⟨y, List.mem_of_mem_take hy, rfl⟩)
  ·obtain ⟨b, hb, rfl⟩ := List.mem_map.1 hy
   have := List.all_eq_true.1 hf.1 b hb
   rw [bne_iff_ne] at this
   exact this
  ·exact ih _ (List.mem_map.2 ⟨y, List.mem_of_mem_drop hy, rfl⟩)
theorem By4 {e : Enc} {B : List Int} (h : ∀ a ∈ B, sz e a ≠ 0) : B.length <= szs (prs e B) := by
 have := Qn (l := prs e B) λ y hy => by
  obtain ⟨a, ha, rfl⟩ := List.mem_map.1 hy
  have := h a ha
  show 1 <= sz e a
  omega
 unfold prs at this
 rwa [List.length_map] at this
def Ll (e : Enc) (n : Nat) (es : List LEd) : Int := if 70000 < es.length then 3 else if Hf n 0 es = false then 2 else if Ho e es = false then 11 else 0
theorem Af9 {e : Enc} {lim : Nat} {A : As} {es : List LEd} : Ig e lim A es = if Ll e A.length es ≠ 0 then Ll e A.length es else if lim + Ia A es < szs A + Bq e es then 50 else 0 := by
 unfold Ig Ll
 by_cases h1 : 70000 < es.length
 ·rw [if_pos h1, if_pos h1, if_pos (by decide)]
 ·rw [if_neg h1, if_neg h1]
  by_cases h2 : Hf A.length 0 es = false
  ·rw [if_pos h2, if_pos h2, if_pos (by decide)]
  ·rw [if_neg h2, if_neg h2]
   by_cases h3 : Ho e es = false
   ·rw [if_pos h3, if_pos h3, if_pos (by decide)]
   ·rw [if_neg h3, if_neg h3, if_neg (show ¬ (0 : Int) ≠ 0 from λ hh => hh rfl)]
end Cdc
section
variable {w w' : World} {r : Nat} {e : Enc} {B : List Int} {F : Nat -> Prop} {s : Sl} {es : List LEd}
structure EdR (w : World) (s : Sl) (ys : List (Cells.T c65)) (es : List LEd) : Prop where
 row : SlX w s 3 (flat c65 ys)
 len : ys.length = es.length
 slen : ys.length = s.len
 each : ∀ (i : Nat) y x, ys[i]? = some y -> es[i]? = some x -> y.1 = x.f /\ y.2.1 = x.t /\ SlX w y.2.2.1 1 (iv x.put) /\ x.put.length <= 1048576
 few : es.length <= 1048576
theorem EdX.toR (h : EdX w s es) : ∃ ys, EdR w s ys es := by
 obtain ⟨ys, h1, h2, h3⟩ := h.ex
 exact ⟨ys, h1, h2, SlX.Js (cs := c65) h1 (by decide), h3, h.few⟩
theorem EdR.ext {ys : List (Cells.T c65)} (h : EdR w s ys es) (x : Ext w w') : EdR w' s ys es := ⟨h.row.ext x, h.len, h.slen, λ i y z hy hz => by obtain ⟨a, b, c, d⟩ := h.each i y z hy hz; exact ⟨a, b, c.ext x, d⟩, h.few⟩
theorem EdR.get {ys : List (Cells.T c65)} (h : EdR w s ys es) {i : Nat} (hi : i < es.length) : ∃ y x, ys[((i : Int)).toNat]? = some y /\ es[i]? = some x /\ y.1 = x.f /\ y.2.1 = x.t /\ SlX w y.2.2.1 1 (iv x.put) /\ x.put.length <= 1048576 /\ y.2.2.1.len = x.put.length := by
 have := h.len
 obtain ⟨y, hy⟩ : ∃ y, ys[i]? = some y := ⟨_, List.getElem?_eq_getElem (by omega)⟩
 obtain ⟨x, hx⟩ : ∃ x, es[i]? = some x := ⟨_, List.getElem?_eq_getElem hi⟩
 obtain ⟨a, b, c, d⟩ := h.each i y x hy hx
 have hl := c.len1
 rw [List.length_map] at hl
 exact ⟨y, x, by rw [Int.toNat_natCast]; exact hy, hx, a, b, c, d, hl.symm⟩
theorem wn (n : Nat) (h : n <= 2 ^ 40) : W64 ((n : Int) + 1) = ((n + 1 : Nat) : Int) := by rw [wrap64 (by omega) (by omega)]; omega
theorem Po {n : Nat} {a : Int} {es : List LEd} {i : Nat} {x : LEd} (hx : es[i]? = some x) : Hf n a (es.drop i) = (decide (a <= x.f /\ x.f <= x.t /\ x.t <= n) && Hf n x.t (es.drop (i + 1))) := by
 have hlt := (List.getElem?_eq_some_iff.1 hx).1
 rw [List.drop_eq_getElem_cons hlt, (List.getElem?_eq_some_iff.1 hx).2, Hf]
set_option maxHeartbeats 1000000 in
theorem Y7 {ys : List (Cells.T c65)} (h : Nv w r e B F) (hE : EdR w s ys es) {K : Int -> Wp} (hK : ∀ w', Ext w w' -> K (Ll e B.length es) w') :
  Aa Tryz.prog 28 #[.pointer (some (at0 r)), s.v] rI K w := by
 refine A28 ?_
 unfold F28
 have hel := hE.len; have hsl := hE.slen; have few := hE.few
 refine Ac (λ hc => ?_) (λ hc => ?_)
 ·simp only [decide_eq_true_eq, gt_iff_lt] at hc
  have := hK w (Ext.refl w)
  unfold Ll at this
  rw [if_pos (by omega)] at this; exact this
 simp only [decide_eq_false_iff_not, gt_iff_lt] at hc
 have hK : ∀ w', Ext w w' -> K (if Hf B.length 0 es = false then 2 else if Ho e es = false then 11 else 0) w' := λ w' x => by
  have := hK w' x
  unfold Ll at this
  rwa [if_neg (by omega)] at this
 refine Af (λ _ W => Ext w W /\ Hf B.length 0 es = true) ?_ ?_
 ·refine Ba (λ x W => ∃ (a : Int) (i : Nat), x = (a, (i : Int), ()) /\ i <= es.length /\ Ext w W /\ Hf B.length 0 es = Hf B.length a (es.drop i)) (λ x _ => ((es.length : Int) - x.2.1).toNat) ⟨0, 0, rfl, Nat.zero_le _, Ext.refl _, rfl⟩ ?_
  rintro _ W ⟨a, i, rfl, hi, eW, hr⟩
  dsimp only
  refine Ac (λ hc2 => ?_) (λ hc2 => ?_)
  ·simp only [decide_eq_true_eq] at hc2
   obtain ⟨y, x, g1, g2, g3, g4, _, _, _⟩ := (hE.ext eW).get (i := i) (by omega)
   have g3 : @Eq Int y.1 x.f := g3
   have g4 : @Eq Int y.2.1 x.t := g4
   rw [Po g2] at hr
   refine Bb3 (cs := c65) (xs := ys) (hE.ext eW).row (by decide) (Int.natCast_nonneg i) g1 λ p5 => ?_
   refine (St.start W).Lc rfl rfl rfl λ b7 w2 S2 e2 => ?_
   have S2 : St (λ _ => False) W w2 [(b7, .cells #[.int .i64 y.1, .int .i64 y.2.1, .slice y.2.2.1.a y.2.2.1.len y.2.2.1.cap] 65 (0, 0))] := S2
   refine Af (λ z V => z = (decide (¬ (a <= x.f /\ x.f <= x.t /\ x.t <= B.length)), ()) /\ St (λ _ => False) W V [(b7, .cells #[.int .i64 y.1, .int .i64 y.2.1, .slice y.2.2.1.a y.2.2.1.len y.2.2.1.cap] 65 (0, 0))]) ?_ ?_
   ·refine S2.drew λ w3 S3 e3 _ => S3.ld (off := 0) 0 rfl (x := y.1) rfl (Ac (λ h1 => ⟨Aw ?_, S3⟩) (λ h1 => S3.ld (off := 1) 0 rfl (x := y.2.1) rfl (S3.ld (off := 0) 0 rfl (x := y.1) rfl (Ac (λ h2 => ⟨Aw ?_, S3⟩) (λ h2 => S3.ld (off := 1) 0 rfl (x := y.2.1) rfl ((h.ext (eW.trans S3.upd)).Pj λ sa hsa => ⟨Aw ?_, S3⟩))))))
    ·simp only [decide_eq_true_eq, true_iff] at h1 ⊢; omega
    ·simp only [decide_eq_true_eq, decide_eq_false_iff_not, true_iff] at h1 h2 ⊢; omega
    ·have hl := hsa.len1
     rw [List.length_map] at hl
     simp only [decide_eq_true_eq, decide_eq_false_iff_not, gt_iff_lt] at h1 h2 ⊢; omega
   rintro _ V ⟨rfl, SV⟩
   refine Ac (λ hb => ?_) (λ hb => ?_)
   ·have hb := of_decide_eq_true hb
    rw [decide_eq_false hb, Bool.false_and] at hr
    have := hK V (eW.trans SV.upd)
    rw [if_pos hr] at this; exact this
   ·have hb := Classical.byContradiction λ hn => (of_decide_eq_false hb) hn
    rw [decide_eq_true hb, Bool.true_and] at hr
    rw [wn i (by omega)]
    refine SV.ld (off := 1) 0 rfl (x := y.2.1) rfl ⟨⟨y.2.1, i + 1, rfl, by omega, eW.trans SV.upd, by rw [g4]; exact hr⟩, by omega⟩
  ·simp only [decide_eq_false_iff_not] at hc2
   obtain rfl : i = es.length := by omega
   rw [List.drop_length, Hf] at hr
   exact ⟨eW, hr⟩
 rintro _ w1 ⟨e1, hr⟩
 have hK : ∀ w', Ext w w' -> K (if Ho e es = false then 11 else 0) w' := λ w' x => by
  have := hK w' x
  rwa [if_neg (by rw [hr]; decide)] at this
 refine Af (λ _ W => Ext w W /\ Ho e es = true) ?_ ?_
 ·refine Ba (λ x W => ∃ i : Nat, x = ((i : Int), ()) /\ i <= es.length /\ Ext w W /\ Ho e (es.take i) = true) (λ x _ => ((es.length : Int) - x.1).toNat) ⟨0, rfl, Nat.zero_le _, e1, rfl⟩ ?_
  rintro _ W ⟨i, rfl, hi, eW, hf⟩
  dsimp only
  refine Ac (λ hc2 => ?_) (λ hc2 => ?_)
  ·simp only [decide_eq_true_eq] at hc2
   obtain ⟨y, x, g1, g2, g3, g4, _, g6, g7⟩ := (hE.ext eW).get (i := i) (by omega)
   have ht : es.take (i + 1) = es.take i ++ [x] := by rw [List.take_add_one, g2]; rfl
   refine Af (λ _ V => Ext w V /\ (x.put.all λ a => sz e a != 0) = true) ?_ ?_
   ·refine Ba (λ z V => ∃ j : Nat, z = ((j : Int), ()) /\ j <= x.put.length /\ Ext w V /\ ((x.put.take j).all λ a => sz e a != 0) = true) (λ z _ => ((x.put.length : Int) - z.1).toNat) ⟨0, rfl, Nat.zero_le _, eW, rfl⟩ ?_
    rintro _ V ⟨j, rfl, hj, eV, hp⟩
    dsimp only
    have hEV := hE.ext eV
    obtain ⟨y', x', k1, k2, _, _, k5, _, _⟩ := hEV.get (i := i) (by omega)
    rw [g1] at k1; cases k1
    rw [g2] at k2; cases k2
    refine Xi (c := .sl) (cs := c65) (xs := ys) (j := 2) (y := y.2.2.1) hEV.row (Int.natCast_nonneg i) g1 rfl λ p25 _ => ?_
    refine Ac (λ hc3 => ?_) (λ hc3 => ?_)
    ·simp only [decide_eq_true_eq] at hc3
     obtain ⟨v, hv⟩ : ∃ v, x.put[j]? = some v := ⟨_, List.getElem?_eq_getElem (by omega)⟩
     refine Ed λ w2 e2 _ => (h.ext (eV.trans e2)).By9 ?_
     have hE2 := hEV.ext e2
     refine Xi (c := .sl) (cs := c65) (xs := ys) (j := 2) (y := y.2.2.1) hE2.row (Int.natCast_nonneg i) g1 rfl λ p29 _ => ?_
     refine Ah7 (c := .int .i64) (xs := x.put) (k5.ext e2) (Int.natCast_nonneg j) (x := v) (by rw [Int.toNat_natCast]; exact hv) λ p31 => ?_
     refine O8 ?_
     refine Ac (λ hb => ?_) (λ hb => ?_)
     ·have hb : (sz e v != 0) = false := by simpa using hb
      have hall : Ho e es = false := by
       unfold Ho
       rw [List.all_eq_false]
       refine ⟨x, List.mem_of_getElem? g2, ?_⟩
       rw [Bool.not_eq_true, List.all_eq_false]
       exact ⟨v, List.mem_of_getElem? hv, by rw [hb]; decide⟩
      have := hK w2 (eV.trans e2)
      rw [if_pos hall] at this; exact this
     ·have hb : (sz e v != 0) = true := by simpa using hb
      rw [wn j (by omega)]
      refine ⟨⟨j + 1, rfl, by omega, eV.trans e2, ?_⟩, by omega⟩
      rw [List.take_add_one, hv, List.all_append, hp]
      simp only [Option.toList_some, List.all_cons, List.all_nil, hb, Bool.true_and]
    ·simp only [decide_eq_false_iff_not] at hc3
     obtain rfl : j = x.put.length := by omega
     rw [List.take_length] at hp
     exact ⟨eV, hp⟩
   rintro _ V ⟨eV, hp⟩
   rw [wn i (by omega)]
   refine ⟨⟨i + 1, rfl, by omega, eV, ?_⟩, by omega⟩
   rw [ht, Ad1, hf]
   show (true && ((x.put.all λ a => sz e a != 0) && true)) = true
   rw [hp]; rfl
  ·simp only [decide_eq_false_iff_not] at hc2
   obtain rfl : i = es.length := by omega
   rw [List.take_length] at hf
   exact ⟨eW, hf⟩
 rintro _ w2 ⟨e2, hf⟩
 have := hK w2 e2
 rw [if_neg (by rw [hf]; decide)] at this; exact this
theorem L8 {l : List Int} {j : Nat} {v : Int} (hv : l[j]? = some v) : szs (prs e (l.take (j + 1))) = szs (prs e (l.take j)) + sz e v := by
 rw [List.take_add_one, hv]
 show szs (List.map _ (_ ++ [v])) = _
 rw [List.map_append, Bh]
 show szs (prs e (l.take j)) + szs [(v, sz e v)] = _
 simp [szs]
theorem Ar9 (l : List Int) : szs (prs e l) <= 4 * l.length := by
 induction l with
 | nil => exact Nat.le_refl _
 | cons a m ih =>
  show Cdc.szs ((a, sz e a) :: prs e m) <= _
  rw [Hu, List.length_cons]
  have := Ak6 e a
  show sz e a + _ <= _
  omega
theorem Al3 (h : Nv w r e B F) {K : Int -> Wp} (hK : ∀ w', Ext w w' -> K (szs (prs e B) : Int) w') :
  Aa Tryz.prog 30 #[.pointer (some (at0 r))] rI K w := by
 refine A30 ?_
 unfold F30
 have hB := h.len
 refine Af (λ x W => x = ((szs (prs e B) : Int), ()) /\ Ext w W) ?_ (by rintro _ W ⟨rfl, x⟩; exact hK W x)
 refine Ba (λ x W => ∃ j : Nat, x = ((szs (prs e (B.take j)) : Int), (j : Int), ()) /\ j <= B.length /\ Ext w W) (λ x _ => ((B.length : Int) - x.2.1).toNat) ⟨0, rfl, Nat.zero_le _, Ext.refl _⟩ ?_
 rintro _ W ⟨j, rfl, hj, eW⟩
 dsimp only
 refine (h.ext eW).Pj λ sa hsa => ?_
 have hl := hsa.len1
 rw [List.length_map] at hl
 refine Ac (λ hc => ?_) (λ hc => ?_)
 ·simp only [decide_eq_true_eq] at hc
  obtain ⟨v, hv⟩ : ∃ v, B[j]? = some v := ⟨_, List.getElem?_eq_getElem (by omega)⟩
  refine Ed λ w2 e2 _ => (h.ext (eW.trans e2)).By9 ((h.ext (eW.trans e2)).Pj λ sa2 hsa2 => ?_)
  refine Gm (c := .int .i64) (xs := B) hsa2 (Int.natCast_nonneg j) (x := v) (by rw [Int.toNat_natCast]; exact hv) λ p => O1 λ w3 e3 => ?_
  have h1 := L8 (e := e) hv
  have h2 := Ar9 (e := e) (B.take j)
  have h3 := Ak6 e v
  rw [List.length_take] at h2
  have ew : W64 ((szs (prs e (B.take j)) : Int) + (sz e v : Int)) = (szs (prs e (B.take (j + 1))) : Int) := by rw [wrap64 (by omega) (by omega)]; omega
  rw [ew, wn j (by omega)]
  exact ⟨⟨j + 1, rfl, by omega, (eW.trans e2).trans e3⟩, by omega⟩
 ·simp only [decide_eq_false_iff_not] at hc
  obtain rfl : j = B.length := by omega
  exact ⟨by rw [List.take_length], eW⟩
section
variable {w0 W : World} {N b bx : Nat} {sa st : Sl} {L T : List Int} {v : Int}
theorem Bm5 {R : World -> Prop} (S : St (λ _ => False) w0 W [(bx, .cells #[.int .i64 v] 3 (0, 0)), (b, r5O e sa st)]) (tw : Jt W N sa st L T) (hl : L.length < 2 ^ 40) (hN : N <= W.heap.size) (h0 : w0.heap.size <= N) (hb : b < N)
  (hK : ∀ sa' W', St (λ _ => False) w0 W' [(b, r5O e sa' st)] -> Jt W' N sa' st (L ++ [v]) T -> W.heap.size <= W'.heap.size -> R W') :
  Dw Tryz.prog (.one (.one .sl)) (Builtin.append_ #[43, 43] 43 #[.slice sa.a sa.len sa.cap, .slice (some (at0 bx)) 1 1]) (λ x => nn (some (at0 b)) λ p => stC (p.add 2) (.slice x.a x.len x.cap) R) W := by
 refine Az7 tw (S.at_ 0 rfl) hl hN λ sa' w4 t4 g4 u4 => ?_
 have S4 : St (λ _ => False) w0 w4 [(b, r5O e sa st)] := S.tail.fresh u4 (λ k hk => .inr (by have := g4 k hk; omega)) (λ z hz hk => by
  rw [List.mem_singleton.1 hz] at hk
  have := g4 _ hk
  dsimp only at this; omega)
 refine Ap (S4.stC (off := 2) 0 rfl (by show 2 < 5; decide) λ w5 S5 u5 => ?_)
 exact hK sa' w5 S5 (t4.box (S4.at_ 0 rfl) (by decide) u5) (by have := u4.size; have := u5.size; omega)
theorem Bm4 {R : World -> Prop} (S : St (λ _ => False) w0 W [(bx, .cells #[.int .i64 v] 3 (0, 0)), (b, r5O e sa st)]) (tw : Jt W N sa st L T) (hl : T.length < 2 ^ 40) (hN : N <= W.heap.size) (h0 : w0.heap.size <= N) (hb : b < N)
  (hK : ∀ st' W', St (λ _ => False) w0 W' [(b, r5O e sa st')] -> Jt W' N sa st' L (T ++ [v]) -> W.heap.size <= W'.heap.size -> R W') :
  Dw Tryz.prog (.one (.one .sl)) (Builtin.append_ #[43, 43] 43 #[.slice st.a st.len st.cap, .slice (some (at0 bx)) 1 1]) (λ x => nn (some (at0 b)) λ p => stC (p.add 3) (.slice x.a x.len x.cap) R) W := by
 refine Az7 tw.swap (S.at_ 0 rfl) hl hN λ st' w4 t4 g4 u4 => ?_
 have S4 : St (λ _ => False) w0 w4 [(b, r5O e sa st)] := S.tail.fresh u4 (λ k hk => .inr (by have := g4 k hk; omega)) (λ z hz hk => by
  rw [List.mem_singleton.1 hz] at hk
  have := g4 _ hk
  dsimp only at this; omega)
 refine Ap (S4.stC (off := 3) 0 rfl (by show 3 < 5; decide) λ w5 S5 u5 => ?_)
 exact hK st' w5 S5 (t4.swap.box (S4.at_ 0 rfl) (by decide) u5) (by have := u4.size; have := u5.size; omega)
end
set_option maxHeartbeats 4000000 in
theorem Wx {ys : List (Cells.T c65)} {A : As} (h : Nv w r e B F) (hA : A = prs e B) (hE : EdR w s ys es) (hs1 : szs A <= 65536) {K : Int -> Wp}
  (hno : Ig e 65536 A es ≠ 0 -> ∀ w', Ext w w' -> K (Ig e 65536 A es) w')
  (hyes : Ig e 65536 A es = 0 -> ∀ F' w', Nv w' r e (atoms (Cc e A es)) F' -> Upd (λ k => k = r) w w' -> (∀ k, F' k -> F k \/ w.heap.size <= k) -> K 0 w') :
  Aa Tryz.prog 16 #[.pointer (some (at0 r)), s.v] rI K w := by
 refine A16 ?_
 unfold F16
 have hel := hE.len; have hsl := hE.slen; have few := hE.few
 have hBA : B = atoms A := by rw [hA]; unfold prs atoms; rw [List.map_map]; exact (List.map_id B).symm
 have hlen : A.length = B.length := by rw [hBA, List.length_map]
 have hB := h.len
 have h3 := Af9 (e := e) (lim := 65536) (A := A) (es := es)
 rw [hlen] at h3
 refine Y7 h hE λ w1 e1 => ?_
 refine Ac (λ hc => ?_) (λ hc => ?_)
 ·have hc : Ll e B.length es ≠ 0 := by simpa using hc
  rw [if_pos hc] at h3
  rw [h3] at hno
  exact hno hc w1 e1
 have hc : Ll e B.length es = 0 := by simpa using hc
 rw [if_neg (by omega)] at h3
 have hrf : es.length <= 70000 /\ Hf B.length 0 es = true /\ Ho e es = true := by
  unfold Ll at hc
  split at hc
  ·cases hc
  split at hc
  ·cases hc
  split at hc
  ·cases hc
  exact ⟨by omega, by simpa using ‹¬ Hf B.length 0 es = false›, by simpa using ‹¬ Ho e es = false›⟩
 obtain ⟨hfew, hrng, hfit⟩ := hrf
 have hrngA : Hf A.length 0 es = true := by rw [hlen]; exact hrng
 have hgone := Xk (A := A) (es := es) (a := 0) (Int.le_refl _) hrngA
 refine Af (λ _ W => Ext w W /\ Bq e es <= 65536) ?_ ?_
 ·refine Ba (λ x W => ∃ i : Nat, x = ((Bq e (es.take i) : Int), (i : Int), ()) /\ i <= es.length /\ Ext w W /\ Bq e (es.take i) <= 65536) (λ x _ => ((es.length : Int) - x.2.1).toNat) ⟨0, rfl, Nat.zero_le _, e1, Nat.zero_le _⟩ ?_
  rintro _ W ⟨i, rfl, hi, eW, hsz⟩
  dsimp only
  refine Ac (λ hc2 => ?_) (λ hc2 => ?_)
  ·simp only [decide_eq_true_eq] at hc2
   obtain ⟨y, x, g1, g2, _, _, _, g6, g7⟩ := (hE.ext eW).get (i := i) (by omega)
   have ht : es.take (i + 1) = es.take i ++ [x] := by rw [List.take_add_one, g2]; rfl
   have hps : Bq e (es.take (i + 1)) = Bq e (es.take i) + szs (prs e x.put) := by rw [ht, Pq]; rfl
   have hall : Bq e es = Bq e (es.take (i + 1)) + Bq e (es.drop (i + 1)) := by
    conv => lhs; rw [← List.take_append_drop (i + 1) es]
    rw [Pq]
   refine Af (λ z V => z = ((Bq e (es.take (i + 1)) : Int), ()) /\ Ext w V /\ Bq e (es.take (i + 1)) <= 65536) ?_ ?_
   ·refine Ba (λ z V => ∃ j : Nat, z = (((Bq e (es.take i) + szs (prs e (x.put.take j)) : Nat) : Int), (j : Int), ()) /\ j <= x.put.length /\ Ext w V /\ Bq e (es.take i) + szs (prs e (x.put.take j)) <= 65536) (λ z _ => ((x.put.length : Int) - z.2.1).toNat) ⟨0, rfl, Nat.zero_le _, eW, hsz⟩ ?_
    rintro _ V ⟨j, rfl, hj, eV, hp⟩
    dsimp only
    have hEV := hE.ext eV
    obtain ⟨y', x', k1, k2, _, _, k5, _, _⟩ := hEV.get (i := i) (by omega)
    rw [g1] at k1; cases k1
    rw [g2] at k2; cases k2
    refine Xi (c := .sl) (cs := c65) (xs := ys) (j := 2) (y := y.2.2.1) hEV.row (Int.natCast_nonneg i) g1 rfl λ p25 _ => ?_
    refine Ac (λ hc3 => ?_) (λ hc3 => ?_)
    ·simp only [decide_eq_true_eq] at hc3
     obtain ⟨v, hv⟩ : ∃ v, x.put[j]? = some v := ⟨_, List.getElem?_eq_getElem (by omega)⟩
     refine Ed λ w2 e2 _ => (h.ext (eV.trans e2)).By9 ?_
     have hE2 := hEV.ext e2
     refine Xi (c := .sl) (cs := c65) (xs := ys) (j := 2) (y := y.2.2.1) hE2.row (Int.natCast_nonneg i) g1 rfl λ p29 _ => ?_
     refine Ah7 (c := .int .i64) (xs := x.put) (k5.ext e2) (Int.natCast_nonneg j) (x := v) (by rw [Int.toNat_natCast]; exact hv) λ p31 => ?_
     refine O1 λ w3 e3 => (h.ext ((eV.trans e2).trans e3)).Ce7 λ _ => ?_
     have h1 := L8 (e := e) hv
     have h3' := Ak6 e v
     have ew : W64 (((Bq e (es.take i) + szs (prs e (x.put.take j)) : Nat) : Int) + (sz e v : Int)) = ((Bq e (es.take i) + szs (prs e (x.put.take (j + 1))) : Nat) : Int) := by rw [wrap64 (by omega) (by omega)]; omega
     rw [ew]
     refine Ac (λ hb => ?_) (λ hb => ?_)
     ·simp only [decide_eq_true_eq, gt_iff_lt] at hb
      have hle : szs (prs e (x.put.take (j + 1))) <= szs (prs e x.put) := by
       have : prs e (x.put.take (j + 1)) = (prs e x.put).take (j + 1) := by unfold prs; rw [List.map_take]
       rw [this]; exact Qo _ _
      have h0 := Qo A (0 : Int).toNat
      rw [if_pos (by omega)] at h3
      have := hno (by rw [h3]; decide) w3 ((eV.trans e2).trans e3)
      rw [h3] at this; exact this
     ·simp only [decide_eq_false_iff_not, gt_iff_lt] at hb
      rw [wn j (by omega)]
      exact ⟨⟨j + 1, rfl, by omega, (eV.trans e2).trans e3, by omega⟩, by omega⟩
    ·simp only [decide_eq_false_iff_not] at hc3
     obtain rfl : j = x.put.length := by omega
     rw [List.take_length] at hp ⊢
     rw [← hps] at hp ⊢
     exact ⟨rfl, eV, hp⟩
   rintro _ V ⟨rfl, eV, hp⟩
   rw [wn i (by omega)]
   exact ⟨⟨i + 1, rfl, by omega, eV, hp⟩, by omega⟩
  ·simp only [decide_eq_false_iff_not] at hc2
   obtain rfl : i = es.length := by omega
   rw [List.take_length] at hsz
   exact ⟨eW, hsz⟩
 rintro _ w2 ⟨e2, hput⟩
 refine Ed λ w3 e3 _ => ?_
 have x3 := e2.trans e3
 have h3' := h.ext x3
 refine h3'.By9 (h3'.Ce7 λ _ => ?_)
 refine (St.start w3).Q8 λ b25 w4 S4 e4 hb25 => ?_
 have S4 : St (λ _ => False) w3 w4 [(b25, r5O e ⟨none, 0, 0⟩ ⟨none, 0, 0⟩)] := S4
 have hb4 : b25 < w4.heap.size := lt_of_heap (S4.at_ 0 rfl)
 have h34 : w3.heap.size <= w4.heap.size := e4.size
 obtain ⟨tgt, htg⟩ : ∃ tgt, Rt B 0 es = tgt := ⟨_, rfl⟩
 have happ : atoms (Cc e A es) = tgt := by
  have := apply_seq (e := e) (A := A) (es := es) (a := 0) (Int.le_refl _) (by omega) hrngA
  rw [this, ← hBA, ← htg]; rfl
 have hap := Ul (e := e) (A := A) (es := es) (a := 0) (Int.le_refl _) (by omega) hrngA
 have hszt : szs (prs e tgt) = szs (Cc e A es) := by
  have hok := Y1 (e := e) (A := A) (by rw [hA]; exact Au1 e B) es
  rw [hok.prs, happ]
 have hfitt : ∀ a ∈ tgt, sz e a ≠ 0 := by
  rw [← happ]
  exact Ad9 (A := A) (by rw [← hBA]; exact h.fit) hfit
 have hnum : tgt.length <= 200000 := by
  have := By4 hfitt
  omega
 refine Af (λ _ W => ∃ sa st T, St (λ _ => False) w3 W [(b25, r5O e sa st)] /\ Jt W w4.heap.size sa st tgt T /\ T.length = tgt.length) ?_ ?_
 ·refine Ba (λ x W => ∃ (k i : Nat) (g : Int) (sa st : Sl) (L T : List Int), x = ((k : Int), g, (i : Int), ()) /\ i <= B.length + 1 /\ k <= es.length /\ 0 <= g /\ g <= B.length /\ St (λ _ => False) w3 W [(b25, r5O e sa st)] /\ Jt W w4.heap.size sa st L T /\ T.length = L.length /\ L ++ Rt B (max i g.toNat) (es.drop k) = tgt /\ Hf B.length g (es.drop k) = true /\ (∀ x, es[k]? = some x -> (i : Int) <= x.f) /\ w4.heap.size <= W.heap.size) (λ x _ => ((B.length : Int) + 1 - x.2.2.1).toNat)
   ⟨0, 0, 0, ⟨none, 0, 0⟩, ⟨none, 0, 0⟩, [], [], rfl, Nat.zero_le _, Nat.zero_le _, Int.le_refl _, by omega, S4, Jt.nil _ _, rfl, by rw [← htg]; rfl, hrng, λ x hx => by
    obtain ⟨g1, _⟩ := Wv (i := 0) hrng hx
    simpa using g1, Nat.le_refl _⟩ ?_
  rintro _ W ⟨k, i, g, sa, st, L, T, rfl, hi, hk, hg0, hg1, SW, tw, hT, hL, hr, hf, hWs⟩
  dsimp only
  have xW : Ext w W := x3.trans SW.upd
  refine (h.ext xW).Pj λ s0 hs0 => ?_
  have hl0 := hs0.len1
  rw [List.length_map] at hl0
  refine Ac (λ hc2 => ?_) (λ hc2 => ?_)
  ·simp only [decide_eq_true_eq] at hc2
   have hin : i <= B.length := by omega
   refine Af (λ z V => ∃ (k' : Nat) (g' : Int) (sa' st' : Sl) (L' T' : List Int), z = ((k' : Int), g', ()) /\ k' <= es.length /\ 0 <= g' /\ g' <= B.length /\ St (λ _ => False) w3 V [(b25, r5O e sa' st')] /\ Jt V w4.heap.size sa' st' L' T' /\ T'.length = L'.length /\ L' ++ Rt B (max (i + 1) g'.toNat) (es.drop k') = tgt /\ Hf B.length g' (es.drop k') = true /\ (∀ x, es[k']? = some x -> (i : Int) < x.f) /\ w4.heap.size <= V.heap.size) ?_ ?_
   ·refine Af (λ z V => ∃ (k' : Nat) (g' : Int) (sa' st' : Sl) (L' T' : List Int), z = ((k' : Int), g', ()) /\ k' <= es.length /\ 0 <= g' /\ g' <= B.length /\ St (λ _ => False) w3 V [(b25, r5O e sa' st')] /\ Jt V w4.heap.size sa' st' L' T' /\ T'.length = L'.length /\ L' ++ Rt B (max i g'.toNat) (es.drop k') = tgt /\ Hf B.length g' (es.drop k') = true /\ (∀ x, es[k']? = some x -> (i : Int) < x.f) /\ w4.heap.size <= V.heap.size) ?_ ?_
    ·refine Ba (λ z V => ∃ (k' : Nat) (g' : Int) (sa' st' : Sl) (L' T' : List Int), z = ((k' : Int), g', ()) /\ k' <= es.length /\ 0 <= g' /\ g' <= B.length /\ St (λ _ => False) w3 V [(b25, r5O e sa' st')] /\ Jt V w4.heap.size sa' st' L' T' /\ T'.length = L'.length /\ L' ++ Rt B (max i g'.toNat) (es.drop k') = tgt /\ Hf B.length g' (es.drop k') = true /\ (∀ x, es[k']? = some x -> (i : Int) <= x.f) /\ w4.heap.size <= V.heap.size) (λ z _ => ((es.length : Int) - z.1).toNat) ⟨k, g, sa, st, L, T, rfl, hk, hg0, hg1, SW, tw, hT, hL, hr, hf, hWs⟩ ?_
     rintro _ V ⟨k, g, sa, st, L, T, rfl, hk, hg0, hg1, SV, tw, hT, hL, hr, hf, hVs⟩
     dsimp only
     have xV : Ext w V := x3.trans SV.upd
     have hEV := hE.ext xV
     refine Af (λ z U => z = (decide (∃ x, es[k]? = some x /\ x.f = (i : Int)), ()) /\ V = U) ?_ ?_
     ·refine Ac (λ hc3 => ?_) (λ hc3 => ⟨Aw ?_, rfl⟩)
      ·simp only [decide_eq_true_eq] at hc3
       obtain ⟨y, x, g1, g2, g3, _, _, _, _⟩ := hEV.get (i := k) (by omega)
       refine Bp5 (c := .int .i64) (cs := c65) (xs := ys) (y := y.1) hEV.row (Int.natCast_nonneg k) g1 rfl λ p _ => ⟨Aw ?_, rfl⟩
       rw [g3, beq_iff_eq, decide_eq_true_eq]
       exact ⟨λ hh => ⟨x, g2, hh⟩, λ ⟨x', h1, h2⟩ => by rw [g2] at h1; cases h1; exact h2⟩
      ·simp only [decide_eq_false_iff_not] at hc3
       simp only [Bool.false_eq_true, decide_eq_true_eq, false_iff]
       rintro ⟨x, hx, _⟩
       have := (List.getElem?_eq_some_iff.1 hx).1
       omega
     rintro _ _ ⟨rfl, rfl⟩
     refine Ac (λ hb => ?_) (λ hb => ?_)
     ·obtain ⟨x, hx, hxf⟩ := of_decide_eq_true hb
      have hkl := (List.getElem?_eq_some_iff.1 hx).1
      rw [Po hx, Bool.and_eq_true, decide_eq_true_eq] at hr
      obtain ⟨⟨r1, r2, r3⟩, r4⟩ := hr
      have hd : es.drop k = x :: es.drop (k + 1) := by rw [List.drop_eq_getElem_cons hkl, (List.getElem?_eq_some_iff.1 hx).2]
      have hL2 : L ++ x.put ++ Rt B (max i x.t.toNat) (es.drop (k + 1)) = tgt := by
       rw [← hL, hd, Rt, show max i g.toNat = i by omega, show x.f.toNat - i = 0 by omega, List.take_zero, List.nil_append, show max i x.t.toNat = x.t.toNat by omega, List.append_assoc]
      obtain ⟨y, x', g1, g2, g3, g4, _, g6, g7⟩ := hEV.get (i := k) (by omega)
      rw [hx] at g2; cases g2
      have hLl : L.length + x.put.length <= 200000 := by
       have := congrArg List.length hL2
       rw [List.length_append, List.length_append] at this
       omega
      refine Af (λ _ U => ∃ (sa' st' : Sl) (T' : List Int), St (λ _ => False) w3 U [(b25, r5O e sa' st')] /\ Jt U w4.heap.size sa' st' (L ++ x.put) T' /\ T'.length = (L ++ x.put).length /\ w4.heap.size <= U.heap.size) ?_ ?_
      ·refine Ba (λ z U => ∃ (j : Nat) (sa' st' : Sl) (T' : List Int), z = ((j : Int), ()) /\ j <= x.put.length /\ St (λ _ => False) w3 U [(b25, r5O e sa' st')] /\ Jt U w4.heap.size sa' st' (L ++ x.put.take j) T' /\ T'.length = (L ++ x.put.take j).length /\ w4.heap.size <= U.heap.size) (λ z _ => ((x.put.length : Int) - z.1).toNat) ⟨0, sa, st, T, rfl, Nat.zero_le _, SV, by rw [List.take_zero, List.append_nil]; exact tw, by rw [List.take_zero, List.append_nil]; exact hT, hVs⟩ ?_
       rintro _ U ⟨j, sa, st, T, rfl, hj, SU, tw, hT, hUs⟩
       dsimp only
       have xU : Ext w U := x3.trans SU.upd
       have hEU := hE.ext xU
       obtain ⟨y', x', k1, k2, _, _, k5, _, _⟩ := hEU.get (i := k) (by omega)
       rw [g1] at k1; cases k1
       rw [hx] at k2; cases k2
       refine Xi (c := .sl) (cs := c65) (xs := ys) (j := 2) (y := y.2.2.1) hEU.row (Int.natCast_nonneg k) g1 rfl λ p46 _ => ?_
       refine Ac (λ hc3 => ?_) (λ hc3 => ?_)
       ·simp only [decide_eq_true_eq] at hc3
        obtain ⟨v, hv⟩ : ∃ v, x.put[j]? = some v := ⟨_, List.getElem?_eq_getElem (by omega)⟩
        refine SU.drew λ w5 S5 e5 _ => Ap (S5.ld (off := 2) 0 rfl (x := sa) rfl ?_)
        refine Xi (c := .sl) (cs := c65) (xs := ys) (j := 2) (y := y.2.2.1) (hEU.ext e5).row (Int.natCast_nonneg k) g1 rfl λ p50 _ => ?_
        refine Ah7 (c := .int .i64) (xs := x.put) (k5.ext e5) (Int.natCast_nonneg j) (x := v) (by rw [Int.toNat_natCast]; exact hv) λ p52 => ?_
        have hlt : (L ++ x.put.take j).length < 2 ^ 40 := by rw [List.length_append, List.length_take]; omega
        refine S5.Ae λ b54 w6 S6 e6 => S6.keep (off := 2) 1 rfl (v := .slice sa.a sa.len sa.cap) rfl (Bm5 S6 ((tw.ext e5).ext e6) hlt (by have := e5.size; have := e6.size; omega) h34 hb4 λ sa' w7 S7 t7 z7 => ?_)
        refine Ap (S7.ld (off := 3) 0 rfl (x := st) rfl (S7.Ae λ b59 w8 S8 e8 => Bm4 S8 (t7.ext e8) (by omega) (by have := e5.size; have := e6.size; have := e8.size; omega) h34 hb4 λ st' w9 S9 t9 z9 => ?_))
        rw [wn j (by omega)]
        have et : x.put.take (j + 1) = x.put.take j ++ [v] := by rw [List.take_add_one, hv]; rfl
        refine ⟨⟨j + 1, sa', st', T ++ [-1], rfl, by omega, S9, by rw [et, ← List.append_assoc]; exact t9, by rw [et, ← List.append_assoc, List.length_append, List.length_append, hT]; rfl, by have := e5.size; have := e6.size; have := e8.size; omega⟩, by omega⟩
       ·simp only [decide_eq_false_iff_not] at hc3
        obtain rfl : j = x.put.length := by omega
        rw [List.take_length] at tw hT
        exact ⟨sa, st, T, SU, tw, hT, hUs⟩
      rintro _ U ⟨sa', st', T', SU, tw', hT', hUs⟩
      have hEU := hE.ext (x3.trans SU.upd)
      refine Xi (c := .int .i64) (cs := c65) (xs := ys) (j := 1) (y := y.2.1) hEU.row (Int.natCast_nonneg k) g1 rfl λ p62 _ => ?_
      rw [wn k (by omega), g4]
      refine ⟨⟨k + 1, x.t, sa', st', L ++ x.put, T', rfl, by omega, by omega, r3, SU, tw', hT', hL2, r4, λ x2 hx2 => ?_, hUs⟩, by omega⟩
      have hr5 := r4
      rw [Po hx2, Bool.and_eq_true, decide_eq_true_eq] at hr5
      omega
     ·have hb := of_decide_eq_false hb
      refine ⟨k, g, sa, st, L, T, rfl, hk, hg0, hg1, SV, tw, hT, hL, hr, λ x hx => ?_, hVs⟩
      have h1 := hf x hx
      have h2 : ¬ x.f = (i : Int) := λ hh => hb ⟨x, hx, hh⟩
      omega
    rintro _ V ⟨k, g, sa, st, L, T, rfl, hk, hg0, hg1, SV, tw, hT, hL, hr, hf, hVs⟩
    have xV : Ext w V := x3.trans SV.upd
    dsimp only
    refine Af (λ z U => z = (decide (i < B.length /\ g <= (i : Int)), ()) /\ V = U) ((h.ext xV).Pj λ s1 hs1 => ?_) ?_
    ·have hl1 := hs1.len1
     rw [List.length_map] at hl1
     refine Ac (λ hc3 => ⟨Aw ?_, rfl⟩) (λ hc3 => ⟨Aw ?_, rfl⟩)
     ·simp only [decide_eq_true_eq, ge_iff_le] at hc3 ⊢; omega
     ·simp only [decide_eq_false_iff_not] at hc3
      simp only [Bool.false_eq_true, decide_eq_true_eq, false_iff]; omega
    rintro _ _ ⟨rfl, rfl⟩
    refine Ac (λ hb => ?_) (λ hb => ?_)
    ·obtain ⟨b1, b2⟩ := of_decide_eq_true hb
     obtain ⟨v, hv⟩ : ∃ v, B[i]? = some v := ⟨_, List.getElem?_eq_getElem b1⟩
     rw [show max i g.toNat = i by omega, Cd0 hv (λ x hx => hf x (by rw [List.head?_drop] at hx; exact hx))] at hL
     have hLl : L.length + 1 <= 200000 := by
      have := congrArg List.length hL
      rw [List.length_append, List.length_cons] at this
      omega
     refine SV.drew λ w5 S5 e5 _ => Ap (S5.ld (off := 2) 0 rfl (x := sa) rfl ((h.ext (xV.trans e5)).Pj λ s2 hs2 => ?_))
     refine Gm (c := .int .i64) (xs := B) hs2 (Int.natCast_nonneg i) (x := v) (by rw [Int.toNat_natCast]; exact hv) λ p72 => ?_
     refine S5.Ae λ b74 w6 S6 e6 => S6.keep (off := 2) 1 rfl (v := .slice sa.a sa.len sa.cap) rfl (Bm5 S6 ((tw.ext e5).ext e6) (by omega) (by have := e5.size; have := e6.size; omega) h34 hb4 λ sa' w7 S7 t7 z7 => ?_)
     refine S7.drew λ w8 S8 e8 _ => Ap (S8.ld (off := 3) 0 rfl (x := st) rfl ((h.ext (x3.trans S8.upd)).Cg9 λ s3 T0 hs3 hT0 => ?_))
     obtain ⟨u, hu⟩ : ∃ u, T0[i]? = some u := ⟨_, List.getElem?_eq_getElem (by omega)⟩
     refine Gm (c := .int .i64) (xs := T0) hs3 (Int.natCast_nonneg i) (x := u) (by rw [Int.toNat_natCast]; exact hu) λ p81 => ?_
     refine S8.Ae λ b83 w9 S9 e9 => S9.keep (off := 3) 1 rfl (v := .slice st.a st.len st.cap) rfl (Bm4 S9 ((t7.ext e8).ext e9) (by omega) (by have := e5.size; have := e6.size; have := e8.size; have := e9.size; omega) h34 hb4 λ st' w10 S10 t10 z10 => ?_)
     exact ⟨k, g, sa', st', L ++ [v], T ++ [u], rfl, hk, hg0, hg1, S10, t10, by rw [List.length_append, List.length_append, hT]; rfl, by rw [show max (i + 1) g.toNat = i + 1 by omega, List.append_assoc]; exact hL, hr, hf, by have := e5.size; have := e6.size; have := e8.size; have := e9.size; omega⟩
    ·have hb := of_decide_eq_false hb
     refine ⟨k, g, sa, st, L, T, rfl, hk, hg0, hg1, SV, tw, hT, ?_, hr, hf, hVs⟩
     by_cases hg : (i : Int) < g
     ·rw [show max (i + 1) g.toNat = max i g.toNat by omega]; exact hL
     ·have hn : i = B.length := by
       rcases Nat.lt_or_ge i B.length with u | u
       ·exact absurd ⟨u, by omega⟩ hb
       ·omega
      have hnil : es.drop k = [] := by
       cases hd : es[k]? with
       | none =>
        rw [List.getElem?_eq_none_iff] at hd
        exact List.drop_eq_nil_of_le hd
       | some x =>
        have h1 := hf x hd
        rw [Po hd, Bool.and_eq_true, decide_eq_true_eq] at hr
        omega
      rw [hnil] at hL ⊢
      rw [show max i g.toNat = i by omega] at hL
      rw [show max (i + 1) g.toNat = i + 1 by omega]
      rw [Rt, List.drop_eq_nil_of_le (by omega)] at hL ⊢
      exact hL
   rintro _ V ⟨k, g, sa, st, L, T, rfl, hk, hg0, hg1, SV, tw, hT, hL, hr, hf, hVs⟩
   rw [wn i (by omega)]
   exact ⟨⟨k, i + 1, g, sa, st, L, T, rfl, by omega, hk, hg0, hg1, SV, tw, hT, hL, hr, λ x hx => by have := hf x hx; omega, hVs⟩, by omega⟩
  ·simp only [decide_eq_false_iff_not] at hc2
   have hi' : i = B.length + 1 := by omega
   have hnil : es.drop k = [] := by
    cases hd : es[k]? with
    | none =>
     rw [List.getElem?_eq_none_iff] at hd
     exact List.drop_eq_nil_of_le hd
    | some x =>
     have h1 := hf x hd
     rw [Po hd, Bool.and_eq_true, decide_eq_true_eq] at hr
     omega
   rw [hnil, Rt, List.drop_eq_nil_of_le (by omega), List.append_nil] at hL
   subst hL
   exact ⟨sa, st, T, SW, tw, hT⟩
 rintro _ w5 ⟨sa, st, T, S5, tw, hT⟩
 have x5 : Ext w w5 := x3.trans S5.upd
 have hnew : Nv w5 b25 e tgt (λ k => w3.heap.size <= k /\ k < w5.heap.size) := ⟨⟨sa, st, T, S5.at_ 0 rfl, tw.one.in, tw.two.in, hT, λ k hk => ⟨by have := tw.one.Fa hk; omega, tw.one.in.Le hk⟩, λ k hk => ⟨by have := tw.two.Fa hk; omega, tw.two.in.Le hk⟩⟩, ⟨S5.ge 0 rfl, lt_of_heap (S5.at_ 0 rfl)⟩, hfitt, λ k hk => hk.2, by omega⟩
 refine Ed λ w6 e6 _ => ?_
 have S6 := S5.ext e6
 refine (h.ext (x5.trans e6)).Ce7 λ kl => Al3 (hnew.ext e6) λ w7 e7 => Ar (kl w7 e7) ?_
 have S7 := S6.ext e7
 have x7 : Ext w w7 := (x5.trans e6).trans e7
 rw [hszt]
 refine Ac (λ hb => ?_) (λ hb => ?_)
 ·simp only [decide_eq_true_eq, gt_iff_lt] at hb
  rw [if_pos (by omega)] at h3
  have := hno (by rw [h3]; decide) w7 x7
  rw [h3] at this; exact this
 ·simp only [decide_eq_false_iff_not, gt_iff_lt] at hb
  rw [if_neg (by omega)] at h3
  obtain ⟨sa0, st0, T0, h1, _, _, _, _, _⟩ := (h.ext x7).ex
  have hrb : r < w.heap.size := h.own r h.root
  have hwr : w.heap.size <= w3.heap.size := x3.size
  have hbr : b25 ≠ r := by have := S7.ge 0 rfl; omega
  refine Ap (S7.ld (off := 2) 0 rfl (x := sa) rfl (Ap (Jl (off := 2) h1 (by show 2 < 5; decide) λ w8 u8 n8 _ => ?_)))
  have hb8 : w8.heap[b25]? = some (r5O e sa st) := u8.get (S7.at_ 0 rfl) λ hh => hbr hh
  refine Ap (Cm (off := 3) (x := st) hb8 rfl (Ap (Jl (off := 3) n8 (by show 3 < 5; decide) λ w9 u9 n9 _ => ?_)))
  rw [← happ] at tw hT
  have tw7 := (tw.ext e6).ext e7
  have tw9 := (tw7.box h1 (by decide) u8).box n8 (by decide) u9
  have hlen9 : (atoms (Cc e A es)).length <= 1048576 := by rw [happ]; omega
  refine hyes h3 (λ k => k = r \/ (w3.heap.size <= k /\ k < w9.heap.size)) w9 ⟨⟨sa, st, T, n9, tw9.one.in, tw9.two.in, hT, λ k hk => .inr ⟨by have := tw9.one.Fa hk; omega, tw9.one.in.Le hk⟩, λ k hk => .inr ⟨by have := tw9.two.Fa hk; omega, tw9.two.in.Le hk⟩⟩, .inl rfl, by rw [happ]; exact hfitt, λ k hk => ?_, hlen9⟩ (((Upd.Iq x7).trans u8).trans u9) (λ k hk => ?_)
  ·rcases hk with rfl | hk
   ·have := x7.size; have := u8.size; have := u9.size; omega
   ·exact hk.2
  ·rcases hk with rfl | hk
   ·exact .inl h.root
   ·exact .inr (by omega)
end
end Go.Proofs.YtolhlldgnfbemaaGreatDoor
namespace Go.Proofs.YtolhlldgnfbemaaGreatDoor
open Go Go.Vx
def F33 (a0 : Int) (K : Int -> Wp) : Wp := cB 76 #[(vI a0)] λ x1 => sif x1 ( K 0) ( cB 77 #[(vI a0)] λ x2 => sif x2 ( K 2) ( K 1))
def h33 : Hint := (hS (hR 1) (hS (hS (hR 2) (hC (hS (hR 1) hL) hL)) (hS (hS (hR 2) (hC (hS (hR 1) hL) hL)) (hS (hR 1) hL))))
theorem A33 {a0 : Int} {K : Int -> Wp} {w : World} (h : F33 a0 K w) : Aa Tryz.prog 33 #[(vI a0)] rI K w := tied Ah Tryz.func33 h33 _ h
def F125 (a0 : Int) (K : Int -> Wp) : Wp := cB 172 #[(vI a0)] λ x1 => sif (!x1) ( K 3) ( jB (λ J2 => sif (decide (a0 >= 44032)) ( J2 ((decide (a0 <= 55203)), ())) ( J2 (false, ()))) λ s3 => sif s3.1 ( chk ((28 : Int) ≠ 0) <| sif ((Int.tmod (W64 (a0 - 44032)) 28) == 0) ( K 12) ( K 13)) ( sif (decide (a0 < 3076)) ( cN 173 #[(vI a0)] λ x4 => K x4) ( sif (decide (a0 < 8505)) ( cN 174 #[(vI a0)] λ x5 => K x5) ( cN 175 #[(vI a0)] λ x6 => K x6))))
def Cu8 : Hint := (hS (hR 1) (hS (hS (hR 3) (hC (hS (hR 1) hL) hL)) (hS (hJ (4032, [(11, tB)]) (.region [] (.ops 3 (.split 8 (hO 3) (.skips 2 (hO 1))))) (hC (hS (hS (hR 4) (hC (hS (hR 1) hL) hL)) (hS (hR 1) hL)) hL)) (hS (.block (hS (hR 3) (hC (hS (hR 3) hL) (hS (hR 3) (hC (hS (hR 3) hL) hL))))) (hS (hR 3) hL)))))
theorem Di3 {a0 : Int} {K : Int -> Wp} {w : World} (h : F125 a0 K w) : Aa Tryz.prog 125 #[(vI a0)] rI K w := tied Ah Tryz.func125 Cu8 _ h
def F172 (a0 : Int) (K : Bool -> Wp) : Wp := sif (decide (a0 >= 0)) ( sif (decide (a0 <= 1114111)) ( sif (decide (a0 < 55296)) ( K true) ( K (decide (a0 > 57343)))) ( K false)) ( K false)
def Cr6 : Hint := (hS (hR 1) (hS (.region [] (.ops 3 (.split 5 (.ops 4 (.split 9 (.ops 3 (.split 12 (.skips 2 (hO 3)) (hO 5))) (.skips 6 (hO 2)))) (.skips 2 (.ops 2 (.skips 6 (hO 2))))))) hL))
theorem Df1 {a0 : Int} {K : Bool -> Wp} {w : World} (h : F172 a0 K w) : Aa Tryz.prog 172 #[(vI a0)] rB K w := tied Ah Tryz.func172 Cr6 _ h
def F176 (a0 : Int) (K : Int -> Wp) : Wp := jB (λ J1 => sif (a0 == 2381) ( J1 (true, ())) ( sif (a0 == 2509) ( J1 (true, ())) ( sif (a0 == 2765) ( J1 (true, ())) ( sif (a0 == 2893) ( J1 (true, ())) ( sif (a0 == 3149) ( J1 (true, ())) ( J1 ((a0 == 3405), ()))))))) λ s2 => sif s2.1 ( K 3) ( cN 125 #[(vI a0)] λ x3 => jB (λ J4 => sif (x3 == 4) ( J4 ((a0 != 8204), ())) ( sif (x3 == 5) ( J4 ((a0 != 8204), ())) ( J4 (false, ())))) λ s5 => sif s5.1 ( K 2) ( cB 200 #[(vI a0)] λ x6 => sif x6 ( K 1) ( K 0)))
def Cr5 : Hint := (hS (hR 1) (hS (hJ (67108848, [(25, tB)]) (.region [] (.ops 3 (.split 6 (.skips 2 (.ops 2 (.skips 2 (.ops 2 (.skips 2 (.ops 2 (.skips 2 (.ops 2 (.skips 2 (hO 1)))))))))) (.ops 4 (.split 10 (.skips 2 (.ops 2 (.skips 2 (.ops 2 (.skips 2 (.ops 2 (.skips 2 (hO 1)))))))) (.ops 4 (.split 14 (.skips 2 (.ops 2 (.skips 2 (.ops 2 (.skips 2 (hO 1)))))) (.ops 4 (.split 18 (.skips 2 (.ops 2 (.skips 2 (hO 1)))) (.ops 4 (.split 22 (.skips 2 (hO 1)) (hO 3)))))))))))) (hC (hS (hR 1) hL) hL)) (hS (hR 3) (hS (hJ (0x3ff0000000, [(37, tB)]) (.region [] (.ops 3 (.split 30 (.skips 2 (hO 5)) (.ops 4 (.split 34 (hO 3) (.skips 2 (hO 1))))))) (hC (hS (hR 1) hL) hL)) (hS (hS (hR 2) (hC (hS (hR 1) hL) hL)) (hS (hR 1) hL))))))
theorem Df0 {a0 : Int} {K : Int -> Wp} {w : World} (h : F176 a0 K w) : Aa Tryz.prog 176 #[(vI a0)] rI K w := tied Ah Tryz.func176 Cr5 _ h
end Go.Proofs.YtolhlldgnfbemaaGreatDoor
namespace Go.Proofs.YtolhlldgnfbemaaGreatDoor
open Go Go.Vx Cdc Gly
namespace Rgl
def Ph (a : Int) (J : Bool × Unit -> Wp) : List (Bool × Int × Int) -> World -> Prop
 | [] => J (false, ())
 | [(true, v, _)] => J ((a == v), ())
 | [(false, l, h)] => sif (decide (a >= l)) (J ((decide (a <= h)), ())) (J (false, ()))
 | (true, v, _) :: x :: r => sif (a == v) (J ((a == v), ())) (Ph a J (x :: r))
 | (false, l, h) :: x :: r => join (S := Bool × Unit) (λ J3 => sif (decide (a >= l)) (J3 ((decide (a <= h)), ())) (J3 (false, ()))) λ s => sif s.1 (J (s.1, ())) (Ph a J (x :: r))
def Z7 (a : Int) (K : Int -> Wp) (d : Int) : List (List (Bool × Int × Int) × Int) -> World -> Prop
 | [] => K d
 | ([(true, v, _)], n) :: r => sif (a == v) (K n) (Z7 a K d r)
 | (ch, n) :: r => join (S := Bool × Unit) (λ J => Ph a J ch) λ s => sif s.1 (K n) (Z7 a K d r)
def inR (a : Int) (x : Bool × Int × Int) : Bool := if x.1 then a == x.2.1 else decide (x.2.1 <= a) && decide (a <= x.2.2)
def Gn (a : Int) (ch : List (Bool × Int × Int)) : Bool := ch.any (inR a)
def Xt (a d : Int) : List (List (Bool × Int × Int) × Int) -> Int
 | [] => d
 | (ch, n) :: r => if Gn a ch then n else Xt a d r
variable {w : World}
theorem H8 {a : Int} {J : Bool × Unit -> Wp} : ∀ {ch : List (Bool × Int × Int)}, J (Gn a ch, ()) w -> Ph a J ch w
 | [], h => h
 | [(true, v, _)], h => by
  have e : Gn a [(true, v, ‹Int›)] = (a == v) := by simp [Gn, inR]
  rw [e] at h; exact h
 | [(false, l, u)], h => by
  have e : Gn a [(false, l, u)] = (decide (l <= a) && decide (a <= u)) := by simp [Gn, inR]
  rw [e] at h
  refine Ac (λ h1 => ?_) (λ h1 => ?_)
  ·simp only [decide_eq_true_eq, ge_iff_le] at h1
   rw [decide_eq_true h1, Bool.true_and] at h; exact h
  ·simp only [decide_eq_false_iff_not, ge_iff_le] at h1
   rw [decide_eq_false h1, Bool.false_and] at h; exact h
 | (true, v, u) :: x :: r, h => by
  have e : Gn a ((true, v, u) :: x :: r) = ((a == v) || Gn a (x :: r)) := by simp [Gn, inR]
  rw [e] at h
  refine Ac (λ h1 => ?_) (λ h1 => ?_)
  ·have h1 : (a == v) = true := h1
   rw [h1, Bool.true_or] at h
   rw [h1]; exact h
  ·have h1 : (a == v) = false := h1
   rw [h1, Bool.false_or] at h
   exact H8 h
 | (false, l, u) :: x :: r, h => by
  have e : Gn a ((false, l, u) :: x :: r) = ((decide (l <= a) && decide (a <= u)) || Gn a (x :: r)) := by simp [Gn, inR]
  rw [e] at h
  refine Af (λ y W => y = ((decide (l <= a) && decide (a <= u)), ()) /\ w = W) (Ac (λ h1 => ?_) (λ h1 => ?_)) ?_
  ·simp only [decide_eq_true_eq, ge_iff_le] at h1
   rw [decide_eq_true h1, Bool.true_and]; exact ⟨rfl, rfl⟩
  ·simp only [decide_eq_false_iff_not, ge_iff_le] at h1
   rw [decide_eq_false h1, Bool.false_and]; exact ⟨rfl, rfl⟩
  rintro _ _ ⟨rfl, rfl⟩
  refine Ac (λ h1 => ?_) (λ h1 => ?_)
  ·have h1 : (decide (l <= a) && decide (a <= u)) = true := h1
   rw [h1, Bool.true_or] at h
   show J ((decide (l <= a) && decide (a <= u)), ()) w
   rw [h1]; exact h
  ·have h1 : (decide (l <= a) && decide (a <= u)) = false := h1
   rw [h1, Bool.false_or] at h
   exact H8 h
theorem X6 {a d n : Int} {K : Int -> Wp} {ch : List (Bool × Int × Int)} {r : List (List (Bool × Int × Int) × Int)} (ih : K (Xt a d r) w -> Z7 a K d r w) (h : K (Xt a d ((ch, n) :: r)) w) :
  join (S := Bool × Unit) (λ J => Ph a J ch) (λ s => sif s.1 (K n) (Z7 a K d r)) w := by
 refine Af (λ x W => x = (Gn a ch, ()) /\ w = W) (H8 ⟨rfl, rfl⟩) ?_
 rintro _ _ ⟨rfl, rfl⟩
 rw [Xt] at h
 refine Ac (λ h1 => ?_) (λ h1 => ?_)
 ·have h1 : Gn a ch = true := h1
  rw [if_pos h1] at h; exact h
 ·have h1 : Gn a ch = false := h1
  rw [if_neg (by rw [h1]; decide)] at h; exact ih h
theorem X5 {a d : Int} {K : Int -> Wp} : ∀ {T : List (List (Bool × Int × Int) × Int)}, K (Xt a d T) w -> Z7 a K d T w
 | [], h => h
 | ([(true, v, u)], n) :: r, h => by
  rw [Xt] at h
  have e : Gn a [(true, v, u)] = (a == v) := by simp [Gn, inR]
  rw [e] at h
  refine Ac (λ h1 => ?_) (λ h1 => ?_)
  ·have h1 : (a == v) = true := h1
   rw [if_pos h1] at h; exact h
  ·have h1 : (a == v) = false := h1
   rw [if_neg (by rw [h1]; decide)] at h; exact X5 h
 | ([], n) :: r, h => X6 X5 h
 | ([(false, l, u)], n) :: r, h => X6 X5 h
 | (x :: y :: z, n) :: r, h => by
  have : Z7 a K d ((x :: y :: z, n) :: r) = join (S := Bool × Unit) (λ J => Ph a J (x :: y :: z)) λ s => sif s.1 (K n) (Z7 a K d r) := by
   obtain ⟨b, l, u⟩ := x
   cases b <;> rfl
  rw [this]
  exact X6 X5 h
def rr2 : List Nat -> List (Bool × Int × Int)
  | a :: b :: r => (Nat.beq a b, a, b) :: rr2 r
  | _ => []
def rC1 : List (List (Bool × Int × Int) × Int) := [(rr2 [13,13], 1), (rr2 [10,10], 2), (rr2 [0,9,11,12,14,31,127,159,173,173,1564,1564], 3), (rr2 [768,879,1155,1161,1425,1469,1471,1471,1473,1474,1476,1477,1479,1479,1552,1562,1611,1631,1648,1648,1750,1756,1759,1764,1767,1768,1770,1773,1809,1809,1840,1866,1958,1968,2027,2035,2045,2045,2070,2073,2075,2083,2085,2087,2089,2093,2137,2139,2200,2207,2250,2273,2275,2306,2362,2362,2364,2364,2369,2376,2381,2381,2385,2391,2402,2403,2433,2433,2492,2492,2494,2494,2497,2500,2509,2509,2519,2519,2530,2531,2558,2558,2561,2562,2620,2620,2625,2626,2631,2632,2635,2637,2641,2641,2672,2673,2677,2677,2689,2690,2748,2748,2753,2757,2759,2760,2765,2765,2786,2787,2810,2815,2817,2817,2876,2876,2878,2879,2881,2884,2893,2893,2901,2903,2914,2915,2946,2946,3006,3006,3008,3008,3021,3021,3031,3031,3072,3072], 4), (rr2 [1536,1541,1757,1757,1807,1807,2192,2193,2274,2274], 7), (rr2 [2307,2307,2363,2363,2366,2368,2377,2380,2382,2383,2434,2435,2495,2496,2503,2504,2507,2508,2563,2563,2622,2624,2691,2691,2750,2752,2761,2761,2763,2764,2818,2819,2880,2880,2887,2888,2891,2892,3007,3007,3009,3010,3014,3016,3018,3020,3073,3075], 8), (rr2 [169,169,174,174], 14)]
def rC2 : List (List (Bool × Int × Int) × Int) := [(rr2 [6158,6158,8203,8203,8206,8207,8232,8238,8288,8303], 3), (rr2 [3076,3076,3132,3132,3134,3136,3142,3144,3146,3149,3157,3158,3170,3171,3201,3201,3260,3260,3263,3263,3266,3266,3270,3270,3276,3277,3285,3286,3298,3299,3328,3329,3387,3388,3390,3390,3393,3396,3405,3405,3415,3415,3426,3427,3457,3457,3530,3530,3535,3535,3538,3540,3542,3542,3551,3551,3633,3633,3636,3642,3655,3662,3761,3761,3764,3772,3784,3790,3864,3865,3893,3893,3895,3895,3897,3897,3953,3966,3968,3972,3974,3975,3981,3991,3993,4028,4038,4038,4141,4144,4146,4151,4153,4154,4157,4158,4184,4185,4190,4192,4209,4212,4226,4226,4229,4230,4237,4237,4253,4253,4957,4959,6068,6069,6071,6077,6086,6086,6089,6099,6109,6109,6155,6157,6159,6159,6313,6313,6832,6862,7616,7679,8204,8204,8400,8432], 4), (rr2 [8205,8205], 5), (rr2 [3406,3406], 7), (rr2 [3137,3140,3202,3203,3262,3262,3264,3265,3267,3268,3271,3272,3274,3275,3315,3315,3330,3331,3391,3392,3398,3400,3402,3404,3458,3459,3536,3537,3544,3550,3570,3571,3635,3635,3763,3763,3902,3903,3967,3967,4145,4145,4155,4156,4182,4183,4228,4228,6070,6070,6078,6085,6087,6088], 8), (rr2 [4352,4447], 9), (rr2 [4448,4519], 10), (rr2 [4520,4607], 11), (rr2 [8252,8252,8265,8265,8482,8482], 14)]
def rC3 : List (List (Bool × Int × Int) × Int) := [(rr2 [65279,65279,65520,65531,78896,78911,113824,113827,119155,119162,917504,917535,917632,917759,918000,921599], 3), (rr2 [12330,12335,12441,12442,42607,42610,42612,42621,42654,42655,42736,42737,64286,64286,65024,65039,65056,65071,65438,65439,66045,66045,119141,119141,119143,119145,119150,119154,119163,119170,119173,119179,119210,119213,127995,127999,917536,917631,917760,917999], 4), (rr2 [127462,127487], 6), (rr2 [69821,69821,69837,69837,70082,70083], 7), (rr2 [43360,43388], 9), (rr2 [55216,55238], 10), (rr2 [55243,55291], 11), (rr2 [8505,8505,8596,8601,8617,8618,8986,8987,9000,9000,9096,9096,9167,9167,9193,9203,9208,9210,9410,9410,9642,9643,9654,9654,9664,9664,9723,9726,9728,9733,9735,9746,9748,9861,9872,9989,9992,10002,10004,10004,10006,10006,10013,10013,10017,10017,10024,10024,10035,10036,10052,10052,10055,10055,10060,10060,10062,10062,10067,10069,10071,10071,10083,10087,10133,10135,10145,10145,10160,10160,10175,10175,10548,10549,11013,11015,11035,11036,11088,11088,11093,11093,12336,12336,12349,12349,12951,12951,12953,12953,126976,127231,127245,127247,127279,127279,127340,127345,127358,127359,127374,127374,127377,127386,127405,127461,127489,127503,127514,127514,127535,127535,127538,127546,127548,127551,127561,127994,128000,128317,128326,128591,128640,128767,128884,128895,128981,129023,129036,129039,129096,129103,129114,129119,129160,129167,129198,129279,129292,129338,129340,129349,129351,129791,130048,131069], 14)]
def Yg : List (Bool × Int × Int) := rr2 [2325,2361,2392,2399,2424,2431,2453,2472,2474,2480,2482,2482,2486,2489,2524,2525,2527,2527,2544,2545,2709,2728,2730,2736,2738,2739,2741,2745,2809,2809,2837,2856,2858,2864,2866,2867,2869,2873,2908,2909,2911,2911,2929,2929,3093,3112,3114,3129,3160,3162,3349,3386]
def D6 : List (Bool × Int × Int) := [(false, 9, 13), (true, 32, 32), (true, 133, 133), (true, 160, 160), (true, 5760, 5760), (false, 8192, 8202), (false, 8232, 8233), (true, 8239, 8239), (true, 8287, 8287), (true, 12288, 12288)]
def Yf : List (Bool × Int × Int) := rr2 [48,57,65,90,95,95,97,122,170,170,181,181,186,186,192,214,216,246,248,705,768,884,886,893,895,895,902,902,904,1013,1015,1153,1155,1327,1329,1366,1376,1416,1425,1469,1488,1514,1552,1562,1568,1641,1646,1747,1749,1756,1759,1768,1770,1788,1808,1866,2304,2403,2406,2415,2417,3571,3585,3642,3648,3662,3664,3673,3713,3807,3864,3897,3904,3972,3984,4028,4096,4169,4176,4253,4256,4346,4348,4607,4608,4959,6016,6099,7680,8188,8486,8486,8490,8491,8544,8584,12293,12295,12321,12335,12353,12438,12441,12442,12445,12447,12449,12538,12540,12543,12549,12591,12593,12686,13312,19903,19968,40959,43360,43388,44032,55203,55216,55291,63744,64255,64285,64335,65296,65305,65313,65338,65345,65370,65382,65500,66560,66639,131072,195103,196608,205743]
def slN : List (Bool × Int × Int) -> Nat
 | [] => 0
 | x :: r => (if x.1 then 2 else 6) + slN r
def rgH (b : Nat) : Hint := .region [] (.ops 3 (.split (b + 2) (.ops 4 .done) (.skips 2 (.ops 2 .done))))
def sgH : Hint := .region [] (.ops 3 .done)
def chH (o : Nat) : List (Bool × Int × Int) -> Nat -> Hint
 | [], _ => .leaf
 | [x], b => if x.1 then sgH else rgH b
 | x :: y :: r, b => if x.1 then .seq none sgH (.cond none .leaf (chH o (y :: r) (b + 2))) else .seq (some (2 ^ (b + 6) - 2 ^ b + 2 ^ o, [(o, .one .bool)])) (rgH b) (.cond none .leaf (chH o (y :: r) (b + 6)))
def rtH : Hint := .seq none (.region [] (.ops 1 .done)) .leaf
def csH : List (List (Bool × Int × Int) × Int) -> Nat -> Hint
 | [], _ => .leaf
 | ([(true, _)], _) :: r, o => .seq none sgH (.cond none rtH (csH r (o + 3)))
 | (ch, _) :: r, o => .seq (some (2 ^ (o + 1 + slN ch) - 2 ^ o, [(o, .one .bool)])) (chH o ch (o + 1)) (.cond none rtH (csH r (o + 1 + slN ch)))
def tbH (T : List (List (Bool × Int × Int) × Int)) : Hint := .seq none (.region [] (.ops 1 .done)) (.seq none (.block (csH T 3)) rtH)
theorem By3 {a : Int} {K : Int -> Wp} (h : K (Xt a 0 rC1) w) : Aa Tryz.prog 173 #[.int .i64 a] rI K w := by
 have e : Ae4 tab Tryz.prog Tryz.f173 (tbH rC1) [.int .i64 a] (.one (.one (.int .i64))) K = Z7 a K 0 rC1 := by kernel_rfl
 exact Hq Ah Tryz.func173 (tbH rC1) [.int .i64 a] (.one (.one (.int .i64))) K w (by rw [e]; exact X5 h)
theorem By2 {a : Int} {K : Int -> Wp} (h : K (Xt a 0 rC2) w) : Aa Tryz.prog 174 #[.int .i64 a] rI K w := by
 have e : Ae4 tab Tryz.prog Tryz.f174 (tbH rC2) [.int .i64 a] (.one (.one (.int .i64))) K = Z7 a K 0 rC2 := by kernel_rfl
 exact Hq Ah Tryz.func174 (tbH rC2) [.int .i64 a] (.one (.one (.int .i64))) K w (by rw [e]; exact X5 h)
theorem By1 {a : Int} {K : Int -> Wp} (h : K (Xt a 0 rC3) w) : Aa Tryz.prog 175 #[.int .i64 a] rI K w := by
 have e : Ae4 tab Tryz.prog Tryz.f175 (tbH rC3) [.int .i64 a] (.one (.one (.int .i64))) K = Z7 a K 0 rC3 := by kernel_rfl
 exact Hq Ah Tryz.func175 (tbH rC3) [.int .i64 a] (.one (.one (.int .i64))) K w (by rw [e]; exact X5 h)
theorem Ax9 {a : Int} {K : Bool -> Wp} {ch : List (Bool × Int × Int)} (h : K (Gn a ch) w) : join (S := Bool × Unit) (λ J => Ph a J ch) (λ s => sif s.1 (K true) (K false)) w := by
 refine Af (λ x W => x = (Gn a ch, ()) /\ w = W) (H8 ⟨rfl, rfl⟩) ?_
 rintro _ _ ⟨rfl, rfl⟩
 refine Ac (λ h1 => ?_) (λ h1 => ?_)
 ·have h1 : Gn a ch = true := h1
  rw [h1] at h; exact h
 ·have h1 : Gn a ch = false := h1
  rw [h1] at h; exact h
theorem Bh7 {a : Int} {K : Bool -> Wp} (h : K (Gn a Yg) w) : Aa Tryz.prog 200 #[.int .i64 a] rB K w := by
 have e : Ae4 tab Tryz.prog Tryz.f200 (tbH [(Yg, 1)]) [.int .i64 a] (.one (.one .bool)) K = join (S := Bool × Unit) (λ J => Ph a J Yg) λ s => sif s.1 (K true) (K false) := by kernel_rfl
 exact Hq Ah Tryz.func200 (tbH [(Yg, 1)]) [.int .i64 a] (.one (.one .bool)) K w (by rw [e]; exact Ax9 h)
theorem Bh8 {a : Int} {K : Bool -> Wp} (h : K (Gn a D6) w) : Aa Tryz.prog 76 #[.int .i64 a] rB K w := by
 have e : Ae4 tab Tryz.prog Tryz.f76 (tbH [(D6, 1)]) [.int .i64 a] (.one (.one .bool)) K = join (S := Bool × Unit) (λ J => Ph a J D6) λ s => sif s.1 (K true) (K false) := by kernel_rfl
 exact Hq Ah Tryz.func76 (tbH [(D6, 1)]) [.int .i64 a] (.one (.one .bool)) K w (by rw [e]; exact Ax9 h)
theorem Bh6 {a : Int} {K : Bool -> Wp} (h : K (Gn a Yf) w) : Aa Tryz.prog 77 #[.int .i64 a] rB K w := by
 have e : Ae4 tab Tryz.prog Tryz.f77 (tbH [(Yf, 1)]) [.int .i64 a] (.one (.one .bool)) K = join (S := Bool × Unit) (λ J => Ph a J Yf) λ s => sif s.1 (K true) (K false) := by kernel_rfl
 exact Hq Ah Tryz.func77 (tbH [(Yf, 1)]) [.int .i64 a] (.one (.one .bool)) K w (by rw [e]; exact Ax9 h)
end Rgl
end Go.Proofs.YtolhlldgnfbemaaGreatDoor
namespace Go.Proofs.YtolhlldgnfbemaaGreatDoor
open Cdc Gly
namespace Rgl
def rl3 : List Nat -> List Row
  | a :: b :: c :: r => ⟨a, b, c⟩ :: rl3 r
  | _ => []
def Z5 : List Row := rl3 [0,9,3,10,10,2,11,12,3,13,13,1,14,31,3,127,159,3,169,169,14,173,173,3,174,174,14,768,879,4,1155,1161,4,1425,1469,4,1471,1471,4,1473,1474,4,1476,1477,4,1479,1479,4,1536,1541,7,1552,1562,4,1564,1564,3,1611,1631,4,1648,1648,4,1750,1756,4,1757,1757,7,1759,1764,4,1767,1768,4,1770,1773,4,1807,1807,7,1809,1809,4,1840,1866,4,1958,1968,4,2027,2035,4,2045,2045,4,2070,2073,4,2075,2083,4,2085,2087,4,2089,2093,4,2137,2139,4,2192,2193,7,2200,2207,4,2250,2273,4,2274,2274,7,2275,2306,4,2307,2307,8,2362,2362,4,2363,2363,8,2364,2364,4,2366,2368,8,2369,2376,4,2377,2380,8,2381,2381,4,2382,2383,8,2385,2391,4,2402,2403,4,2433,2433,4,2434,2435,8,2492,2492,4,2494,2494,4,2495,2496,8,2497,2500,4,2503,2504,8,2507,2508,8,2509,2509,4,2519,2519,4,2530,2531,4,2558,2558,4,2561,2562,4,2563,2563,8,2620,2620,4,2622,2624,8,2625,2626,4,2631,2632,4,2635,2637,4,2641,2641,4,2672,2673,4,2677,2677,4,2689,2690,4,2691,2691,8,2748,2748,4,2750,2752,8,2753,2757,4,2759,2760,4,2761,2761,8,2763,2764,8,2765,2765,4,2786,2787,4,2810,2815,4,2817,2817,4,2818,2819,8,2876,2876,4,2878,2879,4,2880,2880,8,2881,2884,4,2887,2888,8,2891,2892,8,2893,2893,4,2901,2903,4,2914,2915,4,2946,2946,4,3006,3006,4,3007,3007,8,3008,3008,4,3009,3010,8,3014,3016,8,3018,3020,8,3021,3021,4,3031,3031,4,3072,3072,4,3073,3075,8,3076,3076,4,3132,3132,4,3134,3136,4,3137,3140,8,3142,3144,4,3146,3149,4,3157,3158,4,3170,3171,4,3201,3201,4,3202,3203,8,3260,3260,4,3262,3262,8,3263,3263,4,3264,3265,8,3266,3266,4,3267,3268,8,3270,3270,4,3271,3272,8,3274,3275,8,3276,3277,4,3285,3286,4,3298,3299,4,3315,3315,8,3328,3329,4,3330,3331,8,3387,3388,4,3390,3390,4,3391,3392,8,3393,3396,4,3398,3400,8,3402,3404,8,3405,3405,4,3406,3406,7,3415,3415,4,3426,3427,4,3457,3457,4,3458,3459,8,3530,3530,4,3535,3535,4,3536,3537,8,3538,3540,4,3542,3542,4,3544,3550,8,3551,3551,4,3570,3571,8,3633,3633,4,3635,3635,8,3636,3642,4,3655,3662,4,3761,3761,4,3763,3763,8,3764,3772,4,3784,3790,4,3864,3865,4,3893,3893,4,3895,3895,4,3897,3897,4,3902,3903,8,3953,3966,4,3967,3967,8,3968,3972,4,3974,3975,4,3981,3991,4,3993,4028,4,4038,4038,4,4141,4144,4,4145,4145,8,4146,4151,4,4153,4154,4,4155,4156,8,4157,4158,4,4182,4183,8,4184,4185,4,4190,4192,4,4209,4212,4,4226,4226,4,4228,4228,8,4229,4230,4,4237,4237,4,4253,4253,4,4352,4447,9,4448,4519,10,4520,4607,11,4957,4959,4,6068,6069,4,6070,6070,8,6071,6077,4,6078,6085,8,6086,6086,4,6087,6088,8,6089,6099,4,6109,6109,4,6155,6157,4,6158,6158,3,6159,6159,4,6313,6313,4,6832,6862,4,7616,7679,4,8203,8203,3,8204,8204,4,8205,8205,5,8206,8207,3,8232,8238,3,8252,8252,14,8265,8265,14,8288,8303,3,8400,8432,4,8482,8482,14,8505,8505,14,8596,8601,14,8617,8618,14,8986,8987,14,9000,9000,14,9096,9096,14,9167,9167,14,9193,9203,14,9208,9210,14,9410,9410,14,9642,9643,14,9654,9654,14,9664,9664,14,9723,9726,14,9728,9733,14,9735,9746,14,9748,9861,14,9872,9989,14,9992,10002,14,10004,10004,14,10006,10006,14,10013,10013,14,10017,10017,14,10024,10024,14,10035,10036,14,10052,10052,14,10055,10055,14,10060,10060,14,10062,10062,14,10067,10069,14,10071,10071,14,10083,10087,14,10133,10135,14,10145,10145,14,10160,10160,14,10175,10175,14,10548,10549,14,11013,11015,14,11035,11036,14,11088,11088,14,11093,11093,14,12330,12335,4,12336,12336,14,12349,12349,14,12441,12442,4,12951,12951,14,12953,12953,14,42607,42610,4,42612,42621,4,42654,42655,4,42736,42737,4,43360,43388,9,55216,55238,10,55243,55291,11,64286,64286,4,65024,65039,4,65056,65071,4,65279,65279,3,65438,65439,4,65520,65531,3,66045,66045,4,69821,69821,7,69837,69837,7,70082,70083,7,78896,78911,3,113824,113827,3,119141,119141,4,119143,119145,4,119150,119154,4,119155,119162,3,119163,119170,4,119173,119179,4,119210,119213,4,126976,127231,14,127245,127247,14,127279,127279,14,127340,127345,14,127358,127359,14,127374,127374,14,127377,127386,14,127405,127461,14,127462,127487,6,127489,127503,14,127514,127514,14,127535,127535,14,127538,127546,14,127548,127551,14,127561,127994,14,127995,127999,4,128000,128317,14,128326,128591,14,128640,128767,14,128884,128895,14,128981,129023,14,129036,129039,14,129096,129103,14,129114,129119,14,129160,129167,14,129198,129279,14,129292,129338,14,129340,129349,14,129351,129791,14,130048,131069,14,917504,917535,3,917536,917631,4,917632,917759,3,917760,917999,4,918000,921599,3]
def Av5 : List Row := rl3 [2325,2361,1,2392,2399,1,2424,2431,1,2453,2472,1,2474,2480,1,2482,2482,1,2486,2489,1,2524,2525,1,2527,2527,1,2544,2545,1,2709,2728,1,2730,2736,1,2738,2739,1,2741,2745,1,2809,2809,1,2837,2856,1,2858,2864,1,2866,2867,1,2869,2873,1,2908,2909,1,2911,2911,1,2929,2929,1,3093,3112,1,3114,3129,1,3160,3162,1,3349,3386,1]
def Cj6 : List Row := rl3 [9,13,1,32,32,1,48,57,2,65,90,2,95,95,2,97,122,2,133,133,1,160,160,1,170,170,2,181,181,2,186,186,2,192,214,2,216,246,2,248,705,2,768,884,2,886,893,2,895,895,2,902,902,2,904,1013,2,1015,1153,2,1155,1327,2,1329,1366,2,1376,1416,2,1425,1469,2,1488,1514,2,1552,1562,2,1568,1641,2,1646,1747,2,1749,1756,2,1759,1768,2,1770,1788,2,1808,1866,2,2304,2403,2,2406,2415,2,2417,3571,2,3585,3642,2,3648,3662,2,3664,3673,2,3713,3807,2,3864,3897,2,3904,3972,2,3984,4028,2,4096,4169,2,4176,4253,2,4256,4346,2,4348,4607,2,4608,4959,2,5760,5760,1,6016,6099,2,7680,8188,2,8192,8202,1,8232,8233,1,8239,8239,1,8287,8287,1,8486,8486,2,8490,8491,2,8544,8584,2,12288,12288,1,12293,12295,2,12321,12335,2,12353,12438,2,12441,12442,2,12445,12447,2,12449,12538,2,12540,12543,2,12549,12591,2,12593,12686,2,13312,19903,2,19968,40959,2,43360,43388,2,44032,55203,2,55216,55291,2,63744,64255,2,64285,64335,2,65296,65305,2,65313,65338,2,65345,65370,2,65382,65500,2,66560,66639,2,131072,195103,2,196608,205743,2]
theorem Bc1 : Cf6 = Z5 := by kernel_rfl
theorem Bc0 : Bz3 = Av5 := by kernel_rfl
theorem Bu5 : Bd1 = Cj6 := by kernel_rfl
theorem greatest : ∀ (L : List Nat) (s n : Nat), s <= n -> ∃ b, (b = s \/ b ∈ L) /\ s <= b /\ b <= n /\ ∀ c ∈ L, c <= n -> c <= b
 | [], s, n, h => ⟨s, .inl rfl, Nat.le_refl _, h, λ c hc => by cases hc⟩
 | x :: L, s, n, h => by
  obtain ⟨b, h1, h2, h3, h4⟩ := greatest L s n h
  by_cases hx : x <= n /\ b < x
  ·exact ⟨x, .inr List.mem_cons_self, by omega, hx.1, λ c hc hcn => by
    rcases List.mem_cons.1 hc with rfl | hc
    ·exact Nat.le_refl _
    ·have := h4 c hc hcn; omega⟩
  ·exact ⟨b, h1.imp id (List.mem_cons_of_mem _), h2, h3, λ c hc hcn => by
    rcases List.mem_cons.1 hc with rfl | hc
    ·omega
    ·exact h4 c hc hcn⟩
def ends (T : List Row) : List Nat := T.flatMap λ r => [r.lo, r.hi + 1]
theorem Qc : ∀ {T : List Row} {b n : Nat}, b <= n -> (∀ c ∈ ends T, c <= n -> c <= b) -> Iy T n = Iy T b
 | [], _, _, _, _ => rfl
 | r :: T, b, n, hb, h => by
  have h1 : r.lo <= n -> r.lo <= b := h r.lo (by simp [ends])
  have h2 : r.hi + 1 <= n -> r.hi + 1 <= b := h (r.hi + 1) (by simp [ends])
  have ih := Qc (T := T) hb λ c hc => h c (by
   unfold ends at hc ⊢
   rw [List.flatMap_cons]
   exact List.mem_append_right _ hc)
  have e : (Nat.ble r.lo n && Nat.ble n r.hi) = (Nat.ble r.lo b && Nat.ble b r.hi) := by
   rw [Bool.eq_iff_iff]
   simp only [Bool.and_eq_true, Nat.ble_eq]
   omega
  rw [Iy, Iy, e, ih]
def chk (A B : List Row) (s e : Nat) : Bool := (s :: (ends A ++ ends B)).all λ b => !(Nat.ble s b && Nat.ble (b + 1) e) || Nat.beq (Iy A b) (Iy B b)
theorem Wh {A B : List Row} {s e : Nat} (h : chk A B s e = true) {n : Nat} (h1 : s <= n) (h2 : n < e) : Iy A n = Iy B n := by
 obtain ⟨b, hb, g1, g2, g3⟩ := greatest (ends A ++ ends B) s n h1
 have hm : b ∈ s :: (ends A ++ ends B) := by
  rcases hb with rfl | hb
  ·exact List.mem_cons_self
  ·exact List.mem_cons_of_mem _ hb
 have := List.all_eq_true.1 h b hm
 simp only [Bool.or_eq_true, Bool.not_eq_true', Bool.and_eq_false_iff, Nat.beq_eq_true_eq] at this
 rw [Qc g2 λ c hc => g3 c (List.mem_append_left _ hc), Qc g2 λ c hc => g3 c (List.mem_append_right _ hc)]
 rcases this with (h | h) | h
 ·have : Nat.ble s b = true := by rw [Nat.ble_eq]; exact g1
  rw [this] at h; cases h
 ·have : Nat.ble (b + 1) e = true := by rw [Nat.ble_eq]; omega
  rw [this] at h; cases h
 ·exact Nat.eq_of_beq_eq_true h
def Wj (ch : List (Bool × Int × Int)) (n : Nat) : List Row := ch.map λ x => ⟨x.2.1.toNat, x.2.2.toNat, n⟩
def O4 (T : List (List (Bool × Int × Int) × Int)) : List Row := T.flatMap λ p => Wj p.1 p.2.toNat
def Bg3 (ch : List (Bool × Int × Int)) : Bool := ch.all λ x => decide (0 <= x.2.1) && decide (0 <= x.2.2) && (!x.1 || x.2.1 == x.2.2)
def Bn3 (T : List (List (Bool × Int × Int) × Int)) : Bool := T.all λ p => decide (0 <= p.2) && Bg3 p.1
theorem Bx7 {a : Int} (ha : 0 <= a) {x : Bool × Int × Int} (h : (decide (0 <= x.2.1) && decide (0 <= x.2.2) && (!x.1 || x.2.1 == x.2.2)) = true) : inR a x = (Nat.ble x.2.1.toNat a.toNat && Nat.ble a.toNat x.2.2.toNat) := by
 obtain ⟨b, l, u⟩ := x
 simp only [Bool.and_eq_true, decide_eq_true_eq, Bool.or_eq_true, Bool.not_eq_true', beq_iff_eq] at h
 unfold inR
 rw [Bool.eq_iff_iff]
 cases b with
 | true =>
  simp only [if_true, beq_iff_eq, Bool.and_eq_true, Nat.ble_eq]
  have : l = u := by rcases h.2 with h | h; cases h; exact h
  omega
 | false =>
  simp only [Bool.false_eq_true, if_false, Bool.and_eq_true, decide_eq_true_eq, Nat.ble_eq]
  omega
theorem Nr {a : Int} (ha : 0 <= a) (n : Nat) (R : List Row) : ∀ {ch : List (Bool × Int × Int)}, Bg3 ch = true -> Iy (Wj ch n ++ R) a.toNat = if Gn a ch then n else Iy R a.toNat
 | [], _ => rfl
 | x :: ch, h => by
  unfold Bg3 at h
  rw [List.all_cons, Bool.and_eq_true] at h
  have e := Bx7 ha h.1
  have ih := Nr ha n R (ch := ch) h.2
  have e2 : Wj (x :: ch) n ++ R = ⟨x.2.1.toNat, x.2.2.toNat, n⟩ :: (Wj ch n ++ R) := rfl
  have e3 : Gn a (x :: ch) = (inR a x || Gn a ch) := rfl
  rw [e2, Iy, ih, e3, ← e]
  cases inR a x <;> simp
theorem Xr {a : Int} (ha : 0 <= a) : ∀ {T : List (List (Bool × Int × Int) × Int)}, Bn3 T = true -> Xt a 0 T = (Iy (O4 T) a.toNat : Nat)
 | [], _ => rfl
 | (ch, n) :: T, h => by
  unfold Bn3 at h
  rw [List.all_cons, Bool.and_eq_true, Bool.and_eq_true, decide_eq_true_eq] at h
  have ih := Xr ha (T := T) h.2
  have e2 : O4 ((ch, n) :: T) = Wj ch n.toNat ++ O4 T := rfl
  rw [Xt, e2, Nr ha n.toNat (O4 T) h.1.2, ih]
  split
  ·have := h.1.1; dsimp only at this; omega
  ·rfl
theorem ok1 : Bn3 rC1 = true := by kernel_rfl
theorem ok2 : Bn3 rC2 = true := by kernel_rfl
theorem ok3 : Bn3 rC3 = true := by kernel_rfl
theorem Ci6 : Bg3 Yg = true := by kernel_rfl
theorem Ci7 : Bg3 D6 = true := by kernel_rfl
theorem Ci5 : Bg3 Yf = true := by kernel_rfl
theorem Cw8 : chk Z5 (O4 rC1) 0 3076 = true := by kernel_rfl
theorem Cw7 : chk Z5 (O4 rC2) 3076 8505 = true := by kernel_rfl
theorem Cw6 : chk Z5 (O4 rC3) 8505 1114112 = true := by kernel_rfl
theorem Cf8 : chk Av5 (Wj Yg 1) 0 1114112 = true := by kernel_rfl
theorem Cf7 : chk Cj6 (Wj D6 1 ++ Wj Yf 2) 0 1114112 = true := by kernel_rfl
end Rgl
end Go.Proofs.YtolhlldgnfbemaaGreatDoor
namespace Go.Proofs.YtolhlldgnfbemaaGreatDoor
open Go Go.Vx Cdc Gly Rgl
namespace Rgl
theorem Bz4 {a : Int} (hs : Scalar a) (hh : ¬ (44032 <= a /\ a < 55204)) : (cls a : Int) = if a < 3076 then Xt a 0 rC1 else if a < 8505 then Xt a 0 rC2 else Xt a 0 rC3 := by
 have ha : 0 <= a := by rcases hs with h | h <;> omega
 have hb : a.toNat < 1114112 := by rcases hs with h | h <;> omega
 have e : cls a = Iy Z5 a.toNat := by unfold cls; rw [if_pos hs, if_neg hh, Bc1]
 rw [e]
 split
 ·rw [Xr ha ok1, Wh Cw8 (Nat.zero_le _) (by omega)]
 ·split
  ·rw [Xr ha ok2, Wh Cw7 (by omega) (by omega)]
  ·rw [Xr ha ok3, Wh Cw6 (by omega) (by omega)]
theorem Ai5 {a : Int} (hs : Scalar a) : Iy Bz3 a.toNat = if Gn a Yg then 1 else 0 := by
 have ha : 0 <= a := by rcases hs with h | h <;> omega
 have hb : a.toNat < 1114112 := by rcases hs with h | h <;> omega
 rw [Bc0, Wh Cf8 (Nat.zero_le _) hb]
 have := Nr ha 1 [] Ci6
 rw [List.append_nil] at this
 exact this
theorem Bz2 : (Yg.all λ x => decide (0 <= x.2.1) && decide (x.2.2 < 44032) && (!x.1 || x.2.1 == x.2.2)) = true := by kernel_rfl
theorem Cf5 {a : Int} (h : Gn a Yg = true) : 0 <= a /\ a < 44032 := by
 obtain ⟨x, hx, h⟩ := List.any_eq_true.1 h
 have := List.all_eq_true.1 Bz2 x hx
 obtain ⟨b, l, u⟩ := x
 simp only [Bool.and_eq_true, decide_eq_true_eq, Bool.or_eq_true, Bool.not_eq_true', beq_iff_eq] at this
 unfold inR at h
 cases b with
 | true => simp at h this; omega
 | false => simp at h; omega
def Ck4 : Bool := (0 :: (ends Av5 ++ ends Z5)).all λ b => Nat.beq (Iy Av5 b) 0 || Nat.beq (Iy Z5 b) 0
theorem Br9 : Ck4 = true := by kernel_rfl
theorem Bi9 {n : Nat} (h : Iy Av5 n ≠ 0) : Iy Z5 n = 0 := by
 obtain ⟨b, hb, g1, g2, g3⟩ := greatest (ends Av5 ++ ends Z5) 0 n (Nat.zero_le _)
 have hm : b ∈ 0 :: (ends Av5 ++ ends Z5) := by
  rcases hb with rfl | hb
  ·exact List.mem_cons_self
  ·exact List.mem_cons_of_mem _ hb
 have := List.all_eq_true.1 Br9 b hm
 simp only [Bool.or_eq_true] at this
 rw [Qc g2 λ c hc => g3 c (List.mem_append_left _ hc)] at h
 rw [Qc g2 λ c hc => g3 c (List.mem_append_right _ hc)]
 rcases this with q | q
 ·exact absurd (Nat.eq_of_beq_eq_true q) h
 ·exact Nat.eq_of_beq_eq_true q
theorem Bb9 {a : Int} (h : Gn a Yg = true) : Scalar a /\ cls a = 0 := by
 obtain ⟨h1, h2⟩ := Cf5 h
 have hs : Scalar a := .inl ⟨h1, by omega⟩
 refine ⟨hs, ?_⟩
 have := Ai5 hs
 rw [h, if_pos rfl, Bc0] at this
 unfold cls
 rw [if_pos hs, if_neg (by omega), Bc1]
 exact Bi9 (by omega)
theorem Br3 : Gn 8204 Yg = false := by kernel_rfl
theorem Xq (a : Int) : cnj a = if a = 2381 \/ a = 2509 \/ a = 2765 \/ a = 2893 \/ a = 3149 \/ a = 3405 then 3 else if (cls a = 4 \/ cls a = 5) /\ a ≠ 8204 then 2 else if Gn a Yg then 1 else 0 := by
 unfold cnj
 split
 ·rfl
 by_cases h2 : a = 8204
 ·subst h2
  rw [if_pos rfl, if_neg (λ h => h.2 rfl), Br3]; rfl
 ·rw [if_neg h2]
  by_cases h3 : cls a = 4 \/ cls a = 5
  ·rw [if_pos h3, if_pos ⟨h3, h2⟩]
  ·rw [if_neg h3, if_neg (show ¬ ((cls a = 4 \/ cls a = 5) /\ a ≠ 8204) from λ h => h3 h.1)]
   cases h4 : Gn a Yg with
   | true =>
    obtain ⟨g1, g2⟩ := Bb9 h4
    rw [if_pos ⟨g2, g1⟩, Ai5 g1, h4]
   | false =>
    split
    ·rename_i h5
     rw [Ai5 h5.2, h4]
    ·rfl
theorem Bu4 : ((D6 ++ Yf).all λ x => decide (0 <= x.2.1) && (decide (x.2.2 < 55296) || (decide (57343 < x.2.1) && decide (x.2.2 < 1114112))) && (!x.1 || x.2.1 == x.2.2)) = true := by kernel_rfl
theorem Bj8 {a : Int} (h : Gn a D6 = true \/ Gn a Yf = true) : Scalar a := by
 obtain ⟨x, hx, h⟩ : ∃ x ∈ D6 ++ Yf, inR a x = true := by
  rcases h with h | h
  ·obtain ⟨x, hx, h⟩ := List.any_eq_true.1 h; exact ⟨x, List.mem_append_left _ hx, h⟩
  ·obtain ⟨x, hx, h⟩ := List.any_eq_true.1 h; exact ⟨x, List.mem_append_right _ hx, h⟩
 have := List.all_eq_true.1 Bu4 x hx
 obtain ⟨b, l, u⟩ := x
 simp only [Bool.and_eq_true, decide_eq_true_eq, Bool.or_eq_true, Bool.not_eq_true', beq_iff_eq] at this
 unfold inR at h
 unfold Scalar
 cases b with
 | true => simp at h this; omega
 | false => simp at h; omega
theorem Bu3 (a : Int) : wrd a = if Gn a D6 then 0 else if Gn a Yf then 2 else 1 := by
 by_cases hs : Scalar a
 ·have ha : 0 <= a := by rcases hs with h | h <;> omega
  have hb : a.toNat < 1114112 := by rcases hs with h | h <;> omega
  have e1 := Nr ha 1 (Wj Yf 2) Ci7
  have e2 := Nr ha 2 [] Ci5
  rw [List.append_nil] at e2
  rw [e2] at e1
  unfold wrd
  rw [if_pos hs, Bu5, Wh Cf7 (Nat.zero_le _) hb, e1]
  cases Gn a D6 <;> cases Gn a Yf <;> rfl
 ·unfold wrd
  rw [if_neg hs]
  cases h1 : Gn a D6 with
  | true => exact absurd (Bj8 (.inl h1)) hs
  | false =>
   cases h2 : Gn a Yf with
   | true => exact absurd (Bj8 (.inr h2)) hs
   | false => rfl
end Rgl
section
variable {w : World}
theorem Y9 {a : Int} {K : Bool -> Wp} (h : K (decide (Scalar a)) w) : Aa Tryz.prog 172 #[.int .i64 a] rB K w := by
 refine Df1 ?_
 unfold F172
 have g : ∀ {b : Bool}, (b = true ↔ Scalar a) -> K b w := λ {b} hb => by
  have e : decide (Scalar a) = b := by
   rw [Bool.eq_iff_iff, decide_eq_true_eq]; exact hb.symm
  rw [e] at h; exact h
 refine Ac (λ h1 => Ac (λ h2 => Ac (λ h3 => g ?_) (λ h3 => g ?_)) (λ h2 => g ?_)) (λ h1 => g ?_)
 all_goals simp only [decide_eq_true_eq, decide_eq_false_iff_not, ge_iff_le, gt_iff_lt, Bool.false_eq_true, true_iff, false_iff] at *
 all_goals unfold Scalar
 all_goals omega
theorem Gt {a : Int} {K : Int -> Wp} (h : K ((cls a : Nat) : Int) w) : Aa Tryz.prog 125 #[.int .i64 a] rI K w := by
 refine Di3 ?_
 unfold F125
 refine Y9 ?_
 refine Ac (λ hn => ?_) (λ hn => ?_)
 ·simp only [Bool.not_eq_true', decide_eq_false_iff_not] at hn
  have : cls a = 3 := by unfold cls; rw [if_neg hn]
  rw [this] at h; exact h
 ·simp only [Bool.not_eq_false', decide_eq_true_eq] at hn
  have h0 : 0 <= a := by rcases hn with q | q <;> omega
  refine Af (λ x W => x = (decide (44032 <= a /\ a < 55204), ()) /\ w = W) (Ac (λ h1 => ⟨Aw ?_, rfl⟩) (λ h1 => ⟨Aw ?_, rfl⟩)) ?_
  ·simp only [decide_eq_true_eq, ge_iff_le] at *; omega
  ·simp only [decide_eq_true_eq, decide_eq_false_iff_not, ge_iff_le, Bool.false_eq_true, false_iff] at *; omega
  rintro _ _ ⟨rfl, rfl⟩
  refine Ac (λ hh => ?_) (λ hh => ?_)
  ·simp only [decide_eq_true_eq] at hh
   refine Bo (by decide) ?_
   have e : cls a = if (a.toNat - 44032) % 28 = 0 then 12 else 13 := by unfold cls; rw [if_pos hn, if_pos hh]
   rw [e] at h
   rw [wrap64 (by omega) (by omega), Int.tmod_eq_emod_of_nonneg (by omega)]
   refine Ac (λ h1 => ?_) (λ h1 => ?_)
   ·simp only [beq_iff_eq] at h1
    rw [if_pos (by omega)] at h; exact h
   ·simp only [beq_eq_false_iff_ne, ne_eq] at h1
    rw [if_neg (by omega)] at h; exact h
  ·simp only [decide_eq_false_iff_not] at hh
   rw [Bz4 hn hh] at h
   refine Ac (λ h1 => ?_) (λ h1 => ?_)
   ·simp only [decide_eq_true_eq] at h1
    rw [if_pos h1] at h; exact By3 h
   ·simp only [decide_eq_false_iff_not] at h1
    rw [if_neg h1] at h
    refine Ac (λ h2 => ?_) (λ h2 => ?_)
    ·simp only [decide_eq_true_eq] at h2
     rw [if_pos h2] at h; exact By2 h
    ·simp only [decide_eq_false_iff_not] at h2
     rw [if_neg h2] at h; exact By1 h
theorem P5 {a : Int} {K : Int -> Wp} (h : K ((cnj a : Nat) : Int) w) : Aa Tryz.prog 176 #[.int .i64 a] rI K w := by
 refine Df0 ?_
 unfold F176
 rw [Xq] at h
 refine Af (λ x W => x = (decide (a = 2381 \/ a = 2509 \/ a = 2765 \/ a = 2893 \/ a = 3149 \/ a = 3405), ()) /\ w = W) ?_ ?_
 ·refine Ac (λ h1 => ⟨Aw ?_, rfl⟩) λ h1 => Ac (λ h2 => ⟨Aw ?_, rfl⟩) λ h2 => Ac (λ h3 => ⟨Aw ?_, rfl⟩) λ h3 => Ac (λ h4 => ⟨Aw ?_, rfl⟩) λ h4 => Ac (λ h5 => ⟨Aw ?_, rfl⟩) λ h5 => ⟨Aw ?_, rfl⟩
  all_goals simp only [beq_iff_eq, beq_eq_false_iff_ne, ne_eq, decide_eq_true_eq, true_iff] at *
  all_goals omega
 rintro _ _ ⟨rfl, rfl⟩
 refine Ac (λ h1 => ?_) (λ h1 => ?_)
 ·simp only [decide_eq_true_eq] at h1
  rw [if_pos h1] at h; exact h
 simp only [decide_eq_false_iff_not] at h1
 rw [if_neg h1] at h
 refine Gt ?_
 refine Af (λ x W => x = (decide ((cls a = 4 \/ cls a = 5) /\ a ≠ 8204), ()) /\ w = W) ?_ ?_
 ·refine Ac (λ h1 => ⟨Aw ?_, rfl⟩) λ h1 => Ac (λ h2 => ⟨Aw ?_, rfl⟩) λ h2 => ⟨Aw ?_, rfl⟩
  all_goals simp only [beq_iff_eq, beq_eq_false_iff_ne, bne_iff_ne, ne_eq, decide_eq_true_eq, Bool.false_eq_true, false_iff] at *
  all_goals omega
 rintro _ _ ⟨rfl, rfl⟩
 refine Ac (λ h1 => ?_) (λ h1 => ?_)
 ·simp only [decide_eq_true_eq] at h1
  rw [if_pos h1] at h; exact h
 simp only [decide_eq_false_iff_not] at h1
 rw [if_neg h1] at h
 refine Bh7 (Ac (λ h2 => ?_) (λ h2 => ?_))
 ·rw [h2] at h; exact h
 ·rw [h2] at h; exact h
theorem As9 {a : Int} {K : Int -> Wp} (h : K ((wrd a : Nat) : Int) w) : Aa Tryz.prog 33 #[.int .i64 a] rI K w := by
 refine A33 ?_
 unfold F33
 rw [Bu3] at h
 refine Bh8 (Ac (λ h1 => ?_) (λ h1 => Bh6 (Ac (λ h2 => ?_) (λ h2 => ?_))))
 ·rw [h1] at h; exact h
 ·rw [h1, h2] at h; exact h
 ·rw [h1, h2] at h; exact h
end
end Go.Proofs.YtolhlldgnfbemaaGreatDoor
namespace Go.Proofs.YtolhlldgnfbemaaGreatDoor
open Gly Clu Rgl
namespace Clu
def sN (l : List Int) : Sc := l.foldl (λ s a => s.note (cls a) (cnj a)) Sc.zero
theorem Lj (l : List Int) (a : Int) : sN (l ++ [a]) = (sN l).note (cls a) (cnj a) := by simp [sN]
theorem Bx0 : (([2381, 2509, 2765, 2893, 3149, 3405] : List Int).all λ a => cls a == 4) = true := by kernel_rfl
theorem Ck1 {a : Int} (h : cnj a = 3) : cls a = 4 := by
 rw [Xq] at h
 split at h
 ·rename_i hl
  have := List.all_eq_true.1 Bx0 a (by simp; omega)
  simpa using this
 ·split at h
  ·omega
  ·split at h <;> omega
theorem Ck2 {a : Int} (h : cnj a = 2) : cls a = 4 \/ cls a = 5 := by
 rw [Xq] at h
 split at h
 ·omega
 ·split at h
  ·rename_i hx; exact hx.1
  ·split at h <;> omega
theorem Cw5 {a : Int} (h : cnj a = 1) : cls a = 0 := by
 rw [Xq] at h
 split at h
 ·omega
 ·split at h
  ·omega
  ·split at h
   ·rename_i hx; exact (Bb9 hx).2
   ·omega
theorem Br5 (a : Int) : cnj a <= 3 := by
 rw [Xq]
 split
 ·omega
 ·split
  ·omega
  ·split <;> omega
structure NOk (s : Sc) : Prop where
 fl : 0 < s.flags -> s.last = 6
 pi : 0 < s.pict -> s.last = 14 \/ s.last = 4 \/ s.last = 5
 co : 0 < s.conj -> s.last = 0 \/ s.last = 4 \/ s.last = 5
theorem Bn9 {s : Sc} (a : Int) : NOk (s.note (cls a) (cnj a)) := by
 refine ⟨λ h => ?_, λ h => ?_, λ h => ?_⟩
 ·simp only [Sc.note] at h ⊢
  split at h
  ·assumption
  ·omega
 ·simp only [Sc.note] at h ⊢
  split at h
  ·omega
  ·split at h
   ·omega
   ·split at h <;> omega
 ·simp only [Sc.note] at h ⊢
  split at h
  ·exact .inl (Cw5 ‹_›)
  ·split at h
   ·exact .inr (.inl (Ck1 (by omega)))
   ·split at h
    ·exact .inr (Ck2 (by omega))
    ·omega
theorem nok (l : List Int) : NOk (sN l) := by
 rcases List.eq_nil_or_concat l with rfl | ⟨m, a, rfl⟩
 ·exact ⟨λ h => by simp [sN, Sc.zero] at h, λ h => by simp [sN, Sc.zero] at h, λ h => by simp [sN, Sc.zero] at h⟩
 ·rw [List.concat_eq_append, Lj]; exact Bn9 a
structure Alike (s t : Sc) : Prop where
 la : s.last = t.last
 fl : s.flags % 2 = t.flags % 2
 pi : s.pict = t.pict
 co : s.conj = t.conj
theorem Ay4 {s t : Sc} (h : Alike s t) (c p : Nat) : Alike (s.note c p) (t.note c p) := by
 obtain ⟨h1, h2, h3, h4⟩ := h
 refine ⟨rfl, ?_, ?_, ?_⟩
 ·simp only [Sc.note]; split <;> omega
 ·simp only [Sc.note, h3]
 ·simp only [Sc.note, h4]
theorem D5 {s t : Sc} (h : Alike s t) (c p : Nat) : joins s c p = joins t c p := by
 obtain ⟨h1, h2, h3, h4⟩ := h
 unfold joins
 rw [h1, h2, h3, h4]
theorem Bg5 (s : Sc) (c p : Nat) : (s.note c p).conj = (if p = 1 then 1 else if 0 < s.conj /\ p = 3 then 2 else if 0 < s.conj /\ p = 2 then s.conj else 0) := rfl
theorem Ab9 (s : Sc) (c p : Nat) : (s.note c p).pict = (if c = 14 then 1 else if s.pict = 1 /\ c = 5 then 2 else if s.pict = 1 /\ c = 4 then s.pict else 0) := rfl
theorem Bg4 (c p : Nat) : (Sc.zero.note c p).flags = (if c = 6 then 1 else 0) /\ (Sc.zero.note c p).pict = (if c = 14 then 1 else 0) /\ (Sc.zero.note c p).conj = (if p = 1 then 1 else 0) := by simp [Sc.note, Sc.zero]
theorem alike (l : List Int) : Alike (sc l) (sN l) := by
 have key : ∀ n (l : List Int), l.length = n -> Alike (sc l) (sN l) := by
  intro n
  induction n with
  | zero =>
   intro l hl
   obtain rfl := List.length_eq_zero_iff.1 hl
   exact ⟨rfl, rfl, rfl, rfl⟩
  | succ n ih =>
   intro l hl
   rcases List.eq_nil_or_concat l with rfl | ⟨m, a, rfl⟩
   ·simp at hl
   rw [List.concat_eq_append] at hl ⊢
   have ih := ih m (by rw [List.length_append] at hl; simpa using hl)
   rw [Vz, Lj]
   cases hj : joins (sc m) (cls a) (cnj a) with
   | true => rw [Aa5 hj]; exact Ay4 ih _ _
   | false =>
    rw [Ay9 hj, L9]
    have hN := nok m
    rw [D5 ih] at hj
    obtain ⟨n1, n2, n3⟩ := hN
    generalize sN m = t at *
    have c3 := Ck1 (a := a)
    have c2 := Ck2 (a := a)
    have hle := Br5 a
    generalize cls a = c at *
    generalize cnj a = p at *
    have hap : c = 4 \/ c = 5 -> apart t.last = true := by
     intro hc
     unfold joins at hj
     split at hj
     ·cases hj
     ·split at hj
      ·rename_i hap
       rcases hap with h | h
       ·exact h
       ·simp only [apart, decide_eq_true_eq] at h; omega
      ·rw [if_pos (by omega)] at hj; cases hj
    have hap2 : apart t.last = true -> t.flags = 0 /\ t.pict = 0 /\ t.conj = 0 := by
     intro h
     simp only [apart, decide_eq_true_eq] at h
     refine ⟨?_, ?_, ?_⟩
     ·rcases Nat.eq_zero_or_pos t.flags with q | q
      ·exact q
      ·have := n1 q; omega
     ·rcases Nat.eq_zero_or_pos t.pict with q | q
      ·exact q
      ·have := n2 q; omega
     ·rcases Nat.eq_zero_or_pos t.conj with q | q
      ·exact q
      ·have := n3 q; omega
    obtain ⟨z1, z2, z3⟩ := Bg4 c p
    refine ⟨rfl, ?_, ?_, ?_⟩
    ·rw [z1]
     simp only [Sc.note]
     by_cases hc : c = 6
     ·have : t.flags % 2 = 0 := by
       subst hc
       unfold joins at hj
       split at hj
       ·cases hj
       ·split at hj
        ·rename_i hap'
         rcases hap' with h | h
         ·rw [(hap2 h).1]
         ·simp [apart] at h
        ·split at hj
         ·cases hj
         ·split at hj
          ·cases hj
          ·split at hj
           ·cases hj
           ·simp at hj; omega
      rw [if_pos hc, if_pos hc]; omega
     ·rw [if_neg hc, if_neg hc]
    ·rw [z2]
     simp only [Sc.note]
     by_cases h14 : c = 14
     ·rw [if_pos h14, if_pos h14]
     ·rw [if_neg h14, if_neg h14]
      by_cases hc : c = 4 \/ c = 5
      ·have := (hap2 (hap hc)).2.1
       rw [if_neg (λ q => by have := q.1; omega), if_neg (λ q => by have := q.1; omega)]
      ·rw [if_neg (λ q => by have := q.2; omega), if_neg (λ q => by have := q.2; omega)]
    ·rw [z3]
     simp only [Sc.note]
     by_cases h1 : p = 1
     ·rw [if_pos h1, if_pos h1]
     ·rw [if_neg h1, if_neg h1]
      by_cases hp : p = 3 \/ p = 2
      ·have h45 : c = 4 \/ c = 5 := by
        rcases hp with h | h
        ·exact .inl (c3 h)
        ·exact c2 h
       have := (hap2 (hap h45)).2.2
       rw [if_neg (λ q => by have := q.1; omega), if_neg (λ q => by have := q.1; omega)]
      ·rw [if_neg (λ q => by have := q.2; omega), if_neg (λ q => by have := q.2; omega)]
 exact key _ l rfl
def Rj : List Int -> Nat -> Bool
 | [], _ => false
 | a :: r, n => if cnj a ≠ 3 /\ cnj a ≠ 2 then decide (0 < n) && (cnj a == 1) else Rj r (if cnj a = 3 then n + 1 else n)
def Py : List Int -> Bool
 | [] => false
 | a :: r => if cls a ≠ 4 then cls a == 14 else Py r
def Qe : List Int -> Nat
 | [] => 0
 | a :: r => if cls a ≠ 6 then 0 else Qe r + 1
theorem Ap1 : ∀ (r : List Int) (n : Nat), Rj r n = ((sN r.reverse).conj == 2 || ((sN r.reverse).conj == 1 && decide (0 < n)))
 | [], n => by simp [Rj, sN, Sc.zero]
 | a :: r, n => by
  rw [List.reverse_cons, Lj, Rj]
  have hle := Br5 a
  rw [Bg5]
  by_cases h : cnj a ≠ 3 /\ cnj a ≠ 2
  ·rw [if_pos h]
   by_cases h1 : cnj a = 1
   ·rw [h1]; simp
   ·have h0 : cnj a = 0 := by omega
    rw [h0]; simp
  ·rw [if_neg h, Ap1 r]
   have c2 : (sN r.reverse).conj <= 2 := by
    have key : ∀ l : List Int, (sN l).conj <= 2 := by
     intro l
     have : ∀ n (l : List Int), l.length = n -> (sN l).conj <= 2 := by
      intro n
      induction n with
      | zero => intro l hl; rw [List.length_eq_zero_iff.1 hl]; simp [sN, Sc.zero]
      | succ n ih =>
       intro l hl
       rcases List.eq_nil_or_concat l with rfl | ⟨m, b, rfl⟩
       ·simp at hl
       rw [List.concat_eq_append] at hl ⊢
       have := ih m (by rw [List.length_append] at hl; simpa using hl)
       rw [Lj]
       simp only [Sc.note]
       split
       ·omega
       ·split
        ·omega
        ·split <;> omega
     exact this _ l rfl
    exact key _
   generalize (sN r.reverse).conj = t at *
   by_cases h3 : cnj a = 3
   ·rw [h3]
    match t, c2 with
    | 0, _ => simp
    | 1, _ => simp
    | 2, _ => simp
   ·have h2 : cnj a = 2 := by omega
    rw [h2]
    match t, c2 with
    | 0, _ => simp
    | 1, _ => simp
    | 2, _ => simp
theorem Al7 : ∀ (r : List Int), Py r = ((sN r.reverse).pict == 1)
 | [] => by simp [Py, sN, Sc.zero]
 | a :: r => by
  rw [List.reverse_cons, Lj, Py, Ab9]
  by_cases h : cls a ≠ 4
  ·rw [if_pos h]
   by_cases h14 : cls a = 14
   ·rw [h14]; simp
   ·have : (cls a == 14) = false := by rw [beq_eq_false_iff_ne]; exact h14
    rw [this, if_neg h14]
    split
    ·rfl
    ·rw [if_neg (λ q => h q.2)]; rfl
  ·rw [if_neg h, Al7 r]
   have h4 : cls a = 4 := by omega
   rw [h4, if_neg (by decide), if_neg (by omega)]
   by_cases hp : (sN r.reverse).pict = 1
   ·rw [if_pos ⟨hp, rfl⟩]
   ·rw [if_neg (λ q => hp q.1)]; simp [hp]
theorem An7 : ∀ (r : List Int), Qe r = (sN r.reverse).flags
 | [] => rfl
 | a :: r => by
  rw [List.reverse_cons, Lj, Qe, An7 r]
  simp only [Sc.note]
  by_cases h : cls a = 6
  ·rw [if_neg (by omega), if_pos h]
  ·rw [if_pos h, if_neg h]
def Ah4 (r : List Int) (l : Nat) (c p : Nat) : Bool :=
 if l = 1 /\ c = 2 then true else if apart l = true \/ apart c = true then false else
  Je l c || decide (c = 4 \/ c = 5 \/ c = 8 \/ l = 7) || (decide (p = 1) && Rj r 0) || (decide (c = 14 /\ l = 5) && Py r.tail) || (decide (c = 6) && Qe r % 2 == 1)
theorem Av7 {b : Int} (r : List Int) (c p : Nat) : joins (sc (r.reverse ++ [b])) c p = Ah4 (b :: r) (cls b) c p := by
 have ha := alike (r.reverse ++ [b])
 rw [D5 ha]
 have hl : (sN (r.reverse ++ [b])).last = cls b := by rw [Lj]; rfl
 have hc : Rj (b :: r) 0 = ((sN (r.reverse ++ [b])).conj == 2) := by
  rw [Ap1, List.reverse_cons]; simp
 have hf : Qe (b :: r) = (sN (r.reverse ++ [b])).flags := by rw [An7, List.reverse_cons]
 have hp : (decide (cls b = 5) && Py r) = ((sN (r.reverse ++ [b])).pict == 2) := by
  rw [Al7, Lj, Ab9]
  have p2 : (sN r.reverse).pict <= 2 := by
   rcases List.eq_nil_or_concat r.reverse with h | ⟨m, x, h⟩
   ·rw [h]; simp [sN, Sc.zero]
   ·rw [h, List.concat_eq_append, Lj]
    simp only [Sc.note]
    split
    ·omega
    ·split
     ·omega
     ·split <;> omega
  by_cases h5 : cls b = 5
  ·rw [h5]
   by_cases h1 : (sN r.reverse).pict = 1
   ·simp [h1]
   ·simp [h1]
  ·by_cases h14 : cls b = 14
   ·simp [h5, h14]
   ·rw [if_neg h14, if_neg (λ h => h5 h.2)]
    by_cases h4 : (sN r.reverse).pict = 1 /\ cls b = 4
    ·rw [if_pos h4]; simp [h5, h4.1]
    ·rw [if_neg h4]; simp [h5]
 unfold joins Ah4
 rw [hl]
 have : (b :: r).tail = r := rfl
 rw [this, hc, hf]
 split
 ·rfl
 ·split
  ·rfl
  ·have e2 : (decide (c = 14 /\ cls b = 5) && Py r) = (decide (c = 14) && ((sN (r.reverse ++ [b])).pict == 2)) := by
    rw [← hp, ← Bool.and_assoc]
    congr 1
    simp
   rw [e2]
   generalize sN (r.reverse ++ [b]) = t at *
   by_cases g1 : c = 4 \/ c = 5 \/ c = 8 \/ cls b = 7
   ·rw [if_pos g1]; simp [g1]
   ·rw [if_neg g1]
    cases g2 : Je (cls b) c with
    | true => simp
    | false =>
     simp only [Bool.false_eq_true, if_false, g1, decide_false, Bool.false_or]
     by_cases g3 : p = 1 /\ t.conj = 2
     ·rw [if_pos g3]; simp [g3.1, g3.2]
     ·rw [if_neg g3]
      have e3 : (decide (p = 1) && (t.conj == 2)) = false := by
       rw [Bool.eq_false_iff]; intro q; simp at q; exact g3 q
      rw [e3, Bool.false_or]
      by_cases g4 : c = 14
      ·rw [if_pos g4, g4]; simp
      ·rw [if_neg g4]
       by_cases g5 : c = 6
       ·rw [if_pos g5, g5]; simp
       ·rw [if_neg g5]; simp [g4, g5]
end Clu
end Go.Proofs.YtolhlldgnfbemaaGreatDoor
namespace Go.Proofs.YtolhlldgnfbemaaGreatDoor
open Go Go.Vx Gly Clu Rgl
section
variable {w w' : World}
theorem Af6 {l r : Nat} {K : Bool -> Wp} (h : K (Je l r) w) : Aa Tryz.prog 126 #[.int .i64 (l : Int), .int .i64 (r : Int)] rB K w := by
 refine Di2 ?_
 unfold F126
 have g : ∀ {b : Bool}, (b = true ↔ Je l r = true) -> K b w := λ {b} hb => by
  have : Je l r = b := Bool.eq_iff_iff.2 hb.symm
  rw [this] at h; exact h
 have hx : ∀ {n m : Nat}, (((n : Int) == (m : Int)) = true) = (n = m) := by intro n m; simp; omega
 refine Af (λ x W => x = (decide (l = 9 /\ (r = 9 \/ r = 10 \/ r = 12 \/ r = 13)), ()) /\ w = W) ?_ ?_
 ·refine Ac (λ h1 => Ac (λ h2 => ⟨Aw ?_, rfl⟩) λ h2 => Ac (λ h3 => ⟨Aw ?_, rfl⟩) λ h3 => Ac (λ h4 => ⟨Aw ?_, rfl⟩) λ h4 => ⟨Aw ?_, rfl⟩) λ h1 => ⟨Aw ?_, rfl⟩
  all_goals simp only [beq_iff_eq, beq_eq_false_iff_ne, ne_eq, decide_eq_true_eq, true_iff, Bool.false_eq_true, false_iff] at *
  all_goals omega
 rintro _ _ ⟨rfl, rfl⟩
 refine Ac (λ h1 => ?_) (λ h1 => ?_)
 ·simp only [decide_eq_true_eq] at h1
  refine g ?_
  unfold Je
  simp only [decide_eq_true_eq, true_iff]
  exact .inl h1
 simp only [decide_eq_false_iff_not] at h1
 refine Af (λ x W => x = (decide ((l = 12 \/ l = 10) /\ (r = 10 \/ r = 11)), ()) /\ w = W) ?_ ?_
 ·refine Ac (λ h1 => Ac (λ h2 => ⟨Aw ?_, rfl⟩) λ h2 => ⟨Aw ?_, rfl⟩) λ h1 => Ac (λ h2 => Ac (λ h3 => ⟨Aw ?_, rfl⟩) λ h3 => ⟨Aw ?_, rfl⟩) λ h2 => ⟨Aw ?_, rfl⟩
  all_goals simp only [beq_iff_eq, beq_eq_false_iff_ne, ne_eq, decide_eq_true_eq, true_iff, Bool.false_eq_true, false_iff] at *
  all_goals omega
 rintro _ _ ⟨rfl, rfl⟩
 refine Ac (λ h2 => ?_) (λ h2 => ?_)
 ·simp only [decide_eq_true_eq] at h2
  refine g ?_
  unfold Je
  simp only [decide_eq_true_eq, true_iff]
  exact .inr (.inl h2)
 simp only [decide_eq_false_iff_not] at h2
 refine Ac (λ h3 => g ?_) (λ h3 => Ac (λ h4 => g ?_) (λ h4 => g ?_))
 all_goals unfold Je
 all_goals simp only [beq_iff_eq, beq_eq_false_iff_ne, ne_eq, decide_eq_true_eq, Bool.false_eq_true, false_iff] at *
 all_goals omega
variable {A : List Int} {s : Sl} {t : TypeId}
theorem Vu {A : List Int} {j : Nat} {a : Int} (h : A[j]? = some a) : (A.take (j + 1)).reverse = a :: (A.take j).reverse := by
 rw [List.take_add_one, h]; simp
theorem rdA (hs : Bf w s t 1 (iv A)) {j : Nat} {a : Int} (h : A[j]? = some a) {K : Addr -> Int -> Wp} (hK : ∀ q, K q a w) : ix s.a s.len (j : Int) (λ q => ld (.int .i64) (q.add (scaled (Int.toNat (j : Int)) 1)) (K q)) w :=
 Gm (c := .int .i64) (xs := A) hs (by omega) (by rw [Int.toNat_natCast]; exact h) hK
theorem O9 (hs : Bf w s t 1 (iv A)) (hl : A.length < 2 ^ 40) {k : Nat} {a : Int} (ha : A[k]? = some a) {K : Bool -> Wp} (h : K (decide (cnj a = 1) && Rj (A.take k).reverse 0) w) :
  Aa Tryz.prog 127 #[s.v, .int .i64 (k : Int)] rB K w := by
 refine Di1 ?_
 unfold F127
 have hk := (List.getElem?_eq_some_iff.1 ha).1
 refine rdA hs ha λ q => P5 (Ac (λ h1 => ?_) (λ h1 => ?_))
 ·simp only [bne_iff_ne, ne_eq] at h1
  rw [decide_eq_false (by omega), Bool.false_and] at h; exact h
 simp only [bne_eq_false_iff_eq] at h1
 rw [decide_eq_true (by omega), Bool.true_and] at h
 have ew : W64 ((k : Int) - 1) = (k : Int) - 1 := wrap64 (by omega) (by omega)
 rw [ew]
 refine Af (λ _ W => w = W /\ Rj (A.take k).reverse 0 = false) ?_ (λ _ W hW => by obtain ⟨rfl, hf⟩ := hW; rw [hf] at h; exact h)
 refine Ba (λ x W => ∃ n j : Nat, x = ((n : Int), (j : Int) - 1, ()) /\ j <= k /\ n + j <= k /\ w = W /\ Rj (A.take k).reverse 0 = Rj (A.take j).reverse n) (λ x _ => (x.2.1 + 1).toNat) ⟨0, k, rfl, Nat.le_refl _, by omega, rfl, rfl⟩ ?_
 rintro _ _ ⟨n, j, rfl, hj, hnj, rfl, he⟩
 dsimp only
 refine Ac (λ hc => ?_) (λ hc => ?_)
 ·simp only [decide_eq_true_eq, ge_iff_le] at hc
  obtain ⟨i, rfl⟩ : ∃ i, j = i + 1 := ⟨j - 1, by omega⟩
  obtain ⟨b, hb⟩ : ∃ b, A[i]? = some b := ⟨_, List.getElem?_eq_getElem (by omega)⟩
  have e1 : ((i + 1 : Nat) : Int) - 1 = (i : Int) := by omega
  rw [Vu hb, Rj] at he
  rw [e1]
  have ewi : W64 ((i : Int) - 1) = (i : Int) - 1 := wrap64 (by omega) (by omega)
  have ewn : W64 ((n : Int) + 1) = ((n + 1 : Nat) : Int) := by rw [wrap64 (by omega) (by omega)]; omega
  rw [ewi, ewn]
  refine rdA hs hb λ q => P5 ?_
  refine Af (λ x W => x = (((if cnj b = 3 then n + 1 else n : Nat) : Int), ()) /\ w = W) (Ac (λ h3 => ⟨?_, rfl⟩) (λ h3 => ⟨?_, rfl⟩)) ?_
  ·simp only [beq_iff_eq] at h3
   rw [if_pos (by omega)]
  ·simp only [beq_eq_false_iff_ne, ne_eq] at h3
   rw [if_neg (by omega)]
  rintro _ _ ⟨rfl, rfl⟩
  refine Af (λ x W => x = (decide (cnj b ≠ 3 /\ cnj b ≠ 2), ()) /\ w = W) (Ac (λ h3 => ⟨Aw ?_, rfl⟩) (λ h3 => ⟨Aw ?_, rfl⟩)) ?_
  ·simp only [bne_iff_ne, ne_eq, decide_eq_true_eq] at *; omega
  ·simp only [bne_eq_false_iff_eq, ne_eq, decide_eq_true_eq, Bool.false_eq_true, false_iff] at *; omega
  rintro _ _ ⟨rfl, rfl⟩
  refine Ac (λ h3 => ?_) (λ h3 => ?_)
  ·simp only [decide_eq_true_eq] at h3
   rw [if_pos h3] at he
   rw [if_neg h3.1]
   refine Ac (λ h4 => ?_) (λ h4 => ?_)
   ·simp only [decide_eq_true_eq, gt_iff_lt] at h4
    rw [he, decide_eq_true (by omega), Bool.true_and] at h
    have : (((cnj b : Nat) : Int) == (1 : Int)) = (cnj b == 1) := by rw [Bool.eq_iff_iff, beq_iff_eq, beq_iff_eq]; omega
    rw [this]; exact h
   ·simp only [decide_eq_false_iff_not, gt_iff_lt] at h4
    rw [he, decide_eq_false (by omega), Bool.false_and] at h
    exact h
  ·simp only [decide_eq_false_iff_not] at h3
   rw [if_neg h3] at he
   exact ⟨⟨_, i, rfl, by omega, by split <;> omega, rfl, he⟩, by omega⟩
 ·simp only [decide_eq_false_iff_not, ge_iff_le] at hc
  obtain rfl : j = 0 := by omega
  exact ⟨rfl, he⟩
theorem Af5 (hs : Bf w s t 1 (iv A)) (hl : A.length < 2 ^ 40) {k : Nat} {a b : Int} (ha : A[k + 1]? = some a) (hb : A[k]? = some b) {K : Bool -> Wp} (h : K (decide (cls a = 14 /\ cls b = 5) && Py (A.take k).reverse) w) :
  Aa Tryz.prog 128 #[s.v, .int .i64 ((k + 1 : Nat) : Int)] rB K w := by
 refine Di0 ?_
 unfold F128
 have hk := (List.getElem?_eq_some_iff.1 ha).1
 have ew1 : W64 (((k + 1 : Nat) : Int) - 1) = (k : Int) := by rw [wrap64 (by omega) (by omega)]; omega
 have ew2 : W64 (((k + 1 : Nat) : Int) - 2) = (k : Int) - 1 := by rw [wrap64 (by omega) (by omega)]; omega
 rw [ew1, ew2]
 refine Af (λ x W => x = (decide (¬ (cls a = 14 /\ cls b = 5)), ()) /\ w = W) ?_ ?_
 ·refine rdA hs ha λ q => Gt (Ac (λ h1 => ⟨Aw ?_, rfl⟩) (λ h1 => rdA hs hb λ q => Gt ⟨Aw ?_, rfl⟩))
  ·simp only [bne_iff_ne, ne_eq, decide_eq_true_eq, true_iff] at *; omega
  ·simp only [bne_eq_false_iff_eq, bne_iff_ne, ne_eq, decide_eq_true_eq] at *; omega
 rintro _ _ ⟨rfl, rfl⟩
 refine Ac (λ h1 => ?_) (λ h1 => ?_)
 ·simp only [decide_eq_true_eq] at h1
  rw [decide_eq_false h1, Bool.false_and] at h; exact h
 simp only [decide_eq_false_iff_not, Decidable.not_not] at h1
 rw [decide_eq_true h1, Bool.true_and] at h
 refine Af (λ _ W => w = W /\ Py (A.take k).reverse = false) ?_ (λ _ W hW => by obtain ⟨rfl, hf⟩ := hW; rw [hf] at h; exact h)
 refine Ba (λ x W => ∃ j : Nat, x = ((j : Int) - 1, ()) /\ j <= k /\ w = W /\ Py (A.take k).reverse = Py (A.take j).reverse) (λ x _ => (x.1 + 1).toNat) ⟨k, rfl, Nat.le_refl _, rfl, rfl⟩ ?_
 rintro _ _ ⟨j, rfl, hj, rfl, he⟩
 dsimp only
 refine Ac (λ hc => ?_) (λ hc => ?_)
 ·simp only [decide_eq_true_eq, ge_iff_le] at hc
  obtain ⟨i, rfl⟩ : ∃ i, j = i + 1 := ⟨j - 1, by omega⟩
  obtain ⟨c, hcc⟩ : ∃ b, A[i]? = some b := ⟨_, List.getElem?_eq_getElem (by omega)⟩
  have e1 : ((i + 1 : Nat) : Int) - 1 = (i : Int) := by omega
  rw [Vu hcc, Py] at he
  rw [e1]
  have ewi : W64 ((i : Int) - 1) = (i : Int) - 1 := wrap64 (by omega) (by omega)
  rw [ewi]
  refine rdA hs hcc λ q => Gt (Ac (λ h3 => ?_) (λ h3 => ?_))
  ·simp only [bne_iff_ne, ne_eq] at h3
   rw [if_pos (by omega)] at he
   rw [he] at h
   have : (((cls c : Nat) : Int) == (14 : Int)) = (cls c == 14) := by rw [Bool.eq_iff_iff, beq_iff_eq, beq_iff_eq]; omega
   rw [this]; exact h
  ·simp only [bne_eq_false_iff_eq] at h3
   rw [if_neg (by omega)] at he
   exact ⟨⟨i, rfl, by omega, rfl, he⟩, by omega⟩
 ·simp only [decide_eq_false_iff_not, ge_iff_le] at hc
  obtain rfl : j = 0 := by omega
  exact ⟨rfl, he⟩
theorem At6 (hs : Bf w s t 1 (iv A)) (hl : A.length < 2 ^ 40) {k : Nat} {a : Int} (ha : A[k]? = some a) {K : Bool -> Wp} (h : K (decide (cls a = 6) && Qe (A.take k).reverse % 2 == 1) w) :
  Aa Tryz.prog 129 #[s.v, .int .i64 (k : Int)] rB K w := by
 refine Dh9 ?_
 unfold F129
 have hk := (List.getElem?_eq_some_iff.1 ha).1
 refine rdA hs ha λ q => Gt (Ac (λ h1 => ?_) (λ h1 => ?_))
 ·simp only [bne_iff_ne, ne_eq] at h1
  rw [decide_eq_false (by omega), Bool.false_and] at h; exact h
 simp only [bne_eq_false_iff_eq] at h1
 rw [decide_eq_true (by omega), Bool.true_and] at h
 have ew : W64 ((k : Int) - 1) = (k : Int) - 1 := wrap64 (by omega) (by omega)
 rw [ew]
 refine Af (λ x W => x = (((Qe (A.take k).reverse : Nat) : Int), ()) /\ w = W) ?_ ?_
 ·refine Ba (λ x W => ∃ n j : Nat, x = ((n : Int), (j : Int) - 1, ()) /\ j <= k /\ n + j <= k /\ w = W /\ Qe (A.take k).reverse = n + Qe (A.take j).reverse) (λ x _ => (x.2.1 + 1).toNat) ⟨0, k, rfl, Nat.le_refl _, by omega, rfl, by omega⟩ ?_
  rintro _ _ ⟨n, j, rfl, hj, hnj, rfl, he⟩
  dsimp only
  refine Ac (λ hc => ?_) (λ hc => ?_)
  ·simp only [decide_eq_true_eq, ge_iff_le] at hc
   obtain ⟨i, rfl⟩ : ∃ i, j = i + 1 := ⟨j - 1, by omega⟩
   obtain ⟨c, hcc⟩ : ∃ b, A[i]? = some b := ⟨_, List.getElem?_eq_getElem (by omega)⟩
   have e1 : ((i + 1 : Nat) : Int) - 1 = (i : Int) := by omega
   rw [Vu hcc, Qe] at he
   rw [e1]
   have ewi : W64 ((i : Int) - 1) = (i : Int) - 1 := wrap64 (by omega) (by omega)
   have ewn : W64 ((n : Int) + 1) = ((n + 1 : Nat) : Int) := by rw [wrap64 (by omega) (by omega)]; omega
   rw [ewi, ewn]
   refine rdA hs hcc λ q => Gt (Ac (λ h3 => ⟨?_, rfl⟩) (λ h3 => ?_))
   ·simp only [bne_iff_ne, ne_eq] at h3
    rw [if_pos (by omega)] at he
    rw [he, Nat.add_zero]
   ·simp only [bne_eq_false_iff_eq] at h3
    rw [if_neg (by omega)] at he
    exact ⟨⟨n + 1, i, rfl, by omega, by omega, rfl, by omega⟩, by omega⟩
  ·simp only [decide_eq_false_iff_not, ge_iff_le] at hc
   obtain rfl : j = 0 := by omega
   refine ⟨?_, rfl⟩
   rw [he]; rfl
 rintro _ _ ⟨rfl, rfl⟩
 refine Bo (by decide) ?_
 rw [Int.tmod_eq_emod_of_nonneg (by omega)]
 have : ((((Qe (A.take k).reverse : Nat) : Int) % 2) == (1 : Int)) = (Qe (A.take k).reverse % 2 == 1) := by rw [Bool.eq_iff_iff, beq_iff_eq, beq_iff_eq]; omega
 rw [this]; exact h
theorem Y8 (hs : Bf w s t 1 (iv A)) (hl : A.length < 2 ^ 40) {k : Nat} (hk : k <= A.length) {K : Bool -> Wp} (h : K (bk A k) w) :
  Aa Tryz.prog 75 #[s.v, .int .i64 (k : Int)] rB K w := by
 refine A75 ?_
 unfold F75
 have hlen : A.length = s.len := by have := hs.len1; rwa [List.length_map] at this
 refine Af (λ x W => x = (false, ()) /\ w = W) (Ac (λ hc => ?_) (λ hc => ⟨Aw ?_, rfl⟩)) ?_
 ·simp only [decide_eq_true_eq] at hc; omega
 ·simp only [decide_eq_true_eq, gt_iff_lt, Bool.false_eq_true, iff_false]; omega
 rintro _ _ ⟨rfl, rfl⟩
 refine Am ?_
 refine Af (λ x W => x = (decide (k = 0 \/ k = A.length), ()) /\ w = W) (Ac (λ hc => ⟨Aw ?_, rfl⟩) (λ hc => ⟨Aw ?_, rfl⟩)) ?_
 ·simp only [beq_iff_eq, decide_eq_true_eq, true_iff] at *; omega
 ·simp only [beq_eq_false_iff_ne, ne_eq, beq_iff_eq, decide_eq_true_eq] at *; omega
 rintro _ _ ⟨rfl, rfl⟩
 refine Ac (λ hc => ?_) (λ hc => ?_)
 ·simp only [decide_eq_true_eq] at hc
  have : bk A k = true := by
   rcases hc with rfl | rfl
   ·exact Xy A
   ·exact Aj1 A
  rw [this] at h; exact h
 simp only [decide_eq_false_iff_not, not_or] at hc
 obtain ⟨j, rfl⟩ : ∃ j, k = j + 1 := ⟨k - 1, by omega⟩
 have ha : A[j + 1]? = some A[j + 1] := List.getElem?_eq_getElem (by omega)
 have hb : A[j]? = some A[j] := List.getElem?_eq_getElem (by omega)
 generalize A[j + 1] = a at *
 generalize A[j] = b at *
 have hbk : bk A (j + 1) = !Ah4 (b :: (A.take j).reverse) (cls b) (cls a) (cnj a) := by
  rw [Bc6 ha (by omega), List.take_add_one, hb]
  have := Av7 (b := b) (A.take j).reverse (cls a) (cnj a)
  rw [List.reverse_reverse] at this
  show (!joins (sc (A.take j ++ [b])) _ _) = _
  rw [this]
 rw [hbk] at h
 have ew1 : W64 (((j + 1 : Nat) : Int) - 1) = (j : Int) := by rw [wrap64 (by omega) (by omega)]; omega
 rw [ew1]
 refine rdA hs hb λ q => Gt (rdA hs ha λ q => Gt ?_)
 unfold Ah4 at h
 refine Af (λ x W => x = (decide (cls b = 1 /\ cls a = 2), ()) /\ w = W) (Ac (λ h1 => ⟨Aw ?_, rfl⟩) (λ h1 => ⟨Aw ?_, rfl⟩)) ?_
 ·simp only [beq_iff_eq, decide_eq_true_eq] at *; omega
 ·simp only [beq_eq_false_iff_ne, ne_eq, decide_eq_true_eq, Bool.false_eq_true, false_iff] at *; omega
 rintro _ _ ⟨rfl, rfl⟩
 refine Ac (λ h1 => ?_) (λ h1 => ?_)
 ·simp only [decide_eq_true_eq] at h1
  rw [if_pos h1] at h; exact h
 simp only [decide_eq_false_iff_not] at h1
 rw [if_neg h1] at h
 refine Af (λ x W => x = (decide (apart (cls b) = true \/ apart (cls a) = true), ()) /\ w = W) ?_ ?_
 ·refine Ac (λ g1 => ⟨Aw ?_, rfl⟩) λ g1 => Ac (λ g2 => ⟨Aw ?_, rfl⟩) λ g2 => Ac (λ g3 => ⟨Aw ?_, rfl⟩) λ g3 => Ac (λ g4 => ⟨Aw ?_, rfl⟩) λ g4 => Ac (λ g5 => ⟨Aw ?_, rfl⟩) λ g5 => ⟨Aw ?_, rfl⟩
  all_goals unfold apart
  all_goals simp only [beq_iff_eq, beq_eq_false_iff_ne, ne_eq, decide_eq_true_eq, true_iff] at *
  all_goals omega
 rintro _ _ ⟨rfl, rfl⟩
 refine Ac (λ h2 => ?_) (λ h2 => ?_)
 ·simp only [decide_eq_true_eq] at h2
  rw [if_pos h2] at h; exact h
 simp only [decide_eq_false_iff_not] at h2
 rw [if_neg h2] at h
 refine Af6 ?_
 refine Af (λ x W => x = ((Je (cls b) (cls a) || decide (cls a = 4 \/ cls a = 5 \/ cls a = 8 \/ cls b = 7)), ()) /\ w = W) ?_ ?_
 ·refine Ac (λ g1 => ⟨Aw ?_, rfl⟩) λ g1 => Ac (λ g2 => ⟨Aw ?_, rfl⟩) λ g2 => Ac (λ g3 => ⟨Aw ?_, rfl⟩) λ g3 => Ac (λ g4 => ⟨Aw ?_, rfl⟩) λ g4 => ⟨Aw ?_, rfl⟩
  all_goals simp only [g1, Bool.true_or, Bool.false_or, beq_iff_eq, beq_eq_false_iff_ne, ne_eq, decide_eq_true_eq, true_iff] at *
  all_goals omega
 rintro _ _ ⟨rfl, rfl⟩
 refine Ac (λ h3 => ?_) (λ h3 => ?_)
 ·have h3 : (Je (cls b) (cls a) || decide (cls a = 4 \/ cls a = 5 \/ cls a = 8 \/ cls b = 7)) = true := h3
  rw [h3, Bool.true_or, Bool.true_or, Bool.true_or] at h; exact h
 have h3 : (Je (cls b) (cls a) || decide (cls a = 4 \/ cls a = 5 \/ cls a = 8 \/ cls b = 7)) = false := h3
 rw [h3, Bool.false_or] at h
 refine O9 hs hl ha (Af5 hs hl ha hb (At6 hs hl ha ?_))
 rw [Vu hb]
 have ht : (b :: (A.take j).reverse).tail = (A.take j).reverse := rfl
 rw [ht] at h
 generalize (decide (cnj a = 1) && Rj (b :: (A.take j).reverse) 0) = x at *
 generalize (decide (cls a = 14 /\ cls b = 5) && Py (A.take j).reverse) = y at *
 generalize (decide (cls a = 6) && Qe (b :: (A.take j).reverse) % 2 == 1) = z at *
 cases x
 ·cases y
  ·refine Ac (λ _ => Ac (λ _ => ?_) (λ q => by cases q)) (λ q => by cases q)
   exact h
  ·exact Df (Am h)
 ·exact Am h
end
end Go.Proofs.YtolhlldgnfbemaaGreatDoor
namespace Go.Proofs.YtolhlldgnfbemaaGreatDoor
open Go Go.Vx Gly Clu Rgl Lns Trx Obx
section
variable {w w' : World} {A : List Int} {s : Sl} {t : TypeId}
theorem Ag3 (hs : Bf w s t 1 (iv A)) (hl : A.length < 2 ^ 40) {K : Sl -> Wp} (hK : ∀ s' w', Ak w' w.heap.size s' 3 1 (nv (cuts A)) -> Ext w w' -> K s' w') :
  Aa Tryz.prog 32 #[s.v] rS K w := by
 refine A32 ?_
 unfold F32
 have hlen : A.length = s.len := by have := hs.len1; rwa [List.length_map] at this
 have nvi : ∀ l : List Nat, nv l = iv (l.map λ (n : Nat) => (n : Int)) := λ l => by show l.map _ = (l.map _).map _; rw [List.map_map]; rfl
 have full : (List.range (A.length + 1)).filter (bk A) = cuts A := rfl
 refine Af (λ x W => Ak W w.heap.size x.1 3 1 (nv (cuts A)) /\ Ext w W) ?_ (λ x W h => hK _ _ h.1 h.2)
 refine Ba (λ x W => ∃ i : Nat, i <= A.length + 1 /\ x.2 = ((i : Int), ()) /\ Ak W w.heap.size x.1 3 1 (nv ((List.range i).filter (bk A))) /\ Ext w W) (λ x _ => ((A.length : Int) + 1 - x.2.1).toNat) ⟨0, Nat.zero_le _, rfl, Ak.nil _ _ _ _, Ext.refl w⟩ ?_
 rintro ⟨r, _⟩ W ⟨i, hi, rfl, hr, eW⟩
 dsimp only at hr ⊢
 refine Ac (λ hc => ?_) (λ hc => ?_)
 ·simp only [decide_eq_true_eq] at hc
  have ew : W64 ((i : Int) + 1) = ((i + 1 : Nat) : Int) := by rw [wrap64 (by omega) (by omega)]; omega
  rw [ew]
  have fl : ((List.range i).filter (bk A)).length <= i := by have := List.length_filter_le (bk A) (List.range i); rwa [List.length_range] at this
  refine Af (λ x W' => Ak W' w.heap.size x.1 3 1 (nv ((List.range (i + 1)).filter (bk A))) /\ Ext w W') ?_ (λ x W' h => ⟨⟨i + 1, by omega, rfl, h.1, h.2⟩, by omega⟩)
  refine Y8 (hs.ext eW) hl (by omega) ?_
  rw [List.range_succ, List.filter_append]
  refine Ac (λ hb => ?_) (λ hb => ?_)
  ·rw [List.filter_cons_of_pos hb]
   rw [nvi] at hr
   refine Ce λ b8 w4 e4 n4 hb4 _ => push (hr.ext e4) n4 (by rw [List.length_map]; omega) (by have := eW.size; have := e4.size; omega) λ r' w5 o5 u5 => ?_
   refine ⟨?_, (eW.trans e4).step u5 λ k hk => hr.Fa hk⟩
   rw [nvi, List.map_append]
   exact o5
  ·rw [List.filter_cons_of_neg (by rw [hb]; decide)]
   rw [show ([] : List Nat).filter (bk A) = [] from rfl, List.append_nil]
   exact ⟨hr, eW⟩
 ·simp only [decide_eq_false_iff_not] at hc
  have : i = A.length + 1 := by omega
  subst this
  rw [full] at hr
  exact ⟨hr, eW⟩
def lnF (A : List Int) : List Ln := (List.range (brs A + 1)).map λ i => (Kr A i).getD ⟨0, 0, 0, 0⟩
theorem Ba7 (A : List Int) : (lnF A).length = brs A + 1 := by unfold lnF; simp
theorem Bo7 {A : List Int} {i : Nat} {l : Ln} (h : Kr A i = some l) : (lnF A)[i]? = some l := by
 have := (Ug h).1
 unfold lnF
 rw [List.getElem?_map, List.getElem?_range (by omega), Option.map_some, h]; rfl
abbrev lnR (l : Ln) : Cells.T c71 := ((l.from_ : Int), (l.to_ : Int), (l.next : Int), (l.kind : Int), ())
theorem eR6 : Hl Tryz.prog 60 71 4 32 := Hl.of (z := .agg #[.int .i64 0, .int .i64 0, .int .i64 0, .int .i64 0]) C60 C71 rfl rfl rfl (by decide)
theorem Cd5 (l : Ln) : ∀ v ∈ flat c71 [lnR l], Eu v = true := by
 intro v hv
 rw [Xl] at hv
 have h : v ∈ [_, _, _, _] := hv
 simp only [List.mem_cons, List.not_mem_nil, or_false] at h
 rcases h with rfl | rfl | rfl | rfl <;> rfl
theorem Az6 {r : Sl} {L : List Ln} {l : Ln} {b N : Nat} {K : Sl -> Wp} (hr : Ak w N r 71 4 (flat c71 (L.map lnR))) (hb : w.heap[b]? = some (.cells #[.int .i64 (l.from_ : Int), .int .i64 (l.to_ : Int), .int .i64 (l.next : Int), .int .i64 (l.kind : Int)] 71 (0, 0))) (hl : L.length < 2 ^ 40) (hN : N <= w.heap.size)
  (hK : ∀ r' w', Ak w' N r' 71 4 (flat c71 ((L ++ [l]).map lnR)) -> r'.len = L.length + 1 -> Upd r.blk w w' -> K r' w') :
  Dw Tryz.prog (.one (.one .sl)) (Builtin.append_ #[60, 60] 60 #[.slice r.a r.len r.cap, .slice (some (at0 b)) 1 1]) K w := by
 have hrl := Ak.Js (cs := c71) hr (by decide)
 rw [List.length_map] at hrl
 have hbox : SlX w ⟨some (at0 b), 1, 1⟩ 4 (flat c71 [lnR l]) := (Bf.Ir hb (n := 1) (sz := 4) rfl).x
 refine Ee eR6 eR6.ts_ (x := ⟨some (at0 b), 1, 1⟩) hr hbox (Cd5 l) (by
  show (r.len + 1 + (r.len + 1) / 4 + 512) * 32 <= 2 ^ 48
  omega) hN λ r' w' o l' u k => hK r' w' ?_ (by rw [l', hrl]) u
 rw [List.map_append, Jk]; exact o
set_option maxHeartbeats 1000000 in
theorem Bf1 (hs : Bf w s t 1 (iv A)) (hl : A.length < 2 ^ 39) {K : Sl × Int × Unit -> Wp} (hK : ∀ s' w', Ak w' w.heap.size s' 71 4 (flat c71 ((lnF A).map lnR)) -> Ext w w' -> K (s', ((lnN A : Nat) : Int), ()) w') :
  Aa Tryz.prog 31 #[s.v] (.tup [(.one .sl), (.one (.int .i64))]) K w := by
 refine A31 ?_
 unfold F31
 have hlen : A.length = s.len := by have := hs.len1; rwa [List.length_map] at this
 have hbr : brs A <= A.length := by rw [Jq]; exact Am3 _ _
 have hF := Ba7 A
 have grow : ∀ {i m : Nat} {l : Ln}, i = m -> Kr A i = some l -> (lnF A).take (m + 1) = (lnF A).take m ++ [l] := λ {i m l} e h => by
  subst e; rw [List.take_add_one, Bo7 h]; rfl
 refine Af (λ x W => ∃ f : Nat, Ak W w.heap.size x.1 71 4 (flat c71 (((lnF A).take (brs A)).map lnR)) /\ x.2 = ((f : Int), ()) /\ sk A (brs A) = some f /\ Ext w W) ?_ ?_
 ·refine Ba (λ x W => ∃ i f : Nat, i <= A.length /\ x.2 = ((f : Int), (i : Int), ()) /\ sk A (nb A i) = some f /\ f <= i /\ (f < i -> A[i]? = some 10 -> A[i - 1]? ≠ some 13) /\ Ak W w.heap.size x.1 71 4 (flat c71 (((lnF A).take (nb A i)).map lnR)) /\ Ext w W) (λ x _ => ((A.length : Int) - x.2.2.1).toNat) ⟨0, 0, Nat.zero_le _, rfl, by rw [Kv, Af1], Nat.le_refl _, (λ h => by omega), by rw [Kv]; exact Ak.nil _ _ _ _, Ext.refl w⟩ ?_
  rintro ⟨r, _⟩ W ⟨i, f, hi, rfl, hsk, hfi, hmid, hr, eW⟩
  dsimp only at hr ⊢
  have hnb : nb A i <= brs A := by rw [Jq]; exact Jo A _ _ hi
  have tkl : ((lnF A).take (nb A i)).length < 2 ^ 40 := by rw [List.length_take]; omega
  refine Ac (λ hc => ?_) (λ hc => ?_)
  ·simp only [decide_eq_true_eq] at hc
   have hil : i < A.length := by omega
   obtain ⟨v, hv⟩ : ∃ v, A[i]? = some v := ⟨_, List.getElem?_eq_getElem hil⟩
   have hsW := hs.ext eW
   have ew1 : W64 ((i : Int) + 1) = ((i + 1 : Nat) : Int) := by rw [wrap64 (by omega) (by omega)]; omega
   have ew2 : W64 ((i : Int) + 2) = ((i + 2 : Nat) : Int) := by rw [wrap64 (by omega) (by omega)]; omega
   have ewk : ∀ k : Nat, k <= A.length -> W64 ((k : Int) + 1) = ((k + 1 : Nat) : Int) := λ k hk => by rw [wrap64 (by omega) (by omega)]; omega
   rw [ew1, ew2]
   refine Af (λ x W' => ∃ j f : Nat, i <= j /\ j < A.length /\ x.2 = ((f : Int), (j : Int), ()) /\ sk A (nb A (j + 1)) = some f /\ f <= j + 1 /\ (f < j + 1 -> A[j + 1]? = some 10 -> A[j]? ≠ some 13) /\ Ak W' w.heap.size x.1 71 4 (flat c71 (((lnF A).take (nb A (j + 1))).map lnR)) /\ Ext w W') ?_ ?_
   ·refine rdA hsW hv λ q => Ac (λ h10 => ?_) (λ h10 => ?_)
    ·simp only [beq_iff_eq] at h10
     subst h10
     obtain ⟨g1, g2⟩ := As2 ((Il hv).2 (.inl rfl))
     have hln : Kr A (nb A i) = some ⟨f, i, i + 1, 1⟩ := by
      unfold Kr
      rw [hsk, g1]
      simp only [lnC, Nat.add_sub_cancel, hv, Option.some.injEq]
      rw [if_neg (by decide)]
      rw [if_neg (λ h => hmid (by omega) hv (by have := h.2; rwa [show i + 1 - 2 = i - 1 by omega] at this))]
     refine Ce λ b9 w4 e4 n4 hb4 _ => Az6 (l := ⟨f, i, i + 1, 1⟩) (hr.ext e4) n4 tkl (by have := eW.size; have := e4.size; omega) λ r' w5 o5 _ u5 => ?_
     rw [← grow rfl hln] at o5
     refine ⟨i, i + 1, Nat.le_refl _, hil, rfl, by rw [g2]; exact g1, Nat.le_refl _, (λ h => by omega), by rw [g2]; exact o5, (eW.trans e4).step u5 λ k hk => hr.Fa hk⟩
    ·simp only [beq_eq_false_iff_ne, ne_eq] at h10
     refine Af (λ x W' => x = (decide (v = 13 /\ A[i + 1]? = some 10), ()) /\ W = W') ?_ ?_
     ·refine rdA hsW hv λ q => Ac (λ h13 => ?_) (λ h13 => ⟨Aw ?_, rfl⟩)
      ·simp only [beq_iff_eq] at h13
       refine Ac (λ hlt => ?_) (λ hlt => ⟨Aw ?_, rfl⟩)
       ·simp only [decide_eq_true_eq] at hlt
        obtain ⟨u, hu⟩ : ∃ u, A[i + 1]? = some u := ⟨_, List.getElem?_eq_getElem (by omega)⟩
        refine rdA hsW hu λ q => ⟨Aw ?_, rfl⟩
        rw [hu]
        simp [h13]
       ·simp only [decide_eq_false_iff_not] at hlt
        rw [List.getElem?_eq_none (by omega)]; simp
      ·simp only [beq_eq_false_iff_ne, ne_eq] at h13
       simp [h13]
     rintro _ _ ⟨rfl, rfl⟩
     refine Ac (λ hcl => ?_) (λ hcl => ?_)
     ·simp only [decide_eq_true_eq] at hcl
      obtain ⟨rfl, hu⟩ := hcl
      have hil2 := (List.getElem?_eq_some_iff.1 hu).1
      have hno : isb A i = false := by
       cases hb : isb A i with
       | false => rfl
       | true =>
        rcases (Il hv).1 hb with h | h
        ·exact absurd h h10
        ·exact absurd hu h.2
      have hn1 : nb A (i + 1) = nb A i := by rw [Oc, hno]; simp
      obtain ⟨g1, g2⟩ := As2 ((Il hu).2 (.inl rfl))
      rw [hn1] at g1 g2
      have hln : Kr A (nb A i) = some ⟨f, i, i + 2, 2⟩ := by
       unfold Kr
       rw [hsk, g1]
       simp only [lnC, Option.some.injEq]
       rw [show i + 1 + 1 - 1 = i + 1 by omega, hu, if_neg (by decide), show i + 1 + 1 - 2 = i by omega, if_pos ⟨by omega, hv⟩]
      refine Ce λ b9 w4 e4 n4 hb4 _ => Az6 (l := ⟨f, i, i + 2, 2⟩) (hr.ext e4) n4 tkl (by have := eW.size; have := e4.size; omega) λ r' w5 o5 _ u5 => ?_
      rw [← grow rfl hln] at o5
      refine ⟨i + 1, i + 2, by omega, hil2, rfl, by rw [g2]; exact g1, Nat.le_refl _, (λ h => by omega), by rw [g2]; exact o5, (eW.trans e4).step u5 λ k hk => hr.Fa hk⟩
     ·simp only [decide_eq_false_iff_not] at hcl
      refine rdA hsW hv λ q => Ac (λ h13 => ?_) (λ h13 => ?_)
      ·simp only [beq_iff_eq] at h13
       subst h13
       have hu : A[i + 1]? ≠ some 10 := λ h => hcl ⟨rfl, h⟩
       obtain ⟨g1, g2⟩ := As2 ((Il hv).2 (.inr ⟨rfl, hu⟩))
       have hln : Kr A (nb A i) = some ⟨f, i, i + 1, 3⟩ := by
        unfold Kr
        rw [hsk, g1]
        simp only [lnC, Nat.add_sub_cancel, hv, Option.some.injEq]
        rw [if_pos trivial]
       refine Ce λ b9 w4 e4 n4 hb4 _ => Az6 (l := ⟨f, i, i + 1, 3⟩) (hr.ext e4) n4 tkl (by have := eW.size; have := e4.size; omega) λ r' w5 o5 _ u5 => ?_
       rw [← grow rfl hln] at o5
       refine ⟨i, i + 1, Nat.le_refl _, hil, rfl, by rw [g2]; exact g1, Nat.le_refl _, (λ h => by omega), by rw [g2]; exact o5, (eW.trans e4).step u5 λ k hk => hr.Fa hk⟩
      ·simp only [beq_eq_false_iff_ne, ne_eq] at h13
       have hno : isb A i = false := by
        cases hb : isb A i with
        | false => rfl
        | true =>
         rcases (Il hv).1 hb with h | h
         ·exact absurd h h10
         ·exact absurd h.1 h13
       have hn1 : nb A (i + 1) = nb A i := by rw [Oc, hno]; simp
       refine ⟨i, f, Nat.le_refl _, hil, rfl, by rw [hn1]; exact hsk, by omega, (λ _ _ h => by rw [hv] at h; cases h; exact h13 rfl), by rw [hn1]; exact hr, eW⟩
   ·rintro ⟨r', _⟩ W' ⟨j, f', hij, hjl, rfl, g1, g2, g3, g4, g5⟩
    dsimp only at g4 ⊢
    rw [ewk j (by omega)]
    exact ⟨⟨j + 1, f', by omega, rfl, g1, g2, (by rw [Nat.add_sub_cancel]; exact g3), g4, g5⟩, by omega⟩
  ·simp only [decide_eq_false_iff_not] at hc
   obtain rfl : i = A.length := by omega
   rw [← Jq] at hsk hr
   exact ⟨f, hr, rfl, hsk, eW⟩
 ·rintro ⟨r, _⟩ W ⟨f, hr, rfl, hsk, eW⟩
  dsimp only at hr ⊢
  have hrl := Ak.Js (cs := c71) hr (by decide)
  rw [List.length_map, List.length_take] at hrl
  have hfl := (Nh hsk).2.1
  have hln : Kr A (brs A) = some ⟨f, A.length, A.length, 0⟩ := by
   unfold Kr
   rw [hsk, Ub A _ (by omega)]
  rw [← hlen]
  refine Ce λ b23 w4 e4 n4 hb4 _ => Az6 (l := ⟨f, A.length, A.length, 0⟩) (hr.ext e4) n4 (by rw [List.length_take]; omega) (by have := eW.size; have := e4.size; omega) λ r' w5 o5 l5 u5 => ?_
  rw [← grow rfl hln, List.take_of_length_le (by omega)] at o5
  rw [List.length_take] at l5
  have x5 : Ext w w5 := (eW.trans e4).step u5 λ k hk => hr.Fa hk
  have hN : lnN A = if A.length = 0 \/ f < A.length then brs A + 1 else brs A := by
   unfold lnN ended
   rw [hsk]
   by_cases h0 : A.length = 0 \/ f < A.length
   ·rw [if_pos h0]
    have : (decide (0 < A.length) && (some f == some A.length)) = false := by
     rw [Bool.eq_false_iff]; intro h; simp at h; omega
    rw [this]; simp
   ·rw [if_neg h0]
    have : (decide (0 < A.length) && (some f == some A.length)) = true := by simp; omega
    rw [this]; simp
  refine Af (λ x W' => x = (((lnN A : Nat) : Int), ()) /\ w5 = W') ?_ ?_
  ·refine Af (λ x W' => x = (decide (A.length = 0 \/ f < A.length), ()) /\ w5 = W') (Ac (λ h0 => ⟨Aw ?_, rfl⟩) (λ h0 => ⟨Aw ?_, rfl⟩)) ?_
   ·simp only [beq_iff_eq, decide_eq_true_eq, true_iff] at *; omega
   ·simp only [beq_eq_false_iff_ne, ne_eq, decide_eq_true_eq] at *; omega
   rintro _ _ ⟨rfl, rfl⟩
   refine Ac (λ h0 => ⟨?_, rfl⟩) (λ h0 => ⟨?_, rfl⟩)
   ·simp only [decide_eq_true_eq] at h0
    rw [hN, if_pos h0, l5]; congr 1; omega
   ·simp only [decide_eq_false_iff_not] at h0
    rw [hN, if_neg h0, ← hrl]; congr 1; omega
  rintro _ _ ⟨rfl, rfl⟩
  exact hK r' w5 o5 x5
end
end Go.Proofs.YtolhlldgnfbemaaGreatDoor
namespace Go.Proofs.YtolhlldgnfbemaaGreatDoor
open Go Go.Vx Cdc Trx Gly Clu Lns Obx Mot
abbrev spT (c : Cel) : Cells.T c76 := ((c.from_ : Int), (c.to_ : Int), c.atom, c.alone, (c.kind : Int), ())
abbrev pgO (sa sl : Sl) (n : Int) (ss : Sl) : Obj := .cells #[.slice sa.a sa.len sa.cap, .slice sl.a sl.len sl.cap, .int .i64 n, .slice ss.a ss.len ss.cap] 63 (0, 0)
abbrev r6O (l : Ln) : Obj := .cells #[.int .i64 (l.from_ : Int), .int .i64 (l.to_ : Int), .int .i64 (l.next : Int), .int .i64 (l.kind : Int)] 71 (0, 0)
abbrev Mc (w : World) (s : Sl) (A : List Int) : Prop := Bf w s 71 4 (flat c71 ((lnF A).map lnR))
abbrev Ot (w : World) (s : Sl) (A : List Int) (i : Nat) : Prop := Bf w s 76 5 (flat c76 ((Ai A i).map spT))
structure Ip (w : World) (q : Nat) (A : List Int) : Prop where
 ex : ∃ (sa sl ss : Sl) (t0 : TypeId) (xs : List Sl), w.heap[q]? = some (pgO sa sl (lnN A : Int) ss) /\ Bf w sa t0 1 (iv A) /\ Mc w sl A /\ Bf w ss 73 1 (xs.map Cell.sl.val) /\ xs.length = brs A + 1 /\ ∀ (i : Nat) x, xs[i]? = some x -> Ot w x A i
 len : A.length <= 1048576
theorem Bq8 : Hl Tryz.prog 73 76 5 40 := Hl.of (z := .agg #[.int .i64 0, .int .i64 0, .int .i64 0, .bool false, .int .i64 0]) C73 C76 rfl rfl rfl (by decide)
theorem Bb7 : Hl Tryz.prog 61 73 1 24 := Hl.of (z := .slice none 0 0) C61 C73 rfl rfl rfl (by decide)
section
variable {w w' : World} {q : Nat} {A : List Int} {i : Nat}
theorem Ip.ext (h : Ip w q A) (e : Ext w w') : Ip w' q A := by
 obtain ⟨sa, sl, ss, t0, xs, h1, h2, h3, h4, h5, h6⟩ := h.ex
 exact ⟨⟨sa, sl, ss, t0, xs, e.ext_get h1, h2.ext e, h3.ext e, h4.ext e, h5, λ i x hx => (h6 i x hx).ext e⟩, h.len⟩
theorem Ip.Zb (h : Ip w q A) {K : Addr -> Int -> Wp} (hK : K (at0 q) (lnN A : Int) w) : nn (some (at0 q)) (λ p => ld (.int .i64) (p.add 2) (K p)) w := by
 obtain ⟨sa, sl, ss, t0, xs, h1, h2, h3, h4, h5, h6⟩ := h.ex
 exact Ap (Cm (off := 2) (x := (lnN A : Int)) h1 rfl hK)
theorem Ip.Pj (h : Ip w q A) {K : Addr -> Sl -> Wp} (hK : ∀ s t, Bf w s t 1 (iv A) -> K (at0 q) s w) : nn (some (at0 q)) (λ p => ld .sl p (K p)) w := by
 obtain ⟨sa, sl, ss, t0, xs, h1, h2, h3, h4, h5, h6⟩ := h.ex
 exact Ap (Cm (off := 0) (x := sa) h1 rfl (hK sa t0 h2))
theorem Ip.U5 (h : Ip w q A) {K : Addr -> Sl -> Wp} (hK : ∀ s, Mc w s A -> (∀ w', Ext w w' -> w'.cell? ((at0 q).add 1) = some (Cell.val .sl s)) -> K (at0 q) s w) : nn (some (at0 q)) (λ p => ld .sl (p.add 1) (K p)) w := by
 obtain ⟨sa, sl, ss, t0, xs, h1, h2, h3, h4, h5, h6⟩ := h.ex
 exact Ap (Cm (off := 1) (x := sl) h1 rfl (hK sl h3 λ w' e => cell_of (off := 1) (e.ext_get h1) rfl))
theorem G7 (hi : i <= brs A) : ((lnF A).map lnR)[((i : Int)).toNat]? = some (lnR (Bc A i)) := by
 rw [Int.toNat_natCast, List.getElem?_map, Bo7 (Wn hi)]; rfl
theorem Yo {s : Sl} (hs : Mc w s A) : s.len = brs A + 1 := by
 have := Bf.Js (cs := c71) hs (by decide)
 rw [List.length_map, Ba7] at this
 exact this.symm
theorem Cj8 {c : Cell} {cs : List Cell} {s : Sl} {t : TypeId} {xs : List (Cells.T cs)} {n : Int} {K : Addr -> c.T -> Wp} (h : Bf w s t cs.length (flat cs xs)) (h0 : 0 <= n) {x : Cells.T cs} {y : c.T} (hx : xs[n.toNat]? = some x) (hy : (Cells.vals cs x)[0]? = some (c.val y))
  (hK : ∀ p, (∀ w', Ext w w' -> w'.cell? (p.add (scaled (Int.toNat n) cs.length)) = some (c.val y)) -> K p y w) :
  ix s.a s.len n (λ p => ld c (p.add (scaled (Int.toNat n) cs.length)) (K p)) w := by
 have hlt := (List.getElem?_eq_some_iff.1 hx).1
 have hjl : 0 < cs.length := by
  have := (List.getElem?_eq_some_iff.1 hy).1
  rwa [Es] at this
 have hl := h.Js (by omega)
 refine h.ix h0 (by omega) (by omega) λ b off ha hv => ?_
 have hc : w.cell? ((⟨b, off, none⟩ : Addr).add (scaled (Int.toNat n) cs.length)) = some (c.val y) := by
  rw [addr_add]
  have := hv 0 (c.val y) (by rw [flat_get cs xs _ 0 x hx hjl]; exact hy)
  simpa [Dy] using this
 exact Xh (x := y) hc (hK _ λ w' x' => Ti hc x')
theorem Av4 {s : Sl} (hs : Mc w s A) (hi : i <= brs A) {K : Addr -> Int -> Wp} (hK : ∀ p, (∀ w', Ext w w' -> w'.cell? (p.add (scaled (Int.toNat (i : Int)) 4)) = some (Cell.val (.int .i64) ((Bc A i).from_ : Int))) -> K p ((Bc A i).from_ : Int) w) : ix s.a s.len (i : Int) (λ p => ld (.int .i64) (p.add (scaled (Int.toNat (i : Int)) 4)) (K p)) w :=
 Cj8 (c := .int .i64) (cs := c71) hs (Int.natCast_nonneg i) (G7 hi) rfl hK
theorem Bo9 {s : Sl} (hs : Mc w s A) (hi : i <= brs A) {K : Addr -> Int -> Wp} (hK : ∀ p, K p ((Bc A i).to_ : Int) w) : ix s.a s.len (i : Int) (λ p => ld (.int .i64) ((p.add (scaled (Int.toNat (i : Int)) 4)).add 1) (K p)) w :=
 Ah6 (c := .int .i64) (cs := c71) (j := 1) hs (Int.natCast_nonneg i) (G7 hi) rfl hK
theorem Av3 {s : Sl} (hs : Mc w s A) (hi : i <= brs A) {K : Addr -> Int -> Wp} (hK : ∀ p, K p ((Bc A i).next : Int) w) : ix s.a s.len (i : Int) (λ p => ld (.int .i64) ((p.add (scaled (Int.toNat (i : Int)) 4)).add 2) (K p)) w :=
 Ah6 (c := .int .i64) (cs := c71) (j := 2) hs (Int.natCast_nonneg i) (G7 hi) rfl hK
theorem Ip.Bb5 (h : Ip w q A) (hi : i <= brs A) {K : Addr -> Sl -> Addr -> Int -> Wp} (hK : ∀ s p, K (at0 q) s p ((Bc A i).from_ : Int) w) :
  nn (some (at0 q)) (λ r => ld .sl (r.add 1) λ s => ix s.a s.len (i : Int) λ p => ld (.int .i64) (p.add (scaled (Int.toNat (i : Int)) 4)) (K r s p)) w :=
 h.U5 λ s hs _ => Av4 hs hi λ p _ => hK s p
theorem Ip.toK (h : Ip w q A) (hi : i <= brs A) {K : Addr -> Sl -> Addr -> Int -> Wp} (hK : ∀ s p, K (at0 q) s p ((Bc A i).to_ : Int) w) :
  nn (some (at0 q)) (λ r => ld .sl (r.add 1) λ s => ix s.a s.len (i : Int) λ p => ld (.int .i64) ((p.add (scaled (Int.toNat (i : Int)) 4)).add 1) (K r s p)) w :=
 h.U5 λ s hs _ => Bo9 hs hi λ p => hK s p
theorem Ip.nextK (h : Ip w q A) (hi : i <= brs A) {K : Addr -> Sl -> Addr -> Int -> Wp} (hK : ∀ s p, K (at0 q) s p ((Bc A i).next : Int) w) :
  nn (some (at0 q)) (λ r => ld .sl (r.add 1) λ s => ix s.a s.len (i : Int) λ p => ld (.int .i64) ((p.add (scaled (Int.toNat (i : Int)) 4)).add 2) (K r s p)) w :=
 h.U5 λ s hs _ => Av3 hs hi λ p => hK s p
theorem Ip.Ak7 (h : Ip w q A) (hi : i <= brs A) {K : Addr -> Sl -> Addr -> Sl -> Wp} (hK : ∀ s p y, Ot w y A i -> y.len = (Ai A i).length -> K (at0 q) s p y w) :
  nn (some (at0 q)) (λ r => ld .sl (r.add 3) λ s => ix s.a s.len (i : Int) λ p => ld .sl (p.add (scaled (Int.toNat (i : Int)) 1)) (K r s p)) w := by
 obtain ⟨sa, sl, ss, t0, xs, h1, h2, h3, h4, h5, h6⟩ := h.ex
 obtain ⟨y, hy⟩ : ∃ y, xs[i]? = some y := ⟨_, List.getElem?_eq_getElem (by omega)⟩
 have hy2 := h6 i y hy
 have hl := Bf.Js (cs := c76) hy2 (by decide)
 rw [List.length_map] at hl
 exact Ap (Cm (off := 3) (x := ss) h1 rfl (Gm (c := .sl) (xs := xs) h4 (Int.natCast_nonneg i) (by rw [Int.toNat_natCast]; exact hy) λ p => hK ss p y hy2 hl.symm))
theorem Ip.Ch0 (h : Ip w q A) {K : Addr -> Sl -> Wp} (hK : ∀ s, (∀ w', Ext w w' -> w'.cell? ((at0 q).add 3) = some (Cell.val .sl s)) -> (∀ (j : Nat) (w' : World) (K' : Addr -> Sl -> Wp), j <= brs A -> Ext w w' -> (∀ p y, Ot w' y A j -> y.len = (Ai A j).length -> K' p y w') -> ix s.a s.len (j : Int) (λ p => ld .sl (p.add (scaled (Int.toNat (j : Int)) 1)) (K' p)) w') -> K (at0 q) s w) :
  nn (some (at0 q)) (λ r => ld .sl (r.add 3) (K r)) w := by
 obtain ⟨sa, sl, ss, t0, xs, h1, h2, h3, h4, h5, h6⟩ := h.ex
 refine Ap (Cm (off := 3) (x := ss) h1 rfl (hK ss (λ w' e => cell_of (off := 3) (e.ext_get h1) rfl) λ j w' K' hj e hK' => ?_))
 obtain ⟨y, hy⟩ : ∃ y, xs[j]? = some y := ⟨_, List.getElem?_eq_getElem (by omega)⟩
 have hy2 := (h6 j y hy).ext e
 have hl := Bf.Js (cs := c76) hy2 (by decide)
 rw [List.length_map] at hl
 exact Gm (c := .sl) (xs := xs) (h4.ext e) (Int.natCast_nonneg j) (by rw [Int.toNat_natCast]; exact hy) λ p => hK' p y hy2 hl.symm
theorem Ae9 {j : Nat} {c : Cel} (hc : (Ai A i)[j]? = some c) : ((Ai A i).map spT)[((j : Int)).toNat]? = some (spT c) := by rw [Int.toNat_natCast, List.getElem?_map, hc]; rfl
theorem Pn {y : Sl} (hy : Ot w y A i) {j : Nat} {c : Cel} (hc : (Ai A i)[j]? = some c) {K : Addr -> Int -> Wp} (hK : ∀ p, K p (c.from_ : Int) w) : ix y.a y.len (j : Int) (λ p => ld (.int .i64) (p.add (scaled (Int.toNat (j : Int)) 5)) (K p)) w :=
 Bx5 (c := .int .i64) (cs := c76) hy (Int.natCast_nonneg j) (Ae9 hc) rfl hK
theorem Bv3 {y : Sl} (hy : Ot w y A i) {j : Nat} {c : Cel} (hc : (Ai A i)[j]? = some c) {K : Addr -> Int -> Wp} (hK : ∀ p, K p (c.to_ : Int) w) : ix y.a y.len (j : Int) (λ p => ld (.int .i64) ((p.add (scaled (Int.toNat (j : Int)) 5)).add 1) (K p)) w :=
 Ah6 (c := .int .i64) (cs := c76) (j := 1) hy (Int.natCast_nonneg j) (Ae9 hc) rfl hK
theorem Bd9 {y : Sl} (hy : Ot w y A i) {j : Nat} {c : Cel} (hc : (Ai A i)[j]? = some c) {K : Addr -> Int -> Wp} (hK : ∀ p, K p (c.kind : Int) w) : ix y.a y.len (j : Int) (λ p => ld (.int .i64) ((p.add (scaled (Int.toNat (j : Int)) 5)).add 4) (K p)) w :=
 Ah6 (c := .int .i64) (cs := c76) (j := 4) hy (Int.natCast_nonneg j) (Ae9 hc) rfl hK
theorem Cc7 (c : Cel) : ∀ v ∈ flat c76 [spT c], Eu v = true := by
 intro v hv
 rw [Xl] at hv
 have h : v ∈ [_, _, _, _, _] := hv
 simp only [List.mem_cons, List.not_mem_nil, or_false] at h
 rcases h with rfl | rfl | rfl | rfl | rfl <;> rfl
theorem Ci3 {r : Sl} {L : List Cel} {c : Cel} {b N : Nat} {K : Sl -> Wp} (hr : Ak w N r 76 5 (flat c76 (L.map spT))) (hb : w.heap[b]? = some (.cells #[.int .i64 (c.from_ : Int), .int .i64 (c.to_ : Int), .int .i64 c.atom, .bool c.alone, .int .i64 (c.kind : Int)] 76 (0, 0))) (hl : L.length < 2 ^ 40) (hN : N <= w.heap.size)
  (hK : ∀ r' w', Ak w' N r' 76 5 (flat c76 ((L ++ [c]).map spT)) -> r'.len = L.length + 1 -> Upd r.blk w w' -> K r' w') :
  Dw Tryz.prog (.one (.one .sl)) (Builtin.append_ #[73, 73] 73 #[.slice r.a r.len r.cap, .slice (some (at0 b)) 1 1]) K w := by
 have hrl := Ak.Js (cs := c76) hr (by decide)
 rw [List.length_map] at hrl
 have hbox : SlX w ⟨some (at0 b), 1, 1⟩ 5 (flat c76 [spT c]) := (Bf.Ir hb (n := 1) (sz := 5) rfl).x
 refine Ee Bq8 Bq8.ts_ (x := ⟨some (at0 b), 1, 1⟩) hr hbox (Cc7 c) (by
  show (r.len + 1 + (r.len + 1) / 4 + 512) * 40 <= 2 ^ 48
  omega) hN λ r' w' o l' u k => hK r' w' ?_ (by rw [l', hrl]) u
 rw [List.map_append, Jk]; exact o
set_option maxHeartbeats 2000000 in
theorem Bp0 {s : Sl} {t : TypeId} (hs : Bf w s t 1 (iv A)) (hl : A.length <= 1048576) {K : Option Addr -> Wp} (hK : ∀ q w', Ip w' q A -> w.heap.size <= q -> Ext w w' -> K (some (at0 q)) w') :
  Aa Tryz.prog 17 #[s.v] rP K w := by
 refine A17 ?_
 unfold F17
 have hlen : A.length = s.len := by have := hs.len1; rwa [List.length_map] at this
 have hcap := hs.le
 have hbl := Ku A
 refine (St.start w).Ae λ b1 w1 S1 e1 => Bf1 (hs.ext e1) (by omega) λ sl w2 o2 e2 => ?_
 have S2 := S1.ext e2
 have S2 : St (λ _ => False) w w2 [(b1, pgO s ⟨none, 0, 0⟩ 0 ⟨none, 0, 0⟩)] := S2
 refine Ap (S2.stC (off := 1) 0 rfl (by show 1 < 4; decide) λ w3 S3 u3 => Ap (S3.stC (off := 2) 0 rfl (by show 2 < 4; decide) λ w4 S4 u4 => ?_))
 have S4 : St (λ _ => False) w w4 [(b1, pgO s sl (lnN A : Int) ⟨none, 0, 0⟩)] := S4
 have o4 : Mc w4 sl A := (o2.in.box (S2.at_ 0 rfl) (by decide) u3).box (S3.at_ 0 rfl) (by decide) u4
 have hll := Yo o4
 refine Af (λ _ V => ∃ (so : Sl) (xs : List Sl), St (λ _ => False) w V [(b1, pgO s sl (lnN A : Int) so)] /\ Mc V sl A /\ Bf V so 73 1 (xs.map Cell.sl.val) /\ xs.length = brs A + 1 /\ ∀ (i : Nat) x, xs[i]? = some x -> Ot V x A i) ?_ ?_
 ·refine Ba (λ x V => ∃ (i : Nat) (so : Sl) (xs : List Sl), x = ((i : Int), ()) /\ i <= brs A + 1 /\ xs.length = i /\ St (λ _ => False) w V [(b1, pgO s sl (lnN A : Int) so)] /\ Mc V sl A /\ Ak V w4.heap.size so 73 1 (xs.map Cell.sl.val) /\ w4.heap.size <= V.heap.size /\ ∀ (j : Nat) x, xs[j]? = some x -> Ot V x A j) (λ x _ => ((brs A : Int) + 1 - x.1).toNat) ⟨0, ⟨none, 0, 0⟩, [], rfl, Nat.zero_le _, rfl, S4, o4, Ak.nil _ _ _ _, Nat.le_refl _, λ j x hx => by simp at hx⟩ ?_
  rintro _ V ⟨i, so, xs, rfl, hi, hxs, SV, oV, ho, hsz, hsp⟩
  dsimp only
  refine Ap (SV.ld (off := 1) 0 rfl (x := sl) rfl (Ac (λ hc => ?_) (λ hc => ?_)))
  ·simp only [decide_eq_true_eq] at hc
   have hib : i <= brs A := by omega
   have ok := Dv hib
   have ft := ok.ft; have tn := ok.tn; have nl := ok.nl
   have hrl := Rx hib
   have hcl := Nk hib
   refine Ap (SV.ld (off := 1) 0 rfl (x := sl) rfl (Ah5 (cs := c71) (xs := (lnF A).map lnR) oV (by decide) (Int.natCast_nonneg i) (G7 hib) λ p13 => ?_))
   refine SV.Lc rfl rfl rfl λ b15 w5 S5 e5 => ?_
   have S5 : St (λ _ => False) w w5 [(b15, r6O (Bc A i)), (b1, pgO s sl (lnN A : Int) so)] := S5
   refine S5.ld (off := 0) 0 rfl (x := ((Bc A i).from_ : Int)) rfl (S5.ld (off := 1) 0 rfl (x := ((Bc A i).to_ : Int)) rfl ?_)
   refine Ak8 (hs.ext S5.upd) (by omega) (by omega) (by omega) (by omega) (by omega) λ y hy _ _ _ => ?_
   have hy : Bf w5 y t 1 (iv (rowB A i)) := by
    rw [Nat.mul_one, Nat.mul_one, Int.toNat_natCast, Int.toNat_natCast, ← List.map_drop, ← List.map_take] at hy
    exact hy
   refine Ag3 hy (by omega) λ sb w6 ob e6 => ?_
   have S6 := S5.ext e6
   have nvi : nv (cuts (rowB A i)) = ((cuts (rowB A i)).map λ (n : Nat) => (n : Int)).map (Cell.int .i64).val := by rw [List.map_map]; rfl
   rw [nvi] at ob
   have hbl2 := ob.len1
   rw [List.length_map, List.length_map] at hbl2
   have hcuts := Ab2 A i
   have hcnt : (Ai A i).length = (cuts (rowB A i)).length - 1 := by omega
   have hcp := X0 (rowB A i)
   refine Af (λ x W => Ext w6 W /\ Ak W w6.heap.size x.1 76 5 (flat c76 ((Ai A i).map spT))) ?_ ?_
   ·refine Ba (λ x W => ∃ j : Nat, x.2 = ((j : Int), ()) /\ j <= (Ai A i).length /\ Ext w6 W /\ Ak W w6.heap.size x.1 76 5 (flat c76 (((Ai A i).take j).map spT))) (λ x _ => (((Ai A i).length : Int) - x.2.1).toNat) ⟨0, rfl, Nat.zero_le _, Ext.refl _, Ak.nil _ _ _ _⟩ ?_
    rintro ⟨r, _⟩ W ⟨j, rfl, hj, eW, hr⟩
    dsimp only at hr ⊢
    have ew1 : W64 ((j : Int) + 1) = ((j + 1 : Nat) : Int) := by rw [wrap64 (by omega) (by omega)]; omega
    rw [ew1]
    refine Ac (λ hc2 => ?_) (λ hc2 => ?_)
    ·simp only [decide_eq_true_eq] at hc2
     obtain ⟨c, hcc⟩ : ∃ c, (Ai A i)[j]? = some c := ⟨_, List.getElem?_eq_getElem (by omega)⟩
     have hcc' : (Qx (rowB A i) (Bc A i).from_)[j]? = some c := hcc
     obtain ⟨ci, cj, g1, g2, g3, g4, g5, g6, _, _, g7, g8, g9⟩ := (Oj hcc').ex
     have m1 : ((cuts (rowB A i)).map λ (n : Nat) => (n : Int))[((j : Int)).toNat]? = some (ci : Int) := by rw [Int.toNat_natCast, List.getElem?_map, g1]; rfl
     have m2 : ((cuts (rowB A i)).map λ (n : Nat) => (n : Int))[(((j + 1 : Nat) : Int)).toNat]? = some (cj : Int) := by rw [Int.toNat_natCast, List.getElem?_map, g2]; rfl
     have SW := S6.ext eW
     refine Gm (c := .int .i64) (xs := (cuts (rowB A i)).map λ (n : Nat) => (n : Int)) (ob.ext eW).in (Int.natCast_nonneg j) m1 λ p24 => rdA ((hy.ext e6).ext eW) g7 λ p26 => SW.drew λ w7 S7 e7 _ => S7.ld (off := 0) 0 rfl (x := ((Bc A i).from_ : Int)) rfl ?_
     have ob7 := (ob.ext (eW.trans e7)).in
     refine Ah8 (c := .int .i64) (xs := (cuts (rowB A i)).map λ (n : Nat) => (n : Int)) ob7 (Int.natCast_nonneg j) m1 λ p29 k29 => S7.ld (off := 0) 0 rfl (x := ((Bc A i).from_ : Int)) rfl ?_
     refine Ah8 (c := .int .i64) (xs := (cuts (rowB A i)).map λ (n : Nat) => (n : Int)) ob7 (Int.natCast_nonneg _) m2 λ p32 k32 => ?_
     refine Ah8 (c := .int .i64) (xs := (cuts (rowB A i)).map λ (n : Nat) => (n : Int)) ob7 (Int.natCast_nonneg _) m2 λ p34 k34 => ?_
     refine Ah8 (c := .int .i64) (xs := (cuts (rowB A i)).map λ (n : Nat) => (n : Int)) ob7 (Int.natCast_nonneg j) m1 λ p36 k36 => ?_
     refine As9 ?_
     refine Ar (k36 w7 (Ext.refl _)) (Ar (k34 w7 (Ext.refl _)) (Ar (k32 w7 (Ext.refl _)) (S7.keep (off := 0) 0 rfl (v := .int .i64 ((Bc A i).from_ : Int)) rfl (Ar (k29 w7 (Ext.refl _)) (S7.keep (off := 0) 0 rfl (v := .int .i64 ((Bc A i).from_ : Int)) rfl ?_)))))
     have q1 : W64 (((Bc A i).from_ : Int) + (ci : Int)) = (c.from_ : Int) := by rw [wrap64 (by omega) (by omega)]; omega
     have q2 : W64 (((Bc A i).from_ : Int) + (cj : Int)) = (c.to_ : Int) := by rw [wrap64 (by omega) (by omega)]; omega
     have q3 : (W64 ((cj : Int) - (ci : Int)) == (1 : Int)) = c.alone := by
      rw [wrap64 (by omega) (by omega), Bool.eq_iff_iff, beq_iff_eq, g9]; omega
     rw [q1, q2, q3, ← g8]
     refine Ce λ b39 w8 e8 n8 hb8 _ => Ci3 (c := c) (hr.ext (e7.trans e8)) n8 (by rw [List.length_take]; omega) (by have := eW.size; have := e7.size; have := e8.size; omega) λ r' w9 o9 _ u9 => ?_
     refine ⟨⟨j + 1, rfl, by omega, ((eW.trans e7).trans e8).step u9 λ k hk => hr.Fa hk, ?_⟩, by omega⟩
     rw [List.take_add_one, hcc]; exact o9
    ·simp only [decide_eq_false_iff_not] at hc2
     obtain rfl : j = (Ai A i).length := by omega
     rw [List.take_length] at hr
     exact ⟨eW, hr⟩
   rintro ⟨sp, _⟩ W ⟨eW, hr⟩
   have eVW : Ext V W := (e5.trans e6).trans eW
   have SW := (S6.ext eW).tail
   have hoW := ho.ext eVW
   refine Ap (SW.ld (off := 3) 0 rfl (x := so) rfl (SW.Q8 λ b43 w7 S7 e7 hb43 => ?_))
   have hsol := hoW.len1
   rw [List.length_map] at hsol
   have ho7 := hoW.ext e7
   have hsz7 : w4.heap.size <= w7.heap.size := by have := eVW.size; have := e7.size; omega
   have hbox : SlX w7 ⟨some (at0 b43), 1, 1⟩ 1 ([sp].map Cell.sl.val) := (Bf.Ir (S7.at_ 0 rfl) (n := 1) (sz := 1) rfl).x
   have hb1 : b1 < w4.heap.size := lt_of_heap (S4.at_ 0 rfl)
   have hw4 : w.heap.size <= w4.heap.size := S4.upd.size
   refine Ee Bb7 Bb7.ts_ (x := ⟨some (at0 b43), 1, 1⟩) ho7 hbox (λ v hv => by rw [List.mem_singleton.1 hv]; rfl) (by
    show (so.len + 1 + (so.len + 1) / 4 + 512) * 24 <= 2 ^ 48
    omega) hsz7 λ so' w8 o8 l8 u8 _ => ?_
   have nty1 : Fb w7 so.blk 71 := λ k hk c fr hn => by
    obtain ⟨c', fr', hc'⟩ := ho7.in.En hk
    rw [hn] at hc'; cases hc'
   have nty2 : Fb w7 so.blk 76 := λ k hk c fr hn => by
    obtain ⟨c', fr', hc'⟩ := ho7.in.En hk
    rw [hn] at hc'; cases hc'
   have S8 : St (λ _ => False) w w8 [(b1, pgO s sl (lnN A : Int) so)] := S7.tail.fresh u8 (λ k hk => .inr (by have := ho7.Fa hk; omega)) (λ z hz hk => by
    rw [List.mem_singleton.1 hz] at hk
    have := ho7.Fa hk
    dsimp only at this
    omega)
   refine Ap (S8.stC (off := 3) 0 rfl (by show 3 < 4; decide) λ w9 S9 u9 => ?_)
   have ewi : W64 ((i : Int) + 1) = ((i + 1 : Nat) : Int) := by rw [wrap64 (by omega) (by omega)]; omega
   rw [ewi]
   refine ⟨⟨i + 1, so', xs ++ [sp], rfl, by omega, by simp [hxs], S9, ?_, ?_, ?_, ?_⟩, by omega⟩
   ·exact ((oV.ext (eVW.trans e7)).ty u8 nty1).box (S8.at_ 0 rfl) (by decide) u9
   ·rw [List.map_append]; exact o8.box (S8.at_ 0 rfl) (by decide) u9
   ·have := u8.size; have := u9.size; omega
   ·intro j x hx
    refine Bf.box ?_ (S8.at_ 0 rfl) (by decide) u9
    by_cases hj : j < xs.length
    ·rw [List.getElem?_append_left hj] at hx
     exact ((hsp j x hx).ext (eVW.trans e7)).ty u8 nty2
    ·have hje : j = xs.length := by
      have := (List.getElem?_eq_some_iff.1 hx).1
      simp at this; omega
     subst hje
     rw [List.getElem?_concat_length] at hx
     cases hx
     rw [hxs]
     exact (hr.in.ext e7).ty u8 nty2
  ·simp only [decide_eq_false_iff_not] at hc
   exact ⟨so, xs, SV, oV, ho.in, by omega, hsp⟩
 rintro _ V ⟨so, xs, SV, oV, ho, hxs, hsp⟩
 exact hK b1 V ⟨⟨s, sl, so, t, xs, SV.at_ 0 rfl, hs.ext SV.upd, oV, ho, hxs, hsp⟩, hl⟩ (SV.ge 0 rfl) SV.upd
end
end Go.Proofs.YtolhlldgnfbemaaGreatDoor
