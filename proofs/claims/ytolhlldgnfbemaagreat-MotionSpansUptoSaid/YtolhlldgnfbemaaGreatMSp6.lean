/- YtolhlldgnfbemaaGreatMSp6: parts of the proof, put together by program. -/
import Derived.Test.YtolhlldgnfbemaaGreatMSp5
set_option linter.unusedVariables false
set_option linter.unusedSimpArgs false
set_option linter.unusedSectionVars false
set_option maxRecDepth 100000
namespace Go.Proofs.YtolhlldgnfbemaaGreat
open Go Go.Vx Cdc Trx Gly Clu Lns Obx Mot
abbrev LdT := Cells.T c43 × Int × Unit
abbrev ldT (l : Ld) : LdT := ((l.1.1, l.1.2.1, l.1.2.2, ()), l.2, ())
abbrev ldZ : Obj := .cells #[.int .i64 0, .int .i64 0, .int .i64 0] 43 (0, 0)
abbrev mvO (p : Nat) (s c k : Int) (counted : Bool) (arg goal : Int) (past big : Bool) (r : RwT) : Obj :=
 .cells #[.pointer (some (at0 p)), .int .i64 s, .int .i64 c, .int .i64 k, .bool counted, .int .i64 arg, .int .i64 goal, .bool past, .bool big, .int .i64 r.1, .int .i64 r.2.1, .int .i64 r.2.2.1, .int .i64 r.2.2.2.1, .int .i64 r.2.2.2.2.1, .slice r.2.2.2.2.2.1.a r.2.2.2.2.2.1.len r.2.2.2.2.2.1.cap, .slice r.2.2.2.2.2.2.1.a r.2.2.2.2.2.2.1.len r.2.2.2.2.2.2.1.cap] 114 (0, 0)
structure MvIs (w : World) (b p : Nat) (A : List Int) (x count arg goal : Int) (past big : Bool) (r : RwT) : Prop where
 tx : TxA w p A
 obj : w.heap[b]? = some (mvO p (clampP A x past : Int) ((posP A x past).2 : Int) (kOf count : Int) (decide (0 < count)) arg goal past big r)
 row : RowIs w A (posP A x past).1 r
section
variable {w w' : World} {b p : Nat} {A : List Int} {x count arg goal : Int} {past big : Bool} {r : RwT}
theorem MvIs.ext (h : MvIs w b p A x count arg goal past big r) (e : Ext w w') : MvIs w' b p A x count arg goal past big r := ⟨h.tx.ext e, e.ext_get h.obj, h.row.ext e⟩
theorem MvIs.tK (h : MvIs w b p A x count arg goal past big r) {K : Addr → Option Addr → World → Prop} (hK : K (at0 b) (some (at0 p)) w) : nn (some (at0 b)) (fun q => ld (.ptr) q (K q)) w := nn_some (ld_r (off := 0) h.obj rfl hK)
theorem MvIs.cK (h : MvIs w b p A x count arg goal past big r) {K : Addr → Int → World → Prop} (hK : K (at0 b) ((posP A x past).2 : Int) w) : nn (some (at0 b)) (fun q => ld (.int .i64) (q.add 2) (K q)) w := nn_some (ld_r (off := 2) h.obj rfl hK)
theorem MvIs.sK (h : MvIs w b p A x count arg goal past big r) {K : Addr → Int → World → Prop} (hK : K (at0 b) (clampP A x past : Int) w) : nn (some (at0 b)) (fun q => ld (.int .i64) (q.add 1) (K q)) w := nn_some (ld_r (off := 1) h.obj rfl hK)
theorem MvIs.kK (h : MvIs w b p A x count arg goal past big r) {K : Addr → Int → World → Prop} (hK : K (at0 b) (kOf count : Int) w) : nn (some (at0 b)) (fun q => ld (.int .i64) (q.add 3) (K q)) w := nn_some (ld_r (off := 3) h.obj rfl hK)
theorem MvIs.countedK (h : MvIs w b p A x count arg goal past big r) {K : Addr → Bool → World → Prop} (hK : K (at0 b) (decide (0 < count)) w) : nn (some (at0 b)) (fun q => ld (.bool) (q.add 4) (K q)) w := nn_some (ld_r (off := 4) h.obj rfl hK)
theorem MvIs.argK (h : MvIs w b p A x count arg goal past big r) {K : Addr → Int → World → Prop} (hK : K (at0 b) arg w) : nn (some (at0 b)) (fun q => ld (.int .i64) (q.add 5) (K q)) w := nn_some (ld_r (off := 5) h.obj rfl hK)
theorem MvIs.goalK (h : MvIs w b p A x count arg goal past big r) {K : Addr → Int → World → Prop} (hK : K (at0 b) goal w) : nn (some (at0 b)) (fun q => ld (.int .i64) (q.add 6) (K q)) w := nn_some (ld_r (off := 6) h.obj rfl hK)
theorem MvIs.pastK (h : MvIs w b p A x count arg goal past big r) {K : Addr → Bool → World → Prop} (hK : K (at0 b) past w) : nn (some (at0 b)) (fun q => ld (.bool) (q.add 7) (K q)) w := nn_some (ld_r (off := 7) h.obj rfl hK)
theorem MvIs.bigK (h : MvIs w b p A x count arg goal past big r) {K : Addr → Bool → World → Prop} (hK : K (at0 b) big w) : nn (some (at0 b)) (fun q => ld (.bool) (q.add 8) (K q)) w := nn_some (ld_r (off := 8) h.obj rfl hK)
theorem MvIs.fromK (h : MvIs w b p A x count arg goal past big r) {K : Addr → Int → World → Prop} (hK : K (at0 b) r.1 w) : nn (some (at0 b)) (fun q => ld (.int .i64) (q.add 9) (K q)) w := nn_some (ld_r (off := 9) h.obj rfl hK)
theorem MvIs.numK (h : MvIs w b p A x count arg goal past big r) {K : Addr → Int → World → Prop} (hK : K (at0 b) r.2.2.2.2.1 w) : nn (some (at0 b)) (fun q => ld (.int .i64) ((q.add 9).add 4) (K q)) w := nn_some (ld_r (off := 13) h.obj rfl hK)
theorem mv_cells {o : Array Value} {off : Nat} {r : RwT} (h : (o.toList.drop off).take 7 = Cells.vals c72 r) : ∀ (j : Nat) v, (Cells.vals c72 r)[j]? = some v → o[off + j]? = some v := by
 intro j v hv
 rw [← h, List.getElem?_take] at hv
 split at hv
 ·rw [List.getElem?_drop] at hv
  simpa using hv
 ·cases hv
theorem MvIs.rowK (h : MvIs w b p A x count arg goal past big r) {K : Addr → RwT → World → Prop} (hK : K (at0 b) r w) : nn (some (at0 b)) (fun q => lds c72 (q.add 9) (K q)) w :=
 nn_some (lds_r (off := 9) h.obj (mv_cells (by rfl)) hK)
theorem MvIs.keepRow (h : MvIs w b p A x count arg goal past big r) {K : World → Prop} (hK : K w) : keep (fun w => cellsAt w ((at0 b).add 9) 0 (Cells.vals c72 r)) K w :=
 keep_r (cellsAt_of (off := 9) _ 0 fun j v hv => by rw [Nat.zero_add]; exact cell_of h.obj (mv_cells (r := r) (by rfl) j v hv)) hK
theorem MvIs.keepC (h : MvIs w b p A x count arg goal past big r) {K : World → Prop} (hK : K w) : keep (fun w => w.cell? ((at0 b).add 2) = some (Cell.val (.int .i64) ((posP A x past).2 : Int))) K w := keep_r (cell_of (off := 2) h.obj rfl) hK
theorem MvIs.keepK (h : MvIs w b p A x count arg goal past big r) {K : World → Prop} (hK : K w) : keep (fun w => w.cell? ((at0 b).add 3) = some (Cell.val (.int .i64) (kOf count : Int))) K w := keep_r (cell_of (off := 3) h.obj rfl) hK
theorem MvIs.keepArg (h : MvIs w b p A x count arg goal past big r) {K : World → Prop} (hK : K w) : keep (fun w => w.cell? ((at0 b).add 5) = some (Cell.val (.int .i64) arg)) K w := keep_r (cell_of (off := 5) h.obj rfl) hK
theorem MvIs.keepGoal (h : MvIs w b p A x count arg goal past big r) {K : World → Prop} (hK : K w) : keep (fun w => w.cell? ((at0 b).add 6) = some (Cell.val (.int .i64) goal)) K w := keep_r (cell_of (off := 6) h.obj rfl) hK
theorem MvIs.keepT (h : MvIs w b p A x count arg goal past big r) {K : World → Prop} (hK : K w) : keep (fun w => w.cell? (at0 b) = some (Cell.val (.ptr) (some (at0 p)))) K w := keep_r (cell_of (off := 0) h.obj rfl) hK
theorem MvIs.keepNum (h : MvIs w b p A x count arg goal past big r) {K : World → Prop} (hK : K w) : keep (fun w => w.cell? (((at0 b).add 9).add 4) = some (Cell.val (.int .i64) r.2.2.2.2.1)) K w := keep_r (cell_of (off := 13) h.obj rfl) hK
theorem fin_r {W w0 : World} {b1 : Nat} {l : Ld} {K : LdT → World → Prop} (S : St (fun _ => False) w0 W [(b1, ldZ)]) (hK : ∀ w', Ext w0 w' → K (ldT l) w') :
  aggSt (at0 b1) (.agg (Cells.vals c43 (ldT l).1).toArray) 3 (lds c43 (at0 b1) fun y => K (y, (ldT l).2.1, ())) W :=
 S.aggSt 0 rfl rfl rfl rfl fun w1 S1 _ => S1.lds 0 (ldT l).1 rfl (hK w1 S1.upd)
theorem nowhere_call {K : LdT → World → Prop} (hK : ∀ w', Ext w w' → K (ldT (noP 80)) w') : callT Tryz.prog 120 #[] (.tup [(.agg c43), (.one (.int .i64))]) K w := by
 refine F120_calls ?_
 unfold F120
 exact (St.start w).newO fun b1 w1 S1 e1 => S1.aggSt 0 rfl rfl rfl rfl fun w2 S2 _ => S2.lds 0 (ldT (noP 80)).1 rfl (hK w2 S2.upd)
theorem mvat_call (h : MvIs w b p A x count arg goal past big r) {n : Nat} {kind : Int} {K : LdT → World → Prop} (hK : ∀ w', Ext w w' → K (ldT (landP A n kind)) w') :
  callT Tryz.prog 121 #[.pointer (some (at0 b)), .int .i64 (n : Int), .int .i64 kind] (.tup [(.agg c43), (.one (.int .i64))]) K w := by
 refine F121_calls ?_
 unfold F121
 refine (St.start w).newO fun b1 w1 S1 e1 => (h.ext e1).tK (mcolumn_call (h.ext e1).tx fun w2 e2 => ?_)
 exact (S1.ext e2).aggSt 0 rfl rfl rfl rfl fun w3 S3 _ => S3.lds 0 (ldT (landP A n kind)).1 rfl (hK w3 S3.upd)
theorem mvmost_call (h : MvIs w b p A x count arg goal past big r) {K : Int → World → Prop} (hK : ∀ w', Ext w w' → K (mostR A (posP A x past).1 past : Int) w') :
  callT Tryz.prog 122 #[.pointer (some (at0 b))] (.one (.one (.int .i64))) K w := by
 refine F122_calls ?_
 unfold F122
 have fw := h.row.few
 unfold mostR at hK
 refine h.pastK (sif_r (fun hp => ?_) (fun hp => ?_))
 ·refine h.rowK (clus_call h.row fun w1 e1 => ?_)
  have := hK w1 e1
  rw [if_pos hp] at this; exact this
 ·refine h.rowK (clus_call h.row fun w1 e1 => ?_)
  have := hK w1 e1
  rw [if_neg (by rw [hp]; decide)] at this
  rw [wrap64 (by omega) (by omega)]
  have e : (if (0 : Int) > (((rowC A (posP A x past).1).length : Nat) : Int) - 1 then (0 : Int) else (((rowC A (posP A x past).1).length : Nat) : Int) - 1) = (((rowC A (posP A x past).1).length - 1 : Nat) : Int) := by split <;> omega
  rw [e]; exact this
theorem MvIs.bounds (h : MvIs w b p A x count arg goal past big r) : (posP A x past).2 ≤ mostR A (posP A x past).1 past ∧ mostR A (posP A x past).1 past ≤ (rowC A (posP A x past).1).length ∧ (rowC A (posP A x past).1).length ≤ 1048576 ∧ 1 ≤ kOf count ∧ kOf count ≤ 9999 ∧ (posP A x past).1 ≤ brs A ∧ (posP A x past).1 ≤ 1048576 := by
 have h1 := pos_most A x past
 have h2 := h.row.few
 have h3 := h.row.row
 have h4 := brs_le A
 have h5 := h.row.len
 exact ⟨h1.1, h1.2, h2.1, kOf_pos count, kOf_le count, h3, by omega⟩
theorem left_call (h : MvIs w b p A x count arg goal past big r) {a' : Int} {K : LdT → World → Prop} (hK : ∀ w', Ext w w' → K (ldT (charsP A x 1 count a' past)) w') :
  callT Tryz.prog 70 #[.pointer (some (at0 b))] (.tup [(.agg c43), (.one (.int .i64))]) K w := by
 refine F70_calls ?_
 unfold F70
 obtain ⟨m1, m2, m3, m4, m5, m6, m7⟩ := h.bounds
 rw [chars_one] at hK
 refine (St.start w).newO fun b1 w1 S1 e1 => ?_
 have h1 := h.ext e1
 refine h1.cK (sif_r (fun hc => ?_) (fun hc => ?_))
 ·simp only [beq_iff_eq] at hc
  rw [if_pos (by omega)] at hK
  exact nowhere_call fun w2 e2 => fin_r (S1.ext e2) hK
 ·simp only [beq_eq_false_iff_ne, ne_eq] at hc
  rw [if_neg (by omega)] at hK
  refine S1.drew fun w2 S2 e2 _ => ?_
  have h2 := h1.ext e2
  refine h2.rowK (h2.cK (h2.kK ?_))
  rw [wrap64 (by omega) (by omega)]
  refine mplace_call h2.row fun w3 e3 => mvat_call (h2.ext e3) fun w4 e4 => fin_r ((S2.ext e3).ext e4) ?_
  have e : placeR A (posP A x past).1 (((posP A x past).2 : Int) - (kOf count : Int)) = offP A ((posP A x past).1, (posP A x past).2 - kOf count) := by
   unfold offP
   dsimp only
   rcases Nat.le_total (posP A x past).2 (kOf count) with u | u
   ·rw [placeR_neg (by omega), placeR_neg (c := (((posP A x past).2 - kOf count : Nat) : Int)) (by omega)]
   ·congr 1; omega
  rw [e]; exact hK
theorem right_call (h : MvIs w b p A x count arg goal past big r) {a' : Int} {K : LdT → World → Prop} (hK : ∀ w', Ext w w' → K (ldT (charsP A x 2 count a' past)) w') :
  callT Tryz.prog 71 #[.pointer (some (at0 b))] (.tup [(.agg c43), (.one (.int .i64))]) K w := by
 refine F71_calls ?_
 unfold F71
 obtain ⟨m1, m2, m3, m4, m5, m6, m7⟩ := h.bounds
 rw [chars_two] at hK
 refine (St.start w).newO fun b1 w1 S1 e1 => S1.drew fun w2 S2 e2 _ => ?_
 have h2 := (h.ext e1).ext e2
 refine h2.cK (mvmost_call h2 fun w3 e3 => (h2.ext e3).keepC (sif_r (fun hc => ?_) (fun hc => ?_)))
 ·simp only [beq_iff_eq] at hc
  rw [if_pos (by omega)] at hK
  exact nowhere_call fun w4 e4 => fin_r ((S2.ext e3).ext e4) hK
 ·simp only [beq_eq_false_iff_ne, ne_eq] at hc
  rw [if_neg (by omega)] at hK
  refine (S2.ext e3).drew fun w4 S4 e4 _ => ?_
  have h4 := (h2.ext e3).ext e4
  refine h4.rowK (h4.cK (h4.kK (mvmost_call h4 fun w5 e5 => ?_)))
  have h5 := h4.ext e5
  refine h5.keepK (h5.keepC (h5.keepRow ?_))
  rw [wrap64 (by omega) (by omega)]
  have em : (if ((mostR A (posP A x past).1 past : Nat) : Int) < ((posP A x past).2 : Int) + (kOf count : Int) then ((mostR A (posP A x past).1 past : Nat) : Int) else ((posP A x past).2 : Int) + (kOf count : Int)) = ((min ((posP A x past).2 + kOf count) (mostR A (posP A x past).1 past) : Nat) : Int) := by split <;> omega
  rw [em]
  exact mplace_call h5.row fun w6 e6 => mvat_call (h5.ext e6) fun w7 e7 => fin_r (((S4.ext e5).ext e6).ext e7) hK
theorem chars_three (A : List Int) (x count arg : Int) (past : Bool) : charsP A x 3 count arg past = landP A (rowL A (posP A x past).1).from_ 0 := by
 unfold charsP posP
 dsimp only
 rw [clamp_row, if_neg (by decide), if_neg (by decide), if_pos rfl]
theorem chars_four (A : List Int) (x count arg : Int) (past : Bool) : charsP A x 4 count arg past = landP A (placeR A (posP A x past).1 (signR A (posP A x past).1)) 0 := by
 unfold charsP posP
 dsimp only
 rw [clamp_row, if_neg (by decide), if_neg (by decide), if_neg (by decide), if_pos rfl]
theorem chars_six (A : List Int) (x count arg : Int) (past : Bool) : charsP A x 6 count arg past = landP A (placeR A (posP A x past).1 (min ((kOf count : Int) - 1) (mostR A (posP A x past).1 past))) 0 := by
 unfold charsP posP mostR
 dsimp only
 rw [clamp_row, if_neg (by decide), if_neg (by decide), if_neg (by decide), if_neg (by decide), if_neg (by decide), if_pos rfl]
theorem start_call (h : MvIs w b p A x count arg goal past big r) {a' : Int} {K : LdT → World → Prop} (hK : ∀ w', Ext w w' → K (ldT (charsP A x 3 count a' past)) w') :
  callT Tryz.prog 72 #[.pointer (some (at0 b))] (.tup [(.agg c43), (.one (.int .i64))]) K w := by
 refine F72_calls ?_
 unfold F72
 rw [chars_three] at hK
 refine (St.start w).newO fun b1 w1 S1 e1 => (h.ext e1).fromK ?_
 rw [h.row.f]
 exact mvat_call (h.ext e1) fun w2 e2 => fin_r (S1.ext e2) hK
theorem mfst_call (h : MvIs w b p A x count arg goal past big r) {a' : Int} {K : LdT → World → Prop} (hK : ∀ w', Ext w w' → K (ldT (charsP A x 4 count a' past)) w') :
  callT Tryz.prog 73 #[.pointer (some (at0 b))] (.tup [(.agg c43), (.one (.int .i64))]) K w := by
 refine F73_calls ?_
 unfold F73
 rw [chars_four] at hK
 refine (St.start w).newO fun b1 w1 S1 e1 => S1.drew fun w2 S2 e2 _ => ?_
 have h2 := (h.ext e1).ext e2
 refine h2.rowK (h2.rowK (msign_call h2.row fun w3 e3 => ?_))
 have h3 := h2.ext e3
 exact h3.keepRow (mplace_call h3.row fun w4 e4 => mvat_call (h3.ext e4) fun w5 e5 => fin_r (((S2.ext e3).ext e4).ext e5) hK)
theorem bar_call (h : MvIs w b p A x count arg goal past big r) {a' : Int} {K : LdT → World → Prop} (hK : ∀ w', Ext w w' → K (ldT (charsP A x 6 count a' past)) w') :
  callT Tryz.prog 75 #[.pointer (some (at0 b))] (.tup [(.agg c43), (.one (.int .i64))]) K w := by
 refine F75_calls ?_
 unfold F75
 obtain ⟨m1, m2, m3, m4, m5, m6, m7⟩ := h.bounds
 rw [chars_six] at hK
 refine (St.start w).newO fun b1 w1 S1 e1 => S1.drew fun w2 S2 e2 _ => ?_
 have h2 := (h.ext e1).ext e2
 refine h2.rowK (h2.kK (mvmost_call h2 fun w3 e3 => ?_))
 have h3 := h2.ext e3
 refine h3.keepK (h3.keepRow ?_)
 rw [wrap64 (by omega) (by omega)]
 have em : (if ((mostR A (posP A x past).1 past : Nat) : Int) < (kOf count : Int) - 1 then ((mostR A (posP A x past).1 past : Nat) : Int) else (kOf count : Int) - 1) = min ((kOf count : Int) - 1) (mostR A (posP A x past).1 past) := by split <;> omega
 rw [em]
 exact mplace_call h3.row fun w4 e4 => mvat_call (h3.ext e4) fun w5 e5 => fin_r (((S2.ext e3).ext e4).ext e5) hK
end
section
variable {w w' : World} {b p : Nat} {A : List Int} {x count arg goal : Int} {past big : Bool} {r : RwT}
noncomputable def hasA (A : List Int) (i : Nat) (a : Int) (j : Nat) : Bool := decide ((rowC A i)[j]?.map (·.atom) = some a)
theorem seek_up (A : List Int) (i : Nat) (a : Int) (n c k : Nat) : seekL (rowC A i) a (upL n c) k = upF (hasA A i a) (c + 1) n k := rfl
theorem seek_dn (A : List Int) (i : Nat) (a : Int) (c k : Nat) : seekL (rowC A i) a (downL c) k = dnF (hasA A i a) c k := rfl
theorem has_at {i j : Nat} {a : Int} {c : Cel} (hc : (rowC A i)[j]? = some c) : hasA A i a j = decide (c.atom = a) := by
 unfold hasA
 rw [hc]
 simp
theorem mvseek_call (h : MvIs w b p A x count arg goal past big r) {K : Int → World → Prop}
  (hK : ∀ w', Ext w w' → K (match seekL (rowC A (posP A x past).1) arg (upL (rowC A (posP A x past).1).length (posP A x past).2) (kOf count) with | some j => (j : Int) | none => -1) w') :
  callT Tryz.prog 151 #[.pointer (some (at0 b)), .int .i64 1] (.one (.one (.int .i64))) K w := by
 refine F151_calls ?_
 unfold F151
 obtain ⟨m1, m2, m3, m4, m5, m6, m7⟩ := h.bounds
 rw [seek_up] at hK
 generalize hi : (posP A x past).1 = i at *
 generalize hcc : (posP A x past).2 = c at *
 refine h.kK (join_r (fun _ W => upF (hasA A i arg) (c + 1) (rowC A i).length (kOf count) = none ∧ Ext w W) ?_ (fun _ W hW => by have := hK W hW.2; rw [hW.1] at this; exact this))
 refine h.cK ?_
 rw [hcc, wrap64 (by omega) (by omega)]
 refine sloop_r (fun s W => ∃ k j : Nat, s = ((k : Int), (j : Int), ()) ∧ 1 ≤ k ∧ k ≤ 9999 ∧ j ≤ (rowC A i).length + 1 ∧ upF (hasA A i arg) (c + 1) (rowC A i).length (kOf count) = upF (hasA A i arg) j (rowC A i).length k ∧ Ext w W) (fun s _ => ((rowC A i).length + 1 - s.2.1).toNat) ⟨kOf count, c + 1, by simp, m4, m5, by omega, rfl, Ext.refl w⟩ ?_
 rintro _ W ⟨k, j, rfl, k1, k2, hj, hu, eW⟩
 dsimp only
 have hW := h.ext eW
 have hrow := hW.row
 rw [hi] at hrow
 refine join_r (fun y W' => y = (decide (j < (rowC A i).length), ()) ∧ Ext w W') ?_ ?_
 ·refine sif_r (fun _ => hW.rowK (clus_call hrow fun w2 e2 => ⟨tupb ?_, eW.trans e2⟩)) (fun hc => ?_)
  ·simp only [decide_eq_true_eq]; omega
  ·simp only [decide_eq_false_iff_not, ge_iff_le] at hc; omega
 rintro _ W2 ⟨rfl, eW2⟩
 have h2 := h.ext eW2
 refine sif_r (fun hc => ?_) (fun hc => ?_)
 ·simp only [decide_eq_true_eq] at hc
  obtain ⟨cl, hcl⟩ := cel_get hc
  have ew : IntKind.wrap .i64 ((j : Int) + 1) = ((j + 1 : Nat) : Int) := by rw [wrap64 (by omega) (by omega)]; omega
  rw [ew]
  refine join_r (fun y W' => ∃ k' : Nat, y = ((k' : Int), ()) ∧ 1 ≤ k' ∧ k' ≤ 9999 ∧ upF (hasA A i arg) j (rowC A i).length k = upF (hasA A i arg) (j + 1) (rowC A i).length k' ∧ Ext w W') ?_ ?_
  ·refine drew_r fun w3 e3 _ => ?_
   have h3 := h2.ext e3
   have hr3 := h3.row
   rw [hi] at hr3
   refine h3.rowK (h3.argK (mfirst_call hr3 hcl fun w4 e4 => (h3.ext e4).keepArg ?_))
   have e04 := (eW2.trans e3).trans e4
   refine sif_r (fun hg => ?_) (fun hg => ?_)
   ·simp only [bne_iff_ne, ne_eq] at hg
    exact ⟨k, rfl, k1, k2, upF_no hc (by rw [has_at hcl, decide_eq_false hg]), e04⟩
   ·simp only [bne_eq_false_iff_eq] at hg
    have hf : hasA A i arg j = true := by rw [has_at hcl, decide_eq_true hg]
    have ewk : IntKind.wrap .i64 ((k : Int) - 1) = ((k - 1 : Nat) : Int) := by rw [wrap64 (by omega) (by omega)]; omega
    rw [ewk]
    refine sif_r (fun hz => ?_) (fun hz => ?_)
    ·simp only [beq_iff_eq] at hz
     have : k = 1 := by omega
     subst this
     have := hK w4 e04
     rw [hu, upF_one hc hf] at this
     exact this
    ·simp only [beq_eq_false_iff_ne, ne_eq] at hz
     refine ⟨k - 1, rfl, by omega, by omega, ?_, e04⟩
     conv => lhs; rw [show k = (k - 1) + 1 by omega]
     exact upF_more hc hf (by omega)
  rintro _ W3 ⟨k', rfl, k1', k2', hu', eW3⟩
  exact ⟨⟨k', j + 1, rfl, k1', k2', by omega, hu.trans hu', eW3⟩, by omega⟩
 ·simp only [decide_eq_false_iff_not] at hc
  exact ⟨hu.trans (upF_none (by omega)), eW2⟩
theorem seekb_call (h : MvIs w b p A x count arg goal past big r) {K : Int → World → Prop}
  (hK : ∀ w', Ext w w' → K (match seekL (rowC A (posP A x past).1) arg (downL (posP A x past).2) (kOf count) with | some j => (j : Int) | none => -1) w') :
  callT Tryz.prog 151 #[.pointer (some (at0 b)), .int .i64 (-1)] (.one (.one (.int .i64))) K w := by
 refine F151_calls ?_
 unfold F151
 obtain ⟨m1, m2, m3, m4, m5, m6, m7⟩ := h.bounds
 rw [seek_dn] at hK
 generalize hi : (posP A x past).1 = i at *
 generalize hcc : (posP A x past).2 = c at *
 refine h.kK (join_r (fun _ W => dnF (hasA A i arg) c (kOf count) = none ∧ Ext w W) ?_ (fun _ W hW => by have := hK W hW.2; rw [hW.1] at this; exact this))
 refine h.cK ?_
 rw [hcc, wrap64 (by omega) (by omega)]
 refine sloop_r (fun s W => ∃ k j : Nat, s = ((k : Int), (j : Int) - 1, ()) ∧ 1 ≤ k ∧ k ≤ 9999 ∧ j ≤ (rowC A i).length ∧ dnF (hasA A i arg) c (kOf count) = dnF (hasA A i arg) j k ∧ Ext w W) (fun s _ => (s.2.1 + 1).toNat) ⟨kOf count, c, rfl, m4, m5, by omega, rfl, Ext.refl w⟩ ?_
 rintro _ W ⟨k, j, rfl, k1, k2, hj, hu, eW⟩
 dsimp only
 have hW := h.ext eW
 have hrow := hW.row
 rw [hi] at hrow
 refine join_r (fun y W' => y = (decide (0 < j), ()) ∧ Ext w W') ?_ ?_
 ·refine sif_r (fun hc => hW.rowK (clus_call hrow fun w2 e2 => ⟨tupb ?_, eW.trans e2⟩)) (fun hc => ⟨tupb ?_, eW⟩)
  ·simp only [decide_eq_true_eq, ge_iff_le] at hc ⊢; omega
  ·simp only [decide_eq_false_iff_not, ge_iff_le, decide_eq_true_eq, Bool.false_eq_true, false_iff] at hc ⊢; omega
 rintro _ W2 ⟨rfl, eW2⟩
 have h2 := h.ext eW2
 refine sif_r (fun hc => ?_) (fun hc => ?_)
 ·simp only [decide_eq_true_eq] at hc
  obtain ⟨m, rfl⟩ : ∃ m, j = m + 1 := ⟨j - 1, by omega⟩
  have em : ((m + 1 : Nat) : Int) - 1 = (m : Int) := by omega
  rw [em]
  obtain ⟨cl, hcl⟩ := cel_get (C := rowC A i) (j := m) (by omega)
  have ew : IntKind.wrap .i64 ((m : Int) + -1) = (m : Int) - 1 := by rw [wrap64 (by omega) (by omega)]; omega
  rw [ew]
  refine join_r (fun y W' => ∃ k' : Nat, y = ((k' : Int), ()) ∧ 1 ≤ k' ∧ k' ≤ 9999 ∧ dnF (hasA A i arg) (m + 1) k = dnF (hasA A i arg) m k' ∧ Ext w W') ?_ ?_
  ·refine drew_r fun w3 e3 _ => ?_
   have h3 := h2.ext e3
   have hr3 := h3.row
   rw [hi] at hr3
   refine h3.rowK (h3.argK (mfirst_call hr3 hcl fun w4 e4 => (h3.ext e4).keepArg ?_))
   have e04 := (eW2.trans e3).trans e4
   refine sif_r (fun hg => ?_) (fun hg => ?_)
   ·simp only [bne_iff_ne, ne_eq] at hg
    exact ⟨k, rfl, k1, k2, dnF_no (by rw [has_at hcl, decide_eq_false hg]), e04⟩
   ·simp only [bne_eq_false_iff_eq] at hg
    have hf : hasA A i arg m = true := by rw [has_at hcl, decide_eq_true hg]
    have ewk : IntKind.wrap .i64 ((k : Int) - 1) = ((k - 1 : Nat) : Int) := by rw [wrap64 (by omega) (by omega)]; omega
    rw [ewk]
    refine sif_r (fun hz => ?_) (fun hz => ?_)
    ·simp only [beq_iff_eq] at hz
     have : k = 1 := by omega
     subst this
     have := hK w4 e04
     rw [hu, dnF_one hf] at this
     exact this
    ·simp only [beq_eq_false_iff_ne, ne_eq] at hz
     refine ⟨k - 1, rfl, by omega, by omega, ?_, e04⟩
     conv => lhs; rw [show k = (k - 1) + 1 by omega]
     exact dnF_more hf (by omega)
  rintro _ W3 ⟨k', rfl, k1', k2', hu', eW3⟩
  exact ⟨⟨k', m, rfl, k1', k2', by omega, hu.trans hu', eW3⟩, by omega⟩
 ·simp only [decide_eq_false_iff_not] at hc
  have : j = 0 := by omega
  subst this
  exact ⟨hu, eW2⟩
theorem seek_lt {C : List Cel} {a : Int} {n c k j : Nat} (h : seekL C a (upL n c) k = some j) : c + 1 ≤ j ∧ j < n := by
 have := (seekL_mem h).1
 unfold upL at this
 rw [List.mem_range'_1] at this
 omega
theorem seek_dlt {C : List Cel} {a : Int} {c k j : Nat} (h : seekL C a (downL c) k = some j) : j < c := by
 have := (seekL_mem h).1
 unfold downL at this
 rw [List.mem_reverse, List.mem_range] at this
 omega
theorem found_call (h : MvIs w b p A x count arg goal past big r) {be kd : Int} (hb : -1 ≤ be ∧ be ≤ 1) {K : LdT → World → Prop}
  (hK : ∀ w', Ext w w' → K (ldT (match seekL (rowC A (posP A x past).1) arg (upL (rowC A (posP A x past).1).length (posP A x past).2) (kOf count) with | some j => landP A (placeR A (posP A x past).1 ((j : Int) + be)) kd | none => noP 80)) w') :
  callT Tryz.prog 124 #[.pointer (some (at0 b)), .int .i64 1, .int .i64 be, .int .i64 kd] (.tup [(.agg c43), (.one (.int .i64))]) K w := by
 refine F124_calls ?_
 unfold F124
 obtain ⟨m1, m2, m3, m4, m5, m6, m7⟩ := h.bounds
 refine (St.start w).newO fun b1 w1 S1 e1 => mvseek_call (h.ext e1) fun w2 e2 => ?_
 have S2 := S1.ext e2
 have h2 := (h.ext e1).ext e2
 cases hs : seekL (rowC A (posP A x past).1) arg (upL (rowC A (posP A x past).1).length (posP A x past).2) (kOf count) with
 | none =>
  rw [hs] at hK
  refine sif_r (fun _ => ?_) (fun hc => by simp at hc)
  exact nowhere_call fun w4 e4 => fin_r (S2.ext e4) hK
 | some j =>
  rw [hs] at hK
  have hlt := seek_lt hs
  refine sif_r (fun hc => by simp at hc; omega) (fun _ => ?_)
  refine h2.rowK ?_
  dsimp only at hK ⊢
  rw [wrap64 (by omega) (by omega)]
  exact mplace_call h2.row fun w6 e6 => mvat_call (h2.ext e6) fun w7 e7 => fin_r ((S2.ext e6).ext e7) hK
theorem foundb_call (h : MvIs w b p A x count arg goal past big r) {be kd : Int} (hb : -1 ≤ be ∧ be ≤ 1) {K : LdT → World → Prop}
  (hK : ∀ w', Ext w w' → K (ldT (match seekL (rowC A (posP A x past).1) arg (downL (posP A x past).2) (kOf count) with | some j => landP A (placeR A (posP A x past).1 ((j : Int) + be)) kd | none => noP 80)) w') :
  callT Tryz.prog 124 #[.pointer (some (at0 b)), .int .i64 (-1), .int .i64 be, .int .i64 kd] (.tup [(.agg c43), (.one (.int .i64))]) K w := by
 refine F124_calls ?_
 unfold F124
 obtain ⟨m1, m2, m3, m4, m5, m6, m7⟩ := h.bounds
 refine (St.start w).newO fun b1 w1 S1 e1 => seekb_call (h.ext e1) fun w2 e2 => ?_
 have S2 := S1.ext e2
 have h2 := (h.ext e1).ext e2
 cases hs : seekL (rowC A (posP A x past).1) arg (downL (posP A x past).2) (kOf count) with
 | none =>
  rw [hs] at hK
  refine sif_r (fun _ => ?_) (fun hc => by simp at hc)
  exact nowhere_call fun w4 e4 => fin_r (S2.ext e4) hK
 | some j =>
  rw [hs] at hK
  have hlt := seek_dlt hs
  refine sif_r (fun hc => by simp at hc; omega) (fun _ => ?_)
  refine h2.rowK ?_
  dsimp only at hK ⊢
  rw [wrap64 (by omega) (by omega)]
  exact mplace_call h2.row fun w6 e6 => mvat_call (h2.ext e6) fun w7 e7 => fin_r ((S2.ext e6).ext e7) hK
theorem find_call' (h : MvIs w b p A x count arg goal past big r) {K : LdT → World → Prop} (hK : ∀ w', Ext w w' → K (ldT (charsP A x 7 count arg past)) w') :
  callT Tryz.prog 76 #[.pointer (some (at0 b))] (.tup [(.agg c43), (.one (.int .i64))]) K w := by
 refine F76_calls ?_
 unfold F76
 rw [(chars_seek A x count arg past).1] at hK
 refine (St.start w).newO fun b1 w1 S1 e1 => found_call (h.ext e1) (by decide) fun w2 e2 => fin_r (S1.ext e2) fun w' e' => ?_
 have := hK w' e'
 cases hs : seekL (rowC A (posP A x past).1) arg (upL (rowC A (posP A x past).1).length (posP A x past).2) (kOf count) with
 | none => rw [hs] at this; exact this
 | some j => rw [hs] at this; dsimp only at this ⊢; rw [Int.add_zero]; exact this
theorem till_call (h : MvIs w b p A x count arg goal past big r) {K : LdT → World → Prop} (hK : ∀ w', Ext w w' → K (ldT (charsP A x 9 count arg past)) w') :
  callT Tryz.prog 78 #[.pointer (some (at0 b))] (.tup [(.agg c43), (.one (.int .i64))]) K w := by
 refine F78_calls ?_
 unfold F78
 rw [(chars_seek A x count arg past).2.1] at hK
 refine (St.start w).newO fun b1 w1 S1 e1 => found_call (h.ext e1) (by decide) fun w2 e2 => fin_r (S1.ext e2) fun w' e' => ?_
 have := hK w' e'
 cases hs : seekL (rowC A (posP A x past).1) arg (upL (rowC A (posP A x past).1).length (posP A x past).2) (kOf count) with
 | none => rw [hs] at this; exact this
 | some j => rw [hs] at this; exact this
theorem findb_call (h : MvIs w b p A x count arg goal past big r) {K : LdT → World → Prop} (hK : ∀ w', Ext w w' → K (ldT (charsP A x 8 count arg past)) w') :
  callT Tryz.prog 77 #[.pointer (some (at0 b))] (.tup [(.agg c43), (.one (.int .i64))]) K w := by
 refine F77_calls ?_
 unfold F77
 rw [(chars_seek A x count arg past).2.2.1] at hK
 refine (St.start w).newO fun b1 w1 S1 e1 => foundb_call (h.ext e1) (by decide) fun w2 e2 => fin_r (S1.ext e2) fun w' e' => ?_
 have := hK w' e'
 cases hs : seekL (rowC A (posP A x past).1) arg (downL (posP A x past).2) (kOf count) with
 | none => rw [hs] at this; exact this
 | some j => rw [hs] at this; dsimp only at this ⊢; rw [Int.add_zero]; exact this
theorem tillb_call (h : MvIs w b p A x count arg goal past big r) {K : LdT → World → Prop} (hK : ∀ w', Ext w w' → K (ldT (charsP A x 10 count arg past)) w') :
  callT Tryz.prog 79 #[.pointer (some (at0 b))] (.tup [(.agg c43), (.one (.int .i64))]) K w := by
 refine F79_calls ?_
 unfold F79
 rw [(chars_seek A x count arg past).2.2.2] at hK
 refine (St.start w).newO fun b1 w1 S1 e1 => foundb_call (h.ext e1) (by decide) fun w2 e2 => fin_r (S1.ext e2) fun w' e' => ?_
 have := hK w' e'
 cases hs : seekL (rowC A (posP A x past).1) arg (downL (posP A x past).2) (kOf count) with
 | none => rw [hs] at this; exact this
 | some j => rw [hs] at this; exact this
theorem chars_five (A : List Int) (x count arg : Int) (past : Bool) : charsP A x 5 count arg past = ((((placeR A (if (posP A x past).1 < lnN A - 1 ∧ 1 < kOf count then min ((posP A x past).1 + kOf count - 1) (lnN A - 1) else (posP A x past).1) (((rowC A (if (posP A x past).1 < lnN A - 1 ∧ 1 < kOf count then min ((posP A x past).1 + kOf count - 1) (lnN A - 1) else (posP A x past).1)).length : Int) - 1) : Nat) : Int), 1, 100000), 0) := by
 unfold charsP posP
 dsimp only
 rw [clamp_row, if_neg (by decide), if_neg (by decide), if_neg (by decide), if_neg (by decide), if_pos rfl]
theorem end_call (h : MvIs w b p A x count arg goal past big r) {a' : Int} {K : LdT → World → Prop} (hK : ∀ w', Ext w w' → K (ldT (charsP A x 5 count a' past)) w') :
  callT Tryz.prog 74 #[.pointer (some (at0 b))] (.tup [(.agg c43), (.one (.int .i64))]) K w := by
 refine F74_calls ?_
 unfold F74
 obtain ⟨m1, m2, m3, m4, m5, m6, m7⟩ := h.bounds
 have hb := lnN_bounds A; have hA := h.row.len; have hbl := brs_le A
 rw [chars_five] at hK
 refine (St.start w).newO fun b1 w1 S1 e1 => (h.ext e1).rowK (S1.newO fun b4 w2 S2 e2 => S2.aggSt 0 rfl rfl rfl rfl fun w3 S3 u3 => ?_)
 have S3 : St (fun _ => False) w w3 [(b4, rwO r), (b1, ldZ)] := S3
 have h3 := h.ext S3.upd
 have ewl : IntKind.wrap .i64 ((lnN A : Int) - 1) = (lnN A : Int) - 1 := wrap64 (by omega) (by omega)
 refine join_r (fun _ W => ∃ r', St (fun _ => False) w W [(b4, rwO r'), (b1, ldZ)] ∧ RowIs W A (if (posP A x past).1 < lnN A - 1 ∧ 1 < kOf count then min ((posP A x past).1 + kOf count - 1) (lnN A - 1) else (posP A x past).1) r') ?_ ?_
 ·refine h3.tK (h3.tx.count fun w4 e4 => ?_)
  have S4 := S3.ext e4
  have h4 := h3.ext e4
  rw [ewl]
  refine join_r (fun y W => y = (decide ((posP A x past).1 < lnN A - 1 ∧ 1 < kOf count), ()) ∧ w4 = W) ?_ ?_
  ·refine S4.ld (off := 4) 0 rfl (x := r.2.2.2.2.1) rfl ?_
   rw [h.row.num]
   refine sif_r (fun hc => h4.kK ⟨tupb ?_, rfl⟩) (fun hc => ⟨tupb ?_, rfl⟩)
   ·simp only [decide_eq_true_eq, gt_iff_lt] at hc ⊢; omega
   ·simp only [decide_eq_false_iff_not, decide_eq_true_eq, Bool.false_eq_true, false_iff] at hc ⊢; omega
  rintro _ _ ⟨rfl, rfl⟩
  refine sif_r (fun hc => ?_) (fun hc => ?_)
  ·have hc := of_decide_eq_true hc
   rw [if_pos hc]
   refine S4.drew fun w5 S5 e5 _ => ?_
   have h5 := h4.ext e5
   refine h5.tK (S5.ld (off := 4) 0 rfl (x := r.2.2.2.2.1) rfl (h5.kK ?_))
   rw [h.row.num, wrap64 (a := ((posP A x past).1 : Int) + (kOf count : Int)) (by omega) (by omega), wrap64 (by omega) (by omega)]
   have em : (if (lnN A : Int) - 1 < ((posP A x past).1 : Int) + (kOf count : Int) - 1 then (lnN A : Int) - 1 else ((posP A x past).1 : Int) + (kOf count : Int) - 1) = ((min ((posP A x past).1 + kOf count - 1) (lnN A - 1) : Nat) : Int) := by split <;> omega
   rw [em]
   refine nrow_call h5.tx (by omega) fun r' w6 hr' e6 => (S5.ext e6).aggSt 0 rfl rfl rfl rfl fun w7 S7 u7 => ⟨r', S7, hr'.box ((S5.ext e6).at_ 0 rfl) (by decide) u7⟩
  ·rw [if_neg (of_decide_eq_false hc)]
   exact ⟨r, S4, h4.row⟩
 rintro _ W ⟨r', SW, hr'⟩
 generalize (if (posP A x past).1 < lnN A - 1 ∧ 1 < kOf count then min ((posP A x past).1 + kOf count - 1) (lnN A - 1) else (posP A x past).1) = j at *
 have fw := hr'.few
 refine SW.drew fun w5 S5 e5 _ => S5.lds 0 r' rfl (S5.lds 0 r' rfl (clus_call (hr'.ext e5) fun w6 e6 => ?_))
 have S6 := S5.ext e6
 rw [wrap64 (by omega) (by omega)]
 refine S6.keeps 0 (x := r') rfl (mplace_call ((hr'.ext e5).ext e6) fun w7 e7 => (S6.ext e7).aggSt 1 rfl rfl rfl rfl fun w8 S8 _ => ?_)
 exact S8.lds 1 (((placeR A j (((rowC A j).length : Int) - 1) : Nat) : Int), 1, 100000, ()) rfl (hK w8 S8.upd)
end
section
variable {w w' : World} {b p : Nat} {A : List Int} {x count arg goal g : Int} {past big : Bool} {r : RwT}
theorem torow_call (h : MvIs w b p A x count arg goal past big r) {line : Int} {K : LdT → World → Prop} (hK : ∀ w', Ext w w' → K (ldT (toRowP A line goal)) w') :
  callT Tryz.prog 127 #[.pointer (some (at0 b)), .int .i64 line] (.tup [(.agg c43), (.one (.int .i64))]) K w := by
 refine F127_calls ?_
 unfold F127
 refine (St.start w).newO fun b1 w1 S1 e1 => S1.drew fun w2 S2 e2 _ => ?_
 have h2 := (h.ext e1).ext e2
 refine h2.tK (h2.goalK (h2.goalK (mplaceP_call h2.tx fun w3 e3 => (h2.ext e3).keepGoal ?_)))
 exact (S2.ext e3).aggSt 0 rfl rfl rfl rfl fun w4 S4 _ => S4.lds 0 (ldT (toRowP A line goal)).1 rfl (hK w4 S4.upd)
theorem tosign_call (h : MvIs w b p A x count arg goal past big r) {line : Int} {K : LdT → World → Prop} (hK : ∀ w', Ext w w' → K (ldT (toSignP A line)) w') :
  callT Tryz.prog 128 #[.pointer (some (at0 b)), .int .i64 line] (.tup [(.agg c43), (.one (.int .i64))]) K w := by
 refine F128_calls ?_
 unfold F128
 have hb := lnN_bounds A; have hA := h.row.len; have hbl := brs_le A
 have ewl : IntKind.wrap .i64 ((lnN A : Int) - 1) = (lnN A : Int) - 1 := wrap64 (by omega) (by omega)
 have el : (if (0 : Int) > (if (lnN A : Int) - 1 < line then (lnN A : Int) - 1 else line) then (0 : Int) else (if (lnN A : Int) - 1 < line then (lnN A : Int) - 1 else line)) = (lineI A line : Int) := by
  unfold lineI
  split <;> split at * <;> omega
 refine (St.start w).newO fun b1 w1 S1 e1 => ?_
 have S1 : St (fun _ => False) w w1 [(b1, ldZ)] := S1
 refine join_r (fun y W => ∃ b8 r', y = (at0 b8, ()) ∧ St (fun _ => False) w W [(b8, rwO r'), (b1, ldZ)] ∧ RowIs W A (lineI A line) r') ?_ ?_
 ·refine S1.drew fun w2 S2 e2 _ => ?_
  have h2 := (h.ext e1).ext e2
  refine h2.tK (h2.tK ⟨?_, ?_⟩)
  ·refine S2.newO fun b8 w3 S3 e3 => ?_
   have h3 := h2.ext e3
   refine h3.keepT (h3.keepT (h3.tx.count fun w4 e4 => ?_))
   have h4 := h3.ext e4
   rw [ewl, el]
   refine h4.keepT (nrow_call h4.tx (lineI_le A line).2 fun r' w5 hr' e5 => ?_)
   have S5 := (S3.ext e4).ext e5
   exact S5.aggSt 0 rfl rfl rfl rfl fun w6 S6 u6 => ⟨b8, r', rfl, S6, hr'.box (S5.at_ 0 rfl) (by decide) u6⟩
  ·refine h2.tx.count fun w3 e3 => ?_
   have h3 := h2.ext e3
   have S3 := S2.ext e3
   rw [ewl, el]
   refine h3.keepT ⟨?_, ?_⟩
   ·refine S3.newO fun b12 w4 S4 e4 => ?_
    have h4 := h3.ext e4
    refine h4.keepT (h4.keepT (nrow_call h4.tx (lineI_le A line).2 fun r' w5 hr' e5 => ?_))
    have S5 := S4.ext e5
    exact S5.aggSt 0 rfl rfl rfl rfl fun w6 S6 u6 => ⟨b12, r', rfl, S6, hr'.box (S5.at_ 0 rfl) (by decide) u6⟩
   ·refine nrow_call h3.tx (lineI_le A line).2 fun r' w4 hr' e4 => ⟨?_, trivial⟩
    have h4 := h3.ext e4
    refine (S3.ext e4).newO fun b15 w5 S5 e5 => ?_
    have h5 := h4.ext e5
    refine h5.keepT (h5.keepT ?_)
    exact S5.aggSt 0 rfl rfl rfl rfl fun w6 S6 u6 => ⟨b15, r', rfl, S6, (hr'.ext e5).box (S5.at_ 0 rfl) (by decide) u6⟩
 rintro _ W ⟨b8, r', rfl, SW, hr'⟩
 have hW := h.ext SW.upd
 refine SW.drew fun w2 S2 e2 _ => S2.lds 0 r' rfl (S2.lds 0 r' rfl (msign_call (hr'.ext e2) fun w3 e3 => ?_))
 have S3 := S2.ext e3
 refine S3.keeps 0 (x := r') rfl (mplace_call ((hr'.ext e2).ext e3) fun w4 e4 => mvat_call (((hW.ext e2).ext e3).ext e4) fun w5 e5 => ?_)
 have S5 := (S3.ext e4).ext e5
 exact S5.aggSt 1 rfl rfl rfl rfl fun w6 S6 _ => S6.lds 1 (ldT (toSignP A line)).1 rfl (hK w6 S6.upd)
theorem bottom_call (h : MvIs w b p A x count arg goal past big r) {K : Bool → World → Prop} (hK : ∀ w', Ext w w' → K (decide ((posP A x past).1 = lnN A - 1)) w') :
  callT Tryz.prog 126 #[.pointer (some (at0 b))] (.one (.one .bool)) K w := by
 refine F126_calls ?_
 unfold F126
 have hb := lnN_bounds A; have hA := h.row.len; have hbl := brs_le A
 refine drew_r fun w1 e1 _ => ?_
 have h1 := h.ext e1
 refine h1.numK (h1.tK (h1.tx.count fun w2 e2 => (h1.ext e2).keepNum ?_))
 rw [wrap64 (by omega) (by omega), h.row.num]
 have e : (((posP A x past).1 : Int) == (lnN A : Int) - 1) = decide ((posP A x past).1 = lnN A - 1) := by
  rw [Bool.eq_iff_iff, beq_iff_eq, decide_eq_true_eq]; omega
 rw [e]; exact hK w2 (e1.trans e2)
theorem rows_down (A : List Int) (x g count : Int) : rowsP A x g 11 count = if (posP A x false).1 = lnN A - 1 then noP 80 else toRowP A (((posP A x false).1 : Int) + kOf count) (max g 0) := by
 unfold rowsP posP; dsimp only; rw [clamp_row, if_pos rfl]
theorem rows_up (A : List Int) (x g count : Int) : rowsP A x g 12 count = if (posP A x false).1 = 0 then noP 80 else toRowP A (((posP A x false).1 : Int) - kOf count) (max g 0) := by
 unfold rowsP posP; dsimp only; rw [clamp_row, if_neg (by decide), if_pos rfl]
theorem rows_next (A : List Int) (x g count : Int) : rowsP A x g 13 count = if (posP A x false).1 = lnN A - 1 then noP 80 else toSignP A (((posP A x false).1 : Int) + kOf count) := by
 unfold rowsP posP; dsimp only; rw [clamp_row, if_neg (by decide), if_neg (by decide), if_pos rfl]
theorem rows_prev (A : List Int) (x g count : Int) : rowsP A x g 14 count = if (posP A x false).1 = 0 then noP 80 else toSignP A (((posP A x false).1 : Int) - kOf count) := by
 unfold rowsP posP; dsimp only; rw [clamp_row, if_neg (by decide), if_neg (by decide), if_neg (by decide), if_pos rfl]
theorem rows_here (A : List Int) (x g count : Int) : rowsP A x g 15 count = toSignP A (((posP A x false).1 : Int) + kOf count - 1) := by
 unfold rowsP posP; dsimp only; rw [clamp_row, if_neg (by decide), if_neg (by decide), if_neg (by decide), if_neg (by decide), if_pos rfl]
theorem rows_goto (A : List Int) (x g count : Int) : rowsP A x g 16 count = toSignP A (if 0 < count then (kOf count : Int) - 1 else lnN A) := by
 unfold rowsP; dsimp only; rw [if_neg (by decide), if_neg (by decide), if_neg (by decide), if_neg (by decide), if_neg (by decide), if_pos rfl]
theorem rows_top (A : List Int) (x g count : Int) : rowsP A x g 17 count = toSignP A ((kOf count : Int) - 1) := by
 unfold rowsP; dsimp only; rw [if_neg (by decide), if_neg (by decide), if_neg (by decide), if_neg (by decide), if_neg (by decide), if_neg (by decide), if_pos rfl]
theorem rows_perc (A : List Int) (x g count : Int) : rowsP A x g 18 count = if count ≤ 0 ∨ 100 < kOf count then noP 80 else toSignP A ((((kOf count * lnN A + 99) / 100 : Nat) : Int) - 1) := by
 unfold rowsP; dsimp only; rw [if_neg (by decide), if_neg (by decide), if_neg (by decide), if_neg (by decide), if_neg (by decide), if_neg (by decide), if_neg (by decide), if_pos rfl]
theorem down_call (h : MvIs w b p A x count arg (max g 0) false big r) {K : LdT → World → Prop} (hK : ∀ w', Ext w w' → K (ldT (rowsP A x g 11 count)) w') :
  callT Tryz.prog 84 #[.pointer (some (at0 b))] (.tup [(.agg c43), (.one (.int .i64))]) K w := by
 refine F84_calls ?_
 unfold F84
 obtain ⟨m1, m2, m3, m4, m5, m6, m7⟩ := h.bounds
 rw [rows_down] at hK
 refine (St.start w).newO fun b1 w1 S1 e1 => bottom_call (h.ext e1) fun w2 e2 => ?_
 have h2 := (h.ext e1).ext e2
 have S2 := S1.ext e2
 refine sif_r (fun hc => ?_) (fun hc => ?_)
 ·rw [if_pos (of_decide_eq_true hc)] at hK
  exact nowhere_call fun w3 e3 => fin_r (S2.ext e3) hK
 ·rw [if_neg (of_decide_eq_false hc)] at hK
  refine S2.drew fun w3 S3 e3 _ => ?_
  have h3 := h2.ext e3
  refine h3.numK (h3.kK ?_)
  rw [h.row.num, wrap64 (by omega) (by omega)]
  exact torow_call h3 fun w4 e4 => fin_r (S3.ext e4) hK
theorem up_call (h : MvIs w b p A x count arg (max g 0) false big r) {K : LdT → World → Prop} (hK : ∀ w', Ext w w' → K (ldT (rowsP A x g 12 count)) w') :
  callT Tryz.prog 85 #[.pointer (some (at0 b))] (.tup [(.agg c43), (.one (.int .i64))]) K w := by
 refine F85_calls ?_
 unfold F85
 obtain ⟨m1, m2, m3, m4, m5, m6, m7⟩ := h.bounds
 rw [rows_up] at hK
 refine (St.start w).newO fun b1 w1 S1 e1 => ?_
 have h1 := h.ext e1
 refine h1.numK ?_
 rw [h.row.num]
 refine sif_r (fun hc => ?_) (fun hc => ?_)
 ·simp only [beq_iff_eq] at hc
  rw [if_pos (by omega)] at hK
  exact nowhere_call fun w3 e3 => fin_r (S1.ext e3) hK
 ·simp only [beq_eq_false_iff_ne, ne_eq] at hc
  rw [if_neg (by omega)] at hK
  refine S1.drew fun w3 S3 e3 _ => ?_
  have h3 := h1.ext e3
  refine h3.numK (h3.kK ?_)
  rw [h.row.num, wrap64 (by omega) (by omega)]
  exact torow_call h3 fun w4 e4 => fin_r (S3.ext e4) hK
theorem nextr_call (h : MvIs w b p A x count arg goal false big r) {K : LdT → World → Prop} (hK : ∀ w', Ext w w' → K (ldT (rowsP A x g 13 count)) w') :
  callT Tryz.prog 86 #[.pointer (some (at0 b))] (.tup [(.agg c43), (.one (.int .i64))]) K w := by
 refine F86_calls ?_
 unfold F86
 obtain ⟨m1, m2, m3, m4, m5, m6, m7⟩ := h.bounds
 rw [rows_next] at hK
 refine (St.start w).newO fun b1 w1 S1 e1 => bottom_call (h.ext e1) fun w2 e2 => ?_
 have h2 := (h.ext e1).ext e2
 have S2 := S1.ext e2
 refine sif_r (fun hc => ?_) (fun hc => ?_)
 ·rw [if_pos (of_decide_eq_true hc)] at hK
  exact nowhere_call fun w3 e3 => fin_r (S2.ext e3) hK
 ·rw [if_neg (of_decide_eq_false hc)] at hK
  refine S2.drew fun w3 S3 e3 _ => ?_
  have h3 := h2.ext e3
  refine h3.numK (h3.kK ?_)
  rw [h.row.num, wrap64 (by omega) (by omega)]
  exact tosign_call h3 fun w4 e4 => fin_r (S3.ext e4) hK
theorem prevr_call (h : MvIs w b p A x count arg goal false big r) {K : LdT → World → Prop} (hK : ∀ w', Ext w w' → K (ldT (rowsP A x g 14 count)) w') :
  callT Tryz.prog 87 #[.pointer (some (at0 b))] (.tup [(.agg c43), (.one (.int .i64))]) K w := by
 refine F87_calls ?_
 unfold F87
 obtain ⟨m1, m2, m3, m4, m5, m6, m7⟩ := h.bounds
 rw [rows_prev] at hK
 refine (St.start w).newO fun b1 w1 S1 e1 => ?_
 have h1 := h.ext e1
 refine h1.numK ?_
 rw [h.row.num]
 refine sif_r (fun hc => ?_) (fun hc => ?_)
 ·simp only [beq_iff_eq] at hc
  rw [if_pos (by omega)] at hK
  exact nowhere_call fun w3 e3 => fin_r (S1.ext e3) hK
 ·simp only [beq_eq_false_iff_ne, ne_eq] at hc
  rw [if_neg (by omega)] at hK
  refine S1.drew fun w3 S3 e3 _ => ?_
  have h3 := h1.ext e3
  refine h3.numK (h3.kK ?_)
  rw [h.row.num, wrap64 (by omega) (by omega)]
  exact tosign_call h3 fun w4 e4 => fin_r (S3.ext e4) hK
theorem here_call (h : MvIs w b p A x count arg goal false big r) {K : LdT → World → Prop} (hK : ∀ w', Ext w w' → K (ldT (rowsP A x g 15 count)) w') :
  callT Tryz.prog 88 #[.pointer (some (at0 b))] (.tup [(.agg c43), (.one (.int .i64))]) K w := by
 refine F88_calls ?_
 unfold F88
 obtain ⟨m1, m2, m3, m4, m5, m6, m7⟩ := h.bounds
 rw [rows_here] at hK
 refine (St.start w).newO fun b1 w1 S1 e1 => S1.drew fun w3 S3 e3 _ => ?_
 have h3 := (h.ext e1).ext e3
 refine h3.numK (h3.kK ?_)
 rw [h.row.num, wrap64 (a := ((posP A x false).1 : Int) + (kOf count : Int)) (by omega) (by omega), wrap64 (by omega) (by omega)]
 exact tosign_call h3 fun w4 e4 => fin_r (S3.ext e4) hK
theorem goto_call (h : MvIs w b p A x count arg goal false big r) {K : LdT → World → Prop} (hK : ∀ w', Ext w w' → K (ldT (rowsP A x g 16 count)) w') :
  callT Tryz.prog 89 #[.pointer (some (at0 b))] (.tup [(.agg c43), (.one (.int .i64))]) K w := by
 refine F89_calls ?_
 unfold F89
 obtain ⟨m1, m2, m3, m4, m5, m6, m7⟩ := h.bounds
 rw [rows_goto] at hK
 refine (St.start w).newO fun b1 w1 S1 e1 => ?_
 have h1 := h.ext e1
 refine h1.countedK (sif_r (fun hc => ?_) (fun hc => ?_))
 ·have hc : ¬ 0 < count := by simpa using hc
  rw [if_neg hc] at hK
  exact h1.tK (h1.tx.count fun w2 e2 => tosign_call (h1.ext e2) fun w4 e4 => fin_r ((S1.ext e2).ext e4) hK)
 ·have hc : 0 < count := by simpa using hc
  rw [if_pos hc] at hK
  refine h1.kK ?_
  rw [wrap64 (by omega) (by omega)]
  exact tosign_call h1 fun w4 e4 => fin_r (S1.ext e4) hK
theorem top_call (h : MvIs w b p A x count arg goal false big r) {K : LdT → World → Prop} (hK : ∀ w', Ext w w' → K (ldT (rowsP A x g 17 count)) w') :
  callT Tryz.prog 90 #[.pointer (some (at0 b))] (.tup [(.agg c43), (.one (.int .i64))]) K w := by
 refine F90_calls ?_
 unfold F90
 obtain ⟨m1, m2, m3, m4, m5, m6, m7⟩ := h.bounds
 rw [rows_top] at hK
 refine (St.start w).newO fun b1 w1 S1 e1 => ?_
 have h1 := h.ext e1
 refine h1.kK ?_
 rw [wrap64 (by omega) (by omega)]
 exact tosign_call h1 fun w4 e4 => fin_r (S1.ext e4) hK
theorem perc_call (h : MvIs w b p A x count arg goal false big r) {K : LdT → World → Prop} (hK : ∀ w', Ext w w' → K (ldT (rowsP A x g 18 count)) w') :
  callT Tryz.prog 91 #[.pointer (some (at0 b))] (.tup [(.agg c43), (.one (.int .i64))]) K w := by
 refine F91_calls ?_
 unfold F91
 obtain ⟨m1, m2, m3, m4, m5, m6, m7⟩ := h.bounds
 have hb := lnN_bounds A; have hA := h.row.len; have hbl := brs_le A
 rw [rows_perc] at hK
 refine (St.start w).newO fun b1 w1 S1 e1 => ?_
 have h1 := h.ext e1
 refine join_r (fun y W => y = (decide (count ≤ 0 ∨ 100 < kOf count), ()) ∧ w1 = W) ?_ ?_
 ·refine h1.countedK (sif_r (fun hc => ⟨tupb ?_, rfl⟩) (fun hc => h1.kK ⟨tupb ?_, rfl⟩))
  ·have hc : ¬ 0 < count := by simpa using hc
   simp; omega
  ·have hc : 0 < count := by simpa using hc
   simp only [decide_eq_true_eq, gt_iff_lt]; omega
 rintro _ _ ⟨rfl, rfl⟩
 refine sif_r (fun hc => ?_) (fun hc => ?_)
 ·rw [if_pos (of_decide_eq_true hc)] at hK
  exact nowhere_call fun w3 e3 => fin_r (S1.ext e3) hK
 ·have hc := of_decide_eq_false hc
  rw [if_neg hc] at hK
  refine S1.drew fun w3 S3 e3 _ => ?_
  have h3 := h1.ext e3
  refine h3.kK (h3.tK (h3.tx.count fun w4 e4 => ?_))
  have h4 := h3.ext e4
  refine h4.keepK (chk_r (by decide) ?_)
  have hm : kOf count * lnN A ≤ 100 * lnN A := Nat.mul_le_mul_right _ (by omega)
  have hmi : (kOf count : Int) * (lnN A : Int) = ((kOf count * lnN A : Nat) : Int) := by rw [Int.natCast_mul]
  rw [hmi]
  generalize kOf count * lnN A = m at *
  rw [wrap64 (a := (m : Int)) (by omega) (by omega), wrap64 (a := (m : Int) + 99) (by omega) (by omega)]
  have ed : Int.tdiv ((m : Int) + 99) 100 = (((m + 99) / 100 : Nat) : Int) := by rw [Int.tdiv_eq_ediv_of_nonneg (by omega)]; omega
  rw [ed, wrap64 (a := (((m + 99) / 100 : Nat) : Int)) (by omega) (by omega), wrap64 (by omega) (by omega)]
  exact tosign_call h4 fun w5 e5 => fin_r ((S3.ext e4).ext e5) hK
end
end Go.Proofs.YtolhlldgnfbemaaGreat
namespace Go.Vx
open Go
theorem least {P : Nat → Prop} (h : ∃ n, P n) : ∃ n, P n ∧ ∀ m, P m → n ≤ m := by
 obtain ⟨n, hn⟩ := h
 induction n using Nat.strongRecOn with
 | ind n ih =>
  by_cases hc : ∃ k, k < n ∧ P k
  ·obtain ⟨k, h1, h2⟩ := hc
   exact ih k h1 h2
  ·exact ⟨n, hn, fun m hm => Nat.le_of_not_lt fun hl => hc ⟨m, hl, hm⟩⟩
open Classical in
theorem sloop_g {T G : Type} {body : T → (T → World → Prop) → World → Prop} {s0 : T} {w : World} (J : G → T → World → Prop) (m : G → Nat) (g0 : G) (h0 : J g0 s0 w)
  (hr : ∀ g s w' (R : T → World → Prop), J g s w' → (∀ g' s' w'', J g' s' w'' → m g' < m g → R s' w'') → body s R w') : sloop body s0 w := by
 have hex : ∀ s w, (∃ g, J g s w) → ∃ n, (∃ g, J g s w ∧ m g = n) ∧ ∀ g, J g s w → n ≤ m g := fun s w ⟨g, h⟩ => by
  obtain ⟨n, h1, h2⟩ := least (P := fun n => ∃ g, J g s w ∧ m g = n) ⟨m g, g, h, rfl⟩
  exact ⟨n, h1, fun g' h' => h2 _ ⟨g', h', rfl⟩⟩
 let μ : T → World → Nat := fun s w => if h : ∃ g, J g s w then Classical.choose (hex s w h) else 0
 have hμ : ∀ s w (h : ∃ g, J g s w), μ s w = Classical.choose (hex s w h) := fun s w h => dif_pos h
 have le : ∀ g s w, J g s w → μ s w ≤ m g := fun g s w h => by
  rw [hμ s w ⟨g, h⟩]
  exact (Classical.choose_spec (hex s w ⟨g, h⟩)).2 g h
 have at_ : ∀ s w, (∃ g, J g s w) → ∃ g, J g s w ∧ m g = μ s w := fun s w h => by
  rw [hμ s w h]
  exact (Classical.choose_spec (hex s w h)).1
 refine sloop_r (fun s w => ∃ g, J g s w) μ ⟨g0, h0⟩ fun s w' hI => ?_
 obtain ⟨g, h1, h2⟩ := at_ s w' hI
 refine hr g s w' _ h1 fun g' s' w'' h3 h4 => ⟨⟨g', h3⟩, ?_⟩
 have := le g' s' w'' h3
 omega
end Go.Vx
namespace Go.Proofs.YtolhlldgnfbemaaGreat
open Go Go.Vx Cdc Trx Gly Clu Lns Obx Mot
abbrev wkO (p : Nat) (r : RwT) (c last : Int) (big : Bool) : Obj :=
 .cells #[.pointer (some (at0 p)), .int .i64 r.1, .int .i64 r.2.1, .int .i64 r.2.2.1, .int .i64 r.2.2.2.1, .int .i64 r.2.2.2.2.1, .slice r.2.2.2.2.2.1.a r.2.2.2.2.2.1.len r.2.2.2.2.2.1.cap, .slice r.2.2.2.2.2.2.1.a r.2.2.2.2.2.2.1.len r.2.2.2.2.2.2.1.cap, .int .i64 c, .int .i64 last, .bool big] 153 (0, 0)
structure TxB (w : World) (p : Nat) (A : List Int) (b : Nat) : Prop where
 ex : ∃ e lim na O M, Txt w p e lim na O M ∧ atoms (aOf e M) = A ∧ ¬ O b
structure WkIs (w : World) (b p : Nat) (A : List Int) (big : Bool) (q : Nat × Nat) (r : RwT) : Prop where
 tx : TxB w p A b
 obj : w.heap[b]? = some (wkO p r (q.2 : Int) ((lnN A - 1 : Nat) : Int) big)
 row : RowIs w A q.1 r
 on : On A q
theorem setRow_wk (v0 v1 v2 v3 v4 v5 v6 v7 v8 v9 v10 u1 u2 u3 u4 u5 u6 u7 : Value) : setRow #[v0, v1, v2, v3, v4, v5, v6, v7, v8, v9, v10] 1 [u1, u2, u3, u4, u5, u6, u7] = #[v0, u1, u2, u3, u4, u5, u6, u7, v8, v9, v10] := by kernel_rfl
section
variable {w w' : World} {b p : Nat} {A : List Int} {big : Bool} {q : Nat × Nat} {r : RwT}
theorem wk_row {r' : RwT} {c l : Int} (h : w.heap[b]? = some (wkO p r c l big)) {K : World → Prop} (hK : ∀ w1, Upd (fun k => k = b) w w1 → w1.heap[b]? = some (wkO p r' c l big) → K w1) :
  aggSt ((at0 b).add 1) (.agg (Cells.vals c72 r').toArray) 7 K w :=
 aggSt_r (off := 1) h rfl rfl (by show 1 + 7 ≤ 11; decide) fun w1 u n _ => hK w1 u (n.trans (congrArg (fun c => some (Obj.cells c 153 (0, 0))) (setRow_wk ..)))
theorem wk_col {c' c l : Int} (h : w.heap[b]? = some (wkO p r c l big)) {K : World → Prop} (hK : ∀ w1, Upd (fun k => k = b) w w1 → w1.heap[b]? = some (wkO p r c' l big) → K w1) :
  stC ((at0 b).add 8) (.int .i64 c') K w :=
 stC_r (off := 8) h (by show 8 < 11; decide) fun w1 u n _ => hK w1 u n
theorem TxB.ta (h : TxB w p A b) : TxA w p A := by
 obtain ⟨e, lim, na, O, M, h1, h2, _⟩ := h.ex
 exact ⟨e, lim, na, O, M, h1, h2⟩
theorem TxB.ext (h : TxB w p A b) (x : Ext w w') : TxB w' p A b := by
 obtain ⟨e, lim, na, O, M, h1, h2, h3⟩ := h.ex
 exact ⟨e, lim, na, O, M, h1.ext x, h2, h3⟩
theorem TxB.upd {c : Array Value} {fr : Nat × Nat} {t : TypeId} (h : TxB w p A b) (hb : w.heap[b]? = some (.cells c t fr)) (ht : 139 ≠ t) (u : Upd (fun k => k = b) w w') : TxB w' p A b := by
 obtain ⟨e, lim, na, O, M, h1, h2, h3⟩ := h.ex
 refine ⟨e, lim, na, O, M, h1.upd u (fun k hk hk2 => by subst hk2; exact h3 hk) (fun k hk c' fr' hn => ?_), h2, h3⟩
 subst hk
 rw [hb] at hn
 cases hn
 exact ht rfl
theorem TxA.toB (h : TxA w p A) (hb : w.heap.size ≤ b) : TxB w p A b := by
 obtain ⟨e, lim, na, O, M, h1, h2⟩ := h.ex
 exact ⟨e, lim, na, O, M, h1, h2, fun hO => by have := h1.own b hO; omega⟩
theorem WkIs.ext (h : WkIs w b p A big q r) (e : Ext w w') : WkIs w' b p A big q r := ⟨h.tx.ext e, e.ext_get h.obj, h.row.ext e, h.on⟩
theorem WkIs.tK (h : WkIs w b p A big q r) {K : Addr → Option Addr → World → Prop} (hK : K (at0 b) (some (at0 p)) w) : nn (some (at0 b)) (fun q => ld (.ptr) q (K q)) w := nn_some (ld_r (off := 0) h.obj rfl hK)
theorem WkIs.cK (h : WkIs w b p A big q r) {K : Addr → Int → World → Prop} (hK : K (at0 b) (q.2 : Int) w) : nn (some (at0 b)) (fun q => ld (.int .i64) (q.add 8) (K q)) w := nn_some (ld_r (off := 8) h.obj rfl hK)
theorem WkIs.lastK (h : WkIs w b p A big q r) {K : Addr → Int → World → Prop} (hK : K (at0 b) ((lnN A - 1 : Nat) : Int) w) : nn (some (at0 b)) (fun q => ld (.int .i64) (q.add 9) (K q)) w := nn_some (ld_r (off := 9) h.obj rfl hK)
theorem WkIs.bigK (h : WkIs w b p A big q r) {K : Addr → Bool → World → Prop} (hK : K (at0 b) big w) : nn (some (at0 b)) (fun q => ld (.bool) (q.add 10) (K q)) w := nn_some (ld_r (off := 10) h.obj rfl hK)
theorem WkIs.numK (h : WkIs w b p A big q r) {K : Addr → Int → World → Prop} (hK : K (at0 b) (q.1 : Int) w) : nn (some (at0 b)) (fun q => ld (.int .i64) ((q.add 1).add 4) (K q)) w := by
 rw [← h.row.num] at hK
 exact nn_some (ld_r (off := 5) h.obj rfl hK)
theorem WkIs.stK (h : WkIs w b p A big q r) {K : Addr → Sl → World → Prop} (hK : K (at0 b) r.2.2.2.2.2.2.1 w) : nn (some (at0 b)) (fun q => ld (.sl) ((q.add 1).add 6) (K q)) w := nn_some (ld_r (off := 7) h.obj rfl hK)
theorem WkIs.rowK (h : WkIs w b p A big q r) {K : Addr → RwT → World → Prop} (hK : K (at0 b) r w) : nn (some (at0 b)) (fun q => lds c72 (q.add 1) (K q)) w :=
 nn_some (lds_r (off := 1) h.obj (mv_cells (by rfl)) hK)
theorem WkIs.keepC (h : WkIs w b p A big q r) {K : World → Prop} (hK : K w) : keep (fun w => w.cell? ((at0 b).add 8) = some (Cell.val (.int .i64) (q.2 : Int))) K w := keep_r (cell_of (off := 8) h.obj rfl) hK
theorem WkIs.few (h : WkIs w b p A big q r) : q.2 ≤ (rowC A q.1).length ∧ (rowC A q.1).length ≤ 1048576 ∧ q.1 ≤ 1048576 ∧ lnN A ≤ 1048577 := by
 have h1 := h.row.few; have h2 := h.on.col; have h3 := h.on.row; have h4 := brs_le A; have h5 := h.row.len; have h6 := lnN_bounds A
 omega
theorem newwalk_call {x : Nat} {past : Bool} (h : TxA w p A) (hx : clampP A (x : Int) past = x) {K : Option Addr → World → Prop} (hK : ∀ b r w', WkIs w' b p A big (posP A (x : Int) past) r → w.heap.size ≤ b → Ext w w' → K (some (at0 b)) w') :
  callT Tryz.prog 102 #[.pointer (some (at0 p)), .int .i64 (x : Int), .bool past, .bool big] (.one (.one .ptr)) K w := by
 refine F102_calls ?_
 unfold F102
 have hb := lnN_bounds A; have hA := h.len; have hbl := brs_le A
 refine rowat_call h fun r w1 hr e1 => ?_
 refine (St.start w).ext e1 |>.newO fun b2 w2 S2 e2 => S2.aggSt 0 rfl rfl rfl rfl fun w3 S3 u3 => ?_
 have S3 : St (fun _ => False) w w3 [(b2, rwO r)] := S3
 have hr := (hr.ext e2).box (S2.at_ 0 rfl) (by decide) u3
 refine S3.drew fun w4 S4 e4 _ => S4.lds 0 r rfl (S4.lds 0 r rfl (mcol_call (hr.ext e4) fun w5 e5 => ?_))
 have S5 := S4.ext e5
 refine S5.keeps 0 (x := r) rfl ((h.ext S5.upd).count fun w6 e6 => ?_)
 have S6 := S5.ext e6
 refine S6.keeps 0 (x := r) rfl ?_
 have ewl : IntKind.wrap .i64 ((lnN A : Int) - 1) = ((lnN A - 1 : Nat) : Int) := by rw [wrap64 (by omega) (by omega)]; omega
 rw [ewl]
 have ep : (posP A (x : Int) past).2 = firstI (rowC A (rowI A (x : Int) past)) (x : Int) := by unfold posP; rw [hx]
 refine S6.newO fun b7 w7 S7 e7 => hK b7 r w7 ⟨?_, by rw [ep]; exact S7.at_ 0 rfl, ?_, (pos_is A (x : Int) past).1⟩ (S7.ge 0 rfl) S7.upd
 ·exact (h.toB (S7.ge 0 rfl)).ext S7.upd
 ·have := (((hr.ext e4).ext e5).ext e6).ext e7
  exact this
theorem wkat_call (h : WkIs w b p A big q r) {K : Int → World → Prop} (hK : ∀ w', Ext w w' → K (offP A q : Int) w') :
  callT Tryz.prog 105 #[.pointer (some (at0 b))] (.one (.one (.int .i64))) K w := by
 refine F105_calls ?_
 unfold F105
 refine drew_r fun w1 e1 _ => ?_
 have h1 := h.ext e1
 exact h1.rowK (h1.cK (mplace_call h1.row fun w2 e2 => hK w2 (e1.trans e2)))
theorem wkempty_call (h : WkIs w b p A big q r) {K : Bool → World → Prop} (hK : ∀ w', Ext w w' → K ((rowC A q.1).length == 0) w') :
  callT Tryz.prog 143 #[.pointer (some (at0 b))] (.one (.one .bool)) K w := by
 refine F143_calls ?_
 unfold F143
 refine h.rowK (clus_call h.row fun w2 e2 => ?_)
 have e : (((rowC A q.1).length : Int) == 0) = ((rowC A q.1).length == 0) := by rw [Bool.eq_iff_iff, beq_iff_eq, beq_iff_eq]; omega
 rw [e]; exact hK w2 e2
theorem prevW_plc {p q : Nat × Nat} (h : On A p) (hq : prevW A p = some q) : Plc A q := by
 have hb := lnN_bounds A; have hg := lnN_ge A; have hr := h.row; have hc := h.col
 unfold prevW at hq
 split at hq
 ·rename_i h0
  cases hq
  refine ⟨?_, .inl (by dsimp only; omega)⟩
  dsimp only
  rcases Nat.lt_or_ge p.1 (lnN A) with u | u
  ·exact u
  ·have hp : p.1 = brs A ∧ lnN A = brs A := by omega
   have := tail_nil hp.2
   rw [hp.1] at hc
   omega
 ·split at hq
  ·cases hq
  ·cases hq
   exact ⟨by dsimp only; omega, by dsimp only; omega⟩
theorem nextW_plc {p q : Nat × Nat} (h : On A p) (hq : nextW A p = some q) : Plc A q := by
 obtain ⟨_, h2, h3, _⟩ := nextW_on h hq
 exact ⟨h2, h3⟩
theorem wknext_call (h : WkIs w b p A big q r) {K : Bool → World → Prop} (hN : nextW A q = none → ∀ w', Ext w w' → K false w')
  (hS : ∀ q' r' w', nextW A q = some q' → WkIs w' b p A big q' r' → Upd (fun k => k = b) w w' → K true w') :
  callT Tryz.prog 103 #[.pointer (some (at0 b))] (.one (.one .bool)) K w := by
 refine F103_calls ?_
 unfold F103
 have fw := h.few; have hb := lnN_bounds A
 refine drew_r fun w1 e1 _ => ?_
 have h1 := h.ext e1
 refine h1.cK (h1.rowK (clus_call h1.row fun w2 e2 => ?_))
 have h2 := h1.ext e2
 refine h2.keepC ?_
 have ew : IntKind.wrap .i64 ((q.2 : Int) + 1) = ((q.2 + 1 : Nat) : Int) := by rw [wrap64 (by omega) (by omega)]; omega
 rw [ew]
 refine sif_r (fun hc => ?_) (fun hc => ?_)
 ·simp only [decide_eq_true_eq] at hc
  have hn : nextW A q = some (q.1, q.2 + 1) := by unfold nextW; rw [if_pos (by omega)]
  refine h2.cK (nn_some ?_)
  rw [ew]
  refine wk_col h2.obj fun w3 u3 n3 => ?_
  refine hS _ r w3 hn ⟨h2.tx.upd h2.obj (by decide) u3, n3, h2.row.box h2.obj (by decide) u3, (nextW_on h.on hn).1⟩ ?_
  exact (Upd.of_ext (e1.trans e2)).trans u3
 ·simp only [decide_eq_false_iff_not] at hc
  refine drew_r fun w3 e3 _ => ?_
  have h3 := h2.ext e3
  refine h3.numK (h3.lastK ?_)
  refine sif_r (fun hg => ?_) (fun hg => ?_)
  ·simp only [decide_eq_true_eq, ge_iff_le] at hg
   have hn : nextW A q = none := by unfold nextW; rw [if_neg (by omega), if_pos (by omega)]
   exact hN hn w3 ((e1.trans e2).trans e3)
  ·simp only [decide_eq_false_iff_not, ge_iff_le] at hg
   have hn : nextW A q = some (q.1 + 1, 0) := by unfold nextW; rw [if_neg (by omega), if_neg (by omega)]
   refine drew_r fun w4 e4 _ => ?_
   have h4 := h3.ext e4
   refine h4.tK (h4.numK ?_)
   have ewn : IntKind.wrap .i64 ((q.1 : Int) + 1) = ((q.1 + 1 : Nat) : Int) := by rw [wrap64 (by omega) (by omega)]; omega
   rw [ewn]
   have hon := (nextW_on h.on hn).1
   refine nrow_call h4.tx.ta hon.row fun r' w5 hr' e5 => ?_
   have h5 := h4.ext e5
   refine nn_some (wk_row h5.obj fun w6 u6 n6 => nn_some (wk_col n6 fun w7 u7 n7 => ?_))
   refine hS _ r' w7 hn ⟨(h5.tx.upd h5.obj (by decide) u6).upd n6 (by decide) u7, n7, (hr'.box h5.obj (by decide) u6).box n6 (by decide) u7, hon⟩ ?_
   exact (Upd.of_ext ((((e1.trans e2).trans e3).trans e4).trans e5)).trans (u6.trans u7)
theorem wkprev_call (h : WkIs w b p A big q r) {K : Bool → World → Prop} (hN : prevW A q = none → ∀ w', Ext w w' → K false w')
  (hS : ∀ q' r' w', prevW A q = some q' → WkIs w' b p A big q' r' → Upd (fun k => k = b) w w' → K true w') :
  callT Tryz.prog 134 #[.pointer (some (at0 b))] (.one (.one .bool)) K w := by
 refine F134_calls ?_
 unfold F134
 have fw := h.few; have hb := lnN_bounds A
 refine h.cK (sif_r (fun hc => ?_) (fun hc => ?_))
 ·simp only [decide_eq_true_eq, gt_iff_lt] at hc
  have hn : prevW A q = some (q.1, q.2 - 1) := by unfold prevW; rw [if_pos (by omega)]
  have ew : IntKind.wrap .i64 ((q.2 : Int) - 1) = ((q.2 - 1 : Nat) : Int) := by rw [wrap64 (by omega) (by omega)]; omega
  refine h.cK (nn_some ?_)
  rw [ew]
  refine wk_col h.obj fun w3 u3 n3 => ?_
  exact hS _ r w3 hn ⟨h.tx.upd h.obj (by decide) u3, n3, h.row.box h.obj (by decide) u3, (prevW_plc h.on hn).on⟩ u3
 ·simp only [decide_eq_false_iff_not, gt_iff_lt] at hc
  refine h.numK (sif_r (fun hg => ?_) (fun hg => ?_))
  ·simp only [beq_iff_eq] at hg
   have hn : prevW A q = none := by unfold prevW; rw [if_neg (by omega), if_pos (by omega)]
   exact hN hn w (Ext.refl w)
  ·simp only [beq_eq_false_iff_ne, ne_eq] at hg
   have hn : prevW A q = some (q.1 - 1, (rowC A (q.1 - 1)).length - 1) := by unfold prevW; rw [if_neg (by omega), if_neg (by omega)]
   refine drew_r fun w4 e4 _ => ?_
   have h4 := h.ext e4
   refine h4.tK (h4.numK ?_)
   have ewn : IntKind.wrap .i64 ((q.1 : Int) - 1) = ((q.1 - 1 : Nat) : Int) := by rw [wrap64 (by omega) (by omega)]; omega
   rw [ewn]
   have hon := (prevW_plc h.on hn).on
   refine nrow_call h4.tx.ta hon.row fun r' w5 hr' e5 => ?_
   have h5 := h4.ext e5
   refine nn_some (wk_row h5.obj fun w6 u6 n6' => ?_)
   have hr6 := hr'.box h5.obj (by decide) u6
   have fw6 := hr6.few
   refine nn_some (lds_r (off := 1) (x := r') n6' (mv_cells (by rfl)) (clus_call hr6 fun w7 e7 => ?_))
   have n7' := e7.ext_get n6'
   have hr7 := hr6.ext e7
   dsimp only at fw6
   rw [wrap64 (by dsimp only; omega) (by dsimp only; omega)]
   have em : (if (0 : Int) > (((rowC A (q.1 - 1)).length : Nat) : Int) - 1 then (0 : Int) else (((rowC A (q.1 - 1)).length : Nat) : Int) - 1) = (((rowC A (q.1 - 1)).length - 1 : Nat) : Int) := by split <;> omega
   rw [em]
   refine nn_some (wk_col n7' fun w8 u8 n8' => ?_)
   refine hS _ r' w8 hn ⟨((h5.tx.upd h5.obj (by decide) u6).ext e7).upd n7' (by decide) u8, n8', hr7.box n7' (by decide) u8, hon⟩ ?_
   exact (Upd.of_ext (e4.trans e5)).trans ((u6.trans (Upd.of_ext e7)).trans u8)
theorem kb_ne {C : List Cel} {i j : Nat} {b : Bool} : (((kindB C i b : Nat) : Int) != ((kindB C j b : Nat) : Int)) = (kindB C i b != kindB C j b) := by rw [Bool.eq_iff_iff, bne_iff_ne, bne_iff_ne]; omega
theorem kb_zero {C : List Cel} {i : Nat} {b : Bool} : (((kindB C i b : Nat) : Int) != 0) = (kindB C i b != 0) := by rw [Bool.eq_iff_iff, bne_iff_ne, bne_iff_ne]; omega
theorem wkbegins_call (h : WkIs w b p A big q r) (hp : Plc A q) {K : Bool → World → Prop} (hK : ∀ w', Ext w w' → K (begB A big q) w') :
  callT Tryz.prog 104 #[.pointer (some (at0 b))] (.one (.one .bool)) K w := by
 refine F104_calls ?_
 unfold F104
 have fw := h.few; have hrow := hp.row
 unfold begB at hK
 refine wkempty_call h fun w1 e1 => ?_
 have h1 := h.ext e1
 refine sif_r (fun hc => ?_) (fun hc => ?_)
 ·rw [hc] at hK
  refine drew_r fun w2 e2 _ => ?_
  have h2 := h1.ext e2
  refine h2.numK (h2.lastK ?_)
  rw [decide_eq_true (by omega)]
  exact hK w2 (e1.trans e2)
 ·rw [hc, Bool.false_or] at hK
  have hlen : (rowC A q.1).length ≠ 0 := by simpa using hc
  have hcol : q.2 < (rowC A q.1).length := by have := hp.col; omega
  refine drew_r fun w2 e2 _ => ?_
  have h2 := h1.ext e2
  refine h2.rowK (h2.cK (h2.bigK (mkind_call h2.row hcol fun w3 e3 => drew_r fun w4 e4 _ => ?_)))
  have h4 := (h2.ext e3).ext e4
  have e04 := ((e1.trans e2).trans e3).trans e4
  rw [kb_zero]
  refine sif_r (fun hk => ?_) (fun hk => ?_)
  ·rw [hk, Bool.true_and] at hK
   refine h4.cK (sif_r (fun hz => ?_) (fun hz => ?_))
   ·simp only [beq_iff_eq] at hz
    have := hK w4 e04
    rw [show (q.2 == 0) = true by rw [beq_iff_eq]; omega, Bool.true_or] at this
    exact this
   ·simp only [beq_eq_false_iff_ne, ne_eq] at hz
    have ew : IntKind.wrap .i64 ((q.2 : Int) - 1) = ((q.2 - 1 : Nat) : Int) := by rw [wrap64 (by omega) (by omega)]; omega
    refine h4.rowK (h4.cK (h4.bigK ?_))
    rw [ew]
    refine mkind_call h4.row (j := q.2 - 1) (by omega) fun w5 e5 => ?_
    have := hK w5 (e04.trans e5)
    rw [show (q.2 == 0) = false by rw [beq_eq_false_iff_ne]; omega, Bool.false_or, ← kb_ne] at this
    exact this
  ·rw [hk, Bool.false_and] at hK
   exact hK w4 e04
theorem wkends_call (h : WkIs w b p A big q r) (hp : (rowC A q.1).length = 0 → q.1 < lnN A) {K : Bool → World → Prop} (hK : ∀ w', Ext w w' → K (endB A big q) w') :
  callT Tryz.prog 157 #[.pointer (some (at0 b))] (.one (.one .bool)) K w := by
 refine F157_calls ?_
 unfold F157
 have fw := h.few
 unfold endB at hK
 refine wkempty_call h fun w1 e1 => ?_
 have h1 := h.ext e1
 refine sif_r (fun hc => ?_) (fun hc => ?_)
 ·rw [hc] at hK
  have := hp (by simpa using hc)
  refine drew_r fun w2 e2 _ => ?_
  have h2 := h1.ext e2
  refine h2.numK (h2.lastK ?_)
  rw [decide_eq_true (by omega)]
  exact hK w2 (e1.trans e2)
 ·rw [hc, Bool.false_or] at hK
  refine drew_r fun w2 e2 _ => ?_
  have h2 := h1.ext e2
  refine h2.cK (h2.rowK (clus_call h2.row fun w3 e3 => (h2.ext e3).keepC ?_))
  have h3 := h2.ext e3
  have e03 := (e1.trans e2).trans e3
  refine sif_r (fun hg => ?_) (fun hg => ?_)
  ·simp only [decide_eq_true_eq, ge_iff_le] at hg
   rw [decide_eq_false (show ¬ q.2 < (rowC A q.1).length by omega), Bool.false_and, Bool.false_and] at hK
   exact hK w3 e03
  ·simp only [decide_eq_false_iff_not, ge_iff_le] at hg
   have hcol : q.2 < (rowC A q.1).length := by omega
   rw [decide_eq_true hcol, Bool.true_and] at hK
   refine drew_r fun w4 e4 _ => ?_
   have h4 := h3.ext e4
   refine h4.rowK (h4.cK (h4.bigK (mkind_call h4.row hcol fun w5 e5 => drew_r fun w6 e6 _ => ?_)))
   have h6 := (h4.ext e5).ext e6
   have e06 := ((e03.trans e4).trans e5).trans e6
   rw [kb_zero]
   refine sif_r (fun hk => ?_) (fun hk => ?_)
   ·rw [hk, Bool.true_and] at hK
    refine h6.cK (h6.rowK (clus_call h6.row fun w7 e7 => (h6.ext e7).keepC ?_))
    have h7 := h6.ext e7
    have ew : IntKind.wrap .i64 ((q.2 : Int) + 1) = ((q.2 + 1 : Nat) : Int) := by rw [wrap64 (by omega) (by omega)]; omega
    rw [ew]
    refine sif_r (fun hz => ?_) (fun hz => ?_)
    ·simp only [beq_iff_eq] at hz
     have := hK w7 (e06.trans e7)
     rw [show (q.2 + 1 == (rowC A q.1).length) = true by rw [beq_iff_eq]; omega, Bool.true_or] at this
     exact this
    ·simp only [beq_eq_false_iff_ne, ne_eq] at hz
     refine h7.rowK (h7.cK (h7.bigK ?_))
     rw [ew]
     refine mkind_call h7.row (j := q.2 + 1) (by omega) fun w8 e8 => ?_
     have := hK w8 ((e06.trans e7).trans e8)
     rw [show (q.2 + 1 == (rowC A q.1).length) = false by rw [beq_eq_false_iff_ne]; omega, Bool.false_or, ← kb_ne] at this
     exact this
   ·rw [hk, Bool.false_and] at hK
    exact hK w6 e06
theorem ending_call (h : WkIs w b p A big q r) {K : Bool → World → Prop} (hK : ∀ w', Ext w w' → K (endN A big q) w') :
  callT Tryz.prog 156 #[.pointer (some (at0 b))] (.one (.one .bool)) K w := by
 refine F156_calls ?_
 unfold F156
 unfold endN at hK
 refine wkempty_call h fun w1 e1 => sif_r (fun hc => ?_) (fun hc => ?_)
 ·have hn : (rowC A q.1).length ≠ 0 := by simpa using hc
  rw [show ((rowC A q.1).length != 0) = true by rw [bne_iff_ne]; exact hn, Bool.true_and] at hK
  exact wkends_call (h.ext e1) (fun h0 => absurd h0 hn) fun w2 e2 => hK w2 (e1.trans e2)
 ·have hn : (rowC A q.1).length = 0 := by simpa using hc
  rw [show ((rowC A q.1).length != 0) = false by rw [bne_eq_false_iff_eq]; exact hn, Bool.false_and] at hK
  exact hK w1 e1
end
namespace Mot
def brkL : List Int := [40, 91, 123, 41, 93, 125]
theorem sort_at {c : Cel} (ha : c.alone = true) {b : Nat} (hb : b < 6) (h : c.atom = brkL.getD b 0) : sortB c = some b := by
 rcases (by omega : b = 0 ∨ b = 1 ∨ b = 2 ∨ b = 3 ∨ b = 4 ∨ b = 5) with rfl | rfl | rfl | rfl | rfl | rfl <;> simp [sortB, ha, h, brkL]
theorem sort_none {c : Cel} (h : ∀ j, j < 6 → c.atom ≠ brkL.getD j 0) : sortB c = none := by
 have h0 := h 0 (by decide); have h1 := h 1 (by decide); have h2 := h 2 (by decide); have h3 := h 3 (by decide); have h4 := h 4 (by decide); have h5 := h 5 (by decide)
 simp [brkL] at h0 h1 h2 h3 h4 h5
 simp [sortB, h0, h1, h2, h3, h4, h5]
theorem cel_alone {A : List Int} {i j : Nat} {c : Cel} (h : i ≤ brs A) (hc : (rowC A i)[j]? = some c) : c.alone = decide (bndR A i (j + 1) = bndR A i j + 1) := by
 have hl := (List.getElem?_eq_some_iff.1 hc).1
 obtain ⟨_, _, _, _, q⟩ := lineC_at (row_ok h).ft (by have := (row_ok h).tn; have := (row_ok h).nl; omega) hc
 have h1 := cel_to h hc
 have h2 : c.from_ = placeR A i (j : Int) := by rw [placeR_lt hl, frm_of hc]
 have h3 := bnd_place h j
 have h4 := bnd_place h (j + 1)
 rw [q.alone, Bool.eq_iff_iff, decide_eq_true_eq, decide_eq_true_eq]
 omega
end Mot
theorem recv_x {g : FuncId} {recv : Array Value} {t : RTy} {K : t.T → World → Prop} {w : World} (hf : ((Tryz.prog.funcs[g]?).map fun fn => (fn.body.isNone, fn.name == "runtime.NumGoroutine")) = some (false, false)) (h : callT Tryz.prog g recv t K w) :
  callX Tryz.prog (do let d ← Deferred.ofValue (.func (.func g) recv #[]) #[]; invoke d.target d.args : Sem Next) t K w := by
 refine .inl ⟨g, recv, ?_, h⟩
 have := run_callFunc (P := Tryz.prog) (f := g) (args := recv) hf w
 simp only [Deferred.ofValue, pure_bind, invoke]
 have e : (recv ++ #[] ++ #[] : Array Value) = recv := by simp
 first
  | exact this
  | (rw [e]; exact this)
section
variable {w w' : World} {b p : Nat} {A : List Int} {big : Bool} {q : Nat × Nat} {r : RwT}
theorem bracket_call (h : WkIs w b p A big q r) {K : Int → World → Prop} (hK : ∀ w', Ext w w' → K (match brkP A q with | some n => (n : Int) | none => -1) w') :
  callT Tryz.prog 133 #[.pointer (some (at0 b))] (.one (.one (.int .i64))) K w := by
 refine F133_calls ?_
 unfold F133
 have fw := h.few
 have sl := h.row.slen
 have hrow := h.row.row
 unfold brkP at hK
 have ewp : IntKind.wrap .i64 ((q.2 : Int) + 1) = ((q.2 + 1 : Nat) : Int) := by rw [wrap64 (by omega) (by omega)]; omega
 refine join_r (fun y W => y = (decide (¬ ∃ c, (rowC A q.1)[q.2]? = some c ∧ c.alone = true), ()) ∧ Ext w W) ?_ ?_
 ·refine drew_r fun w1 e1 _ => ?_
  have h1 := h.ext e1
  refine h1.cK (h1.rowK (clus_call h1.row fun w2 e2 => (h1.ext e2).keepC ?_))
  have h2 := h1.ext e2
  refine sif_r (fun hg => ?_) (fun hg => ?_)
  ·simp only [decide_eq_true_eq, ge_iff_le] at hg
   refine ⟨?_, e1.trans e2⟩
   rw [decide_eq_true]
   rintro ⟨c, hc, _⟩
   have := (List.getElem?_eq_some_iff.1 hc).1
   omega
  ·simp only [decide_eq_false_iff_not, ge_iff_le] at hg
   obtain ⟨c, hc⟩ := cel_get (C := rowC A q.1) (j := q.2) (by omega)
   refine h2.stK (h2.cK ?_)
   rw [ewp]
   refine ix_ld (c := .int .i64) (xs := bndL A q.1) h2.row.starts (by omega) (x := (bndR A q.1 (q.2 + 1) : Int)) (by rw [Int.toNat_natCast]; exact bndL_at (by omega)) fun p1 => h2.stK (h2.cK ?_)
   refine ix_ld (c := .int .i64) (xs := bndL A q.1) h2.row.starts (by omega) (x := (bndR A q.1 q.2 : Int)) (by rw [Int.toNat_natCast]; exact bndL_at (by omega)) fun p2 => ⟨?_, e1.trans e2⟩
   have b1 := bnd_lt hrow (c := q.2) (d := q.2 + 1) (by omega) (by omega)
   have b2 := bk_le (bnd_bk hrow (c := q.2 + 1) (by omega))
   have b3 := rowB_length hrow
   have fr := h.row.few
   rw [wrap64 (by omega) (by omega)]
   refine tupb ?_
   have ha := cel_alone hrow hc
   simp only [decide_eq_true_eq, gt_iff_lt]
   constructor
   ·rintro hd ⟨c', hc', ha'⟩
    rw [hc] at hc'; cases hc'
    rw [ha] at ha'
    have := of_decide_eq_true ha'
    omega
   ·intro hn
    have : c.alone = false := by
     cases hcs : c.alone with
     | false => rfl
     | true => exact absurd ⟨c, hc, hcs⟩ hn
    rw [ha] at this
    have := of_decide_eq_false this
    omega
 rintro _ W ⟨rfl, eW⟩
 refine sif_r (fun hc => ?_) (fun hc => ?_)
 ·have hc := of_decide_eq_true hc
  have := hK W eW
  have hnone : (rowC A q.1)[q.2]?.bind sortB = none := by
   cases hg : (rowC A q.1)[q.2]? with
   | none => rfl
   | some c =>
    show sortB c = none
    cases ha : c.alone with
    | true => exact absurd ⟨c, hg, ha⟩ hc
    | false => simp [sortB, ha]
  rw [hnone] at this
  exact this
 ·have hc := of_decide_eq_false hc
  have hc : ∃ c, (rowC A q.1)[q.2]? = some c ∧ c.alone = true := Classical.byContradiction hc
  obtain ⟨c, hc, ha⟩ := hc
  rw [hc] at hK
  have hK : ∀ w', Ext w w' → K (match sortB c with | some n => (n : Int) | none => -1) w' := hK
  refine join_r (fun _ W => (∀ j, j < 6 → c.atom ≠ brkL.getD j 0) ∧ Ext w W) ?_ (fun _ W hW => by have := hK W hW.2; rw [sort_none hW.1] at this; exact this)
  refine sloop_r (fun x W => ∃ j : Nat, x = ((j : Int), ()) ∧ j ≤ 6 ∧ (∀ i, i < j → c.atom ≠ brkL.getD i 0) ∧ Ext w W) (fun x _ => (6 - x.1).toNat) ⟨0, rfl, Nat.zero_le _, fun i hi => by omega, eW⟩ ?_
  rintro _ W1 ⟨j, rfl, hj, hno, eW1⟩
  dsimp only
  refine sif_r (fun hg => ?_) (fun hg => ?_)
  ·simp only [decide_eq_true_eq] at hg
   refine drew_r fun w2 e2 _ => ?_
   have h2 := h.ext (eW1.trans e2)
   refine h2.rowK (h2.cK ?_)
   obtain ⟨y, hy, hyv⟩ : ∃ y : UInt8, ({ data := #[40, 91, 123, 41, 93, 125] } : ByteArray)[((j : Int)).toNat]? = some y ∧ ((y.toNat : Nat) : Int) = brkL.getD j 0 := by
    rcases (by omega : j = 0 ∨ j = 1 ∨ j = 2 ∨ j = 3 ∨ j = 4 ∨ j = 5) with rfl | rfl | rfl | rfl | rfl | rfl <;> exact ⟨_, rfl, rfl⟩
   have hyb := y.toNat_lt
   refine ⟨y, ⟨by omega, hy⟩, mfirst_call h2.row hc fun w3 e3 => ?_⟩
   have e03 := (eW1.trans e2).trans e3
   rw [wrap64 (by omega) (by omega), hyv]
   have ew : IntKind.wrap .i64 ((j : Int) + 1) = ((j + 1 : Nat) : Int) := by rw [wrap64 (by omega) (by omega)]; omega
   rw [ew]
   refine sif_r (fun he => ?_) (fun he => ?_)
   ·simp only [beq_iff_eq] at he
    have := hK w3 e03
    rw [sort_at ha (by omega) he] at this
    exact this
   ·simp only [beq_eq_false_iff_ne, ne_eq] at he
    refine ⟨⟨j + 1, rfl, by omega, fun i hi => ?_, e03⟩, by omega⟩
    by_cases hij : i = j
    ·subst hij; exact he
    ·exact hno i (by omega)
  ·simp only [decide_eq_false_iff_not] at hg
   exact ⟨fun i hi => hno i (by omega), eW1⟩
theorem forward_call {f : Nat × Nat → Bool} {met : Value} {bm kk : Nat} {s c arg goal : Int} {cd past bg : Bool} {r0 : RwT} (hm : w.heap[bm]? = some (mvO p s c (kk : Int) cd arg goal past bg r0)) (hk : kk ≤ 9999) (h : WkIs w b p A big q r)
  (hmet : ∀ q' r' W (K : Bool → World → Prop), WkIs W b p A big q' r' → Plc A q' → (∀ W', Ext W W' → K (f q') W') → callX Tryz.prog (do let d ← Deferred.ofValue met #[.pointer (some (at0 b))]; invoke d.target d.args : Sem Next) (.one (.one .bool)) K W)
  {K : Bool → World → Prop} (hF : (if kk = 0 then some q else foreW A f q kk) = none → ∀ w', Upd (fun k => k = b) w w' → K false w')
  (hT : ∀ q' r' w', (if kk = 0 then some q else foreW A f q kk) = some q' → WkIs w' b p A big q' r' → Upd (fun k => k = b) w w' → K true w') :
  callT Tryz.prog 154 #[.pointer (some (at0 bm)), .pointer (some (at0 b)), met] (.one (.one .bool)) K w := by
 refine F154_calls ?_
 unfold F154
 generalize htg : (if kk = 0 then some q else foreW A f q kk) = tg at hF hT
 refine join_r (fun _ W => ∃ q' r', tg = some q' ∧ WkIs W b p A big q' r' ∧ Upd (fun k => k = b) w W) ?_ (fun _ W ⟨q', r', h1, h2, h3⟩ => hT q' r' W h1 h2 h3)
 refine nn_some (ld_r (off := 3) (x := (kk : Int)) hm rfl ?_)
 refine sloop_g (fun (g : Nat × (Nat × Nat) × RwT) x W => x = ((g.1 : Int), ()) ∧ g.1 ≤ 9999 ∧ WkIs W b p A big g.2.1 g.2.2 ∧ Upd (fun k => k = b) w W ∧ (if g.1 = 0 then some g.2.1 else foreW A f g.2.1 g.1) = tg) (fun g => (aft A g.2.1).length) (kk, q, r) ⟨rfl, hk, h, Upd.refl _ _, htg⟩ ?_
 rintro ⟨k, q', r'⟩ _ W R ⟨rfl, hk', hW, uW, ht⟩ hR
 dsimp only at hW hk' ht hR ⊢
 refine sif_r (fun hc => ?_) (fun hc => ?_)
 ·simp only [decide_eq_true_eq, gt_iff_lt] at hc
  rw [if_neg (by omega)] at ht
  refine wknext_call hW (fun hn W1 e1 => ?_) (fun q2 r2 W1 hn hW1 u1 => ?_)
  ·refine sif_true (hF ?_ W1 (uW.trans (Upd.of_ext e1)))
   rw [← ht]; exact foreW_none hn
  ·refine sif_false (hmet q2 r2 W1 _ hW1 (nextW_plc hW.on hn) fun W2 e2 => ?_)
   have u2 := (uW.trans u1).trans (Upd.of_ext e2)
   have hlen : (aft A q2).length < (aft A q').length := by rw [aft_some hn]; simp
   refine sif_r (fun hf => ?_) (fun hf => ?_)
   ·have ew : IntKind.wrap .i64 ((k : Int) - 1) = ((k - 1 : Nat) : Int) := by rw [wrap64 (by omega) (by omega)]; omega
    rw [ew]
    refine hR (k - 1, q2, r2) _ W2 ⟨rfl, by dsimp only; omega, hW1.ext e2, u2, ?_⟩ hlen
    dsimp only
    rw [← ht]
    by_cases h1 : k = 1
    ·subst h1
     rw [if_pos rfl, foreW_one hn hf]
    ·rw [if_neg (by omega)]
     have := foreW_more (k := k - 1) hn hf (by omega)
     rw [show k - 1 + 1 = k by omega] at this
     exact this.symm
   ·refine hR (k, q2, r2) _ W2 ⟨rfl, hk', hW1.ext e2, u2, ?_⟩ hlen
    dsimp only
    rw [if_neg (by omega), ← ht]
    exact (foreW_no hn hf).symm
 ·simp only [decide_eq_false_iff_not, gt_iff_lt] at hc
  rw [if_pos (by omega)] at ht
  exact ⟨q', r', ht.symm, hW, uW⟩
theorem backward_call {f : Nat × Nat → Bool} {met : Value} {bm kk : Nat} {s c arg goal : Int} {cd past bg : Bool} {r0 : RwT} (hm : w.heap[bm]? = some (mvO p s c (kk : Int) cd arg goal past bg r0)) (hk : 1 ≤ kk ∧ kk ≤ 9999) (h : WkIs w b p A big q r)
  (hmet : ∀ q' r' W (K : Bool → World → Prop), WkIs W b p A big q' r' → Plc A q' → (∀ W', Ext W W' → K (f q') W') → callX Tryz.prog (do let d ← Deferred.ofValue met #[.pointer (some (at0 b))]; invoke d.target d.args : Sem Next) (.one (.one .bool)) K W)
  {K : Bool → World → Prop} (hF : backW A f q kk = none → ∀ w', Upd (fun k => k = b) w w' → K false w')
  (hT : ∀ q' r' w', backW A f q kk = some q' → WkIs w' b p A big q' r' → Upd (fun k => k = b) w w' → K true w') :
  callT Tryz.prog 155 #[.pointer (some (at0 bm)), .pointer (some (at0 b)), met] (.one (.one .bool)) K w := by
 refine F155_calls ?_
 unfold F155
 generalize htg : backW A f q kk = tg at hF hT
 refine join_r (fun _ W => ∃ q' r', tg = some q' ∧ WkIs W b p A big q' r' ∧ Upd (fun k => k = b) w W) ?_ (fun _ W ⟨q', r', h1, h2, h3⟩ => hT q' r' W h1 h2 h3)
 refine nn_some (ld_r (off := 3) (x := (kk : Int)) hm rfl ?_)
 refine sloop_g (fun (g : Nat × (Nat × Nat) × RwT) x W => x = ((g.1 : Int), ()) ∧ g.1 ≤ 9999 ∧ WkIs W b p A big g.2.1 g.2.2 ∧ Upd (fun k => k = b) w W ∧ (if g.1 = 0 then some g.2.1 else backW A f g.2.1 g.1) = tg) (fun g => (bef A g.2.1).length) (kk, q, r) ⟨rfl, hk.2, h, Upd.refl _ _, by dsimp only; rw [if_neg (by omega)]; exact htg⟩ ?_
 rintro ⟨k, q', r'⟩ _ W R ⟨rfl, hk', hW, uW, ht⟩ hR
 dsimp only at hW hk' ht hR ⊢
 refine sif_r (fun hc => ?_) (fun hc => ?_)
 ·simp only [decide_eq_true_eq, gt_iff_lt] at hc
  rw [if_neg (by omega)] at ht
  refine wkprev_call hW (fun hn W1 e1 => ?_) (fun q2 r2 W1 hn hW1 u1 => ?_)
  ·refine sif_true (hF ?_ W1 (uW.trans (Upd.of_ext e1)))
   rw [← ht]; exact backW_none hn
  ·refine sif_false (hmet q2 r2 W1 _ hW1 (prevW_plc hW.on hn) fun W2 e2 => ?_)
   have u2 := (uW.trans u1).trans (Upd.of_ext e2)
   have hlen : (bef A q2).length < (bef A q').length := by rw [bef_some hn]; simp
   refine sif_r (fun hf => ?_) (fun hf => ?_)
   ·have ew : IntKind.wrap .i64 ((k : Int) - 1) = ((k - 1 : Nat) : Int) := by rw [wrap64 (by omega) (by omega)]; omega
    rw [ew]
    refine hR (k - 1, q2, r2) _ W2 ⟨rfl, by dsimp only; omega, hW1.ext e2, u2, ?_⟩ hlen
    dsimp only
    rw [← ht]
    by_cases h1 : k = 1
    ·subst h1
     rw [if_pos rfl, backW_one hn hf]
    ·rw [if_neg (by omega)]
     have := backW_more (k := k - 1) hn hf (by omega)
     rw [show k - 1 + 1 = k by omega] at this
     exact this.symm
   ·refine hR (k, q2, r2) _ W2 ⟨rfl, hk', hW1.ext e2, u2, ?_⟩ hlen
    dsimp only
    rw [if_neg (by omega), ← ht]
    exact (backW_no hn hf).symm
 ·simp only [decide_eq_false_iff_not, gt_iff_lt] at hc
  rw [if_pos (by omega)] at ht
  exact ⟨q', r', ht.symm, hW, uW⟩
theorem begins_met {W : World} {q' : Nat × Nat} {r' : RwT} {K : Bool → World → Prop} (h : WkIs W b p A big q' r') (hp : Plc A q') (hK : ∀ W', Ext W W' → K (begB A big q') W') : callX Tryz.prog (do let d ← Deferred.ofValue (.func (.func 104) #[] #[]) #[.pointer (some (at0 b))]; invoke d.target d.args : Sem Next) (.one (.one .bool)) K W :=
 func_x (caps := #[]) (by kernel_rfl) (wkbegins_call h hp hK)
theorem ends_met {W : World} {q' : Nat × Nat} {r' : RwT} {K : Bool → World → Prop} (h : WkIs W b p A big q' r') (hp : Plc A q') (hK : ∀ W', Ext W W' → K (endB A big q') W') : callX Tryz.prog (do let d ← Deferred.ofValue (.func (.func 157) #[] #[]) #[.pointer (some (at0 b))]; invoke d.target d.args : Sem Next) (.one (.one .bool)) K W :=
 func_x (caps := #[]) (by kernel_rfl) (wkends_call h (fun _ => hp.row) hK)
theorem ending_met {W : World} {q' : Nat × Nat} {r' : RwT} {K : Bool → World → Prop} (h : WkIs W b p A big q' r') (hp : Plc A q') (hK : ∀ W', Ext W W' → K (endN A big q') W') : callX Tryz.prog (do let d ← Deferred.ofValue (.func (.func 156) #[] #[]) #[.pointer (some (at0 b))]; invoke d.target d.args : Sem Next) (.one (.one .bool)) K W :=
 func_x (caps := #[]) (by kernel_rfl) (ending_call h hK)
end
namespace Mot
variable {A : List Int}
theorem pos_clamp (A : List Int) (x : Int) (past : Bool) : posP A (clampP A x past : Int) past = posP A x past := by
 obtain ⟨h1, h2, h3⟩ := pos_is A x past
 rw [← h2]; exact pos_of h1 h3
theorem clamp_len (A : List Int) : clampP A (A.length : Int) false = lastPl A := by
 have hb := lnN_bounds A
 have hr : rowI A (A.length : Int) false = lnN A - 1 := by
  unfold rowI ofI
  rw [if_neg (by decide), inT_of (Nat.le_refl _), ← brs_nb]; omega
 have ok := row_ok (A := A) (i := lnN A - 1) (by omega)
 unfold clampP
 rw [hr, inT_of (Nat.le_refl _), if_pos (by have := ok.tn; have := ok.nl; omega), if_neg (by decide)]; rfl
noncomputable def wordR (A : List Int) (x count : Int) (past big : Bool) : Ld :=
 if (afterL (marksP A (begB A big)) (clampP A x past + 1) (kOf count)).getD (if past then (rowL A (lnN A - 1)).to_ else lastPl A) ≤ clampP A x past then noP 80
 else landP A ((afterL (marksP A (begB A big)) (clampP A x past + 1) (kOf count)).getD (if past then (rowL A (lnN A - 1)).to_ else lastPl A)) 0
noncomputable def backR (A : List Int) (x count : Int) (past big : Bool) : Ld :=
 if clampP A x past = 0 then noP 80 else landP A ((beforeL (marksP A (begB A big)) (clampP A x past) (kOf count)).getD 0) 0
noncomputable def wendR (A : List Int) (x count : Int) (past big : Bool) : Ld :=
 if (afterL (marksP A (endN A big)) (clampP A x past + 1) (kOf count)).getD (lastPl A) ≤ clampP A x past then noP 80
 else landP A ((afterL (marksP A (endN A big)) (clampP A x past + 1) (kOf count)).getD (lastPl A)) 1
noncomputable def bendR (A : List Int) (x count : Int) (past big : Bool) : Ld :=
 if clampP A x past = 0 then noP 80 else landP A ((beforeL (marksP A (endB A big)) (clampP A x past) (kOf count)).getD 0) 1
noncomputable def restR (A : List Int) (x count : Int) (past big : Bool) : Ld :=
 landP A ((afterL (marksP A (endN A big)) (clampP A x past) (kOf count)).getD (max (lastPl A) (clampP A x past))) 1
theorem end_plc {big : Bool} {p : Nat × Nat} (h : On A p) (he : endN A big p = true) : Plc A p := by
 have hb := lnN_bounds A; have hg := lnN_ge A; have hr := h.row
 unfold endN endB at he
 rw [Bool.and_eq_true, bne_iff_ne] at he
 obtain ⟨h0, h1⟩ := he
 rw [show ((rowC A p.1).length == 0) = false by rw [beq_eq_false_iff_ne]; exact h0, Bool.false_or, Bool.and_eq_true, Bool.and_eq_true, decide_eq_true_eq] at h1
 refine ⟨?_, .inl h1.1.1⟩
 rcases Nat.lt_or_ge p.1 (lnN A) with u | u
 ·exact u
 ·have hp : p.1 = brs A ∧ lnN A = brs A := by omega
  have := tail_nil hp.2
  rw [hp.1] at h0
  exact absurd this h0
end Mot
section
variable {w w' : World} {b p : Nat} {A : List Int} {x count arg goal : Int} {past big : Bool} {r : RwT}
structure TxN (w : World) (p : Nat) (A : List Int) (N : Nat) : Prop where
 ex : ∃ e lim na O M, Txt w p e lim na O M ∧ atoms (aOf e M) = A ∧ ∀ k, O k → k < N
theorem TxA.n (h : TxA w p A) : TxN w p A w.heap.size := by
 obtain ⟨e, lim, na, O, M, h1, h2⟩ := h.ex
 exact ⟨e, lim, na, O, M, h1, h2, h1.own⟩
theorem TxN.ext {N : Nat} (h : TxN w p A N) (x : Ext w w') : TxN w' p A N := by
 obtain ⟨e, lim, na, O, M, h1, h2, h3⟩ := h.ex
 exact ⟨e, lim, na, O, M, h1.ext x, h2, h3⟩
theorem TxN.toB {N : Nat} (h : TxN w p A N) (hb : N ≤ b) : TxB w p A b := by
 obtain ⟨e, lim, na, O, M, h1, h2, h3⟩ := h.ex
 exact ⟨e, lim, na, O, M, h1, h2, fun hO => by have := h3 b hO; omega⟩
theorem TxN.upd {N : Nat} {c : Array Value} {fr : Nat × Nat} {t : TypeId} (h : TxN w p A N) (hN : N ≤ b) (hb : w.heap[b]? = some (.cells c t fr)) (ht : 139 ≠ t) (u : Upd (fun k => k = b) w w') : TxN w' p A N := by
 obtain ⟨e, lim, na, O, M, h1, h2, h3⟩ := h.ex
 refine ⟨e, lim, na, O, M, h1.upd u (fun k hk hk2 => by subst hk2; have := h3 k hk; omega) (fun k hk c' fr' hn => ?_), h2, h3⟩
 subst hk
 rw [hb] at hn
 cases hn
 exact ht rfl
theorem mvat_raw {s c k arg goal : Int} {cd past bg : Bool} {r0 : RwT} (ht : TxA w p A) (hm : w.heap[b]? = some (mvO p s c k cd arg goal past bg r0)) {n : Nat} {kind : Int} {K : LdT → World → Prop} (hK : ∀ w', Ext w w' → K (ldT (landP A n kind)) w') :
  callT Tryz.prog 121 #[.pointer (some (at0 b)), .int .i64 (n : Int), .int .i64 kind] (.tup [(.agg c43), (.one (.int .i64))]) K w := by
 refine F121_calls ?_
 unfold F121
 refine (St.start w).newO fun b1 w1 S1 e1 => nn_some (ld_r (off := 0) (x := some (at0 p)) (e1.ext_get hm) rfl (mcolumn_call (ht.ext e1) fun w2 e2 => ?_))
 exact (S1.ext e2).aggSt 0 rfl rfl rfl rfl fun w3 S3 _ => S3.lds 0 (ldT (landP A n kind)).1 rfl (hK w3 S3.upd)
theorem mvlast_call {s c k arg goal : Int} {cd past bg : Bool} {r0 : RwT} (ht : TxA w p A) (hm : w.heap[b]? = some (mvO p s c k cd arg goal past bg r0)) {K : Int → World → Prop} (hK : ∀ w', Ext w w' → K (lastPl A : Int) w') :
  callT Tryz.prog 131 #[.pointer (some (at0 b))] (.one (.one (.int .i64))) K w := by
 refine F131_calls ?_
 unfold F131
 refine drew_r fun w1 e1 _ => ?_
 have m1 := e1.ext_get hm
 refine nn_some (ld_r (off := 0) (x := some (at0 p)) m1 rfl (nn_some (ld_r (off := 0) (x := some (at0 p)) m1 rfl ((ht.ext e1).tlen fun w2 e2 => ?_))))
 refine keep_r (cell_of (off := 0) (e2.ext_get m1) rfl) (mclamp_call ((ht.ext e1).ext e2) fun w3 e3 => ?_)
 rw [clamp_len]
 exact hK w3 ((e1.trans e2).trans e3)
theorem mvwalk_call (h : MvIs w b p A x count arg goal past big r) {K : Option Addr → World → Prop} (hK : ∀ bw r' w', WkIs w' bw p A big (posP A x past) r' → w.heap.size ≤ bw → Ext w w' → K (some (at0 bw)) w') :
  callT Tryz.prog 132 #[.pointer (some (at0 b))] (.one (.one .ptr)) K w := by
 refine F132_calls ?_
 unfold F132
 refine drew_r fun w1 e1 _ => ?_
 have h1 := h.ext e1
 refine h1.tK (h1.sK (h1.pastK (h1.bigK (newwalk_call h1.tx (stand_clamp A x past).clamp fun bw r' w2 hw hge e2 => ?_))))
 rw [pos_clamp] at hw
 exact hK bw r' w2 hw (Nat.le_trans e1.size hge) (e1.trans e2)
theorem walked {w2 w3 : World} {bw : Nat} (e : Ext w w2) (hge : w.heap.size ≤ bw) (u : Upd (fun k => k = bw) w2 w3) : Ext w w3 := e.step u fun k hk => by subst hk; exact hge
theorem aft_clamp (f : Nat × Nat → Bool) (A : List Int) (x : Int) (past : Bool) (k : Nat) : afterL (marksP A f) (clampP A x past + 1) k = (foreW A f (posP A x past) k).map (offP A) := by
 obtain ⟨h1, h2, _⟩ := pos_is A x past
 rw [← h2]; exact after_aft f h1 k
theorem bef_clamp (f : Nat × Nat → Bool) (A : List Int) (x : Int) (past : Bool) (k : Nat) : beforeL (marksP A f) (clampP A x past) k = (backW A f (posP A x past) k).map (offP A) := by
 obtain ⟨h1, h2, _⟩ := pos_is A x past
 rw [← h2]; exact before_bef f h1 k
theorem word_call' (h : MvIs w b p A x count arg goal past big r) {K : LdT → World → Prop} (hK : ∀ w', Ext w w' → K (ldT (wordR A x count past big)) w') :
  callT Tryz.prog 138 #[.pointer (some (at0 b))] (.tup [(.agg c43), (.one (.int .i64))]) K w := by
 refine F138_calls ?_
 unfold F138
 have hb := lnN_bounds A; have hA := h.row.len; have hbl := brs_le A
 unfold wordR at hK
 rw [aft_clamp] at hK
 refine (St.start w).newO fun b1 w1 S1 e1 => mvwalk_call (h.ext e1) fun bw r' w2 hw hge e2 => ?_
 have h2 := (h.ext e1).ext e2
 generalize hto : ((foreW A (begB A big) (posP A x past) (kOf count)).map (offP A)).getD (if past then (rowL A (lnN A - 1)).to_ else lastPl A) = to at hK
 refine join_r (fun y W => y = ((to : Int), ()) ∧ Ext w1 W) ?_ ?_
 ·refine forward_call (f := begB A big) (kk := kOf count) h2.obj (kOf_le count) hw (fun q' r' W K => begins_met) (fun hF w3 u3 => ?_) (fun q' r3 w3 hT hw3 u3 => ?_)
  ·have hk := kOf_pos count
   rw [if_neg (by omega)] at hF
   rw [hF] at hto
   have e3 := walked e2 hge u3
   have h3 := (h.ext e1).ext e3
   refine sif_false (mvlast_call h3.tx h3.obj fun w4 e4 => ?_)
   have h4 := h3.ext e4
   refine h4.pastK (sif_r (fun hp => ?_) (fun hp => ?_))
   ·rw [if_pos hp] at hto
    refine drew_r fun w5 e5 _ => ?_
    have h5 := h4.ext e5
    refine h5.tK (h5.tK (h5.tx.count fun w6 e6 => (h5.ext e6).keepT ?_))
    have ewl : IntKind.wrap .i64 ((lnN A : Int) - 1) = ((lnN A - 1 : Nat) : Int) := by rw [wrap64 (by omega) (by omega)]; omega
    rw [ewl]
    refine nrow_call (h5.ext e6).tx (by omega) fun r6 w7 hr7 e7 => ⟨?_, (((e3.trans e4).trans e5).trans e6).trans e7⟩
    rw [hr7.t, ← hto]; rfl
   ·rw [if_neg (by rw [hp]; decide)] at hto
    exact ⟨by rw [← hto]; rfl, e3.trans e4⟩
  ·have hk := kOf_pos count
   rw [if_neg (by omega)] at hT
   rw [hT] at hto
   refine sif_true (wkat_call hw3 fun w4 e4 => ⟨?_, (walked e2 hge u3).trans e4⟩)
   rw [← hto]; rfl
 rintro _ W ⟨rfl, eW⟩
 have hW := (h.ext e1).ext eW
 have SW := S1.ext eW
 refine hW.sK (sif_r (fun hc => ?_) (fun hc => ?_))
 ·simp only [decide_eq_true_eq] at hc
  rw [if_pos (by omega)] at hK
  exact nowhere_call fun w3 e3 => fin_r (SW.ext e3) hK
 ·simp only [decide_eq_false_iff_not] at hc
  rw [if_neg (by omega)] at hK
  exact mvat_call hW fun w3 e3 => fin_r (SW.ext e3) hK
theorem wend_call (h : MvIs w b p A x count arg goal past big r) {K : LdT → World → Prop} (hK : ∀ w', Ext w w' → K (ldT (wendR A x count past big)) w') :
  callT Tryz.prog 140 #[.pointer (some (at0 b))] (.tup [(.agg c43), (.one (.int .i64))]) K w := by
 refine F140_calls ?_
 unfold F140
 unfold wendR at hK
 rw [aft_clamp] at hK
 refine (St.start w).newO fun b1 w1 S1 e1 => mvwalk_call (h.ext e1) fun bw r' w2 hw hge e2 => ?_
 have h2 := (h.ext e1).ext e2
 generalize hto : ((foreW A (endN A big) (posP A x past) (kOf count)).map (offP A)).getD (lastPl A) = to at hK
 refine join_r (fun y W => y = ((to : Int), ()) ∧ Ext w1 W) ?_ ?_
 ·refine forward_call (f := endN A big) (kk := kOf count) h2.obj (kOf_le count) hw (fun q' r' W K => ending_met) (fun hF w3 u3 => ?_) (fun q' r3 w3 hT hw3 u3 => ?_)
  ·have hk := kOf_pos count
   rw [if_neg (by omega)] at hF
   rw [hF] at hto
   have e3 := walked e2 hge u3
   have h3 := (h.ext e1).ext e3
   refine sif_false (mvlast_call h3.tx h3.obj fun w4 e4 => ⟨?_, e3.trans e4⟩)
   rw [← hto]; rfl
  ·have hk := kOf_pos count
   rw [if_neg (by omega)] at hT
   rw [hT] at hto
   refine sif_true (wkat_call hw3 fun w4 e4 => ⟨?_, (walked e2 hge u3).trans e4⟩)
   rw [← hto]; rfl
 rintro _ W ⟨rfl, eW⟩
 have hW := (h.ext e1).ext eW
 have SW := S1.ext eW
 refine hW.sK (sif_r (fun hc => ?_) (fun hc => ?_))
 ·simp only [decide_eq_true_eq] at hc
  rw [if_pos (by omega)] at hK
  exact nowhere_call fun w3 e3 => fin_r (SW.ext e3) hK
 ·simp only [decide_eq_false_iff_not] at hc
  rw [if_neg (by omega)] at hK
  exact mvat_call hW fun w3 e3 => fin_r (SW.ext e3) hK
theorem back_call (h : MvIs w b p A x count arg goal past big r) {K : LdT → World → Prop} (hK : ∀ w', Ext w w' → K (ldT (backR A x count past big)) w') :
  callT Tryz.prog 139 #[.pointer (some (at0 b))] (.tup [(.agg c43), (.one (.int .i64))]) K w := by
 refine F139_calls ?_
 unfold F139
 unfold backR at hK
 rw [bef_clamp] at hK
 refine (St.start w).newO fun b1 w1 S1 e1 => mvwalk_call (h.ext e1) fun bw r' w2 hw hge e2 => ?_
 have h2 := (h.ext e1).ext e2
 refine h2.sK (sif_r (fun hc => ?_) (fun hc => ?_))
 ·simp only [beq_iff_eq] at hc
  rw [if_pos (by omega)] at hK
  exact nowhere_call fun w3 e3 => fin_r ((S1.ext e2).ext e3) hK
 ·simp only [beq_eq_false_iff_ne, ne_eq] at hc
  rw [if_neg (by omega)] at hK
  refine backward_call (f := begB A big) (kk := kOf count) h2.obj ⟨kOf_pos count, kOf_le count⟩ hw (fun q' r' W K => begins_met) (fun hF w3 u3 => ?_) (fun q' r3 w3 hT hw3 u3 => ?_)
  ·rw [hF] at hK
   have e3 := walked e2 hge u3
   exact sif_true (mvat_call (n := 0) ((h.ext e1).ext e3) fun w4 e4 => fin_r ((S1.ext e3).ext e4) hK)
  ·rw [hT] at hK
   have e3 := walked e2 hge u3
   exact sif_false (wkat_call hw3 fun w4 e4 => mvat_call (((h.ext e1).ext e3).ext e4) fun w5 e5 => fin_r (((S1.ext e3).ext e4).ext e5) hK)
theorem bend_call (h : MvIs w b p A x count arg goal past big r) {K : LdT → World → Prop} (hK : ∀ w', Ext w w' → K (ldT (bendR A x count past big)) w') :
  callT Tryz.prog 141 #[.pointer (some (at0 b))] (.tup [(.agg c43), (.one (.int .i64))]) K w := by
 refine F141_calls ?_
 unfold F141
 unfold bendR at hK
 rw [bef_clamp] at hK
 refine (St.start w).newO fun b1 w1 S1 e1 => mvwalk_call (h.ext e1) fun bw r' w2 hw hge e2 => ?_
 have h2 := (h.ext e1).ext e2
 refine h2.sK (sif_r (fun hc => ?_) (fun hc => ?_))
 ·simp only [beq_iff_eq] at hc
  rw [if_pos (by omega)] at hK
  exact nowhere_call fun w3 e3 => fin_r ((S1.ext e2).ext e3) hK
 ·simp only [beq_eq_false_iff_ne, ne_eq] at hc
  rw [if_neg (by omega)] at hK
  refine backward_call (f := endB A big) (kk := kOf count) h2.obj ⟨kOf_pos count, kOf_le count⟩ hw (fun q' r' W K => ends_met) (fun hF w3 u3 => ?_) (fun q' r3 w3 hT hw3 u3 => ?_)
  ·rw [hF] at hK
   have e3 := walked e2 hge u3
   exact sif_true (mvat_call (n := 0) ((h.ext e1).ext e3) fun w4 e4 => fin_r ((S1.ext e3).ext e4) hK)
  ·rw [hT] at hK
   have e3 := walked e2 hge u3
   exact sif_false (wkat_call hw3 fun w4 e4 => mvat_call (((h.ext e1).ext e3).ext e4) fun w5 e5 => fin_r (((S1.ext e3).ext e4).ext e5) hK)
theorem rest_is (A : List Int) (x : Int) (past big : Bool) {k kk : Nat} (hk : 1 ≤ k) (hkk : kk = if endN A big (posP A x past) then k - 1 else k) : afterL (marksP A (endN A big)) (clampP A x past) k = (if kk = 0 then some (posP A x past) else foreW A (endN A big) (posP A x past) kk).map (offP A) := by
 obtain ⟨h1, h2, _⟩ := pos_is A x past
 unfold afterL
 rw [← h2, marks_here _ h1 (fun he => end_plc h1 he), List.getElem?_map]
 congr 1
 unfold foreW
 cases he : endN A big (posP A x past) with
 | true =>
  rw [he, if_pos rfl] at hkk
  rw [if_pos rfl]
  by_cases h0 : kk = 0
  ·rw [if_pos h0, show k - 1 = 0 by omega]; rfl
  ·rw [if_neg h0]
   obtain ⟨m, hm⟩ : ∃ m, k - 1 = m + 1 := ⟨k - 2, by omega⟩
   rw [hm, show kk - 1 = m by omega]; rfl
 | false =>
  rw [he, if_neg (by decide)] at hkk
  rw [if_neg (by decide), if_neg (by omega), hkk]; rfl
theorem rest_call {N : Nat} (h : MvIs w b p A x count arg goal past big r) (hB : TxN w p A N) (hN : N ≤ b) {K : LdT → World → Prop} (hK : ∀ w', Upd (fun k => k = b) w w' → K (ldT (restR A x count past big)) w') :
  callT Tryz.prog 142 #[.pointer (some (at0 b))] (.tup [(.agg c43), (.one (.int .i64))]) K w := by
 refine F142_calls ?_
 unfold F142
 obtain ⟨m1, m2, m3, m4, m5, m6, m7⟩ := h.bounds
 unfold restR at hK
 obtain ⟨kk, hkk⟩ : ∃ kk, kk = if endN A big (posP A x past) then kOf count - 1 else kOf count := ⟨_, rfl⟩
 rw [rest_is A x past big m4 hkk] at hK
 have hbs : b < w.heap.size := lt_of_heap h.obj
 refine (St.startM (fun k => k = b) w (fun k hk => by subst hk; exact hbs)).newO fun b1 w1 S1 e1 => mvwalk_call (h.ext e1) fun bw r' w2 hw hge e2 => ?_
 have S1 : St (fun k => k = b) w w1 [(b1, ldZ)] := S1
 have h2 := (h.ext e1).ext e2
 have hB2 := (hB.ext e1).ext e2
 have hbw : b ≠ bw := by have := e1.size; omega
 refine join_r (fun _ W => ∃ rw', W.heap[b]? = some (mvO p (clampP A x past : Int) ((posP A x past).2 : Int) (kk : Int) (decide (0 < count)) arg goal past big r) ∧ WkIs W bw p A big (posP A x past) rw' ∧ St (fun k => k = b) w W [(b1, ldZ)] ∧ w1.heap.size ≤ W.heap.size) ?_ ?_
 ·refine ending_call hw fun w3 e3 => ?_
  have h3 := h2.ext e3
  have S3 := (S1.ext e2).ext e3
  have hsz : w1.heap.size ≤ w3.heap.size := Nat.le_trans e2.size e3.size
  refine sif_r (fun hc => ?_) (fun hc => ?_)
  ·rw [hc, if_pos rfl] at hkk
   refine h3.kK (nn_some ?_)
   have ew : IntKind.wrap .i64 ((kOf count : Int) - 1) = (kk : Int) := by rw [wrap64 (by omega) (by omega)]; omega
   rw [ew]
   refine stC_r (off := 3) h3.obj (by show 3 < 16; decide) fun w4 u4 n4 hsz4 => ?_
   have hw3 := hw.ext e3
   have hB3 := hB2.ext e3
   refine ⟨_, n4, ⟨?_, u4.get hw3.obj (fun hh => hbw hh.symm), hw3.row.box h3.obj (by decide) u4, hw3.on⟩, S3.step u4 fun k hk => hk, by omega⟩
   exact (hB3.upd hN h3.obj (by decide) u4).toB (by have := e1.size; omega)
  ·rw [hc, if_neg (by decide)] at hkk
   subst hkk
   exact ⟨_, h3.obj, hw.ext e3, S3, hsz⟩
 rintro _ W ⟨rw', hm, hwW, SW, hszW⟩
 refine forward_call (f := endN A big) (kk := kk) hm (by rw [hkk]; split <;> omega) hwW (fun q' r' W K => ending_met) (fun hF w3 u3 => ?_) (fun q' r3 w3 hT hw3 u3 => ?_)
 ·rw [hF] at hK
  have S3 := SW.fresh u3 (fun k hk => .inr (by subst hk; exact Nat.le_trans e1.size hge)) (fun y hy hk => by
   rw [List.mem_singleton.1 hy] at hk
   have := lt_of_heap (S1.at_ 0 rfl)
   dsimp only at hk
   omega)
  have hm3 := u3.get hm hbw
  have t3 : TxA w3 p A := (hwW.tx.upd hwW.obj (by decide) u3).ta
  refine sif_false (drew_r fun w4 e4 _ => ?_)
  have hm4 := e4.ext_get hm3
  refine nn_some (ld_r (off := 1) (x := (clampP A x past : Int)) hm4 rfl (mvlast_call (t3.ext e4) hm4 fun w5 e5 => ?_))
  have hm5 := e5.ext_get hm4
  refine keep_r (cell_of (off := 1) hm5 rfl) ?_
  have em : (if (clampP A x past : Int) > (lastPl A : Int) then (clampP A x past : Int) else (lastPl A : Int)) = ((max (lastPl A) (clampP A x past) : Nat) : Int) := by split <;> omega
  rw [em]
  refine mvat_raw ((t3.ext e4).ext e5) hm5 fun w6 e6 => ?_
  have S6 := ((S3.ext e4).ext e5).ext e6
  exact S6.aggSt 0 rfl rfl rfl rfl fun w7 S7 _ => S7.lds 0 (ldT (landP A (max (lastPl A) (clampP A x past)) 1)).1 rfl (hK w7 S7.upd)
 ·rw [hT] at hK
  have S3 := SW.fresh u3 (fun k hk => .inr (by subst hk; exact Nat.le_trans e1.size hge)) (fun y hy hk => by
   rw [List.mem_singleton.1 hy] at hk
   have := lt_of_heap (S1.at_ 0 rfl)
   dsimp only at hk
   omega)
  have hm3 := u3.get hm hbw
  refine sif_true (wkat_call hw3 fun w4 e4 => mvat_raw (hw3.tx.ta.ext e4) (e4.ext_get hm3) fun w5 e5 => ?_)
  have S5 := (S3.ext e4).ext e5
  exact S5.aggSt 0 rfl rfl rfl rfl fun w7 S7 _ => S7.lds 0 (ldT (landP A (offP A q') 1)).1 rfl (hK w7 S7.upd)
end
namespace Mot
variable {A : List Int}
noncomputable def paN (A : List Int) (j : Nat) : Bool := blankR A j && !blankR A (j - 1)
noncomputable def paP (A : List Int) (j : Nat) : Bool := blankR A j && !blankR A (j + 1)
theorem paras_next (A : List Int) (x count : Int) : parasM A x 31 count = (match upF (paN A) ((posP A x false).1 + 1) (lnN A) (kOf count) with
  | some j => landP A (rowL A j).from_ 0
  | none => if lastPl A = clampP A x false then noP 80 else landP A (lastPl A) 1) := by
 unfold parasM posP
 dsimp only
 rw [clamp_row, if_pos rfl]; rfl
theorem paras_prev (A : List Int) (x count : Int) : parasM A x 32 count = (match dnF (paP A) (posP A x false).1 (kOf count) with
  | some j => landP A (rowL A j).from_ 0
  | none => if clampP A x false = 0 then noP 80 else landP A 0 0) := by
 unfold parasM posP
 dsimp only
 rw [clamp_row, if_neg (by decide), if_pos rfl]; rfl
theorem rise_len {N : Nat} : ∀ (l : List Nat) (a : Nat), l.Pairwise (· < ·) → (∀ x ∈ l, a ≤ x ∧ x ≤ N) → l.length + a ≤ N + 1 ∨ l = []
 | [], _, _, _ => .inr rfl
 | y :: l, a, h, hb => by
  left
  rw [List.pairwise_cons] at h
  have hy := hb y List.mem_cons_self
  rcases rise_len l (y + 1) h.2 (fun x hx => ⟨h.1 x hx, (hb x (List.mem_cons_of_mem _ hx)).2⟩) with hh | hh
  ·rw [List.length_cons]; omega
  ·rw [hh]; simp; omega
theorem walk_len {p : Nat × Nat} (h : Plc A p) : (aft A p).length ≤ A.length + 1 ∧ (bef A p).length ≤ A.length + 1 := by
 have hr := all_rise A
 rw [all_split h] at hr
 have hall : ∀ q, q ∈ (bef A p).reverse ++ p :: aft A p → offP A q ≤ A.length := fun q hq => by
  rw [← all_split h] at hq
  exact place_le (mem_all.1 hq).on.row _
 have h2 : (((bef A p).reverse ++ p :: aft A p).map (offP A)).Pairwise (· < ·) := by rw [List.pairwise_map]; exact hr
 rcases rise_len (N := A.length) _ 0 h2 (fun x hx => by
  obtain ⟨q, hq, rfl⟩ := List.mem_map.1 hx
  exact ⟨Nat.zero_le _, hall q hq⟩) with hh | hh
 ·rw [List.length_map, List.length_append, List.length_reverse, List.length_cons] at hh
  omega
 ·simp at hh
end Mot
section
variable {w w' : World} {b p : Nat} {A : List Int} {x count arg goal g : Int} {past big : Bool} {r : RwT}
set_option maxHeartbeats 2000000 in
theorem pnext_call (h : MvIs w b p A x count arg goal false big r) {K : LdT → World → Prop} (hK : ∀ w', Ext w w' → K (ldT (parasM A x 31 count)) w') :
  callT Tryz.prog 96 #[.pointer (some (at0 b))] (.tup [(.agg c43), (.one (.int .i64))]) K w := by
 refine F96_calls ?_
 unfold F96
 obtain ⟨m1, m2, m3, m4, m5, m6, m7⟩ := h.bounds
 have hb := lnN_bounds A; have hA := h.row.len; have hbl := brs_le A
 rw [paras_next] at hK
 have ewl : IntKind.wrap .i64 ((lnN A : Int) - 1) = (lnN A : Int) - 1 := wrap64 (by omega) (by omega)
 refine (St.start w).newO fun b1 w1 S1 e1 => S1.drew fun w2 S2 e2 _ => ?_
 have h2 := (h.ext e1).ext e2
 refine h2.rowK (h2.tK (mblank_call h2.row fun w3 e3 => (h2.ext e3).keepT ((h2.ext e3).tx.count fun w4 e4 => ?_)))
 have h4 := (h2.ext e3).ext e4
 have S4 := (S2.ext e3).ext e4
 have S4 : St (fun _ => False) w w4 [(b1, ldZ)] := S4
 refine h4.kK (join_r (fun _ W => upF (paN A) ((posP A x false).1 + 1) (lnN A) (kOf count) = none ∧ St (fun _ => False) w W [(b1, ldZ)]) ?_ ?_)
 ·refine h4.numK ?_
  rw [h.row.num, wrap64 (a := ((posP A x false).1 : Int) + 1) (by omega) (by omega), ewl]
  refine sloop_r (fun s W => ∃ k i : Nat, s = (blankR A (i - 1), (k : Int), (i : Int), ()) ∧ 1 ≤ k ∧ k ≤ 9999 ∧ 1 ≤ i ∧ i ≤ brs A + 1 ∧ upF (paN A) ((posP A x false).1 + 1) (lnN A) (kOf count) = upF (paN A) i (lnN A) k ∧ St (fun _ => False) w W [(b1, ldZ)]) (fun s _ => ((brs A : Int) + 1 - s.2.2.1).toNat) ⟨kOf count, (posP A x false).1 + 1, by simp, m4, m5, by omega, by omega, rfl, S4⟩ ?_
  rintro _ W ⟨k, i, rfl, k1, k2, i1, i2, hu, SW⟩
  dsimp only
  have hW := h.ext SW.upd
  refine sif_r (fun hc => ?_) (fun hc => ?_)
  ·simp only [decide_eq_true_eq] at hc
   refine hW.tK (nrow_call hW.tx (i := i) (by omega) fun r1 w5 hr1 e5 => ?_)
   refine (SW.ext e5).newO fun b19 w6 S6 e6 => S6.aggSt 0 rfl rfl rfl rfl fun w7 S7 u7 => ?_
   have S7 : St (fun _ => False) w w7 [(b19, rwO r1), (b1, ldZ)] := S7
   have hr7 := (hr1.ext e6).box (S6.at_ 0 rfl) (by decide) u7
   refine S7.lds 0 r1 rfl (mblank_call hr7 fun w8 e8 => ?_)
   have S8 := S7.ext e8
   have h8 := h.ext S8.upd
   have ewi : IntKind.wrap .i64 ((i : Int) + 1) = ((i + 1 : Nat) : Int) := by rw [wrap64 (by omega) (by omega)]; omega
   have ewk : IntKind.wrap .i64 ((k : Int) - 1) = ((k - 1 : Nat) : Int) := by rw [wrap64 (by omega) (by omega)]; omega
   rw [ewi, ewk]
   refine join_r (fun y W' => ∃ k' : Nat, y = ((k' : Int), ()) ∧ 1 ≤ k' ∧ k' ≤ 9999 ∧ upF (paN A) i (lnN A) k = upF (paN A) (i + 1) (lnN A) k' ∧ St (fun _ => False) w W' [(b1, ldZ)]) ?_ ?_
   ·refine join_r (fun y W' => y = (paN A i, ()) ∧ w8 = W') ?_ ?_
    ·unfold paN
     refine sif_r (fun hg => ⟨?_, rfl⟩) (fun hg => ⟨?_, rfl⟩)
     ·rw [hg, Bool.true_and]
     ·rw [hg, Bool.false_and]
    rintro _ _ ⟨rfl, rfl⟩
    refine sif_r (fun hf => ?_) (fun hf => ?_)
    ·have hf : paN A i = true := hf
     refine sif_r (fun hz => ?_) (fun hz => ?_)
     ·simp only [beq_iff_eq] at hz
      have : k = 1 := by omega
      subst this
      refine S8.ld (off := 0) 0 rfl (x := r1.1) rfl ?_
      rw [hr1.f]
      refine mvat_call h8 fun w9 e9 => ?_
      rw [hu, upF_one (by omega) hf] at hK
      exact fin_r (S8.ext e9).tail hK
     ·simp only [beq_eq_false_iff_ne, ne_eq] at hz
      refine ⟨k - 1, rfl, by omega, by omega, ?_, S8.tail⟩
      have := upF_more (n := lnN A) (k := k - 1) (show i < lnN A by omega) hf (by omega)
      rw [show k - 1 + 1 = k by omega] at this
      exact this
    ·exact ⟨k, rfl, k1, k2, upF_no (by omega) hf, S8.tail⟩
   rintro _ W9 ⟨k', rfl, k1', k2', hu', S9⟩
   exact ⟨⟨k', i + 1, by rw [Nat.add_sub_cancel], k1', k2', by omega, by omega, hu.trans hu', S9⟩, by omega⟩
  ·simp only [decide_eq_false_iff_not] at hc
   exact ⟨hu.trans (upF_none (by omega)), SW⟩
 rintro _ W ⟨hn, SW⟩
 have hW := h.ext SW.upd
 rw [hn] at hK
 have hK : ∀ w', Ext w w' → K (ldT (if lastPl A = clampP A x false then noP 80 else landP A (lastPl A) 1)) w' := hK
 refine mvlast_call hW.tx hW.obj fun w3 e3 => ?_
 have h3 := hW.ext e3
 refine h3.sK (sif_r (fun hc => ?_) (fun hc => ?_))
 ·simp only [bne_iff_ne, ne_eq] at hc
  have he : ¬ lastPl A = clampP A x false := by omega
  rw [if_neg he] at hK
  exact mvat_call h3 fun w5 e5 => fin_r ((SW.ext e3).ext e5) hK
 ·simp only [bne_eq_false_iff_eq] at hc
  have he : lastPl A = clampP A x false := by omega
  rw [if_pos he] at hK
  exact nowhere_call fun w5 e5 => fin_r ((SW.ext e3).ext e5) hK
set_option maxHeartbeats 2000000 in
theorem pprev_call (h : MvIs w b p A x count arg goal false big r) {K : LdT → World → Prop} (hK : ∀ w', Ext w w' → K (ldT (parasM A x 32 count)) w') :
  callT Tryz.prog 97 #[.pointer (some (at0 b))] (.tup [(.agg c43), (.one (.int .i64))]) K w := by
 refine F97_calls ?_
 unfold F97
 obtain ⟨m1, m2, m3, m4, m5, m6, m7⟩ := h.bounds
 have hb := lnN_bounds A; have hA := h.row.len; have hbl := brs_le A
 rw [paras_prev] at hK
 refine (St.start w).newO fun b1 w1 S1 e1 => ?_
 have h1 := h.ext e1
 refine h1.rowK (mblank_call h1.row fun w4 e4 => ?_)
 have h4 := h1.ext e4
 have S4 := S1.ext e4
 have S4 : St (fun _ => False) w w4 [(b1, ldZ)] := S4
 refine h4.kK (join_r (fun _ W => dnF (paP A) (posP A x false).1 (kOf count) = none ∧ St (fun _ => False) w W [(b1, ldZ)]) ?_ ?_)
 ·refine h4.numK ?_
  rw [h.row.num, wrap64 (a := ((posP A x false).1 : Int) - 1) (by omega) (by omega)]
  refine sloop_r (fun s W => ∃ k i : Nat, s = (blankR A i, (k : Int), (i : Int) - 1, ()) ∧ 1 ≤ k ∧ k ≤ 9999 ∧ i ≤ brs A ∧ dnF (paP A) (posP A x false).1 (kOf count) = dnF (paP A) i k ∧ St (fun _ => False) w W [(b1, ldZ)]) (fun s _ => (s.2.2.1 + 1).toNat) ⟨kOf count, (posP A x false).1, rfl, m4, m5, m6, rfl, S4⟩ ?_
  rintro _ W ⟨k, i, rfl, k1, k2, i2, hu, SW⟩
  dsimp only
  have hW := h.ext SW.upd
  refine sif_r (fun hc => ?_) (fun hc => ?_)
  ·simp only [decide_eq_true_eq, ge_iff_le] at hc
   obtain ⟨m, rfl⟩ : ∃ m, i = m + 1 := ⟨i - 1, by omega⟩
   have em : ((m + 1 : Nat) : Int) - 1 = (m : Int) := by omega
   rw [em]
   refine hW.tK (nrow_call hW.tx (i := m) (by omega) fun r1 w5 hr1 e5 => ?_)
   refine (SW.ext e5).newO fun b19 w6 S6 e6 => S6.aggSt 0 rfl rfl rfl rfl fun w7 S7 u7 => ?_
   have S7 : St (fun _ => False) w w7 [(b19, rwO r1), (b1, ldZ)] := S7
   have hr7 := (hr1.ext e6).box (S6.at_ 0 rfl) (by decide) u7
   refine S7.lds 0 r1 rfl (mblank_call hr7 fun w8 e8 => ?_)
   have S8 := S7.ext e8
   have h8 := h.ext S8.upd
   have ewi : IntKind.wrap .i64 ((m : Int) - 1) = (m : Int) - 1 := wrap64 (by omega) (by omega)
   have ewk : IntKind.wrap .i64 ((k : Int) - 1) = ((k - 1 : Nat) : Int) := by rw [wrap64 (by omega) (by omega)]; omega
   rw [ewi, ewk]
   refine join_r (fun y W' => ∃ k' : Nat, y = ((k' : Int), ()) ∧ 1 ≤ k' ∧ k' ≤ 9999 ∧ dnF (paP A) (m + 1) k = dnF (paP A) m k' ∧ St (fun _ => False) w W' [(b1, ldZ)]) ?_ ?_
   ·refine join_r (fun y W' => y = (paP A m, ()) ∧ w8 = W') ?_ ?_
    ·unfold paP
     refine sif_r (fun hg => ⟨?_, rfl⟩) (fun hg => ⟨?_, rfl⟩)
     ·rw [hg, Bool.true_and]
     ·rw [hg, Bool.false_and]
    rintro _ _ ⟨rfl, rfl⟩
    refine sif_r (fun hf => ?_) (fun hf => ?_)
    ·have hf : paP A m = true := hf
     refine sif_r (fun hz => ?_) (fun hz => ?_)
     ·simp only [beq_iff_eq] at hz
      have : k = 1 := by omega
      subst this
      refine S8.ld (off := 0) 0 rfl (x := r1.1) rfl ?_
      rw [hr1.f]
      refine mvat_call h8 fun w9 e9 => ?_
      rw [hu, dnF_one hf] at hK
      exact fin_r (S8.ext e9).tail hK
     ·simp only [beq_eq_false_iff_ne, ne_eq] at hz
      refine ⟨k - 1, rfl, by omega, by omega, ?_, S8.tail⟩
      have := dnF_more (j := m) (k := k - 1) hf (by omega)
      rw [show k - 1 + 1 = k by omega] at this
      exact this
    ·exact ⟨k, rfl, k1, k2, dnF_no hf, S8.tail⟩
   rintro _ W9 ⟨k', rfl, k1', k2', hu', S9⟩
   exact ⟨⟨k', m, rfl, k1', k2', by omega, hu.trans hu', S9⟩, by omega⟩
  ·simp only [decide_eq_false_iff_not, ge_iff_le] at hc
   have : i = 0 := by omega
   subst this
   exact ⟨hu, SW⟩
 rintro _ W ⟨hn, SW⟩
 have hW := h.ext SW.upd
 rw [hn] at hK
 have hK : ∀ w', Ext w w' → K (ldT (if clampP A x false = 0 then noP 80 else landP A 0 0)) w' := hK
 refine hW.sK (sif_r (fun hc => ?_) (fun hc => ?_))
 ·simp only [beq_iff_eq] at hc
  rw [if_pos (by omega)] at hK
  exact nowhere_call fun w5 e5 => fin_r (SW.ext e5) hK
 ·simp only [beq_eq_false_iff_ne, ne_eq] at hc
  rw [if_neg (by omega)] at hK
  exact mvat_call (n := 0) hW fun w5 e5 => fin_r (SW.ext e5) hK
theorem mod3 (a b : Nat) : ((Int.tmod (a : Int) 3) != (Int.tmod (b : Int) 3)) = decide (a % 3 ≠ b % 3) := by
 rw [Int.tmod_eq_emod_of_nonneg (by omega), Int.tmod_eq_emod_of_nonneg (by omega), Bool.eq_iff_iff, bne_iff_ne, decide_eq_true_eq]
 omega
set_option maxHeartbeats 2000000 in
theorem mvmatch_call (h : MvIs w b p A x count arg goal false big r) {K : LdT → World → Prop} (hK : ∀ w', Ext w w' → K (ldT (parasM A x 33 0)) w') :
  callT Tryz.prog 98 #[.pointer (some (at0 b))] (.tup [(.agg c43), (.one (.int .i64))]) K w := by
 refine F98_calls ?_
 unfold F98
 obtain ⟨o1, o2, o3⟩ := pos_is A x false
 have hpl := o3 rfl
 have hA := h.row.len
 obtain ⟨l1, l2⟩ := walk_len hpl
 have hM := match_walk hpl
 rw [paras_match, clamp_row, ← o2, show rowI A x false = (posP A x false).1 from rfl, hM] at hK
 refine (St.start w).newO fun b1 w1 S1 e1 => mvwalk_call (h.ext e1) fun bw r' w2 hw hge e2 => ?_
 refine nn_some ?_
 have nn0 : ∀ {W : World} {K : Int → World → Prop} {q : Nat × Nat} {r0 : RwT}, WkIs W bw p A big q r0 → K (q.1 : Int) W → ld (.int .i64) (((at0 bw).add 1).add 4) K W := fun hh hk => by
  rw [← hh.row.num] at hk
  exact ld_r (off := 5) hh.obj rfl hk
 refine nn0 hw ?_
 have xt : ∀ {W : World}, Upd (fun k => k = bw) w2 W → Ext w1 W := fun u => walked e2 hge u
 refine join_r (fun _ W => ∃ q r0 n, headB A (posP A x false).1 (posP A x false) = some (q, n) ∧ brkP A q = some n ∧ Plc A q ∧ WkIs W bw p A big q r0 ∧ Upd (fun k => k = bw) w2 W) ?_ ?_
 ·refine sloop_g (fun (g : (Nat × Nat) × RwT) (_ : Unit) W => WkIs W bw p A big g.1 g.2 ∧ Plc A g.1 ∧ g.1.1 = (posP A x false).1 ∧ headB A (posP A x false).1 (posP A x false) = headB A (posP A x false).1 g.1 ∧ Upd (fun k => k = bw) w2 W) (fun g => (aft A g.1).length) (posP A x false, r') ⟨hw, hpl, rfl, rfl, Upd.refl _ _⟩ ?_
  rintro ⟨q, r0⟩ _ W R ⟨hW, hq, hq1, hh, uW⟩ hR
  dsimp only at hW hq hq1 hh hR ⊢
  refine bracket_call hW fun w3 e3 => ?_
  have hW3 := hW.ext e3
  have u3 := uW.trans (Upd.of_ext e3)
  cases hbr : brkP A q with
  | some n =>
   refine sif_r (fun hc => by simp at hc; omega) (fun _ => ?_)
   refine ⟨q, r0, n, ?_, hbr, hq, hW3, u3⟩
   rw [hh, ← hq1]; exact headB_here hbr
  | none =>
   refine sif_r (fun _ => ?_) (fun hc => by simp at hc)
   refine join_r (fun y W' => (y = (true, ()) ∧ headB A (posP A x false).1 (posP A x false) = none ∧ Upd (fun k => k = bw) w2 W') ∨ (y = (false, ()) ∧ ∃ q2 r2, nextW A q = some q2 ∧ WkIs W' bw p A big q2 r2 ∧ Plc A q2 ∧ q2.1 = (posP A x false).1 ∧ Upd (fun k => k = bw) w2 W')) ?_ ?_
   ·refine wknext_call hW3 (fun hn w4 e4 => sif_true (.inl ⟨rfl, ?_, u3.trans (Upd.of_ext e4)⟩)) (fun q2 r2 w4 hn hW4 u4 => sif_false (nn_some (nn0 hW4 ?_)))
    ·rw [hh]; exact headB_none hbr hn
    ·by_cases he : q2.1 = (posP A x false).1
     ·refine .inr ⟨?_, q2, r2, hn, hW4, nextW_plc hq.on hn, he, u3.trans u4⟩
      rw [he]
      have : (((posP A x false).1 : Int) != ((posP A x false).1 : Int)) = false := by rw [bne_eq_false_iff_eq]
      rw [this]
     ·refine .inl ⟨?_, ?_, u3.trans u4⟩
      ·have : ((q2.1 : Int) != ((posP A x false).1 : Int)) = true := by rw [bne_iff_ne]; omega
       rw [this]
      ·rw [hh, headB_next hbr hn]
       have := (nextW_on hq.on hn).2.2.2
       exact headB_other (by omega)
   rintro _ w4 (⟨rfl, hn, u4⟩ | ⟨rfl, q2, r2, hn, hW4, hq2, he, u4⟩)
   ·refine sif_true ?_
    rw [hn] at hK
    exact nowhere_call fun w5 e5 => fin_r ((S1.ext (xt u4)).ext e5) hK
   ·refine sif_false (hR (q2, r2) () w4 ⟨hW4, hq2, he, ?_, u4⟩ ?_)
    ·rw [hh]; exact headB_next hbr hn
    ·rw [aft_some hn]; simp
 rintro _ W ⟨q, r0, n, hh, hbr, hq, hW, uW⟩
 rw [hh, Option.bind_some] at hK
 dsimp only at hK
 refine bracket_call hW fun w3 e3 => ?_
 have hW3 := hW.ext e3
 have u3 := uW.trans (Upd.of_ext e3)
 rw [hbr]
 dsimp only
 obtain ⟨l3, l4⟩ := walk_len hq
 refine join_r (fun y W' => y = ((if n < 3 then (.func (Fn.func 103) #[.pointer (some (at0 bw))] #[] : Value) else (.func (Fn.func 134) #[.pointer (some (at0 bw))] #[] : Value)), ()) ∧ w3 = W') ?_ ?_
 ·refine sif_r (fun hc => ⟨?_, rfl⟩) (fun hc => ⟨?_, rfl⟩)
  ·simp only [decide_eq_true_eq, ge_iff_le] at hc
   rw [if_neg (by omega)]
  ·simp only [decide_eq_false_iff_not, ge_iff_le] at hc
   rw [if_pos (by omega)]
 rintro _ _ ⟨rfl, rfl⟩
 dsimp only
 let lst : Nat × Nat → List Bk := fun q => if n < 3 then aftB A q else befB A q
 let rem : Nat × Nat → List (Nat × Nat) := fun q => if n < 3 then aft A q else bef A q
 have step : ∀ {q1 : Nat × Nat} {r1 : RwT} {V : World} {K : Bool → World → Prop}, WkIs V bw p A big q1 r1 → (rem q1 = [] → (∀ d, shutL n (lst q1) d = none) → ∀ V', Ext V V' → K false V') →
   (∀ q2 r2 V', rem q1 = q2 :: rem q2 → (brkP A q2 = none → ∀ d, shutL n (lst q1) d = shutL n (lst q2) d) → (∀ b2, brkP A q2 = some b2 → ∀ d, shutL n (lst q1) d = if b2 % 3 ≠ n % 3 then shutL n (lst q2) d else if b2 = n then shutL n (lst q2) (d + 1) else if d = 1 then some q2 else shutL n (lst q2) (d - 1)) → WkIs V' bw p A big q2 r2 → Upd (fun k => k = bw) V V' → K true V') →
   callX Tryz.prog (do let d ← Deferred.ofValue (if n < 3 then (.func (Fn.func 103) #[.pointer (some (at0 bw))] #[] : Value) else (.func (Fn.func 134) #[.pointer (some (at0 bw))] #[] : Value)) #[]; invoke d.target d.args : Sem Next) (.one (.one .bool)) K V := by
  intro q1 r1 V K hV hN hS
  by_cases hn3 : n < 3
  ·have el : ∀ q, lst q = aftB A q := fun q => if_pos hn3
   have er : ∀ q, rem q = aft A q := fun q => if_pos hn3
   simp only [el, er] at hN hS
   rw [if_pos hn3]
   refine recv_x (by kernel_rfl) (wknext_call hV (fun hn V' e' => hN (aft_none hn) (fun d => shut_fore_none hn) V' e') fun q2 r2 V' hn hV' u' => ?_)
   exact hS q2 r2 V' (aft_some hn) (fun hb d => shut_fore_skip hn hb) (fun b2 hb d => shut_fore_some hn hb) hV' u'
  ·have el : ∀ q, lst q = befB A q := fun q => if_neg hn3
   have er : ∀ q, rem q = bef A q := fun q => if_neg hn3
   simp only [el, er] at hN hS
   rw [if_neg hn3]
   refine recv_x (by kernel_rfl) (wkprev_call hV (fun hn V' e' => hN (bef_none hn) (fun d => shut_back_none hn) V' e') fun q2 r2 V' hn hV' u' => ?_)
   exact hS q2 r2 V' (bef_some hn) (fun hb d => shut_back_skip hn hb) (fun b2 hb d => shut_back_some hn hb) hV' u'
 have hlst : (if n < 3 then aftB A q else befB A q) = lst q := rfl
 rw [hlst] at hK
 have hrem : (rem q).length ≤ A.length + 1 := by
  show (if n < 3 then aft A q else bef A q).length ≤ _
  split <;> omega
 refine join_r (fun y V => ∃ d : Nat, y = ((d : Int), ()) ∧ ((0 < d ∧ shutL n (lst q) 1 = none ∧ Upd (fun k => k = bw) w2 V) ∨ (d = 0 ∧ ∃ q2 r2, shutL n (lst q) 1 = some q2 ∧ WkIs V bw p A big q2 r2 ∧ Upd (fun k => k = bw) w2 V))) ?_ ?_
 ·refine sloop_g (fun (g : Nat × (Nat × Nat) × RwT) y V => y = ((g.1 : Int), ()) ∧ 1 ≤ g.1 ∧ g.1 + (rem g.2.1).length ≤ 2097152 ∧ WkIs V bw p A big g.2.1 g.2.2 ∧ shutL n (lst q) 1 = shutL n (lst g.2.1) g.1 ∧ Upd (fun k => k = bw) w2 V) (fun g => (rem g.2.1).length) (1, q, r0) ⟨rfl, Nat.le_refl _, by dsimp only; omega, hW3, rfl, u3⟩ ?_
  rintro ⟨d, q1, r1⟩ _ V R ⟨rfl, d1, d2, hV, hs, uV⟩ hR
  dsimp only at d1 d2 hV hs hR ⊢
  refine step hV (fun hr hn V' e' => sif_false ⟨d, rfl, .inl ⟨d1, hs.trans (hn d), uV.trans (Upd.of_ext e')⟩⟩) fun q2 r2 V' hr hk hb hV' u' => sif_true (bracket_call hV' fun V2 e2' => ?_)
  have hV2 := hV'.ext e2'
  have uV2 := (uV.trans u').trans (Upd.of_ext e2')
  have hlen : (rem q1).length = (rem q2).length + 1 := by rw [hr]; rfl
  cases hb2 : brkP A q2 with
  | none =>
   dsimp only
   refine join_r (fun y V' => y = (true, ()) ∧ V2 = V') (sif_r (fun _ => ⟨rfl, rfl⟩) (fun hc => by simp at hc)) ?_
   rintro _ _ ⟨rfl, rfl⟩
   refine sif_true (hR (d, q2, r2) _ V2 ⟨rfl, d1, by dsimp only; omega, hV2, hs.trans (hk hb2 d), uV2⟩ (by dsimp only; omega))
  | some b2 =>
   dsimp only
   have hbb := hb b2 hb2 d
   refine join_r (fun y V' => y = (decide (b2 % 3 ≠ n % 3), ()) ∧ V2 = V') (sif_r (fun hc => by simp at hc; omega) (fun _ => chk_r (by decide) (chk_r (by decide) ⟨by rw [mod3], rfl⟩))) ?_
   rintro _ _ ⟨rfl, rfl⟩
   refine sif_r (fun hc => ?_) (fun hc => ?_)
   ·rw [if_pos (of_decide_eq_true hc)] at hbb
    exact hR (d, q2, r2) _ V2 ⟨rfl, d1, by dsimp only; omega, hV2, hs.trans hbb, uV2⟩ (by dsimp only; omega)
   ·rw [if_neg (of_decide_eq_false hc)] at hbb
    refine sif_r (fun he => ?_) (fun he => ?_)
    ·simp only [beq_iff_eq] at he
     rw [if_pos (by omega)] at hbb
     have ew : IntKind.wrap .i64 ((d : Int) + 1) = ((d + 1 : Nat) : Int) := by rw [wrap64 (by omega) (by omega)]; omega
     rw [ew]
     exact hR (d + 1, q2, r2) _ V2 ⟨rfl, by dsimp only; omega, by dsimp only; omega, hV2, hs.trans hbb, uV2⟩ (by dsimp only; omega)
    ·simp only [beq_eq_false_iff_ne, ne_eq] at he
     rw [if_neg (by omega)] at hbb
     have ew : IntKind.wrap .i64 ((d : Int) - 1) = ((d - 1 : Nat) : Int) := by rw [wrap64 (by omega) (by omega)]; omega
     rw [ew]
     refine sif_r (fun hz => ?_) (fun hz => ?_)
     ·simp only [beq_iff_eq] at hz
      rw [if_pos (by omega)] at hbb
      exact ⟨d - 1, rfl, .inr ⟨by omega, q2, r2, hs.trans hbb, hV2, uV2⟩⟩
     ·simp only [beq_eq_false_iff_ne, ne_eq] at hz
      rw [if_neg (by omega)] at hbb
      exact hR (d - 1, q2, r2) _ V2 ⟨rfl, by dsimp only; omega, by dsimp only; omega, hV2, hs.trans hbb, uV2⟩ (by dsimp only; omega)
 rintro _ V ⟨d, rfl, (⟨d1, hs, uV⟩ | ⟨d0, q2, r2, hs, hV, uV⟩)⟩
 ·rw [hs] at hK
  refine sif_r (fun _ => nowhere_call fun w5 e5 => fin_r ((S1.ext (xt uV)).ext e5) hK) (fun hc => ?_)
  simp at hc; omega
 ·rw [hs] at hK
  subst d0
  refine sif_r (fun hc => by simp at hc) (fun _ => wkat_call hV fun w5 e5 => ?_)
  have x5 := (xt uV).trans e5
  exact mvat_call ((h.ext e1).ext x5) fun w6 e6 => fin_r ((S1.ext x5).ext e6) hK
end
abbrev mvM (kind count arg : Int) : Cells.T c31 := (kind, count, arg, ())
abbrev mvMO (kind count arg : Int) : Obj := .cells #[.int .i64 kind, .int .i64 count, .int .i64 arg] 31 (0, 0)
def vF : Option FuncId → Value
 | none => .nilFunc
 | some g => .func (.func g) #[] #[]
def bigK (kind : Int) : Bool := decide ((25 ≤ kind ∧ kind ≤ 28) ∨ kind = 30)
section
variable {w w' : World} {b p : Nat} {A : List Int} {x goal kind count arg : Int} {past big : Bool}
theorem rdB_efunc {t : TypeId} {ps rs : Array TypeId} {vr : Bool} (hu : Tryz.prog.underlying t = some (.func ps rs vr)) {o1 : Operand} {v : Option FuncId} {K : Bool → World → Prop} (h : K v.isNone w) : rdB Tryz.prog (do eqGuard .eql t o1 (.const .nilFunc) (vF v) .nilFunc; binOp .eql t (vF v) .nilFunc : Sem Value) K w := by
 refine ⟨v.isNone, ?_, h⟩
 cases v with
 | none =>
  have e : (Op.equal t .nilFunc .nilFunc).run Tryz.prog w = .ok true w := equal_nfunc hu 9999
  simp [eqGuard, binOp, vF, e]
 | some g =>
  have e : (Op.equal t (.func (.func g) #[] #[]) .nilFunc).run Tryz.prog w = .ok false w := equal_func hu _ _ _ 9999
  simp [eqGuard, binOp, vF, e]
theorem uMove1 : Tryz.prog.underlying 111 = some (.func #[112] #[43, 44] false) := by kernel_rfl
theorem mrun_call {tab : Value} {v : Option FuncId} {ans : Ld} (h : TxA w p A)
  (htab : ∀ W (K : Value → World → Prop), K (vF v) W → callX Tryz.prog (do let d ← Deferred.ofValue tab #[.int .i64 kind]; invoke d.target d.args : Sem Next) (.one (.one .any)) K W)
  (hnil : v = none → ans = noP 1)
  (hdo : ∀ g, v = some g → ((Tryz.prog.funcs[g]?).map fun fn => (fn.body.isNone, fn.name == "runtime.NumGoroutine")) = some (false, false) ∧ ∀ W b r N (K : LdT → World → Prop), MvIs W b p A x count arg (max goal 0) past (bigK kind) r → TxN W p A N → N ≤ b → (∀ W', Upd (fun k => k = b) W W' → K (ldT ans) W') → callT Tryz.prog g #[.pointer (some (at0 b))] (.tup [(.agg c43), (.one (.int .i64))]) K W)
  {K : LdT → World → Prop} (hK : ∀ w', Ext w w' → K (ldT ans) w') :
  callT Tryz.prog 45 #[tab, .pointer (some (at0 p)), .int .i64 x, .int .i64 goal, .agg (Cells.vals c31 (mvM kind count arg)).toArray, .bool past] (.tup [(.agg c43), (.one (.int .i64))]) K w := by
 refine F45_calls (a4 := mvM kind count arg) ?_
 unfold F45
 refine (St.start w).newO fun b1 w1 S1 e1 => S1.newO fun b2 w2 S2 e2 => ?_
 have S2 : St (fun _ => False) w w2 [(b2, ldZ), (b1, mvMO kind count arg)] := S2
 refine S2.ld (off := 0) 1 rfl (x := kind) rfl (htab w2 _ ?_)
 refine rdB_efunc uMove1 ?_
 cases v with
 | none =>
  have ha := hnil rfl
  subst ha
  refine sif_true (S2.aggSt 0 rfl rfl rfl rfl fun w3 S3 _ => S3.lds 0 (ldT (noP 1)).1 rfl (hK w3 S3.upd))
 | some g =>
  obtain ⟨hg, hdo⟩ := hdo g rfl
  refine sif_false (mclamp_call (h.ext S2.upd) fun w3 e3 => ?_)
  have S3 := S2.ext e3
  refine S3.drew fun w4 S4 e4 _ => S4.ld (off := 2) 1 rfl (x := arg) rfl (rowat_call (h.ext S4.upd) fun r w5 hr e5 => ?_)
  have S5 := S4.ext e5
  rw [clamp_row] at hr
  have hr : RowIs w5 A (posP A x past).1 r := hr
  refine S5.keep (off := 2) 1 rfl (v := .int .i64 arg) rfl (S5.newO' fun b10 w6 S6 e6 hb10 => ?_)
  have em : (if (0 : Int) > goal then (0 : Int) else goal) = max goal 0 := by split <;> omega
  rw [em] at S6
  have S6 : St (fun _ => False) w w6 [(b10, mvO p (clampP A x past : Int) 0 1 false arg (max goal 0) past false r), (b2, ldZ), (b1, mvMO kind count arg)] := S6
  have hr6 := hr.ext e6
  refine nn_some (lds_r (off := 9) (x := r) (S6.at_ 0 rfl) (mv_cells (by rfl)) (mcol_call (hr.ext e6) fun w7 e7 => nn_some ?_))
  have S7 := S6.ext e7
  refine S7.stC (off := 2) 0 rfl (by show 2 < 16; decide) fun w8 S8 u8 => ?_
  have hr8 : RowIs w8 A (posP A x past).1 r := (hr6.ext e7).box (S7.at_ 0 rfl) (by decide) u8
  have S8 : St (fun _ => False) w w8 [(b10, mvO p (clampP A x past : Int) ((posP A x past).2 : Int) 1 false arg (max goal 0) past false r), (b2, ldZ), (b1, mvMO kind count arg)] := S8
  refine join_r (fun _ W => RowIs W A (posP A x past).1 r ∧ St (fun _ => False) w W [(b10, mvO p (clampP A x past : Int) ((posP A x past).2 : Int) 1 false arg (max goal 0) past (bigK kind) r), (b2, ldZ), (b1, mvMO kind count arg)]) ?_ ?_
  ·have hset : ∀ (bb : Bool), bb = bigK kind → stC ((at0 b10).add 8) (.bool bb) (fun W => RowIs W A (posP A x past).1 r ∧ St (fun _ => False) w W [(b10, mvO p (clampP A x past : Int) ((posP A x past).2 : Int) 1 false arg (max goal 0) past (bigK kind) r), (b2, ldZ), (b1, mvMO kind count arg)]) w8 := fun bb hbb => by
    subst hbb
    exact S8.stC (off := 8) 0 rfl (by show 8 < 16; decide) fun w9 S9 u9 => ⟨hr8.box (S8.at_ 0 rfl) (by decide) u9, S9⟩
   refine S8.ld (off := 0) 2 rfl (x := kind) rfl (sif_r (fun hc => ?_) (fun hc => ?_))
   ·simp only [decide_eq_true_eq, ge_iff_le] at hc
    refine S8.ld (off := 0) 2 rfl (x := kind) rfl (sif_r (fun hc2 => ?_) (fun hc2 => ?_))
    ·simp only [decide_eq_true_eq] at hc2
     exact nn_some (hset true (by unfold bigK; rw [decide_eq_true]; exact .inl ⟨hc, hc2⟩))
    ·simp only [decide_eq_false_iff_not] at hc2
     refine S8.ld (off := 0) 2 rfl (x := kind) rfl (nn_some (hset _ ?_))
     unfold bigK
     rw [Bool.eq_iff_iff, beq_iff_eq, decide_eq_true_eq]; omega
   ·simp only [decide_eq_false_iff_not, ge_iff_le] at hc
    refine S8.ld (off := 0) 2 rfl (x := kind) rfl (nn_some (hset _ ?_))
    unfold bigK
    rw [Bool.eq_iff_iff, beq_iff_eq, decide_eq_true_eq]; omega
  rintro _ w9 ⟨hr9, S9⟩
  refine join_r (fun _ W => RowIs W A (posP A x past).1 r ∧ St (fun _ => False) w W [(b10, mvO p (clampP A x past : Int) ((posP A x past).2 : Int) (kOf count : Int) (decide (0 < count)) arg (max goal 0) past (bigK kind) r), (b2, ldZ), (b1, mvMO kind count arg)]) ?_ ?_
  ·refine S9.ld (off := 1) 2 rfl (x := count) rfl (sif_r (fun hc => ?_) (fun hc => ?_))
   ·simp only [decide_eq_true_eq, gt_iff_lt] at hc
    refine S9.ld (off := 1) 2 rfl (x := count) rfl (nn_some ?_)
    have ek : (if (9999 : Int) < count then (9999 : Int) else count) = (kOf count : Int) := by unfold kOf; rw [if_pos hc]; split <;> omega
    rw [ek, decide_eq_true hc]
    refine S9.stC (off := 3) 0 rfl (by show 3 < 16; decide) fun w10 S10 u10 => nn_some (S10.stC (off := 4) 0 rfl (by show 4 < 16; decide) fun w11 S11 u11 => ⟨(hr9.box (S9.at_ 0 rfl) (by decide) u10).box (S10.at_ 0 rfl) (by decide) u11, S11⟩)
   ·simp only [decide_eq_false_iff_not, gt_iff_lt] at hc
    have ek : kOf count = 1 := by unfold kOf; rw [if_neg hc]
    rw [ek, decide_eq_false hc]
    exact ⟨hr9, S9⟩
  rintro _ w10 ⟨hrow, S10⟩
  have hge : w5.heap.size ≤ b10 := Nat.le_of_eq hb10.symm
  have hmv : MvIs w10 b10 p A x count arg (max goal 0) past (bigK kind) r := ⟨h.ext S10.upd, S10.at_ 0 rfl, hrow⟩
  refine func_x (caps := #[]) hg (hdo w10 b10 r w.heap.size _ hmv (h.n.ext S10.upd) (S10.ge 0 rfl) fun w11 u11 => ?_)
  have S11 : St (fun _ => False) w w11 [(b2, ldZ), (b1, mvMO kind count arg)] := S10.tail.fresh u11 (fun k hk => .inr (by subst hk; exact S10.ge 0 rfl)) (fun y hy hk => by
   have hnd := S10.nd
   simp only [List.map_cons, List.map_nil, List.nodup_cons, List.mem_cons, List.not_mem_nil, or_false, not_or] at hnd
   rcases List.mem_cons.1 hy with rfl | hy
   ·exact hnd.1.1 hk.symm
   ·rw [List.mem_singleton.1 hy] at hk
    exact hnd.1.2 hk.symm)
  exact S11.aggSt 0 rfl rfl rfl rfl fun w12 S12 _ => S12.lds 0 (ldT ans).1 rfl (hK w12 S12.upd)
theorem hand_r {W w0 : World} {b2 : Nat} {o : Obj} {b1 : Nat} {l : Ld} {K : LdT → World → Prop} (S : St (fun _ => False) w0 W [(b2, ldZ), (b1, o)]) (hK : ∀ w', Ext w0 w' → K (ldT l) w') :
  aggSt (at0 b2) (.agg (Cells.vals c43 (ldT l).1).toArray) 3 (lds c43 (at0 b2) fun y => K (y, (ldT l).2.1, ())) W :=
 S.aggSt 0 rfl rfl rfl rfl fun w1 S1 _ => S1.lds 0 (ldT l).1 rfl (hK w1 S1.upd)
def charV (k : Int) : Option FuncId := if k = 1 then some 70 else if k = 2 then some 71 else if k = 3 then some 72 else if k = 4 then some 73 else if k = 5 then some 74 else if k = 6 then some 75 else if k = 7 then some 76 else if k = 8 then some 77 else if k = 9 then some 78 else if k = 10 then some 79 else none
def rowV (k : Int) : Option FuncId := if k = 11 then some 84 else if k = 12 then some 85 else if k = 13 then some 86 else if k = 14 then some 87 else if k = 15 then some 88 else if k = 16 then some 89 else if k = 17 then some 90 else if k = 18 then some 91 else none
def wordV (k : Int) : Option FuncId := if k = 21 ∨ k = 25 then some 138 else if k = 22 ∨ k = 26 then some 139 else if k = 23 ∨ k = 27 then some 140 else if k = 24 ∨ k = 28 then some 141 else if k = 29 ∨ k = 30 then some 142 else none
def paraV (k : Int) : Option FuncId := if k = 31 then some 96 else if k = 32 then some 97 else if k = 33 then some 98 else none
theorem sel_r {n : Int} {k : Int} {g : FuncId} {o : Option FuncId} {K : Value → World → Prop} {B : World → Prop} (hK : K (vF (if k = n then some g else o)) w) (h2 : K (vF o) w → B w) : sif (k == n) (K (.func (.func g) #[] #[])) B w := by
 refine sif_r (fun hc => ?_) (fun hc => ?_)
 ·simp only [beq_iff_eq] at hc
  rw [if_pos hc] at hK; exact hK
 ·simp only [beq_eq_false_iff_ne, ne_eq] at hc
  rw [if_neg hc] at hK; exact h2 hK
theorem charmove_call {K : Value → World → Prop} (hK : K (vF (charV kind)) w) : callT Tryz.prog 46 #[.int .i64 kind] (.one (.one .any)) K w := by
 refine F46_calls ?_
 unfold F46
 exact sel_r hK fun hK => sel_r hK fun hK => sel_r hK fun hK => sel_r hK fun hK => sel_r hK fun hK => sel_r hK fun hK => sel_r hK fun hK => sel_r hK fun hK => sel_r hK fun hK => sel_r hK fun hK => hK
theorem rowmove_call {K : Value → World → Prop} (hK : K (vF (rowV kind)) w) : callT Tryz.prog 52 #[.int .i64 kind] (.one (.one .any)) K w := by
 refine F52_calls ?_
 unfold F52
 exact sel_r hK fun hK => sel_r hK fun hK => sel_r hK fun hK => sel_r hK fun hK => sel_r hK fun hK => sel_r hK fun hK => sel_r hK fun hK => sel_r hK fun hK => hK
theorem paramove_call {K : Value → World → Prop} (hK : K (vF (paraV kind)) w) : callT Tryz.prog 56 #[.int .i64 kind] (.one (.one .any)) K w := by
 refine F56_calls ?_
 unfold F56
 exact sel_r hK fun hK => sel_r hK fun hK => sel_r hK fun hK => hK
theorem sel2_r {m n : Int} {k : Int} {g : FuncId} {o : Option FuncId} {K : Value → World → Prop} {B : World → Prop} (hK : K (vF (if k = m ∨ k = n then some g else o)) w) (h2 : K (vF o) w → B w) :
  join (S := Bool × Unit) (fun J => sif (k == m) (J ((k == m), ())) (J ((k == n), ()))) (fun s => sif s.1 (K (.func (.func g) #[] #[])) B) w := by
 refine join_r (fun y W => y = (decide (k = m ∨ k = n), ()) ∧ w = W) ?_ ?_
 ·refine sif_r (fun hc => ⟨tupb ?_, rfl⟩) (fun hc => ⟨tupb ?_, rfl⟩)
  ·simp only [beq_iff_eq] at hc
   simp [hc]
  ·simp only [beq_eq_false_iff_ne, ne_eq] at hc
   simp [hc]
 rintro _ _ ⟨rfl, rfl⟩
 refine sif_r (fun hc => ?_) (fun hc => ?_)
 ·rw [if_pos (of_decide_eq_true hc)] at hK; exact hK
 ·rw [if_neg (of_decide_eq_false hc)] at hK; exact h2 hK
theorem wordmove_call {K : Value → World → Prop} (hK : K (vF (wordV kind)) w) : callT Tryz.prog 101 #[.int .i64 kind] (.one (.one .any)) K w := by
 refine F101_calls ?_
 unfold F101
 exact sel2_r hK fun hK => sel2_r hK fun hK => sel2_r hK fun hK => sel2_r hK fun hK => sel2_r hK fun hK => hK
theorem mchars_call (h : TxA w p A) {K : LdT → World → Prop} (hK : ∀ w', Ext w w' → K (ldT (charsP A x kind count arg past)) w') :
  callT Tryz.prog 16 #[.pointer (some (at0 p)), .int .i64 x, .agg (Cells.vals c31 (mvM kind count arg)).toArray, .bool past] (.tup [(.agg c43), (.one (.int .i64))]) K w := by
 refine F16_calls (a2 := mvM kind count arg) ?_
 unfold F16
 refine (St.start w).newO fun b1 w1 S1 e1 => S1.newO fun b2 w2 S2 e2 => ?_
 have S2 : St (fun _ => False) w w2 [(b2, ldZ), (b1, mvMO kind count arg)] := S2
 refine S2.lds 1 (mvM kind count arg) rfl (mrun_call (v := charV kind) (ans := charsP A x kind count arg past) (h.ext S2.upd) (fun W K hk => func_x (caps := #[]) (by kernel_rfl) (charmove_call hk)) (fun hn => ?_) (fun g hg => ?_) fun w3 e3 => hand_r (S2.ext e3) hK)
 ·have n1 : ¬ kind = 1 := fun h => absurd (h ▸ hn) (by decide)
  have n2 : ¬ kind = 2 := fun h => absurd (h ▸ hn) (by decide)
  have n3 : ¬ kind = 3 := fun h => absurd (h ▸ hn) (by decide)
  have n4 : ¬ kind = 4 := fun h => absurd (h ▸ hn) (by decide)
  have n5 : ¬ kind = 5 := fun h => absurd (h ▸ hn) (by decide)
  have n6 : ¬ kind = 6 := fun h => absurd (h ▸ hn) (by decide)
  have n7 : ¬ kind = 7 := fun h => absurd (h ▸ hn) (by decide)
  have n8 : ¬ kind = 8 := fun h => absurd (h ▸ hn) (by decide)
  have n9 : ¬ kind = 9 := fun h => absurd (h ▸ hn) (by decide)
  have n10 : ¬ kind = 10 := fun h => absurd (h ▸ hn) (by decide)
  unfold charsP
  dsimp only
  rw [if_neg n1, if_neg n2, if_neg n3, if_neg n4, if_neg n5, if_neg n6, if_neg (by omega), if_neg (by omega)]
 ·have up : ∀ {W : World} {b : Nat} {K : LdT → World → Prop}, (∀ W', Upd (fun k => k = b) W W' → K (ldT (charsP A x kind count arg past)) W') → ∀ W', Ext W W' → K (ldT (charsP A x kind count arg past)) W' := fun hk W' e => hk W' (Upd.of_ext e)
  unfold charV at hg
  split at hg
  ·cases hg; subst kind; exact ⟨by kernel_rfl, fun W b r N K hm _ _ hk => left_call hm (up hk)⟩
  split at hg
  ·cases hg; subst kind; exact ⟨by kernel_rfl, fun W b r N K hm _ _ hk => right_call hm (up hk)⟩
  split at hg
  ·cases hg; subst kind; exact ⟨by kernel_rfl, fun W b r N K hm _ _ hk => start_call hm (up hk)⟩
  split at hg
  ·cases hg; subst kind; exact ⟨by kernel_rfl, fun W b r N K hm _ _ hk => mfst_call hm (up hk)⟩
  split at hg
  ·cases hg; subst kind; exact ⟨by kernel_rfl, fun W b r N K hm _ _ hk => end_call hm (up hk)⟩
  split at hg
  ·cases hg; subst kind; exact ⟨by kernel_rfl, fun W b r N K hm _ _ hk => bar_call hm (up hk)⟩
  split at hg
  ·cases hg; subst kind; exact ⟨by kernel_rfl, fun W b r N K hm _ _ hk => find_call' hm (up hk)⟩
  split at hg
  ·cases hg; subst kind; exact ⟨by kernel_rfl, fun W b r N K hm _ _ hk => findb_call hm (up hk)⟩
  split at hg
  ·cases hg; subst kind; exact ⟨by kernel_rfl, fun W b r N K hm _ _ hk => till_call hm (up hk)⟩
  split at hg
  ·cases hg; subst kind; exact ⟨by kernel_rfl, fun W b r N K hm _ _ hk => tillb_call hm (up hk)⟩
  ·cases hg
theorem mrows_call (h : TxA w p A) {K : LdT → World → Prop} (hK : ∀ w', Ext w w' → K (ldT (rowsP A x goal kind count)) w') :
  callT Tryz.prog 22 #[.pointer (some (at0 p)), .int .i64 x, .int .i64 goal, .agg (Cells.vals c31 (mvM kind count arg)).toArray] (.tup [(.agg c43), (.one (.int .i64))]) K w := by
 refine F22_calls (a3 := mvM kind count arg) ?_
 unfold F22
 refine (St.start w).newO fun b1 w1 S1 e1 => S1.newO fun b2 w2 S2 e2 => ?_
 have S2 : St (fun _ => False) w w2 [(b2, ldZ), (b1, mvMO kind count arg)] := S2
 refine S2.lds 1 (mvM kind count arg) rfl (mrun_call (v := rowV kind) (ans := rowsP A x goal kind count) (h.ext S2.upd) (fun W K hk => func_x (caps := #[]) (by kernel_rfl) (rowmove_call hk)) (fun hn => ?_) (fun g hg => ?_) fun w3 e3 => hand_r (S2.ext e3) hK)
 ·have n11 : ¬ kind = 11 := fun h => absurd (h ▸ hn) (by decide)
  have n12 : ¬ kind = 12 := fun h => absurd (h ▸ hn) (by decide)
  have n13 : ¬ kind = 13 := fun h => absurd (h ▸ hn) (by decide)
  have n14 : ¬ kind = 14 := fun h => absurd (h ▸ hn) (by decide)
  have n15 : ¬ kind = 15 := fun h => absurd (h ▸ hn) (by decide)
  have n16 : ¬ kind = 16 := fun h => absurd (h ▸ hn) (by decide)
  have n17 : ¬ kind = 17 := fun h => absurd (h ▸ hn) (by decide)
  have n18 : ¬ kind = 18 := fun h => absurd (h ▸ hn) (by decide)
  unfold rowsP
  dsimp only
  rw [if_neg n11, if_neg n12, if_neg n13, if_neg n14, if_neg n15, if_neg n16, if_neg n17, if_neg n18]
 ·have up : ∀ {W : World} {b : Nat} {K : LdT → World → Prop}, (∀ W', Upd (fun k => k = b) W W' → K (ldT (rowsP A x goal kind count)) W') → ∀ W', Ext W W' → K (ldT (rowsP A x goal kind count)) W' := fun hk W' e => hk W' (Upd.of_ext e)
  unfold rowV at hg
  split at hg
  ·cases hg; subst kind; exact ⟨by kernel_rfl, fun W b r N K hm _ _ hk => down_call hm (up hk)⟩
  split at hg
  ·cases hg; subst kind; exact ⟨by kernel_rfl, fun W b r N K hm _ _ hk => up_call hm (up hk)⟩
  split at hg
  ·cases hg; subst kind; exact ⟨by kernel_rfl, fun W b r N K hm _ _ hk => nextr_call hm (up hk)⟩
  split at hg
  ·cases hg; subst kind; exact ⟨by kernel_rfl, fun W b r N K hm _ _ hk => prevr_call hm (up hk)⟩
  split at hg
  ·cases hg; subst kind; exact ⟨by kernel_rfl, fun W b r N K hm _ _ hk => here_call hm (up hk)⟩
  split at hg
  ·cases hg; subst kind; exact ⟨by kernel_rfl, fun W b r N K hm _ _ hk => goto_call hm (up hk)⟩
  split at hg
  ·cases hg; subst kind; exact ⟨by kernel_rfl, fun W b r N K hm _ _ hk => top_call hm (up hk)⟩
  split at hg
  ·cases hg; subst kind; exact ⟨by kernel_rfl, fun W b r N K hm _ _ hk => perc_call hm (up hk)⟩
  ·cases hg
theorem words_is (A : List Int) (x kind count : Int) (past : Bool) : wordsM A x kind count past = if kind = 21 ∨ kind = 25 then wordR A x count past (bigK kind) else if kind = 22 ∨ kind = 26 then backR A x count past (bigK kind) else if kind = 23 ∨ kind = 27 then wendR A x count past (bigK kind) else if kind = 24 ∨ kind = 28 then bendR A x count past (bigK kind) else if kind = 29 ∨ kind = 30 then restR A x count past (bigK kind) else noP 1 := rfl
theorem mwords_call (h : TxA w p A) {K : LdT → World → Prop} (hK : ∀ w', Ext w w' → K (ldT (wordsM A x kind count past)) w') :
  callT Tryz.prog 59 #[.pointer (some (at0 p)), .int .i64 x, .agg (Cells.vals c31 (mvM kind count arg)).toArray, .bool past] (.tup [(.agg c43), (.one (.int .i64))]) K w := by
 refine F59_calls (a2 := mvM kind count arg) ?_
 unfold F59
 refine (St.start w).newO fun b1 w1 S1 e1 => S1.newO fun b2 w2 S2 e2 => ?_
 have S2 : St (fun _ => False) w w2 [(b2, ldZ), (b1, mvMO kind count arg)] := S2
 refine S2.lds 1 (mvM kind count arg) rfl (mrun_call (v := wordV kind) (ans := wordsM A x kind count past) (h.ext S2.upd) (fun W K hk => func_x (caps := #[]) (by kernel_rfl) (wordmove_call hk)) (fun hn => ?_) (fun g hg => ?_) fun w3 e3 => hand_r (S2.ext e3) hK)
 ·have n21 : ¬ kind = 21 := fun h => absurd (h ▸ hn) (by decide)
  have n22 : ¬ kind = 22 := fun h => absurd (h ▸ hn) (by decide)
  have n23 : ¬ kind = 23 := fun h => absurd (h ▸ hn) (by decide)
  have n24 : ¬ kind = 24 := fun h => absurd (h ▸ hn) (by decide)
  have n25 : ¬ kind = 25 := fun h => absurd (h ▸ hn) (by decide)
  have n26 : ¬ kind = 26 := fun h => absurd (h ▸ hn) (by decide)
  have n27 : ¬ kind = 27 := fun h => absurd (h ▸ hn) (by decide)
  have n28 : ¬ kind = 28 := fun h => absurd (h ▸ hn) (by decide)
  have n29 : ¬ kind = 29 := fun h => absurd (h ▸ hn) (by decide)
  have n30 : ¬ kind = 30 := fun h => absurd (h ▸ hn) (by decide)
  rw [words_is, if_neg (by omega), if_neg (by omega), if_neg (by omega), if_neg (by omega), if_neg (by omega)]
 ·rw [words_is]
  unfold wordV at hg
  split at hg
  ·rename_i hk; cases hg; rw [if_pos hk]; exact ⟨by kernel_rfl, fun W b r N K hm _ _ hk => word_call' hm fun W' e => hk W' (Upd.of_ext e)⟩
  rename_i hk; rw [if_neg hk]
  split at hg
  ·rename_i hk; cases hg; rw [if_pos hk]; exact ⟨by kernel_rfl, fun W b r N K hm _ _ hk => back_call hm fun W' e => hk W' (Upd.of_ext e)⟩
  rename_i hk; rw [if_neg hk]
  split at hg
  ·rename_i hk; cases hg; rw [if_pos hk]; exact ⟨by kernel_rfl, fun W b r N K hm _ _ hk => wend_call hm fun W' e => hk W' (Upd.of_ext e)⟩
  rename_i hk; rw [if_neg hk]
  split at hg
  ·rename_i hk; cases hg; rw [if_pos hk]; exact ⟨by kernel_rfl, fun W b r N K hm _ _ hk => bend_call hm fun W' e => hk W' (Upd.of_ext e)⟩
  rename_i hk; rw [if_neg hk]
  split at hg
  ·rename_i hk; cases hg; rw [if_pos hk]; exact ⟨by kernel_rfl, fun W b r N K hm hN hle hk => rest_call hm hN hle hk⟩
  ·cases hg
theorem mparas_call (h : TxA w p A) {K : LdT → World → Prop} (hK : ∀ w', Ext w w' → K (ldT (parasM A x kind count)) w') :
  callT Tryz.prog 24 #[.pointer (some (at0 p)), .int .i64 x, .agg (Cells.vals c31 (mvM kind count arg)).toArray] (.tup [(.agg c43), (.one (.int .i64))]) K w := by
 refine F24_calls (a2 := mvM kind count arg) ?_
 unfold F24
 refine (St.start w).newO fun b1 w1 S1 e1 => S1.newO fun b2 w2 S2 e2 => ?_
 have S2 : St (fun _ => False) w w2 [(b2, ldZ), (b1, mvMO kind count arg)] := S2
 refine S2.lds 1 (mvM kind count arg) rfl (mrun_call (v := paraV kind) (ans := parasM A x kind count) (h.ext S2.upd) (fun W K hk => func_x (caps := #[]) (by kernel_rfl) (paramove_call hk)) (fun hn => ?_) (fun g hg => ?_) fun w3 e3 => hand_r (S2.ext e3) hK)
 ·have n31 : ¬ kind = 31 := fun h => absurd (h ▸ hn) (by decide)
  have n32 : ¬ kind = 32 := fun h => absurd (h ▸ hn) (by decide)
  have n33 : ¬ kind = 33 := fun h => absurd (h ▸ hn) (by decide)
  unfold parasM
  dsimp only
  rw [if_neg n31, if_neg n32, if_neg n33]
 ·have up : ∀ {W : World} {b : Nat} {K : LdT → World → Prop}, (∀ W', Upd (fun k => k = b) W W' → K (ldT (parasM A x kind count)) W') → ∀ W', Ext W W' → K (ldT (parasM A x kind count)) W' := fun hk W' e => hk W' (Upd.of_ext e)
  unfold paraV at hg
  split at hg
  ·cases hg; subst kind; exact ⟨by kernel_rfl, fun W b r N K hm _ _ hk => pnext_call hm (up hk)⟩
  split at hg
  ·cases hg; subst kind; exact ⟨by kernel_rfl, fun W b r N K hm _ _ hk => pprev_call hm (up hk)⟩
  split at hg
  ·cases hg; subst kind
   refine ⟨by kernel_rfl, fun W b r N K hm _ _ hk => mvmatch_call hm ?_⟩
   have e : parasM A x 33 0 = parasM A x 33 count := by rw [paras_match, paras_match]
   rw [e]; exact up hk
  ·cases hg
end
end Go.Proofs.YtolhlldgnfbemaaGreat
namespace Go.Proofs.YtolhlldgnfbemaaGreat
open Trx Gly Clu Lns Obx
namespace Mot
variable {A : List Int} {i : Nat}
theorem stand_home {n : Nat} {past : Bool} (h : Stand A n past) : nb A n ≤ brs A ∧ (rowL A (nb A n)).from_ ≤ n ∧ n ≤ (rowL A (nb A n)).to_ ∧ n ≤ A.length ∧ bk (rowB A (nb A n)) (n - (rowL A (nb A n)).from_) = true ∧ (past = false → (n < (rowL A (nb A n)).to_ ∨ (rowL A (nb A n)).from_ = (rowL A (nb A n)).to_) ∧ nb A n < lnN A) := by
 have hl := h.len
 obtain ⟨h1, h2, h3⟩ := h.row
 refine ⟨h1, h2, h3, hl, ?_, fun hp => ?_⟩
 ·obtain ⟨⟨i, c⟩, o1, rfl, _⟩ := h
  have hi : nb A (offP A (i, c)) = i := of_place o1.row _
  rw [hi]
  exact bnd_bk o1.row o1.col
 ·obtain ⟨⟨i, c⟩, o1, rfl, o3⟩ := h
  have hi : nb A (offP A (i, c)) = i := of_place o1.row _
  rw [hi]
  have hpl := o3 hp
  refine ⟨?_, hpl.row⟩
  rcases hpl.col with hc | ⟨h0, _⟩
  ·left
   have : placeR A i (c : Int) < placeR A i ((rowC A i).length : Int) := placeR_mono o1.row hc (Nat.le_refl _)
   rw [placeR_ge (i := i) (c := ((rowC A i).length : Int)) (by omega)] at this
   exact this
  ·exact .inr ((rowC_nil o1.row).1 h0)
end Mot
end Go.Proofs.YtolhlldgnfbemaaGreat
namespace Go.Proofs.YtolhlldgnfbemaaGreat
open Cdc Gly Clu Lns Obx
namespace Obx
def cls7 (n : Nat) : Nat := if n = 13 then 1 else if n = 10 then 2 else if n < 32 ∨ n = 127 then 3 else 0
def wrd7 (n : Nat) : Nat := if (9 ≤ n ∧ n ≤ 13) ∨ n = 32 then 0 else if (48 ≤ n ∧ n ≤ 57) ∨ (65 ≤ n ∧ n ≤ 90) ∨ n = 95 ∨ (97 ≤ n ∧ n ≤ 122) then 2 else 1
theorem table7 : ((List.range 128).all fun n => cls (n : Int) == cls7 n && cnj (n : Int) == 0 && wrd (n : Int) == wrd7 n) = true := by kernel_rfl
theorem asc_of {v : Int} (h : 0 ≤ v ∧ v < 128) : cls v = cls7 v.toNat ∧ cnj v = 0 ∧ wrd v = wrd7 v.toNat := by
 have h1 := List.all_eq_true.1 table7 v.toNat (List.mem_range.2 (by omega))
 have e : ((v.toNat : Nat) : Int) = v := by omega
 rw [e] at h1
 simp only [Bool.and_eq_true, beq_iff_eq] at h1
 exact ⟨h1.1.1, h1.1.2, h1.2⟩
theorem cls7_le (n : Nat) : cls7 n ≤ 3 := by unfold cls7; split <;> (try split) <;> (try split) <;> omega
def Asc7 (l : List Int) : Prop := ∀ v ∈ l, 0 ≤ v ∧ v < 128
theorem joins7 {s : Sc} {a : Int} (ha : 0 ≤ a ∧ a < 128) (hs : s.last ≤ 3) : joins s (cls a) (cnj a) = decide (s.last = 1 ∧ a = 10) := by
 obtain ⟨h1, h2, _⟩ := asc_of ha
 have h3 := cls7_le a.toNat
 rw [h1, h2]
 have h10 : cls7 a.toNat = 2 ↔ a = 10 := by unfold cls7; split <;> (try split) <;> (try split) <;> omega
 unfold joins
 by_cases hc : s.last = 1 ∧ cls7 a.toNat = 2
 ·rw [if_pos hc, decide_eq_true ⟨hc.1, h10.1 hc.2⟩]
 ·rw [if_neg hc, decide_eq_false (fun h => hc ⟨h.1, h10.2 h.2⟩)]
  split
  ·rfl
  ·rename_i hap
   simp only [not_or, apart, decide_eq_true_eq] at hap
   have e0 : s.last = 0 := by omega
   have e1 : cls7 a.toNat = 0 := by omega
   rw [e0, e1]
   rfl
theorem last7 {A : List Int} (h : Asc7 A) : ∀ k, (sc (A.take k)).last ≤ 3
 | 0 => by simp [sc, Sc.zero]
 | k + 1 => by
  by_cases hk : k < A.length
  ·rw [List.take_add_one, List.getElem?_eq_getElem hk]
   show (sc (A.take k ++ [A[k]])).last ≤ 3
   rw [sc_snoc, last_stp, (asc_of (h _ (List.getElem_mem hk))).1]
   exact cls7_le _
  ·have := last7 h k
   rwa [List.take_of_length_le (by omega)] at this ⊢
theorem bk7 {A : List Int} (h : Asc7 A) {k : Nat} (hk : k ≤ A.length) : bk A k = !(decide (0 < k) && (A[k - 1]? == some 13) && (A[k]? == some 10)) := by
 cases k with
 | zero => rw [bk_zero]; rfl
 | succ k =>
  by_cases he : k + 1 = A.length
  ·rw [he, bk_len, List.getElem?_eq_none (Nat.le_refl A.length)]
   simp
  ·have ha : A[k + 1]? = some A[k + 1] := List.getElem?_eq_getElem (by omega)
   have hb : A[k]? = some A[k] := List.getElem?_eq_getElem (by omega)
   rw [bk_at ha (by omega), joins7 (h _ (List.getElem_mem _)) (last7 h _)]
   have hl : (sc (A.take (k + 1))).last = cls7 (A[k]).toNat := by
    rw [List.take_add_one, hb]
    show (sc (A.take k ++ [A[k]])).last = _
    rw [sc_snoc, last_stp, (asc_of (h _ (List.getElem_mem _))).1]
   have h13 : cls7 (A[k]).toNat = 1 ↔ A[k] = 13 := by
    have := h A[k] (List.getElem_mem _)
    unfold cls7; split <;> (try split) <;> (try split) <;> omega
   rw [hl, ha, Nat.add_sub_cancel, hb]
   rw [Bool.eq_iff_iff]
   simp [h13]
def NoCL (A : List Int) : Prop := ∀ k : Nat, A[k]? = some 13 → A[k + 1]? ≠ some 10
theorem bk7_all {A : List Int} (h : Asc7 A) (hn : NoCL A) {k : Nat} (hk : k ≤ A.length) : bk A k = true := by
 rw [bk7 h hk]
 cases k with
 | zero => rfl
 | succ k =>
  rw [Nat.add_sub_cancel]
  cases h1 : (A[k]? == some 13) with
  | false => simp
  | true =>
   have := hn k (by simpa using h1)
   simp [this]
theorem cuts7 {A : List Int} (h : Asc7 A) (hn : NoCL A) : cuts A = List.range (A.length + 1) := by
 unfold cuts cutsTo
 rw [List.filter_eq_self]
 intro k hk
 exact bk7_all h hn (by have := List.mem_range.1 hk; omega)
theorem cels7 {A : List Int} (h : Asc7 A) (hn : NoCL A) (off : Nat) {k : Nat} {a : Int} (ha : A[k]? = some a) : (cels A off)[k]? = some ⟨off + k, off + k + 1, wrd7 a.toNat, true, a⟩ := by
 have hk := (List.getElem?_eq_some_iff.1 ha).1
 have hlen : (cels A off).length = A.length := by rw [cels_len, cuts7 h hn, List.length_range, Nat.add_sub_cancel]
 obtain ⟨c, hc⟩ : ∃ c, (cels A off)[k]? = some c := ⟨_, List.getElem?_eq_getElem (by omega)⟩
 obtain ⟨i, j, h1, h2, h3, h4, h5, h6, _, _, h7, h8, h9⟩ := (cels_ok hc).ex
 rw [cuts7 h hn] at h1 h2
 rw [List.getElem?_range (by omega)] at h1
 rw [List.getElem?_range (by omega)] at h2
 cases h1; cases h2
 rw [ha] at h7
 cases h7
 obtain ⟨_, _, hw⟩ := asc_of (h _ (List.mem_of_getElem? ha))
 rw [hc]
 obtain ⟨cf, ct, ck, ca, cat⟩ := c
 dsimp only at *
 have : ca = true := h9.2 rfl
 subst h5 h6 this
 rw [h8, hw]
 rfl
theorem cels7_len {A : List Int} (h : Asc7 A) (hn : NoCL A) (off : Nat) : (cels A off).length = A.length := by rw [cels_len, cuts7 h hn, List.length_range, Nat.add_sub_cancel]
end Obx
end Go.Proofs.YtolhlldgnfbemaaGreat
namespace Go.Proofs.YtolhlldgnfbemaaGreat
open Trx Gly Clu Lns Obx
namespace Obx
structure Good (A : List Int) (s : Int × Int × Int) : Prop where
 lo : 0 ≤ s.1
 le : s.1 ≤ s.2.1
 hi : s.2.1 ≤ A.length
 b1 : bk A s.1.toNat = true
 b2 : bk A s.2.1.toNat = true
structure LcOk (A : List Int) (l : Ln) (c : Cel) : Prop where
 lo : l.from_ ≤ c.from_
 lt : c.from_ < c.to_
 hi : c.to_ ≤ l.to_
 b1 : bk A c.from_ = true
 b2 : bk A c.to_ = true
end Obx
namespace Obx
def NoBrk (L : List Int) : Prop := ∀ v ∈ L, v ≠ 10 ∧ v ≠ 13
theorem NoBrk.cl {L : List Int} (h : NoBrk L) : NoCL L := fun k hk => absurd rfl (h 13 (List.mem_of_getElem? hk)).2
end Obx
namespace Obx
def file : List (List Int) → List Int → List Int
 | [], R => R
 | l :: Ls, R => l ++ 10 :: file Ls R
def offs : List (List Int) → Nat → Nat
 | _, 0 => 0
 | [], _ + 1 => 0
 | l :: Ls, k + 1 => l.length + 1 + offs Ls k
theorem offs_zero (Ls : List (List Int)) : offs Ls 0 = 0 := by cases Ls <;> rfl
theorem brs_line {X : List Int} : ∀ {l : List Int}, NoBrk l → brs (l ++ 10 :: X) = 1 + brs X
 | [], _ => by rw [List.nil_append, brs]; rfl
 | a :: l, h => by
  have ha := h a List.mem_cons_self
  rw [List.cons_append, brs, brs_line (l := l) fun v hv => h v (List.mem_cons_of_mem _ hv)]
  have : isE a (l ++ 10 :: X) = false := by
   unfold isE
   simp [ha.1, ha.2]
  rw [this]; simp
theorem brs_none : ∀ {l : List Int}, NoBrk l → brs l = 0
 | [], _ => rfl
 | a :: l, h => by
  have ha := h a List.mem_cons_self
  rw [brs, brs_none (l := l) fun v hv => h v (List.mem_cons_of_mem _ hv)]
  have : isE a l = false := by unfold isE; simp [ha.1, ha.2]
  rw [this]; simp
theorem sk_line {X : List Int} {k : Nat} : ∀ {l : List Int}, NoBrk l → sk (l ++ 10 :: X) (k + 1) = (sk X k).map (· + (l.length + 1))
 | [], _ => by
  rw [List.nil_append, sk]
  have : isE 10 X = true := rfl
  rw [this]; rfl
 | a :: l, h => by
  have ha := h a List.mem_cons_self
  rw [List.cons_append, sk]
  have : isE a (l ++ 10 :: X) = false := by unfold isE; simp [ha.1, ha.2]
  rw [this]
  simp only [Bool.false_eq_true, if_false]
  rw [sk_line (l := l) fun v hv => h v (List.mem_cons_of_mem _ hv), Option.map_map]
  congr 1
def Lines (Ls : List (List Int)) : Prop := ∀ l ∈ Ls, NoBrk l
theorem sk_file {R : List Int} (hR : NoBrk R) : ∀ {Ls : List (List Int)} (k : Nat), Lines Ls → sk (file Ls R) k = if k ≤ Ls.length then some (offs Ls k) else none
 | Ls, 0, _ => by rw [sk_zero, offs_zero]; simp
 | [], k + 1, _ => by
  show sk R (k + 1) = _
  rw [sk_none R _ (by rw [brs_none hR]; omega), if_neg (by simp)]
 | l :: Ls, k + 1, h => by
  rw [file, sk_line (h l List.mem_cons_self), sk_file hR k fun x hx => h x (List.mem_cons_of_mem _ hx)]
  by_cases hk : k ≤ Ls.length
  ·rw [if_pos hk, if_pos (by simpa using hk), Option.map_some, offs]
   congr 1; omega
  ·rw [if_neg hk, if_neg (by simpa using hk)]; rfl
theorem brs_file {R : List Int} (hR : NoBrk R) : ∀ {Ls : List (List Int)}, Lines Ls → brs (file Ls R) = Ls.length
 | [], _ => brs_none hR
 | l :: Ls, h => by rw [file, brs_line (h l List.mem_cons_self), brs_file hR fun x hx => h x (List.mem_cons_of_mem _ hx), List.length_cons]; omega
theorem file_len (R : List Int) : ∀ Ls : List (List Int), (file Ls R).length = offs Ls Ls.length + R.length
 | [] => by simp [file, offs_zero]
 | l :: Ls => by rw [file, List.length_append, List.length_cons, file_len R Ls, List.length_cons, offs]; omega
variable {Ls : List (List Int)} {R : List Int}
theorem ln_last (hL : Lines Ls) (hR : NoBrk R) : lnAt (file Ls R) Ls.length = some ⟨offs Ls Ls.length, offs Ls Ls.length + R.length, offs Ls Ls.length + R.length, 0⟩ := by
 unfold lnAt
 rw [sk_file hR _ hL, if_pos (Nat.le_refl _), sk_file hR _ hL, if_neg (by omega)]
 simp only
 rw [file_len]
theorem lnN_file (hL : Lines Ls) (hR : NoBrk R) : lnN (file Ls R) = Ls.length + (if Ls ≠ [] ∧ R = [] then 0 else 1) := by
 unfold lnN ended
 rw [brs_file hR hL, sk_file hR _ hL, if_pos (Nat.le_refl _), file_len]
 congr 1
 by_cases hr : R = []
 ·subst hr
  cases Ls with
  | nil => simp [offs]
  | cons l Ls =>
   have h1 : offs (l :: Ls) (Ls.length + 1) ≠ 0 := by rw [offs]; omega
   have h2 : 0 < offs (l :: Ls) (Ls.length + 1) := by omega
   simp [h1, h2]
 ·have : 0 < R.length := List.length_pos_iff.2 hr
  have hb : (some (offs Ls Ls.length) == some (offs Ls Ls.length + R.length)) = false := by
   rw [beq_eq_false_iff_ne]
   intro h
   have := Option.some.inj h
   omega
  rw [hb, Bool.and_false, if_neg (by decide), if_neg (fun h => hr h.2)]
end Obx
namespace Mot
structure Tiny (A : List Int) : Prop where
 no : NoBrk A
 asc : Asc7 A
 pos : 0 < A.length
variable {A : List Int}
theorem Tiny.row (h : Tiny A) : brs A = 0 ∧ lnN A = 1 ∧ rowL A 0 = ⟨0, A.length, A.length, 0⟩ := by
 have hL : Lines [] := fun l hl => by cases hl
 have h1 := ln_last (Ls := []) (R := A) hL h.no
 have h2 := lnN_file (Ls := []) (R := A) hL h.no
 have e : file [] A = A := rfl
 have o : offs [] ([] : List (List Int)).length = 0 := rfl
 rw [e, o, Nat.zero_add] at h1
 rw [e] at h2
 refine ⟨brs_none h.no, ?_, ?_⟩
 ·rw [h2]; simp
 ·unfold rowL
  have h1 : lnAt A 0 = some ⟨0, A.length, A.length, 0⟩ := h1
  rw [h1]; rfl
theorem Tiny.cels (h : Tiny A) {k : Nat} {a : Int} (ha : A[k]? = some a) : (rowC A 0)[k]? = some ⟨k, k + 1, wrd7 a.toNat, true, a⟩ := by
 have e : rowC A 0 = Obx.cels A 0 := by
  unfold rowC lineC
  rw [h.row.2.2]
  dsimp only
  rw [List.drop_zero, Nat.sub_zero, List.take_length]
 have := cels7 h.asc h.no.cl 0 ha
 rw [e, this]
 simp
theorem Tiny.len (h : Tiny A) : (rowC A 0).length = A.length := by
 have e : rowC A 0 = Obx.cels A 0 := by
  unfold rowC lineC
  rw [h.row.2.2]
  dsimp only
  rw [List.drop_zero, Nat.sub_zero, List.take_length]
 rw [e, cels7_len h.asc h.no.cl]
theorem Tiny.place (h : Tiny A) {k : Nat} (hk : k ≤ A.length) : placeR A 0 (k : Int) = k := by
 by_cases hlt : k < A.length
 ·obtain ⟨a, ha⟩ : ∃ a, A[k]? = some a := ⟨_, List.getElem?_eq_getElem hlt⟩
  rw [placeR_lt (by rw [h.len]; exact hlt), frm_of (h.cels ha)]
 ·rw [placeR_ge (by rw [h.len]; omega), h.row.2.2]
  show A.length = k
  omega
theorem Tiny.plc (h : Tiny A) {k : Nat} (hk : k < A.length) : Plc A (0, k) := ⟨by have := h.row.2.1; dsimp only; omega, .inl (by rw [h.len]; exact hk)⟩
theorem Tiny.off (h : Tiny A) {k : Nat} (hk : k ≤ A.length) : offP A (0, k) = k := h.place hk
theorem Tiny.pos0 (h : Tiny A) : posP A 0 false = (0, 0) := by
 have hp := h.plc h.pos
 have := pos_of (past := false) hp.on (fun _ => hp)
 rw [h.off (Nat.zero_le _)] at this
 exact this
theorem asc_tiny {A : List Int} (h : A.all (fun v => decide (32 ≤ v ∧ v < 128)) = true) (h0 : 0 < A.length) : Tiny A := by
 rw [List.all_eq_true] at h
 refine ⟨fun v hv => ?_, fun v hv => ?_, h0⟩
 ·have := of_decide_eq_true (h v hv); omega
 ·have := of_decide_eq_true (h v hv); omega
theorem able_is : charsP [97, 98, 99] 0 2 0 0 false = landP [97, 98, 99] 1 0 := by
 have h : Tiny [97, 98, 99] := asc_tiny (by decide) (by decide)
 rw [chars_two, h.pos0]
 have hm : mostR [97, 98, 99] 0 false = 2 := by unfold mostR; rw [h.len]; rfl
 rw [hm, if_neg (by decide)]
 have e : (min ((0 : Nat) + kOf 0) 2) = 1 := by decide
 dsimp only
 rw [e, h.off (by decide)]
end Mot
end Go.Proofs.YtolhlldgnfbemaaGreat
namespace Go.Proofs.YtolhlldgnfbemaaGreat
open Go Go.Vx Cdc Trx
section
variable {w w' : World} {S : Nat → Prop} {p : Nat} {e : Enc} {lim na : Nat} {O : Nat → Prop} {M : Parts}
theorem eParts : ElemOk Tryz.prog 87 93 7 64 := ElemOk.of (z := .agg #[.slice none 0 0, .int .i64 0, .int .i64 0, .int .i64 0, .int .i64 0, .bool false, .bool false]) i87_ok i93_ok rfl rfl rfl (by decide)
def bOf (M : Parts) : Bs := M.flatMap fun x => x.2
theorem bOf_app (M N : Parts) : bOf (M ++ N) = bOf M ++ bOf N := by simp [bOf]
theorem Pc_one (x : Pc) : ∀ v ∈ flat c93 [pcT x], isOne v = true := by
 intro v hv
 rw [flat_one] at hv
 have : v ∈ (Cells.vals c93 (pcT x)) := hv
 revert this
 show v ∈ [_, _, _, _, _, _, _] → _
 intro h
 simp only [List.mem_cons, List.not_mem_nil, or_false] at h
 rcases h with rfl | rfl | rfl | rfl | rfl | rfl | rfl <;> rfl
set_option maxHeartbeats 1000000 in
theorem open_call {s : Sl} {l : Bs} (hB : By w s l) (hl : l.length ≤ lim) (hlim : lim ≤ 65536) {K : Option Addr × Int × Unit → World → Prop}
  (hK : ∀ p O M w', Txt w' p e lim 0 O M → aOf e M = ats e l → bOf M = l → Ext w w' → (∀ k, O k → w.heap.size ≤ k) → K (some (at0 p), 0, ()) w') :
  callT Tryz.prog 23 #[.int .i64 e.num, .slice s.a s.len s.cap, .int .i64 (lim : Int)] (.tup [(.one .ptr), (.one (.int .i64))]) K w := by
 refine F23_calls ?_
 unfold F23
 have hlen := hB.len
 have hen : 1 ≤ e.num ∧ e.num ≤ 4 := by cases e <;> decide
 refine join_r (fun x w' => x = (false, ()) ∧ w = w') (sif_r (fun h => ?_) (fun h => ⟨by rw [decide_eq_false (by omega)], rfl⟩)) ?_
 ·simp only [decide_eq_true_eq] at h; omega
 rintro _ _ ⟨rfl, rfl⟩
 refine sif_false (join_r (fun x w' => x = (false, ()) ∧ w = w') (sif_r (fun h => ?_) (fun h => ⟨by rw [decide_eq_false (by omega)], rfl⟩)) ?_)
 ·simp only [decide_eq_true_eq] at h; omega
 rintro _ _ ⟨rfl, rfl⟩
 refine sif_false (sif_r (fun h => ?_) (fun _ => ?_))
 ·simp only [decide_eq_true_eq, gt_iff_lt] at h; omega
 refine makeSlice_r EBy.ts_ i5_ok (z := .int .u8 0) rfl rfl (by omega) (by show ((s.len : Nat) : Int) * 1 ≤ 2 ^ 48; omega) (by omega) fun b w1 c n1 hc1 _ e1 hb1 => ?_
 rw [Int.toNat_natCast] at hc1 ⊢
 have hc1' : c.size = s.len := by rw [hc1]; show s.len * 1 = _; omega
 refine copy_r (off := 0) EBy.ts_ i5_ok.run_size n1 (by rw [List.length_map]; omega) (hB.ext e1).x (Nat.le_refl _) (bv_one l) fun w2 n2 u2 _ => ?_
 rw [setRow_whole (bv l) c (by rw [List.length_map]; omega)] at n2
 have e2 : Ext w w2 := e1.step u2 fun k hk => by omega
 have hL : By w2 ⟨some (at0 b), s.len, s.len⟩ l := by
  have := SlIn.of_box n2 (n := s.len) (sz := 1) (by simp; omega)
  simpa using this
 refine (St.start w2).newO fun b7 w3 S3 e3 => ?_
 have hb7 := S3.ge 0 rfl
 let Zt : Option Addr → Obj := fun q => .cells #[.int .i64 e.num, .int .i64 (lim : Int), .pointer q, .slice none 0 0] 86 (0, 0)
 let Lp : Nat → Sl → World → Prop := fun j r W => ∃ (its : List Pc) (M : Parts), St (fun _ => False) w2 W [(b7, Zt none)] ∧ SlOwn W w3.heap.size r 93 7 (flat c93 (its.map pcT)) ∧ Its W e its M ∧ aOf e M = (ats e l).take j ∧ bOf M = l.take (szs ((ats e l).take j)) ∧
  (∀ x ∈ its, ∀ k, x.bytes.blk k → k = b) ∧ By W ⟨some (at0 b), s.len, s.len⟩ l ∧ its.length ≤ j ∧ w3.heap.size ≤ W.heap.size
 have hne : ∀ {r : Sl} {its : List Pc} {W : World}, SlOwn W w3.heap.size r 93 7 (flat c93 (its.map pcT)) → its.length = r.len := fun ho => by
  have := SlOwn.lenR (cs := c93) ho (by decide)
  rwa [List.length_map] at this
 refine join_r (fun x W => ∃ j, Lp j x.1 W ∧ (ats e l).take j = ats e l) ?_ ?_
 ·refine sloop_r (fun x W => ∃ j, j ≤ (ats e l).length ∧ x.2 = (((szs ((ats e l).take j) : Nat) : Int), ()) ∧ Lp j x.1 W) (fun x _ => ((l.length : Int) - x.2.1).toNat) ⟨0, Nat.zero_le _, rfl, [], [], S3, SlOwn.nil _ _ _ _, trivial, rfl, rfl, (fun _ h => by cases h), hL.ext e3, Nat.le_refl _, Nat.le_refl _⟩ ?_
  rintro ⟨r, _⟩ W4 ⟨j, hj, rfl, its, M, S4, ho, hi, ha, hb, hk, hL4, hil, hW4⟩
  have hsj : szs ((ats e l).take j) ≤ l.length := pos_le j
  dsimp only at ho ⊢
  refine sif_r (fun hc => ?_) (fun hc => ?_)
  ·simp only [decide_eq_true_eq] at hc
   have hc' : szs ((ats e l).take j) < l.length := by omega
   refine join_r (fun x W => ∃ q, 1 ≤ q ∧ j + q ≤ (ats e l).length ∧ x = (((szs ((ats e l).take (j + q)) : Nat) : Int), ()) ∧ Ext W4 W) ?_ ?_
   ·refine sloop_r (fun x W => ∃ q, j + q ≤ (ats e l).length ∧ q ≤ 128 ∧ x = (((szs ((ats e l).take (j + q)) : Nat) : Int), (q : Int), ()) ∧ Ext W4 W) (fun x _ => ((l.length : Int) - x.1).toNat) ⟨0, by omega, by omega, rfl, Ext.refl W4⟩ ?_
    rintro _ W5 ⟨q, hq, hq2, rfl, x5⟩
    have hsq : szs ((ats e l).take (j + q)) ≤ l.length := pos_le _
    refine join_r (fun x W => x = (decide (szs ((ats e l).take (j + q)) < l.length ∧ q < 128), ()) ∧ W5 = W) ?_ ?_
    ·refine sif_r (fun h => ⟨tupb ?_, rfl⟩) (fun h => ⟨tupb ?_, rfl⟩)
     ·simp only [decide_eq_true_eq] at h ⊢; omega
     ·simp only [decide_eq_false_iff_not, decide_eq_true_eq] at h ⊢
      exact ⟨(fun h => by cases h), fun h => by omega⟩
    rintro _ W6 ⟨rfl, rfl⟩
    refine sif_r (fun h => ?_) (fun h => ?_)
    ·simp only [decide_eq_true_eq] at h
     obtain ⟨a, m, hqa, hnx, htk, hss, hm1, hsl⟩ := pos_step (e := e) (l := l) (j := j + q) h.1
     have hql : j + q < (ats e l).length := (List.getElem?_eq_some_iff.1 hqa).1
     refine next_call (hL4.ext x5) h.1 fun W7 x7 => ?_
     rw [hnx]
     have ewa : IntKind.wrap .i64 (((szs ((ats e l).take (j + q)) : Nat) : Int) + (m : Int)) = ((szs ((ats e l).take (j + q + 1)) : Nat) : Int) := by rw [wrap64 (by omega) (by omega)]; omega
     have ewb : IntKind.wrap .i64 ((q : Int) + 1) = ((q + 1 : Nat) : Int) := by rw [wrap64 (by omega) (by omega)]; omega
     refine ⟨⟨q + 1, by omega, by omega, by dsimp only; rw [ewa, ewb]; rfl, x5.trans x7⟩, ?_⟩
     dsimp only
     rw [ewa]; omega
    ·refine ⟨q, ?_, hq, rfl, x5⟩
     rcases Nat.eq_zero_or_pos q with h0 | h0
     ·subst h0
      have h' : ¬ (szs ((ats e l).take (j + 0)) < l.length ∧ 0 < 128) := fun hh => by rw [decide_eq_true hh] at h; cases h
      exact absurd ⟨hc', by decide⟩ h'
     ·exact h0
   ·rintro _ W5 ⟨q, hq1, hjq, rfl, x5⟩
    have S5 := S4.ext x5
    have hsq : szs ((ats e l).take (j + q)) ≤ l.length := pos_le _
    have hadd : szs ((ats e l).take (j + q)) = szs ((ats e l).take j) + szs (((ats e l).drop j).take q) := by rw [List.take_add, szs_append]
    have hpq := ((ats_posd e l).drop j).take q
    have hqpos : 1 ≤ szs (((ats e l).drop j).take q) := by
     have := szs_ge hpq
     rw [List.length_take, List.length_drop] at this; omega
    obtain ⟨pb, hpb⟩ : ∃ pb : Bs, pb = (l.drop (szs ((ats e l).take j))).take (szs (((ats e l).drop j).take q)) := ⟨_, rfl⟩
    have hpa : ats e pb = ((ats e l).drop j).take q := by
     have h1 := (ats_cut e j l).2
     have h2 := (ats_cut e q (l.drop (szs ((ats e l).take j)))).1
     rw [h1] at h2
     rw [hpb]; exact h2
    have hpl : pb.length = szs (((ats e l).drop j).take q) := by rw [← hpa, szs_all]
    have hL5 := hL4.ext x5
    have hcut := By.cut hL5 (l := ((szs ((ats e l).take j) : Nat) : Int)) (h := ((szs ((ats e l).take (j + q)) : Nat) : Int)) (m := ((szs ((ats e l).take (j + q)) : Nat) : Int)) (by omega) (by omega) (by show _ ≤ ((s.len : Nat) : Int); omega) (by omega) (by show _ ≤ ((s.len : Nat) : Int); omega)
    have hcb : (l.drop ((szs ((ats e l).take j) : Nat) : Int).toNat).take (((szs ((ats e l).take (j + q)) : Nat) : Int).toNat - ((szs ((ats e l).take j) : Nat) : Int).toNat) = pb := by
     rw [hpb, Int.toNat_natCast, Int.toNat_natCast, hadd, Nat.add_sub_cancel_left]
    rw [hcb] at hcut
    refine chk_r (by omega) (newpart_call hcut (by omega) fun W6 x6 => ?_)
    have S6 := S5.ext x6
    refine S6.newO fun b21 W7 S7 x7 => ?_
    have x47 := (x5.trans x6).trans x7
    have hrl := hne ho
    have hi7 : Its W7 e its M := hi.ext x47
    have hx : PcIn W7 e (mkPc e (Sl.cut (some (at0 b)) ((szs ((ats e l).take j) : Nat) : Int) ((szs ((ats e l).take (j + q)) : Nat) : Int) ((szs ((ats e l).take (j + q)) : Nat) : Int) 1) ((szs ((ats e l).take j) : Nat) : Int) pb) (((szs ((ats e l).take j) : Nat) : Int), pb) :=
     ⟨hcut.ext (x6.trans x7), rfl, rfl, fun h0 => by have h0' : pb = [] := h0; rw [h0'] at hpl; simp at hpl; omega, by show -1 ≤ ((szs ((ats e l).take j) : Nat) : Int); omega, by show ((szs ((ats e l).take j) : Nat) : Int) + (pb.length : Int) ≤ 2 ^ 40; omega⟩
    generalize hpc : mkPc e (Sl.cut (some (at0 b)) ((szs ((ats e l).take j) : Nat) : Int) ((szs ((ats e l).take (j + q)) : Nat) : Int) ((szs ((ats e l).take (j + q)) : Nat) : Int) 1) ((szs ((ats e l).take j) : Nat) : Int) pb = xp at *
    have hxb : ∀ k, xp.bytes.blk k → k = b := by
     rw [← hpc]
     rintro k hk
     obtain ⟨pp, hp1, hp2⟩ := cut_blk (s := ⟨some (at0 b), s.len, s.len⟩) hk
     cases hp1; exact hp2.symm
    have hbox : SlX W7 ⟨some (at0 b21), 1, 1⟩ 7 (flat c93 [pcT xp]) := by
     have := SlIn.of_box (S7.at_ 0 rfl) (n := 1) (sz := 7) rfl
     exact this.x
    refine append_rx eParts eParts.ts_ (x := ⟨some (at0 b21), 1, 1⟩) (ho.ext x47) hbox (Pc_one xp) (by
     show (r.len + 1 + (r.len + 1) / 4 + 512) * 64 ≤ 2 ^ 48
     have := szs_ge (ats_posd e l)
     rw [szs_all] at this
     omega) (by have := x47.size; omega) fun r' W8 o8 l8 u8 k8 => ?_
    have hty : ∀ {t' : TypeId}, 93 ≠ t' → NoTy W7 r.blk t' := fun ht => NoTy.blk (ho.ext x47).in ht
    have st8 : St (fun _ => False) w2 W8 [(b7, Zt none)] := by
     refine S7.tail.fresh u8 (fun k hk => .inr ?_) (fun x hx hk => ?_)
     ·have := ho.blk_ge hk; have := e3.size; omega
     ·rw [List.mem_singleton.1 hx] at hk
      exact hty (by decide) _ hk _ _ (S7.at_ 1 rfl)
    have e8 : flat c93 (its.map pcT) ++ flat c93 [pcT xp] = flat c93 ((its ++ [xp]).map pcT) := by rw [List.map_append, flat_append]; rfl
    rw [e8] at o8
    have hi8 : Its W8 e (its ++ [xp]) (M ++ [(((szs ((ats e l).take j) : Nat) : Int), pb)]) := by
     have h9 : Its W7 e (its ++ [xp]) (M ++ [(((szs ((ats e l).take j) : Nat) : Int), pb)]) := hi7.app ⟨hx, trivial⟩
     refine h9.upd u8 fun x hx k hk hS => ?_
     obtain ⟨y, hy⟩ : ∃ y, PcIn W7 e x y := by
      obtain ⟨n, hn⟩ := List.getElem?_of_mem hx
      obtain ⟨y, _, hy⟩ := h9.get n hn
      exact ⟨y, hy⟩
     obtain ⟨c2, fr2, hc2⟩ := hy.by_.blk_cells hk
     exact hty (t' := 5) (by decide) k hS _ _ hc2
    refine ⟨⟨j + q, hjq, rfl, its ++ [xp], M ++ [_], st8, o8, hi8, ?_, ?_, ?_, ?_, ?_, ?_⟩, ?_⟩
    ·rw [aOf_app, ha, List.take_add]
     show _ ++ aOf e [_] = _
     simp only [aOf, List.flatMap_cons, List.flatMap_nil, List.append_nil]
     rw [hpa]
    ·rw [bOf_app, hb, hadd, List.take_add]
     show _ ++ bOf [_] = _
     simp only [bOf, List.flatMap_cons, List.flatMap_nil, List.append_nil]
     rw [hpb]
    ·intro x hx k hkk
     rcases List.mem_append.1 hx with hx | hx
     ·exact hk x hx k hkk
     ·rw [List.mem_singleton.1 hx] at hkk; exact hxb k hkk
    ·exact SlIn.ty (hL5.ext (x6.trans x7)) u8 (hty (by decide))
    ·rw [List.length_append]; simp; omega
    ·have := u8.size; have := x47.size; omega
    ·dsimp only
     omega
  ·simp only [decide_eq_false_iff_not] at hc
   have := pos_end (e := e) (l := l) (j := j) (by omega)
   exact ⟨j, ⟨its, M, S4, ho, hi, ha, hb, hk, hL4, hil, hW4⟩, this⟩
 ·rintro ⟨r, _⟩ W4 ⟨j, ⟨its, M, S4, ho, hi, ha, hb, hk, hL4, hil, hW4⟩, hj⟩
  rw [hj] at ha hb
  have hM : szs (aOf e M) = l.length := by rw [ha, szs_all]
  have hfine := hi.fine (by omega)
  refine treeOf_call (l := its) ho.in hfine fun t W5 ht hti x5 => nn_some ?_
  have S5 := S4.ext x5
  rw [addr_add]
  refine aggSt_r (S5.at_ 0 rfl) rfl rfl (by show 0 + 2 + 1 ≤ 4; decide) fun W6 u56 n6' z6 => ?_
  have n6 : W6.heap[b7]? = some (Zt t.ptr) := n6'
  have hb0 : w.heap.size ≤ b := by omega
  have hb0' : w.heap.size ≤ b7 := by have := e2.size; omega
  have e06 : Ext w W6 := (e2.trans S5.upd).step u56 fun k hk => by omega
  refine hK b7 (fun k => k = b ∨ k = b7) M W6 ⟨⟨t, ⟨none, 0, 0⟩, [], n6, ?_, ?_, SlOwn.nil _ _ _ _, ?_, ?_, ?_, Nat.le_refl _⟩, hlim, by omega, .inr rfl, ?_⟩ ha (by rw [hb, szs_all]; exact List.take_length) e06 (by rintro k (rfl | rfl) <;> assumption)
  ·exact ht.ty u56 (NoTy.box (S5.at_ 0 rfl) (by decide))
  ·rw [hti]
   refine (hi.ext x5).upd u56 fun x hx k hkk he => ?_
   have := hk x hx k hkk
   have hbl := lt_of_heap n2
   omega
  ·rintro x hx k hkk ⟨q, hq, _⟩; cases hq
  ·intro x hx k hkk
   rw [hti] at hx
   exact .inl (hk x hx k hkk)
  ·rintro k ⟨q, hq, _⟩; cases hq
  ·have hbl := lt_of_heap n2
   have h7 := lt_of_heap n6
   have := S5.upd.size
   rintro k (rfl | rfl) <;> omega
end
section
variable {w w' : World} {S : Nat → Prop} {p : Nat} {e : Enc} {lim na : Nat} {O : Nat → Prop} {M : Parts}
def bts (e : Enc) (l : List Int) : Bs := l.flatMap (pt e)
def prs (e : Enc) (l : List Int) : As := l.map fun a => (a, sz e a)
def Fit (e : Enc) (l : List Int) : Prop := ∀ a ∈ l, Scalar a ∧ sz e a ≠ 0
theorem ats_bts {e : Enc} : ∀ {l : List Int}, Fit e l → ats e (bts e l) = prs e l
 | [], _ => ats_nil e
 | a :: l, h => by
  have h1 := h a List.mem_cons_self
  show ats e (pt e a ++ bts e l) = _
  rw [ats_pt h1.1 h1.2, ats_bts fun x hx => h x (List.mem_cons_of_mem _ hx)]
  rfl
def Fits (e : Enc) (l : List Int) : Prop := ∀ a ∈ l, sz e a ≠ 0
theorem bts_len {e : Enc} : ∀ {l : List Int}, Fits e l → (bts e l).length = szs (prs e l)
 | [], _ => rfl
 | a :: l, h => by
  have ih := bts_len fun x hx => h x (List.mem_cons_of_mem _ hx)
  show (pt e a ++ bts e l).length = Cdc.szs ((a, sz e a) :: prs e l)
  rw [szs_cons, List.length_append, pt_len e a (h a List.mem_cons_self), ih]
theorem nx_one {e : Enc} {a : Int} (h : sz e a ≠ 0) (hs : ¬ Scalar a) : nx e (pt e a) = (a, sz e a) := by
 have h16 : ∀ be, sz16 a ≠ 0 → nx16 be (pt16 be a) = (a, sz16 a) := by
  intro be h
  unfold sz16 at h ⊢
  have hr : ¬ (a < -256 ∨ 1114111 < a) := fun hc => h (if_pos hc)
  rw [if_neg hr]
  unfold pt16
  by_cases h0 : a < 0
  ·rw [if_pos h0, if_pos h0]
   show ((-1 - ((UInt8.ofNat (-1 - a).toNat).toNat : Int), 1) : Int × Nat) = _
   rw [byte_nat (by omega)]
   congr 1; omega
  ·have hlt : a < 65536 := Classical.byContradiction fun hc => hs (.inr ⟨by omega, by omega⟩)
   rw [if_neg h0, if_neg h0, if_pos hlt, if_pos hlt]
   have hu : ∀ x y : UInt8, nx16 be [x, y] = (((un be x y : Nat) : Int), 2) := fun x y => by simp only [nx16]; split <;> rfl
   unfold uni
   cases be with
   | true =>
    rw [if_pos rfl, hu]
    show ((((UInt8.ofNat a.toNat).toNat + (UInt8.ofNat (a.toNat / 256)).toNat * 256 : Nat) : Int), 2) = _
    rw [byte_nat (n := a.toNat / 256) (by omega), UInt8.toNat_ofNat']
    congr 1; omega
   | false =>
    rw [if_neg (by decide), hu]
    show ((((UInt8.ofNat a.toNat).toNat + (UInt8.ofNat (a.toNat / 256)).toNat * 256 : Nat) : Int), 2) = _
    rw [byte_nat (n := a.toNat / 256) (by omega), UInt8.toNat_ofNat']
    congr 1; omega
 cases e with
 | u8 =>
  show nx8 (pt8 a) = (a, sz8 a)
  have h : sz8 a ≠ 0 := h
  unfold sz8 at h ⊢
  have hr : ¬ (a < -256 ∨ (-129 < a ∧ a < 0) ∨ 1114111 < a ∨ (55296 ≤ a ∧ a ≤ 57343)) := fun hc => h (if_pos hc)
  have h0 : a < 0 := Classical.byContradiction fun hc => hs (by unfold Scalar; omega)
  rw [if_neg hr, if_pos (by omega)]
  unfold pt8
  rw [if_pos h0]
  obtain ⟨n, hn⟩ : ∃ n, n = (-1 - a).toNat := ⟨_, rfl⟩
  rw [← hn]
  have hb : (UInt8.ofNat n).toNat = n := byte_nat (by omega)
  have hraw : (rowOf [UInt8.ofNat n]).2 = 0 ∨ (rowOf [UInt8.ofNat n]).1 < (rowOf [UInt8.ofNat n]).2 := by
   simp only [rowOf, hb]
   by_cases h2 : (bnds n).1 < 2
   ·rw [if_pos h2]
    left
    have h3 : (bnds n).1 ≠ 1 := by
     unfold bnds
     rw [if_neg (by omega)]
     repeat' split
     all_goals decide
    omega
   ·rw [if_neg h2]
    right; omega
  simp only [nx8]
  rw [if_pos hraw, hb]
  congr 1; omega
 | le => exact h16 false h
 | be => exact h16 true h
 | l1 =>
  exfalso
  have h : sz1 a ≠ 0 := h
  unfold sz1 at h
  have hr : ¬ (a < 0 ∨ 255 < a) := fun hc => h (if_pos hc)
  exact hs (.inl ⟨by omega, by omega⟩)
theorem ats_one {e : Enc} {a : Int} (h : sz e a ≠ 0) : ats e (pt e a) = [(a, sz e a)] := by
 by_cases hs : Scalar a
 ·have := ats_pt hs h []
  rw [List.append_nil, ats_nil] at this; exact this
 ·have hl := pt_len e a h
  have hne : pt e a ≠ [] := fun hc => by rw [hc] at hl; exact h hl.symm
  rw [ats_cons e hne, nx_one h hs, List.drop_eq_nil_of_le (Nat.le_of_eq hl), ats_nil]
def Run (l : List Int) : Prop := (∀ x ∈ l, Scalar x) ∨ ∃ v, l = [v]
theorem ats_run {e : Enc} {l : List Int} (h : Fits e l) (hr : Run l) : ats e (bts e l) = prs e l := by
 rcases hr with hr | ⟨v, rfl⟩
 ·exact ats_bts fun a ha => ⟨hr a ha, h a ha⟩
 ·show ats e (pt e v ++ []) = _
  rw [List.append_nil, ats_one (h v List.mem_cons_self)]; rfl
theorem scalar_iff {e : Enc} {v : Int} (h : sz e v ≠ 0) : Scalar v ↔ 0 ≤ v ∧ (v < 55296 ∨ 57343 < v) := by
 have hm : v ≤ 1114111 := by
  apply Classical.byContradiction
  intro hc
  apply h
  cases e with
  | u8 => exact if_pos (by omega)
  | le => exact if_pos (by omega)
  | be => exact if_pos (by omega)
  | l1 => exact if_pos (by omega)
 unfold Scalar; omega
theorem bts_app (e : Enc) (l m : List Int) : bts e (l ++ m) = bts e l ++ bts e m := by simp [bts]
theorem append_run3 (P : Program) {ts xt rt : TypeId} {e xe : TypeId} {i : TypeInfo} {z : Value} (hts : P.underlying ts = some (.slice e)) (hxt : P.underlying xt = some (.slice xe)) (hi : P.info? e = some i) (hz : i.zero = some z)
  {B : Nat} {s x : Sl} {vs us : List Value} (hs : SlOwn w B s e i.size vs) (hx : SlX w x i.size us) (h1 : ∀ v ∈ us, isOne v = true) (hzl : z.cells.size = i.size)
  (hroom : (s.len + x.len + (s.len + x.len) / 4 + 512) * i.bytes ≤ 2 ^ 48) (hb0 : 0 < i.bytes) (hB : B ≤ w.heap.size) :
  ∃ s' w', (Builtin.append_ #[ts, xt] rt #[.slice s.a s.len s.cap, .slice x.a x.len x.cap]).run P w = .ok (.slice s'.a s'.len s'.cap) w' ∧ SlOwn w' B s' e i.size (vs ++ us) ∧ s'.len = s.len + x.len ∧
   Upd (fun k => s.blk k) w w' ∧ ((Ext w w' ∧ ∀ k, s'.blk k → w.heap.size ≤ k) ∨ (s'.a = s.a ∧ ∃ b off c, s.a = some ⟨b, off, none⟩ ∧ w.heap[b]? = some (.cells c e (0, 0)) ∧ w'.heap[b]? = some (.cells (setRow c (off + s.len * i.size) us) e (0, 0)))) := by
 obtain ⟨s', w', hr, ho, hl, hu, hk, hex⟩ := append_run2 (rt := rt) P hts hxt hi hz hs hx h1 hzl hroom hb0 hB
 refine ⟨s', w', hr, ho, hl, hu, ?_⟩
 have hfx := run_firstCellsX P hx
 have hfs := run_firstCells P hs.in
 have hu1 := fun W => run_underlying hts W
 have hu2 := fun W => run_underlying hxt W
 have hsz : ∀ W, (sizeOf e).run P W = .ok i.size W := fun W => by simp [sizeOf, run_typeInfo W hi]
 have hlen := hs.len
 have hxlen := hx.len
 by_cases hneed : s.len + x.len ≤ s.cap
 ·rcases hs.at_ with ⟨ha, hc⟩ | ⟨b, off, c, ha, hB', hb, hcap, hv⟩
  ·have hl0 : x.len = 0 := by omega
   have hsl : s.len = 0 := by omega
   have hus : us = [] := by rw [hl0, Nat.zero_mul] at hxlen; exact List.length_eq_zero_iff.1 hxlen
   have hfx' : (Builtin.firstCells i.size 0 (.slice x.a 0 x.cap)).run P w = .ok #[] w := by rw [hl0, hus] at hfx; exact hfx
   simp [Builtin.append_, hu1, hu2, hsz, Builtin.lenOf, hl0, hsl, ha, hfx', hc] at hr
   obtain ⟨⟨h1, _⟩, rfl⟩ := hr
   refine .inl ⟨Ext.refl w, fun k hk => ?_⟩
   obtain ⟨q, hq, _⟩ := hk
   rw [← h1] at hq; cases hq
  ·have hfit : s.len * i.size + us.length ≤ s.cap * i.size := by
    rw [hxlen, ← Nat.add_mul]; exact Nat.mul_le_mul_right _ hneed
   obtain ⟨w1, hr1, hu1', hb1, _⟩ := run_storeRow P us b (off + s.len * i.size) 0 c e w h1 hb (by omega)
   simp [Builtin.append_, hu1, hu2, hsz, Builtin.lenOf, hneed, hfx, ha, addr_add, hr1] at hr
   obtain ⟨⟨h1, _⟩, rfl⟩ := hr
   exact .inr ⟨h1.symm.trans ha.symm, b, off, c, ha, hb, hb1⟩
 ·have hti : ∀ W, (typeInfo e).run P W = .ok i W := fun W => run_typeInfo W hi
  have hzv : ∀ W, (zeroValue e).run P W = .ok z W := fun W => by simp [zeroValue, run_typeInfo W hi, hz]
  have hle := Go.Vx.nextslicecap_le (need := s.len + x.len) (old := s.cap) (by omega)
  have hroom' : ¬ (Builtin.nextslicecap (s.len + x.len) s.cap * i.bytes > 2 ^ 48) := by
   have := Nat.mul_le_mul_right i.bytes hle
   omega
  have hfx' : (Builtin.firstCells i.size x.len (.slice x.a x.len x.cap)).run P w.drew = .ok us.toArray w.drew := run_firstCellsX P (hx.ext (Ext.drew w))
  have hfs' : (Builtin.firstCells i.size s.len (.slice s.a s.len s.cap)).run P w.drew = .ok vs.toArray w.drew := run_firstCells P (hs.in.ext (Ext.drew w))
  have hb0' : ¬ i.bytes = 0 := by omega
  simp [Builtin.append_, hu1, hu2, hsz, Builtin.lenOf, hneed, hti, hb0', hroom', run_askRoom, hfs', hfx', hzv, newRow, newObj, Sem.run, Question.forced] at hr
  obtain ⟨⟨h1, _⟩, rfl⟩ := hr
  refine .inl ⟨(Ext.drew w).trans (Ext.alloc w.drew _), fun k hk => ?_⟩
  obtain ⟨q, hq, rfl⟩ := hk
  rw [← h1] at hq; cases hq
  exact Nat.le_refl _
theorem app_by {B : Nat} {s x : Sl} {l m : Bs} {K : Sl → World → Prop} (hs : SlOwn w B s 5 1 (bv l)) (hx : SlX w x 1 (bv m)) (hroom : s.len + x.len + (s.len + x.len) / 4 + 512 ≤ 2 ^ 48) (hB : B ≤ w.heap.size)
  (h : ∀ s' w', SlOwn w' B s' 5 1 (bv (l ++ m)) → s'.len = s.len + x.len → Upd s.blk w w' → (∀ k, s'.blk k → s.blk k ∨ w.heap.size ≤ k) →
   (∀ y b, By w y b → (∀ k, y.blk k → s.blk k → top y ≤ top s) → By w' y b ∧ ∀ k, y.blk k → s'.blk k → top y ≤ top s') → K s' w') :
  rawT Tryz.prog (.one (.one .sl)) (Builtin.append_ #[22, 22] 22 #[.slice s.a s.len s.cap, .slice x.a x.len x.cap]) K w := by
 obtain ⟨i, z, hi, hsz, hby, hz, hzs⟩ := EBy.e_
 have hs' := hs
 rw [← hsz] at hs hx
 obtain ⟨s', w', hr, ho, hl, hu, hex⟩ := append_run3 (rt := 22) Tryz.prog EBy.ts_ EBy.ts_ hi hz hs hx (fun v hv => by
  obtain ⟨b, _, rfl⟩ := List.mem_map.1 hv; rfl) (by rw [hsz]; exact hzs) (by rw [hby]; omega) (by rw [hby]; decide) hB
 rw [hsz] at ho hex
 have eb : bv l ++ bv m = bv (l ++ m) := by simp [bv]
 rw [eb] at ho
 refine ⟨s', w', hr, h s' w' ho hl hu (fun k hk => ?_) fun y b hy hyt => ?_⟩
 ·rcases hex with ⟨_, h2⟩ | ⟨h1, _⟩
  ·exact .inr (h2 k hk)
  ·left
   obtain ⟨q, hq, rfl⟩ := hk
   exact ⟨q, h1 ▸ hq, rfl⟩
 ·rcases hex with ⟨h1, h2⟩ | ⟨h1, b0, off, c, ha, hb0, hb1⟩
  ·exact ⟨hy.ext h1, fun k hk hk' => by have := hy.blk_lt hk; have := h2 k hk'; omega⟩
  ·have hts : top s ≤ top s' := by unfold top; rw [h1, ha]; show off + s.len ≤ off + s'.len; omega
   have hsk : ∀ k, s'.blk k → s.blk k := fun k hk => by obtain ⟨q, hq, rfl⟩ := hk; exact ⟨q, h1 ▸ hq, rfl⟩
   refine ⟨⟨SlIn.len hy, hy.le, hy.at_.imp id fun ⟨b', off', c', fr', ha', hb', hcap, hv⟩ => ?_⟩, fun k hk hk' => Nat.le_trans (hyt k hk (hsk k hk')) hts⟩
   by_cases hbb : b' = b0
   ·subst hbb
    rw [hb0] at hb'
    cases hb'
    have ht := hyt b' ⟨_, ha', rfl⟩ ⟨_, ha, rfl⟩
    unfold top at ht
    rw [ha', ha] at ht
    dsimp only at ht
    have hyl := hy.len
    refine ⟨b', off', _, _, ha', hb1, by rw [Go.Vx.size_setRow]; exact hcap, fun i u hu => ?_⟩
    have hil := (List.getElem?_eq_some_iff.1 hu).1
    rw [List.length_map] at hil
    rw [Go.Vx.get_setRow_lt _ _ _ _ (by omega)]
    exact hv i u hu
   ·exact ⟨b', off', c', fr', ha', hu.get hb' (fun ⟨q, hq, hqb⟩ => by rw [ha] at hq; cases hq; exact hbb hqb.symm), hcap, hv⟩
theorem Its.by_ {e : Enc} : ∀ {l : List Pc} {M : Parts}, Its w e l M → ∀ x ∈ l, ∃ b, By w x.bytes b
 | [], _, _, x, hx => by cases hx
 | y :: l, z :: M, h, x, hx => by
  rcases List.mem_cons.1 hx with rfl | hx
  ·exact ⟨_, h.1.by_⟩
  ·exact Its.by_ h.2 x hx
theorem Its.ty {e : Enc} {l : List Pc} {M : Parts} (h : Its w e l M) (u : Upd S w w') (hS : NoTy w S 5) : Its w' e l M :=
 h.upd u fun x hx k hk hSk => by
  obtain ⟨b, hb⟩ := h.by_ x hx
  obtain ⟨c, fr, hc⟩ := hb.blk_cells hk
  exact hS k hSk c fr hc
theorem Its.to {e : Enc} : ∀ {l : List Pc} {M : Parts}, Its w e l M → (∀ x ∈ l, ∀ b, By w x.bytes b → By w' x.bytes b) → Its w' e l M
 | [], [], _, _ => trivial
 | x :: l, y :: M, h, hb => ⟨⟨hb x List.mem_cons_self _ h.1.by_, h.1.sm, h.1.tag, h.1.ne, h.1.lo, h.1.hi⟩, Its.to h.2 fun z hz => hb z (List.mem_cons_of_mem _ hz)⟩
def Old (w W : World) (a0 a : Sl) : Prop := ∀ y b, By w y b → (∀ k, y.blk k → a0.blk k → top y ≤ top a0) → By W y b ∧ ∀ k, y.blk k → a.blk k → top y ≤ top a
theorem Old.ty {W W' : World} {a0 a : Sl} (h : Old w W a0 a) (u : Upd S W W') (hS : NoTy W S 5) : Old w W' a0 a := fun y b hy ht => ⟨(h y b hy ht).1.ty u hS, (h y b hy ht).2⟩
theorem Old.refl (w : World) (a : Sl) : Old w w a a := fun y b hy ht => ⟨hy, ht⟩
theorem no_ext (W : World) (t : TypeId) : NoTy W (fun _ => False) t := fun _ h => h.elim
end
section
variable {w w' W W' : World} {S : Nat → Prop} {p : Nat} {e : Enc} {lim na : Nat} {O : Nat → Prop} {M : Parts}
theorem nn_eqT {a : Addr} {K : Addr → World → Prop} : nn (some a) K = K a := funext fun _ => propext nn_some_iff
abbrev txO (e : Enc) (lim : Nat) (tp : Option Addr) (a : Sl) : Obj := .cells #[.int .i64 e.num, .int .i64 (lim : Int), .pointer tp, .slice a.a a.len a.cap] 86 (0, 0)
abbrev frLs (p b1 b2 b6 b7 : Nat) (ps : Sl) (f n : Nat) : List (Nat × Obj) := [(b7, .cells #[.int .i64 (n : Int)] 3 (0, 0)), (b6, .cells #[.int .i64 (f : Int)] 3 (0, 0)), (b2, .cells #[.slice ps.a ps.len ps.cap] 87 (0, 0)), (b1, .cells #[.pointer (some (at0 p))] 27 (0, 0))]
structure FrI (w W : World) (p : Nat) (e : Enc) (lim : Nat) (tp : Option Addr) (a0 : Sl) (b1 b2 b6 b7 : Nat) (a ps : Sl) (ab cb : Bs) (pl : List Pc) (M' : Parts) (n : Nat) : Prop where
 st : St (fun k => k = p ∨ a0.blk k) w W (frLs p b1 b2 b6 b7 ps (ab.length - cb.length) n)
 tx : W.heap[p]? = some (txO e lim tp a)
 own : SlOwn W 0 a 5 1 (bv ab)
 suf : ∃ x, ab = x ++ cb
 row : SlOwn W w.heap.size ps 93 7 (flat c93 (pl.map pcT))
 its : Its W e pl M'
 tops : ∀ x ∈ pl, ∀ k, x.bytes.blk k → a.blk k → top x.bytes ≤ top a
 pblk : ∀ x ∈ pl, ∀ k, x.bytes.blk k → a0.blk k ∨ w.heap.size ≤ k
 ablk : ∀ k, a.blk k → a0.blk k ∨ w.heap.size ≤ k
 old : Old w W a0 a
 cnt : pl.length + cb.length ≤ ab.length
variable {tp : Option Addr} {a0 a ps : Sl} {b1 b2 b6 b7 n : Nat} {ab cb : Bs} {pl : List Pc} {M' : Parts}
theorem FrI.ext (h : FrI w W p e lim tp a0 b1 b2 b6 b7 a ps ab cb pl M' n) (x : Ext W W') : FrI w W' p e lim tp a0 b1 b2 b6 b7 a ps ab cb pl M' n :=
 ⟨h.st.ext x, x.ext_get h.tx, h.own.ext x, h.suf, h.row.ext x, h.its.ext x, h.tops, h.pblk, h.ablk, h.old.ty x (no_ext _ _), h.cnt⟩
set_option maxHeartbeats 1000000 in
theorem shut_x {K : Unit → World → Prop} (h : FrI w W p e lim tp a0 b1 b2 b6 b7 a ps ab cb pl M' n) (hab : ab.length < 2 ^ 40)
  (hK : ∀ ps' pl' M'' n' W', FrI w W' p e lim tp a0 b1 b2 b6 b7 a ps' ab [] pl' M'' n' → aOf e M'' = aOf e M' ++ ats e cb → n' ≤ n → W.heap.size ≤ W'.heap.size → K () W') :
  callX Tryz.prog (do let d ← Deferred.ofValue (.func (.func 145) #[] #[.pointer (some (at0 b1)), .pointer (some (at0 b6)), .pointer (some (at0 b2)), .pointer (some (at0 b7))]) #[]; invoke d.target d.args : Sem Next) (.tup []) K W := by
 refine func_x (caps := #[.pointer (some (at0 b1)), .pointer (some (at0 b6)), .pointer (some (at0 b2)), .pointer (some (at0 b7))]) (by kernel_rfl) ?_
 refine F145_calls ?_
 unfold F145
 have hlen : ab.length = a.len := by have := h.own.len1; rwa [List.length_map] at this
 have hcl : cb.length ≤ ab.length := by obtain ⟨x, hx⟩ := h.suf; rw [hx]; simp
 have S0 := h.st
 refine S0.ld 3 rfl (x := some (at0 p)) rfl ?_
 simp only [nn_eqT, addr_add]
 refine ld_r h.tx (x := a) rfl (S0.ld 1 rfl (x := ((ab.length - cb.length : Nat) : Int)) rfl (sif_r (fun hc => ?_) (fun hc => ?_)))
 ·simp only [decide_eq_true_eq, gt_iff_lt] at hc
  have hcb : 0 < cb.length := by omega
  refine S0.drew fun W1 S1 e1 _ => ?_
  have h1 := h.ext e1
  refine S1.ld 2 rfl (x := ps) rfl (S1.ld 3 rfl (x := some (at0 p)) rfl ?_)
  simp only [nn_eqT, addr_add]
  refine ld_r h1.tx (x := e.num) rfl (S1.ld 3 rfl (x := some (at0 p)) rfl ?_)
  simp only [nn_eqT, addr_add]
  refine ld_r h1.tx (x := a) rfl (S1.ld 1 rfl (x := ((ab.length - cb.length : Nat) : Int)) rfl ?_)
  have hcap := h.own.in.le
  refine chk_r (by omega) ?_
  have hB1 : By W1 a ab := h1.own.in
  have c1 := hB1.cut (l := ((ab.length - cb.length : Nat) : Int)) (h := (a.len : Int)) (m := (a.len : Int)) (by omega) (by omega) (by omega) (by omega) (by omega)
  have d1 : (ab.drop ((ab.length - cb.length : Nat) : Int).toNat).take ((a.len : Int).toNat - ((ab.length - cb.length : Nat) : Int).toNat) = cb := by
   obtain ⟨x, hx⟩ := h.suf
   rw [Int.toNat_natCast, Int.toNat_natCast, List.take_of_length_le (by rw [List.length_drop]; omega)]
   have : ab.length - cb.length = x.length := by rw [hx]; simp
   rw [this, hx, List.drop_left]
  rw [d1] at c1
  have ct := cut_top hB1 (l := ((ab.length - cb.length : Nat) : Int)) (h := (a.len : Int)) (m := (a.len : Int)) (by omega) (by omega) (by omega)
  have cbk := fun k => cut_blk (s := a) (l := ((ab.length - cb.length : Nat) : Int)) (h := (a.len : Int)) (m := (a.len : Int)) (k := k)
  generalize Sl.cut a.a ((ab.length - cb.length : Nat) : Int) (a.len : Int) (a.len : Int) 1 = y at *
  refine newpart_call c1 (by omega) fun W2 e2 => ?_
  have h2 := h1.ext e2
  have S2 := h2.st
  refine S2.keep 2 rfl (v := .slice ps.a ps.len ps.cap) rfl ?_
  refine newO_r fun b15 W3 e3 n3 hb15 hz3 => ?_
  have h3 := h2.ext e3
  have S3 := h3.st
  refine S3.keep 2 rfl (v := .slice ps.a ps.len ps.cap) rfl ?_
  have hbox : SlX W3 ⟨some (at0 b15), 1, 1⟩ 7 (flat c93 [pcT (mkPc e y (-1) cb)]) := (SlIn.of_box n3 (n := 1) (sz := 7) rfl).x
  have hrl := SlOwn.lenR (cs := c93) h3.row (by decide)
  rw [List.length_map] at hrl
  have hcnt := h.cnt
  refine append_rx eParts eParts.ts_ (x := ⟨some (at0 b15), 1, 1⟩) h3.row hbox (Pc_one _) (by
   show (ps.len + 1 + (ps.len + 1) / 4 + 512) * 64 ≤ 2 ^ 48
   omega) (by have := S3.upd.size; omega) fun ps' W4 o4 l4 u4 k4 => ?_
  have nb4 : NoTy W3 ps.blk 5 := NoTy.blk h3.row.in (by decide)
  have nt4 : NoTy W3 ps.blk 86 := NoTy.blk h3.row.in (by decide)
  have e4 : flat c93 (pl.map pcT) ++ flat c93 [pcT (mkPc e y (-1) cb)] = flat c93 ((pl ++ [mkPc e y (-1) cb]).map pcT) := by rw [List.map_append, flat_append]; rfl
  rw [e4] at o4
  have tx4 : W4.heap[p]? = some (txO e lim tp a) := u4.get h3.tx fun hk => nt4 _ hk _ _ h3.tx
  have own4 := h3.own.ty u4 nb4
  have st4 : St (fun k => k = p ∨ a0.blk k) w W4 (frLs p b1 b2 b6 b7 ps (ab.length - cb.length) n) := S3.fresh u4 (fun k hk => .inr (h3.row.blk_ge hk)) (fun x hx hk => by
   obtain ⟨c, fr, hc'⟩ := h3.row.in.blk_cells hk
   have hl := (S3.loc x hx).1
   rw [hc'] at hl
   simp only [frLs, List.mem_cons, List.not_mem_nil, or_false] at hx
   rcases hx with rfl | rfl | rfl | rfl <;> cases hl)
  have its4 : Its W4 e (pl ++ [mkPc e y (-1) cb]) (M' ++ [(-1, cb)]) := by
   refine Its.app (h3.its.ty u4 nb4) ⟨⟨?_, rfl, rfl, ?_, Int.le_refl _, ?_⟩, trivial⟩
   ·exact ((c1.ext e2).ext e3).ty u4 nb4
   ·intro hn
    replace hn : cb = [] := hn
    rw [hn] at hcb; simp at hcb
   ·show (-1 : Int) + (cb.length : Int) ≤ 2 ^ 40; omega
  have old4 := h3.old.ty u4 nb4
  refine st4.stC 2 rfl (by show 0 < 1; decide) fun W5 S5 u5 => S5.stC 1 rfl (by show 0 < 1; decide) fun W6 S6 u6 => S6.stC 0 rfl (by show 0 < 1; decide) fun W7 S7 u7 => ?_
  have g2 : W4.heap[b2]? = some (.cells #[.slice ps.a ps.len ps.cap] 87 (0, 0)) := st4.at_ 2 rfl
  have g6 : W5.heap[b6]? = some (.cells #[.int .i64 ((ab.length - cb.length : Nat) : Int)] 3 (0, 0)) := S5.at_ 1 rfl
  have g7 : W6.heap[b7]? = some (.cells #[.int .i64 (n : Int)] 3 (0, 0)) := S6.at_ 0 rfl
  have tx5 : W5.heap[p]? = some (txO e lim tp a) := u5.get tx4 (fun hk => NoTy.box g2 (by decide) _ hk _ _ tx4)
  have tx6 : W6.heap[p]? = some (txO e lim tp a) := u6.get tx5 (fun hk => NoTy.box g6 (by decide) _ hk _ _ tx5)
  have tx7 : W7.heap[p]? = some (txO e lim tp a) := u7.get tx6 (fun hk => NoTy.box g7 (by decide) _ hk _ _ tx6)
  have hts : ∀ x ∈ pl ++ [mkPc e y (-1) cb], ∀ k, x.bytes.blk k → a.blk k → top x.bytes ≤ top a := by
   intro x hx
   rcases List.mem_append.1 hx with hx | hx
   ·exact h.tops x hx
   ·rw [List.mem_singleton.1 hx]; intro k _ _; exact ct
  have hpb : ∀ x ∈ pl ++ [mkPc e y (-1) cb], ∀ k, x.bytes.blk k → a0.blk k ∨ w.heap.size ≤ k := by
   intro x hx
   rcases List.mem_append.1 hx with hx | hx
   ·exact h.pblk x hx
   ·rw [List.mem_singleton.1 hx]; intro k hk; exact h.ablk k (cbk k hk)
  refine hK ps' (pl ++ [mkPc e y (-1) cb]) (M' ++ [(-1, cb)]) 0 W7 ⟨?_, tx7, ?_, ⟨ab, by simp⟩, ?_, ?_, hts, hpb, h.ablk, ?_, ?_⟩ ?_ (Nat.zero_le _) ?_
  ·have e0 : ((a.len : Nat) : Int) = ((ab.length - ([] : Bs).length : Nat) : Int) := by simp; omega
   rw [e0] at S7
   exact S7
  ·exact ((own4.box g2 (by decide) u5).box g6 (by decide) u6).box g7 (by decide) u7
  ·exact ((o4.box g2 (by decide) u5).box g6 (by decide) u6).box g7 (by decide) u7
  ·exact ((its4.ty u5 (NoTy.box g2 (by decide))).ty u6 (NoTy.box g6 (by decide))).ty u7 (NoTy.box g7 (by decide))
  ·exact ((old4.ty u5 (NoTy.box g2 (by decide))).ty u6 (NoTy.box g6 (by decide))).ty u7 (NoTy.box g7 (by decide))
  ·simp; omega
  ·rw [aOf_app]; simp [aOf]
  ·have := e1.size; have := e2.size; have := e3.size; have := u4.size; have := u5.size; have := u6.size; have := u7.size; omega
 ·simp only [decide_eq_false_iff_not, gt_iff_lt] at hc
  have hcb : cb = [] := List.length_eq_zero_iff.1 (by omega)
  subst hcb
  exact hK ps pl M' n W h (by rw [ats_nil, List.append_nil]) (Nat.le_refl _) (Nat.le_refl _)
theorem Old.trans {w W W' : World} {a0 a a' : Sl} (h : Old w W a0 a) (h' : Old W W' a a') : Old w W' a0 a' := fun y b hy ht => h' y b (h y b hy ht).1 (h y b hy ht).2
set_option maxHeartbeats 1000000 in
theorem fresh_call {s : Sl} {t : TypeId} {put : List Int} (hs : SlIn w s t 1 (iv put)) (hsep : ∀ k, s.blk k → k ≠ p ∧ ¬ a0.blk k) (hfit : Fits e put) (tx : w.heap[p]? = some (txO e lim tp a0)) (own : SlOwn w 0 a0 5 1 (bv ab)) (hab : ab.length + (bts e put).length < 2 ^ 40) (hput : put.length < 2 ^ 40) {K : Sl → World → Prop}
  (hK : ∀ ps a pl M' W, W.heap[p]? = some (txO e lim tp a) → SlOwn W 0 a 5 1 (bv (ab ++ bts e put)) → SlOwn W w.heap.size ps 93 7 (flat c93 (pl.map pcT)) → Its W e pl M' → aOf e M' = prs e put → (∀ x ∈ pl, ∀ k, x.bytes.blk k → a.blk k → top x.bytes ≤ top a) →
   (∀ x ∈ pl, ∀ k, x.bytes.blk k → a0.blk k ∨ w.heap.size ≤ k) → (∀ k, a.blk k → a0.blk k ∨ w.heap.size ≤ k) → Old w W a0 a → Upd (fun k => k = p ∨ a0.blk k) w W → pl.length ≤ ab.length + (bts e put).length → K ps W) :
  callT Tryz.prog 110 #[.pointer (some (at0 p)), .slice s.a s.len s.cap] (.one (.one .sl)) K w := by
 refine F110_calls ?_
 unfold F110
 have hlen : put.length = s.len := by have := hs.len1; rwa [List.length_map] at this
 have hal : ab.length = a0.len := by have := own.len1; rwa [List.length_map] at this
 have hpw := lt_of_heap tx
 refine (St.startM (fun k => k = p ∨ a0.blk k) w (fun k hk => hk.elim (fun h => h ▸ hpw) fun h => own.in.blk_lt h)).newO fun b1 w1 S1 e1 => S1.newO fun b2 w2 S2 e2 => S2.ld 1 rfl (x := some (at0 p)) rfl ?_
 simp only [nn_eqT, addr_add]
 have x2 := e1.trans e2
 refine ld_r (x2.ext_get tx) (x := a0) rfl (S2.newO fun b6 w3 S3 e3 => S3.stC 0 rfl (by show 0 < 1; decide) fun w4 S4 u4 => S4.newO fun b7 w5 S5 e5 => S5.stC 0 rfl (by show 0 < 1; decide) fun w6 S6 u6 => ?_)
 have g6 : w3.heap[b6]? = some (.cells #[.int .i64 0] 3 (0, 0)) := S3.at_ 0 rfl
 have g7 : w5.heap[b7]? = some (.cells #[.int .i64 0] 3 (0, 0)) := S5.at_ 0 rfl
 have x3 := x2.trans e3
 have F0 : FrI w w6 p e lim tp a0 b1 b2 b6 b7 a0 ⟨none, 0, 0⟩ ab [] [] [] 0 := by
  refine ⟨?_, ?_, ?_, ⟨ab, by simp⟩, SlOwn.nil _ _ _ _, trivial, (fun x hx => by cases hx), (fun x hx => by cases hx), fun k hk => .inl hk, ?_, by simp⟩
  ·have e0 : ((a0.len : Nat) : Int) = ((ab.length - ([] : Bs).length : Nat) : Int) := by simp; omega
   rw [e0] at S6
   exact S6
  ·have t3 := x3.ext_get tx
   have t4 : w4.heap[p]? = some (txO e lim tp a0) := u4.get t3 (fun hk => NoTy.box g6 (by decide) _ hk _ _ t3)
   have t5 := e5.ext_get t4
   exact u6.get t5 (fun hk => NoTy.box g7 (by decide) _ hk _ _ t5)
  ·exact (((own.ext x3).box g6 (by decide) u4).ext e5).box g7 (by decide) u6
  ·exact ((((Old.refl w a0).ty x3 (no_ext _ _)).ty u4 (NoTy.box g6 (by decide))).ty e5 (no_ext _ _)).ty u6 (NoTy.box g7 (by decide))
 clear S1 S2 S3 S4 S5 S6
 have tkl : ∀ i j : Nat, j ≤ i → (bts e ((put.take i).drop j)).length ≤ (bts e put).length := by
  intro i j _
  have : put = put.take i ++ put.drop i := (List.take_append_drop i put).symm
  have h2 : put.take i = (put.take i).take j ++ (put.take i).drop j := (List.take_append_drop j _).symm
  have h3 : (bts e put).length = (bts e (put.take i)).length + (bts e (put.drop i)).length := by conv => lhs; rw [this]; rw [bts_app, List.length_append]
  have h4 : (bts e (put.take i)).length = (bts e ((put.take i).take j)).length + (bts e ((put.take i).drop j)).length := by conv => lhs; rw [h2]; rw [bts_app, List.length_append]
  omega
 have abl : ∀ i, (ab ++ bts e (put.take i)).length < 2 ^ 40 := fun i => by have := tkl i 0 (Nat.zero_le _); rw [List.length_append]; simp only [List.drop_zero] at this; omega
 have fit2 : ∀ i j, Fits e ((put.take i).drop j) := fun i j x hx => hfit x (List.mem_of_mem_take (List.mem_of_mem_drop hx))
 have glue : ∀ i j, Run ((put.take i).drop j) → prs e ((put.take i).take j) ++ ats e (bts e ((put.take i).drop j)) = prs e (put.take i) := fun i j hr => by
  rw [ats_run (fit2 i j) hr]; unfold prs; rw [← List.map_append, List.take_append_drop]
 have shut : ∀ {a ps i j pl M' n} {W : World} {K : Unit → World → Prop}, Run ((put.take i).drop j) → j ≤ i → FrI w W p e lim tp a0 b1 b2 b6 b7 a ps (ab ++ bts e (put.take i)) (bts e ((put.take i).drop j)) pl M' n → aOf e M' = prs e ((put.take i).take j) → (∀ ps' pl' M'' n' W', FrI w W' p e lim tp a0 b1 b2 b6 b7 a ps' (ab ++ bts e (put.take i)) [] pl' M'' n' → aOf e M'' = prs e (put.take i) → n' ≤ n → K () W') →
   callX Tryz.prog (do let d ← Deferred.ofValue (.func (.func 145) #[] #[.pointer (some (at0 b1)), .pointer (some (at0 b6)), .pointer (some (at0 b2)), .pointer (some (at0 b7))]) #[]; invoke d.target d.args : Sem Next) (.tup []) K W := by
  intro a ps i j pl M' n W K hr hj F hM hK
  exact shut_x F (abl i) fun ps' pl' M'' n' W' F' hM' hn _ => hK ps' pl' M'' n' W' F' (by rw [hM', hM, glue _ _ hr]) hn
 refine join_r (fun _ W => ∃ a ps pl M' n j, j ≤ put.length ∧ (∀ x ∈ (put.take put.length).drop j, Scalar x) ∧ FrI w W p e lim tp a0 b1 b2 b6 b7 a ps (ab ++ bts e (put.take put.length)) (bts e ((put.take put.length).drop j)) pl M' n ∧ aOf e M' = prs e ((put.take put.length).take j)) ?_ ?_
 ·refine sloop_r (fun x W => ∃ a ps pl M' n i j, x = (((i : Nat) : Int), ()) ∧ i ≤ put.length ∧ j ≤ i ∧ n ≤ i ∧ (∀ x ∈ (put.take i).drop j, Scalar x) ∧ FrI w W p e lim tp a0 b1 b2 b6 b7 a ps (ab ++ bts e (put.take i)) (bts e ((put.take i).drop j)) pl M' n ∧ aOf e M' = prs e ((put.take i).take j)) (fun x _ => ((put.length : Int) - x.1).toNat) ⟨a0, ⟨none, 0, 0⟩, [], [], 0, 0, 0, rfl, Nat.zero_le _, Nat.le_refl _, Nat.le_refl _, (fun x hx => by simp at hx), by simpa [bts] using F0, by simp [aOf, prs]⟩ ?_
  rintro _ W ⟨a, ps, pl, M', n, i, j, rfl, hi, hj, hn, hsc, F, hM⟩
  refine sif_r (fun hc => ?_) (fun hc => ?_)
  ·simp only [decide_eq_true_eq] at hc
   obtain ⟨v, hv⟩ : ∃ v, put[i]? = some v := ⟨_, List.getElem?_eq_getElem (by omega)⟩
   have hf := hfit v (List.mem_of_getElem? hv)
   have ew : IntKind.wrap .i64 ((i : Int) + 1) = ((i + 1 : Nat) : Int) := by rw [wrap64 (by omega) (by omega)]; omega
   dsimp only
   rw [ew]
   refine join_r (fun _ W => ∃ a ps pl M' n j, j ≤ i + 1 ∧ n ≤ i + 1 ∧ (∀ x ∈ (put.take (i + 1)).drop j, Scalar x) ∧ FrI w W p e lim tp a0 b1 b2 b6 b7 a ps (ab ++ bts e (put.take (i + 1))) (bts e ((put.take (i + 1)).drop j)) pl M' n ∧ aOf e M' = prs e ((put.take (i + 1)).take j)) ?_ ?_
   ·have hsW : SlIn W s t 1 (iv put) := hs.upd F.st.upd fun k hk hSk => by
     have := hsep k hk
     rcases hSk with h | h
     ·exact this.1 h
     ·exact this.2 h
    refine ix_ld (c := .int .i64) (xs := put) hsW (by omega) (x := v) (by rw [Int.toNat_natCast]; exact hv) fun q => ?_
    have hsv := scalar_iff hf
    obtain ⟨sc, hsc'⟩ : ∃ sc : Bool, sc = decide (0 ≤ v ∧ (v < 55296 ∨ 57343 < v)) := ⟨_, rfl⟩
    have hsv : sc = true ↔ Scalar v := by rw [hsc', hsv, decide_eq_true_eq]
    refine join_r (fun x W' => x = (sc, ()) ∧ W = W') ?_ ?_
    ·refine sif_r (fun h1 => sif_r (fun h2 => ⟨tupb ?_, rfl⟩) (fun h2 => ⟨tupb ?_, rfl⟩)) (fun h1 => ⟨tupb ?_, rfl⟩)
     all_goals simp only [hsc', decide_eq_true_eq, decide_eq_false_iff_not, gt_iff_lt, ge_iff_le, true_iff, Bool.false_eq_true, false_iff] at *
     all_goals omega
    rintro _ _ ⟨rfl, rfl⟩
    refine join_r (fun _ W => ∃ ps pl M' n j, j ≤ i ∧ n ≤ i ∧ (∀ x ∈ (put.take i).drop j, Scalar x) ∧ (sc = false → j = i) ∧ FrI w W p e lim tp a0 b1 b2 b6 b7 a ps (ab ++ bts e (put.take i)) (bts e ((put.take i).drop j)) pl M' n ∧ aOf e M' = prs e ((put.take i).take j)) ?_ ?_
    ·refine join_r (fun x W' => x = ((!sc || decide (n = 128)), ()) ∧ W = W') ?_ ?_
     ·refine sif_r (fun h1 => ⟨tupb ?_, rfl⟩) (fun h1 => F.st.ld 0 rfl (x := (n : Int)) rfl ⟨tupb ?_, rfl⟩)
      ·have h1 : (!sc) = true := h1
       rw [h1]; simp
      ·have h1 : (!sc) = false := h1
       rw [h1, Bool.false_or]
       simp only [beq_iff_eq, decide_eq_true_eq]; omega
     rintro _ _ ⟨rfl, rfl⟩
     have nil_ : (put.take i).drop i = [] := List.drop_eq_nil_of_le (by rw [List.length_take]; omega)
     refine sif_r (fun _ => shut (.inl hsc) hj F hM fun ps' pl' M'' n' W' F' hM' hn' => ⟨ps', pl', M'', n', i, Nat.le_refl _, by omega, ?_, (fun _ => rfl), ?_, ?_⟩) (fun hb => ⟨ps, pl, M', n, j, hj, hn, hsc, (fun h => ?_), F, hM⟩)
     ·rw [nil_]; intro x hx; cases hx
     ·rw [nil_]; exact F'
     ·rw [hM', List.take_take, Nat.min_self]
     ·have hb : (!sc || decide (n = 128)) = false := hb
      rw [h] at hb; simp at hb
    clear F hM hn hj hsc ps pl M' n j
    rintro _ W1 ⟨ps, pl, M', n, j, hj, hn, hsc, hji, F, hM⟩
    refine F.st.ld 3 rfl (x := some (at0 p)) rfl ?_
    simp only [nn_eqT, addr_add]
    refine ld_r F.tx (x := e.num) rfl (newO_r fun b27 W2 e2' n2 hb27 _ => ?_)
    have F2 := F.ext e2'
    have hbox : SlIn W2 ⟨some (at0 b27), 1, 1⟩ 3 1 [.int .i64 v] := SlIn.of_box n2 (n := 1) (sz := 1) rfl
    refine enc1_call (s := ⟨some (at0 b27), 1, 1⟩) (t := 3) (e := e) (a := v) hf hbox fun s28 W3 o28 e3' => ?_
    have F3 := F2.ext e3'
    have S3 := F3.st
    show drew _ W3
    refine S3.drew fun W4 S4 e4' _ => ?_
    have F4 := F3.ext e4'
    have o28 := o28.ext e4'
    refine F4.st.ld 3 rfl (x := some (at0 p)) rfl (F4.st.ld 3 rfl (x := some (at0 p)) rfl ?_)
    simp only [nn_eqT, addr_add]
    have tkv : put.take (i + 1) = put.take i ++ [v] := by rw [List.take_add_one, hv]; rfl
    have ptl : (bts e (put.take i)).length + (pt e v).length ≤ (bts e put).length := by
     have := tkl (i + 1) 0 (Nat.zero_le _)
     rw [List.drop_zero, tkv, bts_app, List.length_append] at this
     simpa [bts] using this
    have s28l : (pt e v).length = s28.len := by have := o28.len1; rwa [List.length_map] at this
    have al4 : (ab ++ bts e (put.take i)).length = a.len := by have := F4.own.len1; rwa [List.length_map] at this
    have al4' := al4
    rw [List.length_append] at al4'
    refine ld_r F4.tx (x := a) rfl (app_by F4.own o28.in.x (by omega) (Nat.zero_le _) fun a' W5 o5 l5 u5 k5 old5 => ?_)
    have nb5 : ∀ t, t ≠ 5 → NoTy W4 a.blk t := fun t ht => NoTy.blk F4.own.in (fun h => ht h.symm)
    have tx5 : W5.heap[p]? = some (txO e lim tp a) := u5.get F4.tx fun hk => nb5 86 (by decide) _ hk _ _ F4.tx
    have st5 : St (fun k => k = p ∨ a0.blk k) w W5 (frLs p b1 b2 b6 b7 ps ((ab ++ bts e (put.take i)).length - (bts e ((put.take i).drop j)).length) n) := F4.st.fresh u5 (fun k hk => (F4.ablk k hk).imp .inr id) (fun x hx hk => by
     obtain ⟨c, fr, hc'⟩ := F4.own.in.blk_cells hk
     have hl := (F4.st.loc x hx).1
     rw [hc'] at hl
     simp only [frLs, List.mem_cons, List.not_mem_nil, or_false] at hx
     rcases hx with rfl | rfl | rfl | rfl <;> cases hl)
    have row5 := F4.row.ty u5 (nb5 93 (by decide))
    have its5 : Its W5 e pl M' := F4.its.to fun x hx b hb => (old5 x.bytes b hb (F4.tops x hx)).1
    have tops5 : ∀ x ∈ pl, ∀ k, x.bytes.blk k → a'.blk k → top x.bytes ≤ top a' := fun x hx => by
     obtain ⟨b, hb⟩ := F4.its.by_ x hx
     exact (old5 x.bytes b hb (F4.tops x hx)).2
    have oldT : Old w W5 a0 a' := F4.old.trans old5
    refine st5.keep 3 rfl (v := .pointer (some (at0 p))) rfl ?_
    refine stC_r tx5 (by show 3 < 4; decide) fun W6 u6 n6 _ => ?_
    have n6 : W6.heap[p]? = some (txO e lim tp a') := n6
    have nt6 : ∀ t, t ≠ 86 → NoTy W5 (fun k => k = p) t := fun t ht => NoTy.box tx5 (fun h => ht h.symm)
    have st6 : St (fun k => k = p ∨ a0.blk k) w W6 (frLs p b1 b2 b6 b7 ps ((ab ++ bts e (put.take i)).length - (bts e ((put.take i).drop j)).length) n) := st5.step u6 fun k hk => .inl hk
    refine st6.ld 0 rfl (x := (n : Int)) rfl (st6.stC 0 rfl (by show 0 < 1; decide) fun W7 S7 u7 => ?_)
    have g7' : W6.heap[b7]? = some (.cells #[.int .i64 (n : Int)] 3 (0, 0)) := st6.at_ 0 rfl
    have ewn : IntKind.wrap .i64 ((n : Int) + 1) = ((n + 1 : Nat) : Int) := by rw [wrap64 (by omega) (by omega)]; omega
    rw [ewn] at S7
    have cbe : bts e ((put.take (i + 1)).drop j) = bts e ((put.take i).drop j) ++ pt e v := by
     rw [tkv, List.drop_append_of_le_length (by rw [List.length_take]; omega), bts_app]; simp [bts]
    have abe : ab ++ bts e (put.take (i + 1)) = ab ++ bts e (put.take i) ++ pt e v := by rw [tkv, bts_app, List.append_assoc]; simp [bts]
    have F7 : FrI w W7 p e lim tp a0 b1 b2 b6 b7 a' ps (ab ++ bts e (put.take (i + 1))) (bts e ((put.take (i + 1)).drop j)) pl M' (n + 1) := by
     rw [cbe, abe]
     refine ⟨?_, ?_, ?_, ?_, ?_, ?_, tops5, F4.pblk, ?_, ?_, ?_⟩
     ·rw [@List.length_append _ (ab ++ bts e (put.take i)), @List.length_append _ (bts e ((put.take i).drop j)), Nat.add_sub_add_right]
      exact S7
     ·exact u7.get n6 (fun hk => NoTy.box g7' (by decide) _ hk _ _ n6)
     ·exact (o5.ty u6 (nt6 _ (by decide))).box g7' (by decide) u7
     ·obtain ⟨x, hx⟩ := F4.suf
      exact ⟨x, by rw [hx, List.append_assoc]⟩
     ·exact (row5.ty u6 (nt6 _ (by decide))).box g7' (by decide) u7
     ·exact (its5.ty u6 (nt6 _ (by decide))).ty u7 (NoTy.box g7' (by decide))
     ·intro k hk
      rcases k5 k hk with h | h
      ·exact F4.ablk k h
      ·have := F4.st.upd.size; exact .inr (by omega)
     ·exact (oldT.ty u6 (nt6 _ (by decide))).ty u7 (NoTy.box g7' (by decide))
     ·have := F4.cnt
      rw [@List.length_append _ (ab ++ bts e (put.take i)), @List.length_append _ (bts e ((put.take i).drop j))]
      omega
    have seg : (put.take (i + 1)).drop j = (put.take i).drop j ++ [v] := by rw [tkv, List.drop_append_of_le_length (by rw [List.length_take]; omega)]
    have hM7 : aOf e M' = prs e ((put.take (i + 1)).take j) := by rw [hM, tkv, List.take_append_of_le_length (by rw [List.length_take]; omega)]
    refine sif_r (fun hb => ?_) (fun hb => ⟨a', ps, pl, M', n + 1, j, by omega, by omega, ?_, F7, hM7⟩)
    ·have hb : sc = false := by simpa using hb
     have hr : Run ((put.take (i + 1)).drop j) := .inr ⟨v, by rw [seg, hji hb, List.drop_eq_nil_of_le (by rw [List.length_take]; omega)]; rfl⟩
     have nil_ : (put.take (i + 1)).drop (i + 1) = [] := List.drop_eq_nil_of_le (by rw [List.length_take]; omega)
     refine shut hr (by omega) F7 hM7 fun ps' pl' M'' n' W' F' hM' hn' => ⟨a', ps', pl', M'', n', i + 1, Nat.le_refl _, by omega, ?_, ?_, ?_⟩
     ·rw [nil_]; intro x hx; cases hx
     ·rw [nil_]; exact F'
     ·rw [hM', List.take_take, Nat.min_self]
    ·have hb : sc = true := by simpa using hb
     rw [seg]
     intro x hx
     rcases List.mem_append.1 hx with hx | hx
     ·exact hsc x hx
     ·rw [List.mem_singleton.1 hx]; exact hsv.1 hb
   ·rintro _ W' ⟨a, ps, pl, M', n, j, hj, hn, hsc, F, hM⟩
    exact ⟨⟨a, ps, pl, M', n, i + 1, j, rfl, by omega, by omega, hn, hsc, F, hM⟩, by omega⟩
  ·simp only [decide_eq_false_iff_not] at hc
   have : i = put.length := by omega
   subst this
   exact ⟨a, ps, pl, M', n, j, hj, hsc, F, hM⟩
 ·rintro _ W ⟨a, ps, pl, M', n, j, hj, hsc, F, hM⟩
  refine shut (.inl hsc) hj F hM fun ps' pl' M'' n' W' F' hM' _ => ?_
  have hcnt := F'.cnt
  rw [List.take_length] at F' hM' hcnt
  refine F'.st.ld 2 rfl (x := ps') rfl (hK ps' a pl' M'' W' F'.tx F'.own F'.row F'.its hM' F'.tops F'.pblk F'.ablk F'.old F'.st.upd ?_)
  rw [List.length_append] at hcnt
  simpa using hcnt
end
section
variable {w w' W W' : World} {S : Nat → Prop} {p : Nat} {e : Enc} {lim na : Nat} {O : Nat → Prop} {M : Parts} {tp : Option Addr} {a0 a : Sl}
def hdA (e : Enc) (M : Parts) (i n : Nat) : As := match M[i]? with | some x => (ats e x.2).take n | none => []
def tlA (e : Enc) (M : Parts) (i n : Nat) : As := match M[i]? with | some x => (ats e x.2).drop n | none => []
theorem hdA_some {e : Enc} {M : Parts} {i n : Nat} {x : Int × Bs} (h : M[i]? = some x) : hdA e M i n = (ats e x.2).take n := by unfold hdA; rw [h]
theorem tlA_some {e : Enc} {M : Parts} {i n : Nat} {x : Int × Bs} (h : M[i]? = some x) : tlA e M i n = (ats e x.2).drop n := by unfold tlA; rw [h]
theorem hdA_none {e : Enc} {M : Parts} {i n : Nat} (h : M[i]? = none) : hdA e M i n = [] := by unfold hdA; rw [h]
theorem tlA_none {e : Enc} {M : Parts} {i n : Nat} (h : M[i]? = none) : tlA e M i n = [] := by unfold tlA; rw [h]
theorem hd_spot {e : Enc} {M : Parts} {at_ i n : Nat} (h : Spot e M at_ i n) : (aOf e M).take at_ = aOf e (M.take i) ++ hdA e M i n := by rw [take_spot h]; unfold hdA; cases M[i]? <;> rfl
theorem drop_spot {e : Enc} {M : Parts} {at_ i n : Nat} (h : Spot e M at_ i n) : (aOf e M).drop at_ = tlA e M i n ++ aOf e (M.drop (i + 1)) := by
 rcases h with ⟨rfl, rfl, rfl⟩ | ⟨x, hx, h1, h2, rfl⟩
 ·cases M with
  | nil => simp [aOf, tlA]
  | cons x M => simp [aOf, tlA]
 ·rw [tlA_some hx]
  have hil := (List.getElem?_eq_some_iff.1 hx).1
  have hd : M = M.take i ++ x :: M.drop (i + 1) := by
   have := List.drop_eq_getElem_cons hil
   have hx' : M[i] = x := by rw [List.getElem?_eq_getElem hil] at hx; exact Option.some.inj hx
   rw [hx'] at this
   rw [← this, List.take_append_drop]
  have : aOf e M = aOf e (M.take i) ++ (ats e x.2 ++ aOf e (M.drop (i + 1))) := by
   conv => lhs; rw [hd]
   rw [aOf_app, aOf_cons]
  rw [this, List.drop_length_add_append, List.drop_append_of_le_length h2]
theorem spot_le {e : Enc} {M : Parts} {f t i n j m : Nat} (h1 : Spot e M f i n) (h2 : Spot e M t j m) (hft : f ≤ t) : i ≤ j := by
 have mono : ∀ a b : Nat, a ≤ b → (aOf e (M.take a)).length ≤ (aOf e (M.take b)).length := by
  intro a b hab
  have : M.take b = M.take a ++ (M.take b).drop a := by
   conv => lhs; rw [← List.take_append_drop a (M.take b)]
   rw [List.take_take, Nat.min_eq_left hab]
  rw [this, aOf_app, List.length_append]; omega
 rcases h1 with ⟨_, rfl, _⟩ | ⟨x, hx, g1, g2, g3⟩
 ·exact Nat.zero_le _
 rcases Nat.lt_or_ge j i with hlt | hge
 ·exfalso
  rcases h2 with ⟨h, _, _⟩ | ⟨y, hy, k1, k2, k3⟩
  ·omega
  ·have hjl := (List.getElem?_eq_some_iff.1 hy).1
   have e1 : (aOf e (M.take (j + 1))).length = (aOf e (M.take j)).length + (ats e y.2).length := by
    have hy' : M[j] = y := by rw [List.getElem?_eq_getElem hjl] at hy; exact Option.some.inj hy
    rw [List.take_add_one, hy, Option.toList_some, aOf_app, List.length_append]
    simp [aOf]
   have := mono (j + 1) i (by omega)
   omega
 ·exact hge
theorem szs_ge_take {l : As} (h : Posd l) {n : Nat} (hn : n ≤ l.length) : n ≤ szs (l.take n) := by
 have := szs_ge (h.take n)
 rw [List.length_take] at this; omega
theorem head_in {x : Pc} {y : Int × Bs} {n : Nat} (hp : PcIn w e x y) (h1 : 1 ≤ n) (hn : n ≤ (ats e y.2).length) : PcIn w e (headPc e x y.2 n) (y.1, y.2.take (cutAt e y.2 n)) := by
 have hcl := cutAt_le e y.2 n
 have hlen := hp.by_.len
 have hcap := SlIn.le hp.by_
 have c1 := hp.by_.cut (l := 0) (h := (cutAt e y.2 n : Int)) (m := (cutAt e y.2 n : Int)) (by omega) (by omega) (by omega) (by omega) (by omega)
 have d1 : (y.2.drop (0 : Int).toNat).take ((cutAt e y.2 n : Int).toNat - (0 : Int).toNat) = y.2.take (cutAt e y.2 n) := by simp
 rw [d1] at c1
 have hge : n ≤ cutAt e y.2 n := szs_ge_take (ats_posd e y.2) hn
 refine ⟨c1, rfl, hp.tag, fun hc => ?_, hp.lo, ?_⟩
 ·have := congrArg List.length hc
  rw [List.length_take, List.length_nil] at this
  omega
 ·have := hp.hi
  show y.1 + ((y.2.take _).length : Int) ≤ _
  rw [List.length_take]; omega
theorem rest_in {x : Pc} {y : Int × Bs} {n : Nat} (hp : PcIn w e x y) (hn : n < (ats e y.2).length) : PcIn w e (restPc e x y.2 n) (restTag y.1 (cutAt e y.2 n), y.2.drop (cutAt e y.2 n)) := by
 have hcl := cutAt_le e y.2 n
 have hlen := hp.by_.len
 have hcap := SlIn.le hp.by_
 have c2 := hp.by_.cut (l := (cutAt e y.2 n : Int)) (h := (x.bytes.len : Int)) (m := (x.bytes.cap : Int)) (by omega) (by omega) (by omega) (by omega) (by omega)
 have d2 : (y.2.drop (cutAt e y.2 n : Int).toNat).take ((x.bytes.len : Int).toNat - (cutAt e y.2 n : Int).toNat) = y.2.drop (cutAt e y.2 n) := by
  rw [Int.toNat_natCast, Int.toNat_natCast]
  exact List.take_of_length_le (by rw [List.length_drop]; omega)
 rw [d2] at c2
 have hlt : cutAt e y.2 n < y.2.length := by
  have h1 := szs_append ((ats e y.2).take n) ((ats e y.2).drop n)
  rw [List.take_append_drop, szs_all] at h1
  have h2 := szs_ge ((ats_posd e y.2).drop n)
  rw [List.length_drop] at h2
  unfold cutAt; omega
 have hlo := hp.lo; have hhi := hp.hi
 refine ⟨c2, rfl, by show restTag x.tag _ = restTag y.1 _; rw [hp.tag], fun hc => ?_, ?_, ?_⟩
 ·have := congrArg List.length hc
  rw [List.length_drop, List.length_nil] at this
  omega
 ·show -1 ≤ restTag y.1 _
  unfold restTag; split <;> omega
 ·show restTag y.1 _ + ((y.2.drop _).length : Int) ≤ _
  rw [List.length_drop]
  unfold restTag; split <;> omega
theorem Pcs_one (l : List Pc) : ∀ v ∈ flat c93 (l.map pcT), isOne v = true := by
 intro v hv
 unfold flat at hv
 obtain ⟨x, hx, hv⟩ := List.mem_flatMap.1 hv
 obtain ⟨y, _, rfl⟩ := List.mem_map.1 hx
 exact Pc_one y v (by rw [flat_one]; exact hv)
theorem rdTree (tx : W.heap[p]? = some (txO e lim tp a)) {K : Addr → Cells.T c84 → World → Prop} (hK : K (at0 p) (tp, ()) W) : nn (some (at0 p)) (fun q => lds c84 (q.add 2) (K q)) W := by
 refine nn_some ?_
 rw [addr_add]
 refine lds_r tx (x := (tp, ())) (fun i v hv => ?_) hK
 match i, hv with
 | 0, hv => exact hv
 | i + 1, hv => cases hv
abbrev Wr (w : World) (O : Nat → Prop) (k : Nat) : Prop := O k ∧ ∀ c fr, w.heap[k]? ≠ some (.cells c 139 fr)
set_option maxHeartbeats 2000000 in
theorem treplace_call {from_ to_ : Nat} {s : Sl} {t : TypeId} {put : List Int} (h : Txt w p e lim na O M) (hft : from_ ≤ to_) (hto : to_ ≤ (aOf e M).length) (hs : SlIn w s t 1 (iv put)) (hsep : ∀ k, s.blk k → ¬ O k) (hfit : Fits e put) (hna : na + (bts e put).length < 2 ^ 40) (hput : put.length < 2 ^ 40)
  (hroom : szs ((aOf e M).take from_ ++ prs e put ++ (aOf e M).drop to_) ≤ 1048576) {K : Unit → World → Prop}
  (hK : ∀ O' M' w', Txt w' p e lim (na + (bts e put).length) O' M' → aOf e M' = (aOf e M).take from_ ++ prs e put ++ (aOf e M).drop to_ → Upd (Wr w O) w w' → (∀ k, O k → O' k) → (∀ k, O' k → O k ∨ w.heap.size ≤ k) → K () w') :
  callT Tryz.prog 64 #[.pointer (some (at0 p)), .int .i64 (from_ : Int), .int .i64 (to_ : Int), .slice s.a s.len s.cap] (.tup []) K w := by
 refine F64_calls ?_
 unfold F64
 obtain ⟨tr, a0, ab, tx, ht, hi, own, tops, pO, aO, hla⟩ := h.ex
 have few := h.few; have lims := h.lims; have hsz := h.sz
 have il := hi.len
 have hf : Fine tr.items := hi.fine (by omega)
 have fl := hf.few
 have hal : ab.length = a0.len := by have := own.len1; rwa [List.length_map] at this
 refine tfind_call h (by omega) fun i n w1 hs1 hil1 e1 => ?_
 refine tfind_call (h.ext e1) (by omega) fun j m w2 hs2 hil2 e2 => ?_
 rw [Int.toNat_natCast] at hs1 hs2
 have x2 := e1.trans e2
 have hij := spot_le hs1 hs2 hft
 have pcs : ∀ {i : Nat} {x : Pc}, tr.items[i]? = some x → ∃ y, M[i]? = some y ∧ PcIn w e x y ∧ y.2.length ≤ 1048576 := by
  intro i x hx
  obtain ⟨y, hy, hp⟩ := hi.get i hx
  refine ⟨y, hy, hp, ?_⟩
  have h2 : szs (aOf e M) = szs (aOf e (M.take i)) + (y.2.length + szs (aOf e (M.drop (i + 1)))) := by
   have hil := (List.getElem?_eq_some_iff.1 hy).1
   have hd := List.drop_eq_getElem_cons hil
   have hx' : M[i] = y := by rw [List.getElem?_eq_getElem hil] at hy; exact Option.some.inj hy
   rw [hx'] at hd
   conv => lhs; rw [← List.take_append_drop i M, hd]
   rw [aOf_app, aOf_cons, szs_append, szs_append, szs_all]
  omega
 have spn : ∀ {at_ i n : Nat} {y : Int × Bs}, at_ ≤ (aOf e M).length → Spot e M at_ i n → M[i]? = some y → n ≤ (ats e y.2).length ∧ n < 2 ^ 30 := by
  intro at_ i n y hle hs hy
  rcases hs with ⟨_, _, rfl⟩ | ⟨x, hx, h1, h2, h3⟩
  ·exact ⟨Nat.zero_le _, by decide⟩
  ·rw [hy] at hx; cases hx
   exact ⟨h2, by omega⟩
 refine join_r (fun x W => ∃ plL ML, SlOwn W w2.heap.size x.1 93 7 (flat c93 (plL.map pcT)) ∧ Its w e plL ML ∧ aOf e ML = hdA e M i n ∧ (∀ x ∈ plL, ∀ k, x.bytes.blk k → O k) ∧ (∀ x ∈ plL, ∀ k, x.bytes.blk k → a0.blk k → top x.bytes ≤ top a0) ∧ plL.length ≤ 1 ∧ Ext w2 W) ?_ ?_
 ·refine rdTree (x2.ext_get tx) (at_call (ht.ext x2) hf (by omega) fun w3 e3 => ?_)
  refine (St.start w3).newO fun b8 w4 S4 e4 => S4.aggSt 0 rfl rfl rfl rfl fun w5 S5 u5 => ?_
  cases hx : tr.items[i]? with
  | none =>
   have hM : M[i]? = none := List.getElem?_eq_none (by have := List.getElem?_eq_none_iff.1 hx; omega)
   have e0 : atI tr.items i = (Pc.zero, false) := by unfold atI; rw [hx]
   rw [e0, hdA_none hM]
   refine join_r (fun x W => x = (false, ()) ∧ w5 = W) (sif_false ⟨rfl, rfl⟩) ?_
   rintro _ _ ⟨rfl, rfl⟩
   exact sif_false ⟨[], [], SlOwn.nil _ _ _ _, trivial, rfl, (fun x hx => by cases hx), (fun x hx => by cases hx), Nat.zero_le _, e3.trans S5.upd⟩
  | some x =>
   have e0 : atI tr.items i = (x, true) := by unfold atI; rw [hx]
   rw [e0] at S5 ⊢
   obtain ⟨y, hy, hp, hyl⟩ := pcs hx
   have hn := spn (by omega) hs1 hy
   rw [hdA_some hy]
   refine join_r (fun x W => x = (decide (0 < n), ()) ∧ w5 = W) (sif_true ⟨tupb ?_, rfl⟩) ?_
   ·simp only [decide_eq_true_eq, gt_iff_lt]; omega
   rintro _ _ ⟨rfl, rfl⟩
   refine sif_r (fun hn0 => ?_) (fun hn0 => ?_)
   ·simp only [decide_eq_true_eq] at hn0
    have hlo := hp.lo; have hhi := hp.hi
    have hE : ∀ {V : World}, Ext w3 V → V.cell? (at0 p) = some (.int .i64 e.num) := fun x => cell_of (x.ext_get ((x2.trans e3).ext_get tx)) rfl
    have byB : By w3 x.bytes y.2 := hp.by_.ext (x2.trans e3)
    have S := S5
    refine join_r (fun s W => ∃ b, s.1 = at0 b ∧ W.heap[b]? = some (.cells (Cells.vals c93 (pcT (headPc e x y.2 n))).toArray 93 (0, 0)) ∧ Ext w3 W) ?_ ?_
    ·refine S.drew fun w9 S e9 _ => S.lds 0 (pcT x) rfl ?_
     simp only [nn_eqT]
     refine ld_r (S.upd.ext_get ((x2.trans e3).ext_get tx)) (x := e.num) rfl ?_
     exact ⟨S.newO fun b18 wx S ex => keep_r (hE S.upd) (S.keeps 1 rfl (⟨S.newO fun b19 wx S ex => keep_r (hE S.upd) (S.keeps 2 rfl (pcut_call (byB.ext S.upd) (by omega) (by rw [hp.tag]; omega) (by omega) fun wx ex => (fun S => S.aggSt 1 rfl rfl rfl rfl fun wx S ux => S.aggSt 0 rfl rfl rfl rfl fun wx S ux => ⟨b18, rfl, S.at_ 1 rfl, S.upd⟩) (S.ext ex))), pcut_call (byB.ext S.upd) (by omega) (by rw [hp.tag]; omega) (by omega) fun wx ex => (fun S => ⟨S.newO fun b22 wx S ex => keep_r (hE S.upd) (S.keeps 2 rfl (S.aggSt 1 rfl rfl rfl rfl fun wx S ux => S.aggSt 0 rfl rfl rfl rfl fun wx S ux => ⟨b18, rfl, S.at_ 1 rfl, S.upd⟩)), trivial⟩) (S.ext ex)⟩)), ⟨S.newO fun b23 wx S ex => keep_r (hE S.upd) (S.keeps 1 rfl (⟨S.newO fun b24 wx S ex => keep_r (hE S.upd) (S.keeps 2 rfl (pcut_call (byB.ext S.upd) (by omega) (by rw [hp.tag]; omega) (by omega) fun wx ex => (fun S => S.aggSt 0 rfl rfl rfl rfl fun wx S ux => S.aggSt 1 rfl rfl rfl rfl fun wx S ux => ⟨b24, rfl, S.at_ 0 rfl, S.upd⟩) (S.ext ex))), pcut_call (byB.ext S.upd) (by omega) (by rw [hp.tag]; omega) (by omega) fun wx ex => (fun S => ⟨S.newO fun b27 wx S ex => keep_r (hE S.upd) (S.keeps 2 rfl (S.aggSt 0 rfl rfl rfl rfl fun wx S ux => S.aggSt 1 rfl rfl rfl rfl fun wx S ux => ⟨b27, rfl, S.at_ 0 rfl, S.upd⟩)), trivial⟩) (S.ext ex)⟩)), pcut_call (byB.ext S.upd) (by omega) (by rw [hp.tag]; omega) (by omega) fun wx ex => (fun S => ⟨S.newO fun b29 wx S ex => keep_r (hE S.upd) (S.keeps 1 rfl (⟨S.newO fun b30 wx S ex => keep_r (hE S.upd) (S.keeps 2 rfl (S.aggSt 1 rfl rfl rfl rfl fun wx S ux => S.aggSt 0 rfl rfl rfl rfl fun wx S ux => ⟨b29, rfl, S.at_ 1 rfl, S.upd⟩)), trivial⟩)), ⟨S.newO fun b31 wx S ex => keep_r (hE S.upd) (S.keeps 1 rfl (⟨S.newO fun b32 wx S ex => keep_r (hE S.upd) (S.keeps 2 rfl (S.aggSt 0 rfl rfl rfl rfl fun wx S ux => S.aggSt 1 rfl rfl rfl rfl fun wx S ux => ⟨b32, rfl, S.at_ 0 rfl, S.upd⟩)), trivial⟩)), trivial⟩⟩) (S.ext ex)⟩⟩
    ·rintro ⟨_, _⟩ w9 ⟨b, rfl, hb, e9⟩
     dsimp only
     refine lds_r hb (x := pcT (headPc e x y.2 n)) (fun j v hv => by rw [Nat.zero_add, List.getElem?_toArray]; exact hv) (newO_r fun b32 w10 e10 n10 _ _ => ?_)
     have hbox : SlX w10 ⟨some (at0 b32), 1, 1⟩ 7 (flat c93 [pcT (headPc e x y.2 n)]) := (SlIn.of_box n10 (n := 1) (sz := 7) rfl).x
     have x10 := (e3.trans e9).trans e10
     refine append_rx eParts eParts.ts_ (s := ⟨none, 0, 0⟩) (x := ⟨some (at0 b32), 1, 1⟩) (SlOwn.nil w10 w2.heap.size _ _) hbox (Pc_one _) (by dsimp only; omega) (by have := x10.size; omega) fun ps' W4 o4 l4 u4 k4 => ?_
     refine ⟨[headPc e x y.2 n], [(y.1, y.2.take (cutAt e y.2 n))], o4, ⟨head_in hp hn0 hn.1, trivial⟩, ?_, ?_, ?_, Nat.le_refl _, x10.step u4 fun k hk => ?_⟩
     ·show ats e (y.2.take (cutAt e y.2 n)) ++ [] = _
      rw [List.append_nil]; unfold cutAt
      rw [(ats_cut e n y.2).1]
     ·intro z hz k hk
      rw [List.mem_singleton.1 hz] at hk
      exact pO x (List.mem_of_getElem? hx) k (cut_blk hk)
     ·intro z hz k hk hk'
      rw [List.mem_singleton.1 hz] at hk ⊢
      have hcl := cutAt_le e y.2 n
      have hlen := hp.by_.len
      exact Nat.le_trans (cut_top hp.by_ (l := 0) (h := (cutAt e y.2 n : Int)) (by omega) (by omega) (by omega)) (tops x (List.mem_of_getElem? hx) k (cut_blk hk) hk')
     ·obtain ⟨q, hq, _⟩ := hk; cases hq
   ·simp only [decide_eq_false_iff_not] at hn0
    obtain rfl : n = 0 := by omega
    exact ⟨[], [], SlOwn.nil _ _ _ _, trivial, rfl, (fun x hx => by cases hx), (fun x hx => by cases hx), Nat.zero_le _, e3.trans S5.upd⟩
 rintro ⟨psL, _⟩ w3 ⟨plL, ML, rowL, itsL, hML, oL, topL, lenL, e3⟩
 dsimp only at rowL ⊢
 have x3 := x2.trans e3
 have tk1 := hd_spot hs1
 rw [← hML] at tk1
 have tk2 := drop_spot hs2
 refine fresh_call (hs.ext x3) (fun k hk => ⟨fun hc => hsep k hk (hc ▸ h.op), fun hc => hsep k hk (aO k hc)⟩) hfit (x3.ext_get tx) (own.ext x3) (by omega) hput fun psF a plF MF w4 tx4 own4 rowF itsF hMF topF blkF blkA old4 u4 cntF => ?_
 have nt4 : ∀ t, t ≠ 86 → t ≠ 5 → NoTy w3 (fun k => k = p ∨ a0.blk k) t := by
  rintro t h1 h2 k (rfl | hk) c fr hc
  ·rw [x3.ext_get tx] at hc; cases hc; exact h1 rfl
  ·obtain ⟨c', fr', hc'⟩ := (own.ext x3).in.blk_cells hk
   rw [hc] at hc'; cases hc'; exact h2 rfl
 have rowL4 := rowL.ty u4 (nt4 _ (by decide) (by decide))
 have ht4 : tr.In w4 := (ht.ext x3).ty u4 (nt4 _ (by decide) (by decide))
 have o4 : Old w w4 a0 a := fun y b hy htp => old4 y b (hy.ext x3) htp
 have lL := SlOwn.lenR (cs := c93) rowL (by decide)
 have lF := SlOwn.lenR (cs := c93) rowF (by decide)
 rw [List.length_map] at lL lF
 have z2 := e3.size
 have z4 := u4.size
 refine append_rx eParts eParts.ts_ rowL4 rowF.in.x (Pcs_one _) (by
  show (psL.len + psF.len + (psL.len + psF.len) / 4 + 512) * 64 ≤ 2 ^ 48
  omega) (by omega) fun psA w5 rowA lA u5 kA => ?_
 rw [← flat_append, ← List.map_append] at rowA
 have nt5 : ∀ t, t ≠ 93 → NoTy w4 psL.blk t := fun t ht => NoTy.blk rowL4.in (fun h => ht h.symm)
 have tx5 : w5.heap[p]? = some (txO e lim tr.ptr a) := u5.get tx4 fun hk => nt5 86 (by decide) _ hk _ _ tx4
 have own5 := own4.ty u5 (nt5 _ (by decide))
 have itsF5 := itsF.ty u5 (nt5 _ (by decide))
 have ht5 : tr.In w5 := ht4.ty u5 (nt5 _ (by decide))
 have o5 := o4.ty u5 (nt5 _ (by decide))
 have z5 := u5.size
 refine join_r (fun x W => ∃ plR MR, SlOwn W w2.heap.size x.1 93 7 (flat c93 ((plL ++ plF ++ plR).map pcT)) ∧ Its w e plR MR ∧ aOf e MR = tlA e M j m ∧ (∀ x ∈ plR, ∀ k, x.bytes.blk k → O k) ∧ (∀ x ∈ plR, ∀ k, x.bytes.blk k → a0.blk k → top x.bytes ≤ top a0) ∧ Upd psA.blk w5 W) ?_ ?_
 ·refine rdTree tx5 (at_call ht5 hf (by omega) fun w6 e6 => ?_)
  refine (St.start w6).newO fun b41 w7 S7 e7 => S7.aggSt 0 rfl rfl rfl rfl fun w8 S8 u8 => ?_
  cases hx : tr.items[j]? with
  | none =>
   have hM : M[j]? = none := List.getElem?_eq_none (by have := List.getElem?_eq_none_iff.1 hx; omega)
   have e0 : atI tr.items j = (Pc.zero, false) := by unfold atI; rw [hx]
   rw [e0, tlA_none hM]
   refine sif_false ⟨[], [], ?_, trivial, rfl, (fun x hx => by cases hx), (fun x hx => by cases hx), Upd.of_ext (e6.trans S8.upd)⟩
   rw [List.append_nil]
   exact rowA.ext (e6.trans S8.upd)
  | some x =>
   have e0 : atI tr.items j = (x, true) := by unfold atI; rw [hx]
   rw [e0] at S8 ⊢
   obtain ⟨y, hy, hp, hyl⟩ := pcs hx
   have hn := spn hto hs2 hy
   rw [tlA_some hy]
   refine sif_true ?_
   have hlo := hp.lo; have hhi := hp.hi
   have tx6 := e6.ext_get tx5
   have hE : ∀ {V : World}, Ext w6 V → V.cell? (at0 p) = some (.int .i64 e.num) := fun x => cell_of (x.ext_get tx6) rfl
   have byB : By w6 x.bytes y.2 := ((o5 x.bytes y.2 hp.by_ (tops x (List.mem_of_getElem? hx))).1).ext e6
   have S := S8
   refine join_r (fun s W => ∃ b, s.1 = at0 b ∧ W.heap[b]? = some (.cells (Cells.vals c93 (pcT (restPc e x y.2 m))).toArray 93 (0, 0)) ∧ Ext w6 W) ?_ ?_
   ·refine S.drew fun w9 S e9 _ => S.lds 0 (pcT x) rfl ?_
    simp only [nn_eqT]
    refine ld_r (S.upd.ext_get tx6) (x := e.num) rfl ?_
    exact ⟨S.newO fun b18 wx S ex => keep_r (hE S.upd) (S.keeps 1 rfl (⟨S.newO fun b19 wx S ex => keep_r (hE S.upd) (S.keeps 2 rfl (pcut_call (byB.ext S.upd) (by omega) (by rw [hp.tag]; omega) (by omega) fun wx ex => (fun S => S.aggSt 1 rfl rfl rfl rfl fun wx S ux => S.aggSt 0 rfl rfl rfl rfl fun wx S ux => ⟨b19, rfl, S.at_ 0 rfl, S.upd⟩) (S.ext ex))), pcut_call (byB.ext S.upd) (by omega) (by rw [hp.tag]; omega) (by omega) fun wx ex => (fun S => ⟨S.newO fun b22 wx S ex => keep_r (hE S.upd) (S.keeps 2 rfl (S.aggSt 1 rfl rfl rfl rfl fun wx S ux => S.aggSt 0 rfl rfl rfl rfl fun wx S ux => ⟨b22, rfl, S.at_ 0 rfl, S.upd⟩)), trivial⟩) (S.ext ex)⟩)), ⟨S.newO fun b23 wx S ex => keep_r (hE S.upd) (S.keeps 1 rfl (⟨S.newO fun b24 wx S ex => keep_r (hE S.upd) (S.keeps 2 rfl (pcut_call (byB.ext S.upd) (by omega) (by rw [hp.tag]; omega) (by omega) fun wx ex => (fun S => S.aggSt 0 rfl rfl rfl rfl fun wx S ux => S.aggSt 1 rfl rfl rfl rfl fun wx S ux => ⟨b23, rfl, S.at_ 1 rfl, S.upd⟩) (S.ext ex))), pcut_call (byB.ext S.upd) (by omega) (by rw [hp.tag]; omega) (by omega) fun wx ex => (fun S => ⟨S.newO fun b27 wx S ex => keep_r (hE S.upd) (S.keeps 2 rfl (S.aggSt 0 rfl rfl rfl rfl fun wx S ux => S.aggSt 1 rfl rfl rfl rfl fun wx S ux => ⟨b23, rfl, S.at_ 1 rfl, S.upd⟩)), trivial⟩) (S.ext ex)⟩)), pcut_call (byB.ext S.upd) (by omega) (by rw [hp.tag]; omega) (by omega) fun wx ex => (fun S => ⟨S.newO fun b29 wx S ex => keep_r (hE S.upd) (S.keeps 1 rfl (⟨S.newO fun b30 wx S ex => keep_r (hE S.upd) (S.keeps 2 rfl (S.aggSt 1 rfl rfl rfl rfl fun wx S ux => S.aggSt 0 rfl rfl rfl rfl fun wx S ux => ⟨b30, rfl, S.at_ 0 rfl, S.upd⟩)), trivial⟩)), ⟨S.newO fun b31 wx S ex => keep_r (hE S.upd) (S.keeps 1 rfl (⟨S.newO fun b32 wx S ex => keep_r (hE S.upd) (S.keeps 2 rfl (S.aggSt 0 rfl rfl rfl rfl fun wx S ux => S.aggSt 1 rfl rfl rfl rfl fun wx S ux => ⟨b31, rfl, S.at_ 1 rfl, S.upd⟩)), trivial⟩)), trivial⟩⟩) (S.ext ex)⟩⟩
   ·rintro ⟨_, _⟩ w9 ⟨b, rfl, hb, e9⟩
    dsimp only
    simp only [addr_add]
    have hat : (restPc e x y.2 m).sm.atoms = (ats e y.2).length - m := by
     show (msr (ats e (y.2.drop (cutAt e y.2 m)))).atoms = _
     rw [msr_atoms (ats_posd e _)]
     unfold cutAt
     rw [(ats_cut e m y.2).2, List.length_drop]
    refine ld_r hb (x := (((restPc e x y.2 m).sm.atoms : Nat) : Int)) rfl (sif_r (fun h0 => ?_) (fun h0 => ?_))
    ·simp only [decide_eq_true_eq, gt_iff_lt] at h0
     refine lds_r hb (x := pcT (restPc e x y.2 m)) (fun j v hv => by rw [Nat.zero_add, List.getElem?_toArray]; exact hv) (newO_r fun b32 w10 e10 n10 _ _ => ?_)
     have hbox : SlX w10 ⟨some (at0 b32), 1, 1⟩ 7 (flat c93 [pcT (restPc e x y.2 m)]) := (SlIn.of_box n10 (n := 1) (sz := 7) rfl).x
     have x10 := (e6.trans e9).trans e10
     refine append_rx eParts eParts.ts_ (x := ⟨some (at0 b32), 1, 1⟩) (rowA.ext x10) hbox (Pc_one _) (by
      show (psA.len + 1 + (psA.len + 1) / 4 + 512) * 64 ≤ 2 ^ 48
      omega) (by have := x10.size; omega) fun ps' W4 o4' l4 u4' k4 => ?_
     have ef : flat c93 ((plL ++ plF).map pcT) ++ flat c93 [pcT (restPc e x y.2 m)] = flat c93 ((plL ++ plF ++ [restPc e x y.2 m]).map pcT) := by rw [List.map_append (l₁ := plL ++ plF), flat_append]; rfl
     rw [ef] at o4'
     refine ⟨[restPc e x y.2 m], [(restTag y.1 (cutAt e y.2 m), y.2.drop (cutAt e y.2 m))], o4', ⟨rest_in hp (by omega), trivial⟩, ?_, ?_, ?_, (Upd.of_ext x10).trans u4'⟩
     ·show ats e (y.2.drop (cutAt e y.2 m)) ++ [] = _
      rw [List.append_nil]; unfold cutAt
      rw [(ats_cut e m y.2).2]
     ·intro z hz k hk
      rw [List.mem_singleton.1 hz] at hk
      exact pO x (List.mem_of_getElem? hx) k (cut_blk hk)
     ·intro z hz k hk hk'
      rw [List.mem_singleton.1 hz] at hk ⊢
      have hcl := cutAt_le e y.2 m
      have hlen := hp.by_.len
      exact Nat.le_trans (cut_top hp.by_ (l := (cutAt e y.2 m : Int)) (h := (x.bytes.len : Int)) (by omega) (by omega) (by omega)) (tops x (List.mem_of_getElem? hx) k (cut_blk hk) hk')
    ·simp only [decide_eq_false_iff_not, gt_iff_lt] at h0
     refine ⟨[], [], ?_, trivial, ?_, (fun x hx => by cases hx), (fun x hx => by cases hx), Upd.of_ext (e6.trans e9)⟩
     ·rw [List.append_nil]; exact rowA.ext (e6.trans e9)
     ·show [] = (ats e y.2).drop m
      rw [List.drop_eq_nil_of_le (by omega)]
 rintro ⟨psR, _⟩ w6 ⟨plR, MR, rowR, itsR, hMR, oR, topR, u6⟩
 dsimp only at rowR ⊢
 rw [← hMR] at tk2
 have nt6 : ∀ t, t ≠ 93 → NoTy w5 psA.blk t := fun t ht => NoTy.blk rowA.in (fun h => ht h.symm)
 have tx6 : w6.heap[p]? = some (txO e lim tr.ptr a) := u6.get tx5 fun hk => nt6 86 (by decide) _ hk _ _ tx5
 have own6 := own5.ty u6 (nt6 _ (by decide))
 have itsF6 := itsF5.ty u6 (nt6 _ (by decide))
 have ht6 : tr.In w6 := ht5.ty u6 (nt6 _ (by decide))
 have o6 := o5.ty u6 (nt6 _ (by decide))
 refine drew_r fun w7 e7 _ => rdTree (e7.ext_get tx6) (rdTree (e7.ext_get tx6) (tsize_call (ht6.ext e7) fun w8 e8 => ?_))
 have x8 := e7.trans e8
 have tx8 := x8.ext_get tx6
 refine keep_r ?_ ?_
 ·rw [addr_add]
  refine cellsAt_of _ 0 fun q v hv => cell_of tx8 ?_
  match q, hv with
  | 0, hv => exact hv
  | q + 1, hv => cases hv
 have emin : (if ((tr.items.length : Nat) : Int) < IntKind.wrap .i64 ((j : Int) + 1) then ((tr.items.length : Nat) : Int) else IntKind.wrap .i64 ((j : Int) + 1)) = ((min (j + 1) tr.items.length : Nat) : Int) := by
  rw [wrap64 (by omega) (by omega)]
  split <;> omega
 rw [emin]
 have old_its : ∀ {l : List Pc} {N : Parts}, Its w e l N → (∀ x ∈ l, ∀ k, x.bytes.blk k → a0.blk k → top x.bytes ≤ top a0) → Its w6 e l N := fun hl htp => hl.to fun x hx b hb => (o6 x.bytes b hb (htp x hx)).1
 have its_all : Its w6 e (tr.items.take i ++ (plL ++ plF ++ plR) ++ tr.items.drop (min (j + 1) tr.items.length)) (M.take i ++ (ML ++ MF ++ MR) ++ M.drop (min (j + 1) tr.items.length)) :=
  Its.app (Its.app (old_its (hi.take i) fun x hx => tops x (List.mem_of_mem_take hx)) (Its.app (Its.app (old_its itsL topL) itsF6) (old_its itsR topR))) (old_its (hi.drop _) fun x hx => tops x (List.mem_of_mem_drop hx))
 have ed : M.drop (min (j + 1) tr.items.length) = M.drop (j + 1) := by
  by_cases hc : j + 1 ≤ tr.items.length
  ·rw [Nat.min_eq_left hc]
  ·rw [List.drop_eq_nil_of_le (by omega), List.drop_eq_nil_of_le (by omega)]
 have ea : aOf e (M.take i ++ (ML ++ MF ++ MR) ++ M.drop (min (j + 1) tr.items.length)) = (aOf e M).take from_ ++ prs e put ++ (aOf e M).drop to_ := by
  rw [ed, aOf_app, aOf_app, aOf_app, aOf_app, tk1, tk2, hMF]
  simp only [List.append_assoc]
 have hsA : szs (aOf e (M.take i ++ (ML ++ MF ++ MR) ++ M.drop (min (j + 1) tr.items.length))) < 2 ^ 59 := by rw [ea]; omega
 have hFine := its_all.fine hsA
 have hjl : min (j + 1) tr.items.length ≤ tr.items.length := Nat.min_le_right _ _
 have hi_le : i ≤ min (j + 1) tr.items.length := by
  rcases hs1 with ⟨_, rfl, _⟩ | ⟨x, hx, _⟩
  ·exact Nat.zero_le _
  ·have := (List.getElem?_eq_some_iff.1 hx).1; omega
 refine replace_call (t := tr) (n := i) (m := min (j + 1) tr.items.length) (l := plL ++ plF ++ plR) (ht6.ext x8) (rowR.in.ext x8) hf hFine.left.right hi_le hjl hFine fun t' w9 ht' hti e9 => ?_
 have x9 := x8.trans e9
 have tx9 := x9.ext_get tx6
 simp only [nn_eqT, addr_add]
 refine aggSt_r tx9 rfl rfl (by show 0 + 2 + 1 ≤ 4; decide) fun w10 u10 n10 _ => ?_
 have n10 : w10.heap[p]? = some (txO e lim t'.ptr a) := n10
 have nt10 : ∀ t, t ≠ 86 → NoTy w9 (fun k => k = p) t := fun t ht => NoTy.box tx9 (fun h => ht h.symm)
 have ht10 : t'.In w10 := ht'.ty u10 (nt10 _ (by decide))
 have o10 : Old w w10 a0 a := (o6.ty x9 (no_ext _ _)).ty u10 (nt10 _ (by decide))
 have uA : Upd (Wr w O) w w10 := by
  have hp' : Wr w O p := ⟨h.op, NoTy.box tx (by decide) p rfl⟩
  have v3 : Upd (Wr w O) w w3 := Upd.of_ext x3
  have v4 : Upd (Wr w O) w w4 := v3.trans (u4.mono fun k _ hk => hk.elim (fun h => h ▸ hp') fun h => ⟨aO k h, NoTy.blk own.in (by decide) k h⟩)
  have v5 : Upd (Wr w O) w w5 := v4.new u5 fun k hk hS => by have := rowL4.blk_ge hS; have := x2.size; omega
  have v6 : Upd (Wr w O) w w6 := v5.new u6 fun k hk hS => by have := rowA.blk_ge hS; have := x2.size; omega
  exact (v6.trans (Upd.of_ext x9)).trans (u10.mono fun k _ hk => hk ▸ hp')
 have hsz10 := uA.size
 have own10 := (own6.ext x9).ty u10 (nt10 _ (by decide))
 have hlA : (ab ++ bts e put).length = a.len := by have := own10.len1; rwa [List.length_map] at this
 rw [List.length_append] at hlA
 refine hK (fun k => O k ∨ (w.heap.size ≤ k ∧ k < w10.heap.size)) (M.take i ++ (ML ++ MF ++ MR) ++ M.drop (min (j + 1) tr.items.length)) w10 ⟨⟨t', a, ab ++ bts e put, n10, ht10, ?_, own10, ?_, ?_, ?_, by omega⟩, lims, by rw [ea]; exact hroom, .inl h.op, ?_⟩ ea uA (fun k hk => .inl hk) (fun k hk => hk.imp id fun h => h.1)
 ·rw [hti]
  exact (its_all.ext x9).ty u10 (nt10 _ (by decide))
 ·rw [hti]
  have oldT : ∀ x : Pc, (∃ b, By w x.bytes b) → (∀ k, x.bytes.blk k → a0.blk k → top x.bytes ≤ top a0) → ∀ k, x.bytes.blk k → a.blk k → top x.bytes ≤ top a := fun x ⟨b, hb⟩ htp => (o10 x.bytes b hb htp).2
  intro x hx
  rcases List.mem_append.1 hx with hx | hx
  ·rcases List.mem_append.1 hx with hx | hx
   ·exact oldT x (hi.by_ x (List.mem_of_mem_take hx)) (tops x (List.mem_of_mem_take hx))
   ·rcases List.mem_append.1 hx with hx | hx
    ·rcases List.mem_append.1 hx with hx | hx
     ·exact oldT x (itsL.by_ x hx) (topL x hx)
     ·exact topF x hx
    ·exact oldT x (itsR.by_ x hx) (topR x hx)
  ·exact oldT x (hi.by_ x (List.mem_of_mem_drop hx)) (tops x (List.mem_of_mem_drop hx))
 ·rw [hti]
  intro x hx k hk
  have new : w3.heap.size ≤ k → (∃ b, By w10 x.bytes b) → O k ∨ (w.heap.size ≤ k ∧ k < w10.heap.size) := fun h1 ⟨b, hb⟩ => .inr ⟨by have := x3.size; omega, hb.blk_lt hk⟩
  rcases List.mem_append.1 hx with hx | hx
  ·rcases List.mem_append.1 hx with hx | hx
   ·exact .inl (pO x (List.mem_of_mem_take hx) k hk)
   ·rcases List.mem_append.1 hx with hx | hx
    ·rcases List.mem_append.1 hx with hx | hx
     ·exact .inl (oL x hx k hk)
     ·rcases blkF x hx k hk with h1 | h1
      ·exact .inl (aO k h1)
      ·exact new h1 (((itsF6.ext x9).ty u10 (nt10 _ (by decide))).by_ x hx)
    ·exact .inl (oR x hx k hk)
  ·exact .inl (pO x (List.mem_of_mem_drop hx) k hk)
 ·intro k hk
  rcases blkA k hk with h1 | h1
  ·exact .inl (aO k h1)
  ·exact .inr ⟨by have := x3.size; omega, own10.in.blk_lt hk⟩
 ·intro k hk
  rcases hk with hk | hk
  ·have := h.own k hk; omega
  ·exact hk.2
end
section
variable {w w' W W' : World} {S : Nat → Prop} {p : Nat} {e : Enc} {lim na : Nat} {O : Nat → Prop} {M : Parts} {tp : Option Addr} {a0 a : Sl}
theorem Txt.lim_ (h : Txt w p e lim na O M) : w.cell? ⟨p, 1, none⟩ = some (.int .i64 (lim : Int)) := by
 obtain ⟨t, a, ab, h1, _⟩ := h.ex
 exact cell_of h1 rfl
theorem szs_prs_take (e : Enc) (l : List Int) {i : Nat} {v : Int} (hv : l[i]? = some v) : szs (prs e (l.take (i + 1))) = szs (prs e (l.take i)) + sz e v := by
 rw [List.take_add_one, hv]
 simp [prs, szs_append, szs_cons, szs_nil]
theorem szs_prs_le (e : Enc) (l : List Int) (i : Nat) : szs (prs e (l.take i)) ≤ szs (prs e l) := by
 have : prs e l = prs e (l.take i) ++ prs e (l.drop i) := by unfold prs; rw [← List.map_append, List.take_append_drop]
 rw [this, szs_append]; omega
end
namespace Cdc
structure LEd where
 f : Int
 t : Int
 put : List Int
theorem sz_le (e : Enc) (v : Int) : sz e v ≤ 4 := by
 cases e with
 | u8 => show sz8 v ≤ 4; unfold sz8; (repeat' split) <;> omega
 | le => show sz16 v ≤ 4; unfold sz16; (repeat' split) <;> omega
 | be => show sz16 v ≤ 4; unfold sz16; (repeat' split) <;> omega
 | l1 => show sz1 v ≤ 4; unfold sz1; (repeat' split) <;> omega
end Cdc
def rngs (n : Int) : Int → List LEd → Bool
 | _, [] => true
 | a, x :: r => decide (a ≤ x.f ∧ x.f ≤ x.t ∧ x.t ≤ n) && rngs n x.t r
def fitsB (e : Enc) (es : List LEd) : Bool := es.all fun x => x.put.all fun a => sz e a != 0
def putsz (e : Enc) : List LEd → Nat
 | [] => 0
 | x :: r => szs (prs e x.put) + putsz e r
def goneE (A : As) : List LEd → Nat
 | [] => 0
 | x :: r => (szs (A.take x.t.toNat) - szs (A.take x.f.toNat)) + goneE A r
def refuseP (e : Enc) (lim : Nat) (A : As) (es : List LEd) : Int :=
 if 70000 < es.length then 3 else if rngs A.length 0 es = false then 2 else if fitsB e es = false then 11 else if lim + goneE A es < szs A + putsz e es then 50 else 0
def applyE (e : Enc) (A : As) : List LEd → As
 | [] => A
 | x :: r => (applyE e A r).take x.f.toNat ++ prs e x.put ++ (applyE e A r).drop x.t.toNat
theorem putsz_app (e : Enc) : ∀ (l m : List LEd), putsz e (l ++ m) = putsz e l + putsz e m
 | [], m => by simp [putsz]
 | x :: l, m => by rw [List.cons_append, putsz, putsz, putsz_app e l m]; omega
theorem goneE_app (A : As) : ∀ (l m : List LEd), goneE A (l ++ m) = goneE A l + goneE A m
 | [], m => by simp [goneE]
 | x :: l, m => by rw [List.cons_append, goneE, goneE, goneE_app A l m]; omega
theorem fitsB_app (e : Enc) (l m : List LEd) : fitsB e (l ++ m) = (fitsB e l && fitsB e m) := by unfold fitsB; rw [List.all_append]
theorem szs_take_le (A : As) {i j : Nat} (h : i ≤ j) : szs (A.take i) ≤ szs (A.take j) := by
 have : A.take j = A.take i ++ (A.take j).drop i := by
  conv => lhs; rw [← List.take_append_drop i (A.take j)]
  rw [List.take_take, Nat.min_eq_left h]
 rw [this, szs_append]; omega
theorem szs_all_le (A : As) (i : Nat) : szs (A.take i) ≤ szs A := by
 conv => rhs; rw [← List.take_append_drop i A]
 rw [szs_append]; omega
theorem rngs_get {n : Int} : ∀ {es : List LEd} {a : Int} {i : Nat} {x : LEd}, rngs n a es = true → es[i]? = some x → (if i = 0 then a else ((es[i - 1]?).map (·.t)).getD 0) ≤ x.f ∧ a ≤ x.f ∧ x.f ≤ x.t ∧ x.t ≤ n ∧ rngs n x.t (es.drop (i + 1)) = true
 | [], a, i, x, _, hx => by simp at hx
 | y :: r, a, 0, x, h, hx => by
  simp at hx; subst hx
  rw [rngs, Bool.and_eq_true, decide_eq_true_eq] at h
  exact ⟨h.1.1, h.1.1, h.1.2.1, h.1.2.2, h.2⟩
 | y :: r, a, i + 1, x, h, hx => by
  rw [rngs, Bool.and_eq_true, decide_eq_true_eq] at h
  have hx' : r[i]? = some x := by simpa using hx
  obtain ⟨g1, g2, g3, g4, g5⟩ := rngs_get h.2 hx'
  refine ⟨?_, by omega, g3, g4, g5⟩
  rw [if_neg (by omega)]
  cases i with
  | zero => simpa using g1
  | succ i =>
   rw [if_neg (by omega)] at g1
   simpa using g1
theorem apply_head {e : Enc} {A : As} : ∀ {es : List LEd} {a : Int}, 0 ≤ a → a ≤ A.length → rngs A.length a es = true → a.toNat ≤ (applyE e A es).length ∧ (applyE e A es).take a.toNat = A.take a.toNat
 | [], a, h0, h1, _ => ⟨by rw [applyE]; omega, rfl⟩
 | x :: r, a, h0, h1, h => by
  rw [rngs, Bool.and_eq_true, decide_eq_true_eq] at h
  obtain ⟨⟨g1, g2, g3⟩, g4⟩ := h
  obtain ⟨i1, i2⟩ := apply_head (e := e) (A := A) (a := x.t) (by omega) g3 g4
  have hB : (applyE e A r).take x.f.toNat = A.take x.f.toNat := by
   have := congrArg (List.take x.f.toNat) i2
   rw [List.take_take, List.take_take, Nat.min_eq_left (by omega)] at this
   exact this
  rw [applyE, hB]
  have hl : (A.take x.f.toNat).length = x.f.toNat := by rw [List.length_take]; omega
  constructor
  ·rw [List.length_append, List.length_append, hl]; omega
  ·rw [List.append_assoc, List.take_append_of_le_length (by rw [hl]; omega), List.take_take, Nat.min_eq_left (by omega)]
theorem gone_le {A : As} : ∀ {es : List LEd} {a : Int}, 0 ≤ a → rngs A.length a es = true → goneE A es + szs (A.take a.toNat) ≤ szs A
 | [], a, _, _ => by rw [goneE]; have := szs_all_le A a.toNat; omega
 | x :: r, a, h0, h => by
  rw [rngs, Bool.and_eq_true, decide_eq_true_eq] at h
  obtain ⟨⟨g1, g2, g3⟩, g4⟩ := h
  have ih := gone_le (A := A) (a := x.t) (by omega) g4
  have h1 := szs_take_le A (i := a.toNat) (j := x.f.toNat) (by omega)
  have h2 := szs_take_le A (i := x.f.toNat) (j := x.t.toNat) (by omega)
  rw [goneE]; omega
theorem apply_szs {e : Enc} {A : As} : ∀ {es : List LEd} {a : Int}, 0 ≤ a → a ≤ A.length → rngs A.length a es = true → szs (applyE e A es) + goneE A es = szs A + putsz e es
 | [], a, _, _, _ => by rw [applyE, goneE, putsz]
 | x :: r, a, h0, h1, h => by
  rw [rngs, Bool.and_eq_true, decide_eq_true_eq] at h
  obtain ⟨⟨g1, g2, g3⟩, g4⟩ := h
  have ih := apply_szs (e := e) (A := A) (a := x.t) (by omega) g3 g4
  obtain ⟨i1, i2⟩ := apply_head (e := e) (A := A) (a := x.t) (by omega) g3 g4
  have hB : (applyE e A r).take x.f.toNat = A.take x.f.toNat := by
   have := congrArg (List.take x.f.toNat) i2
   rw [List.take_take, List.take_take, Nat.min_eq_left (by omega)] at this
   exact this
  have h3 : szs (applyE e A r) = szs (A.take x.t.toNat) + szs ((applyE e A r).drop x.t.toNat) := by
   conv => lhs; rw [← List.take_append_drop x.t.toNat (applyE e A r)]
   rw [szs_append, i2]
  have h2 := szs_take_le A (i := x.f.toNat) (j := x.t.toNat) (by omega)
  rw [applyE, szs_append, szs_append, hB, goneE, putsz]
  omega
section
variable {w w' W W' : World} {S : Nat → Prop} {p : Nat} {e : Enc} {lim na : Nat} {O : Nat → Prop} {M : Parts}
structure EdIn (w : World) (s : Sl) (ty : TypeId) (ys : List (Cells.T c103)) (es : List LEd) : Prop where
 row : SlIn w s ty 3 (flat c103 ys)
 len : ys.length = es.length
 each : ∀ (i : Nat) y x, ys[i]? = some y → es[i]? = some x → y.1 = x.f ∧ y.2.1 = x.t ∧ (∃ t, SlIn w y.2.2.1 t 1 (iv x.put)) ∧ x.put.length ≤ 2 ^ 44
theorem puts_le (e : Enc) : ∀ (l : List LEd), (∀ x ∈ l, x.put.length ≤ 2 ^ 44) → putsz e l ≤ 70368744177664 * l.length
 | [], _ => by simp [putsz]
 | x :: l, h => by
  have ih := puts_le e l fun y hy => h y (List.mem_cons_of_mem _ hy)
  have h1 := h x List.mem_cons_self
  have h2 : ∀ m : List Int, szs (prs e m) ≤ 4 * m.length := by
   intro m
   induction m with
   | nil => exact Nat.le_refl _
   | cons a m ih =>
    show Cdc.szs ((a, sz e a) :: prs e m) ≤ _
    rw [szs_cons, List.length_cons]
    have := sz_le e a
    show sz e a + _ ≤ _
    omega
  have := h2 x.put
  rw [putsz, List.length_cons]; omega
abbrev edO (f t : Int) (s : Sl) : Obj := .cells #[.int .i64 f, .int .i64 t, .slice s.a s.len s.cap] 103 (0, 0)
set_option maxHeartbeats 1000000 in
theorem refuseG_call {s : Sl} {ty : TypeId} {ys : List (Cells.T c103)} {es : List LEd} (h : Txt w p e lim na O M) (hE : EdIn w s ty ys es) {K : Int → World → Prop} (hK : ∀ w', Ext w w' → K (refuseP e lim (aOf e M) es) w') :
  callT Tryz.prog 63 #[.pointer (some (at0 p)), .slice s.a s.len s.cap] (.one (.one (.int .i64))) K w := by
 refine F63_calls ?_
 unfold F63
 have few := h.few; have lims := h.lims; have hsz := h.sz
 have hyl : ys.length = s.len := SlIn.lenR (cs := c103) hE.row (by decide)
 have hel := hE.len
 obtain ⟨A, hA⟩ : ∃ A, A = aOf e M := ⟨_, rfl⟩
 rw [← hA] at few hsz
 have small : ∀ x ∈ es, x.put.length ≤ 2 ^ 44 := fun x hx => by
  obtain ⟨i, hi⟩ := List.getElem?_of_mem hx
  obtain ⟨y, hy⟩ : ∃ y, ys[i]? = some y := ⟨_, List.getElem?_eq_getElem (by have := (List.getElem?_eq_some_iff.1 hi).1; omega)⟩
  exact (hE.each i y x hy hi).2.2.2
 unfold refuseP at hK
 rw [← hA] at hK
 refine sif_r (fun hc => ?_) (fun hc => ?_)
 ·simp only [decide_eq_true_eq, gt_iff_lt] at hc
  have := hK w (Ext.refl w)
  rw [if_pos (by omega)] at this
  exact this
 simp only [decide_eq_false_iff_not, gt_iff_lt] at hc
 rw [if_neg (by omega)] at hK
 have few2 : es.length ≤ 70000 := by omega
 have rdE : ∀ {V : World} {K : Addr → Cells.T c103 → World → Prop} {i : Nat} {y : Cells.T c103}, Ext w V → ys[i]? = some y → (∀ q, K q y V) → ix s.a s.len (i : Int) (fun q => lds c103 (q.add (scaled (Int.toNat (i : Int)) 3)) (K q)) V := fun x hy hk => ix_lds (cs := c103) (xs := ys) (hE.row.ext x) (by decide) (by omega) (by rw [Int.toNat_natCast]; exact hy) hk
 have get : ∀ i, i < es.length → ∃ y x, ys[i]? = some y ∧ es[i]? = some x := fun i hi => ⟨_, _, List.getElem?_eq_getElem (by omega), List.getElem?_eq_getElem hi⟩
 have ewi : ∀ i : Nat, i < es.length → IntKind.wrap .i64 ((i : Int) + 1) = ((i + 1 : Nat) : Int) := fun i hi => by rw [wrap64 (by omega) (by omega)]; omega
 refine len_call h fun w1 e1 => ?_
 have hlA : ((aOf e M).length : Int) = (A.length : Int) := by rw [hA]
 rw [hlA]
 refine join_r (fun _ W => rngs A.length 0 es = true ∧ Ext w W) ?_ ?_
 ·refine sloop_r (fun x W => ∃ i : Nat, x.2 = ((i : Int), ()) ∧ i ≤ es.length ∧ rngs A.length 0 es = rngs A.length x.1 (es.drop i) ∧ Ext w W) (fun x _ => ((es.length : Int) - x.2.1).toNat) ⟨0, rfl, Nat.zero_le _, rfl, e1⟩ ?_
  rintro ⟨a, _⟩ W ⟨i, rfl, hi, hr, eW⟩
  dsimp only at hr ⊢
  refine sif_r (fun hc => ?_) (fun hc => ?_)
  ·simp only [decide_eq_true_eq] at hc
   obtain ⟨y, x, hy, hx⟩ := get i (by omega)
   obtain ⟨y1, y2, _⟩ := hE.each i y x hy hx
   rw [ewi i (by omega)]
   have hd : es.drop i = x :: es.drop (i + 1) := by
    have hl := (List.getElem?_eq_some_iff.1 hx).1
    rw [List.drop_eq_getElem_cons hl]
    rw [List.getElem?_eq_getElem hl] at hx
    cases hx; rfl
   rw [hd, rngs] at hr
   refine rdE eW hy fun q => (St.start W).newO fun b8 w2 S2 e2 => S2.aggSt 0 rfl rfl rfl rfl fun w3 S3 u3 => ?_
   have S3 : St (fun _ => False) W w3 [(b8, edO y.1 y.2.1 y.2.2.1)] := S3
   rw [y1, y2] at S3
   refine join_r (fun z W' => z = (!decide (a ≤ x.f ∧ x.f ≤ x.t ∧ x.t ≤ (A.length : Int)), ()) ∧ w3 = W') ?_ ?_
   ·refine S3.ld 0 rfl (x := x.f) rfl (sif_r (fun g1 => ⟨tupb ?_, rfl⟩) (fun g1 => S3.ld 0 rfl (x := x.t) rfl (S3.ld 0 rfl (x := x.f) rfl (sif_r (fun g2 => ⟨tupb ?_, rfl⟩) (fun g2 => S3.ld 0 rfl (x := x.t) rfl ⟨tupb ?_, rfl⟩)))))
    all_goals simp only [Bool.not_eq_true', decide_eq_true_eq, decide_eq_false_iff_not, true_iff, gt_iff_lt] at *
    all_goals omega
   rintro _ _ ⟨rfl, rfl⟩
   have x3 := eW.trans S3.upd
   refine sif_r (fun hb => ?_) (fun hb => ?_)
   ·have hb : decide (a ≤ x.f ∧ x.f ≤ x.t ∧ x.t ≤ (A.length : Int)) = false := by
     cases hd : decide (a ≤ x.f ∧ x.f ≤ x.t ∧ x.t ≤ (A.length : Int)) with
     | false => rfl
     | true => rw [hd] at hb; exact absurd hb (by decide)
    rw [hb, Bool.false_and] at hr
    have := hK w3 x3
    rw [if_pos hr] at this
    exact this
   ·have hb : decide (a ≤ x.f ∧ x.f ≤ x.t ∧ x.t ≤ (A.length : Int)) = true := by simpa using hb
    rw [hb, Bool.true_and] at hr
    exact S3.ld 0 rfl (x := x.t) rfl ⟨⟨i + 1, rfl, by omega, hr, x3⟩, by omega⟩
  ·simp only [decide_eq_false_iff_not] at hc
   refine ⟨?_, eW⟩
   rw [hr, List.drop_eq_nil_of_le (by omega)]; rfl
 rintro _ w2 ⟨hr, e2⟩
 rw [if_neg (by rw [hr]; decide)] at hK
 refine sizeB_call (h.ext e2) fun w3 e3 => ?_
 have x3 := e2.trans e3
 have hsA : (szs (aOf e M) : Int) = (szs A : Int) := by rw [hA]
 rw [hsA]
 have tk1 : ∀ {i : Nat} {x : LEd}, es[i]? = some x → es.take (i + 1) = es.take i ++ [x] := fun hx => by rw [List.take_add_one, hx]; rfl
 have pl : ∀ i, i ≤ es.length → putsz e (es.take i) ≤ 70368744177664 * i := fun i hi => by
  have := puts_le e (es.take i) fun x hx => small x (List.mem_of_mem_take hx)
  rw [List.length_take, Nat.min_eq_left hi] at this; exact this
 refine join_r (fun x W => x = (((szs A + putsz e es : Nat) : Int), ()) ∧ fitsB e es = true ∧ Ext w W) ?_ ?_
 ·refine sloop_r (fun x W => ∃ i : Nat, x = (((szs A + putsz e (es.take i) : Nat) : Int), (i : Int), ()) ∧ i ≤ es.length ∧ fitsB e (es.take i) = true ∧ Ext w W) (fun x _ => ((es.length : Int) - x.2.1).toNat) ⟨0, rfl, Nat.zero_le _, rfl, x3⟩ ?_
  rintro _ W ⟨i, rfl, hi, hf, eW⟩
  dsimp only
  refine sif_r (fun hc => ?_) (fun hc => ?_)
  ·simp only [decide_eq_true_eq] at hc
   obtain ⟨y, x, hy, hx⟩ := get i (by omega)
   obtain ⟨_, _, ⟨tp, hput⟩, hpl⟩ := hE.each i y x hy hx
   have hpl2 : x.put.length = y.2.2.1.len := by have := hput.len1; rwa [List.length_map] at this
   have p1 := pl i hi
   rw [ewi i (by omega)]
   have hst : putsz e (es.take (i + 1)) = putsz e (es.take i) + szs (prs e x.put) := by rw [tk1 hx, putsz_app]; simp [putsz]
   have hsm : ∀ j, szs (prs e (x.put.take j)) ≤ 70368744177664 := fun j => by
    have h1 := szs_prs_le e x.put j
    have h2 := puts_le e [x] fun z hz => by rw [List.mem_singleton.1 hz]; exact hpl
    simp [putsz] at h2
    omega
   refine join_r (fun z W' => z = (((szs A + putsz e (es.take (i + 1)) : Nat) : Int), ()) ∧ fitsB e (es.take (i + 1)) = true ∧ Ext w W') ?_ (fun z W' hz => ⟨⟨i + 1, by rw [hz.1], by omega, hz.2.1, hz.2.2⟩, by omega⟩)
   refine rdE eW hy fun q => (St.start W).newO fun b8 w4 S4 e4 => S4.aggSt 0 rfl rfl rfl rfl fun w5 S5 u5 => S5.ld 0 rfl (x := y.2.2.1) rfl ?_
   refine sloop_r (fun z V => ∃ j : Nat, z = (((szs A + putsz e (es.take i) + szs (prs e (x.put.take j)) : Nat) : Int), (j : Int), ()) ∧ j ≤ x.put.length ∧ (x.put.take j).all (fun a => sz e a != 0) = true ∧ Ext w V) (fun z _ => ((x.put.length : Int) - z.2.1).toNat) ⟨0, by simp [prs, szs_nil], Nat.zero_le _, rfl, eW.trans S5.upd⟩ ?_
   rintro _ V ⟨j, rfl, hj, hall, eV⟩
   dsimp only
   refine sif_r (fun hc => ?_) (fun hc => ?_)
   ·simp only [decide_eq_true_eq] at hc
    obtain ⟨v, hv⟩ : ∃ v, x.put[j]? = some v := ⟨_, List.getElem?_eq_getElem (by omega)⟩
    have ewj : IntKind.wrap .i64 ((j : Int) + 1) = ((j + 1 : Nat) : Int) := by rw [wrap64 (by omega) (by omega)]; omega
    have hstep := szs_prs_take e x.put hv
    have h4 := hsm j
    have h5 := sz_le e v
    refine ix_ld (c := .int .i64) (xs := x.put) (hput.ext eV) (by omega) (x := v) (by rw [Int.toNat_natCast]; exact hv) fun q2 => (h.ext eV).enc (size_call fun w6 e6 => ?_)
    refine sif_r (fun hc => ?_) (fun hc => ?_)
    ·simp only [beq_iff_eq] at hc
     have hno : fitsB e es = false := by
      unfold fitsB
      rw [Bool.eq_false_iff]
      intro hall
      have h1 := List.all_eq_true.1 hall x (List.mem_of_getElem? hx)
      have h2 := List.all_eq_true.1 h1 v (List.mem_of_getElem? hv)
      simp at h2; omega
     have := hK w6 (eV.trans e6)
     rw [if_pos hno] at this
     exact this
    ·simp only [beq_eq_false_iff_ne, ne_eq] at hc
     have ewb : IntKind.wrap .i64 (((szs A + putsz e (es.take i) + szs (prs e (x.put.take j)) : Nat) : Int) + ((sz e v : Nat) : Int)) = ((szs A + putsz e (es.take i) + szs (prs e (x.put.take (j + 1))) : Nat) : Int) := by rw [wrap64 (by omega) (by omega)]; omega
     rw [ewj, ewb]
     refine ⟨⟨j + 1, rfl, by omega, ?_, eV.trans e6⟩, by omega⟩
     rw [List.take_add_one, hv, List.all_append, hall]
     simp; omega
   ·simp only [decide_eq_false_iff_not] at hc
    have hjl : j = x.put.length := by omega
    subst hjl
    rw [List.take_length] at hall
    refine ⟨?_, ?_, eV⟩
    ·rw [List.take_length, hst]; congr 2; omega
    ·rw [tk1 hx, fitsB_app, hf, Bool.true_and]
     unfold fitsB
     simp only [List.all_cons, List.all_nil, Bool.and_true]
     exact hall
  ·simp only [decide_eq_false_iff_not] at hc
   have : es.take i = es := List.take_of_length_le (by omega)
   rw [this] at hf ⊢
   exact ⟨rfl, hf, eW⟩
 rintro _ w4 ⟨rfl, hf, e4⟩
 rw [if_neg (by rw [hf]; decide)] at hK
 have pa := pl es.length (Nat.le_refl _)
 rw [List.take_length] at pa
 have gl := gone_le (A := A) (es := es) (a := 0) (Int.le_refl _) hr
 have g_take : ∀ i, goneE A (es.take i) ≤ goneE A es := fun i => by
  conv => rhs; rw [← List.take_append_drop i es]
  rw [goneE_app]; omega
 refine join_r (fun x W => x = (((szs A + putsz e es - goneE A es : Nat) : Int), ()) ∧ Ext w W) ?_ ?_
 ·refine sloop_r (fun x W => ∃ i : Nat, x = (((szs A + putsz e es - goneE A (es.take i) : Nat) : Int), (i : Int), ()) ∧ i ≤ es.length ∧ Ext w W) (fun x _ => ((es.length : Int) - x.2.1).toNat) ⟨0, rfl, Nat.zero_le _, e4⟩ ?_
  rintro _ W ⟨i, rfl, hi, eW⟩
  dsimp only
  refine sif_r (fun hc => ?_) (fun hc => ?_)
  ·simp only [decide_eq_true_eq] at hc
   obtain ⟨y, x, hy, hx⟩ := get i (by omega)
   obtain ⟨y1, y2, _⟩ := hE.each i y x hy hx
   obtain ⟨_, r2, r3, r4, _⟩ := rngs_get hr hx
   obtain ⟨f, hf'⟩ : ∃ f : Nat, x.f = (f : Int) := ⟨x.f.toNat, by omega⟩
   obtain ⟨t, ht'⟩ : ∃ t : Nat, x.t = (t : Int) := ⟨x.t.toNat, by omega⟩
   have hst : goneE A (es.take (i + 1)) = goneE A (es.take i) + (szs (A.take t) - szs (A.take f)) := by
    rw [tk1 hx, goneE_app]
    simp only [goneE, hf', ht', Int.toNat_natCast]; omega
   have gt := g_take (i + 1)
   have gt0 := g_take i
   have sft := szs_take_le A (i := f) (j := t) (by omega)
   have sta := szs_all_le A t
   rw [ewi i (by omega)]
   refine join_r (fun z W' => z = (((szs A + putsz e es - goneE A (es.take (i + 1)) : Nat) : Int), ()) ∧ Ext w W') ?_ (fun z W' hz => ⟨⟨i + 1, by rw [hz.1], by omega, hz.2⟩, by omega⟩)
   refine rdE eW hy fun q => (St.start W).newO fun b8 w5 S5 e5 => S5.aggSt 0 rfl rfl rfl rfl fun w6 S6 u6 => ?_
   have S6 : St (fun _ => False) W w6 [(b8, edO y.1 y.2.1 y.2.2.1)] := S6
   rw [y1, y2, hf', ht'] at S6
   refine S6.ld 0 rfl (x := (t : Int)) rfl (S6.ld 0 rfl (x := (f : Int)) rfl ?_)
   refine sif_r (fun hc => ?_) (fun hc => ?_)
   ·refine S6.drew fun w7 S7 e7 _ => S7.ld 0 rfl (x := (t : Int)) rfl (S7.ld 0 rfl (x := (f : Int)) rfl ?_)
    refine ahead_call (h.ext (eW.trans S7.upd)) (by rw [← hA]; omega) fun w8 e8 => ?_
    have S8 := S7.ext e8
    refine S8.keep 0 rfl (v := .int .i64 (f : Int)) rfl (ahead_call (h.ext (eW.trans S8.upd)) (by rw [← hA]; omega) fun w9 e9 => ?_)
    rw [← hA]
    have q1 : (smT (msr (A.take t))).2.1 = ((szs (A.take t) : Nat) : Int) := by show (((msr _).bytes : Nat) : Int) = _; rw [msr_bytes (by rw [hA]; exact (aOf_posd e M).take t)]
    have q2 : (smT (msr (A.take f))).2.1 = ((szs (A.take f) : Nat) : Int) := by show (((msr _).bytes : Nat) : Int) = _; rw [msr_bytes (by rw [hA]; exact (aOf_posd e M).take f)]
    rw [q1, q2]
    refine ⟨?_, eW.trans (S8.ext e9).upd⟩
    rw [wrap64 (a := ((szs (A.take t) : Nat) : Int) - ((szs (A.take f) : Nat) : Int)) (by omega) (by omega), wrap64 (by omega) (by omega)]
    congr 1; omega
   ·simp only [decide_eq_false_iff_not, gt_iff_lt] at hc
    have : f = t := by omega
    subst this
    refine ⟨?_, eW.trans S6.upd⟩
    congr 2; omega
  ·simp only [decide_eq_false_iff_not] at hc
   have : es.take i = es := List.take_of_length_le (by omega)
   rw [this]
   exact ⟨rfl, eW⟩
 rintro _ w5 ⟨rfl, e5⟩
 simp only [nn_eqT, addr_add]
 refine ld_of (x := (lim : Int)) (h.ext e5).lim_ (sif_r (fun hc => ?_) (fun hc => ?_))
 ·simp only [decide_eq_true_eq, gt_iff_lt] at hc
  have := hK w5 e5
  rw [if_pos (by omega)] at this
  exact this
 ·simp only [decide_eq_false_iff_not, gt_iff_lt] at hc
  have := hK w5 e5
  rw [if_neg (by omega)] at this
  exact this
set_option maxHeartbeats 1000000 in
theorem changeG_call {s : Sl} {ty : TypeId} {ys : List (Cells.T c103)} {es : List LEd} (h : Txt w p e lim na O M) (hE : EdIn w s ty ys es) (hs1 : szs (aOf e M) ≤ lim) (hsep : ∀ k, s.blk k → ¬ O k) (hsp : ∀ (i : Nat) y, ys[i]? = some y → ∀ k, y.2.2.1.blk k → ¬ O k) (hna : na + 200000 < 2 ^ 40) {K : Int → World → Prop}
  (hno : ∀ c w', c ≠ 0 → refuseP e lim (aOf e M) es = c → Ext w w' → K c w')
  (hyes : refuseP e lim (aOf e M) es = 0 → ∀ O' M' w', Txt w' p e lim (na + putsz e es) O' M' → aOf e M' = applyE e (aOf e M) es → szs (aOf e M') ≤ lim → Upd (Wr w O) w w' → (∀ k, O k → O' k) → (∀ k, O' k → O k ∨ w.heap.size ≤ k) → K 0 w') :
  callT Tryz.prog 34 #[.pointer (some (at0 p)), .slice s.a s.len s.cap] (.one (.one (.int .i64))) K w := by
 refine F34_calls ?_
 unfold F34
 have lims := h.lims; have hsz := h.sz
 have hyl : ys.length = s.len := SlIn.lenR (cs := c103) hE.row (by decide)
 have hel := hE.len
 refine refuseG_call h hE fun w1 e1 => ?_
 refine sif_r (fun hc => hno _ w1 (by simpa using hc) rfl e1) (fun hc => ?_)
 have h0 : refuseP e lim (aOf e M) es = 0 := by simpa using hc
 have yes := hyes h0
 obtain ⟨A, hA⟩ : ∃ A, A = aOf e M := ⟨_, rfl⟩
 rw [← hA] at h0 yes hs1
 unfold refuseP at h0
 split at h0
 ·cases h0
 rename_i few2
 split at h0
 ·cases h0
 rename_i hr
 split at h0
 ·cases h0
 rename_i hf
 split at h0
 ·cases h0
 rename_i hroom
 have hr : rngs A.length 0 es = true := by simpa using hr
 have hf : fitsB e es = true := by simpa using hf
 have gl := gone_le (A := A) (es := es) (a := 0) (Int.le_refl _) hr
 have fin := apply_szs (e := e) (A := A) (es := es) (a := 0) (Int.le_refl _) (by omega) hr
 have pd : ∀ m, putsz e (es.drop m) ≤ putsz e es := fun m => by
  conv => rhs; rw [← List.take_append_drop m es]
  rw [putsz_app]; omega
 have ew0 : IntKind.wrap .i64 ((s.len : Int) - 1) = (es.length : Int) - 1 := by rw [wrap64 (by omega) (by omega)]; omega
 rw [ew0]
 have hlow := h.own
 refine join_r (fun _ W => ∃ O' M', Txt W p e lim (na + putsz e es) O' M' ∧ aOf e M' = applyE e A es ∧ Upd (Wr w O) w W ∧ (∀ k, O k → O' k) ∧ (∀ k, O' k → O k ∨ w.heap.size ≤ k)) ?_ (fun _ W ⟨O', M', g1, g2, g3, g4, g5⟩ => yes O' M' W g1 g2 (by rw [g2]; omega) g3 g4 g5)
 refine sloop_r (fun x W => ∃ j : Nat, x = ((j : Int) - 1, ()) ∧ j ≤ es.length ∧ ∃ O' M', Txt W p e lim (na + putsz e (es.drop j)) O' M' ∧ aOf e M' = applyE e A (es.drop j) ∧ Upd (Wr w O) w W ∧ (∀ k, O k → O' k) ∧ (∀ k, O' k → O k ∨ w.heap.size ≤ k)) (fun x _ => (x.1 + 1).toNat) ⟨es.length, rfl, Nat.le_refl _, O, M, by rw [List.drop_length]; exact h.ext e1, by rw [List.drop_length, applyE, hA], Upd.of_ext e1, fun k hk => hk, fun k hk => .inl hk⟩ ?_
 rintro _ W ⟨j, rfl, hj, O', M', tx, ha, u, o1, o2⟩
 dsimp only
 refine sif_r (fun hc => ?_) (fun hc => ?_)
 ·simp only [decide_eq_true_eq, ge_iff_le] at hc
  obtain ⟨m, rfl⟩ : ∃ m, j = m + 1 := ⟨j - 1, by omega⟩
  obtain ⟨x, hx⟩ : ∃ x, es[m]? = some x := ⟨_, List.getElem?_eq_getElem (by omega)⟩
  obtain ⟨y, hy⟩ : ∃ y, ys[m]? = some y := ⟨_, List.getElem?_eq_getElem (by omega)⟩
  obtain ⟨y1, y2, ⟨tp, hput⟩, hpl⟩ := hE.each m y x hy hx
  obtain ⟨_, r2, r3, r4, r5⟩ := rngs_get hr hx
  obtain ⟨f, hf'⟩ : ∃ f : Nat, x.f = (f : Int) := ⟨x.f.toNat, by omega⟩
  obtain ⟨t, ht'⟩ : ∃ t : Nat, x.t = (t : Int) := ⟨x.t.toNat, by omega⟩
  have hpl2 : x.put.length = y.2.2.1.len := by have := hput.len1; rwa [List.length_map] at this
  have hd : es.drop m = x :: es.drop (m + 1) := by
   have hl := (List.getElem?_eq_some_iff.1 hx).1
   rw [List.drop_eq_getElem_cons hl]
   rw [List.getElem?_eq_getElem hl] at hx
   cases hx; rfl
  have rm : rngs A.length x.f (es.drop m) = true := by
   rw [hd, rngs, Bool.and_eq_true, decide_eq_true_eq]
   exact ⟨⟨Int.le_refl _, r3, r4⟩, r5⟩
  have ap := apply_szs (e := e) (A := A) (es := es.drop m) (a := x.f) (by omega) (by omega) rm
  have hd1 := apply_head (e := e) (A := A) (es := es.drop (m + 1)) (a := x.t) (by omega) r4 r5
  have ape : applyE e A (es.drop m) = (applyE e A (es.drop (m + 1))).take f ++ prs e x.put ++ (applyE e A (es.drop (m + 1))).drop t := by
   rw [hd, applyE, hf', ht', Int.toNat_natCast, Int.toNat_natCast]
  have pe : putsz e (es.drop m) = putsz e (es.drop (m + 1)) + szs (prs e x.put) := by rw [hd, putsz]; omega
  have p1 := pd m
  have p2 := pd (m + 1)
  have fit : Fits e x.put := fun a ha => by
   have h1 := List.all_eq_true.1 hf x (List.mem_of_getElem? hx)
   have h2 := List.all_eq_true.1 h1 a ha
   simpa using h2
  have hbl := bts_len fit
  have hput2 : x.put.length ≤ szs (prs e x.put) := by
   have : (prs e x.put).length ≤ szs (prs e x.put) := szs_ge fun z hz => by
    obtain ⟨a, ha, rfl⟩ := List.mem_map.1 hz
    have := fit a ha
    show 1 ≤ sz e a
    omega
   unfold prs at this ⊢
   rwa [List.length_map] at this
  have em : ((m + 1 : Nat) : Int) - 1 = (m : Int) := by omega
  rw [em]
  have ewm : IntKind.wrap .i64 ((m : Int) - 1) = (m : Int) - 1 := by rw [wrap64 (by omega) (by omega)]
  rw [ewm]
  have rowW := hE.row.upd u fun k hk hq => hsep k hk hq.1
  have putW := hput.upd u fun k hk hq => hsp m y hy k hk hq.1
  refine join_r (fun _ W' => ∃ O' M', Txt W' p e lim (na + putsz e (es.drop m)) O' M' ∧ aOf e M' = applyE e A (es.drop m) ∧ Upd (Wr w O) w W' ∧ (∀ k, O k → O' k) ∧ (∀ k, O' k → O k ∨ w.heap.size ≤ k)) ?_ (fun _ W' hW => ⟨⟨m, rfl, by omega, hW⟩, by omega⟩)
  refine ix_lds (cs := c103) (xs := ys) rowW (by decide) (by omega) (x := y) (by rw [Int.toNat_natCast]; exact hy) fun q => (St.start W).newO fun b8 w2 S2 e2 => S2.aggSt 0 rfl rfl rfl rfl fun w3 S3 u3 => ?_
  have S3 : St (fun _ => False) W w3 [(b8, edO y.1 y.2.1 y.2.2.1)] := S3
  rw [y1, y2, hf', ht'] at S3
  refine join_r (fun z W' => z = (decide (f < t ∨ 0 < x.put.length), ()) ∧ w3 = W') ?_ ?_
  ·refine S3.ld 0 rfl (x := (f : Int)) rfl (S3.ld 0 rfl (x := (t : Int)) rfl (sif_r (fun hc => ⟨tupb ?_, rfl⟩) (fun hc => S3.ld 0 rfl (x := y.2.2.1) rfl ⟨tupb ?_, rfl⟩)))
   all_goals simp only [decide_eq_true_eq, decide_eq_false_iff_not, true_iff, gt_iff_lt] at *
   all_goals omega
  rintro _ _ ⟨rfl, rfl⟩
  have x3 := S3.upd
  have u3' := u.trans (Upd.of_ext x3)
  refine sif_r (fun hc => ?_) (fun hc => ?_)
  ·refine S3.ld 0 rfl (x := (f : Int)) rfl (S3.ld 0 rfl (x := (t : Int)) rfl (S3.ld 0 rfl (x := y.2.2.1) rfl ?_))
   refine treplace_call (tx.ext x3) (by omega) (by rw [ha]; omega) (putW.ext x3) (fun k hk hO => ?_) fit (by omega) (by omega) (by rw [ha, ← ape]; omega) fun O2 M2 w4 tx4 ea u4 g1 g2 => ?_
   ·rcases o2 k hO with hh | hh
    ·exact hsp m y hy k hk hh
    ·have := hput.blk_lt hk; omega
   ·refine ⟨O2, M2, ?_, by rw [ea, ha, ape], ?_, fun k hk => g1 k (o1 k hk), fun k hk => ?_⟩
    ·rw [pe, ← hbl, ← Nat.add_assoc]; exact tx4
    ·refine Upd.new u3' u4 fun k hk hq => ⟨(o2 k hq.1).elim id fun hh => by omega, fun c fr hn => ?_⟩
     exact hq.2 c fr (u3'.get hn fun hw => hw.2 c fr hn)
    ·rcases g2 k hk with hh | hh
     ·exact o2 k hh
     ·have := u3'.size; exact .inr (by omega)
  ·simp only [decide_eq_false_iff_not, not_or] at hc
   obtain rfl : f = t := by omega
   have hp0 : x.put = [] := List.length_eq_zero_iff.1 (by omega)
   refine ⟨O', M', ?_, ?_, u3', o1, o2⟩
   ·rw [pe, hp0]; exact tx.ext x3
   ·rw [ha, ape, hp0]; simp [prs]
 ·simp only [decide_eq_false_iff_not, ge_iff_le] at hc
  obtain rfl : j = 0 := by omega
  exact ⟨O', M', tx, ha, u, o1, o2⟩
end
end Go.Proofs.YtolhlldgnfbemaaGreat
