/- The laws' picture of a disk. Conditions: the disk stands, no fault is planned, the power is on. -/
import Derived.Test.YtdabehgbhndimaaLw2
set_option linter.unusedSimpArgs false
set_option linter.unusedVariables false
namespace Go.Proofs.Ytdabehgbhndimaa
open Go Go.Vx Dsk
section
variable {w w' : World} {S P P' F : Nat → Prop} {d : Nat} {D : Dk} {N : Nat}

theorem DkOk.at (ok : DkOk D N) (k : Nat) : DkOk { D with steps := D.steps + (k : Int) } (N + k) := by
  have := ok.steps
  exact ⟨ok.space, fun i f hf => let ⟨a, b, c, e⟩ := ok.fil i f hf; ⟨a, b, c, by omega⟩, Nat.le_trans ok.num (Nat.le_add_right _ _), ok.good, ⟨by dsimp only; omega, by dsimp only; omega⟩, Nat.le_trans ok.acts (Nat.le_add_right _ _)⟩
theorem names_seen (ok : DkOk D N) {j : Nat} {n : Nm} (h : (names D.seen)[j]? = some n) : ∃ i, D.seen n = some i ∧ okName n = true ∧ i < D.files.length := by
  have hm := (ok.seen.names.1.2 n).1 (List.mem_of_getElem? h)
  obtain ⟨i, hi⟩ := Option.isSome_iff_exists.1 hm
  exact ⟨i, hi, ok.seen.okn n i hi, ok.seen.ids n i hi⟩

/-- a picture that lies apart -/
structure ShotIn (w : World) (B : Nat) (F : Nat → Prop) (sh : Sl × Sl × Sl × Unit) (ns ts : List Nm) (st : List (Cells.T c68)) : Prop where
  n : SlOwn w B sh.1 9 1 (ns.map Value.string)
  t : SlOwn w B sh.2.1 9 1 (ts.map Value.string)
  s : SlOwn w B sh.2.2.1 68 3 (flat c68 st)
  nt : ∀ k, sh.1.blk k → ¬ sh.2.1.blk k
  fn : ∀ k, sh.1.blk k → ¬ F k
  ft : ∀ k, sh.2.1.blk k → ¬ F k
  fs : ∀ k, sh.2.2.1.blk k → ¬ F k
theorem ShotIn.step {B : Nat} {F' : Nat → Prop} {sh : Sl × Sl × Sl × Unit} {ns ts : List Nm} {st : List (Cells.T c68)} (h : ShotIn w B F sh ns ts st) (u : Upd F w w') (hF : ∀ k, F' k → F k ∨ w.heap.size ≤ k) : ShotIn w' B F' sh ns ts st :=
  ⟨h.n.upd u fun k _ => h.fn k, h.t.upd u fun k _ => h.ft k, h.s.upd u fun k _ => h.fs k, h.nt,
    fun k hk hh => (hF k hh).elim (h.fn k hk) fun hl => by have := h.n.in.blk_lt hk; omega,
    fun k hk hh => (hF k hh).elim (h.ft k hk) fun hl => by have := h.t.in.blk_lt hk; omega,
    fun k hk hh => (hF k hh).elim (h.fs k hk) fun hl => by have := h.s.in.blk_lt hk; omega⟩
theorem str_one (l : List Nm) : ∀ v ∈ l.map Value.string, isOne v = true := by
  intro v hv
  obtain ⟨x, _, rfl⟩ := List.mem_map.1 hv
  rfl

theorem taken_call (A : DiskIn w d F D) (ok : DkOk D N) (hN : N + 40 ≤ 2 ^ 30) (q : Quiet D) {K : ((Sl × Sl × Sl × Unit) × Bool × Unit) → World → Prop}
    (hK : ∀ F' w' sh, DiskIn w' d F' { D with steps := D.steps + 2 * (((names D.seen).length : Nat) : Int) } → Upd F w w' → (∀ k, F' k → F k ∨ w.heap.size ≤ k) → ShotIn w' w.heap.size F' sh (names D.seen) (texts D) (stamps D) → K (sh, true, ()) w') :
    callT Try.prog 28 #[.pointer (some (at0 d))] (.tup [(.agg c65), (.one .bool)]) K w := by
  refine F28_calls ?_
  unfold F28
  have hlt := A.lt
  obtain ⟨_, hnl⟩ := ok.seen.names
  refine newO_r fun b1 w1 e1 n1 hb1 _ => newO_r fun b2 w2 e2 n2 hb2 _ => drew_r fun w3 e3 _ => ld_r (e3.ext_get n2) (x := ⟨none, 0, 0⟩) rfl ?_
  have e03 := (e1.trans e2).trans e3
  have hs1 := e1.size
  have hs2 := e2.size
  refine names_of_call (A.ext e03) ok fun s0 w4 h4 e4 => ?_
  rw [if_neg (by rw [q.up]; simp)] at h4
  have e04 := e03.trans e4
  have g2 := (e3.trans e4).ext_get n2
  have g1 := ((e2.trans e3).trans e4).ext_get n1
  have hs3 := e03.size
  have hs4 := e4.size
  have h4l := h4.len1
  rw [List.length_map] at h4l
  refine keep_r (cell_of g2 rfl) (append_rx ES uS (B := w4.heap.size) (s := ⟨none, 0, 0⟩) (vs := []) (SlOwn.nil _ _ _ _) h4.in.x (str_one _) (by dsimp only; omega) (Nat.le_refl _) fun s1 w5 h5 hl5 u5 hb5 => ?_)
  have e5 : Ext w4 w5 := u5.mono fun k _ h => by obtain ⟨q, hq, _⟩ := h; cases hq
  have hs5 := e5.size
  refine stC_r (e5.ext_get g2) (by simp) fun w6 u6 n6 hz6 => ?_
  have e06 : Ext w w6 := (e04.trans e5).new u6 fun k hk e => by omega
  have g1 : w6.heap[b1]? = some (.cells #[.slice none 0 0, .slice none 0 0, .slice none 0 0] 65 (0, 0)) := u6.get (e5.ext_get g1) (by omega)
  have h6 : SlOwn w6 w.heap.size s1 9 1 ((names D.seen).map Value.string) := (h5.box (e5.ext_get g2) (by decide) u6).mono (by omega)
  refine join_r (fun _ W => ∃ F1 s1 s2 s3, DiskIn W d F1 { D with steps := D.steps + 2 * (((names D.seen).length : Nat) : Int) } ∧ Upd F w W ∧ (∀ k, F1 k → F k ∨ w.heap.size ≤ k) ∧ ShotIn W w.heap.size F1 (s1, s2, s3, ()) (names D.seen) (texts D) (stamps D) ∧ W.heap[b2]? = some (.cells #[sv s1, sv s2, sv s3] 65 (0, 0)) ∧ ¬ F1 b1 ∧ W.heap[b1]? = some (.cells #[.slice none 0 0, .slice none 0 0, .slice none 0 0] 65 (0, 0))) ?_ ?_
  · refine sloop_r (fun s W => ∃ (j : Nat) (F1 : Nat → Prop) (s1 s2 s3 : Sl), s = ((j : Int), ()) ∧ j ≤ (names D.seen).length ∧ DiskIn W d F1 { D with steps := D.steps + ((2 * j : Nat) : Int) } ∧ Upd F w W ∧ (∀ k, F1 k → F k ∨ w.heap.size ≤ k) ∧ ShotIn W w.heap.size F1 (s1, s2, s3, ()) (names D.seen) ((texts D).take j) ((stamps D).take j) ∧ W.heap[b2]? = some (.cells #[sv s1, sv s2, sv s3] 65 (0, 0)) ∧ ¬ F1 b2 ∧ ¬ F1 b1 ∧ W.heap[b1]? = some (.cells #[.slice none 0 0, .slice none 0 0, .slice none 0 0] 65 (0, 0))) (fun s _ => (names D.seen).length - s.1.toNat)
      ⟨0, F, s1, ⟨none, 0, 0⟩, ⟨none, 0, 0⟩, rfl, Nat.zero_le _, by simpa using A.ext e06, Upd.of_ext e06, fun k hk => .inl hk, ⟨h6, SlOwn.nil _ _ _ _, SlOwn.nil _ _ _ _, fun k _ ⟨q, hq, _⟩ => (by cases hq), fun k hk hF => ?_, fun k ⟨q, hq, _⟩ => (by cases hq), fun k ⟨q, hq, _⟩ => (by cases hq)⟩, n6, fun h => ?_, fun h => ?_, g1⟩ ?_
    · have := hlt k hF; have := h6.blk_ge hk; omega
    · have := hlt _ h; omega
    · have := hlt _ h; omega
    rintro _ W ⟨j, F1, s1, s2, s3, rfl, hj, AW, uW, hFW, hsh, g2, f2, f1, g1⟩
    dsimp only
    have hl1 := hsh.n.len1
    rw [List.length_map] at hl1
    dsimp only at hl1
    refine ld_r g2 (off := 0) (x := s1) rfl (sif_r (fun h => ?_) fun h => ?_)
    · have h : j < (names D.seen).length := by have := of_decide_eq_true h; omega
      obtain ⟨n, hn⟩ : ∃ n, (names D.seen)[j]? = some n := ⟨_, List.getElem?_eq_getElem h⟩
      obtain ⟨i, hi, hok, hil⟩ := names_seen ok hn
      have hcell : ((names D.seen).map Value.string)[(j : Int).toNat * 1 + 0]? = some (Value.string n) := by
        rw [Int.toNat_natCast, Nat.mul_one, Nat.add_zero, List.getElem?_map, hn]; rfl
      have q1 : Quiet ({ D with steps := D.steps + ((2 * j : Nat) : Int) } : Dk) := ⟨q.up, q.plan⟩
      have q2 : Quiet ({ D with steps := D.steps + ((2 * j : Nat) : Int) + 1 } : Dk) := ⟨q.up, q.plan⟩
      refine ld_r g2 (off := 0) (x := s1) rfl (hsh.n.in.ix (by omega) (by dsimp only; omega) (by decide) fun b off _ hat => ⟨n, (by simp only [addr_add, scaled, Nat.mul_one]; have h0 := hat 0 _ hcell; rw [Nat.mul_one, Nat.add_zero] at h0; exact h0), ?_⟩)
      refine read_call AW (ok.at (2 * j)) (by omega) fun F2 W2 x14 v14 hv14 hD2 hu2 hF2 h14 f14 => ?_
      rw [read_quiet q1 hok hi] at hv14 hD2 h14
      have sh2 := hsh.step hu2 hF2
      have g2' := hu2.get g2 f2
      have g1' := hu2.get g1 f1
      have hWs := lt_of_heap g2
      have hWs1 := lt_of_heap g1
      have f2' : ¬ F2 b2 := fun h => (hF2 _ h).elim f2 (by omega)
      have f1' : ¬ F2 b1 := fun h => (hF2 _ h).elim f1 (by omega)
      refine ld_r g2' (off := 0) (x := s1) rfl (sh2.n.in.ix (by omega) (by dsimp only; omega) (by decide) fun b off _ hat => ⟨n, (by simp only [addr_add, scaled, Nat.mul_one]; have h0 := hat 0 _ hcell; rw [Nat.mul_one, Nat.add_zero] at h0; exact h0), ?_⟩)
      have ok2 : DkOk { D with steps := D.steps + ((2 * j : Nat) : Int) + 1 } (N + (2 * j + 1)) := by
        have := ok.at (2 * j + 1)
        rwa [show D.steps + ((2 * j + 1 : Nat) : Int) = D.steps + ((2 * j : Nat) : Int) + 1 by omega] at this
      refine stamp_call hD2 ok2 (by omega) fun F3 W3 v18 hv18 hD3 hu3 hF3 => ?_
      rw [stamp_quiet q2 hok hi] at hv18 hD3 ⊢
      dsimp only at hv14 hD2 h14 hv18 hD3 ⊢
      have sh3 := sh2.step hu3 hF3
      have g2'' := hu3.get g2' f2'
      have g1'' := hu3.get g1' f1'
      have hz2 := hu2.size
      have hz3 := hu3.size
      have hzW := uW.size
      have f2'' : ¬ F3 b2 := fun h => (hF3 _ h).elim f2' (by omega)
      have f1'' : ¬ F3 b1 := fun h => (hF3 _ h).elim f1' (by omega)
      have h14' := h14.upd hu3 fun k _ hk => f14 k hk
      have h14l : (fl D i).data.length = x14.len := by
        have := h14.len1
        rwa [List.length_map] at this
      have e14 := hv14.ok rfl
      have e18 := hv18.ok rfl
      subst e14 e18
      have fl_eq : fl ({ D with steps := D.steps + ((2 * j : Nat) : Int) + 1 } : Dk) i = fl D i := rfl
      have fl_eq' : fl ({ D with steps := D.steps + ((2 * j : Nat) : Int) } : Dk) i = fl D i := rfl
      rw [fl_eq] at *
      rw [fl_eq'] at *
      refine (St.start W3).newAgg rfl rfl rfl fun b19 W4 S4 e4' => ?_
      refine join_at (false, ()) (rdB_nnil' (sif_false (rdB_nnil' (sif_false (chk_r (by decide) (S4.ld 0 (off := 1) (x := ((fl D i).data.length : Int)) rfl rfl (sif_r (fun h => absurd h (by simp; omega)) fun _ => chk_r (by decide) (S4.ld 0 (off := 0) (x := (i : Int) + 1) rfl rfl ⟨tupb (by simp; omega), rfl⟩))))) uE)) uE) (sif_false ?_)
      have x4 := e4'.ext_get g2''
      have hz4 := e4'.size
      have sh4 := sh3.step (F' := F3) (Upd.of_ext e4') fun k hk => .inl hk
      have lt3 := hD3.lt
      refine ld_r x4 (off := 1) (x := s2) rfl (bytesStr_r uB ub us (h14'.ext e4').in.x (newO_r fun b30 W5 e5' n5 hb5' hz5 => ?_))
      have sh5 := sh4.step (F' := F3) (Upd.of_ext e5') fun k hk => .inl hk
      have hl2 := sh5.t.len1
      rw [List.length_map, List.length_take] at hl2
      have hl3 := sh5.s.lenR (cs := c68) (by decide)
      rw [List.length_take] at hl3
      dsimp only at hl2 hl3
      have hbox : SlX W5 ⟨some (at0 b30), 1, 1⟩ 1 ([(⟨(fl D i).data.toArray⟩ : Nm)].map Value.string) := (SlIn.of_box (n := 1) (sz := 1) n5 rfl).x
      refine append_rx ES uS (s := s2) (x := ⟨some (at0 b30), 1, 1⟩) sh5.t hbox (str_one _) (by show (s2.len + 1 + (s2.len + 1) / 4 + 512) * 16 ≤ _; omega) (by omega) fun s2' W6 h6' hl6 u6' hb6 => ?_
      have x6 := u6'.get (e5'.ext_get x4) fun h => by
        obtain ⟨c, fr, hc⟩ := sh5.t.in.blk_cells h
        rw [e5'.ext_get x4] at hc; cases hc
      have y6 := u6'.get (e5'.ext_get (e4'.ext_get g1'')) fun h => by
        obtain ⟨c, fr, hc⟩ := sh5.t.in.blk_cells h
        rw [e5'.ext_get (e4'.ext_get g1'')] at hc; cases hc
      have htx : (texts D).take (j + 1) = (texts D).take j ++ [(⟨(fl D i).data.toArray⟩ : Nm)] := by
        rw [List.take_add_one]; unfold texts; rw [List.getElem?_map, hn]; simp [hi]
      have hst : (stamps D).take (j + 1) = (stamps D).take j ++ [((i : Int) + 1, ((fl D i).data.length : Int), (fl D i).count, ())] := by
        rw [List.take_add_one]; unfold stamps; rw [List.getElem?_map, hn]; simp [hi]
      rw [← List.map_append, ← htx] at h6'
      have hz6' := u6'.size
      have n6' : SlOwn W6 w.heap.size s1 9 1 ((names D.seen).map Value.string) := sh5.n.upd u6' fun k _ hk h => sh5.nt k hk h
      have t6' : SlOwn W6 w.heap.size s3 68 3 (flat c68 ((stamps D).take j)) := sh5.s.ty u6' (NoTy.blk sh5.t.in (by decide))
      have nb : ∀ {k : Nat} {c : Array Value} {t : TypeId} {fr : Nat × Nat}, t ≠ 9 → W5.heap[k]? = some (.cells c t fr) → ¬ s2.blk k := fun ht hk h => by
        obtain ⟨c', fr', hc'⟩ := sh5.t.in.blk_cells h
        rw [hk] at hc'; cases hc'; exact ht rfl
      have x19 := e5'.ext_get (S4.at_ 0 rfl)
      have x19 := u6'.get x19 (nb (by decide) x19)
      refine stC_r x6 (by simp) fun W7 u7 n7 hz7 => ?_
      have x19 := u7.get x19 fun e => by rw [e, x6] at x19; cases x19
      refine ld_r n7 (off := 2) (x := s3) rfl (lds_r (cs := c68) (x := ((i : Int) + 1, ((fl D i).data.length : Int), (fl D i).count, ())) (c := (Cells.vals c68 ((i : Int) + 1, ((fl D i).data.length : Int), (fl D i).count, ())).toArray) x19 (fun i v hv => by rw [Nat.zero_add, List.getElem?_toArray]; exact hv) (newO_r fun b34 W8 e8 n8 hb8 hz8 => ?_))
      have hbox8 : SlX W8 ⟨some (at0 b34), 1, 1⟩ 3 (Cells.vals c68 ((i : Int) + 1, ((fl D i).data.length : Int), (fl D i).count, ())) := (SlIn.of_box (n := 1) (sz := 3) n8 rfl).x
      have t7 : SlOwn W8 w.heap.size s3 68 3 (flat c68 ((stamps D).take j)) := (t6'.box x6 (by decide) u7).ext e8
      refine append_rx ET uT (s := s3) (x := ⟨some (at0 b34), 1, 1⟩) t7 hbox8 (fun v hv => by simp [Cells.vals, Cell.val] at hv; rcases hv with rfl | rfl | rfl <;> rfl) (by show (s3.len + 1 + (s3.len + 1) / 4 + 512) * 24 ≤ _; omega) (by omega) fun s3' W9 h9 hl9 u9 hb9 => ?_
      have nb3 : ∀ {k : Nat} {c : Array Value} {t : TypeId} {fr : Nat × Nat}, t ≠ 68 → W8.heap[k]? = some (.cells c t fr) → ¬ s3.blk k := fun ht hk h => by
        obtain ⟨c', fr', hc'⟩ := t7.in.blk_cells h
        rw [hk] at hc'; cases hc'; exact ht rfl
      have g2_9 := u9.get (e8.ext_get n7) (nb3 (by decide) (e8.ext_get n7))
      have g1_7 := u7.get y6 (by omega)
      have g1_9 := u9.get (e8.ext_get g1_7) (nb3 (by decide) (e8.ext_get g1_7))
      refine stC_r g2_9 (by simp) fun W10 u10 n10 hz10 => ?_
      have hz7' := u7.size
      have hz9 := u9.size
      have hz5x := e5'.size
      have hz8x := e8.size
      have uAll : Upd (fun k => s2.blk k ∨ s3.blk k ∨ k = b2) W3 W10 :=
        ((((((Upd.of_ext e4').trans (Upd.of_ext e5')).trans (u6'.mono fun k _ h => .inl h)).trans (u7.mono fun k _ h => .inr (.inr h))).trans (Upd.of_ext e8)).trans (u9.mono fun k _ h => .inr (.inl h))).trans (u10.mono fun k _ h => .inr (.inr h))
      have hFall : ∀ k, F3 k → F k ∨ w.heap.size ≤ k := fun k hk => (hF3 k hk).elim (fun h => (hF2 k h).elim (hFW k) fun h => .inr (by omega)) fun h => .inr (by omega)
      have ew : IntKind.wrap .i64 ((j : Int) + 1) = ((j + 1 : Nat) : Int) := by rw [IntWalk.i64_in _ ⟨by omega, by omega⟩]; omega
      rw [ew]
      refine ⟨⟨j + 1, F3, s1, s2', s3', rfl, h, ?_, ?_, hFall, ⟨?_, ?_, ?_, fun k hk hk2 => ?_, fun k hk => sh3.fn k hk, fun k hk hF => ?_, fun k hk hF => ?_⟩, n10, f2'', f1'', u10.get g1_9 (by omega)⟩, by simp only [Int.toNat_natCast]; omega⟩
      · rw [show D.steps + ((2 * (j + 1) : Nat) : Int) = D.steps + ((2 * j : Nat) : Int) + 1 + 1 by omega]
        refine hD3.frame uAll fun k hk h => ?_
        rcases h with h | h | h
        · exact sh3.ft k h hk
        · exact sh3.fs k h hk
        · exact f2'' (h ▸ hk)
      · refine ((uW.new hu2 fun k hk h => (hFW k h).resolve_right (by omega)).new hu3 fun k hk h => ?_).new uAll fun k hk h => ?_
        · exact (hF2 k h).elim (fun h => (hFW k h).resolve_right (by omega)) fun h => by omega
        · rcases h with h | h | h
          · have := sh3.t.blk_ge h; omega
          · have := sh3.s.blk_ge h; omega
          · omega
      · exact (((n6'.box x6 (by decide) u7).ext e8).ty u9 (NoTy.blk t7.in (by decide))).box g2_9 (by decide) u10
      · exact (((h6'.box x6 (by decide) u7).ext e8).ty u9 (NoTy.blk t7.in (by decide))).box g2_9 (by decide) u10
      · rw [hst, flat_append, flat_one]
        exact h9.box g2_9 (by decide) u10
      · have := hsh.n.in.blk_lt hk
        rcases hb6 k hk2 with h | h
        · exact hsh.nt k hk h
        · omega
      · rcases hb6 k hk with h | h
        · exact sh3.ft k h hF
        · have := lt3 k hF; omega
      · rcases hb9 k hk with h | h
        · exact sh3.fs k h hF
        · have := lt3 k hF; omega
    · have h : ¬ j < (names D.seen).length := by have := of_decide_eq_false h; omega
      have hjl : j = (names D.seen).length := by omega
      rw [List.take_of_length_le (by rw [hjl]; simp [texts]), List.take_of_length_le (by rw [hjl]; simp [stamps])] at hsh
      exact ⟨F1, s1, s2, s3, by rw [hjl] at AW; simpa using AW, uW, hFW, hsh, g2, f1, g1⟩
  · rintro _ W ⟨F1, s1, s2, s3, AW, uW, hFW, hsh, g2, f1, g1⟩
    refine lds_r (x := (s1, s2, s3, ())) (c := (Cells.vals c65 (s1, s2, s3, ())).toArray) g2 (fun i v hv => ?_) ?_
    · rw [Nat.zero_add, List.getElem?_toArray]; exact hv
    refine aggSt_r g1 rfl rfl (by simp) fun w8 u8 n8 hz8 => lds_r (x := (s1, s2, s3, ())) (c := (Cells.vals c65 (s1, s2, s3, ())).toArray) n8 (fun i v hv => ?_) (hK F1 w8 _ (AW.frame u8 fun k hk e => f1 (e ▸ hk)) (uW.new u8 fun k hk e => by omega) hFW ⟨hsh.n.box g1 (by decide) u8, hsh.t.box g1 (by decide) u8, hsh.s.box g1 (by decide) u8, hsh.nt, hsh.fn, hsh.ft, hsh.fs⟩)
    rw [Nat.zero_add, List.getElem?_toArray]; exact hv
end
end Go.Proofs.Ytdabehgbhndimaa
