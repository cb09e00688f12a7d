/- What fresh, settle, sync, cut, room and act do to the disk. Conditions: the disk stands, its numbers are small. -/
import Derived.Test.YtdabehgbhndimaaMut
set_option linter.unusedSimpArgs false
set_option linter.unusedVariables false
namespace Go.Proofs.Ytdabehgbhndimaa
open Go Go.Vx Dsk
section
variable {w w' : World} {S F F' : Nat → Prop} {d m ms ml : Nat} {f : Dir} {fb : List Nat} {ds : List Sl} {fs : List Fl} {sa : Sl} {vs : List Value} {D : Dk} {pl : Option Nat} {p : Int → Option Fault} {N : Nat}

theorem DiskAt.more (A : DiskAt w d F D ms ml sa pl vs fb ds) (hF : ∀ k, F k → F' k) (hl : ∀ k, F' k → k < w.heap.size) : DiskAt w d F' D ms ml sa pl vs fb ds :=
  ⟨A.box, A.seen, A.lasts, A.files, A.acts.ty (Ext.refl w) (fun _ h => h.elim) (fun _ h => h.elim) (fun _ h => h.elim) (fun _ h => h.elim) hF, A.plan.upd (Ext.refl w) (fun _ _ => id) (fun _ h => h.elim) hF,
    A.ne, A.nes, A.nel, hF _ A.fd, hF _ A.fms, hF _ A.fml, fun b hb => hF _ (A.ffb b hb), fun s hs k hk => hF _ (A.fds s hs k hk), fun k hk => hF _ (A.fsa k hk), hl⟩
theorem put1_eq {l : List Fl} {i : Nat} {g : Fl} (h : l[i]? = some g) (f : Fl → Fl) : put1 l i f = l.set i (f g) := by
  obtain ⟨hi, hg⟩ := List.getElem?_eq_some_iff.1 h
  unfold put1
  apply List.ext_getElem?
  intro j
  rw [List.getElem?_modify, List.getElem?_set]
  by_cases hij : i = j
  · subst hij; simp [hi, hg]
  · simp [hij]

/-- one file turns -/
theorem DiskAt.file_set (A : DiskAt w d F D ms ml sa pl vs fb ds) {i b : Nat} {s s' : Sl} {g g' : Fl} (hb : fb[i]? = some b) (hs : ds[i]? = some s) (hg : D.files[i]? = some g) (u : Upd S w w') (hS : ∀ k, S k → k < w.heap.size → k = b ∨ s.blk k)
    (hb' : w'.heap[b]? = some (fbox i s' g')) (ho : BytesO w' 0 s' g'.data) (hn : ∀ k, s'.blk k → s.blk k ∨ w.heap.size ≤ k) :
    DiskAt w' d (fun k => F k ∨ s'.blk k) { D with files := D.files.set i g' } ms ml sa pl vs fb (ds.set i s') := by
  obtain ⟨hbox, hown⟩ := A.files.at_ i b s g hb hs hg
  have cel : ∀ k, S k → k < w.heap.size → ∃ c t fr, w.heap[k]? = some (.cells c t fr) ∧ (t = 93 ∨ t = 5) := fun k hk hl => by
    rcases hS k hk hl with rfl | h
    · exact ⟨_, _, _, hbox, .inl rfl⟩
    · obtain ⟨c, fr, hc⟩ := hown.in.blk_cells h
      exact ⟨c, _, fr, hc, .inr rfl⟩
  have no : ∀ t : TypeId, t ≠ 93 → t ≠ 5 → NoTy w S t := fun t h1 h2 k hk c fr hc => by
    obtain ⟨c', t', fr', hc', h⟩ := cel k hk (lt_of_heap hc)
    rw [hc] at hc'; cases hc'
    exact h.elim h1 h2
  have nm : ∀ m, (∃ o c, w.heap[m]? = some (.map o c)) → ¬ S m := fun m ⟨o, c, hm⟩ hk => by
    obtain ⟨c', t', fr', hc', h⟩ := cel m hk (lt_of_heap hm)
    rw [hm] at hc'; cases hc'
  have hil := (List.getElem?_eq_some_iff.1 hs).1
  have hgl := (List.getElem?_eq_some_iff.1 hg).1
  have nbyte : ∀ {j : Nat} {t : Sl} {k : Nat}, ds[j]? = some t → t.blk k → k ≠ b := fun {j t k} ht hk e => by
    obtain ⟨_, _, _, _, _, hw⟩ := A.files.get_ds ht
    obtain ⟨c, fr, hc⟩ := hw.in.blk_cells hk
    rw [e, hbox] at hc; cases hc
  refine ⟨?_, A.seen.upd u (nm _ A.seen.map_at), A.lasts.upd u (nm _ A.lasts.map_at), ⟨by simp [A.files.lf], by simp [A.files.ld], A.files.nd, fun j k t t' hjk ht ht' x hx hx' => ?_, fun j b' t g2 hb2 ht hg2 => ?_⟩, A.acts.ty u (no _ (by decide) (by decide)) (no _ (by decide) (by decide)) (no _ (by decide) (by decide)) (no _ (by decide) (by decide)) fun _ h => .inl h,
    A.plan.upd u (fun m hm => nm m (by subst hm; exact A.plan.map_at)) (no _ (by decide) (by decide)) fun _ h => .inl h, A.ne, A.nes, A.nel, .inl A.fd, .inl A.fms, .inl A.fml, fun b hb => .inl (A.ffb b hb), fun t ht k hk => ?_, fun k hk => .inl (A.fsa k hk), fun k hk => ?_⟩
  · have h1 := u.get A.box fun hk => no 91 (by decide) (by decide) d hk _ _ A.box
    rw [h1]
    simp only [dbox, List.length_set]
  · -- two rows
    have old : ∀ {j : Nat} {t : Sl}, ds[j]? = some t → t.blk x → x < w.heap.size := fun ht hk => by
      obtain ⟨_, _, _, _, _, hw⟩ := A.files.get_ds ht
      exact hw.in.blk_lt hk
    rw [List.getElem?_set] at ht ht'
    by_cases hij : i = j
    · subst hij
      rw [if_pos rfl, if_pos hil] at ht
      cases ht
      rw [if_neg (by omega)] at ht'
      rcases hn x hx with h | h
      · exact A.files.dd i k s t' hjk hs ht' x h hx'
      · have := old ht' hx'; omega
    · rw [if_neg hij] at ht
      by_cases hik : i = k
      · subst hik
        rw [if_pos rfl, if_pos hil] at ht'
        cases ht'
        rcases hn x hx' with h | h
        · exact A.files.dd j i t s hjk ht hs x hx h
        · have := old ht hx; omega
      · rw [if_neg hik] at ht'
        exact A.files.dd j k t t' hjk ht ht' x hx hx'
  · rw [List.getElem?_set] at ht hg2
    by_cases hij : i = j
    · subst hij
      rw [if_pos rfl, if_pos hil] at ht
      rw [if_pos rfl, if_pos hgl] at hg2
      cases ht; cases hg2
      rw [hb] at hb2; cases hb2
      exact ⟨hb', ho⟩
    · rw [if_neg hij] at ht hg2
      obtain ⟨h1, h2⟩ := A.files.at_ j b' t g2 hb2 ht hg2
      have hne : b' ≠ b := fun e => by
        subst e
        obtain ⟨x1, x2⟩ := List.getElem?_eq_some_iff.1 hb
        obtain ⟨y1, y2⟩ := List.getElem?_eq_some_iff.1 hb2
        exact hij ((List.getElem_inj A.files.nd).1 (x2.trans y2.symm))
      refine ⟨u.get h1 fun hk => ?_, h2.upd u fun k _ hk hSk => ?_⟩
      · rcases hS _ hk (lt_of_heap h1) with h | h
        · exact hne h
        · obtain ⟨c, fr, hc⟩ := hown.in.blk_cells h
          rw [h1] at hc; cases hc
      · rcases hS _ hSk (h2.in.blk_lt hk) with h | h
        · exact nbyte ht hk h
        · rcases Nat.lt_or_gt_of_ne hij with hlt | hlt
          · exact A.files.dd i j s t hlt hs ht k h hk
          · exact A.files.dd j i t s hlt ht hs k hk h
  · rcases List.mem_or_eq_of_mem_set ht with h | h
    · exact .inl (A.fds t h k hk)
    · subst h; exact .inr hk
  · rcases hk with hk | hk
    · exact Nat.lt_of_lt_of_le (A.lt k hk) u.size
    · exact ho.in.blk_lt hk

theorem getD_grow {l : List Nat} {i b : Nat} (h : i < l.length) : (l ++ [b]).getD i 0 = l.getD i 0 := by
  rw [List.getD_eq_getElem?_getD, List.getD_eq_getElem?_getD, List.getElem?_append_left h]
theorem DirIn.grow (h : DirIn w m fb f) (b : Nat) : DirIn w m (fb ++ [b]) f := by
  obtain ⟨⟨es, h1, h2⟩, h3⟩ := h
  refine ⟨⟨es, h1, fun k => ?_⟩, fun k i hi => by have := h3 k i hi; simp; omega⟩
  rw [h2]
  cases hk : f k with
  | none => rfl
  | some i => simp only [Option.map_some, getD_grow (h3 k i hk)]
theorem ActIn.grow {v : Value} {a : Deed} (h : ActIn w F fb v a) (b : Nat) : ActIn w F (fb ++ [b]) v a := by
  cases a with
  | rm n => exact h
  | mk n i => obtain ⟨b1, b2, h1, h2, h3, h4, h5, h6⟩ := h; exact ⟨b1, b2, h1, by rw [getD_grow h6]; exact h2, h3, h4, h5, by simp; omega⟩
  | mv x y i => obtain ⟨b1, b2, h1, h2, h3, h4, h5, h6⟩ := h; exact ⟨b1, b2, h1, by rw [getD_grow h6]; exact h2, h3, h4, h5, by simp; omega⟩

theorem fresh_call (A : DiskAt w d F D ms ml sa pl vs fb ds) (hN : D.files.length ≤ 2 ^ 60) {K : Option Addr → World → Prop}
    (hK : ∀ b w', DiskAt w' d (fun k => F k ∨ k = b) { D with files := D.files ++ [⟨[], 0, 0⟩] } ms ml sa pl vs (fb ++ [b]) (ds ++ [⟨none, 0, 0⟩]) → Upd (fun k => k = d) w w' → w.heap.size ≤ b → K (some (at0 b)) w') :
    callT Try.prog 35 #[.pointer (some (at0 d))] (.one (.one .ptr)) K w := by
  refine F35_calls ?_
  unfold F35
  have el : IntKind.wrap .i64 ((D.files.length : Int) + 1) = ((D.files.length + 1 : Nat) : Int) := by rw [IntWalk.i64_in _ ⟨by omega, by omega⟩]; omega
  refine nn_some ?_
  rw [addr_add, Nat.zero_add]
  refine ld_r A.box (x := (D.files.length : Int)) rfl (nn_some ?_)
  rw [addr_add, el, Nat.zero_add]
  refine stC_r A.box (by simp) fun w1 u1 n1 _ => nn_some ?_
  rw [addr_add, Nat.zero_add]
  refine ld_r n1 (x := ((D.files.length + 1 : Nat) : Int)) rfl ?_
  refine newO_r fun b w2 e2 n2 hb _ => ?_
  have hlf := A.files.lf
  have hld := A.files.ld
  have no : ∀ t : TypeId, 91 ≠ t → NoTy w (fun k => k = d) t := fun t ht => NoTy.box A.box ht
  have nm : ∀ m, (∃ o c, w.heap[m]? = some (.map o c)) → ¬ (fun k => k = d) m := by
    rintro m ⟨o, c, hm⟩ rfl
    rw [A.box] at hm; cases hm
  have u2 : Upd (fun k => k = d) w w2 := u1.trans (Upd.of_ext e2)
  have hfo := A.files.ty u2 (no _ (by decide)) (no _ (by decide))
  have hs1 := u1.size
  have n1' : w1.heap[d]? = some (dbox { D with files := D.files ++ [⟨[], 0, 0⟩] } ms ml sa pl) := by rw [n1]; simp [dbox]
  refine hK b w2 ⟨e2.ext_get n1', (A.seen.grow b).upd u2 (nm _ A.seen.map_at), (A.lasts.grow b).upd u2 (nm _ A.lasts.map_at), ⟨by simp [hlf], by simp [hld], ?_, fun j k t t' hjk ht ht' x hx hx' => ?_, fun j b' t g hb' ht hg => ?_⟩,
    ⟨(A.acts.row.ty u2 (no _ (by decide))), A.acts.len, fun i v a hv ha => ((A.acts.at_ i v a hv ha).grow b).ty u2 (no _ (by decide)) (no _ (by decide)) (no _ (by decide)) fun _ h => .inl h⟩,
    A.plan.upd u2 (fun m hm => nm m (by subst hm; exact A.plan.map_at)) (no _ (by decide)) fun _ h => .inl h, A.ne, A.nes, A.nel, .inl A.fd, .inl A.fms, .inl A.fml, fun x hx => ?_, fun t ht k hk => ?_, fun k hk => .inl (A.fsa k hk), fun k hk => ?_⟩ u2 (by omega)
  · rw [List.nodup_append]
    refine ⟨A.files.nd, by simp, fun x hx y hy e => ?_⟩
    simp at hy
    have := A.lt x (A.ffb x hx)
    omega
  · have hne : ∀ {j : Nat} {t : Sl}, (ds ++ [⟨none, 0, 0⟩])[j]? = some t → t.blk x → ds[j]? = some t := fun {j t} ht hk => by
      by_cases hj : j < ds.length
      · rwa [List.getElem?_append_left hj] at ht
      · rw [List.getElem?_append_right (by omega)] at ht
        have := List.mem_of_getElem? ht
        simp at this
        subst this
        obtain ⟨q, hq, _⟩ := hk
        cases hq
    exact A.files.dd j k t t' hjk (hne ht hx) (hne ht' hx') x hx hx'
  · by_cases hj : j < D.files.length
    · rw [List.getElem?_append_left (by omega)] at hb' ht hg
      exact hfo.at_ j b' t g hb' ht hg
    · have hj' : j = D.files.length := by
        have := (List.getElem?_eq_some_iff.1 hg).1
        simp at this; omega
      subst hj'
      have h1 : (fb ++ [b])[D.files.length]? = some b := by rw [← hlf]; simp
      have h2 : (ds ++ [(⟨none, 0, 0⟩ : Sl)])[D.files.length]? = some ⟨none, 0, 0⟩ := by rw [← hld]; simp
      have h3 : (D.files ++ [(⟨[], 0, 0⟩ : Fl)])[D.files.length]? = some ⟨[], 0, 0⟩ := by simp
      rw [h1] at hb'; rw [h2] at ht; rw [h3] at hg
      cases hb'; cases ht; cases hg
      refine ⟨?_, SlOwn.nil _ _ _ _⟩
      rw [n2]; simp [fbox]
  · rcases List.mem_append.1 hx with h | h
    · exact .inl (A.ffb x h)
    · simp at h; exact .inr h
  · rcases List.mem_append.1 ht with h | h
    · exact .inl (A.fds t h k hk)
    · simp at h
      subst h
      obtain ⟨q, hq, _⟩ := hk
      cases hq
  · rcases hk with hk | rfl
    · exact Nat.lt_of_lt_of_le (A.lt k hk) u2.size
    · exact lt_of_heap n2

/-- the disk, but for what is kept and what was done -/
structure Half (w : World) (d : Nat) (F : Nat → Prop) (D : Dk) (g : Dir) (ms ml : Nat) (sa : Sl) (pl : Option Nat) (fb : List Nat) (ds : List Sl) : Prop where
  box : w.heap[d]? = some (dbox D ms ml sa pl)
  seen : DirIn w ms fb g
  files : FilesIn w fb ds D.files
  plan : PlanIn w F pl D.plan
  nes : pl ≠ some ms
  fd : F d
  fms : F ms
  ffb : ∀ b ∈ fb, F b
  fds : ∀ s ∈ ds, ∀ k, s.blk k → F k
  lt : ∀ k, F k → k < w.heap.size
theorem DiskAt.half (A : DiskAt w d F D ms ml sa pl vs fb ds) : Half w d F D D.seen ms ml sa pl fb ds := ⟨A.box, A.seen, A.files, A.plan, A.nes, A.fd, A.fms, A.ffb, A.fds, A.lt⟩
theorem settle_gen {g : Dir} (A : Half w d F D g ms ml sa pl fb ds) {K : Unit → World → Prop} (hK : ∀ m' w', DiskAt w' d (fun k => F k ∨ k = m') { D with lasts := g, acts := [] } ms m' ⟨none, 0, 0⟩ pl [] fb ds → Upd (fun k => k = d) w w' → w.heap.size ≤ m' → K () w') :
    callT Try.prog 36 #[.pointer (some (at0 d))] (.tup []) K w := by
  refine F36_calls ?_
  unfold F36
  refine nn_some ?_
  rw [addr_add]
  refine ld_r A.box (x := some ms) rfl (mclone_call A.seen fun m' w1 h1 e1 hm' => nn_some ?_)
  rw [addr_add]
  refine stC_r (e1.ext_get A.box) (by simp) fun w2 u2 n2 _ => nn_some ?_
  rw [addr_add]
  refine stC_r n2 (by simp) fun w3 u3 n3 _ => ?_
  have u : Upd (fun k => k = d) w w3 := ((Upd.of_ext e1).trans u2).trans u3
  have no : ∀ t : TypeId, 91 ≠ t → NoTy w (fun k => k = d) t := fun t ht => NoTy.box A.box ht
  have nm : ∀ m, (∃ o c, w.heap[m]? = some (.map o c)) → ¬ (fun k => k = d) m := by
    rintro m ⟨o, c, hm⟩ rfl
    rw [A.box] at hm; cases hm
  have hd := lt_of_heap A.box
  have hml : ∀ k, F k → k ≠ m' := fun k hk e => by have := A.lt k hk; omega
  refine hK m' w3 ⟨?_, ?_, ?_, A.files.ty u (no _ (by decide)) (no _ (by decide)), ⟨SlOwn.nil _ _ _ _, rfl, fun i v a hv ha => by simp at hv⟩, A.plan.upd u (fun m hm => nm m (by subst hm; exact A.plan.map_at)) (no _ (by decide)) fun _ h => .inl h, hml _ A.fms, A.nes, fun e => ?_, .inl A.fd, .inl A.fms, .inr rfl, fun b hb => .inl (A.ffb b hb), fun t ht k hk => .inl (A.fds t ht k hk), fun k hk => (by obtain ⟨q, hq, _⟩ := hk; cases hq), fun k hk => ?_⟩ u (by omega)
  · rw [n3]; simp [dbox]
  · exact A.seen.upd u (nm _ A.seen.map_at)
  · show DirIn w3 m' fb g
    have hne : ¬ (fun k => k = d) m' := fun e => hml _ A.fd e.symm
    exact (h1.upd u2 hne).upd u3 hne
  · rcases A.plan with ⟨h, _⟩ | ⟨m, es, g1, g2, _⟩
    · rw [h] at e; cases e
    · rw [g1] at e; cases e; exact hml _ g2 rfl
  · rcases hk with hk | rfl
    · exact Nat.lt_of_lt_of_le (A.lt k hk) u.size
    · obtain ⟨o, c, hm⟩ := h1.map_at
      exact Nat.lt_of_lt_of_le (lt_of_heap hm) (u2.trans u3).size
theorem settle_call (A : DiskAt w d F D ms ml sa pl vs fb ds) {K : Unit → World → Prop} (hK : ∀ m' w', DiskAt w' d (fun k => F k ∨ k = m') (Dsk.settle D) ms m' ⟨none, 0, 0⟩ pl [] fb ds → Upd (fun k => k = d) w w' → w.heap.size ≤ m' → K () w') :
    callT Try.prog 36 #[.pointer (some (at0 d))] (.tup []) K w := settle_gen A.half hK

/- one file -/
theorem fsync_call {b i : Nat} {s : Sl} {g : Fl} (hb : w.heap[b]? = some (fbox i s g)) {K : Unit → World → Prop} (hK : ∀ w', w'.heap[b]? = some (fbox i s ⟨g.data, s.len, g.count⟩) → Upd (fun k => k = b) w w' → w'.heap.size = w.heap.size → K () w') :
    callT Try.prog 38 #[.pointer (some (at0 b))] (.tup []) K w := by
  refine F38_calls ?_
  unfold F38
  refine nn_some ?_
  rw [addr_add]
  refine ld_r hb (x := s) rfl (nn_some ?_)
  rw [addr_add]
  refine stC_r hb (by simp) fun w1 u1 n1 hz => hK w1 ?_ u1 hz
  rw [n1]; simp [fbox]

theorem cut_call {b i : Nat} {s : Sl} {g : Fl} {more : Int} (hb : w.heap[b]? = some (fbox i s g)) (o : BytesO w 0 s g.data) (h1 : g.synced ≤ g.data.length) (h2 : g.data.length ≤ 2 ^ 40) {K : Unit → World → Prop}
    (hK : ∀ s' w', w'.heap[b]? = some (fbox i s' (g.cut more)) → BytesO w' 0 s' (g.cut more).data → (∀ k, s'.blk k → s.blk k) → Upd (fun k => k = b) w w' → K () w') :
    callT Try.prog 56 #[.pointer (some (at0 b)), .int .i64 more] (.tup []) K w := by
  refine F56_calls ?_
  unfold F56
  have hl := o.len1
  rw [List.length_map] at hl
  have hle := o.le
  refine drew_r fun w0 e0 _ => ?_
  have hb := e0.ext_get hb
  have o := o.ext e0
  simp only [nn_some_iff, addr_add, Nat.zero_add]
  refine ld_r hb (x := (g.synced : Int)) rfl (nn_some (ld_r hb (x := s) rfl (nn_some (ld_r hb (x := (g.synced : Int)) rfl (nn_some (ld_r hb (x := s) rfl ?_))))))
  obtain ⟨n, hn⟩ : ∃ n : Nat, n = g.synced + (min (max more 0).toNat (g.data.length - g.synced)) := ⟨_, rfl⟩
  have hnl : n ≤ g.data.length := by omega
  have e1 : IntKind.wrap .i64 ((s.len : Int) - (g.synced : Int)) = ((s.len - g.synced : Nat) : Int) := by rw [IntWalk.i64_in _ ⟨by omega, by omega⟩]; omega
  rw [e1]
  have e2 : (if ((s.len - g.synced : Nat) : Int) < (if (0 : Int) > more then (0 : Int) else more) then ((s.len - g.synced : Nat) : Int) else (if (0 : Int) > more then (0 : Int) else more)) = ((n - g.synced : Nat) : Int) := by
    split <;> split at * <;> omega
  rw [e2]
  have e3 : IntKind.wrap .i64 ((g.synced : Int) + ((n - g.synced : Nat) : Int)) = (n : Int) := by rw [IntWalk.i64_in _ ⟨by omega, by omega⟩]; omega
  rw [e3]
  refine slc_ro o (by omega) (by omega) (by omega) (by omega) (by omega) fun s' o' hs' _ hbk => ?_
  have hcut : g.cut more = ⟨g.data.take n, n, g.count⟩ := by simp only [Fl.cut, hn]
  have ee : ((bv g.data).drop ((0 : Int).toNat * 1)).take (((n : Int).toNat - (0 : Int).toNat) * 1) = bv (g.data.take n) := by simp [bv, List.map_take]
  rw [ee] at o'
  refine nn_some (stC_r hb (by simp) fun w1 u1 n1 _ => ?_)
  have n1' : w1.heap[b]? = some (fbox i s' ⟨g.data.take n, g.synced, g.count⟩) := by rw [n1]; simp [fbox]
  refine fsync_call n1' fun w2 n2 u2 _ => ?_
  have hs'' : s'.len = n := by rw [hs']; omega
  have u12 : Upd (fun k => k = b) w0 w2 := u1.trans u2
  refine hK s' w2 ?_ ?_ hbk ((Upd.of_ext e0).trans u12)
  · rw [n2, hcut, hs'']
  · rw [hcut]
    refine o'.upd u12 fun k _ hk e => ?_
    obtain ⟨c, fr, hc⟩ := o'.in.blk_cells hk
    rw [e, hb] at hc; cases hc
end
end Go.Proofs.Ytdabehgbhndimaa
