/- What Crash does. Conditions: the disk stands, its numbers are small; the cut's row stays. -/
import Derived.Test.YtdabehgbhndimaaCr
set_option linter.unusedSimpArgs false
set_option linter.unusedVariables false
namespace Go.Proofs.Ytdabehgbhndimaa
open Go Go.Vx Dsk
section
variable {w w' : World} {S F F' : Nat → Prop} {d m ms ml : Nat} {f : Dir} {fb : List Nat} {ds : List Sl} {fs : List Fl} {sa : Sl} {vs : List Value} {D : Dk} {pl : Option Nat} {p : Int → Option Fault} {N : Nat}

/-- one file's box turns; its row stays, or is a part of what it was -/
theorem FilesIn.set (A : FilesIn w fb ds fs) {i b : Nat} {s s' : Sl} {g g' : Fl} (hb : fb[i]? = some b) (hs : ds[i]? = some s) (hg : fs[i]? = some g) (u : Upd (fun k => k = b) w w')
    (hb' : w'.heap[b]? = some (fbox i s' g')) (ho : BytesO w' 0 s' g'.data) (hn : ∀ k, s'.blk k → s.blk k) : FilesIn w' fb (ds.set i s') (fs.set i g') := by
  obtain ⟨hbox, hown⟩ := A.at_ i b s g hb hs hg
  have hil := (List.getElem?_eq_some_iff.1 hs).1
  have hgl := (List.getElem?_eq_some_iff.1 hg).1
  refine ⟨by simp [A.lf], by simp [A.ld], A.nd, fun j k t t' hjk ht ht' x hx hx' => ?_, fun j b' t g2 hb2 ht hg2 => ?_⟩
  · rw [List.getElem?_set] at ht ht'
    by_cases hij : i = j
    · subst hij
      rw [if_pos rfl, if_pos hil] at ht
      cases ht
      rw [if_neg (by omega)] at ht'
      exact A.dd i k s t' hjk hs ht' x (hn x hx) hx'
    · rw [if_neg hij] at ht
      by_cases hik : i = k
      · subst hik
        rw [if_pos rfl, if_pos hil] at ht'
        cases ht'
        exact A.dd j i t s hjk ht hs x hx (hn x hx')
      · rw [if_neg hik] at ht'
        exact A.dd j k t t' hjk ht ht' x hx hx'
  · rw [List.getElem?_set] at ht hg2
    by_cases hij : i = j
    · subst hij
      rw [if_pos rfl, if_pos hil] at ht
      rw [if_pos rfl, if_pos hgl] at hg2
      cases ht; cases hg2
      rw [hb] at hb2; cases hb2
      exact ⟨hb', ho⟩
    · rw [if_neg hij] at ht hg2
      obtain ⟨h1, h2⟩ := A.at_ j b' t g2 hb2 ht hg2
      have hne : b' ≠ b := fun e => by
        subst e
        obtain ⟨x1, x2⟩ := List.getElem?_eq_some_iff.1 hb
        obtain ⟨y1, y2⟩ := List.getElem?_eq_some_iff.1 hb2
        exact hij ((List.getElem_inj A.nd).1 (x2.trans y2.symm))
      refine ⟨u.get h1 hne, h2.upd u fun k _ hk e => ?_⟩
      obtain ⟨c, fr, hc⟩ := h2.in.blk_cells hk
      rw [e, hbox] at hc; cases hc

theorem map_any (l : List Value) : l.map (Cell.any).val = l := by
  have : (Cell.any).val = (id : Value → Value) := rfl
  rw [this, List.map_id]

/-- the cut's row is not touched -/
def Lie (P : Nat → Prop) (s : Sl) : Prop := s.len = 0 ∨ ∀ k, s.blk k → P k
def CutIn (w : World) (F : Nat → Prop) (s : Sl) (bytes : List Int) : Prop := SlX w s 1 (iv bytes) ∧ (Lie (fun k => ¬ F k) s ∨ Ints w s bytes)
theorem SlX.zero {s : Sl} {sz : Nat} {us : List Value} (h : SlX w s sz us) (h0 : s.len = 0) : SlX w' s sz us := ⟨.inl ⟨h0, by have := h.len; rw [h0, Nat.zero_mul] at this; exact List.length_eq_zero_iff.1 this⟩⟩
theorem SlX.updO {s : Sl} {sz : Nat} {us : List Value} (h : SlX w s sz us) (u : Upd S w w') (hS : ∀ k, s.blk k → ¬ S k) : SlX w' s sz us := ⟨h.at_.imp id fun ⟨t, h⟩ => ⟨t, h.upd u hS⟩⟩
theorem SlX.updL {P : Nat → Prop} {s : Sl} {sz : Nat} {us : List Value} (h : SlX w s sz us) (hl : Lie P s) (u : Upd S w w') (hS : ∀ k, P k → ¬ S k) : SlX w' s sz us :=
  hl.elim (fun h0 => SlX.zero h h0) fun hl => SlX.updO h u fun k hk => hS k (hl k hk)
theorem CutIn.upd {s : Sl} {bytes : List Int} (h : CutIn w F s bytes) (u : Upd S w w') (h1 : ∀ k, S k → k < w.heap.size → F k) (h2 : NoTy w S 3) (hl : ∀ k, F k → k < w.heap.size) : CutIn w' F s bytes := by
  obtain ⟨hx, (h | h) | h⟩ := h
  · exact ⟨SlX.zero hx h, .inl (.inl h)⟩
  · refine ⟨⟨hx.at_.imp id fun ⟨t, g⟩ => ⟨t, g.upd u fun k hk hS => h k hk (h1 k hS (g.blk_lt hk))⟩⟩, .inl (.inr h)⟩
  · have := h.ty u h2
    exact ⟨this.x, .inr this⟩

theorem crash_call (A : DiskAt w d F D ms ml sa pl vs fb ds) (ok : DkOk D N) (hN : N ≤ 2 ^ 60) {c : Int × Sl × Unit} {bytes : List Int} (hc : CutIn w F c.2.1 bytes) {K : Unit → World → Prop}
    (hK : ∀ F' w', DiskIn w' d F' (crash D c.1 bytes) → Upd F w w' → (∀ k, F' k → F k ∨ w.heap.size ≤ k) → K () w') :
    callT Try.prog 22 #[.pointer (some (at0 d)), .agg (Cells.vals c37 c).toArray] (.tup []) K w := by
  obtain ⟨nm, sc, ⟨⟩⟩ := c
  refine F22_calls (a1 := (nm, sc, ())) ?_
  unfold F22
  dsimp only at hc hK ⊢
  refine newO_r fun b1 w1 e1 n1 hb1 _ => nn_some ?_
  have A1 := A.ext e1
  have hc1 : CutIn w1 F sc bytes := hc.upd e1 (fun _ h => h.elim) (fun _ h => h.elim) A.lt
  rw [addr_add]
  refine ld_r A1.box (x := D.down) rfl (sif_r (fun hd => ?_) (fun hd => ?_))
  · have e : crash D nm bytes = D := by unfold crash; rw [if_pos hd]
    rw [e] at hK
    exact hK F w1 A1.in (Upd.of_ext e1) fun k hk => .inl hk
  -- what was done to the directory lasts in part
  obtain ⟨k0, hk0⟩ : ∃ k0, k0 = min (max nm 0).toNat D.acts.length := ⟨_, rfl⟩
  have hgood := ok.good k0
  have hcr : crash D nm bytes = { D with lasts := onAll (D.acts.take k0) D.lasts, acts := [], files := cutAll (onAll (D.acts.take k0) D.lasts) bytes (names (onAll (D.acts.take k0) D.lasts)) 0 D.files, down := true } := by
    unfold crash; rw [if_neg (by rw [hd]; simp), hk0]
  rw [hcr] at hK
  have hal := A1.acts.row.len1
  have hlen := A1.acts.len
  have hacts := ok.acts
  have hml := A1.lasts.map_at
  obtain ⟨lo, lc, hmlo⟩ := hml
  refine join_r (fun _ w' => DirIn w' ml fb (onAll (D.acts.take k0) D.lasts) ∧ Upd (fun k => k = ml) w1 w') ?_ ?_
  · refine drew_r fun w2 e2 _ => nn_some ?_
    have A2 := A1.ext e2
    rw [addr_add]
    refine ld_r A2.box (x := sa) rfl (ld_r (e2.ext_get n1) (x := nm) rfl (nn_some ?_))
    rw [addr_add]
    refine ld_r A2.box (x := sa) rfl ?_
    have ei : (if (sa.len : Int) < (if (0 : Int) > nm then (0 : Int) else nm) then (sa.len : Int) else (if (0 : Int) > nm then (0 : Int) else nm)) = (k0 : Int) := by
      have : sa.len = D.acts.length := by omega
      split <;> split at * <;> omega
    rw [ei]
    have hle := A2.acts.row.le
    have hk : k0 ≤ sa.len := by omega
    refine slc_r A2.acts.row.in (by omega) (by omega) (by omega) (by omega) (by omega) fun s3 i3 hs3 _ hb3 => ?_
    have e3 : (vs.drop ((0 : Int).toNat * 1)).take (((k0 : Int).toNat - (0 : Int).toNat) * 1) = vs.take k0 := by simp
    rw [e3] at i3
    have hs3' : s3.len = k0 := by rw [hs3]; omega
    refine sloop_r (fun s' w' => ∃ j : Nat, j ≤ k0 ∧ s' = ((j : Int), ()) ∧ DirIn w' ml fb (onAll (D.acts.take j) D.lasts) ∧ Upd (fun k => k = ml) w2 w') (fun s' _ => (k0 - s'.1).toNat) ⟨0, by omega, rfl, A2.lasts, Upd.refl _ _⟩ ?_
    rintro _ w4 ⟨j, hj, rfl, h4, u4⟩
    dsimp only
    have ej : IntKind.wrap .i64 ((j : Int) + 1) = ((j + 1 : Nat) : Int) := by rw [IntWalk.i64_in _ ⟨by omega, by omega⟩]; omega
    simp only [ej]
    have hmap2 := e2.ext_get hmlo
    have no : ∀ t : TypeId, NoTy w2 (fun k => k = ml) t := fun t => NoTy.map hmap2
    refine sif_r (fun hd => ?_) (fun hd => ?_)
    · have hd : j < k0 := by have := of_decide_eq_true hd; omega
      obtain ⟨v, hv⟩ : ∃ v, vs[j]? = some v := ⟨_, List.getElem?_eq_getElem (by omega)⟩
      obtain ⟨a, ha⟩ : ∃ a, D.acts[j]? = some a := ⟨_, List.getElem?_eq_getElem (by omega)⟩
      have i4 : SlIn w4 s3 107 1 ((vs.take k0).map (Cell.any).val) := by rw [map_any]; exact i3.ty u4 (no _)
      refine ix_ld (c := .any) (xs := vs.take k0) (x := v) i4 (by omega) (by rw [Int.toNat_natCast, List.getElem?_take, if_pos hd]; exact hv) fun _ => nn_some ?_
      rw [addr_add]
      have b4 := u4.get A2.box fun e => by
        have hb := A2.box
        rw [show d = ml from e, hmap2] at hb; cases hb
      have ha4 := (A2.acts.at_ j v a hv ha).ty u4 (no _) (no _) (no _) fun _ h => h
      refine ld_r b4 (x := some ml) rfl (deed_run ha4 h4 fun w5 h5 u5 => ⟨⟨j + 1, hd, rfl, ?_, u4.trans u5⟩, by omega⟩)
      have et : D.acts.take (j + 1) = D.acts.take j ++ [a] := by rw [List.take_add_one, ha]; rfl
      rw [et, onAll_append]
      exact h5
    · have hd : j = k0 := by have := of_decide_eq_false hd; omega
      subst hd
      exact ⟨h4, (Upd.of_ext e2).trans u4⟩
  rintro _ w2 ⟨hl2, u2⟩
  generalize onAll (D.acts.take k0) D.lasts = l at hl2 hgood hK
  -- from here on the files are cut
  have no2 : ∀ t : TypeId, NoTy w1 (fun k => k = ml) t := fun t => NoTy.map hmlo
  have hs1 := e1.size
  have b2 := u2.get A1.box fun e => by
    have hb := A1.box
    rw [show d = ml from e, hmlo] at hb; cases hb
  have n2 : w2.heap[b1]? = some (.cells #[.int .i64 nm, sv sc] 37 (0, 0)) := u2.get n1 fun e => by
    rw [show b1 = ml from e, hmlo] at n1; cases n1
  have f2 := A1.files.ty u2 (no2 _) (no2 _)
  have p2 := A1.plan.upd u2 (fun m hm e => A.nel (by rw [hm]; exact congrArg some e)) (no2 _) fun _ h => h
  have c2 : CutIn w2 F sc bytes := hc1.upd u2 (fun k hk _ => by rw [hk]; exact A.fml) (no2 _) A1.lt
  have u02 : Upd F w w2 := (Upd.of_ext e1).trans (u2.mono fun k _ e => by rw [e]; exact A.fml)
  refine join_r (fun _ w' => ∃ ds', FilesIn w' fb ds' (cutAll l bytes (names l) 0 D.files) ∧ (∀ s ∈ ds', ∀ k, s.blk k → F k) ∧ Upd (fun k => k ∈ fb) w2 w') ?_ ?_
  · refine nn_some ?_
    rw [addr_add]
    refine ld_r b2 (x := some ml) rfl (names_call hl2 (fun q hq => by
      obtain ⟨q', h1, h2⟩ := hgood.few
      have := (lists_perm hq h1).length_eq
      omega) fun s3 w3 o3 e3 => ?_)
    obtain ⟨hnl, hnf⟩ := hgood.names
    have hs3 := o3.len1
    rw [List.length_map] at hs3
    have bnd : ∀ (i : Nat) (g : Fl), D.files[i]? = some g → g.synced ≤ g.data.length ∧ g.data.length ≤ 2 ^ 40 := fun i g hg => by
      obtain ⟨h1, h2, _⟩ := ok.fil i g hg
      exact ⟨h2, by omega⟩
    refine sloop_r (fun s' w' => ∃ (j : Nat) (ds' : List Sl) (fs' : List Fl), j ≤ (names l).length ∧ s' = ((j : Int), ()) ∧ FilesIn w' fb ds' fs' ∧ (∀ s ∈ ds', ∀ k, s.blk k → F k) ∧ Upd (fun k => k ∈ fb) w3 w' ∧ cutAll l bytes ((names l).drop j) j fs' = cutAll l bytes (names l) 0 D.files ∧ fs'.length = D.files.length ∧ ∀ (i : Nat) (g : Fl), fs'[i]? = some g → g.synced ≤ g.data.length ∧ g.data.length ≤ 2 ^ 40) (fun s' _ => ((names l).length - s'.1).toNat)
      ⟨0, ds, D.files, by omega, rfl, f2.upd e3 (fun _ _ => id) (fun _ _ _ _ => id), A.fds, Upd.refl _ _, rfl, rfl, bnd⟩ ?_
    rintro _ w4 ⟨j, ds4, fs4, hj, rfl, f4, hds4, u4, hcut, hfl, bnd4⟩
    dsimp only
    have ej : IntKind.wrap .i64 ((j : Int) + 1) = ((j + 1 : Nat) : Int) := by rw [IntWalk.i64_in _ ⟨by omega, by omega⟩]; omega
    simp only [ej]
    have f3 := f2.upd e3 (fun _ _ => id) (fun _ _ _ _ => id)
    have no4 : ∀ t : TypeId, t ≠ 93 → NoTy w3 (fun k => k ∈ fb) t := fun t ht k hk c fr hc => by
      obtain ⟨i, s, g, _, _, _, hb, _⟩ := f3.get_fb hk
      rw [hb] at hc; cases hc; exact ht rfl
    have nm4 : ∀ m, (∃ o c, w3.heap[m]? = some (.map o c)) → ¬ (fun k => k ∈ fb) m := fun m ⟨o, c, hm⟩ hk => by
      obtain ⟨i, s, g, _, _, _, hb, _⟩ := f3.get_fb hk
      rw [hm] at hb; cases hb
    refine sif_r (fun hd => ?_) (fun hd => ?_)
    · have hd : j < (names l).length := by have := of_decide_eq_true hd; omega
      obtain ⟨n, hn⟩ : ∃ n, (names l)[j]? = some n := ⟨_, List.getElem?_eq_getElem hd⟩
      refine ix_ld (c := .str) (xs := names l) (x := n) (o3.in.ty u4 (no4 _ (by decide))) (by omega) (by simpa using hn) fun _ => ?_
      have n4 := u4.get (e3.ext_get n2) fun hk => no4 37 (by decide) _ hk _ _ (e3.ext_get n2)
      have c4 := (c2.upd e3 (fun _ h => h.elim) (fun _ h => h.elim) (fun k hk => Nat.lt_of_lt_of_le (A.lt k hk) u02.size)).upd u4 (fun k hk _ => A.ffb k hk) (no4 _ (by decide)) (fun k hk => Nat.lt_of_lt_of_le (A.lt k hk) (u02.trans (Upd.of_ext e3)).size)
      have hcl := c4.1.len1
      rw [List.length_map] at hcl
      refine join_at (bytes.getD j 0, ()) ?_ ?_
      · refine ld_r n4 (x := sc) rfl (sif_r (fun hi => ?_) (fun hi => ⟨?_, rfl⟩))
        · have hi : j < bytes.length := by have := of_decide_eq_true hi; omega
          refine ld_r n4 (x := sc) rfl ?_
          refine ix_ldX (c := .int .i64) (xs := bytes) (x := bytes.getD j 0) c4.1 (by omega) (by rw [Int.toNat_natCast]; simp [hi]) fun _ => ⟨rfl, rfl⟩
        · have hi : ¬ j < bytes.length := by have := of_decide_eq_false hi; omega
          rw [List.getD_eq_getElem?_getD, List.getElem?_eq_none (by omega)]; rfl
      dsimp only
      have b4 := u4.get (e3.ext_get b2) fun hk => no4 91 (by decide) _ hk _ _ (e3.ext_get b2)
      have l4 := (hl2.upd e3 id).upd u4 (nm4 _ (hl2.upd e3 id).map_at)
      refine nn_some ?_
      rw [addr_add]
      refine ld_r b4 (x := some ml) rfl (l4.look n ?_)
      obtain ⟨i, hi⟩ : ∃ i, l n = some i := Option.isSome_iff_exists.1 ((hnl.2 n).1 (List.mem_of_getElem? hn))
      have hil : i < fs4.length := by rw [hfl]; exact hgood.ids n i hi
      rw [hi]
      obtain ⟨b, hb⟩ : ∃ b, fb[i]? = some b := ⟨_, List.getElem?_eq_getElem (by have := f4.lf; omega)⟩
      obtain ⟨s, hs⟩ : ∃ s, ds4[i]? = some s := ⟨_, List.getElem?_eq_getElem (by have := f4.ld; omega)⟩
      obtain ⟨g, hg⟩ : ∃ g, fs4[i]? = some g := ⟨_, List.getElem?_eq_getElem hil⟩
      obtain ⟨hbx, hby⟩ := f4.at_ i b s g hb hs hg
      have hgd : fb.getD i 0 = b := by rw [List.getD_eq_getElem?_getD, hb]; rfl
      simp only [Option.map_some, hgd]
      obtain ⟨g1, g2⟩ := bnd4 i g hg
      refine cut_call hbx hby g1 g2 fun s' w5 hb5 ho5 hbk u5 => ⟨⟨j + 1, ds4.set i s', fs4.set i (g.cut (bytes.getD j 0)), hd, rfl, f4.set hb hs hg u5 hb5 ho5 hbk, fun t ht k hk => ?_, u4.trans (u5.mono fun k _ e => by rw [e]; exact List.mem_of_getElem? hb), ?_, by rw [List.length_set]; exact hfl, fun i' g' hg' => ?_⟩, by omega⟩
      · rcases List.mem_or_eq_of_mem_set ht with h | h
        · exact hds4 t h k hk
        · subst h; exact hds4 s (List.mem_of_getElem? hs) k (hbk k hk)
      · rw [← hcut]
        have ed : (names l).drop j = n :: (names l).drop (j + 1) := by
          obtain ⟨hj', hn'⟩ := List.getElem?_eq_some_iff.1 hn
          rw [List.drop_eq_getElem_cons hj', hn']
        rw [ed]
        simp only [cutAll, hi, Option.getD_some]
        rw [put1_eq hg]
      · rw [List.getElem?_set] at hg'
        by_cases hii : i = i'
        · subst hii
          rw [if_pos rfl, if_pos hil] at hg'
          cases hg'
          simp only [Fl.cut, List.length_take]
          omega
        · rw [if_neg hii] at hg'
          exact bnd4 i' g' hg'
    · have hd : j = (names l).length := by have := of_decide_eq_false hd; omega
      subst hd
      rw [List.drop_length] at hcut
      have hcut : fs4 = cutAll l bytes (names l) 0 D.files := hcut
      rw [← hcut]
      exact ⟨ds4, f4, hds4, (Upd.of_ext e3).trans u4⟩
  rintro _ w3 ⟨ds3, f3, hds3, u3⟩
  have no3 : ∀ t : TypeId, t ≠ 93 → NoTy w2 (fun k => k ∈ fb) t := fun t ht k hk c fr hc => by
    obtain ⟨i, s, g, _, _, _, hb, _⟩ := f2.get_fb hk
    rw [hb] at hc; cases hc; exact ht rfl
  have nm3 : ∀ m, (∃ o c, w2.heap[m]? = some (.map o c)) → ¬ (fun k => k ∈ fb) m := fun m ⟨o, c, hm⟩ hk => by
    obtain ⟨i, s, g, _, _, _, hb, _⟩ := f2.get_fb hk
    rw [hm] at hb; cases hb
  have b3 := u3.get b2 fun hk => no3 91 (by decide) _ hk _ _ b2
  have l3 := hl2.upd u3 (nm3 _ hl2.map_at)
  have p3 := p2.upd u3 (fun m hm => nm3 m (by subst hm; exact p2.map_at)) (no3 _ (by decide)) fun _ h => h
  have u03 : Upd F w w3 := u02.trans (u3.mono fun k _ hk => A.ffb k hk)
  refine nn_some ?_
  rw [addr_add]
  refine ld_r b3 (x := some ml) rfl (mclone_call l3 fun m' w4 h4 e4 hm' => nn_some ?_)
  rw [addr_add]
  refine stC_r (e4.ext_get b3) (by simp) fun w5 u5 n5 _ => nn_some ?_
  rw [addr_add]
  refine stC_r n5 (by simp) fun w6 u6 n6 _ => nn_some ?_
  rw [addr_add]
  refine stC_r n6 (by simp) fun w7 u7 n7 _ => ?_
  have u47 : Upd (fun k => k = d) w3 w7 := (((Upd.of_ext e4).trans u5).trans u6).trans u7
  have no : ∀ t : TypeId, 91 ≠ t → NoTy w3 (fun k => k = d) t := fun t ht => NoTy.box b3 ht
  have nm : ∀ m, (∃ o c, w3.heap[m]? = some (.map o c)) → ¬ (fun k => k = d) m := by
    rintro m ⟨o, c, hm⟩ rfl
    rw [b3] at hm; cases hm
  have hs3 := u03.size
  have hml : ∀ k, F k → k ≠ m' := fun k hk e => by have := A.lt k hk; omega
  have hne : ¬ (fun k => k = d) m' := fun e => hml _ A.fd e.symm
  have u07 : Upd F w w7 := u03.trans (u47.mono fun k _ e => by rw [e]; exact A.fd)
  refine hK (fun k => F k ∨ k = m') w7 ⟨m', ml, ⟨none, 0, 0⟩, pl, [], fb, ds3, ?_, ?_, ?_, f3.ty u47 (no _ (by decide)) (no _ (by decide)), ⟨SlOwn.nil _ _ _ _, rfl, fun i v a hv ha => by simp at hv⟩, p3.upd u47 (fun m hm => nm m (by subst hm; exact p3.map_at)) (no _ (by decide)) fun _ h => .inl h, fun e => hml _ A.fml e.symm, fun e => ?_, A.nel, .inl A.fd, .inr rfl, .inl A.fml, fun b hb => .inl (A.ffb b hb), fun t ht k hk => .inl (hds3 t ht k hk), fun k hk => (by obtain ⟨q, hq, _⟩ := hk; cases hq), fun k hk => ?_⟩ u07 (fun k hk => hk.imp id fun e => by omega)
  · rw [n7]
    have : (cutAll l bytes (names l) 0 D.files).length = D.files.length := by rw [← f3.lf, A.files.lf]
    simp [dbox, this]
  · show DirIn w7 m' fb l
    exact ((h4.upd u5 hne).upd u6 hne).upd u7 hne
  · exact l3.upd u47 (nm _ l3.map_at)
  · rcases A.plan with ⟨h, _⟩ | ⟨m, es, g1, g2, _⟩
    · rw [h] at e; cases e
    · rw [g1] at e; cases e; exact hml _ g2 rfl
  · rcases hk with hk | rfl
    · exact Nat.lt_of_lt_of_le (A.lt k hk) u07.size
    · obtain ⟨o, c, hm⟩ := h4.map_at
      exact Nat.lt_of_lt_of_le (lt_of_heap hm) ((u5.trans u6).trans u7).size
end
end Go.Proofs.Ytdabehgbhndimaa
