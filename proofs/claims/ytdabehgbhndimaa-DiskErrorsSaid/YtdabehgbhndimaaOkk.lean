/- The disk's numbers stay small: plainly. Conditions: none. -/
import Derived.Test.YtdabehgbhndimaaBx
set_option linter.unusedSimpArgs false
set_option linter.unusedVariables false
namespace Go.Proofs.Ytdabehgbhndimaa
open Go Go.Vx Dsk
section
variable {D : Dk} {N n : Nat} {f : Dir}

theorem lists_del {l : List Nm} (h : Lists f l) (a : Nm) : Lists (dset f a none) (l.filter fun x => decide (x ≠ a)) := by
  refine ⟨h.1.sublist List.filter_sublist, fun x => ?_⟩
  rw [List.mem_filter, h.2 x]
  unfold dset
  by_cases e : x = a
  · simp [e]
  · simp [e]
theorem lists_new {l : List Nm} (h : Lists f l) {a : Nm} {i : Nat} (ha : f a = none) : Lists (dset f a (some i)) (a :: l) := by
  refine ⟨List.nodup_cons.2 ⟨fun hm => ?_, h.1⟩, fun x => ?_⟩
  · have := (h.2 a).1 hm; rw [ha] at this; cases this
  · unfold dset
    by_cases e : x = a
    · simp [e]
    · rw [List.mem_cons, if_neg e]; simp [e, h.2 x]
theorem lists_old {l : List Nm} (h : Lists f l) {a : Nm} {i : Nat} (ha : (f a).isSome = true) : Lists (dset f a (some i)) l := by
  refine ⟨h.1, fun x => ?_⟩
  unfold dset
  by_cases e : x = a
  · subst e; simp [h.2, ha]
  · rw [if_neg e]; exact h.2 x
theorem filter_lt {l : List Nm} {a : Nm} (ha : a ∈ l) : (l.filter fun x => decide (x ≠ a)).length + 1 ≤ l.length := by
  have h1 := List.length_filter_lt_length_iff_exists (l := l) (p := fun x => decide (x ≠ a))
  have := h1.2 ⟨a, ha, by simp⟩
  omega
theorem Good.del (h : Good n f) (a : Nm) : Good n (dset f a none) := by
  refine ⟨fun k i hi => ?_, ?_, fun x y i hx hy => ?_, fun k i hi => ?_⟩
  · unfold dset at hi; split at hi
    · cases hi
    · exact h.ids k i hi
  · obtain ⟨l, h1, h2⟩ := h.few
    exact ⟨_, lists_del h1 a, Nat.le_trans (List.length_filter_le _ _) h2⟩
  · unfold dset at hx hy; split at hx
    · cases hx
    · split at hy
      · cases hy
      · exact h.inj x y i hx hy
  · unfold dset at hi; split at hi
    · cases hi
    · exact h.okn k i hi
theorem Good.new (h : Good n f) {a : Nm} (ha : f a = none) (hn : okName a = true) (hf : (Dsk.names f).length < 16) : Good (n + 1) (dset f a (some n)) := by
  refine ⟨fun k i hi => ?_, ?_, fun x y i hx hy => ?_, fun k i hi => ?_⟩
  · unfold dset at hi; split at hi
    · cases hi; omega
    · have := h.ids k i hi; omega
  · obtain ⟨l, h1, h2⟩ := h.few
    rw [names_len h1] at hf
    exact ⟨_, lists_new h1 ha, by simp; omega⟩
  · unfold dset at hx hy
    by_cases e1 : x = a <;> by_cases e2 : y = a
    · rw [e1, e2]
    · rw [if_pos e1] at hx; rw [if_neg e2] at hy; cases hx; have := h.ids y n hy; omega
    · rw [if_neg e1] at hx; rw [if_pos e2] at hy; cases hy; have := h.ids x n hx; omega
    · rw [if_neg e1] at hx; rw [if_neg e2] at hy; exact h.inj x y i hx hy
  · unfold dset at hi; split at hi
    · rename_i e; rw [e]; exact hn
    · exact h.okn k i hi
theorem Good.mv (h : Good n f) {a b : Nm} {i : Nat} (ha : f a = some i) (hn : okName b = true) : Good n (dset (dset f a none) b (some i)) := by
  have hd := h.del a
  refine ⟨fun k j hj => ?_, ?_, fun x y j hx hy => ?_, fun k j hj => ?_⟩
  · unfold dset at hj; split at hj
    · cases hj; exact h.ids a i ha
    · exact hd.ids k j hj
  · obtain ⟨l, h1, h2⟩ := h.few
    have hl := lists_del h1 a
    have hm : a ∈ l := (h1.2 a).2 (by rw [ha]; rfl)
    have hlt := filter_lt hm
    cases hb : dset f a none b with
    | none => exact ⟨_, lists_new hl hb, by simp only [List.length_cons]; omega⟩
    | some j => exact ⟨_, lists_old hl (by rw [hb]; rfl), by omega⟩
  · have other : ∀ z, dset f a none z ≠ some i := fun z hz => by
      unfold dset at hz; split at hz
      · cases hz
      · rename_i hza; exact hza (h.inj z a i hz ha)
    unfold dset at hx hy
    by_cases e1 : x = b <;> by_cases e2 : y = b
    · rw [e1, e2]
    · rw [if_pos e1] at hx; rw [if_neg e2] at hy; cases hx; exact absurd hy (other y)
    · rw [if_neg e1] at hx; rw [if_pos e2] at hy; cases hy; exact absurd hx (other x)
    · rw [if_neg e1] at hx; rw [if_neg e2] at hy; exact hd.inj x y j hx hy
  · unfold dset at hj; split at hj
    · rename_i e; rw [e]; exact hn
    · exact hd.okn k j hj

/-- one deed more -/
theorem good_push {as_ : List Deed} {a : Deed} {m : Nat} (hm : n ≤ m) (h : ∀ k, Good n (onAll (as_.take k) f)) (ha : Good m (a.on (onAll as_ f))) : ∀ k, Good m (onAll ((as_ ++ [a]).take k) f) := by
  intro k
  by_cases hk : k ≤ as_.length
  · rw [List.take_append_of_le_length hk]; exact (h k).mono hm
  · rw [List.take_of_length_le (by simp; omega), onAll_append]; exact ha

theorem find_seen {nm : Nm} {i : Nat} {e : Int} (h : Dsk.find D nm = (some i, e)) : D.seen nm = some i ∧ e = 0 ∧ okName nm = true := by
  unfold Dsk.find at h
  split at h
  · cases h
  · rename_i hn
    cases hs : D.seen nm with
    | none => rw [hs] at h; cases h
    | some j => rw [hs] at h; cases h; exact ⟨rfl, rfl, by simpa using hn⟩
theorem find_none {nm : Nm} {e : Int} (h : Dsk.find D nm = (none, e)) : (okName nm = false ∧ e = 164) ∨ (D.seen nm = none ∧ e = 162) := by
  unfold Dsk.find at h
  split at h
  · rename_i hn; cases h; exact .inl ⟨hn, rfl⟩
  · cases hs : D.seen nm with
    | none => rw [hs] at h; cases h; exact .inr ⟨rfl, rfl⟩
    | some j => rw [hs] at h; cases h

theorem DkOk.push (ok : DkOk D N) {a : Deed} (ha : Good D.files.length (a.on D.seen)) : DkOk { D with acts := D.acts ++ [a] } (N + 1) :=
  ⟨ok.space, fun i f hf => let ⟨a, b, c, d⟩ := ok.fil i f hf; ⟨a, b, c, by omega⟩, Nat.le_trans ok.num (Nat.le_succ _), good_push (Nat.le_refl _) ok.good ha, ⟨ok.steps.1, by have := ok.steps.2; dsimp only; omega⟩, by have := ok.acts; simp; omega⟩
theorem ok_rm (ok : DkOk D N) (nm : Nm) : DkOk (rmR nm D).1 (N + 1) := by
  unfold rmR
  cases h : Dsk.find D nm with
  | mk o e =>
    cases o with
    | none => exact ok.mono (Nat.le_succ _)
    | some i => exact ok.push (ok.seen.del nm)
theorem ok_mv (ok : DkOk D N) (a b : Nm) : DkOk (mvR a b D).1 (N + 1) := by
  unfold mvR
  split
  · exact ok.mono (Nat.le_succ _)
  · rename_i hbn
    cases h : Dsk.find D a with
    | mk o e =>
      cases o with
      | none => exact ok.mono (Nat.le_succ _)
      | some i =>
        dsimp only
        split
        · exact ok.mono (Nat.le_succ _)
        · exact ok.push (ok.seen.mv (find_seen h).1 (by simpa using hbn))
theorem ok_mk (ok : DkOk D N) (nm : Nm) : DkOk (mkR nm D).1 (N + 1) := by
  unfold mkR
  dsimp only
  split
  · exact ok.mono (Nat.le_succ _)
  split
  · exact ok.mono (Nat.le_succ _)
  split
  · exact ok.mono (Nat.le_succ _)
  · rename_i h1 h2 h3
    have hs : D.seen nm = none := by
      cases h : Dsk.find D nm with
      | mk o e =>
        cases o with
        | none =>
          rcases find_none h with ⟨_, he⟩ | ⟨hs, _⟩
          · rw [h] at h1; exact absurd he h1
          · exact hs
        | some i => rw [h] at h2; exact absurd (find_seen h).2.1 h2
    have hn : okName nm = true := by
      cases hn : okName nm with
      | true => rfl
      | false =>
        exfalso; apply h1
        unfold Dsk.find
        rw [if_pos hn]
    have hg := ok.seen.new hs hn (by omega)
    refine ⟨ok.space, fun i f hf => ?_, by have := ok.num; simp; omega, ?_, ⟨ok.steps.1, by have := ok.steps.2; dsimp only; omega⟩, by have := ok.acts; simp; omega⟩
    · have hf : (D.files ++ [⟨[], 0, 0⟩])[i]? = some f := hf
      by_cases hi : i < D.files.length
      · rw [List.getElem?_append_left hi] at hf
        obtain ⟨a, b, c, d⟩ := ok.fil i f hf
        exact ⟨a, b, c, by omega⟩
      · rw [List.getElem?_append_right (by omega)] at hf
        have := List.mem_of_getElem? hf
        simp at this; subst this
        simp; omega
    · have e : (D.files ++ [(⟨[], 0, 0⟩ : Fl)]).length = D.files.length + 1 := by simp
      show ∀ k, Good (D.files ++ [(⟨[], 0, 0⟩ : Fl)]).length _
      rw [e]
      exact good_push (Nat.le_succ _) ok.good hg

/-- a file turns -/
theorem DkOk.file (ok : DkOk D N) {i : Nat} {g : Fl} (hg : g.data.length ≤ 1048576 ∧ g.synced ≤ g.data.length ∧ 0 ≤ g.count ∧ g.count ≤ N + 1) : DkOk { D with files := D.files.set i g } (N + 1) := by
  refine ⟨ok.space, fun j f hf => ?_, by have := ok.num; simp; omega, by show ∀ k, Good (D.files.set i g).length _; rw [List.length_set]; exact ok.good, ⟨ok.steps.1, by have := ok.steps.2; dsimp only; omega⟩, Nat.le_trans ok.acts (Nat.le_succ _)⟩
  have hf : (D.files.set i g)[j]? = some f := hf
  rw [List.getElem?_set] at hf
  split at hf
  · split at hf
    · cases hf
      exact ⟨hg.1, hg.2.1, hg.2.2.1, by omega⟩
    · cases hf
  · obtain ⟨a, b, c, d⟩ := ok.fil j f hf
    exact ⟨a, b, c, by omega⟩
theorem seen_get (ok : DkOk D N) {nm : Nm} {i : Nat} (h : D.seen nm = some i) : ∃ g, D.files[i]? = some g ∧ fl D i = g := by
  have hi := ok.seen.ids nm i h
  exact ⟨_, List.getElem?_eq_getElem hi, by unfold Dsk.fl; rw [List.getD_eq_getElem?_getD, List.getElem?_eq_getElem hi]; rfl⟩
theorem ok_sy (ok : DkOk D N) (nm : Nm) : DkOk (syR nm D).1 (N + 1) := by
  unfold syR
  cases h : Dsk.find D nm with
  | mk o e =>
    cases o with
    | none => exact ok.mono (Nat.le_succ _)
    | some i =>
      obtain ⟨g, hg, _⟩ := seen_get ok (find_seen h).1
      dsimp only
      rw [put1_eq hg]
      obtain ⟨a, b, c, d⟩ := ok.fil i g hg
      exact ok.file ⟨a, Nat.le_refl _, c, by dsimp only; omega⟩
theorem sum_ge {l : List Int} (h : ∀ x ∈ l, 0 ≤ x) {x : Int} (hx : x ∈ l) : x ≤ sumZ l := by
  induction l with
  | nil => cases hx
  | cons y r ih =>
    have h1 := h y List.mem_cons_self
    have h2 := sumZ_nonneg fun z hz => h z (List.mem_cons_of_mem _ hz)
    rcases List.mem_cons.1 hx with e | hx
    · subst e; simp only [sumZ]; omega
    · have := ih (fun z hz => h z (List.mem_cons_of_mem _ hz)) hx
      simp only [sumZ]; omega
theorem used_ge (ok : DkOk D N) {nm : Nm} {i : Nat} (h : D.seen nm = some i) : ((fl D i).data.length : Int) ≤ usedBut D none := by
  obtain ⟨h1, _⟩ := ok.seen.names
  unfold usedBut
  refine sum_ge (fun x hx => ?_) ?_
  · obtain ⟨n, _, rfl⟩ := List.mem_map.1 hx; exact weigh_nonneg D none n
  · refine List.mem_map.2 ⟨nm, (h1.2 nm).2 (by rw [h]; rfl), ?_⟩
    unfold weigh; rw [h]; simp
theorem ok_ap (ok : DkOk D N) (nm : Nm) (b : List UInt8) : DkOk (apR nm b D).1 (N + 1) := by
  unfold apR
  cases h : Dsk.find D nm with
  | mk o e =>
    cases o with
    | none => exact ok.mono (Nat.le_succ _)
    | some i =>
      have hs := (find_seen h).1
      obtain ⟨g, hg, hfl⟩ := seen_get ok hs
      have hu := used_ge ok hs
      rw [hfl] at hu
      have hsp := ok.space
      have hun := ok.used none
      dsimp only
      rw [put1_eq hg]
      obtain ⟨a, b', c, d⟩ := ok.fil i g hg
      have hr : room D = max (D.space - usedBut D none) 0 := rfl
      refine ok.file ⟨?_, ?_, ?_, ?_⟩
      · simp only [List.length_append, List.length_take]
        split <;> omega
      · simp only [List.length_append]; omega
      · dsimp only; split <;> omega
      · dsimp only; split <;> omega
theorem apPart_fst (nm : Nm) (b : List UInt8) (k : Int) (D : Dk) : (apPart nm b k D).1 = (apR nm (b.take (min (max k 0) b.length).toNat) D).1 := rfl
theorem ok_settle (ok : DkOk D N) : DkOk (Dsk.settle D) N :=
  ⟨ok.space, ok.fil, ok.num, fun k => by rw [show (Dsk.settle D).acts = [] from rfl, List.take_nil]; exact ok.seen, ok.steps, Nat.zero_le _⟩
theorem cutAll_ok {P : Fl → Prop} (hP : ∀ g more, P g → P (g.cut more)) (f : Dir) (bytes : List Int) : ∀ (l : List Nm) (i : Nat) (fs : List Fl), (∀ (j : Nat) (g : Fl), fs[j]? = some g → P g) → (cutAll f bytes l i fs).length = fs.length ∧ ∀ (j : Nat) (g : Fl), (cutAll f bytes l i fs)[j]? = some g → P g
  | [], _, fs, h => ⟨rfl, h⟩
  | n :: r, i, fs, h => by
    have h2 : ∀ (j : Nat) (g : Fl), (put1 fs ((f n).getD 0) fun x => x.cut (bytes.getD i 0))[j]? = some g → P g := by
      intro j g hg
      unfold put1 at hg
      rw [List.getElem?_modify] at hg
      obtain ⟨x, hx, hxg⟩ := Option.map_eq_some_iff.1 hg
      split at hxg
      · subst hxg; exact hP x _ (h j x hx)
      · subst hxg; exact h j x hx
    obtain ⟨g1, g2⟩ := cutAll_ok hP f bytes r (i + 1) _ h2
    simp only [cutAll]
    exact ⟨by rw [g1]; unfold put1; simp, g2⟩
theorem ok_crash (ok : DkOk D N) (nm : Int) (bytes : List Int) : DkOk (crash D nm bytes) N := by
  unfold crash
  split
  · exact ok
  · dsimp only
    generalize hl : onAll (D.acts.take (min (max nm 0).toNat D.acts.length)) D.lasts = l
    have hg := ok.good (min (max nm 0).toNat D.acts.length)
    rw [hl] at hg
    obtain ⟨h1, h2⟩ := cutAll_ok (P := fun f => f.data.length ≤ 1048576 ∧ f.synced ≤ f.data.length ∧ 0 ≤ f.count ∧ f.count ≤ N) (fun g more ⟨a, b, c, d⟩ => by
      simp only [Fl.cut, List.length_take]; omega) l bytes (names l) 0 D.files ok.fil
    refine ⟨ok.space, h2, by dsimp only; rw [h1]; exact ok.num, fun k => ?_, ok.steps, Nat.zero_le _⟩
    rw [List.take_nil]
    show Good (cutAll l bytes (names l) 0 D.files).length l
    rw [h1]; exact hg
theorem ok_restart (ok : DkOk D N) : DkOk (restart D) N := by
  unfold restart
  split
  · exact ⟨ok.space, ok.fil, ok.num, ok.good, ⟨Int.le_refl 0, by dsimp only; omega⟩, ok.acts⟩
  · exact ok
theorem ok_plan (ok : DkOk D N) (l : List (Int × Fault)) : DkOk (plan D l) N := ⟨ok.space, ok.fil, ok.num, ok.good, ⟨Int.le_refl 0, by show (0 : Int) ≤ _; omega⟩, ok.acts⟩
theorem ok_put (ok : DkOk D N) (nm : Nm) (b : List UInt8) : DkOk (putR D nm b).1 (N + 1) := by
  unfold putR
  split
  · exact ok.mono (Nat.le_succ _)
  split
  · exact ok.mono (Nat.le_succ _)
  split
  · exact ok.mono (Nat.le_succ _)
  · rename_i h1 h2 h3
    have hsp := ok.space
    have hun := ok.used (D.seen nm)
    have hb : b.length ≤ 1048576 := by
      have : ¬ (b.length : Int) > D.space - usedBut D (D.seen nm) := fun h => h3 (.inr h)
      omega
    cases hs : D.seen nm with
    | some i =>
      obtain ⟨g, hg, _⟩ := seen_get ok hs
      obtain ⟨a, b', c, d⟩ := ok.fil i g hg
      dsimp only
      rw [put1_eq hg]
      exact (ok_settle ok).file (i := i) (g := ⟨b, b.length, g.count + 1⟩) ⟨hb, Nat.le_refl _, by dsimp only; omega, by dsimp only; omega⟩
    | none =>
      have hg := ok.seen.new hs (by simpa using h2) (by
        have : ¬ (16 ≤ (names D.seen).length) := fun h => h3 (.inl ⟨hs, h⟩)
        omega)
      dsimp only
      refine ⟨ok.space, fun i f hf => ?_, by have := ok.num; simp; omega, fun k => ?_, ⟨ok.steps.1, by have := ok.steps.2; dsimp only; omega⟩, Nat.zero_le _⟩
      · have hf : (D.files ++ [⟨b, b.length, 1⟩])[i]? = some f := hf
        by_cases hi : i < D.files.length
        · rw [List.getElem?_append_left hi] at hf
          obtain ⟨a, b, c, d⟩ := ok.fil i f hf
          exact ⟨a, b, c, by omega⟩
        · rw [List.getElem?_append_right (by omega)] at hf
          have := List.mem_of_getElem? hf
          simp at this; subst this
          refine ⟨hb, Nat.le_refl _, (show (0 : Int) ≤ 1 by decide), ?_⟩
          show (1 : Int) ≤ _
          omega
      · have e : (D.files ++ [(⟨b, b.length, 1⟩ : Fl)]).length = D.files.length + 1 := by simp
        rw [List.take_nil]
        show Good (D.files ++ [(⟨b, b.length, 1⟩ : Fl)]).length (dset D.seen nm (some D.files.length))
        rw [e]; exact hg
end
end Go.Proofs.Ytdabehgbhndimaa
