/- What is synced stays: plainly. Conditions: none. -/
import Derived.Test.YtdabehgbhndimaaLsp
set_option linter.unusedSimpArgs false
set_option linter.unusedVariables false
namespace Go.Proofs.Ytdabehgbhndimaa
open Go Go.Vx Dsk
section
variable {D D' : Dk} {N : Nat}

/-- the same picture -/
structure Kin (D D' : Dk) : Prop where
  seen : D'.seen = D.seen
  data : ∀ i, (fl D' i).data = (fl D i).data
  count : ∀ i, (fl D' i).count = (fl D i).count
theorem Kin.refl (D : Dk) : Kin D D := ⟨rfl, fun _ => rfl, fun _ => rfl⟩
theorem Kin.trans {D'' : Dk} (h : Kin D D') (h' : Kin D' D'') : Kin D D'' := ⟨h'.seen.trans h.seen, fun i => (h'.data i).trans (h.data i), fun i => (h'.count i).trans (h.count i)⟩
theorem Kin.names (h : Kin D D') : names D'.seen = names D.seen := by rw [h.seen]
theorem Kin.texts (h : Kin D D') : texts D' = texts D := by
  unfold _root_.Go.Proofs.Ytdabehgbhndimaa.texts
  rw [h.seen]
  simp only [h.data]
theorem Kin.stamps (h : Kin D D') : stamps D' = stamps D := by
  unfold _root_.Go.Proofs.Ytdabehgbhndimaa.stamps
  rw [h.seen]
  simp only [h.data, h.count]
theorem kin_steps (D : Dk) (k : Int) : Kin D { D with steps := k } := ⟨rfl, fun _ => rfl, fun _ => rfl⟩

theorem fl_put1 {l : List Fl} {i : Nat} {g : Fl} (hg : l[i]? = some g) (f : Fl → Fl) (j : Nat) : (put1 l i f).getD j ⟨[], 0, 0⟩ = if j = i then f g else l.getD j ⟨[], 0, 0⟩ := by
  rw [put1_eq hg, List.getD_eq_getElem?_getD, List.getElem?_set]
  have hi := (List.getElem?_eq_some_iff.1 hg).1
  by_cases h : j = i
  · subst h; rw [if_pos rfl, if_pos rfl, if_pos hi]; rfl
  · rw [if_neg (Ne.symm h), if_neg h, List.getD_eq_getElem?_getD]

/-- all of a list's names are synced -/
def Dry (D : Dk) (l : List Nm) : Prop := ∀ n ∈ l, ∀ i, D.seen n = some i → (fl D i).synced = (fl D i).data.length

theorem sync_quiet (q : Quiet D) (ok : DkOk D N) {n : Nm} {i : Nat} (hn : okName n = true) (h : D.seen n = some i) {l : List Nm} (hd : Dry D l) :
    (callSync D n).2.1 = 0 ∧ Quiet (callSync D n).1 ∧ Kin D (callSync D n).1 ∧ Dry (callSync D n).1 (l ++ [n]) := by
  obtain ⟨g, hg, hfl⟩ := seen_get ok h
  have hf : Dsk.find { D with steps := D.steps + 1 } n = (some i, 0) := by rw [find_steps]; unfold Dsk.find; rw [if_neg (by rw [hn]; simp), h]
  have e : callSync D n = ({ D with steps := D.steps + 1, files := put1 D.files i fun f => ⟨f.data, f.data.length, f.count⟩ }, 0, ()) := by
    unfold callSync
    rw [step_quiet q]
    unfold u syR
    rw [hf]
  rw [e]
  have hfl2 : ∀ j, fl ({ D with steps := D.steps + 1, files := put1 D.files i fun f => ⟨f.data, f.data.length, f.count⟩ } : Dk) j = if j = i then ⟨g.data, g.data.length, g.count⟩ else fl D j := fun j => fl_put1 hg _ j
  refine ⟨rfl, ⟨q.up, q.plan⟩, ⟨rfl, fun j => ?_, fun j => ?_⟩, fun m hm j hj => ?_⟩
  · rw [hfl2]; split
    · rename_i e; rw [e, hfl]
    · rfl
  · rw [hfl2]; split
    · rename_i e; rw [e, hfl]
    · rfl
  · have hj : D.seen m = some j := hj
    rw [hfl2]
    split
    · rfl
    · rename_i hji
      rcases List.mem_append.1 hm with hm | hm
      · exact hd m hm j hj
      · simp at hm; subst hm
        rw [h] at hj; cases hj; exact absurd rfl hji

theorem syncdir_quiet (q : Quiet D) : callSyncDir D = (Dsk.settle { D with steps := D.steps + 1 }, 0, ()) := by
  unfold callSyncDir
  rw [step_quiet q]
  rfl

theorem cut_dry {g : Fl} (h : g.synced = g.data.length) (more : Int) : g.cut more = g := by
  obtain ⟨d, s, c⟩ := g
  dsimp only at h
  subst h
  unfold Fl.cut
  simp
theorem cutAll_dry (f : Dir) (bytes : List Int) : ∀ (l : List Nm) (i : Nat) (fs : List Fl), (∀ n ∈ l, ∃ k g, f n = some k ∧ fs[k]? = some g ∧ g.synced = g.data.length) → cutAll f bytes l i fs = fs
  | [], _, _, _ => rfl
  | n :: r, i, fs, h => by
    obtain ⟨k, g, hk, hg, hs⟩ := h n (List.mem_cons_self ..)
    unfold cutAll
    rw [hk, Option.getD_some, put1_eq hg, cut_dry hs]
    have e : fs.set k g = fs := by
      obtain ⟨hl, rfl⟩ := List.getElem?_eq_some_iff.1 hg
      exact List.set_getElem_self hl
    rw [e]
    exact cutAll_dry f bytes r (i + 1) fs fun m hm => h m (List.mem_cons_of_mem _ hm)

theorem crash_dry (ok : DkOk D N) (hup : D.down = false) (hd : Dry D (names D.seen)) (nm : Int) (bytes : List Int) :
    (crash (Dsk.settle D) nm bytes).down = true ∧ Quiet (restart (crash (Dsk.settle D) nm bytes)) ∧ Kin D (restart (crash (Dsk.settle D) nm bytes)) := by
  have hl : (onAll ((Dsk.settle D).acts.take (min (max nm 0).toNat (Dsk.settle D).acts.length)) (Dsk.settle D).lasts) = D.seen := by
    show onAll (([] : List Deed).take _) D.seen = D.seen
    rw [List.take_nil]; rfl
  have hcut : cutAll D.seen bytes (names D.seen) 0 D.files = D.files := cutAll_dry _ _ _ _ _ fun n hn => by
    obtain ⟨i, hi⟩ := Option.isSome_iff_exists.1 ((ok.seen.names.1.2 n).1 hn)
    obtain ⟨g, hg, hfl⟩ := seen_get ok hi
    have := hd n hn i hi
    rw [hfl] at this
    exact ⟨i, g, hi, hg, this⟩
  have e : crash (Dsk.settle D) nm bytes = { D with lasts := D.seen, acts := [], down := true } := by
    unfold crash
    rw [if_neg (by show ¬ D.down = true; rw [hup]; simp)]
    dsimp only
    rw [hl]
    show ({ Dsk.settle D with lasts := D.seen, acts := [], files := cutAll D.seen bytes (names D.seen) 0 D.files, down := true } : Dk) = _
    rw [hcut]
    rfl
  rw [e]
  refine ⟨rfl, ?_, ?_⟩
  · unfold restart; rw [if_pos rfl]; exact ⟨rfl, fun _ => rfl⟩
  · unfold restart; rw [if_pos rfl]; exact ⟨rfl, fun _ => rfl, fun _ => rfl⟩

theorem quiet_begin (D : Dk) : Quiet (plan (restart D) []) := by
  refine ⟨?_, fun _ => rfl⟩
  unfold restart plan
  split
  · rfl
  · rename_i h; simpa using h
end
end Go.Proofs.Ytdabehgbhndimaa
