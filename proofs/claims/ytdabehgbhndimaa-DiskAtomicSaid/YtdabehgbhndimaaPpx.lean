/- What is left after a power loss is the front of what was there: plainly. Conditions: none. -/
import Derived.Test.YtdabehgbhndimaaPsy
set_option linter.unusedSimpArgs false
set_option linter.unusedVariables false
namespace Go.Proofs.Ytdabehgbhndimaa
open Go Go.Vx Dsk
section
variable {D D' : Dk} {N : Nat} {n0 : Nm} {b0 : List UInt8} {c0 : Int}

theorem cut_front (g : Fl) (more : Int) : (∃ m, (g.cut more).data = g.data.take m) ∧ (g.cut more).count = g.count := ⟨⟨_, rfl⟩, rfl⟩
theorem cutAll_front (f : Dir) (bytes : List Int) : ∀ (l : List Nm) (i : Nat) (fs : List Fl), (∀ n ∈ l, ∃ k, f n = some k ∧ k < fs.length) → ∀ j, (∃ m, ((cutAll f bytes l i fs).getD j ⟨[], 0, 0⟩).data = (fs.getD j ⟨[], 0, 0⟩).data.take m) ∧ ((cutAll f bytes l i fs).getD j ⟨[], 0, 0⟩).count = (fs.getD j ⟨[], 0, 0⟩).count
  | [], _, fs, _, j => ⟨⟨(fs.getD j ⟨[], 0, 0⟩).data.length, by simp [cutAll]⟩, rfl⟩
  | n :: r, i, fs, h, j => by
    obtain ⟨k, hk, hkl⟩ := h n (List.mem_cons_self ..)
    have hg : fs[k]? = some fs[k] := List.getElem?_eq_getElem hkl
    unfold cutAll
    rw [hk, Option.getD_some]
    have hlen : (put1 fs k fun x => x.cut (bytes.getD i 0)).length = fs.length := by rw [put1_eq hg, List.length_set]
    obtain ⟨⟨m, h1⟩, h2⟩ := cutAll_front f bytes r (i + 1) (put1 fs k fun x => x.cut (bytes.getD i 0)) (fun n' hn' => by rw [hlen]; exact h n' (List.mem_cons_of_mem _ hn')) j
    rw [h1, h2, fl_put1 hg]
    split
    · rename_i e
      subst e
      obtain ⟨⟨m', h3⟩, h4⟩ := cut_front fs[j] (bytes.getD i 0)
      have hj : fs.getD j ⟨[], 0, 0⟩ = fs[j] := by rw [List.getD_eq_getElem?_getD, hg]; rfl
      rw [h3, h4, hj]
      exact ⟨⟨min m m', by rw [List.take_take]⟩, rfl⟩
    · exact ⟨⟨m, rfl⟩, rfl⟩

/-- the front of each file stays -/
theorem crash_front (ok : DkOk D N) (hup : D.down = false) (nm : Int) (bytes : List Int) :
    (crash D nm bytes).down = true ∧ Quiet (restart (crash D nm bytes)) ∧ ∀ i, (∃ m, (fl (restart (crash D nm bytes)) i).data = (fl D i).data.take m) ∧ (fl (restart (crash D nm bytes)) i).count = (fl D i).count := by
  have e : crash D nm bytes = { D with lasts := onAll (D.acts.take (min (max nm 0).toNat D.acts.length)) D.lasts, acts := [], files := cutAll (onAll (D.acts.take (min (max nm 0).toNat D.acts.length)) D.lasts) bytes (names (onAll (D.acts.take (min (max nm 0).toNat D.acts.length)) D.lasts)) 0 D.files, down := true } := by
    unfold crash
    rw [if_neg (by rw [hup]; simp)]
  have hg := ok.good (min (max nm 0).toNat D.acts.length)
  generalize onAll (D.acts.take (min (max nm 0).toNat D.acts.length)) D.lasts = l at e hg
  rw [e]
  refine ⟨rfl, ?_, ?_⟩
  · unfold restart; rw [if_pos rfl]; exact ⟨rfl, fun _ => rfl⟩
  · unfold restart
    rw [if_pos rfl]
    intro i
    exact cutAll_front l bytes (names l) 0 D.files (fun n hn => by
      obtain ⟨k, hk⟩ := Option.isSome_iff_exists.1 ((hg.names.1.2 n).1 hn)
      exact ⟨k, hk, hg.ids n k hk⟩) i

theorem front_extract {a b : ByteArray} {m : Nat} (h : a.data.toList = b.data.toList.take m) : a.size ≤ b.size ∧ b.extract 0 a.size = a := by
  have hl : a.size = min m b.size := by
    have := congrArg List.length h
    rw [List.length_take] at this
    simpa using this
  refine ⟨by omega, ?_⟩
  apply ByteArray.ext
  apply Array.ext'
  rw [ByteArray.data_extract, Array.toList_extract, h, hl]
  simp [List.extract]
theorem pict_at {i : Nat} {n : Nm} {k : Nat} (hn : (names D.seen)[i]? = some n) (hk : D.seen n = some k) : (texts D)[i]? = some ⟨(fl D k).data.toArray⟩ ∧ (stamps D)[i]? = some ((k : Int) + 1, ((fl D k).data.length : Int), (fl D k).count, ()) := by
  unfold texts stamps
  rw [List.getElem?_map, List.getElem?_map, hn]
  simp [hk]

/-- one file, synced, and nothing more -/
theorem crash_one {nm : Int} {bytes : List Int} (ok : DkOk D N) (hup : D.down = false) (ha : D.acts = []) (hl : D.lasts = dset (fun _ => none) n0 (some 0)) (hf : D.files = [⟨b0, b0.length, c0⟩]) :
    names (restart (crash D nm bytes)).seen = [n0] ∧ texts (restart (crash D nm bytes)) = [⟨b0.toArray⟩] := by
  have hs : D.seen = D.lasts := by unfold Dk.seen; rw [ha]; rfl
  have hset : Dsk.settle D = D := by
    unfold Dsk.settle
    rw [hs]
    obtain ⟨sp, fs, la, ac, dn, pl, st⟩ := D
    dsimp only at ha
    subst ha
    rfl
  have hlist : Lists (dset (fun _ => none) n0 (some 0)) [n0] := lists_new (f := fun _ => none) ⟨List.nodup_nil, fun n => by simp⟩ rfl
  have hn : names (dset (fun _ => none) n0 (some 0)) = [n0] := by
    have h1 := names_len hlist
    have h2 := (names_lists hlist).2 n0
    have h3 : n0 ∈ names (dset (fun _ => none) n0 (some 0)) := h2.2 (by simp [dset])
    generalize names (dset (fun _ => none) n0 (some 0)) = l at h1 h3
    match l, h1 with
    | [x], _ => simp at h3; rw [h3]
  have hd : Dry D (names D.seen) := fun n _ i hi => by
    rw [hs, hl] at hi
    unfold dset at hi
    split at hi
    · cases hi
      unfold fl
      rw [hf]
      rfl
    · cases hi
  have := crash_dry ok hup hd nm bytes
  rw [hset] at this
  obtain ⟨_, _, k⟩ := this
  refine ⟨by rw [k.names, hs, hl, hn], ?_⟩
  rw [k.texts]
  unfold texts
  rw [hs, hl, hn]
  simp [dset, fl, hf]
end
end Go.Proofs.Ytdabehgbhndimaa
