/- Saving without a risk: plainly. Conditions: none. -/
import Derived.Test.YtdabehgbhndimaaPrm
set_option linter.unusedSimpArgs false
set_option linter.unusedVariables false
namespace Go.Proofs.Ytdabehgbhndimaa
open Go Go.Vx Dsk
section
variable {D D' : Dk} {N : Nat} {α : Type} {old whole : List UInt8} {l : Dir} {as_ : List Deed} {more : List Fl}

def nText : Nm := ⟨#[116, 101, 120, 116]⟩
def nOther : Nm := ⟨#[111, 116, 104, 101, 114]⟩
def nNew : Nm := ⟨#[110, 101, 119, 126]⟩
def stays : List UInt8 := [115, 116, 97, 121, 115]
def baseD : Dir := dset (dset (fun _ => none) nText (some 0)) nOther (some 1)
def mk2 : Deed := .mk nNew 2
def mv2 : Deed := .mv nNew nText 2
theorem nt_no : nText ≠ nOther := by decide
theorem nn_nt : nNew ≠ nText := by decide
theorem nn_no : nNew ≠ nOther := by decide

/-- the disk stands so: the old file, the other one, and perhaps a new one -/
structure At (old : List UInt8) (D : Dk) (l : Dir) (as_ : List Deed) (more : List Fl) : Prop where
  files : D.files = ⟨old, old.length, 1⟩ :: ⟨stays, 5, 1⟩ :: more
  lasts : D.lasts = l
  acts : D.acts = as_
  up : D.down = false
theorem At.steps (h : At old D l as_ more) (k : Int) : At old { D with steps := k } l as_ more := ⟨h.files, h.lasts, h.acts, h.up⟩
theorem At.seen (h : At old D l as_ more) : D.seen = onAll as_ l := by unfold Dk.seen; rw [h.acts, h.lasts]

/-- behind a power loss: one of some texts, the other one, no more than three names -/
structure Fin (vals : List (List UInt8)) (D : Dk) : Prop where
  down : D.down = true
  acts : D.acts = []
  text : ∃ i, D.lasts nText = some i ∧ (fl D i).data ∈ vals
  other : ∃ j, D.lasts nOther = some j ∧ (fl D j).data = stays
  few : ∃ l, Lists D.lasts l ∧ l.length ≤ 3
theorem Fin.mono {vals vals' : List (List UInt8)} (h : Fin vals D) (hv : ∀ v ∈ vals, v ∈ vals') : Fin vals' D := ⟨h.down, h.acts, let ⟨i, h1, h2⟩ := h.text; ⟨i, h1, hv _ h2⟩, h.other, h.few⟩

theorem cutAll_keep (f : Dir) (bytes : List Int) {k : Nat} {g : Fl} (hg : g.synced = g.data.length) : ∀ (l : List Nm) (i : Nat) (fs : List Fl), fs[k]? = some g → (cutAll f bytes l i fs)[k]? = some g
  | [], _, _, h => h
  | n :: r, i, fs, h => by
    unfold cutAll
    refine cutAll_keep f bytes hg r (i + 1) _ ?_
    unfold put1
    rw [List.getElem?_modify, h]
    split
    · show some (g.cut _) = some g; rw [cut_dry hg]
    · rfl

theorem base_lists : Lists baseD [nOther, nText] := lists_new (lists_new lists_empty' rfl) (by decide)
where lists_empty' : Lists (fun _ => none) [] := ⟨List.nodup_nil, fun n => by simp⟩
theorem one_lists : Lists (mk2.on baseD) [nNew, nOther, nText] := lists_new base_lists (by decide)
theorem two_lists : ∃ l, Lists (mv2.on (mk2.on baseD)) l ∧ l.length ≤ 3 := by
  have h1 := lists_del one_lists nNew
  have h2 : dset (mk2.on baseD) nNew none nText = some 0 := by decide
  exact ⟨_, lists_old (i := 2) h1 (by rw [h2]; rfl), by decide⟩

theorem fl_of {i : Nat} {g : Fl} (h : D.files[i]? = some g) : fl D i = g := by unfold fl; rw [List.getD_eq_getElem?_getD, h]; rfl

/-- what a power loss leaves -/
theorem crash_fin {vals : List (List UInt8)} (hup : D.down = false) (nm : Int) (bytes : List Int)
    (h : ∀ n, ∃ i j g g', (onAll (D.acts.take n) D.lasts) nText = some i ∧ D.files[i]? = some g ∧ g.synced = g.data.length ∧ g.data ∈ vals ∧ (onAll (D.acts.take n) D.lasts) nOther = some j ∧ D.files[j]? = some g' ∧ g'.synced = g'.data.length ∧ g'.data = stays ∧ ∃ l, Lists (onAll (D.acts.take n) D.lasts) l ∧ l.length ≤ 3) :
    Fin vals (crash D nm bytes) := by
  have e : crash D nm bytes = { D with lasts := onAll (D.acts.take (min (max nm 0).toNat D.acts.length)) D.lasts, acts := [], files := cutAll (onAll (D.acts.take (min (max nm 0).toNat D.acts.length)) D.lasts) bytes (names (onAll (D.acts.take (min (max nm 0).toNat D.acts.length)) D.lasts)) 0 D.files, down := true } := by
    unfold crash
    rw [if_neg (by rw [hup]; simp)]
  obtain ⟨i, j, g, g', h1, h2, h3, h4, h5, h6, h7, h8, h9⟩ := h (min (max nm 0).toNat D.acts.length)
  generalize onAll (D.acts.take (min (max nm 0).toNat D.acts.length)) D.lasts = f at e h1 h5 h9
  rw [e]
  refine ⟨rfl, rfl, ⟨i, h1, ?_⟩, ⟨j, h5, ?_⟩, h9⟩
  · rw [fl_of (g := g) (cutAll_keep f bytes h3 _ _ _ h2)]; exact h4
  · rw [fl_of (g := g') (cutAll_keep f bytes h7 _ _ _ h6)]; exact h8

/-- where saving can stand -/
inductive Stage (old whole : List UInt8) (D : Dk) : Prop where
  | s0 (h : At old D baseD [] [])
  | s1 (g : Fl) (h : At old D baseD [mk2] [g])
  | s2 (c : Int) (h : At old D baseD [mk2, mv2] [⟨whole, whole.length, c⟩])
  | s3 (c : Int) (h : At old D (mv2.on (mk2.on baseD)) [] [⟨whole, whole.length, c⟩])
theorem Stage.up (h : Stage old whole D) : D.down = false := by cases h <;> rename_i h <;> exact h.up
theorem base_text : baseD nText = some 0 ∧ baseD nOther = some 1 := by decide
theorem one_text : mk2.on baseD nText = some 0 ∧ mk2.on baseD nOther = some 1 ∧ mk2.on baseD nNew = some 2 := by decide
theorem two_text : mv2.on (mk2.on baseD) nText = some 2 ∧ mv2.on (mk2.on baseD) nOther = some 1 := by decide
theorem Stage.crash (h : Stage old whole D) (nm : Int) (bytes : List Int) : Fin [old, whole] (crash D nm bytes) := by
  have b0 : ∀ {as_ more}, At old D baseD as_ more → ∀ n, onAll (D.acts.take n) D.lasts = baseD → ∃ i j g g', (onAll (D.acts.take n) D.lasts) nText = some i ∧ D.files[i]? = some g ∧ g.synced = g.data.length ∧ g.data ∈ [old, whole] ∧ (onAll (D.acts.take n) D.lasts) nOther = some j ∧ D.files[j]? = some g' ∧ g'.synced = g'.data.length ∧ g'.data = stays ∧ ∃ l, Lists (onAll (D.acts.take n) D.lasts) l ∧ l.length ≤ 3 := fun {as_ more} h n hn => by
    rw [hn]
    exact ⟨0, 1, _, _, base_text.1, by rw [h.files]; rfl, rfl, by simp, base_text.2, by rw [h.files]; rfl, rfl, rfl, _, base_lists, by decide⟩
  have b1 : ∀ {as_ more}, At old D baseD as_ more → ∀ n, onAll (D.acts.take n) D.lasts = mk2.on baseD → ∃ i j g g', (onAll (D.acts.take n) D.lasts) nText = some i ∧ D.files[i]? = some g ∧ g.synced = g.data.length ∧ g.data ∈ [old, whole] ∧ (onAll (D.acts.take n) D.lasts) nOther = some j ∧ D.files[j]? = some g' ∧ g'.synced = g'.data.length ∧ g'.data = stays ∧ ∃ l, Lists (onAll (D.acts.take n) D.lasts) l ∧ l.length ≤ 3 := fun {as_ more} h n hn => by
    rw [hn]
    exact ⟨0, 1, _, _, one_text.1, by rw [h.files]; rfl, rfl, by simp, one_text.2.1, by rw [h.files]; rfl, rfl, rfl, _, one_lists, by decide⟩
  refine crash_fin h.up nm bytes fun n => ?_
  cases h with
  | s0 h => exact b0 h n (by rw [h.acts, h.lasts, List.take_nil]; rfl)
  | s1 g h =>
    match n with
    | 0 => exact b0 h 0 (by rw [List.take_zero, h.lasts]; rfl)
    | n + 1 => exact b1 h _ (by rw [h.acts, h.lasts, List.take_succ_cons, List.take_nil]; rfl)
  | s2 c h =>
    match n with
    | 0 => exact b0 h 0 (by rw [List.take_zero, h.lasts]; rfl)
    | 1 => exact b1 h _ (by rw [h.acts, h.lasts]; rfl)
    | n + 2 =>
      have e : onAll (D.acts.take (n + 2)) D.lasts = mv2.on (mk2.on baseD) := by rw [h.acts, h.lasts, List.take_succ_cons, List.take_succ_cons, List.take_nil]; rfl
      rw [e]
      exact ⟨2, 1, _, _, two_text.1, by rw [h.files]; rfl, rfl, by simp, two_text.2, by rw [h.files]; rfl, rfl, rfl, two_lists⟩
  | s3 c h =>
    have e : onAll (D.acts.take n) D.lasts = mv2.on (mk2.on baseD) := by rw [h.acts, h.lasts, List.take_nil]; rfl
    rw [e]
    exact ⟨2, 1, _, _, two_text.1, by rw [h.files]; rfl, rfl, by simp, two_text.2, by rw [h.files]; rfl, rfl, rfl, two_lists⟩
theorem s3_crash {c : Int} (h : At old D (mv2.on (mk2.on baseD)) [] [⟨whole, whole.length, c⟩]) (nm : Int) (bytes : List Int) : Fin [whole] (crash D nm bytes) := by
  refine crash_fin h.up nm bytes fun n => ?_
  have e : onAll (D.acts.take n) D.lasts = mv2.on (mk2.on baseD) := by rw [h.acts, h.lasts, List.take_nil]; rfl
  rw [e]
  exact ⟨2, 1, _, _, two_text.1, by rw [h.files]; rfl, rfl, by simp, two_text.2, by rw [h.files]; rfl, rfl, rfl, two_lists⟩

/-- nothing is lost, whatever comes -/
def Safe (old whole : List UInt8) (D : Dk) : Prop := Stage old whole D ∨ Fin [old, whole] D
theorem Safe.crash (h : Safe old whole D) (nm : Int) (bytes : List Int) : Fin [old, whole] (Dsk.crash D nm bytes) := by
  rcases h with h | h
  · exact h.crash nm bytes
  · unfold Dsk.crash; rw [if_pos h.down]; exact h

/-- a step, with whatever goes wrong -/
theorem step_safe {a : α} {act : Dk → Dk × Int × α} {part : Option (Int → Dk → Dk × Int × α)} {Next : Dk → Prop} (hup : D.down = false) (h0 : Stage old whole { D with steps := D.steps + 1 })
    (ha : Stage old whole (act { D with steps := D.steps + 1 }).1) (hn : (act { D with steps := D.steps + 1 }).2.1 = 0 → Next (act { D with steps := D.steps + 1 }).1)
    (hp : ∀ pt, part = some pt → ∀ k, Stage old whole (pt k { D with steps := D.steps + 1 }).1 ∧ (pt k { D with steps := D.steps + 1 }).2.1 ≠ 0) :
    Safe old whole (Dsk.step D a act part).1 ∧ ((Dsk.step D a act part).2.1 = 0 → Next (Dsk.step D a act part).1) := by
  unfold Dsk.step
  rw [if_neg (by rw [hup]; simp)]
  split
  · exact ⟨.inl ha, hn⟩
  · rename_i f hf
    unfold faulty
    split
    · exact ⟨.inl h0, fun h => by simp at h⟩
    split
    · cases part with
      | none => exact ⟨.inl h0, fun h => by simp at h⟩
      | some pt => exact ⟨.inl (hp pt rfl _).1, fun h => absurd h (hp pt rfl _).2⟩
    split
    · exact ⟨.inr (h0.crash _ _), fun h => by simp at h⟩
    split
    · exact ⟨.inr (ha.crash _ _), fun h => by simp at h⟩
    split
    · refine ⟨.inl ha, fun h => ?_⟩
      dsimp only at h
      split at h
      · rename_i h'; exact absurd h h'
      · simp at h
    · exact ⟨.inl ha, hn⟩
theorem okNew : okName nNew = true ∧ okName nText = true ∧ okName nOther = true := by decide
theorem find_s0 (h : At old D baseD [] []) : Dsk.find D nNew = (none, 162) := by
  unfold Dsk.find
  rw [if_neg (by rw [okNew.1]; simp), h.seen]
  have : onAll [] baseD nNew = none := by decide
  rw [this]
theorem find_s1 (h : At old D baseD [mk2] more) : Dsk.find D nNew = (some 2, 0) := by
  unfold Dsk.find
  rw [if_neg (by rw [okNew.1]; simp), h.seen]
  have : onAll [mk2] baseD nNew = some 2 := by decide
  rw [this]
theorem make_safe (whole : List UInt8) (h : At old D baseD [] []) : Safe old whole (callMake D nNew).1 ∧ ((callMake D nNew).2.1 = 0 → At old (callMake D nNew).1 baseD [mk2] [⟨[], 0, 0⟩]) := by
  have h1 := h.steps (D.steps + 1)
  have e : mkR nNew { D with steps := D.steps + 1 } = ({ D with steps := D.steps + 1, files := D.files ++ [⟨[], 0, 0⟩], acts := D.acts ++ [.mk nNew D.files.length] }, 0) := by
    unfold mkR
    rw [find_s0 h1]
    have hl : (names ({ D with steps := D.steps + 1 } : Dk).seen).length = 2 := by rw [h1.seen]; exact names_len base_lists
    dsimp only
    rw [if_neg (by decide), if_neg (by decide), hl, if_neg (by decide)]
  have h2 : At old { D with steps := D.steps + 1, files := D.files ++ [⟨[], 0, 0⟩], acts := D.acts ++ [.mk nNew D.files.length] } baseD [mk2] [⟨[], 0, 0⟩] :=
    ⟨by dsimp only; rw [h.files]; rfl, h.lasts, by dsimp only; rw [h.acts, h.files]; rfl, h.up⟩
  refine step_safe (a := ()) (act := u (mkR nNew)) (part := none) (Next := fun X => At old X baseD [mk2] [⟨[], 0, 0⟩]) h.up (.s0 h1) ?_ (fun _ => ?_) (fun _ h => nomatch h)
  · unfold u; rw [e]; exact .s1 _ h2
  · unfold u; rw [e]; exact h2
theorem ap_s1 {g : Fl} (h : At old D baseD [mk2] [g]) (b : List UInt8) : ∃ k c, At old (apR nNew b D).1 baseD [mk2] [⟨g.data ++ b.take k, g.synced, c⟩] ∧ ((apR nNew b D).2.1 = 0 → At old (apR nNew b D).1 baseD [mk2] [⟨g.data ++ b, g.synced, c⟩]) ∧ ((apR nNew b D).2.1 = 0 ∨ (apR nNew b D).2.1 = 161) := by
  unfold apR
  rw [find_s1 h]
  dsimp only
  obtain ⟨k, hk⟩ : ∃ k : Int, k = if room D < (b.length : Int) then room D else b.length := ⟨_, rfl⟩
  rw [← hk]
  have hkb : k ≤ b.length := by rw [hk]; split <;> omega
  have hA : At old { D with files := put1 D.files 2 fun f => ⟨f.data ++ b.take k.toNat, f.synced, if k > 0 then f.count + 1 else f.count⟩ } baseD [mk2] [⟨g.data ++ b.take k.toNat, g.synced, if k > 0 then g.count + 1 else g.count⟩] :=
    ⟨by dsimp only; rw [h.files]; rfl, h.lasts, h.acts, h.up⟩
  refine ⟨k.toNat, _, hA, fun he => ?_, by split <;> simp⟩
  have : (k.toNat : Nat) = b.length := by
    split at he
    · simp at he
    · omega
  rw [this, List.take_length] at hA
  rw [this, List.take_length]
  exact hA
theorem append_safe {g : Fl} (whole : List UInt8) (h : At old D baseD [mk2] [g]) (b : List UInt8) : Safe old whole (callAppend D nNew b).1 ∧ ((callAppend D nNew b).2.1 = 0 → ∃ c, At old (callAppend D nNew b).1 baseD [mk2] [⟨g.data ++ b, g.synced, c⟩]) := by
  have h1 := h.steps (D.steps + 1)
  obtain ⟨k, c, h2, h3, _⟩ := ap_s1 h1 b
  refine step_safe (Next := fun X => ∃ c, At old X baseD [mk2] [⟨g.data ++ b, g.synced, c⟩]) h.up (.s1 _ h1) (.s1 _ h2) (fun e => ⟨c, h3 e⟩) fun pt hpt k => ?_
  cases hpt
  obtain ⟨_, _, h4, _, h5⟩ := ap_s1 h1 (b.take (min (max k 0) b.length).toNat)
  refine ⟨.s1 _ h4, ?_⟩
  unfold apPart
  dsimp only
  split
  · rename_i hh; exact hh.1
  · decide
theorem sync_safe {g : Fl} (h : At old D baseD [mk2] [g]) : Safe old whole (callSync D nNew).1 ∧ ((callSync D nNew).2.1 = 0 → At old (callSync D nNew).1 baseD [mk2] [⟨g.data, g.data.length, g.count⟩]) := by
  have h1 := h.steps (D.steps + 1)
  have h2 : At old (syR nNew { D with steps := D.steps + 1 }).1 baseD [mk2] [⟨g.data, g.data.length, g.count⟩] := by
    unfold syR
    rw [find_s1 h1]
    exact ⟨by dsimp only; rw [h.files]; rfl, h.lasts, h.acts, h.up⟩
  exact step_safe (a := ()) (act := u (syR nNew)) (part := none) (Next := fun X => At old X baseD [mk2] [⟨g.data, g.data.length, g.count⟩]) h.up (.s1 _ h1) (.s1 _ h2) (fun _ => h2) fun _ h => nomatch h
theorem rename_safe {c : Int} (h : At old D baseD [mk2] [⟨whole, whole.length, c⟩]) : Safe old whole (callRename D nNew nText).1 ∧ ((callRename D nNew nText).2.1 = 0 → At old (callRename D nNew nText).1 baseD [mk2, mv2] [⟨whole, whole.length, c⟩]) := by
  have h1 := h.steps (D.steps + 1)
  have h2 : At old (mvR nNew nText { D with steps := D.steps + 1 }).1 baseD [mk2, mv2] [⟨whole, whole.length, c⟩] := by
    unfold mvR
    rw [if_neg (by rw [okNew.2.1]; simp), find_s1 h1]
    dsimp only
    rw [if_neg nn_nt]
    exact ⟨h.files, h.lasts, by dsimp only; rw [h.acts]; rfl, h.up⟩
  exact step_safe (a := ()) (act := u (mvR nNew nText)) (part := none) (Next := fun X => At old X baseD [mk2, mv2] [⟨whole, whole.length, c⟩]) h.up (.s1 _ h1) (.s2 _ h2) (fun _ => h2) fun _ h => nomatch h
theorem syncdir_safe {c : Int} (h : At old D baseD [mk2, mv2] [⟨whole, whole.length, c⟩]) : Safe old whole (callSyncDir D).1 ∧ ((callSyncDir D).2.1 = 0 → At old (callSyncDir D).1 (mv2.on (mk2.on baseD)) [] [⟨whole, whole.length, c⟩]) := by
  have h1 := h.steps (D.steps + 1)
  have h2 : At old (Dsk.settle { D with steps := D.steps + 1 }) (mv2.on (mk2.on baseD)) [] [⟨whole, whole.length, c⟩] := ⟨h.files, by show ({ D with steps := D.steps + 1 } : Dk).seen = _; rw [h1.seen]; rfl, rfl, h.up⟩
  exact step_safe (a := ()) (act := u fun D => (Dsk.settle D, 0)) (part := none) (Next := fun X => At old X (mv2.on (mk2.on baseD)) [] [⟨whole, whole.length, c⟩]) h.up (.s2 _ h1) (.s3 _ h2) (fun _ => h2) fun _ h => nomatch h

/-- what is there behind a restart -/
theorem fin_restart {vals : List (List UInt8)} (h : Fin vals D) : Quiet (restart D) ∧ (∃ i, (restart D).seen nText = some i ∧ (fl (restart D) i).data ∈ vals) ∧ (∃ j, (restart D).seen nOther = some j ∧ (fl (restart D) j).data = stays) ∧ (names (restart D).seen).length ≤ 3 := by
  have e : restart D = { D with down := false, plan := fun _ => none, steps := 0 } := by unfold restart; rw [if_pos h.down]
  have hs : (restart D).seen = D.lasts := by rw [e]; show onAll D.acts D.lasts = _; rw [h.acts]; rfl
  have hf : ∀ i, fl (restart D) i = fl D i := fun i => by rw [e]; rfl
  obtain ⟨l, h1, h2⟩ := h.few
  refine ⟨by rw [e]; exact ⟨rfl, fun _ => rfl⟩, ?_, ?_, by rw [hs, names_len h1]; exact h2⟩
  · obtain ⟨i, hi, hv⟩ := h.text; exact ⟨i, by rw [hs]; exact hi, by rw [hf]; exact hv⟩
  · obtain ⟨i, hi, hv⟩ := h.other; exact ⟨i, by rw [hs]; exact hi, by rw [hf]; exact hv⟩
end
end Go.Proofs.Ytdabehgbhndimaa
