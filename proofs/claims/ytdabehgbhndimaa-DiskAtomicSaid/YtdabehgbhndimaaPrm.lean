/- Room: plainly. Conditions: none. -/
import Derived.Test.YtdabehgbhndimaaPpx
set_option linter.unusedSimpArgs false
set_option linter.unusedVariables false
namespace Go.Proofs.Ytdabehgbhndimaa
open Go Go.Vx Dsk
section
variable {D D' : Dk} {N : Nat}

theorem sum_set {α : Type} [DecidableEq α] {f g : α → Int} {a : α} : ∀ {l : List α}, l.Nodup → a ∈ l → (∀ x ∈ l, x ≠ a → f x = g x) → sumZ (l.map f) = sumZ (l.map g) + (f a - g a)
  | [], _, h, _ => by cases h
  | x :: r, hn, ha, h => by
    obtain ⟨h1, h2⟩ := List.nodup_cons.1 hn
    by_cases e : x = a
    · subst e
      have : r.map f = r.map g := List.map_congr_left fun y hy => h y (List.mem_cons_of_mem _ hy) fun e => h1 (e ▸ hy)
      simp only [List.map_cons, sumZ, this]; omega
    · have ha : a ∈ r := by rcases List.mem_cons.1 ha with h | h; exact absurd h.symm e; exact h
      have := sum_set h2 ha fun y hy => h y (List.mem_cons_of_mem _ hy)
      simp only [List.map_cons, sumZ, this, h x List.mem_cons_self e]; omega
theorem sum_drop {α : Type} {f g : α → Int} {p : α → Bool} : ∀ {l : List α}, (∀ x ∈ l, p x = true → f x = g x) → (∀ x ∈ l, 0 ≤ g x) → sumZ ((l.filter p).map f) ≤ sumZ (l.map g)
  | [], _, _ => Int.le_refl _
  | x :: r, h, h0 => by
    have := sum_drop (l := r) (fun y hy => h y (List.mem_cons_of_mem _ hy)) fun y hy => h0 y (List.mem_cons_of_mem _ hy)
    have hx := h0 x List.mem_cons_self
    cases hp : p x with
    | true => rw [List.filter_cons_of_pos hp]; simp only [List.map_cons, sumZ, h x List.mem_cons_self hp]; omega
    | false => rw [List.filter_cons_of_neg (by rw [hp]; simp)]; simp only [List.map_cons, sumZ]; omega

theorem _root_.Go.Proofs.Ytdabehgbhndimaa.Dsk.Lists.eq {f g : Dir} {l : List Nm} (h : Lists f l) (e : g = f) : Lists g l := e ▸ h
/-- what a directory's entry weighs -/
def wt (fs : List Fl) : Option Nat → Int
  | some i => (fs.getD i ⟨[], 0, 0⟩).data.length
  | none => 0
theorem wt_nonneg (fs : List Fl) (o : Option Nat) : 0 ≤ wt fs o := by cases o <;> simp only [wt] <;> omega
theorem weigh_wt (D : Dk) : weigh D none = fun n => wt D.files (D.seen n) := by
  funext n; unfold weigh wt
  cases D.seen n <;> rfl
theorem used_wt {l : List Nm} (h : Lists D.seen l) : usedBut D none = sumZ (l.map fun n => wt D.files (D.seen n)) := by rw [used_eq h, weigh_wt]

/-- a file turns into another -/
theorem used_put (ok : DkOk D N) {n : Nm} {i : Nat} (h : D.seen n = some i) (f : Fl → Fl) (hs : D'.seen = D.seen) (hf : D'.files = put1 D.files i f) :
    usedBut D' none = usedBut D (some i) + (f (fl D i)).data.length := by
  obtain ⟨hl, _⟩ := ok.seen.names
  obtain ⟨g, hg, hfl⟩ := seen_get ok h
  have hl' : Lists D'.seen (names D.seen) := by rw [hs]; exact hl
  have hm : n ∈ names D.seen := (hl.2 n).2 (by rw [h]; rfl)
  rw [used_wt hl', used_eq hl, sum_set (g := weigh D (some i)) hl.1 hm fun m _ hmn => ?_]
  · have h1 : weigh D (some i) n = 0 := by unfold weigh; rw [h]; simp
    have h2 : wt D'.files (D'.seen n) = (f (fl D i)).data.length := by
      rw [hs, h, hf]; show ((_ : Fl).data.length : Int) = _; rw [fl_put1 hg, if_pos rfl, hfl]
    rw [h1, h2]; omega
  · rw [hs]
    cases hm' : D.seen m with
    | none => unfold wt weigh; rw [hm']
    | some j =>
      have hji : j ≠ i := fun e => hmn (ok.seen.inj m n i (by rw [hm', e]) h)
      unfold wt weigh
      rw [hm', hf]
      dsimp only
      rw [fl_put1 hg, if_neg hji, if_neg (by simpa using hji)]
      rfl
theorem used_but (ok : DkOk D N) {n : Nm} {i : Nat} (h : D.seen n = some i) : usedBut D none = usedBut D (some i) + (fl D i).data.length := by
  refine used_put ok h id rfl ?_
  obtain ⟨g, hg, hfl⟩ := seen_get ok h
  rw [put1_eq hg]
  obtain ⟨hl, rfl⟩ := List.getElem?_eq_some_iff.1 hg
  exact (List.set_getElem_self hl).symm

theorem used_del (ok : DkOk D N) (a : Nm) (hs : D'.seen = dset D.seen a none) (hf : D'.files = D.files) : usedBut D' none ≤ usedBut D none := by
  obtain ⟨hl, _⟩ := ok.seen.names
  have hl' := (lists_del hl a).eq hs
  rw [used_wt hl', used_wt hl]
  refine sum_drop (fun m _ hm => ?_) fun _ _ => wt_nonneg ..
  rw [hs, hf]; unfold dset
  rw [if_neg (by simpa using hm)]
theorem used_new (ok : DkOk D N) {a : Nm} (h : D.seen a = none) {g : Fl} (hs : D'.seen = dset D.seen a (some D.files.length)) (hf : D'.files = D.files ++ [g]) : usedBut D' none = usedBut D none + g.data.length := by
  obtain ⟨hl, _⟩ := ok.seen.names
  have hl' := (lists_new (i := D.files.length) hl h).eq hs
  rw [used_wt hl', used_wt hl]
  have ha : wt D'.files (D'.seen a) = g.data.length := by rw [hs, hf]; unfold dset wt; rw [if_pos rfl]; simp
  have hr : (names D.seen).map (fun n => wt D'.files (D'.seen n)) = (names D.seen).map fun n => wt D.files (D.seen n) := List.map_congr_left fun n hn => by
    obtain ⟨i, hi⟩ := Option.isSome_iff_exists.1 ((hl.2 n).1 hn)
    have hna : n ≠ a := fun e => by rw [e, h] at hi; cases hi
    have := ok.seen.ids n i hi
    rw [hs, hf]; unfold dset; rw [if_neg hna, hi]; unfold wt
    simp [List.getElem?_append_left this]
  simp only [List.map_cons, sumZ, ha, hr]; omega
theorem used_mv (ok : DkOk D N) {a b : Nm} {i : Nat} (h : D.seen a = some i) (hs : D'.seen = dset (dset D.seen a none) b (some i)) (hf : D'.files = D.files) : usedBut D' none ≤ usedBut D none := by
  obtain ⟨hl, _⟩ := ok.seen.names
  have l1 := lists_del hl a
  have l2 := lists_del l1 b
  have hb : dset (dset D.seen a none) b none b = none := by unfold dset; rw [if_pos rfl]
  have e : dset (dset (dset D.seen a none) b none) b (some i) = dset (dset D.seen a none) b (some i) := by
    funext x; unfold dset; split <;> rfl
  have l3 := lists_new (i := i) l2 hb
  rw [e] at l3
  have hl' := l3.eq hs
  rw [used_wt hl', used_wt hl]
  have h1 : sumZ ((names D.seen).map fun n => wt D.files (D.seen n)) = sumZ ((names D.seen).map fun n => wt D.files (dset D.seen a none n)) + (wt D.files (D.seen a) - wt D.files (dset D.seen a none a)) :=
    sum_set hl.1 ((hl.2 a).2 (by rw [h]; rfl)) fun n _ hn => by unfold dset; rw [if_neg hn]
  have h2 : wt D.files (dset D.seen a none a) = 0 := by unfold dset; rw [if_pos rfl]; rfl
  have h3 : wt D'.files (D'.seen b) = wt D.files (D.seen a) := by rw [hs, hf, h]; unfold dset; rw [if_pos rfl]
  have h4 : sumZ ((((names D.seen).filter fun x => decide (x ≠ a)).filter fun x => decide (x ≠ b)).map fun n => wt D'.files (D'.seen n)) ≤ sumZ ((names D.seen).map fun n => wt D.files (dset D.seen a none n)) := by
    rw [List.filter_filter]
    refine sum_drop (fun m _ hm => ?_) fun _ _ => wt_nonneg ..
    rw [hs, hf]
    simp at hm
    unfold dset
    rw [if_neg hm.1]
  simp only [List.map_cons, sumZ, h3]; omega

/-- no more than there is room for -/
structure Fit (D : Dk) : Prop where
  q : Quiet D
  le : usedBut D none ≤ D.space
theorem seen_push (D : Dk) (a : Deed) : onAll (D.acts ++ [a]) D.lasts = a.on D.seen := by
  have : ∀ (l : List Deed) (f : Dir), onAll (l ++ [a]) f = a.on (onAll l f) := by
    intro l
    induction l with
    | nil => intro f; rfl
    | cons x r ih => intro f; exact ih _
  exact this _ _

structure Fits (D D' : Dk) : Prop where
  fit : Fit D'
  space : D'.space = D.space
theorem Fit.fits (h : Fit D) : Fits D D := ⟨h, rfl⟩
theorem Fit.st (h : Fit D) (k : Int) : Fit { D with steps := k } := ⟨⟨h.q.up, h.q.plan⟩, h.le⟩
theorem fits_u {f : Dk → Dk × Int} (h : Fit D) (hf : Fits D (f { D with steps := D.steps + 1 }).1) : Fits D (Dsk.step D () (u f) none).1 := by
  rw [step_quiet h.q]; exact hf

theorem fits_mk (ok : DkOk D N) (h : Fit D) (n : Nm) : Fits D (mkR n D).1 := by
  unfold mkR
  dsimp only
  split
  · exact h.fits
  split
  · exact h.fits
  split
  · exact h.fits
  rename_i h1 h2 _
  cases hf : Dsk.find D n with
  | mk o e =>
    rw [hf] at h1 h2
    cases o with
    | some i => exact absurd (find_seen hf).2.1 h2
    | none =>
      have hn : D.seen n = none := by
        rcases find_none hf with ⟨_, he⟩ | ⟨hn, _⟩
        · exact absurd he h1
        · exact hn
      refine ⟨⟨⟨h.q.up, h.q.plan⟩, ?_⟩, rfl⟩
      have := used_new (D' := { D with files := D.files ++ [⟨[], 0, 0⟩], acts := D.acts ++ [.mk n D.files.length] }) (g := ⟨[], 0, 0⟩) ok hn (seen_push D (.mk n D.files.length)) rfl
      rw [this]
      have := h.le
      simpa using this
theorem fits_rm (ok : DkOk D N) (h : Fit D) (n : Nm) : Fits D (rmR n D).1 := by
  unfold rmR
  split
  · exact h.fits
  · exact ⟨⟨⟨h.q.up, h.q.plan⟩, Int.le_trans (used_del ok n (seen_push D (.rm n)) rfl) h.le⟩, rfl⟩
theorem fits_mv (ok : DkOk D N) (h : Fit D) (a b : Nm) : Fits D (mvR a b D).1 := by
  unfold mvR
  split
  · exact h.fits
  split
  · exact h.fits
  rename_i i e hf
  split
  · exact h.fits
  · exact ⟨⟨⟨h.q.up, h.q.plan⟩, Int.le_trans (used_mv ok (find_seen hf).1 (seen_push D (.mv a b i)) rfl) h.le⟩, rfl⟩
theorem fits_sy (ok : DkOk D N) (h : Fit D) (n : Nm) : Fits D (syR n D).1 := by
  unfold syR
  split
  · exact h.fits
  rename_i i e hf
  refine ⟨⟨⟨h.q.up, h.q.plan⟩, ?_⟩, rfl⟩
  have := used_put (D' := { D with files := put1 D.files i fun f => ⟨f.data, f.data.length, f.count⟩ }) ok (find_seen hf).1 (fun f => ⟨f.data, f.data.length, f.count⟩) rfl rfl
  rw [this]
  have := used_but ok (find_seen hf).1
  have := h.le
  dsimp only; omega
theorem fits_settle (h : Fit D) : Fits D (Dsk.settle D) := ⟨⟨⟨h.q.up, h.q.plan⟩, h.le⟩, rfl⟩
theorem fits_put (ok : DkOk D N) (h : Fit D) (n : Nm) (b : List UInt8) : Fits D (putR D n b).1 := by
  unfold putR
  split
  · exact h.fits
  split
  · exact h.fits
  split
  · exact h.fits
  rename_i h3
  have hb : (b.length : Int) ≤ D.space - usedBut D (D.seen n) := by
    have : ¬ (b.length : Int) > D.space - usedBut D (D.seen n) := fun h => h3 (.inr h)
    omega
  cases hs : D.seen n with
  | some i =>
    rw [hs] at hb
    refine ⟨⟨⟨h.q.up, h.q.plan⟩, ?_⟩, rfl⟩
    have := used_put (D' := { Dsk.settle D with files := put1 D.files i fun f => ⟨b, b.length, f.count + 1⟩ }) ok hs (fun f => ⟨b, b.length, f.count + 1⟩) rfl rfl
    rw [this]
    show _ ≤ D.space
    dsimp only; omega
  | none =>
    rw [hs] at hb
    refine ⟨⟨⟨h.q.up, h.q.plan⟩, ?_⟩, rfl⟩
    have := used_new (D' := { D with lasts := dset D.seen n (some D.files.length), acts := [], files := D.files ++ [⟨b, b.length, 1⟩] }) (g := ⟨b, b.length, 1⟩) ok hs rfl rfl
    rw [this]
    show _ ≤ D.space
    rw [hs] at *
    dsimp only; omega
theorem room_eq (h : Fit D) : room D = D.space - usedBut D none := by unfold room; have := h.le; omega
theorem fits_ap (ok : DkOk D N) (h : Fit D) (n : Nm) (b : List UInt8) :
    Fits D (apR n b D).1 ∧ 0 ≤ (apR n b D).2.2 ∧ (apR n b D).2.2 ≤ b.length ∧ ((apR n b D).2.1 = 0 → (apR n b D).2.2 = b.length) ∧ (0 < (apR n b D).2.2 → (apR n b D).2.2 < b.length → usedBut (apR n b D).1 none = D.space) := by
  unfold apR
  have hr := room_eq h
  have hle := h.le
  split
  · rename_i e hf
    refine ⟨h.fits, Int.le_refl _, by dsimp only; omega, fun he => ?_, fun h => absurd h (by dsimp only; omega)⟩
    rcases find_none hf with ⟨_, he'⟩ | ⟨_, he'⟩ <;> simp [he'] at he
  · rename_i i e hf
    have hs := (find_seen hf).1
    dsimp only
    obtain ⟨k, hk⟩ : ∃ k : Int, k = if room D < (b.length : Int) then room D else b.length := ⟨_, rfl⟩
    rw [← hk]
    have hk0 : 0 ≤ k ∧ k ≤ b.length ∧ k ≤ room D ∧ (k < b.length → k = room D) := by rw [hk]; split <;> omega
    have hu : usedBut { D with files := put1 D.files i fun f => ⟨f.data ++ b.take k.toNat, f.synced, if k > 0 then f.count + 1 else f.count⟩ } none = usedBut D none + k := by
      have := used_put (D' := { D with files := put1 D.files i fun f => ⟨f.data ++ b.take k.toNat, f.synced, if k > 0 then f.count + 1 else f.count⟩ }) ok hs (fun f => ⟨f.data ++ b.take k.toNat, f.synced, if k > 0 then f.count + 1 else f.count⟩) rfl rfl
      rw [this, used_but ok hs]
      simp only [List.length_append, List.length_take]
      omega
    refine ⟨⟨⟨⟨h.q.up, h.q.plan⟩, ?_⟩, rfl⟩, hk0.1, hk0.2.1, fun he => ?_, fun _ hlt => ?_⟩
    · rw [hu]; show _ ≤ D.space; omega
    · split at he
      · simp at he
      · omega
    · rw [hu]; have := hk0.2.2.2 hlt; omega

theorem ok_st (ok : DkOk D N) : DkOk { D with steps := D.steps + 1 } (N + 1) := by
  have := ok.steps
  exact ⟨ok.space, fun i f hf => let ⟨a, b, c, e⟩ := ok.fil i f hf; ⟨a, b, c, by omega⟩, Nat.le_trans ok.num (Nat.le_succ _), ok.good, ⟨by dsimp only; omega, by dsimp only; omega⟩, Nat.le_trans ok.acts (Nat.le_succ _)⟩
theorem fits_append (ok : DkOk D N) (h : Fit D) (n : Nm) (b : List UInt8) :
    Fits D (callAppend D n b).1 ∧ 0 ≤ (callAppend D n b).2.2 ∧ (callAppend D n b).2.2 ≤ b.length ∧ ((callAppend D n b).2.1 = 0 → (callAppend D n b).2.2 = b.length) ∧ (0 < (callAppend D n b).2.2 → (callAppend D n b).2.2 < b.length → usedBut (callAppend D n b).1 none = D.space) := by
  have := fits_ap (ok_st ok) (h.st (D.steps + 1)) n b
  unfold callAppend
  rw [step_quiet h.q]
  obtain ⟨h1, h2⟩ := this
  have hd : (apR n b { D with steps := D.steps + 1 }).1.down = false := h1.fit.q.up
  dsimp only
  rw [if_neg (by rw [hd]; simp)]
  exact ⟨⟨h1.fit, h1.space⟩, h2⟩
theorem ite_fits {c : Prop} [Decidable c] {x y : Dk × Bool} (h1 : c → Fits D x.1) (h2 : ¬ c → Fits D y.1) : Fits D (if c then x else y).1 := by
  by_cases h : c
  · rw [if_pos h]; exact h1 h
  · rw [if_neg h]; exact h2 h
theorem fits_do (ok : DkOk D N) (h : Fit D) {o : DOp} (h10 : o.kind ≠ 10) (h11 : o.kind ≠ 11) : Fits D (doOp o D).1 := by
  have ok1 := ok_st ok
  have h1 := h.st (D.steps + 1)
  have up : ∀ {X : Dk}, Fits { D with steps := D.steps + 1 } X → Fits D X := fun f => ⟨f.fit, f.space⟩
  exact ite_fits (fun _ => fits_u h (up (fits_mk ok1 h1 _))) fun _ => ite_fits (fun _ => (fits_append ok h _ _).1) fun _ => ite_fits (fun _ => fits_u h (up (fits_sy ok1 h1 _))) fun _ =>
    ite_fits (fun _ => fits_u h (up (fits_settle h1))) fun _ => ite_fits (fun _ => fits_u h (up (fits_mv ok1 h1 _ _))) fun _ => ite_fits (fun _ => fits_u h (up (fits_rm ok1 h1 _))) fun _ =>
    ite_fits (fun _ => by show Fits D (Dsk.step D [] (rdR o.name) none).1; rw [step_quiet h.q, rd_fst]; exact up h1.fits) fun _ =>
    ite_fits (fun _ => by show Fits D (Dsk.step D (0, 0, 0) (stR o.name) none).1; rw [step_quiet h.q, st_fst]; exact up h1.fits) fun _ =>
    ite_fits (fun _ => fits_put ok h _ _) fun _ => ite_fits (fun e => absurd e h10) fun _ => ite_fits (fun e => absurd e h11) fun _ =>
    ite_fits (fun _ => by show Fits D (restart D); unfold restart; rw [if_neg (by rw [h.q.up]; simp)]; exact h.fits) fun _ => h.fits
theorem sizes_used (ok : DkOk D N) : sumZ ((texts D).map fun t => (t.size : Int)) = usedBut D none := by
  obtain ⟨hl, _⟩ := ok.seen.names
  rw [used_wt hl]
  unfold texts
  rw [List.map_map]
  congr 1
  refine List.map_congr_left fun n hn => ?_
  obtain ⟨i, hi⟩ := Option.isSome_iff_exists.1 ((hl.2 n).1 hn)
  simp only [Function.comp, hi]
  rfl
end
end Go.Proofs.Ytdabehgbhndimaa
