/- The disk in memory, and how it stays. Conditions: none. -/
import Derived.Test.YtdabehgbhndimaaFn
import Derived.Test.YtdabehgbhndimaaDspec
import Derived.Test.YtdabehgbhndimaaVxQ
set_option linter.unusedSimpArgs false
set_option linter.unusedVariables false
namespace Go.Proofs.Ytdabehgbhndimaa
open Go Go.Vx Dsk

abbrev sv (s : Sl) : Value := .slice s.a s.len s.cap
abbrev iv (l : List Int) : List Value := l.map (Value.int .i64)
abbrev Ints (w : World) (s : Sl) (l : List Int) : Prop := SlIn w s 3 1 (iv l)
abbrev Bytes (w : World) (s : Sl) (l : List UInt8) : Prop := SlX w s 1 (bv l)
abbrev BytesO (w : World) (B : Nat) (s : Sl) (l : List UInt8) : Prop := SlOwn w B s 5 1 (bv l)
theorem iv_one (l : List Int) : ∀ v ∈ iv l, isOne v = true := by
  intro v hv
  obtain ⟨x, _, rfl⟩ := List.mem_map.1 hv
  rfl
theorem EB : ElemOk Try.prog 33 5 1 1 := ElemOk.of (z := .int .u8 0) i33_ok i5_ok rfl rfl rfl (by decide)
theorem EI : ElemOk Try.prog 35 3 1 8 := ElemOk.of (z := .int .i64 0) i35_ok i3_ok rfl rfl rfl (by decide)
theorem ES : ElemOk Try.prog 59 9 1 16 := ElemOk.of (z := .string ⟨#[]⟩) i59_ok i9_ok rfl rfl rfl (by decide)
theorem EA : ElemOk Try.prog 88 107 1 8 := ElemOk.of (z := .nilFunc) i88_ok i107_ok rfl rfl rfl (by decide)
theorem uB : Try.prog.underlying 33 = some (.slice 5) := i33_ok.und
theorem ub : Try.prog.underlying 5 = some (.int .u8) := i5_ok.und
theorem uI : Try.prog.underlying 35 = some (.slice 3) := i35_ok.und
theorem uS : Try.prog.underlying 59 = some (.slice 9) := i59_ok.und
theorem us : Try.prog.underlying 9 = some .string := i9_ok.und
theorem uA : Try.prog.underlying 88 = some (.slice 107) := i88_ok.und
theorem uE : ∃ ms, Try.prog.underlying 31 = some (.interface ms) := ⟨_, i31_ok.und⟩
theorem uD : Try.prog.underlying 87 = some (.map 9 85) := i87_ok.und
theorem MD : MapTyK Key.str Try.prog 87 (.pointer none) := MapTyK.of i87_ok i9_ok i85_ok rfl rfl rfl
theorem MP : MapTyK Key.int Try.prog 89 (.agg #[.int .i64 0, .int .i64 0, .int .i64 0, .int .i64 0, .slice none 0 0]) := MapTyK.of i89_ok i3_ok i74_ok rfl rfl rfl

/-- a directory: a map from names to files -/
structure DirIn (w : World) (m : Nat) (fb : List Nat) (f : Dir) : Prop where
  ex : ∃ es, MapK Key.str w m es ∧ ∀ k, kget es k = (f k).map fun i => Value.pointer (some (at0 (fb.getD i 0)))
  ids : ∀ k i, f k = some i → i < fb.length
/-- a file's box -/
abbrev fbox (i : Nat) (s : Sl) (f : Fl) : Obj := .cells #[.int .i64 ((i : Int) + 1), sv s, .int .i64 (f.synced : Int), .int .i64 f.count] 93 (0, 0)
structure FilesIn (w : World) (fb : List Nat) (ds : List Sl) (fs : List Fl) : Prop where
  lf : fb.length = fs.length
  ld : ds.length = fs.length
  nd : fb.Nodup
  dd : ∀ (i j : Nat) (s t : Sl), i < j → ds[i]? = some s → ds[j]? = some t → ∀ k, s.blk k → ¬ t.blk k
  at_ : ∀ (i b : Nat) (s : Sl) (f : Fl), fb[i]? = some b → ds[i]? = some s → fs[i]? = some f → w.heap[b]? = some (fbox i s f) ∧ BytesO w 0 s f.data
/-- what was done to the directory, as a closure -/
def ActIn (w : World) (F : Nat → Prop) (fb : List Nat) (v : Value) : Deed → Prop
  | .rm n => ∃ b, v = .func (.func 44) #[] #[.pointer (some (at0 b))] ∧ w.heap[b]? = some (.cells #[.string n] 9 (0, 0)) ∧ F b
  | .mk n i => ∃ b1 b2, v = .func (.func 72) #[] #[.pointer (some (at0 b1)), .pointer (some (at0 b2))] ∧ w.heap[b1]? = some (.cells #[.pointer (some (at0 (fb.getD i 0)))] 85 (0, 0)) ∧ w.heap[b2]? = some (.cells #[.string n] 9 (0, 0)) ∧ F b1 ∧ F b2 ∧ i < fb.length
  | .mv a b i => ∃ b1 b2, v = .func (.func 74) #[] #[.pointer (some (at0 b1)), .pointer (some (at0 b2))] ∧ w.heap[b1]? = some (.cells #[.pointer (some (at0 (fb.getD i 0))), .string a] 102 (0, 0)) ∧ w.heap[b2]? = some (.cells #[.string b] 9 (0, 0)) ∧ F b1 ∧ F b2 ∧ i < fb.length
structure ActsIn (w : World) (F : Nat → Prop) (fb : List Nat) (sa : Sl) (vs : List Value) (as_ : List Deed) : Prop where
  row : SlOwn w 0 sa 107 1 vs
  len : vs.length = as_.length
  at_ : ∀ (i : Nat) (v : Value) (a : Deed), vs[i]? = some v → as_[i]? = some a → ActIn w F fb v a
def FaultIn (w : World) (F : Nat → Prop) (k : Int) : Option Value → Option Fault → Prop
  | none, none => True
  | some v, some f => ∃ s : Sl, v = .agg #[.int .i64 k, .int .i64 f.kind, .int .i64 f.part, .int .i64 f.names, sv s] ∧ Ints w s f.bytes ∧ (∀ k, s.blk k → F k) ∧ f.bytes.length ≤ 2 ^ 60
  | _, _ => False
def PlanIn (w : World) (F : Nat → Prop) (pl : Option Nat) (p : Int → Option Fault) : Prop :=
  (pl = none ∧ ∀ k, p k = none) ∨ ∃ m es, pl = some m ∧ F m ∧ MapK Key.int w m es ∧ ∀ k, FaultIn w F k (kget es k) (p k)
/-- the disk's box -/
abbrev dbox (D : Dk) (ms ml : Nat) (sa : Sl) (pl : Option Nat) : Obj := .cells #[.int .i64 D.space, .map (some ms), .map (some ml), sv sa, .int .i64 (D.files.length : Int), .bool D.down, .map pl, .int .i64 D.steps] 91 (0, 0)
structure DiskAt (w : World) (d : Nat) (F : Nat → Prop) (D : Dk) (ms ml : Nat) (sa : Sl) (pl : Option Nat) (vs : List Value) (fb : List Nat) (ds : List Sl) : Prop where
  box : w.heap[d]? = some (dbox D ms ml sa pl)
  seen : DirIn w ms fb D.seen
  lasts : DirIn w ml fb D.lasts
  files : FilesIn w fb ds D.files
  acts : ActsIn w F fb sa vs D.acts
  plan : PlanIn w F pl D.plan
  ne : ms ≠ ml
  nes : pl ≠ some ms
  nel : pl ≠ some ml
  fd : F d
  fms : F ms
  fml : F ml
  ffb : ∀ b ∈ fb, F b
  fds : ∀ s ∈ ds, ∀ k, s.blk k → F k
  fsa : ∀ k, sa.blk k → F k
  lt : ∀ k, F k → k < w.heap.size
def DiskIn (w : World) (d : Nat) (F : Nat → Prop) (D : Dk) : Prop := ∃ ms ml sa pl vs fb ds, DiskAt w d F D ms ml sa pl vs fb ds

section
variable {w w' : World} {S F F' : Nat → Prop} {d m : Nat} {f : Dir} {fb : List Nat} {ds : List Sl} {fs : List Fl} {sa : Sl} {vs : List Value} {D : Dk} {pl : Option Nat} {p : Int → Option Fault}

theorem MapK.heap_at {κ : Type} [BEq κ] [LawfulBEq κ] {k_ : Key κ} {es : List (KEnt κ)} (h : MapK k_ w m es) : ∃ o c, w.heap[m]? = some (.map o c) := by
  obtain ⟨⟨c, h1, _⟩, _, _⟩ := h
  exact ⟨_, c, h1⟩
/-- no block of cells of a type among them: a map -/
theorem NoTy.map {o : Array MapEntry} {c : Nat} {t : TypeId} (h : w.heap[m]? = some (.map o c)) : NoTy w (fun k => k = m) t := by
  rintro k rfl c' fr hc
  rw [h] at hc; cases hc
theorem DirIn.upd (h : DirIn w m fb f) (u : Upd S w w') (hS : ¬ S m) : DirIn w' m fb f := by
  obtain ⟨⟨es, h1, h2⟩, h3⟩ := h
  exact ⟨⟨es, h1.upd u hS, h2⟩, h3⟩
theorem DirIn.map_at (h : DirIn w m fb f) : ∃ o c, w.heap[m]? = some (.map o c) := by
  obtain ⟨⟨es, h1, _⟩, _⟩ := h
  exact MapK.heap_at h1
theorem FilesIn.upd (h : FilesIn w fb ds fs) (u : Upd S w w') (h1 : ∀ b ∈ fb, ¬ S b) (h2 : ∀ s ∈ ds, ∀ k, s.blk k → ¬ S k) : FilesIn w' fb ds fs :=
  ⟨h.lf, h.ld, h.nd, h.dd, fun i b s f hb hs hf => let ⟨g1, g2⟩ := h.at_ i b s f hb hs hf; ⟨u.get g1 (h1 b (List.mem_of_getElem? hb)), g2.upd u fun k _ hk => h2 s (List.mem_of_getElem? hs) k hk⟩⟩
theorem FilesIn.get_ds (h : FilesIn w fb ds fs) {i : Nat} {s : Sl} (hs : ds[i]? = some s) : ∃ b f, fb[i]? = some b ∧ fs[i]? = some f ∧ w.heap[b]? = some (fbox i s f) ∧ BytesO w 0 s f.data := by
  have hlt := (List.getElem?_eq_some_iff.1 hs).1
  have h1 := h.lf
  have h2 := h.ld
  obtain ⟨b, hb⟩ : ∃ b, fb[i]? = some b := ⟨_, List.getElem?_eq_getElem (by omega)⟩
  obtain ⟨f, hf⟩ : ∃ f, fs[i]? = some f := ⟨_, List.getElem?_eq_getElem (by omega)⟩
  exact ⟨b, f, hb, hf, h.at_ i b s f hb hs hf⟩
theorem FilesIn.get_fb (h : FilesIn w fb ds fs) {b : Nat} (hb : b ∈ fb) : ∃ i s f, fb[i]? = some b ∧ ds[i]? = some s ∧ fs[i]? = some f ∧ w.heap[b]? = some (fbox i s f) ∧ BytesO w 0 s f.data := by
  obtain ⟨i, hi, hb⟩ := List.mem_iff_getElem.1 hb
  have h1 := h.lf
  have h2 := h.ld
  obtain ⟨s, hs⟩ : ∃ s, ds[i]? = some s := ⟨_, List.getElem?_eq_getElem (by omega)⟩
  obtain ⟨f, hf⟩ : ∃ f, fs[i]? = some f := ⟨_, List.getElem?_eq_getElem (by omega)⟩
  have hb' : fb[i]? = some b := by rw [List.getElem?_eq_getElem hi, hb]
  exact ⟨i, s, f, hb', hs, hf, h.at_ i b s f hb' hs hf⟩
theorem FilesIn.ty (h : FilesIn w fb ds fs) (u : Upd S w w') (h1 : NoTy w S 93) (h2 : NoTy w S 5) : FilesIn w' fb ds fs := by
  refine h.upd u (fun b hb hS => ?_) fun s hs k hk hS => ?_
  · obtain ⟨i, s, f, _, _, _, g, _⟩ := h.get_fb hb
    exact h1 b hS _ _ g
  · obtain ⟨i, hi, hs'⟩ := List.mem_iff_getElem.1 hs
    obtain ⟨b, f, _, _, _, g⟩ := h.get_ds (i := i) (s := s) (by rw [List.getElem?_eq_getElem hi, hs'])
    obtain ⟨c, fr, hc⟩ := g.in.blk_cells hk
    exact h2 k hS _ _ hc
theorem ActIn.upd {v : Value} {a : Deed} (h : ActIn w F fb v a) (u : Upd S w w') (hS : ∀ k, F k → ¬ S k) (hF : ∀ k, F k → F' k) : ActIn w' F' fb v a := by
  cases a with
  | rm n => obtain ⟨b, h1, h2, h3⟩ := h; exact ⟨b, h1, u.get h2 (hS b h3), hF b h3⟩
  | mk n i => obtain ⟨b1, b2, h1, h2, h3, h4, h5, h6⟩ := h; exact ⟨b1, b2, h1, u.get h2 (hS _ h4), u.get h3 (hS _ h5), hF _ h4, hF _ h5, h6⟩
  | mv a b i => obtain ⟨b1, b2, h1, h2, h3, h4, h5, h6⟩ := h; exact ⟨b1, b2, h1, u.get h2 (hS _ h4), u.get h3 (hS _ h5), hF _ h4, hF _ h5, h6⟩
theorem ActIn.ty {v : Value} {a : Deed} (h : ActIn w F fb v a) (u : Upd S w w') (h1 : NoTy w S 9) (h2 : NoTy w S 85) (h3 : NoTy w S 102) (hF : ∀ k, F k → F' k) : ActIn w' F' fb v a := by
  cases a with
  | rm n => obtain ⟨b, g1, g2, g3⟩ := h; exact ⟨b, g1, u.get g2 fun hS => h1 _ hS _ _ g2, hF _ g3⟩
  | mk n i => obtain ⟨b1, b2, g1, g2, g3, g4, g5, g6⟩ := h; exact ⟨b1, b2, g1, u.get g2 fun hS => h2 _ hS _ _ g2, u.get g3 fun hS => h1 _ hS _ _ g3, hF _ g4, hF _ g5, g6⟩
  | mv a b i => obtain ⟨b1, b2, g1, g2, g3, g4, g5, g6⟩ := h; exact ⟨b1, b2, g1, u.get g2 fun hS => h3 _ hS _ _ g2, u.get g3 fun hS => h1 _ hS _ _ g3, hF _ g4, hF _ g5, g6⟩
theorem ActsIn.ty {as_ : List Deed} (h : ActsIn w F fb sa vs as_) (u : Upd S w w') (h0 : NoTy w S 107) (h1 : NoTy w S 9) (h2 : NoTy w S 85) (h3 : NoTy w S 102) (hF : ∀ k, F k → F' k) : ActsIn w' F' fb sa vs as_ :=
  ⟨h.row.ty u h0, h.len, fun i v a hv ha => (h.at_ i v a hv ha).ty u h1 h2 h3 hF⟩
theorem FaultIn.upd {k : Int} {v : Option Value} {g : Option Fault} (h : FaultIn w F k v g) (u : Upd S w w') (hS : NoTy w S 3) (hF : ∀ k, F k → F' k) : FaultIn w' F' k v g := by
  match v, g, h with
  | none, none, _ => trivial
  | some v, some g, ⟨s, h1, h2, h3, h4⟩ => exact ⟨s, h1, h2.ty u hS, fun k hk => hF k (h3 k hk), h4⟩
theorem PlanIn.upd (h : PlanIn w F pl p) (u : Upd S w w') (h1 : ∀ m, pl = some m → ¬ S m) (hS : NoTy w S 3) (hF : ∀ k, F k → F' k) : PlanIn w' F' pl p := by
  rcases h with h | ⟨m, es, g1, g2, g3, g4⟩
  · exact .inl h
  · exact .inr ⟨m, es, g1, hF m g2, g3.upd u (h1 m g1), fun k => (g4 k).upd u hS hF⟩
theorem FaultIn.old {k : Int} {v : Option Value} {g : Option Fault} (h : FaultIn w F k v g) (u : Upd S w w') (hS : ∀ k, F k → ¬ S k) : FaultIn w' F k v g := by
  match v, g, h with
  | none, none, _ => trivial
  | some v, some g, ⟨s, h1, h2, h3, h4⟩ => exact ⟨s, h1, h2.upd u fun k hk => hS k (h3 k hk), h3, h4⟩
theorem PlanIn.map_at (h : PlanIn w F (some m) p) : ∃ o c, w.heap[m]? = some (.map o c) := by
  rcases h with ⟨h, _⟩ | ⟨m', es, g1, _, g3, _⟩
  · cases h
  · cases g1; exact MapK.heap_at g3

/-- nothing of the disk's turns -/
theorem DiskIn.frame (h : DiskIn w d F D) (u : Upd S w w') (hS : ∀ k, F k → ¬ S k) : DiskIn w' d F D := by
  obtain ⟨ms, ml, sa, pl, vs, fb, ds, A⟩ := h
  refine ⟨ms, ml, sa, pl, vs, fb, ds, u.get A.box (hS _ A.fd), A.seen.upd u (hS _ A.fms), A.lasts.upd u (hS _ A.fml), A.files.upd u (fun b hb => hS _ (A.ffb b hb)) (fun s hs k hk => hS _ (A.fds s hs k hk)),
    ⟨A.acts.row.upd u fun k _ hk => hS _ (A.fsa k hk), A.acts.len, fun i v a hv ha => (A.acts.at_ i v a hv ha).upd u hS fun _ h => h⟩, ?_, A.ne, A.nes, A.nel, A.fd, A.fms, A.fml, A.ffb, A.fds, A.fsa, fun k hk => Nat.lt_of_lt_of_le (A.lt k hk) u.size⟩
  rcases A.plan with h | ⟨m, es, g1, g2, g3, g4⟩
  · exact .inl h
  · exact .inr ⟨m, es, g1, g2, g3.upd u (hS m g2), fun k => (g4 k).old u hS⟩
theorem DiskIn.ext (h : DiskIn w d F D) (e : Ext w w') : DiskIn w' d F D := h.frame e fun _ _ => id
theorem DiskIn.lt (h : DiskIn w d F D) : ∀ k, F k → k < w.heap.size := by obtain ⟨ms, ml, sa, pl, vs, fb, ds, A⟩ := h; exact A.lt
theorem DiskIn.fd (h : DiskIn w d F D) : F d := by obtain ⟨ms, ml, sa, pl, vs, fb, ds, A⟩ := h; exact A.fd

/-- the disk's own box turns; the maps, the acts, the plan stay where they are -/
theorem DiskAt.box_set {ms ml : Nat} {D' : Dk} (A : DiskAt w d F D ms ml sa pl vs fb ds) (u : Upd (fun k => k = d) w w') (hb : w'.heap[d]? = some (dbox D' ms ml sa pl)) (h1 : D'.files = D.files) (h2 : D'.lasts = D.lasts) (h3 : D'.acts = D.acts) (h4 : D'.plan = D.plan) : DiskAt w' d F D' ms ml sa pl vs fb ds := by
  have no : ∀ t : TypeId, 91 ≠ t → NoTy w (fun k => k = d) t := fun t ht => NoTy.box A.box ht
  have nm : ∀ m, (∃ o c, w.heap[m]? = some (.map o c)) → ¬ (fun k => k = d) m := by
    rintro m ⟨o, c, hm⟩ rfl
    rw [A.box] at hm; cases hm
  have hseen : D'.seen = D.seen := by simp only [Dk.seen, h2, h3]
  refine ⟨hb, ?_, ?_, ?_, ?_, ?_, A.ne, A.nes, A.nel, A.fd, A.fms, A.fml, A.ffb, A.fds, A.fsa, fun k hk => Nat.lt_of_lt_of_le (A.lt k hk) u.size⟩
  · rw [hseen]; exact A.seen.upd u (nm _ A.seen.map_at)
  · rw [h2]; exact A.lasts.upd u (nm _ A.lasts.map_at)
  · rw [h1]; exact A.files.ty u (no _ (by decide)) (no _ (by decide))
  · rw [h3]; exact A.acts.ty u (no _ (by decide)) (no _ (by decide)) (no _ (by decide)) (no _ (by decide)) fun _ h => h
  · rw [h4]; exact A.plan.upd u (fun m hm => nm m (by subst hm; exact A.plan.map_at)) (no _ (by decide)) fun _ h => h
end
end Go.Proofs.Ytdabehgbhndimaa
