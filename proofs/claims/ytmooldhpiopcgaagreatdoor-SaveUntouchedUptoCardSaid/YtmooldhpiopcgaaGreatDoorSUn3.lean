/- YtmooldhpiopcgaaGreatDoorSUn3: parts of the proof, put together by program. -/
import Derived.Test.YtmooldhpiopcgaaGreatDoorSUn2
set_option linter.unusedVariables false
set_option linter.unusedSimpArgs false
set_option linter.unusedSectionVars false
set_option linter.unusedSimpArgs false
set_option linter.unusedVariables false
namespace Go.Proofs.YtmooldhpiopcgaaGreatDoor
namespace Dq
open Go Go.Vx Dsk
section
variable {w w' : World} {S F F' : Nat → Prop} {d m ms ml : Nat} {f : Dir} {fb : List Nat} {ds : List Sl} {fs : List Fl} {sa : Sl} {vs : List Value} {D : Dk} {pl : Option Nat} {p : Int → Option Fault} {N : Nat}
abbrev nv (l : List Nm) : List Value := l.map Value.string
abbrev StrsO (w : World) (B : Nat) (s : Sl) (l : List Nm) : Prop := SlOwn w B s 9 1 (nv l)
theorem sortS_call {B : Nat} {s : Sl} {l : List Nm} {K : Unit → World → Prop} (o : StrsO w B s l) (hl : l.length ≤ 2 ^ 60) (hK : ∀ w', StrsO w' B s (sortN l) → Upd s.blk w w' → K () w') :
    callT Tryz.prog 101 #[.slice s.a s.len s.cap] (.tup []) K w := by
  have hn := o.len1
  rw [List.length_map] at hn
  have hls : (sortN l).length = l.length := (sortN_perm l).length_eq
  rcases o.at_ with ⟨ha, hc⟩ | ⟨blk, off, c, ha, hB, hb, hcap, hv⟩
  · have h0 : s.len = 0 := by have := o.le; omega
    have hl0 : l = [] := List.length_eq_zero_iff.1 (by omega)
    subst hl0
    have e : sortN [] = [] := by simp [sortN]
    rw [e] at hK
    rw [ha, h0]
    exact (Tryz.slices_Sort_string_none none s.cap w).mono fun e w' ⟨he, hw⟩ => ⟨(), he, by subst hw; exact hK w' o (Upd.refl _ _)⟩
  · have hH : Go.Sort.Holds encStr w blk off (l.map fun n => n.data.toList).toArray := by
      intro j hj
      have hj' : j < l.length := by simpa using hj
      refine ⟨cell_of hb ?_, by simp [World.frozen?, hb]⟩
      have := hv j (.string l[j]) (by simp [hj'])
      rw [this, getElem!_pos _ j hj]
      simp [nm_mk]
    have hrun := Tryz.slices_Sort_string blk off s.cap (l.map fun n => n.data.toList) w hH (lt_of_heap hb) (by rw [List.length_map]; omega)
    rw [List.length_map] at hrun
    rw [ha, ← hn]
    refine hrun.mono fun e w' ⟨he, n, os, hw⟩ => ⟨(), he, ?_⟩
    obtain ⟨srt, hsrt⟩ : ∃ srt, srt = (l.map fun n => n.data.toList).mergeSort fun x y => decide (x ≤ y) := ⟨_, rfl⟩
    have hsl : srt.length = l.length := by rw [hsrt, List.length_mergeSort, List.length_map]
    have hso : sortN l = srt.map fun l => (⟨l.toArray⟩ : ByteArray) := by rw [hsrt]; rfl
    rw [← hsrt] at hw
    obtain ⟨c', hc'⟩ : ∃ c', c' = Go.Sort.putCells encStr off srt.toArray c := ⟨_, rfl⟩
    have hsz : c'.size = c.size := by rw [hc']; simp [Go.Sort.putCells]
    have hheap : w'.heap = w.heap.modify blk (Go.Sort.onCells (Go.Sort.putCells encStr off srt.toArray)) ++ os := by rw [hw]; rfl
    have hlt := lt_of_heap hb
    have hblk : w'.heap[blk]? = some (.cells c' 9 (0, 0)) := by
      rw [hheap, Array.getElem?_append_left (by simpa using hlt), Array.getElem?_modify, if_pos rfl, hb, hc']
      rfl
    have hupd : Upd s.blk w w' := by
      refine ⟨by rw [hw]; rfl, by rw [hw]; rfl, by rw [hw]; rfl, by rw [hheap]; simp, fun k hk hs => ?_⟩
      have hne : ¬ blk = k := fun h => hs ⟨_, ha, h⟩
      rw [hheap, Array.getElem?_append_left (by simpa using hk), Array.getElem?_modify, if_neg hne]
    refine hK w' ⟨by rw [List.length_map, hls, hn]; simp, o.le, .inr ⟨blk, off, c', ha, hB, hblk, by rw [hsz]; exact hcap, fun i v hi => ?_⟩⟩ hupd
    have ee : nv (sortN l) = srt.map encStr := by rw [hso]; simp [nv]
    rw [ee] at hi
    have hil : i < srt.length := by have := (List.getElem?_eq_some_iff.1 hi).1; simpa using this
    have hle := o.le
    have hiv : v = encStr srt[i] := by
      rw [List.getElem?_map, List.getElem?_eq_getElem hil] at hi
      exact (Option.some.inj hi).symm
    have hcs : off + i < c.size := by omega
    rw [hc', hiv]
    unfold Go.Sort.putCells
    rw [Array.getElem?_mapIdx, Array.getElem?_eq_getElem hcs]
    have hcond : off ≤ off + i ∧ off + i < off + srt.toArray.size := ⟨by omega, by simp; omega⟩
    simp only [Option.map_some, if_pos hcond]
    rw [show off + i - off = i by omega, getElem!_pos _ i (by simpa using hil)]
    rfl
theorem onAll_append (l : List Deed) (a : Deed) (f : Dir) : onAll (l ++ [a]) f = a.on (onAll l f) := by
  induction l generalizing f with
  | nil => rfl
  | cons x r ih => simp only [List.cons_append, onAll]; exact ih _
theorem DirIn.range (h : DirIn w m fb f) {K : Option Addr → World → Prop} (hK : ∀ r w' es, Iter w' r m (es.map (KEnt.ent Key.str)) [] → Ext w w' → w.heap.size ≤ r → MapK Key.str w m es → (∀ k, kget es k = (f k).map fun i => Value.pointer (some (at0 (fb.getD i 0)))) → Lists f (es.map (·.1)) → K (some (at0 r)) w') :
    rawT Tryz.prog (.one (.one .ptr)) (Instr.range 103 (.map (some m))) K w := by
  obtain ⟨es, h1, h2, h3⟩ := h.lists
  have h1' := h1
  obtain ⟨⟨c, g1, g2⟩, g3, g4⟩ := h1
  refine range_r uD g1 (fun x hx => ?_) ?_ fun r w' hi e hr => hK r w' es hi e (Nat.le_of_eq hr.symm) h1' h2 h3
  · obtain ⟨y, hy, rfl⟩ := List.mem_map.1 hx
    exact g2 y hy
  · rw [List.map_map]; exact g4
theorem dir_entry {es : List (KEnt ByteArray)} (h1 : MapK Key.str w m es) (h2 : ∀ k, kget es k = (f k).map fun i => Value.pointer (some (at0 (fb.getD i 0)))) {x : MapEntry} (hx : x ∈ es.map (KEnt.ent Key.str)) :
    ∃ (y : KEnt ByteArray) (i : Nat), y ∈ es ∧ x = KEnt.ent Key.str y ∧ f y.1 = some i ∧ y.2.1 = .pointer (some (at0 (fb.getD i 0))) := by
  obtain ⟨y, hy, rfl⟩ := List.mem_map.1 hx
  have := kget_mem h1.keys y hy
  rw [h2] at this
  obtain ⟨i, hi, he⟩ := Option.map_eq_some_iff.1 this
  exact ⟨y, i, hy, rfl, hi, he.symm⟩
theorem names_call (h : DirIn w m fb f) (hf : ∀ l, Lists f l → l.length ≤ 2 ^ 20) {K : Sl → World → Prop} (hK : ∀ s w', StrsO w' w.heap.size s (names f) → Ext w w' → K s w') : callT Tryz.prog 71 #[.map (some m)] (.one (.one .sl)) K w := by
  refine F71_calls ?_
  unfold F71
  refine join_r (fun x w' => ∃ l, StrsO w' w.heap.size x.1 l ∧ Ext w w' ∧ Lists f l) ?_ ?_
  · refine h.range fun r w1 es hi e1 hr hm hg hl => ?_
    have hcap := hf _ hl
    rw [List.length_map] at hcap
    refine sloop_r (fun s' w' => ∃ (done : List (KEnt ByteArray)), Iter w' r m (es.map (KEnt.ent Key.str)) (done.map (KEnt.ent Key.str)) ∧ StrsO w' w.heap.size s'.1 (done.map (·.1)) ∧ Ext w w' ∧ done.length ≤ es.length) (fun s' w' => es.length - s'.1.len) ⟨[], hi, SlOwn.nil w1 _ _ 1, e1, Nat.zero_le _⟩ ?_
    rintro ⟨s1, ⟨⟩⟩ w2 ⟨done, hi2, o2, e2, hdl⟩
    dsimp only at o2 ⊢
    have hol := o2.len1
    rw [List.length_map, List.length_map] at hol
    refine next_r hi2 (fun w3 e3 _ hp => sif_false ⟨done.map (·.1), o2.ext e3, e2.trans e3, ?_⟩) fun x w3 hx hxd hi3 u3 hz3 => sif_true ?_
    · have hpk : (done.map (·.1)).Perm (es.map (·.1)) := by
        have h5 := hp.map fun e : MapEntry => match e.key with | .string k => k | _ => ⟨#[]⟩
        rw [List.map_map, List.map_map] at h5
        exact h5
      exact ⟨hpk.nodup_iff.2 hl.1, fun n => (hpk.mem_iff).trans (hl.2 n)⟩
    · obtain ⟨y, i, hy, rfl, hfy, hv⟩ := dir_entry hm hg hx
      have e3 : Ext w w3 := e2.step u3 (by rintro k rfl; exact hr)
      have o3 := o2.upd u3 fun k _ hk he => by
        obtain ⟨c, fr, hc⟩ := o2.in.blk_cells hk
        obtain ⟨cl, _, _, g3⟩ := hi2.at_
        subst he
        rw [g3] at hc; cases hc
      refine entry_r hi3 (y.1, some (at0 (fb.getD i 0)), ()) (by simp only [KEnt.ent, hv]; rfl) ?_
      refine newO_r fun b11 w4 e4 n4 _ _ => ?_
      have h1 : SlIn w4 ⟨some (at0 b11), 1, 1⟩ 9 1 [.string y.1] := SlIn.of_box (n := 1) (sz := 1) n4 rfl
      refine append_r (x := ⟨some (at0 b11), 1, 1⟩) ES uS (o3.ext e4) h1 (fun v hv => by simp at hv; subst hv; rfl) (by dsimp only; omega) (e3.trans e4).size fun s5 w5 o5 hl5 u5 _ => ?_
      have hnew : ∀ k, s1.blk k → ∃ c t fr, w4.heap[k]? = some (.cells c t fr) := fun k hk => by
        obtain ⟨c, fr, hc⟩ := (o3.ext e4).in.blk_cells hk
        exact ⟨c, _, fr, hc⟩
      have hi5 := (hi3.ext e4).cells u5 hnew
      have hi5' : Iter w5 r m (es.map (KEnt.ent Key.str)) ((done ++ [y]).map (KEnt.ent Key.str)) := by simpa using hi5
      have hdn : (done ++ [y]).length ≤ es.length := by
        have h6 := List.Nodup.length_le_of_subset (nodup_of_born hi5'.dnd) hi5'.sub
        simpa using h6
      simp only [List.length_append, List.length_cons, List.length_nil] at hdn
      have hl5' : s5.len = s1.len + 1 := hl5
      have ee : nv ((done ++ [y]).map (·.1)) = nv (done.map (·.1)) ++ [.string y.1] := by simp [nv]
      exact ⟨⟨done ++ [y], hi5', by show SlOwn _ _ _ _ _ (nv _); rw [ee]; exact o5, (e3.trans e4).step u5 fun k hk => (o3.ext e4).blk_ge hk, by simpa using hdn⟩, by omega⟩
  · rintro ⟨s1, ⟨⟩⟩ w1 ⟨l, o1, e1, hl⟩
    dsimp only at o1 ⊢
    refine sortS_call o1 (by have := hf l hl; omega) fun w2 o2 u2 => ?_
    rw [names_eq hl] at hK
    exact hK s1 w2 o2 (e1.step u2 fun k hk => o1.blk_ge hk)
theorem DirIn.set (h : DirIn w m fb f) {n : Nm} {i b : Nat} (hi : i < fb.length) (hb : fb.getD i 0 = b) {K : World → Prop} (hK : ∀ w', DirIn w' m fb (dset f n (some i)) → Upd (fun k => k = m) w w' → K w') :
    rawU Tryz.prog (Instr.mapUpdate 103 (.map (some m)) (.string n) (.pointer (some (at0 b)))) K w := by
  subst hb
  obtain ⟨⟨es, h1, h2⟩, h3⟩ := h
  obtain ⟨es', w', hr, hm', hg, u, _, _⟩ := updateK_run MD h1 n (.pointer (some (at0 (fb.getD i 0))))
  refine ⟨w', hr, hK w' ⟨⟨es', hm', fun k => ?_⟩, fun k j hj => ?_⟩ u⟩
  · rw [hg k, h2 k]
    unfold dset
    by_cases e : k = n
    · rw [if_pos e, if_pos e]; rfl
    · rw [if_neg e, if_neg e]
  · unfold dset at hj
    split at hj
    · cases hj; exact hi
    · exact h3 k j hj
theorem DirIn.del (h : DirIn w m fb f) {n : Nm} {K : Unit → World → Prop} (hK : ∀ w', DirIn w' m fb (dset f n none) → Upd (fun k => k = m) w w' → K () w') :
    rawT Tryz.prog (.tup []) (Builtin.delete_ #[103, 9] 0 #[.map (some m), .string n]) K w := by
  obtain ⟨⟨es, h1, h2⟩, h3⟩ := h
  obtain ⟨es', w', hr, hm', hg, u, _, _⟩ := deleteK_run (kt' := 9) (rt := 0) MD h1 n
  refine ⟨(), w', hr, hK w' ⟨⟨es', hm', fun k => ?_⟩, fun k j hj => ?_⟩ u⟩
  · rw [hg k, h2 k]
    unfold dset
    by_cases e : k = n
    · rw [if_pos e, if_pos e]; rfl
    · rw [if_neg e, if_neg e]
  · unfold dset at hj
    split at hj
    · cases hj
    · exact h3 k j hj
theorem func_x {g : FuncId} {caps args : Array Value} {t : RTy} {K : t.T → World → Prop} (hf : ((Tryz.prog.funcs[g]?).map fun fn => (fn.body.isNone, fn.name == "runtime.NumGoroutine")) = some (false, false)) (h : callT Tryz.prog g (args ++ caps) t K w) :
    callX Tryz.prog (do let d ← Deferred.ofValue (.func (.func g) #[] caps) args; invoke d.target d.args : Sem Next) t K w := by
  refine .inl ⟨g, args ++ caps, ?_, h⟩
  have := run_callFunc (P := Tryz.prog) (f := g) (args := args ++ caps) hf w
  simp only [Deferred.ofValue, pure_bind, invoke]
  have e : (#[] ++ args ++ caps : Array Value) = args ++ caps := by simp
  first
    | (rw [e]; exact this)
    | (simp only [Array.empty_append]; exact this)
theorem deed_run {v : Value} {a : Deed} (ha : ActIn w F fb v a) (h : DirIn w m fb f) {K : Unit → World → Prop} (hK : ∀ w', DirIn w' m fb (a.on f) → Upd (fun k => k = m) w w' → K () w') :
    callX Tryz.prog (do let d ← Deferred.ofValue v #[.map (some m)]; invoke d.target d.args : Sem Next) (.tup []) K w := by
  have nc : ∀ {b c t fr}, w.heap[b]? = some (.cells c t fr) → ¬ (fun k => k = m) b := by
    rintro b c t fr hb rfl
    obtain ⟨o, c', hm⟩ := h.map_at
    rw [hm] at hb; cases hb
  cases a with
  | rm n =>
    obtain ⟨b, rfl, h2, h3⟩ := ha
    refine func_x (by kernel_rfl) ?_
    refine F105_calls (a0 := some m) (v0 := at0 b) ?_
    unfold F105
    exact ld_r h2 (x := n) rfl (h.del fun w' h' u => hK w' h' u)
  | mk n i =>
    obtain ⟨b1, b2, rfl, h2, h3, _, _, hi⟩ := ha
    refine func_x (by kernel_rfl) ?_
    refine F167_calls (a0 := some m) (v0 := at0 b1) (v1 := at0 b2) ?_
    unfold F167
    exact ld_r h3 (x := n) rfl (ld_r h2 (x := some (at0 (fb.getD i 0))) rfl (h.set hi rfl fun w' h' u => hK w' h' u))
  | mv x y i =>
    obtain ⟨b1, b2, rfl, h2, h3, _, _, hi⟩ := ha
    refine func_x (by kernel_rfl) ?_
    refine F172_calls (a0 := some m) (v0 := at0 b1) (v1 := at0 b2) ?_
    unfold F172
    rw [addr_add]
    refine ld_r h2 (x := x) rfl (h.del fun w1 h1 u1 => ?_)
    have g2 := u1.get h2 (nc h2)
    have g3 := u1.get h3 (nc h3)
    exact ld_r g3 (x := y) rfl (ld_r g2 (x := some (at0 (fb.getD i 0))) rfl (h1.set hi rfl fun w' h' u => hK w' h' (u1.trans u)))
end
end Dq
end Go.Proofs.YtmooldhpiopcgaaGreatDoor
set_option linter.unusedSimpArgs false
set_option linter.unusedVariables false
namespace Go.Proofs.YtmooldhpiopcgaaGreatDoor
namespace Dq
open Go Go.Vx Dsk
section
variable {w w' : World} {S F F' : Nat → Prop} {d m ms ml : Nat} {f : Dir} {fb : List Nat} {ds : List Sl} {fs : List Fl} {sa : Sl} {vs : List Value} {D : Dk} {pl : Option Nat} {p : Int → Option Fault} {N : Nat}
theorem DiskAt.more (A : DiskAt w d F D ms ml sa pl vs fb ds) (hF : ∀ k, F k → F' k) (hl : ∀ k, F' k → k < w.heap.size) : DiskAt w d F' D ms ml sa pl vs fb ds :=
  ⟨A.box, A.seen, A.lasts, A.files, A.acts.ty (Ext.refl w) (fun _ h => h.elim) (fun _ h => h.elim) (fun _ h => h.elim) (fun _ h => h.elim) hF, A.plan.upd (Ext.refl w) (fun _ _ => id) (fun _ h => h.elim) hF,
    A.ne, A.nes, A.nel, hF _ A.fd, hF _ A.fms, hF _ A.fml, fun b hb => hF _ (A.ffb b hb), fun s hs k hk => hF _ (A.fds s hs k hk), fun k hk => hF _ (A.fsa k hk), hl⟩
theorem put1_eq {l : List Fl} {i : Nat} {g : Fl} (h : l[i]? = some g) (f : Fl → Fl) : put1 l i f = l.set i (f g) := by
  obtain ⟨hi, hg⟩ := List.getElem?_eq_some_iff.1 h
  unfold put1
  apply List.ext_getElem?
  intro j
  rw [List.getElem?_modify, List.getElem?_set]
  by_cases hij : i = j
  · subst hij; simp [hi, hg]
  · simp [hij]
theorem DiskAt.file_set (A : DiskAt w d F D ms ml sa pl vs fb ds) {i b : Nat} {s s' : Sl} {g g' : Fl} (hb : fb[i]? = some b) (hs : ds[i]? = some s) (hg : D.files[i]? = some g) (u : Upd S w w') (hS : ∀ k, S k → k < w.heap.size → k = b ∨ s.blk k)
    (hb' : w'.heap[b]? = some (fbox i s' g')) (ho : BytesO w' 0 s' g'.data) (hn : ∀ k, s'.blk k → s.blk k ∨ w.heap.size ≤ k) :
    DiskAt w' d (fun k => F k ∨ s'.blk k) { D with files := D.files.set i g' } ms ml sa pl vs fb (ds.set i s') := by
  obtain ⟨hbox, hown⟩ := A.files.at_ i b s g hb hs hg
  have cel : ∀ k, S k → k < w.heap.size → ∃ c t fr, w.heap[k]? = some (.cells c t fr) ∧ (t = 123 ∨ t = 5) := fun k hk hl => by
    rcases hS k hk hl with rfl | h
    · exact ⟨_, _, _, hbox, .inl rfl⟩
    · obtain ⟨c, fr, hc⟩ := hown.in.blk_cells h
      exact ⟨c, _, fr, hc, .inr rfl⟩
  have no : ∀ t : TypeId, t ≠ 123 → t ≠ 5 → NoTy w S t := fun t h1 h2 k hk c fr hc => by
    obtain ⟨c', t', fr', hc', h⟩ := cel k hk (lt_of_heap hc)
    rw [hc] at hc'; cases hc'
    exact h.elim h1 h2
  have nm : ∀ m, (∃ o c, w.heap[m]? = some (.map o c)) → ¬ S m := fun m ⟨o, c, hm⟩ hk => by
    obtain ⟨c', t', fr', hc', h⟩ := cel m hk (lt_of_heap hm)
    rw [hm] at hc'; cases hc'
  have hil := (List.getElem?_eq_some_iff.1 hs).1
  have hgl := (List.getElem?_eq_some_iff.1 hg).1
  have nbyte : ∀ {j : Nat} {t : Sl} {k : Nat}, ds[j]? = some t → t.blk k → k ≠ b := fun {j t k} ht hk e => by
    obtain ⟨_, _, _, _, _, hw⟩ := A.files.get_ds ht
    obtain ⟨c, fr, hc⟩ := hw.in.blk_cells hk
    rw [e, hbox] at hc; cases hc
  refine ⟨?_, A.seen.upd u (nm _ A.seen.map_at), A.lasts.upd u (nm _ A.lasts.map_at), ⟨by simp [A.files.lf], by simp [A.files.ld], A.files.nd, fun j k t t' hjk ht ht' x hx hx' => ?_, fun j b' t g2 hb2 ht hg2 => ?_⟩, A.acts.ty u (no _ (by decide) (by decide)) (no _ (by decide) (by decide)) (no _ (by decide) (by decide)) (no _ (by decide) (by decide)) fun _ h => .inl h,
    A.plan.upd u (fun m hm => nm m (by subst hm; exact A.plan.map_at)) (no _ (by decide) (by decide)) fun _ h => .inl h, A.ne, A.nes, A.nel, .inl A.fd, .inl A.fms, .inl A.fml, fun b hb => .inl (A.ffb b hb), fun t ht k hk => ?_, fun k hk => .inl (A.fsa k hk), fun k hk => ?_⟩
  · have h1 := u.get A.box fun hk => no 107 (by decide) (by decide) d hk _ _ A.box
    rw [h1]
    simp only [dbox, List.length_set]
  ·
    have old : ∀ {j : Nat} {t : Sl}, ds[j]? = some t → t.blk x → x < w.heap.size := fun ht hk => by
      obtain ⟨_, _, _, _, _, hw⟩ := A.files.get_ds ht
      exact hw.in.blk_lt hk
    rw [List.getElem?_set] at ht ht'
    by_cases hij : i = j
    · subst hij
      rw [if_pos rfl, if_pos hil] at ht
      cases ht
      rw [if_neg (by omega)] at ht'
      rcases hn x hx with h | h
      · exact A.files.dd i k s t' hjk hs ht' x h hx'
      · have := old ht' hx'; omega
    · rw [if_neg hij] at ht
      by_cases hik : i = k
      · subst hik
        rw [if_pos rfl, if_pos hil] at ht'
        cases ht'
        rcases hn x hx' with h | h
        · exact A.files.dd j i t s hjk ht hs x hx h
        · have := old ht hx; omega
      · rw [if_neg hik] at ht'
        exact A.files.dd j k t t' hjk ht ht' x hx hx'
  · rw [List.getElem?_set] at ht hg2
    by_cases hij : i = j
    · subst hij
      rw [if_pos rfl, if_pos hil] at ht
      rw [if_pos rfl, if_pos hgl] at hg2
      cases ht; cases hg2
      rw [hb] at hb2; cases hb2
      exact ⟨hb', ho⟩
    · rw [if_neg hij] at ht hg2
      obtain ⟨h1, h2⟩ := A.files.at_ j b' t g2 hb2 ht hg2
      have hne : b' ≠ b := fun e => by
        subst e
        obtain ⟨x1, x2⟩ := List.getElem?_eq_some_iff.1 hb
        obtain ⟨y1, y2⟩ := List.getElem?_eq_some_iff.1 hb2
        exact hij ((List.getElem_inj A.files.nd).1 (x2.trans y2.symm))
      refine ⟨u.get h1 fun hk => ?_, h2.upd u fun k _ hk hSk => ?_⟩
      · rcases hS _ hk (lt_of_heap h1) with h | h
        · exact hne h
        · obtain ⟨c, fr, hc⟩ := hown.in.blk_cells h
          rw [h1] at hc; cases hc
      · rcases hS _ hSk (h2.in.blk_lt hk) with h | h
        · exact nbyte ht hk h
        · rcases Nat.lt_or_gt_of_ne hij with hlt | hlt
          · exact A.files.dd i j s t hlt hs ht k h hk
          · exact A.files.dd j i t s hlt ht hs k hk h
  · rcases List.mem_or_eq_of_mem_set ht with h | h
    · exact .inl (A.fds t h k hk)
    · subst h; exact .inr hk
  · rcases hk with hk | hk
    · exact Nat.lt_of_lt_of_le (A.lt k hk) u.size
    · exact ho.in.blk_lt hk
theorem getD_grow {l : List Nat} {i b : Nat} (h : i < l.length) : (l ++ [b]).getD i 0 = l.getD i 0 := by
  rw [List.getD_eq_getElem?_getD, List.getD_eq_getElem?_getD, List.getElem?_append_left h]
theorem DirIn.grow (h : DirIn w m fb f) (b : Nat) : DirIn w m (fb ++ [b]) f := by
  obtain ⟨⟨es, h1, h2⟩, h3⟩ := h
  refine ⟨⟨es, h1, fun k => ?_⟩, fun k i hi => by have := h3 k i hi; simp; omega⟩
  rw [h2]
  cases hk : f k with
  | none => rfl
  | some i => simp only [Option.map_some, getD_grow (h3 k i hk)]
theorem ActIn.grow {v : Value} {a : Deed} (h : ActIn w F fb v a) (b : Nat) : ActIn w F (fb ++ [b]) v a := by
  cases a with
  | rm n => exact h
  | mk n i => obtain ⟨b1, b2, h1, h2, h3, h4, h5, h6⟩ := h; exact ⟨b1, b2, h1, by rw [getD_grow h6]; exact h2, h3, h4, h5, by simp; omega⟩
  | mv x y i => obtain ⟨b1, b2, h1, h2, h3, h4, h5, h6⟩ := h; exact ⟨b1, b2, h1, by rw [getD_grow h6]; exact h2, h3, h4, h5, by simp; omega⟩
theorem fresh_call (A : DiskAt w d F D ms ml sa pl vs fb ds) (hN : D.files.length ≤ 2 ^ 60) {K : Option Addr → World → Prop}
    (hK : ∀ b w', DiskAt w' d (fun k => F k ∨ k = b) { D with files := D.files ++ [⟨[], 0, 0⟩] } ms ml sa pl vs (fb ++ [b]) (ds ++ [⟨none, 0, 0⟩]) → Upd (fun k => k = d) w w' → w.heap.size ≤ b → K (some (at0 b)) w') :
    callT Tryz.prog 61 #[.pointer (some (at0 d))] (.one (.one .ptr)) K w := by
  refine F61_calls ?_
  unfold F61
  have el : IntKind.wrap .i64 ((D.files.length : Int) + 1) = ((D.files.length + 1 : Nat) : Int) := by rw [IntWalk.i64_in _ ⟨by omega, by omega⟩]; omega
  refine nn_some ?_
  rw [addr_add, Nat.zero_add]
  refine ld_r A.box (x := (D.files.length : Int)) rfl (nn_some ?_)
  rw [addr_add, el, Nat.zero_add]
  refine stC_r A.box (by simp) fun w1 u1 n1 _ => nn_some ?_
  rw [addr_add, Nat.zero_add]
  refine ld_r n1 (x := ((D.files.length + 1 : Nat) : Int)) rfl ?_
  refine newO_r fun b w2 e2 n2 hb _ => ?_
  have hlf := A.files.lf
  have hld := A.files.ld
  have no : ∀ t : TypeId, 107 ≠ t → NoTy w (fun k => k = d) t := fun t ht => NoTy.box A.box ht
  have nm : ∀ m, (∃ o c, w.heap[m]? = some (.map o c)) → ¬ (fun k => k = d) m := by
    rintro m ⟨o, c, hm⟩ rfl
    rw [A.box] at hm; cases hm
  have u2 : Upd (fun k => k = d) w w2 := u1.trans (Upd.of_ext e2)
  have hfo := A.files.ty u2 (no _ (by decide)) (no _ (by decide))
  have hs1 := u1.size
  have n1' : w1.heap[d]? = some (dbox { D with files := D.files ++ [⟨[], 0, 0⟩] } ms ml sa pl) := by rw [n1]; simp [dbox]
  refine hK b w2 ⟨e2.ext_get n1', (A.seen.grow b).upd u2 (nm _ A.seen.map_at), (A.lasts.grow b).upd u2 (nm _ A.lasts.map_at), ⟨by simp [hlf], by simp [hld], ?_, fun j k t t' hjk ht ht' x hx hx' => ?_, fun j b' t g hb' ht hg => ?_⟩,
    ⟨(A.acts.row.ty u2 (no _ (by decide))), A.acts.len, fun i v a hv ha => ((A.acts.at_ i v a hv ha).grow b).ty u2 (no _ (by decide)) (no _ (by decide)) (no _ (by decide)) fun _ h => .inl h⟩,
    A.plan.upd u2 (fun m hm => nm m (by subst hm; exact A.plan.map_at)) (no _ (by decide)) fun _ h => .inl h, A.ne, A.nes, A.nel, .inl A.fd, .inl A.fms, .inl A.fml, fun x hx => ?_, fun t ht k hk => ?_, fun k hk => .inl (A.fsa k hk), fun k hk => ?_⟩ u2 (by omega)
  · rw [List.nodup_append]
    refine ⟨A.files.nd, by simp, fun x hx y hy e => ?_⟩
    simp at hy
    have := A.lt x (A.ffb x hx)
    omega
  · have hne : ∀ {j : Nat} {t : Sl}, (ds ++ [⟨none, 0, 0⟩])[j]? = some t → t.blk x → ds[j]? = some t := fun {j t} ht hk => by
      by_cases hj : j < ds.length
      · rwa [List.getElem?_append_left hj] at ht
      · rw [List.getElem?_append_right (by omega)] at ht
        have := List.mem_of_getElem? ht
        simp at this
        subst this
        obtain ⟨q, hq, _⟩ := hk
        cases hq
    exact A.files.dd j k t t' hjk (hne ht hx) (hne ht' hx') x hx hx'
  · by_cases hj : j < D.files.length
    · rw [List.getElem?_append_left (by omega)] at hb' ht hg
      exact hfo.at_ j b' t g hb' ht hg
    · have hj' : j = D.files.length := by
        have := (List.getElem?_eq_some_iff.1 hg).1
        simp at this; omega
      subst hj'
      have h1 : (fb ++ [b])[D.files.length]? = some b := by rw [← hlf]; simp
      have h2 : (ds ++ [(⟨none, 0, 0⟩ : Sl)])[D.files.length]? = some ⟨none, 0, 0⟩ := by rw [← hld]; simp
      have h3 : (D.files ++ [(⟨[], 0, 0⟩ : Fl)])[D.files.length]? = some ⟨[], 0, 0⟩ := by simp
      rw [h1] at hb'; rw [h2] at ht; rw [h3] at hg
      cases hb'; cases ht; cases hg
      refine ⟨?_, SlOwn.nil _ _ _ _⟩
      rw [n2]; simp [fbox]
  · rcases List.mem_append.1 hx with h | h
    · exact .inl (A.ffb x h)
    · simp at h; exact .inr h
  · rcases List.mem_append.1 ht with h | h
    · exact .inl (A.fds t h k hk)
    · simp at h
      subst h
      obtain ⟨q, hq, _⟩ := hk
      cases hq
  · rcases hk with hk | rfl
    · exact Nat.lt_of_lt_of_le (A.lt k hk) u2.size
    · exact lt_of_heap n2
structure Half (w : World) (d : Nat) (F : Nat → Prop) (D : Dk) (g : Dir) (ms ml : Nat) (sa : Sl) (pl : Option Nat) (fb : List Nat) (ds : List Sl) : Prop where
  box : w.heap[d]? = some (dbox D ms ml sa pl)
  seen : DirIn w ms fb g
  files : FilesIn w fb ds D.files
  plan : PlanIn w F pl D.plan
  nes : pl ≠ some ms
  fd : F d
  fms : F ms
  ffb : ∀ b ∈ fb, F b
  fds : ∀ s ∈ ds, ∀ k, s.blk k → F k
  lt : ∀ k, F k → k < w.heap.size
theorem DiskAt.half (A : DiskAt w d F D ms ml sa pl vs fb ds) : Half w d F D D.seen ms ml sa pl fb ds := ⟨A.box, A.seen, A.files, A.plan, A.nes, A.fd, A.fms, A.ffb, A.fds, A.lt⟩
theorem settle_gen {g : Dir} (A : Half w d F D g ms ml sa pl fb ds) {K : Unit → World → Prop} (hK : ∀ m' w', DiskAt w' d (fun k => F k ∨ k = m') { D with lasts := g, acts := [] } ms m' ⟨none, 0, 0⟩ pl [] fb ds → Upd (fun k => k = d) w w' → w.heap.size ≤ m' → K () w') :
    callT Tryz.prog 62 #[.pointer (some (at0 d))] (.tup []) K w := by
  refine F62_calls ?_
  unfold F62
  refine nn_some ?_
  rw [addr_add]
  refine ld_r A.box (x := some ms) rfl (mclone_call A.seen fun m' w1 h1 e1 hm' => nn_some ?_)
  rw [addr_add]
  refine stC_r (e1.ext_get A.box) (by simp) fun w2 u2 n2 _ => nn_some ?_
  rw [addr_add]
  refine stC_r n2 (by simp) fun w3 u3 n3 _ => ?_
  have u : Upd (fun k => k = d) w w3 := ((Upd.of_ext e1).trans u2).trans u3
  have no : ∀ t : TypeId, 107 ≠ t → NoTy w (fun k => k = d) t := fun t ht => NoTy.box A.box ht
  have nm : ∀ m, (∃ o c, w.heap[m]? = some (.map o c)) → ¬ (fun k => k = d) m := by
    rintro m ⟨o, c, hm⟩ rfl
    rw [A.box] at hm; cases hm
  have hd := lt_of_heap A.box
  have hml : ∀ k, F k → k ≠ m' := fun k hk e => by have := A.lt k hk; omega
  refine hK m' w3 ⟨?_, ?_, ?_, A.files.ty u (no _ (by decide)) (no _ (by decide)), ⟨SlOwn.nil _ _ _ _, rfl, fun i v a hv ha => by simp at hv⟩, A.plan.upd u (fun m hm => nm m (by subst hm; exact A.plan.map_at)) (no _ (by decide)) fun _ h => .inl h, hml _ A.fms, A.nes, fun e => ?_, .inl A.fd, .inl A.fms, .inr rfl, fun b hb => .inl (A.ffb b hb), fun t ht k hk => .inl (A.fds t ht k hk), fun k hk => (by obtain ⟨q, hq, _⟩ := hk; cases hq), fun k hk => ?_⟩ u (by omega)
  · rw [n3]; simp [dbox]
  · exact A.seen.upd u (nm _ A.seen.map_at)
  · show DirIn w3 m' fb g
    have hne : ¬ (fun k => k = d) m' := fun e => hml _ A.fd e.symm
    exact (h1.upd u2 hne).upd u3 hne
  · rcases A.plan with ⟨h, _⟩ | ⟨m, es, g1, g2, _⟩
    · rw [h] at e; cases e
    · rw [g1] at e; cases e; exact hml _ g2 rfl
  · rcases hk with hk | rfl
    · exact Nat.lt_of_lt_of_le (A.lt k hk) u.size
    · obtain ⟨o, c, hm⟩ := h1.map_at
      exact Nat.lt_of_lt_of_le (lt_of_heap hm) (u2.trans u3).size
theorem settle_call (A : DiskAt w d F D ms ml sa pl vs fb ds) {K : Unit → World → Prop} (hK : ∀ m' w', DiskAt w' d (fun k => F k ∨ k = m') (Dsk.settle D) ms m' ⟨none, 0, 0⟩ pl [] fb ds → Upd (fun k => k = d) w w' → w.heap.size ≤ m' → K () w') :
    callT Tryz.prog 62 #[.pointer (some (at0 d))] (.tup []) K w := settle_gen A.half hK
theorem fsync_call {b i : Nat} {s : Sl} {g : Fl} (hb : w.heap[b]? = some (fbox i s g)) {K : Unit → World → Prop} (hK : ∀ w', w'.heap[b]? = some (fbox i s ⟨g.data, s.len, g.count⟩) → Upd (fun k => k = b) w w' → w'.heap.size = w.heap.size → K () w') :
    callT Tryz.prog 64 #[.pointer (some (at0 b))] (.tup []) K w := by
  refine F64_calls ?_
  unfold F64
  refine nn_some ?_
  rw [addr_add]
  refine ld_r hb (x := s) rfl (nn_some ?_)
  rw [addr_add]
  refine stC_r hb (by simp) fun w1 u1 n1 hz => hK w1 ?_ u1 hz
  rw [n1]; simp [fbox]
theorem cut_call {b i : Nat} {s : Sl} {g : Fl} {more : Int} (hb : w.heap[b]? = some (fbox i s g)) (o : BytesO w 0 s g.data) (h1 : g.synced ≤ g.data.length) (h2 : g.data.length ≤ 2 ^ 40) {K : Unit → World → Prop}
    (hK : ∀ s' w', w'.heap[b]? = some (fbox i s' (g.cut more)) → BytesO w' 0 s' (g.cut more).data → (∀ k, s'.blk k → s.blk k) → Upd (fun k => k = b) w w' → K () w') :
    callT Tryz.prog 72 #[.pointer (some (at0 b)), .int .i64 more] (.tup []) K w := by
  refine F72_calls ?_
  unfold F72
  have hl := o.len1
  rw [List.length_map] at hl
  have hle := o.le
  refine drew_r fun w0 e0 _ => ?_
  have hb := e0.ext_get hb
  have o := o.ext e0
  simp only [nn_some_iff, addr_add, Nat.zero_add]
  refine ld_r hb (x := (g.synced : Int)) rfl (nn_some (ld_r hb (x := s) rfl (nn_some (ld_r hb (x := (g.synced : Int)) rfl (nn_some (ld_r hb (x := s) rfl ?_))))))
  obtain ⟨n, hn⟩ : ∃ n : Nat, n = g.synced + (min (max more 0).toNat (g.data.length - g.synced)) := ⟨_, rfl⟩
  have hnl : n ≤ g.data.length := by omega
  have e1 : IntKind.wrap .i64 ((s.len : Int) - (g.synced : Int)) = ((s.len - g.synced : Nat) : Int) := by rw [IntWalk.i64_in _ ⟨by omega, by omega⟩]; omega
  rw [e1]
  have e2 : (if ((s.len - g.synced : Nat) : Int) < (if (0 : Int) > more then (0 : Int) else more) then ((s.len - g.synced : Nat) : Int) else (if (0 : Int) > more then (0 : Int) else more)) = ((n - g.synced : Nat) : Int) := by
    split <;> split at * <;> omega
  rw [e2]
  have e3 : IntKind.wrap .i64 ((g.synced : Int) + ((n - g.synced : Nat) : Int)) = (n : Int) := by rw [IntWalk.i64_in _ ⟨by omega, by omega⟩]; omega
  rw [e3]
  refine slc_ro o (by omega) (by omega) (by omega) (by omega) (by omega) fun s' o' hs' _ hbk => ?_
  have hcut : g.cut more = ⟨g.data.take n, n, g.count⟩ := by simp only [Fl.cut, hn]
  have ee : ((bv g.data).drop ((0 : Int).toNat * 1)).take (((n : Int).toNat - (0 : Int).toNat) * 1) = bv (g.data.take n) := by simp [bv, List.map_take]
  rw [ee] at o'
  refine nn_some (stC_r hb (by simp) fun w1 u1 n1 _ => ?_)
  have n1' : w1.heap[b]? = some (fbox i s' ⟨g.data.take n, g.synced, g.count⟩) := by rw [n1]; simp [fbox]
  refine fsync_call n1' fun w2 n2 u2 _ => ?_
  have hs'' : s'.len = n := by rw [hs']; omega
  have u12 : Upd (fun k => k = b) w0 w2 := u1.trans u2
  refine hK s' w2 ?_ ?_ hbk ((Upd.of_ext e0).trans u12)
  · rw [n2, hcut, hs'']
  · rw [hcut]
    refine o'.upd u12 fun k _ hk e => ?_
    obtain ⟨c, fr, hc⟩ := o'.in.blk_cells hk
    rw [e, hb] at hc; cases hc
end
end Dq
end Go.Proofs.YtmooldhpiopcgaaGreatDoor
set_option linter.unusedSimpArgs false
set_option linter.unusedVariables false
namespace Go.Proofs.YtmooldhpiopcgaaGreatDoor
namespace Dq
open Go Go.Vx Dsk
section
variable {w w' : World} {S F F' : Nat → Prop} {d m ms ml : Nat} {f : Dir} {fb : List Nat} {ds : List Sl} {fs : List Fl} {sa : Sl} {vs : List Value} {D : Dk} {pl : Option Nat} {p : Int → Option Fault} {N : Nat}
theorem DiskAt.file_at (A : DiskAt w d F D ms ml sa pl vs fb ds) {i : Nat} (hi : i < D.files.length) : ∃ b s g, fb[i]? = some b ∧ ds[i]? = some s ∧ D.files[i]? = some g ∧ fb.getD i 0 = b ∧ fl D i = g ∧ w.heap[b]? = some (fbox i s g) ∧ BytesO w 0 s g.data := by
  have h1 := A.files.lf
  have h2 := A.files.ld
  obtain ⟨b, hb⟩ : ∃ b, fb[i]? = some b := ⟨_, List.getElem?_eq_getElem (by omega)⟩
  obtain ⟨s, hs⟩ : ∃ s, ds[i]? = some s := ⟨_, List.getElem?_eq_getElem (by omega)⟩
  obtain ⟨g, hg⟩ : ∃ g, D.files[i]? = some g := ⟨_, List.getElem?_eq_getElem hi⟩
  obtain ⟨x1, x2⟩ := A.files.at_ i b s g hb hs hg
  exact ⟨b, s, g, hb, hs, hg, by rw [List.getD_eq_getElem?_getD, hb]; rfl, by unfold Dsk.fl; rw [List.getD_eq_getElem?_getD, hg]; rfl, x1, x2⟩
theorem weigh_sum {es done : List (KEnt ByteArray)} {o : Option Nat} (hp : (done.map (KEnt.ent Key.str)).Perm (es.map (KEnt.ent Key.str))) (hl : Lists D.seen (es.map (·.1))) : sumZ (done.map fun y => weigh D o y.1) = usedBut D o := by
  rw [used_eq hl, List.map_map]
  have h5 := hp.map fun e : MapEntry => match e.key with | .string k => weigh D o k | _ => 0
  rw [List.map_map, List.map_map] at h5
  exact sumZ_perm h5
theorem room_call (A : DiskAt w d F D ms ml sa pl vs fb ds) (ok : DkOk D N) {K : Int → World → Prop} (hK : ∀ w', Ext w w' → K (room D) w') : callT Tryz.prog 202 #[.pointer (some (at0 d))] (.one (.one (.int .i64))) K w := by
  refine F202_calls ?_
  unfold F202
  have hsp := ok.space
  have hu := ok.used none
  refine nn_some (ld_r A.box (x := D.space) rfl ?_)
  refine join_r (fun x w' => x = (D.space - usedBut D none, ()) ∧ Ext w w') ?_ ?_
  · refine nn_some ?_
    rw [addr_add]
    refine ld_r A.box (x := some ms) rfl (A.seen.range fun r w1 es hi e1 hr hm hg hl => ?_)
    have hcap : es.length ≤ 16 := by
      obtain ⟨l, h1, h2⟩ := ok.seen.few
      have := (lists_perm hl h1).length_eq
      rw [List.length_map] at this; omega
    refine sloop_r (fun s' w' => ∃ (done : List (KEnt ByteArray)), Iter w' r ms (es.map (KEnt.ent Key.str)) (done.map (KEnt.ent Key.str)) ∧ s' = (D.space - sumZ (done.map fun y => weigh D none y.1), ()) ∧ Ext w w' ∧ done.length ≤ es.length) (fun s' w' => es.length - (match w'.heap[r]? with | some (.mapIter _ _ seen _) => seen.size | _ => 0)) ⟨[], hi, by simp [sumZ], e1, Nat.zero_le _⟩ ?_
    rintro _ w2 ⟨done, hi2, rfl, e2, hdl⟩
    dsimp only
    have size_of : ∀ {W : World} {done : List (KEnt ByteArray)}, Iter W r ms (es.map (KEnt.ent Key.str)) (done.map (KEnt.ent Key.str)) → (match W.heap[r]? with | some (.mapIter _ _ seen _) => seen.size | _ => 0) = done.length := fun h => by
      obtain ⟨c, _, _, g3⟩ := h.at_
      rw [g3]; simp
    have bound : ∀ dn : List (KEnt ByteArray), dn.length ≤ 16 → 0 ≤ sumZ (dn.map fun y => weigh D none y.1) ∧ sumZ (dn.map fun y => weigh D none y.1) ≤ 16777216 := fun dn hdn => by
      refine ⟨sumZ_nonneg fun x hx => ?_, ?_⟩
      · obtain ⟨n, _, rfl⟩ := List.mem_map.1 hx; exact weigh_nonneg D none _
      · have := sumZ_le (l := dn.map fun y => weigh D none y.1) (B := 1048576) fun x hx => by
          obtain ⟨n, _, rfl⟩ := List.mem_map.1 hx; exact ok.weigh none _
        rw [List.length_map] at this
        have h4 : (dn.length : Int) * 1048576 ≤ 16 * 1048576 := Int.mul_le_mul_of_nonneg_right (by omega) (by decide)
        omega
    refine next_r hi2 (fun w3 e3 _ hp => sif_false ⟨?_, e2.trans e3⟩) fun x w3 hx hxd hi3 u3 hz3 => sif_true ?_
    · rw [weigh_sum hp hl]
    · obtain ⟨y, i, hy, rfl, hfy, hv⟩ := dir_entry hm hg hx
      have e3 : Ext w w3 := e2.step u3 (by rintro k rfl; exact hr)
      refine entry_r hi3 (y.1, some (at0 (fb.getD i 0)), ()) (by simp only [KEnt.ent, hv]; rfl) (nn_some ?_)
      have A3 := A.ext e3
      have hil : i < D.files.length := by have := A.seen.ids y.1 i hfy; have := A.files.lf; omega
      obtain ⟨b, s, g, _, _, _, hgb, hfl, hbx, hby⟩ := A3.file_at hil
      rw [hgb, addr_add]
      refine ld_r hbx (x := s) rfl ?_
      have hsl := hby.len1
      rw [List.length_map] at hsl
      have hw : weigh D none y.1 = (s.len : Int) := by
        unfold weigh; rw [hfy]; dsimp only; rw [if_neg (by simp), hfl]; omega
      have hi3' : Iter w3 r ms (es.map (KEnt.ent Key.str)) ((done ++ [y]).map (KEnt.ent Key.str)) := by simpa using hi3
      have hdn : (done ++ [y]).length ≤ es.length := by
        have h6 := List.Nodup.length_le_of_subset (nodup_of_born hi3'.dnd) hi3'.sub
        simpa using h6
      have hb1 := bound done (by omega)
      have hb2 := bound (done ++ [y]) (by omega)
      have hsum : sumZ ((done ++ [y]).map fun y => weigh D none y.1) = sumZ (done.map fun y => weigh D none y.1) + (s.len : Int) := by
        rw [List.map_append, sumZ_append]; simp [sumZ, hw]
      have ew : IntKind.wrap .i64 (D.space - sumZ (done.map fun y => weigh D none y.1) - (s.len : Int)) = D.space - sumZ ((done ++ [y]).map fun y => weigh D none y.1) := by
        rw [hsum, IntWalk.i64_in _ ⟨by omega, by omega⟩]; omega
      rw [ew]
      refine ⟨⟨done ++ [y], hi3', rfl, e3, hdn⟩, ?_⟩
      rw [size_of hi3', size_of hi2]
      simp at hdn ⊢; omega
  · rintro _ w1 ⟨rfl, e1⟩
    dsimp only
    have e : (if (0 : Int) > D.space - usedBut D none then (0 : Int) else D.space - usedBut D none) = room D := by
      unfold room; split <;> omega
    rw [e]
    exact hK w1 e1
def FN (w : World) (F : Nat → Prop) (k : Nat) : Prop := F k ∧ ∀ c fr, w.heap[k]? ≠ some (.cells c 3 fr)
theorem FN.of (h : F m) {o : Obj} (hm : w.heap[m]? = some o) (ho : ∀ c fr, o ≠ .cells c 3 fr) : FN w F m := ⟨h, fun c fr hc => ho c fr (by rw [hm] at hc; cases hc; rfl)⟩
theorem act_call (A : DiskAt w d F D ms ml sa pl vs fb ds) {v : Value} {a : Deed} (ha : ActIn w F fb v a) (ho : isOne v = true) (hn : D.acts.length ≤ 2 ^ 30) {K : Unit → World → Prop}
    (hK : ∀ sa' w', DiskAt w' d (fun k => F k ∨ sa'.blk k) { D with acts := D.acts ++ [a] } ms ml sa' pl (vs ++ [v]) fb ds → Upd (FN w F) w w' → (∀ k, sa'.blk k → F k ∨ w.heap.size ≤ k) → K () w') :
    callT Tryz.prog 104 #[.pointer (some (at0 d)), v] (.tup []) K w := by
  refine F104_calls ?_
  unfold F104
  have hseen : (({ D with acts := D.acts ++ [a] } : Dk)).seen = a.on D.seen := by simp only [Dk.seen, onAll_append]
  refine nn_some ?_
  rw [addr_add]
  refine ld_r A.box (x := some ms) rfl (deed_run ha A.seen fun w1 h1 u1 => nn_some ?_)
  obtain ⟨o, c, hmap⟩ := A.seen.map_at
  have no : ∀ t : TypeId, NoTy w (fun k => k = ms) t := fun t => NoTy.map hmap
  have b1 := u1.get A.box fun e => by
    have hb := A.box
    rw [show d = ms from e, hmap] at hb; cases hb
  have l1 := A.lasts.upd u1 fun e => A.ne e.symm
  have f1 := A.files.ty u1 (no _) (no _)
  have a1 := A.acts.ty u1 (no _) (no _) (no _) (no _) fun _ h => h
  have p1 := A.plan.upd u1 (fun m hm e => A.nes (by rw [hm]; exact congrArg some e)) (no _) fun _ h => h
  have hal := a1.row.len1
  have hlen := a1.len
  rw [addr_add]
  refine ld_r b1 (x := sa) rfl (chk_r (by simp [oneAll, ho]) (newO_r fun b6 w2 e2 n2 _ _ => ?_))
  have one : SlIn w2 ⟨some (at0 b6), 1, 1⟩ 147 1 [v] := SlIn.of_box (n := 1) (sz := 1) n2 rfl
  have hs1 := u1.size
  have hs2 := e2.size
  refine append_r (x := ⟨some (at0 b6), 1, 1⟩) EA uA (a1.row.ext e2) one (fun u hu => by simp at hu; subst hu; exact ho) (by dsimp only; omega) (Nat.zero_le _) fun sa' w3 o3 _ u3 hb3 => nn_some ?_
  have nb : ∀ t : TypeId, t ≠ 147 → NoTy w2 sa.blk t := fun t ht => NoTy.blk (a1.row.ext e2).in ht.symm
  have nm : ∀ m, (∃ o c, w2.heap[m]? = some (.map o c)) → ¬ sa.blk m := fun m ⟨o, c, hm⟩ hk => by
    obtain ⟨c', fr, hc⟩ := (a1.row.ext e2).in.blk_cells hk
    rw [hm] at hc; cases hc
  have b3 := u3.get (e2.ext_get b1) fun hk => nb 107 (by decide) d hk _ _ (e2.ext_get b1)
  rw [addr_add]
  refine stC_r b3 (by simp) fun w4 u4 n4 _ => ?_
  have h2 := h1.upd e2 id
  have l2 := l1.upd e2 id
  have h3 := h2.upd u3 (nm _ h2.map_at)
  have l3 := l2.upd u3 (nm _ l2.map_at)
  have f3 := (f1.ty e2 (fun _ h => h.elim) (fun _ h => h.elim)).ty u3 (nb _ (by decide)) (nb _ (by decide))
  have p2 := p1.upd e2 (fun _ _ => id) (fun _ h => h.elim) fun _ h => h
  have p3 := p2.upd u3 (fun m hm => nm m (by subst hm; exact p2.map_at)) (nb _ (by decide)) fun _ h => h
  have a3 : ∀ (i : Nat) (u : Value) (x : Deed), vs[i]? = some u → D.acts[i]? = some x → ActIn w3 F fb u x := fun i u x hu hx => ((a1.at_ i u x hu hx).ty e2 (fun _ h => h.elim) (fun _ h => h.elim) (fun _ h => h.elim) fun _ h => h).ty u3 (nb _ (by decide)) (nb _ (by decide)) (nb _ (by decide)) fun _ h => h
  have ha3 : ActIn w3 F fb v a := ((ha.ty u1 (no _) (no _) (no _) fun _ h => h).ty e2 (fun _ h => h.elim) (fun _ h => h.elim) (fun _ h => h.elim) fun _ h => h).ty u3 (nb _ (by decide)) (nb _ (by decide)) (nb _ (by decide)) fun _ h => h
  have nd : ∀ t : TypeId, 107 ≠ t → NoTy w3 (fun k => k = d) t := fun t ht => NoTy.box b3 ht
  have nmd : ∀ m, (∃ o c, w3.heap[m]? = some (.map o c)) → ¬ (fun k => k = d) m := by
    rintro m ⟨o, c, hm⟩ rfl
    rw [b3] at hm; cases hm
  have u14 : Upd (FN w F) w w4 := by
    refine ((u1.mono fun k _ e => by rw [e]; exact FN.of A.fms hmap fun c fr h => by cases h).trans (Upd.of_ext e2)).trans ((u3.mono fun k _ hk => ?_).trans (u4.mono fun k _ e => by rw [e]; exact FN.of A.fd A.box fun c fr h => by cases h))
    obtain ⟨c, fr, hc⟩ := A.acts.row.in.blk_cells hk
    exact FN.of (A.fsa k hk) hc fun c fr h => by cases h
  have o4 := o3.ty u4 (nd _ (by decide))
  refine hK sa' w4 ⟨?_, ?_, l3.upd u4 (nmd _ l3.map_at), f3.ty u4 (nd _ (by decide)) (nd _ (by decide)), ⟨o4, by simp [hlen], fun i u x hu hx => ?_⟩, p3.upd u4 (fun m hm => nmd m (by subst hm; exact p3.map_at)) (nd _ (by decide)) fun _ h => .inl h, A.ne, A.nes, A.nel, .inl A.fd, .inl A.fms, .inl A.fml, fun b hb => .inl (A.ffb b hb), fun t ht k hk => .inl (A.fds t ht k hk), fun k hk => .inr hk, fun k hk => ?_⟩ u14 (fun k hk => (hb3 k hk).imp (A.fsa k) fun h => by omega)
  · rw [n4]; simp [dbox]
  · rw [hseen]; exact h3.upd u4 (nmd _ h3.map_at)
  · have go : ∀ {u : Value} {x : Deed}, ActIn w3 F fb u x → ActIn w4 (fun k => F k ∨ sa'.blk k) fb u x := fun h => h.ty u4 (nd _ (by decide)) (nd _ (by decide)) (nd _ (by decide)) fun _ h => .inl h
    by_cases hi : i < vs.length
    · rw [List.getElem?_append_left hi] at hu
      rw [List.getElem?_append_left (by omega)] at hx
      exact go (a3 i u x hu hx)
    · rw [List.getElem?_append_right (by omega)] at hu
      rw [List.getElem?_append_right (by omega)] at hx
      have h1 := List.mem_of_getElem? hu
      have h2 := List.mem_of_getElem? hx
      simp at h1 h2
      subst h1 h2
      exact go ha3
  · rcases hk with hk | hk
    · exact Nat.lt_of_lt_of_le (A.lt k hk) u14.size
    · exact o4.in.blk_lt hk
end
end Dq
end Go.Proofs.YtmooldhpiopcgaaGreatDoor
set_option linter.unusedSimpArgs false
set_option linter.unusedVariables false
namespace Go.Proofs.YtmooldhpiopcgaaGreatDoor
namespace Dq
open Go Go.Vx Dsk
section
variable {w w' : World} {S F F' : Nat → Prop} {d m ms ml : Nat} {f : Dir} {fb : List Nat} {ds : List Sl} {fs : List Fl} {sa : Sl} {vs : List Value} {D : Dk} {pl : Option Nat} {p : Int → Option Fault} {N : Nat}
theorem FilesIn.set (A : FilesIn w fb ds fs) {i b : Nat} {s s' : Sl} {g g' : Fl} (hb : fb[i]? = some b) (hs : ds[i]? = some s) (hg : fs[i]? = some g) (u : Upd (fun k => k = b) w w')
    (hb' : w'.heap[b]? = some (fbox i s' g')) (ho : BytesO w' 0 s' g'.data) (hn : ∀ k, s'.blk k → s.blk k) : FilesIn w' fb (ds.set i s') (fs.set i g') := by
  obtain ⟨hbox, hown⟩ := A.at_ i b s g hb hs hg
  have hil := (List.getElem?_eq_some_iff.1 hs).1
  have hgl := (List.getElem?_eq_some_iff.1 hg).1
  refine ⟨by simp [A.lf], by simp [A.ld], A.nd, fun j k t t' hjk ht ht' x hx hx' => ?_, fun j b' t g2 hb2 ht hg2 => ?_⟩
  · rw [List.getElem?_set] at ht ht'
    by_cases hij : i = j
    · subst hij
      rw [if_pos rfl, if_pos hil] at ht
      cases ht
      rw [if_neg (by omega)] at ht'
      exact A.dd i k s t' hjk hs ht' x (hn x hx) hx'
    · rw [if_neg hij] at ht
      by_cases hik : i = k
      · subst hik
        rw [if_pos rfl, if_pos hil] at ht'
        cases ht'
        exact A.dd j i t s hjk ht hs x hx (hn x hx')
      · rw [if_neg hik] at ht'
        exact A.dd j k t t' hjk ht ht' x hx hx'
  · rw [List.getElem?_set] at ht hg2
    by_cases hij : i = j
    · subst hij
      rw [if_pos rfl, if_pos hil] at ht
      rw [if_pos rfl, if_pos hgl] at hg2
      cases ht; cases hg2
      rw [hb] at hb2; cases hb2
      exact ⟨hb', ho⟩
    · rw [if_neg hij] at ht hg2
      obtain ⟨h1, h2⟩ := A.at_ j b' t g2 hb2 ht hg2
      have hne : b' ≠ b := fun e => by
        subst e
        obtain ⟨x1, x2⟩ := List.getElem?_eq_some_iff.1 hb
        obtain ⟨y1, y2⟩ := List.getElem?_eq_some_iff.1 hb2
        exact hij ((List.getElem_inj A.nd).1 (x2.trans y2.symm))
      refine ⟨u.get h1 hne, h2.upd u fun k _ hk e => ?_⟩
      obtain ⟨c, fr, hc⟩ := h2.in.blk_cells hk
      rw [e, hbox] at hc; cases hc
theorem map_any (l : List Value) : l.map (Cell.any).val = l := by
  have : (Cell.any).val = (id : Value → Value) := rfl
  rw [this, List.map_id]
def Lie (P : Nat → Prop) (s : Sl) : Prop := s.len = 0 ∨ ∀ k, s.blk k → P k
def CutIn (w : World) (F : Nat → Prop) (s : Sl) (bytes : List Int) : Prop := SlX w s 1 (iv bytes) ∧ (Lie (fun k => ¬ F k) s ∨ Ints w s bytes)
theorem SlX.zero {s : Sl} {sz : Nat} {us : List Value} (h : SlX w s sz us) (h0 : s.len = 0) : SlX w' s sz us := ⟨.inl ⟨h0, by have := h.len; rw [h0, Nat.zero_mul] at this; exact List.length_eq_zero_iff.1 this⟩⟩
theorem SlX.updO {s : Sl} {sz : Nat} {us : List Value} (h : SlX w s sz us) (u : Upd S w w') (hS : ∀ k, s.blk k → ¬ S k) : SlX w' s sz us := ⟨h.at_.imp id fun ⟨t, h⟩ => ⟨t, h.upd u hS⟩⟩
theorem SlX.updL {P : Nat → Prop} {s : Sl} {sz : Nat} {us : List Value} (h : SlX w s sz us) (hl : Lie P s) (u : Upd S w w') (hS : ∀ k, P k → ¬ S k) : SlX w' s sz us :=
  hl.elim (fun h0 => SlX.zero h h0) fun hl => SlX.updO h u fun k hk => hS k (hl k hk)
theorem CutIn.upd {s : Sl} {bytes : List Int} (h : CutIn w F s bytes) (u : Upd S w w') (h1 : ∀ k, S k → k < w.heap.size → F k) (h2 : NoTy w S 3) (hl : ∀ k, F k → k < w.heap.size) : CutIn w' F s bytes := by
  obtain ⟨hx, (h | h) | h⟩ := h
  · exact ⟨SlX.zero hx h, .inl (.inl h)⟩
  · refine ⟨⟨hx.at_.imp id fun ⟨t, g⟩ => ⟨t, g.upd u fun k hk hS => h k hk (h1 k hS (g.blk_lt hk))⟩⟩, .inl (.inr h)⟩
  · have := h.ty u h2
    exact ⟨this.x, .inr this⟩
theorem crash_call (A : DiskAt w d F D ms ml sa pl vs fb ds) (ok : DkOk D N) (hN : N ≤ 2 ^ 60) {c : Int × Sl × Unit} {bytes : List Int} (hc : CutIn w F c.2.1 bytes) {K : Unit → World → Prop}
    (hK : ∀ F' w', DiskIn w' d F' (crash D c.1 bytes) → Upd F w w' → (∀ k, F' k → F k ∨ w.heap.size ≤ k) → K () w') :
    callT Tryz.prog 40 #[.pointer (some (at0 d)), .agg (Cells.vals c72 c).toArray] (.tup []) K w := by
  obtain ⟨nm, sc, ⟨⟩⟩ := c
  refine F40_calls (a1 := (nm, sc, ())) ?_
  unfold F40
  dsimp only at hc hK ⊢
  refine newO_r fun b1 w1 e1 n1 hb1 _ => nn_some ?_
  have A1 := A.ext e1
  have hc1 : CutIn w1 F sc bytes := hc.upd e1 (fun _ h => h.elim) (fun _ h => h.elim) A.lt
  rw [addr_add]
  refine ld_r A1.box (x := D.down) rfl (sif_r (fun hd => ?_) (fun hd => ?_))
  · have e : crash D nm bytes = D := by unfold crash; rw [if_pos hd]
    rw [e] at hK
    exact hK F w1 A1.in (Upd.of_ext e1) fun k hk => .inl hk
  obtain ⟨k0, hk0⟩ : ∃ k0, k0 = min (max nm 0).toNat D.acts.length := ⟨_, rfl⟩
  have hgood := ok.good k0
  have hcr : crash D nm bytes = { D with lasts := onAll (D.acts.take k0) D.lasts, acts := [], files := cutAll (onAll (D.acts.take k0) D.lasts) bytes (names (onAll (D.acts.take k0) D.lasts)) 0 D.files, down := true } := by
    unfold crash; rw [if_neg (by rw [hd]; simp), hk0]
  rw [hcr] at hK
  have hal := A1.acts.row.len1
  have hlen := A1.acts.len
  have hacts := ok.acts
  have hml := A1.lasts.map_at
  obtain ⟨lo, lc, hmlo⟩ := hml
  refine join_r (fun _ w' => DirIn w' ml fb (onAll (D.acts.take k0) D.lasts) ∧ Upd (fun k => k = ml) w1 w') ?_ ?_
  · refine drew_r fun w2 e2 _ => nn_some ?_
    have A2 := A1.ext e2
    rw [addr_add]
    refine ld_r A2.box (x := sa) rfl (ld_r (e2.ext_get n1) (x := nm) rfl (nn_some ?_))
    rw [addr_add]
    refine ld_r A2.box (x := sa) rfl ?_
    have ei : (if (sa.len : Int) < (if (0 : Int) > nm then (0 : Int) else nm) then (sa.len : Int) else (if (0 : Int) > nm then (0 : Int) else nm)) = (k0 : Int) := by
      have : sa.len = D.acts.length := by omega
      split <;> split at * <;> omega
    rw [ei]
    have hle := A2.acts.row.le
    have hk : k0 ≤ sa.len := by omega
    refine slc_r A2.acts.row.in (by omega) (by omega) (by omega) (by omega) (by omega) fun s3 i3 hs3 _ hb3 => ?_
    have e3 : (vs.drop ((0 : Int).toNat * 1)).take (((k0 : Int).toNat - (0 : Int).toNat) * 1) = vs.take k0 := by simp
    rw [e3] at i3
    have hs3' : s3.len = k0 := by rw [hs3]; omega
    refine sloop_r (fun s' w' => ∃ j : Nat, j ≤ k0 ∧ s' = ((j : Int), ()) ∧ DirIn w' ml fb (onAll (D.acts.take j) D.lasts) ∧ Upd (fun k => k = ml) w2 w') (fun s' _ => (k0 - s'.1).toNat) ⟨0, by omega, rfl, A2.lasts, Upd.refl _ _⟩ ?_
    rintro _ w4 ⟨j, hj, rfl, h4, u4⟩
    dsimp only
    have ej : IntKind.wrap .i64 ((j : Int) + 1) = ((j + 1 : Nat) : Int) := by rw [IntWalk.i64_in _ ⟨by omega, by omega⟩]; omega
    simp only [ej]
    have hmap2 := e2.ext_get hmlo
    have no : ∀ t : TypeId, NoTy w2 (fun k => k = ml) t := fun t => NoTy.map hmap2
    refine sif_r (fun hd => ?_) (fun hd => ?_)
    · have hd : j < k0 := by have := of_decide_eq_true hd; omega
      obtain ⟨v, hv⟩ : ∃ v, vs[j]? = some v := ⟨_, List.getElem?_eq_getElem (by omega)⟩
      obtain ⟨a, ha⟩ : ∃ a, D.acts[j]? = some a := ⟨_, List.getElem?_eq_getElem (by omega)⟩
      have i4 : SlIn w4 s3 147 1 ((vs.take k0).map (Cell.any).val) := by rw [map_any]; exact i3.ty u4 (no _)
      refine ix_ld (c := .any) (xs := vs.take k0) (x := v) i4 (by omega) (by rw [Int.toNat_natCast, List.getElem?_take, if_pos hd]; exact hv) fun _ => nn_some ?_
      rw [addr_add]
      have b4 := u4.get A2.box fun e => by
        have hb := A2.box
        rw [show d = ml from e, hmap2] at hb; cases hb
      have ha4 := (A2.acts.at_ j v a hv ha).ty u4 (no _) (no _) (no _) fun _ h => h
      refine ld_r b4 (x := some ml) rfl (deed_run ha4 h4 fun w5 h5 u5 => ⟨⟨j + 1, hd, rfl, ?_, u4.trans u5⟩, by omega⟩)
      have et : D.acts.take (j + 1) = D.acts.take j ++ [a] := by rw [List.take_add_one, ha]; rfl
      rw [et, onAll_append]
      exact h5
    · have hd : j = k0 := by have := of_decide_eq_false hd; omega
      subst hd
      exact ⟨h4, (Upd.of_ext e2).trans u4⟩
  rintro _ w2 ⟨hl2, u2⟩
  generalize onAll (D.acts.take k0) D.lasts = l at hl2 hgood hK
  have no2 : ∀ t : TypeId, NoTy w1 (fun k => k = ml) t := fun t => NoTy.map hmlo
  have hs1 := e1.size
  have b2 := u2.get A1.box fun e => by
    have hb := A1.box
    rw [show d = ml from e, hmlo] at hb; cases hb
  have n2 : w2.heap[b1]? = some (.cells #[.int .i64 nm, sv sc] 72 (0, 0)) := u2.get n1 fun e => by
    rw [show b1 = ml from e, hmlo] at n1; cases n1
  have f2 := A1.files.ty u2 (no2 _) (no2 _)
  have p2 := A1.plan.upd u2 (fun m hm e => A.nel (by rw [hm]; exact congrArg some e)) (no2 _) fun _ h => h
  have c2 : CutIn w2 F sc bytes := hc1.upd u2 (fun k hk _ => by rw [hk]; exact A.fml) (no2 _) A1.lt
  have u02 : Upd F w w2 := (Upd.of_ext e1).trans (u2.mono fun k _ e => by rw [e]; exact A.fml)
  refine join_r (fun _ w' => ∃ ds', FilesIn w' fb ds' (cutAll l bytes (names l) 0 D.files) ∧ (∀ s ∈ ds', ∀ k, s.blk k → F k) ∧ Upd (fun k => k ∈ fb) w2 w') ?_ ?_
  · refine nn_some ?_
    rw [addr_add]
    refine ld_r b2 (x := some ml) rfl (names_call hl2 (fun q hq => by
      obtain ⟨q', h1, h2⟩ := hgood.few
      have := (lists_perm hq h1).length_eq
      omega) fun s3 w3 o3 e3 => ?_)
    obtain ⟨hnl, hnf⟩ := hgood.names
    have hs3 := o3.len1
    rw [List.length_map] at hs3
    have bnd : ∀ (i : Nat) (g : Fl), D.files[i]? = some g → g.synced ≤ g.data.length ∧ g.data.length ≤ 2 ^ 40 := fun i g hg => by
      obtain ⟨h1, h2, _⟩ := ok.fil i g hg
      exact ⟨h2, by omega⟩
    refine sloop_r (fun s' w' => ∃ (j : Nat) (ds' : List Sl) (fs' : List Fl), j ≤ (names l).length ∧ s' = ((j : Int), ()) ∧ FilesIn w' fb ds' fs' ∧ (∀ s ∈ ds', ∀ k, s.blk k → F k) ∧ Upd (fun k => k ∈ fb) w3 w' ∧ cutAll l bytes ((names l).drop j) j fs' = cutAll l bytes (names l) 0 D.files ∧ fs'.length = D.files.length ∧ ∀ (i : Nat) (g : Fl), fs'[i]? = some g → g.synced ≤ g.data.length ∧ g.data.length ≤ 2 ^ 40) (fun s' _ => ((names l).length - s'.1).toNat)
      ⟨0, ds, D.files, by omega, rfl, f2.upd e3 (fun _ _ => id) (fun _ _ _ _ => id), A.fds, Upd.refl _ _, rfl, rfl, bnd⟩ ?_
    rintro _ w4 ⟨j, ds4, fs4, hj, rfl, f4, hds4, u4, hcut, hfl, bnd4⟩
    dsimp only
    have ej : IntKind.wrap .i64 ((j : Int) + 1) = ((j + 1 : Nat) : Int) := by rw [IntWalk.i64_in _ ⟨by omega, by omega⟩]; omega
    simp only [ej]
    have f3 := f2.upd e3 (fun _ _ => id) (fun _ _ _ _ => id)
    have no4 : ∀ t : TypeId, t ≠ 123 → NoTy w3 (fun k => k ∈ fb) t := fun t ht k hk c fr hc => by
      obtain ⟨i, s, g, _, _, _, hb, _⟩ := f3.get_fb hk
      rw [hb] at hc; cases hc; exact ht rfl
    have nm4 : ∀ m, (∃ o c, w3.heap[m]? = some (.map o c)) → ¬ (fun k => k ∈ fb) m := fun m ⟨o, c, hm⟩ hk => by
      obtain ⟨i, s, g, _, _, _, hb, _⟩ := f3.get_fb hk
      rw [hm] at hb; cases hb
    refine sif_r (fun hd => ?_) (fun hd => ?_)
    · have hd : j < (names l).length := by have := of_decide_eq_true hd; omega
      obtain ⟨n, hn⟩ : ∃ n, (names l)[j]? = some n := ⟨_, List.getElem?_eq_getElem hd⟩
      refine ix_ld (c := .str) (xs := names l) (x := n) (o3.in.ty u4 (no4 _ (by decide))) (by omega) (by simpa using hn) fun _ => ?_
      have n4 := u4.get (e3.ext_get n2) fun hk => no4 72 (by decide) _ hk _ _ (e3.ext_get n2)
      have c4 := (c2.upd e3 (fun _ h => h.elim) (fun _ h => h.elim) (fun k hk => Nat.lt_of_lt_of_le (A.lt k hk) u02.size)).upd u4 (fun k hk _ => A.ffb k hk) (no4 _ (by decide)) (fun k hk => Nat.lt_of_lt_of_le (A.lt k hk) (u02.trans (Upd.of_ext e3)).size)
      have hcl := c4.1.len1
      rw [List.length_map] at hcl
      refine join_at (bytes.getD j 0, ()) ?_ ?_
      · refine ld_r n4 (x := sc) rfl (sif_r (fun hi => ?_) (fun hi => ⟨?_, rfl⟩))
        · have hi : j < bytes.length := by have := of_decide_eq_true hi; omega
          refine ld_r n4 (x := sc) rfl ?_
          refine ix_ldX (c := .int .i64) (xs := bytes) (x := bytes.getD j 0) c4.1 (by omega) (by rw [Int.toNat_natCast]; simp [hi]) fun _ => ⟨rfl, rfl⟩
        · have hi : ¬ j < bytes.length := by have := of_decide_eq_false hi; omega
          rw [List.getD_eq_getElem?_getD, List.getElem?_eq_none (by omega)]; rfl
      dsimp only
      have b4 := u4.get (e3.ext_get b2) fun hk => no4 107 (by decide) _ hk _ _ (e3.ext_get b2)
      have l4 := (hl2.upd e3 id).upd u4 (nm4 _ (hl2.upd e3 id).map_at)
      refine nn_some ?_
      rw [addr_add]
      refine ld_r b4 (x := some ml) rfl (l4.look n ?_)
      obtain ⟨i, hi⟩ : ∃ i, l n = some i := Option.isSome_iff_exists.1 ((hnl.2 n).1 (List.mem_of_getElem? hn))
      have hil : i < fs4.length := by rw [hfl]; exact hgood.ids n i hi
      rw [hi]
      obtain ⟨b, hb⟩ : ∃ b, fb[i]? = some b := ⟨_, List.getElem?_eq_getElem (by have := f4.lf; omega)⟩
      obtain ⟨s, hs⟩ : ∃ s, ds4[i]? = some s := ⟨_, List.getElem?_eq_getElem (by have := f4.ld; omega)⟩
      obtain ⟨g, hg⟩ : ∃ g, fs4[i]? = some g := ⟨_, List.getElem?_eq_getElem hil⟩
      obtain ⟨hbx, hby⟩ := f4.at_ i b s g hb hs hg
      have hgd : fb.getD i 0 = b := by rw [List.getD_eq_getElem?_getD, hb]; rfl
      simp only [Option.map_some, hgd]
      obtain ⟨g1, g2⟩ := bnd4 i g hg
      refine cut_call hbx hby g1 g2 fun s' w5 hb5 ho5 hbk u5 => ⟨⟨j + 1, ds4.set i s', fs4.set i (g.cut (bytes.getD j 0)), hd, rfl, f4.set hb hs hg u5 hb5 ho5 hbk, fun t ht k hk => ?_, u4.trans (u5.mono fun k _ e => by rw [e]; exact List.mem_of_getElem? hb), ?_, by rw [List.length_set]; exact hfl, fun i' g' hg' => ?_⟩, by omega⟩
      · rcases List.mem_or_eq_of_mem_set ht with h | h
        · exact hds4 t h k hk
        · subst h; exact hds4 s (List.mem_of_getElem? hs) k (hbk k hk)
      · rw [← hcut]
        have ed : (names l).drop j = n :: (names l).drop (j + 1) := by
          obtain ⟨hj', hn'⟩ := List.getElem?_eq_some_iff.1 hn
          rw [List.drop_eq_getElem_cons hj', hn']
        rw [ed]
        simp only [cutAll, hi, Option.getD_some]
        rw [put1_eq hg]
      · rw [List.getElem?_set] at hg'
        by_cases hii : i = i'
        · subst hii
          rw [if_pos rfl, if_pos hil] at hg'
          cases hg'
          simp only [Fl.cut, List.length_take]
          omega
        · rw [if_neg hii] at hg'
          exact bnd4 i' g' hg'
    · have hd : j = (names l).length := by have := of_decide_eq_false hd; omega
      subst hd
      rw [List.drop_length] at hcut
      have hcut : fs4 = cutAll l bytes (names l) 0 D.files := hcut
      rw [← hcut]
      exact ⟨ds4, f4, hds4, (Upd.of_ext e3).trans u4⟩
  rintro _ w3 ⟨ds3, f3, hds3, u3⟩
  have no3 : ∀ t : TypeId, t ≠ 123 → NoTy w2 (fun k => k ∈ fb) t := fun t ht k hk c fr hc => by
    obtain ⟨i, s, g, _, _, _, hb, _⟩ := f2.get_fb hk
    rw [hb] at hc; cases hc; exact ht rfl
  have nm3 : ∀ m, (∃ o c, w2.heap[m]? = some (.map o c)) → ¬ (fun k => k ∈ fb) m := fun m ⟨o, c, hm⟩ hk => by
    obtain ⟨i, s, g, _, _, _, hb, _⟩ := f2.get_fb hk
    rw [hm] at hb; cases hb
  have b3 := u3.get b2 fun hk => no3 107 (by decide) _ hk _ _ b2
  have l3 := hl2.upd u3 (nm3 _ hl2.map_at)
  have p3 := p2.upd u3 (fun m hm => nm3 m (by subst hm; exact p2.map_at)) (no3 _ (by decide)) fun _ h => h
  have u03 : Upd F w w3 := u02.trans (u3.mono fun k _ hk => A.ffb k hk)
  refine nn_some ?_
  rw [addr_add]
  refine ld_r b3 (x := some ml) rfl (mclone_call l3 fun m' w4 h4 e4 hm' => nn_some ?_)
  rw [addr_add]
  refine stC_r (e4.ext_get b3) (by simp) fun w5 u5 n5 _ => nn_some ?_
  rw [addr_add]
  refine stC_r n5 (by simp) fun w6 u6 n6 _ => nn_some ?_
  rw [addr_add]
  refine stC_r n6 (by simp) fun w7 u7 n7 _ => ?_
  have u47 : Upd (fun k => k = d) w3 w7 := (((Upd.of_ext e4).trans u5).trans u6).trans u7
  have no : ∀ t : TypeId, 107 ≠ t → NoTy w3 (fun k => k = d) t := fun t ht => NoTy.box b3 ht
  have nm : ∀ m, (∃ o c, w3.heap[m]? = some (.map o c)) → ¬ (fun k => k = d) m := by
    rintro m ⟨o, c, hm⟩ rfl
    rw [b3] at hm; cases hm
  have hs3 := u03.size
  have hml : ∀ k, F k → k ≠ m' := fun k hk e => by have := A.lt k hk; omega
  have hne : ¬ (fun k => k = d) m' := fun e => hml _ A.fd e.symm
  have u07 : Upd F w w7 := u03.trans (u47.mono fun k _ e => by rw [e]; exact A.fd)
  refine hK (fun k => F k ∨ k = m') w7 ⟨m', ml, ⟨none, 0, 0⟩, pl, [], fb, ds3, ?_, ?_, ?_, f3.ty u47 (no _ (by decide)) (no _ (by decide)), ⟨SlOwn.nil _ _ _ _, rfl, fun i v a hv ha => by simp at hv⟩, p3.upd u47 (fun m hm => nm m (by subst hm; exact p3.map_at)) (no _ (by decide)) fun _ h => .inl h, fun e => hml _ A.fml e.symm, fun e => ?_, A.nel, .inl A.fd, .inr rfl, .inl A.fml, fun b hb => .inl (A.ffb b hb), fun t ht k hk => .inl (hds3 t ht k hk), fun k hk => (by obtain ⟨q, hq, _⟩ := hk; cases hq), fun k hk => ?_⟩ u07 (fun k hk => hk.imp id fun e => by omega)
  · rw [n7]
    have : (cutAll l bytes (names l) 0 D.files).length = D.files.length := by rw [← f3.lf, A.files.lf]
    simp [dbox, this]
  · show DirIn w7 m' fb l
    exact ((h4.upd u5 hne).upd u6 hne).upd u7 hne
  · exact l3.upd u47 (nm _ l3.map_at)
  · rcases A.plan with ⟨h, _⟩ | ⟨m, es, g1, g2, _⟩
    · rw [h] at e; cases e
    · rw [g1] at e; cases e; exact hml _ g2 rfl
  · rcases hk with hk | rfl
    · exact Nat.lt_of_lt_of_le (A.lt k hk) u07.size
    · obtain ⟨o, c, hm⟩ := h4.map_at
      exact Nat.lt_of_lt_of_le (lt_of_heap hm) ((u5.trans u6).trans u7).size
end
end Dq
end Go.Proofs.YtmooldhpiopcgaaGreatDoor
set_option linter.unusedSimpArgs false
set_option linter.unusedVariables false
namespace Go.Proofs.YtmooldhpiopcgaaGreatDoor
namespace Dq
open Go Go.Vx Dsk
section
variable {w w' : World} {S F F' : Nat → Prop} {d m ms ml : Nat} {f : Dir} {fb : List Nat} {ds : List Sl} {fs : List Fl} {sa : Sl} {vs : List Value} {D : Dk} {pl : Option Nat} {p : Int → Option Fault} {N : Nat}
theorem PlanIn.look (h : PlanIn w F pl p) (k : Int) {K : (Int × Int × Int × Int × Sl × Unit) → World → Prop} (h0 : p k = none → K (0, 0, 0, 0, ⟨none, 0, 0⟩, ()) w)
    (h1 : ∀ g s, p k = some g → Ints w s g.bytes → (∀ k, s.blk k → F k) → K (k, g.kind, g.part, g.names, s, ()) w) :
    rdT Tryz.prog (.one (.agg c132)) (Instr.lookup 105 (.map pl) (.int .i64 k) false) K w := by
  rcases h with ⟨rfl, h⟩ | ⟨m, es, rfl, _, g3, g4⟩
  · refine ⟨_, ?_, h0 (h k)⟩
    obtain ⟨kt, et, u1, u2, u3⟩ := MP.ok
    have hc : (Instr.checkKey true 10000 kt (.int .i64 k)).run Tryz.prog w = .ok () w := Key.int.check Tryz.prog kt true 9999 k w u2
    simp [Instr.lookup, run_underlying u1, u3, hc, Instr.findKey, Instr.findNow, run_underlying u2, RTy.val, Ty.val, Cells.vals, Cell.val]
  · have hr := lookupK1_run (w := w) MP g3 k
    have h4 := g4 k
    generalize hv : kget es k = v at hr h4
    generalize hp : p k = q at h4
    match v, q, h4 with
    | none, none, _ => exact ⟨(0, 0, 0, 0, ⟨none, 0, 0⟩, ()), hr, h0 hp⟩
    | some _, some g, ⟨s, rfl, hs, hb, _⟩ => exact ⟨(k, g.kind, g.part, g.names, s, ()), hr, h1 g s hp hs hb⟩
structure ErrIn (w0 w : World) (F : Nat → Prop) (v : Value) (op nm : ByteArray) (e : Int) : Prop where
  ok : e = 0 → v = .nilIface
  bad : e ≠ 0 → ∃ b k, v = .iface 99 (.pointer (some (at0 b))) ∧ w.heap[b]? = some (.cells #[.string op, .string nm, .int .i64 k, .iface 33 (.int .i64 e)] 101 (0, 0)) ∧ w0.heap.size ≤ b ∧ ¬ F b
def Does {α : Type} (w0 : World) (d : Nat) (F0 M E : Nat → Prop) (Q0 : World → Prop) (Q1 : α → World → (Nat → Prop) → Prop) (D : Dk) (N : Nat) (r : Dk × Int × α) (v : Value) (args : Array Value) : Prop :=
  ∀ (w1 : World) (F1 : Nat → Prop) (K : Int → World → Prop), DiskIn w1 d F1 D → DkOk D N → Q0 w1 → (∀ k, F1 k → F0 k ∨ w0.heap.size ≤ k) → w0.heap.size ≤ w1.heap.size →
    (∀ w2 F2, DiskIn w2 d F2 r.1 → Q1 r.2.2 w2 F2 → Upd (fun k => FN w1 F1 k ∨ M k) w1 w2 → (∀ k, F2 k → F1 k ∨ E k ∨ w1.heap.size ≤ k) → K r.2.1 w2) →
    callX Tryz.prog (do let d ← Deferred.ofValue v args; invoke d.target d.args : Sem Next) (.one (.one (.int .i64))) K w1
theorem step_call {α : Type} {M E : Nat → Prop} {Q0 : World → Prop} {Q1 : α → World → (Nat → Prop) → Prop} {a0 : α} {act : Dk → Dk × Int × α} {part : Option (Int → Dk → Dk × Int × α)} {op nm : ByteArray} {va vp : Value}
    (A : DiskIn w d F D) (ok : DkOk D N) (hN : N + 2 ≤ 2 ^ 60) (hq0 : Q0 w) (hq1 : Q1 a0 w F) (hM : ∀ k, M k → k < w.heap.size ∧ ¬ F k) (hE : ∀ k, E k → M k)
    (hst0 : ∀ w1 w2 S, Q0 w1 → Upd S w1 w2 → (∀ k, S k → k = d) → Q0 w2)
    (hst1 : ∀ a w1 F1 w2 F2, Q1 a w1 F1 → Upd F1 w1 w2 → (∀ k, F2 k → F1 k ∨ w1.heap.size ≤ k) → Q1 a w2 F2)
    (hact : ∀ D1, D1 = { D with steps := D.steps + 1 } → DkOk D1 (N + 1) → DkOk (act D1).1 (N + 2) ∧ Does w d F M E Q0 Q1 D1 (N + 1) (act D1) va #[])
    (hpart : (part = none ∧ vp = .nilFunc) ∨ ∃ pt g cs, part = some pt ∧ vp = .func g #[] cs ∧ ∀ D1 k, D1 = { D with steps := D.steps + 1 } → Does w d F M E Q0 Q1 D1 (N + 1) (pt k D1) vp #[.int .i64 k])
    {K : Value → World → Prop}
    (hK : ∀ F' w' v, ErrIn w w' F' v op nm (Dsk.step D a0 act part).2.1 → DiskIn w' d F' (Dsk.step D a0 act part).1 → Q1 (Dsk.step D a0 act part).2.2 w' F' → Upd (fun k => F k ∨ M k) w w' → (∀ k, F' k → F k ∨ E k ∨ w.heap.size ≤ k) → K v w') :
    callT Tryz.prog 65 #[.pointer (some (at0 d)), .string op, .string nm, va, vp] (.one (.one .any)) K w := by
  refine F65_calls ?_
  unfold F65
  obtain ⟨ms, ml, sa, pl, vs, fb, ds, A⟩ := A
  have hsteps := ok.steps
  simp only [nn_some_iff, addr_add, Nat.zero_add]
  refine ld_r A.box (x := D.down) rfl (sif_r (fun hd => ?_) (fun hd => ?_))
  · have e : Dsk.step D a0 act part = (D, 165, a0) := by unfold Dsk.step; rw [if_pos hd]
    rw [e] at hK
    refine newO_r fun b3 w1 e1 n1 hb3 _ => hK F w1 _ ⟨(fun h => by cases h), fun _ => ⟨b3, 0, rfl, n1, by omega, fun h => by have := A.lt _ h; omega⟩⟩ (A.ext e1).in (hst1 a0 w F w1 F hq1 (Upd.of_ext e1) fun _ h => .inl h) (Upd.of_ext e1) fun k hk => .inl hk
  have ew : IntKind.wrap .i64 (D.steps + 1) = D.steps + 1 := IntWalk.i64_in _ ⟨by omega, by omega⟩
  refine nn_some (ld_r A.box (x := D.steps) rfl (nn_some ?_))
  rw [addr_add, ew, Nat.zero_add]
  refine stC_r A.box (by simp) fun w1 u1 n1 _ => nn_some ?_
  obtain ⟨D1, hD1⟩ : ∃ D1, D1 = { D with steps := D.steps + 1 } := ⟨_, rfl⟩
  have A1 : DiskAt w1 d F D1 ms ml sa pl vs fb ds := A.box_set u1 (by rw [n1, hD1]; simp [dbox]) (by rw [hD1]) (by rw [hD1]) (by rw [hD1]) (by rw [hD1])
  have ok1 : DkOk D1 (N + 1) := by
    rw [hD1]
    exact ⟨ok.space, fun i f hf => let ⟨a, b, c, e⟩ := ok.fil i f hf; ⟨a, b, c, by omega⟩, Nat.le_trans ok.num (Nat.le_succ _), ok.good, ⟨by dsimp only; omega, by dsimp only; omega⟩, Nat.le_trans ok.acts (Nat.le_succ _)⟩
  have hs1 : D1.steps = D.steps + 1 := by rw [hD1]
  have es0 : D1.plan D1.steps = none → Dsk.step D a0 act part = act D1 := fun h => by
    rw [hD1] at h
    have h : D.plan (D.steps + 1) = none := h
    unfold Dsk.step; rw [if_neg (by rw [hd]; simp), h, hD1]
  have es1 : ∀ g, D1.plan D1.steps = some g → Dsk.step D a0 act part = faulty D1 a0 act part g := fun g h => by
    rw [hD1] at h
    have h : D.plan (D.steps + 1) = some g := h
    unfold Dsk.step; rw [if_neg (by rw [hd]; simp), h, hD1]
  obtain ⟨okA, does⟩ := hact D1 hD1 ok1
  have ud : Upd F w w1 := u1.mono fun k _ e => by rw [e]; exact A.fd
  have u1F : Upd (fun k => F k ∨ M k) w w1 := ud.mono fun k _ h => .inl h
  have hq01 : Q0 w1 := hst0 w w1 _ hq0 u1 fun k e => e
  have hq11 : Q1 a0 w1 F := hst1 a0 w F w1 F hq1 ud fun _ h => .inl h
  have hz1 := u1.size
  clear u1 n1
  rw [addr_add, Nat.zero_add]
  refine ld_r A1.box (x := D1.steps) rfl (nn_some ?_)
  rw [addr_add, Nat.zero_add]
  refine ld_r A1.box (x := pl) rfl ?_
  have fin : ∀ {W : World} {F2 : Nat → Prop} {e : Int} {D2 : Dk} {a : α}, Dsk.step D a0 act part = (D2, e, a) → DiskIn W d F2 D2 → Q1 a W F2 → Upd (fun k => F k ∨ M k) w W → (∀ k, F2 k → F k ∨ E k ∨ w.heap.size ≤ k) →
      (sif (e == 0) (K .nilIface) (newO (.cells #[.string op, .string nm, .int .i64 D1.steps, .iface 33 (.int .i64 e)] 101) fun b26 => K (.iface 99 (.pointer (some (at0 b26)))))) W := by
    intro W F2 e D2 a he hD hq hu hF
    rw [he] at hK
    refine sif_r (fun h => ?_) (fun h => ?_)
    · have h : e = 0 := by simpa using h
      exact hK F2 W _ ⟨fun _ => rfl, fun hh => absurd h hh⟩ hD hq hu hF
    · have h : e ≠ 0 := by simpa using h
      refine newO_r fun b w3 e3 n3 hb _ => hK F2 w3 _ ⟨fun hh => absurd hh h, fun _ => ⟨b, D1.steps, rfl, n3, ?_, fun hh => ?_⟩⟩ (hD.ext e3) (hst1 a W F2 w3 F2 hq (Upd.of_ext e3) fun _ h => .inl h) (hu.trans (Upd.of_ext e3)) hF
      · have := hu.size; omega
      · have := hD.lt _ hh; omega
  have call : ∀ {W : World} {K' : Int → World → Prop}, DiskIn W d F D1 → Q0 W → Upd (fun k => F k ∨ M k) w W →
      (∀ W' F3, DiskIn W' d F3 (act D1).1 → Q1 (act D1).2.2 W' F3 → Upd (fun k => F k ∨ M k) w W' → (∀ k, F3 k → F k ∨ E k ∨ w.heap.size ≤ k) → Upd (fun k => FN W F k ∨ M k) W W' → K' (act D1).2.1 W') →
      callX Tryz.prog (do let d ← Deferred.ofValue va #[]; invoke d.target d.args : Sem Next) (.one (.one (.int .i64))) K' W := by
    intro W K' hD hq hu hK'
    refine does W F K' hD ok1 hq (fun k h => .inl h) hu.size fun w2 F3 hD3 hq3 hu3 hF3 => hK' w2 F3 hD3 hq3 (hu.trans (hu3.mono fun k _ h => h.imp (fun h => h.1) id)) (fun k hk => ?_) hu3
    rcases hF3 k hk with h | h | h
    · exact .inl h
    · exact .inr (.inl h)
    · have := hu.size; exact .inr (.inr (by omega))
  have loss : ∀ {W : World} {F2 : Nat → Prop} {D2 : Dk} {a : α} {M2 : Nat} {g : Fault} {s : Sl} {K' : Unit → World → Prop}, DiskIn W d F2 D2 → DkOk D2 M2 → M2 ≤ 2 ^ 60 → Q1 a W F2 → Upd (fun k => F k ∨ M k) w W → (∀ k, F2 k → F k ∨ E k ∨ w.heap.size ≤ k) → Ints W s g.bytes →
      (∀ W' F3, DiskIn W' d F3 (crash D2 g.names g.bytes) → Q1 a W' F3 → Upd (fun k => F k ∨ M k) w W' → (∀ k, F3 k → F k ∨ E k ∨ w.heap.size ≤ k) → K' () W') →
      callT Tryz.prog 40 #[.pointer (some (at0 d)), .agg (Cells.vals c72 (g.names, s, ())).toArray] (.tup []) K' W := by
    intro W F2 D2 a M2 g s K' hD hok hM2 hq hu hF hi hK'
    obtain ⟨ms2, ml2, sa2, pl2, vs2, fb2, ds2, A2⟩ := hD
    refine crash_call A2 hok hM2 (c := (g.names, s, ())) ⟨hi.x, .inr hi⟩ fun F3 W' hD3 hu3 hF3 => hK' W' F3 hD3 (hst1 a W F2 W' F3 hq hu3 hF3) (hu.new hu3 fun k hk h => ?_) fun k hk => ?_
    · rcases hF k h with h | h | h
      · exact .inl h
      · exact .inr (hE k h)
      · omega
    · rcases hF3 k hk with h | h
      · exact hF k h
      · have := hu.size; exact .inr (.inr (by omega))
  refine A1.plan.look D1.steps (fun h0 => ?_) (fun g s hp hi hsF => ?_)
  ·
    have es := es0 h0
    refine (St.start w1).newAgg rfl rfl rfl fun b12 w2 S2 e2 => ?_
    refine join_r (fun x W => ∃ F2 D2 a, Dsk.step D a0 act part = (D2, x.1, a) ∧ DiskIn W d F2 D2 ∧ Q1 a W F2 ∧ Upd (fun k => F k ∨ M k) w W ∧ ∀ k, F2 k → F k ∨ E k ∨ w.heap.size ≤ k) ?_ ?_
    · refine S2.ld 0 (x := (0 : Int)) rfl rfl (sif_false (sif_false (sif_false (sif_false (sif_false ?_)))))
      refine call (A1.ext e2).in (hst0 w1 w2 _ hq01 e2 fun _ h => h.elim) (u1F.trans (Upd.of_ext e2)) fun W' F3 hD3 hq3 hu3 hF3 _ => ⟨F3, _, _, ?_, hD3, hq3, hu3, hF3⟩
      rw [es]
    · rintro ⟨x, ⟨⟩⟩ W ⟨F2, D2, a, h1, h2, h3, h4, h5⟩
      exact fin h1 h2 h3 h4 h5
  · have es := es1 g hp
    unfold faulty at es
    refine (St.start w1).newAgg rfl rfl rfl fun b12 w2 S2 e2 => ?_
    have hq02 := hst0 w1 w2 _ hq01 e2 fun _ h => h.elim
    have hq12 := hst1 a0 w1 F w2 F hq11 (Upd.of_ext e2) fun _ h => .inl h
    have u2F := u1F.trans (Upd.of_ext e2)
    have hb12 : ∀ {W : World}, Upd (fun k => FN w2 F k ∨ M k) w2 W → W.heap[b12]? = some (.cells (Cells.vals c132 (D1.steps, g.kind, g.part, g.names, s, ())).toArray 132 (0, 0)) := fun u => u.get (S2.at_ 0 rfl) fun h => by
      have hg := S2.ge 0 rfl
      rcases h with h | h
      · have := A1.lt _ h.1; omega
      · have := (hM _ h).1; omega
    refine join_r (fun x W => ∃ F2 D2 a, Dsk.step D a0 act part = (D2, x.1, a) ∧ DiskIn W d F2 D2 ∧ Q1 a W F2 ∧ Upd (fun k => F k ∨ M k) w W ∧ ∀ k, F2 k → F k ∨ E k ∨ w.heap.size ≤ k) ?_ ?_
    · refine S2.ld 0 (x := g.kind) rfl rfl (sif_r (fun h1 => ?_) (fun h1 => ?_))
      · have h1 : g.kind = 1 := by simpa using h1
        rw [if_pos h1] at es
        exact ⟨F, D1, a0, es, (A1.ext e2).in, hq12, u2F, fun k hk => .inl hk⟩
      have h1 : ¬ g.kind = 1 := by simpa using h1
      rw [if_neg h1] at es
      refine sif_r (fun h2 => ?_) (fun h2 => ?_)
      · have h2 : g.kind = 2 := by simpa using h2
        rw [if_pos h2] at es
        rcases hpart with ⟨rfl, rfl⟩ | ⟨pt, gf, cs, rfl, rfl, hp⟩
        · exact rdB_nfunc' i182_ok.und (sif_false ⟨F, D1, a0, es, (A1.ext e2).in, hq12, u2F, fun k hk => .inl hk⟩)
        · refine rdB_nfunc i182_ok.und (sif_true (S2.ld 0 (x := g.part) rfl rfl ?_))
          refine hp D1 g.part hD1 w2 F _ (A1.ext e2).in ok1 hq02 (fun k hk => .inl hk) u2F.size fun w3 F3 hD3 hq3 hu3 hF3 => ⟨F3, _, _, es, hD3, hq3, u2F.trans (hu3.mono fun k _ h => h.imp (fun h => h.1) id), fun k hk => (hF3 k hk).imp id fun h => h.imp id fun h => ?_⟩
          have := u2F.size; omega
      have h2 : ¬ g.kind = 2 := by simpa using h2
      rw [if_neg h2] at es
      refine sif_r (fun h4 => ?_) (fun h4 => ?_)
      · have h4 : g.kind = 4 := by simpa using h4
        rw [if_pos h4] at es
        refine lds_r (x := (g.names, s, ())) (S2.at_ 0 rfl) (fun i v hv => ?_) ?_
        · match i with
          | 0 => simpa [Cells.vals, Cell.val] using hv
          | 1 => simpa [Cells.vals, Cell.val] using hv
          | i + 2 => simp [Cells.vals] at hv
        · exact loss (A1.ext e2).in ok1 (by omega) hq12 u2F (fun k hk => .inl hk) (hi.ext e2) fun W' F3 hD3 hq3 hu3 hF3 => ⟨F3, _, _, es, hD3, hq3, hu3, hF3⟩
      have h4 : ¬ g.kind = 4 := by simpa using h4
      rw [if_neg h4] at es
      refine sif_r (fun h5 => ?_) (fun h5 => ?_)
      · have h5 : g.kind = 5 := by simpa using h5
        rw [if_pos h5] at es
        refine call (A1.ext e2).in hq02 u2F fun W' F3 hD3 hq3 hu3 hF3 hu2' => ?_
        have hb := hb12 hu2'
        refine lds_r (x := (g.names, s, ())) hb (fun i v hv => ?_) ?_
        · match i with
          | 0 => simpa [Cells.vals, Cell.val] using hv
          | 1 => simpa [Cells.vals, Cell.val] using hv
          | i + 2 => simp [Cells.vals] at hv
        · refine loss hD3 okA hN hq3 hu3 hF3 ?_ fun W2 F4 hD4 hq4 hu4 hF4 => ⟨F4, _, _, es, hD4, hq4, hu4, hF4⟩
          refine (hi.ext e2).upd hu2' fun k hk h => ?_
          rcases h with h | h
          · obtain ⟨c, fr, hc⟩ := (hi.ext e2).blk_cells hk
            exact h.2 c fr hc
          · exact (hM k h).2 (hsF k hk)
      have h5 : ¬ g.kind = 5 := by simpa using h5
      rw [if_neg h5] at es
      refine sif_r (fun h3 => ?_) (fun h3 => ?_)
      · have h3 : g.kind = 3 := by simpa using h3
        rw [if_pos h3] at es
        refine call (A1.ext e2).in hq02 u2F fun W' F3 hD3 hq3 hu3 hF3 _ => sif_r (fun h => ?_) (fun h => ?_)
        · have h : (act D1).2.1 ≠ 0 := by simpa using h
          exact ⟨F3, _, _, by rw [es]; simp only [if_pos h], hD3, hq3, hu3, hF3⟩
        · have h : ¬ (act D1).2.1 ≠ 0 := by simpa using h
          exact ⟨F3, _, _, by rw [es]; simp only [if_neg h], hD3, hq3, hu3, hF3⟩
      have h3 : ¬ g.kind = 3 := by simpa using h3
      rw [if_neg h3] at es
      exact call (A1.ext e2).in hq02 u2F fun W' F3 hD3 hq3 hu3 hF3 _ => ⟨F3, _, _, by rw [es], hD3, hq3, hu3, hF3⟩
    · rintro ⟨x, ⟨⟩⟩ W ⟨F2, D2, a, h1, h2, h3, h4, h5⟩
      exact fin h1 h2 h3 h4 h5
end
end Dq
end Go.Proofs.YtmooldhpiopcgaaGreatDoor
set_option linter.unusedSimpArgs false
set_option linter.unusedVariables false
namespace Go.Proofs.YtmooldhpiopcgaaGreatDoor
namespace Dq
open Go Go.Vx Dsk
section
variable {D : Dk} {N n : Nat} {f : Dir}
theorem lists_del {l : List Nm} (h : Lists f l) (a : Nm) : Lists (dset f a none) (l.filter fun x => decide (x ≠ a)) := by
  refine ⟨h.1.sublist List.filter_sublist, fun x => ?_⟩
  rw [List.mem_filter, h.2 x]
  unfold dset
  by_cases e : x = a
  · simp [e]
  · simp [e]
theorem lists_new {l : List Nm} (h : Lists f l) {a : Nm} {i : Nat} (ha : f a = none) : Lists (dset f a (some i)) (a :: l) := by
  refine ⟨List.nodup_cons.2 ⟨fun hm => ?_, h.1⟩, fun x => ?_⟩
  · have := (h.2 a).1 hm; rw [ha] at this; cases this
  · unfold dset
    by_cases e : x = a
    · simp [e]
    · rw [List.mem_cons, if_neg e]; simp [e, h.2 x]
theorem lists_old {l : List Nm} (h : Lists f l) {a : Nm} {i : Nat} (ha : (f a).isSome = true) : Lists (dset f a (some i)) l := by
  refine ⟨h.1, fun x => ?_⟩
  unfold dset
  by_cases e : x = a
  · subst e; simp [h.2, ha]
  · rw [if_neg e]; exact h.2 x
theorem filter_lt {l : List Nm} {a : Nm} (ha : a ∈ l) : (l.filter fun x => decide (x ≠ a)).length + 1 ≤ l.length := by
  have h1 := List.length_filter_lt_length_iff_exists (l := l) (p := fun x => decide (x ≠ a))
  have := h1.2 ⟨a, ha, by simp⟩
  omega
theorem Good.del (h : Good n f) (a : Nm) : Good n (dset f a none) := by
  refine ⟨fun k i hi => ?_, ?_, fun x y i hx hy => ?_, fun k i hi => ?_⟩
  · unfold dset at hi; split at hi
    · cases hi
    · exact h.ids k i hi
  · obtain ⟨l, h1, h2⟩ := h.few
    exact ⟨_, lists_del h1 a, Nat.le_trans (List.length_filter_le _ _) h2⟩
  · unfold dset at hx hy; split at hx
    · cases hx
    · split at hy
      · cases hy
      · exact h.inj x y i hx hy
  · unfold dset at hi; split at hi
    · cases hi
    · exact h.okn k i hi
theorem Good.new (h : Good n f) {a : Nm} (ha : f a = none) (hn : okName a = true) (hf : (Dsk.names f).length < 16) : Good (n + 1) (dset f a (some n)) := by
  refine ⟨fun k i hi => ?_, ?_, fun x y i hx hy => ?_, fun k i hi => ?_⟩
  · unfold dset at hi; split at hi
    · cases hi; omega
    · have := h.ids k i hi; omega
  · obtain ⟨l, h1, h2⟩ := h.few
    rw [names_len h1] at hf
    exact ⟨_, lists_new h1 ha, by simp; omega⟩
  · unfold dset at hx hy
    by_cases e1 : x = a <;> by_cases e2 : y = a
    · rw [e1, e2]
    · rw [if_pos e1] at hx; rw [if_neg e2] at hy; cases hx; have := h.ids y n hy; omega
    · rw [if_neg e1] at hx; rw [if_pos e2] at hy; cases hy; have := h.ids x n hx; omega
    · rw [if_neg e1] at hx; rw [if_neg e2] at hy; exact h.inj x y i hx hy
  · unfold dset at hi; split at hi
    · rename_i e; rw [e]; exact hn
    · exact h.okn k i hi
theorem Good.mv (h : Good n f) {a b : Nm} {i : Nat} (ha : f a = some i) (hn : okName b = true) : Good n (dset (dset f a none) b (some i)) := by
  have hd := h.del a
  refine ⟨fun k j hj => ?_, ?_, fun x y j hx hy => ?_, fun k j hj => ?_⟩
  · unfold dset at hj; split at hj
    · cases hj; exact h.ids a i ha
    · exact hd.ids k j hj
  · obtain ⟨l, h1, h2⟩ := h.few
    have hl := lists_del h1 a
    have hm : a ∈ l := (h1.2 a).2 (by rw [ha]; rfl)
    have hlt := filter_lt hm
    cases hb : dset f a none b with
    | none => exact ⟨_, lists_new hl hb, by simp only [List.length_cons]; omega⟩
    | some j => exact ⟨_, lists_old hl (by rw [hb]; rfl), by omega⟩
  · have other : ∀ z, dset f a none z ≠ some i := fun z hz => by
      unfold dset at hz; split at hz
      · cases hz
      · rename_i hza; exact hza (h.inj z a i hz ha)
    unfold dset at hx hy
    by_cases e1 : x = b <;> by_cases e2 : y = b
    · rw [e1, e2]
    · rw [if_pos e1] at hx; rw [if_neg e2] at hy; cases hx; exact absurd hy (other y)
    · rw [if_neg e1] at hx; rw [if_pos e2] at hy; cases hy; exact absurd hx (other x)
    · rw [if_neg e1] at hx; rw [if_neg e2] at hy; exact hd.inj x y j hx hy
  · unfold dset at hj; split at hj
    · rename_i e; rw [e]; exact hn
    · exact hd.okn k j hj
theorem good_push {as_ : List Deed} {a : Deed} {m : Nat} (hm : n ≤ m) (h : ∀ k, Good n (onAll (as_.take k) f)) (ha : Good m (a.on (onAll as_ f))) : ∀ k, Good m (onAll ((as_ ++ [a]).take k) f) := by
  intro k
  by_cases hk : k ≤ as_.length
  · rw [List.take_append_of_le_length hk]; exact (h k).mono hm
  · rw [List.take_of_length_le (by simp; omega), onAll_append]; exact ha
theorem find_seen {nm : Nm} {i : Nat} {e : Int} (h : Dsk.find D nm = (some i, e)) : D.seen nm = some i ∧ e = 0 ∧ okName nm = true := by
  unfold Dsk.find at h
  split at h
  · cases h
  · rename_i hn
    cases hs : D.seen nm with
    | none => rw [hs] at h; cases h
    | some j => rw [hs] at h; cases h; exact ⟨rfl, rfl, by simpa using hn⟩
theorem find_none {nm : Nm} {e : Int} (h : Dsk.find D nm = (none, e)) : (okName nm = false ∧ e = 164) ∨ (D.seen nm = none ∧ e = 162) := by
  unfold Dsk.find at h
  split at h
  · rename_i hn; cases h; exact .inl ⟨hn, rfl⟩
  · cases hs : D.seen nm with
    | none => rw [hs] at h; cases h; exact .inr ⟨rfl, rfl⟩
    | some j => rw [hs] at h; cases h
theorem DkOk.push (ok : DkOk D N) {a : Deed} (ha : Good D.files.length (a.on D.seen)) : DkOk { D with acts := D.acts ++ [a] } (N + 1) :=
  ⟨ok.space, fun i f hf => let ⟨a, b, c, d⟩ := ok.fil i f hf; ⟨a, b, c, by omega⟩, Nat.le_trans ok.num (Nat.le_succ _), good_push (Nat.le_refl _) ok.good ha, ⟨ok.steps.1, by have := ok.steps.2; dsimp only; omega⟩, by have := ok.acts; simp; omega⟩
theorem ok_rm (ok : DkOk D N) (nm : Nm) : DkOk (rmR nm D).1 (N + 1) := by
  unfold rmR
  cases h : Dsk.find D nm with
  | mk o e =>
    cases o with
    | none => exact ok.mono (Nat.le_succ _)
    | some i => exact ok.push (ok.seen.del nm)
theorem ok_mv (ok : DkOk D N) (a b : Nm) : DkOk (mvR a b D).1 (N + 1) := by
  unfold mvR
  split
  · exact ok.mono (Nat.le_succ _)
  · rename_i hbn
    cases h : Dsk.find D a with
    | mk o e =>
      cases o with
      | none => exact ok.mono (Nat.le_succ _)
      | some i =>
        dsimp only
        split
        · exact ok.mono (Nat.le_succ _)
        · exact ok.push (ok.seen.mv (find_seen h).1 (by simpa using hbn))
theorem ok_mk (ok : DkOk D N) (nm : Nm) : DkOk (mkR nm D).1 (N + 1) := by
  unfold mkR
  dsimp only
  split
  · exact ok.mono (Nat.le_succ _)
  split
  · exact ok.mono (Nat.le_succ _)
  split
  · exact ok.mono (Nat.le_succ _)
  · rename_i h1 h2 h3
    have hs : D.seen nm = none := by
      cases h : Dsk.find D nm with
      | mk o e =>
        cases o with
        | none =>
          rcases find_none h with ⟨_, he⟩ | ⟨hs, _⟩
          · rw [h] at h1; exact absurd he h1
          · exact hs
        | some i => rw [h] at h2; exact absurd (find_seen h).2.1 h2
    have hn : okName nm = true := by
      cases hn : okName nm with
      | true => rfl
      | false =>
        exfalso; apply h1
        unfold Dsk.find
        rw [if_pos hn]
    have hg := ok.seen.new hs hn (by omega)
    refine ⟨ok.space, fun i f hf => ?_, by have := ok.num; simp; omega, ?_, ⟨ok.steps.1, by have := ok.steps.2; dsimp only; omega⟩, by have := ok.acts; simp; omega⟩
    · have hf : (D.files ++ [⟨[], 0, 0⟩])[i]? = some f := hf
      by_cases hi : i < D.files.length
      · rw [List.getElem?_append_left hi] at hf
        obtain ⟨a, b, c, d⟩ := ok.fil i f hf
        exact ⟨a, b, c, by omega⟩
      · rw [List.getElem?_append_right (by omega)] at hf
        have := List.mem_of_getElem? hf
        simp at this; subst this
        simp; omega
    · have e : (D.files ++ [(⟨[], 0, 0⟩ : Fl)]).length = D.files.length + 1 := by simp
      show ∀ k, Good (D.files ++ [(⟨[], 0, 0⟩ : Fl)]).length _
      rw [e]
      exact good_push (Nat.le_succ _) ok.good hg
theorem DkOk.file (ok : DkOk D N) {i : Nat} {g : Fl} (hg : g.data.length ≤ 1048576 ∧ g.synced ≤ g.data.length ∧ 0 ≤ g.count ∧ g.count ≤ N + 1) : DkOk { D with files := D.files.set i g } (N + 1) := by
  refine ⟨ok.space, fun j f hf => ?_, by have := ok.num; simp; omega, by show ∀ k, Good (D.files.set i g).length _; rw [List.length_set]; exact ok.good, ⟨ok.steps.1, by have := ok.steps.2; dsimp only; omega⟩, Nat.le_trans ok.acts (Nat.le_succ _)⟩
  have hf : (D.files.set i g)[j]? = some f := hf
  rw [List.getElem?_set] at hf
  split at hf
  · split at hf
    · cases hf
      exact ⟨hg.1, hg.2.1, hg.2.2.1, by omega⟩
    · cases hf
  · obtain ⟨a, b, c, d⟩ := ok.fil j f hf
    exact ⟨a, b, c, by omega⟩
theorem seen_get (ok : DkOk D N) {nm : Nm} {i : Nat} (h : D.seen nm = some i) : ∃ g, D.files[i]? = some g ∧ fl D i = g := by
  have hi := ok.seen.ids nm i h
  exact ⟨_, List.getElem?_eq_getElem hi, by unfold Dsk.fl; rw [List.getD_eq_getElem?_getD, List.getElem?_eq_getElem hi]; rfl⟩
theorem ok_sy (ok : DkOk D N) (nm : Nm) : DkOk (syR nm D).1 (N + 1) := by
  unfold syR
  cases h : Dsk.find D nm with
  | mk o e =>
    cases o with
    | none => exact ok.mono (Nat.le_succ _)
    | some i =>
      obtain ⟨g, hg, _⟩ := seen_get ok (find_seen h).1
      dsimp only
      rw [put1_eq hg]
      obtain ⟨a, b, c, d⟩ := ok.fil i g hg
      exact ok.file ⟨a, Nat.le_refl _, c, by dsimp only; omega⟩
theorem sum_ge {l : List Int} (h : ∀ x ∈ l, 0 ≤ x) {x : Int} (hx : x ∈ l) : x ≤ sumZ l := by
  induction l with
  | nil => cases hx
  | cons y r ih =>
    have h1 := h y List.mem_cons_self
    have h2 := sumZ_nonneg fun z hz => h z (List.mem_cons_of_mem _ hz)
    rcases List.mem_cons.1 hx with e | hx
    · subst e; simp only [sumZ]; omega
    · have := ih (fun z hz => h z (List.mem_cons_of_mem _ hz)) hx
      simp only [sumZ]; omega
theorem used_ge (ok : DkOk D N) {nm : Nm} {i : Nat} (h : D.seen nm = some i) : ((fl D i).data.length : Int) ≤ usedBut D none := by
  obtain ⟨h1, _⟩ := ok.seen.names
  unfold usedBut
  refine sum_ge (fun x hx => ?_) ?_
  · obtain ⟨n, _, rfl⟩ := List.mem_map.1 hx; exact weigh_nonneg D none n
  · refine List.mem_map.2 ⟨nm, (h1.2 nm).2 (by rw [h]; rfl), ?_⟩
    unfold weigh; rw [h]; simp
theorem ok_ap (ok : DkOk D N) (nm : Nm) (b : List UInt8) : DkOk (apR nm b D).1 (N + 1) := by
  unfold apR
  cases h : Dsk.find D nm with
  | mk o e =>
    cases o with
    | none => exact ok.mono (Nat.le_succ _)
    | some i =>
      have hs := (find_seen h).1
      obtain ⟨g, hg, hfl⟩ := seen_get ok hs
      have hu := used_ge ok hs
      rw [hfl] at hu
      have hsp := ok.space
      have hun := ok.used none
      dsimp only
      rw [put1_eq hg]
      obtain ⟨a, b', c, d⟩ := ok.fil i g hg
      have hr : room D = max (D.space - usedBut D none) 0 := rfl
      refine ok.file ⟨?_, ?_, ?_, ?_⟩
      · simp only [List.length_append, List.length_take]
        split <;> omega
      · simp only [List.length_append]; omega
      · dsimp only; split <;> omega
      · dsimp only; split <;> omega
theorem ok_settle (ok : DkOk D N) : DkOk (Dsk.settle D) N :=
  ⟨ok.space, ok.fil, ok.num, fun k => by rw [show (Dsk.settle D).acts = [] from rfl, List.take_nil]; exact ok.seen, ok.steps, Nat.zero_le _⟩
theorem cutAll_ok {P : Fl → Prop} (hP : ∀ g more, P g → P (g.cut more)) (f : Dir) (bytes : List Int) : ∀ (l : List Nm) (i : Nat) (fs : List Fl), (∀ (j : Nat) (g : Fl), fs[j]? = some g → P g) → (cutAll f bytes l i fs).length = fs.length ∧ ∀ (j : Nat) (g : Fl), (cutAll f bytes l i fs)[j]? = some g → P g
  | [], _, fs, h => ⟨rfl, h⟩
  | n :: r, i, fs, h => by
    have h2 : ∀ (j : Nat) (g : Fl), (put1 fs ((f n).getD 0) fun x => x.cut (bytes.getD i 0))[j]? = some g → P g := by
      intro j g hg
      unfold put1 at hg
      rw [List.getElem?_modify] at hg
      obtain ⟨x, hx, hxg⟩ := Option.map_eq_some_iff.1 hg
      split at hxg
      · subst hxg; exact hP x _ (h j x hx)
      · subst hxg; exact h j x hx
    obtain ⟨g1, g2⟩ := cutAll_ok hP f bytes r (i + 1) _ h2
    simp only [cutAll]
    exact ⟨by rw [g1]; unfold put1; simp, g2⟩
theorem ok_crash (ok : DkOk D N) (nm : Int) (bytes : List Int) : DkOk (crash D nm bytes) N := by
  unfold crash
  split
  · exact ok
  · dsimp only
    generalize hl : onAll (D.acts.take (min (max nm 0).toNat D.acts.length)) D.lasts = l
    have hg := ok.good (min (max nm 0).toNat D.acts.length)
    rw [hl] at hg
    obtain ⟨h1, h2⟩ := cutAll_ok (P := fun f => f.data.length ≤ 1048576 ∧ f.synced ≤ f.data.length ∧ 0 ≤ f.count ∧ f.count ≤ N) (fun g more ⟨a, b, c, d⟩ => by
      simp only [Fl.cut, List.length_take]; omega) l bytes (names l) 0 D.files ok.fil
    refine ⟨ok.space, h2, by dsimp only; rw [h1]; exact ok.num, fun k => ?_, ok.steps, Nat.zero_le _⟩
    rw [List.take_nil]
    show Good (cutAll l bytes (names l) 0 D.files).length l
    rw [h1]; exact hg
theorem ok_put (ok : DkOk D N) (nm : Nm) (b : List UInt8) : DkOk (putR D nm b).1 (N + 1) := by
  unfold putR
  split
  · exact ok.mono (Nat.le_succ _)
  split
  · exact ok.mono (Nat.le_succ _)
  split
  · exact ok.mono (Nat.le_succ _)
  · rename_i h1 h2 h3
    have hsp := ok.space
    have hun := ok.used (D.seen nm)
    have hb : b.length ≤ 1048576 := by
      have : ¬ (b.length : Int) > D.space - usedBut D (D.seen nm) := fun h => h3 (.inr h)
      omega
    cases hs : D.seen nm with
    | some i =>
      obtain ⟨g, hg, _⟩ := seen_get ok hs
      obtain ⟨a, b', c, d⟩ := ok.fil i g hg
      dsimp only
      rw [put1_eq hg]
      exact (ok_settle ok).file (i := i) (g := ⟨b, b.length, g.count + 1⟩) ⟨hb, Nat.le_refl _, by dsimp only; omega, by dsimp only; omega⟩
    | none =>
      have hg := ok.seen.new hs (by simpa using h2) (by
        have : ¬ (16 ≤ (names D.seen).length) := fun h => h3 (.inl ⟨hs, h⟩)
        omega)
      dsimp only
      refine ⟨ok.space, fun i f hf => ?_, by have := ok.num; simp; omega, fun k => ?_, ⟨ok.steps.1, by have := ok.steps.2; dsimp only; omega⟩, Nat.zero_le _⟩
      · have hf : (D.files ++ [⟨b, b.length, 1⟩])[i]? = some f := hf
        by_cases hi : i < D.files.length
        · rw [List.getElem?_append_left hi] at hf
          obtain ⟨a, b, c, d⟩ := ok.fil i f hf
          exact ⟨a, b, c, by omega⟩
        · rw [List.getElem?_append_right (by omega)] at hf
          have := List.mem_of_getElem? hf
          simp at this; subst this
          refine ⟨hb, Nat.le_refl _, (show (0 : Int) ≤ 1 by decide), ?_⟩
          show (1 : Int) ≤ _
          omega
      · have e : (D.files ++ [(⟨b, b.length, 1⟩ : Fl)]).length = D.files.length + 1 := by simp
        rw [List.take_nil]
        show Good (D.files ++ [(⟨b, b.length, 1⟩ : Fl)]).length (dset D.seen nm (some D.files.length))
        rw [e]; exact hg
end
end Dq
end Go.Proofs.YtmooldhpiopcgaaGreatDoor
set_option linter.unusedSimpArgs false
set_option linter.unusedVariables false
namespace Go.Proofs.YtmooldhpiopcgaaGreatDoor
namespace Dq
open Go Go.Vx Dsk
section
variable {w w' : World} {S F F' : Nat → Prop} {d m ms ml : Nat} {f : Dir} {fb : List Nat} {ds : List Sl} {fs : List Fl} {sa : Sl} {vs : List Value} {D : Dk} {pl : Option Nat} {p : Int → Option Fault} {N : Nat}
abbrev pbox (d : Nat) : Obj := .cells #[.pointer (some (at0 d))] 24 (0, 0)
abbrev sbox (n : Nm) : Obj := .cells #[.string n] 9 (0, 0)
abbrev Ends (w : World) (d : Nat) (F : Nat → Prop) (op nm : ByteArray) (r : Dk × Int × Unit) (K : Value → World → Prop) : Prop :=
  ∀ F' w' v, ErrIn w w' F' v op nm r.2.1 → DiskIn w' d F' r.1 → Upd F w w' → (∀ k, F' k → F k ∨ w.heap.size ≤ k) → K v w'
theorem sync_does {E M : Nat → Prop} {b1 b2 : Nat} {n : Nm} {Q1 : Unit → World → (Nat → Prop) → Prop} (hQ1 : ∀ w F, Q1 () w F) {F0 : Nat → Prop} {w0 : World} :
    Does w0 d F0 M E (fun w => w.heap[b1]? = some (pbox d) ∧ w.heap[b2]? = some (sbox n)) Q1 D N (u (syR n) D) (.func (.func 170) #[] #[.pointer (some (at0 b1)), .pointer (some (at0 b2))]) #[] := by
  rintro w1 F1 K ⟨ms, ml, sa, pl, vs, fb, ds, A⟩ ok ⟨n1, n2⟩ hF hz hK
  refine func_x (by kernel_rfl) ?_
  refine F170_calls (v0 := at0 b1) (v1 := at0 b2) ?_
  unfold F170
  refine ld_r n1 (x := some (at0 d)) rfl (ld_r n2 (x := n) rfl (find_call A fun nm w2 e2 hnm => ?_))
  unfold u syR at hK
  obtain ⟨o, e, hfo⟩ : ∃ o e, Dsk.find D n = (o, e) := ⟨_, _, rfl⟩
  rw [hfo] at hK hnm ⊢
  refine ((St.start w1).ext e2).newAgg rfl rfl rfl fun b4 w3 S3 e3 => ?_
  have e13 := e2.trans e3
  cases o with
  | none =>
    have he : e ≠ 0 := by rcases find_none hfo with ⟨_, h⟩ | ⟨_, h⟩ <;> rw [h] <;> decide
    refine join_r (fun _ w' => w3 = w') (sif_r (fun h => absurd (by simpa using h) he) (fun _ => rfl)) fun _ w' h => ?_
    subst h
    exact hK w3 F1 (A.ext e13).in (hQ1 _ _) (Upd.of_ext e13) fun k hk => .inl hk
  | some i =>
    obtain ⟨hs, rfl, _⟩ := find_seen hfo
    have A3 := A.ext e13
    obtain ⟨b, s, g, hb, hss, hg, hgb, hfl, hbx, hby⟩ := A3.file_at (ok.seen.ids n i hs)
    simp only [put1_eq hg, Option.map_some, hgb] at hK S3 ⊢
    have hsl := hby.len1
    rw [List.length_map] at hsl
    refine join_r (fun _ w' => w'.heap[b]? = some (fbox i s ⟨g.data, s.len, g.count⟩) ∧ Upd (fun k => k = b) w3 w') (sif_true (S3.ld 0 (x := some (at0 b)) rfl rfl (fsync_call hbx fun w4 n4 u4 _ => ⟨n4, u4⟩))) ?_
    rintro _ w4 ⟨n4, u4⟩
    have ho : BytesO w4 0 s g.data := hby.upd u4 fun k _ hk e => by
      obtain ⟨c, fr, hc⟩ := hby.in.blk_cells hk
      rw [e, hbx] at hc; cases hc
    have A4 := A3.file_set (g' := ⟨g.data, g.data.length, g.count⟩) hb hss hg u4 (fun k hk _ => .inl hk) (by rw [hsl]; exact n4) ho (fun k hk => .inl hk)
    have hfb : F1 b := A.ffb b (List.mem_of_getElem? hb)
    refine hK w4 _ A4.in (hQ1 _ _) ((Upd.of_ext e13).new u4 fun k hk e => .inl ⟨by rw [e]; exact hfb, fun c fr hc => ?_⟩) fun k hk => ?_
    · rw [e] at hc hk
      have := e13.ext_get hc
      rw [hbx] at this; cases this
    · rcases hk with hk | hk
      · exact .inl hk
      · exact .inl (A.fds s (List.mem_of_getElem? hss) k hk)
theorem sync_call (A : DiskIn w d F D) (ok : DkOk D N) (hN : N + 2 ≤ 2 ^ 60) {n : Nm} {K : Value → World → Prop} (hK : Ends w d F ⟨#[115, 121, 110, 99]⟩ n (callSync D n) K) : callT Tryz.prog 139 #[.pointer (some (at0 d)), .string n] (.one (.one .any)) K w := by
  refine F139_calls ?_
  unfold F139
  refine newO_r fun b1 w1 e1 n1 hb1 _ => newO_r fun b2 w2 e2 n2 hb2 _ => ?_
  have e12 := e1.trans e2
  refine ld_r (e2.ext_get n1) (x := some (at0 d)) rfl (ld_r n2 (x := n) rfl ?_)
  have hs1 := e1.size
  have hlt := A.lt
  have hd := A.fd
  refine step_call (M := fun _ => False) (E := fun _ => False) (Q0 := fun w => w.heap[b1]? = some (pbox d) ∧ w.heap[b2]? = some (sbox n)) (Q1 := fun _ _ _ => True) (a0 := ()) (act := u (syR n)) (part := none) (A.ext e12) ok hN ⟨e2.ext_get n1, n2⟩ trivial (fun _ h => h.elim) (fun _ h => h.elim)
    (fun w1 w2 S ⟨h1, h2⟩ u hS => ⟨u.get h1 fun h => ?_, u.get h2 fun h => ?_⟩) (fun _ _ _ _ _ _ _ _ => trivial) (fun D1 _ ok1 => ⟨ok_sy ok1 n, sync_does fun _ _ => trivial⟩) (.inl ⟨rfl, rfl⟩) ?_
  · have := hS _ h; have := hlt d hd; omega
  · have := hS _ h; have := hlt d hd; omega
  · intro F' w' v hv hD _ hu hF
    have hs := e12.size
    exact hK F' w' v ⟨hv.ok, fun h => let ⟨b, k, h1, h2, h3, h4⟩ := hv.bad h; ⟨b, k, h1, h2, by omega, h4⟩⟩ hD ((Upd.of_ext e12).trans (hu.mono fun k _ h => h.resolve_right id)) fun k hk => (hF k hk).imp id fun h => by rcases h with h | h; exact h.elim; omega
theorem syncdir_call (A : DiskIn w d F D) (ok : DkOk D N) (hN : N + 2 ≤ 2 ^ 60) {K : Value → World → Prop} (hK : Ends w d F ⟨#[115, 121, 110, 99, 100, 105, 114]⟩ ⟨#[]⟩ (callSyncDir D) K) : callT Tryz.prog 76 #[.pointer (some (at0 d))] (.one (.one .any)) K w := by
  refine F76_calls ?_
  unfold F76
  refine newO_r fun b1 w1 e1 n1 hb1 _ => ?_
  refine ld_r n1 (x := some (at0 d)) rfl ?_
  have hs1 := e1.size
  have hlt := A.lt
  have hd := A.fd
  refine step_call (M := fun _ => False) (E := fun _ => False) (Q0 := fun w => w.heap[b1]? = some (pbox d)) (Q1 := fun _ _ _ => True) (a0 := ()) (act := u fun D => (Dsk.settle D, 0)) (part := none) (A.ext e1) ok hN n1 trivial (fun _ h => h.elim) (fun _ h => h.elim)
    (fun w1 w2 S h1 u hS => u.get h1 fun h => ?_) (fun _ _ _ _ _ _ _ _ => trivial) (fun D1 _ ok1 => ⟨(ok_settle ok1).mono (Nat.le_succ _), ?_⟩) (.inl ⟨rfl, rfl⟩) ?_
  · have := hS _ h; have := hlt d hd; omega
  · rintro w1 F1 K ⟨ms, ml, sa, pl, vs, fb, ds, A⟩ ok n1 hF hz hK
    refine func_x (by kernel_rfl) ?_
    refine F106_calls (v0 := at0 b1) ?_
    unfold F106
    refine ld_r n1 (x := some (at0 d)) rfl (settle_call A fun m' w2 A2 u2 hm' => ?_)
    exact hK w2 _ A2.in trivial (u2.mono fun k _ e => .inl (by rw [e]; exact FN.of A.fd A.box fun c fr h => by cases h)) fun k hk => hk.imp id fun h => .inr (by omega)
  · intro F' w' v hv hD _ hu hF
    exact hK F' w' v ⟨hv.ok, fun h => let ⟨b, k, h1, h2, h3, h4⟩ := hv.bad h; ⟨b, k, h1, h2, by omega, h4⟩⟩ hD ((Upd.of_ext e1).trans (hu.mono fun k _ h => h.resolve_right id)) fun k hk => (hF k hk).imp id fun h => by rcases h with h | h; exact h.elim; omega
theorem remove_call (A : DiskIn w d F D) (ok : DkOk D N) (hN : N + 2 ≤ 2 ^ 30) {n : Nm} {K : Value → World → Prop} (hK : Ends w d F ⟨#[114, 101, 109, 111, 118, 101]⟩ n (callRemove D n) K) : callT Tryz.prog 75 #[.pointer (some (at0 d)), .string n] (.one (.one .any)) K w := by
  refine F75_calls ?_
  unfold F75
  refine newO_r fun b1 w1 e1 n1 hb1 _ => newO_r fun b2 w2 e2 n2 hb2 _ => ?_
  have e12 := e1.trans e2
  refine ld_r (e2.ext_get n1) (x := some (at0 d)) rfl (ld_r n2 (x := n) rfl ?_)
  have hs1 := e1.size
  have hs2 := e2.size
  have hlt := A.lt
  have hd := A.fd
  refine step_call (M := fun k => k = b2) (E := fun k => k = b2) (Q0 := fun w => w.heap[b1]? = some (pbox d) ∧ w.heap[b2]? = some (sbox n)) (Q1 := fun _ _ _ => True) (a0 := ()) (act := u (rmR n)) (part := none) (A.ext e12) ok (by omega) ⟨e2.ext_get n1, n2⟩ trivial (fun k hk => ⟨by rw [hk]; exact lt_of_heap n2, fun h => ?_⟩) (fun _ h => h)
    (fun w1 w2 S ⟨h1, h2⟩ u hS => ⟨u.get h1 fun h => ?_, u.get h2 fun h => ?_⟩) (fun _ _ _ _ _ _ _ _ => trivial) (fun D1 _ ok1 => ⟨ok_rm ok1 n, ?_⟩) (.inl ⟨rfl, rfl⟩) ?_
  · have := hlt k h; omega
  · have := hS _ h; have := hlt d hd; omega
  · have := hS _ h; have := hlt d hd; omega
  · rintro w1 F1 K ⟨ms, ml, sa, pl, vs, fb, ds, A⟩ ok ⟨n1, n2⟩ hF hz hK
    refine func_x (by kernel_rfl) ?_
    refine F103_calls (v0 := at0 b1) (v1 := at0 b2) ?_
    unfold F103
    refine ld_r n1 (x := some (at0 d)) rfl (ld_r n2 (x := n) rfl (find_call A fun nm w2 e2 hnm => ?_))
    unfold u rmR at hK
    obtain ⟨o, e, hfo⟩ : ∃ o e, Dsk.find D1 n = (o, e) := ⟨_, _, rfl⟩
    rw [hfo] at hK hnm ⊢
    refine ((St.start w1).ext e2).newAgg rfl rfl rfl fun b4 w3 S3 e3 => ?_
    have e13 := e2.trans e3
    cases o with
    | none =>
      have he : e ≠ 0 := by rcases find_none hfo with ⟨_, h⟩ | ⟨_, h⟩ <;> rw [h] <;> decide
      refine join_r (fun _ w' => w3 = w') (sif_r (fun h => absurd (by simpa using h) he) (fun _ => rfl)) fun _ w' h => ?_
      subst h
      exact hK w3 F1 (A.ext e13).in trivial (Upd.of_ext e13) fun k hk => .inl hk
    | some i =>
      obtain ⟨hs, rfl, _⟩ := find_seen hfo
      have A3 := (A.ext e13).more (F' := fun k => F1 k ∨ k = b2) (fun k hk => .inl hk) (fun k hk => hk.elim ((A.ext e13).lt k) fun h => by rw [h]; exact lt_of_heap (e13.ext_get n2))
      have hal := ok.acts
      refine join_r (fun _ w' => ∃ F2, DiskIn w' d F2 { D1 with acts := D1.acts ++ [.rm n] } ∧ Upd (fun k => FN w1 F1 k ∨ k = b2) w1 w' ∧ ∀ k, F2 k → F1 k ∨ k = b2 ∨ w1.heap.size ≤ k) (sif_true (ld_r (e13.ext_get n1) (x := some (at0 d)) rfl (act_call A3 (a := .rm n) ⟨b2, rfl, e13.ext_get n2, .inr rfl⟩ rfl (by omega) fun sa' w4 A4 u4 hb4 => ⟨_, A4.in, (Upd.of_ext e13).new u4 fun k hk h => ?_, fun k hk => ?_⟩))) ?_
      · rcases h.1 with hk' | hk'
        · exact .inl ⟨hk', fun c fr hc => h.2 c fr (e13.ext_get hc)⟩
        · exact .inr hk'
      · have hz := e13.size
        rcases hk with (hk | hk) | hk
        · exact .inl hk
        · exact .inr (.inl hk)
        · rcases hb4 k hk with (h | h) | h
          · exact .inl h
          · exact .inr (.inl h)
          · exact .inr (.inr (by omega))
      · rintro _ w4 ⟨F2, A4, u4, hF4⟩
        exact hK w4 F2 A4 trivial u4 hF4
  · intro F' w' v hv hD _ hu hF
    exact hK F' w' v ⟨hv.ok, fun h => let ⟨b, k, h1, h2, h3, h4⟩ := hv.bad h; ⟨b, k, h1, h2, by omega, h4⟩⟩ hD ((Upd.of_ext e12).new hu fun k hk h => h.resolve_right (by omega)) fun k hk => (hF k hk).imp id fun h => by omega
end
end Dq
end Go.Proofs.YtmooldhpiopcgaaGreatDoor
set_option linter.unusedSimpArgs false
set_option linter.unusedVariables false
namespace Go.Proofs.YtmooldhpiopcgaaGreatDoor
namespace Dq
open Go Go.Vx Dsk
section
variable {w w' : World} {S F F' : Nat → Prop} {d m ms ml : Nat} {f : Dir} {fb : List Nat} {ds : List Sl} {fs : List Fl} {sa : Sl} {vs : List Value} {D : Dk} {pl : Option Nat} {p : Int → Option Fault} {N : Nat}
theorem rename_call (A : DiskIn w d F D) (ok : DkOk D N) (hN : N + 2 ≤ 2 ^ 30) {n t : Nm} {K : Value → World → Prop} (hK : Ends w d F ⟨#[114, 101, 110, 97, 109, 101]⟩ n (callRename D n t) K) : callT Tryz.prog 140 #[.pointer (some (at0 d)), .string n, .string t] (.one (.one .any)) K w := by
  refine F140_calls ?_
  unfold F140
  refine newO_r fun b1 w1 e1 n1 hb1 _ => newO_r fun b2 w2 e2 n2 hb2 _ => newO_r fun b3 w3 e3 n3 hb3 _ => ?_
  have e23 := e2.trans e3
  have e13 := e1.trans e23
  refine ld_r (e23.ext_get n1) (x := some (at0 d)) rfl (ld_r (e3.ext_get n2) (x := n) rfl ?_)
  have hs1 := e1.size
  have hs2 := e2.size
  have hs3 := e3.size
  have hlt := A.lt
  have hd := A.fd
  refine step_call (M := fun k => k = b3) (E := fun k => k = b3) (Q0 := fun w => w.heap[b1]? = some (pbox d) ∧ w.heap[b2]? = some (sbox n) ∧ w.heap[b3]? = some (sbox t)) (Q1 := fun _ _ _ => True) (a0 := ()) (act := u (mvR n t)) (part := none) (A.ext e13) ok (by omega) ⟨e23.ext_get n1, e3.ext_get n2, n3⟩ trivial (fun k hk => ⟨by rw [hk]; exact lt_of_heap n3, fun h => ?_⟩) (fun _ h => h)
    (fun w1 w2 S ⟨h1, h2, h3⟩ u hS => ⟨u.get h1 fun h => ?_, u.get h2 fun h => ?_, u.get h3 fun h => ?_⟩) (fun _ _ _ _ _ _ _ _ => trivial) (fun D1 _ ok1 => ⟨ok_mv ok1 n t, ?_⟩) (.inl ⟨rfl, rfl⟩) ?_
  · have := hlt k h; omega
  · have := hS _ h; have := hlt d hd; omega
  · have := hS _ h; have := hlt d hd; omega
  · have := hS _ h; have := hlt d hd; omega
  · rintro w1 F1 K ⟨ms, ml, sa, pl, vs, fb, ds, A⟩ ok ⟨n1, n2, n3⟩ hF hz hK
    refine func_x (by kernel_rfl) ?_
    refine F171_calls (v0 := at0 b3) (v1 := at0 b1) (v2 := at0 b2) ?_
    unfold F171
    unfold u mvR at hK
    refine ld_r n3 (x := t) rfl (isName_call fun w2 e2 => sif_r (fun h => ?_) (fun h => ?_))
    · have h : okName t = false := by simpa using h
      rw [if_pos h] at hK
      exact hK w2 F1 (A.ext e2).in trivial (Upd.of_ext e2) fun k hk => .inl hk
    have h : ¬ okName t = false := by simpa using h
    rw [if_neg h] at hK
    refine ld_r (e2.ext_get n1) (x := some (at0 d)) rfl (ld_r (e2.ext_get n2) (x := n) rfl (find_call (A.ext e2) fun nm w3 e3 hnm => ?_))
    obtain ⟨o, e, hfo⟩ : ∃ o e, Dsk.find D1 n = (o, e) := ⟨_, _, rfl⟩
    rw [hfo] at hK hnm ⊢
    have e13 := e2.trans e3
    refine ((St.start w1).ext e13).newAgg rfl rfl rfl fun b4 w4 S4 e4 => ?_
    have e14 := e13.trans e4
    cases o with
    | none =>
      have he : e ≠ 0 := by rcases find_none hfo with ⟨_, h⟩ | ⟨_, h⟩ <;> rw [h] <;> decide
      refine join_r (fun _ w' => w4 = w') (join_at (false, ()) (sif_r (fun h => absurd (by simpa using h) he) (fun _ => ⟨rfl, rfl⟩)) (sif_false rfl)) fun _ w' h => ?_
      subst h
      exact hK w4 F1 (A.ext e14).in trivial (Upd.of_ext e14) fun k hk => .inl hk
    | some i =>
      obtain ⟨hs, rfl, _⟩ := find_seen hfo
      have hnm := hnm rfl
      subst hnm
      dsimp only at hK
      refine join_r (fun _ w' => ∃ F2 D2, (if nm = t then (D1, 0) else ({ D1 with acts := D1.acts ++ [.mv nm t i] }, 0)) = (D2, (0 : Int)) ∧ DiskIn w' d F2 D2 ∧ Upd (fun k => FN w1 F1 k ∨ k = b3) w1 w' ∧ ∀ k, F2 k → F1 k ∨ k = b3 ∨ w1.heap.size ≤ k) ?_ ?_
      · refine join_at (decide (¬ nm = t), ()) (sif_true (ld_r (e14.ext_get n2) (x := nm) rfl (ld_r (e14.ext_get n3) (x := t) rfl ⟨by rw [bytes_eq]; simp, rfl⟩))) (sif_r (fun h => ?_) (fun h => ?_))
        · have h : ¬ nm = t := by simpa using h
          have hb4 := S4.ge 0 rfl
          have n4 := S4.at_ 0 rfl
          have hb4l := lt_of_heap n4
          have A4 := (A.ext e14).more (F' := fun k => (F1 k ∨ k = b3) ∨ k = b4) (fun k hk => .inl (.inl hk)) (fun k hk => hk.elim (fun hk => hk.elim ((A.ext e14).lt k) fun h => by rw [h]; exact lt_of_heap (e14.ext_get n3)) fun h => by rw [h]; exact hb4l)
          have hal := ok.acts
          refine ld_r (e14.ext_get n1) (x := some (at0 d)) rfl (act_call A4 (a := .mv nm t i) ⟨b4, b3, rfl, n4, e14.ext_get n3, .inr rfl, .inl (.inr rfl), A.seen.ids nm i hs⟩ rfl (by omega) fun sa' w5 A5 u5 hb5 => ⟨_, _, by rw [if_neg h], A5.in, (Upd.of_ext e14).new u5 fun k hk h => ?_, fun k hk => ?_⟩)
          · rcases h.1 with (hk' | hk') | hk'
            · exact .inl ⟨hk', fun c fr hc => h.2 c fr (e14.ext_get hc)⟩
            · exact .inr hk'
            · omega
          · have hz := e14.size
            rcases hk with ((hk | hk) | hk) | hk
            · exact .inl hk
            · exact .inr (.inl hk)
            · exact .inr (.inr (by omega))
            · rcases hb5 k hk with ((h | h) | h) | h
              · exact .inl h
              · exact .inr (.inl h)
              · exact .inr (.inr (by omega))
              · exact .inr (.inr (by omega))
        · have h : nm = t := by simpa using h
          exact ⟨F1, D1, by rw [if_pos h], (A.ext e14).in, Upd.of_ext e14, fun k hk => .inl hk⟩
      · rintro _ w5 ⟨F2, D2, hD2, A5, u5, hF5⟩
        rw [hD2] at hK
        exact hK w5 F2 A5 trivial u5 hF5
  · intro F' w' v hv hD _ hu hF
    exact hK F' w' v ⟨hv.ok, fun h => let ⟨b, k, h1, h2, h3, h4⟩ := hv.bad h; ⟨b, k, h1, h2, by omega, h4⟩⟩ hD ((Upd.of_ext e13).new hu fun k hk h => h.resolve_right (by omega)) fun k hk => (hF k hk).imp id fun h => by omega
theorem make_call (A : DiskIn w d F D) (ok : DkOk D N) (hN : N + 2 ≤ 2 ^ 30) {n : Nm} {K : Value → World → Prop} (hK : Ends w d F ⟨#[109, 97, 107, 101]⟩ n (callMake D n) K) : callT Tryz.prog 137 #[.pointer (some (at0 d)), .string n] (.one (.one .any)) K w := by
  refine F137_calls ?_
  unfold F137
  refine newO_r fun b1 w1 e1 n1 hb1 _ => newO_r fun b2 w2 e2 n2 hb2 _ => ?_
  have e12 := e1.trans e2
  refine ld_r (e2.ext_get n1) (x := some (at0 d)) rfl (ld_r n2 (x := n) rfl ?_)
  have hs1 := e1.size
  have hs2 := e2.size
  have hlt := A.lt
  have hd := A.fd
  refine step_call (M := fun k => k = b2) (E := fun k => k = b2) (Q0 := fun w => w.heap[b1]? = some (pbox d) ∧ w.heap[b2]? = some (sbox n)) (Q1 := fun _ _ _ => True) (a0 := ()) (act := u (mkR n)) (part := none) (A.ext e12) ok (by omega) ⟨e2.ext_get n1, n2⟩ trivial (fun k hk => ⟨by rw [hk]; exact lt_of_heap n2, fun h => ?_⟩) (fun _ h => h)
    (fun w1 w2 S ⟨h1, h2⟩ u hS => ⟨u.get h1 fun h => ?_, u.get h2 fun h => ?_⟩) (fun _ _ _ _ _ _ _ _ => trivial) (fun D1 _ ok1 => ⟨ok_mk ok1 n, ?_⟩) (.inl ⟨rfl, rfl⟩) ?_
  · have := hlt k h; omega
  · have := hS _ h; have := hlt d hd; omega
  · have := hS _ h; have := hlt d hd; omega
  · rintro w1 F1 K ⟨ms, ml, sa, pl, vs, fb, ds, A⟩ ok ⟨n1, n2⟩ hF hz hK
    refine func_x (by kernel_rfl) ?_
    refine F166_calls (v0 := at0 b1) (v1 := at0 b2) ?_
    unfold F166
    refine ld_r n1 (x := some (at0 d)) rfl (ld_r n2 (x := n) rfl (find_call A fun nm w2 e2 hnm => ?_))
    unfold u mkR at hK
    dsimp only at hK
    obtain ⟨o, e, hfo⟩ : ∃ o e, Dsk.find D1 n = (o, e) := ⟨_, _, rfl⟩
    rw [hfo] at hK hnm ⊢
    dsimp only at hK
    refine ((St.start w1).ext e2).newAgg rfl rfl rfl fun b4 w3 S3 e3 => ?_
    have e13 := e2.trans e3
    have A3 := A.ext e13
    refine sif_r (fun h => ?_) (fun h => ?_)
    · have h : e = 164 := by simpa using h
      rw [if_pos h] at hK
      subst h
      exact hK w3 F1 A3.in trivial (Upd.of_ext e13) fun k hk => .inl hk
    have h : ¬ e = 164 := by simpa using h
    rw [if_neg h] at hK
    refine sif_r (fun h0 => ?_) (fun h0 => ?_)
    · have h0 : e = 0 := by simpa using h0
      rw [if_pos h0] at hK
      exact hK w3 F1 A3.in trivial (Upd.of_ext e13) fun k hk => .inl hk
    have h0 : ¬ e = 0 := by simpa using h0
    rw [if_neg h0] at hK
    refine ld_r (e13.ext_get n1) (x := some (at0 d)) rfl (nn_some ?_)
    rw [addr_add]
    refine ld_r A3.box (x := some ms) rfl (A3.seen.len (sif_r (fun hc => ?_) (fun hc => ?_)))
    · have hc : 16 ≤ (names D1.seen).length := by have := of_decide_eq_true hc; omega
      rw [if_pos hc] at hK
      exact hK w3 F1 A3.in trivial (Upd.of_ext e13) fun k hk => .inl hk
    have hc : ¬ 16 ≤ (names D1.seen).length := by have := of_decide_eq_false hc; omega
    rw [if_neg hc] at hK
    have hnum := ok.num
    refine ld_r (e13.ext_get n1) (x := some (at0 d)) rfl (fresh_call A3 (by omega) fun b w4 A4 u4 hb4 => newO_r fun b11 w5 e5 n5 hb5 _ => ?_)
    have hdb : ∀ k, k ≠ d → ∀ {o}, w3.heap[k]? = some o → w4.heap[k]? = some o := fun k hk o ho => u4.get ho hk
    have hd1 := hF d A.fd
    have hblt := lt_of_heap n1
    have hb2lt := lt_of_heap n2
    have hbd1 : b1 ≠ d := fun e => by rw [e, A.box] at n1; cases n1
    have hbd2 : b2 ≠ d := fun e => by rw [e, A.box] at n2; cases n2
    refine stC_r n5 (by simp) fun w6 u6 n6 hz6 => ?_
    have e46 : Ext w4 w6 := e5.new u6 fun k hk h => by omega
    have hz4 := u4.size
    have hz13 := e13.size
    have g1 : w6.heap[b1]? = some (pbox d) := e46.ext_get (hdb _ hbd1 (e13.ext_get n1))
    have g2 : w6.heap[b2]? = some (sbox n) := e46.ext_get (hdb _ hbd2 (e13.ext_get n2))
    have A6 := (A4.ext e46).more (F' := fun k => ((F1 k ∨ k = b) ∨ k = b2) ∨ k = b11) (fun k hk => .inl (.inl hk)) (fun k hk => hk.elim (fun hk => hk.elim ((A4.ext e46).lt k) fun h => by rw [h]; exact lt_of_heap g2) fun h => by rw [h]; exact lt_of_heap n6)
    have hlf := A.files.lf
    have hal := ok.acts
    have g3 : w6.heap[b11]? = some (.cells #[.pointer (some (at0 ((fb ++ [b]).getD D1.files.length 0)))] 121 (0, 0)) := by
      rw [n6, ← hlf, List.getD_eq_getElem?_getD, List.getElem?_append_right (Nat.le_refl _), Nat.sub_self]; rfl
    refine ld_r g1 (x := some (at0 d)) rfl (act_call A6 (a := .mk n D1.files.length) ⟨b11, b2, rfl, g3, g2, .inr rfl, .inl (.inr rfl), by simp [hlf]⟩ rfl (by dsimp only; omega) fun sa' w7 A7 u7 hb7 => hK w7 _ A7.in trivial ((((Upd.of_ext e13).new u4 fun k hk e => .inl (by rw [e]; exact FN.of A.fd A.box fun c fr h => by cases h)).trans (Upd.of_ext e46)).new u7 fun k hk h => ?_) fun k hk => ?_)
    · rcases h.1 with ((hk' | hk') | hk') | hk'
      · refine .inl ⟨hk', fun c fr hc => ?_⟩
        by_cases hkd : k = d
        · rw [hkd, A.box] at hc; cases hc
        · exact h.2 c fr (e46.ext_get (hdb _ hkd (e13.ext_get hc)))
      · omega
      · exact .inr hk'
      · omega
    · rcases hk with (((hk | hk) | hk) | hk) | hk
      · exact .inl hk
      · exact .inr (.inr (by omega))
      · exact .inr (.inl hk)
      · exact .inr (.inr (by omega))
      · have h46 := e46.size
        rcases hb7 k hk with (((h | h) | h) | h) | h
        · exact .inl h
        · exact .inr (.inr (by omega))
        · exact .inr (.inl h)
        · exact .inr (.inr (by omega))
        · exact .inr (.inr (by omega))
  · intro F' w' v hv hD _ hu hF
    exact hK F' w' v ⟨hv.ok, fun h => let ⟨b, k, h1, h2, h3, h4⟩ := hv.bad h; ⟨b, k, h1, h2, by omega, h4⟩⟩ hD ((Upd.of_ext e12).new hu fun k hk h => h.resolve_right (by omega)) fun k hk => (hF k hk).imp id fun h => by omega
end
end Dq
end Go.Proofs.YtmooldhpiopcgaaGreatDoor
set_option linter.unusedSimpArgs false
set_option linter.unusedVariables false
namespace Go.Proofs.YtmooldhpiopcgaaGreatDoor
namespace Dq
open Go Go.Vx Dsk
section
variable {w w' : World} {S F F' : Nat → Prop} {d m ms ml : Nat} {f : Dir} {fb : List Nat} {ds : List Sl} {fs : List Fl} {sa : Sl} {vs : List Value} {D : Dk} {pl : Option Nat} {p : Int → Option Fault} {N : Nat}
theorem ErrIn.back {w0 w1 : World} {v : Value} {op nm : ByteArray} {e : Int} (h : ErrIn w1 w F v op nm e) (hz : w0.heap.size ≤ w1.heap.size) : ErrIn w0 w F v op nm e :=
  ⟨h.ok, fun hh => let ⟨b, k, h1, h2, h3, h4⟩ := h.bad hh; ⟨b, k, h1, h2, Nat.le_trans hz h3, h4⟩⟩
def RowQ (b3 B : Nat) (a : List UInt8) (w : World) (F : Nat → Prop) : Prop :=
  ∃ s, w.heap[b3]? = some (.cells #[sv s] 30 (0, 0)) ∧ ¬ F b3 ∧ BytesO w B s a ∧ ∀ k, s.blk k → ¬ F k
theorem RowQ.keep {b3 B : Nat} {a : List UInt8} {w1 w2 : World} {F1 F2 : Nat → Prop} (h : RowQ b3 B a w1 F1) (u : Upd F1 w1 w2) (hF : ∀ k, F2 k → F1 k ∨ w1.heap.size ≤ k) : RowQ b3 B a w2 F2 := by
  obtain ⟨s, h1, h2, h3, h4⟩ := h
  refine ⟨s, u.get h1 h2, fun hk => (hF _ hk).elim h2 fun h => ?_, h3.upd u fun k _ hk => h4 k hk, fun k hk hF2 => (hF _ hF2).elim (h4 k hk) fun h => ?_⟩
  · have := lt_of_heap h1; omega
  · have := h3.in.blk_lt hk; omega
theorem read_call (A : DiskIn w d F D) (ok : DkOk D N) (hN : N + 2 ≤ 2 ^ 30) {n : Nm} {K : (Sl × Value × Unit) → World → Prop}
    (hK : ∀ F' w' s v, ErrIn w w' F' v ⟨#[114, 101, 97, 100]⟩ n (callRead D n).2.1 → DiskIn w' d F' (callRead D n).1 → Upd F w w' → (∀ k, F' k → F k ∨ w.heap.size ≤ k) → BytesO w' w.heap.size s (callRead D n).2.2 → (∀ k, s.blk k → ¬ F' k) → K (s, v, ()) w') :
    callT Tryz.prog 49 #[.pointer (some (at0 d)), .string n] (.tup [(.one .sl), (.one .any)]) K w := by
  refine F49_calls ?_
  unfold F49
  refine newO_r fun b1 w1 e1 n1 hb1 _ => newO_r fun b2 w2 e2 n2 hb2 _ => newO_r fun b3 w3 e3 n3 hb3 _ => ?_
  have e23 := e2.trans e3
  have e13 := e1.trans e23
  refine ld_r (e23.ext_get n1) (x := some (at0 d)) rfl (ld_r (e3.ext_get n2) (x := n) rfl ?_)
  have hs1 := e1.size
  have hs2 := e2.size
  have hs3 := e3.size
  have hlt := A.lt
  have hd := A.fd
  refine step_call (M := fun k => k = b3) (E := fun _ => False) (Q0 := fun w => w.heap[b1]? = some (pbox d) ∧ w.heap[b2]? = some (sbox n) ∧ w.heap[b3]? = some (.cells #[.slice none 0 0] 30 (0, 0))) (Q1 := RowQ b3 w.heap.size) (a0 := []) (act := rdR n) (part := none) (A.ext e13) ok (by omega) ⟨e23.ext_get n1, e3.ext_get n2, n3⟩ ⟨⟨none, 0, 0⟩, n3, fun h => ?_, SlOwn.nil _ _ _ _, fun k ⟨q, hq, _⟩ => by cases hq⟩ (fun k hk => ⟨by rw [hk]; exact lt_of_heap n3, fun h => ?_⟩) (fun _ h => h.elim)
    (fun w1 w2 S ⟨h1, h2, h3⟩ u hS => ⟨u.get h1 fun h => ?_, u.get h2 fun h => ?_, u.get h3 fun h => ?_⟩) (fun a w1 F1 w2 F2 h u hF => h.keep u hF) (fun D1 _ ok1 => ⟨?_, ?_⟩) (.inl ⟨rfl, rfl⟩) ?_
  · have := hlt _ h; omega
  · have := hlt k h; omega
  · have := hS _ h; have := hlt d hd; omega
  · have := hS _ h; have := hlt d hd; omega
  · have := hS _ h; have := hlt d hd; omega
  · have h1 : (rdR n D1).1 = D1 := by unfold rdR; split <;> rfl
    rw [h1]; exact ok1.mono (Nat.le_succ _)
  · rintro w1 F1 K ⟨ms, ml, sa, pl, vs, fb, ds, A⟩ ok ⟨n1, n2, n3⟩ hF hz hK
    refine func_x (by kernel_rfl) ?_
    refine F87_calls (v0 := at0 b1) (v1 := at0 b2) (v2 := at0 b3) ?_
    unfold F87
    refine ld_r n1 (x := some (at0 d)) rfl (ld_r n2 (x := n) rfl (find_call A fun nm w2 e2 hnm => ?_))
    unfold rdR at hK
    obtain ⟨o, e, hfo⟩ : ∃ o e, Dsk.find D1 n = (o, e) := ⟨_, _, rfl⟩
    rw [hfo] at hK hnm ⊢
    refine ((St.start w1).ext e2).newAgg rfl rfl rfl fun b4 w3 S3 e3 => ?_
    have e13 := e2.trans e3
    have hb3F : ¬ F1 b3 := fun h => by rcases hF _ h with h | h; have := hlt _ h; omega; omega
    cases o with
    | none =>
      have he : e ≠ 0 := by rcases find_none hfo with ⟨_, h⟩ | ⟨_, h⟩ <;> rw [h] <;> decide
      refine join_r (fun _ w' => w3 = w') (sif_r (fun h => absurd (by simpa using h) he) (fun _ => rfl)) fun _ w' h => ?_
      subst h
      exact hK w3 F1 (A.ext e13).in ⟨⟨none, 0, 0⟩, e13.ext_get n3, hb3F, SlOwn.nil _ _ _ _, fun k ⟨q, hq, _⟩ => by cases hq⟩ (Upd.of_ext e13) fun k hk => .inl hk
    | some i =>
      obtain ⟨hs, rfl, _⟩ := find_seen hfo
      have A3 := A.ext e13
      obtain ⟨b, s, g, hb, hss, hg, hgb, hfl, hbx, hby⟩ := A3.file_at (ok.seen.ids n i hs)
      have hgl := (ok.fil i g hg).1
      dsimp only at hK
      rw [hfl] at hK
      have hz13 := e13.size
      refine join_r (fun _ w' => RowQ b3 w.heap.size g.data w' F1 ∧ Upd (fun k => k = b3) w3 w') (sif_true (S3.ld 0 (x := some (at0 b)) rfl (by simp only [Option.map_some, hgb]; rfl) (nn_some ?_))) ?_
      · rw [addr_add]
        refine ld_r hbx (x := s) rfl (cloneB_call hby.in.x (by omega) fun s' w4 hs' e4 => stC_r (e4.ext_get (e13.ext_get n3)) (by simp) fun w5 u5 n5 hz5 => ⟨⟨s', by rw [n5]; rfl, hb3F, (hs'.box (e4.ext_get (e13.ext_get n3)) (by decide) u5).mono (by omega), fun k hk hF1 => ?_⟩, (Upd.of_ext e4).new u5 fun k _ h => h⟩)
        have := hs'.blk_ge hk
        have := A.lt k hF1
        omega
      · rintro _ w5 ⟨q5, u5⟩
        exact hK w5 F1 (A3.in.frame u5 fun k hk e => hb3F (e ▸ hk)) q5 ((Upd.of_ext e13).new u5 fun k hk e => .inr e) fun k hk => .inl hk
  · intro F' w' v hv hD hq hu hF
    obtain ⟨s, q1, q2, q3, q4⟩ := hq
    have hu' : Upd F w w' := (Upd.of_ext e13).new hu fun k hk h => h.resolve_right (by omega)
    have hF' : ∀ k, F' k → F k ∨ w.heap.size ≤ k := fun k hk => (hF k hk).imp id fun h => by rcases h with h | h; exact h.elim; omega
    have hv := hv.back (w0 := w) e13.size
    by_cases he : (callRead D n).2.1 = 0
    · have h0 : v = .nilIface := hv.ok he
      subst h0
      refine rdB_nnil' (sif_false (ld_r q1 (x := s) rfl (hK F' w' s _ hv hD hu' hF' ?_ q4))) uE
      unfold callRead at he ⊢
      simp only [if_pos he]
      exact q3
    · obtain ⟨b, k, rfl, h2, h3, h4⟩ := hv.bad he
      refine rdB_nnil (sif_true (hK F' w' _ _ hv hD hu' hF' ?_ fun k ⟨q, hq, _⟩ => by cases hq)) uE
      unfold callRead at he ⊢
      simp only [if_neg he]
      exact SlOwn.nil _ _ _ _
abbrev stb (a : Int × Int × Int) : Obj := .cells #[.int .i64 a.1, .int .i64 a.2.1, .int .i64 a.2.2] 57 (0, 0)
def StQ (b : Nat) (a : Int × Int × Int) (w : World) (F : Nat → Prop) : Prop := w.heap[b]? = some (stb a) ∧ ¬ F b
theorem stamp_call (A : DiskIn w d F D) (ok : DkOk D N) (hN : N + 2 ≤ 2 ^ 30) {n : Nm} {K : ((Int × Int × Int × Unit) × Value × Unit) → World → Prop}
    (hK : ∀ F' w' v, ErrIn w w' F' v ⟨#[115, 116, 97, 109, 112]⟩ n (callStamp D n).2.1 → DiskIn w' d F' (callStamp D n).1 → Upd F w w' → (∀ k, F' k → F k ∨ w.heap.size ≤ k) → K (((callStamp D n).2.2.1, (callStamp D n).2.2.2.1, (callStamp D n).2.2.2.2, ()), v, ()) w') :
    callT Tryz.prog 34 #[.pointer (some (at0 d)), .string n] (.tup [(.agg c57), (.one .any)]) K w := by
  refine F34_calls ?_
  unfold F34
  refine newO_r fun b1 w1 e1 n1 hb1 _ => newO_r fun b2 w2 e2 n2 hb2 _ => newO_r fun b3 w3 e3 n3 hb3 _ => newO_r fun b4 w4 e4 n4 hb4 _ => ?_
  have e34 := e3.trans e4
  have e24 := e2.trans e34
  have e14 := e1.trans e24
  refine ld_r (e24.ext_get n1) (x := some (at0 d)) rfl (ld_r (e34.ext_get n2) (x := n) rfl ?_)
  have hs1 := e1.size
  have hs2 := e2.size
  have hs3 := e3.size
  have hs4 := e4.size
  have hlt := A.lt
  have hd := A.fd
  refine step_call (M := fun k => k = b4) (E := fun _ => False) (Q0 := fun w => w.heap[b1]? = some (pbox d) ∧ w.heap[b2]? = some (sbox n) ∧ w.heap[b4]? = some (stb (0, 0, 0))) (Q1 := StQ b4) (a0 := (0, 0, 0)) (act := stR n) (part := none) (A.ext e14) ok (by omega) ⟨e24.ext_get n1, e34.ext_get n2, n4⟩ ⟨n4, fun h => ?_⟩ (fun k hk => ⟨by rw [hk]; exact lt_of_heap n4, fun h => ?_⟩) (fun _ h => h.elim)
    (fun w1 w2 S ⟨h1, h2, h3⟩ u hS => ⟨u.get h1 fun h => ?_, u.get h2 fun h => ?_, u.get h3 fun h => ?_⟩) (fun a w1 F1 w2 F2 ⟨h1, h2⟩ u hF => ⟨u.get h1 h2, fun h => (hF _ h).elim h2 fun h => ?_⟩) (fun D1 _ ok1 => ⟨?_, ?_⟩) (.inl ⟨rfl, rfl⟩) ?_
  · have := hlt _ h; omega
  · have := hlt k h; omega
  · have := hS _ h; have := hlt d hd; omega
  · have := hS _ h; have := hlt d hd; omega
  · have := hS _ h; have := hlt d hd; omega
  · have := lt_of_heap h1; omega
  · have h1 : (stR n D1).1 = D1 := by unfold stR; split <;> rfl
    rw [h1]; exact ok1.mono (Nat.le_succ _)
  · rintro w1 F1 K ⟨ms, ml, sa, pl, vs, fb, ds, A⟩ ok ⟨n1, n2, n4⟩ hF hz hK
    refine func_x (by kernel_rfl) ?_
    refine F66_calls (v0 := at0 b1) (v1 := at0 b2) (v2 := at0 b4) ?_
    unfold F66
    refine ld_r n1 (x := some (at0 d)) rfl (ld_r n2 (x := n) rfl (find_call A fun nm w2 e2 hnm => ?_))
    unfold stR at hK
    obtain ⟨o, e, hfo⟩ : ∃ o e, Dsk.find D1 n = (o, e) := ⟨_, _, rfl⟩
    rw [hfo] at hK hnm ⊢
    refine (((St.startM (fun k => k = b4) w1 fun k hk => by rw [hk]; exact lt_of_heap n4)).ext e2).newAgg rfl rfl rfl fun bh w3 S3 e3 => ?_
    have e13 := e2.trans e3
    have hb4F : ¬ F1 b4 := fun h => by rcases hF _ h with h | h; have := hlt _ h; omega; omega
    cases o with
    | none =>
      have he : e ≠ 0 := by rcases find_none hfo with ⟨_, h⟩ | ⟨_, h⟩ <;> rw [h] <;> decide
      refine join_r (fun _ w' => w3 = w') (sif_r (fun h => absurd (by simpa using h) he) (fun _ => rfl)) fun _ w' h => ?_
      subst h
      exact hK w3 F1 (A.ext e13).in ⟨e13.ext_get n4, hb4F⟩ (Upd.of_ext e13) fun k hk => .inl hk
    | some i =>
      obtain ⟨hs, rfl, _⟩ := find_seen hfo
      have A3 := A.ext e13
      obtain ⟨b, s, g, hb, hss, hg, hgb, hfl, hbx, hby⟩ := A3.file_at (ok.seen.ids n i hs)
      dsimp only at hK
      rw [hfl] at hK
      have hlen := hby.len1
      rw [List.length_map] at hlen
      have hbb : b ≠ b4 := fun h => by rw [h, e13.ext_get n4] at hbx; cases hbx
      refine join_r (fun _ w' => w'.heap[b4]? = some (stb ((i : Int) + 1, g.data.length, g.count)) ∧ Upd (fun k => k = b4) w3 w') (sif_true (S3.drew fun w4 S4 e4 _ => ?_)) ?_
      · have hbx := e4.ext_get hbx
        have n4 := e4.ext_get (e13.ext_get n4)
        refine S4.ld 0 (x := some (at0 b)) rfl (by simp only [Option.map_some, hgb]; rfl) (nn_some (ld_r hbx (x := (i : Int) + 1) rfl (S4.ld 0 (x := some (at0 b)) rfl (by simp only [Option.map_some, hgb]; rfl) (nn_some ?_))))
        rw [addr_add]
        refine ld_r hbx (x := s) rfl (S4.ld 0 (x := some (at0 b)) rfl (by simp only [Option.map_some, hgb]; rfl) (nn_some ?_))
        rw [addr_add]
        refine ld_r hbx (x := g.count) rfl (aggSt_r n4 rfl rfl (by simp) fun w5 u5 n5 hz5 => ?_)
        have n5 : w5.heap[b4]? = some (stb (0, 0, 0)) := n5
        have S5 := S4.step u5 fun _ h => h
        have hbx5 := u5.get hbx hbb
        refine keep_r (cell_of hbx5 (off := 3) rfl) (S5.keep 0 rfl (by simp only [Option.map_some, hgb]; rfl) (keep_r (cell_of hbx5 (off := 1) rfl) (S5.keep 0 rfl (by simp only [Option.map_some, hgb]; rfl) (keep_r (cell_of hbx5 (off := 0) rfl) (S5.keep 0 rfl (by simp only [Option.map_some, hgb]; rfl) (chk_r (by decide) ?_))))))
        refine stC_r (off := 0) n5 (by simp) fun w6 u6 n6 hz6 => ?_
        have S6 := S5.step u6 fun _ h => h
        have hbx6 := u6.get hbx5 hbb
        refine keep_r (cell_of hbx6 (off := 3) rfl) (S6.keep 0 rfl (by simp only [Option.map_some, hgb]; rfl) (keep_r (cell_of hbx6 (off := 1) rfl) (S6.keep 0 rfl (by simp only [Option.map_some, hgb]; rfl) (chk_r (by decide) ?_))))
        refine stC_r (off := 1) n6 (by simp) fun w7 u7 n7 hz7 => ?_
        have S7 := S6.step u7 fun _ h => h
        have hbx7 := u7.get hbx6 hbb
        refine keep_r (cell_of hbx7 (off := 3) rfl) (S7.keep 0 rfl (by simp only [Option.map_some, hgb]; rfl) (chk_r (by decide) ?_))
        refine stC_r (off := 2) n7 (by simp) fun w8 u8 n8 hz8 => ⟨?_, (((Upd.of_ext e4).trans u5).trans u6).trans (u7.trans u8)⟩
        rw [n8, hlen]; rfl
      · rintro _ w5 ⟨q5, u5⟩
        exact hK w5 F1 (A3.in.frame u5 fun k hk e => hb4F (e ▸ hk)) ⟨q5, hb4F⟩ ((Upd.of_ext e13).new u5 fun k hk e => .inr e) fun k hk => .inl hk
  · intro F' w' v hv hD hq hu hF
    obtain ⟨q1, q2⟩ := hq
    have hu' : Upd F w w' := (Upd.of_ext e14).new hu fun k hk h => h.resolve_right (by omega)
    have hF' : ∀ k, F' k → F k ∨ w.heap.size ≤ k := fun k hk => (hF k hk).imp id fun h => by rcases h with h | h; exact h.elim; omega
    have hv := hv.back (w0 := w) e14.size
    have hb3F : ¬ F' b3 := fun h => by rcases hF _ h with h | h | h; have := hlt _ h; omega; exact h; omega
    have n3' : w'.heap[b3]? = some (stb (0, 0, 0)) := hu.get (e4.ext_get n3) fun h => by rcases h with h | h; have := hlt _ h; omega; omega
    have low : ∀ {W : World} {a : Int × Int × Int}, Upd (fun k => k = b3) w' W → (callStamp D n).2.2 = a → K ((a.1, a.2.1, a.2.2, ()), v, ()) W := fun {W a} u h => by
      have := hK F' W v ⟨hv.ok, fun hh => let ⟨b, k, h1, h2, h3, h4⟩ := hv.bad hh; ⟨b, k, h1, u.get h2 (fun e => by rw [e, n3'] at h2; cases h2), h3, h4⟩⟩ (hD.frame u fun k hk e => hb3F (e ▸ hk)) (hu'.new u fun k hk e => by omega) hF'
      rw [h] at this
      exact this
    by_cases he : (callStamp D n).2.1 = 0
    · have h0 : v = .nilIface := hv.ok he
      have ha : (callStamp D n).2.2 = (Dsk.step D (0, 0, 0) (stR n) none).2.2 := by
        unfold callStamp at he ⊢
        simp only [if_pos he]
      obtain ⟨a, haa⟩ : ∃ a, (Dsk.step D (0, 0, 0) (stR n) none).2.2 = a := ⟨_, rfl⟩
      rw [haa] at ha q1
      subst h0
      refine rdB_nnil' (sif_false (lds_r (x := (a.1, a.2.1, a.2.2, ())) (c := (Cells.vals c57 (a.1, a.2.1, a.2.2, ())).toArray) q1 (fun i v hv => ?_) ?_)) uE
      · rw [Nat.zero_add, List.getElem?_toArray]; exact hv
      refine aggSt_r n3' rfl rfl (by simp) fun w6 u6 n6 hz6 => lds_r (x := (a.1, a.2.1, a.2.2, ())) (c := (Cells.vals c57 (a.1, a.2.1, a.2.2, ())).toArray) n6 (fun i v hv => ?_) (low u6 ha)
      rw [Nat.zero_add, List.getElem?_toArray]; exact hv
    · obtain ⟨b, k, rfl, h2, h3, h4⟩ := hv.bad he
      have ha : (callStamp D n).2.2 = (0, 0, 0) := by
        unfold callStamp at he ⊢
        simp only [if_neg he]
      refine rdB_nnil (sif_true (aggSt_r n3' rfl rfl (by simp) fun w6 u6 n6 hz6 => lds_r (x := (0, 0, 0, ())) (c := (Cells.vals c57 (0, 0, 0, ())).toArray) n6 (fun i v hv => ?_) (low u6 ha))) uE
      rw [Nat.zero_add, List.getElem?_toArray]; exact hv
end
end Dq
end Go.Proofs.YtmooldhpiopcgaaGreatDoor
set_option linter.unusedSimpArgs false
set_option linter.unusedVariables false
namespace Go.Proofs.YtmooldhpiopcgaaGreatDoor
namespace Dq
open Go Go.Vx Dsk
section
variable {w w' : World} {S F F' : Nat → Prop} {d m ms ml : Nat} {f : Dir} {fb : List Nat} {ds : List Sl} {fs : List Fl} {sa : Sl} {vs : List Value} {D : Dk} {pl : Option Nat} {p : Int → Option Fault} {N : Nat}
theorem DiskAt.frame (A : DiskAt w d F D ms ml sa pl vs fb ds) (u : Upd S w w') (hS : ∀ k, F k → ¬ S k) : DiskAt w' d F D ms ml sa pl vs fb ds := by
  refine ⟨u.get A.box (hS _ A.fd), A.seen.upd u (hS _ A.fms), A.lasts.upd u (hS _ A.fml), A.files.upd u (fun b hb => hS _ (A.ffb b hb)) (fun s hs k hk => hS _ (A.fds s hs k hk)),
    ⟨A.acts.row.upd u fun k _ hk => hS _ (A.fsa k hk), A.acts.len, fun i v a hv ha => (A.acts.at_ i v a hv ha).upd u hS fun _ h => h⟩, ?_, A.ne, A.nes, A.nel, A.fd, A.fms, A.fml, A.ffb, A.fds, A.fsa, fun k hk => Nat.lt_of_lt_of_le (A.lt k hk) u.size⟩
  rcases A.plan with h | ⟨m, es, g1, g2, g3, g4⟩
  · exact .inl h
  · exact .inr ⟨m, es, g1, g2, g3.upd u (hS m g2), fun k => (g4 k).old u hS⟩
theorem slcX {x : Sl} {l : List UInt8} (hx : Bytes w x l) {h : Int} (h0 : 0 ≤ h) (hh : h ≤ x.len) {K : Sl → World → Prop} (hK : ∀ s', Bytes w s' (l.take h.toNat) → s'.len = h.toNat → (∀ k, s'.blk k → x.blk k) → K s' w) :
    slc x.a 0 h ((x.cap : Nat) : Int) x.cap 1 K w := by
  rcases hx.at_ with ⟨h1, h2⟩ | ⟨t, hi⟩
  · have hz : h = 0 := by omega
    subst hz
    have hl : l = [] := by simpa using h2
    refine ⟨(), ⟨Int.le_refl 0, Int.le_refl 0, by omega, Int.le_refl _⟩, hK _ ⟨.inl ⟨rfl, by rw [hl]; rfl⟩⟩ rfl fun k hk => ?_⟩
    obtain ⟨p, hp, rfl⟩ := hk
    have hp' : (if ((x.cap : Nat) : Int).toNat = (0 : Int).toNat then x.a else x.a.map fun p => p.add (scaled (0 : Int).toNat 1)) = some p := hp
    split at hp'
    · exact ⟨p, hp', rfl⟩
    · obtain ⟨q, hq, rfl⟩ := Option.map_eq_some_iff.1 hp'
      exact ⟨q, hq, rfl⟩
  · have hle := hi.le
    refine slc_r hi (Int.le_refl 0) h0 hh (by omega) (Int.le_refl _) fun s' hi' hl _ hb => hK s' ⟨.inr ⟨t, ?_⟩⟩ (by omega) hb
    simpa [List.map_take] using hi'
abbrev ibox (k : Int) : Obj := .cells #[.int .i64 k] 3 (0, 0)
theorem room_le (ok : DkOk D N) : 0 ≤ room D ∧ room D ≤ 1048576 := by
  have := ok.space
  have := ok.used none
  unfold room
  omega
theorem write_call {b1 b2 b4 : Nat} {n : Nm} {x : Sl} {l : List UInt8} (A : DiskAt w d F D ms ml sa pl vs fb ds) (ok : DkOk D N) (hN : N ≤ 2 ^ 30) (n1 : w.heap[b1]? = some (pbox d)) (n2 : w.heap[b2]? = some (sbox n)) (n4 : w.heap[b4]? = some (ibox 0)) (h4 : ¬ F b4)
    (hx : Bytes w x l) (hxb : Lie (fun k => k ≠ b4) x) {K : Int → World → Prop}
    (hK : ∀ w' F2, DiskIn w' d F2 (apR n l D).1 → w'.heap[b4]? = some (ibox (apR n l D).2.2) → Upd (fun k => FN w F k ∨ k = b4) w w' → (∀ k, F2 k → F k ∨ w.heap.size ≤ k) → K (apR n l D).2.1 w') :
    callT Tryz.prog 201 #[.slice x.a x.len x.cap, .pointer (some (at0 b1)), .pointer (some (at0 b2)), .pointer (some (at0 b4))] (.one (.one (.int .i64))) K w := by
  refine F201_calls ?_
  unfold F201
  refine ld_r n1 (x := some (at0 d)) rfl (ld_r n2 (x := n) rfl (find_call A fun nm w2 e2 hnm => ?_))
  unfold apR at hK
  obtain ⟨o, e, hfo⟩ : ∃ o e, Dsk.find D n = (o, e) := ⟨_, _, rfl⟩
  rw [hfo] at hK hnm ⊢
  refine (((St.startM (fun k => k = b4 ∨ F k) w fun k hk => hk.elim (fun hk => by rw [hk]; exact lt_of_heap n4) (A.lt k))).ext e2).newAgg rfl rfl rfl fun bh w3 S3 e3 => ?_
  have e13 := e2.trans e3
  cases o with
  | none =>
    have he : e ≠ 0 := by rcases find_none hfo with ⟨_, h⟩ | ⟨_, h⟩ <;> rw [h] <;> decide
    exact sif_r (fun _ => hK w3 F (A.ext e13).in (e13.ext_get n4) (Upd.of_ext e13) fun k hk => .inl hk) fun h => absurd (by simpa using h) he
  | some i =>
    obtain ⟨hs, rfl, _⟩ := find_seen hfo
    have hxl := hx.len1
    rw [List.length_map] at hxl
    obtain ⟨kk, hkk⟩ : ∃ kk : Int, kk = if room D < (l.length : Int) then room D else l.length := ⟨_, rfl⟩
    have hrl := room_le ok
    have hk0 : 0 ≤ kk ∧ kk ≤ l.length ∧ kk ≤ 1048576 := by rw [hkk]; split <;> omega
    dsimp only at hK
    rw [← hkk] at hK
    refine sif_r (fun h => by simp at h) fun _ => (ld_r (e13.ext_get n1) (x := some (at0 d)) rfl (room_call (A.ext e13) ok fun w4 e4 => ?_))
    have e14 := e13.trans e4
    have S4 := S3.ext e4
    rw [show (if room D < ((x.len : Nat) : Int) then room D else ((x.len : Nat) : Int)) = kk by rw [hkk, ← hxl]]
    refine stC_r (e14.ext_get n4) (by simp) fun w5 u5 n5 hz5 => ?_
    have n5 : w5.heap[b4]? = some (ibox kk) := n5
    have S5 := S4.step u5 fun _ h => .inl h
    refine S5.drew fun w6 S6 e6 _ => ?_
    have A6 := ((A.ext e14).frame u5 fun k hk e => h4 (e ▸ hk)).ext e6
    have n6 := e6.ext_get n5
    obtain ⟨b, s, g, hb, hss, hg, hgb, hfl, hbx, hby⟩ := A6.file_at (ok.seen.ids n i hs)
    have hgl := ok.fil i g hg
    have hlen := hby.len1
    rw [List.length_map] at hlen
    have hfb := A.ffb b (List.mem_of_getElem? hb)
    have hfs := A.fds s (List.mem_of_getElem? hss)
    have x6 : Bytes w6 x l := (SlX.updL (hx.ext e14) hxb u5 fun k hk e => hk e).ext e6
    refine S6.ld 0 (x := some (at0 b)) rfl (by simp only [Option.map_some, hgb]; rfl) (S6.ld 0 (x := some (at0 b)) rfl (by simp only [Option.map_some, hgb]; rfl) (nn_some ?_))
    rw [addr_add]
    refine ld_r hbx (x := s) rfl (ld_r n6 (x := kk) rfl (slcX x6 hk0.1 (by omega) fun x' hx' hxl' _ => ?_))
    have hb4b : b ≠ b4 := fun e => h4 (e ▸ hfb)
    have nb : ∀ {k : Nat} {c : Array Value} {t : TypeId} {fr : Nat × Nat}, t ≠ 5 → w6.heap[k]? = some (.cells c t fr) → ¬ s.blk k := fun ht hk h => by
      obtain ⟨c', fr', hc'⟩ := hby.in.blk_cells h
      rw [hk] at hc'; cases hc'; exact ht rfl
    refine append_rx EB uB (B := 0) hby hx' (bv_one _) (by omega) (Nat.zero_le _) fun s' w7 hs' hsl u7 hsb => ?_
    have hsl' : s'.len = (g.data ++ l.take kk.toNat).length := by
      have := hs'.len1
      rw [← this, ← List.map_append, List.length_map]
    have S7 := S6.step u7 fun k hk => .inr (hfs k hk)
    have bx7 := u7.get hbx (nb (by decide) hbx)
    have n7 := u7.get n6 (nb (by decide) n6)
    refine S7.keep 0 (off := 0) rfl (by simp only [Option.map_some, hgb]; rfl) (nn_some ?_)
    rw [addr_add]
    refine stC_r bx7 (by simp) fun w8 u8 n8 hz8 => ?_
    obtain ⟨g', hg'⟩ : ∃ g' : Fl, g' = ⟨g.data ++ l.take kk.toNat, g.synced, if kk > 0 then g.count + 1 else g.count⟩ := ⟨_, rfl⟩
    have n8 : w8.heap[b]? = some (fbox i s' ⟨g.data ++ l.take kk.toNat, g.synced, g.count⟩) := n8
    have S8 := S7.step u8 fun k hk => .inr (by rw [hk]; exact hfb)
    have q8 := u8.get n7 (Ne.symm hb4b)
    have hc : IntKind.wrap .i64 (g.count + 1) = g.count + 1 := IntWalk.i64_in _ ⟨by omega, by omega⟩
    refine join_r (fun _ w' => w'.heap[b]? = some (fbox i s' g') ∧ Upd (fun k => k = b) w8 w') (ld_r q8 (x := kk) rfl (sif_r (fun h => ?_) fun h => ?_)) ?_
    · have h : kk > 0 := of_decide_eq_true h
      refine S8.ld 0 (x := some (at0 b)) rfl (by simp only [Option.map_some, hgb]; rfl) (nn_some ?_)
      rw [addr_add]
      refine ld_r n8 (x := g.count) rfl (nn_some ?_)
      rw [addr_add, hc]
      refine stC_r n8 (by simp) fun w9 u9 n9 _ => ⟨?_, u9⟩
      rw [n9, hg', if_pos h]; rfl
    · have h : ¬ kk > 0 := of_decide_eq_false h
      exact ⟨by rw [n8, hg', if_neg h], Upd.refl _ _⟩
    · rintro _ w9 ⟨n9, u9⟩
      have u69 : Upd (fun k => k = b ∨ s.blk k) w6 w9 := ((u7.mono fun k _ h => .inr h).trans (u8.mono fun k _ h => .inl h)).trans (u9.mono fun k _ h => .inl h)
      have hd9 : g'.data = g.data ++ l.take kk.toNat := by rw [hg']
      have ho : BytesO w9 0 s' g'.data := by
        rw [hd9]
        have := (hs'.box bx7 (by decide) u8).box n8 (by decide) u9
        rwa [← List.map_append] at this
      have A9 := A6.file_set hb hss hg u69 (fun k hk _ => hk) n9 ho (fun k hk => (hsb k hk))
      have q9 := u9.get q8 (Ne.symm hb4b)
      have hz16 : w.heap.size ≤ w6.heap.size := Nat.le_trans e14.size (Nat.le_trans u5.size e6.size)
      have e56 : Upd (fun k => FN w F k ∨ k = b4) w w6 := ((Upd.of_ext e14).trans (u5.mono fun k _ h => .inr h)).trans (Upd.of_ext e6)
      have uall : Upd (fun k => FN w F k ∨ k = b4) w w9 := e56.new u69 fun k hk h => .inl ⟨?_, fun c fr hc => ?_⟩
      · have fin : ∀ e, e = (if kk < (l.length : Int) then (161 : Int) else 0) → K e w9 := fun e he => by
          rw [he]
          refine hK w9 _ (by rw [put1_eq hg, ← hg']; exact A9.in) q9 uall fun k (hk : F k ∨ s'.blk k) => hk.elim .inl fun h => (hsb k h).imp (hfs k) fun h => by omega
        refine ld_r q9 (x := kk) rfl (sif_r (fun h => fin _ ?_) fun h => fin _ ?_)
        · have h := of_decide_eq_true h; rw [if_pos (by omega)]
        · have h := of_decide_eq_false h; rw [if_neg (by omega)]
      · rcases h with h | h
        · rw [h]; exact hfb
        · exact hfs k h
      · have hk4 : k ≠ b4 := fun e => by
          rcases h with h | h
          · exact hb4b (h ▸ e)
          · exact h4 (e ▸ hfs k h)
        have := e56.get hc fun hh => hh.elim (fun hh => hh.2 c fr hc) hk4
        rcases h with h | h
        · rw [h, hbx] at this; cases this
        · exact nb (by decide) this h
theorem append_call (A : DiskIn w d F D) (ok : DkOk D N) (hN : N + 2 ≤ 2 ^ 30) {n : Nm} {x : Sl} {l : List UInt8} (hx : Bytes w x l) (hxb : Lie (fun k => k < w.heap.size ∧ ¬ F k) x) {K : (Int × Value × Unit) → World → Prop}
    (hK : ∀ F' w' v, ErrIn w w' F' v ⟨#[97, 112, 112, 101, 110, 100]⟩ n (callAppend D n l).2.1 → DiskIn w' d F' (callAppend D n l).1 → Upd F w w' → (∀ k, F' k → F k ∨ w.heap.size ≤ k) → K ((callAppend D n l).2.2, v, ()) w') :
    callT Tryz.prog 169 #[.pointer (some (at0 d)), .string n, .slice x.a x.len x.cap] (.tup [(.one (.int .i64)), (.one .any)]) K w := by
  refine F169_calls ?_
  unfold F169
  refine newO_r fun b1 w1 e1 n1 hb1 _ => newO_r fun b2 w2 e2 n2 hb2 _ => newO_r fun b3 w3 e3 n3 hb3 _ => newO_r fun b4 w4 e4 n4 hb4 hz4 => stC_r n4 (by simp) fun w5 u5 n5 hz5 => ?_
  have e45 : Ext w3 w5 := e4.new u5 fun k hk h => by omega
  have n5 : w5.heap[b4]? = some (ibox 0) := n5
  refine newO_r fun b5 w6 e6 n6 hb6 hz6 => chk_r rfl (stC_r n6 (by simp) fun w7 u7 n7 hz7 => ?_)
  have e57 : Ext w5 w7 := e6.new u7 fun k hk h => by omega
  have n7 : w7.heap[b5]? = some (.cells #[.func (.func 201) #[] #[.pointer (some (at0 b1)), .pointer (some (at0 b2)), .pointer (some (at0 b4))]] 305 (0, 0)) := n7
  have e37 := e45.trans e57
  have e27 := e3.trans e37
  have e17 := e2.trans e27
  have e07 := e1.trans e17
  refine ld_r (e17.ext_get n1) (x := some (at0 d)) rfl (ld_r (e27.ext_get n2) (x := n) rfl ?_)
  have hs1 := e1.size
  have hs2 := e2.size
  have hs3 := e3.size
  have hs4 := e4.size
  have hs57 := e57.size
  have hlt := A.lt
  have hd := A.fd
  refine step_call (M := fun k => k = b4) (E := fun _ => False) (Q0 := fun w => w.heap[b1]? = some (pbox d) ∧ w.heap[b2]? = some (sbox n) ∧ w.heap[b3]? = some (.cells #[sv x] 30 (0, 0)) ∧ w.heap[b4]? = some (ibox 0) ∧ w.heap[b5]? = some (.cells #[.func (.func 201) #[] #[.pointer (some (at0 b1)), .pointer (some (at0 b2)), .pointer (some (at0 b4))]] 305 (0, 0)) ∧ Bytes w x l) (Q1 := fun a w F => w.heap[b4]? = some (ibox a) ∧ ¬ F b4) (a0 := 0) (act := apR n l) (part := some (apPart n l)) (A.ext e07) ok (by omega) ⟨e17.ext_get n1, e27.ext_get n2, e37.ext_get n3, e57.ext_get n5, n7, hx.ext e07⟩ ⟨e57.ext_get n5, fun h => ?_⟩ (fun k hk => ⟨by rw [hk]; exact lt_of_heap (e57.ext_get n5), fun h => ?_⟩) (fun _ h => h.elim)
    (fun w1 w2 S ⟨h1, h2, h3, h4, h5, h6⟩ u hS => ⟨u.get h1 fun h => ?_, u.get h2 fun h => ?_, u.get h3 fun h => ?_, u.get h4 fun h => ?_, u.get h5 fun h => ?_, SlX.updL h6 hxb u fun k hk h => ?_⟩) (fun a w1 F1 w2 F2 ⟨h1, h2⟩ u hF => ⟨u.get h1 h2, fun h => (hF _ h).elim h2 fun h => ?_⟩) (fun D1 _ ok1 => ⟨ok_ap ok1 n l, ?_⟩) (.inr ⟨apPart n l, _, _, rfl, rfl, fun D1 k _ => ?_⟩) ?_
  · have := hlt _ h; omega
  · have := hlt k h; omega
  · have := hS _ h; have := hlt d hd; omega
  · have := hS _ h; have := hlt d hd; omega
  · have := hS _ h; have := hlt d hd; omega
  · have := hS _ h; have := hlt d hd; omega
  · have := hS _ h; have := hlt d hd; omega
  · have h0 := hS _ h; exact hk.2 (h0 ▸ hd)
  · have := lt_of_heap h1; omega
  · rintro w1 F1 K ⟨ms, ml, sa, pl, vs, fb, ds, A⟩ ok ⟨n1, n2, n3, n4, n5, hx⟩ hF hz hK
    have hb4F : ¬ F1 b4 := fun h => by rcases hF _ h with h | h; have := hlt _ h; omega; omega
    refine func_x (by kernel_rfl) ?_
    refine F203_calls (v0 := at0 b5) (v1 := at0 b3) ?_
    unfold F203
    refine ld_r n5 (x := .func (.func 201) #[] #[.pointer (some (at0 b1)), .pointer (some (at0 b2)), .pointer (some (at0 b4))]) rfl (ld_r n3 (x := x) rfl (func_x (by kernel_rfl) (write_call A ok (by omega) n1 n2 n4 hb4F hx (hxb.imp id fun h k hk e => ?_) fun w' F2 h1 h2 h3 h4 => hK w' F2 h1 ⟨h2, fun h => ?_⟩ h3 fun k hk => (h4 k hk).imp id .inr)))
    · have := (h k hk).1; omega
    · have := lt_of_heap n4
      exact (h4 _ h).elim hb4F fun h => by omega
  · rintro w1 F1 K ⟨ms, ml, sa, pl, vs, fb, ds, A⟩ ok ⟨n1, n2, n3, n4, n5, hx⟩ hF hz hK
    have hb4F : ¬ F1 b4 := fun h => by rcases hF _ h with h | h; have := hlt _ h; omega; omega
    refine func_x (by kernel_rfl) ?_
    refine F204_calls (a0 := k) (v0 := at0 b5) (v1 := at0 b3) ?_
    unfold F204
    refine drew_r fun w2 e2 _ => ?_
    have hxl := hx.len1
    rw [List.length_map] at hxl
    refine ld_r (e2.ext_get n5) (x := .func (.func 201) #[] #[.pointer (some (at0 b1)), .pointer (some (at0 b2)), .pointer (some (at0 b4))]) rfl (ld_r (e2.ext_get n3) (x := x) rfl (ld_r (e2.ext_get n3) (x := x) rfl ?_))
    obtain ⟨kk, hkk⟩ : ∃ kk : Int, kk = min (max k 0) l.length := ⟨_, rfl⟩
    rw [show (if ((x.len : Nat) : Int) < (if (0 : Int) > k then (0 : Int) else k) then ((x.len : Nat) : Int) else (if (0 : Int) > k then (0 : Int) else k)) = kk by rw [hkk, ← hxl]; split <;> split <;> omega]
    refine slcX (hx.ext e2) (by omega) (by omega) fun x' hx' hxl' hxb' => ?_
    refine func_x (by kernel_rfl) (write_call (A.ext e2) ok (by omega) (e2.ext_get n1) (e2.ext_get n2) (e2.ext_get n4) hb4F hx' (hxb.imp (fun h => by omega) fun h k hk e => ?_) fun w' F2 h1 h2 h3 h4 => ?_)
    · have := (h k (hxb' k hk)).1; omega
    have hK := hK w' F2
    unfold apPart at hK
    dsimp only at hK
    rw [← hkk] at hK
    have hz2 := e2.size
    have hK := hK h1 ⟨h2, fun h => by have := lt_of_heap n4; exact (h4 _ h).elim hb4F fun h => by omega⟩ (((Upd.of_ext e2).trans (h3.mono fun k hk h => h.imp (fun h => ⟨h.1, fun c fr hc => h.2 c fr (e2.ext_get hc)⟩) id))) fun k hk => (h4 k hk).imp id fun h => .inr (by omega)
    obtain ⟨e, he⟩ : ∃ e, (apR n (List.take kk.toNat l) D1).2.1 = e := ⟨_, rfl⟩
    rw [he] at hK ⊢
    refine join_at (decide (e ≠ 0 ∧ e ≠ 161), ()) (sif_r (fun h => ⟨tupb ?_, rfl⟩) fun h => ⟨tupb ?_, rfl⟩) (sif_r (fun h => ?_) fun h => ?_)
    · have h : e ≠ 0 := by simpa using h
      simp [h]
    · have h : e = 0 := by simpa using h
      simp [h]
    · have h : e ≠ 0 ∧ e ≠ 161 := of_decide_eq_true h
      rw [if_pos h] at hK; exact hK
    · have h : ¬ (e ≠ 0 ∧ e ≠ 161) := of_decide_eq_false h
      rw [if_neg h] at hK; exact hK
  · intro F' w' v hv hD hq hu hF
    obtain ⟨q1, q2⟩ := hq
    have hu' : Upd F w w' := (Upd.of_ext e07).new hu fun k hk h => h.resolve_right (by omega)
    have hF' : ∀ k, F' k → F k ∨ w.heap.size ≤ k := fun k hk => (hF k hk).imp id fun h => by rcases h with h | h; exact h.elim; omega
    have hv := hv.back (w0 := w) e07.size
    have g1 : w'.heap[b1]? = some (pbox d) := hu.get (e17.ext_get n1) fun h => by rcases h with h | h; have := hlt _ h; omega; omega
    unfold callAppend at hK
    dsimp only at hK
    generalize Dsk.step D 0 (apR n l) (some (apPart n l)) = r at hK hv hD q1
    obtain ⟨D2, e, a⟩ := r
    dsimp only at hK hv hD q1
    obtain ⟨ms, ml, sa, pl, vs, fb, ds, A2⟩ := hD
    refine join_r (fun _ W => W.heap[b4]? = some (ibox (if D2.down = true then 0 else a)) ∧ Upd (fun k => k = b4) w' W) (ld_r g1 (x := some (at0 d)) rfl (nn_some ?_)) ?_
    · rw [addr_add]
      refine ld_r A2.box (x := D2.down) rfl (sif_r (fun h => stC_r q1 (by simp) fun w8 u8 n8 _ => ⟨?_, u8⟩) fun h => ⟨?_, Upd.refl _ _⟩)
      · rw [n8, if_pos h]; rfl
      · rw [q1, if_neg (by rw [h]; simp)]
    · rintro _ w8 ⟨n8, u8⟩
      refine ld_r n8 (x := if D2.down = true then 0 else a) rfl (hK F' w8 v ⟨hv.ok, fun hh => let ⟨b, k, h1, h2, h3, h4⟩ := hv.bad hh; ⟨b, k, h1, u8.get h2 (fun e => by rw [e, q1] at h2; cases h2), h3, h4⟩⟩ (A2.in.frame u8 fun k hk e => q2 (e ▸ hk)) (hu'.new u8 fun k hk e => by omega) hF')
end
end Dq
end Go.Proofs.YtmooldhpiopcgaaGreatDoor
set_option linter.unusedSimpArgs false
set_option linter.unusedVariables false
namespace Go.Proofs.YtmooldhpiopcgaaGreatDoor
namespace Dq
open Go Go.Vx Dsk
section
variable {w w' : World} {S F F' : Nat → Prop} {d m ms ml : Nat} {f : Dir} {fb : List Nat} {ds : List Sl} {fs : List Fl} {sa : Sl} {vs : List Value} {D : Dk} {pl : Option Nat} {p : Int → Option Fault} {N : Nat}
theorem names_of_call (A : DiskIn w d F D) (ok : DkOk D N) {K : Sl → World → Prop} (hK : ∀ s w', StrsO w' w.heap.size s (if D.down = true then [] else names D.seen) → Ext w w' → K s w') :
    callT Tryz.prog 59 #[.pointer (some (at0 d))] (.one (.one .sl)) K w := by
  obtain ⟨ms, ml, sa, pl, vs, fb, ds, A⟩ := A
  refine F59_calls ?_
  unfold F59
  refine nn_some ?_
  rw [addr_add]
  refine ld_r A.box (x := D.down) rfl (sif_r (fun h => ?_) fun h => nn_some ?_)
  · exact hK _ w (by rw [if_pos h]; exact SlOwn.nil _ _ _ _) (Ext.refl w)
  · rw [addr_add]
    refine ld_r A.box (x := some ms) rfl (names_call A.seen (fun l hl => ?_) fun s w' hs e => hK s w' (by rw [if_neg (by rw [h]; simp)]; exact hs) e)
    obtain ⟨l', h1, h2⟩ := ok.seen.few
    have := (lists_perm hl h1).length_eq
    omega
theorem put_call (A : DiskIn w d F D) (ok : DkOk D N) (hN : N + 2 ≤ 2 ^ 30) {n : Nm} {x : Sl} {l : List UInt8} (hx : Bytes w x l) (hxb : ∀ k, x.blk k → k < w.heap.size ∧ ¬ F k) {K : Value → World → Prop}
    (hK : ∀ F' w' v, ErrIn w w' F' v ⟨#[112, 117, 116]⟩ n (putR D n l).2 → DiskIn w' d F' (putR D n l).1 → Upd F w w' → (∀ k, F' k → F k ∨ w.heap.size ≤ k) → K v w') :
    callT Tryz.prog 32 #[.pointer (some (at0 d)), .string n, .slice x.a x.len x.cap] (.one (.one .any)) K w := by
  obtain ⟨ms, ml, sa, pl, vs, fb, ds, A⟩ := A
  refine F32_calls ?_
  unfold F32
  have hsp := ok.space
  have hu := ok.used (D.seen n)
  have hxl := hx.len1
  rw [List.length_map] at hxl
  refine nn_some ?_
  rw [addr_add]
  refine ld_r A.box (x := some ms) rfl (A.seen.look n (nn_some (ld_r A.box (x := D.space) rfl ?_)))
  refine join_r (fun x w' => x = (D.space - usedBut D (D.seen n), ()) ∧ Ext w w') ?_ ?_
  · refine nn_some ?_
    rw [addr_add]
    refine ld_r A.box (x := some ms) rfl (A.seen.range fun r w1 es hi e1 hr hm hg hl => ?_)
    have hcap : es.length ≤ 16 := by
      obtain ⟨l, h1, h2⟩ := ok.seen.few
      have := (lists_perm hl h1).length_eq
      rw [List.length_map] at this; omega
    refine sloop_r (fun s' w' => ∃ (done : List (KEnt ByteArray)), Iter w' r ms (es.map (KEnt.ent Key.str)) (done.map (KEnt.ent Key.str)) ∧ s' = (D.space - sumZ (done.map fun y => weigh D (D.seen n) y.1), ()) ∧ Ext w w' ∧ done.length ≤ es.length) (fun s' w' => es.length - (match w'.heap[r]? with | some (.mapIter _ _ seen _) => seen.size | _ => 0)) ⟨[], hi, by simp [sumZ], e1, Nat.zero_le _⟩ ?_
    rintro _ w2 ⟨done, hi2, rfl, e2, hdl⟩
    dsimp only
    have size_of : ∀ {W : World} {done : List (KEnt ByteArray)}, Iter W r ms (es.map (KEnt.ent Key.str)) (done.map (KEnt.ent Key.str)) → (match W.heap[r]? with | some (.mapIter _ _ seen _) => seen.size | _ => 0) = done.length := fun h => by
      obtain ⟨c, _, _, g3⟩ := h.at_
      rw [g3]; simp
    have bound : ∀ dn : List (KEnt ByteArray), dn.length ≤ 16 → 0 ≤ sumZ (dn.map fun y => weigh D (D.seen n) y.1) ∧ sumZ (dn.map fun y => weigh D (D.seen n) y.1) ≤ 16777216 := fun dn hdn => by
      refine ⟨sumZ_nonneg fun x hx => ?_, ?_⟩
      · obtain ⟨n, _, rfl⟩ := List.mem_map.1 hx; exact weigh_nonneg D _ _
      · have := sumZ_le (l := dn.map fun y => weigh D (D.seen n) y.1) (B := 1048576) fun x hx => by
          obtain ⟨n, _, rfl⟩ := List.mem_map.1 hx; exact ok.weigh _ _
        rw [List.length_map] at this
        have h4 : (dn.length : Int) * 1048576 ≤ 16 * 1048576 := Int.mul_le_mul_of_nonneg_right (by omega) (by decide)
        omega
    refine next_r hi2 (fun w3 e3 _ hp => sif_false ⟨?_, e2.trans e3⟩) fun x w3 hx hxd hi3 u3 hz3 => sif_true ?_
    · rw [weigh_sum hp hl]
    · obtain ⟨y, i, hy, rfl, hfy, hv⟩ := dir_entry hm hg hx
      have e3 : Ext w w3 := e2.step u3 (by rintro k rfl; exact hr)
      refine entry_r hi3 (y.1, some (at0 (fb.getD i 0)), ()) (by simp only [KEnt.ent, hv]; rfl) ?_
      have A3 := A.ext e3
      have hil : i < D.files.length := by have := A.seen.ids y.1 i hfy; have := A.files.lf; omega
      obtain ⟨b, s, g, hbi, _, _, hgb, hfl, hbx, hby⟩ := A3.file_at hil
      have hsl := hby.len1
      rw [List.length_map] at hsl
      have hi3' : Iter w3 r ms (es.map (KEnt.ent Key.str)) ((done ++ [y]).map (KEnt.ent Key.str)) := by simpa using hi3
      have hdn : (done ++ [y]).length ≤ es.length := by
        have h6 := List.Nodup.length_le_of_subset (nodup_of_born hi3'.dnd) hi3'.sub
        simpa using h6
      have hb1 := bound done (by omega)
      have hb2 := bound (done ++ [y]) (by omega)
      have hsum : sumZ ((done ++ [y]).map fun y => weigh D (D.seen n) y.1) = sumZ (done.map fun y => weigh D (D.seen n) y.1) + weigh D (D.seen n) y.1 := by
        rw [List.map_append, sumZ_append]; simp [sumZ]
      rw [hgb]
      have same : decide (some (at0 b) ≠ (D.seen n).map fun i => at0 (fb.getD i 0)) = decide (some i ≠ D.seen n) := by
        cases hsn : D.seen n with
        | none => simp
        | some j =>
          have hjl : j < fb.length := A.seen.ids n j hsn
          have hil' : i < fb.length := A.seen.ids y.1 i hfy
          have e : (at0 b = at0 (fb.getD j 0)) ↔ i = j := by
            constructor
            · intro h
              have h : b = fb.getD j 0 := by injection h
              rw [← hgb, List.getD_eq_getElem?_getD, List.getD_eq_getElem?_getD, List.getElem?_eq_getElem hjl, List.getElem?_eq_getElem hil'] at h
              exact (List.getElem_inj A.files.nd).1 h
            · rintro rfl; rw [hgb]
          rw [decide_eq_decide]
          simp only [Option.map_some, ne_eq, Option.some.injEq, e]
      refine rdB_neqp (e := 123) (n := i123.size) i121_ok.und (InfOk.run_size i123_ok) (by rw [show i123.size = 4 by kernel_rfl]; decide) (fun a ha => ?_) (fun a ha => ?_) ?_
      · cases ha; exact ⟨_, _, hbx⟩
      · obtain ⟨j, hj, rfl⟩ := Option.map_eq_some_iff.1 ha
        obtain ⟨b', s', g', _, _, _, hgb', _, hbx', _⟩ := A3.file_at (ok.seen.ids n j hj)
        rw [hgb']; exact ⟨_, _, hbx'⟩
      rw [same]
      have again : ∀ {z : Int}, z = D.space - sumZ ((done ++ [y]).map fun y => weigh D (D.seen n) y.1) → (∃ done_1 : List (KEnt ByteArray), Iter w3 r ms (es.map (KEnt.ent Key.str)) (done_1.map (KEnt.ent Key.str)) ∧ (z, ()) = (D.space - sumZ (done_1.map fun y => weigh D (D.seen n) y.1), ()) ∧ Ext w w3 ∧ done_1.length ≤ es.length) := fun {z} hz => ⟨done ++ [y], hi3', by rw [hz], e3, hdn⟩
      have less : (es.length - (match w3.heap[r]? with | some (.mapIter _ _ seen _) => seen.size | _ => 0)) < (es.length - (match w2.heap[r]? with | some (.mapIter _ _ seen _) => seen.size | _ => 0)) := by
        rw [size_of hi3', size_of hi2]
        simp at hdn ⊢; omega
      refine sif_r (fun h => nn_some ?_) fun h => ⟨again ?_, less⟩
      · have h : some i ≠ D.seen n := of_decide_eq_true h
        have hw : weigh D (D.seen n) y.1 = (s.len : Int) := by
          unfold weigh; rw [hfy]; dsimp only; rw [if_neg h, hfl]; omega
        rw [addr_add]
        refine ld_r hbx (x := s) rfl ⟨again ?_, less⟩
        rw [hsum, IntWalk.i64_in _ ⟨by omega, by omega⟩]; omega
      · have h : ¬ (some i ≠ D.seen n) := of_decide_eq_false h
        have h : some i = D.seen n := by simpa using h
        have hw : weigh D (D.seen n) y.1 = 0 := by
          unfold weigh; rw [hfy]; dsimp only; rw [if_pos h]
        rw [hsum]; omega
  · rintro _ w1 ⟨rfl, e1⟩
    dsimp only
    have A1 := A.ext e1
    have err : ∀ {W : World} (c : Int), Ext w1 W → c ≠ 0 → putR D n l = (D, c) → newO (.cells #[.string ⟨#[112, 117, 116]⟩, .string n, .int .i64 0, .iface 33 (.int .i64 c)] 101) (fun b => K (.iface 99 (.pointer (some (at0 b))))) W := fun {W} c e2 hc hp => by
      rw [hp] at hK
      have e12 := e1.trans e2
      have hs := e12.size
      exact newO_r fun b3 w2 e3 n3 hb3 _ => hK F w2 _ ⟨fun h => absurd h hc, fun _ => ⟨b3, 0, rfl, n3, by omega, fun h => by have := A.lt _ h; omega⟩⟩ (A.ext (e12.trans e3)).in (Upd.of_ext (e12.trans e3)) fun k hk => .inl hk
    refine nn_some ?_
    rw [addr_add]
    unfold putR at err
    refine ld_r A1.box (x := D.down) rfl (sif_r (fun hd => err 165 (Ext.refl _) (by decide) (by rw [if_pos hd])) fun hd => ?_)
    have hd : ¬ D.down = true := by rw [hd]; simp
    rw [if_neg hd] at err
    refine isName_call fun w2 e2 => sif_r (fun h => err 164 e2 (by decide) (by rw [if_pos (by simpa using h)])) fun h => ?_
    have hok : ¬ okName n = false := by simpa using h
    rw [if_neg hok] at err
    have A2 := A1.ext e2
    have e02 := e1.trans e2
    refine join_at (decide ((D.seen n = none ∧ 16 ≤ (names D.seen).length) ∨ (l.length : Int) > D.space - usedBut D (D.seen n)), ()) ?_ (sif_r (fun h => err 161 e2 (by decide) (by rw [if_pos (of_decide_eq_true h)])) fun h => ?_)
    · refine join_at (decide (D.seen n = none ∧ 16 ≤ (names D.seen).length), ()) (sif_r (fun h => nn_some ?_) fun h => ⟨tupb ?_, rfl⟩) (sif_r (fun h => ⟨tupb ?_, rfl⟩) fun h => ⟨tupb ?_, rfl⟩)
      · rw [addr_add]
        refine ld_r A2.box (x := some ms) rfl (A2.seen.len ⟨tupb ?_, rfl⟩)
        have h : D.seen n = none := by simpa using h
        simp [h]; omega
      · have h : ¬ D.seen n = none := fun hh => by rw [hh] at h; simp at h
        simp [h]
      · have h := of_decide_eq_true h
        simp [h]
      · have h := of_decide_eq_false h
        simp [h, ← hxl]
    have hfit := of_decide_eq_false h
    clear err
    have hp : putR D n l = (match D.seen n with
      | some i => ({ Dsk.settle D with files := put1 D.files i fun f => ⟨l, l.length, f.count + 1⟩ }, 0)
      | none => ({ D with lasts := dset D.seen n (some D.files.length), acts := [], files := D.files ++ [⟨l, l.length, 1⟩] }, 0)) := by
      unfold putR; rw [if_neg hd, if_neg hok, if_neg hfit]; cases D.seen n <;> rfl
    have hll : l.length ≤ 1048576 := by
      have : ¬ (l.length : Int) > D.space - usedBut D (D.seen n) := fun h => hfit (.inr h)
      omega
    have hnum := ok.num
    refine join_r (fun x W => ∃ F1 D1 g1 i b fb1 ds1, x = (some (at0 b), ()) ∧ Half W d F1 D1 g1 ms ml sa pl fb1 ds1 ∧ fb1[i]? = some b ∧ i < D1.files.length ∧ putR D n l = ({ D1 with lasts := g1, acts := [], files := put1 D1.files i fun f => ⟨l, l.length, f.count + 1⟩ }, 0) ∧ Upd F w W ∧ (∀ k, F1 k → F k ∨ w.heap.size ≤ k) ∧ (∀ f, D1.files[i]? = some f → 0 ≤ f.count ∧ f.count ≤ N)) (sif_r (fun h => ?_) fun h => ?_) ?_
    · have hsn : D.seen n = none := by simpa using h
      rw [hsn] at hp
      refine fresh_call A2 (by omega) fun b w3 A3 u3 hb3 => nn_some ?_
      rw [addr_add]
      have hlf := A.files.lf
      refine ld_r A3.box (x := some ms) rfl (A3.seen.set (n := n) (i := D.files.length) (b := b) (by simp [hlf]) ?_ fun w4 h4 u4 => ?_)
      · rw [← hlf, List.getD_eq_getElem?_getD, List.getElem?_append_right (Nat.le_refl _), Nat.sub_self]; rfl
      obtain ⟨o, c, hmap⟩ := A3.seen.map_at
      have no : ∀ t : TypeId, NoTy w3 (fun k => k = ms) t := fun t => NoTy.map hmap
      have hz2 := e02.size
      refine ⟨_, { D with files := D.files ++ [⟨[], 0, 0⟩] }, dset D.seen n (some D.files.length), D.files.length, b, fb ++ [b], ds ++ [⟨none, 0, 0⟩], rfl, ⟨u4.get A3.box ?_, h4, A3.files.ty u4 (no _) (no _), A3.plan.upd u4 (fun m hm e => A3.nes (by rw [hm, e])) (no _) fun _ h => h, A3.nes, A3.fd, A3.fms, A3.ffb, A3.fds, fun k hk => Nat.lt_of_lt_of_le (A3.lt k hk) u4.size⟩, ?_, by simp, ?_, ((Upd.of_ext e02).trans (u3.mono fun k _ e => by rw [e]; exact A.fd)).trans (u4.mono fun k _ e => by rw [e]; exact A.fms), fun k hk => hk.imp id fun h => by omega, fun f hf => ?_⟩
      · intro e
        have hbx := A3.box
        rw [e, hmap] at hbx; cases hbx
      · rw [← hlf, List.getElem?_append_right (Nat.le_refl _), Nat.sub_self]; rfl
      · rw [hp, put1_eq (g := ⟨[], 0, 0⟩) (by simp)]
        simp
      · simp at hf
        subst hf
        exact ⟨Int.le_refl _, Int.natCast_nonneg N⟩
    · obtain ⟨i, hsn⟩ : ∃ i, D.seen n = some i := by
        cases hsn : D.seen n with
        | none => rw [hsn] at h; cases h
        | some i => exact ⟨i, rfl⟩
      rw [hsn] at hp
      obtain ⟨b, s, g, hb, hss, hg, hgb, hfl, hbx, hby⟩ := A2.file_at (ok.seen.ids n i hsn)
      refine ⟨F, D, D.seen, i, b, fb, ds, ?_, A2.half, hb, ok.seen.ids n i hsn, hp, Upd.of_ext e02, fun k hk => .inl hk, fun f hf => (ok.fil i f hf).2.2⟩
      rw [hsn, Option.map_some, hgb]
    · rintro ⟨_, ⟨⟩⟩ W ⟨F1, D1, g1, i, b, fb1, ds1, hx1, H, hb, hi, hput, hu1, hF1, hcnt⟩
      cases hx1
      dsimp only
      refine settle_gen H fun m' w5 A5 u5 hm' => ?_
      have hsz := hu1.size
      have hsz5 := u5.size
      have hd5 : F d := A.fd
      have x5 : Bytes w5 x l := SlX.updO (SlX.updO hx hu1 fun k hk => (hxb k hk).2) u5 fun k hk e => (hxb k hk).2 (e ▸ hd5)
      refine cloneB_call x5 (by omega) fun s' w6 hs' e6 => nn_some ?_
      rw [addr_add]
      obtain ⟨b', s, g, hb', hss, hg, hgb, hfl, hbx5, hby⟩ := A5.file_at (i := i) hi
      have hbx := e6.ext_get hbx5
      rw [hb] at hb'; cases hb'
      have hc := hcnt g hg
      have ho := hs'.len1
      rw [List.length_map] at ho
      refine stC_r hbx (by simp) fun w7 u7 n7 hz7 => ?_
      have n7 : w7.heap[b]? = some (fbox i s' ⟨l, g.synced, g.count⟩) := n7
      refine fsync_call n7 fun w8 n8 u8 _ => nn_some ?_
      rw [addr_add]
      refine ld_r n8 (x := g.count) rfl (nn_some ?_)
      rw [addr_add, IntWalk.i64_in _ ⟨by omega, by omega⟩]
      refine stC_r n8 (by simp) fun w9 u9 n9 _ => ?_
      have n9 : w9.heap[b]? = some (fbox i s' ⟨l, l.length, g.count + 1⟩) := by rw [n9, ho]; rfl
      have u69 : Upd (fun k => k = b) w6 w9 := (u7.trans u8).trans u9
      have A9 := A5.file_set (s' := s') (g' := ⟨l, l.length, g.count + 1⟩) hb hss hg ((Upd.of_ext e6).trans u69) (fun k hk _ => .inl hk) n9 ((hs'.box hbx (by decide) u69).mono (Nat.zero_le _)) fun k hk => .inr (hs'.blk_ge hk)
      have hz6 := e6.size
      refine hK _ w9 _ ⟨fun _ => rfl, fun h => absurd (by rw [hput]) h⟩ (by rw [hput, put1_eq hg]; exact A9.in) (((hu1.trans (u5.mono fun k _ e => by rw [e]; exact hd5)).trans (Upd.of_ext e6)).new u69 fun k hk e => ?_) fun k hk => ?_
      · subst e
        exact (hF1 k (H.ffb k (List.mem_of_getElem? hb))).resolve_right (by omega)
      · rcases hk with (hk | hk) | hk
        · exact hF1 k hk
        · exact .inr (by omega)
        · have := hs'.blk_ge hk
          exact .inr (by omega)
end
end Dq
end Go.Proofs.YtmooldhpiopcgaaGreatDoor
set_option linter.unusedSimpArgs false
set_option linter.unusedVariables false
namespace Go.Proofs.YtmooldhpiopcgaaGreatDoor
namespace Dq
open Go Go.Vx Dsk
section
variable {w w' : World} {S F F' : Nat → Prop} {d m ms ml : Nat} {f : Dir} {fb : List Nat} {ds : List Sl} {fs : List Fl} {sa : Sl} {vs : List Value} {D : Dk} {pl : Option Nat} {p : Int → Option Fault} {N : Nat}
def newD (space : Int) : Dk := ⟨space, [], fun _ => none, [], false, fun _ => none, 0⟩
theorem DirIn.made (h : w.heap[m]? = some (.map #[] 0)) : DirIn w m [] fun _ => none := ⟨⟨[], MapK.made m h, fun _ => rfl⟩, fun _ _ h => by cases h⟩
theorem new_call {space : Int} (h0 : 0 ≤ space) (h1 : space ≤ 1048576) {K : (Option Addr × Value × Unit) → World → Prop}
    (hK : ∀ d F w', DiskIn w' d F (newD space) → Ext w w' → (∀ k, F k → w.heap.size ≤ k) → K (some (at0 d), .nilIface, ()) w') : callT Tryz.prog 17 #[.int .i64 space] (.tup [(.one .ptr), (.one .any)]) K w := by
  refine F17_calls ?_
  unfold F17
  refine join_at (false, ()) (sif_r (fun h => absurd (of_decide_eq_true h) (by omega)) fun _ => ⟨tupb ?_, rfl⟩) (sif_false ?_)
  · simp; omega
  · refine newO_r fun b4 w1 e1 n1 hb4 hz1 => newO_r fun b5 w2 e2 n2 hb5 hz2 => newO_r fun b6 w3 e3 n3 hb6 hz3 => ?_
    have g4 : w3.heap[b4]? = some (.map #[] 0) := (e2.trans e3).ext_get n1
    have g5 : w3.heap[b5]? = some (.map #[] 0) := e3.ext_get n2
    refine hK b6 (fun k => k = b4 ∨ k = b5 ∨ k = b6) w3 ⟨b4, b5, ⟨none, 0, 0⟩, none, [], [], [], n3, DirIn.made g4, DirIn.made g5, ⟨rfl, rfl, List.nodup_nil, fun i j s t _ hs => by simp at hs, fun i b s f hb => by simp at hb⟩, ⟨SlOwn.nil _ _ _ _, rfl, fun i v a hv => by simp at hv⟩, .inl ⟨rfl, fun _ => rfl⟩, by omega, by simp, by simp, .inr (.inr rfl), .inl rfl, .inr (.inl rfl), fun b hb => by simp at hb, fun s hs => by simp at hs, (fun k ⟨q, hq, _⟩ => by cases hq), fun k hk => ?_⟩ ((e1.trans e2).trans e3) fun k hk => by omega
    have l4 := lt_of_heap g4
    have l5 := lt_of_heap g5
    have l6 := lt_of_heap n3
    rcases hk with rfl | rfl | rfl <;> assumption
end
end Dq
end Go.Proofs.YtmooldhpiopcgaaGreatDoor
set_option linter.unusedSimpArgs false
set_option linter.unusedVariables false
namespace Go.Proofs.YtmooldhpiopcgaaGreatDoor
namespace Dq
open Go Go.Vx Dsk
section
variable {w w' : World} {F : Nat → Prop}
theorem is_typeOf (v : Value) (w : World) : (Extern.ReflectliteType.typeOf #[.iface 33 v]).run Tryz.prog w = .ok (.iface 211 (.agg #[.pointer (some ⟨2, 33, none⟩)])) w := by kernel_rfl
noncomputable def compX : Array Value → Sem Value := (Extern.find Tryz.f262).getD fun _ => pure undef
theorem is_comparable (w : World) : (compX #[.agg #[.pointer (some ⟨2, 33, none⟩)]]).run Tryz.prog w = .ok (.bool true) w := by kernel_rfl
theorem is_mcomp (v : Value) (w : World) : (Go.method (Tryz.prog.types.size + Made.depth) 211 v "Comparable").run Tryz.prog w = .ok (262, v) w := by kernel_rfl
theorem is_munwrap (v : Value) (w : World) : (Go.method (Tryz.prog.types.size + Made.depth) 99 v "Unwrap").run Tryz.prog w = .ok (254, v) w := by kernel_rfl
theorem noIsF (v : Value) (xT : TypeId) (w : World) : (Instr.typeAssert (.iface 99 v) xT 213 true).run Tryz.prog w = .ok (.tuple #[.nilIface, .bool false]) w := run_typeAssert_lacksB Tryz.underlying213 (by kernel_rfl) (by kernel_rfl) v xT w
theorem hasUnwrapF (v : Value) (xT : TypeId) (w : World) : (Instr.typeAssert (.iface 99 v) xT 216 true).run Tryz.prog w = .ok (.tuple #[.iface 99 v, .bool true]) w := run_typeAssert_hasB Tryz.underlying216 (by kernel_rfl) v xT w
theorem noIsE (v : Value) (xT : TypeId) (w : World) : (Instr.typeAssert (.iface 33 v) xT 213 true).run Tryz.prog w = .ok (.tuple #[.nilIface, .bool false]) w := run_typeAssert_lacksB Tryz.underlying213 (by kernel_rfl) (by kernel_rfl) v xT w
theorem noUnwrapE (v : Value) (xT : TypeId) (w : World) : (Instr.typeAssert (.iface 33 v) xT 216 true).run Tryz.prog w = .ok (.tuple #[.nilIface, .bool false]) w := run_typeAssert_lacksB Tryz.underlying216 (by kernel_rfl) (by kernel_rfl) v xT w
theorem noUnwrapsE (v : Value) (xT : TypeId) (w : World) : (Instr.typeAssert (.iface 33 v) xT 217 true).run Tryz.prog w = .ok (.tuple #[.nilIface, .bool false]) w := run_typeAssert_lacksB Tryz.underlying217 (by kernel_rfl) (by kernel_rfl) v xT w
theorem typeOf_x (v : Value) {K : Value → World → Prop} (hK : K (.iface 211 (.agg #[.pointer (some ⟨2, 33, none⟩)])) w) : callX Tryz.prog (callFunc 91 #[.iface 33 v]) (.one (.one .any)) K w := by
  refine .inr (.inl ⟨_, w, ?_, hK⟩)
  have h8 := @run_callFunc_extern Tryz.prog 91 _ Extern.ReflectliteType.typeOf Tryz.func91 (by kernel_rfl) (by kernel_rfl) (by kernel_rfl) (by kernel_rfl) #[.iface 33 v] w
  rw [h8, is_typeOf]; rfl
theorem comparable_x {K : Bool → World → Prop} (hK : K true w) : callX Tryz.prog (invoke (.fn (.method "Comparable") #[]) (#[.iface 211 (.agg #[.pointer (some ⟨2, 33, none⟩)])] ++ #[])) (.one (.one .bool)) K w := by
  refine .inr (.inl ⟨true, w, ?_, hK⟩)
  have h32 := @run_callFunc_extern Tryz.prog 262 _ compX Tryz.func262 (by kernel_rfl) (by kernel_rfl) (by kernel_rfl) (by kernel_rfl) #[.agg #[.pointer (some ⟨2, 33, none⟩)]] w
  have e : invoke (.fn (.method "Comparable") #[]) (#[.iface 211 (.agg #[.pointer (some ⟨2, 33, none⟩)])] ++ #[]) = callMethod (.iface 211 (.agg #[.pointer (some ⟨2, 33, none⟩)])) "Comparable" #[] := rfl
  rw [e]
  simp only [callMethod, Sem.run_bind, program, Sem.run, Result.andThen_ok, is_mcomp]
  have e2 : (#[.agg #[.pointer (some ⟨2, 33, none⟩)]] ++ #[] : Array Value) = #[.agg #[.pointer (some ⟨2, 33, none⟩)]] := rfl
  rw [e2, h32, is_comparable]
  rfl
theorem unwrap_x {p : Option Addr} {K : Value → World → Prop} (h : callT Tryz.prog 254 #[.pointer p] (.one (.one .any)) K w) : callX Tryz.prog (invoke (.fn (.method "Unwrap") #[]) (#[.iface 99 (.pointer p)] ++ #[])) (.one (.one .any)) K w := by
  refine .inl ⟨254, #[.pointer p], ?_, h⟩
  have h := run_callFunc (P := Tryz.prog) (f := 254) (args := #[.pointer p]) (by kernel_rfl) w
  have e : invoke (.fn (.method "Unwrap") #[]) (#[.iface 99 (.pointer p)] ++ #[]) = callMethod (.iface 99 (.pointer p)) "Unwrap" #[] := rfl
  rw [e]
  simp only [callMethod, Sem.run_bind, program, Sem.run, Result.andThen_ok, is_munwrap]
  exact h
theorem eq_kinds {o1 o2 : Operand} {a k : Value} {K : Bool → World → Prop} (hK : K false w) : rdB Tryz.prog (do eqGuard .eql 26 o1 o2 (.iface 99 a) (.iface 33 k); binOp .eql 26 (.iface 99 a) (.iface 33 k) : Sem Value) K w := by
  obtain ⟨ms, hi⟩ := uE
  refine ⟨false, ?_, hK⟩
  have := run_eql_iface_types (P := Tryz.prog) 99 33 a k hi (by decide) w
  simp [eqGuard, this]
theorem equal_iface {P : Program} {ti t : TypeId} {ms : Array (String × TypeId)} {i : TypeInfo} {n : Nat} {a b : Value} {r : Bool} (hi : P.underlying ti = some (.interface ms)) (ht : P.info? t = some i) (hc : i.comparable = true) (h : (Op.equalIn n t a b).run P w = .ok r w) : (Op.equalIn (n + 1) ti (.iface t a) (.iface t b)).run P w = .ok r w := by
  simp [Op.equalIn, run_underlying hi, typeInfo, ht, hc, h]
theorem eq_nums {o1 o2 : Operand} {e k : Int} {K : Bool → World → Prop} (hK : K (decide (e = k)) w) : rdB Tryz.prog (do eqGuard .eql 26 o1 o2 (.iface 33 (.int .i64 e)) (.iface 33 (.int .i64 k)); binOp .eql 26 (.iface 33 (.int .i64 e)) (.iface 33 (.int .i64 k)) : Sem Value) K w := by
  obtain ⟨ms, hi⟩ := uE
  refine ⟨decide (e = k), ?_, hK⟩
  have hu : Tryz.prog.underlying 33 = some (.int .i64) := i33_ok.und
  have hc : (Tryz.prog.info? 33).map (·.comparable) = some true := by kernel_rfl
  obtain ⟨i, hi2, hcmp⟩ := Option.map_eq_some_iff.1 hc
  have h : (Op.equalIn 10000 26 (.iface 33 (.int .i64 e)) (.iface 33 (.int .i64 k))).run Tryz.prog w = .ok (decide (e = k)) w := by
    exact equal_iface hi hi2 hcmp (run_equalIn_int w _ _ _ _ _ _ hu)
  simp [eqGuard, binOp, Op.equal, Op.maxDepth, h]
theorem is_call {b : Nat} {e k st : Int} {op nm : ByteArray} (h : w.heap[b]? = some (.cells #[.string op, .string nm, .int .i64 st, .iface 33 (.int .i64 e)] 101 (0, 0))) {K : Bool → World → Prop} (hK : K (decide (e = k)) w) :
    callT Tryz.prog 53 #[.iface 99 (.pointer (some (at0 b))), .iface 33 (.int .i64 k)] (.one (.one .bool)) K w := by
  refine F53_calls ?_
  unfold F53
  refine join_at (false, ()) (rdB_nil (sif_false (rdB_nil ⟨rfl, rfl⟩ uE)) uE) (sif_false (typeOf_x _ (comparable_x ?_)))
  refine F92_calls ?_
  unfold F92
  refine sloop_r (fun s W => W = w ∧ (s = (.iface 99 (.pointer (some (at0 b))), ()) ∨ s = (.iface 33 (.int .i64 e), ()))) (fun s _ => match s.1 with | .iface t _ => t - 33 | _ => 0) ⟨rfl, .inl rfl⟩ ?_
  rintro _ _ ⟨rfl, rfl | rfl⟩
  · refine join_at (false, ()) (sif_true (eq_kinds ⟨rfl, rfl⟩)) (sif_false ⟨(.nilIface, false, ()), _, noIsF _ _ _, ?_⟩)
    refine join_at (false, ()) (sif_false ⟨rfl, rfl⟩) (sif_false ⟨(.iface 99 (.pointer (some (at0 b))), true, ()), _, hasUnwrapF _ _ _, sif_true (unwrap_x ?_)⟩)
    refine F254_calls ?_
    unfold F254
    refine nn_some ?_
    rw [addr_add]
    refine ld_r h (off := 3) (x := .iface 33 (.int .i64 e)) rfl (rdB_nil (sif_false ⟨⟨rfl, .inr rfl⟩, ?_⟩) uE)
    show 33 - 33 < 99 - 33
    decide
  · refine join_at (decide (e = k), ()) (sif_true (eq_nums ⟨rfl, rfl⟩)) (sif_r (fun hh => ?_) fun hh => ⟨(.nilIface, false, ()), _, noIsE _ _ _, ?_⟩)
    · have hh : decide (e = k) = true := hh
      rw [hh] at hK; exact hK
    have hh : decide (e = k) = false := hh
    rw [hh] at hK
    exact join_at (false, ()) (sif_false ⟨rfl, rfl⟩) (sif_false ⟨(.nilIface, false, ()), _, noUnwrapE _ _ _, sif_false ⟨(.nilIface, false, ()), _, noUnwrapsE _ _ _, sif_false hK⟩⟩)
end
end Dq
end Go.Proofs.YtmooldhpiopcgaaGreatDoor
set_option linter.unusedSimpArgs false
set_option linter.unusedVariables false
namespace Go.Proofs.YtmooldhpiopcgaaGreatDoor.Dsk
def side (n : Nm) : Nm := ⟨n.data.push 126⟩
def userName (n : Nm) : Bool := okName n && decide (n.size < 32) && decide (n.data.back? ≠ some 126)
abbrev Stm := Int × Int × Int
structure Fil where
  name : Nm
  mark : List UInt8
  known : Stm
  tried : Stm
def cutK : Nat → List UInt8 → List (List UInt8)
  | 0, _ => []
  | n + 1, l => if l = [] then [] else l.take 1024 :: cutK n (l.drop 1024)
noncomputable def fillP (n : Nm) : List (List UInt8) → Dk → Dk × Int
  | [], D => (D, 0)
  | c :: r, D => if (callAppend D n c).2.1 = 0 then fillP n r (callAppend D n c).1 else ((callAppend D n c).1, (callAppend D n c).2.1)
noncomputable def clean (D : Dk) (n : Nm) (e : Int) (t : Stm) : Dk × Int × Stm := if e = 0 then (D, e, t) else ((callRemove D n).1, e, t)
noncomputable def beginP (D : Dk) (n : Nm) : Dk × Int :=
  let m := callMake D n
  if m.2.1 = 163 then (let r := callRemove m.1 n; if r.2.1 = 0 then ((callMake r.1 n).1, (callMake r.1 n).2.1) else (r.1, r.2.1)) else (m.1, m.2.1)
noncomputable def replP (D : Dk) (n : Nm) (b : List UInt8) (t : Stm) : Dk × Int × Stm :=
  let m := beginP D (side n)
  if m.2 ≠ 0 then clean m.1 (side n) m.2 t else
  let f := fillP (side n) (cutK b.length b) m.1
  if f.2 ≠ 0 then clean f.1 (side n) f.2 t else
  let s := callSync f.1 (side n)
  if s.2.1 ≠ 0 then clean s.1 (side n) s.2.1 t else
  let p := callStamp s.1 (side n)
  if p.2.1 ≠ 0 then clean p.1 (side n) p.2.1 t else
  let r := callRename p.1 (side n) n
  clean r.1 (side n) r.2.1 p.2.2
noncomputable def writeP (D : Dk) (n : Nm) (b : List UInt8) (t k : Stm) : Dk × Int × Stm × Stm :=
  let r := replP D n b t
  if r.2.1 ≠ 0 then (r.1, r.2.1, r.2.2, k) else
  let y := callSyncDir r.1
  (y.1, y.2.1, r.2.2, r.2.2)
noncomputable def saveP (D : Dk) (F : Fil) (b : List UInt8) (force : Bool) : Dk × Int × Fil :=
  let s := callStamp D F.name
  if s.2.1 ≠ 0 ∧ s.2.1 ≠ 162 then (s.1, s.2.1, F) else
  let k := if s.2.1 = 0 ∧ s.2.2 = F.tried then s.2.2 else F.known
  if force = false ∧ s.2.2 ≠ k then (s.1, 170, { F with known := k }) else
  let w := writeP s.1 F.name (F.mark ++ b) F.tried k
  (w.1, w.2.1, { F with tried := w.2.2.1, known := w.2.2.2 })
end Go.Proofs.YtmooldhpiopcgaaGreatDoor.Dsk
set_option linter.unusedSimpArgs false
set_option linter.unusedVariables false
namespace Go.Proofs.YtmooldhpiopcgaaGreatDoor
open Go Go.Vx
theorem nat_ofInt {b : Nat} {a : Int} (h0 : 0 ≤ a) (h : a < 2 ^ b) : (BitVec.ofInt b a).toNat = a.toNat := by
  rw [BitVec.toNat_ofInt]
  have e : ((2 ^ b : Nat) : Int) = (2 : Int) ^ b := by simp
  rw [e, Int.emod_eq_of_lt h0 h]
theorem and_lo {b k : Nat} {a m : Int} (h0 : 0 ≤ a) (h : a < 2 ^ b) (hm : m = 2 ^ k - 1) (hk : k ≤ b) : ((BitVec.toNat (BitVec.ofInt b a &&& BitVec.ofInt b m) : Nat) : Int) = a % 2 ^ k := by
  have h1 : (1 : Int) ≤ 2 ^ k := by have : (0 : Int) < 2 ^ k := Int.pow_pos (by decide); omega
  have h2 : (2 : Int) ^ k ≤ 2 ^ b := by
    have : (2 : Nat) ^ k ≤ 2 ^ b := Nat.pow_le_pow_right (by decide) hk
    exact_mod_cast this
  rw [BitVec.toNat_and, nat_ofInt h0 h, nat_ofInt (by omega) (by omega)]
  have : m.toNat = 2 ^ k - 1 := by
    have e : ((2 ^ k : Nat) : Int) = (2 : Int) ^ k := by simp
    omega
  rw [this, Nat.and_two_pow_sub_one_eq_mod]
  have e : ((2 ^ k : Nat) : Int) = (2 : Int) ^ k := by simp
  rw [Int.natCast_emod, e, Int.toNat_of_nonneg h0]
theorem or_shift {b k : Nat} {a c : Int} (h0 : 0 ≤ a) (hc0 : 0 ≤ c) (hc : c < 2 ^ k) (h : a * 2 ^ k + c < 2 ^ b) : ((BitVec.toNat (BitVec.ofInt b (a * 2 ^ k) ||| BitVec.ofInt b c) : Nat) : Int) = a * 2 ^ k + c := by
  have hp : (0 : Int) < 2 ^ k := Int.pow_pos (by decide)
  have hak : 0 ≤ a * 2 ^ k := Int.mul_nonneg h0 (by omega)
  rw [BitVec.toNat_or, nat_ofInt hak (by omega), nat_ofInt hc0 (by omega)]
  have e : ((2 ^ k : Nat) : Int) = (2 : Int) ^ k := by simp
  have e1 : (a * 2 ^ k).toNat = a.toNat <<< k := by
    rw [Nat.shiftLeft_eq]
    have : ((a * 2 ^ k).toNat : Int) = ((a.toNat * 2 ^ k : Nat) : Int) := by
      rw [Int.toNat_of_nonneg hak, Int.natCast_mul, e, Int.toNat_of_nonneg h0]
    exact_mod_cast this
  rw [e1, ← Nat.shiftLeft_add_eq_or_of_lt (by omega), ← e1, Int.natCast_add, Int.toNat_of_nonneg hak, Int.toNat_of_nonneg hc0]
theorem or_shift' {b k : Nat} {a c : Int} (h0 : 0 ≤ a) (hc0 : 0 ≤ c) (hc : c < 2 ^ k) (h : a * 2 ^ k + c < 2 ^ b) : ((BitVec.toNat (BitVec.ofInt b c ||| BitVec.ofInt b (a * 2 ^ k)) : Nat) : Int) = a * 2 ^ k + c := by
  rw [BitVec.or_comm]; exact or_shift h0 hc0 hc h
theorem and_hi {a m : Int} (h0 : 0 ≤ a) (h : a < 2 ^ 63) (hm : m = 1023) : ((BitVec.toNat (BitVec.ofInt 64 a &&& ~~~(BitVec.ofInt 64 m)) : Nat) : Int) = a / 1024 * 1024 := by
  subst hm
  have e0 : (~~~(BitVec.ofInt 64 1023) : BitVec 64).toNat = (2 ^ 54 - 1) <<< 10 := by decide
  rw [BitVec.toNat_and, nat_ofInt h0 (by omega), e0]
  have : a.toNat &&& (2 ^ 54 - 1) <<< 10 = (a.toNat >>> 10) <<< 10 := by
    apply Nat.eq_of_testBit_eq
    intro i
    rw [Nat.testBit_and, Nat.testBit_shiftLeft, Nat.testBit_shiftLeft, Nat.testBit_two_pow_sub_one, Nat.testBit_shiftRight]
    by_cases hi : 10 ≤ i
    · have e : 10 + (i - 10) = i := by omega
      rw [e]
      by_cases h64 : i < 64
      · have : i - 10 < 54 := by omega
        simp [hi, this]
      · have hb : a.toNat.testBit i = false := Nat.testBit_lt_two_pow (Nat.lt_of_lt_of_le (by omega : a.toNat < 2 ^ 63) (Nat.pow_le_pow_right (by decide) (by omega)))
        simp [hb]
    · simp [hi]
  rw [this, Nat.shiftLeft_eq, Nat.shiftRight_eq_div_pow]
  omega
theorem wrap64 {a : Int} (h0 : -(2 ^ 63) ≤ a) (h : a < 2 ^ 63) : IntKind.wrap .i64 a = a := by
  simp only [IntKind.wrap, IntKind.signed, IntKind.bits]
  simp [Int.bmod_def]; omega
theorem wrap8 {a : Int} (h0 : 0 ≤ a) (h : a < 256) : IntKind.wrap .u8 a = a := by
  simp only [IntKind.wrap, IntKind.signed, IntKind.bits]
  simp; omega
end Go.Proofs.YtmooldhpiopcgaaGreatDoor
set_option linter.unusedSimpArgs false
set_option linter.unusedVariables false
namespace Go.Proofs.YtmooldhpiopcgaaGreatDoor
namespace Dq
open Go Go.Vx Dsk
section
variable {w w' : World}
theorem calls_T {f : FuncId} {args : Array Value} {t : RTy} {K : t.T → World → Prop} {v : t.T} (h : Calls Tryz.prog f args w fun e w' => e = .returned (t.val v) ∧ w' = w) (hK : K v w) : callT Tryz.prog f args t K w :=
  h.mono fun e w' ⟨h1, h2⟩ => ⟨v, h1, by rw [h2]; exact hK⟩
theorem convert_r {a b : TypeId} {n : Int} {K : ByteArray → World → Prop} (ha : Tryz.prog.underlying a = some (.int .i32)) (hb : Tryz.prog.underlying b = some .string) (hK : K (Utf8.encode n) w) : rawT Tryz.prog (.one (.one .str)) (convert a b (.int .i32 n)) K w := by
  refine ⟨Utf8.encode n, w, ?_, hK⟩
  simp [convert, run_underlying ha, run_underlying hb, Conv.intToString, RTy.val, Ty.val, Cell.val]
theorem srange_r {s : ByteArray} {t : TypeId} {K : Option Addr → World → Prop} (ht : Tryz.prog.underlying t = some .string)
    (hK : ∀ r w', w'.heap[r]? = some (.stringIter s 0) → Ext w w' → r = w.heap.size → K (some (at0 r)) w') : rawT Tryz.prog (.one (.one .ptr)) (Instr.range t (.string s)) K w := by
  refine ⟨some (at0 w.heap.size), w.alloc (.stringIter s 0), ?_, hK _ _ (heap_alloc w _) (Ext.alloc w _) rfl⟩
  simp [Instr.range, run_underlying ht, newObj, Sem.run, World.alloc_eq, RTy.val, Ty.val, Cell.val]
theorem snext_r {s : ByteArray} {r pos : Nat} {t : TypeId} {K : Int → Int → World → Prop} {K0 : World → Prop} (hr : w.heap[r]? = some (.stringIter s pos))
    (h0 : s.size ≤ pos → K0 w) (h1 : pos < s.size → ∀ w', w'.heap[r]? = some (.stringIter s (pos + (Utf8.decode s pos).2)) → Upd (fun k => k = r) w w' → K (pos : Int) ((Utf8.decode s pos).1 : Int) w') :
    nextS Tryz.prog (Instr.next (.pointer (some (at0 r))) true t) K K0 w := by
  have hg : (getObj r).run Tryz.prog w = .ok (.stringIter s pos) w := by simp [getObj, Sem.run, hr]
  by_cases h : pos < s.size
  · obtain ⟨u1, u2⟩ := upd_setObj (o' := .stringIter s (pos + (Utf8.decode s pos).2)) hr
    refine .inl ⟨(pos : Int), ((Utf8.decode s pos).1 : Int), _, ?_, h1 h _ u2 u1⟩
    simp [Instr.next, hg, h, setObj, Sem.run, hr, goInt]
  · refine .inr ⟨w, ?_, h0 (by omega)⟩
    simp [Instr.next, hg, h]
theorem decode_lt {s : ByteArray} {i : Nat} (h : (s.get! i).toNat < 128) : Utf8.decode s i = ((s.get! i).toNat, 1) := by
  unfold Utf8.decode
  simp only [Nat.add_zero]
  rw [if_pos h]
theorem decode_ge {s : ByteArray} {i : Nat} (h : 128 ≤ (s.get! i).toNat) : 128 ≤ (Utf8.decode s i).1 ∧ (Utf8.decode s i).1 < 2 ^ 31 := by
  unfold Utf8.decode
  simp only [Nat.add_zero]
  rw [if_neg (by omega)]
  have h63 : ∀ x : Nat, x % 64 < 64 := fun x => Nat.mod_lt _ (by decide)
  simp only [Utf8.runeError]
  repeat' split
  all_goals
    first
      | (exact ⟨by decide, by decide⟩)
      | (rename_i hh
         simp only [Bool.and_eq_true, decide_eq_true_eq, ge_iff_le] at hh
         refine ⟨?_, ?_⟩
         · dsimp only; omega
         · dsimp only; omega)
theorem encode_ge {c : Int} (h : 128 ≤ c) : (2 ≤ (Utf8.encode c).size ∧ (Utf8.encode c).size ≤ 4) ∧ ∀ b, (Utf8.encode c)[(Utf8.encode c).size - 1]? = some b → 128 ≤ b.toNat := by
  have hc : 128 ≤ (if Utf8.valid c then c.toNat else Utf8.runeError) ∧ (if Utf8.valid c then c.toNat else Utf8.runeError) < 0x110000 := by
    split
    · rename_i hv
      simp only [Utf8.valid, Bool.or_eq_true, Bool.and_eq_true, decide_eq_true_eq] at hv
      omega
    · decide
  unfold Utf8.encode
  generalize (if Utf8.valid c then c.toNat else Utf8.runeError) = n at hc
  have key : ∀ m : Nat, 128 ≤ (UInt8.ofNat (128 + m % 64)).toNat := by
    intro m
    have := Nat.mod_lt m (show 0 < 64 by decide)
    simp only [UInt8.toNat_ofNat']
    omega
  simp only
  rw [if_neg (by omega)]
  split
  · refine ⟨by show 2 ≤ 2 ∧ 2 ≤ 4; decide, fun b hb => ?_⟩
    have : (some (UInt8.ofNat (128 + n % 64)) : Option UInt8) = some b := hb
    cases this; exact key n
  · split
    · refine ⟨by show 2 ≤ 3 ∧ 3 ≤ 4; decide, fun b hb => ?_⟩
      have : (some (UInt8.ofNat (128 + n % 64)) : Option UInt8) = some b := hb
      cases this; exact key n
    · refine ⟨by show 2 ≤ 4 ∧ 4 ≤ 4; decide, fun b hb => ?_⟩
      have : (some (UInt8.ofNat (128 + n % 64)) : Option UInt8) = some b := hb
      cases this; exact key n
theorem indexByte_none : ∀ {l : List UInt8} {c : UInt8}, (∀ b ∈ l, b ≠ c) → Lib.indexByte l c = -1
  | [], _, _ => rfl
  | b :: l, c, h => by
    have h1 : (b == c) = false := by simpa using h b List.mem_cons_self
    have h2 := indexByte_none (l := l) (c := c) fun x hx => h x (List.mem_cons_of_mem _ hx)
    simp [Lib.indexByte, h1, h2]
abbrev marksS : ByteArray := { data := #[46, 95, 45, 126] }
theorem marks_lt {i j : Nat} {b : UInt8} (h : b ∈ (marksS.extract i j).data.toList) : b.toNat < 128 := by
  rw [ByteArray.data_extract, Array.toList_extract] at h
  have : b ∈ ([46, 95, 45, 126] : List UInt8) := by
    rw [List.extract_eq_take_drop] at h
    exact List.mem_of_mem_drop (List.mem_of_mem_take h)
  clear h
  revert this
  revert b
  decide
theorem index_big {c : Int} (h : 128 ≤ c) (hc : c < 2 ^ 31) {K : Int → World → Prop} (hK : ∀ w', Ext w w' → K (-1) w') : callT Tryz.prog 130 #[.string marksS, .int .i32 c] (.one (.one (.int .i64))) K w := by
  refine F130_calls ?_
  unfold F130
  have h128 : ¬ c < 128 := by omega
  refine join_at (false, ()) (sif_r (fun _ => ⟨by simp [h128], rfl⟩) (fun h2 => absurd h2 (by simp; omega))) (sif_false ?_)
  refine sif_r (fun he => ?_) (fun he => ?_)
  · refine join_r (fun _ w' => Ext w w') (srange_r us fun r w1 n1 e1 hr => ?_) fun _ w' e => hK w' e
    refine sloop_r (fun _ W => Ext w W ∧ ∃ pos, W.heap[r]? = some (.stringIter marksS pos) ∧ pos ≤ 4) (fun _ W => match W.heap[r]? with | some (.stringIter _ p) => 4 - p | _ => 0) ⟨e1, 0, n1, by decide⟩ ?_
    rintro _ W ⟨eW, pos, hp, hle⟩
    refine snext_r hp (fun _ => sif_false eW) fun hlt W1 n2 u2 => ?_
    have hlt : pos < 4 := hlt
    have hd : (Utf8.decode marksS pos).1 < 128 ∧ (Utf8.decode marksS pos).2 = 1 := by
      rcases (by omega : pos = 0 ∨ pos = 1 ∨ pos = 2 ∨ pos = 3) with rfl | rfl | rfl | rfl <;> decide
    refine sif_true (sif_r (fun h3 => ?_) (fun _ => ?_))
    · have : (((Utf8.decode marksS pos).1 : Nat) : Int) = 65533 := by simpa using h3
      omega
    · rw [hd.2] at n2
      refine ⟨⟨eW.step u2 fun k hk => by omega, pos + 1, n2, by omega⟩, ?_⟩
      simp only [n2, hp]; omega
  · refine calls_T (v := Lib.validRune c) (Tryz.utf8_ValidRune c w) (sif_r (fun _ => hK w (Ext.refl w)) (fun _ => convert_r i21_ok.und us ?_))
    obtain ⟨⟨s2, s4⟩, hl⟩ := encode_ge h
    generalize Utf8.encode c = e at s2 s4 hl
    obtain ⟨b, hb⟩ : ∃ b, e[e.size - 1]? = some b := ⟨_, getElem?_pos e (e.size - 1) (by omega)⟩
    have hbg := hl b hb
    have ew : IntKind.wrap .i64 (((ByteArray.size e : Nat) : Int) - 1) = ((e.size - 1 : Nat) : Int) := by rw [wrap64 (by omega) (by omega)]; omega
    refine join_r (fun _ w' => Ext w w') ?_ fun _ w' e => hK w' e
    refine sloop_r (fun s W => s = (((e.size - 1 : Nat) : Int), ()) ∧ Ext w W) (fun _ _ => 0) ⟨by rw [ew], Ext.refl w⟩ ?_
    rintro _ W ⟨rfl, eW⟩
    refine sif_r (fun hlt => ?_) (fun _ => eW)
    have hlt : ((e.size - 1 : Nat) : Int) < 4 := of_decide_eq_true hlt
    refine join_r (fun _ _ => False) (drew_r fun W1 e1 _ => ?_) (fun _ _ h => h.elim)
    obtain ⟨a, ha⟩ : ∃ a, marksS[e.size - 1]? = some a := ⟨_, getElem?_pos marksS (e.size - 1) (by show e.size - 1 < 4; omega)⟩
    have hal : a.toNat < 128 := by
      rcases (by omega : e.size - 1 = 1 ∨ e.size - 1 = 2 ∨ e.size - 1 = 3) with h4 | h4 | h4 <;> rw [h4] at ha <;> (have := Option.some.inj ha; subst this; decide)
    refine ⟨a, ⟨by omega, by simpa using ha⟩, b, ⟨by rw [ew]; omega, by rw [ew]; simpa using hb⟩, sif_r (fun _ => ?_) (fun h5 => ?_)⟩
    · refine drew_r fun W2 e2 _ => chk_r ?_ ⟨b, ⟨by rw [ew]; omega, by rw [ew]; simpa using hb⟩, ?_⟩
      · rw [wrap64 (by omega) (by omega)]
        have : (marksS.size : Int) = 4 := rfl
        omega
      refine calls_T (v := Lib.indexByte _ _) (Tryz.strings_IndexByte _ _ W2) (sif_r (fun _ => hK W2 ((eW.trans e1).trans e2)) fun h6 => ?_)
      rw [indexByte_none fun x hx => fun hh => ?_] at h6
      · exact absurd h6 (by decide)
      · have := marks_lt hx
        rw [hh] at this
        simp at this
        omega
    · have : ((a.toNat : Nat) : Int) = ((b.toNat : Nat) : Int) := by simpa using h5
      omega
def okI (c : Int) : Bool := decide ((97 ≤ c ∧ c ≤ 122) ∨ (65 ≤ c ∧ c ≤ 90) ∨ (48 ≤ c ∧ c ≤ 57) ∨ c = 46 ∨ c = 95 ∨ c = 45 ∨ c = 126)
theorem contains_marks : ∀ n : Nat, n < 128 → decide (0 ≤ Lib.indexByte marksS.data.toList (n : Int).toNat.toUInt8) = decide (n = 46 ∨ n = 95 ∨ n = 45 ∨ n = 126) := by decide +kernel
theorem strange_call {c : Int} (h0 : 0 ≤ c) (hc : c < 2 ^ 31) {K : Bool → World → Prop} (hK : ∀ w', Ext w w' → K (!okI c) w') : callT Tryz.prog 52 #[.int .i32 c] (.one (.one .bool)) K w := by
  refine F52_calls ?_
  unfold F52
  refine join_at (decide ((97 ≤ c ∧ c ≤ 122) ∨ (65 ≤ c ∧ c ≤ 90) ∨ (48 ≤ c ∧ c ≤ 57)), ()) ?_ (sif_r (fun h => ?_) fun h => ?_)
  · refine join_at (decide (97 ≤ c ∧ c ≤ 122), ()) (sif_r (fun h => ⟨?_, rfl⟩) fun h => ⟨?_, rfl⟩) ?_
    · exact tupb (by simp at h ⊢; omega)
    · exact tupb (by simp at h ⊢; omega)
    refine sif_r (fun h => ⟨tupb (by simp at h ⊢; omega), rfl⟩) fun h => ?_
    refine join_at (decide (65 ≤ c ∧ c ≤ 90), ()) (sif_r (fun h => ⟨?_, rfl⟩) fun h => ⟨?_, rfl⟩) ?_
    · exact tupb (by simp at h ⊢; omega)
    · exact tupb (by simp at h ⊢; omega)
    refine sif_r (fun h2 => ⟨tupb (by simp at h h2 ⊢; omega), rfl⟩) fun h2 => ?_
    exact sif_r (fun h3 => ⟨tupb (by simp at h h2 h3 ⊢; omega), rfl⟩) fun h3 => ⟨tupb (by simp at h h2 h3 ⊢; omega), rfl⟩
  · have h : (97 ≤ c ∧ c ≤ 122) ∨ (65 ≤ c ∧ c ≤ 90) ∨ (48 ≤ c ∧ c ≤ 57) := by simpa using h
    have : okI c = true := by unfold okI; simp only [decide_eq_true_eq]; omega
    have hk := hK w (Ext.refl w)
    rw [this] at hk
    exact hk
  · have h : ¬ ((97 ≤ c ∧ c ≤ 122) ∨ (65 ≤ c ∧ c ≤ 90) ∨ (48 ≤ c ∧ c ≤ 57)) := by simpa using h
    by_cases hb : c < 128
    · refine calls_T (v := decide (0 ≤ Lib.indexByte marksS.data.toList c.toNat.toUInt8)) (Tryz.strings_ContainsRune_ascii marksS c w h0 hb) ?_
      have : decide (0 ≤ Lib.indexByte marksS.data.toList c.toNat.toUInt8) = okI c := by
        obtain ⟨n, rfl⟩ := Int.eq_ofNat_of_zero_le h0
        rw [contains_marks n (by omega)]
        unfold okI
        rw [decide_eq_decide]
        omega
      rw [this]
      exact hK w (Ext.refl w)
    · refine F90_calls ?_
      unfold F90
      refine index_big (by omega) hc fun w' e => ?_
      have : okI c = false := by unfold okI; simp only [decide_eq_false_iff_not]; omega
      have hk := hK w' e
      rw [this] at hk
      exact hk
theorem get_at {s : ByteArray} {i : Nat} (h : i < s.size) : s.data.toList[i]? = some (s.get! i) := by
  have h' : i < s.data.size := h
  have e : s.get! i = s.data[i] := by
    show s.data[i]! = _
    exact getElem!_pos s.data i h'
  rw [e, Array.getElem?_toList]
  exact Array.getElem?_eq_getElem h'
theorem indexFunc_call {s : ByteArray} (hs : s.size < 2 ^ 62) {K : Int → World → Prop} (hK : ∀ r w', Ext w w' → (r < 0 ↔ s.data.toList.all okByte = true) → K r w') :
    callT Tryz.prog 51 #[.string s, .func (.func 52) #[] #[]] (.one (.one (.int .i64))) K w := by
  refine F51_calls ?_
  unfold F51
  refine F89_calls ?_
  unfold F89
  refine join_r (fun _ w' => Ext w w' ∧ s.data.toList.all okByte = true) (srange_r us fun r w1 n1 e1 hr => ?_) fun _ w' ⟨e, h⟩ => hK _ w' e ⟨fun _ => h, fun _ => by decide⟩
  refine sloop_r (fun _ W => Ext w W ∧ ∃ pos, W.heap[r]? = some (.stringIter s pos) ∧ pos ≤ s.size ∧ ∀ j, j < pos → okByte (s.get! j) = true) (fun _ W => match W.heap[r]? with | some (.stringIter _ p) => s.size - p | _ => 0) ⟨e1, 0, n1, by omega, fun j hj => by omega⟩ ?_
  rintro _ W ⟨eW, pos, hp, hle, hok⟩
  refine snext_r hp (fun hge => sif_false ⟨eW, ?_⟩) fun hlt W1 n2 u2 => ?_
  · rw [List.all_eq_true]
    intro x hx
    obtain ⟨i, hi⟩ := List.mem_iff_getElem?.1 hx
    have hlt := (List.getElem?_eq_some_iff.1 hi).1
    have hlt : i < s.size := by simpa using hlt
    rw [get_at hlt] at hi
    cases hi
    exact hok i (by omega)
  have q2 : Ext w W1 := eW.step u2 fun k hk => by omega
  have hd : (Utf8.decode s pos).1 < 2 ^ 31 ∧ okI ((Utf8.decode s pos).1 : Int) = okByte (s.get! pos) ∧ (okByte (s.get! pos) = true → (Utf8.decode s pos).2 = 1) := by
    by_cases hb : (s.get! pos).toNat < 128
    · rw [decode_lt hb]
      refine ⟨by show (s.get! pos).toNat < 2 ^ 31; omega, ?_, fun _ => rfl⟩
      unfold okI okByte
      simp only [decide_eq_decide]
      omega
    · obtain ⟨h1, h2⟩ := decode_ge (s := s) (i := pos) (by omega)
      have hf : okByte (s.get! pos) = false := by unfold okByte; simp only [decide_eq_false_iff_not]; omega
      refine ⟨h2, ?_, fun h => by rw [hf] at h; cases h⟩
      rw [hf]
      unfold okI; simp only [decide_eq_false_iff_not]; omega
  refine sif_true (func_x (by kernel_rfl) (strange_call (by omega) (by have := hd.1; omega) fun W3 e3 => rdB_eqb i4_ok.und ?_))
  rw [hd.2.1]
  have q3 := q2.trans e3
  refine sif_r (fun h => ?_) fun h => ?_
  · have hf : okByte (s.get! pos) = false := by revert h; cases okByte (s.get! pos) <;> simp
    refine hK _ _ q3 ⟨fun h => by omega, fun h => ?_⟩
    rw [List.all_eq_true] at h
    have := h _ (List.mem_of_getElem? (get_at hlt))
    rw [hf] at this; cases this
  · have ht : okByte (s.get! pos) = true := by revert h; cases okByte (s.get! pos) <;> simp
    have n3 := e3.ext_get n2
    rw [hd.2.2 ht] at n3
    refine ⟨⟨q3, pos + 1, n3, by omega, fun j hj => ?_⟩, ?_⟩
    · by_cases hj' : j = pos
      · rw [hj']; exact ht
      · exact hok j (by omega)
    · simp only [n3, hp]; omega
theorem suffix_call {s : ByteArray} (hs : s.size < 2 ^ 62) {K : Bool → World → Prop} (hK : K (decide (s.data.back? = some 126)) w) : callT Tryz.prog 50 #[.string s, .string { data := #[126] }] (.one (.one .bool)) K w := by
  refine F50_calls ?_
  unfold F50
  refine F88_calls ?_
  unfold F88
  have e1 : ((ByteArray.size ({ data := #[126] } : ByteArray) : Nat) : Int) = 1 := rfl
  simp only [e1]
  refine sif_r (fun h => ?_) fun h => ?_
  · have h : 1 ≤ s.size := by simp at h; omega
    have ew : IntKind.wrap .i64 (((ByteArray.size s : Nat) : Int) - 1) = ((s.size - 1 : Nat) : Int) := by rw [wrap64 (by omega) (by omega)]; omega
    rw [ew]
    refine chk_r (by omega) ?_
    have : (ByteArray.toList (s.extract (Int.toNat ((s.size - 1 : Nat) : Int)) (Int.toNat ((s.size : Nat) : Int))) == ByteArray.toList ({ data := #[126] } : ByteArray)) = decide (s.data.back? = some 126) := by
      rw [bytes_eq, decide_eq_decide, Int.toNat_natCast, Int.toNat_natCast]
      have hl : s.data.size = s.size := rfl
      have hx : (s.extract (s.size - 1) s.size).data = #[s.data[s.size - 1]'(by omega)] := by
        rw [ByteArray.data_extract]
        refine Array.ext (by simp; omega) fun i h1 h2 => ?_
        have : i = 0 := by simpa using h2
        subst this
        simp
      have hb : s.data.back? = some (s.data[s.size - 1]'(by omega)) := by
        rw [Array.back?_eq_getElem?]
        exact Array.getElem?_eq_getElem (by omega)
      rw [hb]
      constructor
      · intro h
        rw [h] at hx
        simpa using hx.symm
      · intro h
        have h2 := Option.some.inj h
        cases hq : s.extract (s.size - 1) s.size
        rw [hq] at hx
        simp only at hx
        rw [hx, h2]
    rw [this]; exact hK
  · have h : s.size = 0 := by simp at h; omega
    have hb : decide (s.data.back? = some 126) = false := by
      have : s.data = #[] := Array.eq_empty_of_size_eq_zero h
      rw [this]; decide
    rw [hb] at hK
    exact hK
theorem name_call {n : Nm} (hs : n.size < 2 ^ 62) {K : Bool → World → Prop} (hK : ∀ w', Ext w w' → K (userName n) w') : callT Tryz.prog 15 #[.string n] (.one (.one .bool)) K w := by
  refine F15_calls ?_
  unfold F15
  refine join_at (decide (n.size = 0 ∨ 32 ≤ n.size ∨ n.data.back? = some 126), ()) ?_ ?_
  · refine sif_r (fun h => ⟨tupb ⟨fun _ => decide_eq_true (.inl ?_), fun _ => rfl⟩, rfl⟩) fun h => sif_r (fun h2 => ⟨tupb ⟨fun _ => decide_eq_true (.inr (.inl ?_)), fun _ => rfl⟩, rfl⟩) fun h2 => suffix_call hs ⟨tupb ?_, rfl⟩
    · have := eq_of_beq h; omega
    · have := of_decide_eq_true h2; omega
    have h : n.size ≠ 0 := by have := ne_of_beq_false h; omega
    have h2 : ¬ 32 ≤ n.size := by have := of_decide_eq_false h2; omega
    rw [decide_eq_true_eq, decide_eq_true_eq]
    exact ⟨fun hb => .inr (.inr hb), fun hb => (hb.resolve_left h).resolve_left h2⟩
  · refine sif_r (fun h => ?_) fun h => indexFunc_call hs fun r w' e hr => ?_
    · have h : n.size = 0 ∨ 32 ≤ n.size ∨ n.data.back? = some 126 := by simpa using h
      have : userName n = false := by
        unfold userName okName
        rcases h with h | h | h
        · simp [h]
        · have : ¬ n.size < 32 := by omega
          simp [this]
        · simp [h]
      have hk := hK w (Ext.refl w)
      rw [this] at hk; exact hk
    · have h : ¬ (n.size = 0 ∨ 32 ≤ n.size ∨ n.data.back? = some 126) := by simpa using h
      simp only [not_or] at h
      obtain ⟨h1, h2, h3⟩ := h
      have : userName n = decide (r < 0) := by
        have h4 : n.size < 32 := by omega
        have h5 : n.size ≤ 32 := by omega
        have h6 : decide (r < 0) = n.data.toList.all okByte := by
          rw [Bool.eq_iff_iff, decide_eq_true_eq]; exact hr
        rw [h6]
        unfold userName okName
        simp [h1, h3, h4, h5]
      have hk := hK w' e
      rw [this] at hk; exact hk
end
end Dq
end Go.Proofs.YtmooldhpiopcgaaGreatDoor
set_option linter.unusedSimpArgs false
set_option linter.unusedVariables false
set_option maxRecDepth 100000
namespace Go.Proofs.YtmooldhpiopcgaaGreatDoor
namespace Dq
open Go Go.Vx Dsk
section
variable {w w' : World} {S : Nat → Prop}
theorem callX_congr {P : Program} {s s' : Sem Next} {t : RTy} {K : t.T → World → Prop} (h : s.run P w = s'.run P w) (hX : callX P s' t K w) : callX P s t K w := by
  unfold callX at hX ⊢
  rw [h]; exact hX
noncomputable def extF (fn : Func) : Array Value → Sem Value := (Extern.find fn).getD fun _ => pure undef
theorem ext_x {f : FuncId} {fn : Func} (hf : Tryz.prog.funcs[f]? = some fn) (hc : ((fn.name == "runtime.NumGoroutine"), fn.body.isNone, (Extern.findNext fn).isNone, (Extern.find fn).isSome) = (false, true, true, true)) {args : Array Value} {t : RTy} {K : t.T → World → Prop} {x : t.T}
    (hr : (extF fn args).run Tryz.prog w = .ok (t.val x) w') (hK : K x w') : callX Tryz.prog (callFunc f args) t K w := by
  simp only [Prod.mk.injEq] at hc
  obtain ⟨h1, h2, h3, h4⟩ := hc
  obtain ⟨e, he⟩ := Option.isSome_iff_exists.1 h4
  refine .inr (.inl ⟨x, w', ?_, hK⟩)
  rw [run_callFunc_extern hf h1 h2 (by simpa using h3) he]
  unfold extF at hr
  rw [he] at hr
  simp only [Option.getD_some] at hr
  rw [hr]; rfl
theorem meth_x {P : Program} {t : TypeId} {v r : Value} {m : String} {f : FuncId} {args : Array Value} {rt : RTy} {K : rt.T → World → Prop} (hm : (Go.method (P.types.size + Made.depth) t v m).run P w = .ok (f, r) w) (h : callX P (callFunc f (#[r] ++ args)) rt K w) :
    callX P (invoke (.fn (.method m) #[]) (#[.iface t v] ++ args)) rt K w := by
  refine callX_congr ?_ h
  have e : invoke (.fn (.method m) #[]) (#[.iface t v] ++ args) = callMethod (.iface t v) m args := by
    have h0 : (#[Value.iface t v] ++ args)[0]? = some (.iface t v) := by simp [Array.getElem?_append]
    simp [invoke, h0]
  rw [e]
  simp only [callMethod, Sem.run_bind, program, Sem.run, Result.andThen_ok, hm]
abbrev hdl (t : Nat) : Value := .pointer (some ⟨2, t, none⟩)
abbrev rty (t : Nat) : Value := .iface 211 (.agg #[hdl t])
abbrev rval (t b : Nat) (k : Int) : Value := .agg #[hdl t, .pointer (some (at0 b)), .int .u64 k]
theorem m_kind (v : Value) (w : World) : (Go.method (Tryz.prog.types.size + Made.depth) 211 (.agg #[v]) "Kind").run Tryz.prog w = .ok (248, v) w := by kernel_rfl
theorem m_elem (v : Value) (w : World) : (Go.method (Tryz.prog.types.size + Made.depth) 211 v "Elem").run Tryz.prog w = .ok (263, v) w := by kernel_rfl
theorem m_impl (v : Value) (w : World) : (Go.method (Tryz.prog.types.size + Made.depth) 211 v "Implements").run Tryz.prog w = .ok (264, v) w := by kernel_rfl
theorem m_assign (v : Value) (w : World) : (Go.method (Tryz.prog.types.size + Made.depth) 211 v "AssignableTo").run Tryz.prog w = .ok (261, v) w := by kernel_rfl
theorem r_valueOf1 (v : Option Addr) (w : World) : (extF Tryz.f131 #[.iface 176 (.pointer v)]).run Tryz.prog w = .ok (rval 176 w.heap.size 150) (w.alloc (.cells #[.pointer v] 176)) := by kernel_rfl
theorem r_valueOf2 (v : Option Addr) (w : World) : (extF Tryz.f131 #[.iface 177 (.pointer v)]).run Tryz.prog w = .ok (rval 177 w.heap.size 150) (w.alloc (.cells #[.pointer v] 177)) := by kernel_rfl
theorem r_valueOf3 (v : Option Addr) (w : World) : (extF Tryz.f131 #[.iface 99 (.pointer v)]).run Tryz.prog w = .ok (rval 99 w.heap.size 150) (w.alloc (.cells #[.pointer v] 99)) := by kernel_rfl
theorem r_valueOf4 (v : Int) (w : World) : (extF Tryz.f131 #[.iface 33 (.int .i64 v)]).run Tryz.prog w = .ok (rval 33 w.heap.size 130) (w.alloc (.cells #[.int .i64 v] 33)) := by kernel_rfl
theorem r_type1 (b : Nat) (w : World) : (extF Tryz.f132 #[rval 176 b 150]).run Tryz.prog w = .ok (rty 176) w := by kernel_rfl
theorem r_type2 (b : Nat) (w : World) : (extF Tryz.f132 #[rval 177 b 150]).run Tryz.prog w = .ok (rty 177) w := by kernel_rfl
theorem r_kind1 (w : World) : (extF Tryz.f248 #[hdl 176]).run Tryz.prog w = .ok (.int .u8 22) w := by kernel_rfl
theorem r_kind2 (w : World) : (extF Tryz.f248 #[hdl 177]).run Tryz.prog w = .ok (.int .u8 22) w := by kernel_rfl
theorem r_kind3 (w : World) : (extF Tryz.f248 #[hdl 99]).run Tryz.prog w = .ok (.int .u8 22) w := by kernel_rfl
theorem r_kind4 (w : World) : (extF Tryz.f248 #[hdl 33]).run Tryz.prog w = .ok (.int .u8 2) w := by kernel_rfl
theorem r_elem1 (w : World) : (extF Tryz.f263 #[.agg #[hdl 176]]).run Tryz.prog w = .ok (rty 99) w := by kernel_rfl
theorem r_elem2 (w : World) : (extF Tryz.f263 #[.agg #[hdl 177]]).run Tryz.prog w = .ok (rty 33) w := by kernel_rfl
theorem r_impl1 (w : World) : (extF Tryz.f264 #[.agg #[hdl 99], rty 26]).run Tryz.prog w = .ok (.bool true) w := by kernel_rfl
theorem r_impl2 (w : World) : (extF Tryz.f264 #[.agg #[hdl 33], rty 26]).run Tryz.prog w = .ok (.bool true) w := by kernel_rfl
theorem r_typeOf1 (v : Value) (w : World) : (extF Tryz.f91 #[.iface 99 v]).run Tryz.prog w = .ok (rty 99) w := by kernel_rfl
theorem r_typeOf2 (v : Value) (w : World) : (extF Tryz.f91 #[.iface 33 v]).run Tryz.prog w = .ok (rty 33) w := by kernel_rfl
theorem r_assign1 (w : World) : (extF Tryz.f261 #[.agg #[hdl 99], rty 99]).run Tryz.prog w = .ok (.bool true) w := by kernel_rfl
theorem r_assign2 (w : World) : (extF Tryz.f261 #[.agg #[hdl 33], rty 33]).run Tryz.prog w = .ok (.bool true) w := by kernel_rfl
end
end Dq
end Go.Proofs.YtmooldhpiopcgaaGreatDoor
set_option linter.unusedSimpArgs false
set_option linter.unusedVariables false
set_option maxRecDepth 100000
namespace Go.Proofs.YtmooldhpiopcgaaGreatDoor
namespace Dq
open Go Go.Vx Dsk
section
variable {w w' : World} {S : Nat → Prop}
theorem run_loadVar {t : TypeId} {i : Inf} (hi : InfOk Tryz.prog t i) (hd : isAggD i.desc = false) {a : Addr} {v : Value} (h : w.cell? a = some v) : (loadVar t a).run Tryz.prog w = .ok v w := by
  simp [loadVar, hi.run_isAgg, hd, load, Sem.run, h]
theorem x_isNil1 (b : Nat) (w : World) : (extF Tryz.f133 #[rval 176 b 150]).run Tryz.prog w = (Extern.ReflectliteValue.isNil 176 (at0 b) 150 22).run Tryz.prog w := by kernel_rfl
theorem r_isNil1 {b : Nat} {q : Addr} (h : w.cell? (at0 b) = some (.pointer (some q))) : (extF Tryz.f133 #[rval 176 b 150]).run Tryz.prog w = .ok (.bool false) w := by
  rw [x_isNil1]
  simp [Extern.ReflectliteValue.isNil, run_loadVar i176_ok rfl h]
theorem x_elem1 (b : Nat) (w : World) : (extF Tryz.f163 #[rval 176 b 150]).run Tryz.prog w = (do match ← loadVar 176 (at0 b) with
  | .pointer none => pure Extern.ReflectliteValue.zeroV
  | .pointer (some p) => Extern.ReflectliteValue.mk 99 p 256
  | _ => Extern.ReflectliteValue.valueError "reflectlite.Value.Elem" 22 : Sem Value).run Tryz.prog w := by kernel_rfl
theorem x_isNil2 (b : Nat) (w : World) : (extF Tryz.f133 #[rval 177 b 150]).run Tryz.prog w = (Extern.ReflectliteValue.isNil 177 (at0 b) 150 22).run Tryz.prog w := by kernel_rfl
theorem r_isNil2 {b : Nat} {q : Addr} (h : w.cell? (at0 b) = some (.pointer (some q))) : (extF Tryz.f133 #[rval 177 b 150]).run Tryz.prog w = .ok (.bool false) w := by
  rw [x_isNil2]
  simp [Extern.ReflectliteValue.isNil, run_loadVar i177_ok rfl h]
theorem x_elem2 (b : Nat) (w : World) : (extF Tryz.f163 #[rval 177 b 150]).run Tryz.prog w = (do match ← loadVar 177 (at0 b) with
  | .pointer none => pure Extern.ReflectliteValue.zeroV
  | .pointer (some p) => Extern.ReflectliteValue.mk 33 p 256
  | _ => Extern.ReflectliteValue.valueError "reflectlite.Value.Elem" 22 : Sem Value).run Tryz.prog w := by kernel_rfl
theorem r_mk1 (q : Nat) (w : World) : (Extern.ReflectliteValue.mk 99 (at0 q) 256).run Tryz.prog w = .ok (rval 99 q 406) w := by kernel_rfl
theorem r_mk2 (q : Nat) (w : World) : (Extern.ReflectliteValue.mk 33 (at0 q) 256).run Tryz.prog w = .ok (rval 33 q 386) w := by kernel_rfl
theorem r_velem1 {b q : Nat} (h : w.cell? (at0 b) = some (.pointer (some (at0 q)))) : (extF Tryz.f163 #[rval 176 b 150]).run Tryz.prog w = .ok (rval 99 q 406) w := by
  rw [x_elem1]
  simp [run_loadVar i176_ok rfl h, r_mk1]
theorem r_velem2 {b q : Nat} (h : w.cell? (at0 b) = some (.pointer (some (at0 q)))) : (extF Tryz.f163 #[rval 177 b 150]).run Tryz.prog w = .ok (rval 33 q 386) w := by
  rw [x_elem2]
  simp [run_loadVar i177_ok rfl h, r_mk2]
theorem x_set1 (q b : Nat) (w : World) : (extF Tryz.f164 #[rval 99 q 406, rval 99 b 150]).run Tryz.prog w = (do let val ← loadVar 99 (at0 b); storeVar 99 (at0 q) val; pure (.tuple #[]) : Sem Value).run Tryz.prog w := by kernel_rfl
theorem x_set2 (q b : Nat) (w : World) : (extF Tryz.f164 #[rval 33 q 386, rval 33 b 130]).run Tryz.prog w = (do let val ← loadVar 33 (at0 b); storeVar 33 (at0 q) val; pure (.tuple #[]) : Sem Value).run Tryz.prog w := by kernel_rfl
theorem storeVar_one {t : TypeId} {i : Inf} (hi : InfOk Tryz.prog t i) (hs : i.size = 1) {q : Nat} {u v : Value} {tt : TypeId} (hq : w.heap[q]? = some (.cells #[u] tt (0, 0))) (hv : isOne v = true) (hc : v.cells = #[v]) :
    ∃ w1, (storeVar t (at0 q) v).run Tryz.prog w = .ok () w1 ∧ Upd (fun k => k = q) w w1 ∧ w1.heap[q]? = some (.cells #[v] tt (0, 0)) := by
  obtain ⟨w1, h1, h2, h3, _⟩ := run_storeRow Tryz.prog [v] q 0 0 #[u] tt w (fun x hx => by simp at hx; rw [hx]; exact hv) hq (by simp)
  refine ⟨w1, ?_, h2, h3⟩
  have hz : (sizeOf t).run Tryz.prog w = .ok 1 w := by rw [hi.run_size, hs]
  have h1' : (storeCells (at0 q) [v]).run Tryz.prog w = .ok () w1 := h1
  simp [storeVar, hz, hc, h1']
theorem r_set1 {q b : Nat} {p : Option Addr} {u : Value} {tt : TypeId} (h : w.cell? (at0 b) = some (.pointer p)) (hq : w.heap[q]? = some (.cells #[u] tt (0, 0))) :
    ∃ w1, (extF Tryz.f164 #[rval 99 q 406, rval 99 b 150]).run Tryz.prog w = .ok (.tuple #[]) w1 ∧ Upd (fun k => k = q) w w1 ∧ w1.heap[q]? = some (.cells #[.pointer p] tt (0, 0)) := by
  obtain ⟨w1, h1, h2, h3⟩ := storeVar_one i99_ok rfl hq (v := .pointer p) rfl rfl
  refine ⟨w1, ?_, h2, h3⟩
  rw [x_set1]
  simp [run_loadVar i99_ok rfl h, h1]
theorem r_set2 {q b : Nat} {e : Int} {u : Value} {tt : TypeId} (h : w.cell? (at0 b) = some (.int .i64 e)) (hq : w.heap[q]? = some (.cells #[u] tt (0, 0))) :
    ∃ w1, (extF Tryz.f164 #[rval 33 q 386, rval 33 b 130]).run Tryz.prog w = .ok (.tuple #[]) w1 ∧ Upd (fun k => k = q) w w1 ∧ w1.heap[q]? = some (.cells #[.int .i64 e] tt (0, 0)) := by
  obtain ⟨w1, h1, h2, h3⟩ := storeVar_one i33_ok rfl hq (v := .int .i64 e) rfl rfl
  refine ⟨w1, ?_, h2, h3⟩
  rw [x_set2]
  simp [run_loadVar i33_ok rfl h, h1]
def LaidE (w : World) : Prop := ∃ c t fr, w.heap[0]? = some (.cells c t fr) ∧ c[0]? = some (rty 26)
theorem LaidE.upd (h : LaidE w) (u : Upd S w w') (hS : ¬ S 0) : LaidE w' := let ⟨c, t, fr, h1, h2⟩ := h; ⟨c, t, fr, u.get h1 hS, h2⟩
theorem LaidE.ext (h : LaidE w) (u : Ext w w') : LaidE w' := h.upd u id
structure ErrV (w : World) (v : Value) (e : Int) : Prop where
  ok : e = 0 → v = .nilIface
  bad : e ≠ 0 → ∃ b op nm st, v = .iface 99 (.pointer (some (at0 b))) ∧ w.heap[b]? = some (.cells #[.string op, .string nm, .int .i64 st, .iface 33 (.int .i64 e)] 101 (0, 0))
theorem ErrIn.v {w0 : World} {F : Nat → Prop} {v : Value} {op nm : ByteArray} {e : Int} (h : ErrIn w0 w F v op nm e) : ErrV w v e :=
  ⟨h.ok, fun he => let ⟨b, k, h1, h2, _⟩ := h.bad he; ⟨b, op, nm, k, h1, h2⟩⟩
theorem ErrV.upd {v : Value} {e : Int} (h : ErrV w v e) (u : Upd S w w') (hS : NoTy w S 101) : ErrV w' v e :=
  ⟨h.ok, fun he => let ⟨b, op, nm, k, h1, h2⟩ := h.bad he; ⟨b, op, nm, k, h1, u.get h2 fun hb => hS _ hb _ _ h2⟩⟩
theorem ErrV.ext {v : Value} {e : Int} (h : ErrV w v e) (u : Ext w w') : ErrV w' v e := h.upd u fun _ h => h.elim
theorem ErrV.one {v : Value} {e : Int} (h : ErrV w v e) : isOne v = true := by
  by_cases he : e = 0
  · rw [h.ok he]; rfl
  · obtain ⟨b, op, nm, k, h1, _⟩ := h.bad he; rw [h1]; rfl
theorem ErrV.none (w : World) : ErrV w .nilIface 0 := ⟨fun _ => rfl, fun h => absurd rfl h⟩
theorem ErrV.eqnil {v : Value} {e : Int} (h : ErrV w v e) {o1 : Operand} {K : Bool → World → Prop} (hK : K (decide (e = 0)) w) : rdB Tryz.prog (do eqGuard .eql 26 o1 (.const .nilIface) v .nilIface; binOp .eql 26 v .nilIface : Sem Value) K w := by
  by_cases he : e = 0
  · rw [h.ok he]
    exact rdB_nil' (by rw [decide_eq_true he] at hK; exact hK) uE
  · obtain ⟨b, op, nm, k, h1, _⟩ := h.bad he
    rw [h1]
    exact rdB_nil (by rw [decide_eq_false he] at hK; exact hK) uE
theorem ErrV.nenil {v : Value} {e : Int} (h : ErrV w v e) {o1 : Operand} {K : Bool → World → Prop} (hK : K (decide (e ≠ 0)) w) : rdB Tryz.prog (do eqGuard .neq 26 o1 (.const .nilIface) v .nilIface; binOp .neq 26 v .nilIface : Sem Value) K w := by
  by_cases he : e = 0
  · rw [h.ok he]
    exact rdB_nnil' (by rw [decide_eq_false (by simp [he])] at hK; exact hK) uE
  · obtain ⟨b, op, nm, k, h1, _⟩ := h.bad he
    rw [h1]
    exact rdB_nnil (by rw [decide_eq_true he] at hK; exact hK) uE
theorem equalIn_nil2 {t : TypeId} {ms : Array (String × TypeId)} (hi : Tryz.prog.underlying t = some (.interface ms)) (n : Nat) (d : TypeId) (v : Value) (w : World) : (Op.equalIn (n + 1) t .nilIface (.iface d v)).run Tryz.prog w = .ok false w := by
  simp [Op.equalIn, run_underlying hi]
theorem isv_call {v : Value} {e k : Int} (h : ErrV w v e) (hk : k ≠ 0) {K : Bool → World → Prop} (hK : K (decide (e = k)) w) : callT Tryz.prog 53 #[v, .iface 33 (.int .i64 k)] (.one (.one .bool)) K w := by
  by_cases he : e = 0
  · rw [h.ok he]
    refine F53_calls ?_
    unfold F53
    refine join_at (true, ()) (rdB_nil' (sif_true ⟨rfl, rfl⟩) uE) (sif_true ⟨false, ?_, ?_⟩)
    · obtain ⟨ms, hi⟩ := uE
      have := equalIn_nil2 hi 9999 33 (.int .i64 k) w
      simp [eqGuard, binOp, Op.equal, Op.maxDepth, this]
    · have : decide (e = k) = false := decide_eq_false (by omega)
      rw [this] at hK
      exact hK
  · obtain ⟨b, op, nm, st, rfl, hb⟩ := h.bad he
    exact is_call hb hK
end
end Dq
end Go.Proofs.YtmooldhpiopcgaaGreatDoor
set_option linter.unusedSimpArgs false
set_option linter.unusedVariables false
set_option maxRecDepth 100000
namespace Go.Proofs.YtmooldhpiopcgaaGreatDoor
namespace Dq
open Go Go.Vx Dsk
section
variable {w w' : World} {S : Nat → Prop}
theorem uI0 : ∃ ms, Tryz.prog.underlying 20 = some (.interface ms) := ⟨_, i20_ok.und⟩
theorem as1_call {q : Nat} {tt : TypeId} {u : Value} {p : Option Addr} (hl : LaidE w) (hq : w.heap[q]? = some (.cells #[u] tt (0, 0))) {K : Bool → World → Prop}
    (hK : ∀ w', w'.heap[q]? = some (.cells #[.pointer p] tt (0, 0)) → Upd (fun k => k = q) w w' → K true w') :
    callT Tryz.prog 93 #[.iface 99 (.pointer p), .iface 176 (.pointer (some (at0 q)))] (.one (.one .bool)) K w := by
  refine F93_calls ?_
  unfold F93
  refine rdB_nil (sif_false ?_) uE
  refine join_at () (rdB_nil (sif_false ⟨rfl, rfl⟩) uI0) ?_
  refine ext_x (x := (some ⟨2, 176, none⟩, .pointer (some (at0 w.heap.size)), 150, ())) Tryz.func131 (by kernel_rfl) (r_valueOf1 _ _) ?_
  have e1 : Ext w (w.alloc (.cells #[.pointer (some (at0 q))] 176)) := Ext.alloc w _
  have n1 := heap_alloc w (.cells #[.pointer (some (at0 q))] 176)
  obtain ⟨nb, hnb⟩ : ∃ nb, nb = w.heap.size := ⟨_, rfl⟩
  rw [← hnb] at n1 ⊢
  generalize w.alloc (.cells #[.pointer (some (at0 q))] 176) = w1 at e1 n1
  refine (St.start w1).newAgg rfl rfl rfl fun b6 w2 S2 e2 => S2.lds (cs := c223) 0 (some ⟨2, 176, none⟩, .pointer (some (at0 nb)), 150, ()) rfl ?_
  have n2 := e2.ext_get n1
  have e12 := e1.trans e2
  refine ext_x (x := rty 176) Tryz.func132 (by kernel_rfl) (r_type1 _ _) ?_
  refine join_at () (join_at (false, ()) (meth_x (m_kind _ _) (ext_x (x := (22 : Int)) Tryz.func248 (by kernel_rfl) (r_kind1 _) (sif_r (fun h => absurd h (by decide)) fun _ => S2.lds (cs := c223) 0 (some ⟨2, 176, none⟩, .pointer (some (at0 nb)), 150, ()) rfl (ext_x (x := false) Tryz.func133 (by kernel_rfl) (r_isNil1 (cell_of n2 rfl)) ⟨rfl, rfl⟩)))) (sif_false ⟨rfl, rfl⟩)) ?_
  refine meth_x (m_elem _ _) (ext_x (x := rty 99) Tryz.func263 (by kernel_rfl) (r_elem1 _) ?_)
  obtain ⟨c0, t0, fr0, h0, h0'⟩ := hl.ext e12
  refine join_at () (join_at (false, ()) (meth_x (m_kind _ _) (ext_x (x := (22 : Int)) Tryz.func248 (by kernel_rfl) (r_kind3 _) (sif_true (ld_r h0 (x := rty 26) h0' (meth_x (m_impl _ _) (ext_x (x := true) Tryz.func264 (by kernel_rfl) (r_impl1 _) ⟨rfl, rfl⟩)))))) (sif_false ⟨rfl, rfl⟩)) ?_
  refine S2.lds (cs := c223) 0 (some ⟨2, 176, none⟩, .pointer (some (at0 nb)), 150, ()) rfl ?_
  refine F134_calls (a2 := (some ⟨2, 176, none⟩, .pointer (some (at0 nb)), 150, ())) ?_
  unfold F134
  refine S2.newO fun b7 w3 S3 e3 => sloop_r (fun s W => s = (.iface 99 (.pointer p), ()) ∧ w3 = W) (fun _ _ => 0) ⟨rfl, rfl⟩ ?_
  rintro _ _ ⟨rfl, rfl⟩
  refine ext_x (x := rty 99) Tryz.func91 (by kernel_rfl) (r_typeOf1 _ _) (meth_x (m_assign _ _) (ext_x (x := true) Tryz.func261 (by kernel_rfl) (r_assign1 _) (sif_true ?_)))
  have n3 := e3.ext_get n2
  refine S3.lds (cs := c223) 0 (some ⟨2, 176, none⟩, .pointer (some (at0 nb)), 150, ()) rfl (ext_x (x := (some ⟨2, 99, none⟩, .pointer (some (at0 q)), 406, ())) Tryz.func163 (by kernel_rfl) (r_velem1 (cell_of n3 rfl)) ?_)
  refine ext_x (x := (some ⟨2, 99, none⟩, .pointer (some (at0 w3.heap.size)), 150, ())) Tryz.func131 (by kernel_rfl) (r_valueOf3 _ _) ?_
  have e4 : Ext w3 (w3.alloc (.cells #[.pointer p] 99)) := Ext.alloc w3 _
  have n4 := heap_alloc w3 (.cells #[.pointer p] 99)
  obtain ⟨w5, h5, u5, n5⟩ := r_set1 (cell_of (off := 0) n4 rfl) (e4.ext_get (e3.ext_get (e12.ext_get hq)))
  refine ext_x (t := .tup []) (x := ()) Tryz.func164 (by kernel_rfl) h5 (hK w5 n5 ((Upd.of_ext ((e12.trans e3).trans e4)).new u5 fun _ _ h => h))
theorem as2_call {q : Nat} {tt : TypeId} {u : Value} {e : Int} (hl : LaidE w) (hq : w.heap[q]? = some (.cells #[u] tt (0, 0))) {K : Bool → World → Prop}
    (hK : ∀ w', w'.heap[q]? = some (.cells #[.int .i64 e] tt (0, 0)) → Upd (fun k => k = q) w w' → K true w') :
    callT Tryz.prog 93 #[.iface 33 (.int .i64 e), .iface 177 (.pointer (some (at0 q)))] (.one (.one .bool)) K w := by
  refine F93_calls ?_
  unfold F93
  refine rdB_nil (sif_false ?_) uE
  refine join_at () (rdB_nil (sif_false ⟨rfl, rfl⟩) uI0) ?_
  refine ext_x (x := (some ⟨2, 177, none⟩, .pointer (some (at0 w.heap.size)), 150, ())) Tryz.func131 (by kernel_rfl) (r_valueOf2 _ _) ?_
  have e1 : Ext w (w.alloc (.cells #[.pointer (some (at0 q))] 177)) := Ext.alloc w _
  have n1 := heap_alloc w (.cells #[.pointer (some (at0 q))] 177)
  obtain ⟨nb, hnb⟩ : ∃ nb, nb = w.heap.size := ⟨_, rfl⟩
  rw [← hnb] at n1 ⊢
  generalize w.alloc (.cells #[.pointer (some (at0 q))] 177) = w1 at e1 n1
  refine (St.start w1).newAgg rfl rfl rfl fun b6 w2 S2 e2 => S2.lds (cs := c223) 0 (some ⟨2, 177, none⟩, .pointer (some (at0 nb)), 150, ()) rfl ?_
  have n2 := e2.ext_get n1
  have e12 := e1.trans e2
  refine ext_x (x := rty 177) Tryz.func132 (by kernel_rfl) (r_type2 _ _) ?_
  refine join_at () (join_at (false, ()) (meth_x (m_kind _ _) (ext_x (x := (22 : Int)) Tryz.func248 (by kernel_rfl) (r_kind2 _) (sif_r (fun h => absurd h (by decide)) fun _ => S2.lds (cs := c223) 0 (some ⟨2, 177, none⟩, .pointer (some (at0 nb)), 150, ()) rfl (ext_x (x := false) Tryz.func133 (by kernel_rfl) (r_isNil2 (cell_of n2 rfl)) ⟨rfl, rfl⟩)))) (sif_false ⟨rfl, rfl⟩)) ?_
  refine meth_x (m_elem _ _) (ext_x (x := rty 33) Tryz.func263 (by kernel_rfl) (r_elem2 _) ?_)
  obtain ⟨c0, t0, fr0, h0, h0'⟩ := hl.ext e12
  refine join_at () (join_at (false, ()) (meth_x (m_kind _ _) (ext_x (x := (2 : Int)) Tryz.func248 (by kernel_rfl) (r_kind4 _) (sif_true (ld_r h0 (x := rty 26) h0' (meth_x (m_impl _ _) (ext_x (x := true) Tryz.func264 (by kernel_rfl) (r_impl2 _) ⟨rfl, rfl⟩)))))) (sif_false ⟨rfl, rfl⟩)) ?_
  refine S2.lds (cs := c223) 0 (some ⟨2, 177, none⟩, .pointer (some (at0 nb)), 150, ()) rfl ?_
  refine F134_calls (a2 := (some ⟨2, 177, none⟩, .pointer (some (at0 nb)), 150, ())) ?_
  unfold F134
  refine S2.newO fun b7 w3 S3 e3 => sloop_r (fun s W => s = (.iface 33 (.int .i64 e), ()) ∧ w3 = W) (fun _ _ => 0) ⟨rfl, rfl⟩ ?_
  rintro _ _ ⟨rfl, rfl⟩
  refine ext_x (x := rty 33) Tryz.func91 (by kernel_rfl) (r_typeOf2 _ _) (meth_x (m_assign _ _) (ext_x (x := true) Tryz.func261 (by kernel_rfl) (r_assign2 _) (sif_true ?_)))
  have n3 := e3.ext_get n2
  refine S3.lds (cs := c223) 0 (some ⟨2, 177, none⟩, .pointer (some (at0 nb)), 150, ()) rfl (ext_x (x := (some ⟨2, 33, none⟩, .pointer (some (at0 q)), 386, ())) Tryz.func163 (by kernel_rfl) (r_velem2 (cell_of n3 rfl)) ?_)
  refine ext_x (x := (some ⟨2, 33, none⟩, .pointer (some (at0 w3.heap.size)), 130, ())) Tryz.func131 (by kernel_rfl) (r_valueOf4 _ _) ?_
  have e4 : Ext w3 (w3.alloc (.cells #[.int .i64 e] 33)) := Ext.alloc w3 _
  have n4 := heap_alloc w3 (.cells #[.int .i64 e] 33)
  obtain ⟨w5, h5, u5, n5⟩ := r_set2 (cell_of (off := 0) n4 rfl) (e4.ext_get (e3.ext_get (e12.ext_get hq)))
  refine ext_x (t := .tup []) (x := ()) Tryz.func164 (by kernel_rfl) h5 (hK w5 n5 ((Upd.of_ext ((e12.trans e3).trans e4)).new u5 fun _ _ h => h))
theorem number_call {v : Value} {e : Int} (h : ErrV w v e) (hl : LaidE w) {K : Int → World → Prop} (hK : ∀ w', Ext w w' → K e w') : callT Tryz.prog 54 #[v] (.one (.one (.int .i64))) K w := by
  refine F54_calls ?_
  unfold F54
  refine (St.start w).newO fun b1 w1 S1 e1 => S1.newO fun b2 w2 S2 e2 => ?_
  have e12 := e1.trans e2
  refine (h.ext e12).eqnil (sif_r (fun he => ?_) fun he => ?_)
  · have he := of_decide_eq_true he
    have hk := hK w2 e12
    rw [he] at hk; exact hk
  have he := of_decide_eq_false he
  obtain ⟨b, op, nm, st, rfl, hb⟩ := (h.ext e12).bad he
  have g1 := S2.ge 1 rfl
  have g2 := S2.ge 0 rfl
  have hbl := lt_of_heap ((h.bad he).choose_spec.choose_spec.choose_spec.choose_spec.2)
  refine join_r (fun s W => s = (true, ()) ∧ Ext w W ∧ W.heap[b2]? = some (.cells #[.int .i64 e] 33 (0, 0))) (as1_call (hl.ext e12) (S2.at_ 1 rfl) fun w3 n3 u3 => sif_true (ld_r n3 (x := some (at0 b)) rfl (nn_some ?_))) ?_
  · have q3 : Ext w w3 := e12.step u3 fun k hk => by omega
    have nd : [b2, b1].Nodup := S2.nd
    simp only [List.nodup_cons, List.mem_singleton, List.not_mem_nil] at nd
    have hb3 : w3.heap[b]? = some (.cells #[.string op, .string nm, .int .i64 st, .iface 33 (.int .i64 e)] 101 (0, 0)) := u3.get hb fun hh => by rw [hh, S2.at_ 1 rfl] at hb; cases hb
    rw [addr_add]
    refine ld_r hb3 (off := 3) (x := .iface 33 (.int .i64 e)) rfl (as2_call (hl.ext q3) (u3.get (S2.at_ 0 rfl) fun hh => nd.1 hh) fun w4 n4 u4 => ⟨rfl, q3.step u4 fun k hk => by omega, n4⟩)
  · rintro _ w4 ⟨rfl, q4, n4⟩
    exact sif_true (ld_r n4 (x := e) rfl (hK w4 q4))
end
end Dq
end Go.Proofs.YtmooldhpiopcgaaGreatDoor
set_option linter.unusedSimpArgs false
set_option linter.unusedVariables false
namespace Go.Proofs.YtmooldhpiopcgaaGreatDoor
namespace Dq
open Go Go.Vx Dsk
structure DOp where
  kind : Int
  who : Int
  name : Nm
  to : Nm
  b : List UInt8
  faults : List (Int × Fault)
  names : Int
  bytes : List Int
section
variable {D : Dk} {N : Nat} {α : Type}
theorem ok_step {a : α} {act : Dk → Dk × Int × α} {part : Option (Int → Dk → Dk × Int × α)} (ok : DkOk D N) (ha : ∀ D1, DkOk D1 (N + 1) → DkOk (act D1).1 (N + 2)) (hp : ∀ pt, part = some pt → ∀ D1 k, DkOk D1 (N + 1) → DkOk (pt k D1).1 (N + 2)) :
    DkOk (Dsk.step D a act part).1 (N + 2) := by
  have ok1 : DkOk { D with steps := D.steps + 1 } (N + 1) := by
    have := ok.steps
    exact ⟨ok.space, fun i f hf => let ⟨a, b, c, e⟩ := ok.fil i f hf; ⟨a, b, c, by omega⟩, Nat.le_trans ok.num (Nat.le_succ _), ok.good, ⟨by dsimp only; omega, by dsimp only; omega⟩, Nat.le_trans ok.acts (Nat.le_succ _)⟩
  have ok2 : DkOk { D with steps := D.steps + 1 } (N + 2) := ok1.mono (Nat.le_succ _)
  unfold Dsk.step
  split
  · exact ok.mono (by omega)
  · split
    · exact ha _ ok1
    · rename_i f hf
      unfold faulty
      split
      · exact ok2
      split
      · cases part with
        | none => exact ok2
        | some pt => exact hp pt rfl _ _ ok1
      split
      · exact ok_crash ok2 _ _
      split
      · exact ok_crash (ha _ ok1) _ _
      split
      · exact ha _ ok1
      · exact ha _ ok1
theorem ok_u {f : Dk → Dk × Int} (ok : DkOk D N) (h : ∀ D1, DkOk D1 (N + 1) → DkOk (f D1).1 (N + 2)) : DkOk (Dsk.step D () (u f) none).1 (N + 2) := ok_step ok h fun _ h => by cases h
theorem ok_callAppend (ok : DkOk D N) (n : Nm) (b : List UInt8) : DkOk (callAppend D n b).1 (N + 2) := by
  refine ok_step ok (fun D1 ok1 => ok_ap ok1 n b) fun pt hpt D1 k ok1 => ?_
  cases hpt
  exact ok_ap ok1 n _
theorem rd_fst (D : Dk) (n : Nm) : (rdR n D).1 = D := by unfold rdR; split <;> rfl
theorem st_fst (D : Dk) (n : Nm) : (stR n D).1 = D := by unfold stR; split <;> rfl
theorem ok_callRead (ok : DkOk D N) (n : Nm) : DkOk (callRead D n).1 (N + 2) :=
  ok_step ok (fun D1 ok1 => by rw [rd_fst]; exact ok1.mono (Nat.le_succ _)) fun _ h => by cases h
theorem ok_callStamp (ok : DkOk D N) (n : Nm) : DkOk (callStamp D n).1 (N + 2) :=
  ok_step ok (fun D1 ok1 => by rw [st_fst]; exact ok1.mono (Nat.le_succ _)) fun _ h => by cases h
theorem ok_callMake (ok : DkOk D N) (n : Nm) : DkOk (callMake D n).1 (N + 2) := ok_u ok fun D1 ok1 => ok_mk ok1 n
theorem ok_callSync (ok : DkOk D N) (n : Nm) : DkOk (callSync D n).1 (N + 2) := ok_u ok fun D1 ok1 => ok_sy ok1 n
theorem ok_callSyncDir (ok : DkOk D N) : DkOk (callSyncDir D).1 (N + 2) := ok_u ok fun D1 ok1 => (ok_settle ok1).mono (Nat.le_succ _)
theorem ok_callRename (ok : DkOk D N) (n t : Nm) : DkOk (callRename D n t).1 (N + 2) := ok_u ok fun D1 ok1 => ok_mv ok1 n t
theorem ok_callRemove (ok : DkOk D N) (n : Nm) : DkOk (callRemove D n).1 (N + 2) := ok_u ok fun D1 ok1 => ok_rm ok1 n
structure Quiet (D : Dk) : Prop where
  up : D.down = false
  plan : ∀ k, D.plan k = none
theorem step_quiet (q : Quiet D) {a : α} {act : Dk → Dk × Int × α} {part : Option (Int → Dk → Dk × Int × α)} : Dsk.step D a act part = act { D with steps := D.steps + 1 } := by
  unfold Dsk.step
  rw [if_neg (by rw [q.up]; simp), q.plan]
theorem find_steps (D : Dk) (k : Int) (n : Nm) : Dsk.find { D with steps := k } n = Dsk.find D n := rfl
theorem read_quiet (q : Quiet D) {n : Nm} {i : Nat} (hn : okName n = true) (h : D.seen n = some i) : callRead D n = ({ D with steps := D.steps + 1 }, 0, (fl D i).data) := by
  unfold callRead
  rw [step_quiet q]
  unfold rdR
  have : Dsk.find { D with steps := D.steps + 1 } n = (some i, 0) := by rw [find_steps]; unfold Dsk.find; rw [if_neg (by rw [hn]; simp), h]
  rw [this]
  rfl
theorem stamp_quiet (q : Quiet D) {n : Nm} {i : Nat} (hn : okName n = true) (h : D.seen n = some i) : callStamp D n = ({ D with steps := D.steps + 1 }, 0, (i : Int) + 1, ((fl D i).data.length : Int), (fl D i).count) := by
  unfold callStamp
  rw [step_quiet q]
  unfold stR
  have : Dsk.find { D with steps := D.steps + 1 } n = (some i, 0) := by rw [find_steps]; unfold Dsk.find; rw [if_neg (by rw [hn]; simp), h]
  rw [this]
  rfl
end
end Dq
end Go.Proofs.YtmooldhpiopcgaaGreatDoor
set_option linter.unusedSimpArgs false
set_option linter.unusedVariables false
namespace Go.Proofs.YtmooldhpiopcgaaGreatDoor
open Go Go.Vx
namespace Trx
structure Sums where
  atoms : Nat
  bytes : Nat
  breaks : Nat
  lf : Bool
  cr : Bool
  deriving DecidableEq
structure Sums.Ok (s : Sums) : Prop where
  brk : s.breaks ≤ s.atoms
  byt : s.atoms ≤ s.bytes
  lf : s.lf = true → 1 ≤ s.breaks
  cr : s.cr = true → 1 ≤ s.breaks
  nil : s.atoms = 0 → s = ⟨0, 0, 0, false, false⟩
def Sums.zero : Sums := ⟨0, 0, 0, false, false⟩
def Sums.add (s o : Sums) : Sums :=
  if s.atoms = 0 then o else if o.atoms = 0 then s else
    ⟨s.atoms + o.atoms, s.bytes + o.bytes, s.breaks + o.breaks - (if s.cr && o.lf then 1 else 0), s.lf, o.cr⟩
theorem Sums.zero_ok : Sums.zero.Ok := ⟨Nat.le_refl _, Nat.le_refl _, (fun h => by cases h), (fun h => by cases h), fun _ => rfl⟩
theorem Sums.add_zero {s : Sums} (h : s.Ok) : s.add .zero = s := by
  unfold Sums.add Sums.zero
  split
  · rename_i h0; rw [h.nil h0]
  · rfl
theorem Sums.add_ok {s o : Sums} (h : s.Ok) (h' : o.Ok) : (s.add o).Ok := by
  unfold Sums.add
  split
  · exact h'
  · split
    · exact h
    · have := h.brk; have := h.byt; have := h'.brk; have := h'.byt
      have h1 := h.lf; have h2 := h'.cr; have h3 := h.cr; have h4 := h'.lf
      refine ⟨?_, ?_, ?_, ?_, ?_⟩
      · show s.breaks + o.breaks - _ ≤ s.atoms + o.atoms
        omega
      · show s.atoms + o.atoms ≤ s.bytes + o.bytes
        omega
      · show s.lf = true → 1 ≤ s.breaks + o.breaks - _
        intro e
        have := h1 e
        split
        · rename_i hc
          simp only [Bool.and_eq_true] at hc
          have := h4 hc.2
          omega
        · omega
      · show o.cr = true → 1 ≤ s.breaks + o.breaks - _
        intro e
        have := h2 e
        split
        · rename_i hc
          simp only [Bool.and_eq_true] at hc
          have := h3 hc.1
          omega
        · omega
      · intro e
        have : s.atoms + o.atoms = 0 := e
        omega
theorem Sums.add_assoc {a b c : Sums} (ha : a.Ok) (hb : b.Ok) (hc : c.Ok) : (a.add b).add c = a.add (b.add c) := by
  by_cases h1 : a.atoms = 0
  · have := ha.nil h1; subst this; rfl
  by_cases h2 : b.atoms = 0
  · have := hb.nil h2; subst this
    have e := Sums.add_zero ha
    unfold Sums.zero at e
    rw [e]; rfl
  by_cases h3 : c.atoms = 0
  · have := hc.nil h3; subst this
    have e := Sums.add_zero (Sums.add_ok ha hb)
    have e' := Sums.add_zero hb
    unfold Sums.zero at e e'
    rw [e, e']
  have h12 : ¬ a.atoms + b.atoms = 0 := by omega
  have h23 : ¬ b.atoms + c.atoms = 0 := by omega
  simp only [Sums.add, if_neg h1, if_neg h2, if_neg h3, if_neg h12, if_neg h23]
  have a1 : (if a.cr = true then 1 else 0) ≤ a.breaks := by split; exact ha.cr ‹_›; omega
  have b1 : (if b.lf = true then 1 else 0) ≤ b.breaks := by split; exact hb.lf ‹_›; omega
  have b2 : (if b.cr = true then 1 else 0) ≤ b.breaks := by split; exact hb.cr ‹_›; omega
  have c1 : (if c.lf = true then 1 else 0) ≤ c.breaks := by split; exact hc.lf ‹_›; omega
  refine (Sums.mk.injEq ..).mpr ⟨by omega, by omega, ?_, rfl, rfl⟩
  cases h5 : a.cr <;> cases h6 : b.lf <;> cases h7 : b.cr <;> cases h8 : c.lf <;> simp only [h5, h6, h7, h8, Bool.and_true, Bool.and_false, Bool.and_self, if_true, if_false, Bool.false_eq_true, reduceIte] at a1 b1 b2 c1 ⊢ <;> omega
theorem Sums.add_bytes (s o : Sums) (h : s.Ok) (h' : o.Ok) : (s.add o).bytes = s.bytes + o.bytes ∧ (s.add o).atoms = s.atoms + o.atoms := by
  unfold Sums.add
  split
  · rename_i h0; rw [h.nil h0]; simp
  · split
    · rename_i h0; rw [h'.nil h0]; simp
    · exact ⟨rfl, rfl⟩
structure Pc where
  bytes : Sl
  tag : Int
  sm : Sums
inductive Tr where
  | nil
  | node (b : Nat) (l : Tr) (x : Pc) (r : Tr)
def Tr.ptr : Tr → Option Addr
  | .nil => none
  | .node b _ _ _ => some (at0 b)
def Tr.size : Tr → Nat
  | .nil => 0
  | .node _ l _ r => l.size + 1 + r.size
def Tr.tall : Tr → Nat
  | .nil => 0
  | .node _ l _ r => max l.tall r.tall + 1
def Tr.items : Tr → List Pc
  | .nil => []
  | .node _ l x r => l.items ++ x :: r.items
def tot (l : List Pc) : Sums := l.foldr (fun x s => x.sm.add s) .zero
def AllOk (l : List Pc) : Prop := ∀ x ∈ l, x.sm.Ok
theorem tot_ok : ∀ {l : List Pc}, AllOk l → (tot l).Ok
  | [], _ => Sums.zero_ok
  | x :: r, h => Sums.add_ok (h x List.mem_cons_self) (tot_ok fun y hy => h y (List.mem_cons_of_mem _ hy))
theorem tot_append : ∀ {l m : List Pc}, AllOk l → AllOk m → tot (l ++ m) = (tot l).add (tot m)
  | [], m, _, _ => rfl
  | x :: r, m, h, h' => by
    have hr : AllOk r := fun y hy => h y (List.mem_cons_of_mem _ hy)
    show x.sm.add (tot (r ++ m)) = (x.sm.add (tot r)).add (tot m)
    rw [tot_append hr h', Sums.add_assoc (h x List.mem_cons_self) (tot_ok hr) (tot_ok h')]
theorem tot_one {x : Pc} (h : x.sm.Ok) : tot [x] = x.sm := Sums.add_zero h
theorem size_items : ∀ t : Tr, t.items.length = t.size
  | .nil => rfl
  | .node _ l x r => by
    simp only [Tr.items, Tr.size, List.length_append, List.length_cons, size_items l, size_items r]; omega
theorem tall_le : ∀ t : Tr, t.tall ≤ t.size
  | .nil => Nat.le_refl _
  | .node _ l x r => by
    have := tall_le l; have := tall_le r
    simp only [Tr.tall, Tr.size]; omega
theorem AllOk.left {l m : List Pc} (h : AllOk (l ++ m)) : AllOk l := fun x hx => h x (List.mem_append_left _ hx)
theorem AllOk.right {l m : List Pc} (h : AllOk (l ++ m)) : AllOk m := fun x hx => h x (List.mem_append_right _ hx)
theorem AllOk.append {l m : List Pc} (h : AllOk l) (h' : AllOk m) : AllOk (l ++ m) := fun x hx => (List.mem_append.1 hx).elim (h x) (h' x)
theorem AllOk.cons {x : Pc} {m : List Pc} (h : x.sm.Ok) (h' : AllOk m) : AllOk (x :: m) := fun y hy => (List.mem_cons.1 hy).elim (fun e => e ▸ h) (h' y)
theorem AllOk.one {x : Pc} (h : x.sm.Ok) : AllOk [x] := fun y hy => by rw [List.mem_singleton.1 hy]; exact h
theorem AllOk.head {x : Pc} {m : List Pc} (h : AllOk (x :: m)) : x.sm.Ok := h x List.mem_cons_self
theorem AllOk.tail {x : Pc} {m : List Pc} (h : AllOk (x :: m)) : AllOk m := fun y hy => h y (List.mem_cons_of_mem _ hy)
end Trx
end Go.Proofs.YtmooldhpiopcgaaGreatDoor
set_option linter.unusedSimpArgs false
set_option linter.unusedVariables false
namespace Go.Proofs.YtmooldhpiopcgaaGreatDoor
open Cdc Trx
namespace Trx
def one1 (a : Int) (n : Nat) : Sums := ⟨1, n, if a = 10 ∨ a = 13 then 1 else 0, a == 10, a == 13⟩
theorem one1_ok (a : Int) {n : Nat} (h : 1 ≤ n) : (one1 a n).Ok := by
  refine ⟨?_, h, ?_, ?_, ?_⟩
  · show (if a = 10 ∨ a = 13 then 1 else 0) ≤ 1
    split <;> omega
  · intro e
    have : a = 10 := by simpa [one1] using e
    show 1 ≤ if a = 10 ∨ a = 13 then 1 else 0
    rw [if_pos (.inl this)]; omega
  · intro e
    have : a = 13 := by simpa [one1] using e
    show 1 ≤ if a = 10 ∨ a = 13 then 1 else 0
    rw [if_pos (.inr this)]; omega
  · intro e; exact absurd e (by show ¬ 1 = 0; omega)
abbrev As := List (Int × Nat)
def Posd (l : As) : Prop := ∀ x ∈ l, 1 ≤ x.2
theorem Posd.tail {x : Int × Nat} {l : As} (h : Posd (x :: l)) : Posd l := fun y hy => h y (List.mem_cons_of_mem _ hy)
theorem Posd.take {l : As} (h : Posd l) (n : Nat) : Posd (l.take n) := fun y hy => h y (List.mem_of_mem_take hy)
theorem Posd.drop {l : As} (h : Posd l) (n : Nat) : Posd (l.drop n) := fun y hy => h y (List.mem_of_mem_drop hy)
theorem ats_posd (e : Enc) (l : Bs) : Posd (ats e l) := fun x hx => (ats_pos e _ l (Nat.le_refl _) x hx).1
def msr : As → Sums
  | [] => .zero
  | x :: r => (one1 x.1 x.2).add (msr r)
theorem msr_ok : ∀ {l : As}, Posd l → (msr l).Ok
  | [], _ => Sums.zero_ok
  | x :: r, h => Sums.add_ok (one1_ok _ (h x List.mem_cons_self)) (msr_ok h.tail)
theorem msr_append : ∀ {l m : As}, Posd l → Posd m → msr (l ++ m) = (msr l).add (msr m)
  | [], m, _, _ => rfl
  | x :: r, m, h, h' => by
    show (one1 x.1 x.2).add (msr (r ++ m)) = ((one1 x.1 x.2).add (msr r)).add (msr m)
    rw [msr_append h.tail h', Sums.add_assoc (one1_ok _ (h x List.mem_cons_self)) (msr_ok h.tail) (msr_ok h')]
theorem msr_one (a : Int) {n : Nat} (h : 1 ≤ n) : msr [(a, n)] = one1 a n := Sums.add_zero (one1_ok a h)
theorem msr_bytes : ∀ {l : As}, Posd l → (msr l).bytes = szs l
  | [], _ => rfl
  | x :: r, h => by
    have := (Sums.add_bytes _ _ (one1_ok x.1 (h x List.mem_cons_self)) (msr_ok h.tail)).1
    show ((one1 x.1 x.2).add (msr r)).bytes = _
    rw [this, msr_bytes h.tail, szs_cons]; rfl
theorem pos_step {e : Enc} {l : Bs} {j : Nat} (h : szs ((ats e l).take j) < l.length) : ∃ a n, (ats e l)[j]? = some (a, n) ∧ nx e (l.drop (szs ((ats e l).take j))) = (a, n) ∧ (ats e l).take (j + 1) = (ats e l).take j ++ [(a, n)] ∧ szs ((ats e l).take (j + 1)) = szs ((ats e l).take j) + n ∧ 1 ≤ n ∧
    szs ((ats e l).take (j + 1)) ≤ l.length := by
  have hc := (ats_cut e j l).2
  have hne : l.drop (szs ((ats e l).take j)) ≠ [] := fun hn => by
    have := congrArg List.length hn
    rw [List.length_drop, List.length_nil] at this; omega
  rw [ats_cons e hne] at hc
  have hj : j < (ats e l).length := by
    by_cases hj : j < (ats e l).length
    · exact hj
    · have hz : (ats e l).drop j = [] := List.drop_eq_nil_of_le (by omega)
      rw [hz] at hc; cases hc
  have hd := List.drop_eq_getElem_cons hj
  rw [hd] at hc
  obtain ⟨h1, -⟩ := List.cons.inj hc
  have ht : (ats e l).take (j + 1) = (ats e l).take j ++ [(ats e l)[j]] := by rw [List.take_succ_eq_append_getElem hj]
  have hp := ats_posd e l _ (List.getElem_mem hj)
  have hx := List.getElem?_eq_getElem hj
  generalize (ats e l)[j] = x at *
  obtain ⟨a, n⟩ := x
  have hs : szs ((ats e l).take (j + 1)) = szs ((ats e l).take j) + n := by rw [ht, szs_append, szs_cons, szs_nil, Nat.add_zero]
  refine ⟨a, n, hx, h1, ht, hs, hp, ?_⟩
  have ha := szs_all e l
  rw [← List.take_append_drop (j + 1) (ats e l), szs_append] at ha
  omega
theorem szs_zero : ∀ {l : As}, Posd l → szs l = 0 → l = []
  | [], _, _ => rfl
  | x :: r, h, h0 => by rw [szs_cons] at h0; have := h x List.mem_cons_self; omega
theorem pos_end {e : Enc} {l : Bs} {j : Nat} (h : ¬ szs ((ats e l).take j) < l.length) : (ats e l).take j = ats e l := by
  have ha := szs_all e l
  rw [← List.take_append_drop j (ats e l), szs_append] at ha
  have := szs_zero ((ats_posd e l).drop j) (by omega)
  rw [List.drop_eq_nil_iff] at this
  exact List.take_of_length_le this
theorem pos_le {e : Enc} {l : Bs} (j : Nat) : szs ((ats e l).take j) ≤ l.length := by
  have ha := szs_all e l
  rw [← List.take_append_drop j (ats e l), szs_append] at ha
  omega
theorem msr_snoc {l : As} {a : Int} {n : Nat} (h : Posd l) (hn : 1 ≤ n) : msr (l ++ [(a, n)]) = (msr l).add (one1 a n) := by
  rw [msr_append h (fun x hx => by rw [List.mem_singleton.1 hx]; exact hn), msr_one a hn]
end Trx
end Go.Proofs.YtmooldhpiopcgaaGreatDoor
