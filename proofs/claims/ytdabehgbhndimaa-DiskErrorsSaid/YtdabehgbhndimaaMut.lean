/- What the disk's inner calls turn: a directory's names, its deeds, a file, the box. Conditions: the disk stands, its numbers are small. -/
import Derived.Test.YtdabehgbhndimaaFnd
import Derived.Test.YtdabehgbhndimaaShelf
set_option linter.unusedSimpArgs false
set_option linter.unusedVariables false
namespace Go.Proofs.Ytdabehgbhndimaa
open Go Go.Vx Dsk
section
variable {w w' : World} {S F F' : Nat → Prop} {d m ms ml : Nat} {f : Dir} {fb : List Nat} {ds : List Sl} {fs : List Fl} {sa : Sl} {vs : List Value} {D : Dk} {pl : Option Nat} {p : Int → Option Fault} {N : Nat}

abbrev nv (l : List Nm) : List Value := l.map Value.string
abbrev StrsO (w : World) (B : Nat) (s : Sl) (l : List Nm) : Prop := SlOwn w B s 9 1 (nv l)
theorem nv_one (l : List Nm) : ∀ v ∈ nv l, isOne v = true := by
  intro v hv
  obtain ⟨x, _, rfl⟩ := List.mem_map.1 hv
  rfl
theorem sortS_call {B : Nat} {s : Sl} {l : List Nm} {K : Unit → World → Prop} (o : StrsO w B s l) (hl : l.length ≤ 2 ^ 60) (hK : ∀ w', StrsO w' B s (sortN l) → Upd s.blk w w' → K () w') :
    callT Try.prog 75 #[.slice s.a s.len s.cap] (.tup []) K w := by
  have hn := o.len1
  rw [List.length_map] at hn
  have hls : (sortN l).length = l.length := (sortN_perm l).length_eq
  rcases o.at_ with ⟨ha, hc⟩ | ⟨blk, off, c, ha, hB, hb, hcap, hv⟩
  · have h0 : s.len = 0 := by have := o.le; omega
    have hl0 : l = [] := List.length_eq_zero_iff.1 (by omega)
    subst hl0
    have e : sortN [] = [] := by simp [sortN]
    rw [e] at hK
    rw [ha, h0]
    exact (Try.slices_Sort_string_none none s.cap w).mono fun e w' ⟨he, hw⟩ => ⟨(), he, by subst hw; exact hK w' o (Upd.refl _ _)⟩
  · have hH : Go.Sort.Holds encStr w blk off (l.map fun n => n.data.toList).toArray := by
      intro j hj
      have hj' : j < l.length := by simpa using hj
      refine ⟨cell_of hb ?_, by simp [World.frozen?, hb]⟩
      have := hv j (.string l[j]) (by simp [hj'])
      rw [this, getElem!_pos _ j hj]
      simp [nm_mk]
    have hrun := Try.slices_Sort_string blk off s.cap (l.map fun n => n.data.toList) w hH (lt_of_heap hb) (by rw [List.length_map]; omega)
    rw [List.length_map] at hrun
    rw [ha, ← hn]
    refine hrun.mono fun e w' ⟨he, n, os, hw⟩ => ⟨(), he, ?_⟩
    obtain ⟨srt, hsrt⟩ : ∃ srt, srt = (l.map fun n => n.data.toList).mergeSort fun x y => decide (x ≤ y) := ⟨_, rfl⟩
    have hsl : srt.length = l.length := by rw [hsrt, List.length_mergeSort, List.length_map]
    have hso : sortN l = srt.map fun l => (⟨l.toArray⟩ : ByteArray) := by rw [hsrt]; rfl
    rw [← hsrt] at hw
    obtain ⟨c', hc'⟩ : ∃ c', c' = Go.Sort.putCells encStr off srt.toArray c := ⟨_, rfl⟩
    have hsz : c'.size = c.size := by rw [hc']; simp [Go.Sort.putCells]
    have hheap : w'.heap = w.heap.modify blk (Go.Sort.onCells (Go.Sort.putCells encStr off srt.toArray)) ++ os := by rw [hw]; rfl
    have hlt := lt_of_heap hb
    have hblk : w'.heap[blk]? = some (.cells c' 9 (0, 0)) := by
      rw [hheap, Array.getElem?_append_left (by simpa using hlt), Array.getElem?_modify, if_pos rfl, hb, hc']
      rfl
    have hupd : Upd s.blk w w' := by
      refine ⟨by rw [hw]; rfl, by rw [hw]; rfl, by rw [hw]; rfl, by rw [hheap]; simp, fun k hk hs => ?_⟩
      have hne : ¬ blk = k := fun h => hs ⟨_, ha, h⟩
      rw [hheap, Array.getElem?_append_left (by simpa using hk), Array.getElem?_modify, if_neg hne]
    refine hK w' ⟨by rw [List.length_map, hls, hn]; simp, o.le, .inr ⟨blk, off, c', ha, hB, hblk, by rw [hsz]; exact hcap, fun i v hi => ?_⟩⟩ hupd
    have ee : nv (sortN l) = srt.map encStr := by rw [hso]; simp [nv]
    rw [ee] at hi
    have hil : i < srt.length := by have := (List.getElem?_eq_some_iff.1 hi).1; simpa using this
    have hle := o.le
    have hiv : v = encStr srt[i] := by
      rw [List.getElem?_map, List.getElem?_eq_getElem hil] at hi
      exact (Option.some.inj hi).symm
    have hcs : off + i < c.size := by omega
    rw [hc', hiv]
    unfold Go.Sort.putCells
    rw [Array.getElem?_mapIdx, Array.getElem?_eq_getElem hcs]
    have hcond : off ≤ off + i ∧ off + i < off + srt.toArray.size := ⟨by omega, by simp; omega⟩
    simp only [Option.map_some, if_pos hcond]
    rw [show off + i - off = i by omega, getElem!_pos _ i (by simpa using hil)]
    rfl

theorem onAll_append (l : List Deed) (a : Deed) (f : Dir) : onAll (l ++ [a]) f = a.on (onAll l f) := by
  induction l generalizing f with
  | nil => rfl
  | cons x r ih => simp only [List.cons_append, onAll]; exact ih _

/-- the entries of a directory, one behind the other -/
theorem DirIn.range (h : DirIn w m fb f) {K : Option Addr → World → Prop} (hK : ∀ r w' es, Iter w' r m (es.map (KEnt.ent Key.str)) [] → Ext w w' → w.heap.size ≤ r → MapK Key.str w m es → (∀ k, kget es k = (f k).map fun i => Value.pointer (some (at0 (fb.getD i 0)))) → Lists f (es.map (·.1)) → K (some (at0 r)) w') :
    rawT Try.prog (.one (.one .ptr)) (Instr.range 87 (.map (some m))) K w := by
  obtain ⟨es, h1, h2, h3⟩ := h.lists
  have h1' := h1
  obtain ⟨⟨c, g1, g2⟩, g3, g4⟩ := h1
  refine range_r uD g1 (fun x hx => ?_) ?_ fun r w' hi e hr => hK r w' es hi e (Nat.le_of_eq hr.symm) h1' h2 h3
  · obtain ⟨y, hy, rfl⟩ := List.mem_map.1 hx
    exact g2 y hy
  · rw [List.map_map]; exact g4
theorem ent_inj {x y : KEnt ByteArray} (h : KEnt.ent Key.str x = KEnt.ent Key.str y) : x = y := by
  obtain ⟨a, b, c⟩ := x
  obtain ⟨a', b', c'⟩ := y
  simp only [KEnt.ent, MapEntry.mk.injEq, Key.str, Value.string.injEq] at h
  simp [h]
/-- one entry of a directory -/
theorem dir_entry {es : List (KEnt ByteArray)} (h1 : MapK Key.str w m es) (h2 : ∀ k, kget es k = (f k).map fun i => Value.pointer (some (at0 (fb.getD i 0)))) {x : MapEntry} (hx : x ∈ es.map (KEnt.ent Key.str)) :
    ∃ (y : KEnt ByteArray) (i : Nat), y ∈ es ∧ x = KEnt.ent Key.str y ∧ f y.1 = some i ∧ y.2.1 = .pointer (some (at0 (fb.getD i 0))) := by
  obtain ⟨y, hy, rfl⟩ := List.mem_map.1 hx
  have := kget_mem h1.keys y hy
  rw [h2] at this
  obtain ⟨i, hi, he⟩ := Option.map_eq_some_iff.1 this
  exact ⟨y, i, hy, rfl, hi, he.symm⟩

theorem names_call (h : DirIn w m fb f) (hf : ∀ l, Lists f l → l.length ≤ 2 ^ 20) {K : Sl → World → Prop} (hK : ∀ s w', StrsO w' w.heap.size s (names f) → Ext w w' → K s w') : callT Try.prog 55 #[.map (some m)] (.one (.one .sl)) K w := by
  refine F55_calls ?_
  unfold F55
  refine join_r (fun x w' => ∃ l, StrsO w' w.heap.size x.1 l ∧ Ext w w' ∧ Lists f l) ?_ ?_
  · refine h.range fun r w1 es hi e1 hr hm hg hl => ?_
    have hcap := hf _ hl
    rw [List.length_map] at hcap
    refine sloop_r (fun s' w' => ∃ (done : List (KEnt ByteArray)), Iter w' r m (es.map (KEnt.ent Key.str)) (done.map (KEnt.ent Key.str)) ∧ StrsO w' w.heap.size s'.1 (done.map (·.1)) ∧ Ext w w' ∧ done.length ≤ es.length) (fun s' w' => es.length - s'.1.len) ⟨[], hi, SlOwn.nil w1 _ _ 1, e1, Nat.zero_le _⟩ ?_
    rintro ⟨s1, ⟨⟩⟩ w2 ⟨done, hi2, o2, e2, hdl⟩
    dsimp only at o2 ⊢
    have hol := o2.len1
    rw [List.length_map, List.length_map] at hol
    refine next_r hi2 (fun w3 e3 _ hp => sif_false ⟨done.map (·.1), o2.ext e3, e2.trans e3, ?_⟩) fun x w3 hx hxd hi3 u3 hz3 => sif_true ?_
    · have hpk : (done.map (·.1)).Perm (es.map (·.1)) := by
        have h5 := hp.map fun e : MapEntry => match e.key with | .string k => k | _ => ⟨#[]⟩
        rw [List.map_map, List.map_map] at h5
        exact h5
      exact ⟨hpk.nodup_iff.2 hl.1, fun n => (hpk.mem_iff).trans (hl.2 n)⟩
    · obtain ⟨y, i, hy, rfl, hfy, hv⟩ := dir_entry hm hg hx
      have e3 : Ext w w3 := e2.step u3 (by rintro k rfl; exact hr)
      have o3 := o2.upd u3 fun k _ hk he => by
        obtain ⟨c, fr, hc⟩ := o2.in.blk_cells hk
        obtain ⟨cl, _, _, g3⟩ := hi2.at_
        subst he
        rw [g3] at hc; cases hc
      refine entry_r hi3 (y.1, some (at0 (fb.getD i 0)), ()) (by simp only [KEnt.ent, hv]; rfl) ?_
      refine newO_r fun b11 w4 e4 n4 _ _ => ?_
      have h1 : SlIn w4 ⟨some (at0 b11), 1, 1⟩ 9 1 [.string y.1] := SlIn.of_box (n := 1) (sz := 1) n4 rfl
      refine append_r (x := ⟨some (at0 b11), 1, 1⟩) ES uS (o3.ext e4) h1 (fun v hv => by simp at hv; subst hv; rfl) (by dsimp only; omega) (e3.trans e4).size fun s5 w5 o5 hl5 u5 _ => ?_
      have hnew : ∀ k, s1.blk k → ∃ c t fr, w4.heap[k]? = some (.cells c t fr) := fun k hk => by
        obtain ⟨c, fr, hc⟩ := (o3.ext e4).in.blk_cells hk
        exact ⟨c, _, fr, hc⟩
      have hi5 := (hi3.ext e4).cells u5 hnew
      have hi5' : Iter w5 r m (es.map (KEnt.ent Key.str)) ((done ++ [y]).map (KEnt.ent Key.str)) := by simpa using hi5
      have hdn : (done ++ [y]).length ≤ es.length := by
        have h6 := List.Nodup.length_le_of_subset (nodup_of_born hi5'.dnd) hi5'.sub
        simpa using h6
      simp only [List.length_append, List.length_cons, List.length_nil] at hdn
      have hl5' : s5.len = s1.len + 1 := hl5
      have ee : nv ((done ++ [y]).map (·.1)) = nv (done.map (·.1)) ++ [.string y.1] := by simp [nv]
      exact ⟨⟨done ++ [y], hi5', by show SlOwn _ _ _ _ _ (nv _); rw [ee]; exact o5, (e3.trans e4).step u5 fun k hk => (o3.ext e4).blk_ge hk, by simpa using hdn⟩, by omega⟩
  · rintro ⟨s1, ⟨⟩⟩ w1 ⟨l, o1, e1, hl⟩
    dsimp only at o1 ⊢
    refine sortS_call o1 (by have := hf l hl; omega) fun w2 o2 u2 => ?_
    rw [names_eq hl] at hK
    exact hK s1 w2 o2 (e1.step u2 fun k hk => o1.blk_ge hk)

/- one name more, one less -/
theorem DirIn.set (h : DirIn w m fb f) {n : Nm} {i b : Nat} (hi : i < fb.length) (hb : fb.getD i 0 = b) {K : World → Prop} (hK : ∀ w', DirIn w' m fb (dset f n (some i)) → Upd (fun k => k = m) w w' → K w') :
    rawU Try.prog (Instr.mapUpdate 87 (.map (some m)) (.string n) (.pointer (some (at0 b)))) K w := by
  subst hb
  obtain ⟨⟨es, h1, h2⟩, h3⟩ := h
  obtain ⟨es', w', hr, hm', hg, u, _, _⟩ := updateK_run MD h1 n (.pointer (some (at0 (fb.getD i 0))))
  refine ⟨w', hr, hK w' ⟨⟨es', hm', fun k => ?_⟩, fun k j hj => ?_⟩ u⟩
  · rw [hg k, h2 k]
    unfold dset
    by_cases e : k = n
    · rw [if_pos e, if_pos e]; rfl
    · rw [if_neg e, if_neg e]
  · unfold dset at hj
    split at hj
    · cases hj; exact hi
    · exact h3 k j hj
theorem DirIn.del (h : DirIn w m fb f) {n : Nm} {K : Unit → World → Prop} (hK : ∀ w', DirIn w' m fb (dset f n none) → Upd (fun k => k = m) w w' → K () w') :
    rawT Try.prog (.tup []) (Builtin.delete_ #[87, 9] 0 #[.map (some m), .string n]) K w := by
  obtain ⟨⟨es, h1, h2⟩, h3⟩ := h
  obtain ⟨es', w', hr, hm', hg, u, _, _⟩ := deleteK_run (kt' := 9) (rt := 0) MD h1 n
  refine ⟨(), w', hr, hK w' ⟨⟨es', hm', fun k => ?_⟩, fun k j hj => ?_⟩ u⟩
  · rw [hg k, h2 k]
    unfold dset
    by_cases e : k = n
    · rw [if_pos e, if_pos e]; rfl
    · rw [if_neg e, if_neg e]
  · unfold dset at hj
    split at hj
    · cases hj
    · exact h3 k j hj

/-- a closure is called -/
theorem func_x {g : FuncId} {caps args : Array Value} {t : RTy} {K : t.T → World → Prop} (hf : ((Try.prog.funcs[g]?).map fun fn => (fn.body.isNone, fn.name == "runtime.NumGoroutine")) = some (false, false)) (h : callT Try.prog g (args ++ caps) t K w) :
    callX Try.prog (do let d ← Deferred.ofValue (.func (.func g) #[] caps) args; invoke d.target d.args : Sem Next) t K w := by
  refine .inl ⟨g, args ++ caps, ?_, h⟩
  have := run_callFunc (P := Try.prog) (f := g) (args := args ++ caps) hf w
  simp only [Deferred.ofValue, pure_bind, invoke]
  have e : (#[] ++ args ++ caps : Array Value) = args ++ caps := by simp
  first
    | (rw [e]; exact this)
    | (simp only [Array.empty_append]; exact this)

theorem deed_run {v : Value} {a : Deed} (ha : ActIn w F fb v a) (h : DirIn w m fb f) {K : Unit → World → Prop} (hK : ∀ w', DirIn w' m fb (a.on f) → Upd (fun k => k = m) w w' → K () w') :
    callX Try.prog (do let d ← Deferred.ofValue v #[.map (some m)]; invoke d.target d.args : Sem Next) (.tup []) K w := by
  have nc : ∀ {b c t fr}, w.heap[b]? = some (.cells c t fr) → ¬ (fun k => k = m) b := by
    rintro b c t fr hb rfl
    obtain ⟨o, c', hm⟩ := h.map_at
    rw [hm] at hb; cases hb
  cases a with
  | rm n =>
    obtain ⟨b, rfl, h2, h3⟩ := ha
    refine func_x (by kernel_rfl) ?_
    refine F44_calls (a0 := some m) (v0 := at0 b) ?_
    unfold F44
    exact ld_r h2 (x := n) rfl (h.del fun w' h' u => hK w' h' u)
  | mk n i =>
    obtain ⟨b1, b2, rfl, h2, h3, _, _, hi⟩ := ha
    refine func_x (by kernel_rfl) ?_
    refine F72_calls (a0 := some m) (v0 := at0 b1) (v1 := at0 b2) ?_
    unfold F72
    exact ld_r h3 (x := n) rfl (ld_r h2 (x := some (at0 (fb.getD i 0))) rfl (h.set hi rfl fun w' h' u => hK w' h' u))
  | mv x y i =>
    obtain ⟨b1, b2, rfl, h2, h3, _, _, hi⟩ := ha
    refine func_x (by kernel_rfl) ?_
    refine F74_calls (a0 := some m) (v0 := at0 b1) (v1 := at0 b2) ?_
    unfold F74
    rw [addr_add]
    refine ld_r h2 (x := x) rfl (h.del fun w1 h1 u1 => ?_)
    have g2 := u1.get h2 (nc h2)
    have g3 := u1.get h3 (nc h3)
    exact ld_r g3 (x := y) rfl (ld_r g2 (x := some (at0 (fb.getD i 0))) rfl (h1.set hi rfl fun w' h' u => hK w' h' (u1.trans u)))
end
end Go.Proofs.Ytdabehgbhndimaa
