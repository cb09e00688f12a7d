/- What isName, find, fresh, sync, Clone, settle do. Conditions: names and rows below 2^44 bytes. -/
import Derived.Test.YtdabehgbhndimaaDsk
import Derived.Test.YtdabehgbhndimaaOk
set_option linter.unusedSimpArgs false
set_option linter.unusedVariables false
namespace Go.Proofs.Ytdabehgbhndimaa
open Go Go.Vx Dsk
section
variable {w w' : World} {S F F' : Nat → Prop} {d m ms ml : Nat} {f : Dir} {fb : List Nat} {ds : List Sl} {fs : List Fl} {sa : Sl} {vs : List Value} {D : Dk} {pl : Option Nat} {p : Int → Option Fault} {N : Nat}

theorem isName_call {n : Nm} {K : Bool → World → Prop} (hK : ∀ w', Ext w w' → K (okName n) w') : callT Try.prog 34 #[.string n] (.one (.one .bool)) K w := by
  refine F34_calls ?_
  unfold F34
  refine join_at (decide (n.size = 0 ∨ 32 < n.size), ()) (sif_r (fun h => ⟨tupb (by (try simp only [decide_eq_true_eq, decide_eq_false_iff_not, beq_iff_eq, Bool.not_eq_true, beq_eq_false_iff_ne, ne_eq, Bool.false_eq_true, false_iff, iff_false, true_iff, iff_true, ge_iff_le, gt_iff_lt, Int.not_le, Int.not_lt] at *); first | omega | (constructor <;> intro h9 <;> omega)), rfl⟩) (fun h => ⟨tupb (by (try simp only [decide_eq_true_eq, decide_eq_false_iff_not, beq_iff_eq, Bool.not_eq_true, beq_eq_false_iff_ne, ne_eq, Bool.false_eq_true, false_iff, iff_false, true_iff, iff_true, ge_iff_le, gt_iff_lt, Int.not_le, Int.not_lt] at *); first | omega | (constructor <;> intro h9 <;> omega)), rfl⟩)) (sif_r (fun hc => ?_) (fun hc => ?_))
  · have hc : n.size = 0 ∨ 32 < n.size := of_decide_eq_true hc
    have e : okName n = false := by
      unfold okName
      rcases hc with h | h
      · simp [h]
      · have : ¬ n.size ≤ 32 := by omega
        simp [this]
    rw [← e]; exact hK w (Ext.refl w)
  have hc : ¬ (n.size = 0 ∨ 32 < n.size) := of_decide_eq_false hc
  have hlen : n.data.toList.length = n.size := by simp
  refine join_r (fun _ w' => Ext w w' ∧ n.data.toList.all okByte = true) ?_ ?_
  · refine strBytes_r us uB ub fun s w1 i1 e1 hb => ?_
    have hs := i1.len1
    rw [List.length_map] at hs
    refine sloop_r (fun s' w' => ∃ k : Nat, k ≤ n.size ∧ s' = ((k : Int), ()) ∧ Ext w1 w' ∧ ∀ b ∈ n.data.toList.take k, okByte b = true) (fun s' _ => (n.size - s'.1).toNat) ⟨0, by omega, rfl, Ext.refl _, fun b hb => by simp at hb⟩ ?_
    rintro _ w2 ⟨k, hk, rfl, e2, hall⟩
    dsimp only
    have ek : IntKind.wrap .i64 ((k : Int) + 1) = ((k + 1 : Nat) : Int) := by rw [IntWalk.i64_in _ ⟨by omega, by omega⟩]; omega
    simp only [ek]
    refine sif_r (fun hd => ?_) (fun hd => ?_)
    · have hd : k < n.size := by have := of_decide_eq_true hd; omega
      obtain ⟨b, hb⟩ : ∃ b, n.data.toList[k]? = some b := ⟨_, List.getElem?_eq_getElem (by omega)⟩
      have hx : (n.data.toList.map fun b => (b.toNat : Int))[(k : Int).toNat]? = some (b.toNat : Int) := by
        rw [Int.toNat_natCast, List.getElem?_map, hb]; rfl
      have hi2 : SlIn w2 s 5 1 ((n.data.toList.map fun b => (b.toNat : Int)).map (Cell.int .u8).val) := by
        have := i1.ext e2
        rw [List.map_map]; exact this
      have fin : okByte b = true → ∀ b' ∈ n.data.toList.take (k + 1), okByte b' = true := by
        intro h1 b' hb'
        rw [List.take_add_one, hb] at hb'
        rcases List.mem_append.1 hb' with h | h
        · exact hall b' h
        · simp at h; subst h; exact h1
      have hdef : okByte b = true ↔ ((97 ≤ b.toNat ∧ b.toNat ≤ 122) ∨ (65 ≤ b.toNat ∧ b.toNat ≤ 90) ∨ (48 ≤ b.toNat ∧ b.toNat ≤ 57) ∨ b.toNat = 46 ∨ b.toNat = 95 ∨ b.toNat = 45 ∨ b.toNat = 126) := by unfold okByte; exact decide_eq_true_iff
      generalize b.toNat = x at hx hdef
      refine join_r (fun _ w' => okByte b = true ∧ w2 = w') ?_ (fun _ w' ⟨h1, h2⟩ => by subst h2; exact ⟨⟨k + 1, hd, rfl, e2, fin h1⟩, by omega⟩)
      refine ix_ld (c := .int .u8) (xs := n.data.toList.map fun b => (b.toNat : Int)) (x := (x : Int)) hi2 (by omega) hx fun _ => ?_
      refine join_at (decide ((97 ≤ x ∧ x ≤ 122) ∨ (65 ≤ x ∧ x ≤ 90) ∨ (48 ≤ x ∧ x ≤ 57)), ()) ?_ ?_
      · refine join_at (decide (97 ≤ x ∧ x ≤ 122), ()) (sif_r (fun h => ⟨tupb (by (try simp only [decide_eq_true_eq, decide_eq_false_iff_not, beq_iff_eq, Bool.not_eq_true, beq_eq_false_iff_ne, ne_eq, Bool.false_eq_true, false_iff, iff_false, true_iff, iff_true, ge_iff_le, gt_iff_lt, Int.not_le, Int.not_lt] at *); first | omega | (constructor <;> intro h9 <;> omega)), rfl⟩) (fun h => ⟨tupb (by (try simp only [decide_eq_true_eq, decide_eq_false_iff_not, beq_iff_eq, Bool.not_eq_true, beq_eq_false_iff_ne, ne_eq, Bool.false_eq_true, false_iff, iff_false, true_iff, iff_true, ge_iff_le, gt_iff_lt, Int.not_le, Int.not_lt] at *); first | omega | (constructor <;> intro h9 <;> omega)), rfl⟩)) (sif_r (fun h => ?_) (fun h => ?_))
        · have h := of_decide_eq_true h
          exact ⟨tupb (by simp [h]), rfl⟩
        have h := of_decide_eq_false h
        refine join_at (decide (65 ≤ x ∧ x ≤ 90), ()) (sif_r (fun h => ⟨tupb (by (try simp only [decide_eq_true_eq, decide_eq_false_iff_not, beq_iff_eq, Bool.not_eq_true, beq_eq_false_iff_ne, ne_eq, Bool.false_eq_true, false_iff, iff_false, true_iff, iff_true, ge_iff_le, gt_iff_lt, Int.not_le, Int.not_lt] at *); first | omega | (constructor <;> intro h9 <;> omega)), rfl⟩) (fun h => ⟨tupb (by (try simp only [decide_eq_true_eq, decide_eq_false_iff_not, beq_iff_eq, Bool.not_eq_true, beq_eq_false_iff_ne, ne_eq, Bool.false_eq_true, false_iff, iff_false, true_iff, iff_true, ge_iff_le, gt_iff_lt, Int.not_le, Int.not_lt] at *); first | omega | (constructor <;> intro h9 <;> omega)), rfl⟩)) (sif_r (fun h1 => ?_) (fun h1 => ?_))
        · have h1 := of_decide_eq_true h1
          exact ⟨tupb (by simp [h1]), rfl⟩
        have h1 := of_decide_eq_false h1
        refine sif_r (fun h2 => ⟨tupb ?_, rfl⟩) (fun h2 => ⟨tupb ?_, rfl⟩)
        · simp only [decide_eq_true_eq] at h2 ⊢; omega
        · simp only [decide_eq_false_iff_not, decide_eq_true_eq, Bool.false_eq_true, false_iff] at h2 ⊢; omega
      · refine sif_r (fun h => ⟨hdef.2 (by have := of_decide_eq_true h; omega), rfl⟩) (fun h => ?_)
        have h := of_decide_eq_false h
        refine join_at (decide (x = 46 ∨ x = 95 ∨ x = 45 ∨ x = 126), ()) ?_ (sif_r (fun h1 => ⟨hdef.2 (by have := of_decide_eq_true h1; omega), rfl⟩) (fun h1 => ?_))
        · refine sif_r (fun h1 => ?_) (fun h1 => sif_r (fun h2 => ?_) (fun h2 => sif_r (fun h3 => ?_) (fun h3 => ?_)))
          · have h1 : (x : Int) = 46 := by simpa using h1
            exact ⟨tupb (by simp only [beq_iff_eq, decide_eq_true_eq]; omega), rfl⟩
          · have h1 : ¬ (x : Int) = 46 := by simpa using h1
            have h2 : (x : Int) = 95 := by simpa using h2
            exact ⟨tupb (by simp only [beq_iff_eq, decide_eq_true_eq]; omega), rfl⟩
          · have h1 : ¬ (x : Int) = 46 := by simpa using h1
            have h2 : ¬ (x : Int) = 95 := by simpa using h2
            have h3 : (x : Int) = 45 := by simpa using h3
            exact ⟨tupb (by simp only [beq_iff_eq, decide_eq_true_eq]; omega), rfl⟩
          · have h1 : ¬ (x : Int) = 46 := by simpa using h1
            have h2 : ¬ (x : Int) = 95 := by simpa using h2
            have h3 : ¬ (x : Int) = 45 := by simpa using h3
            exact ⟨tupb (by simp only [beq_iff_eq, decide_eq_true_eq]; omega), rfl⟩
        · have h1 := of_decide_eq_false h1
          have hno : ¬ okByte b = true := fun hh => by have := hdef.1 hh; omega
          have e : okName n = false := by
            unfold okName
            have : n.data.toList.all okByte = false := by
              cases ha : n.data.toList.all okByte with
              | false => rfl
              | true => exact absurd (List.all_eq_true.1 ha b (List.mem_of_getElem? hb)) hno
            rw [this, Bool.and_false]
          rw [← e]
          exact hK w2 (e1.trans e2)
    · have hd : k = n.size := by have := of_decide_eq_false hd; omega
      refine ⟨e1.trans e2, List.all_eq_true.2 fun b hb => hall b ?_⟩
      rw [List.take_of_length_le (by omega)]; exact hb
  · rintro _ w1 ⟨e1, hall⟩
    have e : okName n = true := by
      unfold okName
      have h1 : ¬ n.size = 0 := fun h => hc (.inl h)
      have h2 : n.size ≤ 32 := by omega
      simp [h1, h2, hall]
    rw [← e]; exact hK w1 e1

theorem DiskAt.ext (A : DiskAt w d F D ms ml sa pl vs fb ds) (e : Ext w w') : DiskAt w' d F D ms ml sa pl vs fb ds :=
  ⟨e.ext_get A.box, A.seen.upd e id, A.lasts.upd e id, A.files.upd e (fun _ _ => id) (fun _ _ _ _ => id), A.acts.ty e (fun _ h => h.elim) (fun _ h => h.elim) (fun _ h => h.elim) (fun _ h => h.elim) fun _ h => h,
    A.plan.upd e (fun _ _ => id) (fun _ h => h.elim) fun _ h => h, A.ne, A.nes, A.nel, A.fd, A.fms, A.fml, A.ffb, A.fds, A.fsa, fun k hk => Nat.lt_of_lt_of_le (A.lt k hk) e.size⟩
theorem DiskAt.in (A : DiskAt w d F D ms ml sa pl vs fb ds) : DiskIn w d F D := ⟨ms, ml, sa, pl, vs, fb, ds, A⟩

theorem DirIn.look (h : DirIn w m fb f) (k : Nm) {K : Option Addr → World → Prop} (hK : K ((f k).map fun i => at0 (fb.getD i 0)) w) : rdT Try.prog (.one (.one .ptr)) (Instr.lookup 87 (.map (some m)) (.string k) false) K w := by
  obtain ⟨⟨es, h1, h2⟩, h3⟩ := h
  refine ⟨_, ?_, hK⟩
  have := lookupK1_run MD h1 k
  rw [show Key.str.kv k = Value.string k from rfl, h2 k] at this
  dsimp only
  rw [this]
  cases f k <;> rfl
theorem DirIn.lists (h : DirIn w m fb f) : ∃ es, MapK Key.str w m es ∧ (∀ k, kget es k = (f k).map fun i => Value.pointer (some (at0 (fb.getD i 0)))) ∧ Lists f (es.map (·.1)) := by
  obtain ⟨⟨es, h1, h2⟩, h3⟩ := h
  refine ⟨es, h1, h2, h1.keys, fun n => ?_⟩
  constructor
  · intro hn
    obtain ⟨x, hx, rfl⟩ := List.mem_map.1 hn
    have := kget_mem h1.keys x hx
    rw [h2] at this
    obtain ⟨i, hi, _⟩ := Option.map_eq_some_iff.1 this
    rw [hi]; rfl
  · intro hn
    obtain ⟨i, hi⟩ := Option.isSome_iff_exists.1 hn
    have := h2 n
    rw [hi] at this
    obtain ⟨x, hx, hxn, _⟩ := mem_kget this
    exact List.mem_map.2 ⟨x, hx, hxn⟩
theorem DirIn.len (h : DirIn w m fb f) {K : Int → World → Prop} (hK : K ((names f).length : Int) w) : rdN Try.prog (Builtin.len_ #[87] 3 #[.map (some m)]) K w := by
  obtain ⟨es, h1, h2, h3⟩ := h.lists
  obtain ⟨⟨c, hh, _⟩, _, _⟩ := h1
  refine ⟨_, ?_, hK⟩
  rw [names_len h3]
  have hg : (getObj m).run Try.prog w = .ok (.map (es.map (KEnt.ent Key.str)).toArray c) w := by simp [getObj, Sem.run, hh]
  simp [Builtin.len_, run_underlying uD, hg, goInt]

theorem find_call (A : DiskAt w d F D ms ml sa pl vs fb ds) {n : Nm} {K : ((Option Addr × ByteArray × Unit) × Int × Unit) → World → Prop}
    (hK : ∀ nm w', Ext w w' → ((find D n).1.isSome = true → nm = n) → K (((find D n).1.map fun i => at0 (fb.getD i 0), nm, ()), (find D n).2, ()) w') :
    callT Try.prog 41 #[.pointer (some (at0 d)), .string n] (.tup [(.agg c102), (.one (.int .i64))]) K w := by
  refine F41_calls ?_
  unfold F41
  refine (St.start w).newO fun b1 w1 S e1 => isName_call fun w2 e2 => ?_
  have S := S.ext e2
  have e12 := e1.trans e2
  refine sif_r (fun hc => ?_) (fun hc => ?_)
  · have hc : okName n = false := by simpa using hc
    have e : find D n = (none, 164) := by simp only [find, if_pos hc]
    rw [e] at hK
    exact S.aggSt 0 rfl rfl rfl rfl fun w3 S3 u3 => S3.lds 0 (none, ⟨#[]⟩, ()) rfl (hK _ w3 S3.upd (fun h => by cases h))
  have hc : okName n = true := by simpa using hc
  have A2 := A.ext e12
  refine nn_some ?_
  rw [addr_add]
  refine ld_r A2.box (x := some ms) rfl (A2.seen.look n ?_)
  have e : find D n = match D.seen n with | none => (none, 162) | some i => (some i, 0) := by simp only [find]; rw [if_neg (by simp [hc])]; rfl
  rw [e] at hK
  cases hs : D.seen n with
  | none =>
    rw [hs] at hK
    exact sif_true (S.aggSt 0 rfl rfl rfl rfl fun w3 S3 u3 => S3.lds 0 (none, ⟨#[]⟩, ()) rfl (hK _ w3 S3.upd (fun h => by cases h)))
  | some i =>
    rw [hs] at hK
    exact sif_false (S.aggSt 0 rfl rfl rfl rfl fun w3 S3 u3 => S3.lds 0 (some (at0 (fb.getD i 0)), n, ()) rfl (hK n w3 S3.upd fun _ => rfl))

/-- a new row of bytes -/
theorem cloneB_call {x : Sl} {l : List UInt8} {K : Sl → World → Prop} (hx : Bytes w x l) (hl : l.length ≤ 2 ^ 44) (hK : ∀ s w', BytesO w' w.heap.size s l → Ext w w' → K s w') : callT Try.prog 37 #[.slice x.a x.len x.cap] (.one (.one .sl)) K w := by
  refine F37_calls ?_
  unfold F37
  have hn := hx.len1
  rw [List.length_map] at hn
  refine sif_r (fun hc => ?_) (fun hc => ?_)
  · have h0 : l = [] := by
      rcases hx.at_ with ⟨_, h⟩ | ⟨t, h⟩
      · simpa using h
      · rcases h.at_ with ⟨_, h1⟩ | ⟨b, off, c, fr, ha, _⟩
        · have := h.le; exact List.length_eq_zero_iff.1 (by omega)
        · rw [ha] at hc; cases hc
    subst h0
    exact hK _ w (SlOwn.nil _ _ _ _) (Ext.refl w)
  · refine newO_r fun b1 w1 e1 n1 hb1 _ => ?_
    have o1 : SlOwn w1 w.heap.size ⟨some (at0 b1), 0, 0⟩ 5 1 (bv []) := ⟨rfl, Nat.le_refl _, .inr ⟨b1, 0, #[], rfl, by omega, n1, by simp, fun i v hv => by simp at hv⟩⟩
    refine append_rx (s := ⟨some (at0 b1), 0, 0⟩) EB uB o1 (hx.ext e1) (bv_one l) (by dsimp only; omega) e1.size fun s' w2 o2 _ u2 _ => hK s' w2 (by simpa using o2) (e1.step u2 fun k hk => o1.blk_ge hk)
theorem cloneI_call {x : Sl} {l : List Int} {K : Sl → World → Prop} (hx : SlX w x 1 (iv l)) (hl : l.length ≤ 2 ^ 44) (hK : ∀ s w', SlOwn w' w.heap.size s 3 1 (iv l) → Ext w w' → K s w') : callT Try.prog 51 #[.slice x.a x.len x.cap] (.one (.one .sl)) K w := by
  refine F51_calls ?_
  unfold F51
  have hn := hx.len1
  rw [List.length_map] at hn
  refine sif_r (fun hc => ?_) (fun hc => ?_)
  · have h0 : l = [] := by
      rcases hx.at_ with ⟨_, h⟩ | ⟨t, h⟩
      · simpa using h
      · rcases h.at_ with ⟨_, h1⟩ | ⟨b, off, c, fr, ha, _⟩
        · have := h.le; exact List.length_eq_zero_iff.1 (by omega)
        · rw [ha] at hc; cases hc
    subst h0
    exact hK _ w (SlOwn.nil _ _ _ _) (Ext.refl w)
  · refine newO_r fun b1 w1 e1 n1 hb1 _ => ?_
    have o1 : SlOwn w1 w.heap.size ⟨some (at0 b1), 0, 0⟩ 3 1 (iv []) := ⟨rfl, Nat.le_refl _, .inr ⟨b1, 0, #[], rfl, by omega, n1, by simp, fun i v hv => by simp at hv⟩⟩
    refine append_rx (s := ⟨some (at0 b1), 0, 0⟩) EI uI o1 (hx.ext e1) (iv_one l) (by dsimp only; omega) e1.size fun s' w2 o2 _ u2 _ => hK s' w2 (by simpa using o2) (e1.step u2 fun k hk => o1.blk_ge hk)

theorem clone_find : Extern.find Try.f76 = some Extern.MapsClone.clone := by kernel_rfl
theorem clone_next : Extern.findNext Try.f76 = none := by kernel_rfl
theorem clone_name : (Try.f76.name == "runtime.NumGoroutine") = false := by kernel_rfl
theorem clone_body : Try.f76.body.isNone = true := by kernel_rfl
theorem clone_run {P : Program} {t : TypeId} {r c : Nat} {es : Array MapEntry} (h : w.heap[r]? = some (.map es c)) : (Extern.MapsClone.clone #[.iface t (.map (some r))]).run P w = .ok (.iface t (.map (some w.heap.size))) (w.alloc (.map es c)) := by
  have hg : (getObj r).run P w = .ok (.map es c) w := by simp [getObj, Sem.run, h]
  have e : Extern.MapsClone.clone #[.iface t (.map (some r))] = (getObj r >>= fun o => match o with | .map es c => (newObj (.map es c) >>= fun b => pure (.iface t (.map (some b)))) | _ => stuck "maps.clone: a map expected") := rfl
  rw [e]
  simp [hg, newObj, Sem.run, World.alloc_eq]
/-- a directory's copy -/
theorem mclone_call (h : DirIn w m fb f) {K : Option Nat → World → Prop} (hK : ∀ m' w', DirIn w' m' fb f → Ext w w' → m' = w.heap.size → K (some m') w') : callT Try.prog 57 #[.map (some m)] (.one (.one .map)) K w := by
  refine F57_calls ?_
  unfold F57
  obtain ⟨⟨es, h1, h2⟩, h3⟩ := h
  have h1' := h1
  obtain ⟨⟨c, hh, hc⟩, hk, hb⟩ := h1
  have hg : (getObj m).run Try.prog w = .ok (.map (es.map (KEnt.ent Key.str)).toArray c) w := by simp [getObj, Sem.run, hh]
  refine sif_false (.inr ⟨.iface 87 (.map (some w.heap.size)), w.alloc (.map (es.map (KEnt.ent Key.str)).toArray c), ?_, ?_⟩)
  · have hm : ∀ W, (mark (.extern 76)).run Try.prog W = .ok () W := fun _ => rfl
    have hn1 : ¬ Try.f76.name = "runtime.NumGoroutine" := by simpa using clone_name
    have hn2 : Try.f76.body = none := by simpa using clone_body
    simp [callFunc, run_program, hn1, hn2, Try.func76, clone_name, clone_body, clone_next, clone_find, hm, clone_run hh, RTy.val, Ty.val, Cell.val]
  · have e1 := Ext.alloc w (.map (es.map (KEnt.ent Key.str)).toArray c)
    refine ⟨some w.heap.size, _, ?_, hK w.heap.size _ ⟨⟨es, ⟨⟨c, heap_alloc w _, hc⟩, hk, hb⟩, h2⟩, h3⟩ e1 rfl⟩
    simp [Instr.typeAssert, run_underlying uD, RTy.val, Ty.val, Cell.val]
end
end Go.Proofs.Ytdabehgbhndimaa
