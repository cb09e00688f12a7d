/- The law holds for every input: it returns true, and each argument reads behind the call as it did. Conditions: those of the form alone. -/
import Derived.Test.YtmooldhpiopcgaaGreatDoorSNa4
set_option linter.unusedVariables false
set_option linter.unusedSimpArgs false
set_option linter.unusedSectionVars false
set_option linter.unusedSimpArgs false
set_option linter.unusedVariables false
namespace Go.Proofs.YtmooldhpiopcgaaGreatDoor
namespace Dq
open Go Go.Vx Dsk
section
variable {D E : Dk} {N M : Nat} {n sd : Nm} {k : Int} {g : Fl} {T : List UInt8}
theorem side_data (n : Nm) : (side n).data.toList = n.data.toList ++ [126] := by unfold side; simp
theorem side_ne (n : Nm) : side n ≠ n := fun h => by
  have := congrArg (fun x : Nm => x.data.toList.length) h
  simp only [side_data] at this
  simp at this
theorem side_ok (h : userName n = true) : okName n = true ∧ okName (side n) = true := by
  unfold userName at h
  simp only [Bool.and_eq_true, decide_eq_true_eq] at h
  obtain ⟨⟨h1, h2⟩, h3⟩ := h
  refine ⟨h1, ?_⟩
  unfold okName at h1 ⊢
  simp only [Bool.and_eq_true, bne_iff_ne, ne_eq, decide_eq_true_eq] at h1 ⊢
  have hs : (side n).size = n.size + 1 := by
    show (n.data.push 126).size = n.data.size + 1
    simp
  refine ⟨⟨by omega, by omega⟩, ?_⟩
  rw [side_data, List.all_append, h1.2]
  decide
structure Bes (D E : Dk) (sd : Nm) (k : Int) (g : Fl) : Prop where
  q : Quiet E
  files : E.files = D.files ++ [g]
  lasts : E.lasts = D.lasts
  seen : E.seen = dset D.seen sd (some D.files.length)
  steps : E.steps = D.steps + k
  space : E.space = D.space
  ok : ∃ M, DkOk E M
  acts : ∃ as_, E.acts = D.acts ++ as_
theorem Bes.find (h : Bes D E sd k g) (hn : okName sd = true) : Dsk.find E sd = (some D.files.length, 0) := by
  unfold Dsk.find
  rw [if_neg (by rw [hn]; simp), h.seen]
  unfold dset
  rw [if_pos rfl]
theorem Bes.at_ (h : Bes D E sd k g) : E.files[D.files.length]? = some g := by rw [h.files]; simp
theorem Bes.fl (h : Bes D E sd k g) : fl E D.files.length = g := by unfold Dsk.fl; rw [List.getD_eq_getElem?_getD, h.at_]; rfl
theorem dset_dset (f : Dir) (a : Nm) (x y : Option Nat) : dset (dset f a x) a y = dset f a y := by
  funext m; unfold dset; split <;> rfl
theorem dset_self (f : Dir) (a : Nm) {x : Option Nat} (h : f a = x) : dset f a x = f := by
  funext m; unfold dset; split
  · rename_i hh; rw [hh, h]
  · rfl
theorem Bes.used (h : Bes D E sd k g) (ok : DkOk D N) : usedBut E none ≤ usedBut D none + g.data.length := by
  cases hs : D.seen sd with
  | none =>
    have := used_new ok hs h.seen h.files
    omega
  | some j =>
    have hG : Good D.files.length (dset D.seen sd none) := Good.del ok.seen sd
    have ok2 : DkOk { D with acts := D.acts ++ [.rm sd] } (N + 1) := ok.push hG
    have h2 : ({ D with acts := D.acts ++ [.rm sd] } : Dk).seen = dset D.seen sd none := seen_push D (.rm sd)
    have h3 : ({ D with acts := D.acts ++ [.rm sd] } : Dk).seen sd = none := by rw [h2]; unfold dset; rw [if_pos rfl]
    have h4 := used_new (D' := E) ok2 h3 (by rw [h2, dset_dset]; exact h.seen) h.files
    have h5 := used_del (D' := { D with acts := D.acts ++ [.rm sd] }) ok sd h2 rfl
    omega
theorem make_quiet (q : Quiet D) (ok : DkOk D N) (hn : okName sd = true) (h0 : D.seen sd = none) (hl : (names D.seen).length < 16) :
    (callMake D sd).2.1 = 0 ∧ Bes D (callMake D sd).1 sd 1 ⟨[], 0, 0⟩ := by
  have hok := ok_callMake ok sd
  have hf : Dsk.find { D with steps := D.steps + 1 } sd = (none, 162) := by
    rw [find_steps]; unfold Dsk.find; rw [if_neg (by rw [hn]; simp), h0]
  have e : callMake D sd = ({ D with steps := D.steps + 1, files := D.files ++ [⟨[], 0, 0⟩], acts := D.acts ++ [.mk sd D.files.length] }, 0, ()) := by
    unfold callMake
    rw [step_quiet q]
    unfold u mkR
    rw [hf]
    dsimp only
    have hl' : ¬ 16 ≤ (names ({ D with steps := D.steps + 1 } : Dk).seen).length := by show ¬ 16 ≤ (names D.seen).length; omega
    rw [if_neg (by decide), if_neg (by decide), if_neg hl']
  rw [e] at hok ⊢
  exact ⟨rfl, ⟨q.up, q.plan⟩, rfl, rfl, seen_push D (.mk sd D.files.length), rfl, rfl, ⟨_, hok⟩, ⟨_, rfl⟩⟩
theorem remove_quiet (q : Quiet D) (hn : okName sd = true) {i : Nat} (h0 : D.seen sd = some i) : callRemove D sd = ({ D with steps := D.steps + 1, acts := D.acts ++ [.rm sd] }, 0, ()) := by
  have hf : Dsk.find { D with steps := D.steps + 1 } sd = (some i, 0) := by
    rw [find_steps]; unfold Dsk.find; rw [if_neg (by rw [hn]; simp), h0]
  unfold callRemove
  rw [step_quiet q]
  unfold u rmR
  rw [hf]
theorem make_there (q : Quiet D) (hn : okName sd = true) {i : Nat} (h0 : D.seen sd = some i) : callMake D sd = ({ D with steps := D.steps + 1 }, 163, ()) := by
  have hf : Dsk.find { D with steps := D.steps + 1 } sd = (some i, 0) := by
    rw [find_steps]; unfold Dsk.find; rw [if_neg (by rw [hn]; simp), h0]
  unfold callMake
  rw [step_quiet q]
  unfold u mkR
  rw [hf]
  rfl
theorem begin_quiet (q : Quiet D) (ok : DkOk D N) (hn : okName sd = true) (hl : D.seen sd = none → (names D.seen).length < 16) :
    (beginP D sd).2 = 0 ∧ Bes D (beginP D sd).1 sd (if D.seen sd = none then 1 else 3) ⟨[], 0, 0⟩ := by
  cases h0 : D.seen sd with
  | none =>
    obtain ⟨h1, h2⟩ := make_quiet q ok hn h0 (hl h0)
    have e : beginP D sd = ((callMake D sd).1, (callMake D sd).2.1) := by
      unfold beginP
      dsimp only
      rw [h1, if_neg (by decide)]
    rw [e, if_pos rfl]
    exact ⟨h1, h2⟩
  | some i =>
    have e1 := make_there q hn h0
    have q1 : Quiet { D with steps := D.steps + 1 } := ⟨q.up, q.plan⟩
    have e2 : callRemove { D with steps := D.steps + 1 } sd = ({ D with steps := D.steps + 1 + 1, acts := D.acts ++ [.rm sd] }, 0, ()) := remove_quiet q1 hn h0
    have hG : Good D.files.length (dset D.seen sd none) := Good.del ok.seen sd
    have ok1 := ok_st (ok_st ok)
    have hs2 : ({ D with steps := D.steps + 1 + 1, acts := D.acts ++ [.rm sd] } : Dk).seen = dset D.seen sd none := seen_push D (.rm sd)
    have ok2 : DkOk { D with steps := D.steps + 1 + 1, acts := D.acts ++ [.rm sd] } (N + 2 + 1) := ok1.push (a := .rm sd) hG
    have q2 : Quiet { D with steps := D.steps + 1 + 1, acts := D.acts ++ [.rm sd] } := ⟨q.up, q.plan⟩
    have h3 : ({ D with steps := D.steps + 1 + 1, acts := D.acts ++ [.rm sd] } : Dk).seen sd = none := by rw [hs2]; unfold dset; rw [if_pos rfl]
    have hl2 : (names ({ D with steps := D.steps + 1 + 1, acts := D.acts ++ [.rm sd] } : Dk).seen).length < 16 := by
      obtain ⟨l1, l2⟩ := ok.seen.names
      rw [hs2, names_len (lists_del l1 sd)]
      have := filter_lt (l := names D.seen) (a := sd) ((l1.2 sd).2 (by rw [h0]; rfl))
      omega
    obtain ⟨h4, h5⟩ := make_quiet q2 ok2 hn h3 hl2
    have e : beginP D sd = ((callMake { D with steps := D.steps + 1 + 1, acts := D.acts ++ [.rm sd] } sd).1, (callMake { D with steps := D.steps + 1 + 1, acts := D.acts ++ [.rm sd] } sd).2.1) := by
      unfold beginP
      dsimp only
      rw [e1]
      dsimp only
      rw [if_pos rfl, e2]
      dsimp only
      rw [if_pos rfl]
    rw [e]
    refine ⟨h4, h5.q, h5.files, h5.lasts, ?_, ?_, h5.space, h5.ok, ?_⟩
    · rw [h5.seen, hs2, dset_dset]
    · rw [h5.steps, if_neg (by simp)]; show D.steps + 1 + 1 + 1 = _; omega
    · obtain ⟨as_, ha⟩ := h5.acts
      exact ⟨.rm sd :: as_, by rw [ha]; show (D.acts ++ [.rm sd]) ++ as_ = _; simp⟩
theorem append_bes (h : Bes D E sd k g) (ok : DkOk D N) (hn : okName sd = true) {b : List UInt8} (hb : b ≠ []) (hr : usedBut D none + g.data.length + b.length ≤ D.space) :
    (callAppend E sd b).2.1 = 0 ∧ Bes D (callAppend E sd b).1 sd (k + 1) ⟨g.data ++ b, g.synced, g.count + 1⟩ := by
  obtain ⟨M, okE⟩ := h.ok
  have hok := ok_callAppend okE sd b
  have hu := h.used ok
  have hu2 := okE.used none
  have hbl : 0 < b.length := List.length_pos_iff.2 hb
  have hroom : ¬ room { E with steps := E.steps + 1 } < (b.length : Int) := by
    have : room { E with steps := E.steps + 1 } = room E := rfl
    rw [this]
    unfold room
    rw [h.space]; omega
  have hf : Dsk.find { E with steps := E.steps + 1 } sd = (some D.files.length, 0) := by rw [find_steps]; exact h.find hn
  have e : callAppend E sd b = ({ E with steps := E.steps + 1, files := put1 E.files D.files.length fun f => ⟨f.data ++ b, f.synced, f.count + 1⟩ }, 0, (if E.down = true then 0 else (b.length : Int))) := by
    unfold callAppend
    rw [step_quiet h.q]
    unfold apR
    rw [hf]
    dsimp only
    rw [if_neg hroom, if_neg (by omega)]
    have ht : b.take (Int.toNat (b.length : Int)) = b := by rw [Int.toNat_natCast, List.take_length]
    rw [ht]
    have hpos : ((b.length : Int) > 0) := by omega
    simp only [if_pos hpos]
  rw [e] at hok ⊢
  refine ⟨rfl, ⟨h.q.up, h.q.plan⟩, ?_, h.lasts, h.seen, ?_, h.space, ⟨_, hok⟩, h.acts⟩
  · show put1 E.files _ _ = _
    rw [put1_eq h.at_, h.files]
    simp
  · show E.steps + 1 = _; rw [h.steps]; omega
theorem fill_quiet : ∀ (m : Nat) (T : List UInt8), T.length ≤ m → ∀ {E : Dk} {k : Int} {g : Fl}, Bes D E sd k g → DkOk D N → okName sd = true → usedBut D none + g.data.length + T.length ≤ D.space →
    (fillA sd T E).2 = 0 ∧ ∃ c, Bes D (fillA sd T E).1 sd (k + ((T.length + 1023) / 1024 : Nat)) ⟨g.data ++ T, g.synced, c⟩
  | 0, T, hm, E, k, g, h, ok, hn, hr => by
    obtain rfl : T = [] := List.length_eq_zero_iff.1 (by omega)
    exact ⟨rfl, g.count, by rw [fillA_nil, List.append_nil]; simpa using h⟩
  | m + 1, T, hm, E, k, g, h, ok, hn, hr => by
    by_cases hT : T = []
    · subst hT
      exact ⟨rfl, g.count, by rw [fillA_nil, List.append_nil]; simpa using h⟩
    · have hpos : 0 < T.length := List.length_pos_iff.2 hT
      have hl : (T.take 1024).length ≤ T.length := by rw [List.length_take]; omega
      obtain ⟨h1, h2⟩ := append_bes h ok hn (b := T.take 1024) (fun hh => by have := congrArg List.length hh; rw [List.length_take, List.length_nil] at this; omega) (by omega)
      have hlen : (T.take 1024).length + (T.drop 1024).length = T.length := by rw [List.length_take, List.length_drop]; omega
      obtain ⟨h3, c, h4⟩ := fill_quiet m (T.drop 1024) (by rw [List.length_drop]; omega) h2 ok hn (by simp only [List.length_append]; omega)
      rw [fillA_cons hT, if_pos h1]
      refine ⟨h3, c, ?_⟩
      have e1 : (g.data ++ T.take 1024) ++ T.drop 1024 = g.data ++ T := by rw [List.append_assoc, List.take_append_drop]
      have e2 : k + 1 + (((T.drop 1024).length + 1023) / 1024 : Nat) = k + ((T.length + 1023) / 1024 : Nat) := by
        rw [List.length_drop]; omega
      dsimp only at h4
      rw [e1, e2] at h4
      exact h4
theorem sync_bes (h : Bes D E sd k g) (hn : okName sd = true) : (callSync E sd).2.1 = 0 ∧ Bes D (callSync E sd).1 sd (k + 1) ⟨g.data, g.data.length, g.count⟩ := by
  obtain ⟨M, okE⟩ := h.ok
  have hok := ok_callSync okE sd
  have hf : Dsk.find { E with steps := E.steps + 1 } sd = (some D.files.length, 0) := by rw [find_steps]; exact h.find hn
  have e : callSync E sd = ({ E with steps := E.steps + 1, files := put1 E.files D.files.length fun f => ⟨f.data, f.data.length, f.count⟩ }, 0, ()) := by
    unfold callSync
    rw [step_quiet h.q]
    unfold u syR
    rw [hf]
  rw [e] at hok ⊢
  refine ⟨rfl, ⟨h.q.up, h.q.plan⟩, ?_, h.lasts, h.seen, ?_, h.space, ⟨_, hok⟩, h.acts⟩
  · show put1 E.files _ _ = _
    rw [put1_eq h.at_, h.files]
    simp
  · show E.steps + 1 = _; rw [h.steps]; omega
theorem stamp_bes (h : Bes D E sd k g) (hn : okName sd = true) : (callStamp E sd).2.1 = 0 ∧ (callStamp E sd).2.2 = ((D.files.length : Int) + 1, (g.data.length : Int), g.count) ∧ Bes D (callStamp E sd).1 sd (k + 1) g := by
  obtain ⟨M, okE⟩ := h.ok
  have hok := ok_callStamp okE sd
  have e := stamp_quiet h.q hn (i := D.files.length) (by rw [h.seen]; unfold dset; rw [if_pos rfl])
  rw [h.fl] at e
  rw [e] at hok ⊢
  exact ⟨rfl, rfl, ⟨h.q.up, h.q.plan⟩, h.files, h.lasts, h.seen, by show E.steps + 1 = _; rw [h.steps]; omega, h.space, ⟨_, hok⟩, h.acts⟩
structure Put (D E : Dk) (n : Nm) (k : Int) (g : Fl) : Prop where
  q : Quiet E
  files : E.files = D.files ++ [g]
  seen : E.seen = dset (dset D.seen (side n) none) n (some D.files.length)
  steps : E.steps = D.steps + k
  space : E.space = D.space
  ok : ∃ M, DkOk E M
theorem rename_bes (h : Bes D E (side n) k g) (hn : okName n = true) (hs : okName (side n) = true) : (callRename E (side n) n).2.1 = 0 ∧ Put D (callRename E (side n) n).1 n (k + 1) g ∧ (callRename E (side n) n).1.lasts = D.lasts := by
  obtain ⟨M, okE⟩ := h.ok
  have hok := ok_callRename okE (side n) n
  have hf : Dsk.find { E with steps := E.steps + 1 } (side n) = (some D.files.length, 0) := by rw [find_steps]; exact h.find hs
  have e : callRename E (side n) n = ({ E with steps := E.steps + 1, acts := E.acts ++ [.mv (side n) n D.files.length] }, 0, ()) := by
    unfold callRename
    rw [step_quiet h.q]
    unfold u mvR
    rw [if_neg (by rw [hn]; simp), hf]
    dsimp only
    rw [if_neg (side_ne n)]
  rw [e] at hok ⊢
  refine ⟨rfl, ⟨⟨h.q.up, h.q.plan⟩, h.files, ?_, ?_, h.space, ⟨_, hok⟩⟩, h.lasts⟩
  · have := seen_push { E with steps := E.steps + 1 } (.mv (side n) n D.files.length)
    show onAll (E.acts ++ [.mv (side n) n D.files.length]) E.lasts = _
    have h2 : onAll (E.acts ++ [.mv (side n) n D.files.length]) E.lasts = dset (dset E.seen (side n) none) n (some D.files.length) := this
    rw [h2, h.seen, dset_dset]
  · show E.steps + 1 = _; rw [h.steps]; omega
theorem repl_quiet (q : Quiet D) (ok : DkOk D N) (hu : userName n = true) (hl : D.seen (side n) = none → (names D.seen).length < 16) (hr : usedBut D none + T.length ≤ D.space) (t : Stm) :
    ∃ c, (replP D n T t).2 = (0, (D.files.length : Int) + 1, (T.length : Int), c) ∧ Put D (replP D n T t).1 n ((if D.seen (side n) = none then 4 else 6) + ((T.length + 1023) / 1024 : Nat)) ⟨T, T.length, c⟩ := by
  obtain ⟨hn, hs⟩ := side_ok hu
  obtain ⟨b1, b2⟩ := begin_quiet q ok hs hl
  obtain ⟨f1, c, f2⟩ := fill_quiet T.length T (Nat.le_refl _) b2 ok hs (by simpa using hr)
  rw [List.nil_append] at f2
  obtain ⟨s1, s2⟩ := sync_bes f2 hs
  obtain ⟨t1, t2, t3⟩ := stamp_bes s2 hs
  obtain ⟨r1, r2, _⟩ := rename_bes t3 hn hs
  have e := replP_5 (t := t) b1 f1 s1 t1
  rw [t2, r1] at e
  unfold clean at e
  rw [if_pos rfl] at e
  rw [e]
  refine ⟨c, rfl, ?_⟩
  have hk : ((if D.seen (side n) = none then 1 else 3) + ((T.length + 1023) / 1024 : Nat) + 1 + 1 + 1 : Int) = (if D.seen (side n) = none then 4 else 6) + ((T.length + 1023) / 1024 : Nat) := by split <;> omega
  rw [hk] at r2
  exact r2
theorem syncdir_put (h : Put D E n k g) : (callSyncDir E).2.1 = 0 ∧ Put D (callSyncDir E).1 n (k + 1) g ∧ (callSyncDir E).1.acts = [] ∧ (callSyncDir E).1.lasts = E.seen := by
  obtain ⟨M, okE⟩ := h.ok
  have hok := ok_callSyncDir okE
  have e := syncdir_quiet h.q
  rw [e] at hok ⊢
  refine ⟨rfl, ⟨⟨h.q.up, h.q.plan⟩, h.files, ?_, ?_, h.space, ⟨_, hok⟩⟩, rfl, rfl⟩
  · show onAll [] (Dk.seen { E with steps := E.steps + 1 }) = _
    exact h.seen
  · show E.steps + 1 = _; rw [h.steps]; omega
theorem write_quiet (q : Quiet D) (ok : DkOk D N) (hu : userName n = true) (hl : D.seen (side n) = none → (names D.seen).length < 16) (hr : usedBut D none + T.length ≤ D.space) (t kn : Stm) :
    ∃ c, (writeP D n T t kn).2 = (0, ((D.files.length : Int) + 1, (T.length : Int), c), ((D.files.length : Int) + 1, (T.length : Int), c)) ∧ Put D (writeP D n T t kn).1 n ((if D.seen (side n) = none then 5 else 7) + ((T.length + 1023) / 1024 : Nat)) ⟨T, T.length, c⟩ ∧ (writeP D n T t kn).1.acts = [] ∧ (writeP D n T t kn).1.lasts = (writeP D n T t kn).1.seen := by
  obtain ⟨c, h1, h2⟩ := repl_quiet q ok hu hl hr t
  obtain ⟨s1, s2, s3, s4⟩ := syncdir_put h2
  have e : writeP D n T t kn = ((callSyncDir (replP D n T t).1).1, (callSyncDir (replP D n T t).1).2.1, (replP D n T t).2.2, (replP D n T t).2.2) := by
    unfold writeP
    dsimp only
    rw [if_neg (by rw [h1]; simp)]
  rw [e, s1, h1]
  refine ⟨c, rfl, ?_, s3, ?_⟩
  · have hk : ((if D.seen (side n) = none then 4 else 6) + ((T.length + 1023) / 1024 : Nat) + 1 : Int) = (if D.seen (side n) = none then 5 else 7) + ((T.length + 1023) / 1024 : Nat) := by split <;> omega
    rw [hk] at s2
    exact s2
  · show (callSyncDir (replP D n T t).1).1.lasts = (callSyncDir (replP D n T t).1).1.seen
    rw [s4, s2.seen, h2.seen]
end
end Dq
end Go.Proofs.YtmooldhpiopcgaaGreatDoor
set_option linter.unusedSimpArgs false
set_option linter.unusedVariables false
set_option maxRecDepth 100000
namespace Go.Proofs.YtmooldhpiopcgaaGreatDoor
namespace Dq
open Go Go.Vx Dsk Cdc Trx
abbrev fcells (d : Nat) (X : Fil) (sm : Sl) : Array Value := #[.pointer (some (at0 d)), .string X.name, .slice sm.a sm.len sm.cap, .int .i64 X.known.1, .int .i64 X.known.2.1, .int .i64 X.known.2.2, .int .i64 X.tried.1, .int .i64 X.tried.2.1, .int .i64 X.tried.2.2]
structure FileAt (w : World) (f d : Nat) (X : Fil) (sm : Sl) : Prop where
  box : w.heap[f]? = some (.cells (fcells d X sm) 110 (0, 0))
  mkr : By w sm X.mark
section
variable {w w' : World} {S F F' : Nat → Prop} {d : Nat} {D : Dk} {N : Nat} {p : Nat} {e : Enc} {lim na : Nat} {O : Nat → Prop} {M : Parts} {f : Nat} {X : Fil} {sm : Sl}
theorem FileAt.upd (h : FileAt w f d X sm) (u : Upd S w w') (h1 : ¬ S f) (h2 : ∀ k, sm.blk k → ¬ S k) : FileAt w' f d X sm := ⟨u.get h.box h1, h.mkr.upd u h2⟩
theorem FileAt.ext (h : FileAt w f d X sm) (u : Ext w w') : FileAt w' f d X sm := h.upd u id fun _ _ => id
theorem FileAt.nblk (h : FileAt w f d X sm) : ¬ sm.blk f := fun hh => by
  obtain ⟨c, fr, hc⟩ := h.mkr.blk_cells hh
  rw [h.box] at hc; cases hc
theorem FileAt.set (h : FileAt w f d X sm) (u : Upd (fun k => k = f) w w') {Y : Fil} (hb : w'.heap[f]? = some (.cells (fcells d Y sm) 110 (0, 0))) (hm : Y.mark = X.mark) : FileAt w' f d Y sm :=
  ⟨hb, by rw [hm]; exact h.mkr.upd u fun k hk hh => h.nblk (hh ▸ hk)⟩
theorem known_at (i : Nat) (v : Value) (h : (Cells.vals c57 (stT X.known))[i]? = some v) : (fcells d X sm)[3 + i]? = some v := by
  match i, h with
  | 0, h => exact h
  | 1, h => exact h
  | 2, h => exact h
  | i + 3, h => cases h
theorem tried_at (i : Nat) (v : Value) (h : (Cells.vals c57 (stT X.tried))[i]? = some v) : (fcells d X sm)[6 + i]? = some v := by
  match i, h with
  | 0, h => exact h
  | 1, h => exact h
  | 2, h => exact h
  | i + 3, h => cases h
theorem stm_at {s : Stm} (i : Nat) (v : Value) (h : (Cells.vals c57 (stT s))[i]? = some v) : (Cells.vals c57 (stT s)).toArray[0 + i]? = some v := by rw [Nat.zero_add, ← Array.getElem?_toList]; exact h
theorem set_tried (s : Stm) : setRow (fcells d X sm) 6 (Cells.vals c57 (stT s)) = fcells d { X with tried := s } sm := rfl
structure FS (w : World) (f d : Nat) (X : Fil) (sm : Sl) (F : Nat → Prop) : Prop where
  at_ : FileAt w f d X sm
  nf : ¬ F f
  nm : ∀ k, sm.blk k → ¬ F k
  laid : LaidE w
  small : X.mark.length < 1024
  name : X.name.size ≤ 2 ^ 40
  nz : f ≠ 0
theorem FS.step (h : FS w f d X sm F) (A : DS w d F D N) (u : Upd F w w') (hF : ∀ k, F' k → F k ∨ w.heap.size ≤ k) : FS w' f d X sm F' :=
  ⟨h.at_.upd u h.nf h.nm, fun hh => (hF _ hh).elim h.nf fun hl => by have := lt_of_heap h.at_.box; omega, fun k hk hh => (hF _ hh).elim (h.nm k hk) fun hl => by have := h.at_.mkr.blk_lt hk; omega, h.laid.upd u A.no0, h.small, h.name, h.nz⟩
theorem FS.ext (h : FS w f d X sm F) (u : Ext w w') : FS w' f d X sm F := ⟨h.at_.ext u, h.nf, h.nm, h.laid.ext u, h.small, h.name, h.nz⟩
theorem FS.set (h : FS w f d X sm F) (u : Upd (fun k => k = f) w w') {Y : Fil} (hb : w'.heap[f]? = some (.cells (fcells d Y sm) 110 (0, 0))) (hm : Y.mark = X.mark) (hn : Y.name = X.name) : FS w' f d Y sm F :=
  ⟨h.at_.set u hb hm, h.nf, h.nm, h.laid.upd u fun hh => h.nz hh.symm, by rw [hm]; exact h.small, by rw [hn]; exact h.name, h.nz⟩
theorem fwrite_call (A : DS w d F D N) (hN : N + 6000 ≤ 2 ^ 30) (h : Txt w p e lim na O M) (hO : ∀ k, O k → ¬ F k ∧ k ≠ f) (hX : FS w f d X sm F) {K : Value → World → Prop}
    (hK : ∀ F' w' v, let r := writeP D X.name (X.mark ++ bOf M) X.tried X.known
      ErrV w' v r.2.1 → DS w' d F' r.1 (N + 5002) → FS w' f d { X with tried := r.2.2.1, known := r.2.2.2 } sm F' → Upd (fun k => F k ∨ k = f) w w' → (∀ k, F' k → F k ∨ w.heap.size ≤ k) → K v w') :
    callT Tryz.prog 58 #[.pointer (some (at0 f)), .string X.name, .pointer (some (at0 p)), .pointer (some ⟨f, 6, none⟩), .pointer (some ⟨f, 3, none⟩)] (.one (.one .any)) K w := by
  refine F58_calls ?_
  unfold F58
  refine replace_call (t := X.tried) A hN h (fun k hk => (hO k hk).1) hX.at_.box rfl rfl hX.nf hX.at_.mkr hX.nm hX.small hX.laid hX.at_.box (by show 6 + 3 ≤ 9; decide) (fun _ => by decide) hX.nf (fun hh => (hO f hh).2 rfl) hX.at_.nblk hX.nz (by decide) (fun i v hv => tried_at i v hv) hX.name fun F1 w1 v1 hv1 A1 u1 hF1 n1 => ?_
  obtain ⟨r, hr⟩ : ∃ r, r = replP D X.name (X.mark ++ bOf M) X.tried := ⟨_, rfl⟩
  rw [← hr] at hv1 A1 n1
  rw [set_tried] at n1
  have hw : writeP D X.name (X.mark ++ bOf M) X.tried X.known = if r.2.1 ≠ 0 then (r.1, r.2.1, r.2.2, X.known) else ((callSyncDir r.1).1, (callSyncDir r.1).2.1, r.2.2, r.2.2) := by rw [hr]; rfl
  have lf := lt_of_heap hX.at_.box
  have X1 : FS w1 f d { X with tried := r.2.2 } sm F1 := by
    refine ⟨⟨n1, hX.at_.mkr.upd u1 fun k hk hh => hh.elim (hX.nm k hk) fun h' => hX.at_.nblk (h' ▸ hk)⟩, fun hh => (hF1 _ hh).elim hX.nf fun hl => by omega, fun k hk hh => (hF1 _ hh).elim (hX.nm k hk) fun hl => by have := hX.at_.mkr.blk_lt hk; omega, hX.laid.upd u1 fun hh => hh.elim A.no0 fun h' => hX.nz h'.symm, hX.small, hX.name, hX.nz⟩
  refine hv1.nenil (sif_r (fun he => ?_) fun he => ?_)
  · have he := of_decide_eq_true he
    have hk := hK F1 w1 v1
    rw [hw, if_pos he] at hk
    exact hk hv1 (A1.mono (by omega)) X1 u1 hF1
  · have he := of_decide_eq_false he
    rw [if_neg he] at hw
    have h0 : r.2.1 = 0 := by omega
    refine nn_some (lds_r (x := stT r.2.2) X1.at_.box (fun i v hv => tried_at (X := { X with tried := r.2.2 }) i v hv) (nn_some (aggSt_r X1.at_.box rfl rfl (by show 3 + 3 ≤ 9; decide) fun w2 u2 n2 hz2 => ?_)))
    have n2 : w2.heap[f]? = some (.cells (fcells d { X with tried := r.2.2, known := r.2.2 } sm) 110 (0, 0)) := n2
    have X2 : FS w2 f d { X with tried := r.2.2, known := r.2.2 } sm F1 := X1.set u2 n2 rfl rfl
    have A2 := A1.frame u2 fun k hk hh => X1.nf (hh ▸ hk)
    refine nn_some (ld_r n2 (off := 0) (x := some (at0 d)) rfl (syncdirS A2 (by omega) fun F3 w3 v3 hv3 A3 u3 hF3 => ?_))
    have hk := hK F3 w3 v3
    rw [hw] at hk
    have z2 := u2.size
    have z1 := u1.size
    refine hk hv3 A3 (X2.step A2 u3 hF3) ?_ fun k hk => ?_
    · exact (u1.trans (u2.mono fun k _ hk => .inr hk)).new u3 fun k hk hh => by rcases hF1 k hh with h' | h'; exact .inl h'; omega
    · rcases hF3 k hk with hh | hh
      · exact hF1 k hh
      · exact .inr (by omega)
end
end Dq
end Go.Proofs.YtmooldhpiopcgaaGreatDoor
set_option linter.unusedSimpArgs false
set_option linter.unusedVariables false
set_option maxRecDepth 100000
namespace Go.Proofs.YtmooldhpiopcgaaGreatDoor
namespace Dq
open Go Go.Vx Dsk Cdc Trx
section
variable {w w' : World} {S F F' : Nat → Prop} {d : Nat} {D : Dk} {N : Nat} {p : Nat} {e : Enc} {lim na : Nat} {O : Nat → Prop} {M : Parts} {f : Nat} {X : Fil} {sm : Sl}
set_option maxHeartbeats 1000000 in
theorem save_call (A : DS w d F D N) (hN : N + 6010 ≤ 2 ^ 30) (h : Txt w p e lim na O M) (hO : ∀ k, O k → ¬ F k ∧ k ≠ f) (hX : FS w f d X sm F) {force : Bool} {K : Int → World → Prop}
    (hK : ∀ F' w', let r := saveP D X (bOf M) force
      DS w' d F' r.1 (N + 5004) → FS w' f d r.2.2 sm F' → Txt w' p e lim na O M → (∀ k, O k → ¬ F' k ∧ k ≠ f) → Upd (fun k => F k ∨ k = f) w w' → (∀ k, F' k → F k ∨ w.heap.size ≤ k) → K r.2.1 w') :
    callT Tryz.prog 27 #[.pointer (some (at0 f)), .pointer (some (at0 p)), .bool force] (.one (.one (.int .i64))) K w := by
  refine F27_calls ?_
  unfold F27
  obtain ⟨s, hs⟩ : ∃ s, s = callStamp D X.name := ⟨_, rfl⟩
  have hAlt := A.lt
  have lf := lt_of_heap hX.at_.box
  have hsv : saveP D X (bOf M) force = if s.2.1 ≠ 0 ∧ s.2.1 ≠ 162 then (s.1, s.2.1, X) else
      if force = false ∧ s.2.2 ≠ (if s.2.1 = 0 ∧ s.2.2 = X.tried then s.2.2 else X.known) then (s.1, 170, { X with known := (if s.2.1 = 0 ∧ s.2.2 = X.tried then s.2.2 else X.known) }) else
      ((writeP s.1 X.name (X.mark ++ bOf M) X.tried (if s.2.1 = 0 ∧ s.2.2 = X.tried then s.2.2 else X.known)).1, (writeP s.1 X.name (X.mark ++ bOf M) X.tried (if s.2.1 = 0 ∧ s.2.2 = X.tried then s.2.2 else X.known)).2.1, { X with tried := (writeP s.1 X.name (X.mark ++ bOf M) X.tried (if s.2.1 = 0 ∧ s.2.2 = X.tried then s.2.2 else X.known)).2.2.1, known := (writeP s.1 X.name (X.mark ++ bOf M) X.tried (if s.2.1 = 0 ∧ s.2.2 = X.tried then s.2.2 else X.known)).2.2.2 }) := by
    rw [hs]; rfl
  obtain ⟨kn, hkn⟩ : ∃ kn, kn = (if s.2.1 = 0 ∧ s.2.2 = X.tried then s.2.2 else X.known) := ⟨_, rfl⟩
  rw [← hkn] at hsv
  have tx : ∀ {W : World} {F1 : Nat → Prop}, Upd (fun k => F k ∨ k = f) w W → (∀ k, F1 k → F k ∨ w.heap.size ≤ k) → Txt W p e lim na O M ∧ ∀ k, O k → ¬ F1 k ∧ k ≠ f := fun {W F1} u hF1 =>
    ⟨h.upd u (fun k hk hh => hh.elim (hO k hk).1 (hO k hk).2) (fun k hk c fr hc => by
      rcases hk with hk | hk
      · exact A.no (fun _ => rfl) k hk c fr hc
      · rw [hk, hX.at_.box] at hc; cases hc), fun k hk => ⟨fun hh => (hF1 k hh).elim (hO k hk).1 fun hl => by have := h.own k hk; omega, (hO k hk).2⟩⟩
  refine join_r (fun x W => ∃ bS F1 v, x = (at0 bS, v, ()) ∧ W.heap[bS]? = some (.cells (Cells.vals c57 (stT s.2.2)).toArray 57 (0, 0)) ∧ DS W d F1 s.1 (N + 2) ∧ ErrV W v s.2.1 ∧ Upd F w W ∧ (∀ k, F1 k → F k ∨ w.heap.size ≤ k) ∧ w.heap.size ≤ bS) ?_ ?_
  · refine drew_r fun w1 e1 _ => nn_some (ld_r (e1.ext_get hX.at_.box) (off := 0) (x := some (at0 d)) rfl (nn_some ?_))
    rw [addr_add]
    refine ld_r (e1.ext_get hX.at_.box) (off := 0 + 1) (x := X.name) rfl ⟨?_, ?_⟩
    · refine newO_r fun b w2 e2 n2 hb2 hz2 => keep_r (cell_of (off := 0 + 1) (e2.ext_get (e1.ext_get hX.at_.box)) rfl) (keep_r (cell_of (off := 0) (e2.ext_get (e1.ext_get hX.at_.box)) rfl) ?_)
      have A2 := (A.ext e1).ext e2
      have z1 := e1.size
      refine stampS A2 (by omega) fun F3 w3 v3 hv3 A3 u3 hF3 => ?_
      rw [← hs] at hv3 A3 ⊢
      have hnb : ¬ F b := fun hh => by have := hAlt _ hh; omega
      have hnb3 : ¬ F3 b := fun hh => (hF3 _ hh).elim hnb fun h' => by omega
      refine aggSt_r (u3.get n2 hnb) rfl rfl (by decide) fun w4 u4 n4 _ => ⟨b, F3, v3, rfl, n4, A3.frame u4 fun k hk hh => hnb3 (hh ▸ hk), hv3.upd u4 (NoTy.box (u3.get n2 hnb) (by decide)), (((Upd.of_ext (e1.trans e2)).trans u3).new u4 fun k hk hh => by omega), fun k hk => (hF3 k hk).imp id fun h' => by omega, by omega⟩
    · refine stampS (A.ext e1) (by omega) fun F3 w3 v3 hv3 A3 u3 hF3 => ⟨?_, trivial⟩
      rw [← hs] at hv3 A3 ⊢
      have z1 := e1.size
      have z3 := u3.size
      refine newO_r fun b w4 e4 n4 hb4 hz4 => keep_r (cell_of (off := 0 + 1) (e4.ext_get (u3.get (e1.ext_get hX.at_.box) hX.nf)) rfl) (keep_r (cell_of (off := 0) (e4.ext_get (u3.get (e1.ext_get hX.at_.box) hX.nf)) rfl) ?_)
      have hnb3 : ¬ F3 b := fun hh => by have := A3.lt _ hh; omega
      refine aggSt_r n4 rfl rfl (by decide) fun w5 u5 n5 _ => ⟨b, F3, v3, rfl, n5, (A3.ext e4).frame u5 fun k hk hh => hnb3 (hh ▸ hk), (hv3.ext e4).upd u5 (NoTy.box n4 (by decide)), ((((Upd.of_ext e1).trans u3).trans (Upd.of_ext e4)).new u5 fun k hk hh => by omega), fun k hk => (hF3 k hk).imp id fun h' => by omega, by omega⟩
  rintro _ W1 ⟨bS, F1, v, rfl, nS, A1, hv, U1, G1, hbS⟩
  have X1 : FS W1 f d X sm F1 := hX.step A U1 G1
  have U1' : Upd (fun k => F k ∨ k = f) w W1 := U1.mono fun k _ hk => .inl hk
  have bSf : bS ≠ f := by omega
  refine join_at (decide (s.2.1 ≠ 0 ∧ s.2.1 ≠ 162), ()) (hv.nenil (sif_r (fun he => isv_call hv (by decide) ⟨tupb ?_, rfl⟩) fun he => ⟨tupb ?_, rfl⟩)) (sif_r (fun hb => ?_) fun hb => ?_)
  · have he := of_decide_eq_true he
    simp [he]
  · have he := of_decide_eq_false he
    simp only [decide_eq_true_eq]
    exact ⟨fun hh => (by cases hh), fun hh => absurd hh.1 he⟩
  · have hb := of_decide_eq_true hb
    refine number_call hv X1.laid fun w2 e2 => ?_
    have hk := hK F1 w2
    rw [hsv, if_pos hb] at hk
    obtain ⟨t1, t2⟩ := tx (U1'.trans (Upd.of_ext e2)) G1
    exact hk ((A1.ext e2).mono (by omega)) (X1.ext e2) t1 t2 (U1'.trans (Upd.of_ext e2)) G1
  have hb := of_decide_eq_false hb
  rw [if_neg hb] at hsv
  refine join_r (fun _ W => W.heap[bS]? = some (.cells (Cells.vals c57 (stT s.2.2)).toArray 57 (0, 0)) ∧ DS W d F1 s.1 (N + 2) ∧ FS W f d { X with known := kn } sm F1 ∧ Upd (fun k => F k ∨ k = f) w W) ?_ ?_
  · refine join_r (fun x W => x = (decide (s.2.1 = 0 ∧ s.2.2 = X.tried), ()) ∧ Ext W1 W) ?_ ?_
    · refine drew_r fun w2 e2 _ => (hv.ext e2).eqnil (sif_r (fun he => ?_) fun he => ?_)
      · have he := of_decide_eq_true he
        refine lds_r (x := stT s.2.2) (e2.ext_get nS) (fun i v hv => stm_at i v hv) (nn_some ?_)
        rw [addr_add]
        refine lds_r (x := stT X.tried) (e2.ext_get X1.at_.box) (fun i v hv => by rw [Nat.zero_add]; exact tried_at i v hv) (stm_eq ⟨tupb ?_, e2⟩)
        simp [he]
      · have he := of_decide_eq_false he
        refine ⟨tupb ?_, e2⟩
        simp [he]
    · rintro _ W2 ⟨rfl, e2⟩
      have U2 := U1'.trans (Upd.of_ext e2)
      refine sif_r (fun hc => ?_) fun hc => ?_
      · have hc := of_decide_eq_true hc
        rw [if_pos hc] at hkn
        refine lds_r (x := stT s.2.2) (e2.ext_get nS) (fun i v hv => stm_at i v hv) (nn_some ?_)
        rw [addr_add]
        refine aggSt_r (e2.ext_get X1.at_.box) rfl rfl (by show 0 + 3 + 3 ≤ 9; decide) fun w3 u3 n3 _ => ?_
        have n3 : w3.heap[f]? = some (.cells (fcells d { X with known := kn } sm) 110 (0, 0)) := by rw [hkn]; exact n3
        exact ⟨u3.get1 (e2.ext_get nS) bSf, (A1.ext e2).frame u3 fun k hk hh => X1.nf (hh ▸ hk), (X1.ext e2).set u3 n3 rfl rfl, U2.trans (u3.mono fun k _ hk => .inr hk)⟩
      · have hc := of_decide_eq_false hc
        rw [if_neg hc] at hkn
        exact ⟨e2.ext_get nS, A1.ext e2, by rw [hkn]; exact X1.ext e2, U2⟩
  rintro _ W3 ⟨nS3, A3, X3, U3⟩
  refine join_r (fun x W => x = (decide (force = false ∧ s.2.2 ≠ kn), ()) ∧ Ext W3 W) ?_ ?_
  · refine drew_r fun w4 e4 _ => sif_r (fun hf => ?_) fun hf => ?_
    · have hf : force = false := by simpa using hf
      refine lds_r (x := stT s.2.2) (e4.ext_get nS3) (fun i v hv => stm_at i v hv) (nn_some ?_)
      rw [addr_add]
      refine lds_r (x := stT kn) (e4.ext_get X3.at_.box) (fun i v hv => by rw [Nat.zero_add]; exact known_at (X := { X with known := kn }) i v hv) (stm_ne ⟨tupb ?_, e4⟩)
      simp [hf]
    · have hf : force = true := by simpa using hf
      refine ⟨tupb ?_, e4⟩
      simp [hf]
  rintro _ W4 ⟨rfl, e4⟩
  have U4 := U3.trans (Upd.of_ext e4)
  refine sif_r (fun hc => ?_) fun hc => ?_
  · have hc := of_decide_eq_true hc
    have hk := hK F1 W4
    rw [hsv, if_pos hc] at hk
    obtain ⟨t1, t2⟩ := tx U4 G1
    exact hk ((A3.ext e4).mono (by omega)) (X3.ext e4) t1 t2 U4 G1
  · have hc := of_decide_eq_false hc
    rw [if_neg hc] at hsv
    refine drew_r fun w5 e5 _ => nn_some ?_
    have U5 := U4.trans (Upd.of_ext e5)
    have X5 := (X3.ext e4).ext e5
    have A5 := (A3.ext e4).ext e5
    obtain ⟨t1, t2⟩ := tx U5 G1
    rw [addr_add]
    refine ld_r X5.at_.box (off := 0 + 1) (x := X.name) rfl (nn_some (nn_some ?_))
    rw [addr_add, addr_add]
    refine fwrite_call (X := { X with known := kn }) A5 (by omega) t1 t2 X5 fun F6 w6 v6 hv6 A6 X6 u6 hF6 => ?_
    have z5 := U5.size
    refine number_call hv6 X6.laid fun w7 e7 => ?_
    have hk := hK F6 w7
    rw [hsv] at hk
    have G6 : ∀ k, F6 k → F k ∨ w.heap.size ≤ k := fun k hk => (hF6 k hk).elim (G1 k) fun hh => .inr (by omega)
    have U7 : Upd (fun k => F k ∨ k = f) w w7 := (U5.new u6 fun k hk hh => by
      rcases hh with hh | hh
      · rcases G1 k hh with h' | h'
        · exact .inl h'
        · omega
      · exact .inr hh).trans (Upd.of_ext e7)
    obtain ⟨t3, t4⟩ := tx U7 G6
    exact hk ((A6.ext e7).mono (by omega)) (X6.ext e7) t3 t4 U7 G6
end
end Dq
end Go.Proofs.YtmooldhpiopcgaaGreatDoor
set_option linter.unusedSimpArgs false
set_option linter.unusedVariables false
set_option maxRecDepth 100000
namespace Go.Proofs.YtmooldhpiopcgaaGreatDoor
namespace Dq
open Go Go.Vx Dsk Cdc Trx
def detectP (b : List UInt8) : Int × Int :=
  if [239, 187, 191].isPrefixOf b then (1, 3) else if [255, 254].isPrefixOf b then (2, 2) else if [254, 255].isPrefixOf b then (3, 2) else (0, 0)
def markP (enc : Int) : List UInt8 := if enc = 1 then [239, 187, 191] else if enc = 2 then [255, 254] else if enc = 3 then [254, 255] else []
def encK (g : List UInt8 → Int) (enc : Int) (b : List UInt8) : Int × Int :=
  if enc = 0 ∧ (detectP b).1 ≠ 0 then detectP b else if enc = 0 then (g b, 0) else if (markP enc).isPrefixOf b then (enc, (markP enc).length) else (enc, 0)
structure Lod where
  enc : Int
  mark : Int
  data : List UInt8
  new : Bool
abbrev noLod : Lod := ⟨0, 0, [], false⟩
noncomputable def openP (g : List UInt8 → Int) (D : Dk) (n : Nm) (enc limit : Int) : Dk × Int × Option Fil × Lod :=
  if userName n = false then (D, 164, none, noLod) else
  if enc < 0 ∨ enc > 4 then (D, 10, none, noLod) else
  if limit < 0 ∨ limit > 65536 then (D, 1, none, noLod) else
  let s := callStamp D n
  if s.2.1 = 162 then (s.1, 0, some ⟨n, [], (0, 0, 0), (0, 0, 0)⟩, ⟨if 1 > enc then 1 else enc, 0, [], true⟩) else
  if s.2.1 ≠ 0 then (s.1, s.2.1, none, noLod) else
  let r := callRead s.1 n
  if r.2.1 ≠ 0 then (r.1, r.2.1, none, noLod) else
  let e := encK g enc r.2.2
  if (r.2.2.length : Int) - e.2 > limit then (r.1, 50, none, noLod) else
  (r.1, 0, some ⟨n, r.2.2.take e.2.toNat, s.2.2, (0, 0, 0)⟩, ⟨e.1, e.2, r.2.2.drop e.2.toNat, false⟩)
section
variable {w w' : World} {S F F' : Nat → Prop} {d : Nat} {D : Dk} {N : Nat}
theorem byt {s : Sl} {l : List UInt8} {n : Int} {K : Addr → Int → World → Prop} (h : Bytes w s l) (h0 : 0 ≤ n) {x : UInt8} (hx : l[n.toNat]? = some x) (hK : ∀ p, K p (x.toNat : Int) w) : ix s.a s.len n (fun p => ld (.int .u8) (p.add (scaled (Int.toNat n) 1)) (K p)) w :=
  ix_ldX (c := .int .u8) (xs := l.map fun b => (b.toNat : Int)) (by rw [List.map_map]; exact h) h0 (by rw [List.getElem?_map, hx]; rfl) hK
theorem bys_len {s : Sl} {l : List UInt8} (h : Bytes w s l) : l.length = s.len := by have := h.len1; rwa [List.length_map] at this
theorem u8_eq (x : UInt8) (n : Nat) (hn : n < 256) : (((x.toNat : Nat) : Int) == (n : Int)) = (x == UInt8.ofNat n) := by
  rw [Bool.eq_iff_iff, beq_iff_eq, beq_iff_eq]
  constructor
  · intro h
    have h : x.toNat = n := by omega
    rw [← h]; simp
  · rintro rfl
    simp [Nat.mod_eq_of_lt hn]
theorem pre3 (x y z : UInt8) (r : List UInt8) : [239, 187, 191].isPrefixOf (x :: y :: z :: r) = ((x == 239) && ((y == 187) && (z == 191))) := by
  show ((239 == x) && ((187 == y) && ((191 == z) && true))) = _
  rw [BEq.comm (a := (239 : UInt8)), BEq.comm (a := (187 : UInt8)), BEq.comm (a := (191 : UInt8)), Bool.and_true]
theorem pre2 (a b x y : UInt8) (r : List UInt8) : [a, b].isPrefixOf (x :: y :: r) = ((x == a) && (y == b)) := by
  show ((a == x) && ((b == y) && true)) = _
  rw [BEq.comm (a := a), BEq.comm (a := b), Bool.and_true]
theorem detect_call {s : Sl} {l : List UInt8} (h : Bytes w s l) {K : (Int × Int × Unit) → World → Prop} (hK : K ((detectP l).1, (detectP l).2, ()) w) : callT Tryz.prog 24 #[.slice s.a s.len s.cap] (.tup [(.one (.int .i64)), (.one (.int .i64))]) K w := by
  refine F24_calls (a0 := s) ?_
  unfold F24
  have hl := bys_len h
  have e239 : ∀ x : UInt8, (((x.toNat : Nat) : Int) == 239) = (x == 239) := fun x => u8_eq x 239 (by decide)
  have e187 : ∀ x : UInt8, (((x.toNat : Nat) : Int) == 187) = (x == 187) := fun x => u8_eq x 187 (by decide)
  have e191 : ∀ x : UInt8, (((x.toNat : Nat) : Int) == 191) = (x == 191) := fun x => u8_eq x 191 (by decide)
  have e255 : ∀ x : UInt8, (((x.toNat : Nat) : Int) == 255) = (x == 255) := fun x => u8_eq x 255 (by decide)
  have e254 : ∀ x : UInt8, (((x.toNat : Nat) : Int) == 254) = (x == 254) := fun x => u8_eq x 254 (by decide)
  refine join_at ([239, 187, 191].isPrefixOf l, ()) (sif_r (fun h3 => ?_) fun h3 => ?_) ?_
  · have h3 := of_decide_eq_true h3
    obtain ⟨x, y, z, r, rfl⟩ : ∃ x y z r, l = x :: y :: z :: r := by
      match l, hl with
      | [], hl => simp at hl; omega
      | [_], hl => simp at hl; omega
      | [_, _], hl => simp at hl; omega
      | x :: y :: z :: r, _ => exact ⟨x, y, z, r, rfl⟩
    refine byt h (by decide) (x := x) rfl fun _ => sif_r (fun h1 => byt h (by decide) (x := y) rfl fun _ => sif_r (fun h2 => byt h (by decide) (x := z) rfl fun _ => ⟨?_, rfl⟩) fun h2 => ⟨?_, rfl⟩) fun h1 => ⟨?_, rfl⟩
    all_goals (clear h hK hl h3; (first | rw [pre3] | rw [pre2]); simp_all)
  · have h3 := of_decide_eq_false h3
    refine ⟨?_, rfl⟩
    have : [239, 187, 191].isPrefixOf l = false := by
      rw [Bool.eq_false_iff]; intro hh
      have := (List.isPrefixOf_iff_prefix.1 hh).length_le
      simp at this; omega
    rw [this]
  refine sif_r (fun hb => ?_) fun hb => ?_
  · have : detectP l = (1, 3) := by unfold detectP; rw [if_pos hb]
    rw [this] at hK; exact hK
  have hb : [239, 187, 191].isPrefixOf l = false := hb
  have hb : ¬ ([239, 187, 191].isPrefixOf l = true) := by rw [hb]; simp
  refine join_at ([255, 254].isPrefixOf l, ()) (sif_r (fun h3 => ?_) fun h3 => ?_) ?_
  · have h3 := of_decide_eq_true h3
    obtain ⟨x, y, r, rfl⟩ : ∃ x y r, l = x :: y :: r := by
      match l, hl with
      | [], hl => simp at hl; omega
      | [_], hl => simp at hl; omega
      | x :: y :: r, _ => exact ⟨x, y, r, rfl⟩
    refine byt h (by decide) (x := x) rfl fun _ => sif_r (fun h1 => byt h (by decide) (x := y) rfl fun _ => ⟨?_, rfl⟩) fun h1 => ⟨?_, rfl⟩
    all_goals (clear h hK hl h3; (first | rw [pre3] | rw [pre2]); simp_all)
  · have h3 := of_decide_eq_false h3
    refine ⟨?_, rfl⟩
    have : [255, 254].isPrefixOf l = false := by
      rw [Bool.eq_false_iff]; intro hh
      have := (List.isPrefixOf_iff_prefix.1 hh).length_le
      simp at this; omega
    rw [this]
  refine sif_r (fun hb2 => ?_) fun hb2 => ?_
  · have : detectP l = (2, 2) := by unfold detectP; rw [if_neg hb, if_pos hb2]
    rw [this] at hK; exact hK
  have hb2 : [255, 254].isPrefixOf l = false := hb2
  have hb2 : ¬ ([255, 254].isPrefixOf l = true) := by rw [hb2]; simp
  refine join_at ([254, 255].isPrefixOf l, ()) (sif_r (fun h3 => ?_) fun h3 => ?_) ?_
  · have h3 := of_decide_eq_true h3
    obtain ⟨x, y, r, rfl⟩ : ∃ x y r, l = x :: y :: r := by
      match l, hl with
      | [], hl => simp at hl; omega
      | [_], hl => simp at hl; omega
      | x :: y :: r, _ => exact ⟨x, y, r, rfl⟩
    refine byt h (by decide) (x := x) rfl fun _ => sif_r (fun h1 => byt h (by decide) (x := y) rfl fun _ => ⟨?_, rfl⟩) fun h1 => ⟨?_, rfl⟩
    all_goals (clear h hK hl h3; (first | rw [pre3] | rw [pre2]); simp_all)
  · have h3 := of_decide_eq_false h3
    refine ⟨?_, rfl⟩
    have : [254, 255].isPrefixOf l = false := by
      rw [Bool.eq_false_iff]; intro hh
      have := (List.isPrefixOf_iff_prefix.1 hh).length_le
      simp at this; omega
    rw [this]
  refine sif_r (fun hb3 => ?_) fun hb3 => ?_
  · have : detectP l = (3, 2) := by unfold detectP; rw [if_neg hb, if_neg hb2, if_pos hb3]
    rw [this] at hK; exact hK
  · have hb3 : [254, 255].isPrefixOf l = false := hb3
    have : detectP l = (0, 0) := by unfold detectP; rw [if_neg hb, if_neg hb2, if_neg (by rw [hb3]; simp)]
    rw [this] at hK; exact hK
theorem markB_call {enc : Int} {K : Sl → World → Prop} (hK : ∀ s w', BytesO w' w.heap.size s (markP enc) → Ext w w' → K s w') : callT Tryz.prog 25 #[.int .i64 enc] (.one (.one .sl)) K w := by
  refine F25_calls ?_
  unfold F25
  have lit : ∀ (c : List UInt8) (b : Nat) (w1 : World), w1.heap[b]? = some (.cells (bv c).toArray 5 (0, 0)) → b = w.heap.size → BytesO w1 w.heap.size ⟨some (at0 b), c.length, c.length⟩ c := fun c b w1 h hb =>
    ⟨by simp, Nat.le_refl _, .inr ⟨b, 0, (bv c).toArray, rfl, by omega, h, by simp, fun j v hj => by simpa using hj⟩⟩
  refine sif_r (fun h => ?_) fun h => sif_r (fun h2 => ?_) fun h2 => sif_r (fun h3 => ?_) fun h3 => ?_
  · have h : enc = 1 := by simpa using h
    subst h
    exact newO_r fun b w1 e1 n1 hb hz => hK _ w1 (lit [239, 187, 191] b w1 n1 hb) e1
  · have h : enc = 2 := by simpa using h2
    subst h
    exact newO_r fun b w1 e1 n1 hb hz => hK _ w1 (lit [255, 254] b w1 n1 hb) e1
  · have h : enc = 3 := by simpa using h3
    subst h
    exact newO_r fun b w1 e1 n1 hb hz => hK _ w1 (lit [254, 255] b w1 n1 hb) e1
  · have h : enc ≠ 1 := by simpa using h
    have h2 : enc ≠ 2 := by simpa using h2
    have h3 : enc ≠ 3 := by simpa using h3
    have : markP enc = [] := by unfold markP; rw [if_neg h, if_neg h2, if_neg h3]
    exact hK _ w (by rw [this]; exact SlOwn.nil _ _ _ _) (Ext.refl w)
theorem hasPrefix_call {s m : Sl} {l p : List UInt8} (h : SlIn w s 5 1 (bv l)) (hp : Bytes w m p) {K : Bool → World → Prop} (hK : K (p.isPrefixOf l) w) : callT Tryz.prog 56 #[.slice s.a s.len s.cap, .slice m.a m.len m.cap] (.one (.one .bool)) K w := by
  refine F56_calls (a0 := s) (a1 := m) ?_
  unfold F56
  have hl := bys_len h.x
  have hpl := bys_len hp
  have hcap := h.le
  refine sif_r (fun hge => ?_) fun hge => ?_
  · have hge := of_decide_eq_true hge
    refine slc_r h (by omega) (by omega) (by omega) (by omega) (by omega) fun x hx _ _ _ => ?_
    have hbv : ((bv l).drop (Int.toNat 0 * 1)).take ((Int.toNat ((m.len : Nat) : Int) - Int.toNat 0) * 1) = bv (l.take p.length) := by
      rw [Int.toNat_natCast, hpl]; simp [List.map_take]
    rw [hbv] at hx
    refine F96_calls (a0 := x) (a1 := m) ?_
    unfold F96
    refine bytesStr_r uB ub us hx.x (bytesStr_r uB ub us hp ?_)
    have : (ByteArray.toList ⟨(l.take p.length).toArray⟩ == ByteArray.toList ⟨p.toArray⟩) = p.isPrefixOf l := by
      rw [bytes_eq, Bool.eq_iff_iff, decide_eq_true_eq, List.isPrefixOf_iff_prefix, List.prefix_iff_eq_take]
      constructor
      · intro hh
        have := congrArg (fun b : ByteArray => b.data.toList) hh
        simpa using this.symm
      · intro hh
        rw [← hh]
    rw [this]; exact hK
  · have hge := of_decide_eq_false hge
    have : p.isPrefixOf l = false := by
      rw [Bool.eq_false_iff]; intro hh
      have := (List.isPrefixOf_iff_prefix.1 hh).length_le
      omega
    rw [this] at hK; exact hK
structure OpenR (w w' : World) (d : Nat) (F : Nat → Prop) (N : Nat) (r : Dk × Int × Option Fil × Lod) (F' : Nat → Prop) (fo : Option Addr) (sd : Sl) : Prop where
  disk : DS w' d F' r.1 (N + 4)
  upd : Upd F w w'
  new : ∀ k, F' k → F k ∨ w.heap.size ≤ k
  file : match r.2.2.1 with
    | some X => ∃ f sm, fo = some (at0 f) ∧ FS w' f d X sm F' ∧ w.heap.size ≤ f ∧ ∀ k, sm.blk k → w.heap.size ≤ k
    | none => fo = none
  data : BytesO w' w.heap.size sd r.2.2.2.data
  apart : ∀ k, sd.blk k → ¬ F' k
  apartf : ∀ f, fo = some (at0 f) → ¬ sd.blk f
def GuessOk (g : List UInt8 → Int) : Prop := ∀ (l : List UInt8) (s : Sl) (w : World) (K : Int × Value × Unit → World → Prop), l.length ≤ 1048576 → SlIn w s 5 1 (bv l) → (detectP l).1 = 0 → (∀ v w', Ext w w' → K (g l, v, ()) w') → callT Tryz.prog 55 #[.slice s.a s.len s.cap] (.tup [(.one (.int .i64)), (.one .any)]) K w
theorem enc_bound {g : List UInt8 → Int} {enc : Int} {b : List UInt8} : 0 ≤ (encK g enc b).2 ∧ (encK g enc b).2 ≤ b.length ∧ (encK g enc b).2 ≤ 3 := by
  have pf : ∀ m : List UInt8, m.length ≤ 3 → m.isPrefixOf b = true → 0 ≤ (m.length : Int) ∧ (m.length : Int) ≤ b.length ∧ (m.length : Int) ≤ 3 := fun m hm h => by
    have := (List.isPrefixOf_iff_prefix.1 h).length_le
    omega
  have hd : 0 ≤ (detectP b).2 ∧ (detectP b).2 ≤ b.length ∧ (detectP b).2 ≤ 3 := by
    unfold detectP
    split
    · rename_i h; exact pf [239, 187, 191] (by decide) h
    · split
      · rename_i h; exact pf [255, 254] (by decide) h
      · split
        · rename_i h; exact pf [254, 255] (by decide) h
        · exact ⟨by decide, by show (0 : Int) ≤ _; omega, by decide⟩
  unfold encK
  split
  · exact hd
  · split
    · exact ⟨Int.le_refl _, by show (0 : Int) ≤ _; omega, by show (0 : Int) ≤ 3; decide⟩
    · split
      · rename_i h; exact pf _ (by unfold markP; split; decide; split; decide; split; decide; decide) h
      · exact ⟨Int.le_refl _, by show (0 : Int) ≤ _; omega, by show (0 : Int) ≤ 3; decide⟩
end
end Dq
end Go.Proofs.YtmooldhpiopcgaaGreatDoor
set_option linter.unusedSimpArgs false
set_option linter.unusedVariables false
set_option maxRecDepth 100000
namespace Go.Proofs.YtmooldhpiopcgaaGreatDoor
namespace Dq
open Go Go.Vx Dsk Cdc Trx
section
variable {w w' : World} {S F F' : Nat → Prop} {d : Nat} {D : Dk} {N : Nat}
abbrev lodC (a b : Int) (s : Sl) (n : Bool) : Cells.T c32 := (a, b, s, n, ())
theorem lod_at {x : Cells.T c32} (i : Nat) (v : Value) (h : (Cells.vals c32 x)[i]? = some v) : (Cells.vals c32 x).toArray[0 + i]? = some v := by rw [Nat.zero_add, ← Array.getElem?_toList]; exact h
theorem read_len (ok : DkOk D N) (n : Nm) : (callRead D n).2.2.length ≤ 1048576 := by
  have key : ∀ D1 : Dk, D1.files = D.files → (rdR n D1).2.2.length ≤ 1048576 := by
    intro D1 h1
    unfold rdR
    split
    · exact Nat.zero_le _
    · rename_i i _ _
      show (fl D1 i).data.length ≤ _
      unfold fl
      rw [h1, List.getD_eq_getElem?_getD]
      cases hi : D.files[i]? with
      | none => exact Nat.zero_le _
      | some f => exact (ok.fil i f hi).1
  unfold callRead
  dsimp only
  split
  · unfold Dsk.step
    split
    · exact Nat.zero_le _
    · split
      · exact key _ rfl
      · unfold faulty
        repeat' split
        all_goals first | exact Nat.zero_le _ | exact key _ rfl
  · exact Nat.zero_le _
set_option maxHeartbeats 1000000 in
theorem open_call {g : List UInt8 → Int} {enc : Int} {n : Nm} (hG : userName n = true → GuessOk g ∨ enc ≠ 0 ∨ (callStamp D n).2.1 = 162) (A : DS w d F D N) (hN : N + 10 ≤ 2 ^ 30) (hl : LaidE w) (hn : n.size < 2 ^ 62) {limit : Int} {K : (Option Addr × (Int × Int × Sl × Bool × Unit) × Int × Unit) → World → Prop}
    (hK : ∀ F' w' fo sd, let r := openP g D n enc limit
      OpenR w w' d F N r F' fo sd → K (fo, (r.2.2.2.enc, r.2.2.2.mark, sd, r.2.2.2.new, ()), r.2.1, ()) w') :
    callT Tryz.prog 18 #[.pointer (some (at0 d)), .string n, .int .i64 enc, .int .i64 limit] (.tup [(.one .ptr), (.agg c32), (.one (.int .i64))]) K w := by
  refine F18_calls ?_
  unfold F18
  have hAlt := A.lt
  have hpos := A.pos
  refine newO_r fun b1 w1 e1 n1 hb1 hz1 => newO_r fun b2 w2 e2 n2 hb2 hz2 => name_call hn fun w3 e3 => ?_
  have e03 := (e1.trans e2).trans e3
  have m1 := (e2.trans e3).ext_get n1
  have m2 := e3.ext_get n2
  have nF1 : ¬ F b1 := fun hh => by have := hAlt _ hh; omega
  have nF2 : ¬ F b2 := fun hh => by have := hAlt _ hh; omega
  have hz3 := e3.size
  clear n1 n2 e1 e2 e3
  have bad0 : ∀ (W : World) (F1 : Nat → Prop) (D1 : Dk) (er : Int), DS W d F1 D1 (N + 4) → W.heap[b1]? = some (.cells #[.int .i64 0, .int .i64 0, .slice none 0 0, .bool false] 32 (0, 0)) → ¬ F1 b1 → Upd F w W → (∀ k, F1 k → F k ∨ w.heap.size ≤ k) →
      openP g D n enc limit = (D1, er, none, noLod) → (aggSt (at0 b1) (.agg (Cells.vals c32 (lodC 0 0 ⟨none, 0, 0⟩ false)).toArray) 4 <| lds c32 (at0 b1) fun y => K (none, y, er, ())) W := by
    intro W F1 D1 er A1 h1 hb U hF he
    refine aggSt_r h1 rfl rfl (by decide) fun W3 u3 n3 _ => lds_r (x := lodC 0 0 ⟨none, 0, 0⟩ false) n3 (fun i v hv => lod_at i v hv) ?_
    have hk := hK F1 W3 none ⟨none, 0, 0⟩
    rw [he] at hk
    exact hk ⟨A1.frame u3 fun k hk hh => hb (hh ▸ hk), U.new u3 fun k hk hh => by omega, hF, rfl, SlOwn.nil _ _ _ _, fun k hk => nil_blk hk, fun f hf => by cases hf⟩
  have bad : ∀ (W : World) (F1 : Nat → Prop) (D1 : Dk) (er : Int), DS W d F1 D1 (N + 4) → W.heap[b1]? = some (.cells #[.int .i64 0, .int .i64 0, .slice none 0 0, .bool false] 32 (0, 0)) → W.heap[b2]? = some (.cells #[.int .i64 0, .int .i64 0, .slice none 0 0, .bool false] 32 (0, 0)) → ¬ F1 b1 → Upd F w W → (∀ k, F1 k → F k ∨ w.heap.size ≤ k) →
      openP g D n enc limit = (D1, er, none, noLod) → (drew <| lds c32 (at0 b2) fun x => aggSt (at0 b1) (.agg (Cells.vals c32 x).toArray) 4 <| lds c32 (at0 b1) fun y => K (none, y, er, ())) W := by
    intro W F1 D1 er A1 h1 h2 hb U hF he
    exact drew_r fun W2 e2 _ => lds_r (x := lodC 0 0 ⟨none, 0, 0⟩ false) (e2.ext_get h2) (fun i v hv => lod_at i v hv) (bad0 W2 F1 D1 er (A1.ext e2) (e2.ext_get h1) hb (U.trans (Upd.of_ext e2)) hF he)
  have bad2 : ∀ (W : World) (F1 : Nat → Prop) (D1 : Dk) (v : Value) (er : Int), ErrV W v er → LaidE W → DS W d F1 D1 (N + 4) → W.heap[b1]? = some (.cells #[.int .i64 0, .int .i64 0, .slice none 0 0, .bool false] 32 (0, 0)) → W.heap[b2]? = some (.cells #[.int .i64 0, .int .i64 0, .slice none 0 0, .bool false] 32 (0, 0)) → ¬ F1 b1 → Upd F w W → (∀ k, F1 k → F k ∨ w.heap.size ≤ k) →
      openP g D n enc limit = (D1, er, none, noLod) → (drew <| lds c32 (at0 b2) fun x => callT Tryz.prog 54 #[v] (.one (.one (.int .i64))) fun q => keep (fun w => cellsAt w (at0 b2) 0 (Cells.vals c32 x)) <| aggSt (at0 b1) (.agg (Cells.vals c32 x).toArray) 4 <| lds c32 (at0 b1) fun y => K (none, y, q, ())) W := by
    intro W F1 D1 v er hv hL A1 h1 h2 hb U hF he
    refine drew_r fun W2 e2 _ => lds_r (x := lodC 0 0 ⟨none, 0, 0⟩ false) (e2.ext_get h2) (fun i v hv => lod_at i v hv) (number_call (hv.ext e2) (hL.ext e2) fun W3 e3 => keep_r ?_ ?_)
    · exact cellsAt_of (off := 0) _ 0 fun j v hv => by rw [Nat.zero_add]; exact cell_of (e3.ext_get (e2.ext_get h2)) (lod_at j v hv)
    · exact bad0 W3 F1 D1 er ((A1.ext e2).ext e3) (e3.ext_get (e2.ext_get h1)) hb ((U.trans (Upd.of_ext e2)).trans (Upd.of_ext e3)) hF he
  have A3 := A.ext e03
  have U3 : Upd F w w3 := Upd.of_ext e03
  refine sif_r (fun hc => ?_) fun hc => ?_
  · have hc : userName n = false := by simpa using hc
    exact bad w3 F D 164 (A3.mono (by omega)) m1 m2 nF1 U3 (fun k hk => .inl hk) (by unfold openP; rw [if_pos hc])
  have hc : userName n = true := by simpa using hc
  have hnc : ¬ userName n = false := by rw [hc]; simp
  refine join_at (decide (enc < 0 ∨ enc > 4), ()) (sif_r (fun h => ⟨tupb ?_, rfl⟩) fun h => ⟨tupb ?_, rfl⟩) (sif_r (fun h => ?_) fun h => ?_)
  · have h := of_decide_eq_true h; simp [h]
  · have h := of_decide_eq_false h; simp only [decide_eq_true_eq]; omega
  · have h := of_decide_eq_true h
    exact bad w3 F D 10 (A3.mono (by omega)) m1 m2 nF1 U3 (fun k hk => .inl hk) (by unfold openP; rw [if_neg hnc, if_pos h])
  have henc := of_decide_eq_false h
  refine join_at (decide (limit < 0 ∨ limit > 65536), ()) (sif_r (fun h => ⟨tupb ?_, rfl⟩) fun h => ⟨tupb ?_, rfl⟩) (sif_r (fun h => ?_) fun h => ?_)
  · have h := of_decide_eq_true h; simp [h]
  · have h := of_decide_eq_false h; simp only [decide_eq_true_eq]; omega
  · have h := of_decide_eq_true h
    exact bad w3 F D 1 (A3.mono (by omega)) m1 m2 nF1 U3 (fun k hk => .inl hk) (by unfold openP; rw [if_neg hnc, if_neg henc, if_pos h])
  have hlim := of_decide_eq_false h
  refine stampS A3 (by omega) fun F4 w4 v4 hv4 A4 u4 hF4 => ?_
  obtain ⟨s, hs⟩ : ∃ s, s = callStamp D n := ⟨_, rfl⟩
  rw [← hs] at hv4 A4 ⊢
  have z4 := u4.size
  have U4 := U3.trans u4
  have G4 : ∀ k, F4 k → F k ∨ w.heap.size ≤ k := fun k hk => (hF4 k hk).imp id fun hh => by omega
  have nn4 : ∀ b, ¬ F b → b < w3.heap.size → ¬ F4 b := fun b h1 h2 hh => (hF4 _ hh).elim h1 fun h' => by omega
  refine newO_r fun b15 w5 e5 n5 hb5 hz5 => aggSt_r n5 rfl rfl (by decide) fun w6 u6 n6 hz6 => ?_
  have n6 : w6.heap[b15]? = some (.cells (Cells.vals c57 (stT s.2.2)).toArray 57 (0, 0)) := n6
  have e46 : Ext w4 w6 := e5.step u6 fun k hk => by omega
  have A6 := A4.ext e46
  have U6 := U4.trans (S := F) (Upd.of_ext e46)
  have m16 := e46.ext_get (u4.get m1 nF1)
  have m26 := e46.ext_get (u4.get m2 nF2)
  have hl6 := ((hl.ext e03).upd u4 A3.no0).ext e46
  have nF41 := nn4 b1 nF1 (by have := lt_of_heap m1; omega)
  have nF42 := nn4 b2 nF2 (by have := lt_of_heap m2; omega)
  have hop : openP g D n enc limit = if s.2.1 = 162 then (s.1, 0, some ⟨n, [], (0, 0, 0), (0, 0, 0)⟩, ⟨if 1 > enc then 1 else enc, 0, [], true⟩) else
      if s.2.1 ≠ 0 then (s.1, s.2.1, none, noLod) else
      if (callRead s.1 n).2.1 ≠ 0 then ((callRead s.1 n).1, (callRead s.1 n).2.1, none, noLod) else
      if ((callRead s.1 n).2.2.length : Int) - (encK g enc (callRead s.1 n).2.2).2 > limit then ((callRead s.1 n).1, 50, none, noLod) else
      ((callRead s.1 n).1, 0, some ⟨n, (callRead s.1 n).2.2.take (encK g enc (callRead s.1 n).2.2).2.toNat, s.2.2, (0, 0, 0)⟩, ⟨(encK g enc (callRead s.1 n).2.2).1, (encK g enc (callRead s.1 n).2.2).2, (callRead s.1 n).2.2.drop (encK g enc (callRead s.1 n).2.2).2.toNat, false⟩) := by
    unfold openP
    rw [if_neg hnc, if_neg henc, if_neg hlim, hs]
  have hnl : n.size < 32 := by
    unfold userName at hc
    simp only [Bool.and_eq_true, decide_eq_true_eq] at hc
    exact hc.1.2
  refine isv_call (hv4.ext e46) (by decide) (sif_r (fun h => ?_) fun h => ?_)
  ·
    have h := of_decide_eq_true h
    rw [if_pos h] at hop
    refine newO_r fun b17 w7 e7 n7 hb7 hz7 => aggSt_r (e7.ext_get m16) rfl rfl (by decide) fun w8 u8 n8 hz8 => lds_r (x := lodC (if 1 > enc then 1 else enc) 0 ⟨none, 0, 0⟩ true) n8 (fun i v hv => lod_at i v hv) ?_
    have l1 := lt_of_heap m16
    have z46 := e46.size
    have hk := hK F4 w8 (some (at0 b17)) ⟨none, 0, 0⟩
    rw [hop] at hk
    have n7 : w7.heap[b17]? = some (.cells (fcells d ⟨n, [], (0, 0, 0), (0, 0, 0)⟩ ⟨none, 0, 0⟩) 110 (0, 0)) := n7
    have nF17 : ¬ F4 b17 := fun hh => by have := A6.lt _ hh; omega
    refine hk ⟨((A6.ext e7).frame u8 fun k hk hh => nF41 (hh ▸ hk)).mono (by omega), (U6.trans (Upd.of_ext e7)).new u8 fun k hk hh => by omega, G4, ⟨b17, ⟨none, 0, 0⟩, rfl, ⟨⟨u8.get1 n7 (by omega), SlIn.nil _ _ _⟩, nF17, fun k hk => nil_blk hk, (hl6.ext e7).upd u8 (by omega), (by show 0 < 1024; decide), by show n.size ≤ _; omega, by omega⟩, by omega, fun k hk => nil_blk hk⟩, SlOwn.nil _ _ _ _, fun k hk => nil_blk hk, fun f hf hh => nil_blk hh⟩
  have h162 := of_decide_eq_false h
  rw [if_neg h162] at hop
  refine (hv4.ext e46).nenil (sif_r (fun h => ?_) fun h => ?_)
  · have h := of_decide_eq_true h
    rw [if_pos h] at hop
    exact bad2 w6 F4 s.1 v4 s.2.1 (hv4.ext e46) hl6 (A6.mono (by omega)) m16 m26 nF41 U6 G4 hop
  have h0 := of_decide_eq_false h
  rw [if_neg h0] at hop
  refine readS A6 (by omega) fun F7 w7 sx v7 hv7 A7 u7 hF7 row7 ap7 => ?_
  obtain ⟨r, hr⟩ : ∃ r, r = callRead s.1 n := ⟨_, rfl⟩
  rw [← hr] at hv7 A7 row7 hop
  have z7 := u7.size
  have z46 := e46.size
  have U7 := U6.new u7 fun k hk hh => (G4 k hh).resolve_right (by omega)
  have G7 : ∀ k, F7 k → F k ∨ w.heap.size ≤ k := fun k hk => (hF7 k hk).elim (G4 k) fun hh => .inr (by omega)
  have m17 := u7.get m16 nF41
  have m27 := u7.get m26 nF42
  have l16 := lt_of_heap m16
  have l26 := lt_of_heap m26
  have nF71 : ¬ F7 b1 := fun hh => (hF7 _ hh).elim nF41 fun h' => by omega
  have hl7 := hl6.upd u7 A6.no0
  refine hv7.nenil (sif_r (fun h => ?_) fun h => ?_)
  · have h := of_decide_eq_true h
    rw [if_pos h] at hop
    exact bad2 w7 F7 r.1 v7 r.2.1 hv7 hl7 (A7.mono (by omega)) m17 m27 nF71 U7 G7 hop
  have h7 := of_decide_eq_false h
  rw [if_neg h7] at hop
  have hlen := bys_len row7.in.x
  have hmax : r.2.2.length ≤ 1048576 := by rw [hr]; exact read_len A6.ok n
  obtain ⟨b, hb⟩ : ∃ b, b = r.2.2 := ⟨_, rfl⟩
  rw [← hb] at row7 hlen hmax hop
  obtain ⟨q0, q1, q2⟩ := enc_bound (g := g) (enc := enc) (b := b)
  refine join_r (fun x W => x = ((encK g enc b).1, (encK g enc b).2, ()) ∧ Ext w7 W) ?_ ?_
  · refine detect_call row7.in.x (join_at (decide (enc = 0 ∧ (detectP b).1 ≠ 0), ()) (sif_r (fun h => ⟨tupb ?_, rfl⟩) fun h => ⟨tupb ?_, rfl⟩) (sif_r (fun h => ?_) fun h => ?_))
    · have h : enc = 0 := by simpa using h
      simp [h]
    · have h : enc ≠ 0 := by simpa using h
      simp [h]
    · have h := of_decide_eq_true h
      refine ⟨?_, Ext.refl w7⟩
      unfold encK; rw [if_pos h]
    · have h := of_decide_eq_false h
      refine sif_r (fun h2 => ?_) fun h2 => ?_
      · have h2 : enc = 0 := by simpa using h2
        have hd : (detectP b).1 = 0 := Decidable.byContradiction fun hh => h ⟨h2, hh⟩
        have hG : GuessOk g := (hG hc).resolve_right fun hh => hh.elim (fun hh => hh h2) fun hh => by rw [← hs] at hh; exact h162 hh
        refine hG b sx w7 _ hmax row7.in hd fun v w' e' => ⟨?_, e'⟩
        unfold encK; rw [if_neg h, if_pos h2]
      · have h2 : enc ≠ 0 := by simpa using h2
        refine markB_call fun sm w8 rm e8 => hasPrefix_call (row7.in.ext e8) rm.in.x (sif_r (fun hp => markB_call fun sm2 w9 rm2 e9 => ⟨?_, e8.trans e9⟩) fun hp => ⟨?_, e8⟩)
        · have := bys_len rm2.in.x
          unfold encK; rw [if_neg h, if_neg h2, if_pos hp, this]
        · have hp : ¬ (markP enc).isPrefixOf b = true := by rw [hp]; simp
          unfold encK; rw [if_neg h, if_neg h2, if_neg hp]
  rintro _ w8 ⟨rfl, e8⟩
  have U8 := U7.trans (S := F) (Upd.of_ext e8)
  dsimp only
  rw [wrap64 (by omega) (by omega)]
  refine sif_r (fun h => ?_) fun h => ?_
  · have h := of_decide_eq_true h
    rw [if_pos (by omega)] at hop
    exact bad w8 F7 r.1 50 ((A7.ext e8).mono (by omega)) (e8.ext_get m17) (e8.ext_get m27) nF71 U8 G7 hop
  have h := of_decide_eq_false h
  rw [if_neg (by omega)] at hop
  have hcap := row7.in.le
  obtain ⟨k, hk⟩ : ∃ k : Nat, (encK g enc b).2 = (k : Int) := ⟨(encK g enc b).2.toNat, by omega⟩
  rw [hk] at q1 q2 hop h ⊢
  rw [Int.toNat_natCast] at hop
  have n67 := u7.get n6 fun hh => by have := A4.lt _ hh; omega
  refine drew_r fun w9 e9 _ => slc_r ((row7.in.ext e8).ext e9) (by omega) (by omega) (by omega) (by omega) (by omega) fun x39 hx39 _ _ _ => ?_
  have hbv39 : ((bv b).drop (Int.toNat 0 * 1)).take ((Int.toNat (k : Int) - Int.toNat 0) * 1) = bv (b.take k) := by
    rw [Int.toNat_natCast]; simp [List.map_take]
  rw [hbv39] at hx39
  have e79 := e8.trans e9
  refine lds_r (x := stT s.2.2) (e79.ext_get n67) (fun i v hv => stm_at i v hv) (bclone_call hx39.x (by rw [List.length_take]; omega) fun sm w10 rm e10 => keep_r ?_ (newO_r fun f w11 e11 n11 hf11 hz11 => ?_))
  · exact cellsAt_of (off := 0) _ 0 fun j v hv => by rw [Nat.zero_add]; exact cell_of (e10.ext_get (e79.ext_get n67)) (stm_at j v hv)
  have n11 : w11.heap[f]? = some (.cells (fcells d ⟨n, b.take k, s.2.2, (0, 0, 0)⟩ sm) 110 (0, 0)) := n11
  have e711 := (e79.trans e10).trans e11
  refine slc_r (row7.in.ext e711) (by omega) (by omega) (by omega) (by omega) (by omega) fun x43 hx43 _ _ _ => ?_
  have hbv43 : ((bv b).drop (Int.toNat (k : Int) * 1)).take ((Int.toNat ((sx.len : Nat) : Int) - Int.toNat (k : Int)) * 1) = bv (b.drop k) := by
    rw [Int.toNat_natCast, Int.toNat_natCast, Nat.mul_one, Nat.mul_one, ← List.map_drop, List.take_of_length_le]
    rw [List.length_map, List.length_drop]; omega
  rw [hbv43] at hx43
  have z710 := (e79.trans e10).size
  have z79 := e79.size
  refine bclone_call hx43.x (by rw [List.length_drop]; omega) fun sd w12 rd e12 => ?_
  have e712 := e711.trans e12
  refine aggSt_r (e712.ext_get m17) rfl rfl (by decide) fun w13 u13 n13 hz13 => lds_r (x := lodC (encK g enc b).1 (k : Int) sd false) n13 (fun i v hv => lod_at i v hv) ?_
  have hk := hK F7 w13 (some (at0 f)) sd
  rw [hop] at hk
  have U12 := U7.trans (S := F) (Upd.of_ext e712)
  have A12 := A7.ext e712
  have zw7 := U7.size
  have sdge : ∀ k, sd.blk k → w11.heap.size ≤ k := fun k hk => rd.blk_ge hk
  have smge : ∀ k, sm.blk k → w9.heap.size ≤ k ∧ k < w10.heap.size := fun k hk => ⟨rm.blk_ge hk, rm.in.blk_lt hk⟩
  have F7lt : ∀ k, F7 k → k < w7.heap.size := A7.lt
  have rmb := (rm.in.ext (e11.trans e12))
  refine hk ⟨(A12.frame u13 fun k hk hh => nF71 (hh ▸ hk)).mono (by omega), U12.new u13 fun k hk hh => by omega, G7, ⟨f, sm, rfl, ⟨⟨u13.get1 (e12.ext_get n11) (by omega), rmb.upd u13 fun k hk hh => by have := (smge k hk).1; omega⟩, fun hh => by have := F7lt _ hh; omega, fun k hk hh => by have := F7lt _ hh; have := (smge k hk).1; omega, (hl7.ext e712).upd u13 (by omega), ?_, by show n.size ≤ _; omega, by omega⟩, by omega, fun k hk => by have := (smge k hk).1; omega⟩, ?_, fun k hk hh => by have := F7lt _ hh; have := sdge k hk; omega, fun f' hf' hh => ?_⟩
  · show (b.take k).length < 1024
    rw [List.length_take]; omega
  · refine SlOwn.mono (rd.upd u13 fun k _ hk hh => ?_) (by omega)
    have := sdge k hk; omega
  · have hff : f = f' := by simpa using hf'
    have := sdge _ hh; omega
end
end Dq
end Go.Proofs.YtmooldhpiopcgaaGreatDoor
set_option linter.unusedSimpArgs false
set_option linter.unusedVariables false
namespace Go.Proofs.YtmooldhpiopcgaaGreatDoor
namespace Dq
open Go Go.Vx Dsk
abbrev Vw := Nm → Option (List UInt8)
def vset (V : Vw) (n : Nm) (b : Option (List UInt8)) : Vw := fun m => if m = n then b else V m
structure Sol (D : Dk) (V : Vw) : Prop where
  q : Quiet D
  acts : D.acts = []
  view : ∀ m, (D.seen m).map (fun i => (fl D i).data) = V m
  dry : ∀ m i, D.seen m = some i → (fl D i).synced = (fl D i).data.length
section
variable {D E : Dk} {N M : Nat} {n : Nm} {k : Int} {g : Fl} {T b : List UInt8} {V : Vw}
theorem Sol.st (h : Sol D V) (k : Int) : Sol { D with steps := k } V := ⟨⟨h.q.up, h.q.plan⟩, h.acts, h.view, h.dry⟩
theorem Sol.none_iff (h : Sol D V) {m : Nm} : D.seen m = none ↔ V m = none := by rw [← h.view m]; simp
theorem Sol.new (space : Int) : Sol (newD space) fun _ => none := ⟨⟨rfl, fun _ => rfl⟩, rfl, fun _ => rfl, fun m i h => by cases h⟩
theorem Sol.used (h : Sol D V) (ok : DkOk D N) {B : Nat} (hB : ∀ m b, V m = some b → b.length ≤ B) (o : Option Nat) : usedBut D o ≤ ((names D.seen).length : Int) * (B : Int) := by
  unfold usedBut
  have := sumZ_le (l := (names D.seen).map (weigh D o)) (B := (B : Int)) fun x hx => by
    obtain ⟨m, _, rfl⟩ := List.mem_map.1 hx
    unfold weigh
    have hv := h.view m
    cases hs : D.seen m with
    | none => dsimp only; omega
    | some i =>
      rw [hs] at hv
      have hb : (fl D i).data.length ≤ B := hB m _ hv.symm
      dsimp only
      split <;> omega
  rwa [List.length_map] at this
theorem put_sol (h : Sol D V) (ok : DkOk D N) (hn : okName n = true) (hl : V n = none → (names D.seen).length < 16) (hr : (b.length : Int) ≤ D.space - usedBut D (D.seen n)) :
    (putR D n b).2 = 0 ∧ Sol (putR D n b).1 (vset V n (some b)) ∧ (putR D n b).1.space = D.space ∧ (putR D n b).1.steps = D.steps ∧ (names (putR D n b).1.seen).length ≤ (names D.seen).length + 1 ∧ (V n ≠ none → (names (putR D n b).1.seen).length = (names D.seen).length) := by
  have hno : ¬ ((D.seen n = none ∧ 16 ≤ (names D.seen).length) ∨ (b.length : Int) > D.space - usedBut D (D.seen n)) := by
    rintro (⟨h1, h2⟩ | h2)
    · have := hl (h.none_iff.1 h1); omega
    · omega
  obtain ⟨l1, l2⟩ := ok.seen.names
  cases hs : D.seen n with
  | none =>
    have e : putR D n b = ({ D with lasts := dset D.seen n (some D.files.length), acts := [], files := D.files ++ [⟨b, b.length, 1⟩] }, 0) := by
      unfold putR
      rw [if_neg (by rw [h.q.up]; simp), if_neg (by rw [hn]; simp), if_neg hno, hs]
    obtain ⟨E, hE⟩ : ∃ E : Dk, E = { D with lasts := dset D.seen n (some D.files.length), acts := [], files := D.files ++ [⟨b, b.length, 1⟩] } := ⟨_, rfl⟩
    rw [← hE] at e
    rw [e]
    have hseen : E.seen = dset D.seen n (some D.files.length) := by rw [hE]; rfl
    have hfiles : E.files = D.files ++ [⟨b, b.length, 1⟩] := by rw [hE]
    have hfn : fl E D.files.length = ⟨b, b.length, 1⟩ := by
      unfold fl; rw [hfiles, List.getD_eq_getElem?_getD]; simp
    have hfo : ∀ i, i < D.files.length → fl E i = fl D i := fun i hi => by
      unfold fl; rw [hfiles, List.getD_eq_getElem?_getD, List.getD_eq_getElem?_getD, List.getElem?_append_left hi]
    refine ⟨rfl, ⟨by rw [hE]; exact ⟨h.q.up, h.q.plan⟩, by rw [hE], fun m => ?_, fun m i hi => ?_⟩, by rw [hE], by rw [hE], ?_, fun hh => absurd (h.none_iff.1 hs) hh⟩
    · dsimp only
      rw [hseen]; unfold dset vset
      split
      · rw [Option.map_some, hfn]
      · rw [← h.view m]
        cases hm : D.seen m with
        | none => rfl
        | some i => rw [Option.map_some, Option.map_some, hfo i (ok.seen.ids m i hm)]
    · dsimp only at hi ⊢
      rw [hseen] at hi; unfold dset at hi
      split at hi
      · cases hi; rw [hfn]
      · rw [hfo i (ok.seen.ids m i hi)]; exact h.dry m i hi
    · dsimp only
      rw [hseen, names_len (lists_new l1 hs)]; simp
  | some i =>
    have e : putR D n b = ({ Dsk.settle D with files := put1 D.files i fun f => ⟨b, b.length, f.count + 1⟩ }, 0) := by
      unfold putR
      rw [if_neg (by rw [h.q.up]; simp), if_neg (by rw [hn]; simp), if_neg hno, hs]
    obtain ⟨g, hg, hfl⟩ := seen_get ok hs
    obtain ⟨E, hE⟩ : ∃ E : Dk, E = { Dsk.settle D with files := put1 D.files i fun f => ⟨b, b.length, f.count + 1⟩ } := ⟨_, rfl⟩
    rw [← hE] at e
    rw [e]
    have hseen : E.seen = D.seen := by rw [hE]; rfl
    have hf2 : ∀ j, fl E j = if j = i then ⟨b, b.length, g.count + 1⟩ else fl D j := fun j => by rw [hE]; exact fl_put1 hg _ j
    refine ⟨rfl, ⟨by rw [hE]; exact ⟨h.q.up, h.q.plan⟩, by rw [hE]; rfl, fun m => ?_, fun m j hj => ?_⟩, by rw [hE]; rfl, by rw [hE]; rfl, ?_, fun _ => by dsimp only; rw [hseen]⟩
    · dsimp only
      rw [hseen]; unfold vset
      split
      · rename_i hm; rw [hm, hs, Option.map_some, hf2, if_pos rfl]
      · rename_i hm
        rw [← h.view m]
        cases hsm : D.seen m with
        | none => rfl
        | some j =>
          have : j ≠ i := fun hh => hm (ok.seen.inj m n i (by rw [hsm, hh]) hs)
          rw [Option.map_some, Option.map_some, hf2, if_neg this]
    · dsimp only at hj ⊢
      rw [hseen] at hj
      rw [hf2]
      split
      · rfl
      · exact h.dry m j hj
    · dsimp only; rw [hseen]; exact Nat.le_succ _
def stampOf (D : Dk) (n : Nm) : Stm := match D.seen n with | some i => ((i : Int) + 1, ((fl D i).data.length : Int), (fl D i).count) | none => (0, 0, 0)
theorem stamp_q (q : Quiet D) (hn : okName n = true) : callStamp D n = ({ D with steps := D.steps + 1 }, (if D.seen n = none then 162 else 0), stampOf D n) := by
  unfold stampOf
  cases hs : D.seen n with
  | some i => rw [stamp_quiet q hn hs, if_neg (by simp)]
  | none =>
    have hf : Dsk.find { D with steps := D.steps + 1 } n = (none, 162) := by
      rw [find_steps]; unfold Dsk.find; rw [if_neg (by rw [hn]; simp), hs]
    unfold callStamp
    rw [step_quiet q]
    unfold stR
    rw [hf]
    rfl
theorem read_q (q : Quiet D) (hn : okName n = true) : callRead D n = ({ D with steps := D.steps + 1 }, (if D.seen n = none then 162 else 0), ((D.seen n).map fun i => (fl D i).data).getD []) := by
  cases hs : D.seen n with
  | some i => rw [read_quiet q hn hs, if_neg (by simp)]; rfl
  | none =>
    have hf : Dsk.find { D with steps := D.steps + 1 } n = (none, 162) := by
      rw [find_steps]; unfold Dsk.find; rw [if_neg (by rw [hn]; simp), hs]
    unfold callRead
    rw [step_quiet q]
    unfold rdR
    rw [hf]
    rfl
theorem Put.sol {c : Int} (h : Put D E n k ⟨T, T.length, c⟩) (hS : Sol D V) (ok : DkOk D N) (hv : V (side n) = none) (ha : E.acts = []) : Sol E (vset V n (some T)) := by
  have h0 : D.seen (side n) = none := hS.none_iff.2 hv
  have hs : E.seen = dset D.seen n (some D.files.length) := by rw [h.seen, dset_self _ _ h0]
  have hfn : fl E D.files.length = ⟨T, T.length, c⟩ := by unfold fl; rw [h.files, List.getD_eq_getElem?_getD]; simp
  have hfo : ∀ i, i < D.files.length → fl E i = fl D i := fun i hi => by unfold fl; rw [h.files, List.getD_eq_getElem?_getD, List.getD_eq_getElem?_getD, List.getElem?_append_left hi]
  refine ⟨h.q, ha, fun m => ?_, fun m i hi => ?_⟩
  · rw [hs]; unfold dset vset
    split
    · rw [Option.map_some, hfn]
    · rw [← hS.view m]
      cases hm : D.seen m with
      | none => rfl
      | some i => rw [Option.map_some, Option.map_some, hfo i (ok.seen.ids m i hm)]
  · rw [hs] at hi; unfold dset at hi
    split at hi
    · cases hi; rw [hfn]
    · rw [hfo i (ok.seen.ids m i hi)]; exact hS.dry m i hi
end
end Dq
end Go.Proofs.YtmooldhpiopcgaaGreatDoor
set_option linter.unusedSimpArgs false
set_option linter.unusedVariables false
namespace Go.Proofs.YtmooldhpiopcgaaGreatDoor
namespace Dq
open Go Go.Vx Dsk
section
variable {D E : Dk} {N M : Nat} {n : Nm} {k : Int} {g : Fl} {T b : List UInt8} {V : Vw} {X : Fil} {force : Bool}
theorem Put.later (h : Put { D with steps := D.steps + 1 } E n k g) : Put D E n (k + 1) g := ⟨h.q, h.files, h.seen, by rw [h.steps]; show D.steps + 1 + k = _; omega, h.space, h.ok⟩
def knownAt (D : Dk) (X : Fil) : Stm := if D.seen X.name ≠ none ∧ stampOf D X.name = X.tried then stampOf D X.name else X.known
theorem save_eq (q : Quiet D) (hn : okName X.name = true) : saveP D X b force =
    if force = false ∧ stampOf D X.name ≠ knownAt D X then ({ D with steps := D.steps + 1 }, 170, { X with known := knownAt D X }) else
    ((writeP { D with steps := D.steps + 1 } X.name (X.mark ++ b) X.tried (knownAt D X)).1, (writeP { D with steps := D.steps + 1 } X.name (X.mark ++ b) X.tried (knownAt D X)).2.1,
      { X with tried := (writeP { D with steps := D.steps + 1 } X.name (X.mark ++ b) X.tried (knownAt D X)).2.2.1, known := (writeP { D with steps := D.steps + 1 } X.name (X.mark ++ b) X.tried (knownAt D X)).2.2.2 }) := by
  unfold saveP
  rw [stamp_q q hn]
  dsimp only
  have h1 : ¬ ((if D.seen X.name = none then (162 : Int) else 0) ≠ 0 ∧ (if D.seen X.name = none then (162 : Int) else 0) ≠ 162) := by split <;> simp
  have h2 : (if (if D.seen X.name = none then (162 : Int) else 0) = 0 ∧ stampOf D X.name = X.tried then stampOf D X.name else X.known) = knownAt D X := by
    unfold knownAt
    by_cases h : D.seen X.name = none <;> simp [h]
  rw [if_neg h1, h2]
theorem save_quiet (q : Quiet D) (ok : DkOk D N) (hu : userName X.name = true) (hl : D.seen (side X.name) = none → (names D.seen).length < 16) (hr : usedBut D none + (X.mark ++ b).length ≤ D.space) (hk : force = true ∨ stampOf D X.name = knownAt D X) :
    ∃ c, (saveP D X b force).2 = (0, { X with tried := ((D.files.length : Int) + 1, ((X.mark ++ b).length : Int), c), known := ((D.files.length : Int) + 1, ((X.mark ++ b).length : Int), c) }) ∧
      Put D (saveP D X b force).1 X.name ((if D.seen (side X.name) = none then 6 else 8) + (((X.mark ++ b).length + 1023) / 1024 : Nat)) ⟨X.mark ++ b, (X.mark ++ b).length, c⟩ ∧ (saveP D X b force).1.acts = [] ∧ (saveP D X b force).1.lasts = (saveP D X b force).1.seen := by
  obtain ⟨hn, _⟩ := side_ok hu
  have q1 : Quiet { D with steps := D.steps + 1 } := ⟨q.up, q.plan⟩
  obtain ⟨c, h1, h2, h3, h4⟩ := write_quiet (T := X.mark ++ b) q1 (ok_st ok) hu hl hr X.tried (knownAt D X)
  have e := save_eq (b := b) (force := force) q hn
  rw [if_neg (by rintro ⟨hf, hh⟩; rcases hk with hk | hk; rw [hk] at hf; cases hf; exact hh hk)] at e
  rw [e, h1]
  refine ⟨c, rfl, ?_, h3, h4⟩
  have := h2.later
  have hk : ((if D.seen (side X.name) = none then 5 else 7) + (((X.mark ++ b).length + 1023) / 1024 : Nat) + 1 : Int) = (if D.seen (side X.name) = none then 6 else 8) + (((X.mark ++ b).length + 1023) / 1024 : Nat) := by split <;> omega
  rw [← hk]
  exact this
theorem open_new {g : List UInt8 → Int} {enc limit : Int} (q : Quiet D) (hu : userName n = true) (he : 0 ≤ enc ∧ enc ≤ 4) (hl : 0 ≤ limit ∧ limit ≤ 65536) (h : D.seen n = none) :
    openP g D n enc limit = ({ D with steps := D.steps + 1 }, 0, some ⟨n, [], (0, 0, 0), (0, 0, 0)⟩, ⟨if 1 > enc then 1 else enc, 0, [], true⟩) := by
  obtain ⟨hn, _⟩ := side_ok hu
  unfold openP
  rw [if_neg (by rw [hu]; simp), if_neg (by omega), if_neg (by omega), stamp_q q hn, if_pos h]
  rfl
theorem open_old {g : List UInt8 → Int} {enc limit : Int} (q : Quiet D) (hu : userName n = true) (he : 0 ≤ enc ∧ enc ≤ 4) (hl : 0 ≤ limit ∧ limit ≤ 65536) {i : Nat} (h : D.seen n = some i) {b : List UInt8} (hb : (fl D i).data = b) (hf : (b.length : Int) - (encK g enc b).2 ≤ limit) :
    openP g D n enc limit = ({ D with steps := D.steps + 1 + 1 }, 0, some ⟨n, b.take (encK g enc b).2.toNat, stampOf D n, (0, 0, 0)⟩, ⟨(encK g enc b).1, (encK g enc b).2, b.drop (encK g enc b).2.toNat, false⟩) := by
  obtain ⟨hn, _⟩ := side_ok hu
  have q1 : Quiet { D with steps := D.steps + 1 } := ⟨q.up, q.plan⟩
  have hs : ({ D with steps := D.steps + 1 } : Dk).seen n = some i := h
  have hr : callRead { D with steps := D.steps + 1 } n = ({ D with steps := D.steps + 1 + 1 }, 0, b) := by
    rw [read_q q1 hn, hs, if_neg (by simp)]
    show (_, _, (fl { D with steps := D.steps + 1 } i).data) = _
    have : (fl { D with steps := D.steps + 1 } i).data = b := hb
    rw [this]
  have hst : callStamp D n = ({ D with steps := D.steps + 1 }, 0, stampOf D n) := by rw [stamp_q q hn, if_neg (by rw [h]; simp)]
  unfold openP
  rw [if_neg (by rw [hu]; simp), if_neg (by omega), if_neg (by omega), hst]
  dsimp only
  rw [if_neg (show ¬ (0 : Int) = 162 by decide), if_neg (show ¬ (0 : Int) ≠ 0 by decide), hr]
  dsimp only
  rw [if_neg (show ¬ (0 : Int) ≠ 0 by decide), if_neg (by omega)]
end
end Dq
end Go.Proofs.YtmooldhpiopcgaaGreatDoor
set_option linter.unusedSimpArgs false
set_option linter.unusedVariables false
set_option maxRecDepth 100000
set_option linter.unusedVariables false
namespace Go.Proofs.YtmooldhpiopcgaaGreatDoor
open Go Go.Vx
noncomputable def F3 (a0 : ByteArray) (K : Bool → World → Prop) : World → Prop :=
 join (S := Bool × Unit) (fun J1 =>
 callT Tryz.prog 14 #[] (.one (.one .bool)) fun (x3 : Bool) =>
 sif (!x3) (
 J1 (true, ())) (
 callT Tryz.prog 15 #[(.string a0)] (.one (.one .bool)) fun (x4 : Bool) =>
 callT Tryz.prog 16 #[(.string a0)] (.one (.one .bool)) fun (x5 : Bool) =>
 rdB Tryz.prog (do eqGuard .neq 4 (Operand.tmp 12) (Operand.tmp 14) (.bool x4) (.bool x5); binOp .neq 4 (.bool x4) (.bool x5) : Sem Value) fun r6 =>
 J1 (r6, ()))) fun (s2 : Bool × Unit) =>
 sif s2.1 (
 K false) (
 callT Tryz.prog 17 #[(.int .i64 (10 : Int))] (.tup [(.one .ptr), (.one .any)]) fun (x7 : (Option Addr × Value × Unit)) =>
 join (S := Bool × Unit) (fun J8 =>
 sif (Option.isNone x7.1) (
 J8 (true, ())) (
 rdB Tryz.prog (do eqGuard .neq 26 (Operand.tmp 24) (Operand.const Value.nilIface) x7.2.1 .nilIface; binOp .neq 26 x7.2.1 .nilIface : Sem Value) fun r10 =>
 J8 (r10, ()))) fun (s9 : Bool × Unit) =>
 sif s9.1 (
 K false) (
 callT Tryz.prog 18 #[(.pointer x7.1), (.string a0), (.int .i64 (0 : Int)), (.int .i64 (10 : Int))] (.tup [(.one .ptr), (.agg c32), (.one (.int .i64))]) fun (x11 : (Option Addr × (Int × Int × Sl × Bool × Unit) × Int × Unit)) =>
 newO (.cells #[(.int .i64 (0 : Int)), (.int .i64 (0 : Int)), (.slice none 0 0), (.bool false)] 32) fun b12 =>
 aggSt (at0 b12) (.agg (Cells.vals c32 x11.2.1).toArray) 4 <|
 callT Tryz.prog 16 #[(.string a0)] (.one (.one .bool)) fun (x13 : Bool) =>
 sif x13 (
 sif (!(Option.isNone x11.1)) (
 sif (x11.2.2.1 == (0 : Int)) (
 ld (.bool) (⟨b12, 3, none⟩ : Addr) fun (x14 : Bool) =>
 sif x14 (
 ld (.int .i64) (at0 b12) fun (x15 : Int) =>
 sif (x15 == (1 : Int)) (
 ld (.int .i64) (⟨b12, 1, none⟩ : Addr) fun (x16 : Int) =>
 sif (x16 == (0 : Int)) (
 ld (.sl) (⟨b12, 2, none⟩ : Addr) fun (x17 : Sl) =>
 sif (((x17.len : Nat) : Int) == (0 : Int)) (
 callT Tryz.prog 19 #[(.pointer x7.1)] (.one (.one (.int .i64))) fun (x18 : Int) =>
 K (x18 == (1 : Int))) (
 K false)) (
 K false)) (
 K false)) (
 K false)) (
 K false)) (
 K false)) (
 sif (Option.isNone x11.1) (
 sif (x11.2.2.1 == (164 : Int)) (
 callT Tryz.prog 19 #[(.pointer x7.1)] (.one (.one (.int .i64))) fun (x19 : Int) =>
 K (x19 == (0 : Int))) (
 K false)) (
 K false))))
noncomputable def h3 : Hint := (.seq none (.region [] (.ops 1 .done)) (.seq none (.seq (some (130816, [(16, (.one .bool))])) (.region [] (.ops 3 (.split 10 (.skips 5 (.ops 1 .done)) (.ops 6 .done)))) (.cond none (.seq none (.region [] (.ops 1 .done)) .leaf) .leaf)) (.seq none (.region [] (.ops 6 .done)) (.seq none (.seq (some (132120576, [(26, (.one .bool))])) (.region [] (.ops 3 (.split 23 (.skips 2 (.ops 1 .done)) (.ops 3 .done)))) (.cond none (.seq none (.region [] (.ops 1 .done)) .leaf) .leaf)) (.seq none (.region [] (.ops 11 .done)) (.seq none (.seq none (.region [] (.ops 2 .done)) (.cond none (.seq none (.region [] (.ops 3 (.split 38 (.ops 4 (.split 42 (.ops 4 (.split 46 (.ops 5 (.split 51 (.ops 5 (.split 56 (.ops 6 (.split 62 (.ops 5 .done) (.skips 3 (.ops 2 .done)))) (.skips 4 (.ops 2 (.skips 3 (.ops 2 .done)))))) (.skips 3 (.ops 2 (.skips 4 (.ops 2 (.skips 3 (.ops 2 .done)))))))) (.skips 3 (.ops 2 (.skips 3 (.ops 2 (.skips 4 (.ops 2 (.skips 3 (.ops 2 .done)))))))))) (.skips 2 (.ops 2 (.skips 3 (.ops 2 (.skips 3 (.ops 2 (.skips 4 (.ops 2 (.skips 3 (.ops 2 .done)))))))))))) (.skips 2 (.ops 2 (.skips 2 (.ops 2 (.skips 3 (.ops 2 (.skips 3 (.ops 2 (.skips 4 (.ops 2 (.skips 3 (.ops 2 .done))))))))))))))) .leaf) .leaf)) (.seq none (.region [] (.ops 3 (.split 69 (.ops 4 (.split 73 (.ops 5 .done) (.skips 3 (.ops 2 .done)))) (.skips 2 (.ops 2 (.skips 3 (.ops 2 .done))))))) .leaf)))))))
theorem F3_tie (a0 : ByteArray) (K : Bool → World → Prop) : vcgF tab Tryz.prog Tryz.f3 h3 [(.string a0)] (.one (.one .bool)) K = F3 a0 K := by kernel_rfl
theorem F3_calls {a0 : ByteArray} {K : Bool → World → Prop} {w : World} (h : F3 a0 K w) : callT Tryz.prog 3 #[(.string a0)] (.one (.one .bool)) K w :=
  vcgF_sound tabOk Tryz.func3 h3 [(.string a0)] (.one (.one .bool)) K w (Eq.mpr (congrFun (F3_tie a0 K) w) h)
noncomputable def F14  (K : Bool → World → Prop) : World → Prop :=
 callT Tryz.prog 17 #[(.int .i64 (100 : Int))] (.tup [(.one .ptr), (.one .any)]) fun (x1 : (Option Addr × Value × Unit)) =>
 join (S := Bool × Unit) (fun J2 =>
 sif (Option.isNone x1.1) (
 J2 (true, ())) (
 rdB Tryz.prog (do eqGuard .neq 26 (Operand.tmp 16) (Operand.const Value.nilIface) x1.2.1 .nilIface; binOp .neq 26 x1.2.1 .nilIface : Sem Value) fun r4 =>
 sif r4 (
 J2 (true, ())) (
 newO (.cells #[(.int .u8 (111 : Int)), (.int .u8 (108 : Int)), (.int .u8 (100 : Int))] 5) fun b5 =>
 rawT Tryz.prog (.one (.one .sl)) (convert 30 30 (.slice (some (at0 b5)) 3 3)) fun x6 =>
 callT Tryz.prog 32 #[(.pointer x1.1), (.string { data := #[97] }), (.slice x6.a x6.len x6.cap)] (.one (.one .any)) fun (x7 : Value) =>
 rdB Tryz.prog (do eqGuard .neq 26 (Operand.tmp 23) (Operand.const Value.nilIface) x7 .nilIface; binOp .neq 26 x7 .nilIface : Sem Value) fun r8 =>
 J2 (r8, ())))) fun (s3 : Bool × Unit) =>
 sif s3.1 (
 K false) (
 callT Tryz.prog 18 #[(.pointer x1.1), (.string { data := #[97] }), (.int .i64 (1 : Int)), (.int .i64 (10 : Int))] (.tup [(.one .ptr), (.agg c32), (.one (.int .i64))]) fun (x9 : (Option Addr × (Int × Int × Sl × Bool × Unit) × Int × Unit)) =>
 newO (.cells #[(.int .i64 (0 : Int)), (.int .i64 (0 : Int)), (.slice none 0 0), (.bool false)] 32) fun b10 =>
 aggSt (at0 b10) (.agg (Cells.vals c32 x9.2.1).toArray) 4 <|
 newO (.cells #[(.int .u8 (110 : Int)), (.int .u8 (101 : Int)), (.int .u8 (119 : Int))] 5) fun b11 =>
 rawT Tryz.prog (.one (.one .sl)) (convert 30 30 (.slice (some (at0 b11)) 3 3)) fun x12 =>
 callT Tryz.prog 48 #[(.int .i64 (1 : Int)), (.slice x12.a x12.len x12.cap), (.int .i64 (10 : Int))] (.tup [(.one .ptr), (.one (.int .i64))]) fun (x13 : (Option Addr × Int × Unit)) =>
 join (S := Bool × Unit) (fun J14 =>
 sif (Option.isNone x9.1) (
 J14 (true, ())) (
 sif (Option.isNone x13.1) (
 J14 (true, ())) (
 sif (x9.2.2.1 != (0 : Int)) (
 J14 (true, ())) (
 sif (x13.2.1 != (0 : Int)) (
 J14 (true, ())) (
 ld (.sl) (⟨b10, 2, none⟩ : Addr) fun (x16 : Sl) =>
 rawT Tryz.prog (.one (.one .str)) (convert 30 9 (.slice x16.a x16.len x16.cap)) fun x17 =>
 sif (!(ByteArray.toList x17 == ByteArray.toList ({ data := #[111, 108, 100] }))) (
 J14 (true, ())) (
 callT Tryz.prog 27 #[(.pointer x9.1), (.pointer x13.1), (.bool false)] (.one (.one (.int .i64))) fun (x18 : Int) =>
 J14 ((x18 != (0 : Int)), ()))))))) fun (s15 : Bool × Unit) =>
 sif s15.1 (
 K false) (
 callT Tryz.prog 49 #[(.pointer x1.1), (.string { data := #[97] })] (.tup [(.one .sl), (.one .any)]) fun (x19 : (Sl × Value × Unit)) =>
 rdB Tryz.prog (do eqGuard .eql 26 (Operand.tmp 69) (Operand.const Value.nilIface) x19.2.1 .nilIface; binOp .eql 26 x19.2.1 .nilIface : Sem Value) fun r20 =>
 sif r20 (
 rawT Tryz.prog (.one (.one .str)) (convert 30 9 (.slice x19.1.a x19.1.len x19.1.cap)) fun x21 =>
 K (ByteArray.toList x21 == ByteArray.toList ({ data := #[110, 101, 119] }))) (
 K false)))
noncomputable def h14 : Hint := (.seq none (.region [] (.ops 1 .done)) (.seq none (.region [] (.ops 6 .done)) (.seq none (.seq (some (67100672, [(25, (.one .bool))])) (.region [] (.ops 3 (.split 15 (.skips 2 (.ops 2 (.skips 5 (.ops 1 .done)))) (.ops 4 (.split 19 (.skips 5 (.ops 1 .done)) (.ops 6 .done)))))) (.cond none (.seq none (.region [] (.ops 1 .done)) .leaf) .leaf)) (.seq none (.region [] (.ops 10 .done)) (.seq none (.region [] (.ops 8 .done)) (.seq none (.seq (some (18446743798831644672, [(63, (.one .bool))])) (.region [] (.ops 3 (.split 40 (.skips 2 (.ops 2 (.skips 2 (.ops 2 (.skips 2 (.ops 2 (.skips 4 (.ops 2 (.skips 4 (.ops 1 .done)))))))))) (.ops 4 (.split 44 (.skips 2 (.ops 2 (.skips 2 (.ops 2 (.skips 4 (.ops 2 (.skips 4 (.ops 1 .done)))))))) (.ops 4 (.split 48 (.skips 2 (.ops 2 (.skips 4 (.ops 2 (.skips 4 (.ops 1 .done)))))) (.ops 4 (.split 52 (.skips 4 (.ops 2 (.skips 4 (.ops 1 .done)))) (.ops 6 (.split 58 (.skips 4 (.ops 1 .done)) (.ops 5 .done)))))))))))) (.cond none (.seq none (.region [] (.ops 1 .done)) .leaf) .leaf)) (.seq none (.region [] (.ops 7 .done)) (.seq none (.region [] (.ops 3 (.split 71 (.ops 5 .done) (.skips 3 (.ops 2 .done))))) .leaf))))))))
theorem F14_tie  (K : Bool → World → Prop) : vcgF tab Tryz.prog Tryz.f14 h14 [] (.one (.one .bool)) K = F14  K := by kernel_rfl
theorem F14_calls {K : Bool → World → Prop} {w : World} (h : F14  K w) : callT Tryz.prog 14 #[] (.one (.one .bool)) K w :=
  vcgF_sound tabOk Tryz.func14 h14 [] (.one (.one .bool)) K w (Eq.mpr (congrFun (F14_tie  K) w) h)
noncomputable def F16 (a0 : ByteArray) (K : Bool → World → Prop) : World → Prop :=
 join (S := Bool × Unit) (fun J1 =>
 sif (decide (((ByteArray.size a0 : Nat) : Int) < (1 : Int))) (
 J1 (true, ())) (
 sif (decide (((ByteArray.size a0 : Nat) : Int) > (31 : Int))) (
 J1 (true, ())) (
 sidx a0 (IntKind.wrap .i64 (((ByteArray.size a0 : Nat) : Int) - (1 : Int))) fun b3 =>
 J1 ((((b3.toNat : Nat) : Int) == (126 : Int)), ())))) fun (s2 : Bool × Unit) =>
 sif s2.1 (
 K false) (
 join (S := Unit) (fun J4 =>
 sloop (S := Int × Unit) (fun (s6 : Int × Unit) again7 =>
 sif (decide (s6.1 < ((ByteArray.size a0 : Nat) : Int))) (
 sidx a0 s6.1 fun b8 =>
 join (S := Bool × Unit) (fun J9 =>
 sif (decide (((b8.toNat : Nat) : Int) ≥ (97 : Int))) (
 sif (decide (((b8.toNat : Nat) : Int) ≤ (122 : Int))) (
 J9 (false, ())) (
 sif (decide (((b8.toNat : Nat) : Int) ≥ (65 : Int))) (
 sif (decide (((b8.toNat : Nat) : Int) ≤ (90 : Int))) (
 J9 (false, ())) (
 sif (decide (((b8.toNat : Nat) : Int) ≥ (48 : Int))) (
 sif (decide (((b8.toNat : Nat) : Int) ≤ (57 : Int))) (
 J9 (false, ())) (
 sif (((b8.toNat : Nat) : Int) == (46 : Int)) (
 J9 (false, ())) (
 sif (((b8.toNat : Nat) : Int) == (95 : Int)) (
 J9 (false, ())) (
 sif (((b8.toNat : Nat) : Int) == (45 : Int)) (
 J9 (false, ())) (
 J9 ((!(((b8.toNat : Nat) : Int) == (126 : Int))), ())))))) (
 sif (((b8.toNat : Nat) : Int) == (46 : Int)) (
 J9 (false, ())) (
 sif (((b8.toNat : Nat) : Int) == (95 : Int)) (
 J9 (false, ())) (
 sif (((b8.toNat : Nat) : Int) == (45 : Int)) (
 J9 (false, ())) (
 J9 ((!(((b8.toNat : Nat) : Int) == (126 : Int))), ()))))))) (
 sif (decide (((b8.toNat : Nat) : Int) ≥ (48 : Int))) (
 sif (decide (((b8.toNat : Nat) : Int) ≤ (57 : Int))) (
 J9 (false, ())) (
 sif (((b8.toNat : Nat) : Int) == (46 : Int)) (
 J9 (false, ())) (
 sif (((b8.toNat : Nat) : Int) == (95 : Int)) (
 J9 (false, ())) (
 sif (((b8.toNat : Nat) : Int) == (45 : Int)) (
 J9 (false, ())) (
 J9 ((!(((b8.toNat : Nat) : Int) == (126 : Int))), ())))))) (
 sif (((b8.toNat : Nat) : Int) == (46 : Int)) (
 J9 (false, ())) (
 sif (((b8.toNat : Nat) : Int) == (95 : Int)) (
 J9 (false, ())) (
 sif (((b8.toNat : Nat) : Int) == (45 : Int)) (
 J9 (false, ())) (
 J9 ((!(((b8.toNat : Nat) : Int) == (126 : Int))), ())))))))) (
 sif (decide (((b8.toNat : Nat) : Int) ≥ (65 : Int))) (
 sif (decide (((b8.toNat : Nat) : Int) ≤ (90 : Int))) (
 J9 (false, ())) (
 sif (decide (((b8.toNat : Nat) : Int) ≥ (48 : Int))) (
 sif (decide (((b8.toNat : Nat) : Int) ≤ (57 : Int))) (
 J9 (false, ())) (
 sif (((b8.toNat : Nat) : Int) == (46 : Int)) (
 J9 (false, ())) (
 sif (((b8.toNat : Nat) : Int) == (95 : Int)) (
 J9 (false, ())) (
 sif (((b8.toNat : Nat) : Int) == (45 : Int)) (
 J9 (false, ())) (
 J9 ((!(((b8.toNat : Nat) : Int) == (126 : Int))), ())))))) (
 sif (((b8.toNat : Nat) : Int) == (46 : Int)) (
 J9 (false, ())) (
 sif (((b8.toNat : Nat) : Int) == (95 : Int)) (
 J9 (false, ())) (
 sif (((b8.toNat : Nat) : Int) == (45 : Int)) (
 J9 (false, ())) (
 J9 ((!(((b8.toNat : Nat) : Int) == (126 : Int))), ()))))))) (
 sif (decide (((b8.toNat : Nat) : Int) ≥ (48 : Int))) (
 sif (decide (((b8.toNat : Nat) : Int) ≤ (57 : Int))) (
 J9 (false, ())) (
 sif (((b8.toNat : Nat) : Int) == (46 : Int)) (
 J9 (false, ())) (
 sif (((b8.toNat : Nat) : Int) == (95 : Int)) (
 J9 (false, ())) (
 sif (((b8.toNat : Nat) : Int) == (45 : Int)) (
 J9 (false, ())) (
 J9 ((!(((b8.toNat : Nat) : Int) == (126 : Int))), ())))))) (
 sif (((b8.toNat : Nat) : Int) == (46 : Int)) (
 J9 (false, ())) (
 sif (((b8.toNat : Nat) : Int) == (95 : Int)) (
 J9 (false, ())) (
 sif (((b8.toNat : Nat) : Int) == (45 : Int)) (
 J9 (false, ())) (
 J9 ((!(((b8.toNat : Nat) : Int) == (126 : Int))), ())))))))) fun (s10 : Bool × Unit) =>
 sif s10.1 (
 K false) (
 again7 ((IntKind.wrap .i64 (s6.1 + (1 : Int))), ()))) (
 J4 ())) ((0 : Int), ())) fun (s5 : Unit) =>
 K true)
noncomputable def h16 : Hint := (.seq none (.region [] (.ops 1 .done)) (.seq none (.seq (some (2097120, [(20, (.one .bool))])) (.region [] (.ops 4 (.split 8 (.skips 3 (.ops 2 (.skips 6 (.ops 1 .done)))) (.ops 5 (.split 13 (.skips 6 (.ops 1 .done)) (.ops 7 .done)))))) (.cond none (.seq none (.region [] (.ops 1 .done)) .leaf) .leaf)) (.seq (some (590295810358703554588, [])) (.seq none (.region [] (.ops 1 .done)) (.block (.loop 590295810358703554588 [(3, (.one (.int .i64)))] (.seq none (.seq none (.region [] (.ops 4 .done)) (.cond none .leaf .leaf)) (.seq none (.block (.seq none (.region [] (.ops 4 .done)) (.seq (some (590295810357631909888, [(68, (.one .bool))])) (.region [] (.ops 3 (.split 32 (.ops 4 (.split 36 (.skips 6 (.ops 2 (.skips 6 (.ops 2 (.skips 2 (.ops 2 (.skips 2 (.ops 2 (.skips 2 (.ops 2 (.skips 2 (.ops 2 .done)))))))))))) (.ops 3 (.split 39 (.ops 5 (.split 44 (.skips 6 (.ops 2 (.skips 2 (.ops 2 (.skips 2 (.ops 2 (.skips 2 (.ops 2 (.skips 2 (.ops 2 .done)))))))))) (.ops 3 (.split 47 (.ops 5 (.split 52 (.skips 2 (.ops 2 (.skips 2 (.ops 2 (.skips 2 (.ops 2 (.skips 2 (.ops 2 .done)))))))) (.ops 4 (.split 56 (.skips 2 (.ops 2 (.skips 2 (.ops 2 (.skips 2 (.ops 2 .done)))))) (.ops 4 (.split 60 (.skips 2 (.ops 2 (.skips 2 (.ops 2 .done)))) (.ops 4 (.split 64 (.skips 2 (.ops 2 .done)) (.ops 4 .done))))))))) (.skips 2 (.ops 7 (.split 56 (.skips 2 (.ops 2 (.skips 2 (.ops 2 (.skips 2 (.ops 2 .done)))))) (.ops 4 (.split 60 (.skips 2 (.ops 2 (.skips 2 (.ops 2 .done)))) (.ops 4 (.split 64 (.skips 2 (.ops 2 .done)) (.ops 4 .done)))))))))))) (.skips 2 (.ops 6 (.split 47 (.ops 5 (.split 52 (.skips 2 (.ops 2 (.skips 2 (.ops 2 (.skips 2 (.ops 2 (.skips 2 (.ops 2 .done)))))))) (.ops 4 (.split 56 (.skips 2 (.ops 2 (.skips 2 (.ops 2 (.skips 2 (.ops 2 .done)))))) (.ops 4 (.split 60 (.skips 2 (.ops 2 (.skips 2 (.ops 2 .done)))) (.ops 4 (.split 64 (.skips 2 (.ops 2 .done)) (.ops 4 .done))))))))) (.skips 2 (.ops 7 (.split 56 (.skips 2 (.ops 2 (.skips 2 (.ops 2 (.skips 2 (.ops 2 .done)))))) (.ops 4 (.split 60 (.skips 2 (.ops 2 (.skips 2 (.ops 2 .done)))) (.ops 4 (.split 64 (.skips 2 (.ops 2 .done)) (.ops 4 .done))))))))))))))) (.skips 2 (.ops 5 (.split 39 (.ops 5 (.split 44 (.skips 6 (.ops 2 (.skips 2 (.ops 2 (.skips 2 (.ops 2 (.skips 2 (.ops 2 (.skips 2 (.ops 2 .done)))))))))) (.ops 3 (.split 47 (.ops 5 (.split 52 (.skips 2 (.ops 2 (.skips 2 (.ops 2 (.skips 2 (.ops 2 (.skips 2 (.ops 2 .done)))))))) (.ops 4 (.split 56 (.skips 2 (.ops 2 (.skips 2 (.ops 2 (.skips 2 (.ops 2 .done)))))) (.ops 4 (.split 60 (.skips 2 (.ops 2 (.skips 2 (.ops 2 .done)))) (.ops 4 (.split 64 (.skips 2 (.ops 2 .done)) (.ops 4 .done))))))))) (.skips 2 (.ops 7 (.split 56 (.skips 2 (.ops 2 (.skips 2 (.ops 2 (.skips 2 (.ops 2 .done)))))) (.ops 4 (.split 60 (.skips 2 (.ops 2 (.skips 2 (.ops 2 .done)))) (.ops 4 (.split 64 (.skips 2 (.ops 2 .done)) (.ops 4 .done)))))))))))) (.skips 2 (.ops 6 (.split 47 (.ops 5 (.split 52 (.skips 2 (.ops 2 (.skips 2 (.ops 2 (.skips 2 (.ops 2 (.skips 2 (.ops 2 .done)))))))) (.ops 4 (.split 56 (.skips 2 (.ops 2 (.skips 2 (.ops 2 (.skips 2 (.ops 2 .done)))))) (.ops 4 (.split 60 (.skips 2 (.ops 2 (.skips 2 (.ops 2 .done)))) (.ops 4 (.split 64 (.skips 2 (.ops 2 .done)) (.ops 4 .done))))))))) (.skips 2 (.ops 7 (.split 56 (.skips 2 (.ops 2 (.skips 2 (.ops 2 (.skips 2 (.ops 2 .done)))))) (.ops 4 (.split 60 (.skips 2 (.ops 2 (.skips 2 (.ops 2 .done)))) (.ops 4 (.split 64 (.skips 2 (.ops 2 .done)) (.ops 4 .done))))))))))))))))) (.cond none (.seq none (.region [] (.ops 1 .done)) .leaf) .leaf)))) (.region [] (.ops 3 .done))))))) (.seq none (.region [] (.ops 1 .done)) .leaf))))
theorem F16_tie (a0 : ByteArray) (K : Bool → World → Prop) : vcgF tab Tryz.prog Tryz.f16 h16 [(.string a0)] (.one (.one .bool)) K = F16 a0 K := by kernel_rfl
theorem F16_calls {a0 : ByteArray} {K : Bool → World → Prop} {w : World} (h : F16 a0 K w) : callT Tryz.prog 16 #[(.string a0)] (.one (.one .bool)) K w :=
  vcgF_sound tabOk Tryz.func16 h16 [(.string a0)] (.one (.one .bool)) K w (Eq.mpr (congrFun (F16_tie a0 K) w) h)
end Go.Proofs.YtmooldhpiopcgaaGreatDoor
set_option linter.unusedSimpArgs false
set_option linter.unusedVariables false
set_option maxRecDepth 100000
namespace Go.Proofs.YtmooldhpiopcgaaGreatDoor
namespace Dq
open Go Go.Vx Dsk Cdc Trx
section
variable {w w' : World} {S F F' : Nat → Prop} {d : Nat} {D : Dk} {N : Nat}
theorem by_lit {b : Nat} {fr : Nat × Nat} {l : List UInt8} (h : w.heap[b]? = some (.cells (bv l).toArray 5 fr)) : By w ⟨some (at0 b), l.length, l.length⟩ l :=
  ⟨by simp, Nat.le_refl _, .inr ⟨b, 0, (bv l).toArray, fr, rfl, h, by simp, fun j v hj => by simpa using hj⟩⟩
theorem bstr_eq {l m : List UInt8} : (ByteArray.toList ⟨l.toArray⟩ == ByteArray.toList ⟨m.toArray⟩) = decide (l = m) := by
  rw [bytes_eq, decide_eq_decide]
  constructor
  · intro h
    have := congrArg (fun b : ByteArray => b.data.toList) h
    simpa using this
  · rintro rfl; rfl
abbrev nmA : Nm := { data := #[97] }
abbrev tOld : List UInt8 := [111, 108, 100]
abbrev tNew : List UInt8 := [110, 101, 119]
theorem encA (g : List UInt8 → Int) : encK g 1 tOld = (1, 0) := by
  unfold encK
  rw [if_neg (by decide), if_neg (by decide), if_neg (by decide)]
theorem able_plain (g : List UInt8 → Int) : ∃ (D1 D2 : Dk) (X : Fil) (D3 : Dk), (putR (newD 100) nmA tOld) = (D1, 0) ∧ openP g D1 nmA 1 10 = (D2, 0, some X, ⟨1, 0, tOld, false⟩) ∧ X.mark = [] ∧ X.name = nmA ∧ (saveP D2 X tNew false).1 = D3 ∧ (saveP D2 X tNew false).2.1 = 0 ∧ (callRead D3 nmA).2.1 = 0 ∧ (callRead D3 nmA).2.2 = tNew := by
  have ok0 := ok_new (space := 100) (by decide) (by decide)
  have s0 := Sol.new 100
  have hu0 : usedBut (newD 100) none ≤ ((names (newD 100).seen).length : Int) * (0 : Nat) := s0.used ok0 (fun m b hb => by cases hb) none
  have hn0 : (names (newD 100).seen).length = 0 := names_len (l := []) ⟨List.nodup_nil, fun n => by constructor; (intro h; cases h); (intro h; cases h)⟩
  have hu : userName nmA = true := by decide
  obtain ⟨hn, hsn⟩ := side_ok hu
  obtain ⟨p1, p2, p3, p4, p5, _⟩ := put_sol (n := nmA) (b := tOld) s0 ok0 hn (fun _ => by rw [hn0]; decide) (by
    show (3 : Int) ≤ 100 - usedBut (newD 100) none
    rw [hn0] at hu0; simp at hu0; omega)
  obtain ⟨D1, hD1⟩ : ∃ D1, D1 = (putR (newD 100) nmA tOld).1 := ⟨_, rfl⟩
  have okP : DkOk (putR (newD 100) nmA tOld).1 (0 + 1) := ok_put ok0 nmA tOld
  rw [← hD1] at p2 p3 p4 p5 okP
  have hv := p2.view nmA
  have hvn : vset (fun _ => none) nmA (some tOld) nmA = some tOld := by unfold vset; rw [if_pos rfl]
  rw [hvn] at hv
  obtain ⟨i, hi, hd⟩ := Option.map_eq_some_iff.1 hv
  have ho := open_old (g := g) (enc := 1) (limit := 10) p2.q hu (by decide) (by decide) hi hd (by rw [encA]; decide)
  rw [encA] at ho
  obtain ⟨X, hX⟩ : ∃ X : Fil, X = ⟨nmA, [], stampOf D1 nmA, (0, 0, 0)⟩ := ⟨_, rfl⟩
  have ho : openP g D1 nmA 1 10 = ({ D1 with steps := D1.steps + 1 + 1 }, 0, some X, ⟨1, 0, tOld, false⟩) := by rw [hX]; exact ho
  have s2 : Sol { D1 with steps := D1.steps + 1 + 1 } _ := p2.st (D1.steps + 1 + 1)
  have ok2 : DkOk { D1 with steps := D1.steps + 1 + 1 } (0 + 1 + 1 + 1) := ok_st (ok_st okP)
  have hXn : X.name = nmA := by rw [hX]
  have hXm : X.mark = [] := by rw [hX]
  have hside : D1.seen (side nmA) = none := p2.none_iff.2 (by unfold vset; rw [if_neg (side_ne nmA)])
  have hused := p2.used okP (B := 3) (fun m b hb => by
    unfold vset at hb
    split at hb
    · cases hb; decide
    · cases hb) none
  rw [hn0] at p5
  obtain ⟨c, h1, h2, h3, h4⟩ := save_quiet (X := X) (b := tNew) (force := false) s2.q ok2 (by rw [hXn]; exact hu) (fun _ => by show (names D1.seen).length < 16; omega) (by
    rw [hXm]
    show usedBut D1 none + 3 ≤ D1.space
    have : D1.space = 100 := p3
    rw [this]
    have h5 : ((names D1.seen).length : Int) ≤ 1 := by omega
    have : ((names D1.seen).length : Int) * ((3 : Nat) : Int) ≤ 1 * 3 := Int.mul_le_mul_of_nonneg_right h5 (by decide)
    omega) (.inr (by
    unfold knownAt
    have e1 : stampOf { D1 with steps := D1.steps + 1 + 1 } X.name = X.known := by rw [hX]; rfl
    rw [e1]; split <;> rfl))
  refine ⟨D1, _, X, _, by rw [hD1, ← p1], ho, hXm, hXn, rfl, by rw [h1], ?_⟩
  rw [hXm, hXn] at h2
  have s3 := h2.sol s2 ok2 (by unfold vset; rw [if_neg (side_ne nmA)]) h3
  have hv3 := s3.view nmA
  have hvn3 : vset (vset (fun _ => none) nmA (some tOld)) nmA (some ([] ++ tNew)) nmA = some ([] ++ tNew) := by unfold vset; rw [if_pos rfl]
  rw [hvn3] at hv3
  obtain ⟨i3, hi3, hd3⟩ := Option.map_eq_some_iff.1 hv3
  rw [read_q s3.q hn, hi3, if_neg (by simp)]
  exact ⟨rfl, hd3⟩
set_option maxHeartbeats 1000000 in
theorem able_call (hl : LaidE w) {K : Bool → World → Prop} (hK : ∀ w', Ext w w' → K true w') : callT Tryz.prog 14 #[] (.one (.one .bool)) K w := by
  refine F14_calls ?_
  unfold F14
  have hp : 0 < w.heap.size := by obtain ⟨c, t, fr, h, _⟩ := hl; exact lt_of_heap h
  obtain ⟨D1, D2, X, D3, a1, a2, a3, a4, a5, a6, a7, a8⟩ := able_plain fun _ => 0
  have ok0 := ok_new (space := 100) (by decide) (by decide)
  refine newS (by decide) (by decide) hp fun d F w1 A1 e1 hF => ?_
  have hz1 := e1.size
  refine join_r (fun x W => x = (false, ()) ∧ ∃ F', DS W d F' D1 2 ∧ Ext w W ∧ ∀ k, F' k → w.heap.size ≤ k) (sif_r (fun h => by cases h) fun _ => rdB_nnil' (sif_false ?_) uE) ?_
  · refine newO_r fun b5 w2 e2 n2 hb2 hz2 => lit_r (n := 3) (m := 3) uB ub n2 fun w3 fr n3 u3 => ?_
    have hx : By w3 ⟨some (at0 b5), 3, 3⟩ tOld := by_lit (l := tOld) n3
    have A3 := (A1.ext e2).frame u3 fun k hk hh => by have := A1.lt _ hk; omega
    have e3 : Ext w w3 := (e1.trans e2).step u3 fun k hk => by omega
    refine putS (x := ⟨some (at0 b5), 3, 3⟩) A3 (by omega) hx.x (fun k hk => ⟨hx.blk_lt hk, fun hh => by
      obtain ⟨q, hq, rfl⟩ := hk
      cases hq
      have := A1.lt _ hh
      have : b5 < w1.heap.size := this
      omega⟩) fun F4 w4 v4 hv4 A4 u4 hF4 => ?_
    have a1' : putR (newD 100) { data := #[97] } tOld = (D1, 0) := a1
    rw [a1'] at hv4 A4
    rw [hv4.ok rfl]
    have z3 := e3.size
    exact rdB_nnil' ⟨rfl, F4, A4, e3.step u4 fun k hk => hF k hk, fun k hk => (hF4 k hk).elim (hF k) fun hh => by omega⟩ uE
  rintro _ W1 ⟨rfl, F1, B1, E1, G1⟩
  have zz1 := E1.size
  refine sif_false (open_call (g := fun _ => 0) (fun _ => .inr (.inl (by decide))) B1 (by omega) (hl.ext E1) (by decide) fun F2 w2 fo sd R => ?_)
  have a2' : openP (fun _ => 0) D1 { data := #[97] } 1 10 = (D2, 0, some X, ⟨1, 0, tOld, false⟩) := a2
  rw [a2'] at R ⊢
  obtain ⟨f, sm, rfl, hX, hf, hsm⟩ := R.file
  have E2 : Ext w w2 := E1.step R.upd fun k hk => G1 k hk
  have G2 : ∀ k, F2 k → w.heap.size ≤ k := fun k hk => (R.new k hk).elim (G1 k) fun hh => by omega
  have zz2 := E2.size
  refine newO_r fun b10 w3 e3 n3 hb3 hz3 => aggSt_r n3 rfl rfl (by decide) fun w4 u4 n4 hz4 => ?_
  have n4 : w4.heap[b10]? = some (.cells (Cells.vals c32 (lodC 1 0 sd false)).toArray 32 (0, 0)) := n4
  have e24 : Ext w2 w4 := e3.step u4 fun k hk => by omega
  refine newO_r fun b11 w5 e5 n5 hb5 hz5 => lit_r (n := 3) (m := 3) uB ub n5 fun w6 fr n6 u6 => ?_
  have e46 : Ext w4 w6 := e5.step u6 fun k hk => by omega
  have e26 := e24.trans e46
  have hx : By w6 ⟨some (at0 b11), 3, 3⟩ tNew := by_lit (l := tNew) n6
  refine _root_.Go.Proofs.YtmooldhpiopcgaaGreatDoor.open_call (e := .u8) (lim := 10) (s := ⟨some (at0 b11), 3, 3⟩) hx (by decide) (by decide) fun p O M w7 hT _ hM e7 hO => ?_
  have e27 := e26.trans e7
  have E7 := E2.trans e27
  have A7 := R.disk.ext e27
  have X7 := hX.ext e27
  have z7 := e27.size
  have z26 := e26.size
  refine join_r (fun x W => x = (false, ()) ∧ ∃ F', DS W d F' D3 6000 ∧ Ext w W ∧ ∀ k, F' k → w.heap.size ≤ k) ?_ ?_
  · refine sif_r (fun h => by cases h) fun _ => sif_r (fun h => by cases h) fun _ => sif_r (fun h => by cases h) fun _ => sif_r (fun h => by cases h) fun _ => ?_
    refine ld_r ((e46.trans e7).ext_get n4) (off := 2) (x := sd) rfl (bytesStr_r uB ub us ((R.data.in.ext e27).x) ?_)
    have : (ByteArray.toList ⟨tOld.toArray⟩ == ByteArray.toList ({ data := #[111, 108, 100] } : ByteArray)) = true := by
      have := bstr_eq (l := tOld) (m := tOld)
      rw [decide_eq_true rfl] at this
      exact this
    rw [this]
    refine sif_r (fun h => by cases h) fun _ => save_call A7 (by omega) hT (fun k hk => ⟨fun hh => by have := hO k hk; have := R.disk.lt _ hh; omega, fun hh => by have := hO k hk; have := lt_of_heap hX.at_.box; omega⟩) X7 fun F8 w8 A8 _ _ _ u8 hF8 => ?_
    rw [hM] at A8 ⊢
    rw [a5] at A8
    rw [a6]
    refine ⟨rfl, F8, A8.mono (by omega), E7.step u8 fun k hk => hk.elim (G2 k) fun hh => by omega, fun k hk => (hF8 k hk).elim (G2 k) fun hh => by have := E7.size; omega⟩
  · rintro _ W8 ⟨rfl, F8, A8, E8, G8⟩
    refine sif_false (readS A8 (by omega) fun F9 w9 sx v9 hv9 A9 u9 hF9 row9 _ => ?_)
    have a7' : (callRead D3 { data := #[97] }).2.1 = 0 := a7
    have a8' : (callRead D3 { data := #[97] }).2.2 = tNew := a8
    rw [a7'] at hv9
    rw [a8'] at row9
    rw [hv9.ok rfl]
    have E9 : Ext w w9 := E8.step u9 fun k hk => G8 k hk
    refine rdB_nil' (sif_true (bytesStr_r uB ub us row9.in.x ?_)) uE
    have : (ByteArray.toList ⟨tNew.toArray⟩ == ByteArray.toList ({ data := #[110, 101, 119] } : ByteArray)) = true := by
      have := bstr_eq (l := tNew) (m := tNew)
      rw [decide_eq_true rfl] at this
      exact this
    rw [this]
    exact hK w9 E9
end
end Dq
end Go.Proofs.YtmooldhpiopcgaaGreatDoor
set_option linter.unusedSimpArgs false
set_option linter.unusedVariables false
set_option maxRecDepth 100000
namespace Go.Proofs.YtmooldhpiopcgaaGreatDoor
namespace Dq
open Go Go.Vx Dsk Cdc Trx
section
variable {w w' : World} {S F F' : Nat → Prop} {d : Nat} {D : Dk} {N : Nat}
theorem str_at {s : ByteArray} {i : Nat} (h : i < s.size) : s[i]? = some (s.get! i) := by
  have h1 := get_at h
  rw [Array.getElem?_toList] at h1
  have h' : i < s.data.size := h
  rw [getElem?_pos s i h]
  rw [getElem?_pos s.data i h'] at h1
  exact h1
set_option maxHeartbeats 1000000 in
theorem named_call {n : Nm} (hs : n.size < 2 ^ 62) {K : Bool → World → Prop} (hK : K (userName n) w) : callT Tryz.prog 16 #[.string n] (.one (.one .bool)) K w := by
  refine F16_calls ?_
  unfold F16
  refine join_at (decide (n.size = 0 ∨ 32 ≤ n.size ∨ n.data.back? = some 126), ()) ?_ ?_
  · refine sif_r (fun h => ⟨tupb ⟨fun _ => decide_eq_true (.inl ?_), fun _ => rfl⟩, rfl⟩) fun h => sif_r (fun h2 => ⟨tupb ⟨fun _ => decide_eq_true (.inr (.inl ?_)), fun _ => rfl⟩, rfl⟩) fun h2 => ?_
    · have := of_decide_eq_true h; omega
    · have := of_decide_eq_true h2; omega
    have h : n.size ≠ 0 := by have := of_decide_eq_false h; omega
    have h2 : ¬ 32 ≤ n.size := by have := of_decide_eq_false h2; omega
    have ew : IntKind.wrap .i64 (((ByteArray.size n : Nat) : Int) - 1) = ((n.size - 1 : Nat) : Int) := by rw [wrap64 (by omega) (by omega)]; omega
    rw [ew]
    refine ⟨n.get! (n.size - 1), ⟨by omega, by rw [Int.toNat_natCast]; exact str_at (by omega)⟩, tupb ?_, rfl⟩
    have hb : n.data.back? = some (n.get! (n.size - 1)) := by
      rw [Array.back?_eq_getElem?]
      have := get_at (s := n) (i := n.size - 1) (by omega)
      rw [Array.getElem?_toList] at this
      exact this
    have e126 := u8_eq (n.get! (n.size - 1)) 126 (by decide)
    have e126 : (((n.get! (n.size - 1)).toNat : Int) == 126) = (n.get! (n.size - 1) == 126) := e126
    rw [e126, beq_iff_eq, decide_eq_true_eq, hb]
    constructor
    · intro hh; exact .inr (.inr (by rw [hh]))
    · rintro (hh | hh | hh)
      · exact absurd hh h
      · exact absurd hh h2
      · exact Option.some.inj hh
  refine sif_r (fun h => ?_) fun h => ?_
  · have h := of_decide_eq_true h
    have : userName n = false := by
      unfold userName okName
      rcases h with h | h | h
      · simp [h]
      · have : ¬ n.size < 32 := by omega
        simp [this]
      · simp [h]
    rw [this] at hK; exact hK
  have h := of_decide_eq_false h
  simp only [not_or] at h
  obtain ⟨h1, h2, h3⟩ := h
  have h4 : n.size < 32 := by omega
  have h5 : n.size ≤ 32 := by omega
  have hu : userName n = n.data.toList.all okByte := by
    unfold userName okName
    simp [h1, h3, h4, h5]
  rw [hu] at hK
  refine join_r (fun _ W => w = W ∧ n.data.toList.all okByte = true) ?_ ?_
  · refine sloop_r (fun s W => ∃ i : Nat, s = ((i : Int), ()) ∧ w = W ∧ i ≤ n.size ∧ ∀ j, j < i → okByte (n.get! j) = true) (fun s _ => n.size - s.1.toNat) ⟨0, rfl, rfl, by omega, fun j hj => by omega⟩ ?_
    rintro _ _ ⟨i, rfl, rfl, hi, hok⟩
    refine sif_r (fun hlt => ?_) fun hge => ?_
    · have hlt : i < n.size := by have := of_decide_eq_true hlt; omega
      refine ⟨n.get! i, ⟨by omega, by rw [Int.toNat_natCast]; exact str_at hlt⟩, ?_⟩
      obtain ⟨c, hc⟩ : ∃ c : Nat, c = (n.get! i).toNat := ⟨_, rfl⟩
      have hokb : okByte (n.get! i) = decide ((97 ≤ c ∧ c ≤ 122) ∨ (65 ≤ c ∧ c ≤ 90) ∨ (48 ≤ c ∧ c ≤ 57) ∨ c = 46 ∨ c = 95 ∨ c = 45 ∨ c = 126) := by rw [hc]; rfl
      rw [← hc]
      refine join_at (!okByte (n.get! i), ()) ?_ (sif_r (fun hb => ?_) fun hb => ?_)
      · rw [hokb]
        repeat' refine sif_r (fun _ => ?_) fun _ => ?_
        all_goals
          refine ⟨tupb ?_, rfl⟩
          clear hK hu hok
          simp only [decide_eq_true_eq, decide_eq_false_iff_not, beq_iff_eq, beq_eq_false_iff_ne, ne_eq, Bool.not_eq_true', bne_iff_ne, Bool.false_eq_true, false_iff, Decidable.not_not, ge_iff_le] at *
          omega
      · have hb : okByte (n.get! i) = false := by simpa using hb
        have : n.data.toList.all okByte = false := by
          rw [Bool.eq_false_iff]; intro hh
          rw [List.all_eq_true] at hh
          have := hh _ (List.mem_of_getElem? (get_at hlt))
          rw [hb] at this; cases this
        rw [this] at hK; exact hK
      · have hb : okByte (n.get! i) = true := by simpa using hb
        rw [wrap64 (by omega) (by omega)]
        refine ⟨⟨i + 1, by rw [show ((i : Int) + 1) = ((i + 1 : Nat) : Int) by omega], rfl, by omega, fun j hj => ?_⟩, ?_⟩
        · by_cases hj' : j = i
          · rw [hj']; exact hb
          · exact hok j (by omega)
        · show n.size - ((i : Int) + 1).toNat < n.size - (i : Int).toNat
          omega
    · have hge := of_decide_eq_false hge
      refine ⟨rfl, ?_⟩
      rw [List.all_eq_true]
      intro x hx
      obtain ⟨j, hj⟩ := List.mem_iff_getElem?.1 hx
      have hlt := (List.getElem?_eq_some_iff.1 hj).1
      have hlt : j < n.size := by simpa using hlt
      rw [get_at hlt] at hj
      cases hj
      exact hok j (by omega)
  · rintro _ _ ⟨rfl, hall⟩
    rw [hall] at hK; exact hK
theorem steps_call (A : DiskIn w d F D) {K : Int → World → Prop} (hK : K D.steps w) : callT Tryz.prog 19 #[.pointer (some (at0 d))] (.one (.one (.int .i64))) K w := by
  obtain ⟨ms, ml, sa, pl, vs, fb, ds, A⟩ := A
  refine F19_calls ?_
  unfold F19
  refine nn_some ?_
  rw [addr_add]
  exact ld_r A.box (x := D.steps) rfl hK
set_option maxHeartbeats 1000000 in
theorem named_walk (hl : LaidE w) {n : Nm} (hs : n.size < 2 ^ 62) {K : Bool → World → Prop} (hK : ∀ w', Ext w w' → K true w') : callT Tryz.prog 3 #[.string n] (.one (.one .bool)) K w := by
  refine F3_calls ?_
  unfold F3
  have hp : 0 < w.heap.size := by obtain ⟨c, t, fr, h, _⟩ := hl; exact lt_of_heap h
  have ok0 := ok_new (space := 10) (by decide) (by decide)
  refine join_r (fun x W => x = (false, ()) ∧ Ext w W) ?_ ?_
  · refine able_call hl fun w1 e1 => sif_r (fun h => by cases h) fun _ => name_call hs fun w2 e2 => named_call hs (rdB_neqb i4_ok.und ⟨?_, e1.trans e2⟩)
    cases userName n <;> rfl
  rintro _ w1 ⟨rfl, e1⟩
  refine sif_false ?_
  have z1 := e1.size
  refine newS (by decide) (by decide) (by omega) fun d F w2 A2 e2 hF => ?_
  refine join_at (false, ()) (sif_r (fun h => by cases h) fun _ => rdB_nnil' ⟨rfl, rfl⟩ uE) (sif_false ?_)
  have E2 := e1.trans e2
  have q0 : Quiet (newD 10) := ⟨rfl, fun _ => rfl⟩
  refine open_call (g := fun _ => 0) (fun hu => .inr (.inr ?_)) A2 (by omega) (hl.ext E2) hs fun F3 w3 fo sd R => ?_
  · rw [stamp_q q0 (side_ok hu).1, if_pos (show (newD 10).seen n = none from rfl)]
  have E3 : Ext w w3 := E2.step R.upd fun k hk => by have := hF k hk; omega
  by_cases hu : userName n = true
  · have ho := open_new (g := fun _ => 0) (enc := 0) (limit := 10) q0 hu (by decide) (by decide) (h := rfl)
    rw [ho] at R ⊢
    obtain ⟨f, sm, rfl, hX, hf, hsm⟩ := R.file
    have hlen := bys_len R.data.in.x
    refine newO_r fun b w4 e4 n4 hb4 hz4 => aggSt_r n4 rfl rfl (by decide) fun w5 u5 n5 hz5 => ?_
    have n5 : w5.heap[b]? = some (.cells (Cells.vals c32 (lodC 1 0 sd true)).toArray 32 (0, 0)) := n5
    have e35 : Ext w3 w5 := e4.step u5 fun k hk => by omega
    have A5 := R.disk.ext e35
    refine named_call hs (sif_r (fun _ => ?_) fun h => by rw [hu] at h; cases h)
    refine sif_r (fun _ => ?_) fun h => by cases h
    refine sif_r (fun _ => ?_) fun h => by cases h
    refine ld_r n5 (off := 3) (x := true) rfl (sif_true ?_)
    refine ld_r n5 (off := 0) (x := (1 : Int)) rfl (sif_r (fun _ => ?_) fun h => by cases h)
    refine ld_r n5 (off := 1) (x := (0 : Int)) rfl (sif_r (fun _ => ?_) fun h => by cases h)
    refine ld_r n5 (off := 2) (x := sd) rfl (sif_r (fun _ => ?_) fun h => ?_)
    · refine steps_call A5.disk ?_
      exact hK w5 (E3.trans e35)
    · have h0 : sd.len = 0 := hlen.symm
      rw [h0] at h; cases h
  · have hu : userName n = false := by simpa using hu
    have ho : openP (fun _ => 0) (newD 10) n 0 10 = (newD 10, 164, none, noLod) := by unfold openP; rw [if_pos hu]
    rw [ho] at R ⊢
    have hfo : fo = none := R.file
    subst hfo
    refine newO_r fun b w4 e4 n4 hb4 hz4 => aggSt_r n4 rfl rfl (by decide) fun w5 u5 n5 hz5 => ?_
    have e35 : Ext w3 w5 := e4.step u5 fun k hk => by omega
    have A5 := R.disk.ext e35
    refine named_call hs (sif_r (fun h => by rw [hu] at h; cases h) fun _ => sif_r (fun _ => sif_r (fun _ => steps_call A5.disk ?_) fun h => by cases h) fun h => by cases h)
    exact hK w5 (E3.trans e35)
end
end Dq
end Go.Proofs.YtmooldhpiopcgaaGreatDoor
set_option linter.unusedSimpArgs false
set_option linter.unusedVariables false
namespace Go.Vx
open Go Go.ChangeShapes
section
variable {H : Type} {enc : TypeId × Value → H} {P : Program} {W : World} {base fuel : Nat} {held : Bool}
end
end Go.Vx
namespace Go.Vx
open Go Go.ChangeShapes Go.RowKit
section
variable {H : Type} {enc : TypeId × Value → H} {P : Program} {W W' : World}
theorem Ext.below (e : Ext W W') : Below W.heap.size W W' := ⟨e.os, e.tape, e.output, e.size, fun k hk => e.at_ k hk id⟩
theorem stays_all (hl : laidOutB P = true) {sp : Nat → Bool} : ∀ {ts : List TypeId} {vs : List Value} {ds : List (DataW H)} {ps : List MemPlace}, (∀ t ∈ ts, P.readableRec t = true ∧ t < P.types.size) →
    DataW.TrodAll enc P W 0 (fun _ => true) true ts vs ds ps → (∀ p ∈ ps, W.sameAt W' p) → (∀ p ∈ ps, sp p.block = true) → DataW.TrodAll enc P W' 0 sp true ts vs ds ps
  | [], [], [], _, _, h, _, _ => h
  | t :: ts, v :: vs, d :: ds, ps, hr, ⟨p, q, h1, h2, e⟩, hs, hsp => by
    subst e
    exact ⟨p, q, WideElems.Trod_stays hl (hr t List.mem_cons_self).1 (hr t List.mem_cons_self).2 h1 (fun x hx => hs x (List.mem_append_left _ hx)) (fun x hx => hsp x (List.mem_append_left _ hx)),
      stays_all hl (fun t' ht' => hr t' (List.mem_cons_of_mem _ ht')) h2 (fun x hx => hs x (List.mem_append_right _ hx)) (fun x hx => hsp x (List.mem_append_right _ hx)), rfl⟩
  | [], _ :: _, _, _, _, h, _, _ => h.elim
  | [], [], _ :: _, _, _, h, _, _ => h.elim
  | _ :: _, [], _, _, _, h, _, _ => h.elim
  | _ :: _, _ :: _, [], _, _, h, _, _ => h.elim
theorem post_same {f : Func} {s : ChangeSpec} {apart fresh handsOn again : Bool} {args : Array Value} {ds gs : List (DataW H)} {before : List MemPlace} {tb : TypeId}
    (hW : DataW.Whole enc P f.params.toList s.vars apart W args.toList ds gs before) (hv : s.vars = []) (hr : f.resultTypes = #[tb]) (hb : P.underlying tb = some .bool)
    (hs : s.fn H (ds ++ gs) = { results := [.lit (.bool true)], args := ds }) (hl : laidOutB P = true) (hrd : ∀ t ∈ f.params.toList, P.readableRec t = true ∧ t < P.types.size)
    (e : Ext W W') : s.post enc P f apart fresh handsOn again W args (.bool true) W' := by
  have hlt := hW.lt
  have hW0 := hW
  obtain ⟨pa, pv, hA, hV, rfl, hz, hn⟩ := hW
  have hBl := e.below
  have hsame : ∀ p ∈ pa ++ pv, W.sameAt W' p := fun p hp => hBl.same (hlt p hp)
  have hold : ∀ p ∈ pa ++ pv, (fun b => decide (b < W.heap.size)) p.block = true := fun p hp => by simpa using hlt p hp
  have hres : ∀ (b : Nat) (sp : Nat → Bool) (hd : Bool), DataW.TrodAll enc P W' b sp hd f.resultTypes.toList ((Value.bool true).resultList f.resultTypes.size) (s.fn H (ds ++ gs)).results [] := by
    intro b sp hd
    rw [hs, hr]
    exact trodAll_mk1 ⟨1, by simp [DataW.trod, hb, Value.cells]⟩
  have hargs : ∀ sp : Nat → Bool, (∀ p ∈ pa, sp p.block = true) → DataW.TrodAll enc P W' 0 sp true f.params.toList args.toList (s.fn H (ds ++ gs)).args pa := by
    intro sp hsp
    rw [hs]
    exact stays_all hl hrd hA (fun p hp => hsame p (List.mem_append_left _ hp)) hsp
  have hgs : gs = [] ∧ pv = [] := by
    rw [hv] at hV
    exact trodVars_none hV
  obtain ⟨rfl, rfl⟩ := hgs
  have hvars : ∀ sp : Nat → Bool, DataW.TrodVars enc P W' sp s.vars (s.fn H (ds ++ [])).vars [] := by
    intro sp
    rw [hs, hv]
    exact rfl
  have hall : ∀ p ∈ ([] ++ pa) ++ [], p ∈ pa ++ [] := fun p hp => by simpa using hp
  refine ⟨ds, [], pa ++ [], [], pa, [], hW0, hres _ _ _, hargs _ (fun p hp => hold p (List.mem_append_left _ hp)), hvars _, hBl.frame _, fun _ => ⟨ok_one hr rfl (okWide_bool_mk hb true), [.lit (.bool true)] ++ ds, [], ([] ++ pa) ++ [], ?_, fun p hp _ => hall p hp⟩⟩
  have h1 := trodAll_append (hargs (fun _ => true) (fun _ _ => rfl)) (hres 0 (fun _ => true) true)
  rw [hs] at h1
  have h2 := hvars (fun _ => true)
  rw [hs] at h2
  refine ⟨[] ++ pa, [], h1, h2, rfl, ?_, fun ha => ?_⟩
  · intro b off hp
    have hp' := hall _ hp
    have hb' := hlt _ hp'
    rw [hBl.frozen (p := ⟨b, off, none⟩) hb']
    exact hz b off hp'
  · have := hn ha
    simpa using this
end
end Go.Vx
set_option linter.unusedSimpArgs false
set_option linter.unusedVariables false
set_option maxRecDepth 100000
namespace Go.Proofs.YtmooldhpiopcgaaGreatDoor
namespace Dq
open Go Go.Vx Go.ChangeShapes Go.WideShapes Go.RowKit Dsk
theorem own : ownKnob Tryz.prog.godebug = none := by kernel_rfl
theorem laidOut : laidOutB Tryz.prog = true := by kernel_rfl
theorem u4 : Tryz.prog.underlying 4 = some .bool := i4_ok.und
theorem uStr : Tryz.prog.underlying 9 = some .string := i9_ok.und
theorem gErr : Tryz.prog.globalNamed "errors.errorType" = some 0 := by kernel_rfl
theorem tRt : (Tryz.prog.cutTypes.find? (·.1 == "internal/reflectlite.rtype")).map (·.2) = some 211 := by kernel_rfl
theorem typesN : Tryz.prog.types.size = 363 := by kernel_rfl
theorem oneRow : ((List.range 363).filter fun t => Tryz.prog.rowNamed t [101, 114, 114, 111, 114]) = [26] := by kernel_rfl
theorem hdlE : typeHandle Tryz.prog 26 = hdl 26 := by kernel_rfl
abbrev laidL : List (String × DataW Unit) := [("errors.errorType", Rows.laid_errors_errorType)]
theorem cell_laid {W : World} (h : laidMetH Tryz.prog laidL W) : W.cell? ⟨0, 0, none⟩ = some (rty 26) := by
  have h' : laidMet Tryz.prog [] W ∧ handlesMet Tryz.prog laidL W := h
  obtain ⟨name, u, ty, e1, e2, e3, e4, e5⟩ := h'.2 _ (List.mem_singleton.2 rfl)
  have en : name = [101, 114, 114, 111, 114] := (Option.some.inj e1).symm
  subst en
  obtain rfl := Option.some.inj (tRt.symm.trans e2)
  have hm : ty ∈ (List.range 363).filter fun t => Tryz.prog.rowNamed t [101, 114, 114, 111, 114] := List.mem_filter.2 ⟨List.mem_range.2 (by rw [← typesN]; exact e3), e4⟩
  rw [oneRow] at hm
  obtain rfl := List.mem_singleton.1 hm
  rw [hdlE] at e5
  simpa using World.var?_cell gErr e5 0
theorem laid_of {W : World} (h : laidMetH Tryz.prog laidL W) : LaidE W := by
  have h := cell_laid h
  unfold World.cell? at h
  split at h
  · rename_i cs t fr hb
    exact ⟨cs, t, fr, hb, h⟩
  all_goals simp_all
noncomputable def laidWorld (os : Os) : World :=
  let w0 := World.holding Tryz.prog os ⟨#[], #[], []⟩
  { w0 with heap := w0.heap.modify 0 fun
    | .cells _ t frozen => .cells #[.iface 211 (.agg #[.pointer (some ⟨2, 26, none⟩)])] t frozen
    | o => o }
theorem laid_met (os : Os) (args : Array Value) : laidMetH Tryz.prog laidL ((laidWorld os).forCall (fun _ _ => 0) ⟨#[], args, []⟩).memory :=
  laidMetH_of_parts (laidMet_nil _ _) (by kernel_rfl)
theorem trodAll_get {H : Type} {enc : TypeId × Value → H} {P : Program} {w : World} {base : Nat} {spare : Nat → Bool} {held : Bool} : ∀ {ts : List TypeId} {vs : List Value} {ds : List (DataW H)} {ps : List MemPlace}, DataW.TrodAll enc P w base spare held ts vs ds ps →
    vs.length = ts.length ∧ ds.length = ts.length ∧ ∀ (j : Nat) t v d, ts[j]? = some t → vs[j]? = some v → ds[j]? = some d → ∃ p, DataW.Trod enc P w base spare held t v d p
  | [], [], [], _, _ => ⟨rfl, rfl, fun j t v d h => by simp at h⟩
  | t :: ts, v :: vs, d :: ds, ps, ⟨p, q, h1, h2, e⟩ => by
    obtain ⟨a, b, c⟩ := trodAll_get h2
    refine ⟨by simp [a], by simp [b], fun j t' v' d' ht hv hd => ?_⟩
    match j with
    | 0 => cases ht; cases hv; cases hd; exact ⟨p, h1⟩
    | j + 1 => exact c j t' v' d' (by simpa using ht) (by simpa using hv) (by simpa using hd)
  | [], _ :: _, _, _, h => h.elim
  | [], [], _ :: _, _, h => h.elim
  | _ :: _, [], _, _, h => h.elim
  | _ :: _, _ :: _, [], _, h => h.elim
theorem list_1 {α : Type} (l : List α) (h : l.length = 1) : ∃ v0, l = [v0] := by
  match l, h with
  | [v0], _ => exact ⟨v0, rfl⟩
theorem arg_str {H : Type} {enc : TypeId × Value → H} {W : World} {base : Nat} {v : Value} {d : DataW H} {p : List MemPlace} (hv : Value.okWide Tryz.prog W .any base 9 v) (h : DataW.Trod enc Tryz.prog W 0 (fun _ => true) true 9 v d p) (hb : Rows.uptoBulk d ≤ 1048576) :
    ∃ s : ByteArray, v = .string s ∧ s.size < 1048576 := by
  obtain ⟨s, rfl, rfl, _, _⟩ := ChangeMaps.open_string uStr hv h
  simp only [Rows.uptoBulk] at hb
  have : s.data.toList.length = s.size := by simp
  exact ⟨s, rfl, by omega⟩
theorem recStr : Tryz.prog.readableRec 9 = true := by kernel_rfl
theorem recs {t : TypeId} (h : t = 9) : Tryz.prog.readableRec t = true ∧ t < Tryz.prog.types.size := by
  subst h
  exact ⟨recStr, by rw [typesN]; decide⟩
end Dq
end Go.Proofs.YtmooldhpiopcgaaGreatDoor
set_option linter.unusedSimpArgs false
set_option linter.unusedVariables false
namespace Go.Proofs.YtmooldhpiopcgaaGreatDoor
namespace Dq
open Go Go.Vx Go.ChangeShapes Go.WideShapes Go.RowKit
theorem and2 {a b : Bool} (h : a = true) (h' : b = true) : (a && b) = true := by rw [h, h']; rfl
theorem saveNamed_witness (os : Os) {H : Type} (enc : TypeId × Value → H) :
    (Rows.OpenSpec.upto Rows.saveNamedSpec).preRow enc Tryz.prog Tryz.f3 Rows.saveNamedUptoRow.domain false laidL ((laidWorld os).forCall (fun _ _ => 0) ⟨#[], #[.string ⟨#[]⟩], []⟩).memory #[.string ⟨#[]⟩] := by
  have hw : (DataW.whole enc Tryz.prog ((laidWorld os).forCall (fun _ _ => 0) ⟨#[], #[.string ⟨#[]⟩], []⟩).memory Tryz.f3.params.toList (Rows.OpenSpec.upto Rows.saveNamedSpec).vars false #[Value.string ⟨#[]⟩].toList 8).map (fun x => (x.1, x.2.1)) =
      some ([.lit (.string [])], []) := by kernel_rfl
  obtain ⟨⟨x1, x2, x3⟩, hx, hx1⟩ := Option.map_eq_some_iff.1 hw
  simp only [Prod.mk.injEq] at hx1
  obtain ⟨rfl, rfl⟩ := hx1
  exact OpenSpec.preRow_of_cond 8 hx (by kernel_rfl) (fun k hk => by cases hk; kernel_rfl) (by kernel_rfl) (laid_met os _)
set_option maxRecDepth 100000 in
set_option maxHeartbeats 2000000 in
theorem saveNamed_lifted (os : Os) (started : os.Started) (H : Type) (enc : TypeId × Value → H) (F : Stop.Interp) :
    ReturnsInHanded {} Tryz.checked os 3 .any ((Rows.OpenSpec.upto Rows.saveNamedSpec).preRow enc Tryz.prog Tryz.f3 Rows.saveNamedUptoRow.domain false laidL) (((Rows.OpenSpec.upto Rows.saveNamedSpec).at F).post enc Tryz.prog Tryz.f3 false true false false) := by
  refine returnsInHanded_of_row (C := Tryz.checked) (s := Rows.OpenSpec.upto Rows.saveNamedSpec) own started (by kernel_rfl) Tryz.func3
    (witness_row_atRef (enc := enc) (C := Tryz.checked) false (laidWorld os) #[.string ⟨#[]⟩] rfl (by kernel_rfl) (by kernel_rfl) (by kernel_rfl) (saveNamed_witness os enc)) ?_
  intro W base args ds gs before hval0 hW _ hk hwt0 hL _ _
  have hval : ∀ (j : Nat) t v, Tryz.f3.params[j]? = some t → args[j]? = some v → Value.okWide Tryz.prog W .any base t v := hval0
  have hW' := hW
  obtain ⟨p, q, hA0, hV, rfl, hfz, hnd⟩ := hW
  have hA : DataW.TrodAll enc Tryz.prog W 0 (fun _ => true) true Tryz.f3.params.toList args.toList ds p := hA0
  clear hA0 hval0 hwt0
  rw [Tryz.params3] at hA hval
  obtain ⟨rfl, rfl⟩ := trodVars_none hV
  obtain ⟨hn1, hn2, hT⟩ := trodAll_get hA
  obtain ⟨v0, hv⟩ := list_1 args.toList hn1
  obtain rfl : args = #[v0] := by cases args; simp_all
  obtain ⟨d0, rfl⟩ := list_1 ds hn2
  have hbulk : Rows.uptoBulk d0 ≤ 1048576 := by
    have h : Rows.uptoBulkAll ([d0] ++ []) ≤ 1048576 := of_decide_eq_true (hk _ rfl)
    simp only [List.append_nil, Rows.uptoBulkAll] at h
    omega
  obtain ⟨p0, q0⟩ := hT 0 9 v0 d0 rfl rfl rfl
  obtain ⟨s, rfl, hs⟩ := arg_str (hval 0 9 v0 rfl rfl) q0 hbulk
  have walk := named_walk (laid_of hL) (n := s) (by omega) (K := fun r w' => r = true ∧ Ext W w') fun w' e => ⟨rfl, e⟩
  refine walk.mono fun e W' ⟨x, he, hx, hext⟩ => ⟨.bool true, ?_, ?_⟩
  · subst hx; exact he
  · exact post_same (s := Rows.saveNamedSpec) hW' rfl rfl u4 rfl laidOut (fun t ht => by
      rw [Tryz.params3] at ht
      have ht : t ∈ [9] := ht
      simp only [List.mem_cons, List.not_mem_nil, or_false] at ht
      exact recs ht) hext
set_option maxHeartbeats 0 in
theorem saveNamed_facts : joinedFacts Tryz.pinned.checked.prog 3 Tryz.f3 (Rows.OpenSpec.upto Rows.saveNamedSpec).bare Rows.saveNamedUptoRow = true := by
  unfold joinedFacts
  with_reducible repeat' apply and2
  all_goals as_aux_lemma => kernel_rfl
theorem saveNamed_row : Rows.SaveNamedUptoSaid :=
  OpenClaim.holds_of_cond 3 Tryz.f3 rfl rfl rfl rfl rfl rfl rfl ⟨rfl, rfl, rfl, rfl, rfl⟩ rfl rfl rfl rfl rfl (by as_aux_lemma => kernel_rfl) Tryz.func3 saveNamed_facts
    (of_decide_eq_true (by as_aux_lemma => kernel_rfl)) (by unfold Func.isWrapper; rw [if_neg (by as_aux_lemma => decide +kernel)]; exact ⟨rfl, rfl⟩)
    (fun os started H enc _ F => by rw [OpenClaim.pre_eq_preRow]; exact saveNamed_lifted os started H enc F)
end Dq
theorem saveNamed_holds : Rows.SaveNamedUptoCardSaid :=
  Claim7.holds_tied_plain_at .later [] [.handle] true (true, "8fa86d716e3cbb5d44ad5d616054dc9adf16b2d155b2b8fa930f25b85a3d54ce") true
    Dq.saveNamed_row (fun _ h => by cases h) (by as_aux_lemma => kernel_rfl) (fun _ h => by cases h) saveNamedUpto_row_tie rfl ⟨rfl, rfl⟩ (by as_aux_lemma => kernel_rfl) rfl
    (fun f fn hf hfn => by
      obtain rfl : f = 3 := Option.some.inj ((show Tryz.prog.funcNamed "copyist/copyistlaw17.SaveNamed" = some 3 by as_aux_lemma => kernel_rfl).symm.trans hf) |>.symm
      obtain rfl : fn = Tryz.f3 := (Option.some.inj (Tryz.func3.symm.trans hfn)).symm
      exact ⟨by as_aux_lemma => kernel_rfl, fun j t ht => by
        rw [Tryz.params3] at ht
        have hm : t ∈ [9] := by simpa using Array.mem_of_getElem? ht
        have hall : ([9].all fun u => !Tryz.prog.wantsStandIn u) = true := by as_aux_lemma => kernel_rfl
        exact (show Tryz.prog.wantsStandIn t = false by simpa using List.all_eq_true.1 hall t hm)⟩)
    (by as_aux_lemma => kernel_rfl)
end Go.Proofs.YtmooldhpiopcgaaGreatDoor
