/- A bank in memory, and what a look, a store and a delete do to it. Conditions: none. -/
import Derived.Test.YtocdfkeflakemaaReg
set_option linter.unusedSimpArgs false
set_option linter.unusedVariables false
namespace Go.Proofs.Ytocdfkeflakemaa
open Go Go.Vx

/-- what a cell of the map holds -/
def HeldV (w : World) (Z : Nat → Prop) : Option Value → Option (Int × List Int) → Prop
  | none, none => True
  | some v, some r => ∃ s : Sl, v = .agg #[.int .i64 r.1, sv s] ∧ Ints w s r.2 ∧ 0 < r.2.length ∧ r.2.length ≤ 140000 ∧ ∀ k, s.blk k → ¬ Z k
  | _, _ => False

/-- the bank at a place, with its map; no text that it holds lies in a block of Z -/
structure BankIn (w : World) (pb m : Nat) (Z : Nat → Prop) (b : Reg.Bk) : Prop where
  box : w.heap[pb]? = some (.cells #[.map (some m), .int .i64 b.to] 73 (0, 0))
  map : ∃ es, MapI w m es ∧ ∀ k, HeldV w Z (mget es k) (b.held k)

abbrev BM (pb m : Nat) : Nat → Prop := fun k => k = pb ∨ k = m

section
variable {w w' : World} {pb m : Nat} {b : Reg.Bk} {M S Z Z' : Nat → Prop} {ls : List (Nat × Obj)}

theorem HeldV.upd {v : Option Value} {r : Option (Int × List Int)} (h : HeldV w Z v r) (u : Upd S w w') (hS : ∀ k, S k → k < w.heap.size → (∀ c t fr, w.heap[k]? = some (.cells c t fr) → t ≠ 3) ∨ Z k) (hz : ∀ k, Z' k → Z k ∨ w.heap.size ≤ k) : HeldV w' Z' v r := by
  match v, r, h with
  | none, none, _ => trivial
  | some v, some r, ⟨s, e, hs, h1, h2, h3⟩ =>
    refine ⟨s, e, hs.upd u fun k hk hSk => ?_, h1, h2, fun k hk hzk => ?_⟩
    · have hlt := hs.blk_lt hk
      have hk0 := hk
      obtain ⟨p, hp, rfl⟩ := hk
      rcases hS _ hSk hlt with hS | hS
      · rcases hs.at_ with ⟨hn, _⟩ | ⟨b', off, c', fr', ha, hb', _⟩
        · rw [hn] at hp; cases hp
        · rw [ha] at hp; cases hp
          exact hS _ _ _ hb' rfl
      · exact h3 _ hk0 hS
    · have hlt := hs.blk_lt hk
      rcases hz k hzk with h | h
      · exact h3 k hk h
      · omega

theorem BankIn.ne (h : BankIn w pb m Z b) : pb ≠ m := by
  rintro rfl
  obtain ⟨es, ⟨⟨c, hh, _⟩, _, _⟩, _⟩ := h.map
  rw [h.box] at hh; cases hh
theorem BankIn.updZ (h : BankIn w pb m Z b) (u : Upd S w w') (h1 : ¬ S pb) (h2 : ¬ S m) (hS : ∀ k, S k → k < w.heap.size → (∀ c t fr, w.heap[k]? = some (.cells c t fr) → t ≠ 3) ∨ Z k) (hz : ∀ k, Z' k → Z k ∨ w.heap.size ≤ k) : BankIn w' pb m Z' b := by
  obtain ⟨es, hm, hh⟩ := h.map
  exact ⟨u.get h.box h1, es, hm.upd u h2, fun k => (hh k).upd u hS hz⟩
theorem BankIn.upd (h : BankIn w pb m Z b) (u : Upd S w w') (h1 : ¬ S pb) (h2 : ¬ S m) (hS : ∀ k, S k → k < w.heap.size → (∀ c t fr, w.heap[k]? = some (.cells c t fr) → t ≠ 3) ∨ Z k) : BankIn w' pb m Z b := h.updZ u h1 h2 hS fun _ h => .inl h
theorem BankIn.ext (h : BankIn w pb m Z b) (u : Ext w w') : BankIn w' pb m Z b := h.upd u id id fun _ h => h.elim
theorem BankIn.lt (h : BankIn w pb m Z b) : ∀ k, BM pb m k → k < w.heap.size := by
  obtain ⟨es, ⟨⟨c, hh, _⟩, _, _⟩, _⟩ := h.map
  rintro k (rfl | rfl)
  · exact lt_of_heap h.box
  · exact lt_of_heap hh
/-- a box of one's own that is set, of another type than a text -/
theorem BankIn.box_upd (h : BankIn w pb m Z b) {x : Nat} {c : Array Value} {t : TypeId} {fr : Nat × Nat} (hx : w.heap[x]? = some (.cells c t fr)) (ht : t ≠ 3) (ht' : t ≠ 73) (u : Upd (fun k => k = x) w w') : BankIn w' pb m Z b := by
  refine h.upd u ?_ ?_ ?_
  · rintro rfl
    rw [h.box] at hx; cases hx; exact ht' rfl
  · rintro rfl
    obtain ⟨es, ⟨⟨c, hh, _⟩, _, _⟩, _⟩ := h.map
    rw [hh] at hx; cases hx
  · rintro k rfl _
    refine .inl fun c' t' fr' h' => ?_
    rw [hx] at h'; cases h'; exact ht

theorem M71 : MapTy Try.prog 71 (.agg #[.int .i64 0, .slice none 0 0]) := MapTy.of i71_ok i3_ok i28_ok rfl rfl rfl

/-- the map answers so -/
abbrev Looks (w : World) (m : Nat) (k : Int) (x : (Int × Sl × Unit) × Bool × Unit) : Prop := ∀ w', Ext w w' → (Instr.lookup 71 (.map (some m)) (.int .i64 k) true).run Try.prog w' = .ok (RTy.val (.tup [(.agg c28), (.one .bool)]) x) w'
/-- a look into the map -/
theorem BankIn.look (h : BankIn w pb m Z b) (k : Int) {K : ((Int × Sl × Unit) × Bool × Unit) → World → Prop} (h0 : b.held k = none → Looks w m k ((0, ⟨none, 0, 0⟩, ()), false, ()) → K ((0, ⟨none, 0, 0⟩, ()), false, ()) w)
    (h1 : ∀ kd l s, b.held k = some (kd, l) → Ints w s l → 0 < l.length → l.length ≤ 140000 → (∀ k, s.blk k → ¬ Z k) → Looks w m k ((kd, s, ()), true, ()) → K ((kd, s, ()), true, ()) w) :
    rdT Try.prog (.tup [(.agg c28), (.one .bool)]) (Instr.lookup 71 (.map (some m)) (.int .i64 k) true) K w := by
  obtain ⟨es, hm, hh⟩ := h.map
  have hk := hh k
  have hr := fun w' (u : Ext w w') => lookup_run M71 (hm.ext u) k
  generalize hv : mget es k = v at hk hr
  generalize hl : b.held k = r at hk
  match v, r, hk with
  | none, none, _ => exact ⟨((0, ⟨none, 0, 0⟩, ()), false, ()), hr w (Ext.refl w), h0 hl hr⟩
  | some _, some (kd, l), ⟨s, rfl, hs, h2, h3, h4⟩ => exact ⟨((kd, s, ()), true, ()), hr w (Ext.refl w), h1 kd l s hl hs h2 h3 h4 hr⟩

theorem HeldV.map_upd {v : Option Value} {r : Option (Int × List Int)} (h : HeldV w Z v r) {m : Nat} {es : Array MapEntry} {c : Nat} (hm : w.heap[m]? = some (.map es c)) (u : Upd (fun k => k = m) w w') : HeldV w' Z v r :=
  h.upd u (fun k hk _ => .inl fun c' t' fr' h' => by subst hk; rw [hm] at h'; cases h') fun _ h => .inl h

theorem BankIn.update (h : BankIn w pb m Z b) (k : Int) {kd : Int} {l : List Int} {s : Sl} (hs : Ints w s l) (h1 : 0 < l.length) (h2 : l.length ≤ 140000) (h3 : ∀ k, s.blk k → ¬ Z k) {K : World → Prop} (hK : ∀ w', BankIn w' pb m Z ⟨Reg.put b.held k (some (kd, l)), b.to⟩ → Upd (fun k => k = m) w w' → K w') :
    rawU Try.prog (Instr.mapUpdate 71 (.map (some m)) (.int .i64 k) (.agg #[.int .i64 kd, .slice s.a s.len s.cap])) K w := by
  have hne := h.ne
  obtain ⟨es, hm, hh⟩ := h.map
  obtain ⟨es', w', hr, hm', hg, u, _, _⟩ := update_run M71 hm k (.agg #[.int .i64 kd, .slice s.a s.len s.cap])
  obtain ⟨⟨c, hc, _⟩, _, _⟩ := hm
  refine ⟨w', hr, hK w' ⟨u.get h.box hne, es', hm', fun k' => ?_⟩ u⟩
  rw [hg k']
  simp only [Reg.put]
  by_cases e : k' = k
  · rw [if_pos e, if_pos e]
    have hx : HeldV w Z (some (.agg #[.int .i64 kd, .slice s.a s.len s.cap])) (some (kd, l)) := ⟨s, rfl, hs, h1, h2, h3⟩
    exact hx.map_upd hc u
  · rw [if_neg e, if_neg e]
    exact (hh k').map_upd hc u

theorem BankIn.delete (h : BankIn w pb m Z b) (k : Int) {K : Unit → World → Prop} (hK : ∀ w', BankIn w' pb m Z ⟨Reg.put b.held k none, b.to⟩ → Upd (fun k => k = m) w w' → K () w') :
    rawT Try.prog (.tup []) (Builtin.delete_ #[71, 3] 0 #[(.map (some m)), (.int .i64 k)]) K w := by
  have hne := h.ne
  obtain ⟨es, hm, hh⟩ := h.map
  obtain ⟨es', w', hr, hm', hg, u, _, _⟩ := delete_run (kt' := 3) (rt := 0) M71 hm k
  obtain ⟨⟨c, hc, _⟩, _, _⟩ := hm
  refine ⟨(), w', hr, hK w' ⟨u.get h.box hne, es', hm', fun k' => ?_⟩ u⟩
  rw [hg k']
  simp only [Reg.put]
  by_cases e : k' = k
  · rw [if_pos e, if_pos e]; trivial
  · rw [if_neg e, if_neg e]
    exact (hh k').map_upd hc u

theorem BankIn.ldm (h : BankIn w pb m Z b) {K : Option Nat → World → Prop} (hK : K (some m) w) : ld (.map) (at0 pb) K w := ld_r h.box rfl hK
theorem BankIn.ldt (h : BankIn w pb m Z b) {K : Int → World → Prop} (hK : K b.to w) : ld (.int .i64) (⟨pb, 1, none⟩ : Addr) K w := ld_r h.box rfl hK
theorem BankIn.keepm (h : BankIn w pb m Z b) {K : World → Prop} (hK : K w) : keep (fun w => w.cell? (at0 pb) = some (Cell.val (.map) (some m))) K w := ⟨cell_of h.box rfl, hK⟩
theorem BankIn.sett (h : BankIn w pb m Z b) (x : Int) {K : World → Prop} (hK : ∀ w', BankIn w' pb m Z ⟨b.held, x⟩ → Upd (fun k => k = pb) w w' → K w') : stC (⟨pb, 1, none⟩ : Addr) (.int .i64 x) K w := by
  have hne := h.ne
  refine stC_r h.box (by simp) fun w1 u hb _ => hK w1 ⟨by simpa using hb, ?_⟩ u
  obtain ⟨es, hm, hh⟩ := h.map
  refine ⟨es, hm.upd u fun e => hne e.symm, fun k => (hh k).upd u ?_ fun _ h => .inl h⟩
  rintro k rfl _
  refine .inl fun c t fr h' => ?_
  rw [h.box] at h'; cases h'; decide
end
end Go.Proofs.Ytocdfkeflakemaa
