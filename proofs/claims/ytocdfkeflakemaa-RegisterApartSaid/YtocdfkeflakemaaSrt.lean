/- What slices.Sort does to a list of ints of one's own, in this proof's words. Conditions: the list lies in a block of its own. -/
import Derived.Test.YtocdfkeflakemaaShelf
import Derived.Test.YtocdfkeflakemaaReg
import Derived.Test.YtocdfkeflakemaaVxI
set_option linter.unusedSimpArgs false
set_option linter.unusedVariables false
namespace Go.Proofs.Ytocdfkeflakemaa
open Go Go.Vx
section
variable {w w' : World}
/-- the lists in order -/
abbrev srt (l : List Int) : List Int := l.mergeSort fun x y => decide (x ≤ y)

theorem sort_call {B : Nat} {s : Sl} {l : List Int} {K : Unit → World → Prop} (o : IntsO w B s l) (hl : l.length ≤ 2 ^ 60) (hK : ∀ w', IntsO w' B s (srt l) → Upd s.blk w w' → K () w') :
    callT Try.prog 45 #[.slice s.a s.len s.cap] (.tup []) K w := by
  have hn := o.length
  have hls : (srt l).length = l.length := List.length_mergeSort l
  rcases o.at_ with ⟨ha, hc⟩ | ⟨blk, off, c, ha, hB, hb, hcap, hv⟩
  · have h0 : s.len = 0 := by have := o.le; omega
    have hl0 : l = [] := List.length_eq_zero_iff.1 (by omega)
    subst hl0
    have e : srt [] = [] := by simp [srt]
    rw [e] at hK
    rw [ha, h0]
    exact (Try.slices_Sort_int_none none s.cap w).mono fun e w' ⟨he, hw⟩ => ⟨(), he, by subst hw; exact hK w' o (Upd.refl _ _)⟩
  · have hH : Go.Sort.Holds (Value.int .i64) w blk off l.toArray := by
      intro j hj
      have hj' : j < l.length := by simpa using hj
      refine ⟨cell_of hb ?_, by simp [World.frozen?, hb]⟩
      have := hv j (.int .i64 l[j]) (by simp [hj'])
      rw [this]
      simp [getElem!_pos, hj']
    have hrun := Try.slices_Sort_int blk off s.cap l w hH (lt_of_heap hb) (by omega)
    rw [ha, ← hn]
    refine hrun.mono fun e w' ⟨he, n, os, hw⟩ => ⟨(), he, ?_⟩
    obtain ⟨c', hc'⟩ : ∃ c', c' = Go.Sort.putCells (Value.int .i64) off (srt l).toArray c := ⟨_, rfl⟩
    have hsz : c'.size = c.size := by rw [hc']; simp [Go.Sort.putCells]
    have hheap : w'.heap = w.heap.modify blk (Go.Sort.onCells (Go.Sort.putCells (Value.int .i64) off (srt l).toArray)) ++ os := by rw [hw]; rfl
    have hlt := lt_of_heap hb
    have hblk : w'.heap[blk]? = some (.cells c' 3 (0, 0)) := by
      rw [hheap, Array.getElem?_append_left (by simpa using hlt), Array.getElem?_modify, if_pos rfl, hb, hc']
      rfl
    have hupd : Upd s.blk w w' := by
      refine ⟨by rw [hw]; rfl, by rw [hw]; rfl, by rw [hw]; rfl, by rw [hheap]; simp, fun k hk hs => ?_⟩
      have hne : ¬ blk = k := fun h => hs ⟨_, ha, h⟩
      rw [hheap, Array.getElem?_append_left (by simpa using hk), Array.getElem?_modify, if_neg hne]
    refine hK w' ⟨by simp [hls, hn], o.le, .inr ⟨blk, off, c', ha, hB, hblk, by rw [hsz]; exact hcap, fun i v hi => ?_⟩⟩ hupd
    have hil : i < (srt l).length := by have := (List.getElem?_eq_some_iff.1 hi).1; simpa using this
    have hle := o.le
    have hiv : v = .int .i64 (srt l)[i] := by
      rw [List.getElem?_map, List.getElem?_eq_getElem hil] at hi
      exact (Option.some.inj hi).symm
    have hcs : off + i < c.size := by omega
    rw [hc', hiv]
    unfold Go.Sort.putCells
    rw [Array.getElem?_mapIdx, Array.getElem?_eq_getElem hcs]
    have hcond : off ≤ off + i ∧ off + i < off + (srt l).toArray.size := ⟨by omega, by simp; omega⟩
    simp only [Option.map_some, if_pos hcond]
    rw [show off + i - off = i by omega, getElem!_pos _ i (by simpa using hil)]
    rfl
end
end Go.Proofs.Ytocdfkeflakemaa
