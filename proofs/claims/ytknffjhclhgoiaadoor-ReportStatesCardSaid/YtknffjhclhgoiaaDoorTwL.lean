/- The typed walk, part L: tables of the program: package-level variables that hold what they were laid with. -/
import Derived.Test.YtknffjhclhgoiaaDoorTwK
import Derived.Lib.LaidTab
set_option linter.unusedVariables false
set_option linter.unusedSimpArgs false
namespace Go.Tw
open Go Go.RowKit

/-- The variable number g holds these cells, and isn't written. -/
def tabAt (D : Dirty) (w : World) (g : Nat) (cells : List Value) : Prop := ¬ D g ∧ ∃ t fr, w.heap[g]? = some (.cells cells.toArray t fr)
theorem tabAt.lt {D : Dirty} {w : World} {g : Nat} {cells : List Value} (h : tabAt D w g cells) : g < w.heap.size := by
  obtain ⟨_, t, fr, hg⟩ := h
  exact (Array.getElem?_eq_some_iff.1 hg).1
theorem tabAt.stay {D D' : Dirty} {w w' : World} {g : Nat} {cells : List Value} (h : tabAt D w g cells) (k : Keep D D' w w') : tabAt D' w' g cells := by
  have hlt := h.lt
  obtain ⟨hd, t, fr, hg⟩ := h
  exact ⟨k.dirt g hlt hd, t, fr, (k.blk g hlt hd).trans hg⟩
theorem tabAt.lies {D : Dirty} {w : World} {g : Nat} {cells : List Value} (h : tabAt D w g cells) : lies D w g 0 cells := by
  obtain ⟨hd, t, fr, hg⟩ := h
  exact ⟨hd, cells.toArray, t, fr, hg, by simp, by simp⟩
theorem tabAt.var {D : Dirty} {w : World} {P : Program} {g : Nat} {cells : List Value} {name : String} (h : tabAt D w g cells) (hn : P.globalNamed name = some g) : w.var? P name = some cells.toArray := by
  obtain ⟨_, t, fr, hg⟩ := h
  unfold World.var?
  rw [hn, Option.bind_some, hg]
theorem tabAt.is {D : Dirty} {w : World} {P : Program} {g : Nat} {name : String} {k : IntKind} {zs : List Int} {cells : List Value} (h : tabAt D w g cells) (hc : cells = zs.map fun z => Value.int k z) (hn : P.globalNamed name = some g) : Lib.TabIs P w name k zs := by
  subst hc
  exact h.var hn
theorem St.tab {N : Nat} {D0 : Dirty} {w0 w : World} {a : Act} {R : List Res} {E : List Ent} (S : St N (fun _ => False) D0 w0 a w R E) {g : Nat} {cells : List Value} (h : tabAt D0 w0 g cells) : tabAt (dirt D0 R) w g cells := by
  have hlt := h.lt
  obtain ⟨hd, t, fr, hg⟩ := h
  refine ⟨?_, t, fr, (S.chg.blk g hlt (fun h => h)).trans hg⟩
  rintro (h | ⟨r, hr, hk⟩)
  · exact hd h
  · rcases S.own r hr g hk with h | h
    · exact h
    · omega
/-- A variable as what is only read. -/
theorem gref {D : Dirty} {w : World} {a : Act} {g : Nat} {cells : List Value} {α : Type} {c : Codec α} {x : α} (h : tabAt D w g cells) (hx : ∀ D w, c.enc D w cells x) : (cRef c).val D w (a.eval (.global g)) x :=
  ⟨_, ⟨g, 0, cells, rfl, h.lies, hx D w⟩, rfl⟩
end Go.Tw
