/- The typed walk, part S: what reads as data is told by the codecs, and lies in its range. -/
import Derived.Test.YtknffjhclhgoiaaDoorTwQ
import Derived.Lib.LaidTab
import Derived.OpenShut
set_option linter.unusedVariables false
set_option linter.unusedSimpArgs false
namespace Go.Tw
open Go Go.RowKit

abbrev noDirt : Dirty := fun _ => False
/-- What reads as data of the type t is told by c, and is as ok says. -/
def Reads {α : Type} (P : Program) (t : TypeId) (c : Codec α) (ok : α → Prop) : Prop :=
  ∀ (H : Type) (enc : TypeId × Value → H) (w : World) (base : Nat) (sp : Nat → Bool) (held : Bool) (fuel : Nat) (cs : List Value) (d : DataW H) (p : List MemPlace), DataW.trod enc P w base sp held fuel t cs = some (d, p) → ∃ x, c.enc noDirt w cs x ∧ ok x
theorem Reads.imp {α : Type} {P : Program} {t : TypeId} {c : Codec α} {ok ok' : α → Prop} (h : Reads P t c ok) (k : ∀ x, ok x → ok' x) : Reads P t c ok' := fun H enc w base sp held fuel cs d p e => by
  obtain ⟨x, h1, h2⟩ := h _ enc w base sp held fuel cs d p e
  exact ⟨x, h1, k x h2⟩

section
variable {P : Program} {t e : TypeId}
theorem reads_int {k : IntKind} (hu : P.underlying t = some (.int k)) : Reads P t (cInt k) (fun x => k.min ≤ x ∧ x ≤ k.max) := by
  intro H enc w base sp held fuel cs d p h
  obtain ⟨n, rfl, _, hw⟩ := DataW.trod_int hu h
  exact ⟨n, rfl, by simpa [Lit.wf] using hw⟩
theorem reads_bool (hu : P.underlying t = some .bool) : Reads P t cBool (fun _ => True) := by
  intro H enc w base sp held fuel cs d p h
  obtain ⟨b, rfl, _⟩ := DataW.trod_bool hu h
  exact ⟨b, rfl, trivial⟩
theorem reads_str (hu : P.underlying t = some .string) : Reads P t cStr (fun l => l.length ≤ 9223372036854775807) := by
  intro H enc w base sp held fuel cs d p h
  obtain ⟨s, rfl, _, hw⟩ := DataW.trod_string hu h
  exact ⟨s.data.toList, rfl, by simpa [maxLen] using hw⟩
theorem encList_of {α : Type} {c : Codec α} {D : Dirty} {w : World} : ∀ {n : Nat} {es : List Value} {xs : List α}, xs.length = n → es.length = n * c.size → (∀ i (hi : i < xs.length), c.enc D w ((es.drop (i * c.size)).take c.size) xs[i]) → encList c D w es xs
  | 0, es, xs, hx, he, _ => by
    obtain rfl := List.eq_nil_of_length_eq_zero hx
    show es = []
    exact List.eq_nil_of_length_eq_zero (by simpa using he)
  | n + 1, es, x :: xs, hx, he, h => by
    refine ⟨es.take c.size, es.drop c.size, (List.take_append_drop _ _).symm, by have := h 0 (by simp); simpa only [Nat.zero_mul, List.drop_zero, List.getElem_cons_zero] using this, encList_of (n := n) (by simpa using hx) (by rw [List.length_drop, he, Nat.succ_mul]; omega) (fun i hi => ?_)⟩
    have := h (i + 1) (by simp; omega)
    rw [List.drop_drop]
    rw [show c.size + i * c.size = (i + 1) * c.size by rw [Nat.succ_mul, Nat.add_comm]]
    simpa using this
theorem all_some {α : Type} {Q : Nat → α → Prop} {n : Nat} (h : ∀ i, i < n → ∃ x, Q i x) : ∃ xs : List α, xs.length = n ∧ ∀ i (hi : i < xs.length), Q i xs[i] := by
  refine ⟨(List.range n).attach.map fun i => Classical.choose (h i.1 (List.mem_range.1 i.2)), by simp, fun i hi => ?_⟩
  have hi' : i < n := by simpa using hi
  simp only [List.getElem_map, List.getElem_attach, List.getElem_range]
  exact Classical.choose_spec (h i hi')
theorem reads_arr {α : Type} {c : Codec α} {ok : α → Prop} {n : Nat} (hu : P.underlying t = some (.array n e)) (hce : P.cellsOf e = c.size) (hct : P.cellsOf t = n * c.size) (h : Reads P e c ok) : Reads P t (cArr n c) (fun xs => xs.length = n ∧ ∀ x ∈ xs, ok x) := by
  intro H enc w base sp held fuel cs d p hr
  obtain ⟨ys, m, _, _, hl, hyl, hy⟩ := DataW.trod_array hu hr
  rw [hce] at hy
  obtain ⟨xs, hx1, hx2⟩ := all_some (α := α) (Q := fun i x => c.enc noDirt w ((cs.drop (i * c.size)).take c.size) x ∧ ok x) (n := n) (fun i hi => by
    have := hy i hi
    rw [List.getElem?_eq_getElem (by omega)] at this
    exact h _ enc w base sp held m _ _ _ this)
  refine ⟨xs, ⟨hx1, encList_of hx1 (by rw [hl, hct]) (fun i hi => (hx2 i hi).1)⟩, hx1, fun x hx => ?_⟩
  obtain ⟨i, hi, rfl⟩ := List.getElem_of_mem hx
  exact (hx2 i hi).2
theorem cells_get {w : World} {base n : Nat} {a : Addr} {row : List Value} (h : w.cells? base a n = some row) : row.length = n ∧ ∀ j, j < n → w.cell? (a.add j) = row[j]? := by
  unfold World.cells? at h
  split at h
  · refine ⟨by simpa using Lib.mapM_length h, fun j hj => ?_⟩
    obtain ⟨b, hb, hf⟩ := Lib.mapM_at h j j (by simp [hj])
    rw [hf, hb]
  · cases h
theorem reads_slice {α : Type} {c : Codec α} {ok : α → Prop} (hu : P.underlying t = some (.slice e)) (hce : P.cellsOf e = c.size) (hc : Nat.blt 0 c.size = true) (h : Reads P e c ok) : Reads P t (cSlice c) (fun xs => ∀ x ∈ xs, ok x) := by
  have hc0 : 0 < c.size := by simpa [Nat.blt_eq] using hc
  intro H enc w base sp held fuel cs d p hr
  rcases DataW.trod_slice hu hr with ⟨rfl, _⟩ | ⟨a, len, cap, elems, rest, m, _, rfl, _, hbase, hlc, hcm, hel, he, _, _⟩
  · exact ⟨[], ⟨none, 0, rfl, Nat.le_refl _, by simp, fun h => absurd rfl h⟩, by simp⟩
  rw [hce] at he
  -- the rows of cells
  have hrow : ∀ i, i < len → ∃ (row : List Value) (y : DataW H × List MemPlace), w.cells? base (a.add (i * c.size)) c.size = some row ∧ DataW.trod enc P w base sp held m e row = some y := by
    intro i hi
    have := he i hi
    rw [List.getElem?_eq_getElem (by omega)] at this
    obtain ⟨row, h1, h2⟩ := Option.bind_eq_some_iff.1 this
    exact ⟨row, _, h1, h2⟩
  by_cases hlen : len = 0
  · subst hlen
    exact ⟨[], ⟨some a, cap, rfl, by simp, by simp only [maxLen] at hcm; omega, fun h => absurd rfl h⟩, by simp⟩
  -- the block
  obtain ⟨row0, y0, h0, _⟩ := hrow 0 (by omega)
  obtain ⟨hl0, hg0⟩ := cells_get h0
  have h00 := hg0 0 hc0
  rw [List.getElem?_eq_getElem (by omega)] at h00
  have ea : (a.add (0 * c.size)).add 0 = a := by simp [Addr.add]
  rw [ea] at h00
  obtain ⟨g, o, s⟩ := a
  unfold World.cell? at h00
  cases hg : w.heap[g]? with
  | none => simp [hg] at h00
  | some ob =>
    cases ob with
    | cells cur tt fr =>
      simp only [hg] at h00
      have hs : s = none := by
        cases s with
        | none => rfl
        | some _ => simp at h00
      subst hs
      have hcell : ∀ i j, i < len → j < c.size → ∃ (row : List Value), (∃ y, DataW.trod enc P w base sp held m e row = some y) ∧ row.length = c.size ∧ w.cells? base (Addr.add ⟨g, o, none⟩ (i * c.size)) c.size = some row ∧ cur[o + i * c.size + j]? = row[j]? := by
        intro i j hi hj
        obtain ⟨row, y, h1, h2⟩ := hrow i hi
        obtain ⟨k1, k2⟩ := cells_get h1
        have := k2 j hj
        rw [Addr.add_lit, Addr.add_lit] at this
        refine ⟨row, ⟨y, h2⟩, k1, h1, ?_⟩
        rw [← this]
        simp [World.cell?, hg]
      have hsize : o + len * c.size ≤ cur.size := by
        obtain ⟨row, _, k1, _, k3⟩ := hcell (len - 1) (c.size - 1) (by omega) (by omega)
        rw [List.getElem?_eq_getElem (by omega)] at k3
        have := (Array.getElem?_eq_some_iff.1 k3).1
        have e2 : (len - 1) * c.size + c.size = len * c.size := by
          rw [← Nat.succ_mul]; congr 1; omega
        omega
      have hes : ((cur.toList.drop o).take (len * c.size)).length = len * c.size := by simp; omega
      obtain ⟨xs, hx1, hx2⟩ := all_some (α := α) (Q := fun i x => c.enc noDirt w ((((cur.toList.drop o).take (len * c.size)).drop (i * c.size)).take c.size) x ∧ ok x) (n := len) (fun i hi => by
        obtain ⟨row, ⟨y, hy⟩, k1, k2, _⟩ := hcell i 0 hi hc0
        have er : (((cur.toList.drop o).take (len * c.size)).drop (i * c.size)).take c.size = row := by
          apply List.ext_getElem?
          intro j
          by_cases hj : j < c.size
          · obtain ⟨row', _, _, k2', k3'⟩ := hcell i j hi hj
            rw [k2] at k2'
            cases k2'
            have hb : i * c.size + c.size ≤ len * c.size := by rw [← Nat.succ_mul]; exact Nat.mul_le_mul_right _ hi
            rw [List.getElem?_take, if_pos hj, List.getElem?_drop, List.getElem?_take, if_pos (by omega), List.getElem?_drop, ← k3']
            simp [Nat.add_assoc]
          · rw [List.getElem?_eq_none (by simp; omega), List.getElem?_eq_none (by omega)]
        rw [er]
        exact h _ enc w base sp held m row y.1 y.2 hy)
      refine ⟨xs, ⟨some ⟨g, o, none⟩, cap, by rw [hx1], by omega, by simp only [maxLen] at hcm; omega, fun _ => ⟨g, o, (cur.toList.drop o).take (len * c.size), rfl, ⟨fun h => h, cur, tt, fr, hg, by rw [hes]; exact hsize, by rw [hes]⟩, encList_of hx1 hes (fun i hi => (hx2 i hi).1)⟩⟩, fun x hx => ?_⟩
      obtain ⟨i, hi, rfl⟩ := List.getElem_of_mem hx
      exact (hx2 i hi).2
    | _ => simp [hg] at h00
/-- fields, one behind the other -/
def ReadsF {α : Type} (P : Program) (fs : List Field) (o : Nat) (c : Codec α) (ok : α → Prop) : Prop :=
  ∀ (H : Type) (enc : TypeId × Value → H) (w : World) (base : Nat) (sp : Nat → Bool) (held : Bool) (fuel : Nat) (cs : List Value), (∀ (i : Nat) f, fs[i]? = some f → ∃ y, DataW.trod enc P w base sp held fuel f.type ((cs.drop f.offset).take (P.cellsOf f.type)) = some y) →
    cs.length = o + c.size → ∃ x, c.enc noDirt w (cs.drop o) x ∧ ok x
theorem readsF_last {α : Type} {c : Codec α} {ok : α → Prop} {f : Field} {o : Nat} (ho : f.offset = o) (hc : P.cellsOf f.type = c.size) (h : Reads P f.type c ok) : ReadsF P [f] o c ok := by
  intro H enc w base sp held fuel cs hy hl
  obtain ⟨y, hy⟩ := hy 0 f rfl
  rw [ho, hc, List.take_of_length_le (by simp; omega)] at hy
  exact h _ enc w base sp held fuel _ _ _ hy
theorem readsF_cons {α β : Type} {c : Codec α} {e : Codec β} {ok : α → Prop} {ok' : β → Prop} {f : Field} {fs : List Field} {o : Nat} (ho : f.offset = o) (hc : P.cellsOf f.type = c.size) (h : Reads P f.type c ok) (hs : ReadsF P fs (o + c.size) e ok') :
    ReadsF P (f :: fs) o (cProd c e) (fun p => ok p.1 ∧ ok' p.2) := by
  intro H enc w base sp held fuel cs hy hl
  have hsz : (cProd c e).size = c.size + e.size := rfl
  obtain ⟨y, hy0⟩ := hy 0 f rfl
  rw [ho, hc] at hy0
  obtain ⟨x, h1, h2⟩ := h _ enc w base sp held fuel _ _ _ hy0
  obtain ⟨z, h3, h4⟩ := hs _ enc w base sp held fuel cs (fun i f' hf => hy (i + 1) f' (by simpa using hf)) (by omega)
  refine ⟨(x, z), ⟨(cs.drop o).take c.size, cs.drop (o + c.size), ?_, h1, h3⟩, h2, h4⟩
  rw [← List.drop_drop, List.take_append_drop]
theorem reads_struct {α β : Type} {b : Codec α} {g : β → α} {ok : α → Prop} {fs : Array Field} (hu : P.underlying t = some (.struct fs)) (hct : P.cellsOf t = b.size) (h : ReadsF P fs.toList 0 b ok) (inv : α → β) (hg : ∀ y, g (inv y) = y) : Reads P t (cMap g b) (fun s => ok (g s)) := by
  intro H enc w base sp held fuel cs d p hr
  obtain ⟨xs, n, _, _, hl, hxl, hx⟩ := DataW.trod_struct hu hr
  obtain ⟨x, h1, h2⟩ := h _ enc w base sp held n cs (fun i f hf => by
    have hf' : fs[i]? = some f := by simpa using hf
    have hi : i < fs.size := (Array.getElem?_eq_some_iff.1 hf').1
    have := hx i f hf'
    rw [List.getElem?_eq_getElem (by omega)] at this
    exact ⟨_, this⟩) (by omega)
  refine ⟨inv x, ?_, by show ok (g (inv x)); rw [hg]; exact h2⟩
  show b.enc noDirt w cs (g (inv x))
  rw [hg]
  simpa using h1
theorem laid_get {w : World} {n : String} {dd : DataW Unit} : ∀ {l : List (String × DataW Unit)} {ps : List MemPlace}, DataW.LaidVars P w l ps → (n, dd) ∈ l →
    ∃ g t cs fuel p, P.globalNamed n = some g ∧ (P.globals[g]?).map (·.type) = some t ∧ w.var? P n = some cs ∧ DataW.trod (fun _ => ()) P w 0 (fun _ => true) false fuel t cs.toList = some (dd, p)
  | [], _, _, hm => by cases hm
  | (m, d') :: l, ps, ⟨g, t, cs, fuel, p, q, h1, h2, h3, h4, h5, _⟩, hm => by
    rcases List.mem_cons.1 hm with e | hm
    · cases e; exact ⟨g, t, cs, fuel, p, h1, h2, h3, h4⟩
    · exact laid_get h5 hm
theorem cells_of_strs {H : Type} {enc : TypeId × Value → H} {w : World} {base : Nat} {sp : Nat → Bool} {held : Bool} {fuel n : Nat} {cs : List Value} {zs : List (List UInt8)} {p : List MemPlace} (ht : P.underlying t = some (.array n e)) (he : P.underlying e = some .string) (hce : P.cellsOf e = 1) (hct : P.cellsOf t = n)
    (h : DataW.trod enc P w base sp held fuel t cs = some (.agg (zs.map fun z => .lit (.string z)), p)) : cs = zs.map strV := by
  obtain ⟨xs, m, _, hx, hl, hxl, hy⟩ := DataW.trod_array ht h
  rw [hce] at hy
  have hxs : xs.map (·.1) = zs.map fun z => (DataW.lit (.string z) : DataW H) := by
    have := congrArg Prod.fst hx
    simpa using this.symm
  have hzl : zs.length = n := by
    have := congrArg List.length hxs
    simp at this
    omega
  apply List.ext_getElem?
  intro i
  by_cases hi : i < n
  · have h1 := hy i hi
    rw [List.getElem?_eq_getElem (by omega), Nat.mul_one] at h1
    obtain ⟨s, hs, hs2, _⟩ := DataW.trod_string he h1
    have h2 : cs[i]? = some (.string s) := by
      have := congrArg (·[0]?) hs
      simpa [List.getElem?_take, List.getElem?_drop] using this
    have h3 : (xs.map (·.1))[i]? = some (DataW.lit (.string s.data.toList) : DataW H) := by
      rw [List.getElem?_map, List.getElem?_eq_getElem (by omega), hs2]; rfl
    rw [hxs] at h3
    simp only [List.getElem?_map, Option.map_eq_some_iff, DataW.lit.injEq, Lit.string.injEq] at h3
    obtain ⟨z, hz, rfl⟩ := h3
    rw [h2, List.getElem?_map, hz]
    rfl
  · rw [List.getElem?_eq_none (by omega), List.getElem?_eq_none (by simp; omega)]
theorem tab_of_var {w : World} {n : String} {g : Nat} {cs : Array Value} {cells : List Value} (hg : P.globalNamed n = some g) (hv : w.var? P n = some cs) (hc : cs.toList = cells) : tabAt noDirt w g cells := by
  unfold World.var? at hv
  rw [hg, Option.bind_some] at hv
  split at hv
  · rename_i c t fr heq
    cases hv
    exact ⟨fun h => h, t, fr, by rw [heq, ← hc]⟩
  · cases hv
theorem val_agg {α : Type} {c : Codec α} {D : Dirty} {w : World} {v : Value} {x : α} (hv : ∃ cs, v = .agg cs) (hc : c.agg = true) (h : c.enc D w v.cells.toList x) : c.val D w v x := by
  obtain ⟨cs, rfl⟩ := hv
  exact ⟨_, h, by simp [Codec.pack, hc, Value.cells]⟩
end
end Go.Tw
