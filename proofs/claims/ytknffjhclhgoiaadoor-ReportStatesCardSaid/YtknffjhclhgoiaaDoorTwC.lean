/- The typed walk, part C: the operations on numbers, bools, strings. -/
import Derived.Test.YtknffjhclhgoiaaDoorTwB
set_option linter.unusedVariables false
set_option linter.unusedSimpArgs false
namespace Go.Tw
open Go Go.RowKit

section
variable {P : Program} {ops : Array Oper} {Q : Exit → Act → World → Prop} {rest : List Oper} {a : Act} {w w' : World} {d : Nat} {ty : TypeId} {ps : String} {af : Array Edge}
variable {N : Nat} {F0 : Nat → Prop} {D0 : Dirty} {w0 : World} {R : List Res} {E : List Ent}

/-- The next operation gives a value; the world stays. -/
theorem op_val (S : St N F0 D0 w0 a w R E) {op : Op} {α : Type} {c : Codec α} {x : α} {v : Value} (hp : okPut N d E = true) (hrun : (execOp a.eval ⟨some d, op, ty, ps, af, none⟩).run P w = .ok (.value v) w) (hv : c.val (dirt D0 R) w v x)
    (k : ∀ a', St N F0 D0 w0 a' w R (⟨d, α, c, x⟩ :: E) → wpList P ops Q rest a' w) :
    wpList P ops Q (⟨some d, op, ty, ps, af, none⟩ :: rest) a w :=
  wpl_val hrun (k _ (S.put hv hp))

theorem op_move (S : St N F0 D0 w0 a w R E) {y : Operand} {α : Type} {c : Codec α} {x : α} (hp : okPut N d E = true) (hy : c.val (dirt D0 R) w (a.eval y) x)
    (k : ∀ a', St N F0 D0 w0 a' w R (⟨d, α, c, x⟩ :: E) → wpList P ops Q rest a' w) : wpList P ops Q (⟨some d, .move y, ty, ps, af, none⟩ :: rest) a w :=
  op_val S hp rfl hy k
theorem op_assign (S : St N F0 D0 w0 a w R E) {y : Operand} {α : Type} {c : Codec α} {x : α} (hp : okPut N d E = true) (hy : c.val (dirt D0 R) w (a.eval y) x)
    (k : ∀ a', St N F0 D0 w0 a' w R (⟨d, α, c, x⟩ :: E) → wpList P ops Q rest a' w) : wpList P ops Q (⟨some d, .assign y, ty, ps, af, none⟩ :: rest) a w :=
  op_val S hp rfl hy k

section ints
variable {t t' : TypeId} {x y : Operand} {kd kd' : IntKind} {p q : Int}
theorem op_add (S : St N F0 D0 w0 a w R E) (hp : okPut N d E = true) (hx : a.eval x = .int kd p) (hy : a.eval y = .int kd q)
    (k : ∀ a', St N F0 D0 w0 a' w R (⟨d, Int, cInt kd, kd.wrap (p + q)⟩ :: E) → wpList P ops Q rest a' w) : wpList P ops Q (⟨some d, .binOp .add t x y t', ty, ps, af, none⟩ :: rest) a w :=
  op_val S hp (v := .int kd (kd.wrap (p + q))) (by simp only [execOp, hx, hy]; simp [eqGuard, binOp, Op.intArith]) (cPlain_mk _) k
theorem op_sub (S : St N F0 D0 w0 a w R E) (hp : okPut N d E = true) (hx : a.eval x = .int kd p) (hy : a.eval y = .int kd q)
    (k : ∀ a', St N F0 D0 w0 a' w R (⟨d, Int, cInt kd, kd.wrap (p - q)⟩ :: E) → wpList P ops Q rest a' w) : wpList P ops Q (⟨some d, .binOp .sub t x y t', ty, ps, af, none⟩ :: rest) a w :=
  op_val S hp (v := .int kd (kd.wrap (p - q))) (by simp only [execOp, hx, hy]; simp [eqGuard, binOp, Op.intArith]) (cPlain_mk _) k
theorem op_mul (S : St N F0 D0 w0 a w R E) (hp : okPut N d E = true) (hx : a.eval x = .int kd p) (hy : a.eval y = .int kd q)
    (k : ∀ a', St N F0 D0 w0 a' w R (⟨d, Int, cInt kd, kd.wrap (p * q)⟩ :: E) → wpList P ops Q rest a' w) : wpList P ops Q (⟨some d, .binOp .mul t x y t', ty, ps, af, none⟩ :: rest) a w :=
  op_val S hp (v := .int kd (kd.wrap (p * q))) (by simp only [execOp, hx, hy]; simp [eqGuard, binOp, Op.intArith]) (cPlain_mk _) k
theorem op_quo (S : St N F0 D0 w0 a w R E) (hp : okPut N d E = true) (hx : a.eval x = .int kd p) (hy : a.eval y = .int kd q) (hq : q ≠ 0)
    (k : ∀ a', St N F0 D0 w0 a' w R (⟨d, Int, cInt kd, kd.wrap (p.tdiv q)⟩ :: E) → wpList P ops Q rest a' w) : wpList P ops Q (⟨some d, .binOp .quo t x y t', ty, ps, af, none⟩ :: rest) a w :=
  op_val S hp (v := .int kd (kd.wrap (p.tdiv q))) (by simp only [execOp, hx, hy]; simp [eqGuard, binOp, Op.intDiv, hq]) (cPlain_mk _) k
theorem op_rem (S : St N F0 D0 w0 a w R E) (hp : okPut N d E = true) (hx : a.eval x = .int kd p) (hy : a.eval y = .int kd q) (hq : q ≠ 0)
    (k : ∀ a', St N F0 D0 w0 a' w R (⟨d, Int, cInt kd, p.tmod q⟩ :: E) → wpList P ops Q rest a' w) : wpList P ops Q (⟨some d, .binOp .rem t x y t', ty, ps, af, none⟩ :: rest) a w :=
  op_val S hp (v := .int kd (p.tmod q)) (by simp only [execOp, hx, hy]; simp [eqGuard, binOp, Op.intDiv, hq]) (cPlain_mk _) k
theorem run_bits {op : BinOp} {r : Int} (h : op = .and ∨ op = .or ∨ op = .xor ∨ op = .andNot) (hop : ∀ P : Program, ∀ w : World, (Op.intBits op kd p q).run P w = .ok (.int kd r) w) (hx : a.eval x = .int kd p) (hy : a.eval y = .int kd q) :
    (execOp a.eval ⟨some d, .binOp op t x y t', ty, ps, af, none⟩).run P w = .ok (.value (.int kd r)) w := by
  simp only [execOp, hx, hy]
  rcases h with rfl | rfl | rfl | rfl <;> simp [eqGuard, binOp, hop]
def bitAnd (kd : IntKind) (p q : Int) : Int := kd.wrap ((BitVec.ofInt kd.bits p &&& BitVec.ofInt kd.bits q).toNat : Nat)
def bitOr (kd : IntKind) (p q : Int) : Int := kd.wrap ((BitVec.ofInt kd.bits p ||| BitVec.ofInt kd.bits q).toNat : Nat)
def bitXor (kd : IntKind) (p q : Int) : Int := kd.wrap ((BitVec.ofInt kd.bits p ^^^ BitVec.ofInt kd.bits q).toNat : Nat)
def bitAndNot (kd : IntKind) (p q : Int) : Int := kd.wrap ((BitVec.ofInt kd.bits p &&& ~~~BitVec.ofInt kd.bits q).toNat : Nat)
theorem op_and (S : St N F0 D0 w0 a w R E) (hp : okPut N d E = true) (hx : a.eval x = .int kd p) (hy : a.eval y = .int kd q)
    (k : ∀ a', St N F0 D0 w0 a' w R (⟨d, Int, cInt kd, bitAnd kd p q⟩ :: E) → wpList P ops Q rest a' w) : wpList P ops Q (⟨some d, .binOp .and t x y t', ty, ps, af, none⟩ :: rest) a w :=
  op_val S hp (v := .int kd (bitAnd kd p q)) (run_bits (by simp) (fun _ _ => rfl) hx hy) (cPlain_mk _) k
theorem op_or (S : St N F0 D0 w0 a w R E) (hp : okPut N d E = true) (hx : a.eval x = .int kd p) (hy : a.eval y = .int kd q)
    (k : ∀ a', St N F0 D0 w0 a' w R (⟨d, Int, cInt kd, bitOr kd p q⟩ :: E) → wpList P ops Q rest a' w) : wpList P ops Q (⟨some d, .binOp .or t x y t', ty, ps, af, none⟩ :: rest) a w :=
  op_val S hp (v := .int kd (bitOr kd p q)) (run_bits (by simp) (fun _ _ => rfl) hx hy) (cPlain_mk _) k
theorem op_xor (S : St N F0 D0 w0 a w R E) (hp : okPut N d E = true) (hx : a.eval x = .int kd p) (hy : a.eval y = .int kd q)
    (k : ∀ a', St N F0 D0 w0 a' w R (⟨d, Int, cInt kd, bitXor kd p q⟩ :: E) → wpList P ops Q rest a' w) : wpList P ops Q (⟨some d, .binOp .xor t x y t', ty, ps, af, none⟩ :: rest) a w :=
  op_val S hp (v := .int kd (bitXor kd p q)) (run_bits (by simp) (fun _ _ => rfl) hx hy) (cPlain_mk _) k
theorem op_andNot (S : St N F0 D0 w0 a w R E) (hp : okPut N d E = true) (hx : a.eval x = .int kd p) (hy : a.eval y = .int kd q)
    (k : ∀ a', St N F0 D0 w0 a' w R (⟨d, Int, cInt kd, bitAndNot kd p q⟩ :: E) → wpList P ops Q rest a' w) : wpList P ops Q (⟨some d, .binOp .andNot t x y t', ty, ps, af, none⟩ :: rest) a w :=
  op_val S hp (v := .int kd (bitAndNot kd p q)) (run_bits (by simp) (fun _ _ => rfl) hx hy) (cPlain_mk _) k
/-- <<, >> by a count that isn't negative -/
def shlI (kd : IntKind) (p q : Int) : Int := kd.wrap (p * 2 ^ min q.toNat kd.bits)
def shrI (kd : IntKind) (p q : Int) : Int := p.fdiv (2 ^ min q.toNat kd.bits)
theorem op_shl (S : St N F0 D0 w0 a w R E) (hp : okPut N d E = true) (hx : a.eval x = .int kd p) (hy : a.eval y = .int kd' q) (hq : 0 ≤ q)
    (k : ∀ a', St N F0 D0 w0 a' w R (⟨d, Int, cInt kd, shlI kd p q⟩ :: E) → wpList P ops Q rest a' w) : wpList P ops Q (⟨some d, .binOp .shl t x y t', ty, ps, af, none⟩ :: rest) a w :=
  op_val S hp (v := .int kd (shlI kd p q)) (by
    simp only [execOp, hx, hy]; simp [eqGuard, binOp, Op.shift, show ¬ q < 0 by omega]; rfl) (cPlain_mk _) k
theorem op_shr (S : St N F0 D0 w0 a w R E) (hp : okPut N d E = true) (hx : a.eval x = .int kd p) (hy : a.eval y = .int kd' q) (hq : 0 ≤ q)
    (k : ∀ a', St N F0 D0 w0 a' w R (⟨d, Int, cInt kd, shrI kd p q⟩ :: E) → wpList P ops Q rest a' w) : wpList P ops Q (⟨some d, .binOp .shr t x y t', ty, ps, af, none⟩ :: rest) a w :=
  op_val S hp (v := .int kd (shrI kd p q)) (by
    simp only [execOp, hx, hy]; simp [eqGuard, binOp, Op.shift, show ¬ q < 0 by omega]; rfl) (cPlain_mk _) k
theorem op_eql (S : St N F0 D0 w0 a w R E) (hp : okPut N d E = true) (hx : a.eval x = .int kd p) (hy : a.eval y = .int kd q)
    (k : ∀ a', St N F0 D0 w0 a' w R (⟨d, Bool, cBool, decide (p = q)⟩ :: E) → wpList P ops Q rest a' w) : wpList P ops Q (⟨some d, .binOp .eql t x y t', ty, ps, af, none⟩ :: rest) a w :=
  op_val S hp (v := .bool (decide (p = q))) (by simp only [execOp, hx, hy]; simp [eqGuard, binOp, Op.intCmp]; by_cases h : p = q <;> simp [h]) (cPlain_mk _) k
theorem op_neq (S : St N F0 D0 w0 a w R E) (hp : okPut N d E = true) (hx : a.eval x = .int kd p) (hy : a.eval y = .int kd q)
    (k : ∀ a', St N F0 D0 w0 a' w R (⟨d, Bool, cBool, !decide (p = q)⟩ :: E) → wpList P ops Q rest a' w) : wpList P ops Q (⟨some d, .binOp .neq t x y t', ty, ps, af, none⟩ :: rest) a w :=
  op_val S hp (v := .bool (!decide (p = q))) (by simp only [execOp, hx, hy]; simp [eqGuard, binOp, Op.intCmp]; by_cases h : p = q <;> simp [h]) (cPlain_mk _) k
theorem op_lss (S : St N F0 D0 w0 a w R E) (hp : okPut N d E = true) (hx : a.eval x = .int kd p) (hy : a.eval y = .int kd q)
    (k : ∀ a', St N F0 D0 w0 a' w R (⟨d, Bool, cBool, decide (p < q)⟩ :: E) → wpList P ops Q rest a' w) : wpList P ops Q (⟨some d, .binOp .lss t x y t', ty, ps, af, none⟩ :: rest) a w :=
  op_val S hp (v := .bool (decide (p < q))) (by simp only [execOp, hx, hy]; simp [eqGuard, binOp, Op.intCmp]) (cPlain_mk _) k
theorem op_leq (S : St N F0 D0 w0 a w R E) (hp : okPut N d E = true) (hx : a.eval x = .int kd p) (hy : a.eval y = .int kd q)
    (k : ∀ a', St N F0 D0 w0 a' w R (⟨d, Bool, cBool, decide (p ≤ q)⟩ :: E) → wpList P ops Q rest a' w) : wpList P ops Q (⟨some d, .binOp .leq t x y t', ty, ps, af, none⟩ :: rest) a w :=
  op_val S hp (v := .bool (decide (p ≤ q))) (by simp only [execOp, hx, hy]; simp [eqGuard, binOp, Op.intCmp]) (cPlain_mk _) k
theorem op_gtr (S : St N F0 D0 w0 a w R E) (hp : okPut N d E = true) (hx : a.eval x = .int kd p) (hy : a.eval y = .int kd q)
    (k : ∀ a', St N F0 D0 w0 a' w R (⟨d, Bool, cBool, decide (p > q)⟩ :: E) → wpList P ops Q rest a' w) : wpList P ops Q (⟨some d, .binOp .gtr t x y t', ty, ps, af, none⟩ :: rest) a w :=
  op_val S hp (v := .bool (decide (p > q))) (by simp only [execOp, hx, hy]; simp [eqGuard, binOp, Op.intCmp]) (cPlain_mk _) k
theorem op_geq (S : St N F0 D0 w0 a w R E) (hp : okPut N d E = true) (hx : a.eval x = .int kd p) (hy : a.eval y = .int kd q)
    (k : ∀ a', St N F0 D0 w0 a' w R (⟨d, Bool, cBool, decide (p ≥ q)⟩ :: E) → wpList P ops Q rest a' w) : wpList P ops Q (⟨some d, .binOp .geq t x y t', ty, ps, af, none⟩ :: rest) a w :=
  op_val S hp (v := .bool (decide (p ≥ q))) (by simp only [execOp, hx, hy]; simp [eqGuard, binOp, Op.intCmp]) (cPlain_mk _) k
theorem op_conv (S : St N F0 D0 w0 a w R E) (hp : okPut N d E = true) {u : TypeDesc} (ht : P.underlying t = some u) (ht' : P.underlying t' = some (.int kd')) (hx : a.eval x = .int kd p)
    (k : ∀ a', St N F0 D0 w0 a' w R (⟨d, Int, cInt kd', kd'.wrap p⟩ :: E) → wpList P ops Q rest a' w) : wpList P ops Q (⟨some d, .convert t t' x, ty, ps, af, none⟩ :: rest) a w :=
  op_val S hp (v := .int kd' (kd'.wrap p)) (by simp only [execOp, hx]; simp [convert, run_underlying ht, run_underlying ht', Conv.intToInt]) (cPlain_mk _) k
theorem op_neg (S : St N F0 D0 w0 a w R E) (hp : okPut N d E = true) (hx : a.eval x = .int kd p)
    (k : ∀ a', St N F0 D0 w0 a' w R (⟨d, Int, cInt kd, kd.wrap (-p)⟩ :: E) → wpList P ops Q rest a' w) : wpList P ops Q (⟨some d, .unOp .neg t x, ty, ps, af, none⟩ :: rest) a w :=
  op_val S hp (v := .int kd (kd.wrap (-p))) (by simp only [execOp, hx]; simp [Op.unary, Op.intArith]) (cPlain_mk _) k
theorem op_not (S : St N F0 D0 w0 a w R E) (hp : okPut N d E = true) {b : Bool} (hx : a.eval x = .bool b)
    (k : ∀ a', St N F0 D0 w0 a' w R (⟨d, Bool, cBool, !b⟩ :: E) → wpList P ops Q rest a' w) : wpList P ops Q (⟨some d, .unOp .not t x, ty, ps, af, none⟩ :: rest) a w :=
  op_val S hp (v := .bool (!b)) (by simp only [execOp, hx]; simp [Op.unary]) (cPlain_mk _) k
theorem op_compl (S : St N F0 D0 w0 a w R E) (hp : okPut N d E = true) (hx : a.eval x = .int kd p)
    (k : ∀ a', St N F0 D0 w0 a' w R (⟨d, Int, cInt kd, bitXor kd (if kd.signed then -1 else kd.max) p⟩ :: E) → wpList P ops Q rest a' w) : wpList P ops Q (⟨some d, .unOp .xor t x, ty, ps, af, none⟩ :: rest) a w :=
  op_val S hp (v := .int kd (bitXor kd (if kd.signed then -1 else kd.max) p)) (by simp only [execOp, hx]; simp [Op.unary, Op.intBits]; rfl) (cPlain_mk _) k
theorem op_eqb (S : St N F0 D0 w0 a w R E) (hp : okPut N d E = true) {b b' : Bool} (ht : P.underlying t = some .bool) (hx : a.eval x = .bool b) (hy : a.eval y = .bool b')
    (k : ∀ a', St N F0 D0 w0 a' w R (⟨d, Bool, cBool, b == b'⟩ :: E) → wpList P ops Q rest a' w) : wpList P ops Q (⟨some d, .binOp .eql t x y t', ty, ps, af, none⟩ :: rest) a w :=
  op_val S hp (v := .bool (b == b')) (by simp only [execOp, hx, hy]; simp [eqGuard, binOp, Op.equal, Op.maxDepth, run_equalIn_bool' w 9999 t b b' ht]) (cPlain_mk _) k
theorem op_neb (S : St N F0 D0 w0 a w R E) (hp : okPut N d E = true) {b b' : Bool} (ht : P.underlying t = some .bool) (hx : a.eval x = .bool b) (hy : a.eval y = .bool b')
    (k : ∀ a', St N F0 D0 w0 a' w R (⟨d, Bool, cBool, !(b == b')⟩ :: E) → wpList P ops Q rest a' w) : wpList P ops Q (⟨some d, .binOp .neq t x y t', ty, ps, af, none⟩ :: rest) a w :=
  op_val S hp (v := .bool (!(b == b'))) (by simp only [execOp, hx, hy]; simp [eqGuard, binOp, Op.equal, Op.maxDepth, run_equalIn_bool' w 9999 t b b' ht]) (cPlain_mk _) k
/-- one of two, by a bool -/
theorem op_pick (S : St N F0 D0 w0 a w R E) (hp : okPut N d E = true) {z : Operand} {b : Bool} {α : Type} {c : Codec α} {u v : α} (hz : a.eval z = .bool b) (hx : b = true → c.val (dirt D0 R) w (a.eval x) u) (hy : b = false → c.val (dirt D0 R) w (a.eval y) v)
    (k : ∀ a', St N F0 D0 w0 a' w R (⟨d, α, c, if b then u else v⟩ :: E) → wpList P ops Q rest a' w) : wpList P ops Q (⟨some d, .pick z x y, ty, ps, af, none⟩ :: rest) a w := by
  cases b
  · exact op_val S hp (v := a.eval y) (by simp only [execOp, hz]; rfl) (hy rfl) k
  · exact op_val S hp (v := a.eval x) (by simp only [execOp, hz]; rfl) (hx rfl) k
end ints

section strings
variable {t t' : TypeId} {x y : Operand} {l m : List UInt8}
theorem strV_add (l m : List UInt8) : (⟨l.toArray⟩ : ByteArray) ++ ⟨m.toArray⟩ = ⟨(l ++ m).toArray⟩ := by
  apply ByteArray.ext
  simp
theorem strV_size (l : List UInt8) : (⟨l.toArray⟩ : ByteArray).size = l.length := by simp [ByteArray.size]
theorem op_cat (S : St N F0 D0 w0 a w R E) (hp : okPut N d E = true) (hx : a.eval x = strV l) (hy : a.eval y = strV m) (hl : l.length + m.length ≤ 9223372036854775807)
    (k : ∀ a', St N F0 D0 w0 a' w R (⟨d, List UInt8, cStr, l ++ m⟩ :: E) → wpList P ops Q rest a' w) : wpList P ops Q (⟨some d, .binOp .add t x y t', ty, ps, af, none⟩ :: rest) a w :=
  op_val S hp (v := strV (l ++ m)) (by
    simp only [execOp, hx, hy, strV]
    have h2 : ¬ ((((l.length + m.length : Nat) : Int)) > IntKind.i64.max) := by simp only [IntKind.max, IntKind.bits, IntKind.signed]; simp; omega
    simp only [Sem.run_bind, eqGuard, binOp_string_add, Op.stringOp, strV_size, strV_add, if_neg h2]; rfl) (cPlain_mk _) k
theorem op_seq (S : St N F0 D0 w0 a w R E) (hp : okPut N d E = true) (hx : a.eval x = strV l) (hy : a.eval y = strV m)
    (k : ∀ a', St N F0 D0 w0 a' w R (⟨d, Bool, cBool, decide (l = m)⟩ :: E) → wpList P ops Q rest a' w) : wpList P ops Q (⟨some d, .binOp .eql t x y t', ty, ps, af, none⟩ :: rest) a w :=
  op_val S hp (v := .bool (decide (l = m))) (by simp only [execOp, hx, hy, strV]; simp [eqGuard, binOp_string_eql]; by_cases h : l = m <;> simp [h]) (cPlain_mk _) k
theorem op_sne (S : St N F0 D0 w0 a w R E) (hp : okPut N d E = true) (hx : a.eval x = strV l) (hy : a.eval y = strV m)
    (k : ∀ a', St N F0 D0 w0 a' w R (⟨d, Bool, cBool, !decide (l = m)⟩ :: E) → wpList P ops Q rest a' w) : wpList P ops Q (⟨some d, .binOp .neq t x y t', ty, ps, af, none⟩ :: rest) a w :=
  op_val S hp (v := .bool (!decide (l = m))) (by simp only [execOp, hx, hy, strV]; simp [eqGuard, binOp_string_neq]; by_cases h : l = m <;> simp [h]) (cPlain_mk _) k
theorem op_slen (S : St N F0 D0 w0 a w R E) (hp : okPut N d E = true) (ht : P.underlying t = some .string) (hx : a.eval x = strV l)
    (k : ∀ a', St N F0 D0 w0 a' w R (⟨d, Int, cInt .i64, (l.length : Int)⟩ :: E) → wpList P ops Q rest a' w) :
    wpList P ops Q (⟨some d, .call { callee := .builtin .len, args := #[x], argTypes := #[t] }, ty, ps, af, none⟩ :: rest) a w :=
  op_val S hp (v := .int .i64 l.length) (by simp [execOp, resolve, invoke, builtin, hx, strV, run_len_string w t ty _ ht, strV_size]; rfl) (cPlain_mk _) k
theorem op_sidx (S : St N F0 D0 w0 a w R E) (hp : okPut N d E = true) (ht : P.underlying t = some .string) {kd : IntKind} {i : Int} (hx : a.eval x = strV l) (hy : a.eval y = .int kd i) (hi : 0 ≤ i ∧ i < l.length)
    (k : ∀ a', St N F0 D0 w0 a' w R (⟨d, Int, cInt .u8, ((l.getD i.toNat 0).toNat : Int)⟩ :: E) → wpList P ops Q rest a' w) :
    wpList P ops Q (⟨some d, .index t x y, ty, ps, af, none⟩ :: rest) a w :=
  op_val S hp (v := .int .u8 ((l.getD i.toNat 0).toNat : Int)) (by
    have h : i.toNat < l.length := by omega
    have hs : (⟨l.toArray⟩ : ByteArray)[i.toNat]? = some (l.getD i.toNat 0) := by
      rw [ByteArray.getElem?_lt' _ _ (by rw [strV_size]; exact h)]
      simp [List.getD, List.getElem?_eq_getElem h]
      rfl
    simp only [execOp, hx, hy, strV]
    simp [Instr.index, asIntOf, run_underlying ht, hi.1, hs]) (cPlain_mk _) k
end strings
end
end Go.Tw
