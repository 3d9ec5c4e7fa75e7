/- Limbs: a magnitude as_ a list of words of 32 bits, the number that it denotes, and the canonical list of a number. -/
import Derived.Orders
import Derived.Scope
import Derived.Below
namespace Go.Proofs.YtgbndganadelpaaGreatDoor.LI
/-- The number that a list of limbs denotes. -/
def lv : List Int → Nat
  | [] => 0
  | x :: r => x.toNat + 4294967296 * lv r
/-- Each limb has 32 bits. -/
def Lim (l : List Int) : Prop := ∀ x ∈ l, 0 ≤ x ∧ x < 4294967296
def limF : Nat → Nat → List Int
  | 0, _ => []
  | f + 1, n => if n = 0 then [] else ((n % 4294967296 : Nat) : Int) :: limF f (n / 4294967296)
/-- The canonical limbs of a number. -/
def limbs (n : Nat) : List Int := limF n n
/-- The digit at a place; 0 beyond the end. -/
def dg (l : List Int) (i : Nat) : Nat := (l.getD i 0).toNat
theorem limF_same : ∀ (f g n : Nat), n ≤ f → n ≤ g → limF f n = limF g n
  | 0, 0, _, _, _ => rfl
  | 0, g + 1, n, h, _ => by
    obtain rfl : n = 0 := by omega
    simp [limF]
  | f + 1, 0, n, _, h => by
    obtain rfl : n = 0 := by omega
    simp [limF]
  | f + 1, g + 1, n, h, h' => by
    by_cases h0 : n = 0
    · subst h0; simp [limF]
    · rw [limF, limF, if_neg h0, if_neg h0, limF_same f g (n / 4294967296) (by omega) (by omega)]
theorem limbs_zero : limbs 0 = [] := rfl
theorem limbs_pos {n : Nat} (h : n ≠ 0) : limbs n = ((n % 4294967296 : Nat) : Int) :: limbs (n / 4294967296) := by
  obtain ⟨m, rfl⟩ : ∃ m, n = m + 1 := ⟨n - 1, by omega⟩
  rw [limbs, limF, if_neg h, limF_same m ((m + 1) / 4294967296) _ (by omega) (by omega)]
  rfl
theorem Lim.nil : Lim [] := fun _ h => by cases h
theorem Lim.cons {x : Int} {l : List Int} (h : Lim (x :: l)) : (0 ≤ x ∧ x < 4294967296) ∧ Lim l := ⟨h x (by simp), fun y hy => h y (by simp [hy])⟩
theorem Lim.mk {x : Int} {l : List Int} (h : 0 ≤ x ∧ x < 4294967296) (h' : Lim l) : Lim (x :: l) := fun y hy => by
  rcases List.mem_cons.1 hy with rfl | hy
  · exact h
  · exact h' y hy
theorem Lim.append {a b : List Int} (h : Lim a) (h' : Lim b) : Lim (a ++ b) := fun y hy => by
  rcases List.mem_append.1 hy with hy | hy
  · exact h y hy
  · exact h' y hy
theorem Lim.take {l : List Int} (h : Lim l) (n : Nat) : Lim (l.take n) := fun y hy => h y (List.mem_of_mem_take hy)
theorem Lim.drop {l : List Int} (h : Lim l) (n : Nat) : Lim (l.drop n) := fun y hy => h y (List.mem_of_mem_drop hy)
theorem Lim.one {x : Int} (h : 0 ≤ x ∧ x < 4294967296) : Lim [x] := Lim.mk h Lim.nil
theorem Lim.at {l : List Int} (h : Lim l) (i : Nat) : 0 ≤ l.getD i 0 ∧ l.getD i 0 < 4294967296 := by
  by_cases hi : i < l.length
  · have : l.getD i 0 = l[i] := by simp [List.getD, hi]
    rw [this]
    exact h _ (List.getElem_mem hi)
  · have : l.getD i 0 = 0 := by simp [List.getD, Nat.le_of_not_lt hi]
    rw [this]
    omega
theorem Lim.set {l : List Int} (h : Lim l) (i : Nat) {x : Int} (hx : 0 ≤ x ∧ x < 4294967296) : Lim (l.set i x) := fun y hy => by
  rcases List.mem_or_eq_of_mem_set hy with hy | rfl
  · exact h y hy
  · exact hx
theorem Lim.replicate (n : Nat) : Lim (List.replicate n 0) := fun y hy => by
  have := (List.mem_replicate.1 hy).2
  omega
theorem dg_lt {l : List Int} (h : Lim l) (i : Nat) : dg l i < 4294967296 := by
  have := h.at i
  unfold dg
  omega
theorem dg_int {l : List Int} (h : Lim l) (i : Nat) : ((dg l i : Nat) : Int) = l.getD i 0 := by
  have := h.at i
  unfold dg
  omega
theorem dg_out {l : List Int} {i : Nat} (h : l.length ≤ i) : dg l i = 0 := by
  simp [dg, List.getD, h]
theorem lim_limbs (n : Nat) : Lim (limbs n) := by
  induction n using Nat.strongRecOn with
  | ind n ih =>
    by_cases h : n = 0
    · subst h; exact Lim.nil
    · rw [limbs_pos h]
      exact Lim.mk (by omega) (ih _ (by omega))
theorem lv_limbs (n : Nat) : lv (limbs n) = n := by
  induction n using Nat.strongRecOn with
  | ind n ih =>
    by_cases h : n = 0
    · subst h; rfl
    · rw [limbs_pos h, lv, ih _ (by omega)]
      omega
theorem limbs_nil {n : Nat} : limbs n = [] ↔ n = 0 := by
  constructor
  · intro h
    have := lv_limbs n
    rw [h] at this
    exact this.symm
  · rintro rfl; rfl
theorem limbs_len_pos {n : Nat} : 0 < (limbs n).length ↔ n ≠ 0 := by
  rw [List.length_pos_iff, ne_eq, limbs_nil]
theorem limbs_lv : ∀ {l : List Int}, Lim l → (∀ h : l ≠ [], l.getLast h ≠ 0) → limbs (lv l) = l
  | [], _, _ => rfl
  | x :: r, h, hl => by
    obtain ⟨hx, hr⟩ := h.cons
    by_cases h0 : r = []
    · subst h0
      have hx0 : x ≠ 0 := by simpa using hl (by simp)
      rw [lv, lv, limbs_pos (by omega), show (x.toNat + 4294967296 * 0) / 4294967296 = 0 from by omega, limbs_zero]
      congr 1
      omega
    · have ih := limbs_lv hr (fun h1 => by have := hl (by simp); rwa [List.getLast_cons h1] at this)
      have hv : lv r ≠ 0 := fun e => h0 (by rw [← ih, e]; rfl)
      rw [lv, limbs_pos (by omega), show (x.toNat + 4294967296 * lv r) / 4294967296 = lv r from by omega, ih]
      congr 1
      omega
theorem lv_append : ∀ (a b : List Int), lv (a ++ b) = lv a + 4294967296 ^ a.length * lv b
  | [], b => by simp [lv]
  | x :: a, b => by
    rw [List.cons_append, lv, lv, lv_append a b, List.length_cons, Nat.pow_succ]
    generalize 4294967296 ^ a.length = p
    rw [Nat.mul_add, Nat.mul_comm p 4294967296, Nat.mul_assoc]
    omega
theorem lv_one (x : Int) : lv [x] = x.toNat := by simp [lv]
theorem lv_lt : ∀ {l : List Int}, Lim l → lv l < 4294967296 ^ l.length
  | [], _ => by simp [lv]
  | x :: r, h => by
    have h1 := lv_lt h.cons.2
    have h2 := h.cons.1
    rw [lv, List.length_cons, Nat.pow_succ]
    omega
theorem lv_split (l : List Int) (i : Nat) (hi : i ≤ l.length) : lv l = lv (l.take i) + 4294967296 ^ i * lv (l.drop i) := by
  have h := lv_append (l.take i) (l.drop i)
  rwa [List.take_append_drop, List.length_take, Nat.min_eq_left hi] at h
theorem lv_take_succ (l : List Int) (i : Nat) : lv (l.take (i + 1)) = lv (l.take i) + 4294967296 ^ i * dg l i := by
  by_cases hi : i < l.length
  · rw [List.take_add_one, List.getElem?_eq_getElem hi, lv_append, List.length_take, Nat.min_eq_left (by omega)]
    simp [lv, dg, List.getD, hi]
  · rw [List.take_of_length_le (by omega), List.take_of_length_le (by omega), dg_out (by omega)]
    simp
theorem drop_dg {l : List Int} {i : Nat} (hi : i < l.length) : lv (l.drop i) = dg l i + 4294967296 * lv (l.drop (i + 1)) := by
  rw [List.drop_eq_getElem_cons hi, lv]
  simp [dg, List.getD, hi]
theorem lv_zeros (n : Nat) : lv (List.replicate n 0) = 0 := by
  induction n with
  | zero => rfl
  | succ n ih => rw [List.replicate_succ, lv, ih]; rfl
theorem limbs_len {m n : Nat} : (limbs n).length ≤ m ↔ n < 4294967296 ^ m := by
  constructor
  · intro h
    have h1 := lv_lt (lim_limbs n)
    rw [lv_limbs] at h1
    exact Nat.lt_of_lt_of_le h1 (Nat.pow_le_pow_right (by omega) h)
  · induction m generalizing n with
    | zero =>
      intro h
      obtain rfl : n = 0 := by simp at h; omega
      simp [limbs_zero]
    | succ m ih =>
      intro h
      by_cases h0 : n = 0
      · subst h0; simp [limbs_zero]
      · rw [limbs_pos h0, List.length_cons]
        have := @ih (n / 4294967296) (by rw [Nat.pow_succ] at h; omega)
        omega
/-- A digit out of the number. -/
theorem dg_lv {l : List Int} (h : Lim l) (i : Nat) : dg l i = lv l / 4294967296 ^ i % 4294967296 := by
  have hp : 0 < 4294967296 ^ i := Nat.pow_pos (by omega)
  by_cases hi : i < l.length
  · have h1 := lv_split l i (by omega)
    have h2 := drop_dg hi
    have h3 := lv_lt (h.take i)
    rw [List.length_take, Nat.min_eq_left (by omega)] at h3
    rw [h1, Nat.add_mul_div_left _ _ hp, Nat.div_eq_of_lt h3, h2]
    have := dg_lt h i
    omega
  · have h1 := lv_lt h
    have h2 := Nat.pow_le_pow_right (show 4294967296 > 0 by omega) (Nat.le_of_not_lt hi)
    rw [dg_out (by omega), Nat.div_eq_of_lt (by omega)]
/-- Equal but for one place. -/
theorem lv_set {l : List Int} {i : Nat} (hi : i < l.length) (d : Nat) : lv (l.set i ((dg l i + d : Nat) : Int)) = lv l + 4294967296 ^ i * d := by
  have h1 := lv_split l i (by omega)
  have h2 := lv_split (l.set i ((dg l i + d : Nat) : Int)) i (by simp; omega)
  have h3 := drop_dg hi
  have h4 := drop_dg (l := l.set i ((dg l i + d : Nat) : Int)) (i := i) (by simpa using hi)
  have h5 : dg (l.set i ((dg l i + d : Nat) : Int)) i = dg l i + d := by
    generalize dg l i + d = m
    simp only [dg, List.getD, List.getElem?_set_self hi, Option.getD_some, Int.toNat_natCast]
  have h6 : (l.set i ((dg l i + d : Nat) : Int)).drop (i + 1) = l.drop (i + 1) := List.drop_set_of_lt (by omega)
  rw [List.take_set_of_le (Nat.le_refl _)] at h2
  rw [h6, h5] at h4
  rw [h2, h4, h1, h3]
  grind
/-- What a sign and a magnitude denote, and what denotes a number. -/
def iv (neg : Bool) (l : List Int) : Int := if neg = true then -(lv l : Int) else lv l
def mk (z : Int) : Bool × List Int := (decide (z < 0), limbs z.natAbs)
theorem iv_mk (z : Int) : iv (mk z).1 (mk z).2 = z := by
  simp only [iv, mk, lv_limbs, decide_eq_true_eq]
  split <;> omega
theorem iv_natAbs (neg : Bool) (l : List Int) : (iv neg l).natAbs = lv l := by
  unfold iv
  split <;> omega
end Go.Proofs.YtgbndganadelpaaGreatDoor.LI
/- The evaluator: the types of its values, and the program's rows of constants (package variables that nobody writes). -/
namespace Go.Proofs.YtgbndganadelpaaGreatDoor.E
open Go
set_option linter.unusedVariables false
/-- The types of the values that the evaluator knows. -/
inductive Ty where
  | int (k : IntKind)
  | bool
  | str
  | unit
  | sl (t : Ty)
  | pair (a b : Ty)
  deriving DecidableEq
@[reducible] def Ty.den : Ty → Type
  | .int _ => Int
  | .bool => Bool
  | .str => ByteArray
  | .unit => Unit
  | .sl t => List t.den
  | .pair a b => a.den × b.den
def Ty.zero : (t : Ty) → t.den
  | .int _ => (0 : Int)
  | .bool => false
  | .str => ByteArray.empty
  | .unit => ()
  | .sl _ => []
  | .pair a b => (a.zero, b.zero)
/-- The number of cells. -/
def Ty.size : Ty → Nat
  | .unit => 0
  | .pair a b => a.size + b.size
  | _ => 1
def Ty.agg : Ty → Bool
  | .unit => true
  | .pair _ _ => true
  | _ => false
/-- A package variable: an array of constants. Its type, its elements' type, its elements. -/
structure GL where
  ty : Nat
  el : Nat
  T : Ty
  xs : List T.den
/-- The package variables that the evaluator knows. -/
def gl : List (Nat × GL) := [(0, ⟨149, 148, .pair (.int .i64) (.pair (.int .i64) .unit), [(2, 1, ()), (1, 1, ()), (1, 0, ()), (1, -1, ()), (2, -1, ()), (1, -1, ()), (1, 0, ()), (1, 1, ())]⟩)]
end Go.Proofs.YtgbndganadelpaaGreatDoor.E
/- The evaluator: a Go function's code as_ a function over typed values, in continuation-passing style. Definitions alone. -/
namespace Go.Proofs.YtgbndganadelpaaGreatDoor.E
open Go
set_option linter.unusedVariables false
/-- What the evaluator knows of a slot: a value; a slice or a window of a block of its own (named by the slot that made it); a pointer into such a block (element, cell); a pointer to a value that nobody writes; a constant whose type is not known yet; several results; a function; 'undef'; nothing. -/
inductive AV where
  | v (t : Ty) (x : t.den)
  | own (d : Nat)
  | osl (d off len : Nat)
  | ptr (d i off : Nat)
  | ip (t : Ty) (x : t.den) (off : Nat)
  | cst (c : Value)
  | tup (t : Ty) (x : t.den)
  | fn (f : Nat)
  | und
  | dead
/-- A block of the call's own: a row of elements that grows (et: the number of the elements' type); the cells of one variable. -/
inductive Blk where
  | arr (et : Nat) (t : Ty) (xs : List t.den)
  | box (cs : List AV)
structure S where
  tm : Nat → AV
  bk : Nat → Option Blk
def find {α : Type} : List (Nat × α) → Nat → Option α
  | [], _ => none
  | (i, a) :: r, k => cond (Nat.beq i k) (some a) (find r k)
def has : List Nat → Nat → Bool
  | [], _ => false
  | i :: r, k => cond (Nat.beq i k) true (has r k)
/-- The signature of a function: its parameters, its result (a pair's chain if there are several), whether there are several, whether it writes into its first parameter. -/
structure Sg where
  ps : List Ty
  r : Ty
  tup : Bool
  bor : Bool
/-- The tables of a program: types, fields of structs (offset, type), elements of slices, structs that '==' compares by cells, functions, the number of slots. -/
structure Env where
  ty : List (Nat × Ty)
  fl : List (Nat × List (Nat × Nat))
  el : List (Nat × Nat)
  eqs : List Nat
  sg : List (Nat × Sg)
def toC : (t : Ty) → t.den → List AV
  | .unit, _ => []
  | .pair a b, x => toC a x.1 ++ toC b x.2
  | .int k, x => [.v (.int k) x]
  | .bool, x => [.v .bool x]
  | .str, x => [.v .str x]
  | .sl t, x => [.v (.sl t) x]
/-- A constant's cells, read as_ a type. -/
def ofVal : (t : Ty) → List Value → Option (t.den × List Value)
  | .int k, .int k' n :: r => if k' = k then some (n, r) else none
  | .bool, .bool b :: r => some (b, r)
  | .str, .string s :: r => some (s, r)
  | .unit, r => some ((), r)
  | .sl _, .slice none 0 _ :: r => some ([], r)
  | .pair a b, l =>
    match ofVal a l with
    | some (x, l') => match ofVal b l' with
      | some (y, l'') => some ((x, y), l'')
      | none => none
    | none => none
  | _, _ => none
def castT {t' : Ty} (t : Ty) (x : t'.den) : Option t.den := if h : t' = t then some (h ▸ x) else none
def asTy (t : Ty) : AV → Option t.den
  | .v _ x => castT t x
  | .cst (.agg cs) => cond t.agg (match ofVal t cs.toList with
    | some (x, []) => some x
    | _ => none) none
  | .cst c => cond t.agg none (match ofVal t [c] with
    | some (x, []) => some x
    | _ => none)
  | _ => none
def atomC (t : Ty) : List AV → Option (t.den × List AV)
  | c :: l => match asTy t c with
    | some x => some (x, l)
    | none => none
  | [] => none
def ofC : (t : Ty) → List AV → Option (t.den × List AV)
  | .unit, l => some ((), l)
  | .pair a b, l => match ofC a l with
    | some (x, l') => match ofC b l' with
      | some (y, l'') => some ((x, y), l'')
      | none => none
    | none => none
  | .int k, l => atomC (.int k) l
  | .bool, l => atomC .bool l
  | .str, l => atomC .str l
  | .sl t, l => atomC (.sl t) l
def S.ev (s : S) : Operand → AV
  | .tmp t => s.tm t
  | .const (.int k n) => .v (.int k) n
  | .const (.bool b) => .v .bool b
  | .const (.string b) => .v .str b
  | .const c => .cst c
  | .func f => .fn f
  | .global g => .cst (.pointer (some ⟨g, 0, none⟩))
def S.put (s : S) (d : Nat) (a : AV) : S := ⟨fun t => cond (Nat.beq t d) a (s.tm t), s.bk⟩
def S.puto (s : S) (d : Option Nat) (a : AV) : S := match d with
  | some d => s.put d a
  | none => s
def S.set (s : S) (d : Nat) (b : Blk) : S := ⟨s.tm, fun t => cond (Nat.beq t d) (some b) (s.bk t)⟩
/-- The block under which a function knows the window that it has been handed. -/
def BOR : Nat := 1000000
/-- References into the blocks of p are forgotten. -/
def AV.kill (p : Nat → Bool) : AV → AV
  | .own d => cond (p d) .dead (.own d)
  | .osl d off len => cond (p d) .dead (.osl d off len)
  | .ptr d i off => cond (p d) .dead (.ptr d i off)
  | a => a
def Blk.kill (p : Nat → Bool) : Blk → Blk
  | .box cs => .box (cs.map (AV.kill p))
  | b => b
def S.killR (s : S) (p : Nat → Bool) : S := ⟨fun t => (s.tm t).kill p, fun d => (s.bk d).map (Blk.kill p)⟩
def S.kill (s : S) (p : Nat → Bool) : S := ⟨fun t => (s.tm t).kill p, fun d => cond (p d) none ((s.bk d).map (Blk.kill p))⟩
/-- A row that is written no more: each slice of it is a plain value. -/
def AV.frz (d : Nat) (t : Ty) (xs : List t.den) : AV → AV
  | .own d' => cond (Nat.beq d' d) (.v (.sl t) xs) (.own d')
  | .osl d' off len => cond (Nat.beq d' d) (.v (.sl t) ((xs.drop off).take len)) (.osl d' off len)
  | .ptr d' i off => cond (Nat.beq d' d) (.ip t (xs.getD i t.zero) off) (.ptr d' i off)
  | a => a
def Blk.frz (d : Nat) (t : Ty) (xs : List t.den) : Blk → Blk
  | .box cs => .box (cs.map (AV.frz d t xs))
  | b => b
def S.frz1 (s : S) (d : Nat) : S := cond (Nat.beq d BOR) s <| match s.bk d with
  | some (.arr _ t xs) => ⟨fun u => (s.tm u).frz d t xs, fun u => cond (Nat.beq u d) none ((s.bk u).map (Blk.frz d t xs))⟩
  | _ => s
def S.frz (s : S) : List Nat → S
  | [] => s
  | d :: r => (s.frz1 d).frz r
/-- What an operation does: its value, a new block (under its own slot), a block written, whether references into that block end, the blocks read. -/
structure Ev where
  a : AV
  nb : Option Blk := none
  wr : Option (Nat × Blk) := none
  kl : Bool := false
  rd : List Nat := []
def Ev.eff (e : Ev) (dst : Option Nat) (s : S) : S :=
  let s1 := match e.wr with
    | some (d, b) => (cond e.kl (s.killR (Nat.beq d)) s).set d b
    | none => s
  match dst with
  | some t => (match e.nb with
      | some b => s1.set t b
      | none => s1).put t e.a
  | none => s1
def maxL : Nat := 1073741824
/-- 0 ≤ i < n -/
def inB (i : Int) (n : Nat) : Bool := decide (0 ≤ i) && decide (i < n)
/-- 0 ≤ i ≤ n -/
def inC (i : Int) (n : Nat) : Bool := decide (0 ≤ i) && decide (i ≤ n)
def shlI (k : IntKind) (x y : Int) : Int := k.wrap (x * 2 ^ min y.toNat k.bits)
def shrI (k : IntKind) (x y : Int) : Int := x.fdiv (2 ^ min y.toNat k.bits)
def andI (k : IntKind) (x y : Int) : Int := k.wrap (BitVec.ofInt k.bits x &&& BitVec.ofInt k.bits y).toNat
def orI (k : IntKind) (x y : Int) : Int := k.wrap (BitVec.ofInt k.bits x ||| BitVec.ofInt k.bits y).toNat
def xorI (k : IntKind) (x y : Int) : Int := k.wrap (BitVec.ofInt k.bits x ^^^ BitVec.ofInt k.bits y).toNat
def andNotI (k : IntKind) (x y : Int) : Int := k.wrap (BitVec.ofInt k.bits x &&& ~~~BitVec.ofInt k.bits y).toNat
def mx2 (x y : Int) : Int := if y > x then y else x
def mn2 (x y : Int) : Int := if y < x then y else x
def bytesOf (xs : List Int) : ByteArray := xs.foldl (fun s n => s.push (UInt8.ofNat n.toNat)) ByteArray.empty
/-- '==' on cells. -/
def eqT : (t : Ty) → t.den → t.den → Bool
  | .int _, x, y => x == y
  | .bool, x, y => x == y
  | .str, x, y => x == y
  | .unit, _, _ => true
  | .pair a .unit, x, y => eqT a x.1 y.1
  | .pair a b, x, y => eqT a x.1 y.1 && eqT b x.2 y.2
  | .sl _, _, _ => false
section
variable {R : Type}
def intK (op : BinOp) (k : IntKind) (x y : Int) (K : AV → Option R) : Option R :=
  match op with
  | .add => K (.v (.int k) (k.wrap (x + y)))
  | .sub => K (.v (.int k) (k.wrap (x - y)))
  | .mul => K (.v (.int k) (k.wrap (x * y)))
  | .quo => cond (decide (y = 0)) none (K (.v (.int k) (k.wrap (x.tdiv y))))
  | .rem => cond (decide (y = 0)) none (K (.v (.int k) (x.tmod y)))
  | .and => K (.v (.int k) (andI k x y))
  | .or => K (.v (.int k) (orI k x y))
  | .xor => K (.v (.int k) (xorI k x y))
  | .andNot => K (.v (.int k) (andNotI k x y))
  | .eql => K (.v .bool (x == y))
  | .neq => K (.v .bool (x != y))
  | .lss => K (.v .bool (decide (x < y)))
  | .leq => K (.v .bool (decide (x ≤ y)))
  | .gtr => K (.v .bool (decide (x > y)))
  | .geq => K (.v .bool (decide (x ≥ y)))
  | _ => none
def binK (E : Env) (op : BinOp) (ty : Nat) (x y : AV) (K : AV → Option R) : Option R :=
  match x, y with
  | .v (.int k) a, .v (.int k') b =>
    match op with
    | .shl => cond (decide (b < 0)) none (K (.v (.int k) (shlI k a b)))
    | .shr => cond (decide (b < 0)) none (K (.v (.int k) (shrI k a b)))
    | _ => if k = k' then intK op k a b K else none
  | .v .bool a, .v .bool b =>
    match find E.ty ty with
    | some .bool => match op with
      | .eql => K (.v .bool (a == b))
      | .neq => K (.v .bool (!(a == b)))
      | _ => none
    | _ => none
  | .v .str a, .v .str b =>
    match op with
    | .eql => K (.v .bool (a.toList == b.toList))
    | .neq => K (.v .bool (!(a.toList == b.toList)))
    | .add => cond (decide (a.size + b.size ≤ maxL)) (K (.v .str (a ++ b))) none
    | _ => none
  | .v (.pair t u) a, .v t' b =>
    match castT (.pair t u) b, cond (has E.eqs ty) (find E.ty ty) none with
    | some b', some t'' => if t'' = .pair t u then match op with
        | .eql => K (.v .bool (eqT (.pair t u) a b'))
        | .neq => K (.v .bool (!eqT (.pair t u) a b'))
        | _ => none
      else none
    | _, _ => none
  | _, _ => none
def unK (op : UnOp) (x : AV) (K : AV → Option R) : Option R :=
  match op, x with
  | .neg, .v (.int k) n => K (.v (.int k) (k.wrap (0 - n)))
  | .xor, .v (.int k) n => K (.v (.int k) (xorI k (if k.signed then -1 else k.max) n))
  | .not, .v .bool b => K (.v .bool !b)
  | _, _ => none
def convK (E : Env) (src dst : Nat) (x : AV) (K : AV → Option R) : Option R :=
  match find E.ty dst, x with
  | some (.int k), .v (.int _) n => match find E.ty src with
    | some (.int _) => K (.v (.int k) (k.wrap n))
    | _ => none
  | some .str, .v .str s => match find E.ty src with
    | some .str => K (.v .str s)
    | _ => none
  | some .str, .v (.sl (.int .u8)) xs => match find E.ty src, find E.el src with
    | some (.sl (.int .u8)), some e => match find E.ty e with
      | some (.int .u8) => K (.v .str (bytesOf xs))
      | _ => none
    | _, _ => none
  | _, _ => none
end
/-- Cells with a value laid over a part of them. -/
def layC (cs : List AV) (off n : Nat) (new : List AV) : List AV := cs.take off ++ new ++ cs.drop (off + n)
def fill (E : Env) (s : S) (fs : List (Nat × Nat)) : List (Nat × Operand) → List AV → Option (List AV)
  | [], cs => some cs
  | (i, x) :: r, cs => match fs[i]? with
    | some (off, ft) => match find E.ty ft with
      | some T => match asTy T (s.ev x) with
        | some v => cond (Nat.ble (off + T.size) cs.length) (fill E s fs r (layC cs off T.size (toC T v))) none
        | none => none
      | none => none
    | none => none
def row (s : S) (T : Ty) : Nat → List (Nat × Operand) → Option (List T.den)
  | _, [] => some []
  | i, (j, x) :: r => cond (Nat.beq j i) (match asTy T (s.ev x), row s T (i + 1) r with
    | some v, some l => some (v :: l)
    | _, _ => none) none
/-- A part of an element's cells. -/
def partC (T : Ty) (cs : List AV) (off : Nat) : Option AV :=
  cond T.agg (match ofC T (cs.drop off) with
    | some (x, _) => some (.v T x)
    | none => none) cs[off]?
def valC (T : Ty) (a : AV) : Option (List AV) :=
  match asTy T a with
  | some x => some (toC T x)
  | none => cond T.agg none (match a with
    | .own d => some [.own d]
    | _ => none)
/-- What a slice holds, and where: nobody's, or a block. -/
structure Vw where
  t : Ty
  xs : List t.den
  at_ : Option (Nat × Nat)
def S.view (s : S) : AV → Option Vw
  | .v (.sl t) xs => some ⟨t, xs, none⟩
  | .own d => match s.bk d with
    | some (.arr _ t xs) => some ⟨t, xs, some (d, 0)⟩
    | _ => none
  | .osl d off len => match s.bk d with
    | some (.arr _ t xs) => some ⟨t, (xs.drop off).take len, some (d, off)⟩
    | _ => none
  | _ => none
def Vw.out (w : Vw) (off len : Nat) (xs : List w.t.den) : AV := match w.at_ with
  | some (d, o) => .osl d (o + off) len
  | none => .v (.sl w.t) xs
def Vw.rd (w : Vw) : List Nat := match w.at_ with
  | some (d, _) => [d]
  | none => []
def elT (E : Env) (t : Nat) : Option Ty := match find E.el t with
  | some e => find E.ty e
  | none => none
section
variable {R : Type}
def slK (E : Env) (ty : Nat) (s : S) (x : AV) (lo hi mx : Option AV) (K : Ev → Option R) : Option R :=
  match x with
  | .v .str b => if find E.ty ty = some .str then match lo, hi, mx with
    | none, some (.v (.int _) h), none => cond (inC h b.size) (K { a := .v .str (b.extract 0 h.toNat) }) none
    | some (.v (.int _) l), none, none => cond (inC l b.size) (K { a := .v .str (b.extract l.toNat b.size) }) none
    | _, _, _ => none
    else none
  | _ => match s.view x with
    | none => none
    | some w => if elT E ty = some w.t then
      match lo, hi, mx with
      | none, some (.v (.int _) h), none => cond (inC h w.xs.length) (K { a := w.out 0 h.toNat (w.xs.take h.toNat), rd := w.rd }) none
      | none, some (.v (.int _) h), some (.v (.int _) m) =>
        cond (inC m w.xs.length) (cond (decide (0 ≤ h) && decide (h ≤ m)) (K { a := w.out 0 h.toNat (w.xs.take h.toNat), rd := w.rd }) none) none
      | some (.v (.int _) l), none, none => cond (inC l w.xs.length) (K { a := w.out l.toNat (w.xs.length - l.toNat) (w.xs.drop l.toNat), rd := w.rd }) none
      | some (.v (.int _) l), some (.v (.int _) h), none =>
        cond (inC h w.xs.length) (cond (decide (0 ≤ l) && decide (l ≤ h)) (K { a := w.out l.toNat (h.toNat - l.toNat) ((w.xs.take h.toNat).drop l.toNat), rd := w.rd }) none) none
      | _, _, _ => none
      else none
/-- The package variable at which a constant points. -/
def glAt : AV → Option GL
  | .cst (.pointer (some ⟨g, 0, none⟩)) => find gl g
  | _ => none
def ixGK (ty : Nat) (G : GL) (i : AV) (K : Ev → Option R) : Option R :=
  match i with
  | .v (.int _) n => cond (Nat.beq G.ty ty) (cond (inB n G.xs.length) (K { a := .ip G.T (G.xs.getD n.toNat G.T.zero) 0 }) none) none
  | _ => none
def ixK (E : Env) (ty : Nat) (s : S) (x i : AV) (K : Ev → Option R) : Option R :=
  match glAt x with
  | some G => ixGK ty G i K
  | none => match i with
  | .v (.int _) n => match s.view x with
    | some ⟨t, xs, at_⟩ => if elT E ty = some t then cond (inB n xs.length) (match at_ with
        | some (d, o) => K { a := .ptr d (o + n.toNat) 0, rd := [d] }
        | none => K { a := .ip t (xs.getD n.toNat t.zero) 0 }) none else none
    | none => none
  | _ => none
def ldK (E : Env) (s : S) (t : Nat) (p : AV) (K : Ev → Option R) : Option R :=
  match find E.ty t with
  | none => none
  | some T => match p with
    | .ptr d i off => match s.bk d with
      | some (.box cs) => match partC T cs off with
        | some a => K { a := a, rd := [d] }
        | none => none
      | some (.arr _ t' xs) => match partC T (toC t' (xs.getD i t'.zero)) off with
        | some a => K { a := a, rd := [d] }
        | none => none
      | none => none
    | .ip t' x off => match partC T (toC t' x) off with
      | some a => K { a := a }
      | none => none
    | _ => none
def stK (E : Env) (s : S) (t : Nat) (p x : AV) (K : Ev → Option R) : Option R :=
  match find E.ty t with
  | none => none
  | some T => match p with
    | .ptr d i off => match s.bk d with
      | some (.box cs) => match valC T x with
        | some new => cond (Nat.ble (off + T.size) cs.length) (K { a := .und, wr := some (d, .box (layC cs off T.size new)) }) none
        | none => none
      | some (.arr et t' xs) => match asTy T x with
        | some v => match ofC t' (layC (toC t' (xs.getD i t'.zero)) off T.size (toC T v)) with
          | some (y, []) => cond (Nat.ble (off + T.size) t'.size && !Nat.beq T.size 0) (K { a := .und, wr := some (d, .arr et t' (xs.set i y)) }) none
          | _ => none
        | none => none
      | none => none
    | _ => none
def fieldK (E : Env) (t : Nat) (x : AV) (f : Nat) (K : Ev → Option R) : Option R :=
  match find E.fl t, x with
  | some fs, .v T v => match fs[f]?, find E.ty t with
    | some (off, ft), some T' => if T' = T then match find E.ty ft with
        | some Tf => match partC Tf (toC T v) off with
          | some a => K { a := a }
          | none => none
        | none => none
      else none
    | _, _ => none
  | _, _ => none
def fieldAddrK (E : Env) (t : Nat) (p : AV) (f : Nat) (K : Ev → Option R) : Option R :=
  match find E.fl t with
  | some fs => match fs[f]? with
    | some (off, ft) => match find E.ty ft with
      | some Tf => cond (Nat.beq Tf.size 0) none (match p with
        | .ptr d i o => K { a := .ptr d i (o + off) }
        | .ip T v o => K { a := .ip T v (o + off) }
        | _ => none)
      | none => none
    | none => none
  | none => none
def exK : (t : Ty) → t.den → Nat → (AV → Option R) → Option R
  | .pair a _, x, 0, K => K (.v a x.1)
  | .pair _ b, x, n + 1, K => exK b x.2 n K
  | _, _, _, _ => none
def args : List Ty → List AV → Option (List AV)
  | [], [] => some []
  | t :: ts, a :: r => match asTy t a, args ts r with
    | some x, some l => some (.v t x :: l)
    | _, _ => none
  | _, _ => none
end
/-- What is known of the calls: a function on typed values; with it, the window that it has written. -/
abbrev Orc := (R : Type) → Nat → List AV → (AV → Option R) → Option R
abbrev OrcB := (R : Type) → Nat → List AV → (AV → Vw → Option R) → Option R
section
variable {R : Type}
def appK (E : Env) (s : S) (ty : Nat) (dst : Option Nat) (b x : AV) (K : Ev → Option R) : Option R :=
  match find E.el ty with
  | none => none
  | some et => match find E.ty et, s.view x, dst with
    | some T, some w, some d => cond (Nat.beq T.size 0) none <| match castT (.sl T) (t' := .sl w.t) w.xs with
      | none => none
      | some ys => match b with
        | .own o => match s.bk o with
          | some (.arr et' t xs) => match castT (.sl T) (t' := .sl t) xs with
            | some xs' => cond (Nat.beq o BOR || (Nat.beq et 0 || !Nat.beq et' et)) none <| cond (decide (xs'.length + List.length ys ≤ maxL)) (K { a := .own o, wr := some (o, .arr et T (xs' ++ ys)), kl := true, rd := w.rd }) none
            | none => none
          | _ => none
        | .cst (.slice none 0 0) => cond (decide (List.length ys ≤ maxL)) (K { a := .own d, nb := some (.arr et T ys), rd := w.rd }) none
        | _ => none
    | _, _, _ => none
def copyK (E : Env) (ty : Nat) (s : S) (b x : AV) (K : Ev → Option R) : Option R :=
  match b, s.view x with
  | .own o, some w => match s.bk o with
    | some (.arr et t xs) => match castT (.sl t) (t' := .sl w.t) w.xs with
      | some ys => if elT E ty = some t then cond (Nat.beq t.size 0) none <| K { a := .v (.int .i64) (Nat.min (List.length ys) xs.length : Nat), wr := some (o, .arr et t (List.take xs.length ys ++ xs.drop (List.length ys))), rd := w.rd } else none
      | none => none
    | _ => none
  | _, _ => none
def mmK (f : Int → Int → Int) : List AV → (AV → Option R) → Option R
  | [.v (.int k) x, .v (.int k') y], K => if k = k' then K (.v (.int k) (f x y)) else none
  | [.v (.int k) x, .v (.int k') y, .v (.int k'') z], K => if k = k' ∧ k = k'' then K (.v (.int k) (f (f x y) z)) else none
  | _, _ => none
/-- A call's result: '.tup' of a slice is a new row, which the caller may write. -/
def resEv (dst : Option Nat) (y : AV) : Ev := match y, dst with
  | .tup (.sl t) xs, some d => { a := .own d, nb := some (.arr 0 t xs) }
  | y, _ => { a := y }
def callK (E : Env) (ρ : Orc) (β : OrcB) (s : S) (dst : Option Nat) (f : Nat) (as_ : List AV) (K : Ev → Option R) : Option R :=
  match find E.sg f with
  | none => none
  | some g => cond g.bor (match as_ with
      | a :: r => match s.view a, args g.ps.tail r with
        | some w, some r' => match w.at_ with
          | some (d, o) => if g.ps.head? = some (.sl w.t) then cond (Nat.beq w.t.size 0) none <| match s.bk d with
            | some (.arr et t' all) => match castT (.sl w.t) (t' := .sl t') all with
              | some all' => β R f (.v (.sl w.t) w.xs :: r') fun y w' =>
                match castT (.sl w.t) (t' := .sl w'.t) w'.xs with
                | some new => K { a := y, wr := some (d, .arr et w.t (List.take o all' ++ new ++ List.drop (o + w.xs.length) all')) }
                | none => none
              | none => none
            | _ => none
            else none
          | none => none
        | _, _ => none
      | [] => none)
    (match args g.ps as_ with
    | some as' => ρ R f as' fun y => K (resEv dst y)
    | none => none)
def opdEq : Operand → Operand → Bool
  | .tmp a, .tmp b => Nat.beq a b
  | .const (.int _ a), .const (.int _ b) => decide (a = b)
  | _, _ => false
/-- One operation. hw: the composite slices that are to be rows of their own. -/
def stepK (E : Env) (ρ : Orc) (β : OrcB) (hw : List Nat) (s : S) (o : Oper) (K : Ev → Option R) : Option R :=
  match o.op with
  | .move x => K { a := s.ev x }
  | .assign x => K { a := s.ev x }
  | .pick c a b => match s.ev c with
    | .v .bool t => cond t (K { a := s.ev a }) (K { a := s.ev b })
    | _ => none
  | .alloc e => match find E.ty e, o.dst with
    | some T, some d => K { a := .ptr d 0 0, nb := some (.box (toC T T.zero)) }
    | _, _ => none
  | .box e x => match find E.ty e, o.dst with
    | some T, some d => match asTy T (s.ev x) with
      | some v => K { a := .ptr d 0 0, nb := some (.box (toC T v)) }
      | none => none
    | _, _ => none
  | .build t ps => match find E.ty t, find E.fl t with
    | some T, some fs => match fill E s fs ps.toList (toC T T.zero) with
      | some cs => match ofC T cs with
        | some (x, []) => K { a := .v T x }
        | _ => none
      | none => none
    | _, _ => none
  | .buildSlice t n ps => match find E.el t, o.dst with
    | some et, some d => match find E.ty et with
      | some T => match row s T 0 ps.toList with
        | some xs => cond (Nat.beq ps.toList.length n && (Nat.ble (n * T.size) 16777216 && !Nat.beq (n * T.size) 0)) (cond (has hw d) (K { a := .own d, nb := some (.arr et T xs) }) (K { a := .v (.sl T) xs })) none
        | none => none
      | none => none
    | _, _ => none
  | .load t p => ldK E s t (s.ev p) K
  | .store t p x => stK E s t (s.ev p) (s.ev x) K
  | .nilCheck x => match s.ev x with
    | .ptr d i off => K { a := .ptr d i off }
    | .ip t v off => K { a := .ip t v off }
    | _ => none
  | .binOp op t x y _ => binK E op t (s.ev x) (s.ev y) fun a => K { a := a }
  | .unOp op _ x => unK op (s.ev x) fun a => K { a := a }
  | .convert src dst x => convK E src dst (s.ev x) fun a => K { a := a }
  | .makeSlice t l c => match find E.el t, o.dst, opdEq l c, s.ev l with
    | some et, some d, true, .v (.int _) n => match find E.ty et with
      | some T => cond (inC n maxL) (cond (Nat.beq T.size 0) none (K { a := .own d, nb := some (.arr et T (List.replicate n.toNat T.zero)) })) none
      | none => none
    | _, _, _, _ => none
  | .slice t x lo hi mx => slK E t s (s.ev x) (lo.map s.ev) (hi.map s.ev) (mx.map s.ev) K
  | .fieldAddr t x f => fieldAddrK E t (s.ev x) f K
  | .field t x f => fieldK E t (s.ev x) f K
  | .indexAddr t x i => ixK E t s (s.ev x) (s.ev i) K
  | .index t x i => match s.ev x, s.ev i, find E.ty t with
    | .v .str b, .v (.int _) n, some .str => cond (inB n b.size) (K { a := .v (.int .u8) ((b.get! n.toNat).toNat : Int) }) none
    | _, _, _ => none
  | .extract t i => match s.ev t with
    | .tup T x => exK T x i fun a => K { a := a }
    | _ => none
  | .makeFunc (.func f) first captured => cond (first.toList.isEmpty && captured.toList.isEmpty) (K { a := .fn f }) none
  | .call c => match c.callee with
    | .value f => match s.ev f with
      | .fn g => callK E ρ β s o.dst g (c.args.toList.map s.ev) K
      | _ => none
    | .builtin b => match b, c.args.toList.map s.ev with
      | .len, [x] => match c.argTypes.toList with
        | [t] => match s.view x with
          | some w => cond (find E.el t).isSome (K { a := .v (.int .i64) (w.xs.length : Int), rd := w.rd }) none
          | none => match x, find E.ty t with
            | .v .str b, some .str => K { a := .v (.int .i64) (b.size : Int) }
            | _, _ => none
        | _ => none
      | .append, [b, x] => match c.argTypes.toList with
        | [t, t'] => cond (Nat.beq t t') (appK E s t o.dst b x K) none
        | _ => none
      | .copy, [b, x] => match c.argTypes.toList with
        | t :: _ => copyK E t s b x K
        | [] => none
      | .max, l => mmK mx2 l fun a => K { a := a }
      | .min, l => mmK mn2 l fun a => K { a := a }
      | _, _ => none
    | _ => none
  | _ => none
end
/-- What an operation of a drawn region has read and written. -/
structure Lg where
  rd : List Nat
  wr : List Nat
  kl : Bool
def Ev.lg (e : Ev) (dst : Option Nat) : Lg :=
  { rd := e.rd, wr := (match e.wr with | some (d, _) => [d] | none => []) ++ (match e.nb, dst with | some _, some d => [d] | _, _ => []), kl := e.kl }
def disj (a b : List Nat) : Bool := a.all fun x => !has b x
/-- Behind each operation those that lie before it in every order, as_ bits. -/
def maskOf (acc : List Nat) (o : Oper) : Nat := o.after.toList.foldl (fun m e => cond (Region.binds .any e) (m ||| (2 ^ e.on ||| acc.getD e.on 0)) m) 0
def masksGo : List Oper → List Nat → List Nat
  | [], acc => acc
  | o :: r, acc => masksGo r (acc ++ [maskOf acc o])
def masks (ops : List Oper) : List Nat := masksGo ops []
def pairOk (ops : Array Oper) (x y : Oper) (a b : Lg) : Bool :=
  Oper.apart ops x y && (disj a.wr (b.rd ++ b.wr) && (disj b.wr a.rd && (!a.kl && !b.kl)))
def back (j : Nat) (o : Oper) : Bool := o.after.toList.all fun e => !Region.binds .any e || Nat.blt e.on j
def drawOk (ops : Array Oper) (lg : List Lg) : Bool :=
  (List.range ops.size).all fun j => back j (ops.getD j default) && (List.range j).all fun i =>
    Nat.testBit ((masks ops.toList).getD j 0) i || pairOk ops (ops.getD i default) (ops.getD j default) (lg.getD i ⟨[], [], true⟩) (lg.getD j ⟨[], [], true⟩)
def site (hw : List Nat) (o : Oper) : List Nat :=
  match o.op, o.dst with
  | .alloc _, some d => [d]
  | .box _ _, some d => [d]
  | .makeSlice _ _ _, some d => [d]
  | .buildSlice _ _ _, some d => cond (has hw d) [d] []
  | _, _ => []
/-- Hints beside the code: what is frozen before a region, which composite slices are rows of their own; a loop's number. -/
inductive HT where
  | n
  | two (a b : HT)
  | fr (frz own : List Nat)
  | lp (i : Nat)
def HT.l : HT → HT
  | .two a _ => a
  | _ => .n
def HT.r : HT → HT
  | .two _ b => b
  | _ => .n
def HT.frz : HT → List Nat
  | .fr a _ => a
  | _ => []
def HT.ownd : HT → List Nat
  | .fr _ b => b
  | _ => []
inductive Ex where
  | normal
  | exit (i : Nat)
  | ret
/-- A store has no slot of its own. -/
def noDst (o : Oper) : Bool := match o.op with
  | .store _ _ _ => o.dst.isNone
  | _ => true
def dstOk (n : Nat) (o : Oper) : Bool := noDst o && match o.dst with
  | some d => Nat.blt d n
  | none => true
def fresh (s : S) (e : Ev) (dst : Option Nat) : Bool := match e.nb, dst with
  | some _, some d => (s.bk d).isNone
  | some _, none => false
  | none, _ => true
section
variable {R : Type}
def opsK (E : Env) (ρ : Orc) (β : OrcB) (n : Nat) (ops : Array Oper) (hw : List Nat) : List Oper → List Lg → S → (List Lg → S → Option R) → Option R
  | [], lg, s, K => K lg s
  | o :: r, lg, s, K =>
    let go (s : S) := cond (dstOk n o) (stepK E ρ β hw s o fun e => cond (fresh s e o.dst) (opsK E ρ β n ops hw r (lg ++ [e.lg o.dst]) (e.eff o.dst s) K) none) none
    let no (s : S) := cond (dstOk n o) (opsK E ρ β n ops hw r (lg ++ [⟨[], [], false⟩]) (s.puto o.dst .und) K) none
    match o.guard with
    | none => go s
    | some (j, want) => match (ops[j]?).bind (·.dst) with
      | some t => match s.tm t with
        | .v .bool b => cond b (cond want (go (s.put t (.v .bool true))) (no (s.put t (.v .bool true)))) (cond want (no (s.put t (.v .bool false))) (go (s.put t (.v .bool false))))
        | .und => no s
        | _ => none
      | none => none
def prep (h : HT) (ops : Array Oper) (s : S) : S := (s.frz h.frz).kill (has (ops.toList.flatMap (site h.ownd)))
def regK (E : Env) (ρ : Orc) (β : OrcB) (n : Nat) (h : HT) (ops : Array Oper) (draw : Bool) (s : S) (K : S → Option R) : Option R :=
  opsK E ρ β n ops h.ownd ops.toList [] (prep h ops s) fun lg s' => cond draw (cond (drawOk ops lg) (K s') none) (K s')
def semK (E : Env) (ρ : Orc) (β : OrcB) (n : Nat) (Λ : Nat → S → (Ex → S → Option R) → Option R) : Code → HT → S → (Ex → S → Option R) → Option R
  | .skip, _, s, K => K .normal s
  | .label _, _, s, K => K .normal s
  | .region _ ops d, h, s, K => regK E ρ β n h ops d s (K .normal)
  | .seq a b, h, s, K => semK E ρ β n Λ a h.l s fun e s' => match e with
    | .normal => semK E ρ β n Λ b h.r s' K
    | .exit i => K (.exit i) s'
    | .ret => K .ret s'
  | .cond c a b, h, s, K => match s.ev c with
    | .v .bool t => cond t (semK E ρ β n Λ a h.l s K) (semK E ρ β n Λ b h.r s K)
    | _ => none
  | .block i c, h, s, K => semK E ρ β n Λ c h s fun e s' => match e with
    | .normal => K .normal s'
    | .exit j => cond (Nat.beq j i) (K .normal s') (K (.exit j) s')
    | .ret => K .ret s'
  | .loop _, .lp i, s, K => Λ i s K
  | .scope c, h, s, K => semK E ρ β n Λ c h s K
  | .exit i, _, s, K => K (.exit i) s
  | .ret, _, s, K => K .ret s
  | _, _, _, _ => none
end
/-- A function's result. -/
def asTyF (s : S) (t : Ty) (a : AV) : Option t.den := match s.view a with
  | some w => match w.at_ with
    | some (d, _) => cond (Nat.beq d BOR) none (castT t (t' := .sl w.t) w.xs)
    | none => castT t (t' := .sl w.t) w.xs
  | none => asTy t a
def atomF (s : S) (t : Ty) : List AV → Option (t.den × List AV)
  | c :: l => match asTyF s t c with
    | some x => some (x, l)
    | none => none
  | [] => none
def ofCF (s : S) : (t : Ty) → List AV → Option (t.den × List AV)
  | .unit, l => some ((), l)
  | .pair a b, l => match ofCF s a l with
    | some (x, l') => match ofCF s b l' with
      | some (y, l'') => some ((x, y), l'')
      | none => none
    | none => none
  | .int k, l => atomF s (.int k) l
  | .bool, l => atomF s .bool l
  | .str, l => atomF s .str l
  | .sl t, l => atomF s (.sl t) l
def resV (E : Env) (s : S) (t : Ty) : ResultVar → Option t.den
  | .tmp x => asTyF s t (s.tm x)
  | .cell x ty => match find E.ty ty with
    | some t' => if t' = t then match s.tm x with
      | .ptr d 0 0 => match s.bk d with
        | some (.box cs) => match ofCF s t cs with
          | some (y, []) => some y
          | _ => none
        | _ => none
      | _ => none else none
    | none => none
def resL (E : Env) (s : S) : List ResultVar → (t : Ty) → Option t.den
  | [], .unit => some ()
  | r :: rs, .pair a b => match resV E s a r, resL E s rs b with
    | some x, some y => some (x, y)
    | _, _ => none
  | _, _ => none
def fin (E : Env) (fn : Func) (g : Sg) (e : Ex) (s : S) : Option g.r.den :=
  match e with
  | .exit _ => none
  | _ => cond g.tup (cond (Nat.beq fn.results.toList.length 1) none (resL E s fn.results.toList g.r)) (match fn.results.toList with
    | [r] => resV E s g.r r
    | _ => none)
def S.bor (s : S) (t : Ty) : Option (List t.den) := match s.bk BOR with
  | some (.arr _ t' xs) => castT (.sl t) (t' := .sl t') xs
  | _ => none
def finB (E : Env) (fn : Func) (g : Sg) (t : Ty) (n : Nat) (e : Ex) (s : S) : Option (g.r.den × List t.den) :=
  match fin E fn g e s, s.bor t with
  | some y, some xs => cond (Nat.beq (List.length xs) n) (some (y, xs)) none
  | _, _ => none
/-- The result of a function that gives a new row. -/
def finN (fn : Func) (t : Ty) (e : Ex) (s : S) : Option (List t.den) :=
  match e with
  | .exit _ => none
  | _ => match fn.results.toList with
    | [.tmp x] => match s.tm x with
      | .own d => cond (Nat.beq d BOR) none (match s.bk d with
        | some (.arr _ t' xs) => castT (.sl t) (t' := .sl t') xs
        | _ => none)
      | _ => none
    | _ => none
/-- The state in which a function begins. -/
def S.init (as_ : List AV) : S := ⟨fun t => as_.getD t .dead, fun _ => none⟩
def S.initB (t : Ty) (xs : List t.den) (as_ : List AV) : S := ⟨fun u => (AV.own BOR :: as_).getD u .dead, fun d => cond (Nat.beq d BOR) (some (.arr 0 t xs)) none⟩
end Go.Proofs.YtgbndganadelpaaGreatDoor.E
