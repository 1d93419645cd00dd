import Derived.Test.YtmglacjcefajlaaAm
import Derived.WalkLawsBesides
import Derived.WalkSpells
import Derived.Laws.Tables
import Derived.MapKept
/- Operations over data, and that the model's operations do the same in memory. Over any program. -/
namespace Go.Proofs.Ytmglacjcefajlaa
open Go.RowKit

def ofValue : Value → Option D
 | .bool b => some (.bool b)
 | .int k n => if inr k n then some (.int k n) else none
 | .string s => if s.size ≤ 9223372036854775807 then some (.str s) else none
 | .slice none 0 0 => some (.slice .nil 0 [])
 | .map none => some .nmap
 | .nilFunc => some .nfn
 | _ => none
def ofCells : List Value → Option (List D)
 | [] => some []
 | v :: r => match ofValue v, ofCells r with
  | some d, some l => some (d :: l)
  | _, _ => none

theorem ofValue_R {w : World} {g : Gh} {v : Value} {d : D} (h : ofValue v = some d) : R w g d [v] := by
 unfold ofValue at h
 split at h
 ·cases h; exact .bool _
 ·split at h
  ·cases h; exact .int _ _ ‹_›
  ·cases h
 ·split at h
  ·cases h; exact .str _ ‹_›
  ·cases h
 ·cases h
  exact .slice .nil 0 [] none 0 (fun _ => []) (Nat.le_refl _) (by omega) (fun _ _ q => by cases q) ⟨rfl, rfl⟩ trivial (fun j h => absurd h (Nat.not_lt_zero _)) (fun j h => absurd h (Nat.not_lt_zero _)) (fun j h => absurd h (Nat.not_lt_zero _))
 ·cases h; exact .nmap
 ·cases h; exact .nfn
 ·cases h
theorem ofCells_R {w : World} {g : Gh} : ∀ {vs : List Value} {l : List D}, ofCells vs = some l → R w g (.agg l) vs
 | [], l, h => by cases h; exact .agg [] [] rfl (fun j h => absurd h (Nat.not_lt_zero _))
 | v :: r, l, h => by
  unfold ofCells at h
  split at h
  ·rename_i d m h1 h2
   cases h
   have ih := ofCells_R (w := w) (g := g) h2
   cases ih with
   | agg _ _ hl hh =>
    refine .agg _ _ (by simp [hl]) (fun j h h' => ?_)
    cases j with
    | zero => exact ofValue_R h1
    | succ j => exact hh j (by simpa using h) (by simpa using h')
  ·cases h

structure Ty where
 sz : Nat
 agg : Bool
 flds : List (Nat × Nat × Bool)
 elem : Option TypeId
 zero : Option (List D)
 bytes : Nat

def descAgg : TypeDesc → Bool
 | .struct _ | .array _ _ => true
 | _ => false
def tyOf (P : Program) (t : TypeId) : Option Ty := match P.info? t, P.underlying t with
 | some i, some u => some { sz := i.size, agg := descAgg u, flds := (match u with | .struct fs => fs.toList.map fun f => (f.offset, P.cellsOf f.type, (P.underlying f.type).any descAgg) | _ => []), elem := (match u with | .slice e => some e | _ => none), zero := i.zero.bind fun z => ofCells z.cells.toList, bytes := i.bytes }
 | _, _ => none

def ev (fr : List D) : Operand → D
 | .tmp t => (fr[t]?).getD .undef
 | .const v => (ofValue v).getD .undef
 | .global _ => .undef
 | .func f => .fn f []

/-- a datum of a type, out of cells -/
def mkD (y : Ty) (c : List D) : Option D := if y.agg then some (.agg c) else match c with
 | [d] => if d.isAgg then none else some d
 | _ => none

def aint (op : BinOp) (k : IntKind) (a b : Int) : Option D := match op with
 | .add => some (.int k (k.wrap (a + b)))
 | .sub => some (.int k (k.wrap (a - b)))
 | .mul => some (.int k (k.wrap (a * b)))
 | .quo => if b = 0 then none else some (.int k (k.wrap (a.tdiv b)))
 | .rem => if b = 0 then none else some (.int k (a.tmod b))
 | .and => some (.int k (k.wrap (BitVec.ofInt k.bits a &&& BitVec.ofInt k.bits b).toNat))
 | .or => some (.int k (k.wrap (BitVec.ofInt k.bits a ||| BitVec.ofInt k.bits b).toNat))
 | .xor => some (.int k (k.wrap (BitVec.ofInt k.bits a ^^^ BitVec.ofInt k.bits b).toNat))
 | .eql => some (.bool (a == b))
 | .neq => some (.bool (a != b))
 | .lss => some (.bool (decide (a < b)))
 | .leq => some (.bool (decide (a ≤ b)))
 | .gtr => some (.bool (decide (a > b)))
 | .geq => some (.bool (decide (a ≥ b)))
 | _ => none
def astr (op : BinOp) (a b : ByteArray) : Option D := match op with
 | .add => if a.size + b.size ≤ 9223372036854775807 then some (.str (a ++ b)) else none
 | .eql => some (.bool (a.toList == b.toList))
 | .neq => some (.bool !(a.toList == b.toList))
 | .lss => some (.bool (Op.bytesLess a.toList b.toList))
 | .leq => some (.bool (Op.bytesLess a.toList b.toList || a.toList == b.toList))
 | .gtr => some (.bool !(Op.bytesLess a.toList b.toList || a.toList == b.toList))
 | .geq => some (.bool !(Op.bytesLess a.toList b.toList))
 | _ => none

theorem tmod_inr {k : IntKind} {a b : Int} (h : inr k a) : inr k (a.tmod b) := by
 unfold inr at *
 have hmin : k.min ≤ 0 := by cases k <;> simp [IntKind.min, IntKind.bits, IntKind.signed]
 have hmax : 0 ≤ k.max := by cases k <;> simp [IntKind.max, IntKind.bits, IntKind.signed]
 rcases Int.le_total 0 a with ha | ha
 ·have h1 := Int.tmod_nonneg b ha
  have h2 : a.tmod b ≤ a := by
   have := Int.natAbs_tmod a b
   have h3 : a.natAbs % b.natAbs ≤ a.natAbs := Nat.mod_le _ _
   omega
  omega
 ·have h1 : a.tmod b ≤ 0 := by
   have := Int.tmod_nonneg b (show (0 : Int) ≤ -a by omega)
   rw [Int.neg_tmod] at this; omega
  have h2 : a ≤ a.tmod b := by
   have := Int.natAbs_tmod a b
   have h3 : a.natAbs % b.natAbs ≤ a.natAbs := Nat.mod_le _ _
   omega
  omega

section
variable {P : Program} {w : World} {g : Gh}

theorem R_int {k : IntKind} {n : Int} {cs : List Value} (h : R w g (.int k n) cs) : cs = [.int k n] ∧ inr k n := by cases h; exact ⟨rfl, ‹_›⟩
theorem R_bool {b : Bool} {cs : List Value} (h : R w g (.bool b) cs) : cs = [.bool b] := by cases h; rfl
theorem R_str {s : ByteArray} {cs : List Value} (h : R w g (.str s) cs) : cs = [.string s] ∧ s.size ≤ 9223372036854775807 := by cases h; exact ⟨rfl, ‹_›⟩
theorem val_int {k : IntKind} {n : Int} {v : Value} (h : val w g (.int k n) v) : v = .int k n ∧ inr k n := by
 obtain ⟨cs, h1, rfl⟩ := h
 obtain ⟨rfl, h2⟩ := R_int h1
 exact ⟨rfl, h2⟩
theorem val_bool {b : Bool} {v : Value} (h : val w g (.bool b) v) : v = .bool b := by
 obtain ⟨cs, h1, rfl⟩ := h
 rw [R_bool h1]; rfl
theorem val_str {s : ByteArray} {v : Value} (h : val w g (.str s) v) : v = .string s ∧ s.size ≤ 9223372036854775807 := by
 obtain ⟨cs, h1, rfl⟩ := h
 obtain ⟨rfl, h2⟩ := R_str h1
 exact ⟨rfl, h2⟩
theorem val_ptr {i off : Nat} {v : Value} (h : val w g (.ptr i off) v) : ∃ b, (g.β i = some b ∧ g.mp i = false) ∧ v = .pointer (some ⟨b, off, none⟩) := by
 obtain ⟨cs, h1, rfl⟩ := h
 cases h1 with
 | ptr _ _ b h hm => exact ⟨b, ⟨h, hm⟩, rfl⟩
theorem val_elem {d : D} {v : Value} (h : val w g (.elem d) v) : ∃ b off cs, v = .pointer (some ⟨b, off, none⟩) ∧ R w g d cs ∧ ∀ m u, cs[m]? = some u → g.ok b (off + m) ∧ w.cell? ⟨b, off + m, none⟩ = some u := by
 obtain ⟨cs, h1, rfl⟩ := h
 cases h1 with
 | elem _ b off cs h hc => exact ⟨b, off, cs, rfl, h, hc⟩
theorem val_agg {l : List D} {v : Value} (h : val w g (.agg l) v) : ∃ vs : List Value, v = .agg vs.toArray ∧ R w g (.agg l) vs := by
 obtain ⟨cs, h1, rfl⟩ := h
 exact ⟨cs, rfl, h1⟩
theorem val_of_R {d : D} {v : Value} (h : R w g d [v]) (ha : d.isAgg = false) : val w g d v := val.of1 ⟨[v], h, by cases d <;> first | rfl | simp [D.isAgg] at ha⟩
theorem val_of_agg {l : List D} {vs : List Value} (h : R w g (.agg l) vs) : val w g (.agg l) (.agg vs.toArray) := val.of1 ⟨vs, h, rfl⟩
theorem R_agg_at {l : List D} {vs : List Value} (h : R w g (.agg l) vs) (j : Nat) (hj : j < l.length) : ∃ h' : j < vs.length, R w g l[j] [vs[j]] := by
 cases h with
 | agg _ _ hl hh => exact ⟨by omega, hh j hj (by omega)⟩
theorem R_agg_len {l : List D} {vs : List Value} (h : R w g (.agg l) vs) : l.length = vs.length := by
 cases h with
 | agg _ _ hl hh => exact hl
theorem R_agg_of {l : List D} {vs : List Value} (hl : l.length = vs.length) (h : ∀ (j : Nat) (h : j < l.length) (h' : j < vs.length), R w g l[j] [vs[j]]) : R w g (.agg l) vs := .agg l vs hl h
theorem R_agg_sub {l : List D} {vs : List Value} (h : R w g (.agg l) vs) (a n : Nat) : R w g (.agg ((l.drop a).take n)) ((vs.drop a).take n) := by
 have hl := R_agg_len h
 refine R_agg_of (by simp [hl]) (fun j h1 h2 => ?_)
 simp only [List.getElem_take, List.getElem_drop]
 obtain ⟨_, r⟩ := R_agg_at h (a + j) (by simp at h1; omega)
 exact r
theorem R_agg_append {l m : List D} {vs us : List Value} (h : R w g (.agg l) vs) (k : R w g (.agg m) us) : R w g (.agg (l ++ m)) (vs ++ us) := by
 have hl := R_agg_len h
 have hk := R_agg_len k
 refine R_agg_of (by simp [hl, hk]) (fun j h1 h2 => ?_)
 by_cases hj : j < l.length
 ·rw [List.getElem_append_left hj, List.getElem_append_left (by omega)]
  obtain ⟨_, r⟩ := R_agg_at h j hj
  exact r
 ·rw [List.getElem_append_right (by omega), List.getElem_append_right (by omega)]
  simp only [zla] at h1
  obtain ⟨_, r⟩ := R_agg_at k (j - l.length) (by omega)
  simpa [hl] using r
theorem ev_val {fr : List D} {a : Act} (hf : ∀ (t : Nat) (d : D), fr[t]? = some d → ∃ v, a.tmps[t]? = some v ∧ val w g d v) (hl : fr.length = a.tmps.size) (x : Operand) (hx : (ev fr x).good = true ∨ ∃ t, x = .tmp t) : val w g (ev fr x) (a.eval x) := by
 cases x with
 | tmp t =>
  simp only [ev, Act.eval]
  cases h : fr[t]? with
  | none =>
   have : a.tmps.size ≤ t := by rw [← hl]; exact List.getElem?_eq_none_iff.1 h
   simp only [Option.getD_none, val]
   simp [Array.getD_eq_getD_getElem?, Array.getElem?_eq_none this]
  | some d =>
   obtain ⟨v, h1, h2⟩ := hf t d h
   simp only [zgd, Array.getD_eq_getD_getElem?, h1]
   exact h2
 | const v =>
  simp only [ev, Act.eval] at hx ⊢
  cases h : ofValue v with
  | none =>
   rw [h] at hx
   rcases hx with hx | ⟨t, hx⟩
   ·simp [D.good] at hx
   ·cases hx
  | some d =>
   simp only [zgd]
   refine val_of_R (ofValue_R h) ?_
   unfold ofValue at h
   split at h <;> (try split at h) <;> cases h <;> rfl
 | global i =>
  rcases hx with hx | ⟨t, hx⟩
  ·simp [ev, D.good] at hx
  ·cases hx
 | func f =>
  exact val_of_R (.fn f [] [] rfl (fun d h => by cases h) (fun j h => absurd h (Nat.not_lt_zero _))) rfl
end

end Go.Proofs.Ytmglacjcefajlaa

/- Operations that leave memory alone. -/
namespace Go.Proofs.Ytmglacjcefajlaa
open Go.RowKit

def afill (flds : Nat → Option (Nat × Nat)) (cells : List D) : List (Nat × D) → Option (List D)
 | [] => some cells
 | (i, d) :: rest => match flds i with
  | none => none
  | some (off, size) => if d.good = true ∧ d.cells.length = size ∧ off + size ≤ cells.length then afill flds (cells.take off ++ d.cells ++ cells.drop (off + size)) rest else none

def scEq (P : Program) (t : TypeId) (x y : D) : Option Bool := match P.underlying t, x, y with
 | some (.int _), .int k a, .int k' b => if k = k' then some (a == b) else none
 | some .bool, .bool a, .bool b => some (a == b)
 | some .string, .str a, .str b => some (a.toList == b.toList)
 | _, _, _ => none
def aggEq (P : Program) (xs ys : List D) : List Field → Option Bool
 | [] => some true
 | f :: fs => if f.name = "_" then none else match xs[f.offset]?, ys[f.offset]? with
  | some a, some b => match scEq P f.type a b, aggEq P xs ys fs with
   | some r, some q => some (r && q)
   | _, _ => none
  | _, _ => none

def abin (P : Program) (op : BinOp) (t : TypeId) (x y : D) : Option D := match x, y with
 | .int k a, .int k' b => if k = k' then aint op k a b else none
 | .str a, .str b => astr op a b
 | .bool a, .bool b => match P.underlying t with
  | some .bool => (match op with
   | .eql => some (.bool (a == b))
   | .neq => some (.bool !(a == b))
   | _ => none)
  | _ => none
 | .slice o _ l, .slice .nil _ [] => match P.underlying t with
  | some (.slice _) => (match op with
   | .eql => if l = [] then (if o = .nil then some (.bool true) else if o = .nn then some (.bool false) else if o = .nl then some (.bool true) else none) else some (.bool false)
   | .neq => if l = [] then (if o = .nil then some (.bool false) else if o = .nn then some (.bool true) else if o = .nl then some (.bool false) else none) else some (.bool true)
   | _ => none)
  | _ => none
 | .it _, .nfn => match P.underlying t with
  | some (.func _ _ _) => (match op with
   | .eql => some (.bool false)
   | .neq => some (.bool true)
   | _ => none)
  | _ => none
 | .agg l, .agg m => match P.underlying t with
  | some (.struct fs) => if P.stoodInHeld t = false ∧ P.eqGuardType P.depth t = false then (match op, aggEq P l m fs.toList with
   | .eql, some r => some (.bool r)
   | .neq, some r => some (.bool !r)
   | _, _ => none) else none
  | _ => none
 | _, _ => none

/-- an index between bounds -/
def idx (d : D) (lo hi : Nat) : Option Nat := match d with
 | .int _ i => if (lo : Int) ≤ i ∧ i ≤ hi then some i.toNat else none
 | _ => none

def aslice (P : Program) (t : TypeId) (x : D) (lo hi : Option D) : Option D := match x, P.underlying t with
 | .slice _ n l, some (.slice e) =>
  match (match hi with | some d => idx d 0 l.length | none => some l.length) with
  | none => none
  | some h => match (match lo with | some d => idx d 0 h | none => some 0) with
   | none => none
   | some a => if (n = P.cellsOf e ∨ l = []) ∧ (P.info? e).isSome then some (.slice .imm n ((l.drop a).take (h - a))) else none
 | .str s, some .string =>
  match (match hi with | some d => idx d 0 s.size | none => some s.size) with
  | none => none
  | some h => match (match lo with | some d => idx d 0 h | none => some 0) with
   | none => none
   | some a => some (.str (s.extract a h))
 | _, _ => none

/-- a slice of which the last bound is the length -/
def aslice3 (P : Program) (t : TypeId) (x : D) (lo : Option D) (hi mx : D) : Option D := match x, P.underlying t with
 | .slice _ n l, some (.slice e) =>
  match idx mx 0 l.length with
  | none => none
  | some m => match idx hi 0 m with
   | none => none
   | some h => match (match lo with | some d => idx d 0 h | none => some 0) with
    | none => none
    | some a => if (n = P.cellsOf e ∨ l = []) ∧ (P.info? e).isSome ∧ h = m then some (.slice .clip n ((l.drop a).take (h - a))) else none
 | _, _ => none

/-- a map's keys -/
def sameK (td : TypeDesc) (x y : D) : Option Bool := match td, x, y with
 | .int _, .int k a, .int k' b => if k = k' then some (a == b) else none
 | .string, .str a, .str b => some (decide (a = b))
 | _, _, _ => none
def mfind (td : TypeDesc) (k : D) : List D → Option (Option D)
 | [] => some none
 | [_] => none
 | a :: v :: r => match sameK td k a with
  | some true => some (some v)
  | some false => mfind td k r
  | none => none
def mcont (bx : Nat → Option (List D)) : D → Option (List D)
 | .nmap => some []
 | .cmap l => some l
 | .mref i => bx i
 | _ => none
def keyOk (td : TypeDesc) (x : D) : Bool := match td, x with
 | .int k, .int k' _ => decide (k' = k)
 | .string, .str _ => true
 | _, _ => false
def alook (P : Program) (bx : Nat → Option (List D)) (t : TypeId) (x k : D) (cok : Bool) : Option D := match P.underlying t with
 | some (.map kt et) => (match P.underlying kt with
  | some td => if keyOk td k then (match mcont bx x with
   | some l => (match mfind td k l with
    | some (some v) => if v.isAgg = false ∧ v.good = true then some (if cok then .tup [v, .bool true] else v) else none
    | some none => (match ((P.info? et).bind (·.zero)).bind ofValue with
     | some z => some (if cok then .tup [z, .bool false] else z)
     | none => none)
    | none => none)
   | none => none) else none
  | none => none)
 | _ => none

/-- an operation that only reads -/
def aop (P : Program) (vals : Operand → D) (bx : Nat → Option (List D)) (o : Oper) : Option D := match o.op with
 | .move x => some (vals x)
 | .assign x => some (vals x)
 | .pick c a b => (match vals c with
  | .bool q => some (if q then vals a else vals b)
  | _ => none)
 | .load t a => (match tyOf P t with
  | none => none
  | some y => match vals a with
   | .ptr i off => (match bx i with
    | none => none
    | some cs => if off + y.sz ≤ cs.length then mkD y ((cs.drop off).take y.sz) else none)
   | .elem d => if y.agg = d.isAgg ∧ d.cells.length = y.sz then some d else none
   | _ => none)
 | .fieldAddr t x f => (match tyOf P t with
  | none => none
  | some y => match y.flds[f]? with
   | none => none
   | some (off, size, ag) => if size = 0 then none else match vals x with
    | .ptr i o => some (.ptr i (o + off))
    | .elem (.agg l) => if off + size ≤ l.length then (if ag then some (.elem (.agg ((l.drop off).take size))) else match (l.drop off).take size with
      | [d] => some (.elem d)
      | _ => none) else none
    | _ => none)
 | .indexAddr t x i => (match P.underlying t with
  | some (.slice e) => (match vals x with
   | .slice _ n l => (match vals i with
    | .int _ k => if 0 ≤ k ∧ k < l.length ∧ n = P.cellsOf e ∧ (P.info? e).isSome then (l[k.toNat]?).map .elem else none
    | _ => none)
   | .bsl b off n len => (match vals i with
    | .int _ k => if 0 ≤ k ∧ k < len ∧ n = P.cellsOf e ∧ 0 < n ∧ (P.info? e).isSome then some (.bsl b (off + k.toNat * n) 0 0) else none
    | _ => none)
   | _ => none)
  | _ => none)
 | .index t x i => (match P.underlying t with
  | some .string => (match vals x with
   | .str s => (match vals i with
    | .int _ k => if 0 ≤ k then (s[k.toNat]?).map (fun b => .int .u8 b.toNat) else none
    | _ => none)
   | _ => none)
  | _ => none)
 | .binOp op t x y _ => abin P op t (vals x) (vals y)
 | .unOp op _ x => (match op, vals x with
  | .not, .bool b => some (.bool !b)
  | .neg, .int k n => some (.int k (k.wrap (0 - n)))
  | _, _ => none)
 | .convert src dst x => (match P.underlying src, P.underlying dst, vals x with
  | some _, some (.int k), .int _ n => some (.int k (k.wrap n))
  | some _, some .string, .str s => some (.str s)
  | _, _, _ => none)
 | .extract x i => (match vals x with
  | .tup l => l[i]?
  | _ => none)
 | .nilCheck x => (match vals x with
  | .ptr i off => some (.ptr i off)
  | .elem d => some (.elem d)
  | _ => none)
 | .slice t x lo hi mx => (match mx with
  | none => aslice P t (vals x) (lo.map vals) (hi.map vals)
  | some m => (match hi with
   | some h => aslice3 P t (vals x) (lo.map vals) (vals h) (vals m)
   | none => none))
 | .field t x f => (match P.underlying t with
  | some (.struct fs) => (match fs.toList[f]? with
   | some fd => (match tyOf P fd.type with
    | some y => (match vals x with
     | .agg l => if fd.offset + y.sz ≤ l.length then mkD y ((l.drop fd.offset).take y.sz) else none
     | _ => none)
    | none => none)
   | none => none)
  | _ => none)
 | .lookup t x k cok => alook P bx t (vals x) (vals k) cok
 | .build t parts => (match tyOf P t, P.underlying t with
  | some y, some (.struct fs) => if fs.toList.all (fun f => (P.info? f.type).isSome) then (match y.zero with
   | some z => (afill (fun i => (y.flds[i]?).map fun f => (f.1, f.2.1)) z (parts.toList.map fun p => (p.1, vals p.2))).map .agg
   | none => none) else none
  | _, _ => none)
 | .makeFunc fn first captured => (match fn with
  | .func f => if first.isEmpty ∧ (captured.toList.map vals).all (fun d => d.good && !d.isAgg) then some (.fn f (captured.toList.map vals)) else none
  | _ => none)
 | .call c => (match c.callee with
  | .builtin .len => (match c.args.toList, c.argTypes.toList with
   | [x], [t] => (match P.underlying t, vals x with
    | some (.slice _), .slice _ _ l => some (.int .i64 l.length)
    | some (.slice _), .bsl _ _ n len => if 0 < n then some (.int .i64 len) else none
    | some .string, .str s => some (.int .i64 s.size)
    | some (.map _ _), .nmap => some (.int .i64 0)
    | some (.map _ _), .mref i => (bx i).map fun l => .int .i64 ((l.length / 2 : Nat) : Int)
    | _, _ => none)
   | _, _ => none)
  | .builtin .max => (match c.args.toList with
   | [x, y] => (match vals x, vals y with
    | .int k a, .int k' b => if k = k' then some (.int k (if b > a then b else a)) else none
    | _, _ => none)
   | _ => none)
  | .builtin .min => (match c.args.toList with
   | [x, y] => (match vals x, vals y with
    | .int k a, .int k' b => if k = k' then some (.int k (if b < a then b else a)) else none
    | _, _ => none)
   | _ => none)
  | _ => none)
 | _ => none

section
variable {P : Program} {w : World} {g : Gh} {ρ : Operand → Value} {vals : Operand → D} {bx : Nat → Option (List D)}

def Yields (P : Program) (w : World) (g : Gh) (ρ : Operand → Value) (o : Oper) (d : D) : Prop := ∃ v, (execOp ρ o).run P w = .ok (.value v) w ∧ val w g d v
/-- the boxes that are known hold what they hold -/
def BoxIn (w : World) (g : Gh) (b : Nat) : Bool → List D → Prop
 | false, cs => ∃ vs sp t, w.heap[b]? = some (.cells (vs ++ sp).toArray t (0, 0)) ∧ R w g (.agg cs) vs
 | true, cs => ∃ es clock, w.heap[b]? = some (.map es clock) ∧ cs.length = 2 * es.size ∧ es.size ≤ 4611686018427387904 ∧ (∀ (j : Nat) (h : j < cs.length), R w g cs[j] [ent es j]) ∧ MapKept.Stamped es clock
def BoxesAt (w : World) (g : Gh) (bx : Nat → Option (List D)) : Prop := ∀ i cs b, bx i = some cs → g.β i = some b → BoxIn w g b (g.mp i) cs
theorem BoxesAt.cells {i b : Nat} {cs : List D} (h : BoxesAt w g bx) (h1 : bx i = some cs) (h2 : g.β i = some b ∧ g.mp i = false) : ∃ vs sp t, w.heap[b]? = some (.cells (vs ++ sp).toArray t (0, 0)) ∧ R w g (.agg cs) vs := by
 have := h i cs b h1 h2.1
 rw [h2.2] at this
 exact this
theorem BoxIn.ext {g g' : Gh} {w w' : World} (e : Ext g w g' w') {b : Nat} {m : Bool} {cs : List D} (hb : w'.heap[b]? = w.heap[b]?) (h : BoxIn w g b m cs) : BoxIn w' g' b m cs := by
 cases m with
 | false => obtain ⟨vs, sp, t, h1, h2⟩ := h; exact ⟨vs, sp, t, hb.trans h1, h2.ext e⟩
 | true => obtain ⟨es, clock, h1, h2, h2', h3, h4⟩ := h; exact ⟨es, clock, hb.trans h1, h2, h2', fun j hj => (h3 j hj).ext e, h4⟩

theorem tyOf_some {t : TypeId} {y : Ty} (h : tyOf P t = some y) : ∃ i u, P.info? t = some i ∧ P.underlying t = some u ∧ y.sz = i.size ∧ y.agg = descAgg u ∧ y.zero = (i.zero.bind fun z => ofCells z.cells.toList) ∧
  y.flds = (match u with | .struct fs => fs.toList.map fun f => (f.offset, P.cellsOf f.type, (P.underlying f.type).any descAgg) | _ => []) ∧ y.bytes = i.bytes := by
 unfold tyOf at h
 split at h
 ·rename_i i u h1 h2
  cases h
  exact ⟨i, u, h1, h2, rfl, rfl, rfl, rfl, rfl⟩
 ·cases h

theorem addr_plus (b o j : Nat) : (⟨b, o, none⟩ : Addr).add j = ⟨b, o + j, none⟩ := by
 unfold Addr.add; split
 ·rename_i h; subst h; rfl
 ·rfl

theorem run_loadCellsFrom (b off : Nat) : ∀ (n i : Nat) (vs : List Value) (acc : Array Value), vs.length = n → (∀ m u, vs[m]? = some u → w.cell? ⟨b, off + (i + m), none⟩ = some u) → (loadCellsFrom ⟨b, off, none⟩ i n acc).run P w = .ok (acc ++ vs.toArray) w
 | 0, i, vs, acc, h, _ => by
  have : vs = [] := List.eq_nil_of_length_eq_zero h
  subst this
  simp [loadCellsFrom]
 | n + 1, i, v :: vs, acc, h, hc => by
  have h0 := hc 0 v rfl
  rw [Nat.add_zero] at h0
  have := run_loadCellsFrom b off n (i + 1) vs (acc.push v) (by simpa using h) (fun m u hu => by have := hc (m + 1) u (by simpa using hu); rwa [show i + (m + 1) = i + 1 + m from by omega] at this)
  simp only [loadCellsFrom, addr_plus]
  rw [Sem.run_bind]
  have hl : (load (⟨b, off + i, none⟩ : Addr)).run P w = .ok v w := by simp [go_sem, h0]
  rw [hl, Result.andThen_ok, this]
  simp

theorem run_isAgg {t : TypeId} {u : TypeDesc} (h : P.underlying t = some u) : (isAgg t).run P w = .ok (descAgg u) w := by
 unfold isAgg
 rw [Sem.run_bind, run_underlying h, Result.andThen_ok]
 cases u <;> rfl

theorem run_info {t : TypeId} {i : TypeInfo} (h : P.info? t = some i) : (typeInfo t).run P w = .ok i w := by
 unfold typeInfo; simp [go_sem, h]
theorem run_size {t : TypeId} {i : TypeInfo} (h : P.info? t = some i) : (sizeOf t).run P w = .ok i.size w := by
 unfold sizeOf; rw [Sem.run_bind, run_info h]; rfl

/-- a load, where the cells are known -/
theorem run_loadAt {t : TypeId} {y : Ty} (hy : tyOf P t = some y) {b off : Nat} {vs : List Value} (hl : vs.length = y.sz) (hc : ∀ m u, vs[m]? = some u → w.cell? ⟨b, off + m, none⟩ = some u) (h1 : y.agg = false → ∃ v, vs = [v]) :
  (Instr.loadAt t (.pointer (some ⟨b, off, none⟩))).run P w = .ok (if y.agg then .agg vs.toArray else vs.headD Go.undef) w := by
 obtain ⟨i, u, hi, hu, hs, ha, _, _, _⟩ := tyOf_some hy
 show ((Instr.sureAddr (.pointer (some ⟨b, off, none⟩))).bind fun a => loadVar t a).run P w = _
 show (loadVar t ⟨b, off, none⟩).run P w = _
 unfold loadVar
 rw [Sem.run_bind, run_isAgg hu, Result.andThen_ok, ← ha]
 cases hag : y.agg with
 | true =>
  simp only [if_true, Sem.run_bind]
  have e : (sizeOf t).run P w = .ok y.sz w := by rw [hs]; exact run_size hi
  rw [e, Result.andThen_ok]
  have := run_loadCellsFrom (P := P) (w := w) b off y.sz 0 vs #[] hl (fun m u hu => by rw [Nat.zero_add]; exact hc m u hu)
  simp only [loadCells, this, Result.andThen_ok, Sem.run_pure]
  simp
 | false =>
  obtain ⟨v, rfl⟩ := h1 hag
  have h0 := hc 0 v rfl
  rw [Nat.add_zero] at h0
  simp [go_sem, h0]

theorem aop_load {o : Oper} {t : TypeId} {a : Operand} {d : D} (ho : o.op = .load t a) (hb : BoxesAt w g bx) (hv : val w g (vals a) (ρ a)) (h : aop P vals bx o = some d) : Yields P w g ρ o d := by
 simp only [aop, ho] at h
 split at h
 ·cases h
 ·rename_i y hy
  have hx : (execOp ρ o) = (do let v ← Instr.loadAt t (ρ a); pure (.value v)) := by simp only [execOp, ho]
  split at h
  ·rename_i i off hva
   rw [hva] at hv
   obtain ⟨b, hβ, hp⟩ := val_ptr hv
   split at h
   ·cases h
   ·rename_i cs hcs
    obtain ⟨vs, sp, ty, hh, hr⟩ := hb.cells hcs hβ
    split at h
    ·rename_i hle
     have hlen := R_agg_len hr
     have hsub := R_agg_sub hr off y.sz
     have hl : ((vs.drop off).take y.sz).length = y.sz := by simp; omega
     have hcell : ∀ m u, ((vs.drop off).take y.sz)[m]? = some u → w.cell? ⟨b, off + m, none⟩ = some u := by
      intro m u hu
      rw [List.getElem?_take] at hu
      split at hu
      ·rw [List.getElem?_drop] at hu
       rw [cell_of_row w b (off + m) _ _ _ hh, List.getElem?_toArray, List.getElem?_append_left (List.getElem?_eq_some_iff.1 hu).1]
       exact hu
      ·cases hu
     unfold mkD at h
     split at h
     ·rename_i hag
      cases h
      have := run_loadAt (P := P) hy hl hcell (fun e => by rw [e] at hag; cases hag)
      refine ⟨_, by rw [hx, hp, Sem.run_bind, this, Result.andThen_ok]; rfl, ?_⟩
      rw [if_pos hag]
      exact val_of_agg hsub
     ·rename_i hag
      split at h
      ·rename_i d0 hd0
       split at h
       ·cases h
       ·rename_i hna
        cases h
        rw [hd0] at hsub
        obtain ⟨v, hv1⟩ : ∃ v, (vs.drop off).take y.sz = [v] := by
         have := R_agg_len hsub
         match hq : (vs.drop off).take y.sz, this with
         | [v], _ => exact ⟨v, rfl⟩
        have := run_loadAt (P := P) hy hl hcell (fun _ => ⟨v, hv1⟩)
        refine ⟨_, by rw [hx, hp, Sem.run_bind, this, Result.andThen_ok]; rfl, ?_⟩
        rw [if_neg hag, hv1]
        rw [hv1] at hsub
        obtain ⟨_, r⟩ := R_agg_at hsub 0 (by simp)
        exact val_of_R r (by simpa using hna)
      ·cases h
    ·cases h
  ·rename_i d0 hva
   rw [hva] at hv
   obtain ⟨b, off, cs, hp, hr, hc⟩ := val_elem hv
   split at h
   ·rename_i hcond
    cases h
    have hl : cs.length = y.sz := by rw [hr.len]; exact hcond.2
    have := run_loadAt (P := P) (w := w) hy hl (fun m u hu => (hc m u hu).2) (fun e => by
     obtain ⟨v, hv1, _⟩ := hr.single (by rw [← hcond.1]; exact e)
     exact ⟨v, hv1⟩)
    refine ⟨_, by rw [hx, hp, Sem.run_bind, this, Result.andThen_ok]; rfl, ?_⟩
    refine val.of1 ⟨cs, hr, ?_⟩
    have hh := hcond.1
    clear hv hr hcond hva
    cases hag : y.agg with
    | true => rw [if_pos rfl]; rw [hag] at hh; cases d <;> first | rfl | simp [D.isAgg] at hh
    | false => rw [if_neg (by simp)]; rw [hag] at hh; cases d <;> first | rfl | simp [D.isAgg] at hh
   ·cases h
  ·cases h
end

end Go.Proofs.Ytmglacjcefajlaa

/- Operations that leave memory alone: addresses, numbers, strings. -/
namespace Go.Proofs.Ytmglacjcefajlaa
open Go.RowKit

section
variable {P : Program} {w : World} {g : Gh} {ρ : Operand → Value} {vals : Operand → D} {bx : Nat → Option (List D)} {o : Oper} {d : D}

theorem andThen_v {s : Sem Value} {v : Value} (h : s.run P w = .ok v w) : (do let x ← s; pure (Next.value x) : Sem Next).run P w = .ok (.value v) w := by
 show (s.bind _).run P w = _
 have := Sem.run_bind (P := P) (w := w) s (fun x => pure (Next.value x))
 rw [show (s.bind fun x => pure (Next.value x)) = (s >>= fun x => pure (Next.value x)) from rfl, this, h]
 rfl

theorem cellsOf_info {t : TypeId} (h : P.cellsOf t ≠ 0) : ∃ i, P.info? t = some i ∧ i.size = P.cellsOf t := by
 unfold Program.cellsOf at h ⊢
 cases hi : P.info? t with
 | none => rw [hi] at h; simp at h
 | some i => exact ⟨i, rfl, rfl⟩

theorem aop_field {t : TypeId} {x : Operand} {f : Nat} (ho : o.op = .fieldAddr t x f) (hv : val w g (vals x) (ρ x)) (h : aop P vals bx o = some d) : Yields P w g ρ o d := by
 simp only [aop, ho] at h
 split at h
 ·cases h
 rename_i y hy
 obtain ⟨i, u, hi, hu, _, _, _, hf, _⟩ := tyOf_some hy
 split at h
 ·cases h
 rename_i off size ag hfl
 split at h
 ·cases h
 rename_i hsz
 rw [hf] at hfl
 cases u with
 | struct fs =>
  simp only [List.getElem?_map, Option.map_eq_some_iff] at hfl
  obtain ⟨fld, hfld, he⟩ := hfl
  simp only [Prod.mk.injEq] at he
  obtain ⟨rfl, rfl, rfl⟩ := he
  obtain ⟨fi, hfi, hfs⟩ := cellsOf_info hsz
  have key : ∀ b o', ρ x = .pointer (some ⟨b, o', none⟩) → (execOp ρ o).run P w = .ok (.value (.pointer (some ⟨b, o' + fld.offset, none⟩))) w := by
   intro b o' hp
   simp only [execOp, ho, hp]
   refine andThen_v ?_
   unfold Instr.fieldAt
   rw [Sem.run_bind, run_underlying hu, Result.andThen_ok]
   have hfa : fs[f]? = some fld := by simpa using hfld
   simp only [hfa, Instr.sureAddr, pure_bind]
   unfold fieldPlace
   rw [Sem.run_bind, Sem.run_bind, run_size hfi, Result.andThen_ok, if_neg (by omega), addr_plus]
   rfl
  split at h
  ·rename_i j o' hx
   cases h
   rw [hx] at hv
   obtain ⟨b, hβ, hp⟩ := val_ptr hv
   exact ⟨_, key _ _ hp, val_of_R (.ptr _ _ b hβ.1 hβ.2) rfl⟩
  ·rename_i l hx
   rw [hx] at hv
   obtain ⟨b, o', cs, hp, hr, hc⟩ := val_elem hv
   have hlen := R_agg_len hr
   have hsub := R_agg_sub hr fld.offset (P.cellsOf fld.type)
   have hcell : ∀ m u, ((cs.drop fld.offset).take (P.cellsOf fld.type))[m]? = some u → g.ok b (o' + fld.offset + m) ∧ w.cell? ⟨b, o' + fld.offset + m, none⟩ = some u := by
    intro m u hu
    rw [List.getElem?_take] at hu
    split at hu
    ·rw [List.getElem?_drop] at hu
     rw [Nat.add_assoc]
     exact hc _ _ hu
    ·cases hu
   split at h
   ·split at h
    ·cases h
     exact ⟨_, key _ _ hp, val_of_R (.elem _ b _ _ hsub hcell) rfl⟩
    ·split at h
     ·rename_i d0 hd0
      cases h
      rw [hd0] at hsub
      have hl1 := R_agg_len hsub
      obtain ⟨v, hv1⟩ : ∃ v, (cs.drop fld.offset).take (P.cellsOf fld.type) = [v] := by
       match hq : (cs.drop fld.offset).take (P.cellsOf fld.type), hl1 with
       | [v], _ => exact ⟨v, rfl⟩
      rw [hv1] at hsub hcell
      obtain ⟨_, r⟩ := R_agg_at hsub 0 (by simp)
      exact ⟨_, key _ _ hp, val_of_R (.elem _ b _ _ r hcell) rfl⟩
     ·cases h
   ·cases h
  ·cases h
 | _ => simp at hfl

theorem val_slice {q : Own} {n : Nat} {l : List D} {v : Value} (h : val w g (.slice q n l) v) : ∃ (A : Option Addr) (cap : Nat) (cs : Nat → List Value), v = .slice A l.length cap ∧ l.length ≤ cap ∧ cap ≤ 9223372036854775807 ∧ (∀ s e, q = .own s e → g.ow s = some (.slice A l.length cap, e)) ∧ OwnOk q A l.length cap ∧ True ∧
  (∀ (j : Nat) (h : j < l.length), R w g l[j] (cs j)) ∧ (∀ j, j < l.length → (cs j).length = n) ∧
  (∀ j, j < l.length → ∃ b off, A = some ⟨b, off, none⟩ ∧ ∀ m u, (cs j)[m]? = some u → g.ok b (off + j * n + m) ∧ w.cell? ⟨b, off + j * n + m, none⟩ = some u) := by
 obtain ⟨cs, h1, rfl⟩ := h
 cases h1 with
 | slice _ _ _ A cap cs hl hm ho hnil hA h hn hc => exact ⟨A, cap, cs, rfl, hl, hm, ho, hnil, hA, h, hn, hc⟩

theorem val_bsl {i off n len : Nat} {v : Value} (h : val w g (.bsl i off n len) v) (h0 : 0 < n) : ∃ b cap, (g.β i = some b ∧ g.mp i = false) ∧ v = .slice (some ⟨b, off, none⟩) len cap ∧ len ≤ cap ∧ cap ≤ 9223372036854775807 := by
 obtain ⟨cs, h1, rfl⟩ := h
 cases h1 with
 | bsl _ _ _ _ b cap h hm hc hm' hn => exact ⟨b, cap, ⟨h, hm⟩, rfl, hc, hm'⟩
 | bpt => omega
theorem val_bpt {i off len : Nat} {v : Value} (h : val w g (.bsl i off 0 len) v) : ∃ b, (g.β i = some b ∧ g.mp i = false) ∧ v = .pointer (some ⟨b, off, none⟩) := by
 obtain ⟨cs, h1, rfl⟩ := h
 cases h1 with
 | bsl _ _ _ _ b cap h hm hc hm' hn => omega
 | bpt _ _ _ b h hm => exact ⟨b, ⟨h, hm⟩, rfl⟩
theorem aop_index {t : TypeId} {x i : Operand} (ho : o.op = .indexAddr t x i) (hx : val w g (vals x) (ρ x)) (hi : val w g (vals i) (ρ i)) (h : aop P vals bx o = some d) : Yields P w g ρ o d := by
 simp only [aop, ho] at h
 split at h
 ·rename_i e hu
  split at h
  ·rename_i q n l hx'
   split at h
   ·rename_i k z hi'
    split at h
    ·rename_i hc
     obtain ⟨h0, h1, h2, h3⟩ := hc
     rw [hx'] at hx
     rw [hi'] at hi
     obtain ⟨A, cap, cs, hv, hl, hm, _, _, _, hr, hn, hcell⟩ := val_slice hx
     obtain ⟨hiv, _⟩ := val_int hi
     have hlt : z.toNat < l.length := by omega
     rw [List.getElem?_eq_getElem hlt] at h
     cases h
     obtain ⟨b, off, rfl, hcl⟩ := hcell _ hlt
     obtain ⟨fi, hfi⟩ := Option.isSome_iff_exists.1 h3
     have hsz : fi.size = n := by rw [h2]; unfold Program.cellsOf; rw [hfi]; rfl
     refine ⟨.pointer (some ⟨b, off + z.toNat * n, none⟩), ?_, val_of_R (.elem _ _ _ _ (hr _ hlt) hcl) rfl⟩
     simp only [execOp, ho, hv, hiv]
     refine andThen_v ?_
     unfold Instr.indexAt
     simp only [asIntOf, pure_bind]
     rw [Sem.run_bind, run_underlying hu, Result.andThen_ok]
     dsimp only
     rw [Sem.run_bind, run_underlying hu, Result.andThen_ok, if_pos ⟨h0, h1⟩, Sem.run_bind, run_size hfi, Result.andThen_ok, addr_plus, hsz]
     rfl
    ·cases h
   ·cases h
  ·rename_i bi off n len hx'
   split at h
   ·rename_i k z hi'
    split at h
    ·rename_i hc
     obtain ⟨h0, h1, h2, h3, h4⟩ := hc
     rw [hx'] at hx
     rw [hi'] at hi
     obtain ⟨b, cap, hβ, hv, hl, hm⟩ := val_bsl hx h3
     obtain ⟨hiv, _⟩ := val_int hi
     cases h
     obtain ⟨fi, hfi⟩ := Option.isSome_iff_exists.1 h4
     have hsz : fi.size = n := by rw [h2]; unfold Program.cellsOf; rw [hfi]; rfl
     refine ⟨.pointer (some ⟨b, off + z.toNat * n, none⟩), ?_, val_of_R (.bpt _ _ _ _ hβ.1 hβ.2) rfl⟩
     simp only [execOp, ho, hv, hiv]
     refine andThen_v ?_
     unfold Instr.indexAt
     simp only [asIntOf, pure_bind]
     rw [Sem.run_bind, run_underlying hu, Result.andThen_ok]
     dsimp only
     rw [Sem.run_bind, run_underlying hu, Result.andThen_ok, if_pos ⟨h0, h1⟩, Sem.run_bind, run_size hfi, Result.andThen_ok, addr_plus, hsz]
     rfl
    ·cases h
   ·cases h
  ·cases h
 ·cases h

theorem aop_strindex {t : TypeId} {x i : Operand} (ho : o.op = .index t x i) (hx : val w g (vals x) (ρ x)) (hi : val w g (vals i) (ρ i)) (h : aop P vals bx o = some d) : Yields P w g ρ o d := by
 simp only [aop, ho] at h
 split at h
 ·rename_i hu
  split at h
  ·rename_i s hx'
   split at h
   ·rename_i k z hi'
    split at h
    ·rename_i h0
     rw [hx'] at hx
     rw [hi'] at hi
     obtain ⟨hv, _⟩ := val_str hx
     obtain ⟨hiv, _⟩ := val_int hi
     cases hb : s[z.toNat]? with
     | none => rw [hb] at h; cases h
     | some b =>
      rw [hb] at h
      cases h
      refine ⟨.int .u8 b.toNat, ?_, val_of_R (.int _ _ ?_) rfl⟩
      ·simp only [execOp, ho, hv, hiv]
       refine andThen_v ?_
       unfold Instr.index
       simp only [asIntOf, pure_bind]
       rw [Sem.run_bind, run_underlying hu, Result.andThen_ok]
       simp only [h0, if_true, hb]
       rfl
      ·have := b.toNat_lt
       unfold inr
       simp only [IntKind.min, IntKind.max, IntKind.bits, IntKind.signed]
       simp
       omega
    ·cases h
   ·cases h
  ·cases h
 ·cases h

theorem aint_sound {op : BinOp} {k : IntKind} {a b : Int} (ha : inr k a) (_hb : inr k b) {t : TypeId} (h : aint op k a b = some d) : ∃ v, (Go.binOp op t (.int k a) (.int k b)).run P w = .ok v w ∧ val w g d v := by
 cases op <;> simp only [aint] at h <;> (try split at h) <;> (try cases h) <;>
  first
   | exact ⟨_, by simp only [Go.binOp, Op.intArith, ne_eq, not_true_eq_false, if_false]; rfl, val_of_R (.int _ _ (wrap_inr _ _)) rfl⟩
   | exact ⟨_, by simp only [Go.binOp, Op.intCmp, ne_eq, not_true_eq_false, if_false]; rfl, val_of_R (.bool _) rfl⟩
   | exact ⟨_, by simp only [Go.binOp, Op.intDiv, ne_eq, not_true_eq_false, if_false]; rw [if_neg ‹_›]; rfl, val_of_R (.int _ _ (wrap_inr _ _)) rfl⟩
   | exact ⟨_, by simp only [Go.binOp, Op.intDiv, ne_eq, not_true_eq_false, if_false]; rw [if_neg ‹_›]; rfl, val_of_R (.int _ _ (tmod_inr ha)) rfl⟩
   | exact ⟨_, by simp only [Go.binOp, Op.intBits, ne_eq, not_true_eq_false, if_false]; rfl, val_of_R (.int _ _ (wrap_inr _ _)) rfl⟩

theorem astr_sound {op : BinOp} {a b : ByteArray} {t : TypeId} (h : astr op a b = some d) : ∃ v, (Go.binOp op t (.string a) (.string b)).run P w = .ok v w ∧ val w g d v := by
 cases op <;> simp only [astr] at h <;> (try split at h) <;> (try cases h) <;>
  first
   | exact ⟨_, by simp only [Go.binOp, Op.stringOp]; rfl, val_of_R (.bool _) rfl⟩
   | skip
 rename_i hs
 refine ⟨.string (a ++ b), ?_, val_of_R (.str _ (by rw [ByteArray.size_append]; exact hs)) rfl⟩
 simp only [Go.binOp, Op.stringOp]
 rw [if_neg (by simp only [IntKind.max, IntKind.bits, IntKind.signed]; simp; omega)]
 rfl

theorem scEq_sound {t : TypeId} {x y : D} {u v : Value} {r : Bool} (n : Nat) (hx : R w g x [u]) (hy : R w g y [v]) (h : scEq P t x y = some r) : (isAgg t).run P w = .ok false w ∧ (Op.equalIn (n + 1) t u v).run P w = .ok r w := by
 unfold scEq at h
 split at h
 ·rename_i k0 k a k' b hu
  split at h
  ·rename_i hk
   subst hk
   cases h
   cases (R_int hx).1
   cases (R_int hy).1
   exact ⟨by rw [run_isAgg hu]; rfl, run_equalIn_int w n t k k0 a b hu⟩
  ·cases h
 ·rename_i a b hu
  cases h
  cases R_bool hx
  cases R_bool hy
  exact ⟨by rw [run_isAgg hu]; rfl, run_equalIn_bool' w n t a b hu⟩
 ·rename_i a b hu
  cases h
  cases (R_str hx).1
  cases (R_str hy).1
  exact ⟨by rw [run_isAgg hu]; rfl, run_equalIn_string w n t a b hu⟩
 ·cases h
theorem aggEq_sound {xs ys : List D} {us vs : List Value} (n : Nat) (hx : R w g (.agg xs) us) (hy : R w g (.agg ys) vs) : ∀ {fs : List Field} {r : Bool}, aggEq P xs ys fs = some r → (Op.eqFields (n + 1) us.toArray vs.toArray fs).run P w = .ok r w
 | [], r, h => by cases h; rfl
 | f :: fs, r, h => by
  unfold aggEq at h
  split at h
  ·cases h
  rename_i hn
  split at h
  ·rename_i a b ha hb
   split at h
   ·rename_i r1 q h1 h2
    cases h
    have ih := aggEq_sound n hx hy h2
    obtain ⟨la, ea⟩ := List.getElem?_eq_some_iff.1 ha
    obtain ⟨lb, eb⟩ := List.getElem?_eq_some_iff.1 hb
    obtain ⟨la', ra⟩ := R_agg_at hx _ la
    obtain ⟨lb', rb⟩ := R_agg_at hy _ lb
    rw [ea] at ra
    rw [eb] at rb
    obtain ⟨q1, q2⟩ := scEq_sound (P := P) n ra rb h1
    have p1 : (part f.type us.toArray f.offset).run P w = .ok us[f.offset] w := by
     unfold part; rw [Sem.run_bind, q1, Result.andThen_ok]; simp [la']
    have p2 : (part f.type vs.toArray f.offset).run P w = .ok vs[f.offset] w := by
     unfold part; rw [Sem.run_bind, q1, Result.andThen_ok]; simp [lb']
    unfold Op.eqFields
    rw [if_pos hn, Sem.run_bind, p1, Result.andThen_ok, Sem.run_bind, p2, Result.andThen_ok, Sem.run_bind, q2, Result.andThen_ok]
    cases r1
    ·rfl
    ·simpa using ih
   ·cases h
  ·cases h

theorem aop_bin {op : BinOp} {t t' : TypeId} {x y : Operand} (ho : o.op = .binOp op t x y t') (hx : val w g (vals x) (ρ x)) (hy : val w g (vals y) (ρ y)) (h : aop P vals bx o = some d) : Yields P w g ρ o d := by
 simp only [aop, ho] at h
 have fin : ∀ v, (eqGuard op t x y (ρ x) (ρ y)).run P w = .ok () w → (Go.binOp op t (ρ x) (ρ y)).run P w = .ok v w → (execOp ρ o).run P w = .ok (.value v) w := by
  intro v h1 h2
  simp only [execOp, ho]
  refine andThen_v ?_
  rw [Sem.run_bind, h1, Result.andThen_ok, h2]
 unfold abin at h
 split at h
 ·rename_i k a k' b e1 e2
  split at h
  ·rename_i hk
   subst hk
   rw [e1] at hx
   rw [e2] at hy
   obtain ⟨v1, i1⟩ := val_int hx
   obtain ⟨v2, i2⟩ := val_int hy
   obtain ⟨v, hr, hv⟩ := aint_sound (P := P) (w := w) (g := g) i1 i2 (t := t) h
   refine ⟨v, fin v ?_ (by rw [v1, v2]; exact hr), hv⟩
   rw [v1, v2]; unfold eqGuard; split <;> rfl
  ·cases h
 ·rename_i a b e1 e2
  rw [e1] at hx
  rw [e2] at hy
  obtain ⟨v1, _⟩ := val_str hx
  obtain ⟨v2, _⟩ := val_str hy
  obtain ⟨v, hr, hv⟩ := astr_sound (P := P) (w := w) (g := g) (t := t) h
  refine ⟨v, fin v ?_ (by rw [v1, v2]; exact hr), hv⟩
  rw [v1, v2]; unfold eqGuard; split <;> rfl
 ·rename_i a b e1 e2
  rw [e1] at hx
  rw [e2] at hy
  have v1 := val_bool hx
  have v2 := val_bool hy
  split at h
  ·rename_i hu
   have heq : (Op.equal t (.bool a) (.bool b)).run P w = .ok (a == b) w := by
    unfold Op.equal Op.maxDepth Op.equalIn
    rw [Sem.run_bind, run_underlying hu, Result.andThen_ok]; rfl
   split at h
   ·cases h
    refine ⟨.bool (a == b), fin _ ?_ ?_, val_of_R (.bool _) rfl⟩
    ·rw [v1, v2]; unfold eqGuard; rfl
    ·rw [v1, v2]; simp only [Go.binOp]; rw [Sem.run_bind, heq]; rfl
   ·cases h
    refine ⟨.bool (!(a == b)), fin _ ?_ ?_, val_of_R (.bool _) rfl⟩
    ·rw [v1, v2]; unfold eqGuard; rfl
    ·rw [v1, v2]; simp only [Go.binOp]; rw [Sem.run_bind, heq]; rfl
   ·cases h
  ·cases h
 ·rename_i q n l n' e1 e2
  rw [e1] at hx
  rw [e2] at hy
  obtain ⟨A, cap, cs, v1, hl, hm, _, hnil, hA, _, _, hc⟩ := val_slice hx
  obtain ⟨A', cap', cs', v2, _, _, _, hnil', _, _, _, _⟩ := val_slice hy
  obtain ⟨rfl, rfl⟩ := hnil'
  split at h
  ·rename_i e hu
   have heq : (Op.equal t (.slice A l.length cap) (.slice none ([] : List D).length 0)).run P w = .ok A.isNone w := by
    unfold Op.equal Op.maxDepth Op.equalIn
    rw [Sem.run_bind, run_underlying hu, Result.andThen_ok]
    cases A <;> rfl
   have hAn : (l = [] → q = .nil) → A.isNone = decide (l = []) := by
    intro hq
    cases l with
    | nil =>
     have hq' := hq rfl
     subst hq'
     obtain ⟨rfl, _⟩ := hnil; rfl
    | cons a r => obtain ⟨b, off, rfl, _⟩ := hc 0 (by simp); rfl
   have hAs : q = .nn → A.isNone = false := by
    intro hq
    subst hq
    have hnil' : A.isSome = true := hnil
    cases A <;> first | rfl | cases hnil'
   have hAl : q = .nl → A.isNone = true := by
    intro hq
    subst hq
    have hnil' : A = none := hnil
    rw [hnil']; rfl
   have fz : ∀ (b : Bool), (eqGuard op t x y (ρ x) (ρ y)).run P w = .ok () w := by
    intro _; rw [v1, v2]; unfold eqGuard; split <;> rfl
   split at h
   ·split at h
    ·rename_i hl0
     split at h
     ·rename_i hq
      cases h
      refine ⟨.bool true, fin _ (fz true) ?_, val_of_R (.bool _) rfl⟩
      rw [v1, v2]; simp only [Go.binOp]; rw [Sem.run_bind, heq, hAn (fun _ => hq)]; simp [hl0]
     ·split at h
      ·rename_i hq
       cases h
       refine ⟨.bool false, fin _ (fz true) ?_, val_of_R (.bool _) rfl⟩
       rw [v1, v2]; simp only [Go.binOp]; rw [Sem.run_bind, heq, hAs hq]; rfl
      ·split at h
       ·rename_i hq
        cases h
        refine ⟨.bool true, fin _ (fz true) ?_, val_of_R (.bool _) rfl⟩
        rw [v1, v2]; simp only [Go.binOp]; rw [Sem.run_bind, heq, hAl hq]; rfl
       ·cases h
    ·rename_i hl0
     cases h
     refine ⟨.bool false, fin _ (fz true) ?_, val_of_R (.bool _) rfl⟩
     rw [v1, v2]; simp only [Go.binOp]; rw [Sem.run_bind, heq, hAn (fun e => absurd e hl0)]; simp [hl0]
   ·split at h
    ·rename_i hl0
     split at h
     ·rename_i hq
      cases h
      refine ⟨.bool false, fin _ (fz true) ?_, val_of_R (.bool _) rfl⟩
      rw [v1, v2]; simp only [Go.binOp]; rw [Sem.run_bind, heq, hAn (fun _ => hq)]; simp [hl0]
     ·split at h
      ·rename_i hq
       cases h
       refine ⟨.bool true, fin _ (fz true) ?_, val_of_R (.bool _) rfl⟩
       rw [v1, v2]; simp only [Go.binOp]; rw [Sem.run_bind, heq, hAs hq]; rfl
      ·split at h
       ·rename_i hq
        cases h
        refine ⟨.bool false, fin _ (fz true) ?_, val_of_R (.bool _) rfl⟩
        rw [v1, v2]; simp only [Go.binOp]; rw [Sem.run_bind, heq, hAl hq]; rfl
       ·cases h
    ·rename_i hl0
     cases h
     refine ⟨.bool true, fin _ (fz true) ?_, val_of_R (.bool _) rfl⟩
     rw [v1, v2]; simp only [Go.binOp]; rw [Sem.run_bind, heq, hAn (fun e => absurd e hl0)]; simp [hl0]
   ·cases h
  ·cases h
 ·rename_i L e1 e2
  rw [e1] at hx
  rw [e2] at hy
  obtain ⟨gf, lb, v1⟩ : ∃ gf lb, ρ x = .func (.func gf) #[] lb := by
   obtain ⟨cs, h1, h2⟩ := hx
   cases h1; exact ⟨_, _, h2⟩
  have v2 : ρ y = .nilFunc := by
   obtain ⟨cs, h1, h2⟩ := hy
   cases h1; exact h2
  split at h
  ·rename_i hu
   have heq : (Op.equal t (.func (.func gf) #[] lb) .nilFunc).run P w = .ok false w := by
    unfold Op.equal Op.maxDepth Op.equalIn
    rw [Sem.run_bind, run_underlying hu, Result.andThen_ok]; rfl
   have fz : (eqGuard op t x y (ρ x) (ρ y)).run P w = .ok () w := by
    rw [v1, v2]; unfold eqGuard; split <;> rfl
   split at h
   ·cases h
    exact ⟨.bool false, fin _ fz (by rw [v1, v2]; simp only [Go.binOp]; rw [Sem.run_bind, heq]; rfl), val_of_R (.bool _) rfl⟩
   ·cases h
    exact ⟨.bool true, fin _ fz (by rw [v1, v2]; simp only [Go.binOp]; rw [Sem.run_bind, heq]; rfl), val_of_R (.bool _) rfl⟩
   ·cases h
  ·cases h
 ·rename_i l m e1 e2
  rw [e1] at hx
  rw [e2] at hy
  obtain ⟨us, v1, r1⟩ := val_agg hx
  obtain ⟨vs, v2, r2⟩ := val_agg hy
  split at h
  ·rename_i fs hu
   split at h
   ·rename_i hc
    have hf : P.fieldsOf t = fs := by simp [Program.fieldsOf, hu]
    split at h
    ·rename_i r hr
     cases h
     have he := aggEq_sound (P := P) 9998 r1 r2 hr
     refine ⟨.bool r, fin _ ?_ ?_, val_of_R (.bool _) rfl⟩
     ·rw [v1, v2]; exact run_eqGuard_agg w _ t x y _ _ hc.2
     ·rw [v1, v2, run_eql_struct, run_equalIn_agg w 9999 t _ _ (by rw [hf]; exact hu) hc.1, hf, he]; rfl
    ·rename_i r hr
     cases h
     have he := aggEq_sound (P := P) 9998 r1 r2 hr
     refine ⟨.bool !r, fin _ ?_ ?_, val_of_R (.bool _) rfl⟩
     ·rw [v1, v2]; exact run_eqGuard_agg w _ t x y _ _ hc.2
     ·rw [v1, v2, run_neq_struct, run_equalIn_agg w 9999 t _ _ (by rw [hf]; exact hu) hc.1, hf, he]; rfl
    ·cases h
   ·cases h
  ·cases h
 ·cases h
end

end Go.Proofs.Ytmglacjcefajlaa

/- Operations that leave memory alone: the rest, and all of them together. -/
namespace Go.Proofs.Ytmglacjcefajlaa
open Go.RowKit

section
variable {P : Program} {w : World} {g : Gh} {ρ : Operand → Value} {vals : Operand → D} {bx : Nat → Option (List D)} {o : Oper} {d : D}

theorem aop_un {op : UnOp} {t : TypeId} {x : Operand} (ho : o.op = .unOp op t x) (hx : val w g (vals x) (ρ x)) (h : aop P vals bx o = some d) : Yields P w g ρ o d := by
 simp only [aop, ho] at h
 split at h
 ·rename_i b hb
  cases h
  rw [hb] at hx
  refine ⟨.bool !b, ?_, val_of_R (.bool _) rfl⟩
  simp only [execOp, ho, val_bool hx]; rfl
 ·rename_i k n hb
  cases h
  rw [hb] at hx
  refine ⟨.int k (k.wrap (0 - n)), ?_, val_of_R (.int _ _ (wrap_inr _ _)) rfl⟩
  simp only [execOp, ho, (val_int hx).1]; rfl
 ·cases h

theorem aop_convert {s t : TypeId} {x : Operand} (ho : o.op = .convert s t x) (hx : val w g (vals x) (ρ x)) (h : aop P vals bx o = some d) : Yields P w g ρ o d := by
 simp only [aop, ho] at h
 split at h
 ·rename_i u k k' n hu ht hb
  cases h
  rw [hb] at hx
  refine ⟨.int k (k.wrap n), ?_, val_of_R (.int _ _ (wrap_inr _ _)) rfl⟩
  simp only [execOp, ho, (val_int hx).1]
  refine andThen_v ?_
  unfold convert
  rw [Sem.run_bind, run_underlying hu, Result.andThen_ok, Sem.run_bind, run_underlying ht, Result.andThen_ok]
  rfl
 ·rename_i u s0 hu ht hb
  cases h
  rw [hb] at hx
  refine ⟨.string s0, ?_, val_of_R (.str _ (val_str hx).2) rfl⟩
  simp only [execOp, ho, (val_str hx).1]
  refine andThen_v ?_
  unfold convert
  rw [Sem.run_bind, run_underlying hu, Result.andThen_ok, Sem.run_bind, run_underlying ht, Result.andThen_ok]
  rfl
 ·cases h

theorem aop_extract {x : Operand} {i : Nat} (ho : o.op = .extract x i) (hx : val w g (vals x) (ρ x)) (h : aop P vals bx o = some d) : Yields P w g ρ o d := by
 simp only [aop, ho] at h
 split at h
 ·rename_i l hl
  rw [hl] at hx
  obtain ⟨vs, hv, hlen, hj⟩ := hx
  obtain ⟨hi, e⟩ := List.getElem?_eq_some_iff.1 h
  have hi' : i < vs.length := by omega
  refine ⟨vs[i], ?_, by have := hj i hi hi'; rw [e] at this; exact val.of1 this⟩
  simp only [execOp, ho, hv]
  refine andThen_v ?_
  simp [Instr.extract, hi']
 ·cases h

theorem aop_nilCheck {x : Operand} (ho : o.op = .nilCheck x) (hx : val w g (vals x) (ρ x)) (h : aop P vals bx o = some d) : Yields P w g ρ o d := by
 simp only [aop, ho] at h
 split at h
 ·rename_i i off hb
  cases h
  rw [hb] at hx
  obtain ⟨b, _, hp⟩ := val_ptr hx
  refine ⟨_, ?_, hx⟩
  simp only [execOp, ho, hp]; rfl
 ·rename_i e hb
  cases h
  rw [hb] at hx
  obtain ⟨b, off, cs, hp, _, _⟩ := val_elem hx
  refine ⟨_, ?_, hx⟩
  simp only [execOp, ho, hp]; rfl
 ·cases h

theorem idx_run {d : D} {hi n : Nat} {v : Value} {code : BoundsCode} {y : Nat} (h : idx d 0 hi = some n) (hv : val w g d v) (hy : hi ≤ y) : (Instr.sliceBound v y code).run P w = .ok n w ∧ n ≤ hi := by
 unfold idx at h
 split at h
 ·rename_i k i
  split at h
  ·rename_i hc
   cases h
   rw [(val_int hv).1]
   refine ⟨?_, by omega⟩
   unfold Instr.sliceBound
   simp only [asIntOf, pure_bind]
   rw [if_pos ⟨by omega, by omega⟩]; rfl
  ·cases h
 ·cases h

theorem aop_slice0 {t : TypeId} {x : Operand} {lo hi : Option Operand} (ho : o.op = .slice t x lo hi none) (hx : val w g (vals x) (ρ x)) (hlo : ∀ y, lo = some y → val w g (vals y) (ρ y)) (hhi : ∀ y, hi = some y → val w g (vals y) (ρ y))
  (h : aop P vals bx o = some d) : Yields P w g ρ o d := by
 simp only [aop, ho] at h
 unfold aslice at h
 have bounds : ∀ (sl : Bool) (len cap hh a : Nat), len ≤ cap → (match Option.map vals hi with | some d => idx d 0 len | none => some len) = some hh → (match Option.map vals lo with | some d => idx d 0 hh | none => some 0) = some a →
   (Instr.sliceBounds sl len cap (lo.map ρ) (hi.map ρ) none).run P w = .ok (a, hh, cap) w ∧ a ≤ hh ∧ hh ≤ len := by
  intro sl len cap hh a hlc e1 e2
  have s1 : hh ≤ len := by
   cases hi with
   | none => simp at e1; omega
   | some y =>
    simp only [zmo] at e1
    exact (idx_run (P := P) (code := .sliceB) e1 (hhi y rfl) hlc).2
  have s2 : a ≤ hh := by
   cases lo with
   | none => simp at e2; omega
   | some y =>
    simp only [zmo] at e2
    exact (idx_run (P := P) (code := .sliceB) e2 (hlo y rfl) (Nat.le_refl _)).2
  refine ⟨?_, s2, s1⟩
  unfold Instr.sliceBounds
  simp only [pure_bind]
  cases hi with
  | none =>
   simp at e1
   subst e1
   cases lo with
   | none => simp at e2; subst e2; rfl
   | some y =>
    simp only [zmo] at e2
    simp only [zmo, Option.map_none]
    rw [Sem.run_bind, (idx_run (P := P) (code := _) e2 (hlo y rfl) (Nat.le_refl _)).1, Result.andThen_ok]
    rfl
  | some z =>
   simp only [zmo] at e1
   simp only [zmo]
   rw [Sem.run_bind, (idx_run (P := P) (code := _) e1 (hhi z rfl) hlc).1, Result.andThen_ok]
   cases lo with
   | none => simp at e2; subst e2; rfl
   | some y =>
    simp only [zmo] at e2
    simp only [zmo]
    rw [Sem.run_bind, (idx_run (P := P) (code := _) e2 (hlo y rfl) (Nat.le_refl _)).1, Result.andThen_ok]
    rfl
 split at h
 ·rename_i q n l e hl hu
  rw [hl] at hx
  obtain ⟨A, cap, cs, hv, hlc, hm, _, _, hA, hr, hn, hcell⟩ := val_slice hx
  split at h
  ·cases h
  rename_i hh hhe
  split at h
  ·cases h
  rename_i a hae
  split at h
  ·rename_i hc
   cases h
   obtain ⟨hb, ha1, hb1⟩ := bounds true l.length cap hh a hlc hhe hae
   obtain ⟨ie, hie⟩ := Option.isSome_iff_exists.1 hc.2
   have hsz : ie.size = P.cellsOf e := by unfold Program.cellsOf; rw [hie]; rfl
   refine ⟨.slice (if cap = a then A else A.map (·.add (a * ie.size))) (hh - a) (cap - a), ?_, ?_⟩
   ·simp only [execOp, ho, hv]
    refine andThen_v ?_
    unfold Instr.sliceAt
    rw [Sem.run_bind, run_underlying hu, Result.andThen_ok]
    dsimp only
    unfold Instr.slice
    rw [Sem.run_bind, run_underlying hu, Result.andThen_ok]
    dsimp only
    simp only [Option.map_none]
    rw [Sem.run_bind, hb, Result.andThen_ok, Sem.run_bind, run_size hie, Result.andThen_ok]
    rfl
   ·have hlen : ((l.drop a).take (hh - a)).length = hh - a := by simp; omega
    have key := R.slice (w := w) (g := g) .imm n ((l.drop a).take (hh - a)) (if cap = a then A else A.map (·.add (a * ie.size))) (cap - a) (fun j => cs (a + j)) (by rw [hlen]; omega) (by omega) (fun s e q => by cases q) trivial
     trivial
     (fun j hj => by
      rw [hlen] at hj
      simp only [List.getElem_take, List.getElem_drop]
      exact hr (a + j) (by omega))
     (fun j hj => hn (a + j) (by rw [hlen] at hj; omega))
     (fun j hj => by
      rw [hlen] at hj
      obtain ⟨b, off, rfl, hcl⟩ := hcell (a + j) (by omega)
      have hne : n = P.cellsOf e := hc.1.resolve_right (fun e => by rw [e] at hb1; simp at hb1; omega)
      refine ⟨b, off + a * n, ?_, fun m u hu => ?_⟩
      ·rw [if_neg (by omega), zmo, addr_plus, hsz, hne]
      ·have := hcl m u hu
       rw [Nat.add_mul] at this
       rw [show off + a * n + j * n + m = off + (a * n + j * n) + m from by omega]
       exact this)
    rw [hlen] at key
    exact val_of_R key rfl
  ·cases h
 ·rename_i s hs hu
  rw [hs] at hx
  obtain ⟨hv, hsz⟩ := val_str hx
  split at h
  ·cases h
  rename_i hh hhe
  split at h
  ·cases h
  rename_i a hae
  cases h
  obtain ⟨hb, ha1, hb1⟩ := bounds false s.size s.size hh a (Nat.le_refl _) hhe hae
  refine ⟨.string (s.extract a hh), ?_, val_of_R (.str _ (by rw [ByteArray.size_extract]; omega)) rfl⟩
  simp only [execOp, ho, hv]
  refine andThen_v ?_
  unfold Instr.sliceAt
  rw [Sem.run_bind, run_underlying hu, Result.andThen_ok]
  dsimp only
  unfold Instr.slice
  rw [Sem.run_bind, run_underlying hu, Result.andThen_ok]
  dsimp only
  simp only [Option.map_none, Option.isSome_none, zft, if_false]
  rw [Sem.run_bind, hb, Result.andThen_ok]
  rfl
 ·cases h
theorem aop_slice3 {t : TypeId} {x y z : Operand} {lo : Option Operand} (ho : o.op = .slice t x lo (some y) (some z)) (hx : val w g (vals x) (ρ x)) (hlo : ∀ y, lo = some y → val w g (vals y) (ρ y)) (hhi : val w g (vals y) (ρ y)) (hmx : val w g (vals z) (ρ z))
  (h : aop P vals bx o = some d) : Yields P w g ρ o d := by
 simp only [aop, ho] at h
 unfold aslice3 at h
 split at h
 ·rename_i q n l e hl hu
  rw [hl] at hx
  obtain ⟨A, cap, cs, hv, hlc, hm, _, _, hA, hr, hn, hcell⟩ := val_slice hx
  split at h
  ·cases h
  rename_i mm hme
  split at h
  ·cases h
  rename_i hh hhe
  split at h
  ·cases h
  rename_i a hae
  split at h
  ·rename_i hc
   cases h
   obtain ⟨r1, r2⟩ := idx_run (P := P) (w := w) (g := g) (code := .slice3Acap) hme hmx hlc
   obtain ⟨r3, r4⟩ := idx_run (P := P) (w := w) (g := g) (code := .slice3B) hhe hhi (Nat.le_refl _)
   have s2 : a ≤ hh := by
    cases lo with
    | none => simp at hae; omega
    | some y =>
     simp only [zmo] at hae
     exact (idx_run (P := P) (code := .sliceB) hae (hlo y rfl) (Nat.le_refl _)).2
   have hb : (Instr.sliceBounds true l.length cap (lo.map ρ) (some (ρ y)) (some (ρ z))).run P w = .ok (a, hh, mm) w := by
    unfold Instr.sliceBounds
    rw [Sem.run_bind]
    rw [show (Instr.sliceBound (ρ z) cap (if true = true then .slice3Acap else .slice3Alen)).run P w = .ok mm w from r1, Result.andThen_ok]
    rw [Sem.run_bind, r3, Result.andThen_ok]
    cases lo with
    | none => simp at hae; subst hae; rfl
    | some y =>
     simp only [zmo] at hae
     simp only [zmo]
     rw [Sem.run_bind, (idx_run (P := P) (code := _) hae (hlo y rfl) (Nat.le_refl _)).1, Result.andThen_ok]
     rfl
   obtain ⟨ie, hie⟩ := Option.isSome_iff_exists.1 hc.2.1
   have hsz : ie.size = P.cellsOf e := by unfold Program.cellsOf; rw [hie]; rfl
   have hhm : hh = mm := hc.2.2
   refine ⟨.slice (if mm = a then A else A.map (·.add (a * ie.size))) (hh - a) (mm - a), ?_, ?_⟩
   ·simp only [execOp, ho, hv]
    refine andThen_v ?_
    unfold Instr.sliceAt
    rw [Sem.run_bind, run_underlying hu, Result.andThen_ok]
    dsimp only
    unfold Instr.slice
    rw [Sem.run_bind, run_underlying hu, Result.andThen_ok]
    dsimp only
    simp only [zmo]
    rw [Sem.run_bind, hb, Result.andThen_ok, Sem.run_bind, run_size hie, Result.andThen_ok]
    rfl
   ·have hlen : ((l.drop a).take (hh - a)).length = hh - a := by simp; omega
    have key := R.slice (w := w) (g := g) .clip n ((l.drop a).take (hh - a)) (if mm = a then A else A.map (·.add (a * ie.size))) (mm - a) (fun j => cs (a + j)) (by rw [hlen]; omega) (by omega) (fun s e q => by cases q) (by show mm - a = _; rw [hlen, hhm])
     trivial
     (fun j hj => by
      rw [hlen] at hj
      simp only [List.getElem_take, List.getElem_drop]
      exact hr (a + j) (by omega))
     (fun j hj => hn (a + j) (by rw [hlen] at hj; omega))
     (fun j hj => by
      rw [hlen] at hj
      obtain ⟨b, off, rfl, hcl⟩ := hcell (a + j) (by omega)
      have hne : n = P.cellsOf e := hc.1.resolve_right (fun e => by rw [e] at r2; simp at r2; omega)
      refine ⟨b, off + a * n, ?_, fun m u hu => ?_⟩
      ·rw [if_neg (by omega), zmo, addr_plus, hsz, hne]
      ·have := hcl m u hu
       rw [Nat.add_mul] at this
       rw [show off + a * n + j * n + m = off + (a * n + j * n) + m from by omega]
       exact this)
    rw [hlen] at key
    exact val_of_R key rfl
  ·cases h
 ·cases h
theorem aop_slice {t : TypeId} {x : Operand} {lo hi mx : Option Operand} (ho : o.op = .slice t x lo hi mx) (hx : val w g (vals x) (ρ x)) (hlo : ∀ y, lo = some y → val w g (vals y) (ρ y)) (hhi : ∀ y, hi = some y → val w g (vals y) (ρ y)) (hmx : ∀ y, mx = some y → val w g (vals y) (ρ y))
  (h : aop P vals bx o = some d) : Yields P w g ρ o d := by
 cases mx with
 | none => exact aop_slice0 ho hx hlo hhi h
 | some z =>
  cases hi with
  | none => simp [aop, ho] at h
  | some y => exact aop_slice3 ho hx hlo (hhi y rfl) (hmx z rfl) h
end

end Go.Proofs.Ytmglacjcefajlaa

/- Operations that leave memory alone: structs, and all of them together. -/
namespace Go.Proofs.Ytmglacjcefajlaa
open Go.RowKit

section
variable {P : Program} {w : World} {g : Gh} {ρ : Operand → Value} {vals : Operand → D} {bx : Nat → Option (List D)} {o : Oper} {d : D}

theorem fold_splice (off : Nat) : ∀ (cs : List Value) (i : Nat) (a : Array Value), off + i + cs.length ≤ a.size →
  ((cs.zipIdx i).foldl (fun (q : Array Value) (x : Value × Nat) => q.setIfInBounds (off + x.2) x.1) a).toList = a.toList.take (off + i) ++ cs ++ a.toList.drop (off + i + cs.length)
 | [], i, a, h => by simp
 | c :: r, i, a, h => by
  simp only [zlc] at h
  rw [List.zipIdx_cons, List.foldl_cons, fold_splice off r (i + 1) _ (by simp; omega)]
  have hlt : off + i < a.toList.length := by simp; omega
  simp only [Array.toList_setIfInBounds, zlc]
  have e1 : (a.toList.set (off + i) c).take (off + (i + 1)) = a.toList.take (off + i) ++ [c] := by
   rw [show off + (i + 1) = off + i + 1 from by omega, List.take_succ_eq_append_getElem (by simpa using hlt), List.getElem_set_self, List.take_set_of_le (by omega)]
  have e2 : (a.toList.set (off + i) c).drop (off + (i + 1) + r.length) = a.toList.drop (off + i + (r.length + 1)) := by
   rw [List.drop_set_of_lt (by omega)]
   congr 1; omega
  rw [e1, e2]
  simp

theorem afill_sound {flds : Nat → Option (Nat × Nat)} : ∀ {parts : List (Nat × Operand)} {cells : List D} {vs : List Value} {l : List D}, R w g (.agg cells) vs → (∀ p ∈ parts, val w g (vals p.2) (ρ p.2)) → afill flds cells (parts.map fun p => (p.1, vals p.2)) = some l →
  ∃ us, Instr.fill flds vs.toArray (parts.map fun p => (p.1, ρ p.2)) = some us ∧ R w g (.agg l) us.toList
 | [], cells, vs, l, hr, _, h => by
  simp only [zmn, afill] at h
  cases h
  exact ⟨_, rfl, hr⟩
 | (i, x) :: rest, cells, vs, l, hr, hp, h => by
  simp only [zmc, afill] at h
  split at h
  ·cases h
  rename_i off size hf
  split at h
  ·rename_i hc
   obtain ⟨hg, hl, hle⟩ := hc
   have hv := hp (i, x) List.mem_cons_self
   have hR := (hv.to1 hg).val_cells
   have hlen := R_agg_len hr
   have hcl : (ρ x).cells.size = size := by rw [← hl, ← hR.len]; simp
   have hnew : R w g (.agg (cells.take off ++ (vals x).cells ++ cells.drop (off + size))) (vs.take off ++ (ρ x).cells.toList ++ vs.drop (off + size)) := by
    refine R_agg_append (R_agg_append ?_ hR.cell) ?_
    ·have := R_agg_sub hr 0 off; simpa using this
    ·have := R_agg_sub hr (off + size) (cells.length - (off + size))
     rw [List.take_of_length_le (by simp), List.take_of_length_le (by simp; omega)] at this
     exact this
   obtain ⟨us, h1, h2⟩ := afill_sound hnew (fun p hp' => hp p (List.mem_cons_of_mem _ hp')) h
   refine ⟨us, ?_, h2⟩
   simp only [zmc, Instr.fill, hf]
   rw [if_neg (by simp only [hcl, ne_eq, not_true_eq_false, decide_false, Bool.false_or, decide_eq_true_eq, List.size_toArray]; omega)]
   have := fold_splice off (ρ x).cells.toList 0 vs.toArray (by simp only [Array.length_toList, List.size_toArray]; omega)
   have e : ((ρ x).cells.zipIdx.foldl (fun (q : Array Value) (x : Value × Nat) => q.setIfInBounds (off + x.2) x.1) vs.toArray) = (vs.take off ++ (ρ x).cells.toList ++ vs.drop (off + size)).toArray := by
    apply Array.toList_inj.1
    rw [← Array.foldl_toList, Array.toList_zipIdx, this]
    simp [hcl]
   rw [← h1, ← e]
  ·cases h

theorem places_of : ∀ {fs : List Field}, fs.all (fun f => (P.info? f.type).isSome) = true → fs.mapM (fun f => (P.info? f.type).map fun i => (f.offset, i.size)) = some (fs.map fun f => (f.offset, P.cellsOf f.type))
 | [], _ => rfl
 | f :: fs, h => by
  simp only [List.all_cons, zat] at h
  obtain ⟨i, hi⟩ := Option.isSome_iff_exists.1 h.1
  rw [List.mapM_cons, places_of h.2, hi]
  simp [Program.cellsOf, hi]

theorem aop_build {t : TypeId} {parts : Array (Nat × Operand)} (ho : o.op = .build t parts) (hp : ∀ p ∈ parts.toList, val w g (vals p.2) (ρ p.2)) (h : aop P vals bx o = some d) : Yields P w g ρ o d := by
 simp only [aop, ho] at h
 split at h
 ·rename_i y fs hy hu
  split at h
  ·rename_i hall
   split at h
   ·rename_i z hz
    obtain ⟨i, u, hi, hu', _, _, hzero, hfl, _⟩ := tyOf_some hy
    rw [hu] at hu'
    cases hu'
    rw [hzero] at hz
    cases hzz : i.zero with
    | none => rw [hzz] at hz; cases hz
    | some zv =>
     rw [hzz] at hz
     simp only [zbs] at hz
     cases hf : afill (fun i => (y.flds[i]?).map fun f => (f.1, f.2.1)) z (parts.toList.map fun p => (p.1, vals p.2)) with
     | none => rw [hf] at h; cases h
     | some l =>
      rw [hf] at h
      cases h
      obtain ⟨us, h1, h2⟩ := afill_sound (ofCells_R hz) hp hf
      refine ⟨.agg us, ?_, val_of_agg h2⟩
      simp only [execOp, ho]
      refine andThen_v ?_
      refine run_build w t _ us ?_
      unfold Program.built
      simp only [hi, hu, hzz, places_of hall]
      have e1 : (fun i : Nat => (y.flds[i]?).map fun f : Nat × Nat × Bool => (f.1, f.2.1)) = fun i : Nat => (fs.toList.map fun f => (f.offset, P.cellsOf f.type)).toArray[i]? := by
       funext k
       rw [hfl]
       simp only [List.getElem?_map, Option.map_map, List.getElem?_toArray]
       rfl
      rw [e1] at h1
      rw [← h1]
      congr 1
      simp
   ·cases h
  ·cases h
 ·cases h

theorem aop_makeFunc {fn : Fn} {first captured : Array Operand} (ho : o.op = .makeFunc fn first captured) (hp : ∀ x ∈ captured.toList, val w g (vals x) (ρ x)) (h : aop P vals bx o = some d) : Yields P w g ρ o d := by
 simp only [aop, ho] at h
 split at h
 ·rename_i f
  split at h
  ·rename_i hc
   cases h
   have hf : first = #[] := by simpa using hc.1
   subst hf
   refine ⟨.func (.func f) #[] (captured.toList.map ρ).toArray, ?_, val_of_R (.fn f _ _ (by simp) (fun d hd => by have := List.all_eq_true.1 hc.2 d hd; simp only [zat, znt] at this; exact this.2) (fun j h1 h2 => ?_)) rfl⟩
   ·simp only [execOp, ho]
    refine andThen_v ?_
    simp only [Instr.makeFunc, Sem.run_pure, Array.map_empty, Result.ok.injEq, Value.func.injEq, true_and, and_true]
    apply Array.toList_inj.1
    simp
   ·simp only [List.getElem_map]
    have hm : captured.toList[j]'(by simpa using h1) ∈ captured.toList := List.getElem_mem _
    have hall := List.all_eq_true.1 hc.2 _ (List.mem_map_of_mem hm)
    generalize captured.toList[j]'(by simpa using h1) = x at hm hall ⊢
    simp only [zat, znt] at hall
    obtain ⟨cs, hr, hpk⟩ := (hp _ hm).to1 hall.1
    obtain ⟨v', rfl, _⟩ := hr.single hall.2
    have : ρ x = v' := by
     rw [hpk]
     have := hall.2
     cases hq : vals x <;> rw [hq] at this <;> first | rfl | simp [D.isAgg] at this
    rw [this]
    exact hr
  ·cases h
 ·cases h

theorem ent_even (es : Array MapEntry) (j : Nat) (h : j < es.size) : ent es (2 * j) = es[j].key := by
 unfold ent
 rw [show 2 * j / 2 = j from by omega, Array.getElem?_eq_getElem h]
 simp
theorem ent_odd (es : Array MapEntry) (j : Nat) (h : j < es.size) : ent es (2 * j + 1) = es[j].val := by
 unfold ent
 rw [show (2 * j + 1) / 2 = j from by omega, Array.getElem?_eq_getElem h]
 dsimp only
 rw [if_neg (by omega)]
/-- a map's entries, one after another -/
def EntL (w : World) (g : Gh) : List D → List MapEntry → Prop
 | [], [] => True
 | a :: v :: r, e :: es => R w g a [e.key] ∧ R w g v [e.val] ∧ EntL w g r es
 | _, _ => False
theorem entL_of {es : Array MapEntry} {l : List D} (hl : l.length = 2 * es.size) (h : ∀ (j : Nat) (h : j < l.length), R w g l[j] [ent es j]) : EntL w g l es.toList := by
 have key : ∀ (m k : Nat), k + m = es.size → EntL w g (l.drop (2 * k)) (es.toList.drop k) := by
  intro m
  induction m with
  | zero =>
   intro k hk
   rw [List.drop_eq_nil_of_le (by omega), List.drop_eq_nil_of_le (by simp; omega)]
   exact True.intro
  | succ m ih =>
   intro k hk
   have hk' : k < es.size := by omega
   rw [List.drop_eq_getElem_cons (show 2 * k < l.length by omega), List.drop_eq_getElem_cons (show 2 * k + 1 < l.length by omega), List.drop_eq_getElem_cons (show k < es.toList.length by simpa using hk')]
   have h0 := h (2 * k) (by omega)
   have h1 := h (2 * k + 1) (by omega)
   rw [ent_even es k hk'] at h0
   rw [ent_odd es k hk'] at h1
   exact ⟨by simpa using h0, by simpa using h1, by have := ih (k + 1) (by omega); rwa [show 2 * (k + 1) = 2 * k + 1 + 1 from by omega] at this⟩
 have := key es.size 0 (by omega)
 simpa using this
theorem sameK_now {td : TypeDesc} {x y : D} {u v : Value} {r : Bool} (hx : R w g x [u]) (hy : R w g y [v]) (h : sameK td x y = some r) : Instr.sameNow td u v = some r := by
 unfold sameK at h
 split at h
 ·rename_i k a k' b
  split at h
  ·rename_i hk
   cases h
   obtain ⟨e1, _⟩ := R_int hx
   obtain ⟨e2, _⟩ := R_int hy
   simp only [List.cons.injEq, and_true] at e1 e2
   subst e1 e2 hk
   simp [Instr.sameNow]
  ·cases h
 ·rename_i a b
  cases h
  obtain ⟨e1, _⟩ := R_str hx
  obtain ⟨e2, _⟩ := R_str hy
  simp only [List.cons.injEq, and_true] at e1 e2
  subst e1 e2
  simp only [Instr.sameNow, Option.some.injEq]
  have := MapKept.sameNow_of_keys (d := .string) (a := .string a) (b := .string b) trivial trivial
  obtain ⟨q, h1, h2⟩ := this
  simp only [Instr.sameNow, Option.some.injEq] at h1
  rw [h1, Bool.eq_iff_iff, h2]; simp
 ·cases h
theorem mfind_now {td : TypeDesc} {k : D} {kv : Value} (hk : R w g k [kv]) : ∀ {l : List D} {es : List MapEntry} {r : Option D} (i : Nat), EntL w g l es → mfind td k l = some r →
  match r with
  | none => Instr.findNow td kv es i = some none
  | some d => ∃ j v, Instr.findNow td kv es i = some (some (j, v)) ∧ R w g d [v]
 | [], [], r, i, _, h => by cases h; rfl
 | a :: v :: l, e :: es, r, i, ⟨h1, h2, h3⟩, h => by
  unfold mfind at h
  unfold Instr.findNow
  split at h
  ·rename_i hs
   cases h
   rw [sameK_now hk h1 hs]
   exact ⟨i, e.val, rfl, h2⟩
  ·rename_i hs
   rw [sameK_now hk h1 hs]
   exact mfind_now hk (i + 1) h3 h
  ·cases h
theorem keyOk_is {td : TypeDesc} {k : D} {kv : Value} (hk : val w g k kv) (h : keyOk td k = true) : MapKept.IsKey td kv ∧ R w g k [kv] := by
 unfold keyOk at h
 split at h
 ·rename_i a b n
  obtain ⟨rfl, hi⟩ := val_int hk
  exact ⟨by simpa [MapKept.IsKey] using h, .int _ _ hi⟩
 ·rename_i s
  obtain ⟨rfl, hs⟩ := val_str hk
  exact ⟨trivial, .str _ hs⟩
 ·cases h
/-- what a map's datum says of the map -/
theorem mcont_es {m : D} {v : Value} {l : List D} (hv : val w g m v) (hb : BoxesAt w g bx) (h : mcont bx m = some l) : (v = .map none ∧ l = []) ∨ ∃ b es clock, v = .map (some b) ∧ w.heap[b]? = some (.map es clock) ∧ EntL w g l es.toList := by
 unfold mcont at h
 split at h
 ·cases h
  obtain ⟨cs, h1, rfl⟩ := hv
  cases h1
  exact .inl ⟨rfl, rfl⟩
 ·cases h
  obtain ⟨cs, h1, rfl⟩ := hv
  cases h1 with
  | cmap _ b es clock hp hh hl h => exact .inr ⟨b, es, clock, rfl, hh, entL_of hl h⟩
 ·rename_i i
  obtain ⟨cs, h1, rfl⟩ := hv
  cases h1 with
  | mref _ b h0 hm =>
   have := hb i l b h h0
   rw [hm] at this
   obtain ⟨es, clock, q1, q2, _, q3, _⟩ := this
   exact .inr ⟨b, es, clock, rfl, q1, entL_of q2 q3⟩
 ·cases h
theorem aop_lookup {t : TypeId} {x k : Operand} {cok : Bool} (ho : o.op = .lookup t x k cok) (hx : val w g (vals x) (ρ x)) (hk : val w g (vals k) (ρ k)) (hb : BoxesAt w g bx) (h : aop P vals bx o = some d) : Yields P w g ρ o d := by
 simp only [aop, ho, alook] at h
 split at h
 ·rename_i kt et hu
  split at h
  ·rename_i td hd
   split at h
   ·rename_i hko
    obtain ⟨hik, hRk⟩ := keyOk_is hk hko
    split at h
    ·rename_i l hl
     have hes : ∃ es : Array MapEntry, EntL w g l es.toList ∧ ∀ (a : Option (Nat × Value)) (v : Value) (b : Bool), Instr.findNow td (ρ k) es.toList 0 = some a → ((∃ i, a = some (i, v)) ∧ b = true ∨ a = none ∧ b = false ∧ (zeroValue et).run P w = .ok v w) →
       (execOp ρ o).run P w = .ok (.value (if cok then .tuple #[v, .bool b] else v)) w := by
      rcases mcont_es hx hb hl with ⟨e1, e2⟩ | ⟨b, es, clock, e1, e2, e3⟩
      ·refine ⟨#[], by rw [e2]; trivial, fun a v b hf hz => ?_⟩
       simp only [execOp, ho, e1]
       refine andThen_v ?_
       rcases hz with ⟨⟨i, rfl⟩, rfl⟩ | ⟨rfl, rfl, hz⟩
       ·simp [Instr.findNow] at hf
       ·simp [Instr.lookup, run_underlying hu, MapKept.run_checkKey hd hik, MapKept.run_findKey hd hf, Result.andThen, hz]
      ·refine ⟨es, e3, fun a v c hf hz => ?_⟩
       simp only [execOp, ho, e1]
       refine andThen_v ?_
       rcases hz with ⟨⟨i, rfl⟩, rfl⟩ | ⟨rfl, rfl, hz⟩
       ·simp [Instr.lookup, run_underlying hu, MapKept.run_getObj_map e2, MapKept.run_checkKey hd hik, MapKept.run_findKey hd hf, Result.andThen]
       ·simp [Instr.lookup, run_underlying hu, MapKept.run_getObj_map e2, MapKept.run_checkKey hd hik, MapKept.run_findKey hd hf, Result.andThen, hz]
     obtain ⟨es, hEL, run⟩ := hes
     split at h
     ·rename_i v hm
      obtain ⟨j, u, q1, q2⟩ := mfind_now hRk 0 hEL hm
      split at h
      ·rename_i hv
       have h' := Option.some.inj h
       subst h'
       refine ⟨_, run _ u true q1 (.inl ⟨⟨_, rfl⟩, rfl⟩), ?_⟩
       have hvu : val w g v u := val_of_R q2 hv.1
       cases cok with
       | false => exact hvu
       | true =>
        refine ⟨[u, .bool true], rfl, rfl, fun j h1 h2 => ?_⟩
        match j with
        | 0 => exact hvu.to1 hv.2
        | 1 => exact ⟨[.bool true], .bool true, rfl⟩
      ·cases h
     ·rename_i hm
      have q1 := mfind_now hRk 0 hEL hm
      split at h
      ·rename_i z hz
       have h' := Option.some.inj h
       subst h'
       rw [Option.bind_eq_some_iff] at hz
       obtain ⟨zv, hz, hzo⟩ := hz
       rw [Option.bind_eq_some_iff] at hz
       obtain ⟨i, hi, hzv⟩ := hz
       have hRz := ofValue_R (w := w) (g := g) hzo
       have hza : z.isAgg = false := by
        unfold ofValue at hzo
        split at hzo <;> (try split at hzo) <;> cases hzo <;> rfl
       have hzr : (zeroValue et).run P w = .ok zv w := by unfold zeroValue; rw [Sem.run_bind, run_info hi, Result.andThen_ok, hzv]; rfl
       refine ⟨_, run none zv false q1 (.inr ⟨rfl, rfl, hzr⟩), ?_⟩
       have hvu : val w g z zv := val_of_R hRz hza
       cases cok with
       | false => exact hvu
       | true =>
        refine ⟨[zv, .bool false], rfl, rfl, fun j h1 h2 => ?_⟩
        match j with
        | 0 => exact hvu.to1 hRz.good
        | 1 => exact ⟨[.bool false], .bool false, rfl⟩
      ·cases h
     ·cases h
    ·cases h
   ·cases h
  ·cases h
 ·cases h
theorem aop_fieldv {t : TypeId} {x : Operand} {f : Nat} (ho : o.op = .field t x f) (hx : val w g (vals x) (ρ x)) (h : aop P vals bx o = some d) : Yields P w g ρ o d := by
 simp only [aop, ho] at h
 split at h
 ·rename_i fs hu
  split at h
  ·rename_i fd hfd
   split at h
   ·rename_i y hy
    obtain ⟨i, u, hi, hut, hs, ha, _, _, _⟩ := tyOf_some hy
    split at h
    ·rename_i l hl
     rw [hl] at hx
     obtain ⟨vs, hv, hR⟩ := val_agg hx
     have hlen := R_agg_len hR
     have hfd' : fs[f]? = some fd := by simpa using hfd
     have hsub := R_agg_sub hR fd.offset y.sz
     have run : ∀ v, (part fd.type vs.toArray fd.offset).run P w = .ok v w → (execOp ρ o).run P w = .ok (.value v) w := by
      intro v h1
      simp only [execOp, ho, hv]
      refine andThen_v ?_
      unfold Instr.field
      rw [Sem.run_bind, run_underlying hu, Result.andThen_ok]
      dsimp only
      rw [hfd']
      dsimp only
      simp only [asAgg, pure_bind]
      exact h1
     split at h
     ·rename_i hle
      unfold mkD at h
      split at h
      ·rename_i hag
       cases h
       refine ⟨.agg ((vs.drop fd.offset).take y.sz).toArray, run _ ?_, val_of_agg hsub⟩
       unfold part
       rw [Sem.run_bind, run_isAgg hut, Result.andThen_ok, if_pos (by rw [← ha]; exact hag), Sem.run_bind, run_size hi, Result.andThen_ok, ← hs]
       have : vs.toArray.extract fd.offset (fd.offset + y.sz) = ((vs.drop fd.offset).take y.sz).toArray := by
        apply Array.toList_inj.1
        simp [List.extract_eq_take_drop]
       rw [this]; rfl
      ·rename_i hag
       split at h
       ·rename_i d0 hd0
        split at h
        ·cases h
        ·rename_i hna
         cases h
         rw [hd0] at hsub
         obtain ⟨v, hv1⟩ : ∃ v, (vs.drop fd.offset).take y.sz = [v] := by
          have := R_agg_len hsub
          match hq : (vs.drop fd.offset).take y.sz, this with
          | [v], _ => exact ⟨v, rfl⟩
         have h0 : ((vs.drop fd.offset).take y.sz)[0]? = some v := by rw [hv1]; rfl
         rw [hv1] at hsub
         obtain ⟨_, r⟩ := R_agg_at hsub 0 (by simp)
         refine ⟨v, run _ ?_, val_of_R r (by simpa using hna)⟩
         unfold part
         rw [Sem.run_bind, run_isAgg hut, Result.andThen_ok, if_neg (by rw [← ha]; exact hag)]
         have : vs[fd.offset]? = some v := by
          rw [List.getElem?_take] at h0
          split at h0
          ·rw [List.getElem?_drop, Nat.add_zero] at h0; exact h0
          ·cases h0
         simp [this]
       ·cases h
     ·cases h
    ·cases h
   ·cases h
  ·cases h
 ·cases h
theorem aop_call {c : Call} (hb : BoxesAt w g bx) (ho : o.op = .call c) (hp : ∀ x ∈ c.args.toList, val w g (vals x) (ρ x)) (h : aop P vals bx o = some d) : Yields P w g ρ o d := by
 simp only [aop, ho] at h
 split at h
 ·rename_i hcal
  split at h
  ·rename_i x t hargs htys
   have ha : c.args = #[x] := by rw [← Array.toArray_toList (xs := c.args), hargs]
   have ht : c.argTypes = #[t] := by rw [← Array.toArray_toList (xs := c.argTypes), htys]
   have hx := hp x (by rw [hargs]; exact List.mem_singleton_self x)
   have run : ∀ v, (Builtin.len_ #[t] o.type #[ρ x]).run P w = .ok v w → (execOp ρ o).run P w = .ok (.value v) w := by
    intro v hv
    unfold execOp
    simp only [ho, resolve, hcal, ha, ht, invoke, builtin, Sem.run_bind, Sem.run_pure, Result.andThen_ok, List.map_toArray, zmc, zmn, hv]
   split at h
   ·rename_i e q n l hu hl
    cases h
    rw [hl] at hx
    obtain ⟨A, cap, cs, hv, hlc, hm, _⟩ := val_slice hx
    refine ⟨.int .i64 l.length, run _ ?_, val_of_R (.int _ _ ?_) rfl⟩
    ·rw [hv]
     unfold Builtin.len_
     simp only [List.getElem?_toArray, zg0]
     rw [Sem.run_bind, run_underlying hu, Result.andThen_ok]
     rfl
    ·unfold inr
     simp only [IntKind.min, IntKind.max, IntKind.bits, IntKind.signed]
     simp
     omega
   ·rename_i e bi off n len hu hl
    split at h
    ·rename_i h0
     cases h
     rw [hl] at hx
     obtain ⟨b, cap, _, hv, hlc, hm⟩ := val_bsl hx h0
     refine ⟨.int .i64 len, run _ ?_, val_of_R (.int _ _ ?_) rfl⟩
     ·rw [hv]
      unfold Builtin.len_
      simp only [List.getElem?_toArray, zg0]
      rw [Sem.run_bind, run_underlying hu, Result.andThen_ok]
      rfl
     ·unfold inr
      simp only [IntKind.min, IntKind.max, IntKind.bits, IntKind.signed]
      simp
      omega
    ·cases h
   ·rename_i s hu hl
    cases h
    rw [hl] at hx
    obtain ⟨hv, hs⟩ := val_str hx
    refine ⟨.int .i64 s.size, run _ ?_, val_of_R (.int _ _ ?_) rfl⟩
    ·rw [hv]
     unfold Builtin.len_
     simp only [List.getElem?_toArray, zg0]
     rw [Sem.run_bind, run_underlying hu, Result.andThen_ok]
     rfl
    ·unfold inr
     simp only [IntKind.min, IntKind.max, IntKind.bits, IntKind.signed]
     simp
     omega
   ·rename_i kt et hu hl
    cases h
    rw [hl] at hx
    obtain ⟨cs, h1, hv⟩ := hx
    cases h1
    refine ⟨.int .i64 0, run _ ?_, val_of_R (.int _ _ (by decide)) rfl⟩
    rw [show ρ x = .map none from hv]
    unfold Builtin.len_
    simp only [List.getElem?_toArray, zg0]
    rw [Sem.run_bind, run_underlying hu, Result.andThen_ok]
    rfl
   ·rename_i kt et i hu hl
    rw [Option.map_eq_some_iff] at h
    obtain ⟨m, hm, h⟩ := h
    cases h
    rw [hl] at hx
    obtain ⟨cs, h1, hv⟩ := hx
    cases h1 with
    | mref _ b h0 hmp =>
    have := hb i m b hm h0
    rw [hmp] at this
    obtain ⟨es, clock, q1, q2, q3, _⟩ := this
    refine ⟨.int .i64 ((m.length / 2 : Nat) : Int), run _ ?_, val_of_R (.int _ _ ?_) rfl⟩
    ·rw [show ρ x = .map (some b) from hv]
     unfold Builtin.len_
     simp only [List.getElem?_toArray, zg0]
     rw [Sem.run_bind, run_underlying hu, Result.andThen_ok]
     dsimp only
     rw [Sem.run_bind, MapKept.run_getObj_map q1, Result.andThen_ok]
     rw [show m.length / 2 = es.size from by omega]
     rfl
    ·unfold inr
     simp only [IntKind.min, IntKind.max, IntKind.bits, IntKind.signed]
     simp
     omega
   ·cases h
  ·cases h
 ·rename_i hcal
  split at h
  ·rename_i x y hargs
   have ha : c.args = #[x, y] := by rw [← Array.toArray_toList (xs := c.args), hargs]
   have hx := hp x (by rw [hargs]; exact List.mem_cons_self)
   have hy := hp y (by rw [hargs]; exact List.mem_cons_of_mem _ List.mem_cons_self)
   split at h
   ·rename_i k a k' b e1 e2
    split at h
    ·rename_i hk
     subst hk
     cases h
     rw [e1] at hx
     rw [e2] at hy
     obtain ⟨v1, i1⟩ := val_int hx
     obtain ⟨v2, i2⟩ := val_int hy
     refine ⟨.int k (if b > a then b else a), ?_, val_of_R (.int _ _ (by split <;> assumption)) rfl⟩
     unfold execOp
     simp only [ho, resolve, hcal, ha, invoke, builtin, Sem.run_bind, Sem.run_pure, Result.andThen_ok, List.map_toArray, zmc, zmn, v1, v2]
     rfl
    ·cases h
   ·cases h
  ·cases h
 ·rename_i hcal
  split at h
  ·rename_i x y hargs
   have ha : c.args = #[x, y] := by rw [← Array.toArray_toList (xs := c.args), hargs]
   have hx := hp x (by rw [hargs]; exact List.mem_cons_self)
   have hy := hp y (by rw [hargs]; exact List.mem_cons_of_mem _ List.mem_cons_self)
   split at h
   ·rename_i k a k' b e1 e2
    split at h
    ·rename_i hk
     subst hk
     cases h
     rw [e1] at hx
     rw [e2] at hy
     obtain ⟨v1, i1⟩ := val_int hx
     obtain ⟨v2, i2⟩ := val_int hy
     refine ⟨.int k (if b < a then b else a), ?_, val_of_R (.int _ _ (by split <;> assumption)) rfl⟩
     unfold execOp
     simp only [ho, resolve, hcal, ha, invoke, builtin, Sem.run_bind, Sem.run_pure, Result.andThen_ok, List.map_toArray, zmc, zmn, v1, v2]
     rfl
    ·cases h
   ·cases h
  ·cases h
 ·cases h

/-- an operation that only reads does in memory what it does on data -/
theorem aop_sound (hv : ∀ x ∈ o.op.operands, val w g (vals x) (ρ x)) (hb : BoxesAt w g bx) (h : aop P vals bx o = some d) : Yields P w g ρ o d := by
 cases ho : o.op with
 | move x =>
  simp only [aop, ho] at h; cases h
  exact ⟨ρ x, by simp only [execOp, ho]; rfl, hv x (by simp [ho, Op.operands])⟩
 | assign x =>
  simp only [aop, ho] at h; cases h
  exact ⟨ρ x, by simp only [execOp, ho]; rfl, hv x (by simp [ho, Op.operands])⟩
 | pick c a b =>
  simp only [aop, ho] at h
  split at h
  ·rename_i q hq
   have hc := hv c (by simp [ho, Op.operands])
   rw [hq] at hc
   have hcv := val_bool hc
   cases h
   refine ⟨if q then ρ a else ρ b, ?_, ?_⟩
   ·simp only [execOp, ho, hcv, asBool, pure_bind]; rfl
   ·cases q
    ·exact hv b (by simp [ho, Op.operands])
    ·exact hv a (by simp [ho, Op.operands])
  ·cases h
 | load t a => exact aop_load ho hb (hv a (by simp [ho, Op.operands])) h
 | fieldAddr t x f => exact aop_field ho (hv x (by simp [ho, Op.operands])) h
 | indexAddr t x i => exact aop_index ho (hv x (by simp [ho, Op.operands])) (hv i (by simp [ho, Op.operands])) h
 | index t x i => exact aop_strindex ho (hv x (by simp [ho, Op.operands])) (hv i (by simp [ho, Op.operands])) h
 | binOp op t x y t' => exact aop_bin ho (hv x (by simp [ho, Op.operands])) (hv y (by simp [ho, Op.operands])) h
 | unOp op t x => exact aop_un ho (hv x (by simp [ho, Op.operands])) h
 | convert s t x => exact aop_convert ho (hv x (by simp [ho, Op.operands])) h
 | extract x i => exact aop_extract ho (hv x (by simp [ho, Op.operands])) h
 | nilCheck x => exact aop_nilCheck ho (hv x (by simp [ho, Op.operands])) h
 | slice t x lo hi mx => exact aop_slice ho (hv x (by simp [ho, Op.operands])) (fun y e => hv y (by simp [ho, Op.operands, e])) (fun y e => hv y (by simp [ho, Op.operands, e])) (fun y e => hv y (by simp [ho, Op.operands, e])) h
 | field t x f => exact aop_fieldv ho (hv x (by simp [ho, Op.operands])) h
 | lookup t x k cok => exact aop_lookup ho (hv x (by simp [ho, Op.operands])) (hv k (by simp [ho, Op.operands])) hb h
 | build t parts => exact aop_build ho (fun p hp => hv p.2 (by simp only [ho, Op.operands]; simpa using ⟨p.1, by simpa using hp⟩)) h
 | makeFunc fn first captured => exact aop_makeFunc ho (fun x hx => hv x (by simp only [ho, Op.operands, Array.mem_append]; exact .inr (by simpa using hx))) h
 | call c => exact aop_call hb ho (fun x hx => hv x (by simp only [ho, Op.operands, Call.operands, Array.mem_append]; exact .inr (by simpa using hx))) h
 | _ => simp [aop, ho] at h
end

end Go.Proofs.Ytmglacjcefajlaa
