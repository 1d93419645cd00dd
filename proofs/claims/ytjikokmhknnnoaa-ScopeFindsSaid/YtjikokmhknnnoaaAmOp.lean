/- Operations over data, and that the model's operations do the same in memory. Over any program. -/
import Derived.Test.YtjikokmhknnnoaaAm
import Derived.WalkLawsBesides
import Derived.WalkSpells
namespace Go.Proofs.Ytjikokmhknnnoaa
open Go.RowKit

def ofValue : Value → Option D
  | .bool b => some (.bool b)
  | .int k n => if inr k n then some (.int k n) else none
  | .string s => if s.size ≤ 9223372036854775807 then some (.str s) else none
  | .slice none 0 0 => some (.slice .nil 0 [])
  | .map none => some .nmap
  | .nilFunc => some .nfn
  | _ => none
def ofCells : List Value → Option (List D)
  | [] => some []
  | v :: r => match ofValue v, ofCells r with
    | some d, some l => some (d :: l)
    | _, _ => none

theorem ofValue_R {w : World} {g : Gh} {v : Value} {d : D} (h : ofValue v = some d) : R w g d [v] := by
  unfold ofValue at h
  split at h
  · cases h; exact .bool _
  · split at h
    · cases h; exact .int _ _ ‹_›
    · cases h
  · split at h
    · cases h; exact .str _ ‹_›
    · cases h
  · cases h
    exact .slice .nil 0 [] none 0 (fun _ => []) (Nat.le_refl _) (by omega) (fun _ _ q => by cases q) ⟨rfl, rfl⟩ trivial (fun j h => absurd h (Nat.not_lt_zero _)) (fun j h => absurd h (Nat.not_lt_zero _)) (fun j h => absurd h (Nat.not_lt_zero _))
  · cases h; exact .nmap
  · cases h; exact .nfn
  · cases h
theorem ofCells_R {w : World} {g : Gh} : ∀ {vs : List Value} {l : List D}, ofCells vs = some l → R w g (.agg l) vs
  | [], l, h => by cases h; exact .agg [] [] rfl (fun j h => absurd h (Nat.not_lt_zero _))
  | v :: r, l, h => by
    unfold ofCells at h
    split at h
    · rename_i d m h1 h2
      cases h
      have ih := ofCells_R (w := w) (g := g) h2
      cases ih with
      | agg _ _ hl hh =>
        refine .agg _ _ (by simp [hl]) (fun j h h' => ?_)
        cases j with
        | zero => exact ofValue_R h1
        | succ j => exact hh j (by simpa using h) (by simpa using h')
    · cases h

structure Ty where
  sz : Nat
  agg : Bool
  flds : List (Nat × Nat × Bool)
  elem : Option TypeId
  zero : Option (List D)
  bytes : Nat

def descAgg : TypeDesc → Bool
  | .struct _ | .array _ _ => true
  | _ => false
def tyOf (P : Program) (t : TypeId) : Option Ty := match P.info? t, P.underlying t with
  | some i, some u => some { sz := i.size, agg := descAgg u, flds := (match u with | .struct fs => fs.toList.map fun f => (f.offset, P.cellsOf f.type, (P.underlying f.type).any descAgg) | _ => []), elem := (match u with | .slice e => some e | _ => none), zero := i.zero.bind fun z => ofCells z.cells.toList, bytes := i.bytes }
  | _, _ => none

def ev (fr : List D) : Operand → D
  | .tmp t => (fr[t]?).getD .undef
  | .const v => (ofValue v).getD .undef
  | .global _ => .undef
  | .func f => .fn f []

/-- a datum of a type, out of cells -/
def mkD (y : Ty) (c : List D) : Option D := if y.agg then some (.agg c) else match c with
  | [d] => if d.isAgg then none else some d
  | _ => none

def aint (op : BinOp) (k : IntKind) (a b : Int) : Option D := match op with
  | .add => some (.int k (k.wrap (a + b)))
  | .sub => some (.int k (k.wrap (a - b)))
  | .mul => some (.int k (k.wrap (a * b)))
  | .quo => if b = 0 then none else some (.int k (k.wrap (a.tdiv b)))
  | .rem => if b = 0 then none else some (.int k (a.tmod b))
  | .and => some (.int k (k.wrap (BitVec.ofInt k.bits a &&& BitVec.ofInt k.bits b).toNat))
  | .or => some (.int k (k.wrap (BitVec.ofInt k.bits a ||| BitVec.ofInt k.bits b).toNat))
  | .xor => some (.int k (k.wrap (BitVec.ofInt k.bits a ^^^ BitVec.ofInt k.bits b).toNat))
  | .eql => some (.bool (a == b))
  | .neq => some (.bool (a != b))
  | .lss => some (.bool (decide (a < b)))
  | .leq => some (.bool (decide (a ≤ b)))
  | .gtr => some (.bool (decide (a > b)))
  | .geq => some (.bool (decide (a ≥ b)))
  | _ => none
def astr (op : BinOp) (a b : ByteArray) : Option D := match op with
  | .add => if a.size + b.size ≤ 9223372036854775807 then some (.str (a ++ b)) else none
  | .eql => some (.bool (a.toList == b.toList))
  | .neq => some (.bool !(a.toList == b.toList))
  | .lss => some (.bool (Op.bytesLess a.toList b.toList))
  | .leq => some (.bool (Op.bytesLess a.toList b.toList || a.toList == b.toList))
  | .gtr => some (.bool !(Op.bytesLess a.toList b.toList || a.toList == b.toList))
  | .geq => some (.bool !(Op.bytesLess a.toList b.toList))
  | _ => none

theorem tmod_inr {k : IntKind} {a b : Int} (h : inr k a) : inr k (a.tmod b) := by
  unfold inr at *
  have hmin : k.min ≤ 0 := by cases k <;> simp [IntKind.min, IntKind.bits, IntKind.signed]
  have hmax : 0 ≤ k.max := by cases k <;> simp [IntKind.max, IntKind.bits, IntKind.signed]
  rcases Int.le_total 0 a with ha | ha
  · have h1 := Int.tmod_nonneg b ha
    have h2 : a.tmod b ≤ a := by
      have := Int.natAbs_tmod a b
      have h3 : a.natAbs % b.natAbs ≤ a.natAbs := Nat.mod_le _ _
      omega
    omega
  · have h1 : a.tmod b ≤ 0 := by
      have := Int.tmod_nonneg b (show (0 : Int) ≤ -a by omega)
      rw [Int.neg_tmod] at this; omega
    have h2 : a ≤ a.tmod b := by
      have := Int.natAbs_tmod a b
      have h3 : a.natAbs % b.natAbs ≤ a.natAbs := Nat.mod_le _ _
      omega
    omega

section
variable {P : Program} {w : World} {g : Gh}

theorem R_int {k : IntKind} {n : Int} {cs : List Value} (h : R w g (.int k n) cs) : cs = [.int k n] ∧ inr k n := by cases h; exact ⟨rfl, ‹_›⟩
theorem R_bool {b : Bool} {cs : List Value} (h : R w g (.bool b) cs) : cs = [.bool b] := by cases h; rfl
theorem R_str {s : ByteArray} {cs : List Value} (h : R w g (.str s) cs) : cs = [.string s] ∧ s.size ≤ 9223372036854775807 := by cases h; exact ⟨rfl, ‹_›⟩
theorem val_int {k : IntKind} {n : Int} {v : Value} (h : val w g (.int k n) v) : v = .int k n ∧ inr k n := by
  obtain ⟨cs, h1, rfl⟩ := h
  obtain ⟨rfl, h2⟩ := R_int h1
  exact ⟨rfl, h2⟩
theorem val_bool {b : Bool} {v : Value} (h : val w g (.bool b) v) : v = .bool b := by
  obtain ⟨cs, h1, rfl⟩ := h
  rw [R_bool h1]; rfl
theorem val_str {s : ByteArray} {v : Value} (h : val w g (.str s) v) : v = .string s ∧ s.size ≤ 9223372036854775807 := by
  obtain ⟨cs, h1, rfl⟩ := h
  obtain ⟨rfl, h2⟩ := R_str h1
  exact ⟨rfl, h2⟩
theorem val_ptr {i off : Nat} {v : Value} (h : val w g (.ptr i off) v) : ∃ b, (g.β i = some b ∧ g.mp i = false) ∧ v = .pointer (some ⟨b, off, none⟩) := by
  obtain ⟨cs, h1, rfl⟩ := h
  cases h1 with
  | ptr _ _ b h hm => exact ⟨b, ⟨h, hm⟩, rfl⟩
theorem val_elem {d : D} {v : Value} (h : val w g (.elem d) v) : ∃ b off cs, v = .pointer (some ⟨b, off, none⟩) ∧ R w g d cs ∧ ∀ m u, cs[m]? = some u → g.ok b (off + m) ∧ w.cell? ⟨b, off + m, none⟩ = some u := by
  obtain ⟨cs, h1, rfl⟩ := h
  cases h1 with
  | elem _ b off cs h hc => exact ⟨b, off, cs, rfl, h, hc⟩
theorem val_agg {l : List D} {v : Value} (h : val w g (.agg l) v) : ∃ vs : List Value, v = .agg vs.toArray ∧ R w g (.agg l) vs := by
  obtain ⟨cs, h1, rfl⟩ := h
  exact ⟨cs, rfl, h1⟩
theorem val_of_R {d : D} {v : Value} (h : R w g d [v]) (ha : d.isAgg = false) : val w g d v := val.of1 ⟨[v], h, by cases d <;> first | rfl | simp [D.isAgg] at ha⟩
theorem val_of_agg {l : List D} {vs : List Value} (h : R w g (.agg l) vs) : val w g (.agg l) (.agg vs.toArray) := val.of1 ⟨vs, h, rfl⟩
theorem R_agg_at {l : List D} {vs : List Value} (h : R w g (.agg l) vs) (j : Nat) (hj : j < l.length) : ∃ h' : j < vs.length, R w g l[j] [vs[j]] := by
  cases h with
  | agg _ _ hl hh => exact ⟨by omega, hh j hj (by omega)⟩
theorem R_agg_len {l : List D} {vs : List Value} (h : R w g (.agg l) vs) : l.length = vs.length := by
  cases h with
  | agg _ _ hl hh => exact hl
theorem R_agg_of {l : List D} {vs : List Value} (hl : l.length = vs.length) (h : ∀ (j : Nat) (h : j < l.length) (h' : j < vs.length), R w g l[j] [vs[j]]) : R w g (.agg l) vs := .agg l vs hl h
theorem R_agg_sub {l : List D} {vs : List Value} (h : R w g (.agg l) vs) (a n : Nat) : R w g (.agg ((l.drop a).take n)) ((vs.drop a).take n) := by
  have hl := R_agg_len h
  refine R_agg_of (by simp [hl]) (fun j h1 h2 => ?_)
  simp only [List.getElem_take, List.getElem_drop]
  obtain ⟨_, r⟩ := R_agg_at h (a + j) (by simp at h1; omega)
  exact r
theorem R_agg_append {l m : List D} {vs us : List Value} (h : R w g (.agg l) vs) (k : R w g (.agg m) us) : R w g (.agg (l ++ m)) (vs ++ us) := by
  have hl := R_agg_len h
  have hk := R_agg_len k
  refine R_agg_of (by simp [hl, hk]) (fun j h1 h2 => ?_)
  by_cases hj : j < l.length
  · rw [List.getElem_append_left hj, List.getElem_append_left (by omega)]
    obtain ⟨_, r⟩ := R_agg_at h j hj
    exact r
  · rw [List.getElem_append_right (by omega), List.getElem_append_right (by omega)]
    simp only [List.length_append] at h1
    obtain ⟨_, r⟩ := R_agg_at k (j - l.length) (by omega)
    simpa [hl] using r
/-- a cell's datum is no struct -/
theorem R_cell_notAgg {l : List D} {vs : List Value} (h : R w g (.agg l) vs) (j : Nat) (hj : j < l.length) (hd : l[j].isAgg = false) (hj' : j < vs.length) : val w g l[j] vs[j] := by
  obtain ⟨_, r⟩ := R_agg_at h j hj
  exact val_of_R r hd

theorem ev_val {fr : List D} {a : Act} (hf : ∀ (t : Nat) (d : D), fr[t]? = some d → ∃ v, a.tmps[t]? = some v ∧ val w g d v) (hl : fr.length = a.tmps.size) (x : Operand) (hx : (ev fr x).good = true ∨ ∃ t, x = .tmp t) : val w g (ev fr x) (a.eval x) := by
  cases x with
  | tmp t =>
    simp only [ev, Act.eval]
    cases h : fr[t]? with
    | none =>
      have : a.tmps.size ≤ t := by rw [← hl]; exact List.getElem?_eq_none_iff.1 h
      simp only [Option.getD_none, val]
      simp [Array.getD_eq_getD_getElem?, Array.getElem?_eq_none this]
    | some d =>
      obtain ⟨v, h1, h2⟩ := hf t d h
      simp only [Option.getD_some, Array.getD_eq_getD_getElem?, h1]
      exact h2
  | const v =>
    simp only [ev, Act.eval] at hx ⊢
    cases h : ofValue v with
    | none =>
      rw [h] at hx
      rcases hx with hx | ⟨t, hx⟩
      · simp [D.good] at hx
      · cases hx
    | some d =>
      simp only [Option.getD_some]
      refine val_of_R (ofValue_R h) ?_
      unfold ofValue at h
      split at h <;> (try split at h) <;> cases h <;> rfl
  | global i =>
    rcases hx with hx | ⟨t, hx⟩
    · simp [ev, D.good] at hx
    · cases hx
  | func f =>
    exact val_of_R (.fn f [] [] rfl (fun d h => by cases h) (fun j h => absurd h (Nat.not_lt_zero _))) rfl
end

end Go.Proofs.Ytjikokmhknnnoaa
