/- Data without memory: ints, bools, strings, structs, slices as lists, pointers to boxes; how data read in a world. No program in sight. -/
import Derived.WalkKit
import Derived.Lib.Hide
import Derived.Maps.AppendAt
import Derived.RangeFuncNested
import Derived.RangeFuncCalls
import Derived.OrdersIn
import Derived.LoopNIn
import Derived.KernelRfl
namespace Go.Proofs.Ytmglacjcefajlaa
open Go.RowKit
theorem zg0 {α : Type _} {a : α} {l : List α} : (a :: l)[0]? = some a := List.getElem?_cons_zero
theorem zg1 {α : Type _} {a : α} {i : Nat} {l : List α} : (a :: l)[i + 1]? = l[i]? := List.getElem?_cons_succ
theorem zgd {α : Type _} {x a : α} : (some x).getD a = x := rfl
theorem zmo {α β : Type _} {x : α} {f : α → β} : (some x).map f = some (f x) := rfl
theorem zs0 {α : Type _} {a b : α} {l : List α} : (a :: l).set 0 b = b :: l := rfl
theorem zs1 {α : Type _} {a b : α} {n : Nat} {l : List α} : (a :: l).set (n + 1) b = a :: l.set n b := rfl
theorem zlc {α : Type _} {a : α} {l : List α} : (a :: l).length = l.length + 1 := rfl
theorem zln {α : Type _} : ([] : List α).length = 0 := rfl
theorem zd0 {α : Type _} {l : List α} : l.drop 0 = l := rfl
theorem zna {α : Type _} (l : List α) : [] ++ l = l := rfl
theorem zca {α : Type _} {a : α} {l m : List α} : (a :: l) ++ m = a :: (l ++ m) := rfl
theorem zt0 {α : Type _} {l : List α} : l.take 0 = [] := rfl
theorem zmc {α β : Type _} {f : α → β} {a : α} {l : List α} : (a :: l).map f = f a :: l.map f := rfl
theorem zt1 {α : Type _} {a : α} {l : List α} {n : Nat} : (a :: l).take (n + 1) = a :: l.take n := rfl
theorem zmn {α β : Type _} {f : α → β} : ([] : List α).map f = [] := rfl
theorem zd1 {α : Type _} {a : α} {l : List α} {n : Nat} : (a :: l).drop (n + 1) = l.drop n := rfl
theorem zft : (false = true) = False := Bool.false_eq_true
theorem zlm {α β : Type _} (f : α → β) {l : List α} : (l.map f).length = l.length := List.length_map f
theorem zbs {α β : Type _} (a : α) (f : α → Option β) : (some a).bind f = f a := rfl
theorem zaa {α : Type _} (a b c : List α) : a ++ b ++ c = a ++ (b ++ c) := List.append_assoc a b c
theorem zla {α : Type _} {a b : List α} : (a ++ b).length = a.length + b.length := List.length_append
theorem zr1 {α : Type _} {a : α} {n : Nat} : List.replicate (n + 1) a = a :: List.replicate n a := rfl
theorem zr0 {α : Type _} {a : α} : List.replicate 0 a = [] := rfl
theorem zis {α : Type _} {a : α} : (some a).isSome = true := rfl
theorem znt {b : Bool} : ((!b) = true) = (b = false) := Bool.not_eq_true' b
theorem znf {b : Bool} : ((!b) = false) = (b = true) := Bool.not_eq_false' b
theorem zof {x y : Bool} : (x || y) = false ↔ x = false ∧ y = false := Bool.or_eq_false_iff
theorem zat {a b : Bool} : ((a && b) = true) = (a = true ∧ b = true) := Bool.and_eq_true a b


/-- what a slice's array is to the run: anybody's, none, or the run's own (with a stamp) -/
inductive Own where
 | imm | nil | own (s : Nat) (e : TypeId) | clip | nn | nl
 deriving DecidableEq
/-- what stays of it behind a call -/
def Own.st : Own → Own
 | .clip => .clip
 | _ => .imm
/-- nobody's array; no room behind; some array -/
def OwnOk (o : Own) (A : Option Addr) (len cap : Nat) : Prop := match o with
 | .nil => A = none ∧ cap = 0
 | .clip => cap = len
 | .nn => A.isSome = true
 | .nl => A = none
 | _ => True
theorem OwnOk.st {o : Own} {A : Option Addr} {len cap : Nat} (h : OwnOk o A len cap) : OwnOk o.st A len cap := by
 cases o <;> first | exact h | trivial

inductive D where
 | undef
 | bool (b : Bool)
 | int (k : IntKind) (n : Int)
 | str (s : ByteArray)
 | agg (l : List D)
 | slice (o : Own) (n : Nat) (l : List D)
 | ptr (i off : Nat)
 | elem (d : D)
 | fn (f : Nat) (c : List D)
 | tup (l : List D)
 | it (L : List (List D))
 | nfn
 | nmap
 | mref (i : Nat)
 | cmap (l : List D)
 | bsl (i off n len : Nat)
 | any

namespace D
def cells : D → List D
 | .agg l => l
 | d => [d]
def isAgg : D → Bool
 | .agg _ => true
 | _ => false
/-- a datum that a variable may hold -/
def good : D → Bool
 | .undef => false
 | .tup _ => false
 | _ => true

mutual
/-- no stamps -/
def strip : D → D
 | .agg l => .agg (strips l)
 | .slice o n l => .slice o.st (if l.isEmpty then 0 else n) (strips l)
 | .elem d => .elem (strip d)
 | .fn f c => .fn f (strips c)
 | .tup l => .tup (strips l)
 | .undef => .undef
 | .bool b => .bool b
 | .int k n => .int k n
 | .str s => .str s
 | .ptr i o => .ptr i o
 | .it L => .it L
 | .nfn => .nfn
 | .nmap => .nmap
 | .mref i => .mref i
 | .cmap l => .cmap (strips l)
 | .bsl i o n k => .bsl i o n k
 | .any => .any
def strips : List D → List D
 | [] => []
 | d :: r => strip d :: strips r
end
mutual
/-- only boxes below n are pointed to -/
def under (n : Nat) : D → Bool
 | .agg l => unders n l
 | .slice _ _ l => unders n l
 | .elem d => under n d
 | .fn _ c => unders n c
 | .tup l => unders n l
 | .ptr i _ => decide (i < n)
 | .undef => true
 | .bool _ => true
 | .int _ _ => true
 | .str _ => true
 | .it _ => true
 | .nfn => true
 | .nmap => true
 | .mref i => decide (i < n)
 | .cmap l => unders n l
 | .bsl i _ _ _ => decide (i < n)
 | .any => true
def unders (n : Nat) : List D → Bool
 | [] => true
 | d :: r => under n d && unders n r
end
theorem strips_map : ∀ l : List D, strips l = l.map strip
 | [] => rfl
 | d :: r => by simp only [strips, List.map_cons, strips_map r]
theorem unders_all (n : Nat) : ∀ l : List D, unders n l = l.all (under n)
 | [] => rfl
 | d :: r => by simp only [unders, List.all_cons, unders_all n r]
end D

def inr (k : IntKind) (n : Int) : Prop := k.min ≤ n ∧ n ≤ k.max
instance (k : IntKind) (n : Int) : Decidable (inr k n) := by unfold inr; infer_instance

theorem wrap_inr (k : IntKind) (n : Int) : inr k (k.wrap n) := by
 unfold inr
 cases k <;> simp only [IntKind.wrap, IntKind.min, IntKind.max, IntKind.bits, IntKind.signed] <;> simp <;> (try split) <;> omega

/-- what the proof knows of memory: cells that stay, the boxes' blocks, the stamped rows, blocks that stay whole, iterators, which boxes are maps -/
structure Gh where
 ok : Nat → Nat → Prop
 β : Nat → Option Nat
 ow : Nat → Option (Value × TypeId)
 pr : Nat → Prop
 it : Value → List (List D) → Prop
 mp : Nat → Bool
 kp : Nat → Prop
/-- a map's keys and elements, in turn -/
def ent (es : Array MapEntry) (j : Nat) : Value := match es[j / 2]? with
 | some e => if j % 2 = 0 then e.key else e.val
 | none => Go.undef

inductive R (w : World) (g : Gh) : D → List Value → Prop
 | bool (b : Bool) : R w g (.bool b) [.bool b]
 | int (k : IntKind) (n : Int) (h : inr k n) : R w g (.int k n) [.int k n]
 | str (s : ByteArray) (h : s.size ≤ 9223372036854775807) : R w g (.str s) [.string s]
 | agg (l : List D) (vs : List Value) (hl : l.length = vs.length) (h : ∀ (j : Nat) (h : j < l.length) (h' : j < vs.length), R w g l[j] [vs[j]]) : R w g (.agg l) vs
 | slice (o : Own) (n : Nat) (l : List D) (A : Option Addr) (cap : Nat) (cs : Nat → List Value) (hl : l.length ≤ cap) (hm : cap ≤ 9223372036854775807)
   (ho : ∀ s e, o = .own s e → g.ow s = some (.slice A l.length cap, e)) (hnil : OwnOk o A l.length cap) (hA : True) (h : ∀ (j : Nat) (h : j < l.length), R w g l[j] (cs j))
   (hn : ∀ j, j < l.length → (cs j).length = n)
   (hc : ∀ j, j < l.length → ∃ b off, A = some ⟨b, off, none⟩ ∧ ∀ m u, (cs j)[m]? = some u → g.ok b (off + j * n + m) ∧ w.cell? ⟨b, off + j * n + m, none⟩ = some u) :
   R w g (.slice o n l) [.slice A l.length cap]
 | ptr (i off b : Nat) (h : g.β i = some b) (hm : g.mp i = false) : R w g (.ptr i off) [.pointer (some ⟨b, off, none⟩)]
 | elem (d : D) (b off : Nat) (cs : List Value) (h : R w g d cs) (hc : ∀ m u, cs[m]? = some u → g.ok b (off + m) ∧ w.cell? ⟨b, off + m, none⟩ = some u) : R w g (.elem d) [.pointer (some ⟨b, off, none⟩)]
 | fn (f : Nat) (c : List D) (vs : List Value) (hl : c.length = vs.length) (ha : ∀ d ∈ c, d.isAgg = false) (h : ∀ (j : Nat) (h : j < c.length) (h' : j < vs.length), R w g c[j] [vs[j]]) : R w g (.fn f c) [.func (.func f) #[] vs.toArray]
 | it (L : List (List D)) (gf : Nat) (lb : Array Value) (h : g.it (.func (.func gf) #[] lb) L) : R w g (.it L) [.func (.func gf) #[] lb]
 | nfn : R w g .nfn [.nilFunc]
 | nmap : R w g .nmap [.map none]
 | mref (i b : Nat) (h : g.β i = some b) (hm : g.mp i = true) : R w g (.mref i) [.map (some b)]
 | cmap (l : List D) (b : Nat) (es : Array MapEntry) (clock : Nat) (hp : g.pr b) (hh : w.heap[b]? = some (.map es clock)) (hl : l.length = 2 * es.size) (h : ∀ (j : Nat) (h : j < l.length), R w g l[j] [ent es j]) : R w g (.cmap l) [.map (some b)]
 | bsl (i off n len b cap : Nat) (h : g.β i = some b) (hm : g.mp i = false) (hc : len ≤ cap) (hm' : cap ≤ 9223372036854775807) (hn : 0 < n) : R w g (.bsl i off n len) [.slice (some ⟨b, off, none⟩) len cap]
 | bpt (i off len b : Nat) (h : g.β i = some b) (hm : g.mp i = false) : R w g (.bsl i off 0 len) [.pointer (some ⟨b, off, none⟩)]
 | any (v : Value) (h : v.oneCell' = true) (hb : ∀ b, v ≠ .bool b) : R w g .any [v]

/-- memory and what is known of it have grown -/
structure Ext (g : Gh) (w : World) (g' : Gh) (w' : World) : Prop where
 ok : ∀ b o, g.ok b o → g'.ok b o
 β : ∀ i b, g.β i = some b → g'.β i = some b
 ow : ∀ s x, g.ow s = some x → g'.ow s = some x
 cell : ∀ b o, g.ok b o → w'.cell? ⟨b, o, none⟩ = w.cell? ⟨b, o, none⟩
 pr : ∀ b, g.pr b → g'.pr b ∧ w'.heap[b]? = w.heap[b]?
 it : ∀ v L, g.it v L → g'.it v L
 mp : ∀ i b, g.β i = some b → g'.mp i = g.mp i
 kp : ∀ b, g.kp b → g'.kp b ∧ w'.heap[b]? = w.heap[b]? ∧ (∀ o, g'.ok b o → g.ok b o) ∧ (g'.pr b → g.pr b)
 size : w.heap.size ≤ w'.heap.size
theorem Ext.refl (g : Gh) (w : World) : Ext g w g w := ⟨fun _ _ h => h, fun _ _ h => h, fun _ _ h => h, fun _ _ _ => rfl, fun _ h => ⟨h, rfl⟩, fun _ _ h => h, fun _ _ _ => rfl, fun _ h => ⟨h, rfl, fun _ q => q, fun q => q⟩, Nat.le_refl _⟩
theorem Ext.trans {g1 g2 g3 : Gh} {w1 w2 w3 : World} (h : Ext g1 w1 g2 w2) (k : Ext g2 w2 g3 w3) : Ext g1 w1 g3 w3 :=
 ⟨fun b o x => k.ok b o (h.ok b o x), fun i b x => k.β i b (h.β i b x), fun s x y => k.ow s x (h.ow s x y), fun b o x => (k.cell b o (h.ok b o x)).trans (h.cell b o x), fun b x => ⟨(k.pr b (h.pr b x).1).1, (k.pr b (h.pr b x).1).2.trans (h.pr b x).2⟩, fun v L x => k.it v L (h.it v L x), fun i b x => (k.mp i b (h.β i b x)).trans (h.mp i b x), fun b x => let ⟨x1, x2, x3, x4⟩ := h.kp b x; let ⟨y1, y2, y3, y4⟩ := k.kp b x1; ⟨y1, y2.trans x2, fun o q => x3 o (y3 o q), fun q => x4 (y4 q)⟩, Nat.le_trans h.size k.size⟩

theorem R.ext {g g' : Gh} {w w' : World} (e : Ext g w g' w') {d : D} {cs : List Value} (h : R w g d cs) : R w' g' d cs := by
 induction h with
 | bool b => exact .bool b
 | int k n h => exact .int k n h
 | str s h => exact .str s h
 | agg l vs hl _ ih => exact .agg l vs hl ih
 | slice o n l A cap cs hl hm ho hnil hA _ hn hc ih =>
  refine .slice o n l A cap cs hl hm (fun s t q => e.ow _ _ (ho s t q)) hnil hA ih hn (fun j hj => ?_)
  obtain ⟨b, off, q, hh⟩ := hc j hj
  exact ⟨b, off, q, fun m u hu => ⟨e.ok _ _ (hh m u hu).1, (e.cell _ _ (hh m u hu).1).trans (hh m u hu).2⟩⟩
 | ptr i off b h hm => exact .ptr i off b (e.β _ _ h) ((e.mp _ _ h).trans hm)
 | it L gf lb h => exact .it L gf lb (e.it _ _ h)
 | nfn => exact .nfn
 | nmap => exact .nmap
 | mref i b h hm => exact .mref i b (e.β _ _ h) ((e.mp _ _ h).trans hm)
 | cmap l b es clock hp hh hl _ ih => exact .cmap l b es clock (e.pr _ hp).1 ((e.pr _ hp).2.trans hh) hl ih
 | bsl i off n len b cap h hm hc hm' hn => exact .bsl i off n len b cap (e.β _ _ h) ((e.mp _ _ h).trans hm) hc hm' hn
 | bpt i off len b h hm => exact .bpt i off len b (e.β _ _ h) ((e.mp _ _ h).trans hm)
 | any v h hb => exact .any v h hb
 | elem d b off cs _ hc ih => exact .elem d b off cs ih (fun m u hu => ⟨e.ok _ _ (hc m u hu).1, (e.cell _ _ (hc m u hu).1).trans (hc m u hu).2⟩)
 | fn f c vs hl ha _ ih => exact .fn f c vs hl ha ih

theorem R.len {g : Gh} {w : World} {d : D} {cs : List Value} (h : R w g d cs) : cs.length = d.cells.length := by
 cases h <;> simp_all [D.cells]
theorem R.one {g : Gh} {w : World} {d : D} {cs : List Value} (h : R w g d cs) : ∀ u ∈ cs, u.oneCell' = true := by
 induction h with
 | agg l vs hl _ ih =>
  intro u hu
  obtain ⟨j, hj, rfl⟩ := List.getElem_of_mem hu
  exact ih j (by omega) hj _ (by simp)
 | any v h hb => intro u hu; simp only [List.mem_singleton] at hu; subst hu; exact h
 | _ => intro u hu; simp only [List.mem_singleton] at hu; subst hu; rfl
theorem R.single {g : Gh} {w : World} {d : D} {cs : List Value} (h : R w g d cs) (ha : d.isAgg = false) : ∃ v, cs = [v] ∧ v.oneCell' = true := by
 have h1 := h.one
 cases h <;> first | exact ⟨_, rfl, h1 _ (by simp)⟩ | simp [D.isAgg] at ha
theorem R.good {g : Gh} {w : World} {d : D} {cs : List Value} (h : R w g d cs) : d.good = true := by cases h <;> rfl

/-- a datum's cells, one by one -/
theorem R.cell {g : Gh} {w : World} {d : D} {cs : List Value} (h : R w g d cs) : R w g (.agg d.cells) cs := by
 cases h with
 | agg l _ hl h => exact .agg l _ hl h
 | bool b => exact .agg _ _ rfl (fun j h h' => by simp [D.cells] at h; subst h; exact .bool b)
 | int k n h0 => exact .agg _ _ rfl (fun j h h' => by simp [D.cells] at h; subst h; exact .int k n h0)
 | str s h0 => exact .agg _ _ rfl (fun j h h' => by simp [D.cells] at h; subst h; exact .str s h0)
 | slice o n l A cap cs hl hm ho hnil hA h1 hn hc => exact .agg _ _ rfl (fun j h h' => by simp [D.cells] at h; subst h; exact .slice o n l A cap cs hl hm ho hnil hA h1 hn hc)
 | ptr i off b h0 hm => exact .agg _ _ rfl (fun j h h' => by simp [D.cells] at h; subst h; exact .ptr i off b h0 hm)
 | it L gf lb h0 => exact .agg _ _ rfl (fun j h h' => by simp [D.cells] at h; subst h; exact .it L gf lb h0)
 | nfn => exact .agg _ _ rfl (fun j h h' => by simp [D.cells] at h; subst h; exact .nfn)
 | nmap => exact .agg _ _ rfl (fun j h h' => by simp [D.cells] at h; subst h; exact .nmap)
 | mref i b h0 hm => exact .agg _ _ rfl (fun j h h' => by simp [D.cells] at h; subst h; exact .mref i b h0 hm)
 | cmap l b es clock hp hh hl h0 => exact .agg _ _ rfl (fun j h h' => by simp [D.cells] at h; subst h; exact .cmap l b es clock hp hh hl h0)
 | bsl i off n len b cap h0 hm hc hm' hn => exact .agg _ _ rfl (fun j h h' => by simp [D.cells] at h; subst h; exact .bsl i off n len b cap h0 hm hc hm' hn)
 | bpt i off len b h0 hm => exact .agg _ _ rfl (fun j h h' => by simp [D.cells] at h; subst h; exact .bpt i off len b h0 hm)
 | any v h0 hb => exact .agg _ _ rfl (fun j h h' => by simp [D.cells] at h; subst h; exact .any v h0 hb)
 | elem d b off cs h0 hc => exact .agg _ _ rfl (fun j h h' => by simp [D.cells] at h; subst h; exact .elem d b off cs h0 hc)
 | fn f c vs hl ha h0 => exact .agg _ _ rfl (fun j h h' => by simp [D.cells] at h; subst h; exact .fn f c vs hl ha h0)

/-- the value of a datum, out of its cells -/
def pack (d : D) (cs : List Value) : Value := match d with
 | .agg _ => .agg cs.toArray
 | _ => cs.headD Go.undef
theorem R.packed {g : Gh} {w : World} {d : D} {cs : List Value} (h : R w g d cs) : (pack d cs).cells.toList = cs := by
 cases h with
 | any v h hb => cases v <;> simp_all [pack, Value.cells, Value.oneCell']
 | _ => simp [pack, Value.cells]
def val1 (w : World) (g : Gh) (d : D) (v : Value) : Prop := ∃ cs, R w g d cs ∧ v = pack d cs
def val (w : World) (g : Gh) : D → Value → Prop
 | .undef, v => v = Go.undef
 | .tup l, v => ∃ vs : List Value, v = .tuple vs.toArray ∧ l.length = vs.length ∧ ∀ (j : Nat) (h : j < l.length) (h' : j < vs.length), val1 w g l[j] vs[j]
 | d, v => val1 w g d v
theorem val1.ext {g g' : Gh} {w w' : World} (e : Ext g w g' w') {d : D} {v : Value} (h : val1 w g d v) : val1 w' g' d v := let ⟨cs, h1, h2⟩ := h; ⟨cs, h1.ext e, h2⟩
theorem val.ext {g g' : Gh} {w w' : World} (e : Ext g w g' w') {d : D} {v : Value} (h : val w g d v) : val w' g' d v := by
 cases d <;> simp only [val] at h ⊢ <;> first | exact h | exact h.ext e | (obtain ⟨vs, h1, h2, h3⟩ := h; exact ⟨vs, h1, h2, fun j a b => (h3 j a b).ext e⟩)
theorem val.of1 {g : Gh} {w : World} {d : D} {v : Value} (h : val1 w g d v) : val w g d v := by
 have h' := h
 obtain ⟨cs, h1, h2⟩ := h'
 cases h1 <;> exact h
theorem val.to1 {g : Gh} {w : World} {d : D} {v : Value} (h : val w g d v) (hg : d.good = true) : val1 w g d v := by
 cases d <;> first | exact h | simp [D.good] at hg
theorem val1.val_cells {g : Gh} {w : World} {d : D} {v : Value} (h : val1 w g d v) : R w g d v.cells.toList := by
 obtain ⟨cs, h1, rfl⟩ := h
 rw [h1.packed]; exact h1

theorem D.strip_isAgg (d : D) : d.strip.isAgg = d.isAgg := by
 cases d <;> simp [D.strip, D.isAgg]
/-- a datum's reading does not look at the blocks that are kept -/
structure Sub (g g' : Gh) : Prop where
 ok : ∀ b o, g.ok b o → g'.ok b o
 β : ∀ i b, g.β i = some b → g'.β i = some b
 ow : ∀ s x, g.ow s = some x → g'.ow s = some x
 pr : ∀ b, g.pr b → g'.pr b
 it : ∀ v L, g.it v L → g'.it v L
 mp : ∀ i b, g.β i = some b → g'.mp i = g.mp i
theorem R.sub {g g' : Gh} {w : World} (e : Sub g g') {d : D} {cs : List Value} (h : R w g d cs) : R w g' d cs := by
 induction h with
 | bool b => exact .bool b
 | int k n h => exact .int k n h
 | str s h => exact .str s h
 | agg l vs hl _ ih => exact .agg l vs hl ih
 | slice o n l A cap cs hl hm ho hnil hA _ hn hc ih =>
  refine .slice o n l A cap cs hl hm (fun s t q => e.ow _ _ (ho s t q)) hnil hA ih hn (fun j hj => ?_)
  obtain ⟨b, off, q, hh⟩ := hc j hj
  exact ⟨b, off, q, fun m u hu => ⟨e.ok _ _ (hh m u hu).1, (hh m u hu).2⟩⟩
 | ptr i off b h hm => exact .ptr i off b (e.β _ _ h) ((e.mp _ _ h).trans hm)
 | it L gf lb h => exact .it L gf lb (e.it _ _ h)
 | nfn => exact .nfn
 | nmap => exact .nmap
 | mref i b h hm => exact .mref i b (e.β _ _ h) ((e.mp _ _ h).trans hm)
 | cmap l b es clock hp hh hl _ ih => exact .cmap l b es clock (e.pr _ hp) hh hl ih
 | bsl i off n len b cap h hm hc hm' hn => exact .bsl i off n len b cap (e.β _ _ h) ((e.mp _ _ h).trans hm) hc hm' hn
 | bpt i off len b h hm => exact .bpt i off len b (e.β _ _ h) ((e.mp _ _ h).trans hm)
 | any v h hb => exact .any v h hb
 | elem d b off cs _ hc ih => exact .elem d b off cs ih (fun m u hu => ⟨e.ok _ _ (hc m u hu).1, (hc m u hu).2⟩)
 | fn f c vs hl ha _ ih => exact .fn f c vs hl ha ih
theorem val.sub {g g' : Gh} {w : World} (e : Sub g g') {d : D} {v : Value} (h : val w g d v) : val w g' d v := by
 cases d with
 | undef => exact h
 | tup l =>
  obtain ⟨vs, h1, h2, h3⟩ := h
  exact ⟨vs, h1, h2, fun j a b => let ⟨cs, q1, q2⟩ := h3 j a b; ⟨cs, q1.sub e, q2⟩⟩
 | _ =>
  obtain ⟨cs, q1, q2⟩ := h
  exact ⟨cs, q1.sub e, q2⟩
structure Wid (g g' : Gh) : Prop where
 ok : ∀ b o, g.ok b o → g'.ok b o
 pr : ∀ b, g.pr b → g'.pr b
 it : ∀ v L, g.it v L → g'.it v L
/-- no stamps, no boxes: the ghosts do not matter -/
theorem R.free {g : Gh} {w : World} {d : D} {cs : List Value} (h : R w g d cs) (hu : d.under 0 = true) : ∀ g', Wid g g' → R w g' d.strip cs := by
 induction h with
 | bool b => intro g' _; exact .bool b
 | int k n h => intro g' _; exact .int k n h
 | str s h => intro g' _; exact .str s h
 | it L gf lb h => intro g' hg; exact .it L gf lb (hg.it _ _ h)
 | nfn => intro g' _; exact .nfn
 | nmap => intro g' _; exact .nmap
 | mref i b h hm => simp [D.under] at hu
 | bsl i off n len b cap h hm hc hm' hn => simp [D.under] at hu
 | bpt i off len b h hm => simp [D.under] at hu
 | any v h hb => intro g' _; exact .any v h hb
 | cmap l b es clock hp hh hl _ ih =>
  intro g' hg
  simp only [D.strip, D.strips_map]
  simp only [D.under, D.unders_all, List.all_eq_true] at hu
  refine .cmap _ b es clock (hg.pr _ hp) hh (by simpa using hl) (fun j h => ?_)
  rw [List.getElem_map]
  exact ih j (by simpa using h) (hu _ (List.getElem_mem _)) g' hg
 | agg l vs hl _ ih =>
  intro g' hg
  simp only [D.strip, D.strips_map]
  simp only [D.under, D.unders_all, List.all_eq_true] at hu
  refine .agg _ _ (by simpa using hl) (fun j h h' => ?_)
  rw [List.getElem_map]
  exact ih j (by simpa using h) h' (hu _ (List.getElem_mem _)) g' hg
 | slice o n l A cap cs hl hm ho hnil hA _ hn hc ih =>
  intro g' hg
  simp only [D.under, D.unders_all, List.all_eq_true] at hu
  simp only [D.strip, D.strips_map]
  have := R.slice (w := w) (g := g') o.st (if l.isEmpty then 0 else n) (l.map D.strip) A cap cs (by simpa using hl) hm (fun s e q => by cases o <;> cases q) (by rw [List.length_map]; exact hnil.st) hA
   (fun j h => by rw [List.getElem_map]; exact ih j (by simpa using h) (hu _ (List.getElem_mem _)) g' hg)
   (fun j h => by
    have h1 : j < l.length := by simpa using h
    rw [if_neg (by cases l with | nil => simp at h1 | cons a r => simp)]
    exact hn j h1)
   (fun j h => by
    have h1 : j < l.length := by simpa using h
    rw [if_neg (by cases l with | nil => simp at h1 | cons a r => simp)]
    obtain ⟨b, off, q, hh⟩ := hc j h1
    exact ⟨b, off, q, fun m u hu => ⟨hg.ok _ _ (hh m u hu).1, (hh m u hu).2⟩⟩)
  simpa using this
 | ptr i off b h hm => simp [D.under] at hu
 | elem d b off cs _ hc ih =>
  intro g' hg
  simp only [D.strip]
  exact .elem _ b off cs (ih (by simpa [D.under] using hu) g' hg) (fun m u hu => ⟨hg.ok _ _ (hc m u hu).1, (hc m u hu).2⟩)
 | fn f c vs hl ha _ ih =>
  intro g' hg
  simp only [D.strip, D.strips_map]
  simp only [D.under, D.unders_all, List.all_eq_true] at hu
  refine .fn f _ vs (by simpa using hl) (fun d hd => by obtain ⟨x, hx, rfl⟩ := List.mem_map.1 hd; rw [D.strip_isAgg]; exact ha x hx) (fun j h h' => ?_)
  rw [List.getElem_map]
  exact ih j (by simpa using h) h' (hu _ (List.getElem_mem _)) g' hg
theorem pack_of {d d' : D} {cs : List Value} (h : d.isAgg = d'.isAgg) : pack d cs = pack d' cs := by
 cases d <;> cases d' <;> simp_all [pack, D.isAgg]
theorem val1.free {g : Gh} {w : World} {d : D} {v : Value} (h : val1 w g d v) (hu : d.under 0 = true) (g' : Gh) (hg : Wid g g') : val1 w g' d.strip v := by
 obtain ⟨cs, h1, h2⟩ := h
 exact ⟨cs, h1.free hu g' hg, h2.trans (pack_of (D.strip_isAgg d).symm)⟩
theorem val.free {g : Gh} {w : World} {d : D} {v : Value} (h : val w g d v) (hu : d.under 0 = true) (g' : Gh) (hg : Wid g g') : val w g' d.strip v := by
 by_cases hd : d.good = true
 ·exact val.of1 ((h.to1 hd).free hu g' hg)
 ·cases d <;> first | exact h | skip
  all_goals first | (simp [D.good] at hd; done) | skip
  rename_i l
  simp only [D.strip, D.strips_map]
  obtain ⟨vs, h1, h2, h3⟩ := h
  simp only [D.under, D.unders_all, List.all_eq_true] at hu
  refine ⟨vs, h1, by simpa using h2, fun j a b => ?_⟩
  rw [List.getElem_map]
  exact (h3 j (by simpa using a) b).free (hu _ (List.getElem_mem _)) g' hg

end Go.Proofs.Ytmglacjcefajlaa
