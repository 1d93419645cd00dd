/- Clone: a copy in new memory. -/
import Derived.Test.YtjikokmhknnnoaaBA
import Derived.Test.YtjikokmhknnnoaaKinds
import Derived.Test.YtjikokmhknnnoaaBB
import Derived.Test.YtjikokmhknnnoaaKinds2
import Derived.Test.YtjikokmhknnnoaaBJ
import Derived.Test.YtjikokmhknnnoaaPred
import Derived.WalkSpells
import Derived.Lib.SliceRun
import Derived.Test.YtjikokmhknnnoaaIter
import Derived.Maps.OwnIn
import Derived.OwnWalkIn
import Derived.TacticsInMore
import Derived.LoopNIn
import Derived.LoopIn
import Derived.Shelf.RegionOpen
import Derived.Outline
import Derived.Laws.EntriesVeiled
import Derived.Test.YtjikokmhknnnoaaBK


/- Valid expressions: the walk of the reference. -/
namespace Go.Proofs.Ytjikokmhknnnoaa
open Go.RowKit Go.Shelf

theorem Rep.row {w : World} {B : Nat} {k n : Int} {s : ByteArray} {c : List Tr} {A : Option Addr} {cap len : Nat} (hr : Rep w B (.mk k n s c) (nodeV k n s A len cap)) : len = c.length ∧ Fits k n s c.length cap ∧ RepRow w B c A 0 := by
 simp only [Rep] at hr
 obtain ⟨A', cap', he, hf, hrow⟩ := hr
 simp only [nodeV, Value.agg.injEq, Array.mk.injEq, List.cons.injEq, Value.slice.injEq, true_and, and_true] at he
 obtain ⟨rfl, hl, rfl⟩ := he
 exact ⟨hl, hf, hrow⟩

end Go.Proofs.Ytjikokmhknnnoaa

/- Valid statements and blocks: the walks of the reference. -/
namespace Go.Proofs.Ytjikokmhknnnoaa
open Go.RowKit Go.Shelf
end Go.Proofs.Ytjikokmhknnnoaa

/- Valid statements and blocks: the walks of the reference, the statement itself. -/
namespace Go.Proofs.Ytjikokmhknnnoaa
open Go.RowKit Go.Shelf
end Go.Proofs.Ytjikokmhknnnoaa

/- Valid statements: the walk of the reference, its loop. -/
namespace Go.Proofs.Ytjikokmhknnnoaa
open Go.RowKit Go.Shelf
end Go.Proofs.Ytjikokmhknnnoaa

/- Valid statements and blocks of the reference, together. -/
namespace Go.Proofs.Ytjikokmhknnnoaa
open Go.RowKit Go.Shelf
end Go.Proofs.Ytjikokmhknnnoaa

/- count, Big, Size, Depth. -/
namespace Go.Proofs.Ytjikokmhknnnoaa
open Go.RowKit Go.Shelf

mutual
def cnt : Tr → Nat → Int
 | .mk _ _ _ c, d => if d = 0 then -1 else cntL c (d - 1) 1
def cntL : List Tr → Nat → Int → Int
 | [], _, s => s
 | t :: r, d, s => if cnt t d < 0 ∨ 1000 < s then -1 else cntL r d (s + cnt t d)
end

def bigB (t : Tr) : Bool := decide (cnt t 100 < 0) || decide (400 < cnt t 100)
set_option maxHeartbeats 400000 in
theorem depth_any (t : Tr) : ∀ (v : Value) (w : World), Rep w w.heap.size t v → t.depth ≤ 4611686018427387904 →
  Calls Try.prog 36 #[v] w fun e w' => e = .returned (.int .i64 t.depth) ∧ Below w.heap.size w w' := by
 induction t using Tr.ind with
 | h k n s c ih =>
  intro v w hr hsz
  simp only [Rep] at hr
  obtain ⟨A, cap, rfl, hf, hrow⟩ := hr
  have hl := hf.l1
  have hc := hf.c1
  have HR := Lib.hid hrow
  have IH := Lib.hid ih
  clear hrow ih
  unfold nodeV
  simp only [Tr.depth] at hsz
  go_enter Try.func36, Try.ntmps36
  go_wp2_with fail
  go_loopw [3, 9] (fun s3 s9 wr => ∃ i : Nat, i ≤ c.length ∧ s9 = .int .i64 i ∧ s3 = .int .i64 ((Tr.depths (c.take i) : Nat) : Int) ∧ Below (w.heap.size + 1) (w.alloc (.cells #[.int .u8 k, .int .i64 n, .string s, .slice A c.length cap] 28)) wr)
   (fun _ s9 _ => c.length - (intOf s9).toNat)
  case atStart => exact ⟨0, Nat.zero_le _, rfl, by simp [Tr.depths], Below.refl _ _⟩
  case round =>
   obtain ⟨i, hi, rfl, rfl, hb⟩ := hrel
   have hbb : Below w.heap.size w wr := ((Below.refl _ _).alloc (Nat.le_refl _) _).trans (hb.mono (by omega))
   obtain ⟨x0, x1, x2, x3⟩ := box_at (by simpa using hb)
   have hle := Tr.depths_take_le c i
   by_cases hlt : i < c.length
   ·obtain ⟨b, off, A', cap', rfl, hbB, h0, h1, h2, h3, hk⟩ := (HR.out.below hbb).kid i hlt
    have htk := Tr.depths_take c i hlt
    have hmem : c[i] ∈ c := List.getElem_mem hlt
    have hsz1 := Tr.depth_le_of_mem hmem
    have HTK := Lib.hid htk
    clear htk
    have hws := hbb.size
    go_wp2_with fail
    refine (IH.out _ hmem _ _ (hk.alloc hws _) (by omega)).mono ?_
    rintro e w1 ⟨rfl, hb1⟩
    have hb2 := (hb.alloc (by have := hb.size; simp at this; omega) _).trans (hb1.mono (by have := hb.size; simp at this ⊢; omega))
    clear hb1
    go_wp2_with fail
    go_roundw
    case rel => exact ⟨i + 1, by omega, by go_num, by rw [HTK.out]; first | go_num | (congr 1; omega) | (simp; omega), hb2⟩
    case measure => simp [intOf]; omega
   ·go_wp2_with fail
    go_ret
    obtain rfl : i = c.length := by omega
    exact ⟨by simp [Tr.depth], hbb⟩

end Go.Proofs.Ytjikokmhknnnoaa

/- The equality of trees: ast.Equal, slices.EqualFunc over nodes, the reference's Equal. -/
namespace Go.Proofs.Ytjikokmhknnnoaa
open Go.RowKit Go.Shelf
end Go.Proofs.Ytjikokmhknnnoaa

/- An act behind a region: the act ahead, but for the region's slots. -/
namespace Go.Proofs.Ytjikokmhknnnoaa
end Go.Proofs.Ytjikokmhknnnoaa

/- The reference's equality of trees. -/
namespace Go.Proofs.Ytjikokmhknnnoaa
open Go.RowKit Go.Shelf
end Go.Proofs.Ytjikokmhknnnoaa

/- Slices of ints: read, cloned. -/
namespace Go.Proofs.Ytjikokmhknnnoaa
open Go.RowKit Go.Shelf

/-- the slice value v reads as the ints p; its cells lie in a block that is ok -/
def IntsAt (w : World) (ok : Nat → Prop) (v : Value) (p : List Int) : Prop :=
 ∃ (A : Option Addr) (cap : Nat), v = .slice A p.length cap ∧ p.length ≤ cap ∧ cap ≤ 9223372036854775807 ∧ (A = none → cap = 0) ∧
  ∀ (j : Nat) (h : j < p.length), ∃ b off, A = some ⟨b, off, none⟩ ∧ ok b ∧ w.cell? ⟨b, off + j, none⟩ = some (.int .i64 p[j])

theorem IntsAt.keep {w w' : World} {ok ok' : Nat → Prop} {v : Value} {p : List Int} (h : IntsAt w ok v p) (hB : ∀ b, ok b → ok' b) (hk : ∀ b o, ok b → w'.cell? ⟨b, o, none⟩ = w.cell? ⟨b, o, none⟩) : IntsAt w' ok' v p := by
 obtain ⟨A, cap, hv, h1, h2, hn, hc⟩ := h
 refine ⟨A, cap, hv, h1, h2, hn, fun j hj => ?_⟩
 obtain ⟨b, off, hA, hb, hcell⟩ := hc j hj
 exact ⟨b, off, hA, hB b hb, by rw [hk b _ hb]; exact hcell⟩
theorem IntsAt.nil (w : World) (ok : Nat → Prop) : IntsAt w ok (.slice none 0 0) [] := ⟨none, 0, rfl, Nat.le_refl _, by omega, fun _ => rfl, fun j h => absurd h (Nat.not_lt_zero _)⟩
theorem IntsAt.weak {w : World} {ok ok' : Nat → Prop} {v : Value} {p : List Int} (h : IntsAt w ok v p) (hB : ∀ b, ok b → ok' b) : IntsAt w ok' v p := h.keep hB (fun _ _ _ => rfl)
theorem IntsAt.below {w w' : World} {v : Value} {p : List Int} (h : IntsAt w (fun b => b < w.heap.size) v p) (hb : Below w.heap.size w w') : IntsAt w' (fun b => b < w'.heap.size) v p :=
 h.keep (fun _ hb' => Nat.lt_of_lt_of_le hb' hb.size) (fun b o hb' => hb.cell (p := ⟨b, o, none⟩) hb')

end Go.Proofs.Ytjikokmhknnnoaa

/- Walk: the state of the iterator, and what its steps do to it. -/
namespace Go.Proofs.Ytjikokmhknnnoaa
open Go.RowKit Go.Shelf
/-- the block of the path's own array -/
def pathOwn (W : World) (bp : Nat) : Option Nat :=
 match W.heap[bp]? with
 | some (.cells c _ _) => (c[0]?).bind Value.ownBlock
 | _ => none

/-- what a visit leaves -/
structure Step (bp : Nat) (O O' : Nat → Prop) (W W' : World) : Prop where
 size : W.heap.size ≤ W'.heap.size
 sub : ∀ b, O b → O' b
 same : ∀ b, O b → b ≠ bp → pathOwn W bp ≠ some b → W'.heap[b]? = W.heap[b]?
 own : ∀ g, pathOwn W' bp = some g → pathOwn W bp = some g ∨ W.heap.size ≤ g

theorem Step.refl (bp : Nat) (O : Nat → Prop) (W : World) : Step bp O O W W := ⟨Nat.le_refl _, fun _ h => h, fun _ _ _ _ => rfl, fun _ h => .inl h⟩
theorem Step.trans {bp : Nat} {O O' O'' : Nat → Prop} {A B C : World} (h : Step bp O O' A B) (k : Step bp O' O'' B C) (hlt : ∀ b, O b → b < A.heap.size) : Step bp O O'' A C :=
 ⟨Nat.le_trans h.size k.size, fun b hb => k.sub b (h.sub b hb), fun b hb hne ho => by
  rw [k.same b (h.sub b hb) hne (fun e => (h.own b e).elim ho (fun e => by have := hlt b hb; omega)), h.same b hb hne ho], fun g hg => by
  rcases k.own g hg with e | e
  ·exact h.own g e
  ·exact .inr (Nat.le_trans h.size e)⟩
section
variable {by_ bp bv l base : Nat} {O : Nat → Prop} {p : List Int} {W W' : World}
end
end Go.Proofs.Ytjikokmhknnnoaa

/- Walk: a number pushed onto the path, and taken off again. -/
namespace Go.Proofs.Ytjikokmhknnnoaa
open Go.RowKit Go.Shelf
section
variable {by_ bp bv l base : Nat} {O : Nat → Prop} {p : List Int} {W : World}
end

end Go.Proofs.Ytjikokmhknnnoaa

/- Walk: the visit of one node, by induction on the tree. -/
namespace Go.Proofs.Ytjikokmhknnnoaa
open Go.RowKit Go.Shelf
/-- a kid of the row, cell by cell -/
theorem RowP.kid {w : World} {ok : Nat → Prop} {c : List Tr} {A : Option Addr} (h : RowP w ok c A 0) (j : Nat) (hj : j < c.length) :
  ∃ (b off : Nat) (A' : Option Addr) (cap' : Nat), A = some ⟨b, off, none⟩ ∧ ok b ∧ w.cell? ⟨b, off + j * 4, none⟩ = some (.int .u8 c[j].kind) ∧ w.cell? ⟨b, off + j * 4 + 1, none⟩ = some (.int .i64 c[j].num) ∧
   w.cell? ⟨b, off + j * 4 + 2, none⟩ = some (.string c[j].name) ∧ w.cell? ⟨b, off + j * 4 + 3, none⟩ = some (.slice A' c[j].kids.length cap') ∧
   RepP w ok c[j] (nodeV c[j].kind c[j].num c[j].name A' c[j].kids.length cap') := by
 obtain ⟨b, off, c0, c1, c2, c3, hA, hb, h0, h1, h2, h3, hr⟩ := rowP_at h j hj
 simp only [Nat.zero_add] at h0 h1 h2 h3
 obtain ⟨A', cap', hv, _, _⟩ := nodeOf hr
 have hv' := hv
 simp only [nodeV, Value.agg.injEq, Array.mk.injEq, List.cons.injEq, and_true] at hv'
 obtain ⟨rfl, rfl, rfl, rfl⟩ := hv'
 exact ⟨b, off, A', cap', hA, hb, h0, h1, h2, h3, hr⟩

end Go.Proofs.Ytjikokmhknnnoaa

/- Walk: the iterator, and the function that hands it out. -/
namespace Go.Proofs.Ytjikokmhknnnoaa
open Go.RowKit Go.Shelf
end Go.Proofs.Ytjikokmhknnnoaa

/- Contracts that were proved in memory, as functions of data. -/
namespace Go.Proofs.Ytjikokmhknnnoaa
open Go.RowKit

def orcN (f : Tr → Option D) : List D → Option D
 | [d] => (toTr d).bind f
 | _ => none
def orcS (f : ByteArray → Option D) : List D → Option D
 | [.str s] => f s
 | _ => none

def Fit (P : Program) (k : Nat) (o : List D → Option D) : Prop := ∀ args d, o args = some d → d.under 0 = true ∧ d.strip = d ∧ PContract P k args d

theorem vals_one {w : World} {g : Gh} {d : D} {vs : List Value} (h : vals w g [d] vs) : ∃ v, vs = [v] ∧ val w g d v := by
 obtain ⟨h1, h2⟩ := h
 match vs, h1 with
 | [v], _ => exact ⟨v, rfl, h2 0 (by simp) (by simp)⟩
theorem val_b (w : World) (g : Gh) (b : Bool) : val w g (.bool b) (.bool b) := val_of_R (.bool b) rfl

theorem fit_test {k : Nat} {p : Tr → Bool} (h : ∀ t, Tests k p t) : Fit Try.prog k (orcN fun t => some (.bool (p t))) := by
 intro args d ho
 unfold orcN at ho
 split at ho
 ·rename_i x
  rw [Option.bind_eq_some_iff] at ho
  obtain ⟨t, ht, e⟩ := ho
  cases e
  have hx := toTr_eq ht
  subst hx
  refine ⟨rfl, rfl, PContract.of_cells fun g vs w hlt hv => ?_⟩
  obtain ⟨v, rfl, hv1⟩ := vals_one hv
  refine (h t v w (rep_of_val hlt hv1)).mono ?_
  rintro e w' ⟨rfl, hb⟩
  exact ⟨_, rfl, hb, val_b _ _ _⟩
 ·cases ho
theorem fit_name {k : Nat} {p : ByteArray → Bool} (h : ∀ s : ByteArray, s.size ≤ 9223372036854775807 → ∀ w, Calls Try.prog k #[.string s] w fun e w' => e = .returned (.bool (p s)) ∧ Below w.heap.size w w') : Fit Try.prog k (orcS fun s => some (.bool (p s))) := by
 intro args d ho
 unfold orcS at ho
 split at ho
 ·rename_i s
  cases ho
  refine ⟨rfl, rfl, PContract.of_cells fun g vs w hlt hv => ?_⟩
  obtain ⟨v, rfl, hv1⟩ := vals_one hv
  obtain ⟨rfl, hs⟩ := val_str hv1
  refine (h s hs w).mono ?_
  rintro e w' ⟨rfl, hb⟩
  exact ⟨_, rfl, hb, val_b _ _ _⟩
 ·cases ho
theorem fit_num {k : Nat} {f : Tr → Nat} (h : ∀ t v w, Rep w w.heap.size t v → f t ≤ 4611686018427387904 → Calls Try.prog k #[v] w fun e w' => e = .returned (.int .i64 (f t)) ∧ Below w.heap.size w w') :
  Fit Try.prog k (orcN fun t => if f t ≤ 4611686018427387904 then some (.int .i64 (f t)) else none) := by
 intro args d ho
 unfold orcN at ho
 split at ho
 ·rename_i x
  rw [Option.bind_eq_some_iff] at ho
  obtain ⟨t, ht, e⟩ := ho
  split at e
  ·rename_i hle
   cases e
   have hx := toTr_eq ht
   subst hx
   refine ⟨rfl, rfl, PContract.of_cells fun g vs w hlt hv => ?_⟩
   obtain ⟨v, rfl, hv1⟩ := vals_one hv
   refine (h t v w (rep_of_val hlt hv1) hle).mono ?_
   rintro e w' ⟨rfl, hb⟩
   refine ⟨_, rfl, hb, val_of_R (.int _ _ ?_) rfl⟩
   simp only [inr, IntKind.min, IntKind.max, IntKind.bits, IntKind.signed]; simp; omega
  ·cases e
 ·cases ho
/-- the functions whose contracts were proved in memory -/
def orcB : List (Nat × (List D → Option D)) :=
 [(85, orcN fun t => some (.bool (exprB t))),
 (84, orcN fun t => some (.bool (placeB t))),
 (77, orcN fun t => some (.bool (stmtB t))),
 (60, orcN fun t => some (.bool (blockB t))),
 (42, orcS fun s => some (.bool (nameB s))),
 (50, orcN fun t => if t.size ≤ 4611686018427387904 then some (.int .i64 t.size) else none),
 (36, orcN fun t => if t.depth ≤ 4611686018427387904 then some (.int .i64 t.depth) else none)]
theorem orcB_fit : ∀ x ∈ orcB, Fit Try.prog x.1 x.2 := by
 intro x hx
 simp only [orcB, List.mem_cons, List.not_mem_nil, or_false] at hx
 rcases hx with rfl | rfl | rfl | rfl | rfl | rfl | rfl
 ·exact fit_test isExpr_any
 ·exact fit_test isPlace_any
 ·exact fit_test isStmt_any
 ·exact fit_test isBlock_any
 ·exact fit_name name_any
 ·exact fit_num size_any
 ·exact fit_num depth_any

def lookT : List (Nat × (List D → Option D)) → Nat → List D → Option D
 | [], _, _ => none
 | (k, f) :: r, n, args => if n = k then f args else lookT r n args
theorem look_fit {P : Program} : ∀ {l : List (Nat × (List D → Option D))}, (∀ x ∈ l, Fit P x.1 x.2) → ∀ k args d, lookT l k args = some d → d.under 0 = true ∧ d.strip = d ∧ PContract P k args d
 | [], _, k, args, d, h => by cases h
 | (n, f) :: r, hf, k, args, d, h => by
  unfold lookT at h
  split at h
  ·rename_i e
   subst e
   exact hf (k, f) List.mem_cons_self args d h
  ·exact look_fit (fun x hx => hf x (List.mem_cons_of_mem _ hx)) k args d h

def fnOk (P : Program) (k : Nat) : Bool := match P.funcs[k]? with
 | some fn => (match fn.body with | some b => chkCode b | none => false)
 | none => false
theorem fnOk_chk {P : Program} {l : List Nat} (h : l.all (fnOk P) = true) : ∀ k f body, l.contains k = true → P.funcs[k]? = some f → f.body = some body → chkCode body = true := by
 intro k f body hk hf hb
 have := List.all_eq_true.1 h k (List.contains_iff_mem.1 hk)
 unfold fnOk at this
 rw [hf] at this
 simp only [hb] at this
 exact this

end Go.Proofs.Ytjikokmhknnnoaa

/- Clone and Walk as functions of data: contracts that were proved in memory. -/
namespace Go.Proofs.Ytjikokmhknnnoaa
open Go.RowKit
theorem Iter.map {α β : Type} {P : Program} {gf : Nat} {lb : Array Value} {encs : α → (Nat → Prop) → World → Array Value → Prop} {encs' : β → (Nat → Prop) → World → Array Value → Prop} {L : List α} {F : Nat → Prop} {w : World} (h : Iter P gf lb encs L F w) (f : α → β)
  (hf : ∀ x ∈ L, ∀ X W args, encs x X W args → encs' (f x) X W args) : Iter P gf lb encs' (L.map f) F w := by
 intro n l J Jx W h1 h2 hJ hY h0
 have := h n l (fun pre O W => J (pre.map f) O W) (fun pre O W => Jx (pre.map f) O W) W h1 h2 (fun s O O' W W' q hm => hJ _ _ _ _ _ q hm) (fun m pre x O X args W1 hp hj hX he => by
  have hx : x ∈ L := by
   obtain ⟨r, hr⟩ := hp
   rw [← hr]; simp
  have hp' : (pre.map f ++ [f x]) <+: L.map f := by
   obtain ⟨r, hr⟩ := hp
   exact ⟨r.map f, by rw [← hr]; simp⟩
  have := hY m (pre.map f) (f x) O X args W1 hp' hj hX (hf x hx X W1 args he)
  simpa using this) h0
 refine this.mono fun e W' q => ⟨q.1, ?_⟩
 rcases q.2 with q | ⟨pre, O', q1, q2⟩
 ·exact .inl q
 ·exact .inr ⟨pre.map f, O', by obtain ⟨r, hr⟩ := q1; exact ⟨r.map f, by rw [← hr]; simp⟩, q2⟩

end Go.Proofs.Ytjikokmhknnnoaa
