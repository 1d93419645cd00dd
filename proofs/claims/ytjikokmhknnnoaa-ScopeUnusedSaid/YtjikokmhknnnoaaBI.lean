import Derived.Test.YtjikokmhknnnoaaBK
import Derived.Test.YtjikokmhknnnoaaKinds2
import Derived.Test.YtjikokmhknnnoaaBC
import Derived.Test.YtjikokmhknnnoaaBH
import Derived.Test.YtjikokmhknnnoaaBD
/- Contracts that were proved in memory, as functions of data. -/
namespace Go.Proofs.Ytjikokmhknnnoaa
open Go.RowKit

def orcN (f : Tr → Option D) : List D → Option D
 | [d] => (toTr d).bind f
 | _ => none
def orcS (f : ByteArray → Option D) : List D → Option D
 | [.str s] => f s
 | _ => none

def Fit (P : Program) (k : Nat) (o : List D → Option D) : Prop := ∀ args d, o args = some d → d.under 0 = true ∧ d.strip = d ∧ PContract P k args d

theorem vals_one {w : World} {g : Gh} {d : D} {vs : List Value} (h : vals w g [d] vs) : ∃ v, vs = [v] ∧ val w g d v := by
 obtain ⟨h1, h2⟩ := h
 match vs, h1 with
 | [v], _ => exact ⟨v, rfl, h2 0 (by simp) (by simp)⟩
theorem val_b (w : World) (g : Gh) (b : Bool) : val w g (.bool b) (.bool b) := val_of_R (.bool b) rfl

theorem fit_test {k : Nat} {p : Tr → Bool} (h : ∀ t, Tests k p t) : Fit Try.prog k (orcN fun t => some (.bool (p t))) := by
 intro args d ho
 unfold orcN at ho
 split at ho
 ·rename_i x
  rw [Option.bind_eq_some_iff] at ho
  obtain ⟨t, ht, e⟩ := ho
  cases e
  have hx := toTr_eq ht
  subst hx
  refine ⟨rfl, rfl, PContract.of_cells fun g vs w hlt hv => ?_⟩
  obtain ⟨v, rfl, hv1⟩ := vals_one hv
  refine (h t v w (rep_of_val hlt hv1)).mono ?_
  rintro e w' ⟨rfl, hb⟩
  exact ⟨_, rfl, hb, val_b _ _ _⟩
 ·cases ho
theorem fit_name {k : Nat} {p : ByteArray → Bool} (h : ∀ s : ByteArray, s.size ≤ 9223372036854775807 → ∀ w, Calls Try.prog k #[.string s] w fun e w' => e = .returned (.bool (p s)) ∧ Below w.heap.size w w') : Fit Try.prog k (orcS fun s => some (.bool (p s))) := by
 intro args d ho
 unfold orcS at ho
 split at ho
 ·rename_i s
  cases ho
  refine ⟨rfl, rfl, PContract.of_cells fun g vs w hlt hv => ?_⟩
  obtain ⟨v, rfl, hv1⟩ := vals_one hv
  obtain ⟨rfl, hs⟩ := val_str hv1
  refine (h s hs w).mono ?_
  rintro e w' ⟨rfl, hb⟩
  exact ⟨_, rfl, hb, val_b _ _ _⟩
 ·cases ho
theorem fit_num {k : Nat} {f : Tr → Nat} (h : ∀ t v w, Rep w w.heap.size t v → f t ≤ 4611686018427387904 → Calls Try.prog k #[v] w fun e w' => e = .returned (.int .i64 (f t)) ∧ Below w.heap.size w w') :
  Fit Try.prog k (orcN fun t => if f t ≤ 4611686018427387904 then some (.int .i64 (f t)) else none) := by
 intro args d ho
 unfold orcN at ho
 split at ho
 ·rename_i x
  rw [Option.bind_eq_some_iff] at ho
  obtain ⟨t, ht, e⟩ := ho
  split at e
  ·rename_i hle
   cases e
   have hx := toTr_eq ht
   subst hx
   refine ⟨rfl, rfl, PContract.of_cells fun g vs w hlt hv => ?_⟩
   obtain ⟨v, rfl, hv1⟩ := vals_one hv
   refine (h t v w (rep_of_val hlt hv1) hle).mono ?_
   rintro e w' ⟨rfl, hb⟩
   refine ⟨_, rfl, hb, val_of_R (.int _ _ ?_) rfl⟩
   simp only [inr, IntKind.min, IntKind.max, IntKind.bits, IntKind.signed]; simp; omega
  ·cases e
 ·cases ho
/-- the functions whose contracts were proved in memory -/
def orcB : List (Nat × (List D → Option D)) :=
 [(85, orcN fun t => some (.bool (exprB t))),
 (84, orcN fun t => some (.bool (placeB t))),
 (77, orcN fun t => some (.bool (stmtB t))),
 (60, orcN fun t => some (.bool (blockB t))),
 (42, orcS fun s => some (.bool (nameB s))),
 (50, orcN fun t => if t.size ≤ 4611686018427387904 then some (.int .i64 t.size) else none),
 (36, orcN fun t => if t.depth ≤ 4611686018427387904 then some (.int .i64 t.depth) else none)]
theorem orcB_fit : ∀ x ∈ orcB, Fit Try.prog x.1 x.2 := by
 intro x hx
 simp only [orcB, List.mem_cons, List.not_mem_nil, or_false] at hx
 rcases hx with rfl | rfl | rfl | rfl | rfl | rfl | rfl
 ·exact fit_test isExpr_any
 ·exact fit_test isPlace_any
 ·exact fit_test isStmt_any
 ·exact fit_test isBlock_any
 ·exact fit_name name_any
 ·exact fit_num size_any
 ·exact fit_num depth_any

def lookT : List (Nat × (List D → Option D)) → Nat → List D → Option D
 | [], _, _ => none
 | (k, f) :: r, n, args => if n = k then f args else lookT r n args
theorem look_fit {P : Program} : ∀ {l : List (Nat × (List D → Option D))}, (∀ x ∈ l, Fit P x.1 x.2) → ∀ k args d, lookT l k args = some d → d.under 0 = true ∧ d.strip = d ∧ PContract P k args d
 | [], _, k, args, d, h => by cases h
 | (n, f) :: r, hf, k, args, d, h => by
  unfold lookT at h
  split at h
  ·rename_i e
   subst e
   exact hf (k, f) List.mem_cons_self args d h
  ·exact look_fit (fun x hx => hf x (List.mem_cons_of_mem _ hx)) k args d h

def fnOk (P : Program) (k : Nat) : Bool := match P.funcs[k]? with
 | some fn => (match fn.body with | some b => chkCode b | none => false)
 | none => false
theorem fnOk_chk {P : Program} {l : List Nat} (h : l.all (fnOk P) = true) : ∀ k f body, l.contains k = true → P.funcs[k]? = some f → f.body = some body → chkCode body = true := by
 intro k f body hk hf hb
 have := List.all_eq_true.1 h k (List.contains_iff_mem.1 hk)
 unfold fnOk at this
 rw [hf] at this
 simp only [hb] at this
 exact this

end Go.Proofs.Ytjikokmhknnnoaa

/- Clone and Walk as functions of data: contracts that were proved in memory. -/
namespace Go.Proofs.Ytjikokmhknnnoaa
open Go.RowKit
theorem Iter.map {α β : Type} {P : Program} {gf : Nat} {lb : Array Value} {encs : α → (Nat → Prop) → World → Array Value → Prop} {encs' : β → (Nat → Prop) → World → Array Value → Prop} {L : List α} {F : Nat → Prop} {w : World} (h : Iter P gf lb encs L F w) (f : α → β)
  (hf : ∀ x ∈ L, ∀ X W args, encs x X W args → encs' (f x) X W args) : Iter P gf lb encs' (L.map f) F w := by
 intro n l J Jx W h1 h2 hJ hY h0
 have := h n l (fun pre O W => J (pre.map f) O W) (fun pre O W => Jx (pre.map f) O W) W h1 h2 (fun s O O' W W' q hm => hJ _ _ _ _ _ q hm) (fun m pre x O X args W1 hp hj hX he => by
  have hx : x ∈ L := by
   obtain ⟨r, hr⟩ := hp
   rw [← hr]; simp
  have hp' : (pre.map f ++ [f x]) <+: L.map f := by
   obtain ⟨r, hr⟩ := hp
   exact ⟨r.map f, by rw [← hr]; simp⟩
  have := hY m (pre.map f) (f x) O X args W1 hp' hj hX (hf x hx X W1 args he)
  simpa using this) h0
 refine this.mono fun e W' q => ⟨q.1, ?_⟩
 rcases q.2 with q | ⟨pre, O', q1, q2⟩
 ·exact .inl q
 ·exact .inr ⟨pre.map f, O', by obtain ⟨r, hr⟩ := q1; exact ⟨r.map f, by rw [← hr]; simp⟩, q2⟩

end Go.Proofs.Ytjikokmhknnnoaa
