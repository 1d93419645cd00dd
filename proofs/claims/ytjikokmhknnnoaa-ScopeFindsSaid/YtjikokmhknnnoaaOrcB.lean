/- Contracts that were proved in memory, as functions of data. -/
import Derived.Test.YtjikokmhknnnoaaArg2
import Derived.Test.YtjikokmhknnnoaaKinds2
import Derived.Test.YtjikokmhknnnoaaRKinds
import Derived.Test.YtjikokmhknnnoaaCount
import Derived.Test.YtjikokmhknnnoaaREq
namespace Go.Proofs.Ytjikokmhknnnoaa
open Go.RowKit

def orcN (f : Tr → Option D) : List D → Option D
  | [d] => (toTr d).bind f
  | _ => none
def orcNN (f : Tr → Tr → Option D) : List D → Option D
  | [d, e] => (match toTr d, toTr e with
    | some t, some u => f t u
    | _, _ => none)
  | _ => none
def orcS (f : ByteArray → Option D) : List D → Option D
  | [.str s] => f s
  | _ => none

def Fit (P : Program) (k : Nat) (o : List D → Option D) : Prop := ∀ args d, o args = some d → d.under 0 = true ∧ d.strip = d ∧ PContract P k args d

theorem vals_one {w : World} {g : Gh} {d : D} {vs : List Value} (h : vals w g [d] vs) : ∃ v, vs = [v] ∧ val w g d v := by
  obtain ⟨h1, h2⟩ := h
  match vs, h1 with
  | [v], _ => exact ⟨v, rfl, h2 0 (by simp) (by simp)⟩
theorem vals_two {w : World} {g : Gh} {d e : D} {vs : List Value} (h : vals w g [d, e] vs) : ∃ v u, vs = [v, u] ∧ val w g d v ∧ val w g e u := by
  obtain ⟨h1, h2⟩ := h
  match vs, h1 with
  | [v, u], _ => exact ⟨v, u, rfl, h2 0 (by simp) (by simp), h2 1 (by simp) (by simp)⟩
theorem val_b (w : World) (g : Gh) (b : Bool) : val w g (.bool b) (.bool b) := val_of_R (.bool b) rfl

theorem fit_test {k : Nat} {p : Tr → Bool} (h : ∀ t, Tests k p t) : Fit Try.prog k (orcN fun t => some (.bool (p t))) := by
  intro args d ho
  unfold orcN at ho
  split at ho
  · rename_i x
    rw [Option.bind_eq_some_iff] at ho
    obtain ⟨t, ht, e⟩ := ho
    cases e
    have hx := toTr_eq ht
    subst hx
    refine ⟨rfl, rfl, PContract.of_cells fun g vs w hlt hv => ?_⟩
    obtain ⟨v, rfl, hv1⟩ := vals_one hv
    refine (h t v w (rep_of_val hlt hv1)).mono ?_
    rintro e w' ⟨rfl, hb⟩
    exact ⟨_, rfl, hb, val_b _ _ _⟩
  · cases ho
theorem fit_test2 {k : Nat} {p : Tr → Tr → Bool} (h : ∀ t u, Tests2 k p t u) : Fit Try.prog k (orcNN fun t u => some (.bool (p t u))) := by
  intro args d ho
  unfold orcNN at ho
  split at ho
  · split at ho
    · rename_i x y t u ht hu
      cases ho
      have hx := toTr_eq ht
      have hy := toTr_eq hu
      subst hx hy
      refine ⟨rfl, rfl, PContract.of_cells fun g vs w hlt hv => ?_⟩
      obtain ⟨v, q, rfl, hv1, hv2⟩ := vals_two hv
      refine (h t u v q w (rep_of_val hlt hv1) (rep_of_val hlt hv2)).mono ?_
      rintro e w' ⟨rfl, hb⟩
      exact ⟨_, rfl, hb, val_b _ _ _⟩
    · cases ho
  · cases ho
theorem fit_name {k : Nat} {p : ByteArray → Bool} (h : ∀ s : ByteArray, s.size ≤ 9223372036854775807 → ∀ w, Calls Try.prog k #[.string s] w fun e w' => e = .returned (.bool (p s)) ∧ Below w.heap.size w w') : Fit Try.prog k (orcS fun s => some (.bool (p s))) := by
  intro args d ho
  unfold orcS at ho
  split at ho
  · rename_i s
    cases ho
    refine ⟨rfl, rfl, PContract.of_cells fun g vs w hlt hv => ?_⟩
    obtain ⟨v, rfl, hv1⟩ := vals_one hv
    obtain ⟨rfl, hs⟩ := val_str hv1
    refine (h s hs w).mono ?_
    rintro e w' ⟨rfl, hb⟩
    exact ⟨_, rfl, hb, val_b _ _ _⟩
  · cases ho
theorem fit_num {k : Nat} {f : Tr → Nat} (h : ∀ t v w, Rep w w.heap.size t v → f t ≤ 4611686018427387904 → Calls Try.prog k #[v] w fun e w' => e = .returned (.int .i64 (f t)) ∧ Below w.heap.size w w') :
    Fit Try.prog k (orcN fun t => if f t ≤ 4611686018427387904 then some (.int .i64 (f t)) else none) := by
  intro args d ho
  unfold orcN at ho
  split at ho
  · rename_i x
    rw [Option.bind_eq_some_iff] at ho
    obtain ⟨t, ht, e⟩ := ho
    split at e
    · rename_i hle
      cases e
      have hx := toTr_eq ht
      subst hx
      refine ⟨rfl, rfl, PContract.of_cells fun g vs w hlt hv => ?_⟩
      obtain ⟨v, rfl, hv1⟩ := vals_one hv
      refine (h t v w (rep_of_val hlt hv1) hle).mono ?_
      rintro e w' ⟨rfl, hb⟩
      refine ⟨_, rfl, hb, val_of_R (.int _ _ ?_) rfl⟩
      simp only [inr, IntKind.min, IntKind.max, IntKind.bits, IntKind.signed]; simp; omega
    · cases e
  · cases ho
theorem fit_true {k : Nat} (h : ∀ w, Calls Try.prog k #[] w fun e w' => e = .returned (.bool true) ∧ Below w.heap.size w w') : Fit Try.prog k (fun args => match args with | [] => some (.bool true) | _ => none) := by
  intro args d ho
  dsimp only at ho
  split at ho
  · cases ho
    refine ⟨rfl, rfl, PContract.of_cells fun g vs w hlt hv => ?_⟩
    have : vs = [] := List.eq_nil_of_length_eq_zero hv.1.symm
    subst this
    refine (h w).mono ?_
    rintro e w' ⟨rfl, hb⟩
    exact ⟨_, rfl, hb, val_b _ _ _⟩
  · cases ho

/-- the functions whose contracts were proved in memory -/
def orcB : List (Nat × (List D → Option D)) :=
  [(85, orcN fun t => some (.bool (exprB t))),
   (84, orcN fun t => some (.bool (placeB t))),
   (77, orcN fun t => some (.bool (stmtB t))),
   (60, orcN fun t => some (.bool (blockB t))),
   (42, orcS fun s => some (.bool (nameB s))),
   (50, orcN fun t => if t.size ≤ 4611686018427387904 then some (.int .i64 t.size) else none),
   (36, orcN fun t => if t.depth ≤ 4611686018427387904 then some (.int .i64 t.depth) else none)]
theorem orcB_fit : ∀ x ∈ orcB, Fit Try.prog x.1 x.2 := by
  intro x hx
  simp only [orcB, List.mem_cons, List.not_mem_nil, or_false] at hx
  rcases hx with rfl | rfl | rfl | rfl | rfl | rfl | rfl
  · exact fit_test isExpr_any
  · exact fit_test isPlace_any
  · exact fit_test isStmt_any
  · exact fit_test isBlock_any
  · exact fit_name name_any
  · exact fit_num size_any
  · exact fit_num depth_any

def lookT : List (Nat × (List D → Option D)) → Nat → List D → Option D
  | [], _, _ => none
  | (k, f) :: r, n, args => if n = k then f args else lookT r n args
theorem look_fit {P : Program} : ∀ {l : List (Nat × (List D → Option D))}, (∀ x ∈ l, Fit P x.1 x.2) → ∀ k args d, lookT l k args = some d → d.under 0 = true ∧ d.strip = d ∧ PContract P k args d
  | [], _, k, args, d, h => by cases h
  | (n, f) :: r, hf, k, args, d, h => by
    unfold lookT at h
    split at h
    · rename_i e
      subst e
      exact hf (k, f) List.mem_cons_self args d h
    · exact look_fit (fun x hx => hf x (List.mem_cons_of_mem _ hx)) k args d h

def fnOk (P : Program) (k : Nat) : Bool := match P.funcs[k]? with
  | some fn => (match fn.body with | some b => chkCode b | none => false)
  | none => false
theorem fnOk_chk {P : Program} {l : List Nat} (h : l.all (fnOk P) = true) : ∀ k f body, l.contains k = true → P.funcs[k]? = some f → f.body = some body → chkCode body = true := by
  intro k f body hk hf hb
  have := List.all_eq_true.1 h k (List.contains_iff_mem.1 hk)
  unfold fnOk at this
  rw [hf] at this
  simp only [hb] at this
  exact this

/-- a law's call, out of its run over data -/
theorem law_calls {E : Env} (hE : E.Ok) {k : Nat} {ds : List D} (h : fn E k ds = some (.bool true)) {W : World} {vs : List Value} (hv : vals W (gW W) ds vs) : Calls E.P k vs.toArray W fun e w' => e = .returned (.bool true) ∧ Below W.heap.size W w' := by
  refine (fn_sound E hE h (gW W) vs W ⟨fun b o q => q, fun b q => q, fun _ _ q => q.elim⟩ hv).mono ?_
  rintro e w' ⟨v, g', rfl, hb, _, hd⟩
  rw [val_bool hd]
  exact ⟨rfl, hb⟩

end Go.Proofs.Ytjikokmhknnnoaa
