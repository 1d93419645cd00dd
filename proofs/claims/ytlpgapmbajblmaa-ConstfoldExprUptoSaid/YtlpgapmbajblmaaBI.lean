import Derived.Test.YtlpgapmbajblmaaBK
import Derived.Test.YtlpgapmbajblmaaKinds2
import Derived.Test.YtlpgapmbajblmaaBC
import Derived.Test.YtlpgapmbajblmaaBH
import Derived.Test.YtlpgapmbajblmaaBD
/- Contracts that were proved in memory, as functions of data. -/
namespace Go.Proofs.Ytlpgapmbajblmaa
open Go.RowKit

def orcN (f : Tr → Option D) : List D → Option D
 | [d] => (toTr d).bind f
 | _ => none
def orcNN (f : Tr → Tr → Option D) : List D → Option D
 | [d, e] => (match toTr d, toTr e with
  | some t, some u => f t u
  | _, _ => none)
 | _ => none
def orcS (f : ByteArray → Option D) : List D → Option D
 | [.str s] => f s
 | _ => none

def Fit (P : Program) (k : Nat) (o : List D → Option D) : Prop := ∀ args d, o args = some d → d.under 0 = true ∧ d.strip = d ∧ PContract P k args d

theorem vals_one {w : World} {g : Gh} {d : D} {vs : List Value} (h : vals w g [d] vs) : ∃ v, vs = [v] ∧ val w g d v := by
 obtain ⟨h1, h2⟩ := h
 match vs, h1 with
 | [v], _ => exact ⟨v, rfl, h2 0 (by simp) (by simp)⟩
theorem vals_two {w : World} {g : Gh} {d e : D} {vs : List Value} (h : vals w g [d, e] vs) : ∃ v u, vs = [v, u] ∧ val w g d v ∧ val w g e u := by
 obtain ⟨h1, h2⟩ := h
 match vs, h1 with
 | [v, u], _ => exact ⟨v, u, rfl, h2 0 (by simp) (by simp), h2 1 (by simp) (by simp)⟩
theorem val_b (w : World) (g : Gh) (b : Bool) : val w g (.bool b) (.bool b) := val_of_R (.bool b) rfl

theorem fit_test {k : Nat} {p : Tr → Bool} (h : ∀ t, Tests k p t) : Fit Try.prog k (orcN fun t => some (.bool (p t))) := by
 intro args d ho
 unfold orcN at ho
 split at ho
 ·rename_i x
  rw [Option.bind_eq_some_iff] at ho
  obtain ⟨t, ht, e⟩ := ho
  cases e
  have hx := toTr_eq ht
  subst hx
  refine ⟨rfl, rfl, PContract.of_cells fun g vs w hlt hv => ?_⟩
  obtain ⟨v, rfl, hv1⟩ := vals_one hv
  refine (h t v w (rep_of_val hlt hv1)).mono ?_
  rintro e w' ⟨rfl, hb⟩
  exact ⟨_, rfl, hb, val_b _ _ _⟩
 ·cases ho
theorem fit_test2 {k : Nat} {p : Tr → Tr → Bool} (h : ∀ t u, Tests2 k p t u) : Fit Try.prog k (orcNN fun t u => some (.bool (p t u))) := by
 intro args d ho
 unfold orcNN at ho
 split at ho
 ·split at ho
  ·rename_i x y t u ht hu
   cases ho
   have hx := toTr_eq ht
   have hy := toTr_eq hu
   subst hx hy
   refine ⟨rfl, rfl, PContract.of_cells fun g vs w hlt hv => ?_⟩
   obtain ⟨v, q, rfl, hv1, hv2⟩ := vals_two hv
   refine (h t u v q w (rep_of_val hlt hv1) (rep_of_val hlt hv2)).mono ?_
   rintro e w' ⟨rfl, hb⟩
   exact ⟨_, rfl, hb, val_b _ _ _⟩
  ·cases ho
 ·cases ho
theorem fit_name {k : Nat} {p : ByteArray → Bool} (h : ∀ s : ByteArray, s.size ≤ 9223372036854775807 → ∀ w, Calls Try.prog k #[.string s] w fun e w' => e = .returned (.bool (p s)) ∧ Below w.heap.size w w') : Fit Try.prog k (orcS fun s => some (.bool (p s))) := by
 intro args d ho
 unfold orcS at ho
 split at ho
 ·rename_i s
  cases ho
  refine ⟨rfl, rfl, PContract.of_cells fun g vs w hlt hv => ?_⟩
  obtain ⟨v, rfl, hv1⟩ := vals_one hv
  obtain ⟨rfl, hs⟩ := val_str hv1
  refine (h s hs w).mono ?_
  rintro e w' ⟨rfl, hb⟩
  exact ⟨_, rfl, hb, val_b _ _ _⟩
 ·cases ho
theorem fit_num {k : Nat} {f : Tr → Nat} (h : ∀ t v w, Rep w w.heap.size t v → f t ≤ 4611686018427387904 → Calls Try.prog k #[v] w fun e w' => e = .returned (.int .i64 (f t)) ∧ Below w.heap.size w w') :
  Fit Try.prog k (orcN fun t => if f t ≤ 4611686018427387904 then some (.int .i64 (f t)) else none) := by
 intro args d ho
 unfold orcN at ho
 split at ho
 ·rename_i x
  rw [Option.bind_eq_some_iff] at ho
  obtain ⟨t, ht, e⟩ := ho
  split at e
  ·rename_i hle
   cases e
   have hx := toTr_eq ht
   subst hx
   refine ⟨rfl, rfl, PContract.of_cells fun g vs w hlt hv => ?_⟩
   obtain ⟨v, rfl, hv1⟩ := vals_one hv
   refine (h t v w (rep_of_val hlt hv1) hle).mono ?_
   rintro e w' ⟨rfl, hb⟩
   refine ⟨_, rfl, hb, val_of_R (.int _ _ ?_) rfl⟩
   simp only [inr, IntKind.min, IntKind.max, IntKind.bits, IntKind.signed]; simp; omega
  ·cases e
 ·cases ho
/-- the functions whose contracts were proved in memory -/
def orcB : List (Nat × (List D → Option D)) :=
 [(12, orcN fun t => some (.bool (bigB t))),
 (27, orcN fun t => some (.bool (exprB t))),
 (20, orcN fun t => some (.bool (exprB t))),
 (106, orcN fun t => some (.bool (placeB t))),
 (109, orcN fun t => some (.bool (placeB t))),
 (97, orcN fun t => some (.bool (stmtB t))),
 (103, orcN fun t => some (.bool (stmtB t))),
 (80, orcN fun t => some (.bool (blockB t))),
 (86, orcN fun t => some (.bool (blockB t))),
 (60, orcS fun s => some (.bool (nameB s))),
 (42, orcS fun s => some (.bool (nameB s))),
 (26, orcNN fun t u => some (.bool (eqB t u))),
 (17, orcNN fun t u => some (.bool (eqB t u))),
 (25, orcN fun t => if t.size ≤ 4611686018427387904 then some (.int .i64 t.size) else none),
 (88, orcN fun t => if t.size ≤ 4611686018427387904 then some (.int .i64 t.size) else none),
 (35, orcN fun t => if t.depth ≤ 4611686018427387904 then some (.int .i64 t.depth) else none),
 (87, orcN fun t => if t.depth ≤ 4611686018427387904 then some (.int .i64 t.depth) else none)]
theorem orcB_fit : ∀ x ∈ orcB, Fit Try.prog x.1 x.2 := by
 intro x hx
 simp only [orcB, List.mem_cons, List.not_mem_nil, or_false] at hx
 rcases hx with rfl | rfl | rfl | rfl | rfl | rfl | rfl | rfl | rfl | rfl | rfl | rfl | rfl | rfl | rfl | rfl | rfl
 ·exact fit_test big_any
 ·exact fit_test isExpr_any
 ·exact fit_test rExpr_any
 ·exact fit_test isPlace_any
 ·exact fit_test rPlace_any
 ·exact fit_test isStmt_any
 ·exact fit_test rStmt_any
 ·exact fit_test isBlock_any
 ·exact fit_test rBlock_any
 ·exact fit_name name_any
 ·exact fit_name rname_any
 ·exact fit_test2 equal_any
 ·exact fit_test2 rEqual_any
 ·exact fit_num size_any
 ·exact fit_num rsize_any
 ·exact fit_num depth_any
 ·exact fit_num rdepth_any

def lookT : List (Nat × (List D → Option D)) → Nat → List D → Option D
 | [], _, _ => none
 | (k, f) :: r, n, args => if n = k then f args else lookT r n args
theorem look_fit {P : Program} : ∀ {l : List (Nat × (List D → Option D))}, (∀ x ∈ l, Fit P x.1 x.2) → ∀ k args d, lookT l k args = some d → d.under 0 = true ∧ d.strip = d ∧ PContract P k args d
 | [], _, k, args, d, h => by cases h
 | (n, f) :: r, hf, k, args, d, h => by
  unfold lookT at h
  split at h
  ·rename_i e
   subst e
   exact hf (k, f) List.mem_cons_self args d h
  ·exact look_fit (fun x hx => hf x (List.mem_cons_of_mem _ hx)) k args d h

def fnOk (P : Program) (k : Nat) : Bool := match P.funcs[k]? with
 | some fn => (match fn.body with | some b => chkCode b | none => false)
 | none => false
theorem fnOk_chk {P : Program} {l : List Nat} (h : l.all (fnOk P) = true) : ∀ k f body, l.contains k = true → P.funcs[k]? = some f → f.body = some body → chkCode body = true := by
 intro k f body hk hf hb
 have := List.all_eq_true.1 h k (List.contains_iff_mem.1 hk)
 unfold fnOk at this
 rw [hf] at this
 simp only [hb] at this
 exact this

end Go.Proofs.Ytlpgapmbajblmaa

/- Clone and Walk as functions of data: contracts that were proved in memory. -/
namespace Go.Proofs.Ytlpgapmbajblmaa
open Go.RowKit

/-- a tree in memory reads as its datum -/
theorem R_of_rep {w : World} {ok : Nat → Prop} {g : Gh} (hg : ∀ b o, ok b → g.ok b o) (t : Tr) : ∀ {cs : List Value}, RepP w ok t (.agg cs.toArray) → R w g (dN t) cs := by
 induction t using Tr.ind with
 | h k n s c ih =>
  intro cs h
  simp only [RepP] at h
  obtain ⟨A, cap, hv, hf, hrow⟩ := h
  obtain ⟨f1, f2, f3, f4, f5, f6, f7⟩ := hf
  have hcs : cs = [.int .u8 k, .int .i64 n, .string s, .slice A c.length cap] := by
   simp only [nodeV, Value.agg.injEq] at hv
   have := congrArg Array.toList hv
   simpa using this
  subst hcs
  rw [dN_eq]
  simp only [Tr.kind, Tr.num, Tr.name, Tr.kids]
  refine R_agg_of rfl (fun j h1 h2 => ?_)
  match j with
  | 0 => exact .int _ _ ⟨by simp [IntKind.min, IntKind.signed]; omega, by simp [IntKind.max, IntKind.bits, IntKind.signed]; omega⟩
  | 1 => exact .int _ _ ⟨by simp [IntKind.min, IntKind.bits, IntKind.signed]; omega, by simp [IntKind.max, IntKind.bits, IntKind.signed]; omega⟩
  | 2 => exact .str _ f5
  | 3 =>
   have hat := fun j hj => rowP_at hrow j hj
   have hk : ∀ j, ∃ q : List Value, ∀ hj : j < c.length, ∃ b off, A = some ⟨b, off, none⟩ ∧ q.length = 4 ∧ R w g (dN c[j]) q ∧ ∀ m u, q[m]? = some u → g.ok b (off + j * 4 + m) ∧ w.cell? ⟨b, off + j * 4 + m, none⟩ = some u := by
    intro j
    by_cases hj : j < c.length
    ·obtain ⟨b, off, c0, c1, c2, c3, q1, q2, q3, q4, q5, q6, q7⟩ := hat j hj
     rw [Nat.zero_add] at q3 q4 q5 q6
     refine ⟨[c0, c1, c2, c3], fun _ => ⟨b, off, q1, rfl, ih _ (List.getElem_mem hj) q7, fun m u hu => ⟨hg b _ q2, ?_⟩⟩⟩
     match m with
     | 0 => cases hu; exact q3
     | 1 => cases hu; exact q4
     | 2 => cases hu; exact q5
     | 3 => cases hu; exact q6
     | m + 4 => simp at hu
    ·exact ⟨[], fun h => absurd h hj⟩
   have key := R.slice (w := w) (g := g) .imm (if (c.map dN).isEmpty then 0 else 4) (c.map dN) A cap (fun j => Classical.choose (hk j)) (by simpa using f6) f7 (fun _ _ q => by cases q) trivial
    trivial
    (fun j hj => by
     have hj' : j < c.length := by simpa using hj
     obtain ⟨b, off, _, _, q3, _⟩ := Classical.choose_spec (hk j) hj'
     rw [List.getElem_map]; exact q3)
    (fun j hj => by
     have hj' : j < c.length := by simpa using hj
     obtain ⟨b, off, _, q2, _, _⟩ := Classical.choose_spec (hk j) hj'
     rw [sl_n (j := j) hj]; exact q2)
    (fun j hj => by
     have hj' : j < c.length := by simpa using hj
     obtain ⟨b, off, q1, _, _, q4⟩ := Classical.choose_spec (hk j) hj'
     rw [sl_n (j := j) hj]
     exact ⟨b, off, q1, q4⟩)
   simpa [sl] using key
theorem val_of_rep {w : World} {ok : Nat → Prop} {g : Gh} (hg : ∀ b o, ok b → g.ok b o) {t : Tr} {v : Value} (h : RepP w ok t v) : val w g (dN t) v := by
 have hv : ∃ cs : List Value, v = .agg cs.toArray := by
  cases t with
  | mk k n s c =>
   simp only [RepP] at h
   obtain ⟨A, cap, hv, _⟩ := h
   exact ⟨[.int .u8 k, .int .i64 n, .string s, .slice A c.length cap], hv⟩
 obtain ⟨cs, rfl⟩ := hv
 have hR := R_of_rep hg t h
 rw [dN_eq] at hR ⊢
 exact val_of_agg hR

/-- a slice of ints in memory reads as its datum -/
theorem val_of_ints {w : World} {ok : Nat → Prop} {g : Gh} (hg : ∀ b o, ok b → g.ok b o) {p : List Int} {v : Value} (h : IntsAt w ok v p) (hp : ∀ n ∈ p, inr .i64 n) : val w g (sl 1 (p.map dI)) v := by
 obtain ⟨A, cap, rfl, h1, h2, _, hc⟩ := h
 have key := R.slice (w := w) (g := g) .imm (if (p.map dI).isEmpty then 0 else 1) (p.map dI) A cap (fun j => [.int .i64 ((p[j]?).getD 0)]) (by simpa using h1) h2 (fun _ _ q => by cases q) trivial trivial
  (fun j hj => by
   have hj' : j < p.length := by simpa using hj
   simp only [List.getElem_map, dI, List.getElem?_eq_getElem hj', zgd]
   exact .int _ _ (hp _ (List.getElem_mem hj')))
  (fun j hj => by rw [sl_n (j := j) hj]; rfl)
  (fun j hj => by
   have hj' : j < p.length := by simpa using hj
   obtain ⟨b, off, q1, q2, q3⟩ := hc j hj'
   rw [sl_n (j := j) hj]
   refine ⟨b, off, q1, fun m u hu => ?_⟩
   match m with
   | 0 =>
    simp only [zg0, Option.some.injEq, List.getElem?_eq_getElem hj', zgd] at hu
    subst hu
    rw [Nat.mul_one, Nat.add_zero]
    exact ⟨hg b _ q2, q3⟩
   | m + 1 => simp at hu)
 refine val_of_R ?_ rfl
 simpa [sl] using key

theorem fit_makes {k : Nat} {N : Nat} (h : ∀ (t : Tr) (v : Value) (w : World), Rep w w.heap.size t v → t.size ≤ N → Calls Try.prog k #[v] w (Makes t w)) : Fit Try.prog k (orcN fun t => if t.size ≤ N then some (dN t) else none) := by
 intro args d ho
 unfold orcN at ho
 split at ho
 ·rename_i x
  rw [Option.bind_eq_some_iff] at ho
  obtain ⟨t, ht, e⟩ := ho
  split at e
  ·rename_i hle
   cases e
   have hx := toTr_eq ht
   subst hx
   refine ⟨dN_under 0 t, dN_strip t, PContract.of_cells fun g vs w hlt hv => ?_⟩
   obtain ⟨v, rfl, hv1⟩ := vals_one hv
   refine (h t v w (rep_of_val hlt hv1) hle).mono ?_
   rintro e w' ⟨v', rfl, hr, hb⟩
   exact ⟨v', rfl, hb, val_of_rep (ok := fun b => w.heap.size ≤ b ∧ b < w'.heap.size) (fun b o q => Or.inr q) hr⟩
  ·cases e
 ·cases ho

mutual
theorem Tr.depth_le_size : ∀ t : Tr, t.depth ≤ t.size
 | .mk k n s c => by have := Tr.depths_le_sizes c; simp only [Tr.depth, Tr.size]; omega
theorem Tr.depths_le_sizes : ∀ c : List Tr, Tr.depths c ≤ Tr.sizes c
 | [] => by simp [Tr.depths, Tr.sizes]
 | t :: r => by have h1 := Tr.depth_le_size t; have h2 := Tr.depths_le_sizes r; simp only [Tr.depths, Tr.sizes]; omega
end
/-- what Walk's iterator yields -/
def walkD (t : Tr) : List (List D) := (walkL [] t).map fun x => [sl 1 (x.1.map dI), dN x.2]

theorem Iter.map {α β : Type} {P : Program} {gf : Nat} {lb : Array Value} {encs : α → (Nat → Prop) → World → Array Value → Prop} {encs' : β → (Nat → Prop) → World → Array Value → Prop} {L : List α} {F : Nat → Prop} {w : World} (h : Iter P gf lb encs L F w) (f : α → β)
  (hf : ∀ x ∈ L, ∀ X W args, encs x X W args → encs' (f x) X W args) : Iter P gf lb encs' (L.map f) F w := by
 intro n l J Jx W h1 h2 hJ hY h0
 have := h n l (fun pre O W => J (pre.map f) O W) (fun pre O W => Jx (pre.map f) O W) W h1 h2 (fun s O O' W W' q hm => hJ _ _ _ _ _ q hm) (fun m pre x O X args W1 hp hj hX he => by
  have hx : x ∈ L := by
   obtain ⟨r, hr⟩ := hp
   rw [← hr]; simp
  have hp' : (pre.map f ++ [f x]) <+: L.map f := by
   obtain ⟨r, hr⟩ := hp
   exact ⟨r.map f, by rw [← hr]; simp⟩
  have := hY m (pre.map f) (f x) O X args W1 hp' hj hX (hf x hx X W1 args he)
  simpa using this) h0
 refine this.mono fun e W' q => ⟨q.1, ?_⟩
 rcases q.2 with q | ⟨pre, O', q1, q2⟩
 ·exact .inl q
 ·exact .inr ⟨pre.map f, O', by obtain ⟨r, hr⟩ := q1; exact ⟨r.map f, by rw [← hr]; simp⟩, q2⟩

mutual
theorem walkL_path : ∀ (t : Tr) (p : List Int) (N : Nat), t.size ≤ N → (∀ n ∈ p, 0 ≤ n ∧ n < N) → ∀ x ∈ walkL p t, ∀ n ∈ x.1, 0 ≤ n ∧ n < (N : Int)
 | .mk k m s c, p, N, hs, hp, x, hx => by
  simp only [walkL, List.mem_cons] at hx
  rcases hx with rfl | hx
  ·exact hp
  ·exact walksL_path c p 0 N (by simp only [Tr.size] at hs; omega) hp x hx
theorem walksL_path : ∀ (c : List Tr) (p : List Int) (i N : Nat), i + Tr.sizes c < N → (∀ n ∈ p, 0 ≤ n ∧ n < N) → ∀ x ∈ walksL p i c, ∀ n ∈ x.1, 0 ≤ n ∧ n < (N : Int)
 | [], _, _, _, _, _, x, hx => by cases hx
 | t :: r, p, i, N, hs, hp, x, hx => by
  simp only [walksL, List.mem_append] at hx
  simp only [Tr.sizes] at hs
  have h1 : 1 ≤ t.size := by cases t; simp only [Tr.size]; omega
  rcases hx with hx | hx
  ·refine walkL_path t (p ++ [(i : Int)]) N (by omega) (fun n hn => ?_) x hx
   rcases List.mem_append.1 hn with q | q
   ·exact hp n q
   ·simp only [List.mem_singleton] at q; subst q; omega
  ·exact walksL_path r p (i + 1) N (by omega) hp x hx
end

theorem fit_walk : Fit Try.prog 28 (orcN fun t => if t.size ≤ 1000000 then some (.it (walkD t)) else none) := by
 intro args d ho
 unfold orcN at ho
 split at ho
 ·rename_i x
  rw [Option.bind_eq_some_iff] at ho
  obtain ⟨t, ht, e⟩ := ho
  split at e
  ·rename_i hle
   cases e
   have hx := toTr_eq ht
   subst hx
   refine ⟨rfl, rfl, fun g vs w hk hv => ?_⟩
   obtain ⟨v, rfl, hv1⟩ := vals_one hv
   refine (walk_any t v w (rep_of_val hk.ok hv1) hle).mono ?_
   rintro e w' ⟨Br, c0, c1, c2, c3, rfl, hBr, hroot, hrep, hb⟩
   have hBr' := (Array.getElem?_eq_some_iff.1 hroot).1
   have hs := hb.size
   have hit : IsIter Try.prog (fun b => g.pr b ∨ (w.heap.size ≤ b ∧ b < w'.heap.size)) (.func (.func 49) #[] #[.pointer (some ⟨Br, 0, none⟩)]) (walkD t) w' := by
    refine ⟨_, _, fun b => (w.heap.size ≤ b ∧ b < w'.heap.size) ∨ b = Br, rfl, ?_, fun b q => ?_, ?_⟩
    ·intro args w
     unfold callFunc
     rw [Sem.run_bind]
     simp [go_sem, Try.func49]
     rfl
    ·rcases q with q | q
     ·exact ⟨.inr q, q.2⟩
     ·subst q; exact ⟨.inr ⟨hBr, hBr'⟩, hBr'⟩
    ·refine Iter.map (walk_iter w' Br (fun b => w.heap.size ≤ b ∧ b < w'.heap.size) t c0 c1 c2 c3 hroot hrep (fun b q => q.2) hle (by have := Tr.depth_le_size t; omega)) _ ?_
     rintro x hx X W args ⟨q1, vp, vn, rfl, q2, q3⟩
     have hpi : ∀ n ∈ x.1, inr .i64 n := fun n hn => by
      have := walkL_path t [] 1000000 hle (fun n q => by cases q) x hx n hn
      simp only [inr, IntKind.min, IntKind.max, IntKind.bits, IntKind.signed]; simp; omega
     refine ⟨q1, rfl, fun j h1 h2 => ?_⟩
     match j with
     | 0 => exact val_of_ints (fun b o q => q) q2 hpi
     | 1 => exact val_of_rep (fun b o q => q) q3
   refine ⟨_, { g with pr := fun b => g.pr b ∨ (w.heap.size ≤ b ∧ b < w'.heap.size), it := fun v' L => g.it v' L ∨ (v' = .func (.func 49) #[] #[.pointer (some ⟨Br, 0, none⟩)] ∧ L = walkD t) }, rfl, hb, ⟨rfl, rfl, rfl, rfl, fun _ _ q => q, fun _ _ q => .inl q, fun _ q => .inl q, fun _ q => q, fun _ _ q => .inl q, fun v L q => ?_⟩, ?_⟩
   ·rcases q with q | ⟨rfl, rfl⟩
    ·exact (hk.it v L q).ext hs (fun b q => ⟨.inl q, hb.block b (hk.pr b q)⟩)
    ·exact hit
   ·exact val_of_R (.it _ _ _ (.inr ⟨rfl, rfl⟩)) rfl
  ·cases e
 ·cases ho

end Go.Proofs.Ytlpgapmbajblmaa
