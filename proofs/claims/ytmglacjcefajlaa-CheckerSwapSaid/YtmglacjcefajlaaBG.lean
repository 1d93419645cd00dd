import Derived.Test.YtmglacjcefajlaaAmX
/- Calls that reach the caller's boxes. Over any program. -/
namespace Go.Proofs.Ytmglacjcefajlaa
open Go.RowKit

mutual
theorem D.under_le {m m' : Nat} (h : m ≤ m') : ∀ d : D, D.under m d = true → D.under m' d = true
 | .undef, _ => rfl
 | .bool _, _ => rfl
 | .int _ _, _ => rfl
 | .str _, _ => rfl
 | .agg l, q => by simp only [D.under] at q ⊢; exact D.unders_le h l q
 | .slice _ _ l, q => by simp only [D.under] at q ⊢; exact D.unders_le h l q
 | .ptr _ _, q => by simp only [D.under, decide_eq_true_eq] at q ⊢; omega
 | .elem d, q => by simp only [D.under] at q ⊢; exact D.under_le h d q
 | .fn _ c, q => by simp only [D.under] at q ⊢; exact D.unders_le h c q
 | .tup l, q => by simp only [D.under] at q ⊢; exact D.unders_le h l q
 | .it _, _ => rfl
 | .nfn, _ => rfl
 | .nmap, _ => rfl
 | .mref _, q => by simp only [D.under, decide_eq_true_eq] at q ⊢; omega
 | .cmap l, q => by simp only [D.under] at q ⊢; exact D.unders_le h l q
 | .bsl _ _ _ _, q => by simp only [D.under, decide_eq_true_eq] at q ⊢; omega
 | .any, _ => rfl
theorem D.unders_le {m m' : Nat} (h : m ≤ m') : ∀ l : List D, D.unders m l = true → D.unders m' l = true
 | [], _ => rfl
 | d :: r, q => by
  simp only [D.unders, zat] at q ⊢
  exact ⟨D.under_le h d q.1, D.unders_le h r q.2⟩
end
def nthD : List D → Nat → D
 | [], _ => .undef
 | d :: _, 0 => d
 | _ :: r, k + 1 => nthD r k
/-- what lies in a slot, whatever it is -/
def slotOf (σ : St) (k : Nat) : D := nthD σ.fr k
theorem bq_tf : (true == false) = false := rfl
theorem bq_ft : (false == true) = false := rfl
section
variable {E : Env} {Q : Ex → St → Prop} {σ : St}
theorem X_rc {id : Nat} {ops : List Oper} (h : ∀ R : Option St → Prop, (∀ σ', Q .normal σ' → R (some σ')) → R (aops E.P (cal E) ops ops σ)) : X E (.region id ops.toArray false) σ Q := by
 obtain ⟨σ', h1, h2⟩ := h (fun o => ∃ σ', o = some σ' ∧ Q .normal σ') fun σ' hq => ⟨σ', rfl, hq⟩
 exact ⟨_, _, run_region E h1, h2⟩
theorem cal_pure {k : Nat} {a : List D} {d : D} (h : fn E k a = some d) (σ : St) : cal E k a σ = some (d, σ) := pcall_cal E k a σ _ (by unfold pcall; rw [h]; rfl)
/-- how a body ends that may have written to the boxes of its caller -/
def EndsB (E : Env) (f : Func) (σ0 : St) (d : D) (bx : List (List D)) (nx : Nat) (lv : List Nat) : Ex → St → Prop := fun e σ => (e = .normal ∨ e = .ret) ∧ resD E.P f σ = some d ∧ σ0.bx.length ≤ σ.bx.length ∧ σ.bx.take σ0.bx.length = bx ∧ σ.nx = nx ∧ σ.lv = lv
theorem cal_X {k : Nat} {args : List D} {f : Func} {body : Code} {d : D} {bx : List (List D)} {nx : Nat} {lv : List Nat} (hfs : E.fs k = true) (hf : E.P.funcs[k]? = some f) (hb : f.body = some body) (hp : plain args = false) (hu : d.under σ.bx.length = true) (hbx : bx.all (D.unders σ.bx.length) = true)
  (h : X E body (enterSt f args σ.bx σ.nx σ.lv) (EndsB E f σ d bx nx lv)) : cal E k args σ = some (d, { σ with bx := bx, nx := nx, lv := lv }) := by
 obtain ⟨e, σ1, h1, he, hr, hl, ht, hn, hv⟩ := h
 unfold cal callWith
 rw [hp]
 have : bodyWith E (run E) k args σ.bx σ.nx σ.lv = some (d, σ1) := by
  unfold bodyWith
  rw [if_pos hfs, hf]
  simp only [hb, h1]
  rcases he with rfl | rfl <;> simp [hr]
 simp only [this, zft, if_false]
 rw [ht, if_pos ⟨hu, hl, hbx⟩, hn, hv]

theorem val_empty {w : World} {g : Gh} {v : Value} (h : val w g (.slice .imm 0 []) v) : val w g (.slice .nl 0 []) v ∨ val w g (.slice .nn 0 []) v := by
 obtain ⟨cs, hr, hv⟩ := h
 cases hr with
 | slice o n l A cap cs' hl hm ho hnil hA h1 hn hc =>
  cases A with
  | none => exact .inl ⟨_, .slice .nl 0 [] none cap cs' hl hm (fun s e q => by cases q) rfl trivial h1 hn hc, hv⟩
  | some a => exact .inr ⟨_, .slice .nn 0 [] (some a) cap cs' hl hm (fun s e q => by cases q) rfl trivial h1 hn hc, hv⟩
theorem cal_XE {k : Nat} {args : List D} {f : Func} {body : Code} {B : List (List D)} {nx : Nat} {lv : List Nat} {Φ : D → List (List D) → Nat → List Nat → Prop} (hfs : E.fs k = true) (hf : E.P.funcs[k]? = some f) (hb : f.body = some body) (hp : plain args = false)
  (h : X E body (enterSt f args B nx lv) (fun e σ => (e = .normal ∨ e = .ret) ∧ ∃ d, resD E.P f σ = some d ∧ d.under B.length = true ∧ B.length ≤ σ.bx.length ∧ (σ.bx.take B.length).all (D.unders B.length) = true ∧ Φ d (σ.bx.take B.length) σ.nx σ.lv)) :
  ∃ d B' nx' lv', (∀ fr, cal E k args ⟨fr, B, nx, lv⟩ = some (d, ⟨fr, B', nx', lv'⟩)) ∧ Φ d B' nx' lv' := by
 obtain ⟨e, σ1, h1, he, d, hr, hu, hl, ht, hΦ⟩ := h
 refine ⟨d, _, _, _, fun fr => ?_, hΦ⟩
 exact cal_X (σ := ⟨fr, B, nx, lv⟩) hfs hf hb hp hu ht ⟨e, σ1, h1, he, hr, hl, rfl, rfl, rfl⟩
theorem vals_sing {w : World} {g : Gh} {d : D} {v : Value} (h : val w g d v) : vals w g [d] [v] := ⟨rfl, fun j h1 h2 => by
 have : j = 0 := by simp at h1; omega
 subst this; exact h⟩
/-- a call of an empty slice: nobody's array or some array -/
theorem pure_split (hE : E.Ok) {n k : Nat} {d d1 d2 : D} {σ1 σ2 : St} (h1 : bodyWith E (exec E n) k [.slice .nl 0 []] [] 0 [] = some (d1, σ1)) (u1 : d1.under 0 = true) (s1 : d1.strip = d) (h2 : bodyWith E (exec E n) k [.slice .nn 0 []] [] 0 [] = some (d2, σ2)) (u2 : d2.under 0 = true) (s2 : d2.strip = d) : PContract E.P k [.slice .imm 0 []] d := by
 intro g vs w hk hv
 have key : ∀ (x d' : D) (σ' : St), x = .slice .nl 0 [] ∨ x = .slice .nn 0 [] → bodyWith E (exec E n) k [x] [] 0 [] = some (d', σ') → d'.under 0 = true → d'.strip = d → vals w { g with β := fun _ => none, ow := fun _ => none, kp := fun _ => False } [x] vs → Calls E.P k vs.toArray w fun e w' => ∃ v g', e = .returned v ∧ Below w.heap.size w w' ∧ Grown E.P g w g' w' ∧ val w' g' d v := by
  intro x d' σ' _ hb hu hs hv'
  refine (body_ok hE (code_ok hE n) hb (RW.start E.P w g hk) hv').mono ?_
  rintro e w' ⟨v, g', rfl, q1, q2, q3⟩
  have hb' : Below w.heap.size w w' := RW.below q1
  refine ⟨v, { g' with β := g.β, ow := g.ow, mp := g.mp, kp := g.kp }, rfl, hb', ⟨rfl, rfl, rfl, rfl, q2.ok, fun b o q => ?_, fun b q => (q2.pr b q).1, fun b q => ?_, q2.it, fun v L q => RW.iter q1 v L q⟩, ?_⟩
  ·rcases RW.okb q1 b o q with q | q
   ·exact .inl q.2
   ·exact .inr q
  ·rcases Nat.lt_or_ge b w.heap.size with q' | q'
   ·exact .inl (RW.prb q1 b q' q)
   ·exact .inr ⟨q', (RW.prot q1 b q).1⟩
  ·rw [← hs]; exact q3.free hu _ ⟨fun _ _ q => q, fun _ q => q, fun _ _ q => q⟩
 have hv0 := vals_free hv rfl
 obtain ⟨q1, q2⟩ := hv0
 match vs, q1, q2 with
 | [v], _, q2 =>
  have q := q2 0 (by simp) (by simp)
  rcases val_empty q with q | q
  ·exact key _ _ _ (.inl rfl) h1 u1 s1 (vals_sing q)
  ·exact key _ _ _ (.inr rfl) h2 u2 s2 (vals_sing q)

theorem pure_split2 (hE : E.Ok) {n k : Nat} {d : D} (h1 : ((bodyWith E (exec E n) k [.slice .nl 0 []] [] 0 []).bind fun r => if r.1.under 0 = true then some r.1.strip else none) = some d) (h2 : ((bodyWith E (exec E n) k [.slice .nn 0 []] [] 0 []).bind fun r => if r.1.under 0 = true then some r.1.strip else none) = some d) : PContract E.P k [.slice .imm 0 []] d := by
 rw [Option.bind_eq_some_iff] at h1 h2
 obtain ⟨⟨d1, σ1⟩, a1, b1⟩ := h1
 obtain ⟨⟨d2, σ2⟩, a2, b2⟩ := h2
 simp only at b1 b2
 split at b1
 ·split at b2
  ·rename_i u1 u2
   cases b1
   exact pure_split hE a1 u1 rfl a2 u2 (Option.some.inj b2)
  ·cases b2
 ·cases b1

/-- boxes that point nowhere -/
def Free (B : List (List D)) : Prop := ∀ cs ∈ B, ∀ m, D.unders m cs = true
theorem Free.all {B : List (List D)} (h : Free B) (m : Nat) : B.all (D.unders m) = true := List.all_eq_true.2 fun cs hc => h cs hc m
theorem Free.snoc {B : List (List D)} (h : Free B) {c : List D} (hc : ∀ m, D.unders m c = true) : Free (B ++ [c]) := by
 intro cs hcs m
 rcases List.mem_append.1 hcs with q | q
 ·exact h cs q m
 ·rw [List.mem_singleton.1 q]; exact hc m
theorem Free.set {B : List (List D)} (h : Free B) {c : List D} (hc : ∀ m, D.unders m c = true) (b : Nat) : Free (B.set b c) := by
 intro cs hcs m
 rcases List.mem_or_eq_of_mem_set hcs with q | q
 ·exact h cs q m
 ·rw [q]; exact hc m
theorem snoc_get {α : Type} {B : List α} {b : Nat} {x : α} (h : B[b]? = some x) (l : List α) : (B ++ l)[b]? = some x := by
 obtain ⟨hb, _⟩ := List.getElem?_eq_some_iff.1 h
 rw [List.getElem?_append_left hb]; exact h
end

end Go.Proofs.Ytmglacjcefajlaa

/- Walks over the machine's runs, part by part: a region cut at its guards; tests. Over any program. -/
namespace Go.Proofs.Ytmglacjcefajlaa
open Go.RowKit

theorem rng_0 : ([] = List.range 0) = True := by simp [List.range, List.range.loop]
theorem rng_1 : ([0] = List.range 1) = True := by simp [List.range, List.range.loop]
theorem rng_2 : ([0, 1] = List.range 2) = True := by simp [List.range, List.range.loop]
theorem rng_4 : ([0, 1, 2, 3] = List.range 4) = True := by simp [List.range, List.range.loop]
theorem gd_bool (b : Bool) : D.good (.bool b) = true := rfl
theorem ia_bool (b : Bool) : D.isAgg (.bool b) = false := rfl
theorem cl_bool (b : Bool) : D.cells (.bool b) = [(.bool b)] := rfl
theorem gd_int (k : IntKind) (n : Int) : D.good (.int k n) = true := rfl
theorem ia_int (k : IntKind) (n : Int) : D.isAgg (.int k n) = false := rfl
theorem cl_int (k : IntKind) (n : Int) : D.cells (.int k n) = [(.int k n)] := rfl
theorem gd_str (s : ByteArray) : D.good (.str s) = true := rfl
theorem ia_str (s : ByteArray) : D.isAgg (.str s) = false := rfl
theorem cl_str (s : ByteArray) : D.cells (.str s) = [(.str s)] := rfl
theorem gd_agg (l : List D) : D.good (.agg l) = true := rfl
theorem ia_agg (l : List D) : D.isAgg (.agg l) = true := rfl
theorem cl_agg (l : List D) : D.cells (.agg l) = l := rfl
theorem gd_slice (o : Own) (n : Nat) (l : List D) : D.good (.slice o n l) = true := rfl
theorem ia_slice (o : Own) (n : Nat) (l : List D) : D.isAgg (.slice o n l) = false := rfl
theorem cl_slice (o : Own) (n : Nat) (l : List D) : D.cells (.slice o n l) = [(.slice o n l)] := rfl
theorem gd_ptr (i o : Nat) : D.good (.ptr i o) = true := rfl
theorem ia_ptr (i o : Nat) : D.isAgg (.ptr i o) = false := rfl
theorem gd_fn (f : Nat) (c : List D) : D.good (.fn f c) = true := rfl
theorem ia_fn (f : Nat) (c : List D) : D.isAgg (.fn f c) = false := rfl
theorem cl_fn (f : Nat) (c : List D) : D.cells (.fn f c) = [(.fn f c)] := rfl
section
variable {E : Env} {Q : Ex → St → Prop} {σ : St} {a b : Code}
theorem X_ite {c : Operand} {t : Bool} (hc : ev σ.fr c = .bool t) (h1 : t = true → X E a σ Q) (h2 : t = false → X E b σ Q) : X E (.cond c a b) σ Q := by
 cases t with
 | true => exact X_true hc (h1 rfl)
 | false => exact X_false hc (h2 rfl)
/-- what holds between two parts -/
def ThenJ (J : St → Prop) (Q : Ex → St → Prop) : Ex → St → Prop
 | .normal, σ => J σ
 | e, σ => Q e σ
theorem X_seqJ (J : St → Prop) (h1 : X E a σ (ThenJ J Q)) (h2 : ∀ σ, J σ → X E b σ Q) : X E (.seq a b) σ Q := by
 refine X_seq ?_
 obtain ⟨e, σ1, q1, q2⟩ := h1
 refine ⟨e, σ1, q1, ?_⟩
 cases e with
 | normal => exact h2 σ1 q2
 | ret => exact q2
 | exit id => exact q2
/-- what is left of a region whose calls are functions of their arguments -/
def Y (E : Env) (ops l : List Oper) (σ : St) (Q : Ex → St → Prop) : Prop := ∃ σ', aops E.P (pcall (fn E)) ops l σ = some σ' ∧ Q .normal σ'
def YC (E : Env) (ops l : List Oper) (σ : St) (Q : Ex → St → Prop) : Prop := ∃ σ', aops E.P (cal E) ops l σ = some σ' ∧ Q .normal σ'
theorem X_y {id : Nat} {ops : List Oper} {draw : Bool} (h : Y E ops ops σ Q) : X E (.region id ops.toArray draw) σ Q := by
 obtain ⟨σ', h1, h2⟩ := h
 exact ⟨_, _, run_reg E h1, h2⟩
theorem X_yC {id : Nat} {ops : List Oper} (h : YC E ops ops σ Q) : X E (.region id ops.toArray false) σ Q := by
 obtain ⟨σ', h1, h2⟩ := h
 exact ⟨_, _, run_region E h1, h2⟩
/-- a region that draws its order up to a cut -/
theorem X_rd {id : Nat} {ops : List Oper} (c : Nat) (hc : cutOf ops.toArray = c) (h : ∀ R : Option St → Prop, (∀ σ1, YC E ops (ops.drop c) σ1 Q → R (some σ1)) → R (aops E.P (pcall (fn E)) ops (ops.take c) σ)) : X E (.region id ops.toArray true) σ Q := by
 obtain ⟨σ1, h1, σ2, h2, h3⟩ := h (fun o => ∃ σ1, o = some σ1 ∧ YC E ops (ops.drop c) σ1 Q) fun σ1 hq => ⟨σ1, rfl, hq⟩
 subst hc
 exact ⟨_, _, run_draw E h1 h2, h3⟩
theorem aops_take {P : Program} {ca : Nat → List D → St → Option (D × St)} {ops : List Oper} {σ' : St} : ∀ (k : Nat) {l : List Oper} {σ : St}, (∃ σ1, aops P ca ops (l.take k) σ = some σ1 ∧ aops P ca ops (l.drop k) σ1 = some σ') → aops P ca ops l σ = some σ'
 | 0, l, σ, ⟨σ1, h1, h2⟩ => by cases h1; exact h2
 | k + 1, [], σ, ⟨σ1, h1, h2⟩ => by cases h1; exact h2
 | k + 1, o :: r, σ, ⟨σ1, h1, h2⟩ => by
  rw [zt1] at h1
  unfold aops at h1 ⊢
  split at h1
  ·rename_i σ2 h3
   exact aops_take k ⟨σ1, h1, h2⟩
  ·cases h1
theorem Y_k {ops l : List Oper} (k : Nat) (h : ∀ R : Option St → Prop, (∀ σ', Y E ops (l.drop k) σ' Q → R (some σ')) → R (aops E.P (pcall (fn E)) ops (l.take k) σ)) : Y E ops l σ Q := by
 obtain ⟨σ1, h1, σ2, h2, h3⟩ := h (fun o => ∃ σ', o = some σ' ∧ Y E ops (l.drop k) σ' Q) fun σ' hq => ⟨σ', rfl, hq⟩
 exact ⟨σ2, aops_take k ⟨σ1, h1, h2⟩, h3⟩
theorem Y_kC {ops l : List Oper} (k : Nat) (h : ∀ R : Option St → Prop, (∀ σ', YC E ops (l.drop k) σ' Q → R (some σ')) → R (aops E.P (cal E) ops (l.take k) σ)) : YC E ops l σ Q := by
 obtain ⟨σ1, h1, σ2, h2, h3⟩ := h (fun o => ∃ σ', o = some σ' ∧ YC E ops (l.drop k) σ' Q) fun σ' hq => ⟨σ', rfl, hq⟩
 exact ⟨σ2, aops_take k ⟨σ1, h1, h2⟩, h3⟩
theorem Y_end {ops l : List Oper} (h : ∀ R : Option St → Prop, (∀ σ', Q .normal σ' → R (some σ')) → R (aops E.P (pcall (fn E)) ops l σ)) : Y E ops l σ Q :=
 h (fun o => ∃ σ', o = some σ' ∧ Q .normal σ') fun σ' hq => ⟨σ', rfl, hq⟩
theorem Y_endC {ops l : List Oper} (h : ∀ R : Option St → Prop, (∀ σ', Q .normal σ' → R (some σ')) → R (aops E.P (cal E) ops l σ)) : YC E ops l σ Q :=
 h (fun o => ∃ σ', o = some σ' ∧ Q .normal σ') fun σ' hq => ⟨σ', rfl, hq⟩
theorem Y_if {ops l : List Oper} (t : Nat) {b : Bool} (_ : ev σ.fr (.tmp t) = .bool b) (h1 : b = true → Y E ops l σ Q) (h2 : b = false → Y E ops l σ Q) : Y E ops l σ Q := by
 cases b with
 | true => exact h1 rfl
 | false => exact h2 rfl
theorem Y_ifC {ops l : List Oper} (t : Nat) {b : Bool} (_ : ev σ.fr (.tmp t) = .bool b) (h1 : b = true → YC E ops l σ Q) (h2 : b = false → YC E ops l σ Q) : YC E ops l σ Q := by
 cases b with
 | true => exact h1 rfl
 | false => exact h2 rfl
/-- how a body ends whose result is a row of its own -/
def EndsS (E : Env) (f : Func) (d : D) : Ex → St → Prop
 | .normal, σ => ∃ d', resD E.P f σ = some d' ∧ d'.under 0 = true ∧ d'.strip = d
 | .ret, σ => ∃ d', resD E.P f σ = some d' ∧ d'.under 0 = true ∧ d'.strip = d
 | _, _ => False
theorem fn_Xs {k : Nat} {args : List D} {f : Func} {body : Code} {d : D} (hfs : E.fs k = true) (hf : E.P.funcs[k]? = some f) (hb : f.body = some body) (hp : plain args = true) (ho : E.orc k (args.map D.strip) = none)
  (h : X E body (enterSt f (args.map D.strip) [] 0 []) (EndsS E f d)) : fn E k args = some d := by
 obtain ⟨e, σ1, h1, h2⟩ := h
 have hr : (e = .normal ∨ e = .ret) ∧ ∃ d', resD E.P f σ1 = some d' ∧ d'.under 0 = true ∧ d'.strip = d := by
  cases e with
  | normal => exact ⟨.inl rfl, h2⟩
  | ret => exact ⟨.inr rfl, h2⟩
  | exit id => exact h2.elim
 obtain ⟨he, d', r1, r2, r3⟩ := hr
 have := fn_body E hfs hf hb hp ho h1 he r1 r2
 rw [r3] at this
 exact this
/-- a slice onto which may be appended -/
def Acc (e : TypeId) (sz : Nat) (o : Own) (n : Nat) (L : List D) (lv : List Nat) : Prop := (o = .nil ∧ L = [] ∧ n = 0) ∨ ∃ st, o = .own st e ∧ st ∈ lv ∧ n = sz
def Own.cut (o : Own) (lv : List Nat) : List Nat := match o with
 | .own st _ => lv.filter (· != st)
 | _ => lv
theorem Acc.nil (e : TypeId) (sz : Nat) (lv : List Nat) : Acc e sz .nil 0 [] lv := .inl ⟨rfl, rfl, rfl⟩
theorem Acc.own {e : TypeId} {sz st : Nat} {L : List D} {lv : List Nat} (h : st ∈ lv) : Acc e sz (.own st e) sz L lv := .inr ⟨st, rfl, h, rfl⟩
theorem Acc.more {e : TypeId} {sz : Nat} {o : Own} {n : Nat} {L : List D} {lv : List Nat} (h : Acc e sz o n L lv) (s : Nat) : Acc e sz o n L (s :: lv) := by
 rcases h with h | ⟨st, h1, h2, h3⟩
 ·exact .inl h
 ·exact .inr ⟨st, h1, List.mem_cons_of_mem _ h2, h3⟩
theorem Acc.app {P : Program} {t e : TypeId} {i : TypeInfo} {sz : Nat} {σ : St} {o o2 : Own} {n : Nat} {L l2 : List D} (h : Acc e sz o n L σ.lv) (hu : P.underlying t = some (.slice e)) (hi : P.info? e = some i) (hs : i.size = sz) (hp : 0 < sz) (hb : i.bytes ≤ 4096) (hz : (i.zero.map fun z => z.cells.size) = some sz)
  (hl : L.length + l2.length ≤ 16777216) (hne : l2 ≠ []) : aappend P σ t (.slice o n L) (.slice o2 sz l2) = some (.slice (.own σ.nx e) sz (L ++ l2), { σ with nx := σ.nx + 1, lv := σ.nx :: o.cut σ.lv }) := by
 subst hs
 unfold aappend
 simp only [hu, hi]
 rw [if_neg hne, if_pos ⟨trivial, hp, hb, hz, hl⟩]
 rcases h with ⟨rfl, rfl, rfl⟩ | ⟨st, rfl, h2, rfl⟩
 ·simp only [if_true, Own.cut]
 ·simp only [Own.cut]
  rw [if_pos ⟨trivial, trivial, h2⟩]
theorem Acc.app0 {P : Program} {t e : TypeId} {i : TypeInfo} {σ : St} {o o2 : Own} {n n2 : Nat} {L : List D} (hu : P.underlying t = some (.slice e)) (hi : P.info? e = some i) : aappend P σ t (.slice o n L) (.slice o2 n2 []) = some (.slice o n L, σ) := by
 unfold aappend
 simp only [hu, hi, if_true]
/-- what is left of it -/
theorem Acc.strip {e : TypeId} {sz : Nat} {o : Own} {n : Nat} {L : List D} {lv : List Nat} (h : Acc e sz o n L lv) : (D.slice o n L).strip = .slice .imm (if (L.map D.strip).isEmpty then 0 else sz) (L.map D.strip) := by
 rcases h with ⟨rfl, rfl, rfl⟩ | ⟨st, rfl, h2, rfl⟩
 ·rfl
 ·simp only [D.strip, D.strips_map, Own.st]
  cases L <;> simp
end

end Go.Proofs.Ytmglacjcefajlaa
