/- Regions with operations by hand, one after another: loads and stores in a row of one's own. Over any program. -/
import Derived.Test.YtjikokmhknnnoaaAmZ
import Derived.Test.YtjikokmhknnnoaaVk2
import Derived.Test.YtjikokmhknnnoaaUn
import Derived.Test.YtjikokmhknnnoaaQ69
namespace Go.Proofs.Ytjikokmhknnnoaa
open Go.RowKit

/-- what the rest of a region does -/
def LS (P : Program) (ops rest : List Oper) (σ : St) (Q : Ex → St → Prop) : Prop := ∃ σ', LWp P ops.toArray rest σ σ' ∧ Q .normal σ'
section
variable {E : Env} {P : Program} {B id : Nat} {ops rest : List Oper} {o : Oper} {σ σ1 : St} {Q : Ex → St → Prop}
theorem LS_nil (h : Q .normal σ) : LS P ops [] σ Q := ⟨σ, LWp_nil, h⟩
theorem LS_hand (h1 : SWp P ops.toArray o σ σ1) (h2 : LS P ops rest σ1 Q) : LS P ops (o :: rest) σ Q := by
 obtain ⟨σ', h3, h4⟩ := h2
 exact ⟨σ', LWp_cons h1 h3, h4⟩
theorem LWp_front (hE : E.Ok) : ∀ {l r : List Oper} {σ σ1 σ' : St}, l.all opOk = true → aops E.P (cal E) ops l σ = some σ1 → LWp E.P ops.toArray r σ1 σ' → LWp E.P ops.toArray (l ++ r) σ σ'
 | [], _, _, _, _, _, h, k => by cases h; exact k
 | o :: l, r, σ, σ1, σ', hok, h, k => by
  simp only [List.all_cons, zat] at hok
  cases hq : astep E.P (cal E) ops σ o with
  | none => simp only [aops, hq] at h; cases h
  | some σ2 =>
   simp only [aops, hq] at h
   exact LWp_cons (SWp_op hE hok.1 (by simpa using hq)) (LWp_front hE hok.2 h k)
theorem LS_ops (hE : E.Ok) (c : Nat) (hok : (rest.take c).all opOk = true) (h : ∀ R : Option St → Prop, (∀ σ1, LS E.P ops (rest.drop c) σ1 Q → R (some σ1)) → R (aops E.P (cal E) ops (rest.take c) σ)) : LS E.P ops rest σ Q := by
 obtain ⟨σ1, e1, σ', h3, h4⟩ := h (fun x => ∃ σ1, x = some σ1 ∧ LS E.P ops (rest.drop c) σ1 Q) fun σ1 hq => ⟨σ1, rfl, hq⟩
 have := LWp_front hE hok e1 h3
 rw [List.take_append_drop] at this
 exact ⟨σ', this, h4⟩
theorem S_ls (h : LS P ops ops σ Q) : S P B (.region id ops.toArray false) σ Q := by
 obtain ⟨σ', h1, h2⟩ := h
 exact S_reg h1 h2
theorem LS_load {t : TypeId} {s i off ln : Nat} (hw : awant ops σ.fr o = true) (ho : o.op = .load t (.tmp s)) (hp : ev σ.fr (.tmp s) = .bsl i off 0 ln)
  (h : ∀ R : Option D → Prop, (∀ d, LS P ops rest (σ.put o.dst d) Q → R (some d)) → R (aop P (fun _ => .ptr i off) (fun i => σ.bx[i]?) o)) : LS P ops (o :: rest) σ Q := by
 obtain ⟨d, h1, h2⟩ := h (fun x => ∃ d, x = some d ∧ LS P ops rest (σ.put o.dst d) Q) fun d hq => ⟨d, rfl, hq⟩
 exact LS_hand (SWp_load (by simpa using hw) ho hp h1) h2
theorem LS_field {t : TypeId} {s f i off ln off' : Nat} (hw : awant ops σ.fr o = true) (ho : o.op = .fieldAddr t (.tmp s) f) (hp : ev σ.fr (.tmp s) = .bsl i off 0 ln) (h : aop P (fun _ => .ptr i off) (fun i => σ.bx[i]?) o = some (.ptr i off'))
  (hq : LS P ops rest (σ.put o.dst (.bsl i off' 0 0)) Q) : LS P ops (o :: rest) σ Q := LS_hand (SWp_field (by simpa using hw) ho hp h) hq
end
end Go.Proofs.Ytjikokmhknnnoaa

/- A region that draws its order, whose drawn part only reads and calls: with loads in rows of one's own. Over any program. -/
namespace Go.Proofs.Ytjikokmhknnnoaa
open Go.RowKit

/-- an operation of the drawn part: it leaves boxes and rows alone -/
def COp (P : Program) (pc : Nat → List D → Option D) (σ : St) (fr : List D) (o : Oper) (d : D) : Prop :=
  aeff P (pcall pc) { σ with fr := fr } o = some (d, { σ with fr := fr }) ∨
  (∃ t s i off ln, o.op = .load t (.tmp s) ∧ ev fr (.tmp s) = .bsl i off 0 ln ∧ aop P (fun _ => .ptr i off) (fun i => σ.bx[i]?) o = some d) ∨
  (∃ t s f i off ln off', o.op = .fieldAddr t (.tmp s) f ∧ ev fr (.tmp s) = .bsl i off 0 ln ∧ aop P (fun _ => .ptr i off) (fun i => σ.bx[i]?) o = some (.ptr i off') ∧ d = .bsl i off' 0 0)
theorem COp.out {P : Program} {pc : Nat → List D → Option D} {σ : St} {fr : List D} {o : Oper} {d : D} {base : Nat} {w0 : World} {ok0 g : Gh} {a : Act} {w : World} (hpc : PCallOk P pc) (hben : benign o = true) (h : COp P pc σ fr o d)
    (hr : RS P base w0 ok0 g σ w) (hv : ∀ x ∈ o.op.operands, val w g (ev fr x) (a.eval x)) : EffOut P base w0 ok0 g a w o d σ := by
  rcases h with h | ⟨t, s, i, off, ln, ho, hp, h⟩ | ⟨t, s, f, i, off, ln, off', ho, hp, h, rfl⟩
  · obtain ⟨_, q⟩ := pre_eff (σ := { σ with fr := fr }) (bxf := fun i => σ.bx[i]?) hpc hr hben hv (fun i cs b _ q _ => q) (fun q => absurd q (by simp)) (fun q => absurd q (by simp)) (fun st q1 q2 _ => absurd q1 q2) h
    rcases q with ⟨_, q⟩ | ⟨cs, q, _⟩ | ⟨lv1, q, _⟩
    · rcases q with ⟨v, w1, g1, h1, h2, h3, h4⟩ | ⟨k, vs, h1, h2⟩
      · exact .inl ⟨v, w1, g1, h1, h2, h3, h4⟩
      · exact .inr (.inr ⟨k, vs, h1, h2⟩)
    · have := congrArg (fun s => s.bx.length) q
      simp at this
    · have := congrArg (fun s => s.nx) q
      simp at this
  · have hx := hv (.tmp s) (by rw [ho]; simp [Op.operands])
    rw [hp] at hx
    obtain ⟨b, hβ, hpv⟩ := val_bpt hx
    obtain ⟨v, q1, q2⟩ := aop_load (ρ := a.eval) (vals := fun _ => .ptr i off) ho (RW.boxesAt hr) (by rw [hpv]; exact val_of_R (.ptr _ _ _ hβ.1 hβ.2) rfl) h
    exact .inl ⟨v, w, g, q1, hr, Ext.refl _ _, q2⟩
  · have hx := hv (.tmp s) (by rw [ho]; simp [Op.operands])
    rw [hp] at hx
    obtain ⟨b, hβ, hpv⟩ := val_bpt hx
    obtain ⟨v, q1, q2⟩ := aop_field (w := w) (ρ := a.eval) (vals := fun _ => .ptr i off) ho (by rw [hpv]; exact val_of_R (.ptr _ _ _ hβ.1 hβ.2) rfl) h
    obtain ⟨c, hc, hcv⟩ := val_ptr q2
    exact .inl ⟨v, w, g, q1, hr, Ext.refl _ _, by rw [hcv]; exact val_of_R (.bpt _ _ _ _ hc.1 hc.2) rfl⟩
/-- the drawn part, one operation after another -/
inductive Steps (P : Program) (pc : Nat → List D → Option D) (σ : St) : List D → List Oper → List D → Prop
  | nil (fr : List D) : Steps P pc σ fr [] fr
  | cons {fr F : List D} {o : Oper} {t : Nat} {d : D} {l : List Oper} (ho : o.dst = some t) (h : COp P pc σ fr o d) (r : Steps P pc σ (fr.set t d) l F) : Steps P pc σ fr (o :: l) F
structure TrC (P : Program) (pc : Nat → List D → Option D) (σ : St) (l : List Oper) (fs : Nat → List D) (dv : Nat → D) : Prop where
  step : ∀ j o, l[j]? = some o → ∃ t, o.dst = some t ∧ fs (j + 1) = (fs j).set t (dv j) ∧ COp P pc σ (fs j) o (dv j)
theorem Steps.trace {P : Program} {pc : Nat → List D → Option D} {σ : St} {fr F : List D} {l : List Oper} (h : Steps P pc σ fr l F) : ∃ fs dv, fs 0 = fr ∧ fs l.length = F ∧ TrC P pc σ l fs dv := by
  induction h with
  | nil fr => exact ⟨fun _ => fr, fun _ => .undef, rfl, rfl, ⟨fun j o q => by simp at q⟩⟩
  | @cons fr F o t d l ho hc r ih =>
    obtain ⟨fs, dv, h1, h2, h3⟩ := ih
    refine ⟨fun j => match j with | 0 => fr | j + 1 => fs j, fun j => match j with | 0 => d | j + 1 => dv j, rfl, h2, ⟨fun j o' q => ?_⟩⟩
    cases j with
    | zero =>
      simp only [zg0, Option.some.injEq] at q
      subst q
      exact ⟨t, ho, h1, hc⟩
    | succ j =>
      rw [zg1] at q
      exact h3.step j o' q
/-- no guard, a slot of its own, and what it reads has been written before -/
def calmOk (ops : Array Oper) (c : Nat) : Bool := drawOkF (fun _ _ _ => false) ops c && (ops.toList.take c).zipIdx.all fun (o, i) => o.guard.isNone && o.dst.isSome && (ops.toList.take c).zipIdx.all fun (o', j) => !(o'.dst.any fun t => (names o).contains t) || decide (j < i)
theorem calmOk_at {ops : Array Oper} {c : Nat} (h : calmOk ops c = true) {i : Nat} {o : Oper} (hi : i < c) (ho : ops[i]? = some o) : o.guard = none ∧ ∀ (j : Nat) (o' : Oper) (t : Nat), j < c → ops[j]? = some o' → o'.dst = some t → t ∈ names o → j < i := by
  unfold calmOk at h
  rw [zat, List.all_eq_true] at h
  have hm : ∀ {k : Nat} {x : Oper}, k < c → ops[k]? = some x → (x, k) ∈ (ops.toList.take c).zipIdx := fun {k x} hk hx => by
    rw [List.mem_zipIdx_iff_getElem?, List.getElem?_take, if_pos hk]; simpa using hx
  have h1 := h.2 (o, i) (hm hi ho)
  simp only [zat, List.all_eq_true, Option.isNone_iff_eq_none] at h1
  refine ⟨h1.1.1, fun j o' t hj ho' ht hn => ?_⟩
  have h2 := h1.2 (o', j) (hm hj ho')
  simp only [ht, Option.any_some, List.contains_iff_mem.2 hn, Bool.not_true, Bool.false_or, decide_eq_true_eq] at h2
  exact h2
section
variable {P : Program} {pc : Nat → List D → Option D} {σ : St} {ops : Array Oper} {c : Nat} {fs : Nat → List D} {dv : Nat → D}
theorem trc_at (T : TrC P pc σ (ops.toList.take c) fs dv) {j : Nat} {o : Oper} (hj : j < c) (ho : ops[j]? = some o) : ∃ t, o.dst = some t ∧ fs (j + 1) = (fs j).set t (dv j) ∧ COp P pc σ (fs j) o (dv j) :=
  T.step j o (by rw [List.getElem?_take, if_pos hj]; simpa using ho)
theorem trc_old (T : TrC P pc σ (ops.toList.take c) fs dv) (hc : c ≤ ops.size) : ∀ j, j ≤ c → ∀ t, (∀ i, i < j → dstAt ops i ≠ some t) → (fs j)[t]? = (fs 0)[t]?
  | 0, _, _, _ => rfl
  | j + 1, hj, t, h => by
    have hs : j < ops.size := by omega
    obtain ⟨t', h1, h2, _⟩ := trc_at T (j := j) (by omega) (Array.getElem?_eq_getElem hs)
    have hne : t' ≠ t := fun e => h j (by omega) (by unfold dstAt; rw [Array.getElem?_eq_getElem hs, zbs, h1, e])
    rw [h2, List.getElem?_set_ne hne]
    exact trc_old T hc j (by omega) t (fun i hi => h i (by omega))
theorem trc_len (T : TrC P pc σ (ops.toList.take c) fs dv) (hc : c ≤ ops.size) : ∀ j, j ≤ c → (fs j).length = (fs 0).length
  | 0, _ => rfl
  | j + 1, hj => by
    have hs : j < ops.size := by omega
    obtain ⟨t', h1, h2, _⟩ := trc_at T (j := j) (by omega) (Array.getElem?_eq_getElem hs)
    rw [h2, List.length_set]
    exact trc_len T hc j (by omega)
theorem trc_new (T : TrC P pc σ (ops.toList.take c) fs dv) (hok : calmOk ops c = true) (hc : c ≤ ops.size) : ∀ j, j ≤ c → ∀ i t, i < j → dstAt ops i = some t → t < (fs 0).length → (fs j)[t]? = some (dv i)
  | 0, _, _, _, h, _, _ => absurd h (Nat.not_lt_zero _)
  | j + 1, hj, i, t, hi, hd, ht => by
    have hs : j < ops.size := by omega
    obtain ⟨t', h1, h2, _⟩ := trc_at T (j := j) (by omega) (Array.getElem?_eq_getElem hs)
    have hd' : dstAt ops j = some t' := by unfold dstAt; rw [Array.getElem?_eq_getElem hs, zbs, h1]
    rw [h2]
    by_cases e : i = j
    · subst e
      rw [hd'] at hd
      cases hd
      rw [List.getElem?_set_self (by rw [trc_len T hc i (by omega)]; exact ht)]
    · have hok' : drawOkF (fun _ _ _ => false) ops c = true := by unfold calmOk at hok; rw [zat] at hok; exact hok.1
      have hne : t' ≠ t := fun q => by subst q; exact e (dst_apart hok' (by omega) (by omega) hc hd hd')
      rw [List.getElem?_set_ne hne]
      exact trc_new T hok hc j (by omega) i t (by omega) hd ht
end
/-- in the middle of the region -/
def HInv (P : Program) (base : Nat) (w0 : World) (ok0 : Gh) (ops : Array Oper) (c : Nat) (σ : St) (dv : Nat → D) (g0 : Gh) (a0 : Act) (w1 : World) (W : List Oper → Act → World → Prop) (listed : Array Bool) (a : Act) (w : World) : Prop :=
  listed.size = ops.size ∧ Closed ops listed ∧
    (((∀ i, c ≤ i → listed.getD i false = false) ∧ ∃ g, RS P base w0 ok0 g σ w ∧ Ext g0 w1 g w ∧ a.defers = a0.defers ∧ a.tmps.size = a0.tmps.size ∧ (∀ t, (∀ i, i < c → listed.getD i false = true → dstAt ops i ≠ some t) → a.tmps[t]? = a0.tmps[t]?) ∧ (∀ i, i < c → listed.getD i false = true → ∀ t, dstAt ops i = some t → t < a0.tmps.size → ∃ v, a.tmps[t]? = some v ∧ val w g (dv i) v)) ∨
     (∃ k, c < k ∧ k ≤ ops.size ∧ (∀ i, listed.getD i false = decide (i < k)) ∧ W (ops.toList.drop k) a w))
section
variable {P : Program} {pc : Nat → List D → Option D} {base : Nat} {w0 : World} {ok0 : Gh} {σ : St} {ops : Array Oper} {c : Nat} {ro : Option Nat} {n : Nat} {Q : Exit → Act → World → Prop} {g0 : Gh} {a0 : Act} {w1 : World}
theorem calm_wp {id : Nat} {F : List D} (hm : P.follows .mixedOrders = true) (hpc : PCallOk P pc) (hok : calmOk ops c = true) (hc : c ≤ ops.size) (hrel : Rel P base w0 ok0 g0 σ a0 w1) (hst : Steps P pc σ σ.fr (ops.toList.take c) F)
    (tail : ∀ a w g, Rel P base w0 ok0 g { σ with fr := F } a w → Ext g0 w1 g w → a.defers = a0.defers → wpListIn (fence ro) n P ops Q (ops.toList.drop c) a w) : (Code.region id ops true).wpIn (fence ro) n P Q a0 w1 := by
  have hok' : drawOkF (fun _ _ _ => false) ops c = true := by unfold calmOk at hok; rw [zat] at hok; exact hok.1
  obtain ⟨fs, dv, e1, e2, T⟩ := hst.trace
  have hclen : (ops.toList.take c).length = c := by simp; omega
  rw [hclen] at e2
  obtain ⟨hrel1, hext1⟩ := hrel.drew
  have hback : ∀ j o, ops[j]? = some o → ∀ e ∈ o.after, Region.binds .any e = true → e.on < j := fun j o ho => (drawOk_at hok' ho).2.1
  have hF : F.length = σ.fr.length := by rw [← e2, trc_len T hc c (Nat.le_refl _), e1]
  have hlen : σ.fr.length = a0.tmps.size := hrel.len
  -- when all of the first part have come up
  have full : ∀ (listed : Array Bool) (a : Act) (w : World) (g : Gh), (∀ j, j < c → listed.getD j false = true) → RS P base w0 ok0 g σ w → Ext g0 w1.drew g w → a.tmps.size = a0.tmps.size → (∀ t, (∀ i, i < c → listed.getD i false = true → dstAt ops i ≠ some t) → a.tmps[t]? = a0.tmps[t]?) →
      (∀ i, i < c → listed.getD i false = true → ∀ t, dstAt ops i = some t → t < a0.tmps.size → ∃ v, a.tmps[t]? = some v ∧ val w g (dv i) v) → Rel P base w0 ok0 g { σ with fr := F } a w := by
    intro listed a w g hall hr he hsz hfix hphi
    refine ⟨hr, by show F.length = _; rw [hF, hlen, hsz], fun t d hd => ?_⟩
    have hd2 : F[t]? = some d := hd
    have htl : t < F.length := (List.getElem?_eq_some_iff.1 hd2).1
    by_cases h : ∃ i, i < c ∧ dstAt ops i = some t
    · obtain ⟨i, hi, hd'⟩ := h
      have hta : t < a0.tmps.size := by rw [← hlen, ← hF]; exact htl
      obtain ⟨v, q1, q2⟩ := hphi i hi (hall i hi) t hd' hta
      have h3 := trc_new T hok hc c (Nat.le_refl _) i t hi hd' (by rw [e1, hlen]; exact hta)
      rw [e2, hd2] at h3
      cases h3
      exact ⟨v, q1, q2⟩
    · have hno : ∀ i, i < c → dstAt ops i ≠ some t := fun i hi q => h ⟨i, hi, q⟩
      have h3 := trc_old T hc c (Nat.le_refl _) t hno
      rw [e2, e1, hd2] at h3
      obtain ⟨v, q1, q2⟩ := hrel1.fr t d h3.symm
      exact ⟨v, (hfix t (fun i hi _ => hno i hi)).trans q1, q2.ext he⟩
  refine wpIn_region_any hm (wpAnyIn_inv (HInv P base w0 ok0 ops c σ dv g0 a0 w1.drew (wpListIn (fence ro) n P ops Q)) ?_ ?_ _ _ _ _ ?_ (by simp))
  · rintro listed a w i o ⟨hls, hcl, hph⟩ hun ho hall
    have hi : i < ops.size := (Array.getElem?_eq_some_iff.1 ho).1
    have hun' : listed.getD i false = false := by
      have hil : i < listed.size := by omega
      simp only [Array.getD_eq_getD_getElem?, Array.getElem?_eq_getElem hil, zgd] at hun ⊢
      exact hun
    have hready : i ∈ Region.ready .any ops listed := mem_ready.2 ⟨hun, o, ho, hall⟩
    have hcl' : Closed ops (listed.setIfInBounds i true) := hcl.set hready
    have hls' : (listed.setIfInBounds i true).size = ops.size := by simpa using hls
    obtain ⟨k1, _, k3, k4⟩ := drawOk_at hok' ho
    -- a step of the second part
    have second : ∀ k, c ≤ k → i = k → (∀ j, listed.getD j false = decide (j < k)) → wpListIn (fence ro) n P ops Q (ops.toList.drop k) a w →
        if Region.wanted o (yielded ops a.tmps) = true then o.wpIn (fence ro) n P a w (HInv P base w0 ok0 ops c σ dv g0 a0 w1.drew (wpListIn (fence ro) n P ops Q) (listed.setIfInBounds i true)) Q
        else (∀ f, o.about P w a.eval = some f → (fence ro).fn f) ∧ HInv P base w0 ok0 ops c σ dv g0 a0 w1.drew (wpListIn (fence ro) n P ops Q) (listed.setIfInBounds i true) (a.put o.dst undef) w := by
      rintro k hck rfl hlk hW
      have hdrop : ops.toList.drop i = o :: ops.toList.drop (i + 1) := by
        rw [List.drop_eq_getElem_cons (by simpa using hi)]
        congr 1
        have : ops[i] = o := by rw [Array.getElem?_eq_getElem hi] at ho; exact Option.some.inj ho
        simpa using this
      rw [hdrop] at hW
      unfold wpListIn at hW
      have hlk' : ∀ j, (listed.setIfInBounds i true).getD j false = decide (j < i + 1) := fun j => by
        by_cases hj : j = i
        · subst hj
          rw [show (listed.setIfInBounds j true).getD j false = true from (set_listed (by omega)).2 (.inr rfl)]; simp
        · rw [getD_set_ne false (fun e => hj e.symm), hlk j]
          by_cases hlt : j < i
          · simp [hlt]; omega
          · simp [hlt]; omega
      by_cases hw : Region.wanted o (yielded ops a.tmps) = true
      · rw [if_pos hw] at hW ⊢
        exact Oper.wpIn_mono (fun a' w' h' => ⟨hls', hcl', .inr ⟨i + 1, by omega, by omega, hlk', h'⟩⟩) hW
      · rw [if_neg hw] at hW ⊢
        exact ⟨hW.1, ⟨hls', hcl', .inr ⟨i + 1, by omega, by omega, hlk', hW.2⟩⟩⟩
    rcases hph with ⟨hno, g, hr, he, hdf, hsz, hfix, hphi⟩ | ⟨k, hk1, hk2, hk3, hW⟩
    · by_cases hic : i < c
      · obtain ⟨hben, _, hap⟩ := k4 hic
        obtain ⟨hg, hrd⟩ := calmOk_at hok hic ho
        obtain ⟨t, hdst, hfs, hC⟩ := trc_at T hic ho
        have hdi : dstAt ops i = some t := by unfold dstAt; rw [ho, zbs, hdst]
        have hv : ∀ x ∈ o.op.operands, val w g (ev (fs i) x) (a.eval x) := by
          refine ops_vals k1 (fun t' ht' => ?_)
          by_cases hb : t' < a0.tmps.size
          · by_cases h : ∃ j, j < c ∧ dstAt ops j = some t'
            · obtain ⟨j, hj, hdj⟩ := h
              have hjs : j < ops.size := by omega
              have hdo : (ops[j]).dst = some t' := by
                have := hdj
                unfold dstAt at this
                rwa [Array.getElem?_eq_getElem hjs, zbs] at this
              have hji : j < i := hrd j ops[j] t' hj (Array.getElem?_eq_getElem hjs) hdo ht'
              have hlj : listed.getD j false = true := by
                rcases (hap j ops[j] t' hj (by omega) (Array.getElem?_eq_getElem hjs) hdo (.inl ht')).1 with ⟨_, q⟩ | ⟨q, _⟩
                · exact listed_of_before hcl ho hall q
                · omega
              obtain ⟨v, q1, q2⟩ := hphi j hj hlj t' hdj hb
              have h5 := trc_new T hok hc i (by omega) j t' hji hdj (by rw [e1, hlen]; exact hb)
              rw [h5, zgd, Array.getD_eq_getD_getElem?, q1]
              exact q2
            · have hno' : ∀ j, j < c → dstAt ops j ≠ some t' := fun j hj q => h ⟨j, hj, q⟩
              have h5 := trc_old T hc i (by omega) t' (fun j hj => hno' j (by omega))
              rw [e1] at h5
              rw [h5, Array.getD_eq_getD_getElem?, hfix t' (fun j hj _ => hno' j hj)]
              have hb2 : t' < σ.fr.length := by rw [hlen]; exact hb
              obtain ⟨v, q1, q2⟩ := hrel1.fr t' _ (List.getElem?_eq_getElem hb2)
              rw [List.getElem?_eq_getElem hb2, q1]
              exact q2.ext he
          · have h1 : (fs i)[t']? = none := List.getElem?_eq_none (by rw [trc_len T hc i (by omega), e1, hlen]; omega)
            have h2 : a.tmps[t']? = none := Array.getElem?_eq_none (by omega)
            rw [h1, Array.getD_eq_getD_getElem?, h2]; rfl
        have hout := COp.out hpc hben hC hr hv
        have hw : Region.wanted o (yielded ops a.tmps) = true := by unfold Region.wanted; rw [hg]
        rw [if_pos hw]
        refine ⟨fun f _ => fence_fn ro f, ?_⟩
        have hnd : ∀ c, o.op ≠ .defer c := fun c e => by
          unfold opOk at k1
          rw [zat, e] at k1
          exact absurd k1.2 (by simp)
        rw [Oper.semAt_plain _ _ _ hnd]
        have hne : ∀ j, j < c → j ≠ i → dstAt ops j ≠ some t := fun j hj hji q => hji (dst_apart hok' hj hic hc q hdi)
        have K : ∀ (v : Value) (g1 : Gh) (w2 : World), RS P base w0 ok0 g1 σ w2 → Ext g w g1 w2 → val w2 g1 (dv i) v → HInv P base w0 ok0 ops c σ dv g0 a0 w1.drew (wpListIn (fence ro) n P ops Q) (listed.setIfInBounds i true) (a.put o.dst v) w2 := by
          intro v g1 w2 r1 r2 r3
          refine ⟨hls', hcl', .inl ⟨fun j hj => ?_, g1, r1, he.trans r2, by rw [hdst]; exact hdf, by rw [hdst]; simpa [Act.put] using hsz, fun t' ht' => ?_, fun j hj hl t' hd' hb => ?_⟩⟩
          · rw [getD_set_ne false (by omega)]; exact hno j hj
          · have h1 : t ≠ t' := fun e => ht' i hic ((set_listed (by omega)).2 (.inr rfl)) (by rw [hdi, e])
            rw [hdst]
            simp only [Act.put]
            rw [Array.getElem?_setIfInBounds_ne h1]
            exact hfix t' (fun j hj hl => ht' j hj ((set_listed (by omega)).2 (.inl hl)))
          · by_cases hji : j = i
            · subst hji
              rw [hdi] at hd'
              cases hd'
              refine ⟨v, ?_, r3⟩
              rw [hdst]
              simp only [Act.put]
              rw [Array.getElem?_setIfInBounds]
              simp only [if_true]
              rw [if_pos (by rw [hsz]; exact hb)]
            · have hl' : listed.getD j false = true := ((set_listed (by omega)).1 hl).resolve_right hji
              obtain ⟨u, q1, q2⟩ := hphi j hj hl' t' hd' hb
              have h1 : t ≠ t' := fun e => hne j hj hji (by rw [hd', e])
              refine ⟨u, ?_, q2.ext r2⟩
              rw [hdst]
              simp only [Act.put]
              rw [Array.getElem?_setIfInBounds_ne h1]
              exact q1
        rcases hout with ⟨v, w2, g1, h1, h2, h3, h4⟩ | ⟨w2, g1, h1, h5, h2, h3⟩ | ⟨k, vs, h1, h2⟩
        · rw [h1]
          exact K v g1 w2 h2 h3 h4
        · rw [h1]
          exact K _ g1 w2 h2 h3 (by rw [h5]; rfl)
        · rw [h1]
          refine ⟨fun e => absurd e (by rw [fence_depth]; simp), (fence_calls h2).mono ?_⟩
          rintro e w2 ⟨v, g1, rfl, q1, q2, q3⟩
          exact K v g1 w2 q1 q2 q3
      · have hb := (k3 (by omega)).resolve_right (fun q => by simp at q)
        have hcall : ∀ j, j < i → listed.getD j false = true := fun j hj => listed_of_before hcl ho hall (hb j hj)
        have hci : i = c := by
          by_cases e : i = c
          · exact e
          · have := hcall c (by omega)
            rw [hno c (Nat.le_refl _)] at this; cases this
        have hR := full listed a w g (fun j hj => hcall j (by omega)) hr he hsz hfix hphi
        refine second c (Nat.le_refl _) hci (fun j => ?_) (tail a w g hR (hext1.trans he) hdf)
        by_cases hj : j < c
        · rw [hcall j (by omega)]; simp [hj]
        · rw [hno j (by omega)]; simp [hj]
    · have h0 : ¬ i < k := fun q => by have := hk3 i; rw [hun'] at this; simp [q] at this
      have hb := (k3 (by omega)).resolve_right (fun q => by simp at q)
      have hik : i = k := by
        by_cases e : i = k
        · exact e
        · have h2 : listed.getD k false = true := listed_of_before hcl ho hall (hb k (by omega))
          rw [hk3 k] at h2
          simp at h2
      exact second k (by omega) hik hk3 hW
  · rintro listed a w ⟨hls, hcl, hph⟩ hrd
    have hal := all_listed' hls hback hrd
    rcases hph with ⟨hno, g, hr, he, hdf, hsz, hfix, hphi⟩ | ⟨k, hk1, hk2, hk3, hW⟩
    · have hcN : c = ops.size := by
        by_cases e : c = ops.size
        · exact e
        · have := hal c (by omega)
          rw [hno c (Nat.le_refl _)] at this; cases this
      have hW := tail a w g (full listed a w g (fun j hj => hal j (by omega)) hr he hsz hfix hphi) (hext1.trans he) hdf
      rw [hcN, List.drop_eq_nil_of_le (by simp)] at hW
      exact hW
    · have hkN : k = ops.size := by
        by_cases e : k = ops.size
        · exact e
        · have := hal k (by omega)
          rw [hk3 k] at this; simp at this
      rw [hkN, List.drop_eq_nil_of_le (by simp)] at hW
      exact hW
  · have hnone : ∀ i, (Array.replicate ops.size false).getD i false = false := fun i => by
      rw [Array.getD_eq_getD_getElem?, Array.getElem?_replicate]; split <;> rfl
    have hcl0 : Closed ops (Array.replicate ops.size false) := by
      intro j o _ hl
      rw [hnone j] at hl
      cases hl
    exact ⟨by simp, hcl0, .inl ⟨fun i _ => hnone i, g0, hrel1.rs, Ext.refl _ _, rfl, rfl, fun _ _ => rfl, fun i _ hl => (by rw [hnone i] at hl; cases hl)⟩⟩
end
/-- what is left of the drawn part -/
def CS (P : Program) (pc : Nat → List D → Option D) (ops rest : List Oper) (σ : St) (Q : Ex → St → Prop) (l : List Oper) (fr : List D) : Prop := ∃ F, Steps P pc σ fr l F ∧ LS P ops rest { σ with fr := F } Q
section
variable {P : Program} {pc : Nat → List D → Option D} {ops rest l : List Oper} {σ : St} {Q : Ex → St → Prop} {fr : List D} {o : Oper} {t : Nat}
theorem CS_nil (h : LS P ops rest { σ with fr := fr } Q) : CS P pc ops rest σ Q [] fr := ⟨fr, .nil _, h⟩
theorem CS_step {d : D} (ho : o.dst = some t) (h : COp P pc σ fr o d) (hk : CS P pc ops rest σ Q l (fr.set t d)) : CS P pc ops rest σ Q (o :: l) fr := by
  obtain ⟨F, h1, h2⟩ := hk
  exact ⟨F, .cons ho h h1, h2⟩
theorem CS_op (ho : o.dst = some t) (h : ∀ R : Option (D × St) → Prop, (∀ d, CS P pc ops rest σ Q l (fr.set t d) → R (some (d, { σ with fr := fr }))) → R (aeff P (pcall pc) { σ with fr := fr } o)) : CS P pc ops rest σ Q (o :: l) fr := by
  obtain ⟨d, h1, h2⟩ := h (fun x => ∃ d, x = some (d, { σ with fr := fr }) ∧ CS P pc ops rest σ Q l (fr.set t d)) fun d hq => ⟨d, rfl, hq⟩
  exact CS_step ho (.inl h1) h2
theorem CS_load {ty : TypeId} {s i off ln : Nat} (ho : o.dst = some t) (hop : o.op = .load ty (.tmp s)) (hp : ev fr (.tmp s) = .bsl i off 0 ln) (h : ∀ R : Option D → Prop, (∀ d, CS P pc ops rest σ Q l (fr.set t d) → R (some d)) → R (aop P (fun _ => .ptr i off) (fun i => σ.bx[i]?) o)) : CS P pc ops rest σ Q (o :: l) fr := by
  obtain ⟨d, h1, h2⟩ := h (fun x => ∃ d, x = some d ∧ CS P pc ops rest σ Q l (fr.set t d)) fun d hq => ⟨d, rfl, hq⟩
  exact CS_step ho (.inr (.inl ⟨ty, s, i, off, ln, hop, hp, h1⟩)) h2
theorem CS_field {ty : TypeId} {s f i off ln off' : Nat} (ho : o.dst = some t) (hop : o.op = .fieldAddr ty (.tmp s) f) (hp : ev fr (.tmp s) = .bsl i off 0 ln) (h : aop P (fun _ => .ptr i off) (fun i => σ.bx[i]?) o = some (.ptr i off')) (hk : CS P pc ops rest σ Q l (fr.set t (.bsl i off' 0 0))) : CS P pc ops rest σ Q (o :: l) fr :=
  CS_step ho (.inr (.inr ⟨ty, s, f, i, off, ln, off', hop, hp, h, rfl⟩)) hk
end
theorem S_calm {E : Env} (hE : E.Ok) {B id : Nat} {ops : List Oper} {σ : St} {Q : Ex → St → Prop} (c : Nat) (hc : c ≤ ops.length) (hok : calmOk ops.toArray c = true) (h : CS E.P (fn E) ops (ops.drop c) σ Q (ops.take c) σ.fr) : S E.P B (.region id ops.toArray true) σ Q := by
  intro base w0 ok0 gs ws ds T g a w hβ hsz hrel hext hmk hT
  obtain ⟨F, h1, σ', h2, hq⟩ := h
  have hp : PCallOk E.P (fn E) := fun k args d h => fn_sound E hE h
  refine calm_wp hE.mixed hp hok (by simpa using hc) hrel (by simpa using h1) (fun a1 w1 g1 r1 r2 r3 => ?_)
  have := h2 base w0 ok0 g1 a1 w1 none 0 (fun e a' w' => T e a' w') r1 (fun a' w' g' q1 q2 q3 => hT .normal σ' a' w' g' hq q1 (hext.trans (r2.trans q2)) (hmk.trans (r2.trans q2) hsz (.of_eq (q3.trans r3))))
  simpa using this
end Go.Proofs.Ytjikokmhknnnoaa

/- scope.Check as a call that hands back a box: the row of faults. -/
namespace Go.Proofs.Ytjikokmhknnnoaa
open Go.RowKit Go.Shelf

mutual
/-- data of numbers, strings and rows alone -/
def D.pl : D → Bool
  | .agg l => D.pls l
  | .slice o _ l => decide (o = .imm) && D.pls l
  | .int _ _ => true
  | .str _ => true
  | .bool _ => true
  | _ => false
def D.pls : List D → Bool
  | [] => true
  | d :: r => D.pl d && D.pls r
end
theorem D.pls_at : ∀ {l : List D}, D.pls l = true → ∀ (j : Nat) (h : j < l.length), D.pl l[j] = true
  | [], _, j, h => absurd h (Nat.not_lt_zero _)
  | d :: r, h, 0, _ => by simp only [D.pls, zat] at h; exact h.1
  | d :: r, h, j + 1, hj => by simp only [D.pls, zat] at h; exact D.pls_at h.2 j (by simpa using hj)
theorem D.pls_of : ∀ {l : List D}, (∀ d ∈ l, D.pl d = true) → D.pls l = true
  | [], _ => rfl
  | d :: r, h => by simp only [D.pls, zat]; exact ⟨h d (by simp), D.pls_of fun x hx => h x (by simp [hx])⟩
theorem R.pl {w : World} {g : Gh} {d : D} {cs : List Value} (h : R w g d cs) (hp : d.pl = true) : R w (okGh g.ok) d cs := by
  induction h with
  | bool b => exact .bool b
  | int k n h => exact .int k n h
  | str s h => exact .str s h
  | agg l vs hl _ ih =>
    simp only [D.pl] at hp
    exact .agg l vs hl (fun j h h' => ih j h h' (D.pls_at hp j h))
  | slice o n l A cap cs hl hm ho hnil hA _ hn hc ih =>
    simp only [D.pl, zat, decide_eq_true_eq] at hp
    obtain ⟨rfl, hp⟩ := hp
    exact .slice .imm n l A cap cs hl hm (fun s e q => by cases q) trivial trivial (fun j h => ih j h (D.pls_at hp j h)) hn hc
  | _ => simp [D.pl] at hp
theorem dN_plain (t : Tr) : (dN t).pl = true := by
  induction t using Tr.ind with
  | h k n s c ih =>
    rw [dN_eq]
    simp only [D.pl, D.pls, Tr.kids, Bool.and_true, Bool.true_and]
    exact D.pls_of fun d hd => by obtain ⟨t, ht, rfl⟩ := List.mem_map.1 hd; exact ih t ht
theorem dV_plain (v : Vd) : (dV v).pl = true := rfl
theorem sl_plain {n : Nat} {l : List D} (h : ∀ d ∈ l, D.pl d = true) : (sl n l).pl = true := by
  show (decide (Own.imm = Own.imm) && D.pls l) = true
  rw [D.pls_of h]; rfl
theorem kids_plain (t : Tr) : (sl 4 (t.kids.map dN)).pl = true := sl_plain fun d hd => by obtain ⟨t, _, rfl⟩ := List.mem_map.1 hd; exact dN_plain t
theorem dP_plain (q : Pr) : (dP q).pl = true := by
  unfold dP
  simp only [D.pl, D.pls, kids_plain, sl_plain (l := q.params.map dV) (n := 3) (fun d hd => by obtain ⟨t, _, rfl⟩ := List.mem_map.1 hd; exact dV_plain t), Bool.and_true]
theorem dG_plain (p : Pg) : (dG p).pl = true := by
  unfold dG
  simp only [D.pl, D.pls, kids_plain, sl_plain (l := p.vars.map dV) (n := 3) (fun d hd => by obtain ⟨t, _, rfl⟩ := List.mem_map.1 hd; exact dV_plain t), sl_plain (l := p.procs.map dP) (n := 6) (fun d hd => by obtain ⟨t, _, rfl⟩ := List.mem_map.1 hd; exact dP_plain t), Bool.and_true]

/-- faults in memory read as their data -/
theorem R_ft {w : World} {g : Gh} {ok : Nat → Prop} (hg : ∀ b o, ok b → g.ok b o) {x : Ft} {cs : List Value} (h : shFt.R w ok x cs) : R w g (dFt x) cs := by
  obtain ⟨h1, h2, h3, vp, rfl, ⟨A, cap, rfl, hl, hm, _, hc⟩, h5⟩ := h
  have key := R.slice (w := w) (g := g) .imm (if (x.path.map dI).isEmpty then 0 else 1) (x.path.map dI) A cap (fun j => [.int .i64 ((x.path[j]?).getD 0)]) (by simpa using hl) hm (fun _ _ q => by cases q) trivial trivial
    (fun j hj => by
      have hj' : j < x.path.length := by simpa using hj
      simp only [List.getElem_map, dI, List.getElem?_eq_getElem hj', zgd]
      exact .int _ _ (h5 _ (List.getElem_mem hj')))
    (fun j hj => by rw [sl_n (j := j) hj]; rfl)
    (fun j hj => by
      have hj' : j < x.path.length := by simpa using hj
      obtain ⟨b, off, q1, q2, q3⟩ := hc j hj'
      rw [sl_n (j := j) hj]
      refine ⟨b, off, q1, fun m u hu => ?_⟩
      match m with
      | 0 =>
        simp only [zg0, Option.some.injEq, List.getElem?_eq_getElem hj', zgd] at hu
        subst hu
        rw [Nat.mul_one, Nat.add_zero]
        exact ⟨hg b _ q2, q3⟩
      | m + 1 => simp at hu)
  rw [zlm] at key
  unfold dFt
  refine R_agg_of rfl (fun j q1 q2 => ?_)
  match j, q1 with
  | 0, _ => exact .int _ _ h1
  | 1, _ => exact key
  | 2, _ => exact .int _ _ h2
  | 3, _ => exact .str _ h3
  | j + 4, q1 => simp at q1; omega
theorem R_fts {w : World} {g : Gh} {ok : Nat → Prop} (hg : ∀ b o, ok b → g.ok b o) : ∀ {l : List Ft} {cs : List Value}, CellsS shFt w ok l cs → R w g (.agg (l.flatMap fun f => (dFt f).cells)) cs
  | [], cs, h => by obtain rfl : cs = [] := h; exact .agg _ _ rfl (fun j h => absurd h (Nat.not_lt_zero _))
  | x :: l, cs, ⟨c, r, e, h1, h2⟩ => by
    rw [e, List.flatMap_cons]
    exact R_agg_append (R_ft hg h1).cell (R_fts hg h2)

noncomputable def checkCa (p : Pg) : Nat → List D → St → Option (D × St) := fun k args σ => open Classical in
  if k = 18 ∧ args.map D.strip = [dG p] ∧ args.all (fun d => d.under 0 && d.good) = true then some (.bsl σ.bx.length 0 4 (checkF p).length, { σ with bx := σ.bx ++ [(checkF p).flatMap fun f => (dFt f).cells] }) else none
theorem CaOk.check (p : Pg) (hv : validB p = true) (hne : checkF p ≠ []) : CaOk Try.prog (checkCa p) := by
  intro base w0 ok0 k args σ d σ' q
  unfold checkCa at q
  split at q
  · rename_i hk
    obtain ⟨rfl, hs, hu⟩ := hk
    cases q
    refine ⟨rfl, fun g vs w hr hvs => ?_⟩
    have hf := vals_free hvs hu
    rw [hs] at hf
    obtain ⟨hl, hat⟩ := hf
    match vs, hl with
    | [vp], _ =>
      have h0 := (hat 0 (by simp) (by simp)).to1 (by rfl)
      obtain ⟨cs, hR, hpk⟩ := h0
      have hp : val w (okGh g.ok) (dG p) vp := val.of1 ⟨cs, hR.pl (dG_plain p), hpk⟩
      have hsz : ∀ b o, g.ok b o → b < w.heap.size := fun b o q => RW.ok_lt hr q
      refine (check_mem p hv hsz hp).mono ?_
      rintro e w' ⟨v', B1, rfl, hB1, ⟨us, hown, hcs⟩, hb⟩
      have hbs := RW.hbs hr
      rcases hown.2 with ⟨_, hl0⟩ | ⟨b, cap, cur, rfl, hbb, hcur, hle, hmx, hcz, htake⟩
      · exact absurd (List.eq_nil_of_length_eq_zero hl0) hne
      have hlt : b < w'.heap.size := (Array.getElem?_eq_some_iff.1 hcur).1
      obtain ⟨h1, e1⟩ := RW.grow hr hb (ok' := fun c o => g.ok c o ∨ (w.heap.size ≤ c ∧ c < w'.heap.size ∧ c ≠ b)) (fun _ _ q => .inl q) (fun c o q => q.imp id (fun q => ⟨q.1, q.2.1⟩))
      have hbox : BoxIn w' { g with ok := fun c o => g.ok c o ∨ (w.heap.size ≤ c ∧ c < w'.heap.size ∧ c ≠ b) } b false ((checkF p).flatMap fun f => (dFt f).cells) := by
        refine ⟨us, cur.toList.drop ((checkF p).length * 4), 51, ?_, R_fts (g := { g with ok := fun c o => g.ok c o ∨ (w.heap.size ≤ c ∧ c < w'.heap.size ∧ c ≠ b) }) (fun c o q => (Or.inr ⟨by omega, q.2.1, fun e => q.2.2 (by rw [e]; rfl)⟩ : g.ok c o ∨ (w.heap.size ≤ c ∧ c < w'.heap.size ∧ c ≠ b))) hcs⟩
        rw [← (show cur.toList.take ((checkF p).length * 4) = us from htake), List.take_append_drop, Array.toArray_toList]
        exact hcur
      obtain ⟨r1, r2⟩ := h1.addBox (i := σ.bx.length) (b := b) (m := false) (by omega) hlt (fun o q => by
          rcases q with q | q
          · have := hsz b o q; omega
          · exact q.2.2 rfl) (fun q => by have := (RW.prot hr b q).1; omega) (fun q => by have := (RW.kept hr b q).1; omega) (fun j q => by have := (RW.dom hr j b q).2.2.1; omega)
        (fun s x hs' hx q => by
          obtain ⟨v2, e2, len, ys, q1, q2, _⟩ := RW.row hr s hs'
          have hx' : g.ow s = some x := hx
          rw [hx'] at q1
          cases q1
          have := (q2.lt b q).2; omega) (List.getElem?_eq_none (Nat.le_refl _)) hbox
      refine ⟨_, _, rfl, r1.same_bx (fun i => snoc_at _ _ i), e1.trans r2, val_of_R (.bsl _ _ _ _ b cap ?_ ?_ hle hmx (by omega)) rfl⟩
      · show (if _ = _ then _ else _) = _; rw [if_pos rfl]
      · show (if _ = _ then _ else _) = _; rw [if_pos rfl]
  · cases q

end Go.Proofs.Ytjikokmhknnnoaa

/- The law ScopeUnused: is a procedure called. -/
namespace Go.Proofs.Ytjikokmhknnnoaa
open Go.RowKit
theorem any27 : (Try.prog.funcs[27]?).any (fun fn => fn.body.isSome && fn.name != "runtime.NumGoroutine") = true := by kernel_rfl
theorem any26 : (Try.prog.funcs[26]?).any (fun fn => fn.body.isSome && fn.name != "runtime.NumGoroutine") = true := by kernel_rfl
end Go.Proofs.Ytjikokmhknnnoaa

/- The law ScopeUnused: equal rows of faults. -/
namespace Go.Proofs.Ytjikokmhknnnoaa
open Go.RowKit

set_option maxRecDepth 100000 in
set_option maxHeartbeats 4000000 in
theorem equal_fn (l : List Ft) (hl : l.length ≤ 1000000) (hp : ∀ f ∈ l, f.path.length ≤ 1000000 ∧ IntKind.i64.wrap f.proc = f.proc) : fn EV 27 [sl 4 (l.map dFt), sl 4 (l.map dFt), .int .i64 0] = some (.int .i64 1) := by
  refine fn_X rfl Try.func27 rfl (by simp only [plain, List.all_cons, List.all_nil, sl_pl dFt_under, Bool.and_true]; rfl) (rfl) (rfl) (rfl) ?_
  simp only [zmc, zmn, D.strip, sl_strip (map_strip dFt_strip _)]
  simp only [enterSt, Try.ntmps27, zlc, zln, Nat.reduceAdd, Nat.reduceSub, zr1, zr0, zca, zna]
  refine X_seq ?_
  refine X_rg fun R hR => ?_
  simp only [inr_i64, Int.reduceLE, Int.reduceNeg, aops, astep, awant, aeff, aop, ev, ofValue, St.put, zgd, zmo, if_true, zs1, zs0, and_self, sl]
  with_reducible refine hR _ ?_
  clear hR R
  show X _ _ _ _
  refine X_seq ?_
  refine X_seq ?_
  refine X_rg fun R hR => ?_
  simp only [EVP, aops, astep, awant, aeff, aop, abin, aint, ev, St.put, zg1, zg0, zgd, zmo, if_true, zs1, zs0, zlm, bne_self_eq_false, und_scope_Fault]
  with_reducible refine hR _ ?_
  clear hR R
  show X _ _ _ _
  refine X_false (by simp only [ev, zg1, zg0, zgd]) ?_
  refine X_skip ?_
  show X _ _ _ _
  refine X_seq ?_
  refine X_seq ?_
  refine X_rg fun R hR => ?_
  simp only [inr_i64, Int.reduceLE, Int.reduceNeg, aops, astep, awant, aeff, aop, ev, ofValue, St.put, zgd, zmo, if_true, zs1, zs0, and_self]
  with_reducible refine hR _ ?_
  clear hR R
  show X _ _ _ _
  refine X_block ?_
  refine X_loop (fun m σ => ∃ (i : Nat), σ = ⟨[.slice .imm (if (l.map dFt).isEmpty = true then 0 else 4) (l.map dFt), .slice .imm (if (l.map dFt).isEmpty = true then 0 else 4) (l.map dFt), .int .i64 0, slotOf σ 3, slotOf σ 4, slotOf σ 5, slotOf σ 6, .int .i64 i, slotOf σ 8, slotOf σ 9, slotOf σ 10, slotOf σ 11, slotOf σ 12, slotOf σ 13, slotOf σ 14, slotOf σ 15, slotOf σ 16, slotOf σ 17, slotOf σ 18, slotOf σ 19, slotOf σ 20, slotOf σ 21, slotOf σ 22, slotOf σ 23, slotOf σ 24, slotOf σ 25, slotOf σ 26, slotOf σ 27, slotOf σ 28, slotOf σ 29, slotOf σ 30, slotOf σ 31, slotOf σ 32, slotOf σ 33, slotOf σ 34, slotOf σ 35, slotOf σ 36, slotOf σ 37, slotOf σ 38, slotOf σ 39, slotOf σ 40, slotOf σ 41, slotOf σ 42, slotOf σ 43, slotOf σ 44, slotOf σ 45, slotOf σ 46, slotOf σ 47, slotOf σ 48, slotOf σ 49, slotOf σ 50, slotOf σ 51, slotOf σ 52, slotOf σ 53, slotOf σ 54, slotOf σ 55, slotOf σ 56, slotOf σ 57, slotOf σ 58, slotOf σ 59, slotOf σ 60, slotOf σ 61, slotOf σ 62, slotOf σ 63, slotOf σ 64, slotOf σ 65, slotOf σ 66, slotOf σ 67, slotOf σ 68, slotOf σ 69, slotOf σ 70, slotOf σ 71, slotOf σ 72, slotOf σ 73, slotOf σ 74, slotOf σ 75, slotOf σ 76, slotOf σ 77, slotOf σ 78, slotOf σ 79], [], 0, []⟩ ∧ m = l.length - i ∧ i ≤ l.length) ?_ (l.length) _ ?_
  rotate_left
  · exact ⟨0, rfl, rfl, Nat.zero_le _⟩
  rintro m σ ⟨i, hσ, rfl, hi⟩
  generalize slotOf σ = x at hσ
  subst hσ
  have hn1 : ∀ j, j < l.length → ((if (l.map dFt).isEmpty = true then 0 else 4) = 4) = True := fun j h => eq_true (sl_n (j := j) (by simpa using h))
  refine X_seq ?_
  refine X_seq ?_
  refine X_rg fun R hR => ?_
  simp only [EVP, nat_lt, aops, astep, awant, aeff, aop, abin, aint, ev, St.put, zg1, zg0, zgd, zmo, if_true, zs1, zs0, zlm, und_scope_Fault]
  with_reducible refine hR _ ?_
  clear hR R
  show X _ _ _ _
  refine X_ite (by simp only [ev, zg1, zg0, zgd]; exact rfl) ?_ ?_
  · intro b1
    have c1 := b1
    try simp only [decide_eq_true_eq] at c1
    refine X_skip ?_
    show X _ _ _ _
    refine X_seq ?_
    refine X_block ?_
    refine X_seq ?_
    refine X_rg fun R hR => ?_
    simp only [aops, astep, awant, aeff, aop, ev, St.put, zg1, zg0, zgd, zmo, if_true, zs1, zs0, decide_true, c1]
    with_reducible refine hR _ ?_
    clear hR R
    show X _ _ _ _
    refine X_seq ?_
    refine X_seq ?_
    have hlt : i < l.length := by first | assumption | omega
    have h1 := hn1 i hlt
    have e1 : (l.map dFt)[i]? = some (.agg [.int .i64 l[i].proc, .slice .imm (if (l[i].path.map dI).isEmpty = true then 0 else 1) (l[i].path.map dI), .int .i64 l[i].err, .str l[i].name]) := by simp [hlt, dFt, sl]
    refine X_rg fun R hR => ?_
    simp only [EVP, inr_i64, Int.reduceLE, Int.reduceNeg, nat_lt, nat_0, nat_to, aops, astep, awant, aeff, aop, abin, aint, ev, ofValue, St.put, ia_int, cl_int, zg1, zg0, zgd, zmo, if_true, zs1, zs0, zlm, zlc, zln, zd0, zt1, zt0, Nat.reduceAdd, Nat.reduceLeDiff, Nat.zero_add, zft, if_false, and_self, reduceCtorEq, zis, ty_int, ty_scope_Fault, und_scope_Fault, siz_scope_Fault, inf_scope_Fault_eq, c1, h1, e1]
    with_reducible refine hR _ ?_
    clear hR R
    show X _ _ _ _
    refine X_ite (by simp only [ev, zg1, zg0, zgd]; exact rfl) ?_ ?_
    · intro b2
      have c2 := b2
      try simp only [decide_eq_true_eq] at c2
      refine X_rg fun R hR => ?_
      simp only [inr_i64, Int.reduceLE, Int.reduceNeg, aops, astep, awant, aeff, aop, ev, ofValue, St.put, zgd, zmo, if_true, zs1, zs0, and_self, decide_true, c2]
      with_reducible refine hR _ ?_
      clear hR R
      show X _ _ _ _
      refine X_seq ?_
      have hin := ints_fn l[i].path l[i].path (hp _ (List.getElem_mem hlt)).1
      simp only [sl, decide_true] at hin
      have hpr := (hp _ (List.getElem_mem hlt)).2
      refine X_rg fun R hR => ?_
      simp only [EVP, nat_lt, nat_0, nat_to, aops, astep, awant, aeff, aop, abin, aint, astr, ev, ofValue, St.put, pcall, ia_int, cl_int, ia_str, cl_str, ia_slice, cl_slice, zmc, zmn, zg1, zg0, zgd, zmo, zbs, if_true, zs1, zs0, zlm, zlc, zln, zd1, zd0, zt1, zt0, zca, zna, Nat.reduceAdd, Nat.reduceLeDiff, Nat.zero_add, Bool.not_true, zft, if_false, and_self, reduceCtorEq, beq_self_eq_true, bne_self_eq_false, zis, ty_int, ty_string, ty_s_int, ty_api_Errno, ty_scope_Fault, und_scope_Fault, siz_scope_Fault, inf_scope_Fault_eq, any24, c1, h1, e1, hin, hpr, Int.add_zero, bne_self_eq_false]
      with_reducible refine hR _ ?_
      clear hR R
      show X _ _ _ _
      refine X_false (by simp only [ev, zg1, zg0, zgd]) ?_
      refine X_skip ?_
      show X _ _ _ _
      have hbig : i < 9223372036854775807 := by omega
      refine X_rg fun R hR => ?_
      simp only [inr_i64, Int.reduceLE, Int.reduceNeg, aops, astep, awant, aeff, aop, abin, aint, ev, ofValue, St.put, zg1, zg0, zgd, zmo, if_true, zs1, zs0, and_self, nat_succ hbig]
      with_reducible refine hR _ ?_
      clear hR R
      show ∃ m, m < _ ∧ _
      exact ⟨l.length - (i + 1), by omega, i + 1, rfl, rfl, by omega⟩
    · intro b3
      have c3 := b3
      try simp only [decide_eq_false_iff_not, Int.not_lt] at c3
      refine X_skip ?_
      show X _ _ _ _
      refine X_seq ?_
      have hin := ints_fn l[i].path l[i].path (hp _ (List.getElem_mem hlt)).1
      simp only [sl, decide_true] at hin
      have hpr := (hp _ (List.getElem_mem hlt)).2
      refine X_rg fun R hR => ?_
      simp only [EVP, nat_lt, nat_0, nat_to, aops, astep, awant, aeff, aop, abin, aint, astr, ev, ofValue, St.put, pcall, ia_int, cl_int, ia_str, cl_str, ia_slice, cl_slice, zmc, zmn, zg1, zg0, zgd, zmo, zbs, if_true, zs1, zs0, zlm, zlc, zln, zd1, zd0, zt1, zt0, zca, zna, Nat.reduceAdd, Nat.reduceLeDiff, Nat.zero_add, Bool.not_true, zft, if_false, and_self, reduceCtorEq, beq_self_eq_true, bne_self_eq_false, zis, ty_int, ty_string, ty_s_int, ty_api_Errno, ty_scope_Fault, und_scope_Fault, siz_scope_Fault, inf_scope_Fault_eq, any24, c1, b3, h1, e1, hin, hpr, Int.add_zero, bne_self_eq_false]
      with_reducible refine hR _ ?_
      clear hR R
      show X _ _ _ _
      refine X_false (by simp only [ev, zg1, zg0, zgd]) ?_
      refine X_skip ?_
      show X _ _ _ _
      have hbig : i < 9223372036854775807 := by omega
      refine X_rg fun R hR => ?_
      simp only [inr_i64, Int.reduceLE, Int.reduceNeg, aops, astep, awant, aeff, aop, abin, aint, ev, ofValue, St.put, zg1, zg0, zgd, zmo, if_true, zs1, zs0, and_self, nat_succ hbig]
      with_reducible refine hR _ ?_
      clear hR R
      show ∃ m, m < _ ∧ _
      exact ⟨l.length - (i + 1), by omega, i + 1, rfl, rfl, by omega⟩
  · intro b4
    have c4 := b4
    try simp only [decide_eq_false_iff_not] at c4
    refine X_exit ?_
    show X _ _ _ _
    refine X_seq ?_
    refine X_rg fun R hR => ?_
    simp only [inr_i64, Int.reduceLE, Int.reduceNeg, aops, astep, awant, aeff, aop, ev, ofValue, St.put, zgd, zmo, if_true, zs1, zs0, and_self, decide_false, c4]
    with_reducible refine hR _ ?_
    clear hR R
    show X _ _ _ _
    refine X_ret ?_
    show resD _ _ _ = some _
    simp only [resD, resAll, resOne, resTup, Try.results27, EVP, zg1, zg0, D.good, if_true, zmo]

end Go.Proofs.Ytjikokmhknnnoaa

/- ScopeUnused: rows that are added to, what is valid, and Check as a call that hands back a box, ahead of the usual calls. -/
namespace Go.Proofs.Ytjikokmhknnnoaa
open Go.RowKit
/-- a row is added to a row of one's own, which may be empty -/
theorem app_gen {P : Program} {t e : TypeId} {i : TypeInfo} {sz st nx : Nat} {lv : List Nat} (hst : st ∈ lv) (L l2 : List D) (o2 : Own) (n2 : Nat) (hu : P.underlying t = some (.slice e)) (hi : P.info? e = some i) (hs : i.size = sz) (hp : 0 < sz) (hb : i.bytes ≤ 4096) (hz : (i.zero.map fun z => z.cells.size) = some sz)
    (hl : L.length + l2.length ≤ 16777216) (hn : l2 ≠ [] → n2 = sz) : ∃ st' nx' lv', st' ∈ lv' ∧ ∀ fr bx, aappend P ⟨fr, bx, nx, lv⟩ t (.slice (.own st e) sz L) (.slice o2 n2 l2) = some (.slice (.own st' e) sz (L ++ l2), ⟨fr, bx, nx', lv'⟩) := by
  by_cases h : l2 = []
  · subst h
    refine ⟨st, nx, lv, hst, fun fr bx => ?_⟩
    unfold aappend
    simp only [hu, hi, if_true, List.append_nil]
  · obtain rfl := hn h
    refine ⟨nx, nx + 1, nx :: lv.filter (· != st), by simp, fun fr bx => ?_⟩
    exact (Acc.own (L := L) hst).app (σ := ⟨fr, bx, nx, lv⟩) hu hi hs hp hb hz hl h

end Go.Proofs.Ytjikokmhknnnoaa

/- ScopeUnused: programs with one procedure or one variable more, whose rows are the run's own. -/
namespace Go.Proofs.Ytjikokmhknnnoaa
open Go.RowKit
theorem agg6_strip (A B x y z C : D) : (D.agg [A, B, x, y, z, C]).strip = .agg [A.strip, B.strip, x.strip, y.strip, z.strip, C.strip] := by simp only [D.strip, D.strips]
theorem ch_fn {p' : Pg} {d : D} (hv : validB p' = true) (hs : d.strip = dG p') (hp : (d.under 0 && d.good) = true) : fn EV 18 [d] = some (sl 4 ((checkF p').map dFt)) := by
  rw [fn_strip (args' := [dG p'])]
  · rw [check_fn, if_pos hv]
  · simp only [plain, List.all_cons, List.all_nil, hp, Bool.and_true]
  · simp only [plain, List.all_cons, List.all_nil, dG_pl, Bool.and_true]
  · simp only [zmc, zmn, dG_strip, hs]
end Go.Proofs.Ytjikokmhknnnoaa

/- A region that draws its order, by a state for every set of operations that have come up. Over any program. -/
namespace Go.Proofs.Ytjikokmhknnnoaa
open Go.RowKit

theorem S_any {P : Program} (hm : P.follows .mixedOrders = true) {B id : Nat} {ops : Array Oper} {σ : St} {Q : Ex → St → Prop} (st : (Nat → Bool) → St) (h0 : st (fun _ => false) = σ)
    (hb : ∀ j o, ops[j]? = some o → ∀ e ∈ o.after, Region.binds .any e = true → e.on < j)
    (hs : ∀ (L : Nat → Bool) (i : Nat) (o : Oper), ops[i]? = some o → L i = false → (∀ j o, ops[j]? = some o → L j = true → ∀ e ∈ o.after, Region.binds .any e = true → L e.on = true) → (∀ e ∈ o.after, Region.binds .any e = true → L e.on = true) → SWp P ops o (st L) (st (fun j => if j = i then true else L j)))
    (hq : ∀ L : Nat → Bool, (∀ j, j < ops.size → L j = true) → Q .normal (st L)) : S P B (.region id ops true) σ Q := by
  intro base w0 ok0 gs ws ds T g a w hβ hsz hrel hext hmk hT
  obtain ⟨hrel1, hext1⟩ := hrel.drew
  refine wpIn_region_any hm (wpAnyIn_inv (fun listed a' w' => listed.size = ops.size ∧ Closed ops listed ∧ ∃ g', Rel P base w0 ok0 g' (st (fun j => listed.getD j false)) a' w' ∧ Ext g w.drew g' w' ∧ a'.defers = a.defers) ?_ ?_ _ _ _ _ ?_ (by simp))
  · rintro listed a1 w1 i o ⟨hls, hcl, g1, hr1, he1, hd1⟩ hun ho hall
    have hi : i < ops.size := (Array.getElem?_eq_some_iff.1 ho).1
    have hil : i < listed.size := by omega
    have hun' : listed.getD i false = false := by
      simp only [Array.getD_eq_getD_getElem?, Array.getElem?_eq_getElem hil, zgd] at hun ⊢
      exact hun
    have hready : i ∈ Region.ready .any ops listed := mem_ready.2 ⟨hun, o, ho, hall⟩
    have hcl' : Closed ops (listed.setIfInBounds i true) := hcl.set hready
    have hls' : (listed.setIfInBounds i true).size = ops.size := by simpa using hls
    have hfun : (fun j => (listed.setIfInBounds i true).getD j false) = fun j => if j = i then true else listed.getD j false := by
      funext j
      by_cases hj : j = i
      · subst hj
        rw [if_pos rfl]; exact (set_listed (by omega)).2 (.inr rfl)
      · rw [if_neg hj, getD_set_ne false (fun e => hj e.symm)]
    refine hs (fun j => listed.getD j false) i o ho hun' hcl hall base w0 ok0 g1 a1 w1 none 0 _ _ hr1 (fun a' w' g' q1 q2 q3 => ⟨hls', hcl', g', ?_, he1.trans q2, q3.trans hd1⟩)
    rw [hfun]; exact q1
  · rintro listed a1 w1 ⟨hls, hcl, g1, hr1, he1, hd1⟩ hnr
    exact hT .normal _ a1 w1 g1 (hq _ (all_listed' hls hb hnr)) hr1 (hext.trans (hext1.trans he1)) (hmk.trans (hext1.trans he1) hsz (.of_eq hd1))
  · have hnone : ∀ i, (Array.replicate ops.size false).getD i false = false := fun i => by
      rw [Array.getD_eq_getD_getElem?, Array.getElem?_replicate]; split <;> rfl
    refine ⟨by simp, fun j o _ hl => (by rw [hnone j] at hl; cases hl), g, ?_, Ext.refl _ _, rfl⟩
    rw [show (fun j => (Array.replicate ops.size false).getD j false) = fun _ => false from funext hnone, h0]
    exact hrel1
/-- an operation, with calls that hand back boxes -/
theorem SWp_ca {P : Program} {ca : Nat → List D → St → Option (D × St)} (hca : CaOk P ca) {ops : Array Oper} {o : Oper} {σ σ' : St} (hok : opOk o = true) (h : astep P ca ops.toList σ o = some σ') : SWp P ops o σ σ' := fun _ _ _ _ _ _ _ _ _ _ hr hK => step_wp (hca _ _ _) hr hok h hK

end Go.Proofs.Ytjikokmhknnnoaa

/- The law ScopeUnused: three calls of Check. -/
namespace Go.Proofs.Ytjikokmhknnnoaa
open Go.RowKit
end Go.Proofs.Ytjikokmhknnnoaa

/- ScopeUnused: the cells of faults, the first of them moved back. -/
namespace Go.Proofs.Ytjikokmhknnnoaa
open Go.RowKit

/-- the cells of faults -/
def cF (l : List Ft) : List D := (l.map dFt).flatMap D.cells
theorem cF_eq (l : List Ft) : (l.flatMap fun f => (dFt f).cells) = cF l := by unfold cF; rw [List.flatMap_map]
theorem cF_cons (v : Ft) (l : List Ft) : cF (v :: l) = .int .i64 v.proc :: sl 1 (v.path.map dI) :: .int .i64 v.err :: .str v.name :: cF l := rfl
theorem cF_len : ∀ l : List Ft, (cF l).length = l.length * 4
  | [] => rfl
  | v :: l => by rw [cF_cons]; simp only [zlc, cF_len l]; omega
theorem cF_at : ∀ (l : List Ft) (j : Nat) (h : j < l.length), (cF l).drop (j * 4) = .int .i64 l[j].proc :: sl 1 (l[j].path.map dI) :: .int .i64 l[j].err :: .str l[j].name :: (cF l).drop (j * 4 + 4)
  | [], _, h => absurd h (Nat.not_lt_zero _)
  | v :: l, 0, _ => rfl
  | v :: l, j + 1, h => by
    have ih := cF_at l j (by simpa using h)
    rw [cF_cons, show (j + 1) * 4 = j * 4 + 4 from by omega, show j * 4 + 4 + 4 = (j * 4 + 4) + 4 from rfl]
    simp only [zd1, List.getElem_cons_succ, ih]
theorem cF_get {l : List Ft} {j : Nat} (h : j < l.length) : ((cF l).drop (j * 4)).take 1 = [.int .i64 l[j].proc] := by rw [cF_at l j h]; rfl
theorem cF_av (i : Nat) : ∀ l : List Ft, D.avoids i (cF l) = true
  | [] => rfl
  | v :: l => by
    have h : (sl 1 (v.path.map dI)).avoid i = true := by
      unfold sl
      simp only [D.avoid]
      have : ∀ c : List Int, D.avoids i (c.map dI) = true := by
        intro c
        induction c with
        | nil => rfl
        | cons x r ih => simp only [zmc, D.avoids, ih, Bool.and_true]; rfl
      exact this _
    rw [cF_cons]; simp only [D.avoids, D.avoid, cF_av i l, h, Bool.and_true]
/-- slots that a freezing of box i can turn -/
def BF (i N : Nat) (d : D) : Prop := d.avoid i = true ∨ d = .bsl i 0 4 N ∨ ∃ k, k < N ∧ d = .bsl i (k * 4) 0 0
theorem dFt_len (l : List Ft) : ∀ d ∈ l.map dFt, d.cells.length = 4 := fun d hd => by obtain ⟨x, _, rfl⟩ := List.mem_map.1 hd; rfl
theorem BF.fz {i : Nat} {l : List Ft} {d : D} (h : BF i l.length d) : ∃ d', Fz i (cF l) d d' := by
  rcases h with h | rfl | ⟨k, hk, rfl⟩
  · exact ⟨d, .keep d h⟩
  · exact ⟨_, Fz.row (l := l.map dFt) rfl (by simp) (by omega) (dFt_len l)⟩
  · exact ⟨_, Fz.cell (l := l.map dFt) (k := k) rfl rfl (by simpa using hk) (dFt_len l)⟩
inductive BFL (i N : Nat) : List D → Prop
  | nil : BFL i N []
  | cons {d : D} {l : List D} (h : BF i N d) (t : BFL i N l) : BFL i N (d :: l)
theorem BFL.at {i N : Nat} {l : List D} (h : BFL i N l) : ∀ t : Nat, BF i N (nthD l t) := by
  induction h with
  | nil => intro t; exact .inl rfl
  | cons h _ ih =>
    intro t
    cases t with
    | zero => exact h
    | succ t => exact ih t
theorem BFL.slot {i N : Nat} {fr : List D} {bx : List (List D)} {nx : Nat} {lv : List Nat} (h : BFL i N fr) : ∀ t, BF i N (slotOf ⟨fr, bx, nx, lv⟩ t) := h.at
/-- numbers of procedures are small -/
theorem checkF_proc {p : Pg} (hv : validB p = true) : ∀ f ∈ checkF p, -1 ≤ f.proc ∧ f.proc ≤ 64 := by
  simp only [validB, zat, znt, decide_eq_false_iff_not] at hv
  have hl : ¬ (p.procs.length : Int) > 64 := hv.1.1.1.2
  intro f hf
  unfold checkF at hf
  rw [List.mem_append, List.mem_append] at hf
  rcases hf with h | h | h
  · have := vrF_proc _ _ h; omega
  · have := procsF_proc p p.procs 0 f h; omega
  · have := vis_proc p _ _ _ _ h; omega
theorem wrap_small {n : Int} (h1 : -1 ≤ n) (h2 : n ≤ 64) : IntKind.i64.wrap n = n := by
  simp only [IntKind.wrap, IntKind.bits, IntKind.signed]
  simp <;> (try split) <;> omega

end Go.Proofs.Ytjikokmhknnnoaa

/- The law ScopeUnused: where it answers at once. -/
namespace Go.Proofs.Ytjikokmhknnnoaa
open Go.RowKit
end Go.Proofs.Ytjikokmhknnnoaa

/- The law ScopeUnused: its walk. -/
namespace Go.Proofs.Ytjikokmhknnnoaa
open Go.RowKit

mutual
theorem dN_avoid (i : Nat) : ∀ t : Tr, (dN t).avoid i = true
  | .mk k n s c => by simp only [dN, D.avoid, D.avoids, dNs_avoid i c, Bool.and_true]
theorem dNs_avoid (i : Nat) : ∀ c : List Tr, D.avoids i (dNs c) = true
  | [] => rfl
  | t :: r => by simp only [dNs, D.avoids, dN_avoid i t, dNs_avoid i r, Bool.and_true]
end
theorem map_avoid {α : Type} {f : α → D} {i : Nat} (h : ∀ x, (f x).avoid i = true) (l : List α) : D.avoids i (l.map f) = true := by
  rw [D.avoids_all, List.all_eq_true]; intro x hx; obtain ⟨y, _, rfl⟩ := List.mem_map.1 hx; exact h y
theorem dNs_avoid2 (i : Nat) (c : List Tr) : D.avoids i (c.map dN) = true := map_avoid (dN_avoid i) c
theorem dVs_avoid (i : Nat) (c : List Vd) : D.avoids i (c.map dV) = true := map_avoid (fun _ => rfl) c
theorem dP_avoid (i : Nat) (p : Pr) : (dP p).avoid i = true := by simp only [dP, D.avoid, D.avoids, sl, dVs_avoid, dNs_avoid2, Bool.and_self]
theorem dPs_avoid (i : Nat) (c : List Pr) : D.avoids i (c.map dP) = true := map_avoid (dP_avoid i) c
theorem dG_avoid (i : Nat) (p : Pg) : (dG p).avoid i = true := by simp only [dG, D.avoid, D.avoids, sl, dVs_avoid, dPs_avoid, dNs_avoid2, Bool.and_self]
theorem dFt_avoid (i : Nat) (f : Ft) : (dFt f).avoid i = true := by
  have h : D.avoids i (f.path.map dI) = true := map_avoid (fun _ => rfl) _
  simp only [dFt, D.avoid, D.avoids, sl, h, Bool.and_self]
theorem dFts_avoid (i : Nat) (c : List Ft) : D.avoids i (c.map dFt) = true := map_avoid (dFt_avoid i) c
end Go.Proofs.Ytjikokmhknnnoaa

/- A local around the main block: the plain facts. -/
namespace Go.Proofs.Ytjikokmhknnnoaa
open Go.RowKit

def z0 : Tr := .mk 1 0 ⟨#[]⟩ []
def locT (s : ByteArray) (m : Tr) : Tr := .mk 54 0 s [z0, m, z0]
def wrapT (s : ByteArray) (m : Tr) : Tr := .mk 57 0 ⟨#[]⟩ [locT s m]
def wrapP (s : ByteArray) (p : Pg) : Pg := ⟨p.vars, p.procs, wrapT s p.main⟩
def mv (a : List Int) (f : Ft) : Ft := ⟨f.proc, a ++ f.path, f.err, f.name⟩
theorem rep_mv (pr : Int) (a path : List Int) (e : Int) (s : ByteArray) : rep pr (a ++ path) e s = (rep pr path e s).map (mv a) := by unfold rep; split <;> rfl
theorem args_mv (p : Pg) (pr : Int) (t : Tr) (a path : List Int) (vs : List Vd) : ∀ (c : List Tr) (i : Nat), argsF p pr t (a ++ path) vs c i = (argsF p pr t path vs c i).map (mv a)
  | [], _ => rfl
  | c :: r, i => by rw [argsF, argsF, List.map_append, args_mv p pr t a path vs r (i + 1), zaa, rep_mv]
mutual
theorem vis_mv (p : Pg) (pr : Int) (a : List Int) : ∀ (t : Tr) (path : List Int) (vs : List Vd), visF p pr t (a ++ path) vs = (visF p pr t path vs).map (mv a)
  | .mk k n s c, path, vs => by
    rw [visF, visF, List.map_append, rep_mv]
    split
    · rw [args_mv]
    · rw [visL_mv p pr a (.mk k n s c) path vs c 0]
theorem visL_mv (p : Pg) (pr : Int) (a : List Int) (t : Tr) (path : List Int) (vs : List Vd) : ∀ (c : List Tr) (i : Nat), visL p pr t (a ++ path) vs c i = (visL p pr t path vs c i).map (mv a)
  | [], _ => rfl
  | c :: r, i => by rw [visL, visL, List.map_append, zaa, vis_mv p pr a c, visL_mv p pr a t path vs r (i + 1)]
end
theorem vis_z0 (p : Pg) (pr : Int) (path : List Int) (vs : List Vd) : visF p pr z0 path vs = [] := by
  unfold z0
  rw [visF]
  have : faultE p (.mk 1 0 ⟨#[]⟩ []) vs = 0 := by simp [faultE, Tr.kind]
  rw [this]
  simp [rep, visL]
theorem vis_wrap (p : Pg) (pr : Int) (s : ByteArray) (m : Tr) (vs : List Vd) : visF p pr (wrapT s m) [] vs = rep pr [0] (freshE vs s) s ++ visF p pr m [0, 1] (vs ++ [⟨s, 1, 0⟩]) := by
  unfold wrapT
  rw [visF]
  have h1 : faultE p (.mk 57 0 ⟨#[]⟩ [locT s m]) vs = 0 := by simp [faultE, Tr.kind]
  have h2 : faultE p (locT s m) vs = freshE vs s := by simp [faultE, Tr.kind, locT, Tr.name]
  have i0 : innerV (.mk 57 0 ⟨#[]⟩ [locT s m]) ((0 : Nat) : Int) vs = vs := by simp [innerV, Tr.kind]
  have j1 : innerV (locT s m) ((0 + 1 : Nat) : Int) vs = vs ++ [⟨s, 1, 0⟩] := by simp [innerV, Tr.kind, locT, Tr.name]
  rw [h1, if_neg (by decide), visL, visL, i0, visF_eq, h2, if_neg (by simp [locT, Tr.kind])]
  show rep pr [] 0 _ ++ ((rep pr _ _ s ++ visL p pr (locT s m) _ vs [z0, m, z0] 0) ++ []) = _
  rw [visL, visL, visL, visL, vis_z0, vis_z0, j1]
  simp [rep]

/-- the faults of the main block have moved -/
def mvF (N : Int) (f : Ft) : Ft := if f.proc = N then mv [0, 1] f else f
theorem check_wrap {s b : ByteArray} {p : Pg} (hb : hasV p.vars b = false) (hm : mentB b p.main = false) (hw : wB s p.main = true) : checkF (wrapP b p) = (checkF p).map (mvF p.procs.length) := by
  unfold checkF
  rw [List.map_append, List.map_append]
  congr 1
  · show vrF (-1) true p.vars p.vars 0 = _
    refine (map_id_of fun f hf => ?_).symm
    have := vrF_proc _ _ hf
    unfold mvF; rw [if_neg (by omega)]
  · rw [procs_pp (p := p) (p' := wrapP b p) rfl]
    congr 1
    · refine (map_id_of fun f hf => ?_).symm
      have := procsF_proc p p.procs 0 f hf
      unfold mvF; rw [if_neg (by omega)]
    · show visF (wrapP b p) p.procs.length (wrapT b p.main) [] p.vars = _
      rw [vis_pp (p := p) (p' := wrapP b p) rfl, vis_wrap]
      have : freshE p.vars b = 0 := by unfold freshE; rw [hasV_eq, hb]; rfl
      rw [this, vis_v (s := s) p p.procs.length p.main [0, 1] p.vars (p.vars ++ [(⟨b, 1, 0⟩ : Vd)]) (SameF.add p.vars ⟨b, 1, 0⟩ rfl) hm hw]
      show [] ++ visF p p.procs.length p.main ([0, 1] ++ []) p.vars = _
      rw [zna, vis_mv]
      refine List.map_congr_left fun f hf => ?_
      have := vis_proc p _ _ _ _ hf
      unfold mvF; rw [if_pos this]
theorem mvF_no {N : Int} {f : Ft} (h : (f.proc == N) = false) : mvF N f = f := by unfold mvF; rw [if_neg (by simpa using h)]
theorem mvF_yes {N : Int} {f : Ft} (h : (f.proc == N) = true) : mvF N f = mv [0, 1] f := by unfold mvF; rw [if_pos (by simpa using h)]

/-- the local has the name of a variable -/
def twB (N : Int) (s : ByteArray) (f : Ft) : Bool := f.proc == N && f.err == 22 && decide (f.path = [0]) && f.name.toList == s.toList
theorem check_twice {s : ByteArray} {p : Pg} (hs : hasV p.vars s = true) : (checkF (wrapP s p)).any (twB p.procs.length s) = true := by
  have h : (⟨p.procs.length, [0], 22, s⟩ : Ft) ∈ checkF (wrapP s p) := by
    unfold checkF
    rw [List.mem_append, List.mem_append]
    refine .inr (.inr ?_)
    show _ ∈ visF (wrapP s p) p.procs.length (wrapT s p.main) [] p.vars
    rw [vis_wrap]
    have : freshE p.vars s = 22 := by unfold freshE; rw [hasV_eq, hs]; rfl
    rw [this, List.mem_append]
    exact .inl (by simp [rep])
  rw [List.any_eq_true]
  exact ⟨_, h, by simp [twB]⟩
theorem has_at {vs : List Vd} {i : Nat} (h : i < vs.length) : hasV vs vs[i].name = true := by
  unfold hasV
  rw [List.any_eq_true]
  exact ⟨vs[i], List.getElem_mem h, by simp⟩

theorem valid_wrap {s : ByteArray} {p : Pg} (hv : validB p = true) (hs : nameB s = true) (h1 : p.main.size ≤ 80) (h2 : p.main.depth ≤ 78) : validB (wrapP s p) = true := by
  simp only [validB, zat] at hv ⊢
  obtain ⟨⟨⟨⟨a1, a2⟩, a3⟩, a4⟩, a5⟩ := hv
  refine ⟨⟨⟨⟨a1, a2⟩, a3⟩, a4⟩, ?_⟩
  show bodyB (wrapT s p.main) = true
  simp only [bodyB, zat, decide_eq_true_eq] at a5 ⊢
  have hz : exprB z0 = true := by decide +kernel
  refine ⟨⟨?_, ?_⟩, ?_⟩
  · simp only [wrapT, locT, z0, Tr.depth, Tr.depths]; omega
  · simp only [wrapT, locT, z0, Tr.size, Tr.sizes]; omega
  · have hl : stmtB (locT s p.main) = true := by
      simp only [locT, stmtB, catsB, hz, a5.2, namedB, hs]
      simp
    simp only [wrapT, blockB, stmtsB, hl]
    decide +kernel

end Go.Proofs.Ytjikokmhknnnoaa

/- Small facts that a pruned base lacks. -/
namespace Go.Proofs.Ytjikokmhknnnoaa
open Go.RowKit
theorem rng_2 : ([0, 1] = List.range 2) = True := by simp [List.range, List.range.loop]
theorem rng_3 : ([0, 1, 2] = List.range 3) = True := by simp [List.range, List.range.loop]
theorem S_rg {P : Program} {ca : Nat → List D → St → Option (D × St)} (hca : CaOk P ca) {B id : Nat} {ops : List Oper} {σ : St} {Q : Ex → St → Prop} (hok : ops.all opOk = true) (h : ∀ R : Option St → Prop, (∀ σ', Q .normal σ' → R (some σ')) → R (aops P ca ops ops σ)) : S P B (.region id ops.toArray false) σ Q := by
  obtain ⟨σ', h1, h2⟩ := h (fun o => ∃ σ', o = some σ' ∧ Q .normal σ') fun σ' hq => ⟨σ', rfl, hq⟩
  exact S_ca hca hok h1 h2
theorem pcOne_eq (k : Nat) (a : List D) (d : D) : pcOne k a d k a = some d := by unfold pcOne; rw [if_pos ⟨rfl, rfl⟩]
noncomputable def fs_api_Node : Array Field := match Try.prog.underlying 28 with | some (.struct fs) => fs | _ => #[]
theorem st_api_Node : Try.prog.underlying 28 = some (.struct fs_api_Node) := by kernel_rfl
theorem sta_api_Node : (fs_api_Node.toList.all fun f => (Try.prog.info? f.type).isSome) = true := by kernel_rfl
end Go.Proofs.Ytjikokmhknnnoaa

/- ScopeLocal: scope.Check of a program whose main block lies in a box; a row of one node as a box; stamps given up. -/
namespace Go.Proofs.Ytjikokmhknnnoaa
open Go.RowKit Go.Shelf

/-- a row of faults in new blocks, as data that stay -/
theorem fts_row {w' : World} {g : Gh} {B1 : Nat} {v : Value} {l : List Ft} (hg : ∀ b o, B1 ≤ b → b < w'.heap.size → g.ok b o) (h : OwnS shFt 51 w' B1 v l) : val w' g (sl 4 (l.map dFt)) v := by
  obtain ⟨us, hown, hcs⟩ := h
  have hlt := hown.lt
  rcases hown.2 with ⟨hv, h0⟩ | ⟨b, cap, cur, hv, hbb, hcur, hle, hmx, hcz, htake⟩
  · have hl : l = [] := List.eq_nil_of_length_eq_zero h0
    subst hl
    subst hv
    exact val_of_R (.slice .imm 0 [] none 0 (fun _ => []) (Nat.le_refl _) (by omega) (fun _ _ q => by cases q) trivial trivial (fun j h => absurd h (Nat.not_lt_zero _)) (fun j h => absurd h (Nat.not_lt_zero _)) (fun j h => absurd h (Nat.not_lt_zero _))) rfl
  · subst hv
    have key : ∀ (j : Nat) (hj : j < l.length), shFt.R w' (fun b' => B1 ≤ b' ∧ b' < w'.heap.size ∧ (Value.slice (some ⟨b, 0, none⟩) l.length cap).ownBlock ≠ some b') l[j] ((us.drop (j * 4)).take 4) := fun j hj => by
      obtain ⟨c, h1, h2⟩ := hcs.at_ j hj
      have hlen : c.length = 4 := shFt.len h1
      have : c = (us.drop (j * 4)).take 4 := by
        apply List.ext_getElem?
        intro m
        by_cases hm : m < 4
        · obtain ⟨u, hu⟩ : ∃ u, c[m]? = some u := ⟨c[m]'(by omega), List.getElem?_eq_getElem (by omega)⟩
          rw [hu, List.getElem?_take_of_lt hm, List.getElem?_drop]
          exact (h2 m u hu).symm
        · rw [List.getElem?_eq_none (by omega), List.getElem?_eq_none (by rw [List.length_take]; omega)]
      rw [← this]; exact h1
    have h9 := R.slice (w := w') (g := g) .imm (if (l.map dFt).isEmpty = true then 0 else 4) (l.map dFt) (some ⟨b, 0, none⟩) cap (fun j => (us.drop (j * 4)).take 4) (by simpa using hle) (by simpa [maxLen] using hmx) (fun _ _ q => by cases q) trivial trivial
      (fun j hj => by
        have hj' : j < l.length := by simpa using hj
        rw [List.getElem_map]
        exact R_ft (fun b' o q => hg b' o q.1 q.2.1) (key j hj'))
      (fun j hj => by
        have hj' : j < l.length := by simpa using hj
        rw [sl_n (j := j) hj]
        exact shFt.len (key j hj'))
      (fun j hj => by
        have hj' : j < l.length := by simpa using hj
        rw [sl_n (j := j) hj]
        refine ⟨b, 0, rfl, fun m u hu => ?_⟩
        have hm := (List.getElem?_eq_some_iff.1 hu).1
        rw [List.length_take] at hm
        rw [List.getElem?_take_of_lt (by omega), List.getElem?_drop] at hu
        obtain ⟨q1, q2⟩ := hlt b rfl
        refine ⟨hg b _ q1 q2, ?_⟩
        have := hown.cells (g := b) rfl _ _ hu
        rw [addr_plus, Nat.zero_add] at this
        rw [show 0 + j * 4 + m = j * 4 + m from by omega]
        exact this)
    rw [zlm] at h9
    exact val_of_R h9 rfl

/-- Check of a program whose main block's row is box i -/
noncomputable def checkB (q : Pg) : Nat → List D → St → Option (D × St) := fun k args σ => open Classical in
  if k = 18 ∧ ∃ (A B x y z : D) (i : Nat) (cs : List D), args = [.agg [A, B, x, y, z, .bsl i 0 4 1]] ∧ σ.bx[i]? = some cs ∧ cs.length = 4 ∧ D.avoids i [A, B, x, y, z] = true ∧ D.avoids i cs = true ∧ (D.agg [A, B, x, y, z, .slice .imm 4 [.agg cs]]).strip = dG q ∧ (D.agg [A, B, x, y, z, .slice .imm 4 [.agg cs]]).under 0 = true
  then some (sl 4 ((checkF q).map dFt), σ) else none
theorem CaOk.checkB (q : Pg) (hv : validB q = true) : CaOk Try.prog (checkB q) := by
  intro base w0 ok0 k args σ d σ' hq
  unfold Go.Proofs.Ytjikokmhknnnoaa.checkB at hq
  split at hq
  · rename_i hk
    obtain ⟨rfl, A, B, x, y, z, i, cs, rfl, hi, hlen, hav, hcs, hs, hu⟩ := hk
    cases hq
    refine ⟨rfl, fun g vs w hr hvs => ?_⟩
    obtain ⟨hl, hat⟩ := hvs
    match vs, hl with
    | [vp], _ =>
      have h0 := (hat 0 (by simp) (by simp))
      simp only [List.getElem_cons_zero] at h0
      obtain ⟨us, hR, hpk⟩ := h0.to1 rfl
      obtain ⟨h5, hR5⟩ := R_agg_at hR 5 (by simp)
      have hbk : ∀ u5, R w g (.bsl i 0 4 1) u5 → ∃ b, g.β i = some b ∧ g.mp i = false := fun u5 q => by
        cases q with
        | bsl _ _ _ _ b cap h1 h2 _ _ _ => exact ⟨b, h1, h2⟩
      have hb5 := hbk _ hR5
      obtain ⟨b, hβ, hm⟩ := hb5
      have hbox := RW.box hr i cs b hi hβ
      rw [hm] at hbox
      obtain ⟨bs, sp, ty, hh, hrb⟩ := hbox
      simp only [D.avoids, zat, Bool.and_true] at hav
      obtain ⟨a1, a2, a3, a4, a5⟩ := hav
      have hfz : Fz i cs (.agg [A, B, x, y, z, .bsl i 0 4 1]) (.agg [A, B, x, y, z, .slice .imm 4 [.agg cs]]) := FzL.agg (.cons (.keep _ a1) (.cons (.keep _ a2) (.cons (.keep _ a3) (.cons (.keep _ a4) (.cons (.keep _ a5) (.cons (.bsl 0 4 1 [.agg cs] rfl (by omega) (fun j hj => by
        have : j = 0 := by simpa using hj
        subst this
        simp only [List.getElem_cons_zero, D.cells, Nat.zero_mul, Nat.add_zero, zd0]
        rw [List.take_of_length_le (by omega)]) (by omega)) .nil))))))
      have h1 := val.fz hβ hh hrb hcs hfz h0
      obtain ⟨us1, hR1, hpk1⟩ := (h1.to1 rfl).free hu (g.frz i b cs.length) ⟨fun _ _ q => q, fun _ q => q, fun _ _ q => q⟩
      rw [hs] at hR1 hpk1
      have hp : val w (okGh (g.frz i b cs.length).ok) (dG q) vp := val.of1 ⟨us1, hR1.pl (dG_plain q), hpk1⟩
      have hsz : ∀ b' o, g.ok b' o → b' < w.heap.size := fun b' o q => RW.ok_lt hr q
      have hsz2 : ∀ b' o, (g.frz i b cs.length).ok b' o → b' < w.heap.size := fun b' o q => by
        rcases q with q | ⟨rfl, _⟩
        · exact hsz b' o q
        · exact (RW.dom hr i _ hβ).2.2.1
      refine (check_mem q hv hsz2 hp).mono ?_
      rintro e w' ⟨v', B1, rfl, hB1, hO, hb⟩
      obtain ⟨r1, e1⟩ := RW.grow hr hb (ok' := fun c o => g.ok c o ∨ (w.heap.size ≤ c ∧ c < w'.heap.size)) (fun _ _ q => .inl q) (fun c o q => q)
      exact ⟨_, _, rfl, r1, e1, fts_row (fun c o q1 q2 => .inr ⟨by omega, q2⟩) hO⟩
  · cases hq

/-- a stamp is given up -/
theorem val_imm {w : World} {g : Gh} {o : Own} {n : Nat} {l : List D} {v : Value} (h : val w g (.slice o n l) v) : val w g (.slice .imm n l) v := by
  obtain ⟨cs, hR, hp⟩ := h
  cases hR with
  | slice _ _ _ A cap c hl hm ho hnil hA h hn hc =>
    subst hp
    exact val_of_R (.slice .imm n l A cap c hl hm (fun _ _ q => by cases q) trivial trivial h hn hc) rfl
theorem Rel.imm {P : Program} {base : Nat} {w0 : World} {ok0 g : Gh} {σ : St} {a : Act} {w : World} {t n : Nat} {o : Own} {l : List D} (h : Rel P base w0 ok0 g σ a w) (ht : σ.fr[t]? = some (.slice o n l)) : Rel P base w0 ok0 g { σ with fr := σ.fr.set t (.slice .imm n l) } a w := by
  refine ⟨h.rs, by rw [List.length_set]; exact h.len, fun t' d q => ?_⟩
  by_cases e : t = t'
  · subst e
    have hlt := (List.getElem?_eq_some_iff.1 ht).1
    have q' : (σ.fr.set t (.slice .imm n l))[t]? = some d := q
    rw [List.getElem?_set_self hlt] at q'
    cases q'
    obtain ⟨v, h1, h2⟩ := h.fr t _ ht
    exact ⟨v, h1, val_imm h2⟩
  · have q' : (σ.fr.set t (.slice .imm n l))[t']? = some d := q
    rw [List.getElem?_set_ne e] at q'
    exact h.fr t' d q'
theorem LS_imm {P : Program} {ops rest : List Oper} {σ : St} {Q : Ex → St → Prop} (t : Nat) {o : Own} {n : Nat} {l : List D} (ht : σ.fr[t]? = some (.slice o n l)) (h : LS P ops rest { σ with fr := σ.fr.set t (.slice .imm n l) } Q) : LS P ops rest σ Q := by
  obtain ⟨σ', h1, h2⟩ := h
  exact ⟨σ', fun base w0 ok0 g a w ro m Q' hr hK => h1 base w0 ok0 g a w ro m Q' (hr.imm ht) hK, h2⟩

/-- a row of one datum as a box -/
theorem SWp_row1 {P : Program} {ops : Array Oper} {o : Oper} {σ : St} {t e : TypeId} {i : TypeInfo} {z : Value} {s : Nat} {l : List D} (hw : awant ops.toList σ.fr o = true) (ho : o.op = .buildSlice t 1 #[(0, .tmp s)]) (hu : P.underlying t = some (.slice e)) (hi : P.info? e = some i) (hz : i.zero = some z) (hpos : 0 < i.size) (hcap : i.size ≤ 16777216)
    (hx : ev σ.fr (.tmp s) = .agg l) (hl : l.length = i.size) : SWp P ops o σ (({ σ with bx := σ.bx ++ [l] } : St).put o.dst (.bsl σ.bx.length 0 i.size 1)) := by
  refine SWp_hand hw (fun c q => by rw [ho] at q; cases q) rfl (fun base w0 ok0 g a w hr => ?_)
  have hv := ev_val hr.fr hr.len (.tmp s) (.inr ⟨s, rfl⟩)
  rw [hx] at hv
  have hR := (hv.to1 rfl).val_cells
  have hlen := hR.len
  obtain ⟨g', r1, r2, r3⟩ := RS.box hr.rs (cs := l) (vs := (a.eval (.tmp s)).cells.toList) e hR
  have hbs : (Instr.buildSlice t 1 #[(0, a.eval (.tmp s))]).run P w = .ok (.slice (some ⟨w.heap.size, 0, none⟩) 1 1) (w.alloc (.cells (a.eval (.tmp s)).cells.toList.toArray e)) := by
    refine run_buildSlice w t e 1 _ _ i z hu hi hz (by omega) (by omega) ?_
    have h7 : (a.eval (.tmp s)).cells.size = i.size := by
      have : (a.eval (.tmp s)).cells.toList.length = l.length := by rw [hlen]; rfl
      simpa [hl] using this
    have h8 := Go.Great.fill_whole hpos [a.eval (.tmp s)] ((Array.range (1 * i.size)).map (z.cells[· % z.cells.size]!)) (fun v hv => by
      rw [List.mem_singleton] at hv
      subst hv
      exact h7) (by simp)
    have e3 : ([a.eval (.tmp s)].flatMap fun v => v.cells.toList) = (a.eval (.tmp s)).cells.toList := by simp
    rw [e3] at h8
    exact h8
  refine .inl ⟨.slice (some ⟨w.heap.size, 0, none⟩) 1 1, _, g', ?_, r1, r2, ?_⟩
  · simp only [execOp, ho]
    rw [show (#[(0, Operand.tmp s)] : Array (Nat × Operand)).map (fun p => (p.1, a.eval p.2)) = #[(0, a.eval (.tmp s))] from (by simp)]
    refine (show ((do let v ← Instr.buildSlice t 1 #[(0, a.eval (.tmp s))]; pure (Next.value v)) : Sem Next).run P w = _ from ?_)
    rw [Sem.run_bind, hbs]
    rfl
  · obtain ⟨b, hb, e1⟩ := val_ptr r3
    have e2 : b = w.heap.size := by simpa using e1.symm
    subst e2
    exact val_of_R (.bsl _ _ _ _ _ 1 hb.1 hb.2 (Nat.le_refl _) (by omega) hpos) rfl

end Go.Proofs.Ytjikokmhknnnoaa
