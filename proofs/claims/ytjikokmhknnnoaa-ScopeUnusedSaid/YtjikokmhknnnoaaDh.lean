import Derived.Test.YtjikokmhknnnoaaLs
/- A region that draws its order, whose drawn part only reads and calls: with loads in rows of one's own. Over any program. -/
namespace Go.Proofs.Ytjikokmhknnnoaa
open Go.RowKit

/-- an operation of the drawn part: it leaves boxes and rows alone -/
def COp (P : Program) (pc : Nat → List D → Option D) (σ : St) (fr : List D) (o : Oper) (d : D) : Prop :=
  aeff P (pcall pc) { σ with fr := fr } o = some (d, { σ with fr := fr }) ∨
  (∃ t s i off ln, o.op = .load t (.tmp s) ∧ ev fr (.tmp s) = .bsl i off 0 ln ∧ aop P (fun _ => .ptr i off) (fun i => σ.bx[i]?) o = some d) ∨
  (∃ t s f i off ln off', o.op = .fieldAddr t (.tmp s) f ∧ ev fr (.tmp s) = .bsl i off 0 ln ∧ aop P (fun _ => .ptr i off) (fun i => σ.bx[i]?) o = some (.ptr i off') ∧ d = .bsl i off' 0 0)
theorem COp.out {P : Program} {pc : Nat → List D → Option D} {σ : St} {fr : List D} {o : Oper} {d : D} {base : Nat} {w0 : World} {ok0 g : Gh} {a : Act} {w : World} (hpc : PCallOk P pc) (hben : benign o = true) (h : COp P pc σ fr o d)
    (hr : RS P base w0 ok0 g σ w) (hv : ∀ x ∈ o.op.operands, val w g (ev fr x) (a.eval x)) : EffOut P base w0 ok0 g a w o d σ := by
  rcases h with h | ⟨t, s, i, off, ln, ho, hp, h⟩ | ⟨t, s, f, i, off, ln, off', ho, hp, h, rfl⟩
  · obtain ⟨_, q⟩ := pre_eff (σ := { σ with fr := fr }) (bxf := fun i => σ.bx[i]?) hpc hr hben hv (fun i cs b _ q _ => q) (fun q => absurd q (by simp)) (fun q => absurd q (by simp)) (fun st q1 q2 _ => absurd q1 q2) h
    rcases q with ⟨_, q⟩ | ⟨cs, q, _⟩ | ⟨lv1, q, _⟩
    · rcases q with ⟨v, w1, g1, h1, h2, h3, h4⟩ | ⟨k, vs, h1, h2⟩
      · exact .inl ⟨v, w1, g1, h1, h2, h3, h4⟩
      · exact .inr (.inr ⟨k, vs, h1, h2⟩)
    · have := congrArg (fun s => s.bx.length) q
      simp at this
    · have := congrArg (fun s => s.nx) q
      simp at this
  · have hx := hv (.tmp s) (by rw [ho]; simp [Op.operands])
    rw [hp] at hx
    obtain ⟨b, hβ, hpv⟩ := val_bpt hx
    obtain ⟨v, q1, q2⟩ := aop_load (ρ := a.eval) (vals := fun _ => .ptr i off) ho (RW.boxesAt hr) (by rw [hpv]; exact val_of_R (.ptr _ _ _ hβ.1 hβ.2) rfl) h
    exact .inl ⟨v, w, g, q1, hr, Ext.refl _ _, q2⟩
  · have hx := hv (.tmp s) (by rw [ho]; simp [Op.operands])
    rw [hp] at hx
    obtain ⟨b, hβ, hpv⟩ := val_bpt hx
    obtain ⟨v, q1, q2⟩ := aop_field (w := w) (ρ := a.eval) (vals := fun _ => .ptr i off) ho (by rw [hpv]; exact val_of_R (.ptr _ _ _ hβ.1 hβ.2) rfl) h
    obtain ⟨c, hc, hcv⟩ := val_ptr q2
    exact .inl ⟨v, w, g, q1, hr, Ext.refl _ _, by rw [hcv]; exact val_of_R (.bpt _ _ _ _ hc.1 hc.2) rfl⟩
/-- the drawn part, one operation after another -/
inductive Steps (P : Program) (pc : Nat → List D → Option D) (σ : St) : List D → List Oper → List D → Prop
  | nil (fr : List D) : Steps P pc σ fr [] fr
  | cons {fr F : List D} {o : Oper} {t : Nat} {d : D} {l : List Oper} (ho : o.dst = some t) (h : COp P pc σ fr o d) (r : Steps P pc σ (fr.set t d) l F) : Steps P pc σ fr (o :: l) F
structure TrC (P : Program) (pc : Nat → List D → Option D) (σ : St) (l : List Oper) (fs : Nat → List D) (dv : Nat → D) : Prop where
  step : ∀ j o, l[j]? = some o → ∃ t, o.dst = some t ∧ fs (j + 1) = (fs j).set t (dv j) ∧ COp P pc σ (fs j) o (dv j)
theorem Steps.trace {P : Program} {pc : Nat → List D → Option D} {σ : St} {fr F : List D} {l : List Oper} (h : Steps P pc σ fr l F) : ∃ fs dv, fs 0 = fr ∧ fs l.length = F ∧ TrC P pc σ l fs dv := by
  induction h with
  | nil fr => exact ⟨fun _ => fr, fun _ => .undef, rfl, rfl, ⟨fun j o q => by simp at q⟩⟩
  | @cons fr F o t d l ho hc r ih =>
    obtain ⟨fs, dv, h1, h2, h3⟩ := ih
    refine ⟨fun j => match j with | 0 => fr | j + 1 => fs j, fun j => match j with | 0 => d | j + 1 => dv j, rfl, h2, ⟨fun j o' q => ?_⟩⟩
    cases j with
    | zero =>
      simp only [List.getElem?_cons_zero, Option.some.injEq] at q
      subst q
      exact ⟨t, ho, h1, hc⟩
    | succ j =>
      rw [List.getElem?_cons_succ] at q
      exact h3.step j o' q
/-- no guard, a slot of its own, and what it reads has been written before -/
def calmOk (ops : Array Oper) (c : Nat) : Bool := drawOkF (fun _ _ _ => false) ops c && (ops.toList.take c).zipIdx.all fun (o, i) => o.guard.isNone && o.dst.isSome && (ops.toList.take c).zipIdx.all fun (o', j) => !(o'.dst.any fun t => (names o).contains t) || decide (j < i)
theorem calmOk_at {ops : Array Oper} {c : Nat} (h : calmOk ops c = true) {i : Nat} {o : Oper} (hi : i < c) (ho : ops[i]? = some o) : o.guard = none ∧ ∀ (j : Nat) (o' : Oper) (t : Nat), j < c → ops[j]? = some o' → o'.dst = some t → t ∈ names o → j < i := by
  unfold calmOk at h
  rw [Bool.and_eq_true, List.all_eq_true] at h
  have hm : ∀ {k : Nat} {x : Oper}, k < c → ops[k]? = some x → (x, k) ∈ (ops.toList.take c).zipIdx := fun {k x} hk hx => by
    rw [List.mem_zipIdx_iff_getElem?, List.getElem?_take, if_pos hk]; simpa using hx
  have h1 := h.2 (o, i) (hm hi ho)
  simp only [Bool.and_eq_true, List.all_eq_true, Option.isNone_iff_eq_none] at h1
  refine ⟨h1.1.1, fun j o' t hj ho' ht hn => ?_⟩
  have h2 := h1.2 (o', j) (hm hj ho')
  simp only [ht, Option.any_some, List.contains_iff_mem.2 hn, Bool.not_true, Bool.false_or, decide_eq_true_eq] at h2
  exact h2
section
variable {P : Program} {pc : Nat → List D → Option D} {σ : St} {ops : Array Oper} {c : Nat} {fs : Nat → List D} {dv : Nat → D}
theorem trc_at (T : TrC P pc σ (ops.toList.take c) fs dv) {j : Nat} {o : Oper} (hj : j < c) (ho : ops[j]? = some o) : ∃ t, o.dst = some t ∧ fs (j + 1) = (fs j).set t (dv j) ∧ COp P pc σ (fs j) o (dv j) :=
  T.step j o (by rw [List.getElem?_take, if_pos hj]; simpa using ho)
theorem trc_old (T : TrC P pc σ (ops.toList.take c) fs dv) (hc : c ≤ ops.size) : ∀ j, j ≤ c → ∀ t, (∀ i, i < j → dstAt ops i ≠ some t) → (fs j)[t]? = (fs 0)[t]?
  | 0, _, _, _ => rfl
  | j + 1, hj, t, h => by
    have hs : j < ops.size := by omega
    obtain ⟨t', h1, h2, _⟩ := trc_at T (j := j) (by omega) (Array.getElem?_eq_getElem hs)
    have hne : t' ≠ t := fun e => h j (by omega) (by unfold dstAt; rw [Array.getElem?_eq_getElem hs, Option.bind_some, h1, e])
    rw [h2, List.getElem?_set_ne hne]
    exact trc_old T hc j (by omega) t (fun i hi => h i (by omega))
theorem trc_len (T : TrC P pc σ (ops.toList.take c) fs dv) (hc : c ≤ ops.size) : ∀ j, j ≤ c → (fs j).length = (fs 0).length
  | 0, _ => rfl
  | j + 1, hj => by
    have hs : j < ops.size := by omega
    obtain ⟨t', h1, h2, _⟩ := trc_at T (j := j) (by omega) (Array.getElem?_eq_getElem hs)
    rw [h2, List.length_set]
    exact trc_len T hc j (by omega)
theorem trc_new (T : TrC P pc σ (ops.toList.take c) fs dv) (hok : calmOk ops c = true) (hc : c ≤ ops.size) : ∀ j, j ≤ c → ∀ i t, i < j → dstAt ops i = some t → t < (fs 0).length → (fs j)[t]? = some (dv i)
  | 0, _, _, _, h, _, _ => absurd h (Nat.not_lt_zero _)
  | j + 1, hj, i, t, hi, hd, ht => by
    have hs : j < ops.size := by omega
    obtain ⟨t', h1, h2, _⟩ := trc_at T (j := j) (by omega) (Array.getElem?_eq_getElem hs)
    have hd' : dstAt ops j = some t' := by unfold dstAt; rw [Array.getElem?_eq_getElem hs, Option.bind_some, h1]
    rw [h2]
    by_cases e : i = j
    · subst e
      rw [hd'] at hd
      cases hd
      rw [List.getElem?_set_self (by rw [trc_len T hc i (by omega)]; exact ht)]
    · have hok' : drawOkF (fun _ _ _ => false) ops c = true := by unfold calmOk at hok; rw [Bool.and_eq_true] at hok; exact hok.1
      have hne : t' ≠ t := fun q => by subst q; exact e (dst_apart hok' (by omega) (by omega) hc hd hd')
      rw [List.getElem?_set_ne hne]
      exact trc_new T hok hc j (by omega) i t (by omega) hd ht
end
/-- in the middle of the region -/
def HInv (P : Program) (base : Nat) (w0 : World) (ok0 : Gh) (ops : Array Oper) (c : Nat) (σ : St) (dv : Nat → D) (g0 : Gh) (a0 : Act) (w1 : World) (W : List Oper → Act → World → Prop) (listed : Array Bool) (a : Act) (w : World) : Prop :=
  listed.size = ops.size ∧ Closed ops listed ∧
    (((∀ i, c ≤ i → listed.getD i false = false) ∧ ∃ g, RS P base w0 ok0 g σ w ∧ Ext g0 w1 g w ∧ a.defers = a0.defers ∧ a.tmps.size = a0.tmps.size ∧ (∀ t, (∀ i, i < c → listed.getD i false = true → dstAt ops i ≠ some t) → a.tmps[t]? = a0.tmps[t]?) ∧ (∀ i, i < c → listed.getD i false = true → ∀ t, dstAt ops i = some t → t < a0.tmps.size → ∃ v, a.tmps[t]? = some v ∧ val w g (dv i) v)) ∨
     (∃ k, c < k ∧ k ≤ ops.size ∧ (∀ i, listed.getD i false = decide (i < k)) ∧ W (ops.toList.drop k) a w))
section
variable {P : Program} {pc : Nat → List D → Option D} {base : Nat} {w0 : World} {ok0 : Gh} {σ : St} {ops : Array Oper} {c : Nat} {ro : Option Nat} {n : Nat} {Q : Exit → Act → World → Prop} {g0 : Gh} {a0 : Act} {w1 : World}
theorem calm_wp {id : Nat} {F : List D} (hm : P.follows .mixedOrders = true) (hpc : PCallOk P pc) (hok : calmOk ops c = true) (hc : c ≤ ops.size) (hrel : Rel P base w0 ok0 g0 σ a0 w1) (hst : Steps P pc σ σ.fr (ops.toList.take c) F)
    (tail : ∀ a w g, Rel P base w0 ok0 g { σ with fr := F } a w → Ext g0 w1 g w → a.defers = a0.defers → wpListIn (fence ro) n P ops Q (ops.toList.drop c) a w) : (Code.region id ops true).wpIn (fence ro) n P Q a0 w1 := by
  have hok' : drawOkF (fun _ _ _ => false) ops c = true := by unfold calmOk at hok; rw [Bool.and_eq_true] at hok; exact hok.1
  obtain ⟨fs, dv, e1, e2, T⟩ := hst.trace
  have hclen : (ops.toList.take c).length = c := by simp; omega
  rw [hclen] at e2
  obtain ⟨hrel1, hext1⟩ := hrel.drew
  have hback : ∀ j o, ops[j]? = some o → ∀ e ∈ o.after, Region.binds .any e = true → e.on < j := fun j o ho => (drawOk_at hok' ho).2.1
  have hF : F.length = σ.fr.length := by rw [← e2, trc_len T hc c (Nat.le_refl _), e1]
  have hlen : σ.fr.length = a0.tmps.size := hrel.len
  -- when all of the first part have come up
  have full : ∀ (listed : Array Bool) (a : Act) (w : World) (g : Gh), (∀ j, j < c → listed.getD j false = true) → RS P base w0 ok0 g σ w → Ext g0 w1.drew g w → a.tmps.size = a0.tmps.size → (∀ t, (∀ i, i < c → listed.getD i false = true → dstAt ops i ≠ some t) → a.tmps[t]? = a0.tmps[t]?) →
      (∀ i, i < c → listed.getD i false = true → ∀ t, dstAt ops i = some t → t < a0.tmps.size → ∃ v, a.tmps[t]? = some v ∧ val w g (dv i) v) → Rel P base w0 ok0 g { σ with fr := F } a w := by
    intro listed a w g hall hr he hsz hfix hphi
    refine ⟨hr, by show F.length = _; rw [hF, hlen, hsz], fun t d hd => ?_⟩
    have hd2 : F[t]? = some d := hd
    have htl : t < F.length := (List.getElem?_eq_some_iff.1 hd2).1
    by_cases h : ∃ i, i < c ∧ dstAt ops i = some t
    · obtain ⟨i, hi, hd'⟩ := h
      have hta : t < a0.tmps.size := by rw [← hlen, ← hF]; exact htl
      obtain ⟨v, q1, q2⟩ := hphi i hi (hall i hi) t hd' hta
      have h3 := trc_new T hok hc c (Nat.le_refl _) i t hi hd' (by rw [e1, hlen]; exact hta)
      rw [e2, hd2] at h3
      cases h3
      exact ⟨v, q1, q2⟩
    · have hno : ∀ i, i < c → dstAt ops i ≠ some t := fun i hi q => h ⟨i, hi, q⟩
      have h3 := trc_old T hc c (Nat.le_refl _) t hno
      rw [e2, e1, hd2] at h3
      obtain ⟨v, q1, q2⟩ := hrel1.fr t d h3.symm
      exact ⟨v, (hfix t (fun i hi _ => hno i hi)).trans q1, q2.ext he⟩
  refine wpIn_region_any hm (wpAnyIn_inv (HInv P base w0 ok0 ops c σ dv g0 a0 w1.drew (wpListIn (fence ro) n P ops Q)) ?_ ?_ _ _ _ _ ?_ (by simp))
  · rintro listed a w i o ⟨hls, hcl, hph⟩ hun ho hall
    have hi : i < ops.size := (Array.getElem?_eq_some_iff.1 ho).1
    have hun' : listed.getD i false = false := by
      have hil : i < listed.size := by omega
      simp only [Array.getD_eq_getD_getElem?, Array.getElem?_eq_getElem hil, Option.getD_some] at hun ⊢
      exact hun
    have hready : i ∈ Region.ready .any ops listed := mem_ready.2 ⟨hun, o, ho, hall⟩
    have hcl' : Closed ops (listed.setIfInBounds i true) := hcl.set hready
    have hls' : (listed.setIfInBounds i true).size = ops.size := by simpa using hls
    obtain ⟨k1, _, k3, k4⟩ := drawOk_at hok' ho
    -- a step of the second part
    have second : ∀ k, c ≤ k → i = k → (∀ j, listed.getD j false = decide (j < k)) → wpListIn (fence ro) n P ops Q (ops.toList.drop k) a w →
        if Region.wanted o (yielded ops a.tmps) = true then o.wpIn (fence ro) n P a w (HInv P base w0 ok0 ops c σ dv g0 a0 w1.drew (wpListIn (fence ro) n P ops Q) (listed.setIfInBounds i true)) Q
        else (∀ f, o.about P w a.eval = some f → (fence ro).fn f) ∧ HInv P base w0 ok0 ops c σ dv g0 a0 w1.drew (wpListIn (fence ro) n P ops Q) (listed.setIfInBounds i true) (a.put o.dst undef) w := by
      rintro k hck rfl hlk hW
      have hdrop : ops.toList.drop i = o :: ops.toList.drop (i + 1) := by
        rw [List.drop_eq_getElem_cons (by simpa using hi)]
        congr 1
        have : ops[i] = o := by rw [Array.getElem?_eq_getElem hi] at ho; exact Option.some.inj ho
        simpa using this
      rw [hdrop] at hW
      unfold wpListIn at hW
      have hlk' : ∀ j, (listed.setIfInBounds i true).getD j false = decide (j < i + 1) := fun j => by
        by_cases hj : j = i
        · subst hj
          rw [show (listed.setIfInBounds j true).getD j false = true from (set_listed (by omega)).2 (.inr rfl)]; simp
        · rw [getD_set_ne false (fun e => hj e.symm), hlk j]
          by_cases hlt : j < i
          · simp [hlt]; omega
          · simp [hlt]; omega
      by_cases hw : Region.wanted o (yielded ops a.tmps) = true
      · rw [if_pos hw] at hW ⊢
        exact Oper.wpIn_mono (fun a' w' h' => ⟨hls', hcl', .inr ⟨i + 1, by omega, by omega, hlk', h'⟩⟩) hW
      · rw [if_neg hw] at hW ⊢
        exact ⟨hW.1, ⟨hls', hcl', .inr ⟨i + 1, by omega, by omega, hlk', hW.2⟩⟩⟩
    rcases hph with ⟨hno, g, hr, he, hdf, hsz, hfix, hphi⟩ | ⟨k, hk1, hk2, hk3, hW⟩
    · by_cases hic : i < c
      · obtain ⟨hben, _, hap⟩ := k4 hic
        obtain ⟨hg, hrd⟩ := calmOk_at hok hic ho
        obtain ⟨t, hdst, hfs, hC⟩ := trc_at T hic ho
        have hdi : dstAt ops i = some t := by unfold dstAt; rw [ho, Option.bind_some, hdst]
        have hv : ∀ x ∈ o.op.operands, val w g (ev (fs i) x) (a.eval x) := by
          refine ops_vals k1 (fun t' ht' => ?_)
          by_cases hb : t' < a0.tmps.size
          · by_cases h : ∃ j, j < c ∧ dstAt ops j = some t'
            · obtain ⟨j, hj, hdj⟩ := h
              have hjs : j < ops.size := by omega
              have hdo : (ops[j]).dst = some t' := by
                have := hdj
                unfold dstAt at this
                rwa [Array.getElem?_eq_getElem hjs, Option.bind_some] at this
              have hji : j < i := hrd j ops[j] t' hj (Array.getElem?_eq_getElem hjs) hdo ht'
              have hlj : listed.getD j false = true := by
                rcases (hap j ops[j] t' hj (by omega) (Array.getElem?_eq_getElem hjs) hdo (.inl ht')).1 with ⟨_, q⟩ | ⟨q, _⟩
                · exact listed_of_before hcl ho hall q
                · omega
              obtain ⟨v, q1, q2⟩ := hphi j hj hlj t' hdj hb
              have h5 := trc_new T hok hc i (by omega) j t' hji hdj (by rw [e1, hlen]; exact hb)
              rw [h5, Option.getD_some, Array.getD_eq_getD_getElem?, q1]
              exact q2
            · have hno' : ∀ j, j < c → dstAt ops j ≠ some t' := fun j hj q => h ⟨j, hj, q⟩
              have h5 := trc_old T hc i (by omega) t' (fun j hj => hno' j (by omega))
              rw [e1] at h5
              rw [h5, Array.getD_eq_getD_getElem?, hfix t' (fun j hj _ => hno' j hj)]
              have hb2 : t' < σ.fr.length := by rw [hlen]; exact hb
              obtain ⟨v, q1, q2⟩ := hrel1.fr t' _ (List.getElem?_eq_getElem hb2)
              rw [List.getElem?_eq_getElem hb2, q1]
              exact q2.ext he
          · have h1 : (fs i)[t']? = none := List.getElem?_eq_none (by rw [trc_len T hc i (by omega), e1, hlen]; omega)
            have h2 : a.tmps[t']? = none := Array.getElem?_eq_none (by omega)
            rw [h1, Array.getD_eq_getD_getElem?, h2]; rfl
        have hout := COp.out hpc hben hC hr hv
        have hw : Region.wanted o (yielded ops a.tmps) = true := by unfold Region.wanted; rw [hg]
        rw [if_pos hw]
        refine ⟨fun f _ => fence_fn ro f, ?_⟩
        have hnd : ∀ c, o.op ≠ .defer c := fun c e => by
          unfold opOk at k1
          rw [Bool.and_eq_true, e] at k1
          exact absurd k1.2 (by simp)
        rw [Oper.semAt_plain _ _ _ hnd]
        have hne : ∀ j, j < c → j ≠ i → dstAt ops j ≠ some t := fun j hj hji q => hji (dst_apart hok' hj hic hc q hdi)
        have K : ∀ (v : Value) (g1 : Gh) (w2 : World), RS P base w0 ok0 g1 σ w2 → Ext g w g1 w2 → val w2 g1 (dv i) v → HInv P base w0 ok0 ops c σ dv g0 a0 w1.drew (wpListIn (fence ro) n P ops Q) (listed.setIfInBounds i true) (a.put o.dst v) w2 := by
          intro v g1 w2 r1 r2 r3
          refine ⟨hls', hcl', .inl ⟨fun j hj => ?_, g1, r1, he.trans r2, by rw [hdst]; exact hdf, by rw [hdst]; simpa [Act.put] using hsz, fun t' ht' => ?_, fun j hj hl t' hd' hb => ?_⟩⟩
          · rw [getD_set_ne false (by omega)]; exact hno j hj
          · have h1 : t ≠ t' := fun e => ht' i hic ((set_listed (by omega)).2 (.inr rfl)) (by rw [hdi, e])
            rw [hdst]
            simp only [Act.put]
            rw [Array.getElem?_setIfInBounds_ne h1]
            exact hfix t' (fun j hj hl => ht' j hj ((set_listed (by omega)).2 (.inl hl)))
          · by_cases hji : j = i
            · subst hji
              rw [hdi] at hd'
              cases hd'
              refine ⟨v, ?_, r3⟩
              rw [hdst]
              simp only [Act.put]
              rw [Array.getElem?_setIfInBounds]
              simp only [if_true]
              rw [if_pos (by rw [hsz]; exact hb)]
            · have hl' : listed.getD j false = true := ((set_listed (by omega)).1 hl).resolve_right hji
              obtain ⟨u, q1, q2⟩ := hphi j hj hl' t' hd' hb
              have h1 : t ≠ t' := fun e => hne j hj hji (by rw [hd', e])
              refine ⟨u, ?_, q2.ext r2⟩
              rw [hdst]
              simp only [Act.put]
              rw [Array.getElem?_setIfInBounds_ne h1]
              exact q1
        rcases hout with ⟨v, w2, g1, h1, h2, h3, h4⟩ | ⟨w2, g1, h1, h5, h2, h3⟩ | ⟨k, vs, h1, h2⟩
        · rw [h1]
          exact K v g1 w2 h2 h3 h4
        · rw [h1]
          exact K _ g1 w2 h2 h3 (by rw [h5]; rfl)
        · rw [h1]
          refine ⟨fun e => absurd e (by rw [fence_depth]; simp), (fence_calls h2).mono ?_⟩
          rintro e w2 ⟨v, g1, rfl, q1, q2, q3⟩
          exact K v g1 w2 q1 q2 q3
      · have hb := (k3 (by omega)).resolve_right (fun q => by simp at q)
        have hcall : ∀ j, j < i → listed.getD j false = true := fun j hj => listed_of_before hcl ho hall (hb j hj)
        have hci : i = c := by
          by_cases e : i = c
          · exact e
          · have := hcall c (by omega)
            rw [hno c (Nat.le_refl _)] at this; cases this
        have hR := full listed a w g (fun j hj => hcall j (by omega)) hr he hsz hfix hphi
        refine second c (Nat.le_refl _) hci (fun j => ?_) (tail a w g hR (hext1.trans he) hdf)
        by_cases hj : j < c
        · rw [hcall j (by omega)]; simp [hj]
        · rw [hno j (by omega)]; simp [hj]
    · have h0 : ¬ i < k := fun q => by have := hk3 i; rw [hun'] at this; simp [q] at this
      have hb := (k3 (by omega)).resolve_right (fun q => by simp at q)
      have hik : i = k := by
        by_cases e : i = k
        · exact e
        · have h2 : listed.getD k false = true := listed_of_before hcl ho hall (hb k (by omega))
          rw [hk3 k] at h2
          simp at h2
      exact second k (by omega) hik hk3 hW
  · rintro listed a w ⟨hls, hcl, hph⟩ hrd
    have hal := all_listed' hls hback hrd
    rcases hph with ⟨hno, g, hr, he, hdf, hsz, hfix, hphi⟩ | ⟨k, hk1, hk2, hk3, hW⟩
    · have hcN : c = ops.size := by
        by_cases e : c = ops.size
        · exact e
        · have := hal c (by omega)
          rw [hno c (Nat.le_refl _)] at this; cases this
      have hW := tail a w g (full listed a w g (fun j hj => hal j (by omega)) hr he hsz hfix hphi) (hext1.trans he) hdf
      rw [hcN, List.drop_eq_nil_of_le (by simp)] at hW
      exact hW
    · have hkN : k = ops.size := by
        by_cases e : k = ops.size
        · exact e
        · have := hal k (by omega)
          rw [hk3 k] at this; simp at this
      rw [hkN, List.drop_eq_nil_of_le (by simp)] at hW
      exact hW
  · have hnone : ∀ i, (Array.replicate ops.size false).getD i false = false := fun i => by
      rw [Array.getD_eq_getD_getElem?, Array.getElem?_replicate]; split <;> rfl
    have hcl0 : Closed ops (Array.replicate ops.size false) := by
      intro j o _ hl
      rw [hnone j] at hl
      cases hl
    exact ⟨by simp, hcl0, .inl ⟨fun i _ => hnone i, g0, hrel1.rs, Ext.refl _ _, rfl, rfl, fun _ _ => rfl, fun i _ hl => (by rw [hnone i] at hl; cases hl)⟩⟩
end
/-- what is left of the drawn part -/
def CS (P : Program) (pc : Nat → List D → Option D) (ops rest : List Oper) (σ : St) (Q : Ex → St → Prop) (l : List Oper) (fr : List D) : Prop := ∃ F, Steps P pc σ fr l F ∧ LS P ops rest { σ with fr := F } Q
section
variable {P : Program} {pc : Nat → List D → Option D} {ops rest l : List Oper} {σ : St} {Q : Ex → St → Prop} {fr : List D} {o : Oper} {t : Nat}
theorem CS_nil (h : LS P ops rest { σ with fr := fr } Q) : CS P pc ops rest σ Q [] fr := ⟨fr, .nil _, h⟩
theorem CS_step {d : D} (ho : o.dst = some t) (h : COp P pc σ fr o d) (hk : CS P pc ops rest σ Q l (fr.set t d)) : CS P pc ops rest σ Q (o :: l) fr := by
  obtain ⟨F, h1, h2⟩ := hk
  exact ⟨F, .cons ho h h1, h2⟩
theorem CS_op (ho : o.dst = some t) (h : ∀ R : Option (D × St) → Prop, (∀ d, CS P pc ops rest σ Q l (fr.set t d) → R (some (d, { σ with fr := fr }))) → R (aeff P (pcall pc) { σ with fr := fr } o)) : CS P pc ops rest σ Q (o :: l) fr := by
  obtain ⟨d, h1, h2⟩ := h (fun x => ∃ d, x = some (d, { σ with fr := fr }) ∧ CS P pc ops rest σ Q l (fr.set t d)) fun d hq => ⟨d, rfl, hq⟩
  exact CS_step ho (.inl h1) h2
theorem CS_load {ty : TypeId} {s i off ln : Nat} (ho : o.dst = some t) (hop : o.op = .load ty (.tmp s)) (hp : ev fr (.tmp s) = .bsl i off 0 ln) (h : ∀ R : Option D → Prop, (∀ d, CS P pc ops rest σ Q l (fr.set t d) → R (some d)) → R (aop P (fun _ => .ptr i off) (fun i => σ.bx[i]?) o)) : CS P pc ops rest σ Q (o :: l) fr := by
  obtain ⟨d, h1, h2⟩ := h (fun x => ∃ d, x = some d ∧ CS P pc ops rest σ Q l (fr.set t d)) fun d hq => ⟨d, rfl, hq⟩
  exact CS_step ho (.inr (.inl ⟨ty, s, i, off, ln, hop, hp, h1⟩)) h2
theorem CS_field {ty : TypeId} {s f i off ln off' : Nat} (ho : o.dst = some t) (hop : o.op = .fieldAddr ty (.tmp s) f) (hp : ev fr (.tmp s) = .bsl i off 0 ln) (h : aop P (fun _ => .ptr i off) (fun i => σ.bx[i]?) o = some (.ptr i off')) (hk : CS P pc ops rest σ Q l (fr.set t (.bsl i off' 0 0))) : CS P pc ops rest σ Q (o :: l) fr :=
  CS_step ho (.inr (.inr ⟨ty, s, f, i, off, ln, off', hop, hp, h, rfl⟩)) hk
end
theorem S_calm {E : Env} (hE : E.Ok) {B id : Nat} {ops : List Oper} {σ : St} {Q : Ex → St → Prop} (c : Nat) (hc : c ≤ ops.length) (hok : calmOk ops.toArray c = true) (h : CS E.P (fn E) ops (ops.drop c) σ Q (ops.take c) σ.fr) : S E.P B (.region id ops.toArray true) σ Q := by
  intro base w0 ok0 gs ws ds T g a w hβ hsz hrel hext hmk hT
  obtain ⟨F, h1, σ', h2, hq⟩ := h
  have hp : PCallOk E.P (fn E) := fun k args d h => fn_sound E hE h
  refine calm_wp hE.mixed hp hok (by simpa using hc) hrel (by simpa using h1) (fun a1 w1 g1 r1 r2 r3 => ?_)
  have := h2 base w0 ok0 g1 a1 w1 none 0 (fun e a' w' => T e a' w') r1 (fun a' w' g' q1 q2 q3 => hT .normal σ' a' w' g' hq q1 (hext.trans (r2.trans q2)) (hmk.trans (r2.trans q2) hsz (.of_eq (q3.trans r3))))
  simpa using this
end Go.Proofs.Ytjikokmhknnnoaa
