import Derived.Test.YtmglacjcefajlaaBG

/- What code does over data where a run over data does not reach: a variable that is frozen (its cells stay from then on, pointers to it become pointers to cells that stay), and fragments whose effect is shown by hand. Over any program. -/
namespace Go.Proofs.Ytmglacjcefajlaa
open Go.RowKit

mutual
/-- nothing points to box i -/
def D.avoid (i : Nat) : D → Bool
 | .agg l => D.avoids i l
 | .slice _ _ l => D.avoids i l
 | .elem d => D.avoid i d
 | .fn _ c => D.avoids i c
 | .tup l => D.avoids i l
 | .ptr j _ => j != i
 | .mref j => j != i
 | .cmap l => D.avoids i l
 | .bsl j _ _ _ => j != i
 | .any => true
 | .undef => true
 | .bool _ => true
 | .int _ _ => true
 | .str _ => true
 | .it _ => true
 | .nfn => true
 | .nmap => true
def D.avoids (i : Nat) : List D → Bool
 | [] => true
 | d :: r => D.avoid i d && D.avoids i r
end
theorem D.avoids_all (i : Nat) : ∀ l : List D, D.avoids i l = l.all (D.avoid i)
 | [] => rfl
 | d :: r => by simp only [D.avoids, List.all_cons, D.avoids_all i r]

/-- box i is given up; its first n cells stay -/
def Gh.frz (g : Gh) (i b n : Nat) : Gh := { g with ok := fun c o => g.ok c o ∨ (c = b ∧ o < n), β := fun j => if j = i then none else g.β j }
theorem R.frz {g : Gh} {w : World} {d : D} {cs : List Value} {i b n : Nat} (h : R w g d cs) (hu : d.avoid i = true) : R w (g.frz i b n) d cs := by
 induction h with
 | it L gf lb h => exact .it L gf lb h
 | nfn => exact .nfn
 | nmap => exact .nmap
 | mref j c h hm =>
  simp only [D.avoid, bne_iff_ne] at hu
  exact .mref j c (by show (if j = i then none else g.β j) = some c; rw [if_neg hu]; exact h) hm
 | bsl j off n' len c cap h hm hc hm' hn =>
  simp only [D.avoid, bne_iff_ne] at hu
  exact .bsl j off n' len c cap (by show (if j = i then none else g.β j) = some c; rw [if_neg hu]; exact h) hm hc hm' hn
 | bpt j off len c h hm =>
  simp only [D.avoid, bne_iff_ne] at hu
  exact .bpt j off len c (by show (if j = i then none else g.β j) = some c; rw [if_neg hu]; exact h) hm
 | any v h hb => exact .any v h hb
 | cmap l c es clock hp hh hl _ ih =>
  simp only [D.avoid, D.avoids_all, List.all_eq_true] at hu
  exact .cmap l c es clock hp hh hl (fun j h => ih j h (hu _ (List.getElem_mem h)))
 | bool b => exact .bool b
 | int k n h => exact .int k n h
 | str s h => exact .str s h
 | agg l vs hl _ ih =>
  simp only [D.avoid, D.avoids_all, List.all_eq_true] at hu
  exact .agg l vs hl (fun j h h' => ih j h h' (hu _ (List.getElem_mem h)))
 | slice o n l A cap cs hl hm ho hnil hA _ hn hc ih =>
  simp only [D.avoid, D.avoids_all, List.all_eq_true] at hu
  exact .slice o n l A cap cs hl hm ho hnil hA (fun j h => ih j h (hu _ (List.getElem_mem h))) hn (fun j hj => by
   obtain ⟨c, off, q, hh⟩ := hc j hj
   exact ⟨c, off, q, fun m u hq => ⟨.inl (hh m u hq).1, (hh m u hq).2⟩⟩)
 | ptr j off c h hm =>
  simp only [D.avoid, bne_iff_ne] at hu
  exact .ptr j off c (by show (if j = i then none else g.β j) = some c; rw [if_neg hu]; exact h) hm
 | elem d c off cs _ hc ih => exact .elem d c off cs (ih (by simpa [D.avoid] using hu)) (fun m u hq => ⟨.inl (hc m u hq).1, (hc m u hq).2⟩)
 | fn f c vs hl ha _ ih =>
  simp only [D.avoid, D.avoids_all, List.all_eq_true] at hu
  exact .fn f c vs hl ha (fun j h h' => ih j h h' (hu _ (List.getElem_mem h)))
theorem val.frz {g : Gh} {w : World} {d : D} {v : Value} {i b n : Nat} (h : val w g d v) (hu : d.avoid i = true) : val w (g.frz i b n) d v := by
 cases d with
 | undef => exact h
 | tup l =>
  obtain ⟨vs, h1, h2, h3⟩ := h
  simp only [D.avoid, D.avoids_all, List.all_eq_true] at hu
  refine ⟨vs, h1, h2, fun j a c => ?_⟩
  obtain ⟨cs, q1, q2⟩ := h3 j a c
  exact ⟨cs, q1.frz (hu _ (List.getElem_mem a)), q2⟩
 | _ =>
  obtain ⟨cs, q1, q2⟩ := h
  exact ⟨cs, q1.frz hu, q2⟩
theorem BoxIn.frz {g : Gh} {w : World} {c : Nat} {m : Bool} {cs : List D} {i b n : Nat} (h : BoxIn w g c m cs) (hu : D.avoids i cs = true) : BoxIn w (g.frz i b n) c m cs := by
 cases m with
 | false => obtain ⟨vs, sp, t, h1, h2⟩ := h; exact ⟨vs, sp, t, h1, h2.frz hu⟩
 | true =>
  obtain ⟨es, clock, h1, h2, h2', h3, h4⟩ := h
  rw [D.avoids_all, List.all_eq_true] at hu
  exact ⟨es, clock, h1, h2, h2', fun j hj => (h3 j hj).frz (hu _ (List.getElem_mem hj)), h4⟩
theorem R_of_cells {g : Gh} {w : World} {d : D} {us : List Value} (h : R w g (.agg d.cells) us) : R w g d us := by
 cases d with
 | agg l => exact h
 | _ =>
  have hl := R_agg_len h
  simp only [D.cells, zlc, zln] at hl
  obtain ⟨u, rfl⟩ := List.length_eq_one_iff.1 hl.symm
  obtain ⟨_, q⟩ := R_agg_at h 0 (by simp [D.cells])
  exact q

/-- what a datum becomes when box i, which holds cs, is frozen -/
inductive Fz (i : Nat) (cs : List D) : D → D → Prop
 | keep (d : D) (h : d.avoid i = true) : Fz i cs d d
 | ptr (off k : Nat) (e : D) (h1 : e.cells = (cs.drop off).take k) (h2 : off + k ≤ cs.length) : Fz i cs (.ptr i off) (.elem e)
 | bpt (off len k : Nat) (e : D) (h1 : e.cells = (cs.drop off).take k) (h2 : off + k ≤ cs.length) : Fz i cs (.bsl i off 0 len) (.elem e)
 | bsl (off n len : Nat) (l : List D) (hl : l.length = len) (hn : 0 < n) (h : ∀ (j : Nat) (hj : j < l.length), (l[j]).cells = (cs.drop (off + j * n)).take n) (hle : off + len * n ≤ cs.length) : Fz i cs (.bsl i off n len) (.slice .imm n l)
 | agg (l l' : List D) (hl : l.length = l'.length) (h : ∀ (j : Nat) (hj : j < l.length) (hj' : j < l'.length), Fz i cs l[j] l'[j]) : Fz i cs (.agg l) (.agg l')

section
variable {P : Program} {base : Nat} {w0 : World} {ok0 : Gh} {g : Gh} {σ : St} {a : Act} {w : World}
/-- data behind the freezing of box i -/
theorem R.fz {i b : Nat} {cs : List D} {vs sp : List Value} {ty : TypeId} (hβ : g.β i = some b) (hh : w.heap[b]? = some (.cells (vs ++ sp).toArray ty (0, 0))) (hr : R w g (.agg cs) vs) (hcs : D.avoids i cs = true) {d d' : D} (hf : Fz i cs d d') :
  ∀ us, R w g d us → R w (g.frz i b cs.length) d' us := by
 have hlen := R_agg_len hr
 have hcell : ∀ o u, vs[o]? = some u → (g.frz i b cs.length).ok b o ∧ w.cell? ⟨b, o, none⟩ = some u := fun o u q => by
  have q' := (List.getElem?_eq_some_iff.1 q).1
  refine ⟨.inr ⟨rfl, by omega⟩, ?_⟩
  rw [cell_of_row _ _ _ _ _ _ hh, List.getElem?_toArray, List.getElem?_append_left q']
  exact q
 have hav : ∀ (e : D) (o k : Nat), e.cells = (cs.drop o).take k → e.avoid i = true := fun e o k q => by
  have h9 : D.avoids i e.cells = true := by
   rw [q, D.avoids_all, List.all_eq_true]
   rw [D.avoids_all, List.all_eq_true] at hcs
   exact fun x hx => hcs x (List.mem_of_mem_drop (List.mem_of_mem_take hx))
  cases e with
  | agg l => simpa [D.avoid, D.cells] using h9
  | _ => simpa [D.avoids, D.cells] using h9
 induction hf with
 | keep d h => exact fun us q => q.frz h
 | ptr off k e h1 h2 =>
  intro us q
  cases q with
  | ptr _ _ c hc hm =>
   rw [hβ] at hc
   cases hc
   have hsub := R_agg_sub hr off k
   rw [← h1] at hsub
   refine .elem e b off ((vs.drop off).take k) ((R_of_cells hsub).frz (hav e off k h1)) (fun m u hu => hcell _ _ ?_)
   have := (List.getElem?_eq_some_iff.1 hu).1
   rw [List.length_take] at this
   rw [List.getElem?_take_of_lt (by omega), List.getElem?_drop] at hu; exact hu
 | bpt off len k e h1 h2 =>
  intro us q
  cases q with
  | bsl _ _ _ _ _ _ _ _ _ _ hn => exact absurd hn (by omega)
  | bpt _ _ _ c hc hm =>
   rw [hβ] at hc
   cases hc
   have hsub := R_agg_sub hr off k
   rw [← h1] at hsub
   refine .elem e b off ((vs.drop off).take k) ((R_of_cells hsub).frz (hav e off k h1)) (fun m u hu => hcell _ _ ?_)
   have := (List.getElem?_eq_some_iff.1 hu).1
   rw [List.length_take] at this
   rw [List.getElem?_take_of_lt (by omega), List.getElem?_drop] at hu; exact hu
 | bsl off n len l hl hn h hle =>
  intro us q
  subst hl
  cases q with
  | bpt => exact absurd hn (by omega)
  | bsl _ _ _ _ c cap hc hm hlc hm' _ =>
   rw [hβ] at hc
   cases hc
   have hin : ∀ j, j < l.length → off + j * n + n ≤ vs.length := fun j hj => by
    have : (j + 1) * n ≤ l.length * n := Nat.mul_le_mul_right _ hj
    rw [Nat.add_mul] at this
    omega
   refine .slice .imm n l (some ⟨b, off, none⟩) cap (fun j => (vs.drop (off + j * n)).take n) hlc hm' (fun s e q => by cases q) trivial trivial (fun j hj => ?_) (fun j hj => ?_) (fun j hj => ⟨b, off, rfl, fun m u hu => hcell _ _ ?_⟩)
   ·have hsub := R_agg_sub hr (off + j * n) n
    rw [← h j hj] at hsub
    exact (R_of_cells hsub).frz (hav _ _ _ (h j hj))
   ·have := hin j hj
    rw [List.length_take, List.length_drop]; omega
   ·have := (List.getElem?_eq_some_iff.1 hu).1
    rw [List.length_take] at this
    rw [List.getElem?_take_of_lt (by omega), List.getElem?_drop] at hu
    exact hu
 | agg l l' hl _ ih =>
  intro us q
  have hq := R_agg_len q
  refine .agg _ _ (by omega) (fun j h1 h2 => ?_)
  obtain ⟨h3, h4⟩ := R_agg_at q j (by omega)
  exact ih j (by omega) h1 _ h4
theorem val.fz {i b : Nat} {cs : List D} {vs sp : List Value} {ty : TypeId} (hβ : g.β i = some b) (hh : w.heap[b]? = some (.cells (vs ++ sp).toArray ty (0, 0))) (hr : R w g (.agg cs) vs) (hcs : D.avoids i cs = true) {d d' : D} (hf : Fz i cs d d') {v : Value} (h : val w g d v) :
  val w (g.frz i b cs.length) d' v := by
 have hf' := hf
 cases hf' with
 | keep _ q => exact h.frz q
 | ptr off k e h1 h2 => obtain ⟨us, q1, q2⟩ := h; exact .of1 ⟨us, R.fz hβ hh hr hcs hf us q1, q2⟩
 | bpt off len k e h1 h2 => obtain ⟨us, q1, q2⟩ := h; exact .of1 ⟨us, R.fz hβ hh hr hcs hf us q1, q2⟩
 | bsl off n len l hl hn q hle => obtain ⟨us, q1, q2⟩ := h; exact .of1 ⟨us, R.fz hβ hh hr hcs hf us q1, q2⟩
 | agg l l' hl q => obtain ⟨us, q1, q2⟩ := h; exact .of1 ⟨us, R.fz hβ hh hr hcs hf us q1, q2⟩

/-- box i is given up: what points to it becomes data that stays -/
theorem RS.fz (h : RS P base w0 ok0 g σ w) {i b : Nat} {cs : List D} (hb : g.β i = some b) (hm : g.mp i = false) (hi : σ.bx[i]? = some cs) (hcs : D.avoids i cs = true) {bx : List (List D)} {fr : List D}
  (hbx : ∀ j c', j ≠ i → bx[j]? = some c' → ∃ c, σ.bx[j]? = some c ∧ (Fz i cs (.agg c) (.agg c'))) (hbl : ∀ j, j ≠ i → (σ.bx[j]?).isSome = true → (bx[j]?).isSome = true)
  (hmp : ∀ j c', j ≠ i → bx[j]? = some c' → g.mp j = true → σ.bx[j]? = some c' ∧ D.avoids i c' = true) :
  RS P base w0 ok0 (g.frz i b cs.length) { σ with bx := bx, fr := fr } w := by
 obtain ⟨d1, d2, d3, d4⟩ := RW.dom h i b hb
 obtain ⟨vs, sp, ty, hh, hr⟩ := (RW.boxesAt h).cells hi ⟨hb, hm⟩
 have hβ : ∀ j c, (g.frz i b cs.length).β j = some c → j ≠ i ∧ g.β j = some c := fun j c q => by
  have q' : (if j = i then none else g.β j) = some c := q
  by_cases e : j = i
  ·rw [if_pos e] at q'; cases q'
  ·rw [if_neg e] at q'; exact ⟨e, q'⟩
 have hne : ∀ j c, (g.frz i b cs.length).β j = some c → c ≠ b := fun j c q e => by
  obtain ⟨q1, q2⟩ := hβ j c q
  exact q1 (RW.inj h j i b (by rw [← e]; exact q2) hb)
 refine ⟨RW.below h, RW.hbs h, ?_, ?_, ?_, ?_, ?_, fun s s' x x' c r1 r2 r3 r4 r5 r6 => RW.rinj h s s' x x' c r1 r2 r3 r4 r5 r6, fun s x q => RW.fresh h s x q, ?_, fun v L q => RW.iter h v L q, ?_, fun c q q' => RW.prb h c q q'⟩
 ·intro c o q
  rcases q with q | ⟨rfl, _⟩
  ·exact RW.okb h c o q
  ·exact .inr ⟨d2, d3⟩
 ·intro j c' c q q1
  obtain ⟨e, q2⟩ := hβ j c q1
  show BoxIn w _ c (g.mp j) c'
  cases hmj : g.mp j with
  | true =>
   obtain ⟨r1, r2⟩ := hmp j c' e q hmj
   have r3 := RW.box h j c' c r1 q2
   rw [hmj] at r3
   exact r3.frz r2
  | false =>
   obtain ⟨c0, r1, r2⟩ := hbx j c' e q
   have r3 := RW.box h j c0 c r1 q2
   rw [hmj] at r3
   obtain ⟨us, sp', t', x1, x2⟩ := r3
   exact ⟨us, sp', t', x1, R.fz hb hh hr hcs r2 us x2⟩
 ·intro j c q
  obtain ⟨e, q2⟩ := hβ j c q
  obtain ⟨r1, r2, r3, r4⟩ := RW.dom h j c q2
  refine ⟨hbl j e r1, r2, r3, fun o q5 => ?_⟩
  rcases q5 with q5 | ⟨q5, _⟩
  ·exact r4 o q5
  ·exact hne j c q q5
 ·intro j k c q1 q2
  exact RW.inj h j k c (hβ j c q1).2 (hβ k c q2).2
 ·intro s hs
  obtain ⟨v, e, len, xs, r1, r2, r3⟩ := RW.row h s hs
  refine ⟨v, e, len, xs, r1, r2, fun c hc => ⟨fun o q => ?_, fun j q => (r3 c hc).2 j (hβ j c q).2⟩⟩
  rcases q with q | ⟨q, _⟩
  ·exact (r3 c hc).1 o q
  ·exact absurd hb (by rw [← q]; exact (r3 c hc).2 i)
 ·intro c q
  obtain ⟨r1, r2, r3⟩ := RW.prot h c q
  exact ⟨r1, fun j q' => r2 j (hβ j c q').2, r3⟩
 ·intro c q
  obtain ⟨r1, r2, r3⟩ := RW.kept h c q
  exact ⟨r1, fun j q' => r2 j (hβ j c q').2, r3⟩
end

/-- what code does from a state over data, whatever the memory, in a call whose caller has at most B boxes -/
def S (P : Program) (B : Nat) (c : Code) (σ : St) (Q : Ex → St → Prop) : Prop := ∀ (base : Nat) (w0 : World) (ok0 gs : Gh) (ws : World) (ds : List Deferred) (T : Exit → Act → World → Prop) (g : Gh) (a : Act) (w : World),
 (∀ i c, gs.β i = some c → i < B) → ws.heap.size ≤ w.heap.size → Rel P base w0 ok0 g σ a w → Ext gs ws g w → Marks ws.heap.size g w ds a.defers →
 (∀ e σ' a' w' g', Q e σ' → Rel P base w0 ok0 g' σ' a' w' → Ext gs ws g' w' → Marks ws.heap.size g' w' ds a'.defers → T e.to a' w') → c.wpIn (fence none) 0 P T a w

theorem S_of_X {E : Env} (hE : E.Ok) {B : Nat} {c : Code} {σ : St} {Q : Ex → St → Prop} (hc : chkCode c = true) (h : X E c σ Q) : S E.P B c σ Q := by
 obtain ⟨e, σ', h1, h2⟩ := h
 obtain ⟨n, hn⟩ := run_iff.1 h1
 intro base w0 ok0 gs ws ds T g a w hβ hsz hrel hext hmk hT
 exact code_ok hE n c hc σ e σ' hn base w0 ok0 none 0 T g a w (.inl rfl) hrel (fun a' w' g' r1 r2 r3 => hT e σ' a' w' g' h2 r1 (hext.trans r2) (hmk.trans r2 hsz r3))
def ThenS (P : Program) (B : Nat) (b : Code) (Q : Ex → St → Prop) : Ex → St → Prop
 | .normal, σ => S P B b σ Q
 | e, σ => Q e σ
theorem S_seq {P : Program} {B : Nat} {x y : Code} {σ : St} {Q : Ex → St → Prop} (h : S P B x σ (ThenS P B y Q)) : S P B (.seq x y) σ Q := by
 intro base w0 ok0 gs ws ds T g a w hβ hsz hrel hext hmk hT
 refine wpIn_seq ?_
 refine h base w0 ok0 gs ws ds _ g a w hβ hsz hrel hext hmk (fun e σ' a' w' g' q r1 r2 r3 => ?_)
 cases e with
 | normal => exact q base w0 ok0 gs ws ds T g' a' w' hβ r2.size r1 r2 r3 hT
 | ret => exact hT .ret σ' a' w' g' q r1 r2 r3
 | exit id => exact hT (.exit id) σ' a' w' g' q r1 r2 r3
/-- a box is frozen -/
theorem S_frz {P : Program} {B : Nat} {c : Code} {σ : St} {Q : Ex → St → Prop} {i t0 : Nat} {d0 : D} {cs : List D} (hiB : B ≤ i) (ht : σ.fr[t0]? = some d0) (hd : (∃ off, d0 = .ptr i off) ∨ ∃ off n len, d0 = .bsl i off n len) (hi : σ.bx[i]? = some cs) (hcs : D.avoids i cs = true) {bx : List (List D)} {fr : List D}
  (hl : fr.length = σ.fr.length) (hfr : ∀ (t : Nat) (h : t < fr.length) (h' : t < σ.fr.length), Fz i cs σ.fr[t] fr[t]) (hbl : bx.length = σ.bx.length)
  (hbx : ∀ (j : Nat) (h : j < bx.length) (h' : j < σ.bx.length), j ≠ i → (bx[j] = σ.bx[j] ∧ D.avoids i bx[j] = true) ∨ (Fz i cs (.agg σ.bx[j]) (.agg bx[j]) ∧ ∃ (t off : Nat), σ.fr[t]? = some (D.ptr j off)))
  (h : S P B c { σ with bx := bx, fr := fr } Q) : S P B c σ Q := by
 intro base w0 ok0 gs ws ds T g a w hβ hsz hrel hext hmk hT
 obtain ⟨v, _, hv⟩ := hrel.fr t0 _ ht
 obtain ⟨b, hb, hm⟩ : ∃ b, g.β i = some b ∧ g.mp i = false := by
  rcases hd with ⟨off, rfl⟩ | ⟨off, n, len, rfl⟩
  ·obtain ⟨b, hb, _⟩ := val_ptr hv
   exact ⟨b, hb⟩
  ·obtain ⟨us, q, _⟩ := hv
   cases q with
   | bsl _ _ _ _ b _ h hm => exact ⟨b, h, hm⟩
   | bpt _ _ _ b h hm => exact ⟨b, h, hm⟩
 obtain ⟨vs, sp, ty, hh, hr⟩ := (RW.boxesAt hrel.rs).cells hi ⟨hb, hm⟩
 have hk : ∀ c, g.kp c → c ≠ b := fun c q e => (RW.kept hrel.rs c q).2.1 i (by rw [e]; exact hb)
 have hptr : ∀ (j t off : Nat), σ.fr[t]? = some (D.ptr j off) → g.mp j = false := fun j t off q => by
  obtain ⟨v, _, hv⟩ := hrel.fr t _ q
  obtain ⟨c, hc, _⟩ := val_ptr hv
  exact hc.2
 have hself : ∀ l : List D, D.avoids i l = true → Fz i cs (.agg l) (.agg l) := fun l q => .keep _ (by simpa [D.avoid] using q)
 have hrel' : Rel P base w0 ok0 (g.frz i b cs.length) { σ with bx := bx, fr := fr } a w := by
  refine ⟨RS.fz hrel.rs hb hm hi hcs (fun j c' e q => ?_) (fun j e q => ?_) (fun j c' e q q' => ?_), hl.trans hrel.len, fun t d q => ?_⟩
  ·obtain ⟨q1, q2⟩ := List.getElem?_eq_some_iff.1 q
   refine ⟨σ.bx[j]'(by omega), List.getElem?_eq_getElem (by omega), ?_⟩
   rcases hbx j q1 (by omega) e with ⟨r1, r2⟩ | ⟨r1, _⟩
   ·rw [← q2, ← r1]; exact hself _ r2
   ·rw [← q2]; exact r1
  ·obtain ⟨x, hx⟩ := Option.isSome_iff_exists.1 q
   have := (List.getElem?_eq_some_iff.1 hx).1
   rw [List.getElem?_eq_getElem (by omega)]; rfl
  ·obtain ⟨q1, q2⟩ := List.getElem?_eq_some_iff.1 q
   rcases hbx j q1 (by omega) e with ⟨r1, r2⟩ | ⟨_, t, off, r2⟩
   ·rw [← q2]
    exact ⟨by rw [List.getElem?_eq_getElem (by omega), r1], r2⟩
   ·rw [hptr j t off r2] at q'; cases q'
  ·obtain ⟨q1, q2⟩ := List.getElem?_eq_some_iff.1 q
   have q1' : t < fr.length := q1
   obtain ⟨v, r1, r2⟩ := hrel.fr t _ (List.getElem?_eq_getElem (by omega))
   refine ⟨v, r1, ?_⟩
   rw [← q2]
   exact val.fz hb hh hr hcs (hfr t q1 (by omega)) r2
 refine h base w0 ok0 gs ws ds T (g.frz i b cs.length) a w hβ hsz hrel' ?_ ?_ hT
 ·refine ⟨fun c o q => .inl (hext.ok c o q), fun j c q => (by have := hβ j c q; show (if j = i then none else g.β j) = some c; rw [if_neg (by omega)]; exact hext.β j c q), hext.ow, hext.cell, hext.pr, hext.it, hext.mp, fun c q => ?_, hext.size⟩
  obtain ⟨x1, x2, x3, x4⟩ := hext.kp c q
  exact ⟨x1, x2, fun o r => r.elim (x3 o) (fun r => absurd r.1 (hk c x1)), x4⟩
 ·obtain ⟨Ds, m1, m2, m3⟩ := hmk
  exact ⟨Ds, m1, m2, m3⟩
/-- data, one by one -/
inductive FzL (i : Nat) (cs : List D) : List D → List D → Prop
 | nil : FzL i cs [] []
 | cons {d d' : D} {l l' : List D} (h : Fz i cs d d') (t : FzL i cs l l') : FzL i cs (d :: l) (d' :: l')
theorem FzL.len {i : Nat} {cs l l' : List D} (h : FzL i cs l l') : l'.length = l.length := by
 induction h with
 | nil => rfl
 | cons _ _ ih => simp only [zlc, ih]
theorem FzL.at {i : Nat} {cs l l' : List D} (h : FzL i cs l l') : ∀ (t : Nat) (h1 : t < l'.length) (h2 : t < l.length), Fz i cs l[t] l'[t] := by
 induction h with
 | nil => intro t h1 h2; exact absurd h1 (Nat.not_lt_zero _)
 | cons h _ ih =>
  intro t h1 h2
  cases t with
  | zero => exact h
  | succ t => exact ih t (by simpa using h1) (by simpa using h2)
theorem FzL.agg {i : Nat} {cs l l' : List D} (h : FzL i cs l l') : Fz i cs (.agg l) (.agg l') := .agg _ _ h.len.symm (fun j h1 h2 => h.at j h2 h1)
/-- boxes, one by one: what is turned must be pointed to (so that it is no map) -/
inductive FzB (i : Nat) (cs fr : List D) : Nat → List (List D) → List (List D) → Prop
 | nil (k : Nat) : FzB i cs fr k [] []
 | self {k : Nat} {c c' : List D} {l l' : List (List D)} (e : k = i) (t : FzB i cs fr (k + 1) l l') : FzB i cs fr k (c :: l) (c' :: l')
 | keep {k : Nat} {c : List D} {l l' : List (List D)} (h : D.avoids i c = true) (t : FzB i cs fr (k + 1) l l') : FzB i cs fr k (c :: l) (c :: l')
 | turn {k t0 off : Nat} {c c' : List D} {l l' : List (List D)} (h : FzL i cs c c') (hp : fr[t0]? = some (.ptr k off)) (t : FzB i cs fr (k + 1) l l') : FzB i cs fr k (c :: l) (c' :: l')
theorem FzB.len {i k : Nat} {cs fr : List D} {l l' : List (List D)} (h : FzB i cs fr k l l') : l'.length = l.length := by
 induction h with
 | nil => rfl
 | self _ _ ih => simp only [zlc, ih]
 | keep _ _ ih => simp only [zlc, ih]
 | turn _ _ _ ih => simp only [zlc, ih]
theorem FzB.at {i k : Nat} {cs fr : List D} {l l' : List (List D)} (h : FzB i cs fr k l l') : ∀ (j : Nat) (h1 : j < l'.length) (h2 : j < l.length), k + j ≠ i → (l'[j] = l[j] ∧ D.avoids i l'[j] = true) ∨ (Fz i cs (.agg l[j]) (.agg l'[j]) ∧ ∃ (t off : Nat), fr[t]? = some (D.ptr (k + j) off)) := by
 induction h with
 | nil => intro j h1; exact absurd h1 (Nat.not_lt_zero _)
 | @self k _ _ _ _ e _ ih =>
  intro j h1 h2 hne
  cases j with
  | zero => exact absurd e hne
  | succ j => have := ih j (by simpa using h1) (by simpa using h2) (by omega); rw [show k + 1 + j = k + (j + 1) from by omega] at this; exact this
 | @keep k _ _ _ h _ ih =>
  intro j h1 h2 hne
  cases j with
  | zero => exact .inl ⟨rfl, h⟩
  | succ j => have := ih j (by simpa using h1) (by simpa using h2) (by omega); rw [show k + 1 + j = k + (j + 1) from by omega] at this; exact this
 | @turn k t0 off _ _ _ _ h hp _ ih =>
  intro j h1 h2 hne
  cases j with
  | zero => exact .inr ⟨h.agg, t0, off, hp⟩
  | succ j => have := ih j (by simpa using h1) (by simpa using h2) (by omega); rw [show k + 1 + j = k + (j + 1) from by omega] at this; exact this
theorem S_freeze {P : Program} {B : Nat} {c : Code} {σ : St} {Q : Ex → St → Prop} {i t0 : Nat} {d0 : D} {cs : List D} (hiB : B ≤ i) (ht : σ.fr[t0]? = some d0) (hd : (∃ off, d0 = .ptr i off) ∨ ∃ off n len, d0 = .bsl i off n len) (hi : σ.bx[i]? = some cs) (hcs : D.avoids i cs = true) {bx : List (List D)} {fr : List D}
  (hfr : FzL i cs σ.fr fr) (hbx : FzB i cs σ.fr 0 σ.bx bx) (h : S P B c { σ with bx := bx, fr := fr } Q) : S P B c σ Q :=
 S_frz hiB ht hd hi hcs hfr.len hfr.at hbx.len (fun j h1 h2 hne => by have := hbx.at j h1 h2 (by omega); rwa [Nat.zero_add] at this) h
/-- a function of its arguments, by what its body does -/
theorem S_pure {P : Program} {k : Nat} {args : List D} {f : Func} {body : Code} {d0 : D} (hf : P.funcs[k]? = some f) (hb : f.body = some body) (hu : args.all (fun d => d.under 0 && d.good) = true) (hs : args.map D.strip = args)
  (h : S P 0 body (enterSt f args [] 0 []) (fun e σ => (e = .normal ∨ e = .ret) ∧ ∃ d, resD P f σ = some d ∧ d.under 0 = true ∧ d.strip = d0)) : PContract P k args d0 := by
 intro g vs w hk hv0
 have hv := vals_free hv0 hu
 rw [hs] at hv
 have hr := RW.start P w g hk
 have hcalls : Calls P k vs.toArray w fun e w' => ∃ v g' d σ', e = .returned v ∧ RS P w.heap.size w g g' σ' w' ∧ Ext { g with β := fun _ => none, ow := fun _ => none, kp := fun _ => False } w g' w' ∧ val w' g' d v ∧ d.under 0 = true ∧ d.strip = d0 := by
  refine callsIn_wide.1 (callsIn_of_wp_marks (n := 0) hf hb trivial ?_ rfl)
  refine h w.heap.size w g { g with β := fun _ => none, ow := fun _ => none, kp := fun _ => False } w [] _ { g with β := fun _ => none, ow := fun _ => none, kp := fun _ => False } _ w (fun _ _ q => by cases q) (Nat.le_refl _) (enter_rel hr hv) (Ext.refl _ _) (.of_eq rfl) (fun e σ' a' w' g' ⟨hex, d, hd, hdu, hds⟩ q1 q2 q3 => ?_)
  obtain ⟨Ds, m1, m2, m3⟩ := q3
  have fin : LeavesInM .wide 0 P f a'.tmps (fun e w' => ∃ v g' d σ', e = .returned v ∧ RS P w.heap.size w g g' σ' w' ∧ Ext { g with β := fun _ => none, ow := fun _ => none, kp := fun _ => False } w g' w' ∧ val w' g' d v ∧ d.under 0 = true ∧ d.strip = d0) a'.defers .returning w' := by
   rw [show a'.defers = Ds.map markOf from by rw [m1]; simp]
   refine leaves_marks Ds w' m2 (fun D hD => (m3 D hD).2.2.2) (fun w2 hs => ?_)
   obtain ⟨s1, s2, s3, s4⟩ := hs
   have hcell : ∀ p, w2.cell? p = w'.cell? p := by
    intro p
    by_cases hp : p.block ∈ Ds
    ·unfold World.cell?
     rw [s4 _ hp, (m3 _ hp).2.2.2]
    ·exact World.cell?_of_block (s3 _ hp)
   obtain ⟨v, r1, r2⟩ := resD_sound q1 hcell hd
   have hbs := RW.hbs q1.rs
   have hg2 : RW P w.heap.size w g { g' with kp := fun _ => False } (fun i => σ'.bx[i]?) (fun s => s < σ'.nx) (fun s => s ∈ σ'.lv) w' := by
    refine RW.turn q1.rs (ok' := g'.ok) (fun _ _ q => q) (fun _ _ q => .inl q) (fun b q => q.elim)
   obtain ⟨t1, t2⟩ := hg2.still (w' := w2) ⟨s1.1, s1.2.1, s1.2.2, by omega, fun k hk => s3 k (fun q => by have := (m3 k q).1; omega)⟩ (by omega) (fun i b q => s3 b (fun q' => (RW.kept q1.rs b (m3 b q').2.1).2.1 i q)) (fun s x b hs' hx hb => s3 b (fun q' => (RW.kept q1.rs b (m3 b q').2.1).2.2 s x hs' hx hb))
    (fun b o _ => hcell _) (fun b q => s3 b (fun q' => (m3 b q').2.2.1 q)) (fun b q => q.elim)
   have hsub : Sub g' { g' with kp := fun _ => False } := ⟨fun _ _ q => q, fun _ _ q => q, fun _ _ q => q, fun _ q => q, fun _ _ q => q, fun _ _ _ => rfl⟩
   exact ⟨v, r1, v, { g' with kp := fun _ => False }, d, σ', rfl, t1, (⟨q2.ok, q2.β, q2.ow, q2.cell, q2.pr, q2.it, q2.mp, fun b q => q.elim, q2.size⟩ : Ext { g with β := fun _ => none, ow := fun _ => none, kp := fun _ => False } w { g' with kp := fun _ => False } w').trans t2, (r2.sub hsub).ext t2, hdu, hds⟩
  rcases hex with rfl | rfl <;> exact fin
 refine hcalls.mono ?_
 rintro e w' ⟨v, g', d, σ', rfl, q1, q2, q3, q4, q5⟩
 have hb' : Below w.heap.size w w' := RW.below q1
 have q6 := q3.free q4 { g' with β := g.β, ow := g.ow, mp := g.mp, kp := g.kp } ⟨fun _ _ q => q, fun _ q => q, fun _ _ q => q⟩
 rw [q5] at q6
 refine ⟨v, { g' with β := g.β, ow := g.ow, mp := g.mp, kp := g.kp }, rfl, hb', ⟨rfl, rfl, rfl, rfl, q2.ok, fun b o q => ?_, fun b q => (q2.pr b q).1, fun b q => ?_, q2.it, fun v L q => RW.iter q1 v L q⟩, q6⟩
 ·rcases RW.okb q1 b o q with q | q
  ·exact .inl q.2
  ·exact .inr q
 ·rcases Nat.lt_or_ge b w.heap.size with q' | q'
  ·exact .inl (RW.prb q1 b q' q)
  ·exact .inr ⟨q', (RW.prot q1 b q).1⟩


theorem S_skip {P : Program} {B : Nat} {σ : St} {Q : Ex → St → Prop} (h : Q .normal σ) : S P B .skip σ Q := by
 intro base w0 ok0 gs ws ds T g a w hβ hsz hrel hext hmk hT
 exact wpIn_skip (hT .normal σ _ _ _ h hrel hext hmk)
section
variable {P : Program} {B : Nat} {σ : St} {Q : Ex → St → Prop} {x y : Code}
theorem S_ret (h : Q .ret σ) : S P B .ret σ Q := by
 intro base w0 ok0 gs ws ds T g a w hβ hsz hrel hext hmk hT
 exact wpIn_ret (hT .ret σ _ _ _ h hrel hext hmk)
theorem S_exit {id : Nat} (h : Q (.exit id) σ) : S P B (.exit id) σ Q := by
 intro base w0 ok0 gs ws ds T g a w hβ hsz hrel hext hmk hT
 exact wpIn_exit (hT (.exit id) σ _ _ _ h hrel hext hmk)
theorem S_true {t : Nat} (hc : ev σ.fr (.tmp t) = .bool true) (h : S P B x σ Q) : S P B (.cond (.tmp t) x y) σ Q := by
 intro base w0 ok0 gs ws ds T g a w hβ hsz hrel hext hmk hT
 have hv := ev_val hrel.fr hrel.len (.tmp t) (.inr ⟨t, rfl⟩)
 rw [hc] at hv
 exact wpIn_cond_true (val_bool hv) (h base w0 ok0 gs ws ds T g a w hβ hsz hrel hext hmk hT)
theorem S_false {t : Nat} (hc : ev σ.fr (.tmp t) = .bool false) (h : S P B y σ Q) : S P B (.cond (.tmp t) x y) σ Q := by
 intro base w0 ok0 gs ws ds T g a w hβ hsz hrel hext hmk hT
 have hv := ev_val hrel.fr hrel.len (.tmp t) (.inr ⟨t, rfl⟩)
 rw [hc] at hv
 exact wpIn_cond_false (val_bool hv) (h base w0 ok0 gs ws ds T g a w hβ hsz hrel hext hmk hT)
theorem S_ite {t : Nat} {b : Bool} (hc : ev σ.fr (.tmp t) = .bool b) (h1 : b = true → S P B x σ Q) (h2 : b = false → S P B y σ Q) : S P B (.cond (.tmp t) x y) σ Q := by
 cases b with
 | true => exact S_true hc (h1 rfl)
 | false => exact S_false hc (h2 rfl)
theorem S_block {id : Nat} (h : S P B x σ (InBlock id Q)) : S P B (.block id x) σ Q := by
 intro base w0 ok0 gs ws ds T g a w hβ hsz hrel hext hmk hT
 refine wpIn_block ?_
 refine h base w0 ok0 gs ws ds _ g a w hβ hsz hrel hext hmk (fun e σ' a' w' g' q r1 r2 r3 => ?_)
 cases e with
 | normal => exact hT .normal σ' a' w' g' q r1 r2 r3
 | ret => exact hT .ret σ' a' w' g' q r1 r2 r3
 | exit j =>
  show if j = id then T .normal a' w' else T (.exit j) a' w'
  simp only [InBlock] at q
  by_cases hj : j = id
  ·rw [if_pos hj] at q ⊢; exact hT .normal σ' a' w' g' q r1 r2 r3
  ·rw [if_neg hj] at q ⊢; exact hT (.exit j) σ' a' w' g' q r1 r2 r3
theorem S_loop (I : Nat → St → Prop) (hI : ∀ n σ, I n σ → S P B x σ (Round I n Q)) (n : Nat) (h : I n σ) : S P B (.loop x) σ Q := by
 intro base w0 ok0 gs ws ds T g a w hβ hsz hrel hext hmk hT
 have rounds : ∀ (N n : Nat) (σ : St) (g : Gh) (a : Act) (w : World), n < N → I n σ → ws.heap.size ≤ w.heap.size → Rel P base w0 ok0 g σ a w → Ext gs ws g w → Marks ws.heap.size g w ds a.defers → Code.roundsIn (fence none) 0 P x T N a w := by
  intro N
  induction N with
  | zero => intro n σ g a w hlt; omega
  | succ N ih =>
   intro n σ g a w hlt hi hsz hrel hext hmk
   show x.wpIn (fence none) 0 P (Exit.then (Code.roundsIn (fence none) 0 P x T N) T) a w
   refine hI n σ hi base w0 ok0 gs ws ds _ g a w hβ hsz hrel hext hmk (fun e σ' a' w' g' q r1 r2 r3 => ?_)
   cases e with
   | normal =>
    obtain ⟨m, hm, q⟩ := q
    exact ih m σ' g' a' w' (by omega) q r2.size r1 r2 r3
   | ret => exact hT .ret σ' a' w' g' q r1 r2 r3
   | exit id => exact hT (.exit id) σ' a' w' g' q r1 r2 r3
 exact wpIn_loop_rounds (n + 1) (rounds (n + 1) n σ g a w (by omega) h hsz hrel hext hmk)
end

theorem cal_ok {E : Env} (hE : E.Ok) {base : Nat} {w0 : World} {ok0 : Gh} : CallOk E.P base w0 ok0 (cal E) := by
 intro k args σ d σ' h
 obtain ⟨n, hn⟩ := cal_lim h
 exact call_ok hE (code_ok hE n) k args σ d σ' hn

/-- operations one after another, some of them by hand -/
def SWp (P : Program) (ops : Array Oper) (o : Oper) (σ σ' : St) : Prop := ∀ (base : Nat) (w0 : World) (ok0 g : Gh) (a : Act) (w : World) (ro : Option Nat) (n : Nat) (Q : Exit → Act → World → Prop) (K : Act → World → Prop), Rel P base w0 ok0 g σ a w →
 (∀ a' w' g', Rel P base w0 ok0 g' σ' a' w' → Ext g w g' w' → a'.defers = a.defers → K a' w') →
 if Region.wanted o (yielded ops a.tmps) then o.wpIn (fence ro) n P a w K Q else (∀ f, o.about P w a.eval = some f → (fence ro).fn f) ∧ K (a.put o.dst undef) w
def LWp (P : Program) (ops : Array Oper) (l : List Oper) (σ σ' : St) : Prop := ∀ (base : Nat) (w0 : World) (ok0 g : Gh) (a : Act) (w : World) (ro : Option Nat) (n : Nat) (Q : Exit → Act → World → Prop), Rel P base w0 ok0 g σ a w →
 (∀ a' w' g', Rel P base w0 ok0 g' σ' a' w' → Ext g w g' w' → a'.defers = a.defers → Q .normal a' w') → wpListIn (fence ro) n P ops Q l a w
section
variable {P : Program} {ops : Array Oper} {o : Oper} {l r : List Oper} {σ σ1 σ' : St}
theorem LWp_nil : LWp P ops [] σ σ := fun _ _ _ g a w _ _ _ h hK => hK a w g h (Ext.refl _ _) rfl
theorem LWp_cons (h1 : SWp P ops o σ σ1) (h2 : LWp P ops r σ1 σ') : LWp P ops (o :: r) σ σ' := by
 intro base w0 ok0 g a w ro n Q h hK
 unfold wpListIn
 exact h1 base w0 ok0 g a w ro n Q _ h (fun a1 w1 g1 q1 q2 q3 => h2 base w0 ok0 g1 a1 w1 ro n Q q1 (fun a' w' g' r1 r2 r3 => hK a' w' g' r1 (q2.trans r2) (r3.trans q3)))
theorem SWp_op {E : Env} (hE : E.Ok) (hok : opOk o = true) (h : astep E.P (cal E) ops.toList σ o = some σ') : SWp E.P ops o σ σ' := fun _ _ _ _ _ _ _ _ _ _ hr hK => step_wp (cal_ok hE) hr hok h hK
/-- an operation by hand -/
theorem SWp_hand {d : D} (hw : awant ops.toList σ.fr o = true) (hnd : ∀ c, o.op ≠ .defer c) (hf : σ1.fr = σ.fr) (h : ∀ (base : Nat) (w0 : World) (ok0 g : Gh) (a : Act) (w : World), Rel P base w0 ok0 g σ a w → EffOut P base w0 ok0 g a w o d σ1) : SWp P ops o σ (σ1.put o.dst d) := by
 intro base w0 ok0 g a w ro n Q K hr hK
 rw [awant_eq hr ops o, if_pos hw]
 refine ⟨fun f _ => fence_fn ro f, ?_⟩
 rw [Oper.semAt_plain _ _ _ hnd]
 have hdf : ∀ (dst : Option Tmp) (v : Value), (a.put dst v).defers = a.defers := fun dst v => by cases dst <;> rfl
 rcases h base w0 ok0 g a w hr with ⟨v, w1, g1, h1, h2, h3, h4⟩ | ⟨w1, g1, h1, rfl, h2, h3⟩ | ⟨k, vs, h1, h2⟩
 ·rw [h1]
  exact hK _ _ g1 (hr.put h2 hf h3 h4) h3 (hdf _ _)
 ·rw [h1]
  exact hK _ _ g1 (hr.put h2 hf h3 rfl) h3 (hdf _ _)
 ·rw [h1]
  refine ⟨fun e => absurd e (by rw [fence_depth]; simp), (fence_calls h2).mono ?_⟩
  rintro e w1 ⟨v, g1, rfl, q1, q2, q3⟩
  exact hK _ _ g1 (hr.put q1 hf q2 q3) q2 (hdf _ _)
theorem S_reg {B id : Nat} {ops : List Oper} {Q : Ex → St → Prop} (h : LWp P ops.toArray ops σ σ') (hq : Q .normal σ') : S P B (.region id ops.toArray false) σ Q := by
 intro base w0 ok0 gs ws ds T g a w hβ hsz hrel hext hmk hT
 refine wpIn_region_list ?_
 exact h base w0 ok0 g a w none 0 _ hrel (fun a' w' g' q1 q2 q3 => hT .normal σ' a' w' g' hq q1 (hext.trans q2) (hmk.trans q2 hsz (.of_eq q3)))
end

/-- a call, by what the body does; its boxes may be handed back -/
theorem S_calls {P : Program} {B k : Nat} {args : List D} {f : Func} {body : Code} {d : D} {bx bx' : List (List D)} {nx nx' : Nat} {lv lv' : List Nat} (hf : P.funcs[k]? = some f) (hb : f.body = some body) (hB : bx.length ≤ B)
  (h : S P B body (enterSt f args bx nx lv) (fun e τ => (e = .normal ∨ e = .ret) ∧ resD P f τ = some d ∧ τ.bx = bx' ∧ τ.nx = nx' ∧ τ.lv = lv')) {base : Nat} {w0 : World} {ok0 g : Gh} {vs : List Value} {w : World}
  (hr : RW P base w0 ok0 g (fun i => bx[i]?) (fun s => s < nx) (fun s => s ∈ lv) w) (hv : vals w g args vs) :
  Calls P k vs.toArray w fun e w' => ∃ v g', e = .returned v ∧ RW P base w0 ok0 g' (fun i => bx'[i]?) (fun s => s < nx') (fun s => s ∈ lv') w' ∧ Ext g w g' w' ∧ val w' g' d v := by
 refine callsIn_wide.1 (callsIn_of_wp_marks (n := 0) hf hb trivial ?_ rfl)
 refine h base w0 ok0 g w [] _ g _ w (fun i c q => ?_) (Nat.le_refl _) (enter_rel hr hv) (Ext.refl _ _) (.of_eq rfl) (fun e σ' a' w' g' ⟨hex, hd, e1, e2, e3⟩ q1 q2 q3 => ?_)
 ·obtain ⟨cs, hcs⟩ := Option.isSome_iff_exists.1 (RW.dom hr i c q).1
  have := (List.getElem?_eq_some_iff.1 hcs).1
  omega
 obtain ⟨Ds, m1, m2, m3⟩ := q3
 have fin : LeavesInM .wide 0 P f a'.tmps (fun e w' => ∃ v g', e = .returned v ∧ RW P base w0 ok0 g' (fun i => bx'[i]?) (fun s => s < nx') (fun s => s ∈ lv') w' ∧ Ext g w g' w' ∧ val w' g' d v) a'.defers .returning w' := by
  rw [show a'.defers = Ds.map markOf from by rw [m1]; simp]
  refine leaves_marks Ds w' m2 (fun D hD => (m3 D hD).2.2.2) (fun w2 hs => ?_)
  obtain ⟨s1, s2, s3, s4⟩ := hs
  have hcell : ∀ p, w2.cell? p = w'.cell? p := by
   intro p
   by_cases hp : p.block ∈ Ds
   ·unfold World.cell?
    rw [s4 _ hp, (m3 _ hp).2.2.2]
   ·exact World.cell?_of_block (s3 _ hp)
  obtain ⟨v, r1, r2⟩ := resD_sound q1 hcell hd
  have hbs := RW.hbs hr
  have hg2 : RW P base w0 ok0 { g' with kp := g.kp } (fun i => σ'.bx[i]?) (fun s => s < σ'.nx) (fun s => s ∈ σ'.lv) w' := by
   refine RW.turn q1.rs (ok' := g'.ok) (fun _ _ q => q) (fun _ _ q => .inl q) (fun b q => RW.kept q1.rs b (q2.kp b q).1)
  obtain ⟨t1, t2⟩ := hg2.still (w' := w2) ⟨s1.1, s1.2.1, s1.2.2, by omega, fun k hk => s3 k (fun q => by have := (m3 k q).1; omega)⟩ (by omega) (fun i b q => s3 b (fun q' => (RW.kept q1.rs b (m3 b q').2.1).2.1 i q)) (fun s x b hs' hx hb => s3 b (fun q' => (RW.kept q1.rs b (m3 b q').2.1).2.2 s x hs' hx hb))
   (fun b o _ => hcell _) (fun b q => s3 b (fun q' => (m3 b q').2.2.1 q)) (fun b q => s3 b (fun q' => by have h1 := (m3 b q').1; have h2 := (RW.kept hr b q).1; omega))
  have hsub : Sub g' { g' with kp := g.kp } := ⟨fun _ _ q => q, fun _ _ q => q, fun _ _ q => q, fun _ q => q, fun _ _ q => q, fun _ _ _ => rfl⟩
  rw [e1, e2, e3] at t1
  exact ⟨v, r1, v, { g' with kp := g.kp }, rfl, t1, (⟨q2.ok, q2.β, q2.ow, q2.cell, q2.pr, q2.it, q2.mp, fun b q => ⟨q, (q2.kp b q).2⟩, q2.size⟩ : Ext g w { g' with kp := g.kp } w').trans t2, (r2.sub hsub).ext t2⟩
 rcases hex with rfl | rfl <;> exact fin

/-- calls that keep their word, in any memory -/
def CaOk (P : Program) (ca : Nat → List D → St → Option (D × St)) : Prop := ∀ (base : Nat) (w0 : World) (ok0 : Gh), CallOk P base w0 ok0 ca
/-- a region that draws its order, with calls that hand back boxes behind the drawn part -/
theorem S_draw {E : Env} (hE : E.Ok) {ca : Nat → List D → St → Option (D × St)} (hca : CaOk E.P ca) {B id : Nat} {ops : List Oper} {σ σ1 σ' : St} {Q : Ex → St → Prop} (c : Nat) (hc : c ≤ ops.length) (hok : drawOk ops.toArray c = true) (h1 : aops E.P (pcall (fn E)) ops (ops.take c) σ = some σ1) (h2 : aops E.P ca ops (ops.drop c) σ1 = some σ') (hq : Q .normal σ') : S E.P B (.region id ops.toArray true) σ Q := by
 intro base w0 ok0 gs ws ds T g a w hβ hsz hrel hext hmk hT
 have hp : PCallOk E.P (fn E) := fun k args d h => fn_sound E hE h
 exact draw_wp hE.mixed hp (hca _ _ _) hok (by simpa using hc) hrel (by simpa using h1) (by simpa using h2) (fun a' w' g' q1 q2 q3 => hT .normal σ' a' w' g' hq q1 (hext.trans q2) (hmk.trans q2 hsz (.of_eq q3)))
/-- the same in the form of X_rg, for printed walks -/
theorem S_dg {E : Env} (hE : E.Ok) {ca : Nat → List D → St → Option (D × St)} (hca : CaOk E.P ca) {B id : Nat} {ops : List Oper} {σ : St} {Q : Ex → St → Prop} (c : Nat) (hc : c ≤ ops.length) (hok : drawOk ops.toArray c = true)
  (h : ∀ R : Option St → Prop, (∀ σ1, (∀ R' : Option St → Prop, (∀ σ', Q .normal σ' → R' (some σ')) → R' (aops E.P ca ops (ops.drop c) σ1)) → R (some σ1)) → R (aops E.P (pcall (fn E)) ops (ops.take c) σ)) : S E.P B (.region id ops.toArray true) σ Q := by
 obtain ⟨σ1, h1, h2⟩ := h (fun o => ∃ σ1, o = some σ1 ∧ ∃ σ', aops E.P ca ops (ops.drop c) σ1 = some σ' ∧ Q .normal σ') fun σ1 hq => ⟨σ1, rfl, hq (fun o => ∃ σ', o = some σ' ∧ Q .normal σ') fun σ' q => ⟨σ', rfl, q⟩⟩
 obtain ⟨σ', h3, h4⟩ := h2
 exact S_draw hE hca c hc hok h1 h3 h4
theorem CaOk.cal {E : Env} (hE : E.Ok) : CaOk E.P (cal E) := fun _ _ _ => cal_ok hE

/-- an environment with more contracts, of functions that it does not run -/
def Env.more (E : Env) (x : Nat → List D → Option D) : Env := { E with orc := fun k a => match E.orc k a with | some d => some d | none => if E.fs k then none else x k a }
section
variable {E : Env} {x : Nat → List D → Option D} {ex ex' : Code → St → Option (Ex × St)}
theorem more_ok (hE : E.Ok) (h : ∀ k args d, x k args = some d → d.under 0 = true ∧ d.strip = d ∧ PContract E.P k args d) : (E.more x).Ok := by
 refine ⟨hE.mixed, hE.chk, fun k args d q => ?_⟩
 simp only [Env.more] at q
 split at q
 ·rename_i d' q'
  cases q
  exact hE.orc k args d q'
 ·split at q
  ·cases q
  ·exact h k args d q
theorem more_orc {k : Nat} {args : List D} {d : D} (hp : plain args = true) (hs : args.map D.strip = args) (h0 : E.orc k args = none) (hf : E.fs k = false) (h : x k args = some d) : fn (E.more x) k args = some d := by
 refine fn_orc _ hp ?_
 rw [hs]
 simp only [Env.more, h0, hf]
 exact h
end
/-- an environment with contracts that are told by a relation -/
noncomputable def Env.by (E : Env) (C : Nat → List D → D → Prop) : Env := E.more fun k a => open Classical in if h : ∃ d, C k a d then some h.choose else none
section
variable {E : Env} {C : Nat → List D → D → Prop}
theorem by_ok (hE : E.Ok) (h : ∀ k args d, C k args d → d.under 0 = true ∧ d.strip = d ∧ PContract E.P k args d) : (E.by C).Ok := by
 refine more_ok hE fun k args d q => ?_
 split at q
 ·rename_i h'
  cases q
  exact h k args _ h'.choose_spec
 ·cases q
theorem by_fn {k : Nat} {args : List D} {d : D} (hp : plain args = true) (hs : args.map D.strip = args) (h0 : E.orc k args = none) (hf : E.fs k = false) (h : C k args d) (hu : ∀ d', C k args d' → d' = d) : fn (E.by C) k args = some d := by
 refine more_orc hp hs h0 hf ?_
 have h' : ∃ d, C k args d := ⟨d, h⟩
 rw [dif_pos h', hu _ h'.choose_spec]
end

/-- a row's cells, one element after another -/
theorem fm_len {n : Nat} : ∀ {l : List D}, (∀ d ∈ l, d.cells.length = n) → (l.flatMap D.cells).length = l.length * n
 | [], _ => by simp
 | d :: r, h => by
  rw [List.flatMap_cons, zla, h d List.mem_cons_self, fm_len (fun x hx => h x (List.mem_cons_of_mem _ hx)), zlc, Nat.add_mul]; omega
theorem fm_at {n : Nat} : ∀ {l : List D}, (∀ d ∈ l, d.cells.length = n) → ∀ (j : Nat) (hj : j < l.length), ((l.flatMap D.cells).drop (j * n)).take n = (l[j]).cells
 | [], _, j, hj => absurd hj (Nat.not_lt_zero _)
 | d :: r, h, 0, _ => by
  rw [List.flatMap_cons, Nat.zero_mul, zd0, List.getElem_cons_zero, ← h d List.mem_cons_self, List.take_left']; rfl
 | d :: r, h, j + 1, hj => by
  have h1 := h d List.mem_cons_self
  rw [List.flatMap_cons, List.getElem_cons_succ, show (j + 1) * n = d.cells.length + j * n from by rw [h1, Nat.add_mul]; omega, List.drop_append, List.drop_of_length_le (by omega), zna, Nat.add_sub_cancel_left]
  exact fm_at (fun x hx => h x (List.mem_cons_of_mem _ hx)) j (by simpa using hj)
theorem Fz.row {i n len : Nat} {cs l : List D} (hcs : cs = l.flatMap D.cells) (hl : l.length = len) (hn : 0 < n) (h : ∀ d ∈ l, d.cells.length = n) : Fz i cs (.bsl i 0 n len) (.slice .imm n l) := by
 subst hcs
 refine .bsl 0 n len l hl hn (fun j hj => ?_) (by rw [fm_len h, Nat.zero_add, hl]; exact Nat.le_refl _)
 rw [Nat.zero_add, fm_at h j hj]
theorem Fz.cell {i n off k ln : Nat} {cs l : List D} (hcs : cs = l.flatMap D.cells) (hoff : off = k * n) (hk : k < l.length) (h : ∀ d ∈ l, d.cells.length = n) : Fz i cs (.bsl i off 0 ln) (.elem l[k]) := by
 subst hcs hoff
 refine .bpt _ _ n _ (fm_at h k hk).symm ?_
 rw [fm_len h, ← Nat.succ_mul]
 exact Nat.mul_le_mul_right _ hk
theorem gd_bsl (i off n len : Nat) : D.good (.bsl i off n len) = true := rfl
theorem ia_bsl (i off n len : Nat) : D.isAgg (.bsl i off n len) = false := rfl
theorem cl_bsl (i off n len : Nat) : D.cells (.bsl i off n len) = [.bsl i off n len] := rfl

end Go.Proofs.Ytmglacjcefajlaa
