import Derived.Test.YtlpgapmbajblmaaAmZ
import Derived.Maps.RangeRun
/- A range over a map that a box holds, whose body only reads and never leaves the loop. Over any program. -/
namespace Go.Proofs.Ytlpgapmbajblmaa
open Go.RowKit Go.ChangeMaps

/-- operations that read, one after another -/
def readsD (P : Program) : List Oper → St → Option St
 | [], σ => some σ
 | o :: r, σ => match aop P (ev σ.fr) (fun i => σ.bx[i]?) o with
  | some d => readsD P r (σ.put o.dst d)
  | none => none
section
variable {P : Program} {base : Nat} {w0 : World} {ok0 g : Gh} {σ : St} {a : Act} {w : World} {ro : Option Nat} {n : Nat} {ops : Array Oper} {Q : Exit → Act → World → Prop} {K : Act → World → Prop}
theorem op_run {o : Oper} (hr : Rel P base w0 ok0 g σ a w) (hg : o.guard = none) (hnd : ∀ c, o.op ≠ .defer c) {v : Value} {w1 : World}
  (h1 : (execOp a.eval o).run P w = .ok (.value v) w1) (hK : K (a.put o.dst v) w1) : if Region.wanted o (yielded ops a.tmps) then o.wpIn (fence ro) n P a w K Q else (∀ f, o.about P w a.eval = some f → (fence ro).fn f) ∧ K (a.put o.dst undef) w := by
 rw [awant_eq hr ops o, if_pos (by unfold awant; rw [hg])]
 refine ⟨fun f _ => fence_fn ro f, ?_⟩
 rw [Oper.semAt_plain _ _ _ hnd, h1]
 exact hK
theorem put_other {a : Act} {o : Option Tmp} {v : Value} {s : Nat} (h : o ≠ some s) : (a.put o v).tmps[s]? = a.tmps[s]? := by
 cases o with
 | none => rfl
 | some t =>
  show (a.tmps.setIfInBounds t v)[s]? = _
  exact Array.getElem?_setIfInBounds_ne (fun e => h (by rw [e]))
theorem put_defers {a : Act} {o : Option Tmp} {v : Value} : (a.put o v).defers = a.defers := by cases o <;> rfl
/-- they run so -/
theorem reads_run {r : List Oper} (s : Nat) : ∀ {l : List Oper} {σ σ' : St} {a : Act}, (∀ o ∈ l, o.guard = none ∧ opOk o = true ∧ o.dst ≠ some s) → readsD P l σ = some σ' → Rel P base w0 ok0 g σ a w →
  (∀ a', Rel P base w0 ok0 g σ' a' w → a'.tmps[s]? = a.tmps[s]? → a'.defers = a.defers → wpListIn (fence ro) n P ops Q r a' w) → wpListIn (fence ro) n P ops Q (l ++ r) a w
 | [], σ, σ', a, _, h, hr, hK => by cases h; exact hK a hr rfl rfl
 | o :: l, σ, σ', a, hall, h, hr, hK => by
  obtain ⟨h1, h2, h3⟩ := hall o List.mem_cons_self
  rw [zca]
  unfold wpListIn
  unfold readsD at h
  split at h
  ·rename_i d hd
   obtain ⟨v, q1, q2⟩ := aop_sound (hr.ev h2) (RW.boxesAt hr.rs) hd
   have hnd : ∀ c, o.op ≠ .defer c := fun c e => by unfold opOk at h2; rw [e] at h2; simp at h2
   refine op_run hr h1 hnd q1 ?_
   refine reads_run s (fun o' ho' => hall o' (List.mem_cons_of_mem _ ho')) h (hr.put hr.rs rfl (Ext.refl _ _) q2) (fun a' x1 x2 x3 => hK a' x1 (x2.trans (put_other h3)) (x3.trans put_defers))
  ·cases h
end
section
variable {P : Program} {base : Nat} {w0 : World} {ok0 g : Gh} {σ : St} {a : Act} {w : World} {ro : Option Nat} {n : Nat} {ops : Array Oper} {Q : Exit → Act → World → Prop}
theorem reads_run0 (s : Nat) {l : List Oper} {σ σ' : St} {a : Act} (hall : ∀ o ∈ l, o.guard = none ∧ opOk o = true ∧ o.dst ≠ some s) (h : readsD P l σ = some σ') (hr : Rel P base w0 ok0 g σ a w)
  (hK : ∀ a', Rel P base w0 ok0 g σ' a' w → a'.tmps[s]? = a.tmps[s]? → a'.defers = a.defers → Q .normal a' w) : wpListIn (fence ro) n P ops Q l a w := by
 have h2 := reads_run (ro := ro) (n := n) (ops := ops) (Q := Q) (r := []) s hall h hr (fun a' x1 x2 x3 => hK a' x1 x2 x3)
 rwa [List.append_nil] at h2
end
theorem val1_of {w : World} {g : Gh} {d : D} {v : Value} (h : R w g d [v]) (ha : d.isAgg = false) : val1 w g d v := ⟨[v], h, by cases d <;> first | rfl | (cases ha)⟩
theorem ent_key (es : Array MapEntry) {j : Nat} (h : j < es.size) : ent es (2 * j) = es[j].key ∧ ent es (2 * j + 1) = es[j].val := by
 unfold ent
 rw [show 2 * j / 2 = j from by omega, show (2 * j + 1) / 2 = j from by omega, show 2 * j % 2 = 0 from by omega, show (2 * j + 1) % 2 = 1 from by omega, Array.getElem?_eq_getElem h]
 exact ⟨rfl, rfl⟩
/-- an iterator in block r, over the map in block b -/
structure ItAt (g : Gh) (lv : List Nat) (w : World) (r b : Nat) (es : Array MapEntry) (clock : Nat) (seen : Array Nat) : Prop where
 ok : ∀ o, ¬ g.ok r o
 pr : ¬ g.pr r
 kp : ¬ g.kp r
 nb : ∀ i, g.β i ≠ some r
 rw : ∀ s x, s ∈ lv → g.ow s = some x → x.1.ownBlock ≠ some r
 bh : w.heap[b]? = some (.map es clock)
 it : ∃ since c0, w.heap[r]? = some (.mapIter (some b) since seen c0) ∧ since ≤ c0 ∧ since ≤ clock ∧ ∀ x ∈ es.toList, x.born < since

/-- what the operations of such a loop must be -/
def okB (s : Nat) (l : List Oper) : Bool := l.all fun o => o.guard.isNone && opOk o && decide (o.dst ≠ some s)
theorem okB_iff {s : Nat} {l : List Oper} (h : okB s l = true) : ∀ o ∈ l, o.guard = none ∧ opOk o = true ∧ o.dst ≠ some s := fun o ho => by
 have := List.all_eq_true.1 h o ho
 simp only [zat, Option.isNone_iff_eq_none, decide_eq_true_eq] at this
 exact ⟨this.1.1, this.1.2, this.2⟩
set_option maxHeartbeats 1000000 in
/-- a range over a map, in whatever order its entries come; each round reads and goes on -/
theorem S_mapAll {P : Program} {B r0 id1 r1 id2 r2 r3 it t1 t2 t3 t9 i : Nat} {t kt et : TypeId} {x0 : Tmp} {pre es body : List Oper} {oR oN oX oE : Oper} {X : Code} {σ σ1 : St} {cs : List D} {Q : Ex → St → Prop}
  (hR : oR.op = .range t (.tmp x0)) (hRd : oR.dst = some it) (hRg : oR.guard = none)
  (hN : oN.op = .next (.tmp it) false) (hNd : oN.dst = some t1) (hNg : oN.guard = none)
  (hE : oE.op = .entry (.tmp it)) (hEd : oE.dst = some t3) (hEg : oE.guard = none) (hd1 : t1 ≠ it) (hd3 : t3 ≠ it)
  (hpr' : okB it pre = true) (hox' : okB it [oX] = true) (hes' : okB it es = true) (hbo' : okB it body = true)
  (hut : P.underlying t = some (.map kt et)) (hag : ∀ d ∈ cs, d.isAgg = false)
  (hpre : readsD P pre σ = some σ1) (hm : ev σ1.fr (.tmp x0) = .mref i) (hi : σ1.bx[i]? = some cs) (hit : it < σ1.fr.length)
  (F : (Nat → D) → List D) (h0 : ∃ y, (σ1.put (some it) .any).fr = F y)
  (hround : ∀ y j (hj : 2 * j + 1 < cs.length), ∃ σ2 σ3 σ4 y', readsD P [oX] { σ1 with fr := (F y).set t1 (.tup [.bool true, cs[2 * j], cs[2 * j + 1]]) } = some σ2 ∧ ev σ2.fr (.tmp t2) = .bool true ∧ readsD P es (σ2.put (some t3) (.tup [cs[2 * j], cs[2 * j + 1]])) = some σ3 ∧ readsD P body σ3 = some σ4 ∧ ev σ4.fr (.tmp t9) = .bool false ∧ σ4 = { σ1 with fr := F y' })
  (hdone : ∀ y, ∃ σ2, readsD P [oX] { σ1 with fr := (F y).set t1 (.tup [.bool false]) } = some σ2 ∧ ev σ2.fr (.tmp t2) = .bool false ∧ Q .normal σ2) :
  S P B (.seq (.region r0 (pre ++ [oR]).toArray false) (.block id1 (.loop (.seq (.region r1 [oN, oX].toArray false) (.seq (.cond (.tmp t2) .skip (.exit id1)) (.block id2 (.seq (.region r2 (oE :: es).toArray false) (.seq (.region r3 body.toArray false) (.cond (.tmp t9) X .skip))))))))) σ Q := by
 have hpr := okB_iff hpr'
 have hox := okB_iff hox'
 have hes := okB_iff hes'
 have hbo := okB_iff hbo'
 intro base w0 ok0 gs ws ds T g a w hβ hsz hrel hext hmk hT
 refine wpIn_seq ?_
 refine wpIn_region_list ?_
 refine reads_run (r := [oR]) it hpr hpre hrel (fun a1 q1 _ q3 => ?_)
 have hv := ev_val q1.fr q1.len (.tmp x0) (.inr ⟨x0, rfl⟩)
 rw [hm] at hv
 obtain ⟨us, hvr, hve⟩ := hv
 cases hvr with
 | mref _ b hb hmp =>
 have hve' : a1.eval (.tmp x0) = .map (some b) := hve
 have hbox := RW.box q1.rs i cs b hi hb
 rw [hmp] at hbox
 obtain ⟨ents, clock, hh, hl, _, hdat, hs⟩ := hbox
 unfold wpListIn
 refine op_run q1 hRg (fun c e => by rw [hR] at e; cases e) (v := .pointer (some ⟨w.heap.size, 0, none⟩)) (w1 := w.alloc (.mapIter (some b) clock #[] clock)) (by simp [execOp, hR, hve', run_range_map w t kt et b ents clock hut hh, Result.andThen]) ?_
 obtain ⟨r, hr⟩ : ∃ r, r = w.heap.size := ⟨_, rfl⟩
 have hbase : base ≤ r := by rw [hr]; exact RW.hbs q1.rs
 rw [← hr, hRd]
 have hbel : Below w.heap.size w (w.alloc (.mapIter (some b) clock #[] clock)) := (Below.refl _ w).alloc (Nat.le_refl _) _
 obtain ⟨k1, k2⟩ := RW.grow q1.rs hbel (ok' := g.ok) (fun _ _ q => q) (fun _ _ q => .inl q)
 have k2' : Ext g w g (w.alloc (.mapIter (some b) clock #[] clock)) := k2
 have k1' : RS P base w0 ok0 g σ1 (w.alloc (.mapIter (some b) clock #[] clock)) := k1
 have hrel2 : Rel P base w0 ok0 g (σ1.put (some it) .any) (a1.put (some it) (.pointer (some ⟨r, 0, none⟩))) (w.alloc (.mapIter (some b) clock #[] clock)) := q1.put k1' rfl k2' (val_of_R (.any _ rfl (fun b q => by cases q)) rfl)
 have hpt : (a1.put (some it) (.pointer (some ⟨r, 0, none⟩))).tmps[it]? = some (.pointer (some ⟨r, 0, none⟩)) := by
  show (a1.tmps.setIfInBounds it _)[it]? = _
  rw [Array.getElem?_setIfInBounds_self_of_lt (by rw [← q1.len]; exact hit)]
 have hnew : (w.alloc (.mapIter (some b) clock #[] clock)).heap[r]? = some (.mapIter (some b) clock #[] clock) := by rw [hr]; exact heap_alloc_new w _
 have hit3 : ItAt g σ1.lv (w.alloc (.mapIter (some b) clock #[] clock)) r b ents clock #[] := by
  refine ⟨fun o q => ?_, fun q => ?_, fun q => ?_, fun i q => ?_, fun s x hs hx q => ?_, (hbel.block b (RW.dom q1.rs i b hb).2.2.1).trans hh, ⟨clock, clock, hnew, Nat.le_refl _, Nat.le_refl _, hs.1⟩⟩
  ·have := RW.ok_lt q1.rs q; omega
  ·have := (RW.prot q1.rs r q).1; omega
  ·have := (RW.kept q1.rs r q).1; omega
  ·have := (RW.dom q1.rs i r q).2.2.1; omega
  ·obtain ⟨v2, e2, len, ys, x1, x2, _⟩ := RW.row q1.rs s hs
   rw [hx] at x1
   cases x1
   have := (x2.lt r q).2; omega
 have hdat3 : ∀ (j : Nat) (h : j < cs.length), R (w.alloc (.mapIter (some b) clock #[] clock)) g cs[j] [ent ents j] := fun j h => (hdat j h).ext k2'
 have hext2 : Ext gs ws g (w.alloc (.mapIter (some b) clock #[] clock)) := hext.trans k2'
 have hmk2 : Marks ws.heap.size g (w.alloc (.mapIter (some b) clock #[] clock)) ds (a1.put (some it) (.pointer (some ⟨r, 0, none⟩))).defers := hmk.trans k2' hsz (.of_eq (by rw [put_defers]; exact q3))
 obtain ⟨y0, hy0⟩ := h0
 have hst0 : σ1.put (some it) .any = { σ1 with fr := F y0 } := by rw [← hy0]; rfl
 rw [hst0] at hrel2
 have hsz2 : ws.heap.size ≤ (w.alloc (.mapIter (some b) clock #[] clock)).heap.size := by simp; omega
 clear hdat k1 k1' hbel
 unfold wpListIn
 refine wpIn_block ?_
 have rounds : ∀ (N : Nat) (seen : Array Nat) (y : Nat → D) (a : Act) (w : World), (leftOf ents seen).size < N → ws.heap.size ≤ w.heap.size → Rel P base w0 ok0 g { σ1 with fr := F y } a w → a.tmps[it]? = some (.pointer (some ⟨r, 0, none⟩)) → Ext gs ws g w → Marks ws.heap.size g w ds a.defers → ItAt g σ1.lv w r b ents clock seen → (∀ (j : Nat) (h : j < cs.length), R w g cs[j] [ent ents j]) →
   Code.roundsIn (fence none) 0 P (.seq (.region r1 [oN, oX].toArray false) (.seq (.cond (.tmp t2) .skip (.exit id1)) (.block id2 (.seq (.region r2 (oE :: es).toArray false) (.seq (.region r3 body.toArray false) (.cond (.tmp t9) X .skip)))))) (Exit.inBlock id1 T) N a w := by
  intro N
  induction N with
  | zero => intro seen y a w hlt; omega
  | succ N ih =>
   intro seen y a w hlt hsz hrel hat hext hmk hit hdat
   show Code.wpIn (fence none) 0 P _ (Exit.then (Code.roundsIn (fence none) 0 P _ (Exit.inBlock id1 T) N) (Exit.inBlock id1 T)) a w
   have hpv : ∀ a' : Act, a'.tmps[it]? = some (.pointer (some ⟨r, 0, none⟩)) → a'.eval (.tmp it) = .pointer (some ⟨r, 0, none⟩) := fun a' h => by
    show a'.tmps.getD it undef = _
    rw [Array.getD_eq_getD_getElem?, h]; rfl
   refine wpIn_seq ?_
   refine wpIn_region_list ?_
   show wpListIn _ _ _ _ _ [oN, oX] a w
   unfold wpListIn
   obtain ⟨since, c0, hri, hsc, hsk, hold⟩ := hit.it
   rcases run_next_at (P := P) w oN.type r b since c0 seen ents clock hri hit.bh hold hsc with ⟨hz, hrun⟩ | ⟨e, he, w2, hal, hrun⟩
   ·-- nothing is left
    refine op_run hrel hNg (fun c e => by rw [hN] at e; cases e) (v := .tuple #[.bool false]) (w1 := w) (by simp [execOp, hN, hpv a hat, hrun, Result.andThen]) ?_
    rw [hNd]
    have hrel4 : Rel P base w0 ok0 g { σ1 with fr := (F y).set t1 (.tup [.bool false]) } (a.put (some t1) (.tuple #[.bool false])) w := Rel.put (d := .tup [.bool false]) (dst := some t1) (v := .tuple #[.bool false]) hrel hrel.rs rfl (Ext.refl _ _) ⟨[.bool false], rfl, rfl, fun j h1 h2 => by
     have : j = 0 := by simp at h1; omega
     subst this
     exact ⟨[.bool false], .bool false, rfl⟩⟩
    obtain ⟨σ2, e1, e2, e3⟩ := hdone y
    refine reads_run0 it hox e1 hrel4 (fun a2 x1 _ x3 => ?_)
    show Code.wpIn _ _ _ _ _ _ _
    refine wpIn_seq ?_
    have hv2 := ev_val x1.fr x1.len (.tmp t2) (.inr ⟨t2, rfl⟩)
    rw [e2] at hv2
    refine wpIn_cond_false (val_bool hv2) ?_
    refine wpIn_exit ?_
    show if id1 = id1 then T .normal a2 w else T (.exit id1) a2 w
    rw [if_pos rfl]
    exact hT .normal σ2 a2 w g e3 x1 hext (hmk.trans (Ext.refl _ _) hsz (.of_eq (x3.trans put_defers)))
   ·-- an entry has come
    obtain ⟨hem, hes'⟩ := mem_left he
    obtain ⟨j, hj, rfl⟩ : ∃ j, ∃ h : j < ents.size, ents[j] = e := by
     obtain ⟨j, hj, q⟩ := List.getElem_of_mem hem
     exact ⟨j, by simpa using hj, by simpa using q⟩
    have hj2 : 2 * j + 1 < cs.length := by omega
    refine op_run hrel hNg (fun c e => by rw [hN] at e; cases e) (v := .tuple #[.bool true, ents[j].key, ents[j].val]) (w1 := setBlock w2 r (.mapIter (some b) since (seen.push ents[j].born) clock)) (by simp [execOp, hN, hpv a hat, hrun, Result.andThen]) ?_
    rw [hNd]
    -- the iterator's block has turned
    have hw2h : w2.heap = w.heap := by rcases hal with rfl | rfl <;> rfl
    have hset := MapKept.heap_set (o' := .mapIter (some b) since (seen.push ents[j].born) clock) (show w2.heap[r]? = _ by rw [hw2h]; exact hri)
    have hsame : ∀ c, c ≠ r → (setBlock w2 r (.mapIter (some b) since (seen.push ents[j].born) clock)).heap[c]? = w.heap[c]? := fun c hc => by
     show (w2.heap.setIfInBounds r _)[c]? = _
     rw [hset.2 c hc, hw2h]
    have hself : (setBlock w2 r (.mapIter (some b) since (seen.push ents[j].born) clock)).heap[r]? = some (.mapIter (some b) since (seen.push ents[j].born) clock) := hset.1
    have hsz3 : (setBlock w2 r (.mapIter (some b) since (seen.push ents[j].born) clock)).heap.size = w.heap.size := by
     show (w2.heap.setIfInBounds r _).size = _
     simp [hw2h]
    obtain ⟨w3, hw3⟩ : ∃ w3, w3 = setBlock w2 r (.mapIter (some b) since (seen.push ents[j].born) clock) := ⟨_, rfl⟩
    have hbel : Below base w w3 := by
     rw [hw3]
     refine ⟨by rcases hal with rfl | rfl <;> rfl, by rcases hal with rfl | rfl <;> rfl, by rcases hal with rfl | rfl <;> rfl, by rw [hsz3]; exact Nat.le_refl _, fun k hk => hsame k (by omega)⟩
    rw [← hw3] at hsame hself hsz3 ⊢
    have hbr : b ≠ r := fun q => by have := hit.bh; rw [q, hri] at this; cases this
    obtain ⟨t5, x5⟩ := RW.still hrel.rs hbel (by omega) (fun i c q => hsame c (fun e => hit.nb i (e ▸ q))) (fun s x c hs hx hc => hsame c (fun e => hit.rw s x hs hx (e ▸ hc))) (fun c o q => World.cell?_of_block (hsame c (fun e => hit.ok o (e ▸ q)))) (fun c q => hsame c (fun e => hit.pr (e ▸ q))) (fun c q => hsame c (fun e => hit.kp (e ▸ q)))
    have hdat3 : ∀ (k : Nat) (h : k < cs.length), R w3 g cs[k] [ent ents k] := fun k h => (hdat k h).ext x5
    obtain ⟨e1, e2⟩ := ent_key ents hj
    have hk1 : val1 w3 g cs[2 * j] ents[j].key := by
     have h1 := hdat3 (2 * j) (by omega)
     rw [e1] at h1
     exact val1_of h1 (hag _ (List.getElem_mem _))
    have hk2 : val1 w3 g cs[2 * j + 1] ents[j].val := by
     have h2 := hdat3 (2 * j + 1) hj2
     rw [e2] at h2
     exact val1_of h2 (hag _ (List.getElem_mem _))
    have hrel4 : Rel P base w0 ok0 g { σ1 with fr := (F y).set t1 (.tup [.bool true, cs[2 * j], cs[2 * j + 1]]) } (a.put (some t1) (.tuple #[.bool true, ents[j].key, ents[j].val])) w3 := Rel.put (d := .tup [.bool true, cs[2 * j], cs[2 * j + 1]]) (dst := some t1) (v := .tuple #[.bool true, ents[j].key, ents[j].val]) hrel t5 rfl x5 (by
     refine ⟨[.bool true, ents[j].key, ents[j].val], rfl, rfl, fun q h1 h2 => ?_⟩
     match q, h1, h2 with
     | 0, _, _ => exact ⟨[.bool true], .bool true, rfl⟩
     | 1, _, _ => exact hk1
     | 2, _, _ => exact hk2
     | q + 3, h1, _ => simp at h1; omega)
    have hitG : ItAt g σ1.lv w3 r b ents clock (seen.push ents[j].born) := ⟨hit.ok, hit.pr, hit.kp, hit.nb, hit.rw, (hsame b hbr).trans hit.bh, ⟨since, clock, hself, hsk, hsk, hold⟩⟩
    obtain ⟨σ2, σ3, σ4, y', f1, f2, f3, f4, f5, f6⟩ := hround y j hj2
    refine reads_run0 it hox f1 hrel4 (fun a2 z1 z2 z3 => ?_)
    show Code.wpIn _ _ _ _ _ _ _
    refine wpIn_seq ?_
    have hv2 := ev_val z1.fr z1.len (.tmp t2) (.inr ⟨t2, rfl⟩)
    rw [f2] at hv2
    refine wpIn_cond_true (val_bool hv2) ?_
    refine wpIn_skip ?_
    show Code.wpIn _ _ _ _ _ _ _
    refine wpIn_block ?_
    refine wpIn_seq ?_
    refine wpIn_region_list ?_
    show wpListIn _ _ _ _ _ (oE :: es) a2 w3
    unfold wpListIn
    have hat2 : a2.tmps[it]? = some (.pointer (some ⟨r, 0, none⟩)) := z2.trans ((put_other (fun q => hd1 (Option.some.inj q))).trans hat)
    refine op_run z1 hEg (fun c e => by rw [hE] at e; cases e) (v := .tuple #[ents[j].key, ents[j].val]) (w1 := w3) (by simp [execOp, hE, hpv a2 hat2, run_entry_at (P := P) w3 r b since seen ents clock ents[j] hself hitG.bh hem hs.2.1, Result.andThen]) ?_
    rw [hEd]
    have hrel5 : Rel P base w0 ok0 g (σ2.put (some t3) (.tup [cs[2 * j], cs[2 * j + 1]])) (a2.put (some t3) (.tuple #[ents[j].key, ents[j].val])) w3 := Rel.put (d := .tup [cs[2 * j], cs[2 * j + 1]]) (dst := some t3) (v := .tuple #[ents[j].key, ents[j].val]) z1 z1.rs rfl (Ext.refl _ _) (by
     refine ⟨[ents[j].key, ents[j].val], rfl, rfl, fun q h1 h2 => ?_⟩
     match q, h1, h2 with
     | 0, _, _ => exact hk1
     | 1, _, _ => exact hk2
     | q + 2, h1, _ => simp at h1; omega)
    have hat3 : (a2.put (some t3) (.tuple #[ents[j].key, ents[j].val])).tmps[it]? = some (.pointer (some ⟨r, 0, none⟩)) := (put_other (fun q => hd3 (Option.some.inj q))).trans hat2
    refine reads_run0 it hes f3 hrel5 (fun a4 y1 y2 y3 => ?_)
    show Code.wpIn _ _ _ _ _ _ _
    refine wpIn_seq ?_
    refine wpIn_region_list ?_
    show wpListIn _ _ _ _ _ body a4 w3
    refine reads_run0 it hbo f4 y1 (fun a5 u1 u2 u3 => ?_)
    show Code.wpIn _ _ _ _ _ _ _
    have hv5 := ev_val u1.fr u1.len (.tmp t9) (.inr ⟨t9, rfl⟩)
    rw [f5] at hv5
    refine wpIn_cond_false (val_bool hv5) ?_
    refine wpIn_skip ?_
    subst f6
    have hdf : a5.defers = a.defers := (u3.trans (y3.trans put_defers)).trans (z3.trans put_defers)
    exact ih (seen.push ents[j].born) y' a5 w3 (by have := left_shrinks ents seen ents[j] he; omega) (by omega) u1 (u2.trans (y2.trans hat3)) (hext.trans x5) (hmk.trans x5 hsz (.of_eq hdf)) hitG hdat3
 exact wpIn_loop_rounds _ (rounds _ #[] y0 _ _ (Nat.lt_succ_self _) hsz2 hrel2 hpt hext2 hmk2 hit3 hdat3)
/-- slots T of a frame, anew -/
def setT (T : List Nat) (y : Nat → D) (fr : List D) : List D := T.foldl (fun l t => l.set t (y t)) fr
theorem setT_get (y : Nat → D) : ∀ (T : List Nat) (fr : List D) (k : Nat), (setT T y fr)[k]? = if k ∈ T then fr[k]?.map (fun _ => y k) else fr[k]?
 | [], fr, k => by simp [setT]
 | t :: T, fr, k => by
  show (setT T y (fr.set t (y t)))[k]? = _
  rw [setT_get y T]
  by_cases e : k = t
  ·subst e
   have h1 : (fr.set k (y k))[k]? = fr[k]?.map (fun _ => y k) := by
    rw [List.getElem?_set]
    simp only [if_true]
    split
    ·rename_i h; rw [List.getElem?_eq_getElem h]; rfl
    ·rename_i h; rw [List.getElem?_eq_none (by omega)]; rfl
   rw [h1, if_pos List.mem_cons_self]
   split
   ·cases fr[k]? <;> rfl
   ·rfl
  ·rw [List.getElem?_set_ne (fun q => e q.symm)]
   simp only [List.mem_cons, e, false_or]
theorem S_mapAllT {P : Program} {B r0 id1 r1 id2 r2 r3 it t1 t2 t3 t9 i : Nat} {t kt et : TypeId} {x0 : Tmp} {es body : List Oper} {o0 oR oN oX oE : Oper} {X : Code} {σ σ1 : St} {cs : List D} {Q : Ex → St → Prop} (T : List Nat) (hT : it ∈ T)
  (hR : oR.op = .range t (.tmp x0)) (hRd : oR.dst = some it) (hRg : oR.guard = none)
  (hN : oN.op = .next (.tmp it) false) (hNd : oN.dst = some t1) (hNg : oN.guard = none)
  (hE : oE.op = .entry (.tmp it)) (hEd : oE.dst = some t3) (hEg : oE.guard = none) (hd1 : t1 ≠ it) (hd3 : t3 ≠ it)
  (hpr' : okB it [o0] = true) (hox' : okB it [oX] = true) (hes' : okB it es = true) (hbo' : okB it body = true)
  (hut : P.underlying t = some (.map kt et)) (hag : ∀ d ∈ cs, d.isAgg = false)
  (hpre : readsD P [o0] σ = some σ1) (hm : ev σ1.fr (.tmp x0) = .mref i) (hi : σ1.bx[i]? = some cs) (hit : it < σ1.fr.length)
  (hround : ∀ (y : Nat → D) j (hj : 2 * j + 1 < cs.length), ∃ σ2 σ3 σ4 y', readsD P [oX] { σ1 with fr := (setT T y σ1.fr).set t1 (.tup [.bool true, cs[2 * j], cs[2 * j + 1]]) } = some σ2 ∧ ev σ2.fr (.tmp t2) = .bool true ∧ readsD P es (σ2.put (some t3) (.tup [cs[2 * j], cs[2 * j + 1]])) = some σ3 ∧ readsD P body σ3 = some σ4 ∧ ev σ4.fr (.tmp t9) = .bool false ∧ σ4 = { σ1 with fr := setT T y' σ1.fr })
  (hdone : ∀ y : Nat → D, ∃ σ2, readsD P [oX] { σ1 with fr := (setT T y σ1.fr).set t1 (.tup [.bool false]) } = some σ2 ∧ ev σ2.fr (.tmp t2) = .bool false ∧ Q .normal σ2) :
  S P B (.seq (.region r0 [o0, oR].toArray false) (.block id1 (.loop (.seq (.region r1 [oN, oX].toArray false) (.seq (.cond (.tmp t2) .skip (.exit id1)) (.block id2 (.seq (.region r2 (oE :: es).toArray false) (.seq (.region r3 body.toArray false) (.cond (.tmp t9) X .skip))))))))) σ Q := by
 refine S_mapAll (pre := [o0]) hR hRd hRg hN hNd hNg hE hEd hEg hd1 hd3 hpr' hox' hes' hbo' hut hag hpre hm hi hit (fun y => setT T y σ1.fr) ⟨fun k => if k = it then .any else (σ1.fr[k]?).getD .undef, ?_⟩ hround hdone
 refine List.ext_getElem? fun k => ?_
 show (σ1.fr.set it .any)[k]? = _
 rw [setT_get]
 by_cases e : k = it
 ·subst e
  rw [if_pos hT, List.getElem?_set_self hit, List.getElem?_eq_getElem hit]
  simp
 ·rw [List.getElem?_set_ne (fun q => e q.symm)]
  split
  ·cases h : σ1.fr[k]? <;> simp []
  ·rfl
end Go.Proofs.Ytlpgapmbajblmaa
