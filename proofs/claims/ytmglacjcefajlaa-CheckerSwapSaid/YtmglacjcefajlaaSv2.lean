/- The law CheckerUpdates: plain facts. -/
import Derived.Test.YtmglacjcefajlaaCk0
import Derived.Test.YtmglacjcefajlaaAmZ
import Derived.Test.YtmglacjcefajlaaCk1
import Derived.Test.YtmglacjcefajlaaSo9
import Derived.Test.YtmglacjcefajlaaSw
namespace Go.Proofs.Ytmglacjcefajlaa
open Go.RowKit
section
variable {c : Int}
end
end Go.Proofs.Ytmglacjcefajlaa

/- Regions with operations by hand, one after another: loads and stores in a row of one's own. Over any program. -/
namespace Go.Proofs.Ytmglacjcefajlaa
open Go.RowKit

/-- what the rest of a region does -/
def LS (P : Program) (ops rest : List Oper) (σ : St) (Q : Ex → St → Prop) : Prop := ∃ σ', LWp P ops.toArray rest σ σ' ∧ Q .normal σ'
section
variable {E : Env} {P : Program} {B id : Nat} {ops rest : List Oper} {o : Oper} {σ σ1 : St} {Q : Ex → St → Prop}
theorem LS_nil (h : Q .normal σ) : LS P ops [] σ Q := ⟨σ, LWp_nil, h⟩
theorem LS_hand (h1 : SWp P ops.toArray o σ σ1) (h2 : LS P ops rest σ1 Q) : LS P ops (o :: rest) σ Q := by
 obtain ⟨σ', h3, h4⟩ := h2
 exact ⟨σ', LWp_cons h1 h3, h4⟩
theorem LWp_front (hE : E.Ok) : ∀ {l r : List Oper} {σ σ1 σ' : St}, l.all opOk = true → aops E.P (cal E) ops l σ = some σ1 → LWp E.P ops.toArray r σ1 σ' → LWp E.P ops.toArray (l ++ r) σ σ'
 | [], _, _, _, _, _, h, k => by cases h; exact k
 | o :: l, r, σ, σ1, σ', hok, h, k => by
  simp only [List.all_cons, zat] at hok
  cases hq : astep E.P (cal E) ops σ o with
  | none => simp only [aops, hq] at h; cases h
  | some σ2 =>
   simp only [aops, hq] at h
   exact LWp_cons (SWp_op hE hok.1 (by simpa using hq)) (LWp_front hE hok.2 h k)
theorem LS_ops (hE : E.Ok) (c : Nat) (hok : (rest.take c).all opOk = true) (h : ∀ R : Option St → Prop, (∀ σ1, LS E.P ops (rest.drop c) σ1 Q → R (some σ1)) → R (aops E.P (cal E) ops (rest.take c) σ)) : LS E.P ops rest σ Q := by
 obtain ⟨σ1, e1, σ', h3, h4⟩ := h (fun x => ∃ σ1, x = some σ1 ∧ LS E.P ops (rest.drop c) σ1 Q) fun σ1 hq => ⟨σ1, rfl, hq⟩
 have := LWp_front hE hok e1 h3
 rw [List.take_append_drop] at this
 exact ⟨σ', this, h4⟩
theorem S_ls (h : LS P ops ops σ Q) : S P B (.region id ops.toArray false) σ Q := by
 obtain ⟨σ', h1, h2⟩ := h
 exact S_reg h1 h2
end
end Go.Proofs.Ytmglacjcefajlaa

/- make([]T, n) as a box, for elements of several cells; slots and boxes that a freezing can turn. Over any program. -/
namespace Go.Proofs.Ytmglacjcefajlaa
open Go.RowKit

section
variable {P : Program} {ops rest : List Oper} {o : Oper} {σ : St} {Q : Ex → St → Prop}
theorem R_rep {w : World} {g : Gh} {ds : List D} {cs : List Value} (h : R w g (.agg ds) cs) : ∀ n : Nat, R w g (.agg ((List.replicate n ds).flatten)) ((List.replicate n cs).flatten)
 | 0 => .agg _ _ rfl (fun j h => absurd h (Nat.not_lt_zero _))
 | n + 1 => by
  rw [zr1, zr1, List.flatten_cons, List.flatten_cons]
  exact R_agg_append h (R_rep h n)
theorem rep_at {α : Type} {l : List α} : ∀ (n j : Nat), ((List.replicate n l).flatten)[j]? = if j < n * l.length then l[j % l.length]? else none
 | 0, j => by rw [if_neg (by omega)]; simp
 | n + 1, j => by
  rw [zr1, List.flatten_cons]
  by_cases h : j < l.length
  ·rw [List.getElem?_append_left h, Nat.mod_eq_of_lt h, if_pos (by rw [Nat.succ_mul]; omega)]
  ·rw [List.getElem?_append_right (by omega), rep_at n (j - l.length), Nat.mod_eq_sub_mod (Nat.le_of_not_lt h)]
   have e : (j - l.length < n * l.length) ↔ (j < (n + 1) * l.length) := by rw [Nat.succ_mul]; omega
   by_cases h2 : j - l.length < n * l.length
   ·rw [if_pos h2, if_pos (e.1 h2)]
   ·rw [if_neg h2, if_neg (fun q => h2 (e.2 q))]
theorem made_flat (z : Array Value) (hz : 0 < z.size) (n : Nat) : (madeCells z (n * z.size)).toList = (List.replicate n z.toList).flatten := by
 apply List.ext_getElem?
 intro j
 rw [rep_at]
 have hm : j % z.size < z.size := Nat.mod_lt _ hz
 by_cases hj : j < n * z.size
 ·rw [if_pos (by simpa using hj)]
  simp [madeCells, hj, hm]
 ·rw [if_neg (by simpa using hj)]
  simp [madeCells, hj]
/-- a row of zeros as a box -/
theorem LS_make {t e : TypeId} {i : TypeInfo} {z : Value} {ds : List D} {s n : Nat} {k : IntKind} (hw : awant ops σ.fr o = true) (ho : o.op = .makeSlice t (.tmp s) (.tmp s)) (hu : P.underlying t = some (.slice e)) (hi : P.info? e = some i) (hz : i.zero = some z) (hzc : ofCells z.cells.toList = some ds) (hsz : z.cells.size = i.size) (hpos : 0 < i.size) (hby : i.bytes ≤ 4096)
  (hv : ev σ.fr (.tmp s) = .int k (n : Int)) (hn : n ≤ 1000000) (hq : LS P ops rest (({ σ with bx := σ.bx ++ [(List.replicate n ds).flatten] } : St).put o.dst (.bsl σ.bx.length 0 i.size n)) Q) : LS P ops (o :: rest) σ Q := by
 refine LS_hand (SWp_hand (σ1 := { σ with bx := σ.bx ++ [(List.replicate n ds).flatten] }) (d := .bsl σ.bx.length 0 i.size n) (by simpa using hw) (fun c q => by rw [ho] at q; cases q) rfl (fun base w0 ok0 g a w hr => ?_)) hq
 have hx := ev_val hr.fr hr.len (.tmp s) (.inr ⟨s, rfl⟩)
 rw [hv] at hx
 have hR0 : R w g (.agg ds) z.cells.toList := ofCells_R hzc
 have hmk : (Instr.makeSlice t (.int k (n : Int)) (.int k (n : Int))).run P w = .ok (.slice (some ⟨w.heap.size, 0, none⟩) n n) (w.alloc (.cells ((List.replicate n z.cells.toList).flatten).toArray e)) := by
  have hmul : i.bytes * n ≤ 4096 * 1000000 := Nat.mul_le_mul hby (by omega)
  have h3 : ((i.bytes * n : Nat) : Int) ≤ 281474976710656 := by omega
  rw [Int.natCast_mul] at h3
  have := run_make (P := P) w t e i z hu hi hz k k n n (by omega) (Int.le_refl _) h3 (by omega)
  rw [this]
  simp only [Int.toNat_natCast]
  rw [← made_flat z.cells (by rw [hsz]; exact hpos), Array.toArray_toList, hsz]
 obtain ⟨g', r1, r2, r3⟩ := RS.box hr.rs (cs := (List.replicate n ds).flatten) (vs := (List.replicate n z.cells.toList).flatten) e (R_rep hR0 n)
 have hxv := (val_int hx).1
 refine .inl ⟨.slice (some ⟨w.heap.size, 0, none⟩) n n, _, g', ?_, r1, r2, ?_⟩
 ·simp only [execOp, ho, hxv]
  refine (show ((do let v ← Instr.makeSlice t (.int k (n : Int)) (.int k (n : Int)); pure (Next.value v)) : Sem Next).run P w = _ from ?_)
  rw [Sem.run_bind, hmk]
  rfl
 ·obtain ⟨b, hb, e1⟩ := val_ptr r3
  have e2 : b = w.heap.size := by simpa using e1.symm
  subst e2
  exact val_of_R (.bsl _ _ _ _ _ n hb.1 hb.2 (Nat.le_refl _) (by omega) (by omega)) rfl
end
/-- slots that a freezing of box i can turn: a row of N elements of n cells -/
def BsN (i n N : Nat) (d : D) : Prop := d.avoid i = true ∨ d = .bsl i 0 n N ∨ ∃ k, k < N ∧ d = .bsl i (k * n) 0 0
theorem BsN.fz {i n : Nat} {l : List D} {d : D} (hn : 0 < n) (h4 : ∀ d ∈ l, d.cells.length = n) (h : BsN i n l.length d) : ∃ d', Fz i (l.flatMap D.cells) d d' := by
 rcases h with h | rfl | ⟨k, hk, rfl⟩
 ·exact ⟨d, .keep d h⟩
 ·exact ⟨_, Fz.row (l := l) rfl rfl hn h4⟩
 ·exact ⟨_, Fz.cell (l := l) (k := k) rfl rfl hk h4⟩
inductive BnL (i n N : Nat) : List D → Prop
 | nil : BnL i n N []
 | cons {d : D} {l : List D} (h : BsN i n N d) (t : BnL i n N l) : BnL i n N (d :: l)
theorem BnL.at {i n N : Nat} {l : List D} (h : BnL i n N l) : ∀ t : Nat, BsN i n N (nthD l t) := by
 induction h with
 | nil => intro t; exact .inl rfl
 | cons h _ ih =>
  intro t
  cases t with
  | zero => exact h
  | succ t => exact ih t
theorem BnL.slot {i n N : Nat} {fr : List D} {bx : List (List D)} {nx : Nat} {lv : List Nat} (h : BnL i n N fr) : ∀ t, BsN i n N (slotOf ⟨fr, bx, nx, lv⟩ t) := h.at
theorem FzB.all {i : Nat} {cs fr : List D} : ∀ {r : List (List D)} {k : Nat}, (∀ c ∈ r, D.avoids i c = true) → FzB i cs fr k r r
 | [], _, _ => .nil _
 | c :: _r, _, h => .keep (h c List.mem_cons_self) (FzB.all fun c hc => h c (List.mem_cons_of_mem _ hc))
end Go.Proofs.Ytmglacjcefajlaa

/- turned at S-level: a copy of a tree whose updates have one kind. -/
namespace Go.Proofs.Ytmglacjcefajlaa
open Go.RowKit
mutual
theorem dN_avoid (i : Nat) : ∀ t : Tr, (dN t).avoid i = true
 | .mk k n s c => by simp only [dN, D.avoid, D.avoids, dNs_avoid i c, Bool.and_true]
theorem dNs_avoid (i : Nat) : ∀ c : List Tr, D.avoids i (dNs c) = true
 | [] => rfl
 | t :: r => by simp only [dNs, D.avoids, dN_avoid i t, dNs_avoid i r, Bool.and_true]
end
theorem dNs_avoid' (i : Nat) (c : List Tr) : D.avoids i (c.map dN) = true := by rw [← dNs_map]; exact dNs_avoid i c
theorem avoids_app (i : Nat) : ∀ l m : List D, D.avoids i (l ++ m) = (D.avoids i l && D.avoids i m)
 | [], m => by simp [D.avoids]
 | d :: l, m => by rw [zca, D.avoids, D.avoids, avoids_app i l m, Bool.and_assoc]
theorem dN_cav (i : Nat) (t : Tr) : D.avoids i (dN t).cells = true := by
 rw [dN_cells]; simp only [sl, D.avoids, D.avoid, dNs_avoid', Bool.and_true]
/-- the cells of a node that make lays -/
def z4 : List D := [.int .u8 0, .int .i64 0, .str ⟨#[]⟩, .slice .nil 0 []]
/-- the cells of the first i kids, turned, and of the rest, laid -/
def rowC (f : Tr → Tr) (l : List Tr) (i : Nat) : List D := ((l.take i).map fun x => dN (f x)).flatMap D.cells ++ (List.replicate (l.length - i) z4).flatten
theorem flat_len4 (f : Tr → Tr) : ∀ l : List Tr, ((l.map fun x => dN (f x)).flatMap D.cells).length = l.length * 4
 | [] => rfl
 | x :: r => by
  have := flat_len4 f r
  rw [zmc, List.flatMap_cons, zla, this, dN_cells]; simp only [zlc, zln]; omega
theorem rep_len4 : ∀ n : Nat, (List.replicate n z4).flatten.length = n * 4
 | 0 => rfl
 | n + 1 => by rw [zr1, List.flatten_cons, zla, rep_len4 n]; simp only [z4, zlc, zln]; omega
theorem rowC_len (f : Tr → Tr) {l : List Tr} {i : Nat} (h : i ≤ l.length) : (rowC f l i).length = l.length * 4 := by
 unfold rowC
 rw [zla, flat_len4, rep_len4, List.length_take, Nat.min_eq_left h]; omega
theorem rowC_zero (f : Tr → Tr) (l : List Tr) : rowC f l 0 = (List.replicate l.length z4).flatten := by unfold rowC; simp
theorem rowC_all (f : Tr → Tr) (l : List Tr) : rowC f l l.length = (l.map fun x => dN (f x)).flatMap D.cells := by unfold rowC; simp
theorem rowC_set (f : Tr → Tr) {l : List Tr} {i : Nat} (h : i < l.length) : (rowC f l i).take (i * 4) ++ (dN (f l[i])).cells ++ (rowC f l i).drop (i * 4 + 4) = rowC f l (i + 1) := by
 have hA : (((l.take i).map fun x => dN (f x)).flatMap D.cells).length = i * 4 := by rw [flat_len4, List.length_take, Nat.min_eq_left (Nat.le_of_lt h)]
 unfold rowC
 rw [List.take_left' hA, ← List.drop_drop, List.drop_left' hA, List.take_succ_eq_append_getElem h, List.map_append, List.flatMap_append, show l.length - i = (l.length - (i + 1)) + 1 from by omega, zr1, List.flatten_cons, zmc, zmn, List.flatMap_cons, List.flatMap_nil, List.append_nil]
 rfl
theorem flat_cav (f : Tr → Tr) (i : Nat) : ∀ l : List Tr, D.avoids i ((l.map fun x => dN (f x)).flatMap D.cells) = true
 | [] => rfl
 | x :: r => by rw [zmc, List.flatMap_cons, avoids_app, dN_cav, flat_cav f i r]; rfl
theorem dN_one {a b : Tr} (h : dN a = dN b) : a = b := by
 have := congrArg toTr h
 rw [toTr_of, toTr_of] at this
 exact Option.some.inj this
theorem zer_node {z : Value} (h : inf_api_Node.zero = some z) : ofCells z.cells.toList = some z4 := by
 have : (inf_api_Node.zero.bind fun z => ofCells z.cells.toList) = some z4 := by kernel_rfl
 rw [h] at this
 exact this
end Go.Proofs.Ytmglacjcefajlaa

/- A region that draws its order, by a state for every set of operations that have come up. Over any program. -/
namespace Go.Proofs.Ytmglacjcefajlaa
open Go.RowKit

theorem S_any {P : Program} (hm : P.follows .mixedOrders = true) {B id : Nat} {ops : Array Oper} {σ : St} {Q : Ex → St → Prop} (st : (Nat → Bool) → St) (h0 : st (fun _ => false) = σ)
    (hb : ∀ j o, ops[j]? = some o → ∀ e ∈ o.after, Region.binds .any e = true → e.on < j)
    (hs : ∀ (L : Nat → Bool) (i : Nat) (o : Oper), ops[i]? = some o → L i = false → (∀ j o, ops[j]? = some o → L j = true → ∀ e ∈ o.after, Region.binds .any e = true → L e.on = true) → (∀ e ∈ o.after, Region.binds .any e = true → L e.on = true) → SWp P ops o (st L) (st (fun j => if j = i then true else L j)))
    (hq : ∀ L : Nat → Bool, (∀ j, j < ops.size → L j = true) → Q .normal (st L)) : S P B (.region id ops true) σ Q := by
  intro base w0 ok0 gs ws ds T g a w hβ hsz hrel hext hmk hT
  obtain ⟨hrel1, hext1⟩ := hrel.drew
  refine wpIn_region_any hm (wpAnyIn_inv (fun listed a' w' => listed.size = ops.size ∧ Closed ops listed ∧ ∃ g', Rel P base w0 ok0 g' (st (fun j => listed.getD j false)) a' w' ∧ Ext g w.drew g' w' ∧ a'.defers = a.defers) ?_ ?_ _ _ _ _ ?_ (by simp))
  · rintro listed a1 w1 i o ⟨hls, hcl, g1, hr1, he1, hd1⟩ hun ho hall
    have hi : i < ops.size := (Array.getElem?_eq_some_iff.1 ho).1
    have hil : i < listed.size := by omega
    have hun' : listed.getD i false = false := by
      simp only [Array.getD_eq_getD_getElem?, Array.getElem?_eq_getElem hil, zgd] at hun ⊢
      exact hun
    have hready : i ∈ Region.ready .any ops listed := mem_ready.2 ⟨hun, o, ho, hall⟩
    have hcl' : Closed ops (listed.setIfInBounds i true) := hcl.set hready
    have hls' : (listed.setIfInBounds i true).size = ops.size := by simpa using hls
    have hfun : (fun j => (listed.setIfInBounds i true).getD j false) = fun j => if j = i then true else listed.getD j false := by
      funext j
      by_cases hj : j = i
      · subst hj
        rw [if_pos rfl]; exact (set_listed (by omega)).2 (.inr rfl)
      · rw [if_neg hj, getD_set_ne false (fun e => hj e.symm)]
    refine hs (fun j => listed.getD j false) i o ho hun' hcl hall base w0 ok0 g1 a1 w1 none 0 _ _ hr1 (fun a' w' g' q1 q2 q3 => ⟨hls', hcl', g', ?_, he1.trans q2, q3.trans hd1⟩)
    rw [hfun]; exact q1
  · rintro listed a1 w1 ⟨hls, hcl, g1, hr1, he1, hd1⟩ hnr
    exact hT .normal _ a1 w1 g1 (hq _ (all_listed' hls hb hnr)) hr1 (hext.trans (hext1.trans he1)) (hmk.trans (hext1.trans he1) hsz (.of_eq hd1))
  · have hnone : ∀ i, (Array.replicate ops.size false).getD i false = false := fun i => by
      rw [Array.getD_eq_getD_getElem?, Array.getElem?_replicate]; split <;> rfl
    refine ⟨by simp, fun j o _ hl => (by rw [hnone j] at hl; cases hl), g, ?_, Ext.refl _ _, rfl⟩
    rw [show (fun j => (Array.replicate ops.size false).getD j false) = fun _ => false from funext hnone, h0]
    exact hrel1
/-- an operation, with calls that hand back boxes -/
theorem SWp_ca {P : Program} {ca : Nat → List D → St → Option (D × St)} (hca : CaOk P ca) {ops : Array Oper} {o : Oper} {σ σ' : St} (hok : opOk o = true) (h : astep P ca ops.toList σ o = some σ') : SWp P ops o σ σ' := fun _ _ _ _ _ _ _ _ _ _ hr hK => step_wp (hca _ _ _) hr hok h hK

end Go.Proofs.Ytmglacjcefajlaa

/- A region that draws its order, whose drawn part only reads and calls: with loads in rows of one's own. Over any program. -/
namespace Go.Proofs.Ytmglacjcefajlaa
open Go.RowKit

/-- an operation of the drawn part: it leaves boxes and rows alone -/
def COp (P : Program) (pc : Nat → List D → Option D) (σ : St) (fr : List D) (o : Oper) (d : D) : Prop :=
 aeff P (pcall pc) { σ with fr := fr } o = some (d, { σ with fr := fr }) ∨
 (∃ t s i off ln, o.op = .load t (.tmp s) ∧ ev fr (.tmp s) = .bsl i off 0 ln ∧ aop P (fun _ => .ptr i off) (fun i => σ.bx[i]?) o = some d) ∨
 (∃ t s f i off ln off', o.op = .fieldAddr t (.tmp s) f ∧ ev fr (.tmp s) = .bsl i off 0 ln ∧ aop P (fun _ => .ptr i off) (fun i => σ.bx[i]?) o = some (.ptr i off') ∧ d = .bsl i off' 0 0)
/-- the drawn part, one operation after another -/
inductive Steps (P : Program) (pc : Nat → List D → Option D) (σ : St) : List D → List Oper → List D → Prop
 | nil (fr : List D) : Steps P pc σ fr [] fr
 | cons {fr F : List D} {o : Oper} {t : Nat} {d : D} {l : List Oper} (ho : o.dst = some t) (h : COp P pc σ fr o d) (r : Steps P pc σ (fr.set t d) l F) : Steps P pc σ fr (o :: l) F
structure TrC (P : Program) (pc : Nat → List D → Option D) (σ : St) (l : List Oper) (fs : Nat → List D) (dv : Nat → D) : Prop where
 step : ∀ j o, l[j]? = some o → ∃ t, o.dst = some t ∧ fs (j + 1) = (fs j).set t (dv j) ∧ COp P pc σ (fs j) o (dv j)
section
variable {P : Program} {pc : Nat → List D → Option D} {σ : St} {ops : Array Oper} {c : Nat} {fs : Nat → List D} {dv : Nat → D}
end
section
variable {P : Program} {pc : Nat → List D → Option D} {base : Nat} {w0 : World} {ok0 : Gh} {σ : St} {ops : Array Oper} {c : Nat} {ro : Option Nat} {n : Nat} {Q : Exit → Act → World → Prop} {g0 : Gh} {a0 : Act} {w1 : World}
end
section
variable {P : Program} {pc : Nat → List D → Option D} {ops rest l : List Oper} {σ : St} {Q : Ex → St → Prop} {fr : List D} {o : Oper} {t : Nat}
end
end Go.Proofs.Ytmglacjcefajlaa

/- The law CheckerUpdates: its walk. -/
namespace Go.Proofs.Ytmglacjcefajlaa
open Go.RowKit
/-- slots that a freezing of box i can turn: the row and places in it -/
def Bq (i n N : Nat) (d : D) : Prop := d.avoid i = true ∨ d = .bsl i 0 n N ∨ ∃ off, off ≤ N * n ∧ d = .bsl i off 0 0
inductive BqL (i n N : Nat) : List D → Prop
 | nil : BqL i n N []
 | cons {d : D} {l : List D} (h : Bq i n N d) (t : BqL i n N l) : BqL i n N (d :: l)
end Go.Proofs.Ytmglacjcefajlaa

/- Small facts that a pruned base lacks. -/
namespace Go.Proofs.Ytmglacjcefajlaa
open Go.RowKit

section
variable {E : Env} {Q : Ex → St → Prop} {σ σ' : St} {a b : Code}
end
section
variable {E : Env} {Q : Ex → St → Prop} {σ σ' : St} {a b : Code}
end
section
variable {P : Program} {ops : Array Oper} {o : Oper} {l r : List Oper} {σ σ1 σ' : St}
theorem SWp_load {t : TypeId} {s i off ln : Nat} {d : D} (hw : awant ops.toList σ.fr o = true) (ho : o.op = .load t (.tmp s)) (hp : ev σ.fr (.tmp s) = .bsl i off 0 ln) (h : aop P (fun _ => .ptr i off) (fun i => σ.bx[i]?) o = some d) : SWp P ops o σ (σ.put o.dst d) := by
  refine SWp_hand hw (fun c e => by rw [ho] at e; cases e) rfl (fun base w0 ok0 g a w hr => ?_)
  have hv := ev_val hr.fr hr.len (.tmp s) (.inr ⟨s, rfl⟩)
  rw [hp] at hv
  obtain ⟨b, hβ, hpv⟩ := val_bpt hv
  obtain ⟨v, q1, q2⟩ := aop_load (ρ := a.eval) (vals := fun _ => .ptr i off) ho (RW.boxesAt hr.rs) (by rw [hpv]; exact val_of_R (.ptr _ _ _ hβ.1 hβ.2) rfl) h
  exact .inl ⟨v, w, g, q1, hr.rs, Ext.refl _ _, q2⟩
end
end Go.Proofs.Ytmglacjcefajlaa

/- swapped: what its walk needs. -/
namespace Go.Proofs.Ytmglacjcefajlaa
open Go.RowKit

def SwC (l : List Tr) : Nat → List D → D → Prop := fun k a d => k = 21 ∧ ∃ x ∈ l, a = [dN x] ∧ d = dN (swT x)
theorem kids_envS {l : List Tr} (h : ∀ x ∈ l, PContract Try.prog 21 [dN x] (dN (swT x))) : ∃ EX : Env, EX.Ok ∧ EX.P = Try.prog ∧ ∀ x ∈ l, fn EX 21 [dN x] = some (dN (swT x)) :=
  ⟨EV.by (SwC l), by_ok EV_ok (fun k a d q => by obtain ⟨rfl, x, hx, rfl, rfl⟩ := q; exact ⟨dN_under 0 _, dN_strip _, h x hx⟩), rfl, fun x hx => by_fn (by simp only [plain, List.all_cons, List.all_nil, dN_pl, Bool.and_true]) (by simp only [zmc, zmn, dN_strip]) rfl rfl ⟨rfl, x, hx, rfl, rfl⟩ (by
    rintro d' ⟨_, y, _, h1, rfl⟩
    rw [dN_one (List.cons.inj h1).1])⟩
theorem any21 : (Try.prog.funcs[21]?).any (fun fn => fn.body.isSome && fn.name != "runtime.NumGoroutine") = true := by kernel_rfl
theorem swK_two {k : Int} {l : List Tr} (h : ¬ (k = 43 ∧ l.length = 2)) : swK k (l.map swT) = l.map swT := by
  unfold swK
  split
  · rename_i hk
    match l, h with
    | [], _ => rfl
    | [_], _ => rfl
    | [_, _], h => exact absurd ⟨hk, rfl⟩ h
    | _ :: _ :: _ :: _, _ => rfl
  · rfl
theorem flat_cavN (l : List Tr) (i : Nat) : D.avoids i ((l.map dN).flatMap D.cells) = true := flat_cav id i l
theorem sw_under (t : Tr) : (D.agg [.int .u8 t.kind, .int .i64 t.num, .str t.name, .slice .imm 4 ((swT t).kids.map dN)]).under 0 = true := by
  simp only [D.under, D.unders, Bool.and_true, Bool.true_and]
  rw [D.unders_all, List.all_eq_true]
  intro d hd
  obtain ⟨x, _, rfl⟩ := List.mem_map.1 hd
  exact dN_under 0 _
theorem sw_strip (t : Tr) : (D.agg [.int .u8 t.kind, .int .i64 t.num, .str t.name, .slice .imm 4 ((swT t).kids.map dN)]).strip = dN (swT t) := by
  rw [dN_eq (swT t), swT_num, swT_name, swT_kind]
  simp only [D.strip, D.strips, Own.st, strips_id (f := dN) (fun x => dN_strip x), sl]
theorem SWp_to {P : Program} {ops : Array Oper} {o : Oper} {σ σ1 σ' : St} (h : SWp P ops o σ σ1) (e : σ1 = σ') : SWp P ops o σ σ' := by rw [← e]; exact h
def s9_ops : Array Oper := #[{ dst := some 36, op := Go.Op.fieldAddr 26 (Go.Operand.tmp 3) 3, type := 0, pos := "law.go:310", after := #[], guard := none }, { dst := some 37, op := Go.Op.load 24 (Go.Operand.tmp 36), type := 24, pos := "law.go:310", after := #[{ on := 0, ground := Go.Ground.data }], guard := none }, { dst := some 38, op := Go.Op.fieldAddr 26 (Go.Operand.tmp 3) 3, type := 0, pos := "law.go:310", after := #[{ on := 13, ground := Go.Ground.gcOnly Go.Departure.lateStores }], guard := none }, { dst := some 39, op := Go.Op.load 24 (Go.Operand.tmp 38), type := 24, pos := "law.go:310", after := #[{ on := 2, ground := Go.Ground.data }, { on := 13, ground := Go.Ground.gcOnly Go.Departure.lateStores }], guard := none }, { dst := some 40, op := Go.Op.fieldAddr 26 (Go.Operand.tmp 3) 3, type := 0, pos := "law.go:310", after := #[], guard := none }, { dst := some 41, op := Go.Op.load 24 (Go.Operand.tmp 40), type := 24, pos := "law.go:310", after := #[{ on := 4, ground := Go.Ground.data }], guard := none }, { dst := some 42, op := Go.Op.indexAddr 24 (Go.Operand.tmp 41) (Go.Operand.const (Go.Value.int Go.IntKind.i64 1)), type := 0, pos := "law.go:310", after := #[{ on := 5, ground := Go.Ground.data }], guard := none }, { dst := some 43, op := Go.Op.load 26 (Go.Operand.tmp 42), type := 26, pos := "law.go:310", after := #[{ on := 6, ground := Go.Ground.data }], guard := none }, { dst := some 44, op := Go.Op.fieldAddr 26 (Go.Operand.tmp 3) 3, type := 0, pos := "law.go:310", after := #[], guard := none }, { dst := some 45, op := Go.Op.load 24 (Go.Operand.tmp 44), type := 24, pos := "law.go:310", after := #[{ on := 8, ground := Go.Ground.data }], guard := none }, { dst := some 46, op := Go.Op.indexAddr 24 (Go.Operand.tmp 45) (Go.Operand.const (Go.Value.int Go.IntKind.i64 0)), type := 0, pos := "law.go:310", after := #[{ on := 9, ground := Go.Ground.data }], guard := none }, { dst := some 47, op := Go.Op.load 26 (Go.Operand.tmp 46), type := 26, pos := "law.go:310", after := #[{ on := 10, ground := Go.Ground.data }], guard := none }, { dst := some 48, op := Go.Op.indexAddr 24 (Go.Operand.tmp 37) (Go.Operand.const (Go.Value.int Go.IntKind.i64 0)), type := 0, pos := "law.go:310", after := #[{ on := 1, ground := Go.Ground.data }, { on := 0, ground := Go.Ground.phase }, { on := 1, ground := Go.Ground.phase }, { on := 2, ground := Go.Ground.textOnly Go.Departure.lateStores }, { on := 3, ground := Go.Ground.textOnly Go.Departure.lateStores }, { on := 4, ground := Go.Ground.phase }, { on := 5, ground := Go.Ground.phase }, { on := 6, ground := Go.Ground.phase }, { on := 7, ground := Go.Ground.phase }, { on := 8, ground := Go.Ground.textOnly Go.Departure.lateStores }, { on := 9, ground := Go.Ground.textOnly Go.Departure.lateStores }, { on := 10, ground := Go.Ground.textOnly Go.Departure.lateStoresUnsure }, { on := 11, ground := Go.Ground.phase }], guard := none }, { dst := none, op := Go.Op.store 26 (Go.Operand.tmp 48) (Go.Operand.tmp 43), type := 0, pos := "law.go:310", after := #[{ on := 12, ground := Go.Ground.data }, { on := 7, ground := Go.Ground.data }, { on := 0, ground := Go.Ground.phase }, { on := 1, ground := Go.Ground.phase }, { on := 2, ground := Go.Ground.textOnly Go.Departure.lateStores }, { on := 3, ground := Go.Ground.textOnly Go.Departure.lateStores }, { on := 4, ground := Go.Ground.phase }, { on := 5, ground := Go.Ground.phase }, { on := 6, ground := Go.Ground.phase }, { on := 7, ground := Go.Ground.phase }, { on := 8, ground := Go.Ground.textOnly Go.Departure.lateStores }, { on := 9, ground := Go.Ground.textOnly Go.Departure.lateStores }, { on := 10, ground := Go.Ground.textOnly Go.Departure.lateStoresUnsure }, { on := 11, ground := Go.Ground.phase }], guard := none }, { dst := some 49, op := Go.Op.indexAddr 24 (Go.Operand.tmp 39) (Go.Operand.const (Go.Value.int Go.IntKind.i64 1)), type := 0, pos := "law.go:310", after := #[{ on := 3, ground := Go.Ground.data }, { on := 0, ground := Go.Ground.phase }, { on := 1, ground := Go.Ground.phase }, { on := 2, ground := Go.Ground.phase }, { on := 3, ground := Go.Ground.phase }, { on := 4, ground := Go.Ground.phase }, { on := 5, ground := Go.Ground.phase }, { on := 6, ground := Go.Ground.phase }, { on := 7, ground := Go.Ground.phase }, { on := 8, ground := Go.Ground.phase }, { on := 9, ground := Go.Ground.phase }, { on := 10, ground := Go.Ground.phase }, { on := 11, ground := Go.Ground.phase }, { on := 12, ground := Go.Ground.phase }, { on := 13, ground := Go.Ground.phase }], guard := none }, { dst := none, op := Go.Op.store 26 (Go.Operand.tmp 49) (Go.Operand.tmp 47), type := 0, pos := "law.go:310", after := #[{ on := 14, ground := Go.Ground.data }, { on := 11, ground := Go.Ground.data }, { on := 13, ground := Go.Ground.chain }, { on := 0, ground := Go.Ground.phase }, { on := 1, ground := Go.Ground.phase }, { on := 2, ground := Go.Ground.phase }, { on := 3, ground := Go.Ground.phase }, { on := 4, ground := Go.Ground.phase }, { on := 5, ground := Go.Ground.phase }, { on := 6, ground := Go.Ground.phase }, { on := 7, ground := Go.Ground.phase }, { on := 8, ground := Go.Ground.phase }, { on := 9, ground := Go.Ground.phase }, { on := 10, ground := Go.Ground.phase }, { on := 11, ground := Go.Ground.phase }, { on := 12, ground := Go.Ground.phase }, { on := 13, ground := Go.Ground.phase }], guard := none }]
set_option maxRecDepth 100000 in
set_option maxHeartbeats 4000000 in
theorem s9 {E : Env} (hE : E.Ok) (hP : E.P = Try.prog) {k0 k1 k2 a0 a1 a2 a3 b0 b1 b2 b3 : D} {B0 B1 : List D} {r : List (List D)} {nx : Nat} {lv : List Nat} {Bd : Nat} {x0 x1 x2 x4 x5 x6 x7 x8 x9 x10 x11 x12 x13 x14 x15 x16 x17 x18 x19 x20 x21 x22 x23 x24 x25 x26 x27 x28 x29 x30 x31 x32 x33 x34 x35 x36 x37 x38 x39 x40 x41 x42 x43 x44 x45 x46 x47 x48 x49 x50 : D} {Q : Ex → St → Prop}
    (_ga0 : a0.good = true) (_ga1 : a1.good = true) (_ga2 : a2.good = true) (_ga3 : a3.good = true) (_gb0 : b0.good = true) (_gb1 : b1.good = true) (_gb2 : b2.good = true) (_gb3 : b3.good = true) (h01 : ((0 : Int) < ((2 : Nat) : Int)) = True) (h12 : ((1 : Int) < ((2 : Nat) : Int)) = True) (h0t : Int.toNat 0 = 0) (h1t : Int.toNat 1 = 1)
    (hq : Q .normal ⟨[x0, x1, x2, .ptr 2 0, x4, x5, x6, x7, x8, x9, x10, x11, x12, x13, x14, x15, x16, x17, x18, x19, x20, x21, x22, x23, x24, x25, x26, x27, x28, x29, x30, x31, x32, x33, x34, x35, .ptr 2 3, .bsl 3 0 4 2, .ptr 2 3, .bsl 3 0 4 2, .ptr 2 3, .bsl 3 0 4 2, .bsl 3 4 0 0, .agg [b0, b1, b2, b3], .ptr 2 3, .bsl 3 0 4 2, .bsl 3 0 0 0, .agg [a0, a1, a2, a3], .bsl 3 0 0 0, .bsl 3 4 0 0, x50], B0 :: B1 :: [k0, k1, k2, .bsl 3 0 4 2] :: [b0, b1, b2, b3, a0, a1, a2, a3] :: r, nx, lv⟩) :
    S E.P Bd (.region 9 s9_ops true) ⟨[x0, x1, x2, .ptr 2 0, x4, x5, x6, x7, x8, x9, x10, x11, x12, x13, x14, x15, x16, x17, x18, x19, x20, x21, x22, x23, x24, x25, x26, x27, x28, x29, x30, x31, x32, x33, x34, x35, x36, x37, x38, x39, x40, x41, x42, x43, x44, x45, x46, x47, x48, x49, x50], B0 :: B1 :: [k0, k1, k2, .bsl 3 0 4 2] :: [a0, a1, a2, a3, b0, b1, b2, b3] :: r, nx, lv⟩ Q := by
  refine S_any hE.mixed (fun L => ⟨[x0, x1, x2, .ptr 2 0, x4, x5, x6, x7, x8, x9, x10, x11, x12, x13, x14, x15, x16, x17, x18, x19, x20, x21, x22, x23, x24, x25, x26, x27, x28, x29, x30, x31, x32, x33, x34, x35, (if L 0 = true then .ptr 2 3 else x36), (if L 1 = true then .bsl 3 0 4 2 else x37), (if L 2 = true then .ptr 2 3 else x38), (if L 3 = true then .bsl 3 0 4 2 else x39), (if L 4 = true then .ptr 2 3 else x40), (if L 5 = true then .bsl 3 0 4 2 else x41), (if L 6 = true then .bsl 3 4 0 0 else x42), (if L 7 = true then .agg [b0, b1, b2, b3] else x43), (if L 8 = true then .ptr 2 3 else x44), (if L 9 = true then .bsl 3 0 4 2 else x45), (if L 10 = true then .bsl 3 0 0 0 else x46), (if L 11 = true then .agg [a0, a1, a2, a3] else x47), (if L 12 = true then .bsl 3 0 0 0 else x48), (if L 14 = true then .bsl 3 4 0 0 else x49), x50], B0 :: B1 :: [k0, k1, k2, .bsl 3 0 4 2] :: (if L 15 = true then [b0, b1, b2, b3, a0, a1, a2, a3] else if L 13 = true then [b0, b1, b2, b3, b0, b1, b2, b3] else [a0, a1, a2, a3, b0, b1, b2, b3]) :: r, nx, lv⟩) ?_ ?_ ?_ ?_
  · simp only [zft, if_false]
  · intro j o ho
    have hj : j < 16 := (Array.getElem?_eq_some_iff.1 ho).1
    match j, hj, ho with
    | 0, _, ho | 1, _, ho | 2, _, ho | 3, _, ho | 4, _, ho | 5, _, ho | 6, _, ho | 7, _, ho | 8, _, ho | 9, _, ho | 10, _, ho | 11, _, ho | 12, _, ho | 13, _, ho | 14, _, ho | 15, _, ho =>
      cases ho; decide
  · intro L i o ho hun hcl hall
    have hi : i < 16 := (Array.getElem?_eq_some_iff.1 ho).1
    match i, hi, ho, hun, hall with
    | 0, _, ho, hun, hall =>
      simp only [s9_ops, List.getElem?_toArray, zg0, Option.some.injEq] at ho
      subst ho
      refine SWp_ca (CaOk.cal hE) (by kernel_rfl) ?_
      simp only [astep, awant, aeff, astep, awant, aeff, aop, ev, St.put, zg1, zg0, zgd, zmo, if_true, zs1, zs0, Nat.zero_add, zft, if_false, reduceCtorEq, ty_api_Node, hP, hun, if_true, if_false, zft, reduceCtorEq]
      try rfl
    | 1, _, ho, hun, hall =>
      simp only [s9_ops, List.getElem?_toArray, zg0, zg1, Option.some.injEq] at ho
      subst ho
      have e0 : L 0 = true := hall ⟨0, .data⟩ (by simp) rfl
      refine SWp_ca (CaOk.cal hE) (by kernel_rfl) ?_
      simp only [astep, awant, aeff, astep, awant, aeff, aop, mkD, ev, St.put, ia_bsl, zg1, zg0, zgd, zmo, if_true, zs1, zs0, zlc, zln, zd1, zd0, zt1, zt0, Nat.reduceAdd, Nat.reduceLeDiff, Nat.zero_add, zft, if_false, reduceCtorEq, ty_s_api_Node, hP, hun, e0, if_true, if_false, zft, Nat.reduceEqDiff, reduceCtorEq, zlc, zln]
      try rfl
    | 2, _, ho, hun, hall =>
      simp only [s9_ops, List.getElem?_toArray, zg0, zg1, Option.some.injEq] at ho
      subst ho
      refine SWp_ca (CaOk.cal hE) (by kernel_rfl) ?_
      simp only [astep, awant, aeff, astep, awant, aeff, aop, ev, St.put, zg1, zg0, zgd, zmo, if_true, zs1, zs0, Nat.zero_add, zft, if_false, reduceCtorEq, ty_api_Node, hP, hun, if_true, if_false, zft, Nat.reduceEqDiff, reduceCtorEq]
      try rfl
    | 3, _, ho, hun, hall =>
      simp only [s9_ops, List.getElem?_toArray, zg0, zg1, Option.some.injEq] at ho
      subst ho
      have e2 : L 2 = true := hall ⟨2, .data⟩ (by simp) rfl
      refine SWp_ca (CaOk.cal hE) (by kernel_rfl) ?_
      simp only [astep, awant, aeff, astep, awant, aeff, aop, mkD, ev, St.put, ia_bsl, zg1, zg0, zgd, zmo, if_true, zs1, zs0, zlc, zln, zd1, zd0, zt1, zt0, Nat.reduceAdd, Nat.reduceLeDiff, Nat.zero_add, zft, if_false, reduceCtorEq, ty_s_api_Node, hP, hun, e2, if_true, if_false, zft, Nat.reduceEqDiff, reduceCtorEq, zlc, zln]
      try rfl
    | 4, _, ho, hun, hall =>
      simp only [s9_ops, List.getElem?_toArray, zg0, zg1, Option.some.injEq] at ho
      subst ho
      refine SWp_ca (CaOk.cal hE) (by kernel_rfl) ?_
      simp only [astep, awant, aeff, astep, awant, aeff, aop, ev, St.put, zg1, zg0, zgd, zmo, if_true, zs1, zs0, Nat.zero_add, zft, if_false, reduceCtorEq, ty_api_Node, hP, hun, if_true, if_false, zft, Nat.reduceEqDiff, reduceCtorEq]
      try rfl
    | 5, _, ho, hun, hall =>
      simp only [s9_ops, List.getElem?_toArray, zg0, zg1, Option.some.injEq] at ho
      subst ho
      have e4 : L 4 = true := hall ⟨4, .data⟩ (by simp) rfl
      refine SWp_ca (CaOk.cal hE) (by kernel_rfl) ?_
      simp only [astep, awant, aeff, astep, awant, aeff, aop, mkD, ev, St.put, ia_bsl, zg1, zg0, zgd, zmo, if_true, zs1, zs0, zlc, zln, zd1, zd0, zt1, zt0, Nat.reduceAdd, Nat.reduceLeDiff, Nat.zero_add, zft, if_false, reduceCtorEq, ty_s_api_Node, hP, hun, e4, if_true, if_false, zft, Nat.reduceEqDiff, reduceCtorEq, zlc, zln]
      try rfl
    | 6, _, ho, hun, hall =>
      simp only [s9_ops, List.getElem?_toArray, zg0, zg1, Option.some.injEq] at ho
      subst ho
      have e5 : L 5 = true := hall ⟨5, .data⟩ (by simp) rfl
      refine SWp_ca (CaOk.cal hE) (by kernel_rfl) ?_
      simp only [astep, awant, aeff, inr_i64, Int.reduceLE, Int.reduceNeg, astep, awant, aeff, aop, ev, ofValue, St.put, zg1, zg0, zgd, zmo, if_true, zs1, zs0, Nat.reduceLT, Nat.zero_add, zft, if_false, and_self, reduceCtorEq, zis, und_api_Node, siz_api_Node, inf_api_Node_eq, hP, h1t, h12, Nat.one_mul, Nat.zero_add, siz_api_Node, hun, e5, if_true, if_false, zft, Nat.reduceEqDiff, reduceCtorEq]
      try rfl
    | 7, _, ho, hun, hall =>
      simp only [s9_ops, List.getElem?_toArray, zg0, zg1, Option.some.injEq] at ho
      subst ho
      have e6 : L 6 = true := hall ⟨6, .data⟩ (by simp) rfl
      have h13 : L 13 = false := by
        cases q13 : L 13 with
        | false => rfl
        | true =>
          obtain ⟨o13, ho13⟩ : ∃ o, s9_ops[13]? = some o := ⟨_, rfl⟩
          have hh13 : ∀ o, s9_ops[13]? = some o → (⟨7, .data⟩ : Edge) ∈ o.after := by
            intro o ho
            simp only [s9_ops, List.getElem?_toArray, zg0, zg1, Option.some.injEq] at ho
            subst ho; simp
          exact absurd (hcl 13 o13 ho13 q13 _ (hh13 o13 ho13) rfl) (by rw [hun]; simp)
      have h15 : L 15 = false := by
        cases q15 : L 15 with
        | false => rfl
        | true =>
          obtain ⟨o15, ho15⟩ : ∃ o, s9_ops[15]? = some o := ⟨_, rfl⟩
          have hh15 : ∀ o, s9_ops[15]? = some o → (⟨13, .chain⟩ : Edge) ∈ o.after := by
            intro o ho
            simp only [s9_ops, List.getElem?_toArray, zg0, zg1, Option.some.injEq] at ho
            subst ho; simp
          exact absurd (hcl 15 o15 ho15 q15 _ (hh15 o15 ho15) rfl) (by rw [h13]; simp)
      refine SWp_to (SWp_load (P := E.P) (i := 3) (off := 4) (ln := 0) (d := .agg [b0, b1, b2, b3]) rfl rfl (by simp only [ev, e6, if_true, zg1, zg0, zgd]) ?_) ?_
      · simp only [aop, mkD, zg1, zg0, if_true, zlc, zln, zd1, zd0, zt1, zt0, Nat.reduceAdd, Nat.reduceLeDiff, Nat.zero_add, zft, if_false, ty_api_Node, hP, h13, h15, if_true, if_false, zft, zlc, zln]; try rfl
      · simp only [St.put, if_true, zs1, zs0, zft, if_false, reduceCtorEq, h13, h15, hun, e6, if_true, if_false, zft, Nat.reduceEqDiff, reduceCtorEq]; try rfl
    | 8, _, ho, hun, hall =>
      simp only [s9_ops, List.getElem?_toArray, zg0, zg1, Option.some.injEq] at ho
      subst ho
      refine SWp_ca (CaOk.cal hE) (by kernel_rfl) ?_
      simp only [astep, awant, aeff, astep, awant, aeff, aop, ev, St.put, zg1, zg0, zgd, zmo, if_true, zs1, zs0, Nat.zero_add, zft, if_false, reduceCtorEq, ty_api_Node, hP, hun, if_true, if_false, zft, Nat.reduceEqDiff, reduceCtorEq]
      try rfl
    | 9, _, ho, hun, hall =>
      simp only [s9_ops, List.getElem?_toArray, zg0, zg1, Option.some.injEq] at ho
      subst ho
      have e8 : L 8 = true := hall ⟨8, .data⟩ (by simp) rfl
      refine SWp_ca (CaOk.cal hE) (by kernel_rfl) ?_
      simp only [astep, awant, aeff, astep, awant, aeff, aop, mkD, ev, St.put, ia_bsl, zg1, zg0, zgd, zmo, if_true, zs1, zs0, zlc, zln, zd1, zd0, zt1, zt0, Nat.reduceAdd, Nat.reduceLeDiff, Nat.zero_add, zft, if_false, reduceCtorEq, ty_s_api_Node, hP, hun, e8, if_true, if_false, zft, Nat.reduceEqDiff, reduceCtorEq, zlc, zln]
      try rfl
    | 10, _, ho, hun, hall =>
      simp only [s9_ops, List.getElem?_toArray, zg0, zg1, Option.some.injEq] at ho
      subst ho
      have e9 : L 9 = true := hall ⟨9, .data⟩ (by simp) rfl
      refine SWp_ca (CaOk.cal hE) (by kernel_rfl) ?_
      simp only [astep, awant, aeff, inr_i64, Int.reduceLE, Int.reduceNeg, astep, awant, aeff, aop, ev, ofValue, St.put, zg1, zg0, zgd, zmo, if_true, zs1, zs0, Nat.reduceLT, Nat.add_zero, zft, if_false, and_self, reduceCtorEq, zis, und_api_Node, siz_api_Node, inf_api_Node_eq, hP, h01, h0t, Nat.zero_mul, siz_api_Node, hun, e9, if_true, if_false, zft, Nat.reduceEqDiff, reduceCtorEq]
      try rfl
    | 11, _, ho, hun, hall =>
      simp only [s9_ops, List.getElem?_toArray, zg0, zg1, Option.some.injEq] at ho
      subst ho
      have e10 : L 10 = true := hall ⟨10, .data⟩ (by simp) rfl
      have h13 : L 13 = false := by
        cases q13 : L 13 with
        | false => rfl
        | true =>
          obtain ⟨o13, ho13⟩ : ∃ o, s9_ops[13]? = some o := ⟨_, rfl⟩
          have hh13 : ∀ o, s9_ops[13]? = some o → (⟨11, .phase⟩ : Edge) ∈ o.after := by
            intro o ho
            simp only [s9_ops, List.getElem?_toArray, zg0, zg1, Option.some.injEq] at ho
            subst ho; simp
          exact absurd (hcl 13 o13 ho13 q13 _ (hh13 o13 ho13) rfl) (by rw [hun]; simp)
      have h15 : L 15 = false := by
        cases q15 : L 15 with
        | false => rfl
        | true =>
          obtain ⟨o15, ho15⟩ : ∃ o, s9_ops[15]? = some o := ⟨_, rfl⟩
          have hh15 : ∀ o, s9_ops[15]? = some o → (⟨13, .chain⟩ : Edge) ∈ o.after := by
            intro o ho
            simp only [s9_ops, List.getElem?_toArray, zg0, zg1, Option.some.injEq] at ho
            subst ho; simp
          exact absurd (hcl 15 o15 ho15 q15 _ (hh15 o15 ho15) rfl) (by rw [h13]; simp)
      refine SWp_to (SWp_load (P := E.P) (i := 3) (off := 0) (ln := 0) (d := .agg [a0, a1, a2, a3]) rfl rfl (by simp only [ev, e10, if_true, zg1, zg0, zgd]) ?_) ?_
      · simp only [aop, mkD, zg1, zg0, if_true, zlc, zln, zd0, zt1, zt0, Nat.reduceAdd, Nat.reduceLeDiff, Nat.zero_add, zft, if_false, ty_api_Node, hP, h13, h15, if_true, if_false, zft, zlc, zln]; try rfl
      · simp only [St.put, if_true, zs1, zs0, zft, if_false, reduceCtorEq, h13, h15, hun, e10, if_true, if_false, zft, Nat.reduceEqDiff, reduceCtorEq]; try rfl
    | 12, _, ho, hun, hall =>
      simp only [s9_ops, List.getElem?_toArray, zg0, zg1, Option.some.injEq] at ho
      subst ho
      have e1 : L 1 = true := hall ⟨1, .data⟩ (by simp) rfl
      refine SWp_ca (CaOk.cal hE) (by kernel_rfl) ?_
      simp only [astep, awant, aeff, inr_i64, Int.reduceLE, Int.reduceNeg, astep, awant, aeff, aop, ev, ofValue, St.put, zg1, zg0, zgd, zmo, if_true, zs1, zs0, Nat.reduceLT, Nat.add_zero, zft, if_false, and_self, reduceCtorEq, zis, und_api_Node, siz_api_Node, inf_api_Node_eq, hP, h01, h0t, Nat.zero_mul, siz_api_Node, hun, e1, if_true, if_false, zft, Nat.reduceEqDiff, reduceCtorEq]
      try rfl
    | 13, _, ho, hun, hall =>
      simp only [s9_ops, List.getElem?_toArray, zg0, zg1, Option.some.injEq] at ho
      subst ho
      have e12 : L 12 = true := hall ⟨12, .data⟩ (by simp) rfl
      have e7 : L 7 = true := hall ⟨7, .data⟩ (by simp) rfl
      have e11 : L 11 = true := hall ⟨11, .phase⟩ (by simp) rfl
      have h15 : L 15 = false := by
        cases q15 : L 15 with
        | false => rfl
        | true =>
          obtain ⟨o15, ho15⟩ : ∃ o, s9_ops[15]? = some o := ⟨_, rfl⟩
          have hh15 : ∀ o, s9_ops[15]? = some o → (⟨13, .chain⟩ : Edge) ∈ o.after := by
            intro o ho
            simp only [s9_ops, List.getElem?_toArray, zg0, zg1, Option.some.injEq] at ho
            subst ho; simp
          exact absurd (hcl 15 o15 ho15 q15 _ (hh15 o15 ho15) rfl) (by rw [hun]; simp)
      refine SWp_ca (CaOk.cal hE) (by kernel_rfl) ?_
      simp only [astep, awant, aeff, astep, awant, aeff, astore, ev, St.put, gd_agg, cl_agg, zg1, zg0, zgd, zmo, if_true, zs1, zs0, zlc, zln, zd1, zd0, zt0, zca, zna, Nat.reduceAdd, Nat.reduceLeDiff, Nat.zero_add, zft, if_false, and_self, reduceCtorEq, ty_api_Node, hP, h15, hun, e12, e7, e11, if_true, if_false, zft, zca, zna, Nat.reduceEqDiff, reduceCtorEq, zlc, zln]
      try rfl
    | 14, _, ho, hun, hall =>
      simp only [s9_ops, List.getElem?_toArray, zg0, zg1, Option.some.injEq] at ho
      subst ho
      have e3 : L 3 = true := hall ⟨3, .data⟩ (by simp) rfl
      refine SWp_ca (CaOk.cal hE) (by kernel_rfl) ?_
      simp only [astep, awant, aeff, inr_i64, Int.reduceLE, Int.reduceNeg, astep, awant, aeff, aop, ev, ofValue, St.put, zg1, zg0, zgd, zmo, if_true, zs1, zs0, Nat.reduceLT, Nat.zero_add, zft, if_false, and_self, reduceCtorEq, zis, und_api_Node, siz_api_Node, inf_api_Node_eq, hP, h1t, h12, Nat.one_mul, Nat.zero_add, siz_api_Node, hun, e3, if_true, if_false, zft, Nat.reduceEqDiff, reduceCtorEq]
      try rfl
    | 15, _, ho, hun, hall =>
      simp only [s9_ops, List.getElem?_toArray, zg0, zg1, Option.some.injEq] at ho
      subst ho
      have e14 : L 14 = true := hall ⟨14, .data⟩ (by simp) rfl
      have e11 : L 11 = true := hall ⟨11, .data⟩ (by simp) rfl
      have e13 : L 13 = true := hall ⟨13, .chain⟩ (by simp) rfl
      refine SWp_ca (CaOk.cal hE) (by kernel_rfl) ?_
      simp only [astep, awant, aeff, astep, awant, aeff, astore, ev, St.put, gd_agg, cl_agg, zg1, zg0, zgd, zmo, if_true, zs1, zs0, zlc, zln, zd1, zd0, zt1, zt0, zca, zna, Nat.reduceAdd, Nat.reduceLeDiff, Nat.zero_add, zft, if_false, and_self, reduceCtorEq, ty_api_Node, hP, hun, e14, e11, e13, if_true, if_false, zft, List.append_nil, zca, zna, Nat.reduceEqDiff, reduceCtorEq, zlc, zln]
      try rfl
  · intro L hL
    have e : ∀ j, j < 16 → L j = true := hL
    simp only [e 0 (by decide), e 1 (by decide), e 2 (by decide), e 3 (by decide), e 4 (by decide), e 5 (by decide), e 6 (by decide), e 7 (by decide), e 8 (by decide), e 9 (by decide), e 10 (by decide), e 11 (by decide), e 12 (by decide), e 13 (by decide), e 14 (by decide), e 15 (by decide), if_true]
    exact hq

end Go.Proofs.Ytmglacjcefajlaa

/- swapped at S-level: a copy of a tree in which the targets of swaps are exchanged. -/
namespace Go.Proofs.Ytmglacjcefajlaa
open Go.RowKit

set_option maxRecDepth 100000 in
set_option maxHeartbeats 4000000 in
theorem swap_y (t : Tr) (a b : Tr) (hk9 : t.kind = 43) (hl : t.kids = [a, b]) (hs : t.size ≤ 1000000) (hk : ∀ x ∈ t.kids, PContract Try.prog 21 [dN x] (dN (swT x))) : PContract Try.prog 21 [dN t] (dN (swT t)) := by
  obtain ⟨EX, EX_ok, EXP, ih⟩ := kids_envS hk
  have hkl : t.kids.length ≤ 1000000 := by have := Tr.length_kids t; omega
  refine S_pure (f := _) Try.func21 rfl (by simp only [List.all_cons, List.all_nil, dN_pl, Bool.and_true]) (by simp only [zmc, zmn, dN_strip]) ?_
  simp only [enterSt, Try.ntmps21, zlc, zln, Nat.reduceAdd, Nat.reduceSub, zr1, zr0, zca, zna]
  rw [← EXP]
  refine S_seq ?_
  refine S_of_X EX_ok (by kernel_rfl) ?_
  refine X_rg fun R hR => ?_
  simp only [EXP, aops, astep, awant, aeff, ev, St.put, zg0, zgd, zmo, zbs, if_true, zs1, zs0, zlc, zln, zca, zna, Nat.zero_add, ty_api_Node, dN_cells, dN_good, sl]
  with_reducible refine hR _ ?_
  clear hR R
  show S _ _ _ _ _
  refine S_seq ?_
  refine S_of_X EX_ok (by kernel_rfl) ?_
  refine X_rg fun R hR => ?_
  simp only [EXP, aops, astep, awant, aeff, aop, mkD, astore, ev, St.put, gd_agg, cl_agg, zg1, zg0, zgd, zmo, zbs, if_true, zs1, zs0, zlc, zln, zd1, zd0, zt1, zt0, zca, zna, Nat.reduceAdd, Nat.reduceLeDiff, Nat.zero_add, and_self, ty_api_Node]
  with_reducible refine hR _ ?_
  clear hR R
  show S _ _ _ _ _
  refine S_seq ?_
  obtain ⟨z, hz0, hzs⟩ := Option.map_eq_some_iff.1 inf_api_Node_zc
  have hz4 := zer_node hz0
  refine S_ls ?_
  refine LS_ops EX_ok 3 (by kernel_rfl) fun R hR => ?_
  simp only [EXP, aops, astep, awant, aeff, aop, mkD, ev, St.put, ia_slice, zg1, zg0, zgd, zmo, if_true, zs1, zs0, zlm, zlc, zln, zd1, zd0, zt1, zt0, Nat.reduceAdd, Nat.reduceLeDiff, Nat.zero_add, zft, if_false, reduceCtorEq, ty_s_api_Node, ty_api_Node, und_api_Node]
  with_reducible refine hR _ ?_
  clear hR R
  simp only [zd1, zd0]
  refine LS_make (s := 9) (n := t.kids.length) (k := .i64) (t := 24) (e := 26) (i := inf_api_Node) (z := z) (ds := z4) rfl rfl (EXP ▸ und_api_Node) (EXP ▸ inf_api_Node_eq) hz0 hz4 (hzs.trans inf_api_Node_size.symm) (by rw [inf_api_Node_size]; omega) (by rw [inf_api_Node_bytes]; omega) rfl (by omega) ?_
  rw [inf_api_Node_size]
  simp only [St.put, zlc, zln, Nat.reduceAdd, zs1, zs0, zca, zna]
  refine LS_ops EX_ok 2 (by kernel_rfl) fun R hR => ?_
  simp only [EXP, aops, astep, awant, aeff, aop, astore, ev, St.put, gd_bsl, cl_bsl, zg1, zg0, zgd, zmo, if_true, zs1, zs0, zlc, zln, zd1, zd0, zt1, zt0, zca, zna, Nat.reduceAdd, Nat.reduceLeDiff, Nat.zero_add, if_false, and_self, reduceCtorEq, ty_s_api_Node, ty_api_Node]
  with_reducible refine hR _ ?_
  clear hR R
  simp only [zd1, zd0]
  refine LS_nil ?_
  show S _ _ _ _ _
  refine S_seq ?_
  refine S_seq ?_
  refine S_of_X EX_ok (by kernel_rfl) ?_
  refine X_rg fun R hR => ?_
  simp only [EXP, inr_i64, Int.reduceLE, Int.reduceNeg, aops, astep, awant, aeff, aop, mkD, ev, ofValue, St.put, ia_slice, zg1, zg0, zgd, zmo, if_true, zs1, zs0, zlm, zlc, zln, zd1, zd0, zt1, zt0, Nat.reduceAdd, Nat.reduceLeDiff, Nat.zero_add, zft, if_false, and_self, reduceCtorEq, ty_s_api_Node, ty_api_Node, und_api_Node]
  with_reducible refine hR _ ?_
  clear hR R
  show S _ _ _ _ _
  refine S_block ?_
  refine S_loop (fun m σ => ∃ (i : Nat) (r : List (List D)) (nx : Nat) (lv : List Nat), σ = ⟨[slotOf σ 0, .ptr 0 0, .ptr 1 0, .ptr 2 0, slotOf σ 4, slotOf σ 5, slotOf σ 6, slotOf σ 7, slotOf σ 8, slotOf σ 9, .bsl 3 0 4 t.kids.length, slotOf σ 11, slotOf σ 12, .slice .imm (if (t.kids.map dN).isEmpty = true then 0 else 4) (t.kids.map dN), .int .i64 t.kids.length, .int .i64 i, slotOf σ 16, slotOf σ 17, slotOf σ 18, slotOf σ 19, slotOf σ 20, slotOf σ 21, slotOf σ 22, slotOf σ 23, slotOf σ 24, slotOf σ 25, slotOf σ 26, slotOf σ 27, slotOf σ 28, slotOf σ 29, slotOf σ 30, slotOf σ 31, slotOf σ 32, slotOf σ 33, slotOf σ 34, slotOf σ 35, slotOf σ 36, slotOf σ 37, slotOf σ 38, slotOf σ 39, slotOf σ 40, slotOf σ 41, slotOf σ 42, slotOf σ 43, slotOf σ 44, slotOf σ 45, slotOf σ 46, slotOf σ 47, slotOf σ 48, slotOf σ 49, slotOf σ 50], [.int .u8 t.kind, .int .i64 t.num, .str t.name, .slice .imm (if (t.kids.map dN).isEmpty = true then 0 else 4) (t.kids.map dN)] :: [.int .u8 0, .int .i64 0, .str ⟨#[]⟩, .slice .nil 0 []] :: [.int .u8 t.kind, .int .i64 t.num, .str t.name, .bsl 3 0 4 t.kids.length] :: rowC swT t.kids i :: r, nx, lv⟩ ∧ m = t.kids.length - i ∧ i ≤ t.kids.length ∧ (∀ s, BsN 3 4 t.kids.length (slotOf σ s)) ∧ (∀ b ∈ r, D.avoids 3 b = true)) ?_ (t.kids.length) ?_
  rotate_left
  · exact ⟨0, [], _, _, by rw [rowC_zero]; rfl, rfl, Nat.zero_le _, (BnL.slot (by repeat first | exact .nil | apply BnL.cons (.inl rfl) | apply BnL.cons (.inr (.inl rfl)) | apply BnL.cons (.inl (dN_avoid _ _)) | apply BnL.cons (.inl (by (simp only [D.avoid, D.avoids, dNs_avoid', Bool.and_self]; done))))), fun b hb => absurd hb (List.not_mem_nil)⟩
  rintro m σ ⟨i, r, nx, lv, hσ, rfl, hi, hx, hr⟩
  generalize slotOf σ = x at hσ hx
  subst hσ
  refine S_seq ?_
  refine S_of_X EX_ok (by kernel_rfl) ?_
  refine X_rg fun R hR => ?_
  simp only [nat_lt, aops, astep, awant, aeff, aop, abin, aint, ev, St.put, zg1, zg0, zgd, zmo, if_true, zs1, zs0]
  with_reducible refine hR _ ?_
  clear hR R
  show S _ _ _ _ _
  refine S_seq ?_
  refine S_ite (by simp only [ev, zg1, zg0, zgd]; exact rfl) ?_ ?_
  · intro b1
    have c1 := b1
    try simp only [decide_eq_true_eq] at c1
    refine S_skip ?_
    show S _ _ _ _ _
    refine S_seq ?_
    refine S_block ?_
    refine S_seq ?_
    have hlt : i < t.kids.length := by first | assumption | omega
    have hn1 : ((if (t.kids.map dN).isEmpty = true then 0 else 4) = 4) = True := eq_true (sl_n (j := i) (by simpa using hlt))
    have e1 : (t.kids.map dN)[i]? = some (dN t.kids[i]) := by simp [hlt]
    have hrec := ih t.kids[i] (List.getElem_mem hlt)
    refine S_of_X EX_ok (by kernel_rfl) ?_
    refine X_rg fun R hR => ?_
    simp only [EXP, app_get0, app_set0, nat_lt, nat_0, nat_to, aops, astep, awant, aeff, aop, astore, ev, St.put, zg1, zg0, zgd, zmo, zbs, if_true, zs1, zs0, zlm, zlc, zln, zd1, zd0, zt0, zca, zna, Nat.reduceAdd, Nat.reduceLeDiff, Nat.zero_add, and_self, decide_true, zis, ty_api_Node, und_api_Node, siz_api_Node, inf_api_Node_eq, dN_cells, dN_isAgg, dN_good, sl, hlt, hn1, e1]
    with_reducible refine hR _ ?_
    clear hR R
    show S _ _ _ _ _
    have hil : ((i : Int) < (t.kids.length : Int)) = True := eq_true (by omega)
    have hi0 : (0 ≤ (i : Int)) = True := eq_true (by omega)
    have hin : ((i : Int)).toNat = i := Int.toNat_natCast i
    have hle : (i * 4 + 4 ≤ (rowC swT t.kids i).length) = True := eq_true (by rw [rowC_len _ (Nat.le_of_lt hlt)]; omega)
    have hset := rowC_set swT hlt
    rw [zaa] at hset
    have hc4 : ((dN (swT t.kids[i])).cells.length = 4) = True := eq_true (by rw [dN_cells]; rfl)
    have hlt4 : (i * 4 + 4 ≤ t.kids.length * 4) = True := eq_true (by omega)
    have hrl := rowC_len swT (Nat.le_of_lt hlt)
    refine S_dg EX_ok (CaOk.cal EX_ok) 5 (by simp only [zlc, zln]; omega) (by kernel_rfl) fun R hR => ?_
    simp only [EXP, app_get0, aops, astep, awant, aeff, aop, mkD, ev, St.put, pcall, ia_bsl, zmc, zmn, zg1, zg0, zgd, zmo, if_true, zs1, zs0, zlc, zln, zd1, zd0, zt1, zt0, zca, zna, Nat.reduceAdd, Nat.reduceLeDiff, Nat.zero_add, zft, if_false, reduceCtorEq, ty_s_api_Node, ty_api_Node, any21, hrec, Nat.zero_add, dN_agg, any21]
    with_reducible refine hR _ ?_
    clear hR R
    intro R hR
    simp only [EXP, aops, astep, awant, aeff, aop, astore, ev, St.put, zg1, zg0, zgd, zmo, if_true, zs1, zs0, zd1, zd0, zaa, Nat.reduceLT, Nat.zero_add, and_self, zis, ty_api_Node, und_api_Node, siz_api_Node, inf_api_Node_eq, dN_good, hc4, hil, hi0, hin, hrl, hlt4, hset, Nat.zero_add]
    with_reducible refine hR _ ?_
    clear hR R
    show S _ _ _ _ _
    have hbig : i < 9223372036854775807 := by omega
    refine S_of_X EX_ok (by kernel_rfl) ?_
    refine X_rg fun R hR => ?_
    simp only [inr_i64, Int.reduceLE, Int.reduceNeg, aops, astep, awant, aeff, aop, abin, aint, ev, ofValue, St.put, zg1, zg0, zgd, zmo, if_true, zs1, zs0, and_self, nat_succ hbig]
    with_reducible refine hR _ ?_
    clear hR R
    show ∃ m, m < _ ∧ _
    exact ⟨t.kids.length - (i + 1), by omega, i + 1, _, _, _, rfl, rfl, by omega, (BnL.slot (by repeat first | exact .nil | apply BnL.cons (.inl rfl) | apply BnL.cons (hx _) | apply BnL.cons (.inr (.inl rfl)) | apply BnL.cons (.inr (.inr ⟨i, hlt, rfl⟩)) | apply BnL.cons (.inl (dN_avoid _ _)) | apply BnL.cons (.inl (by (simp only [D.avoid, dN_avoid, dNs_avoid']; done))))), fun b hb => by rcases List.mem_append.1 hb with hb | hb; (exact hr b hb); (rw [List.mem_singleton] at hb; subst hb; (simp only [D.avoid, D.avoids, dNs_avoid', Bool.and_self]; done))⟩
  · intro b2
    have c2 := b2
    try simp only [decide_eq_false_iff_not] at c2
    refine S_exit ?_
    show S _ _ _ _ _
    refine S_seq ?_
    refine S_seq ?_
    have hil : i = t.kids.length := by first | omega | (simp_all; omega)
    subst hil
    rw [rowC_all]
    have hk43 : t.kind = 43 := hk9
    have h2 : t.kids.length = 2 := by rw [hl]; rfl
    have h43 : ((43 : Int) == 43) = true := rfl
    have h22 : (((2 : Nat) : Int) == 2) = true := rfl
    have hrow0 : (t.kids.map fun x => dN (swT x)).flatMap D.cells = [.int .u8 (swT a).kind, .int .i64 (swT a).num, .str (swT a).name, sl 4 ((swT a).kids.map dN)] ++ [.int .u8 (swT b).kind, .int .i64 (swT b).num, .str (swT b).name, sl 4 ((swT b).kids.map dN)] := by rw [hl]; simp only [zmc, zmn, List.flatMap_cons, List.flatMap_nil, dN_cells, List.append_nil]
    simp only [zca, zna, sl] at hrow0
    rw [hrow0]
    clear hrow0
    refine S_of_X EX_ok (by kernel_rfl) ?_
    refine X_rg fun R hR => ?_
    simp only [EXP, inr_i64, inr_u8, Int.reduceLE, Int.reduceNeg, aops, astep, awant, aeff, aop, abin, aint, mkD, ev, ofValue, St.put, ia_int, ia_bsl, zg1, zg0, zgd, zmo, zbs, if_true, zs1, zs0, zlc, zln, zd1, zd0, zt1, zt0, Nat.reduceAdd, Nat.reduceLeDiff, Nat.reduceLT, Nat.zero_add, Nat.add_zero, zft, if_false, and_self, reduceCtorEq, decide_false, beq_self_eq_true, ty_uint8, ty_s_api_Node, ty_api_Node, und_api_Node, hk43, h2, h22]
    with_reducible refine hR _ ?_
    clear hR R
    show S _ _ _ _ _
    refine S_true (by simp only [ev, zg1, zg0, zgd]) ?_
    refine s9 EX_ok EXP rfl rfl rfl rfl rfl rfl rfl rfl (eq_true (by decide)) (eq_true (by decide)) rfl rfl ?_
    show S _ _ _ _ _
    refine S_seq ?_
    have hkk : (swT t).kids = [swT b, swT a] := by rw [swT_kids, hk43, hl]; rfl
    have hcs : ([.int .u8 (swT b).kind, .int .i64 (swT b).num, .str (swT b).name, sl 4 ((swT b).kids.map dN), .int .u8 (swT a).kind, .int .i64 (swT a).num, .str (swT a).name, sl 4 ((swT a).kids.map dN)] : List D) = ((swT t).kids.map dN).flatMap D.cells := by rw [hkk]; simp only [zmc, zmn, List.flatMap_cons, List.flatMap_nil, dN_cells, zca, zna]
    simp only [sl] at hcs
    rw [hcs]
    have hlen2 : (swT t).kids.length = 2 := by rw [hkk]; rfl
    have hxN : ∀ s, BsN 3 4 2 (x s) := by rw [← h2]; exact hx
    have h4 : ∀ d ∈ ((swT t).kids.map dN), d.cells.length = 4 := fun d hd => by obtain ⟨x, _, rfl⟩ := List.mem_map.1 hd; rw [dN_cells]; rfl
    have hx2 : ∀ s, ∃ d, Fz 3 (((swT t).kids.map dN).flatMap D.cells) (x s) d := fun s => BsN.fz (by omega) h4 (by rw [zlm, hlen2]; exact hxN s)
    obtain ⟨y, hy⟩ := Classical.axiomOfChoice hx2
    have hrow : Fz 3 (((swT t).kids.map dN).flatMap D.cells) (.bsl 3 0 4 2) (.slice .imm 4 ((swT t).kids.map dN)) := Fz.row rfl (by rw [zlm, hlen2]) (by omega) h4
    have hb0 : Fz 3 (((swT t).kids.map dN).flatMap D.cells) (.bsl 3 0 0 0) (.elem (.agg [])) := .bpt 0 0 0 (.agg []) rfl (Nat.zero_le _)
    have hb4 : Fz 3 (((swT t).kids.map dN).flatMap D.cells) (.bsl 3 4 0 0) (.elem (.agg [])) := .bpt 4 0 0 (.agg []) rfl (by rw [fm_len h4, zlm, hlen2]; omega)
    apply S_freeze (i := 3) (t0 := 10) (d0 := .bsl 3 0 4 2) (cs := ((swT t).kids.map dN).flatMap D.cells) (Nat.zero_le _) rfl (.inr ⟨_, _, _, rfl⟩) rfl (flat_cavN _ 3)
    · dsimp only
      repeat first
          | exact .nil
          | apply FzL.cons (.keep _ rfl)
          | apply FzL.cons (hy _)
          | apply FzL.cons hrow
          | apply FzL.cons hb0
          | apply FzL.cons hb4
          | apply FzL.cons (.keep _ (by (simp only [D.avoid, D.avoids, dNs_avoid', Bool.and_self]; done)))
    · dsimp only
      repeat first
          | exact FzB.all hr
          | apply FzB.self (c' := []) rfl
          | apply FzB.turn (t0 := 3) (off := 0) (.cons (.keep _ rfl) (.cons (.keep _ rfl) (.cons (.keep _ rfl) (.cons hrow .nil)))) rfl
          | apply FzB.keep rfl
          | apply FzB.keep (by (simp only [D.avoid, D.avoids, dNs_avoid', Bool.and_self]; done))
    show S _ _ _ _ _
    refine S_of_X EX_ok (by kernel_rfl) ?_
    refine X_rg fun R hR => ?_
    simp only [EXP, aops, astep, awant, aeff, aop, mkD, astore, ev, St.put, gd_agg, cl_agg, zg1, zg0, zgd, zmo, if_true, zs1, zs0, zlc, zln, zd1, zd0, zt1, zt0, zca, zna, Nat.reduceAdd, Nat.reduceLeDiff, Nat.zero_add, and_self, ty_api_Node]
    with_reducible refine hR _ ?_
    clear hR R
    show S _ _ _ _ _
    refine S_ret ?_
    refine ⟨.inr rfl, .agg [.int .u8 43, .int .i64 t.num, .str t.name, .slice .imm 4 ((swT t).kids.map dN)], ?_, ?_, ?_⟩
    · simp only [resD, resAll, resOne, resTup, Try.results21, EXP, mkD, ty_api_Node, zg1, zg0, zd0, zt1, zt0, zlc, zln, Nat.reduceAdd, Nat.reduceLeDiff, Nat.zero_add, if_true, zmo]; try exact rfl
    · rw [← hk43]; exact sw_under t
    · rw [← hk43]; exact sw_strip t
set_option maxRecDepth 100000 in
set_option maxHeartbeats 4000000 in
theorem swap_n (t : Tr) (hno : ¬ (t.kind = 43 ∧ t.kids.length = 2)) (hs : t.size ≤ 1000000) (hk : ∀ x ∈ t.kids, PContract Try.prog 21 [dN x] (dN (swT x))) : PContract Try.prog 21 [dN t] (dN (swT t)) := by
  obtain ⟨EX, EX_ok, EXP, ih⟩ := kids_envS hk
  have hkl : t.kids.length ≤ 1000000 := by have := Tr.length_kids t; omega
  refine S_pure (f := _) Try.func21 rfl (by simp only [List.all_cons, List.all_nil, dN_pl, Bool.and_true]) (by simp only [zmc, zmn, dN_strip]) ?_
  simp only [enterSt, Try.ntmps21, zlc, zln, Nat.reduceAdd, Nat.reduceSub, zr1, zr0, zca, zna]
  rw [← EXP]
  refine S_seq ?_
  refine S_of_X EX_ok (by kernel_rfl) ?_
  refine X_rg fun R hR => ?_
  simp only [EXP, aops, astep, awant, aeff, ev, St.put, zg0, zgd, zmo, zbs, if_true, zs1, zs0, zlc, zln, zca, zna, Nat.zero_add, ty_api_Node, dN_cells, dN_good, sl]
  with_reducible refine hR _ ?_
  clear hR R
  show S _ _ _ _ _
  refine S_seq ?_
  refine S_of_X EX_ok (by kernel_rfl) ?_
  refine X_rg fun R hR => ?_
  simp only [EXP, aops, astep, awant, aeff, aop, mkD, astore, ev, St.put, gd_agg, cl_agg, zg1, zg0, zgd, zmo, zbs, if_true, zs1, zs0, zlc, zln, zd1, zd0, zt1, zt0, zca, zna, Nat.reduceAdd, Nat.reduceLeDiff, Nat.zero_add, and_self, ty_api_Node]
  with_reducible refine hR _ ?_
  clear hR R
  show S _ _ _ _ _
  refine S_seq ?_
  obtain ⟨z, hz0, hzs⟩ := Option.map_eq_some_iff.1 inf_api_Node_zc
  have hz4 := zer_node hz0
  refine S_ls ?_
  refine LS_ops EX_ok 3 (by kernel_rfl) fun R hR => ?_
  simp only [EXP, aops, astep, awant, aeff, aop, mkD, ev, St.put, ia_slice, zg1, zg0, zgd, zmo, if_true, zs1, zs0, zlm, zlc, zln, zd1, zd0, zt1, zt0, Nat.reduceAdd, Nat.reduceLeDiff, Nat.zero_add, zft, if_false, reduceCtorEq, ty_s_api_Node, ty_api_Node, und_api_Node]
  with_reducible refine hR _ ?_
  clear hR R
  simp only [zd1, zd0]
  refine LS_make (s := 9) (n := t.kids.length) (k := .i64) (t := 24) (e := 26) (i := inf_api_Node) (z := z) (ds := z4) rfl rfl (EXP ▸ und_api_Node) (EXP ▸ inf_api_Node_eq) hz0 hz4 (hzs.trans inf_api_Node_size.symm) (by rw [inf_api_Node_size]; omega) (by rw [inf_api_Node_bytes]; omega) rfl (by omega) ?_
  rw [inf_api_Node_size]
  simp only [St.put, zlc, zln, Nat.reduceAdd, zs1, zs0, zca, zna]
  refine LS_ops EX_ok 2 (by kernel_rfl) fun R hR => ?_
  simp only [EXP, aops, astep, awant, aeff, aop, astore, ev, St.put, gd_bsl, cl_bsl, zg1, zg0, zgd, zmo, if_true, zs1, zs0, zlc, zln, zd1, zd0, zt1, zt0, zca, zna, Nat.reduceAdd, Nat.reduceLeDiff, Nat.zero_add, if_false, and_self, reduceCtorEq, ty_s_api_Node, ty_api_Node]
  with_reducible refine hR _ ?_
  clear hR R
  simp only [zd1, zd0]
  refine LS_nil ?_
  show S _ _ _ _ _
  refine S_seq ?_
  refine S_seq ?_
  refine S_of_X EX_ok (by kernel_rfl) ?_
  refine X_rg fun R hR => ?_
  simp only [EXP, inr_i64, Int.reduceLE, Int.reduceNeg, aops, astep, awant, aeff, aop, mkD, ev, ofValue, St.put, ia_slice, zg1, zg0, zgd, zmo, if_true, zs1, zs0, zlm, zlc, zln, zd1, zd0, zt1, zt0, Nat.reduceAdd, Nat.reduceLeDiff, Nat.zero_add, zft, if_false, and_self, reduceCtorEq, ty_s_api_Node, ty_api_Node, und_api_Node]
  with_reducible refine hR _ ?_
  clear hR R
  show S _ _ _ _ _
  refine S_block ?_
  refine S_loop (fun m σ => ∃ (i : Nat) (r : List (List D)) (nx : Nat) (lv : List Nat), σ = ⟨[slotOf σ 0, .ptr 0 0, .ptr 1 0, .ptr 2 0, slotOf σ 4, slotOf σ 5, slotOf σ 6, slotOf σ 7, slotOf σ 8, slotOf σ 9, .bsl 3 0 4 t.kids.length, slotOf σ 11, slotOf σ 12, .slice .imm (if (t.kids.map dN).isEmpty = true then 0 else 4) (t.kids.map dN), .int .i64 t.kids.length, .int .i64 i, slotOf σ 16, slotOf σ 17, slotOf σ 18, slotOf σ 19, slotOf σ 20, slotOf σ 21, slotOf σ 22, slotOf σ 23, slotOf σ 24, slotOf σ 25, slotOf σ 26, slotOf σ 27, slotOf σ 28, slotOf σ 29, slotOf σ 30, slotOf σ 31, slotOf σ 32, slotOf σ 33, slotOf σ 34, slotOf σ 35, slotOf σ 36, slotOf σ 37, slotOf σ 38, slotOf σ 39, slotOf σ 40, slotOf σ 41, slotOf σ 42, slotOf σ 43, slotOf σ 44, slotOf σ 45, slotOf σ 46, slotOf σ 47, slotOf σ 48, slotOf σ 49, slotOf σ 50], [.int .u8 t.kind, .int .i64 t.num, .str t.name, .slice .imm (if (t.kids.map dN).isEmpty = true then 0 else 4) (t.kids.map dN)] :: [.int .u8 0, .int .i64 0, .str ⟨#[]⟩, .slice .nil 0 []] :: [.int .u8 t.kind, .int .i64 t.num, .str t.name, .bsl 3 0 4 t.kids.length] :: rowC swT t.kids i :: r, nx, lv⟩ ∧ m = t.kids.length - i ∧ i ≤ t.kids.length ∧ (∀ s, BsN 3 4 t.kids.length (slotOf σ s)) ∧ (∀ b ∈ r, D.avoids 3 b = true)) ?_ (t.kids.length) ?_
  rotate_left
  · exact ⟨0, [], _, _, by rw [rowC_zero]; rfl, rfl, Nat.zero_le _, (BnL.slot (by repeat first | exact .nil | apply BnL.cons (.inl rfl) | apply BnL.cons (.inr (.inl rfl)) | apply BnL.cons (.inl (dN_avoid _ _)) | apply BnL.cons (.inl (by (simp only [D.avoid, D.avoids, dNs_avoid', Bool.and_self]; done))))), fun b hb => absurd hb (List.not_mem_nil)⟩
  rintro m σ ⟨i, r, nx, lv, hσ, rfl, hi, hx, hr⟩
  generalize slotOf σ = x at hσ hx
  subst hσ
  refine S_seq ?_
  refine S_of_X EX_ok (by kernel_rfl) ?_
  refine X_rg fun R hR => ?_
  simp only [nat_lt, aops, astep, awant, aeff, aop, abin, aint, ev, St.put, zg1, zg0, zgd, zmo, if_true, zs1, zs0]
  with_reducible refine hR _ ?_
  clear hR R
  show S _ _ _ _ _
  refine S_seq ?_
  refine S_ite (by simp only [ev, zg1, zg0, zgd]; exact rfl) ?_ ?_
  · intro b1
    have c1 := b1
    try simp only [decide_eq_true_eq] at c1
    refine S_skip ?_
    show S _ _ _ _ _
    refine S_seq ?_
    refine S_block ?_
    refine S_seq ?_
    have hlt : i < t.kids.length := by first | assumption | omega
    have hn1 : ((if (t.kids.map dN).isEmpty = true then 0 else 4) = 4) = True := eq_true (sl_n (j := i) (by simpa using hlt))
    have e1 : (t.kids.map dN)[i]? = some (dN t.kids[i]) := by simp [hlt]
    have hrec := ih t.kids[i] (List.getElem_mem hlt)
    refine S_of_X EX_ok (by kernel_rfl) ?_
    refine X_rg fun R hR => ?_
    simp only [EXP, app_get0, app_set0, nat_lt, nat_0, nat_to, aops, astep, awant, aeff, aop, astore, ev, St.put, zg1, zg0, zgd, zmo, zbs, if_true, zs1, zs0, zlm, zlc, zln, zd1, zd0, zt0, zca, zna, Nat.reduceAdd, Nat.reduceLeDiff, Nat.zero_add, and_self, decide_true, zis, ty_api_Node, und_api_Node, siz_api_Node, inf_api_Node_eq, dN_cells, dN_isAgg, dN_good, sl, hlt, hn1, e1]
    with_reducible refine hR _ ?_
    clear hR R
    show S _ _ _ _ _
    have hil : ((i : Int) < (t.kids.length : Int)) = True := eq_true (by omega)
    have hi0 : (0 ≤ (i : Int)) = True := eq_true (by omega)
    have hin : ((i : Int)).toNat = i := Int.toNat_natCast i
    have hle : (i * 4 + 4 ≤ (rowC swT t.kids i).length) = True := eq_true (by rw [rowC_len _ (Nat.le_of_lt hlt)]; omega)
    have hset := rowC_set swT hlt
    rw [zaa] at hset
    have hc4 : ((dN (swT t.kids[i])).cells.length = 4) = True := eq_true (by rw [dN_cells]; rfl)
    have hlt4 : (i * 4 + 4 ≤ t.kids.length * 4) = True := eq_true (by omega)
    have hrl := rowC_len swT (Nat.le_of_lt hlt)
    refine S_dg EX_ok (CaOk.cal EX_ok) 5 (by simp only [zlc, zln]; omega) (by kernel_rfl) fun R hR => ?_
    simp only [EXP, app_get0, aops, astep, awant, aeff, aop, mkD, ev, St.put, pcall, ia_bsl, zmc, zmn, zg1, zg0, zgd, zmo, if_true, zs1, zs0, zlc, zln, zd1, zd0, zt1, zt0, zca, zna, Nat.reduceAdd, Nat.reduceLeDiff, Nat.zero_add, zft, if_false, reduceCtorEq, ty_s_api_Node, ty_api_Node, any21, hrec, Nat.zero_add, dN_agg, any21]
    with_reducible refine hR _ ?_
    clear hR R
    intro R hR
    simp only [EXP, aops, astep, awant, aeff, aop, astore, ev, St.put, zg1, zg0, zgd, zmo, if_true, zs1, zs0, zd1, zd0, zaa, Nat.reduceLT, Nat.zero_add, and_self, zis, ty_api_Node, und_api_Node, siz_api_Node, inf_api_Node_eq, dN_good, hc4, hil, hi0, hin, hrl, hlt4, hset, Nat.zero_add]
    with_reducible refine hR _ ?_
    clear hR R
    show S _ _ _ _ _
    have hbig : i < 9223372036854775807 := by omega
    refine S_of_X EX_ok (by kernel_rfl) ?_
    refine X_rg fun R hR => ?_
    simp only [inr_i64, Int.reduceLE, Int.reduceNeg, aops, astep, awant, aeff, aop, abin, aint, ev, ofValue, St.put, zg1, zg0, zgd, zmo, if_true, zs1, zs0, and_self, nat_succ hbig]
    with_reducible refine hR _ ?_
    clear hR R
    show ∃ m, m < _ ∧ _
    exact ⟨t.kids.length - (i + 1), by omega, i + 1, _, _, _, rfl, rfl, by omega, (BnL.slot (by repeat first | exact .nil | apply BnL.cons (.inl rfl) | apply BnL.cons (hx _) | apply BnL.cons (.inr (.inl rfl)) | apply BnL.cons (.inr (.inr ⟨i, hlt, rfl⟩)) | apply BnL.cons (.inl (dN_avoid _ _)) | apply BnL.cons (.inl (by (simp only [D.avoid, dN_avoid, dNs_avoid']; done))))), fun b hb => by rcases List.mem_append.1 hb with hb | hb; (exact hr b hb); (rw [List.mem_singleton] at hb; subst hb; (simp only [D.avoid, D.avoids, dNs_avoid', Bool.and_self]; done))⟩
  · intro b2
    have c2 := b2
    try simp only [decide_eq_false_iff_not] at c2
    refine S_exit ?_
    show S _ _ _ _ _
    refine S_seq ?_
    refine S_seq ?_
    have hil : i = t.kids.length := by first | omega | (simp_all; omega)
    subst hil
    rw [rowC_all]
    refine S_of_X EX_ok (by kernel_rfl) ?_
    refine X_y ?_
    refine Y_k 4 fun R hR => ?_
    simp only [EXP, inr_u8, Int.reduceLE, aops, astep, awant, aeff, aop, abin, aint, mkD, ev, ofValue, St.put, ia_int, zg1, zg0, zgd, zmo, if_true, zs1, zs0, zlc, zln, zd0, zt1, zt0, Nat.reduceAdd, Nat.reduceLeDiff, Nat.zero_add, Nat.add_zero, zft, if_false, and_self, reduceCtorEq, ty_uint8, ty_api_Node, b2]
    with_reducible refine hR _ ?_
    clear hR R
    simp only [zd1, zd0]
    refine Y_if 30 (by simp only [ev, zg1, zg0, zgd]; exact rfl) ?_ ?_
    · intro b3
      have c3 := b3
      try simp only [beq_iff_eq] at c3
      have hl2 : ((t.kids.length : Int) == 2) = false := by
        rw [beq_eq_false_iff_ne]
        intro e9
        exact hno ⟨by simpa using b3, by omega⟩
      refine Y_end fun R hR => ?_
      simp only [EXP, inr_i64, Int.reduceLE, Int.reduceNeg, aops, astep, awant, aeff, aop, abin, aint, mkD, ev, ofValue, St.put, ia_bsl, zg1, zg0, zgd, zmo, zbs, if_true, zs1, zs0, zlc, zln, zd1, zd0, zt1, zt0, Nat.reduceAdd, Nat.reduceLeDiff, Nat.reduceLT, Nat.zero_add, zft, if_false, and_self, reduceCtorEq, beq_self_eq_true, ty_s_api_Node, ty_api_Node, und_api_Node, b3, hl2]
      with_reducible refine hR _ ?_
      clear hR R
      show S _ _ _ _ _
      refine S_false (by simp only [ev, zg1, zg0, zgd]) ?_
      refine S_skip ?_
      show S _ _ _ _ _
      refine S_seq ?_
      have hkk : (swT t).kids = t.kids.map swT := by rw [swT_kids]; exact swK_two hno
      have hcs : (t.kids.map fun x => dN (swT x)) = ((swT t).kids.map dN) := by rw [hkk, List.map_map]; rfl
      rw [hcs]
      have hlen2 : (swT t).kids.length = t.kids.length := swT_len t
      have hxN : ∀ s, BsN 3 4 t.kids.length (x s) := hx
      have h4 : ∀ d ∈ ((swT t).kids.map dN), d.cells.length = 4 := fun d hd => by obtain ⟨x, _, rfl⟩ := List.mem_map.1 hd; rw [dN_cells]; rfl
      have hx2 : ∀ s, ∃ d, Fz 3 (((swT t).kids.map dN).flatMap D.cells) (x s) d := fun s => BsN.fz (by omega) h4 (by rw [zlm, hlen2]; exact hxN s)
      obtain ⟨y, hy⟩ := Classical.axiomOfChoice hx2
      have hrow : Fz 3 (((swT t).kids.map dN).flatMap D.cells) (.bsl 3 0 4 t.kids.length) (.slice .imm 4 ((swT t).kids.map dN)) := Fz.row rfl (by rw [zlm, hlen2]) (by omega) h4
      have hb0 : Fz 3 (((swT t).kids.map dN).flatMap D.cells) (.bsl 3 0 0 0) (.elem (.agg [])) := .bpt 0 0 0 (.agg []) rfl (Nat.zero_le _)
      apply S_freeze (i := 3) (t0 := 10) (d0 := .bsl 3 0 4 t.kids.length) (cs := ((swT t).kids.map dN).flatMap D.cells) (Nat.zero_le _) rfl (.inr ⟨_, _, _, rfl⟩) rfl (flat_cavN _ 3)
      · dsimp only
        repeat first
            | exact .nil
            | apply FzL.cons (.keep _ rfl)
            | apply FzL.cons (hy _)
            | apply FzL.cons hrow
            | apply FzL.cons hb0
            | apply FzL.cons (.keep _ (by (simp only [D.avoid, dNs_avoid']; done)))
      · dsimp only
        repeat first
            | exact FzB.all hr
            | apply FzB.self (c' := []) rfl
            | apply FzB.turn (t0 := 3) (off := 0) (.cons (.keep _ rfl) (.cons (.keep _ rfl) (.cons (.keep _ rfl) (.cons hrow .nil)))) rfl
            | apply FzB.keep rfl
            | apply FzB.keep (by (simp only [D.avoid, D.avoids, dNs_avoid', Bool.and_self]; done))
      show S _ _ _ _ _
      refine S_of_X EX_ok (by kernel_rfl) ?_
      refine X_rg fun R hR => ?_
      simp only [EXP, aops, astep, awant, aeff, aop, mkD, astore, ev, St.put, gd_agg, cl_agg, zg1, zg0, zgd, zmo, if_true, zs1, zs0, zlc, zln, zd1, zd0, zt1, zt0, zca, zna, Nat.reduceAdd, Nat.reduceLeDiff, Nat.zero_add, and_self, ty_api_Node]
      with_reducible refine hR _ ?_
      clear hR R
      show S _ _ _ _ _
      refine S_ret ?_
      refine ⟨.inr rfl, .agg [.int .u8 t.kind, .int .i64 t.num, .str t.name, .slice .imm 4 ((swT t).kids.map dN)], ?_, ?_, ?_⟩
      · simp only [resD, resAll, resOne, resTup, Try.results21, EXP, mkD, ty_api_Node, zg1, zg0, zd0, zt1, zt0, zlc, zln, Nat.reduceAdd, Nat.reduceLeDiff, Nat.zero_add, if_true, zmo]; try exact rfl
      · exact sw_under t
      · exact sw_strip t
    · intro b4
      have c4 := b4
      try simp only [ne_eq, beq_eq_false_iff_ne] at c4
      refine Y_end fun R hR => ?_
      simp only [EXP, inr_i64, Int.reduceLE, Int.reduceNeg, aops, astep, awant, aeff, aop, abin, ev, ofValue, St.put, zg1, zg0, zgd, zmo, Option.map_none, zbs, if_true, zs1, zs0, Nat.zero_add, zft, if_false, and_self, reduceCtorEq, bq_ft, ty_s_api_Node, ty_api_Node, und_api_Node, b4]
      with_reducible refine hR _ ?_
      clear hR R
      show S _ _ _ _ _
      refine S_false (by simp only [ev, zg1, zg0, zgd]) ?_
      refine S_skip ?_
      show S _ _ _ _ _
      refine S_seq ?_
      have hkk : (swT t).kids = t.kids.map swT := by rw [swT_kids]; exact swK_two hno
      have hcs : (t.kids.map fun x => dN (swT x)) = ((swT t).kids.map dN) := by rw [hkk, List.map_map]; rfl
      rw [hcs]
      have hlen2 : (swT t).kids.length = t.kids.length := swT_len t
      have hxN : ∀ s, BsN 3 4 t.kids.length (x s) := hx
      have h4 : ∀ d ∈ ((swT t).kids.map dN), d.cells.length = 4 := fun d hd => by obtain ⟨x, _, rfl⟩ := List.mem_map.1 hd; rw [dN_cells]; rfl
      have hx2 : ∀ s, ∃ d, Fz 3 (((swT t).kids.map dN).flatMap D.cells) (x s) d := fun s => BsN.fz (by omega) h4 (by rw [zlm, hlen2]; exact hxN s)
      obtain ⟨y, hy⟩ := Classical.axiomOfChoice hx2
      have hrow : Fz 3 (((swT t).kids.map dN).flatMap D.cells) (.bsl 3 0 4 t.kids.length) (.slice .imm 4 ((swT t).kids.map dN)) := Fz.row rfl (by rw [zlm, hlen2]) (by omega) h4
      have hb0 : Fz 3 (((swT t).kids.map dN).flatMap D.cells) (.bsl 3 0 0 0) (.elem (.agg [])) := .bpt 0 0 0 (.agg []) rfl (Nat.zero_le _)
      apply S_freeze (i := 3) (t0 := 10) (d0 := .bsl 3 0 4 t.kids.length) (cs := ((swT t).kids.map dN).flatMap D.cells) (Nat.zero_le _) rfl (.inr ⟨_, _, _, rfl⟩) rfl (flat_cavN _ 3)
      · dsimp only
        repeat first
            | exact .nil
            | apply FzL.cons (.keep _ rfl)
            | apply FzL.cons (hy _)
            | apply FzL.cons hrow
            | apply FzL.cons hb0
            | apply FzL.cons (.keep _ (by (simp only [D.avoid, dNs_avoid']; done)))
      · dsimp only
        repeat first
            | exact FzB.all hr
            | apply FzB.self (c' := []) rfl
            | apply FzB.turn (t0 := 3) (off := 0) (.cons (.keep _ rfl) (.cons (.keep _ rfl) (.cons (.keep _ rfl) (.cons hrow .nil)))) rfl
            | apply FzB.keep rfl
            | apply FzB.keep (by (simp only [D.avoid, D.avoids, dNs_avoid', Bool.and_self]; done))
      show S _ _ _ _ _
      refine S_of_X EX_ok (by kernel_rfl) ?_
      refine X_rg fun R hR => ?_
      simp only [EXP, aops, astep, awant, aeff, aop, mkD, astore, ev, St.put, gd_agg, cl_agg, zg1, zg0, zgd, zmo, if_true, zs1, zs0, zlc, zln, zd1, zd0, zt1, zt0, zca, zna, Nat.reduceAdd, Nat.reduceLeDiff, Nat.zero_add, and_self, ty_api_Node]
      with_reducible refine hR _ ?_
      clear hR R
      show S _ _ _ _ _
      refine S_ret ?_
      refine ⟨.inr rfl, .agg [.int .u8 t.kind, .int .i64 t.num, .str t.name, .slice .imm 4 ((swT t).kids.map dN)], ?_, ?_, ?_⟩
      · simp only [resD, resAll, resOne, resTup, Try.results21, EXP, mkD, ty_api_Node, zg1, zg0, zd0, zt1, zt0, zlc, zln, Nat.reduceAdd, Nat.reduceLeDiff, Nat.zero_add, if_true, zmo]; try exact rfl
      · exact sw_under t
      · exact sw_strip t
theorem swap_any (t : Tr) : t.size ≤ 1000000 → PContract Try.prog 21 [dN t] (dN (swT t)) := by
  induction t using Tr.ind with
  | h k n s l ih =>
    intro hs
    have hx : ∀ x ∈ (Tr.mk k n s l).kids, PContract Try.prog 21 [dN x] (dN (swT x)) := fun x hx => ih x hx (by simp only [Tr.kids] at hx; have := Tr.size_le_of_mem hx; simp only [Tr.size] at hs; omega)
    by_cases h : (Tr.mk k n s l).kind = 43 ∧ (Tr.mk k n s l).kids.length = 2
    · obtain ⟨a, b, hab⟩ : ∃ a b, (Tr.mk k n s l).kids = [a, b] := by
        match hq : (Tr.mk k n s l).kids, h.2 with
        | [a, b], _ => exact ⟨a, b, rfl⟩
      exact swap_y _ a b h.1 hab hs hx
    · exact swap_n _ h hs hx

end Go.Proofs.Ytmglacjcefajlaa
