/- visit in memory. -/
import Derived.Test.YtjikokmhknnnoaaMm
namespace Go.Proofs.Ytjikokmhknnnoaa
open Go.RowKit Go.Shelf

theorem vals_one_of {w : World} {g : Gh} {d : D} {v : Value} (h : val w g d v) : vals w g [d] [v] := ⟨rfl, fun j h1 h2 => by
  match j, h1, h2 with
  | 0, _, _ => exact h
  | j + 1, h1, _ => simp at h1⟩
theorem vals_two_of {w : World} {g : Gh} {d d' : D} {v v' : Value} (h : val w g d v) (h' : val w g d' v') : vals w g [d, d'] [v, v'] := ⟨rfl, fun j h1 h2 => by
  match j, h1, h2 with
  | 0, _, _ => exact h
  | 1, _, _ => exact h'
  | j + 2, h1, _ => simp at h1; omega⟩
theorem vals_three {w : World} {g : Gh} {d d' d2 : D} {v v' v2 : Value} (h : val w g d v) (h' : val w g d' v') (h2 : val w g d2 v2) : vals w g [d, d', d2] [v, v', v2] := ⟨rfl, fun j h1 h3 => by
  match j, h1, h3 with
  | 0, _, _ => exact h
  | 1, _, _ => exact h'
  | 2, _, _ => exact h2
  | j + 3, h1, _ => simp at h1; omega⟩
theorem vals_four {w : World} {g : Gh} {d d' d2 d3 : D} {v v' v2 v3 : Value} (h : val w g d v) (h' : val w g d' v') (h2 : val w g d2 v2) (h3 : val w g d3 v3) : vals w g [d, d', d2, d3] [v, v', v2, v3] := ⟨rfl, fun j h1 h4 => by
  match j, h1, h4 with
  | 0, _, _ => exact h
  | 1, _, _ => exact h'
  | 2, _, _ => exact h2
  | 3, _, _ => exact h3
  | j + 4, h1, _ => simp at h1; omega⟩
/-- data that hold no address -/
def D.sc : D → Bool
  | .int _ _ => true
  | .str _ => true
  | .bool _ => true
  | _ => false
theorem R.sc {w : World} {g g' : Gh} {d : D} {cs : List Value} (h : R w g d cs) (hs : d.sc = true) : R w g' d cs := by
  cases h with
  | int k n h => exact .int k n h
  | str s h => exact .str s h
  | bool b => exact .bool b
  | _ => simp [D.sc] at hs
theorem R.sca {w : World} {g g' : Gh} {l : List D} {cs : List Value} (h : R w g (.agg l) cs) (hs : ∀ d ∈ l, d.sc = true) : R w g' (.agg l) cs := by
  refine R_agg_of (R_agg_len h) (fun j h1 h2 => ?_)
  obtain ⟨_, r⟩ := R_agg_at h j h1
  exact r.sc (hs _ (List.getElem_mem h1))
theorem val_sc_row {w : World} {g : Gh} {ok : Nat → Nat → Prop} {n : Nat} {l : List D} {v : Value} (h : val w g (.slice .imm n l) v) (hok : ∀ b o, g.ok b o → ok b o) (hl : ∀ x ∈ l, ∀ cs, R w g x cs → R w (okGh ok) x cs) : val w (okGh ok) (.slice .imm n l) v := by
  obtain ⟨A, cap, cs, rfl, h1, h2, _, h3, h4, hr, hn, hc⟩ := val_slice h
  refine val_of_R (.slice .imm n l A cap cs h1 h2 (fun s e q => by cases q) trivial trivial (fun j hj => hl _ (List.getElem_mem hj) _ (hr j hj)) hn (fun j hj => ?_)) rfl
  obtain ⟨b, off, q, hh⟩ := hc j hj
  exact ⟨b, off, q, fun m u hu => ⟨hok _ _ (hh m u hu).1, (hh m u hu).2⟩⟩
/-- answers that hold no address but of scalars' rows -/
inductive Sca : D → Prop
  | one {d : D} (h : d.sc = true) : Sca d
  | ints (l : List Int) : Sca (sl 1 (l.map dI))
  | vds (l : List Vd) : Sca (sl 3 (l.map dV))
theorem Sca.val {w : World} {g : Gh} {ok : Nat → Nat → Prop} {d : D} {v : Value} (hs : Sca d) (hok : ∀ b o, g.ok b o → ok b o) (h : val w g d v) : val w (okGh ok) d v := by
  cases hs with
  | one hd =>
    cases d <;> simp [D.sc] at hd <;> (obtain ⟨cs, h1, h2⟩ := h; exact ⟨cs, h1.sc rfl, h2⟩)
  | ints l =>
    refine val_sc_row h hok (fun x hx cs hr => ?_)
    obtain ⟨i, _, rfl⟩ := List.mem_map.1 hx
    exact hr.sc rfl
  | vds l =>
    refine val_sc_row h hok (fun x hx cs hr => ?_)
    obtain ⟨i, _, rfl⟩ := List.mem_map.1 hx
    exact hr.sca (fun d hd => by simp at hd; rcases hd with rfl | rfl | rfl <;> rfl)
section
variable {ok0 : Nat → Nat → Prop} {B0 F : Nat} {w w' : World} {v v' : Value} {L L' : List Ft}
theorem Rs.drew (h : Rs ok0 B0 F w v L) : Rs ok0 B0 F w.drew v L := h.below (Below.refl _ _).drew
/-- a call of data alone, beside the reports -/
theorem dcall {k : Nat} {args : List D} {d : D} (h : fn EV k args = some d) (hR : Rs ok0 B0 F w v L) {vs : List Value} (hv : vals w (okGh (Okv ok0 B0 F w v)) args vs) (hs : Sca d := by first | exact .one rfl | exact .ints _ | exact .vds _) :
    Calls Try.prog k vs.toArray w fun e w' => ∃ u, e = .returned u ∧ Below w.heap.size w w' ∧ val w' (okGh (Okv ok0 B0 F w' v)) d u := by
  refine (calls_of_fn h hR.okB hv).mono ?_
  rintro e w' ⟨u, g', rfl, hb, hd, hok⟩
  refine ⟨u, rfl, hb, hs.val (fun b o q => ?_) hd⟩
  have hz := hb.size
  have hlt := hR.lt
  have hle := hR.le
  rcases hok b o q with q | q
  · rcases q with q | q
    · exact .inl q
    · exact .inr ⟨q.1, by omega, q.2.2⟩
  · exact .inr ⟨by omega, q.2, by omega, fun e => by have := (hR.row.lt b e).2; omega⟩
/-- a function value that takes reports -/
structure RepF (ok0 : Nat → Nat → Prop) (B0 F : Nat) (pr : Int) (I : World → Value → Prop) (k : Nat) (caps : List Value) : Prop where
  call : ∀ (w : World) (v : Value) (L : List Ft) (path : List Int) (name : ByteArray) (err : Int) (vp : Value), Rs ok0 B0 F w v L → I w v → inr .i64 err → name.size ≤ 9223372036854775807 → val w (okGh (Okv ok0 B0 F w v)) (sl 1 (path.map dI)) vp → path.length ≤ 1000000 → L.length + 1 ≤ 1000001 →
    Calls Try.prog k (vp :: .string name :: .int .i64 err :: caps).toArray w fun e w' => ∃ v', (∃ u, e = .returned u) ∧ Rs ok0 B0 F w' v' (L ++ rep pr path err name) ∧ Mv F w v w' v'
  keep : ∀ w v w' v', I w v → Mv F w v w' v' → I w' v'
  enter : ∀ (args : Array Value) (w : World), (callFunc k args).run Try.prog w = .ok (.enter k args) w
end
/-- boxes that stay whatever is reported -/
def Ibox (F : Nat) (bs : List (Nat × Obj)) (w : World) (v : Value) : Prop := ∀ x ∈ bs, w.heap[x.1]? = some x.2 ∧ x.1 ≠ F ∧ v.ownBlock ≠ some x.1
theorem Ibox.mv {F : Nat} {bs : List (Nat × Obj)} {w w' : World} {v v' : Value} (h : Ibox F bs w v) (hm : Mv F w v w' v') : Ibox F bs w' v' := by
  intro x hx
  obtain ⟨h1, h2, h3⟩ := h x hx
  have hlt : x.1 < w.heap.size := (Array.getElem?_eq_some_iff.1 h1).1
  exact ⟨(hm.block _ hlt h2 h3).trans h1, h2, fun e => (hm.own _ e).elim h3 (fun q => by omega)⟩
theorem kid_val {w : World} {g : Gh} {k n : Int} {s : ByteArray} {c : List Tr} {A : Option Addr} {cap : Nat} (h : val w g (dN (.mk k n s c)) (.agg #[.int .u8 k, .int .i64 n, .string s, .slice A c.length cap])) (i : Nat) (hi : i < c.length) :
    ∃ (b off : Nat) (A5 : Option Addr) (cap5 : Nat), A = some ⟨b, off, none⟩ ∧ w.cell? ⟨b, off + i * 4, none⟩ = some (.int .u8 c[i].kind) ∧ w.cell? ⟨b, off + i * 4 + 1, none⟩ = some (.int .i64 c[i].num) ∧ w.cell? ⟨b, off + i * 4 + 2, none⟩ = some (.string c[i].name) ∧
      w.cell? ⟨b, off + i * 4 + 3, none⟩ = some (.slice A5 c[i].kids.length cap5) ∧ val w g (dN c[i]) (.agg #[.int .u8 c[i].kind, .int .i64 c[i].num, .string c[i].name, .slice A5 c[i].kids.length cap5]) ∧ c[i].name.size ≤ 9223372036854775807 := by
  obtain ⟨us, hv, hR⟩ := val_agg (by rw [dN_eq] at h; exact h)
  obtain rfl : us = [.int .u8 k, .int .i64 n, .string s, .slice A c.length cap] := by
    have := congrArg (fun x => match x with | Value.agg l => l.toList | _ => []) hv
    simpa using this.symm
  obtain ⟨_, r3⟩ := R_agg_at hR 3 (by simp)
  obtain ⟨A', cap', cs, e, _, _, _, _, _, hr, hn, hc⟩ := val_slice (val_of_R (d := .slice .imm (if (c.map dN).isEmpty then 0 else 4) (c.map dN)) r3 rfl)
  simp only [List.getElem_cons_zero, List.getElem_cons_succ, List.length_map, Value.slice.injEq] at e hr hn hc
  obtain ⟨rfl, _, rfl⟩ := e
  have hne : (if (c.map dN).isEmpty = true then 0 else 4) = 4 := sl_n (j := i) (by simpa using hi)
  obtain ⟨b, off, hA, hcl⟩ := hc i hi
  have hRi := hr i hi
  rw [List.getElem_map, dN_eq] at hRi
  rw [hne] at hcl
  have hl := R_agg_len hRi
  match hq : cs i, hl with
  | [x0, x1, x2, x3], _ =>
    rw [hq] at hRi hcl
    obtain ⟨_, q0⟩ := R_agg_at hRi 0 (by simp)
    obtain ⟨_, q1⟩ := R_agg_at hRi 1 (by simp)
    obtain ⟨_, q2⟩ := R_agg_at hRi 2 (by simp)
    obtain ⟨_, q3⟩ := R_agg_at hRi 3 (by simp)
    obtain ⟨e0, _⟩ := R_int q0
    obtain ⟨e1, _⟩ := R_int q1
    obtain ⟨e2, hs⟩ := R_str q2
    obtain ⟨A5, cap5, _, e3, _⟩ := val_slice (val_of_R (d := .slice .imm (if (c[i].kids.map dN).isEmpty then 0 else 4) (c[i].kids.map dN)) q3 rfl)
    simp only [List.getElem_cons_zero, List.getElem_cons_succ, List.cons.injEq, and_true, List.length_map] at e0 e1 e2 e3
    subst e0 e1 e2 e3
    refine ⟨b, off, A5, cap5, hA, by simpa using (hcl 0 _ rfl).2, (hcl 1 _ rfl).2, (hcl 2 _ rfl).2, (hcl 3 _ rfl).2, ?_, hs⟩
    rw [dN_eq]
    exact val_of_agg hRi
theorem four_at' {w : World} {g t : Nat} {x0 x1 x2 x3 : Value} (h : w.heap[g]? = some (.cells #[x0, x1, x2, x3] t (0, 0))) :
    w.cell? ⟨g, 0, none⟩ = some x0 ∧ w.cell? ⟨g, 1, none⟩ = some x1 ∧ w.cell? ⟨g, 2, none⟩ = some x2 ∧ w.cell? ⟨g, 3, none⟩ = some x3 :=
  ⟨cell_of_row _ _ 0 _ _ _ h, cell_of_row _ _ 1 _ _ _ h, cell_of_row _ _ 2 _ _ _ h, cell_of_row _ _ 3 _ _ _ h⟩
theorem six_at {w : World} {g t : Nat} {x0 x1 x2 x3 x4 x5 : Value} (h : w.heap[g]? = some (.cells #[x0, x1, x2, x3, x4, x5] t (0, 0))) :
    w.cell? ⟨g, 0, none⟩ = some x0 ∧ w.cell? ⟨g, 1, none⟩ = some x1 ∧ w.cell? ⟨g, 2, none⟩ = some x2 ∧ w.cell? ⟨g, 3, none⟩ = some x3 ∧ w.cell? ⟨g, 4, none⟩ = some x4 ∧ w.cell? ⟨g, 5, none⟩ = some x5 :=
  ⟨cell_of_row _ _ 0 _ _ _ h, cell_of_row _ _ 1 _ _ _ h, cell_of_row _ _ 2 _ _ _ h, cell_of_row _ _ 3 _ _ _ h, cell_of_row _ _ 4 _ _ _ h, cell_of_row _ _ 5 _ _ _ h⟩

end Go.Proofs.Ytjikokmhknnnoaa
