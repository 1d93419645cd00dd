import Derived.Test.YtmglacjcefajlaaDat
/- Arguments as data of the machine. -/
namespace Go.Proofs.Ytmglacjcefajlaa
open Go.ChangeShapes Go.WideShapes Go.ChangeAt Go.RowKit

structure Vd where
 name : ByteArray
 kind : Int
 len : Int
structure Pr where
 name : ByteArray
 params : List Vd
 body : Tr
structure Pg where
 vars : List Vd
 procs : List Pr
 main : Tr
def dI (n : Int) : D := .int .i64 n
def dS (s : ByteArray) : D := .str s
def dV (v : Vd) : D := .agg [.str v.name, .int .u8 v.kind, .int .i64 v.len]
def dP (p : Pr) : D := .agg [.str p.name, sl 3 (p.params.map dV), .int .u8 p.body.kind, .int .i64 p.body.num, .str p.body.name, sl 4 (p.body.kids.map dN)]
def dG (p : Pg) : D := .agg [sl 3 (p.vars.map dV), sl 6 (p.procs.map dP), .int .u8 p.main.kind, .int .i64 p.main.num, .str p.main.name, sl 4 (p.main.kids.map dN)]

theorem map_strip {α : Type} {f : α → D} (h : ∀ x, (f x).strip = f x) (l : List α) : ∀ d ∈ l.map f, d.strip = d := fun d hd => by
 obtain ⟨x, _, rfl⟩ := List.mem_map.1 hd; exact h x
theorem map_under {α : Type} {f : α → D} {m : Nat} (h : ∀ x, (f x).under m = true) (l : List α) : ∀ d ∈ l.map f, d.under m = true := fun d hd => by
 obtain ⟨x, _, rfl⟩ := List.mem_map.1 hd; exact h x
theorem dV_strip (v : Vd) : (dV v).strip = dV v := rfl
theorem dV_under (m : Nat) (v : Vd) : (dV v).under m = true := rfl
theorem dP_strip (v : Pr) : (dP v).strip = dP v := by
 unfold dP
 simp only [D.strip, D.strips, sl_strip (map_strip dV_strip _), sl_strip (map_strip dN_strip _)]
theorem dP_under (m : Nat) (v : Pr) : (dP v).under m = true := by
 unfold dP
 simp only [D.under, D.unders, sl_under (map_under (dV_under m) _), sl_under (map_under (dN_under m) _), Bool.and_true]
theorem dG_strip (v : Pg) : (dG v).strip = dG v := by
 unfold dG
 simp only [D.strip, D.strips, sl_strip (map_strip dV_strip _), sl_strip (map_strip dP_strip _), sl_strip (map_strip dN_strip _)]
theorem dG_under (m : Nat) (v : Pg) : (dG v).under m = true := by
 unfold dG
 simp only [D.under, D.unders, sl_under (map_under (dV_under m) _), sl_under (map_under (dP_under m) _), sl_under (map_under (dN_under m) _), Bool.and_true]
theorem slV_strip (l : List Vd) : (sl 3 (l.map dV)).strip = sl 3 (l.map dV) := sl_strip (map_strip dV_strip _)
section
variable {H : Type} {enc : TypeId × Value → H} {W : World} {base : Nat} {spare : Nat → Bool} {held : Bool} {fuel : Nat}

def gW (W : World) : Gh := ⟨fun b _ => b < W.heap.size, fun _ => none, fun _ => none, fun b => b < W.heap.size, fun _ _ => False, fun _ => false, fun _ => False⟩

theorem arg_u8 {c : Value} {x : DataW H × List MemPlace} (h : DataW.trod enc Try.prog W base spare held fuel 5 [c] = some x) : ∃ n, R W (gW W) (.int .u8 n) [c] := by
 obtain ⟨k, e0, _, w0⟩ := DataW.trod_int Try.underlying5 h
 simp only [List.cons.injEq, and_true] at e0
 subst e0
 refine ⟨k, .int _ _ ?_⟩
 have := wf_u8 w0
 simp only [inr, IntKind.min, IntKind.max, IntKind.bits, IntKind.signed]; simp; omega
theorem arg_i64 {c : Value} {x : DataW H × List MemPlace} (h : DataW.trod enc Try.prog W base spare held fuel 3 [c] = some x) : ∃ n, R W (gW W) (dI n) [c] := by
 obtain ⟨k, e0, _, w0⟩ := DataW.trod_int Try.underlying3 h
 simp only [List.cons.injEq, and_true] at e0
 subst e0
 refine ⟨k, .int _ _ ?_⟩
 have := wf_i64 w0
 simp only [inr, IntKind.min, IntKind.max, IntKind.bits, IntKind.signed]; simp; omega
theorem arg_str {c : Value} {x : DataW H × List MemPlace} (h : DataW.trod enc Try.prog W base spare held fuel 9 [c] = some x) : ∃ s, R W (gW W) (dS s) [c] := by
 obtain ⟨s, e2, _, w2⟩ := DataW.trod_string Try.underlying9 h
 simp only [List.cons.injEq, and_true] at e2
 subst e2
 exact ⟨s, .str _ w2⟩

/-- a slice, given that each element's reading is a datum -/
theorem arg_slice {α : Type} {f : α → D} (x0 : α) {n : Nat} {st e : TypeId} (hu : Try.prog.underlying st = some (.slice e)) (hc : Try.prog.cellsOf e = n) {c : Value} {x : DataW H × List MemPlace}
  (ih : ∀ m, m < fuel → ∀ {cs : List Value} {y : DataW H × List MemPlace}, DataW.trod enc Try.prog W base spare held m e cs = some y → ∃ a, R W (gW W) (f a) cs)
  (hcl : ∀ a, (f a).cells.length = n) (hn0 : 0 < n) (h : DataW.trod enc Try.prog W base spare held fuel st [c] = some x) : ∃ l : List α, R W (gW W) (sl n (l.map f)) [c] := by
 rcases DataW.trod_slice hu h with ⟨e3, _⟩ | ⟨a, len, cap, elems, rest, n', rfl, e3, _, hba, hl, hm, hel, hat, _, _⟩
 ·simp only [List.cons.injEq, and_true] at e3
  subst e3
  exact ⟨[], .slice .imm _ [] none 0 (fun _ => []) (Nat.le_refl _) (by omega) (fun _ _ q => by cases q) trivial trivial (fun j h => absurd h (Nat.not_lt_zero _)) (fun j h => absurd h (Nat.not_lt_zero _)) (fun j h => absurd h (Nat.not_lt_zero _))⟩
 ·simp only [List.cons.injEq, and_true] at e3
  subst e3
  have hk : ∀ i, ∃ p : α × List Value, i < len → R W (gW W) (f p.1) p.2 ∧ ∀ m u, p.2[m]? = some u → W.cell? ((a.add (i * n)).add m) = some u := by
   intro i
   by_cases hi : i < len
   ·have hb := hat i hi
    rw [hc] at hb
    have hs : elems[i]? = some elems[i] := List.getElem?_eq_getElem (by omega)
    rw [hs, Option.bind_eq_some_iff] at hb
    obtain ⟨cs', hcs, ht⟩ := hb
    obtain ⟨x, hx⟩ := ih n' (by omega) ht
    obtain ⟨hlen, _, hcell⟩ := World.cells?_some hcs
    refine ⟨(x, cs'), fun _ => ⟨hx, fun m u hu => ?_⟩⟩
    have hmlt : m < cs'.length := (List.getElem?_eq_some_iff.1 hu).1
    rw [hcell m (by omega)]; exact hu
   ·exact ⟨(x0, []), fun e => absurd e hi⟩
  obtain ⟨T, hT⟩ := Classical.axiomOfChoice hk
  have hll : ((List.range len).map fun i => (T i).1).length = len := by simp
  refine ⟨(List.range len).map fun i => (T i).1, ?_⟩
  have key := R.slice (w := W) (g := gW W) .imm (if (((List.range len).map fun i => (T i).1).map f).isEmpty then 0 else n) (((List.range len).map fun i => (T i).1).map f) (some a) cap (fun j => (T j).2) (by simpa using hl) hm (fun _ _ q => by cases q) trivial trivial
   (fun j hj => by
    have hj' : j < len := by simpa using hj
    simp only [List.getElem_map, List.getElem_range]
    exact (hT j hj').1)
   (fun j hj => by
    have hj' : j < len := by simpa using hj
    rw [sl_n hj, (hT j hj').1.len, hcl])
   (fun j hj => by
    have hj' : j < len := by simpa using hj
    rw [sl_n hj]
    have hTj := hT j hj'
    have hlen : (T j).2.length = n := by rw [hTj.1.len, hcl]
    have h0 := hT 0 (by omega)
    have hlen0 : (T 0).2.length = n := by rw [h0.1.len, hcl]
    have g0 := h0.2 0 ((T 0).2[0]'(by omega)) (List.getElem?_eq_getElem (by omega))
    obtain ⟨b, off, spot⟩ := a
    have hs : spot = none := by simpa [Addr.add] using World.cell?_spot g0
    subst hs
    refine ⟨b, off, rfl, fun m u hu => ?_⟩
    have := hTj.2 m u hu
    rw [addr_plus, addr_plus] at this
    exact ⟨World.block_lt_of_cell? W _ this, this⟩)
  simpa [sl] using key
end

end Go.Proofs.Ytmglacjcefajlaa

/- Arguments as data of the machine: structs. -/
namespace Go.Proofs.Ytmglacjcefajlaa
open Go.ChangeShapes Go.WideShapes Go.ChangeAt Go.RowKit

section
variable {H : Type} {enc : TypeId × Value → H} {W : World} {base : Nat} {spare : Nat → Bool} {held : Bool}

set_option maxRecDepth 100000 in
theorem R_cat {w : World} {g : Gh} {d : D} {l : List D} {cs ds : List Value} (h : R w g d cs) (k : R w g (.agg l) ds) : R w g (.agg (d.cells ++ l)) (cs ++ ds) := R_agg_append h.cell k
set_option maxRecDepth 100000 in
theorem R_none {w : World} {g : Gh} : R w g (.agg []) [] := .agg [] [] rfl (fun _j h => absurd h (Nat.not_lt_zero _))

set_option maxRecDepth 100000 in
theorem arg_node (fuel : Nat) : ∀ {cs : List Value} {x : DataW H × List MemPlace}, DataW.trod enc Try.prog W base spare held fuel 26 cs = some x → ∃ t : Tr, R W (gW W) (dN t) cs := by
 induction fuel using Nat.strongRecOn with
 | ind fuel ih =>
 intro cs x h
 obtain ⟨ys, n, rfl, _, hlen, hyl, hf⟩ := DataW.trod_struct Try.underlying26 h
 rw [show Try.prog.cellsOf 26 = 4 from by kernel_rfl] at hlen
 match cs, hlen with
 | [c0, c1, c2, c3], _ =>
  have h0 : DataW.trod enc Try.prog W base spare held n 5 (([c0, c1, c2, c3].drop 0).take (Try.prog.cellsOf 5)) = ys[0]? := hf 0 _ rfl
  rw [show Try.prog.cellsOf 5 = 1 from by kernel_rfl] at h0
  replace h0 : DataW.trod enc Try.prog W base spare held n 5 [c0] = ys[0]? := h0
  have h1 : DataW.trod enc Try.prog W base spare held n 3 (([c0, c1, c2, c3].drop 1).take (Try.prog.cellsOf 3)) = ys[1]? := hf 1 _ rfl
  rw [show Try.prog.cellsOf 3 = 1 from by kernel_rfl] at h1
  replace h1 : DataW.trod enc Try.prog W base spare held n 3 [c1] = ys[1]? := h1
  have h2 : DataW.trod enc Try.prog W base spare held n 9 (([c0, c1, c2, c3].drop 2).take (Try.prog.cellsOf 9)) = ys[2]? := hf 2 _ rfl
  rw [show Try.prog.cellsOf 9 = 1 from by kernel_rfl] at h2
  replace h2 : DataW.trod enc Try.prog W base spare held n 9 [c2] = ys[2]? := h2
  have h3 : DataW.trod enc Try.prog W base spare held n 24 (([c0, c1, c2, c3].drop 3).take (Try.prog.cellsOf 24)) = ys[3]? := hf 3 _ rfl
  rw [show Try.prog.cellsOf 24 = 1 from by kernel_rfl] at h3
  replace h3 : DataW.trod enc Try.prog W base spare held n 24 [c3] = ys[3]? := h3
  have hy : ∀ j, j < 4 → ys[j]? = some (ys[j]?.getD (.nil, [])) := fun j hj => by
   have : j < ys.length := by rw [hyl]; exact hj
   simp [this]
  rw [hy _ (by omega)] at h0 h1 h2 h3
  obtain ⟨k, r0⟩ := arg_u8 h0
  obtain ⟨m, r1⟩ := arg_i64 h1
  obtain ⟨s, r2⟩ := arg_str h2
  obtain ⟨c, r3⟩ := arg_slice (f := dN) (.mk 0 0 ⟨#[]⟩ []) und_api_Node siz_api_Node (fun m hm => ih m (by omega)) (fun a => by rw [dN_cells]; rfl) (by omega) h3
  refine ⟨.mk k m s c, ?_⟩
  rw [dN_eq]
  exact R_cat r0 (R_cat r1 (R_cat r2 (R_cat r3 R_none)))
set_option maxRecDepth 100000 in
theorem arg_decl (fuel : Nat) {cs : List Value} {x : DataW H × List MemPlace} (h : DataW.trod enc Try.prog W base spare held fuel 54 cs = some x) : ∃ v : Vd, R W (gW W) (dV v) cs := by
 obtain ⟨ys, n, rfl, _, hlen, hyl, hf⟩ := DataW.trod_struct Try.underlying54 h
 rw [show Try.prog.cellsOf 54 = 3 from by kernel_rfl] at hlen
 match cs, hlen with
 | [c0, c1, c2], _ =>
  have h0 : DataW.trod enc Try.prog W base spare held n 9 (([c0, c1, c2].drop 0).take (Try.prog.cellsOf 9)) = ys[0]? := hf 0 _ rfl
  rw [show Try.prog.cellsOf 9 = 1 from by kernel_rfl] at h0
  replace h0 : DataW.trod enc Try.prog W base spare held n 9 [c0] = ys[0]? := h0
  have h1 : DataW.trod enc Try.prog W base spare held n 5 (([c0, c1, c2].drop 1).take (Try.prog.cellsOf 5)) = ys[1]? := hf 1 _ rfl
  rw [show Try.prog.cellsOf 5 = 1 from by kernel_rfl] at h1
  replace h1 : DataW.trod enc Try.prog W base spare held n 5 [c1] = ys[1]? := h1
  have h2 : DataW.trod enc Try.prog W base spare held n 3 (([c0, c1, c2].drop 2).take (Try.prog.cellsOf 3)) = ys[2]? := hf 2 _ rfl
  rw [show Try.prog.cellsOf 3 = 1 from by kernel_rfl] at h2
  replace h2 : DataW.trod enc Try.prog W base spare held n 3 [c2] = ys[2]? := h2
  have hy : ∀ j, j < 3 → ys[j]? = some (ys[j]?.getD (.nil, [])) := fun j hj => by
   have : j < ys.length := by rw [hyl]; exact hj
   simp [this]
  rw [hy _ (by omega)] at h0 h1 h2
  obtain ⟨s, r0⟩ := arg_str h0
  obtain ⟨k, r1⟩ := arg_u8 h1
  obtain ⟨m, r2⟩ := arg_i64 h2
  exact ⟨⟨s, k, m⟩, R_cat r0 (R_cat r1 (R_cat r2 R_none))⟩
set_option maxRecDepth 100000 in
theorem arg_decls {fuel : Nat} {c : Value} {x : DataW H × List MemPlace} (h : DataW.trod enc Try.prog W base spare held fuel 22 [c] = some x) : ∃ l : List Vd, R W (gW W) (sl 3 (l.map dV)) [c] :=
 arg_slice (f := dV) ⟨⟨#[]⟩, 0, 0⟩ und_api_VarDecl siz_api_VarDecl (fun m _ => arg_decl m) (fun _ => rfl) (by omega) h
set_option maxRecDepth 100000 in
theorem arg_proc (fuel : Nat) {cs : List Value} {x : DataW H × List MemPlace} (h : DataW.trod enc Try.prog W base spare held fuel 37 cs = some x) : ∃ p : Pr, R W (gW W) (dP p) cs := by
 obtain ⟨ys, n, rfl, _, hlen, hyl, hf⟩ := DataW.trod_struct Try.underlying37 h
 rw [show Try.prog.cellsOf 37 = 6 from by kernel_rfl] at hlen
 match cs, hlen with
 | [c0, c1, c2, c3, c4, c5], _ =>
  have h0 : DataW.trod enc Try.prog W base spare held n 9 (([c0, c1, c2, c3, c4, c5].drop 0).take (Try.prog.cellsOf 9)) = ys[0]? := hf 0 _ rfl
  rw [show Try.prog.cellsOf 9 = 1 from by kernel_rfl] at h0
  replace h0 : DataW.trod enc Try.prog W base spare held n 9 [c0] = ys[0]? := h0
  have h1 : DataW.trod enc Try.prog W base spare held n 22 (([c0, c1, c2, c3, c4, c5].drop 1).take (Try.prog.cellsOf 22)) = ys[1]? := hf 1 _ rfl
  rw [show Try.prog.cellsOf 22 = 1 from by kernel_rfl] at h1
  replace h1 : DataW.trod enc Try.prog W base spare held n 22 [c1] = ys[1]? := h1
  have h2 : DataW.trod enc Try.prog W base spare held n 26 (([c0, c1, c2, c3, c4, c5].drop 2).take (Try.prog.cellsOf 26)) = ys[2]? := hf 2 _ rfl
  rw [show Try.prog.cellsOf 26 = 4 from by kernel_rfl] at h2
  replace h2 : DataW.trod enc Try.prog W base spare held n 26 [c2, c3, c4, c5] = ys[2]? := h2
  have hy : ∀ j, j < 3 → ys[j]? = some (ys[j]?.getD (.nil, [])) := fun j hj => by
   have : j < ys.length := by rw [hyl]; exact hj
   simp [this]
  rw [hy _ (by omega)] at h0 h1 h2
  obtain ⟨s, r0⟩ := arg_str h0
  obtain ⟨l, r1⟩ := arg_decls h1
  obtain ⟨t, r2⟩ := arg_node n h2
  refine ⟨⟨s, l, t⟩, ?_⟩
  have := R_cat r0 (R_cat r1 (R_cat r2 R_none))
  rw [dN_cells] at this
  exact this
set_option maxRecDepth 100000 in
theorem arg_procs {fuel : Nat} {c : Value} {x : DataW H × List MemPlace} (h : DataW.trod enc Try.prog W base spare held fuel 23 [c] = some x) : ∃ l : List Pr, R W (gW W) (sl 6 (l.map dP)) [c] :=
 arg_slice (f := dP) ⟨⟨#[]⟩, [], .mk 0 0 ⟨#[]⟩ []⟩ und_api_Proc siz_api_Proc (fun m _ => arg_proc m) (fun _ => rfl) (by omega) h
set_option maxRecDepth 100000 in
theorem arg_prog (fuel : Nat) {cs : List Value} {x : DataW H × List MemPlace} (h : DataW.trod enc Try.prog W base spare held fuel 28 cs = some x) : ∃ p : Pg, R W (gW W) (dG p) cs := by
 obtain ⟨ys, n, rfl, _, hlen, hyl, hf⟩ := DataW.trod_struct Try.underlying28 h
 rw [show Try.prog.cellsOf 28 = 6 from by kernel_rfl] at hlen
 match cs, hlen with
 | [c0, c1, c2, c3, c4, c5], _ =>
  have h0 : DataW.trod enc Try.prog W base spare held n 22 (([c0, c1, c2, c3, c4, c5].drop 0).take (Try.prog.cellsOf 22)) = ys[0]? := hf 0 _ rfl
  rw [show Try.prog.cellsOf 22 = 1 from by kernel_rfl] at h0
  replace h0 : DataW.trod enc Try.prog W base spare held n 22 [c0] = ys[0]? := h0
  have h1 : DataW.trod enc Try.prog W base spare held n 23 (([c0, c1, c2, c3, c4, c5].drop 1).take (Try.prog.cellsOf 23)) = ys[1]? := hf 1 _ rfl
  rw [show Try.prog.cellsOf 23 = 1 from by kernel_rfl] at h1
  replace h1 : DataW.trod enc Try.prog W base spare held n 23 [c1] = ys[1]? := h1
  have h2 : DataW.trod enc Try.prog W base spare held n 26 (([c0, c1, c2, c3, c4, c5].drop 2).take (Try.prog.cellsOf 26)) = ys[2]? := hf 2 _ rfl
  rw [show Try.prog.cellsOf 26 = 4 from by kernel_rfl] at h2
  replace h2 : DataW.trod enc Try.prog W base spare held n 26 [c2, c3, c4, c5] = ys[2]? := h2
  have hy : ∀ j, j < 3 → ys[j]? = some (ys[j]?.getD (.nil, [])) := fun j hj => by
   have : j < ys.length := by rw [hyl]; exact hj
   simp [this]
  rw [hy _ (by omega)] at h0 h1 h2
  obtain ⟨l, r0⟩ := arg_decls h0
  obtain ⟨q, r1⟩ := arg_procs h1
  obtain ⟨t, r2⟩ := arg_node n h2
  refine ⟨⟨l, q, t⟩, ?_⟩
  have := R_cat r0 (R_cat r1 (R_cat r2 R_none))
  rw [dN_cells] at this
  exact this
set_option maxRecDepth 100000 in
/-- an argument of a struct's type -/
theorem arg_agg {r : Reach} {b0 : Nat} {t : TypeId} {fs : Array Field} {v : Value} {d : DataW H} {p : List MemPlace} (hu : Try.prog.underlying t = some (.struct fs)) (hv : Value.okWide Try.prog W r b0 t v) (h : DataW.Trod enc Try.prog W base spare held t v d p) {α : Type} {f : α → D}
  (hf : ∀ a, (f a).isAgg = true) (hr : ∀ (fuel : Nat) {cs : List Value} {x : DataW H × List MemPlace}, DataW.trod enc Try.prog W base spare held fuel t cs = some x → ∃ a, R W (gW W) (f a) cs) : ∃ a, val W (gW W) (f a) v := by
 obtain ⟨cs, rfl, _⟩ := okWide_struct hu hv
 obtain ⟨fuel, hfu⟩ := h
 obtain ⟨a, ha⟩ := hr fuel hfu
 refine ⟨a, val.of1 ⟨_, ha, ?_⟩⟩
 have := hf a
 cases hq : f a <;> rw [hq] at this <;> simp [D.isAgg] at this
 simp [pack, Value.cells]
end

end Go.Proofs.Ytmglacjcefajlaa
