/- Arguments as data of the machine: structs. -/
import Derived.Test.YtjikokmhknnnoaaArg
namespace Go.Proofs.Ytjikokmhknnnoaa
open Go.ChangeShapes Go.WideShapes Go.ChangeAt Go.RowKit

section
variable {H : Type} {enc : TypeId × Value → H} {W : World} {base : Nat} {spare : Nat → Bool} {held : Bool}

set_option maxRecDepth 100000 in
theorem R_cat {w : World} {g : Gh} {d : D} {l : List D} {cs ds : List Value} (h : R w g d cs) (k : R w g (.agg l) ds) : R w g (.agg (d.cells ++ l)) (cs ++ ds) := R_agg_append h.cell k
set_option maxRecDepth 100000 in
theorem R_none {w : World} {g : Gh} : R w g (.agg []) [] := .agg [] [] rfl (fun _j h => absurd h (Nat.not_lt_zero _))

set_option maxRecDepth 100000 in
theorem arg_node (fuel : Nat) : ∀ {cs : List Value} {x : DataW H × List MemPlace}, DataW.trod enc Try.prog W base spare held fuel 28 cs = some x → ∃ t : Tr, R W (gW W) (dN t) cs := by
  induction fuel using Nat.strongRecOn with
  | ind fuel ih =>
  intro cs x h
  obtain ⟨ys, n, rfl, _, hlen, hyl, hf⟩ := DataW.trod_struct Try.underlying28 h
  rw [show Try.prog.cellsOf 28 = 4 from by kernel_rfl] at hlen
  match cs, hlen with
  | [c0, c1, c2, c3], _ =>
    have h0 : DataW.trod enc Try.prog W base spare held n 5 (([c0, c1, c2, c3].drop 0).take (Try.prog.cellsOf 5)) = ys[0]? := hf 0 _ rfl
    rw [show Try.prog.cellsOf 5 = 1 from by kernel_rfl] at h0
    replace h0 : DataW.trod enc Try.prog W base spare held n 5 [c0] = ys[0]? := h0
    have h1 : DataW.trod enc Try.prog W base spare held n 3 (([c0, c1, c2, c3].drop 1).take (Try.prog.cellsOf 3)) = ys[1]? := hf 1 _ rfl
    rw [show Try.prog.cellsOf 3 = 1 from by kernel_rfl] at h1
    replace h1 : DataW.trod enc Try.prog W base spare held n 3 [c1] = ys[1]? := h1
    have h2 : DataW.trod enc Try.prog W base spare held n 9 (([c0, c1, c2, c3].drop 2).take (Try.prog.cellsOf 9)) = ys[2]? := hf 2 _ rfl
    rw [show Try.prog.cellsOf 9 = 1 from by kernel_rfl] at h2
    replace h2 : DataW.trod enc Try.prog W base spare held n 9 [c2] = ys[2]? := h2
    have h3 : DataW.trod enc Try.prog W base spare held n 26 (([c0, c1, c2, c3].drop 3).take (Try.prog.cellsOf 26)) = ys[3]? := hf 3 _ rfl
    rw [show Try.prog.cellsOf 26 = 1 from by kernel_rfl] at h3
    replace h3 : DataW.trod enc Try.prog W base spare held n 26 [c3] = ys[3]? := h3
    have hy : ∀ j, j < 4 → ys[j]? = some (ys[j]?.getD (.nil, [])) := fun j hj => by
      have : j < ys.length := by rw [hyl]; exact hj
      simp [this]
    rw [hy _ (by omega)] at h0 h1 h2 h3
    obtain ⟨k, r0⟩ := arg_u8 h0
    obtain ⟨m, r1⟩ := arg_i64 h1
    obtain ⟨s, r2⟩ := arg_str h2
    obtain ⟨c, r3⟩ := arg_slice (f := dN) (.mk 0 0 ⟨#[]⟩ []) und_api_Node siz_api_Node (fun m hm => ih m (by omega)) (fun a => by rw [dN_cells]; rfl) (by omega) h3
    refine ⟨.mk k m s c, ?_⟩
    rw [dN_eq]
    exact R_cat r0 (R_cat r1 (R_cat r2 (R_cat r3 R_none)))
set_option maxRecDepth 100000 in
theorem arg_decl (fuel : Nat) {cs : List Value} {x : DataW H × List MemPlace} (h : DataW.trod enc Try.prog W base spare held fuel 34 cs = some x) : ∃ v : Vd, R W (gW W) (dV v) cs := by
  obtain ⟨ys, n, rfl, _, hlen, hyl, hf⟩ := DataW.trod_struct Try.underlying34 h
  rw [show Try.prog.cellsOf 34 = 3 from by kernel_rfl] at hlen
  match cs, hlen with
  | [c0, c1, c2], _ =>
    have h0 : DataW.trod enc Try.prog W base spare held n 9 (([c0, c1, c2].drop 0).take (Try.prog.cellsOf 9)) = ys[0]? := hf 0 _ rfl
    rw [show Try.prog.cellsOf 9 = 1 from by kernel_rfl] at h0
    replace h0 : DataW.trod enc Try.prog W base spare held n 9 [c0] = ys[0]? := h0
    have h1 : DataW.trod enc Try.prog W base spare held n 5 (([c0, c1, c2].drop 1).take (Try.prog.cellsOf 5)) = ys[1]? := hf 1 _ rfl
    rw [show Try.prog.cellsOf 5 = 1 from by kernel_rfl] at h1
    replace h1 : DataW.trod enc Try.prog W base spare held n 5 [c1] = ys[1]? := h1
    have h2 : DataW.trod enc Try.prog W base spare held n 3 (([c0, c1, c2].drop 2).take (Try.prog.cellsOf 3)) = ys[2]? := hf 2 _ rfl
    rw [show Try.prog.cellsOf 3 = 1 from by kernel_rfl] at h2
    replace h2 : DataW.trod enc Try.prog W base spare held n 3 [c2] = ys[2]? := h2
    have hy : ∀ j, j < 3 → ys[j]? = some (ys[j]?.getD (.nil, [])) := fun j hj => by
      have : j < ys.length := by rw [hyl]; exact hj
      simp [this]
    rw [hy _ (by omega)] at h0 h1 h2
    obtain ⟨s, r0⟩ := arg_str h0
    obtain ⟨k, r1⟩ := arg_u8 h1
    obtain ⟨m, r2⟩ := arg_i64 h2
    exact ⟨⟨s, k, m⟩, R_cat r0 (R_cat r1 (R_cat r2 R_none))⟩
set_option maxRecDepth 100000 in
theorem arg_decls {fuel : Nat} {c : Value} {x : DataW H × List MemPlace} (h : DataW.trod enc Try.prog W base spare held fuel 22 [c] = some x) : ∃ l : List Vd, R W (gW W) (sl 3 (l.map dV)) [c] :=
  arg_slice (f := dV) ⟨⟨#[]⟩, 0, 0⟩ und_api_VarDecl siz_api_VarDecl (fun m _ => arg_decl m) (fun _ => rfl) (by omega) h
set_option maxRecDepth 100000 in
theorem arg_proc (fuel : Nat) {cs : List Value} {x : DataW H × List MemPlace} (h : DataW.trod enc Try.prog W base spare held fuel 32 cs = some x) : ∃ p : Pr, R W (gW W) (dP p) cs := by
  obtain ⟨ys, n, rfl, _, hlen, hyl, hf⟩ := DataW.trod_struct Try.underlying32 h
  rw [show Try.prog.cellsOf 32 = 6 from by kernel_rfl] at hlen
  match cs, hlen with
  | [c0, c1, c2, c3, c4, c5], _ =>
    have h0 : DataW.trod enc Try.prog W base spare held n 9 (([c0, c1, c2, c3, c4, c5].drop 0).take (Try.prog.cellsOf 9)) = ys[0]? := hf 0 _ rfl
    rw [show Try.prog.cellsOf 9 = 1 from by kernel_rfl] at h0
    replace h0 : DataW.trod enc Try.prog W base spare held n 9 [c0] = ys[0]? := h0
    have h1 : DataW.trod enc Try.prog W base spare held n 22 (([c0, c1, c2, c3, c4, c5].drop 1).take (Try.prog.cellsOf 22)) = ys[1]? := hf 1 _ rfl
    rw [show Try.prog.cellsOf 22 = 1 from by kernel_rfl] at h1
    replace h1 : DataW.trod enc Try.prog W base spare held n 22 [c1] = ys[1]? := h1
    have h2 : DataW.trod enc Try.prog W base spare held n 28 (([c0, c1, c2, c3, c4, c5].drop 2).take (Try.prog.cellsOf 28)) = ys[2]? := hf 2 _ rfl
    rw [show Try.prog.cellsOf 28 = 4 from by kernel_rfl] at h2
    replace h2 : DataW.trod enc Try.prog W base spare held n 28 [c2, c3, c4, c5] = ys[2]? := h2
    have hy : ∀ j, j < 3 → ys[j]? = some (ys[j]?.getD (.nil, [])) := fun j hj => by
      have : j < ys.length := by rw [hyl]; exact hj
      simp [this]
    rw [hy _ (by omega)] at h0 h1 h2
    obtain ⟨s, r0⟩ := arg_str h0
    obtain ⟨l, r1⟩ := arg_decls h1
    obtain ⟨t, r2⟩ := arg_node n h2
    refine ⟨⟨s, l, t⟩, ?_⟩
    have := R_cat r0 (R_cat r1 (R_cat r2 R_none))
    rw [dN_cells] at this
    exact this
set_option maxRecDepth 100000 in
theorem arg_procs {fuel : Nat} {c : Value} {x : DataW H × List MemPlace} (h : DataW.trod enc Try.prog W base spare held fuel 25 [c] = some x) : ∃ l : List Pr, R W (gW W) (sl 6 (l.map dP)) [c] :=
  arg_slice (f := dP) ⟨⟨#[]⟩, [], .mk 0 0 ⟨#[]⟩ []⟩ und_api_Proc siz_api_Proc (fun m _ => arg_proc m) (fun _ => rfl) (by omega) h
set_option maxRecDepth 100000 in
theorem arg_prog (fuel : Nat) {cs : List Value} {x : DataW H × List MemPlace} (h : DataW.trod enc Try.prog W base spare held fuel 30 cs = some x) : ∃ p : Pg, R W (gW W) (dG p) cs := by
  obtain ⟨ys, n, rfl, _, hlen, hyl, hf⟩ := DataW.trod_struct Try.underlying30 h
  rw [show Try.prog.cellsOf 30 = 6 from by kernel_rfl] at hlen
  match cs, hlen with
  | [c0, c1, c2, c3, c4, c5], _ =>
    have h0 : DataW.trod enc Try.prog W base spare held n 22 (([c0, c1, c2, c3, c4, c5].drop 0).take (Try.prog.cellsOf 22)) = ys[0]? := hf 0 _ rfl
    rw [show Try.prog.cellsOf 22 = 1 from by kernel_rfl] at h0
    replace h0 : DataW.trod enc Try.prog W base spare held n 22 [c0] = ys[0]? := h0
    have h1 : DataW.trod enc Try.prog W base spare held n 25 (([c0, c1, c2, c3, c4, c5].drop 1).take (Try.prog.cellsOf 25)) = ys[1]? := hf 1 _ rfl
    rw [show Try.prog.cellsOf 25 = 1 from by kernel_rfl] at h1
    replace h1 : DataW.trod enc Try.prog W base spare held n 25 [c1] = ys[1]? := h1
    have h2 : DataW.trod enc Try.prog W base spare held n 28 (([c0, c1, c2, c3, c4, c5].drop 2).take (Try.prog.cellsOf 28)) = ys[2]? := hf 2 _ rfl
    rw [show Try.prog.cellsOf 28 = 4 from by kernel_rfl] at h2
    replace h2 : DataW.trod enc Try.prog W base spare held n 28 [c2, c3, c4, c5] = ys[2]? := h2
    have hy : ∀ j, j < 3 → ys[j]? = some (ys[j]?.getD (.nil, [])) := fun j hj => by
      have : j < ys.length := by rw [hyl]; exact hj
      simp [this]
    rw [hy _ (by omega)] at h0 h1 h2
    obtain ⟨l, r0⟩ := arg_decls h0
    obtain ⟨q, r1⟩ := arg_procs h1
    obtain ⟨t, r2⟩ := arg_node n h2
    refine ⟨⟨l, q, t⟩, ?_⟩
    have := R_cat r0 (R_cat r1 (R_cat r2 R_none))
    rw [dN_cells] at this
    exact this
set_option maxRecDepth 100000 in
theorem arg_ints {fuel : Nat} {c : Value} {x : DataW H × List MemPlace} (h : DataW.trod enc Try.prog W base spare held fuel 48 [c] = some x) : ∃ l : List Int, R W (gW W) (sl 1 (l.map dI)) [c] :=
  arg_slice (f := dI) 0 und_int siz_int (fun m _ {cs y} hy => by
    match cs, hy with
    | [c], hy => exact arg_i64 hy
    | [], hy => exact absurd (DataW.trod_int Try.underlying3 hy).choose_spec.1 (by simp)
    | _ :: _ :: _, hy => exact absurd (DataW.trod_int Try.underlying3 hy).choose_spec.1 (by simp)) (fun _ => rfl) (by omega) h

set_option maxRecDepth 100000 in
/-- an argument of a struct's type -/
theorem arg_agg {r : Reach} {b0 : Nat} {t : TypeId} {fs : Array Field} {v : Value} {d : DataW H} {p : List MemPlace} (hu : Try.prog.underlying t = some (.struct fs)) (hv : Value.okWide Try.prog W r b0 t v) (h : DataW.Trod enc Try.prog W base spare held t v d p) {α : Type} {f : α → D}
    (hf : ∀ a, (f a).isAgg = true) (hr : ∀ (fuel : Nat) {cs : List Value} {x : DataW H × List MemPlace}, DataW.trod enc Try.prog W base spare held fuel t cs = some x → ∃ a, R W (gW W) (f a) cs) : ∃ a, val W (gW W) (f a) v := by
  obtain ⟨cs, rfl, _⟩ := okWide_struct hu hv
  obtain ⟨fuel, hfu⟩ := h
  obtain ⟨a, ha⟩ := hr fuel hfu
  refine ⟨a, val.of1 ⟨_, ha, ?_⟩⟩
  have := hf a
  cases hq : f a <;> rw [hq] at this <;> simp [D.isAgg] at this
  simp [pack, Value.cells]
set_option maxRecDepth 100000 in
theorem arg_one {_r : Reach} {_b0 : Nat} {t : TypeId} {v : Value} {d : DataW H} {p : List MemPlace} (h1 : v.cells.toList = [v]) (h : DataW.Trod enc Try.prog W base spare held t v d p) {α : Type} {f : α → D}
    (hf : ∀ a, (f a).isAgg = false) (hr : ∀ {fuel : Nat} {c : Value} {x : DataW H × List MemPlace}, DataW.trod enc Try.prog W base spare held fuel t [c] = some x → ∃ a, R W (gW W) (f a) [c]) : ∃ a, val W (gW W) (f a) v := by
  obtain ⟨fuel, hfu⟩ := h
  rw [h1] at hfu
  obtain ⟨a, ha⟩ := hr hfu
  exact ⟨a, val_of_R ha (hf a)⟩
end

end Go.Proofs.Ytjikokmhknnnoaa
