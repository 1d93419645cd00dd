/- Arguments of the rows about layouts. -/
import Derived.Test.YthgdibdapjaljaaAgs
import Derived.Test.YthgdibdapjaljaaLa1
namespace Go.Proofs.Ythgdibdapjaljaa
open Go.ChangeShapes Go.WideShapes Go.ChangeAt Go.RowKit

section
variable {H : Type} {enc : TypeId × Value → H} {W : World} {base : Nat} {spare : Nat → Bool} {held : Bool}
set_option maxRecDepth 100000 in
theorem arg_slot (fuel : Nat) {cs : List Value} {x : DataW H × List MemPlace} (h : DataW.trod enc Try.prog W base spare held fuel 27 cs = some x) : ∃ v : Slt, R W (gW W) (dSl v) cs := by
 obtain ⟨ys, n, rfl, _, hlen, hyl, hf⟩ := DataW.trod_struct Try.underlying27 h
 rw [show Try.prog.cellsOf 27 = 4 from by kernel_rfl] at hlen
 match cs, hlen with
 | [c0, c1, c2, c3], _ =>
  have h0 : DataW.trod enc Try.prog W base spare held n 9 (([c0, c1, c2, c3].drop 0).take (Try.prog.cellsOf 9)) = ys[0]? := hf 0 _ rfl
  rw [show Try.prog.cellsOf 9 = 1 from by kernel_rfl] at h0
  replace h0 : DataW.trod enc Try.prog W base spare held n 9 [c0] = ys[0]? := h0
  have h1 : DataW.trod enc Try.prog W base spare held n 5 (([c0, c1, c2, c3].drop 1).take (Try.prog.cellsOf 5)) = ys[1]? := hf 1 _ rfl
  rw [show Try.prog.cellsOf 5 = 1 from by kernel_rfl] at h1
  replace h1 : DataW.trod enc Try.prog W base spare held n 5 [c1] = ys[1]? := h1
  have h2 : DataW.trod enc Try.prog W base spare held n 3 (([c0, c1, c2, c3].drop 2).take (Try.prog.cellsOf 3)) = ys[2]? := hf 2 _ rfl
  rw [show Try.prog.cellsOf 3 = 1 from by kernel_rfl] at h2
  replace h2 : DataW.trod enc Try.prog W base spare held n 3 [c2] = ys[2]? := h2
  have h3 : DataW.trod enc Try.prog W base spare held n 3 (([c0, c1, c2, c3].drop 3).take (Try.prog.cellsOf 3)) = ys[3]? := hf 3 _ rfl
  rw [show Try.prog.cellsOf 3 = 1 from by kernel_rfl] at h3
  replace h3 : DataW.trod enc Try.prog W base spare held n 3 [c3] = ys[3]? := h3
  have hy : ∀ j, j < 4 → ys[j]? = some (ys[j]?.getD (.nil, [])) := fun j hj => by
   have : j < ys.length := by rw [hyl]; exact hj
   simp [this]
  rw [hy _ (by omega)] at h0 h1 h2 h3
  obtain ⟨s, r0⟩ := arg_str h0
  obtain ⟨k, r1⟩ := arg_u8 h1
  obtain ⟨m, r2⟩ := arg_i64 h2
  obtain ⟨a, r3⟩ := arg_i64 h3
  exact ⟨⟨s, k, m, a⟩, R_cat r0 (R_cat r1 (R_cat r2 (R_cat r3 R_none)))⟩
set_option maxRecDepth 100000 in
theorem arg_slots {fuel : Nat} {c : Value} {x : DataW H × List MemPlace} (h : DataW.trod enc Try.prog W base spare held fuel 22 [c] = some x) : ∃ l : List Slt, R W (gW W) (sl 4 (l.map dSl)) [c] :=
 arg_slice (f := dSl) noS und_layout_Slot siz_layout_Slot (fun m _ => arg_slot m) (fun _ => rfl) (by omega) h
set_option maxRecDepth 100000 in
theorem arg_frame (fuel : Nat) {cs : List Value} {x : DataW H × List MemPlace} (h : DataW.trod enc Try.prog W base spare held fuel 24 cs = some x) : ∃ f : Fm, R W (gW W) (dFm f) cs := by
 obtain ⟨ys, n, rfl, _, hlen, hyl, hf⟩ := DataW.trod_struct Try.underlying24 h
 rw [show Try.prog.cellsOf 24 = 3 from by kernel_rfl] at hlen
 match cs, hlen with
 | [c0, c1, c2], _ =>
  have h0 : DataW.trod enc Try.prog W base spare held n 22 (([c0, c1, c2].drop 0).take (Try.prog.cellsOf 22)) = ys[0]? := hf 0 _ rfl
  rw [show Try.prog.cellsOf 22 = 1 from by kernel_rfl] at h0
  replace h0 : DataW.trod enc Try.prog W base spare held n 22 [c0] = ys[0]? := h0
  have h1 : DataW.trod enc Try.prog W base spare held n 3 (([c0, c1, c2].drop 1).take (Try.prog.cellsOf 3)) = ys[1]? := hf 1 _ rfl
  rw [show Try.prog.cellsOf 3 = 1 from by kernel_rfl] at h1
  replace h1 : DataW.trod enc Try.prog W base spare held n 3 [c1] = ys[1]? := h1
  have h2 : DataW.trod enc Try.prog W base spare held n 3 (([c0, c1, c2].drop 2).take (Try.prog.cellsOf 3)) = ys[2]? := hf 2 _ rfl
  rw [show Try.prog.cellsOf 3 = 1 from by kernel_rfl] at h2
  replace h2 : DataW.trod enc Try.prog W base spare held n 3 [c2] = ys[2]? := h2
  have hy : ∀ j, j < 3 → ys[j]? = some (ys[j]?.getD (.nil, [])) := fun j hj => by
   have : j < ys.length := by rw [hyl]; exact hj
   simp [this]
  rw [hy _ (by omega)] at h0 h1 h2
  obtain ⟨l, r0⟩ := arg_slots h0
  obtain ⟨m, r1⟩ := arg_i64 h1
  obtain ⟨a, r2⟩ := arg_i64 h2
  exact ⟨⟨l, m, a⟩, R_cat r0 (R_cat r1 (R_cat r2 R_none))⟩
end
section
variable {H : Type} {enc : TypeId × Value → H} {W : World} {base : Nat} {spare : Nat → Bool} {held : Bool} {r : Reach} {b0 : Nat} {v : Value} {d : DataW H} {p : List MemPlace}
set_option maxRecDepth 100000 in
theorem arg_decls1 (hv : Value.okWide Try.prog W r b0 38 v) (h : DataW.Trod enc Try.prog W base spare held 38 v d p) : ∃ l : List Vd, val W (gW W) (sl 3 (l.map dV)) v := by
 obtain ⟨a, len, cap, rfl⟩ := okWide_slice und_api_VarDecl hv
 exact arg_one (_r := r) (_b0 := b0) (f := fun l : List Vd => sl 3 (l.map dV)) rfl h (fun _ => rfl) (fun hq => arg_decls hq)
set_option maxRecDepth 100000 in
theorem arg_str1 (hv : Value.okWide Try.prog W r b0 9 v) (h : DataW.Trod enc Try.prog W base spare held 9 v d p) : ∃ s : ByteArray, val W (gW W) (dS s) v := by
 obtain ⟨s, rfl⟩ := okWide_string Try.underlying9 hv
 exact arg_one (_r := r) (_b0 := b0) (f := dS) rfl h (fun _ => rfl) (fun hq => arg_str hq)
end

end Go.Proofs.Ythgdibdapjaljaa
