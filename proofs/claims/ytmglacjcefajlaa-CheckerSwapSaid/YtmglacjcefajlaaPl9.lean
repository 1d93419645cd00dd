/- Rejections of parts of a program: plain facts. -/
import Derived.Test.YtmglacjcefajlaaCk3
namespace Go.Proofs.Ytmglacjcefajlaa
open Go.RowKit
theorem SameF.rfl (all : Bool) (f : Ft) : SameF all f f := ⟨Eq.refl _, Eq.refl _, Eq.refl _, fun _ => Eq.refl _⟩
theorem rejF_path {pr : Int} {x : List Int × Tr} : ∀ f ∈ rejF pr x, f.path = x.1 := fun f hf => by
 obtain ⟨rfl, _⟩ := rep_mem hf; rfl
theorem bodyF_plen {pr : Int} {t : Tr} : ∀ f ∈ bodyF pr t, f.path.length ≤ t.size := fun f hf => by
 obtain ⟨x, hx, h⟩ := List.mem_flatMap.1 hf
 rw [rejF_path f h]
 have := walkL_plen t [] x hx; simpa using this
theorem rejs_plen {B : Nat} : ∀ (c : List Pr) (i : Nat), (∀ q ∈ c, q.body.size ≤ B) → ∀ f ∈ rejsF c i, f.path.length ≤ B
 | [], _, _, f, h => by cases h
 | c :: r, i, hq, f, h => by
  simp only [rejsF] at h
  rcases List.mem_append.1 h with h | h
  ·exact Nat.le_trans (bodyF_plen f h) (hq c (by simp))
  ·exact rejs_plen r (i + 1) (fun q h' => hq q (by simp [h'])) f h
theorem rejsF_len {B : Nat} : ∀ (c : List Pr) (i : Nat), (∀ q ∈ c, q.body.size ≤ B) → (rejsF c i).length ≤ B * c.length
 | [], _, _ => by simp [rejsF]
 | c :: r, i, hq => by
  have h1 := bodyF_len i c.body
  have h2 := hq c (by simp)
  have h3 := rejsF_len r (i + 1) (fun q h' => hq q (by simp [h']))
  simp only [rejsF, zla, zlc, Nat.mul_add, Nat.mul_one]; omega
theorem chk_bd (p : Pg) : (chkF p).length ≤ 1000000 ∧ ∀ f ∈ chkF p, f.path.length ≤ 1000000 := by
 unfold chkF
 split
 ·rename_i h
  obtain ⟨b1, b2, b3, b4, _⟩ := valid_bd h.1
  have hb : ∀ q ∈ p.procs, q.body.size ≤ 2000 := fun q hq => (b3 q hq).2.1
  have h1 := rejsF_len p.procs 0 hb
  have h2 := bodyF_len (-1) p.main
  refine ⟨by rw [zla]; omega, fun f hf => ?_⟩
  rcases List.mem_append.1 hf with hf | hf
  ·have := rejs_plen p.procs 0 hb f hf; omega
  ·have := bodyF_plen f hf; omega
 ·exact ⟨by simp, fun f hf => by cases hf⟩
end Go.Proofs.Ytmglacjcefajlaa
