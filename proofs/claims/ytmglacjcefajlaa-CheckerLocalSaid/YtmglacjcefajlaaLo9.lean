/- The rejections of two blocks one after the other: plain facts. -/
import Derived.Test.YtmglacjcefajlaaPl9b
namespace Go.Proofs.Ytmglacjcefajlaa
open Go.RowKit

mutual
theorem walk_ahead (q : List Int) : ∀ (t : Tr) (p : List Int), walkL (q ++ p) t = (walkL p t).map (fun x => (q ++ x.1, x.2))
 | .mk k n s c, p => by
  simp only [walkL, zmc]
  rw [walks_ahead q c p 0]
theorem walks_ahead (q : List Int) : ∀ (c : List Tr) (p : List Int) (i : Nat), walksL (q ++ p) i c = (walksL p i c).map (fun x => (q ++ x.1, x.2))
 | [], _, _ => rfl
 | t :: r, p, i => by
  simp only [walksL, List.map_append]
  rw [zaa, walk_ahead q t (p ++ [(i : Int)]), walks_ahead q r p (i + 1)]
end
/-- a path whose first step is moved -/
def shP (k : Nat) : List Int → List Int
 | [] => []
 | x :: r => (x + (k : Int)) :: r
def shF (k : Nat) (f : Ft) : Ft := { f with path := shP k f.path }
theorem rejF_sh (pr : Int) (k : Nat) (x : List Int × Tr) : rejF pr (shP k x.1, x.2) = (rejF pr x).map (shF k) := by
 unfold rejF rep
 split <;> rfl
theorem walks_sh (k : Nat) : ∀ (c : List Tr) (i : Nat), walksL [] (i + k) c = (walksL [] i c).map (fun x => (shP k x.1, x.2))
 | [], _ => rfl
 | t :: r, i => by
  simp only [walksL, List.map_append, zna]
  rw [show i + k + 1 = (i + 1) + k by omega, walks_sh k r (i + 1)]
  congr 1
  have h1 := walk_ahead [((i + k : Nat) : Int)] t []
  have h2 := walk_ahead [(i : Int)] t []
  rw [List.append_nil] at h1 h2
  rw [h1, h2, List.map_map]
  refine List.map_congr_left fun x _ => ?_
  simp [shP]
theorem kidsF_sh (pr : Int) (k : Nat) (c : List Tr) (i : Nat) : kidsF pr (i + k) c = (kidsF pr i c).map (shF k) := by
 unfold kidsF
 rw [walks_sh, List.flatMap_map, List.map_flatMap]
 congr 1
 funext x
 exact rejF_sh pr k x
theorem kidsF_path {pr : Int} : ∀ {c : List Tr} {i : Nat} {f : Ft}, f ∈ kidsF pr i c → ∃ (j : Nat) (r : List Int), i ≤ j ∧ j < i + c.length ∧ f.path = (j : Int) :: r
 | [], _, _, h => by simp [kidsF, walksL] at h
 | t :: r, i, f, h => by
  rw [kidsF_cons] at h
  rcases List.mem_append.1 h with h | h
  ·obtain ⟨x, hx, hf⟩ := List.mem_flatMap.1 h
   have h2 := walk_ahead [(i : Int)] t []
   rw [List.append_nil] at h2
   rw [h2] at hx
   obtain ⟨y, _, rfl⟩ := List.mem_map.1 hx
   exact ⟨i, y.1, Nat.le_refl _, by simp, by rw [rejF_path f hf]; rfl⟩
  ·obtain ⟨j, s, h1, h2, h3⟩ := kidsF_path h
   exact ⟨j, s, by omega, by simp only [zlc]; omega, h3⟩
/-- the rejections of the main block of p with other statements -/
theorem part_eq {p : Pg} (hv : validB p = true) (hc : checkF p = []) {c : List Tr} (hs : c.Sublist p.main.kids) : (chkF (withM p c)).filter (fun f => f.proc == -1) = kidsF (-1) 0 c := by
 obtain ⟨h4, h5⟩ := withM_ok hv hc hs
 rw [chk_main h4 h5, bodyF_block (by simp [withM, Tr.kind])]
 rfl
theorem part_join (pr : Int) (c : List Tr) (k : Nat) (hk : k ≤ c.length) : kidsF pr 0 (c.take k) ++ (kidsF pr 0 (c.drop k)).map (shF k) = kidsF pr 0 c := by
 rw [← kidsF_sh pr k (c.drop k) 0, show 0 + k = 0 + (c.take k).length by rw [List.length_take]; omega, ← kidsF_app, List.take_append_drop]
end Go.Proofs.Ytmglacjcefajlaa
