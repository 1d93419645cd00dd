/- Slices of ints: read, cloned. -/
import Derived.Test.YtkngdmilgfgclaaRepP
import Derived.Test.YtkngdmilgfgclaaKinds
import Derived.WalkSpells
import Derived.Lib.SliceRun
namespace Go.Proofs.Ytkngdmilgfgclaa
open Go.RowKit Go.Shelf

/-- the slice value v reads as the ints p; its cells lie in a block that is ok -/
def IntsAt (w : World) (ok : Nat → Prop) (v : Value) (p : List Int) : Prop :=
  ∃ (A : Option Addr) (cap : Nat), v = .slice A p.length cap ∧ p.length ≤ cap ∧ cap ≤ 9223372036854775807 ∧ (A = none → cap = 0) ∧
    ∀ (j : Nat) (h : j < p.length), ∃ b off, A = some ⟨b, off, none⟩ ∧ ok b ∧ w.cell? ⟨b, off + j, none⟩ = some (.int .i64 p[j])

theorem IntsAt.keep {w w' : World} {ok ok' : Nat → Prop} {v : Value} {p : List Int} (h : IntsAt w ok v p) (hB : ∀ b, ok b → ok' b) (hk : ∀ b o, ok b → w'.cell? ⟨b, o, none⟩ = w.cell? ⟨b, o, none⟩) : IntsAt w' ok' v p := by
  obtain ⟨A, cap, hv, h1, h2, hn, hc⟩ := h
  refine ⟨A, cap, hv, h1, h2, hn, fun j hj => ?_⟩
  obtain ⟨b, off, hA, hb, hcell⟩ := hc j hj
  exact ⟨b, off, hA, hB b hb, by rw [hk b _ hb]; exact hcell⟩
theorem IntsAt.nil (w : World) (ok : Nat → Prop) : IntsAt w ok (.slice none 0 0) [] := ⟨none, 0, rfl, Nat.le_refl _, by omega, fun _ => rfl, fun j h => absurd h (Nat.not_lt_zero _)⟩
theorem IntsAt.weak {w : World} {ok ok' : Nat → Prop} {v : Value} {p : List Int} (h : IntsAt w ok v p) (hB : ∀ b, ok b → ok' b) : IntsAt w ok' v p := h.keep hB (fun _ _ _ => rfl)
theorem IntsAt.below {w w' : World} {v : Value} {p : List Int} (h : IntsAt w (fun b => b < w.heap.size) v p) (hb : Below w.heap.size w w') : IntsAt w' (fun b => b < w'.heap.size) v p :=
  h.keep (fun _ hb' => Nat.lt_of_lt_of_le hb' hb.size) (fun b o hb' => hb.cell (p := ⟨b, o, none⟩) hb')

/-- a row of ints of the call's own -/
theorem IntsAt.of_own {w : World} {base : Nat} {e : TypeId} {v : Value} {p : List Int} (h : w.ownsRow base e 1 v p.length (p.map (Value.int .i64))) : IntsAt w (fun b => v.ownBlock = some b ∧ base ≤ b ∧ b < w.heap.size) v p := by
  rcases h.2 with ⟨rfl, h0⟩ | ⟨g, cap, cur, rfl, hb, hg, hnc, hcm, hcs, htake⟩
  · have : p = [] := List.eq_nil_of_length_eq_zero h0
    subst this
    exact IntsAt.nil _ _
  · have hlt := (Array.getElem?_eq_some_iff.1 hg).1
    refine ⟨some ⟨g, 0, none⟩, cap, rfl, hnc, by simpa [maxLen] using hcm, (fun e => by cases e), fun j hj => ⟨g, 0, rfl, ⟨rfl, hb, hlt⟩, ?_⟩⟩
    have := h.cells (g := g) rfl j (.int .i64 p[j]) (by simp [hj])
    have hadd : (⟨g, 0, none⟩ : Addr).add j = ⟨g, j, none⟩ := by unfold Addr.add; split <;> simp_all
    rw [hadd] at this
    simpa using this

theorem infoInt : (Try.prog.info? 3).map (fun i => (i.zero, i.size, i.bytes)) = some (some (.int .i64 0), 1, 8) := by kernel_rfl
theorem undInts : Try.prog.underlying 33 = some (.slice 3) := by kernel_rfl

def MakesInts (p : List Int) (w : World) (e : Ending) (w' : World) : Prop :=
  ∃ v', e = .returned v' ∧ IntsAt w' (fun b => w.heap.size ≤ b ∧ b < w'.heap.size) v' p ∧ Below w.heap.size w w'

set_option maxHeartbeats 400000 in
theorem sclone_any (v : Value) (p : List Int) (w : World) (h : IntsAt w (fun b => b < w.heap.size) v p) (hp : p.length ≤ 1000000) : Calls Try.prog 55 #[v] w (MakesInts p w) := by
  obtain ⟨A, cap, rfl, h1, h2, hn, hc⟩ := h
  have HC := Lib.hid hc
  clear hc
  have hnil := fun (W : World) (a : Option Addr) (n c : Nat) => Lib.run_eql_slice_nil (P := Try.prog) W _ _ a n c 0 0 undInts
  cases A with
  | none =>
    have hp0 : p = [] := by
      cases p with
      | nil => rfl
      | cons x r => obtain ⟨b, off, e, _⟩ := HC.out 0 (by simp); cases e
    subst hp0
    go_enter Try.func55, Try.ntmps55
    go_wp2_with fail
    go_ret
    exact ⟨_, rfl, IntsAt.nil _ _, Below.refl _ _⟩
  | some ad =>
    obtain ⟨i0, hi0, hz0, hz1, hz2⟩ := info_parts infoInt
    have hown : (w.alloc (.cells #[] 3)).ownsRow w.heap.size 3 1 (.slice (some ⟨w.heap.size, 0, none⟩) 0 0) 0 [] := World.ownsRow_made w #[] 0 (Nat.le_refl _) (by simp [maxLen]) rfl
    have hnews : ∀ j u, (p.map (Value.int .i64))[j]? = some u → (w.alloc (.cells #[] 3)).cell? (ad.add j) = some u := by
      intro j u hu
      rw [List.getElem?_map] at hu
      have hj : j < p.length := by
        rcases Nat.lt_or_ge j p.length with hlt | hge
        · exact hlt
        · rw [List.getElem?_eq_none hge] at hu; cases hu
      obtain ⟨b, off, e, hb, hcell⟩ := HC.out j hj
      cases e
      rw [List.getElem?_eq_getElem hj] at hu
      cases hu
      have hadd : (⟨b, off, none⟩ : Addr).add j = ⟨b, off + j, none⟩ := by unfold Addr.add; split <;> simp_all
      rw [hadd]
      exact (World.cell?_alloc_lt w _ ⟨b, off + j, none⟩ hb).trans hcell
    have HN := Lib.hid hnews
    have HO := Lib.hid hown
    clear hnews hown
    go_enter Try.func55, Try.ntmps55
    go_wp2_with (at_builtin; (refine wpList_append_own_at _ rfl (.tmp 5) (.tmp 6) _ rfl w.heap.size 3 i0 _ 1 8 undInts hi0 hz0 hz1 hz2 rfl (by omega) _ 0 [] rfl HO.out ad p.length cap (p.map (Value.int .i64)) rfl (by simp) HN.out (by intro u hu; obtain ⟨x, _, rfl⟩ := List.mem_map.1 hu; rfl) (by simp only [maxLen]; omega) (by omega) (by simp) ?_); intro v2 w2 hO2 hg2 _ _)
    go_ret
    have hb2 : Below w.heap.size w w2 := ((Below.refl _ w).alloc (Nat.le_refl _) _).grown hg2 (by simp) (fun k e => by cases e; exact Nat.le_refl _)
    simp only [Nat.zero_add, List.nil_append] at hO2
    exact ⟨_, rfl, (IntsAt.of_own hO2).weak fun b hb => hb.2, hb2⟩

end Go.Proofs.Ytkngdmilgfgclaa
