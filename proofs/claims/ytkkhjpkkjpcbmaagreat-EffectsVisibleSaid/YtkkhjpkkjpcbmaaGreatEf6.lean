/- effects.disjoint. -/
import Derived.Test.YtkkhjpkkjpcbmaaGreatEf5
namespace Go.Proofs.YtkkhjpkkjpcbmaaGreat
open Go.RowKit Go.Maps Go.Shelf Go.Sort

theorem plainElem_bool_inv {P : Program} {e : TypeId} (he : P.underlying e = some .bool) {v : Value} {z : DataW Unit × List MemPlace} (h : plainElem P e v = some z) : ∃ c, v = .bool c ∧ z = (.lit (.bool c), []) := by
 unfold plainElem at h
 rw [he] at h
 cases v <;> simp at h
 exact ⟨_, rfl, h.symm⟩
theorem isSet_at {D : DataW Unit} {L : List Nm} (h : IsSet D L) (s : Nm) : D.atKey (.string s) (.lit (.bool false)) = .lit (.bool (decide (s ∈ L))) := by
 by_cases hs : s ∈ L
 ·rw [(h s).2 hs, decide_eq_true hs]
 ·rw [atKey_of_not_has (by rw [(h s).1]; exact decide_eq_false hs), decide_eq_false hs]
theorem wpList_lookup_set {P : Program} (w : World) {ops : Array Oper} {rest : List Oper} {o : Oper} {a : Act} {Q : Exit → Act → World → Prop}
  (hg : o.guard = none) (m x : Operand) (t : TypeId) (hop : o.op = Op.lookup t m x false)
  (k e : TypeId) (K : Keyed P k) (ht : P.underlying t = some (.map k e)) (he : P.underlying e = some .bool) (hz : (zeroValue e).run P w = .ok (.bool false) w) (b n : Nat) (L : List Nm)
  (hm : a.eval m = .map (some b)) (hs : SetAt P k e w b n L) (key : Value) (s : Nm) (hx : a.eval x = key) (hkey : keyOf P k key = some (.string s))
  (hK : wpList P ops Q rest (a.put o.dst (.bool (decide (s ∈ L)))) w) :
  wpList P ops Q (o :: rest) a w := by
 refine wpList_plain hg fun K' hK' => ?_
 obtain ⟨D, hown, hD⟩ := hs
 obtain ⟨v, ps, hrun, hv⟩ := hown.lookup K ht hz (plainElem_bool he false) hkey
 rw [isSet_at hD s] at hv
 obtain ⟨c, rfl, hc⟩ := plainElem_bool_inv he hv
 simp only [Prod.mk.injEq, DataW.lit.injEq, Lit.bool.injEq] at hc
 obtain ⟨rfl, -⟩ := hc
 unfold Oper.wp
 simp [execOp, hop, hm, hx, hrun, Result.andThen]
 exact hK' _ _ hK

/-- no name in common -/
def disj (L M : List Nm) : Bool := L.all (fun s => !decide (s ∈ M))

set_option maxRecDepth 100000 in
set_option maxHeartbeats 2000000 in
theorem disjoint_any (b1 n1 b2 n2 : Nat) (L M : List Nm) (w : World) (h1 : SetW w b1 n1 L) (h2 : SetW w b2 n2 M) :
  Calls Tryz.prog 35 #[.map (some b1), .map (some b2)] w fun e w' => e = .returned (.bool (disj L M)) ∧ Below w.heap.size w w' := by
 obtain ⟨D, ho, hD⟩ := h1
 have HM := Lib.hid h2
 have hlt1 := ho.lt
 have hlt2 := h2.lt
 have HD := Lib.hid hD
 have HO := Lib.hid ho
 have hz : ∀ w : World, (zeroValue 4).run Tryz.prog w = .ok (.bool false) w := fun w => by kernel_rfl
 clear hD h2
 go_enter Tryz.func35, Tryz.ntmps35
 go_wp2_with (first
  | (at_range; refine wpList_range_own _ rfl _ 63 rfl 9 4 keyedS Tryz.underlying63 (plainElem Tryz.prog 4) b1 n1 D rfl ho ?_; intro w0 hrg0 hg0 hs0))
 go_frame
 go_loopw [] (fun wr => ∃ (left : Lit → Bool) (cnt : Nat), wr.ranges Tryz.prog 9 (plainElem Tryz.prog 4) b1 w.heap.size n1 D left cnt ∧ (∀ s ∈ L, left (.string s) = false → s ∉ M) ∧ SetW wr b2 n2 M ∧ Below w.heap.size w wr) (fun wr => wr.rangeLeft b1 w.heap.size)
 case atStart =>
  have hb0 : Below w.heap.size w w0 := (Below.refl _ w).grown hg0 (Nat.le_refl _) (fun q hq => by cases hq)
  exact ⟨_, _, hrg0, (fun x hx hl => by rw [(HD.out x).1, decide_eq_true hx] at hl; cases hl), HM.out.below hb0 hlt2, hb0⟩
 case round =>
  obtain ⟨left, cnt, hrg, hleft, hset, hb⟩ := hrel
  have HL := Lib.hid hleft
  have HB := Lib.hid hb
  have hszr := hb.size
  clear hleft hb
  go_wp2_with (first
   | (at_next; refine wpList_next_ranges _ rfl _ rfl 9 keyedS (plainElem Tryz.prog 4) encStr id (fun key kl hk => by obtain ⟨x, rfl, _⟩ := Maps.keyOf_str Tryz.underlying9 hk; exact ⟨x, rfl⟩) (fun v y _ => ⟨v, rfl⟩) b1 w.heap.size n1 _ _ _ rfl hrg ?_ ?_))
  ·intro hc0 hl0
   go_wp2_with fail
   go_ret
   refine ⟨?_, HB.out⟩
   have : disj L M = true := by
    simp only [disj, List.all_eq_true, Bool.not_eq_true', decide_eq_false_iff_not]
    exact fun x hx => HL.out x hx (hl0 _)
   rw [this]; rfl
  ·intro x c kl yd yp w1 cnt1 hkey hlx hv hat hrg1 hlt hg1 hs1 hen
   obtain ⟨x', ex, hkl, hlen⟩ := Maps.keyOf_str Tryz.underlying9 hkey
   obtain rfl := encStr_inj ex
   subst hkl
   have hset1 : SetW w1 b2 n2 M := hset.kept hg1 (by simp; omega)
   have HB1 := Lib.hid (HB.out.grown hg1 hszr (fun q hq => by cases hq; exact Nat.le_refl _))
   have HX := Lib.hid (show x ∈ L by
    have h := has_true_of_atKey hat
    rw [(HD.out x).1] at h
    simpa using h)
   have HK := Lib.hid hkey
   clear hkey
   by_cases hx : x ∈ M
   ·have hxd : decide (x ∈ M) = true := decide_eq_true hx
    go_wp2_with (first
     | (at_lookup; refine wpList_lookup_set _ rfl _ _ 63 rfl 9 4 keyedS Tryz.underlying63 Tryz.underlying4 (hz _) b2 n2 M rfl hset1 _ _ rfl HK.out ?_))
    go_ret
    refine ⟨?_, HB1.out⟩
    have : disj L M = false := by
     simp only [disj, List.all_eq_false]
     exact ⟨x, HX.out, by simp [hx]⟩
    rw [this]; rfl
   ·have hxd : decide (x ∈ M) = false := decide_eq_false hx
    have HNX := Lib.hid hx
    clear hx
    go_wp2_with (first
     | (at_lookup; refine wpList_lookup_set _ rfl _ _ 63 rfl 9 4 keyedS Tryz.underlying63 Tryz.underlying4 (hz _) b2 n2 M rfl hset1 _ _ rfl HK.out ?_))
    go_roundw
    case rel =>
     refine ⟨_, ⟨cnt1, hrg1⟩, fun z hz hl => ?_, HB1.out⟩
     simp only [Bool.and_eq_false_iff, Bool.not_eq_false'] at hl
     rcases hl with hl | hl
     ·exact HL.out z hz hl
     ·have := WideAt.sameKey_eq hl
      cases this
      exact HNX.out
    case measure => rw [hrg1.left_eq, hrg.left_eq]; exact hlt
end Go.Proofs.YtkkhjpkkjpcbmaaGreat
