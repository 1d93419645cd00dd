/- The comparison of rejections that are known but for their stamps. -/
import Derived.Test.YtmglacjcefajlaaCk5
import Derived.Test.YtmglacjcefajlaaPl9
namespace Go.Proofs.Ytmglacjcefajlaa
open Go.RowKit

theorem plain_same (a b : D) (all : Bool) (ha : (a.under 0 && a.good) = true) (hb : (b.under 0 && b.good) = true) : plain [a, b, .bool all] = true := by
 simp only [plain, List.all_cons, List.all_nil, ha, hb, bool_pl, Bool.and_true]
theorem sl_dFt_pl (l : List Ft) : ((sl 4 (l.map dFt)).under 0 && (sl 4 (l.map dFt)).good) = true := sl_pl (f := dFt) dFt_pl 4 l
/-- same of slices that are known but for their stamps -/
theorem same_o (l w : List Ft) (all : Bool) (hlen : l.length = w.length) (hs : ∀ (i : Nat) (h1 : i < l.length) (h2 : i < w.length), SameF all l[i] w[i]) (hl : l.length ≤ 1000000) (hb : ∀ (i : Nat) (h : i < l.length), l[i].path.length ≤ 1000000)
  {a b : D} (ha : a.strip = sl 4 (l.map dFt)) (ha' : (a.under 0 && a.good) = true) (hb1 : b.strip = sl 4 (w.map dFt)) (hb' : (b.under 0 && b.good) = true) : fn EV 17 [a, b, .bool all] = some (.bool true) := by
 have h0 : fn EV 17 [sl 4 (l.map dFt), sl 4 (w.map dFt), .bool all] = some (.bool true) := by
  cases all with
  | true => exact same_t l w hlen hs hl hb
  | false => exact same_f l w hlen hs hl hb
 rw [← h0]
 exact fn_strip (plain_same _ _ _ ha' hb') (plain_same _ _ _ (sl_dFt_pl l) (sl_dFt_pl w)) (by simp only [zmc, zmn, ha, hb1, sl_strip (map_strip (f := dFt) dFt_strip _)])
theorem same_self (l : List Ft) (all : Bool) (hl : l.length ≤ 1000000) (hb : ∀ f ∈ l, f.path.length ≤ 1000000) {a b : D} (ha : a.strip = sl 4 (l.map dFt)) (ha' : (a.under 0 && a.good) = true) (hb1 : b.strip = sl 4 (l.map dFt)) (hb' : (b.under 0 && b.good) = true) : fn EV 17 [a, b, .bool all] = some (.bool true) :=
 same_o l l all rfl (fun _i _ _ => SameF.rfl all _) hl (fun _i h => hb _ (List.getElem_mem h)) ha ha' hb1 hb'
theorem sl_own4 (F : List Ft) : (D.slice .imm (if (F.map dFt).isEmpty = true then 0 else 4) (F.map dFt)).strip = sl 4 (F.map dFt) ∧ ((D.slice .imm (if (F.map dFt).isEmpty = true then 0 else 4) (F.map dFt)).under 0 && (D.slice .imm (if (F.map dFt).isEmpty = true then 0 else 4) (F.map dFt)).good) = true :=
 ⟨sl_strip (map_strip (f := dFt) dFt_strip _), sl_dFt_pl F⟩
end Go.Proofs.Ytmglacjcefajlaa
