/-
  From a row's hypotheses to what the walks ask: the two laid tables, and slices of bytes that came in.
-/
import Derived.Test.YtmindblfbijaaaaDoorRows
import Derived.Test.YtmindblfbijaaaaDoorLeaf
import Derived.ProofKit
import Derived.OpenVars
import Derived.OpenShut
import Derived.LaidMore
import Derived.Lay
import Derived.LaidLaws
import Derived.Handed
import Derived.Carry
import Derived.Clock
import Derived.Deep.Slices
namespace Go.Proofs.YtmindblfbijaaaaDoor
open Go.ChangeShapes Go.WideShapes Go.ChangeAt Go.RowKit
theorem own : ownKnob Tryd.prog.godebug = none := by kernel_rfl
theorem laidOut : laidOutB Tryd.prog = true := by kernel_rfl
/-- An array of numbers that reads as literals has them in its cells. -/
theorem cells_lits {H : Type} {enc : TypeId × Value → H} {P : Program} {w : World} {base : Nat} {sp : Nat → Bool} {held : Bool} {fuel t e n : Nat} {k : IntKind} {cs : List Value} {ns : List Int} {q : List MemPlace}
    (ht : P.underlying t = some (.array n e)) (he : P.underlying e = some (.int k)) (ce : P.cellsOf e = 1) (ct : P.cellsOf t = n)
    (hd : DataW.trod enc P w base sp held fuel t cs = some (.agg (ns.map fun x => .lit (.int k x)), q)) : cs = ns.map (.int k) := by
  obtain ⟨xs, m, _, ex, hlen, hl, hel⟩ := DataW.trod_array ht hd
  have e1 := DataW.agg.inj (Prod.mk.inj ex).1
  rw [ct] at hlen
  have hnl : ns.length = n := by have := congrArg List.length e1; simpa [hl] using this
  apply List.ext_getElem?
  intro i
  rcases Nat.lt_or_ge i n with hi | hi
  · have h1 := hel i hi
    rw [ce, Nat.mul_one] at h1
    have hxi : xs[i]? = some xs[i] := by simp [hl, hi]
    rw [hxi] at h1
    obtain ⟨z, hz, hx, _⟩ := DataW.trod_int he h1
    have h2 : (ns.map fun x => (DataW.lit (.int k x) : DataW H))[i]? = some (.lit (.int k z)) := by
      rw [e1, List.getElem?_map, hxi, hx]; rfl
    rw [List.getElem?_map] at h2
    cases hn : ns[i]? with
    | none => rw [hn] at h2; cases h2
    | some y =>
      rw [hn] at h2
      simp at h2
      subst h2
      have h3 : cs[i]? = some (.int k y) := by
        have := congrArg (·[0]?) hz
        simp at this
        exact this
      rw [h3, List.getElem?_map, hn]; rfl
  · rw [List.getElem?_eq_none (by omega), List.getElem?_eq_none (by simp [hnl]; omega)]
def laid2 : List (String × DataW Unit) := [("skewer/hash.begin", Rows.laid_skewer_hash_begin), ("skewer/hash.keys", Rows.laid_skewer_hash_keys)]
theorem data_begin : (Rows.laid_skewer_hash_begin : DataW Unit) = .agg ((Sha.begin8.map fun x => (x.toNat : Int)).map fun x => .lit (.int .u32 x)) := rfl
theorem data_keys : (Rows.laid_skewer_hash_keys : DataW Unit) = .agg ((Sha.keys64.map fun x => (x.toNat : Int)).map fun x => .lit (.int .u32 x)) := rfl
theorem glob_of_laid {W : World} (h : laidMetH Tryd.prog laid2 W) : Glob W := by
  rw [MakeChecks.laidMetH_plain _ _ _ (by kernel_rfl)] at h
  obtain ⟨ps, ⟨g, t, cs, fuel, p, q, hg, ht, hv, hd, ⟨g2, t2, cs2, fuel2, p2, q2, hg2, ht2, hv2, hd2, _, _⟩, _⟩, _, _⟩ := h
  obtain rfl := Option.some.inj ((show Tryd.prog.globalNamed "skewer/hash.begin" = some 0 by kernel_rfl).symm.trans hg)
  obtain rfl := Option.some.inj ((show (Tryd.prog.globals[0]?).map (·.type) = some 57 by kernel_rfl).symm.trans ht)
  obtain rfl := Option.some.inj ((show Tryd.prog.globalNamed "skewer/hash.keys" = some 1 by kernel_rfl).symm.trans hg2)
  obtain rfl := Option.some.inj ((show (Tryd.prog.globals[1]?).map (·.type) = some 73 by kernel_rfl).symm.trans ht2)
  rw [data_begin] at hd
  rw [data_keys] at hd2
  have e1 := cells_lits Tryd.underlying57 Tryd.underlying56 (by kernel_rfl) (by kernel_rfl) hd
  have e2 := cells_lits Tryd.underlying73 Tryd.underlying56 (by kernel_rfl) (by kernel_rfl) hd2
  refine ⟨fun i hi => ?_, fun i hi => ?_⟩
  · have := World.var?_cell hg hv i
    rw [this]
    have hc : cs[i]? = cs.toList[i]? := by simp
    rw [hc, e1]
    have hb : i < Sha.begin8.length := hi
    simp [hb]
  · have := World.var?_cell hg2 hv2 i
    rw [this]
    have hc : cs2[i]? = cs2.toList[i]? := by simp
    rw [hc, e2]
    have hb : i < Sha.keys64.length := hi
    simp [hb]
theorem laidWorld_met (os : Os) (args : Array Value) : laidMetH Tryd.prog laid2 ((World.laidAll Tryd.prog os laid2).forCall (fun _ _ => 0) ⟨#[], args, []⟩).memory := by
  rw [MakeChecks.laidMetH_plain _ _ _ (by kernel_rfl)]
  exact laidMet_laidAll _ (by kernel_rfl) (by kernel_rfl)
/-- A slice of bytes that came in, as the walks read it. -/
theorem bytes_in {H : Type} {enc : TypeId × Value → H} {W : World} {base : Nat} {v : Value} {d : DataW H} {p : List MemPlace} (hv : Value.okWide Tryd.prog W .any base 22 v)
    (h : DataW.Trod enc Tryd.prog W 0 (fun _ => true) true 22 v d p) : ∃ l : List UInt8, Sl W v l.length (u8s l) := by
  obtain ⟨fuel, hf⟩ := h
  have hok : ∃ ao len cap, v = .slice ao len cap := okWide_slice Tryd.underlying22 hv
  obtain ⟨ao, len, cap, rfl⟩ := hok
  simp only [Value.cells] at hf
  rcases Deep.open_slice1 Tryd.underlying22 (by kernel_rfl) hf with ⟨hc, _⟩ | ⟨a, len', cap', m, n, V, D, Pl, hc, hb, hl, hm, hmm, hx, hV⟩
  · have hc' : Value.slice ao len cap = .slice none 0 0 := by simpa using hc
    rw [hc']
    exact ⟨[], none, 0, rfl, Nat.le_refl _, by omega, fun _ => rfl, fun b o s e => by cases e⟩
  · have hc' : Value.slice ao len cap = .slice (some a) len' cap' := by simpa using hc
    rw [hc'] at hv ⊢
    have hspot : a.spot = none := by
      have := hv
      simp only [Value.okWide, Tryd.underlying22, Cell.okWide, Cell.ok] at this
      exact this.2.2.2.1
    have hm' : m = cap' := by simpa using hmm
    subst hm'
    have hint : ∀ i, i < m → ∃ x : UInt8, V i = .int .u8 x.toNat := by
      intro i hi
      obtain ⟨z, hz, _, hw⟩ := DataW.trod_int Tryd.underlying5 (hV i hi).2
      have hz' : V i = .int .u8 z := by simpa using hz
      have hr : 0 ≤ z ∧ z ≤ 255 := by simpa [Lit.wf, IntKind.min, IntKind.max, IntKind.signed, IntKind.bits] using hw
      refine ⟨UInt8.ofNat z.toNat, ?_⟩
      rw [hz', UInt8.toNat_ofNat']
      congr 1; omega
    obtain ⟨l, hll, hget⟩ : ∃ l : List UInt8, l.length = len' ∧ ∀ i, i < len' → V i = .int .u8 (l.getD i 0).toNat := by
      refine ⟨(List.range len').map fun i => match V i with | .int _ z => UInt8.ofNat z.toNat | _ => 0, by simp, fun i hi => ?_⟩
      obtain ⟨x, hx⟩ := hint i (by omega)
      simp [hi, hx]
    obtain ⟨b, o, s⟩ := a
    simp only at hspot
    subst hspot
    refine ⟨l, some ⟨b, o, none⟩, m, by rw [hll], by omega, by unfold maxLen at hm; omega, fun e => (by cases e), fun b' o' s' e => ?_⟩
    simp only [Option.some.injEq, Addr.mk.injEq] at e
    obtain ⟨rfl, rfl, rfl⟩ := e
    refine ⟨rfl, fun j u hj => ?_⟩
    have hjl : j < l.length := by
      have := (List.getElem?_eq_some_iff.1 hj).1
      rwa [u8s_length] at this
    rw [u8s_get hjl] at hj
    have := (hV j (by omega)).1
    rw [addr_add, hget j (by omega)] at this
    rw [this]; exact hj
end Go.Proofs.YtmindblfbijaaaaDoor
