/-
  Lemmas, part 5 of 8: walks through the program's functions, and plain Lean about what they compute.
-/
import Derived.ProofKit
import Derived.OpenShut
import Derived.Deep.Slices
import Derived.ChangeArms
import Derived.Carry
import Derived.Test.YtaclinnjekdgoaaDoorRows
import Derived.OpenVars
import Derived.LaidMore
import Derived.Lay
import Derived.LaidLaws
import Derived.Handed
import Derived.Clock
import Derived.SevenTiedAt
import Derived.RangeFuncSeq
import Derived.Laws.IdiomStrings
import Derived.Laws.AppendOwnNone
import Derived.Lib.AppendZerosOnto
import Derived.LoopNIn
import Derived.Test.YtaclinnjekdgoaaDoorZ1
import Derived.Test.YtaclinnjekdgoaaDoorZ2
import Derived.Test.YtaclinnjekdgoaaDoorZ3
import Derived.Test.YtaclinnjekdgoaaDoorZ4
set_option linter.unnecessarySimpa false
set_option linter.unusedSimpArgs false
set_option linter.unusedVariables false
set_option maxRecDepth 100000
namespace Go.Proofs.YtaclinnjekdgoaaDoor
open Go.RowKit
section
open Go.RowKit Go.ChangeShapes Go.WideShapes
def fq (w : World) : aw := fun b o u => w.cell? ⟨b, o, none⟩ = some u
theorem Bn (w : World) : bG (fq w) w := fun _ _ _ h => .inl h
def TyD (P : Program) : Nat -> TypeId -> List D -> Prop
 | 0, _, _ => False
 | n + 1, t, ds =>
  match P.underlying t with
  | some .bool => ∃ b, ds = [.v (.bool b)]
  | some (.int k) => ∃ z, ds = [.v (.int k z)] /\ k.min <= z /\ z <= k.max
  | some .string => ∃ s : ByteArray, ds = [.v (.string s)] /\ s.size <= 9223372036854775807
  | some (.slice e) => ∃ xs : zRz, ds = [.list (P.cellsOf e) xs false] /\ xs.length <= 9223372036854775807 /\ ∀ x ∈ xs, TyD P n e x
  | some (.struct fs) => ∃ parts : zRz, parts.length = fs.size /\ ds = parts.flatten /\ ∀ (i : Nat) (f : Field) (p : List D), fs[i]? = some f -> parts[i]? = some p -> TyD P n f.type p
  | some (.array m e) => ∃ parts : zRz, parts.length = m /\ ds = parts.flatten /\ ∀ p ∈ parts, TyD P n e p
  | _ => False
def yS (P : Program) : Nat -> List Field -> Bool
 | _, [] => true
 | off, f :: r => f.offset == off && yS P (off + P.cellsOf f.type) r
def pN (P : Program) : List Field -> Nat
 | [] => 0
 | f :: r => P.cellsOf f.type + pN P r
def ln (P : Program) : Nat -> TypeId -> Bool
 | 0, _ => false
 | n + 1, t =>
  match P.underlying t with
  | some .bool | some (.int _) | some .string => P.cellsOf t == 1
  | some (.slice e) => P.cellsOf t == 1 && decide (0 < P.cellsOf e) && ln P n e
  | some (.struct fs) => yS P 0 fs.toList && pN P fs.toList == P.cellsOf t && fs.toList.all fun f => ln P n f.type
  | some (.array m e) => m * P.cellsOf e == P.cellsOf t && ln P n e
  | _ => false
section
variable {H : Type} {enc : TypeId × Value -> H} {P : Program} {w : World}
theorem DU {n : Nat} : ∀ (l : List Field) (off : Nat) (cs : zLz), yS P off l = true -> (∀ (i : Nat) (f : Field), l[i]? = some f -> ∃ ds, Rp (fq w) (.vals ds ((cs.drop f.offset).take (P.cellsOf f.type))) /\ TyD P n f.type ds) ->
  ∃ parts : zRz, parts.length = l.length /\ (∀ (i : Nat) (f : Field) (p : List D), l[i]? = some f -> parts[i]? = some p -> TyD P n f.type p) /\ Rp (fq w) (.vals parts.flatten ((cs.drop off).take (pN P l))) := by
 intro l
 induction l with
 | nil => intro off cs _ _; exact ⟨[], rfl, by simp, by simpa [pN] using .vnil⟩
 | cons f l ih =>
  intro off cs hc h; simp only [yS, Bool.and_eq_true, beq_iff_eq] at hc; obtain ⟨ho, hc⟩ := hc; obtain ⟨ds, h1, h2⟩ := h 0 f rfl; obtain ⟨parts, k1, k2, k3⟩ := ih (off + P.cellsOf f.type) cs hc fun i g hg => h (i + 1) g (by simpa using hg)
  refine ⟨ds :: parts, by simp [k1], fun i g p hg hp => ?_, ?_⟩
  ·cases i with
   | zero => simp at hg hp; subst hg; subst hp; exact h2
   | succ i => exact k2 i g p (by simpa using hg) (by simpa using hp)
  ·rw [ho] at h1; have := ff h1 k3; rw [List.flatten_cons, pN, List.take_add, List.drop_drop]; exact this
theorem Ey {n e : Nat} : ∀ (m i0 : Nat) (cs : zLz), (∀ i, i < m -> ∃ ds, Rp (fq w) (.vals ds ((cs.drop ((i0 + i) * P.cellsOf e)).take (P.cellsOf e))) /\ TyD P n e ds) ->
  ∃ parts : zRz, parts.length = m /\ (∀ p ∈ parts, TyD P n e p) /\ Rp (fq w) (.vals parts.flatten ((cs.drop (i0 * P.cellsOf e)).take (m * P.cellsOf e))) := by
 intro m
 induction m with
 | zero => intro i0 cs _; exact ⟨[], rfl, by simp, by simpa using .vnil⟩
 | succ m ih =>
  intro i0 cs h; obtain ⟨ds, h1, h2⟩ := h 0 (by omega); obtain ⟨parts, k1, k2, k3⟩ := ih (i0 + 1) cs fun i hi => by
   have := h (i + 1) (by omega); rw [show i0 + 1 + i = i0 + (i + 1) by omega]; exact this
  refine ⟨ds :: parts, by simp [k1], fun p hp => (List.mem_cons.1 hp).elim (fun e => e ▸ h2) (k2 p), ?_⟩; have := ff h1 k3; rw [List.flatten_cons, Nat.succ_mul, Nat.add_comm (m * _), List.take_add, List.drop_drop, show i0 * P.cellsOf e + P.cellsOf e = (i0 + 1) * P.cellsOf e by rw [Nat.succ_mul]]; simpa using this
theorem Ii : ∀ (n : Nat) (t : TypeId) (fuel : Nat) (cs : zLz) (x : DataW H × List MemPlace), ln P n t = true -> DataW.trod enc P w 0 (fun _ => true) true fuel t cs = some x ->
  cs.length = P.cellsOf t /\ ∃ ds, Rp (fq w) (.vals ds cs) /\ TyD P n t ds := by
 intro n
 induction n with
 | zero => intro t fuel cs x hf; simp [ln] at hf
 | succ n ih =>
  intro t fuel cs x hf h; simp only [ln] at hf; split at hf
  ·rename_i ht; obtain ⟨b, rfl, _⟩ := DataW.trod_bool ht h; refine ⟨(by simpa using (beq_iff_eq.1 hf).symm), [.v (.bool b)], .vcons _ _ _ _ rfl (.v _) .vnil, ?_⟩; simp only [TyD, ht]; exact ⟨b, rfl⟩
  ·rename_i k ht; obtain ⟨z, rfl, _, hw⟩ := DataW.trod_int ht h; simp only [Lit.wf, Bool.and_eq_true, decide_eq_true_eq] at hw; refine ⟨(by simpa using (beq_iff_eq.1 hf).symm), [.v (.int k z)], .vcons _ _ _ _ rfl (.v _) .vnil, ?_⟩; simp only [TyD, ht]; exact ⟨z, rfl, hw.1, hw.2⟩
  ·rename_i ht; obtain ⟨s, rfl, _, hs⟩ := DataW.trod_string ht h; refine ⟨(by simpa using (beq_iff_eq.1 hf).symm), [.v (.string s)], .vcons _ _ _ _ rfl (.v _) .vnil, ?_⟩; simp only [TyD, ht]; exact ⟨s, rfl, by unfold maxLen at hs; omega⟩
  ·rename_i e ht; simp only [Bool.and_eq_true, decide_eq_true_eq, beq_iff_eq] at hf; obtain ⟨⟨hf1, hpos⟩, hf⟩ := hf; rcases DataW.trod_slice ht h with ⟨rfl, _⟩ | ⟨a, len, cap, elems, rest, m, _, rfl, _, _, hlc, hcm, hel, hget, hsp, _⟩
   ·refine ⟨by simpa using hf1.symm, [.list (P.cellsOf e) [] false], .vcons _ _ _ _ rfl (.nil _ _ _ _ ⟨Nat.le_refl _, fun _ => rfl, by omega, fun _ => rfl, fun _ h => by cases h⟩) .vnil, ?_⟩; simp only [TyD, ht]; exact ⟨[], rfl, by simp, by simp⟩
   ·have hmax : cap <= 9223372036854775807 := by unfold maxLen at hcm; omega
    obtain ⟨hrl, hrest⟩ := hsp rfl; have one : ∀ i, i < cap -> ∃ cs', w.cells? 0 (a.add (i * P.cellsOf e)) (P.cellsOf e) = some cs' /\ ∃ y, DataW.trod enc P w 0 (fun _ => true) true m e cs' = some y := by
     intro i hi; rcases Nat.lt_or_ge i len with hil | hil
     ·have := hget i hil; rw [List.getElem?_eq_getElem (by omega)] at this; obtain ⟨cs', h1, h2⟩ := Option.bind_eq_some_iff.1 this; exact ⟨cs', h1, _, h2⟩
     ·have := hrest (i - len) (by omega); rw [show len + (i - len) = i by omega, List.getElem?_eq_getElem (by omega)] at this; obtain ⟨cs', h1, h2⟩ := Option.bind_eq_some_iff.1 this; exact ⟨cs', h1, _, h2⟩
    have hspot : 0 < cap -> a.spot = none := by
     intro hc; obtain ⟨cs', h1, y, h2⟩ := one 0 hc; have hlen := (World.cells?_some h1)
     have h3 := hlen.2.2 0 hpos; rw [List.getElem?_eq_getElem (by rw [hlen.2.1]; exact hpos)] at h3; have := World.cell?_spot h3; simpa [Addr.add] using this
    have rows : ∃ xs : zRz, xs.length = len /\ (∀ x ∈ xs, TyD P n e x) /\ (0 < cap -> Rp (fq w) (.rows xs a.block a.off (P.cellsOf e))) := by
     have hch : ∀ i, i < len -> ∃ x : List D, x.length = P.cellsOf e /\ TyD P n e x /\ Rp (fq w) (.mem x a.block (a.off + i * P.cellsOf e)) := by
      intro i hi; obtain ⟨cs', h1, y, h2⟩ := one i (by omega); obtain ⟨hl, ds, k1, k2⟩ := ih e m cs' y hf h2; refine ⟨ds, by rw [<- cw k1, hl], k2, tI k1 fun j u hj => ?_⟩; obtain ⟨_, g1, g2⟩ := World.cells?_some h1; have hjl : j < P.cellsOf e := by rw [<- hl]; exact (List.getElem?_eq_some_iff.1 hj).1
      have g3 := g2 j hjl; rw [hj] at g3; have hsp0 := hspot (by omega); obtain ⟨b, o, s⟩ := a; simp only at hsp0; subst hsp0; rw [dJ, dJ] at g3; exact g3
     obtain ⟨f, hfx⟩ := Deep.choose_lt hch; refine ⟨(List.range len).map f, by simp, fun x hx => ?_, fun _ => kV fun i x hi => ?_⟩
     ·obtain ⟨i, hi, rfl⟩ := List.mem_map.1 hx; exact (hfx i (by simpa using hi)).2.1
     ·have hil : i < len := by have := (List.getElem?_eq_some_iff.1 hi).1; simpa using this
      simp [hil] at hi; subst hi; exact ⟨(hfx i hil).1, (hfx i hil).2.2⟩
    obtain ⟨xs, x1, x2, x3⟩ := rows; refine ⟨by simpa using hf1.symm, [.list (P.cellsOf e) xs false], .vcons _ _ _ _ rfl ?_ .vnil, ?_⟩
    ·by_cases hx : xs = []
     ·subst hx; simp only [List.length_nil] at x1; subst x1; exact .nil _ _ _ _ ⟨Nat.zero_le _, by simp, hmax, fun h => (by cases h), fun x hx hc => by cases hx; exact hspot hc⟩
     ·have hl : 0 < xs.length := List.length_pos_iff.2 hx; have hsp0 := hspot (by omega); obtain ⟨b, o, s⟩ := a; simp only at hsp0; subst hsp0; rw [<- x1]; exact .list _ _ _ _ _ _ hx ⟨by omega, by simp, hmax, fun h => (by cases h), fun x hx _ => by cases hx; rfl⟩ (x3 (by omega))
    ·simp only [TyD, ht]; exact ⟨xs, rfl, by omega, x2⟩
  ·rename_i fs ht; simp only [Bool.and_eq_true, beq_iff_eq] at hf; obtain ⟨⟨hf1, hf2⟩, hf3⟩ := hf; obtain ⟨xs, m, _, _, hl, hxl, hget⟩ := DataW.trod_struct ht h; obtain ⟨parts, k1, k2, k3⟩ := DU (P := P) (w := w) (n := n) fs.toList 0 cs hf1 (fun i f hi => by
    have hi' : fs[i]? = some f := by simpa using hi
    have hil : i < xs.length := by rw [hxl]; exact (Array.getElem?_eq_some_iff.1 hi').1
    have := hget i f hi'; rw [List.getElem?_eq_getElem hil] at this; have hm : f ∈ fs.toList := List.mem_of_getElem? hi; exact (ih f.type m _ _ (List.all_eq_true.1 hf3 f hm) this).2)
   refine ⟨hl, parts.flatten, ?_, ?_⟩
   ·rw [hf2, <- hl] at k3; simpa using k3
   ·simp only [TyD, ht]; exact ⟨parts, by simpa using k1, rfl, fun i f p hi hp => k2 i f p (by simpa using hi) hp⟩
  ·rename_i m e ht; simp only [Bool.and_eq_true, beq_iff_eq] at hf; obtain ⟨hf1, hf2⟩ := hf; obtain ⟨xs, q, _, _, hl, hxl, hget⟩ := DataW.trod_array ht h; obtain ⟨parts, k1, k2, k3⟩ := Ey (P := P) (w := w) (n := n) (e := e) m 0 cs (fun i hi => by
    have := hget i hi; rw [List.getElem?_eq_getElem (by omega)] at this; rw [Nat.zero_add]; exact (ih e q _ _ hf2 this).2)
   refine ⟨hl, parts.flatten, ?_, ?_⟩
   ·rw [hf1, <- hl] at k3; simpa using k3
   ·simp only [TyD, ht]; exact ⟨parts, k1, rfl, k2⟩
  ·cases hf
def pP (P : Program) (n : Nat) (t : TypeId) (d : D) : Prop :=
 match bh P t with
 | some true => ∃ ds, d = .agg (P.cellsOf t) ds /\ ds.length = P.cellsOf t /\ TyD P n t ds
 | some false => TyD P n t [d]
 | none => False
theorem IQ {n : Nat} {t : TypeId} {v : Value} {x : DataW H} {p : List MemPlace} {base : Nat} (hf : ln P n t = true) (hv : Value.okWide P w .any base t v) (h : DataW.Trod enc P w 0 (fun _ => true) true t v x p) : ∃ d, Rep (fq w) d v /\ pP P n t d := by
 obtain ⟨fuel, h⟩ := h; obtain ⟨hl, ds, h1, h2⟩ := Ii n t fuel _ _ hf h; cases n with
 | zero => simp [ln] at hf
 | succ n =>
 have one : bh P t = some false -> P.cellsOf t = 1 -> (∀ cs, v ≠ .agg cs) -> ∃ d, Rep (fq w) d v /\ pP P (n + 1) t d := by
  intro ha hc hne; have hcv : v.cells.toList = [v] := by cases v <;> first | rfl | exact (hne _ rfl).elim
  rw [hcv] at h1; cases h1 with
  | vcons d _ ds' _ g1 g2 g3 =>
   cases g3; exact ⟨d, g2, by simpa only [pP, ha] using h2⟩
 have all : bh P t = some true -> (∃ cs, v = .agg cs) -> ∃ d, Rep (fq w) d v /\ pP P (n + 1) t d := by
  rintro ha ⟨cs, rfl⟩; have hc : (Value.agg cs).cells.toList = cs.toList := rfl; rw [hc] at h1 hl; have hdl : ds.length = P.cellsOf t := by rw [<- cw h1, hl]
  exact ⟨.agg (P.cellsOf t) ds, by have := Rp.agg (P.cellsOf t) ds cs.toList hdl h1; simpa using this, by simp only [pP, ha]; exact ⟨ds, rfl, hdl, h2⟩⟩
 have h0 := hf; simp only [ln] at hf; have hv' := hv; split at hf
 ·rename_i ht; refine one (by simp [bh, ht]) (beq_iff_eq.1 hf) fun cs e => ?_
  subst e; simp [Value.okWide, ht, Cell.okWide, Cell.ok] at hv
 ·rename_i k ht; refine one (by simp [bh, ht]) (beq_iff_eq.1 hf) fun cs e => ?_
  subst e; simp [Value.okWide, ht, Cell.okWide, Cell.ok] at hv
 ·rename_i ht; refine one (by simp [bh, ht]) (beq_iff_eq.1 hf) fun cs e => ?_
  subst e; simp [Value.okWide, ht, Cell.okWide, Cell.ok] at hv
 ·rename_i e ht; simp only [Bool.and_eq_true, beq_iff_eq] at hf; refine one (by simp [bh, ht]) hf.1.1 fun cs e => ?_
  subst e; simp [Value.okWide, ht, Cell.okWide, Cell.ok] at hv
 ·rename_i fs ht; refine all (by simp [bh, ht]) ?_; simp only [Value.okWide, ht] at hv; obtain ⟨cs, e, _⟩ := hv; exact ⟨cs, e⟩
 ·rename_i m e ht; refine all (by simp [bh, ht]) ?_; simp only [Value.okWide, ht] at hv; obtain ⟨cs, e, _⟩ := hv; exact ⟨cs, e⟩
 ·cases hf
def pQ (P : Program) (n : Nat) : List TypeId -> List D -> Prop
 | [], [] => True
 | t :: ts, d :: ds => pP P n t d /\ pQ P n ts ds
 | _, _ => False
theorem Gn {n base : Nat} : ∀ {ts : List TypeId} {vs : zLz} {xs : List (DataW H)} {p : List MemPlace}, (ts.all (ln P n)) = true -> (∀ (j : Nat) t v, ts[j]? = some t -> vs[j]? = some v -> Value.okWide P w .any base t v) -> DataW.TrodAll enc P w 0 (fun _ => true) true ts vs xs p ->
  xs.length = ts.length /\ ∃ ds, Rp (fq w) (.outs ds vs) /\ pQ P n ts ds := by
 intro ts
 induction ts with
 | nil =>
  intro vs xs p _ _ h; cases vs with
  | nil => cases xs with
   | nil => exact ⟨rfl, [], .onil, trivial⟩
   | cons => exact h.elim
  | cons => cases xs <;> exact h.elim
 | cons t ts ih =>
  intro vs xs p hf hv h; cases vs with
  | nil => cases xs <;> exact h.elim
  | cons v vs =>
   cases xs with
   | nil => exact h.elim
   | cons x xs =>
    obtain ⟨p', q, h1, h2, _⟩ := h; simp only [List.all_cons, Bool.and_eq_true] at hf; obtain ⟨hl, ds, k1, k2⟩ := ih hf.2 (fun j t v ht hv' => hv (j + 1) t v (by simpa using ht) (by simpa using hv')) h2; obtain ⟨d, g1, g2⟩ := IQ hf.1 (hv 0 t v rfl rfl) h1; exact ⟨by simp [hl], d :: ds, .ocons _ _ _ _ g1 k1, g2, k2⟩
theorem Ex {W' : World} (hl : laidOutB P = true) : ∀ {ts : List TypeId} {vs : zLz} {xs : List (DataW H)} {p : List MemPlace}, (ts.all fun t => P.readableRec t && decide (t < P.types.size)) = true -> DataW.TrodAll enc P w 0 (fun _ => true) true ts vs xs p -> Below w.heap.size w W' -> (∀ x ∈ p, x.block < w.heap.size) ->
  DataW.TrodAll enc P W' 0 (fun b => decide (b < w.heap.size)) true ts vs xs p := by
 intro ts
 induction ts with
 | nil =>
  intro vs xs p _ h _ _; cases vs with
  | nil => cases xs with
   | nil => exact h
   | cons => exact h.elim
  | cons => cases xs <;> exact h.elim
 | cons t ts ih =>
  intro vs xs p hf h hb hp; cases vs with
  | nil => cases xs <;> exact h.elim
  | cons v vs =>
   cases xs with
   | nil => exact h.elim
   | cons x xs =>
    obtain ⟨p', q, h1, h2, rfl⟩ := h; simp only [List.all_cons, Bool.and_eq_true, decide_eq_true_eq] at hf; exact ⟨p', q, Below.trod hl hf.1.1 hf.1.2 h1 hb (fun x hx => hp x (by simp [hx])), ih hf.2 h2 hb (fun x hx => hp x (by simp [hx])), rfl⟩
end
end
section
open Go.ChangeShapes Go.WideShapes Go.ChangeAt Go.RowKit
theorem own : ownKnob Tryd.prog.godebug = none := by kernel_rfl
theorem Jm : laidOutB Tryd.prog = true := by kernel_rfl
theorem uP {H : Type} {enc : TypeId × Value -> H} {P : Program} {w : World} {base : Nat} {sp : Nat -> Bool} {held : Bool} {fuel t e n : Nat} {k : IntKind} {cs : zLz} {ns : List Int} {q : List MemPlace}
  (ht : P.underlying t = some (.array n e)) (he : P.underlying e = some (.int k)) (ce : P.cellsOf e = 1) (ct : P.cellsOf t = n)
  (hd : DataW.trod enc P w base sp held fuel t cs = some (.agg (ns.map fun x => .lit (.int k x)), q)) : cs = ns.map (.int k) := by
 obtain ⟨xs, m, _, ex, hlen, hl, hel⟩ := DataW.trod_array ht hd; have e1 := DataW.agg.inj (Prod.mk.inj ex).1; rw [ct] at hlen; have hnl : ns.length = n := by have := congrArg List.length e1; simpa [hl] using this
 apply List.ext_getElem?; intro i; rcases Nat.lt_or_ge i n with hi | hi
 ·have h1 := hel i hi; rw [ce, Nat.mul_one] at h1; have hxi : xs[i]? = some xs[i] := by simp [hl, hi]
  rw [hxi] at h1; obtain ⟨z, hz, hx, _⟩ := DataW.trod_int he h1; have h2 : (ns.map fun x => (DataW.lit (.int k x) : DataW H))[i]? = some (.lit (.int k z)) := by
   rw [e1, List.getElem?_map, hxi, hx]; rfl
  rw [List.getElem?_map] at h2; cases hn : ns[i]? with
  | none => rw [hn] at h2; cases h2
  | some y =>
   rw [hn] at h2; simp at h2; subst h2; have h3 : cs[i]? = some (.int k y) := by
    have := congrArg (·[0]?) hz; simp at this; exact this
   rw [h3, List.getElem?_map, hn]; rfl
 ·rw [List.getElem?_eq_none (by omega), List.getElem?_eq_none (by simp [hnl]; omega)]
def ox : List (String × DataW Unit) := [("skewer/hash.begin", Rows.laid_skewer_hash_begin), ("skewer/hash.keys", Rows.laid_skewer_hash_keys)]
theorem Db : (Rows.laid_skewer_hash_begin : DataW Unit) = .agg ((Sha.begin8.map fun x => (x.toNat : Int)).map fun x => .lit (.int .u32 x)) := rfl
theorem EL : (Rows.laid_skewer_hash_keys : DataW Unit) = .agg ((Sha.keys64.map fun x => (x.toNat : Int)).map fun x => .lit (.int .u32 x)) := rfl
theorem zU {W : World} (h : laidMetH Tryd.prog ox W) : pR W := by
 rw [MakeChecks.laidMetH_plain _ _ _ (by kernel_rfl)] at h; obtain ⟨ps, ⟨g, t, cs, fuel, p, q, hg, ht, hv, hd, ⟨g2, t2, cs2, fuel2, p2, q2, hg2, ht2, hv2, hd2, _, _⟩, _⟩, _, _⟩ := h; obtain rfl := Option.some.inj ((show Tryd.prog.globalNamed "skewer/hash.begin" = some 0 by kernel_rfl).symm.trans hg)
 obtain rfl := Option.some.inj ((show (Tryd.prog.globals[0]?).map (·.type) = some 84 by kernel_rfl).symm.trans ht); obtain rfl := Option.some.inj ((show Tryd.prog.globalNamed "skewer/hash.keys" = some 1 by kernel_rfl).symm.trans hg2)
 obtain rfl := Option.some.inj ((show (Tryd.prog.globals[1]?).map (·.type) = some 112 by kernel_rfl).symm.trans ht2); rw [Db] at hd; rw [EL] at hd2; have e1 := uP Tryd.underlying84 Tryd.underlying83 (by kernel_rfl) (by kernel_rfl) hd; have e2 := uP Tryd.underlying112 Tryd.underlying83 (by kernel_rfl) (by kernel_rfl) hd2; refine ⟨fun i hi => ?_, fun i hi => ?_⟩
 ·have := World.var?_cell hg hv i; rw [this]; have hc : cs[i]? = cs.toList[i]? := by simp
  rw [hc, e1]; have hb : i < Sha.begin8.length := hi; simp [hb]
 ·have := World.var?_cell hg2 hv2 i; rw [this]; have hc : cs2[i]? = cs2.toList[i]? := by simp
  rw [hc, e2]; have hb : i < Sha.keys64.length := hi; simp [hb]
theorem yH (os : Os) (args : Array Value) : laidMetH Tryd.prog ox ((World.laidAll Tryd.prog os ox).forCall (fun _ _ => 0) ⟨#[], args, []⟩).memory := by
 rw [MakeChecks.laidMetH_plain _ _ _ (by kernel_rfl)]; exact laidMet_laidAll _ (by kernel_rfl) (by kernel_rfl)
end
section
open Go.ChangeShapes Go.WideShapes Go.ChangeAt Go.RowKit
theorem GQ {W : World} (h : pR W) : fK HG (fq W) := by
 intro g d hg; unfold HG at hg; split at hg
 ·rename_i e; subst e; cases hg; refine .ptr _ _ _ _ (by simp [Sha.begin8]) (ia fun i d hi => ?_); have hl : i < Sha.begin8.length := by have := (List.getElem?_eq_some_iff.1 hi).1; simpa using this
  have hd : d = bB Sha.begin8[i] := by simp [hl] at hi; exact hi.symm
  subst hd; have := h.1 i (by simpa [Sha.begin8] using hl); refine ⟨.int .u32 Sha.begin8[i].toNat, ?_, rfl, .v _⟩; show W.cell? ⟨0, 0 + i, none⟩ = _; rw [Nat.zero_add, this]; simp [hl]
 ·split at hg
  ·rename_i e; subst e; cases hg; refine .ptr _ _ _ _ (by simp [Sha.keys64]) (ia fun i d hi => ?_); have hl : i < Sha.keys64.length := by have := (List.getElem?_eq_some_iff.1 hi).1; simpa using this
   have hd : d = bB Sha.keys64[i] := by simp [hl] at hi; exact hi.symm
   subst hd; have := h.2 i (by simpa [Sha.keys64] using hl); refine ⟨.int .u32 Sha.keys64[i].toNat, ?_, rfl, .v _⟩; show W.cell? ⟨1, 0 + i, none⟩ = _; rw [Nat.zero_add, this]; simp [hl]
  ·cases hg
theorem GY {H : Type} {enc : TypeId × Value -> H} {s : ChangeSpec} {fn : Func} {f : FuncId} {n : Nat} (hsv : s.vars = []) (hs : ∀ (ds : List (DataW H)), ds.length = fn.params.size -> s.fn H ds = { results := [.lit (.bool true)], args := ds })
  (hres : fn.resultTypes = #[4]) (hfine : (fn.params.toList.all (ln Tryd.prog n)) = true) (hread : (fn.params.toList.all fun t => Tryd.prog.readableRec t && decide (t < Tryd.prog.types.size)) = true)
  (hD : ∀ ds, pQ Tryd.prog n fn.params.toList ds -> aj Tryd.prog HG f ds (.v (.bool true)))
  (W : World) (base : Nat) (args : Array Value) (ds gs : List (DataW H)) (before : List MemPlace) (hval : ∀ (j : Nat) t v, fn.params[j]? = some t -> args[j]? = some v -> Value.okWide Tryd.prog W .any base t v)
  (hW : DataW.Whole enc Tryd.prog fn.params.toList s.vars false W args.toList ds gs before) (hL : laidMetH Tryd.prog ox W) :
  Calls Tryd.prog f args W fun e W' => ∃ v, e = .returned v /\ s.post enc Tryd.prog fn false true false false W args v W' := by
 have hW' := hW; obtain ⟨p, q, hA, hV, rfl, _, _⟩ := hW; obtain ⟨hlen, xs, hrep, harg⟩ := Gn (w := W) hfine (fun j t v h1 h2 => hval j t v (by simpa using h1) (by simpa using h2)) hA; rw [hsv] at hV; obtain ⟨rfl, rfl⟩ := trodVars_none hV; have hlt : ∀ x ∈ p, x.block < W.heap.size := fun x hx => hW'.lt x (by simp [hx])
 have hc := hD xs harg (fq W) W args.toList (GQ (zU hL)) (Bn W) hrep; rw [Array.toArray_toList] at hc; refine hc.mono ?_; rintro e W' ⟨v, C', rfl, hm, hv⟩; have := bz hv; subst this; have hsp := hs ds (by rw [hlen]; simp); have hres' : fn.resultTypes.toList = [4] := by rw [hres]
 have hb := hm.below; refine ⟨_, rfl, ds, [], _, [], p, [], hW', ?_, ?_, ?_, hb.frame _, fun h => by cases h⟩
 ·rw [List.append_nil, hsp, hres', hres]; exact trodAll_mk1 (shut_bool Tryd.underlying4 true)
 ·rw [List.append_nil, hsp]; exact Ex Jm hread hA hb hlt
 ·rw [hsv, List.append_nil, hsp]; rfl
theorem uK {P : Program} {n : Nat} {t : TypeId} {ts : List TypeId} {ds : List D} (h : pQ P n (t :: ts) ds) : ∃ d r, ds = d :: r /\ pP P n t d /\ pQ P n ts r := by
 cases ds with
 | nil => exact h.elim
 | cons d r => exact ⟨d, r, rfl, h.1, h.2⟩
theorem Ew {P : Program} {n : Nat} {ds : List D} (h : pQ P n [] ds) : ds = [] := by
 cases ds with
 | nil => rfl
 | cons d r => exact h.elim
end
section
open Go.ChangeShapes Go.WideShapes Go.ChangeAt Go.RowKit
theorem wP {α β : Type} {f : α -> β} {g : α -> Prop} : ∀ {xs : List β}, (∀ x ∈ xs, ∃ a, x = f a /\ g a) -> ∃ l : List α, xs = l.map f /\ ∀ a ∈ l, g a := by
 intro xs
 induction xs with
 | nil => intro _; exact ⟨[], rfl, by simp⟩
 | cons x xs ih =>
  intro h; obtain ⟨a, rfl, ha⟩ := h x (by simp); obtain ⟨l, rfl, hl⟩ := ih fun y hy => h y (by simp [hy])
  exact ⟨a :: l, rfl, by simpa using ⟨ha, hl⟩⟩
end
section
section
variable {P : Program} {h : zHz} {t : TypeId} {l i off m sz : Nat} {rows rows' : List (List V)} {r : List V}
theorem Ff {x : V} (hl : af h l = some ⟨sz, rows⟩) (hr : rows[i]? = some r) (ha : bh P t = some false) (hx : (ac r).bind (fun r => r[off]?) = some x) : aX P h t (.ref l i off) = some x := by
 rw [aL] at hl; simp only [aX, hl, Option.bind_some, hr, ha]; exact hx
theorem KD {ds : List D} (hl : af h l = some ⟨sz, rows⟩) (hr : rows[i]? = some r) (ha : bh P t = some true) (hs : az P t = some m) (hb : Nat.ble (off + m) sz = true) (hp : (ac r).bind (fun r => bv (seg r sz off m)) = some ds) : aX P h t (.ref l i off) = some (.d (.agg m ds)) := by
 rw [aL] at hl; have hb' := Nat.le_of_ble_eq_true hb; cases hpl : ac r with
 | none => rw [hpl] at hp; cases hp
 | some r' =>
  rw [hpl, Option.bind_some] at hp; simp only [aX, hl, Option.bind_some, hr, hpl, ha, hs, hb', if_true, hp]
theorem Ke {x y : V} (hl : af h l = some ⟨sz, rows⟩) (hr : rows[i]? = some r) (hc : gm x = some (1, [y])) (hs : az P t = some 1) (hb : Nat.ble (off + 1) sz = true) (hlen : r.length = sz) (hk : (ac r).map (fun r => rows.set i (r.set off y)) = some rows') : dp P h t (.ref l i off) x = some (.upd l ⟨sz, rows'⟩) := by
 rw [aL] at hl; have hb' := Nat.le_of_ble_eq_true hb; obtain ⟨r', hpl, hk⟩ := Option.map_eq_some_iff.1 hk; obtain rfl := (kl hpl).1; simp only [dp, hl, Option.bind_some, hr, hpl, hc, hs, hb', and_self, if_true]; rw [<- hk]; by_cases h0 : off = 0 /\ 1 = sz
 ·rw [if_pos h0]; obtain ⟨rfl, rfl⟩ := h0
  match r, hlen with
  | [z], _ => rfl
 ·rw [if_neg h0]
theorem xg {x : V} {ys : List V} (hl : af h l = some ⟨sz, rows⟩) (hr : rows[i]? = some r) (hc : gm x = some (m, ys)) (hs : az P t = some m) (hb : Nat.ble (off + m) sz = true) (hm : Nat.ble 2 m = true) (hlen : r.length = sz) (hy : ys.length = m) (hk : rows.set i (r.take off ++ ys ++ r.drop (off + m)) = rows') : dp P h t (.ref l i off) x = some (.upd l ⟨sz, rows'⟩) := by
 rw [aL] at hl; have hb' := Nat.le_of_ble_eq_true hb; have hm' := Nat.le_of_ble_eq_true hm; have hm1 : m ≠ 1 := by omega
 have hpl : ac r = some r := DD (by omega); simp only [dp, hl, Option.bind_some, hr, hpl, hc, hs, hb', and_self, if_true, if_neg hm1]; rw [<- hk]; by_cases h0 : off = 0 /\ m = sz
 ·rw [if_pos h0]; obtain ⟨rfl, rfl⟩ := h0; rw [List.take_zero, Nat.zero_add, List.drop_of_length_le (by omega)]; simp
 ·rw [if_neg h0]
theorem Kz {e : TypeId} {len lo j n : Nat} {k : Int} {iv : V} (hu : P.underlying t = some (.slice e)) (hs : az P e = some sz) (hi : iI iv = some k) (hl : af h l = some ⟨sz, rows⟩) (h0 : 0 <= k) (h1 : k < (len : Int)) (hj : lo + k.toNat = j) : cG P h t (.sref l lo len) iv = some (.ref l j 0) := by
 rw [aL] at hl; simp only [cG, hi, Option.bind_some, hu, hs, hl, h0, h1, and_self, if_true, hj]
inductive PartsQ (s : Nat) : Nat -> zEz -> zRz -> Prop
 | nil (k : Nat) : PartsQ s k [] []
 | cons {k : Nat} {x : V} {ys : List D} {r : zEz} {yss : zRz} : eU s x = some ys -> PartsQ s (k + 1) r yss -> PartsQ s k ((k, x) :: r) (ys :: yss)
theorem LO {s : Nat} : ∀ {r : zEz} {k : Nat} {yss rows : zRz}, PartsQ s k r yss -> rows.length = k + r.length -> jq s r rows = some (rows.take k ++ yss) := by
 intro r
 induction r with
 | nil => intro k yss rows h hl; cases h; simp at hl; simp only [jq]; rw [List.take_of_length_le (by omega)]; simp
 | cons e r ih =>
  intro k yss rows h hl; cases h with
  | cons h1 h2 =>
   rename_i x ys yss; have hk : k < rows.length := by rw [hl]; simp
   simp only [jq, h1, Option.bind_some, hk, if_true]; rw [ih h2 (by rw [List.length_set, hl]; simp; omega)]; rw [List.take_add_one, List.take_set_of_le (Nat.le_refl _)]; simp [hk]
theorem PartsQ.length {s : Nat} : ∀ {r : zEz} {k : Nat} {yss : zRz}, PartsQ s k r yss -> yss.length = r.length := by
 intro r
 induction r with
 | nil => intro k yss h; cases h; rfl
 | cons e r ih => intro k yss h; cases h with | cons _ h => simp [ih h]
theorem me {e : TypeId} {n s : Nat} {z : List D} {ps : zEz} {yss : zRz} (hu : P.underlying t = some (.slice e)) (hs : az P e = some s) (hz : bK P e = some z) (hzl : z.length = s) (hn : (Nat.ble 1 (n * s) && Nat.ble (n * s) 16777216 && Nat.ble n 16777216) = true) (hp : PartsQ s 0 ps yss) (hl : ps.length = n) : bn P t n ps = some (.d (.list s yss true)) := by
 simp only [Bool.and_eq_true] at hn; obtain ⟨⟨h1, h2⟩, h3⟩ := hn; have h1 := Nat.le_of_ble_eq_true h1; have h2 := Nat.le_of_ble_eq_true h2; have h3 := Nat.le_of_ble_eq_true h3; have h0 : n * s ≠ 0 := by omega
 simp only [bn, hu, hs, Option.bind_some, h2, h3, and_self, if_true, h0, if_false, hz, hzl]; rw [LO hp (by simp [hl])]; simp
end
end
section
section
variable {P : Program} {G : zGz} {N : Nat} {F : Fr} {ops rest : zOz} {o : Oper} {h : zHz} {env : zEz} {al : zHz} {nx : Nat} {t e : TypeId} {z : Value} {size bytes : Nat} {K : zEz -> zHz -> Nat -> Prop}
theorem jE.appendFresh (hF : Env F P G N) (hE : ElemT P t e z size bytes) {s x : Operand} {sz sz' : Nat} {ys : zRz} {f : Bool} (ho : o.op = .call ⟨.builtin .append, #[s, x], #[t, t]⟩)
  (hs : evD G env s = some (.d (.list sz [] true))) (hx : evD G env x = some (.d (.list sz' ys f))) (hsz' : sz' = size \/ ys = []) (hb : ys.length * bytes <= 140737488355328) (hb2 : ys.length <= 140737488355328) :
  jE F G o env (dB size ys) (fun m => .sref m 0 ys.length) := by
 intro μ C a w nx' hh hsim hop m hm hfree K Q hK; obtain ⟨rfl, rfl, hG⟩ := hF; obtain ⟨i0, hi, hz0, hz1, hz2⟩ := info_parts hE.info; have hsv : ax μ C (.d (.list sz [] true)) (a.eval s) := hop s (by rw [ho]; simp [Op.operands, Call.operands]) _ hs; have hxv : ax μ C (.d (.list sz' ys f)) (a.eval x) := hop x (by rw [ho]; simp [Op.operands, Call.operands]) _ hx; have hk := hsim.known; obtain ⟨ao, cap, vs, e1, hcap, hvl, hvv, hvx, hvr⟩ := cM (P := F.P) (size := size) hk hsv (.inr rfl); obtain ⟨bo, cap', us, e2, _, hul, huv, hux, hur⟩ := cM (P := F.P) hk hxv hsz'; by_cases hy : ys = []
 ·subst hy; unfold Oper.wp; rw [gG ho, Sem.run_bind, e1, e2]; rw [hcap rfl]; have : (Builtin.append_ #[t, t] o.type #[.slice ao ([] : zRz).length ([] : zRz).length, .slice bo ([] : zRz).length cap']).run F.P w = .ok (.slice ao ([] : zRz).length ([] : zRz).length) w := by
   have hf0 := hur w (Below.refl _ _); rw [e2] at hf0; have : us = [] := List.eq_nil_of_length_eq_zero (by simpa using hul); subst this; have hszr : (sizeOf e).run F.P w = .ok size w := by simp [sizeOf, typeInfo, hi, hz1]
   simp only [List.length_nil] at hf0; cases ao with
   | none => simp [Builtin.append_, run_underlying hE.und, hszr, Builtin.lenOf, hf0]
   | some b => simp [Builtin.append_, run_underlying hE.und, hszr, Builtin.lenOf, hf0, storeCells]
  rw [this, Result.andThen_ok]; show Oper.upon F.P o a K _ (.ok (.value _) w); rw [Oper.upon_value]; have hs2 := hsim.adopt (.of_below hk (Below.refl _ w)) (m := m) (n' := nx') hfree hm (Nat.le_refl _) (p := ⟨w.heap.size, 0, size⟩) (sz := size) (rows := []) ⟨rfl, by simp [dB], by simp, by simp [dB], fun h => absurd h (by simp)⟩; refine hK _ _ _ C hs2 (fun _ _ _ h => h) (fun l q hq => ?_) (fun l hl => by simp [hl]) ⟨⟨w.heap.size, 0, size⟩, ao, by simp, by simp, by simp, fun h => absurd h (by simp)⟩; have : l ≠ m := fun e => by rw [e, hfree] at hq; cases hq
  simp [this, hq]
 ·have hsz2 : sz' = size := hsz'.resolve_right hy; have hdr : Below w.heap.size w w.drew := (Below.refl _ _).drew; unfold Oper.wp; rw [gG ho, Sem.run_bind, e1, e2]; rw [hcap rfl]; have hm0 : 0 < ys.length := List.length_pos_iff.2 hy; have hr1 := hvr w.drew hdr; have hr2 := hur w.drew hdr; rw [e1, hcap rfl] at hr1; rw [e2] at hr2; have hrun := ic (P := F.P) (w := w) hE.und i0 hi hz0 ao 0 0 vs bo ys.length cap' us o.type (by rw [hz1]; exact hr1) (by rw [hz1]; exact hr2) (by omega) (by rw [hz2]; simpa using hb) (by simpa using hb2); simp only [List.length_nil]; rw [hrun, Result.andThen_ok]; show Oper.upon F.P o a K _ (.ok (.value _) _); rw [Oper.upon_value]; have hge := grownCap_ge w (0 + ys.length) 0 e; have hgm := grownCap_le_maxLen w (0 + ys.length) 0 e (by unfold maxLen; omega); generalize hgc : grownCap w (0 + ys.length) 0 e = g at hge hgm ⊢; have hv0 : vs = [] := List.eq_nil_of_length_eq_zero (by simpa using hvl); subst hv0; have hmore : More w C (w.drew.alloc (.cells (([] : zLz).toArray ++ us.toArray ++ Builtin.zeroCells z.cells (g - (0 + ys.length))) e)) C := .of_below hk (hdr.alloc (Nat.le_refl _) _); have hs2 := hsim.adopt hmore (m := m) (n' := nx') hfree hm (Nat.le_refl _) (p := ⟨w.heap.size, g, size⟩) (sz := size) (rows := ys)
   ⟨rfl, by simp [dB]; omega, by unfold maxLen at hgm; exact Nat.le_trans hgm (by decide), by
    intro r hr; obtain ⟨x, hx, rfl⟩ := List.mem_map.1 hr; simpa using hux x hx, fun _ => ⟨Nat.le_refl _, fun o u hc => absurd (hk.lt hc) (Nat.lt_irrefl _), _, e, by rw [show (dB size ys).isMap = false from fa _ _]; exact heap_alloc_new w.drew _, qC g (0 + ys.length) size z.cells hE.zs [] us (by rw [hul]; simp) hge, by
    have := na (μ := fun _ => none) (C := C) (rows := ys) (vs := us) (size := size) hux huv (Builtin.zeroCells z.cells (g - (0 + ys.length))).toList; simpa using this⟩⟩
  refine hK _ _ _ C hs2 (fun _ _ _ h => h) (fun l q hq => ?_) (fun l hl => by simp [hl]) ⟨⟨w.heap.size, g, size⟩, some ⟨w.heap.size, 0, none⟩, by simp, by simp, by simp; omega, fun _ => by simp⟩; have : l ≠ m := fun e => by rw [e, hfree] at hq; cases hq
  simp [this, hq]
theorem au.appendFresh (hF : Env F P G N) (hE : ElemT P t e z size bytes) {s x : Operand} {d : Tmp} {sz sz' : Nat} {ys : zRz} {f : Bool} (ho : o.op = .call ⟨.builtin .append, #[s, x], #[t, t]⟩) (hd : o.dst = some d) (hdN : Nat.blt d N = true) (hg : aC ops env o.guard = some true)
  (hs : evB G env s = some (.d (.list sz [] true))) (hx : evB G env x = some (.d (.list sz' ys f))) (hsz' : sz' = size \/ ys = []) (hb : ys.length * bytes <= 140737488355328) (hb2 : ys.length <= 140737488355328)
  (k : au F G N ops.toArray h rest ((d, .sref nx 0 ys.length) :: env) ((nx, dB size ys) :: al) (nx + 1) K) : au F G N ops.toArray h (o :: rest) env al nx K := by
 rw [aT] at hs hx; exact .inl ⟨d, hd, by simpa [Nat.blt_eq] using hdN, .inr ⟨dB size ys, fun m => .sref m 0 ys.length, aN hg, .appendFresh hF hE ho hs hx hsz' hb hb2, k⟩⟩
end
end
section
section
variable {P : Program} {G : zGz} {N : Nat} {F : Fr} {ops rest : zOz} {o : Oper} {h0 h : zHz} {env : zEz} {al : zHz} {nx : Nat} {t e : TypeId} {z : Value} {size bytes : Nat} {K : zEz -> zHz -> Nat -> Prop}
theorem cq.append (hF : Env F P G N) (hE : ElemT P t e z size bytes) {s x : Operand} {sz sz' : Nat} {xs ys : zRz} {f : Bool} (ho : o.op = .call ⟨.builtin .append, #[s, x], #[t, t]⟩)
  (hs : evD G env s = some (.d (.list sz xs true))) (hx : evD G env x = some (.d (.list sz' ys f))) (hsz : sz = size \/ xs = []) (hsz' : sz' = size \/ ys = []) (hb : (xs.length + ys.length) * bytes <= 140737488355328) (hb2 : xs.length + ys.length <= 140737488355328) :
  cq F G h0 o env (.d (.list size (xs ++ ys) false)) := by
 intro μ C a w nx' hh hsim hold hop K Q hK; obtain ⟨rfl, rfl, hG⟩ := hF; obtain ⟨i0, hi, hz0, hz1, hz2⟩ := info_parts hE.info; have hsv : ax μ C (.d (.list sz xs true)) (a.eval s) := hop s (by rw [ho]; simp [Op.operands, Call.operands]) _ hs; have hxv : ax μ C (.d (.list sz' ys f)) (a.eval x) := hop x (by rw [ho]; simp [Op.operands, Call.operands]) _ hx; have hk := hsim.known; obtain ⟨ao, cap, vs, e1, hcap, hvl, hvv, hvx, hvr⟩ := cM (P := F.P) hk hsv hsz; obtain ⟨bo, cap', us, e2, _, hul, huv, hux, hur⟩ := cM (P := F.P) hk hxv hsz'; have hdr : Below w.heap.size w w.drew := (Below.refl _ _).drew; unfold Oper.wp; rw [gG ho, Sem.run_bind, e1, e2]; rw [hcap rfl]; by_cases hy : ys = []
 ·subst hy; have : (Builtin.append_ #[t, t] o.type #[.slice ao xs.length xs.length, .slice bo ([] : zRz).length cap']).run F.P w = .ok (.slice ao xs.length xs.length) w := by
   have hf0 := hur w (Below.refl _ _); rw [e2] at hf0; have : us = [] := List.eq_nil_of_length_eq_zero (by simpa using hul); subst this; have hszr : (sizeOf e).run F.P w = .ok size w := by simp [sizeOf, typeInfo, hi, hz1]
   simp only [List.length_nil] at hf0; cases ao with
   | none => simp [Builtin.append_, run_underlying hE.und, hszr, Builtin.lenOf, hf0]
   | some b => simp [Builtin.append_, run_underlying hE.und, hszr, Builtin.lenOf, hf0, storeCells]
  rw [this, Result.andThen_ok]; show Oper.upon F.P o a K _ (.ok (.value _) w); rw [Oper.upon_value]; refine hK _ _ C (.of_below hk (Below.refl _ _)) ?_; rw [e1, hcap rfl] at hsv; rw [List.append_nil]; show Rep C _ _; rcases hsz with rfl | rfl
  ·exact jW hsv
  ·exact ck _ _ _ _ _ hsv
 ·have hm : 0 < ys.length := List.length_pos_iff.2 hy; have hr1 := hvr w.drew hdr; have hr2 := hur w.drew hdr; rw [e1, hcap rfl] at hr1; rw [e2] at hr2; have hrun := ic (P := F.P) (w := w) hE.und i0 hi hz0 ao xs.length xs.length vs bo ys.length cap' us o.type (by rw [hz1]; exact hr1) (by rw [hz1]; exact hr2) (by omega) (by rw [hz2]; exact hb) hb2; rw [hrun, Result.andThen_ok]; show Oper.upon F.P o a K _ (.ok (.value _) _); rw [Oper.upon_value]; have hs1 := hsim.drew; have hm1 := mY hs1.known (vs.toArray ++ us.toArray ++ Builtin.zeroCells z.cells (grownCap w (xs.length + ys.length) xs.length e - (xs.length + ys.length))) e; have hm0 : More w C w.drew C := .of_below hk hdr; refine hK _ _ _ (hm0.trans hm1) ?_; have hrows := xJ (C := C) (rows := xs ++ ys) (vs := vs ++ us) (size := size) (by intro x hx; rcases List.mem_append.1 hx with hx | hx; exact hvx x hx; exact hux x hx) (by rw [List.flatten_append]; exact ff hvv huv)
   (vs.toArray ++ us.toArray ++ Builtin.zeroCells z.cells (grownCap w (xs.length + ys.length) xs.length e - (xs.length + ys.length))) (fun j u hj => by
    have hjl := (List.getElem?_eq_some_iff.1 hj).1; rw [Array.getElem?_append_left (by simpa using hjl)]; simpa using hj) w.heap.size
  have hne : xs ++ ys ≠ [] := by simp [hy]
  have hge := grownCap_ge w (xs.length + ys.length) xs.length e; have := Rp.list (C := lc C w.heap.size (vs.toArray ++ us.toArray ++ Builtin.zeroCells z.cells (grownCap w (xs.length + ys.length) xs.length e - (xs.length + ys.length)))) size (xs ++ ys) false w.heap.size 0 (grownCap w (xs.length + ys.length) xs.length e) hne ⟨by simpa using hge, by simp, grownCap_le_maxLen w _ _ e (by unfold maxLen; omega), fun h => (by cases h), fun x h _ => by cases h; rfl⟩ hrows; rw [List.length_append] at this; exact this
theorem au.append (hF : Env F P G N) (hE : ElemT P t e z size bytes) {s x : Operand} {d : Tmp} {sz sz' : Nat} {xs ys : zRz} {f : Bool} (ho : o.op = .call ⟨.builtin .append, #[s, x], #[t, t]⟩) (hd : o.dst = some d) (hdN : Nat.blt d N = true) (hg : aC ops env o.guard = some true)
  (hs : evB G env s = some (.d (.list sz xs true))) (hx : evB G env x = some (.d (.list sz' ys f))) (hsz : sz = size \/ xs = []) (hsz' : sz' = size \/ ys = []) (hb : (xs.length + ys.length) * bytes <= 140737488355328) (hb2 : xs.length + ys.length <= 140737488355328)
  (k : au F G N ops.toArray h rest ((d, .d (.list size (xs ++ ys) false)) :: env) al nx K) : au F G N ops.toArray h (o :: rest) env al nx K := by
 rw [aT] at hs hx; exact .inl ⟨d, hd, by simpa [Nat.blt_eq] using hdN, .inl ⟨_, .inl ⟨aN hg, .append hF hE ho hs hx hsz hsz' hb hb2⟩, k⟩⟩
end
end
section
section
variable {P : Program} {o : Oper} {a : Act} {w : World} {Q : Exit -> Act -> World -> Prop}
theorem AU {K : Act -> World -> Prop} (f : FuncId) (hcall : ∀ args w, (callFunc f args).run P w = .ok (.enter f args) w) (x : Operand) (xs : Array Operand) (ts : Array TypeId) (ho : o.op = .call ⟨.value x, xs, ts⟩) (us : zLz) (hx : a.eval x = .func (.func f) #[] us.toArray)
  (vs : zLz) (hv : xs.toList.map a.eval = vs) (h : Calls P f (vs ++ us).toArray w fun e w' => ∃ v, e = .returned v /\ K (a.put o.dst v) w') : o.wp P a w K Q := by
 unfold Oper.wp; have hv' : xs.map a.eval = vs.toArray := by rw [<- hv, <- Array.toList_map]
 have : (execOp a.eval o).run P w = .ok (.enter f (vs ++ us).toArray) w := by
  have e : execOp a.eval o = callFunc f (#[] ++ xs.map a.eval ++ us.toArray) := by
   simp only [execOp, ho]; show (do let d <- Deferred.ofValue (a.eval x) (xs.map a.eval); invoke d.target d.args : Sem Next) = _; rw [hx]; rfl
  rw [e, hcall, hv']; simp
 rw [this, Oper.upon_enter]; refine h.mono ?_; rintro e w' ⟨v, rfl, hK⟩; exact hK
end
theorem tJ {C : aw} {ds es : List D} : ∀ {vs us : zLz}, Rp C (.outs ds vs) -> Rp C (.outs es us) -> Rp C (.outs (ds ++ es) (vs ++ us)) := by
 induction ds with
 | nil => intro vs us h k; cases h; exact k
 | cons d ds ih => intro vs us h k; cases h with | ocons _ v _ vs h1 h2 => exact .ocons d v _ _ h1 (ih h2 k)
section
variable {P : Program} {G : zGz} {N : Nat} {F : Fr} {ops : Array Oper} {rest : zOz} {o : Oper} {Q : zQz} {st : St} {h0 : zHz}
theorem SmL.callF (hF : Env F P G N) (hN : St.small N st) {f : FuncId} {x : Operand} {xs : Array Operand} {ts : Array TypeId} {t : Tmp} {ds caps : List D} {r : D} (hg : bP ops st.env o.guard = some true) (ho : o.op = .call ⟨.value x, xs, ts⟩) (hd : o.dst = some t) (hb : cD P f = true)
  (hx : evD G st.env x = some (.d (.fn f caps))) (hargs : bE (evD G st.env) xs.toList = some ds) (ht : t < N) (hc : aj P G f (ds ++ caps) r)
  (k : SmL F ops rest Q { st with env := (t, .d r) :: st.env }) : SmL F ops (o :: rest) Q st := by
 intro μ C a w hs; obtain ⟨rfl, rfl, hG⟩ := hF; have hev : ∀ x v, evD G st.env x = some v -> ax μ C v (a.eval x) := fun x v h => bW hs hG h
 refine cb (fun _ => by rw [ho]; simp) fun K hK => ?_
 rw [bI hs hg hN, if_pos rfl]; have hfv := hev x _ hx; generalize hfx : a.eval x = fv at hfv; cases hfv with
 | fn _ _ us hu =>
  refine AU f (fun a w => fX hb a w) x xs ts ho us hfx (xs.toList.map a.eval) rfl ?_; refine (hc C w _ (hG.mono hs.sub) hs.known (tJ (kP hev hargs) hu)).mono ?_; rintro e w' ⟨v, C', rfl, hm, hr⟩; exact ⟨v, rfl, by rw [hd]; exact hK _ _ (k μ C' _ w' ((hs.more hm).put ht hr))⟩
theorem cq.callF (hF : Env F P G N) {env : zEz} {f : FuncId} {x : Operand} {xs : Array Operand} {ts : Array TypeId} {ds caps : List D} {r : D} (ho : o.op = .call ⟨.value x, xs, ts⟩) (hb : cD P f = true)
  (hx : evD G env x = some (.d (.fn f caps))) (hargs : bE (evD G env) xs.toList = some ds) (hc : aj P G f (ds ++ caps) r) : cq F G h0 o env (.d r) := by
 intro μ C a w nx' hh hs hold hop K Q hK; obtain ⟨rfl, rfl, hG⟩ := hF; have hxs : ∀ y ∈ xs.toList, ∀ v, evD G env y = some v -> ax μ C v (a.eval y) := fun y hy v hv => hop y (by rw [ho]; simp [Op.operands, Call.operands]; exact .inr (by simpa using hy)) v hv
 have hfv : ax μ C (.d (.fn f caps)) (a.eval x) := hop x (by rw [ho]; simp [Op.operands, Call.operands]) _ hx; have hrep : ∀ {ys : List Operand} {es : List D}, (∀ y ∈ ys, ∀ v, evD G env y = some v -> ax μ C v (a.eval y)) -> bE (evD G env) ys = some es -> Rp C (.outs es (ys.map a.eval)) := by
  intro ys
  induction ys with
  | nil => intro es _ h; cases h; exact .onil
  | cons y ys ih =>
   intro es hy h; simp only [bE, Option.bind_eq_some_iff] at h; obtain ⟨v, hv, h⟩ := h; split at h
   ·rename_i d; simp only [Option.map_eq_some_iff] at h; obtain ⟨r, hr, rfl⟩ := h; exact .ocons _ _ _ _ (hy y (by simp) _ hv) (ih (fun z hz => hy z (by simp [hz])) hr)
   ·cases h
 generalize hfx : a.eval x = fv at hfv; cases hfv with
 | fn _ _ us hu =>
  refine AU f (fun a w => fX hb a w) x xs ts ho us hfx (xs.toList.map a.eval) rfl ?_; refine (hc C w _ (hG.mono hs.sub) hs.known (tJ (hrep hxs hargs) hu)).mono ?_; rintro e w' ⟨v, C', rfl, hm, hr⟩; exact ⟨v, rfl, hK v w' C' hm hr⟩
end
section
variable {P : Program} {G : zGz} {N : Nat} {F : Fr} {ops rest : zOz} {o : Oper} {Q : zQz} {env : zEz} {h : zHz} {nx : Nat} {al : zHz} {K : zEz -> zHz -> Nat -> Prop}
theorem SmG.callF (hF : Env F P G N) {f : FuncId} {x : Operand} {xs : List Operand} {ts : Array TypeId} {t : Tmp} {ds caps : List D} {r : D} (ho : o.op = .call ⟨.value x, xs.toArray, ts⟩) (hd : o.dst = some t) (ht : Nat.blt t N = true)
  (hg : aC ops env o.guard = some true) (hx : evB G env x = some (.d (.fn f caps))) (hargs : bE (evB G env) xs = some ds) (hb : cD P f = true) (hc : aj P G f (ds ++ caps) r)
  (k : SmG F N ops rest Q ⟨(t, .d r) :: env, h, nx⟩) : SmG F N ops (o :: rest) Q ⟨env, h, nx⟩ := by
 have ht' : t < N := by simpa [Nat.blt_eq] using ht
 intro hs; rw [aT] at hx; exact SmL.callF hF hs (aN hg) ho hd hb hx (jk (by simpa using hargs)) ht' hc (k (bJ hs ht'))
theorem au.cf (hF : Env F P G N) {f : FuncId} {x : Operand} {xs : List Operand} {ts : Array TypeId} {t : Tmp} {ds caps : List D} {r : D} (ho : o.op = .call ⟨.value x, xs.toArray, ts⟩) (hd : o.dst = some t) (ht : Nat.blt t N = true)
  (hg : aC ops env o.guard = some true) (hx : evB G env x = some (.d (.fn f caps))) (hargs : bE (evB G env) xs = some ds) (hb : cD P f = true) (hc : aj P G f (ds ++ caps) r)
  (k : au F G N ops.toArray h rest ((t, .d r) :: env) al nx K) : au F G N ops.toArray h (o :: rest) env al nx K := by
 rw [aT] at hx; exact .inl ⟨t, hd, by simpa [Nat.blt_eq] using ht, .inl ⟨_, .inl ⟨aN hg, .callF hF ho hb hx (jk (by simpa using hargs)) hc⟩, k⟩⟩
theorem Al {f : FuncId} {caps : List Operand} {ds : List D} (ho : o.op = .makeFunc (.func f) #[] caps.toArray) (hx : bE (evB G env) caps = some ds) : opV P (evD G env) h o = some (.d (.fn f ds)) := by
 have := jk hx; simp [opV, ho, this]
end
end
section
structure Same (O : Nat -> Prop) (w w' : World) : Prop where
 os : w'.os = w.os
 tape : w'.tape = w.tape
 output : w'.output = w.output
 size : w.heap.size <= w'.heap.size
 block : ∀ b, O b -> w'.heap[b]? = w.heap[b]?
structure But (O O' : Nat -> Prop) (w w' : World) : Prop where
 os : w'.os = w.os
 tape : w'.tape = w.tape
 output : w'.output = w.output
 size : w.heap.size <= w'.heap.size
 block : ∀ b, b < w.heap.size -> ¬ O b -> w'.heap[b]? = w.heap[b]?
 sub : ∀ b, O b -> O' b
 new : ∀ b, O' b -> O b \/ w.heap.size <= b
 lt : ∀ b, O' b -> b < w'.heap.size
abbrev Jt := Nat -> (Nat -> Prop) -> aw -> World -> Prop
def ItG (base : Nat) (O0 : Nat -> Prop) (J : Jt) (ds : List Deferred) (h : zHz) (μ : zMz) (C : aw) (w : World) : Prop :=
 look h 0 = none /\ base <= w.heap.size /\ (∀ b, eC h μ b -> base <= b) /\ ∃ m sz O K, μ 0 = some ⟨m, 0, sz⟩ /\ J m O K w /\ (∀ b, eC h μ b -> ¬ O b) /\ (∀ b o u, K b o u -> C b o u) /\ (∀ b o u, C b o u -> K b o u \/ base <= b) /\ (∀ b o u, C b o u -> ¬ O b) /\
  (∀ b, O b -> b < w.heap.size) /\ (∀ b, O0 b -> O b) /\ (∀ b, O b -> O0 b \/ base <= b) /\ (∀ q, ({ target := .collected q, args := #[] } : Deferred) ∈ ds -> ¬ O q)
structure ItFr (F : Fr) (P : Program) (l : Nat) (xs : zRz) (O0 : Nat -> Prop) (J : Jt) : Prop where
 keep : ∀ ds h μ C w, F.G ds h μ C w ↔ ItG F.w0.heap.size O0 J ds h μ C w
 own : F.own = O0
 low : F.n0 = 1
 lt : ∀ b, O0 b -> b < F.w0.heap.size
 stab : ∀ m O K W W', J m O K W -> Same (fun b => O b \/ b < F.w0.heap.size) W W' -> bG K W' -> J m O K W'
 round : ∀ (i : Nat) x O K C' W vs, xs[i]? = some x -> J (i + 1) O K W -> bG C' W -> (∀ b o u, K b o u -> C' b o u) -> (∀ b o u, C' b o u -> K b o u \/ F.w0.heap.size <= b) -> (∀ b o u, C' b o u -> ¬ O b) -> (∀ b, O b -> b < W.heap.size) -> Rp C' (.outs x vs) ->
   YieldAt Fence.wide 0 P l vs.toArray W fun e W' => ∃ (c : Bool) (O' : Nat -> Prop), e = .returned (.bool c) /\ But O O' W W' /\ J (if c then i + 2 else 0) O' C' W'
theorem bG.same {C : aw} {w w' : World} (h : bG C w) (hb : ∀ b o u, C b o u -> w'.heap[b]? = w.heap[b]?) : bG C w' := fun b o u hc => by
 rcases h b o u hc with g | ⟨es, c, g, e⟩
 ·left; simp only [World.cell?, hb b o u hc] at g ⊢; exact g
 ·exact .inr ⟨es, c, (hb b o u hc).trans g, e⟩
theorem ItG.stab {base : Nat} {O0 : Nat -> Prop} {J : Jt} (hst : ∀ m O K W W', J m O K W -> Same (fun b => O b \/ b < base) W W' -> bG K W' -> J m O K W') {ds : List Deferred} {h h' : zHz} {μ μ' : zMz} {C C' : aw} {w w' : World}
  (g : ItG base O0 J ds h μ C w) (t : Turn 1 h μ C w h' μ' C' w') : ItG base O0 J ds h' μ' C' w' := by
 obtain ⟨g1, g2, g3, m, sz, O, K, g4, g5, g6, g7, g8, g9, g10, g11, g12, g13⟩ := g; have hblk : ∀ b, O b \/ b < base -> w'.heap[b]? = w.heap[b]? := fun b hb => by
  rcases hb with hb | hb
  ·exact t.block b (g10 b hb) (fun ho => g6 b ho hb)
  ·exact t.block b (by omega) (fun ho => by have := g3 b ho; omega)
 refine ⟨Option.eq_none_iff_forall_ne_some.2 fun k hk => ?_, Nat.le_trans g2 t.size, fun b hb => (t.own b hb).elim (g3 b) (fun h => Nat.le_trans g2 h), m, sz, O, K, t.low 0 _ (by omega) g4, hst _ _ _ _ _ g5 ⟨t.os, t.tape, t.output, t.size, hblk⟩ (fun b o u hk => t.known b o u (t.sub _ _ _ (g7 _ _ _ hk))), fun b hb ho => ?_, fun b o u hk => t.sub _ _ _ (g7 _ _ _ hk), fun b o u hc => ?_, fun b o u hc ho => ?_, fun b hb => Nat.lt_of_lt_of_le (g10 b hb) t.size, g11, g12, g13⟩
 ·rcases t.dom 0 (by rw [hk]; rfl) with h1 | h1
  ·rw [g1] at h1; cases h1
  ·rw [g4] at h1; cases h1
 ·rcases t.own b hb with h1 | h1
  ·exact g6 b h1 ho
  ·have := g10 b ho; omega
 ·rcases t.new b o u hc with h1 | h1 | h1
  ·exact g8 _ _ _ h1
  ·exact .inr (g3 b h1)
  ·exact .inr (Nat.le_trans g2 h1)
 ·rcases t.new b o u hc with h1 | h1 | h1
  ·exact g9 _ _ _ h1 ho
  ·exact g6 b h1 ho
  ·have := g10 b ho; omega
section
variable {P : Program} {G : zGz} {N : Nat} {F : Fr} {ops : Array Oper} {rest : zOz} {o : Oper} {Q : zQz} {st : St}
theorem yM {l : Nat} {x : Operand} {xs : Array Operand} {ts : Array TypeId} (ho : o.op = .call ⟨.value x, xs, ts⟩) {a : Act} {w : World} (hx : a.eval x = .func (.yield l) #[] #[]) : (execOp a.eval o).run P w = (Instr.yield l (xs.map a.eval)).run P w := by
 have e : execOp a.eval o = Instr.yield l (#[] ++ xs.map a.eval) := by
  simp only [execOp, ho]; show (do let d <- Deferred.ofValue (a.eval x) (xs.map a.eval); invoke d.target d.args : Sem Next) = _; rw [hx]; rfl
 rw [e]; simp
theorem SmL.yield (hF : Env F P G N) (hN : St.small N st) {l i s t : Nat} {xs : zRz} {O0 : Nat -> Prop} {J : Jt} {x : List D} (hI : ItFr F P l xs O0 J) (hgh : look st.env s = some (.gh (i + 1))) (hi : xs[i]? = some x) {y : Operand} {ys : Array Operand} {ts : Array TypeId} {ds : List D}
  (hg : bP ops st.env o.guard = some true) (ho : o.op = .call ⟨.value y, ys, ts⟩) (hd : o.dst = some t) (ht : t < N) (hy : evD G st.env y = some (.d (.v (.func (.yield l) #[] #[])))) (hargs : bE (evD G st.env) ys.toList = some ds) (hle : ∀ C vs, Rp C (.outs ds vs) -> Rp C (.outs x vs)) (hfree : jM 0 st.h)
  (k : ∀ c : Bool, SmL F ops rest Q { st with env := (t, .d (.v (.bool c))) :: (s, .gh (if c then i + 2 else 0)) :: dn 0 st.env }) : SmL F ops (o :: rest) Q st := by
 intro μ C a w hs; have hev : ∀ x v, evD G st.env x = some v -> ax μ C v (a.eval x) := fun x v h => bW hs hF.glob h
 have hyv := bz (hev y _ hy); obtain ⟨g1, g2, g3, m, sz, O, K, g4, g5, g6, g7, g8, g9, g10, g11, g12, g13⟩ := (hI.keep _ _ _ _ _).1 hs.gh; obtain ⟨sz', hm⟩ := hs.env s _ hgh; rw [g4] at hm; obtain rfl : m = i + 1 := by cases hm; rfl
 have hPP := hF.prog; obtain ⟨fn, tm, asg, bo, hrun, hround⟩ := hI.round i x O K C w (ys.toList.map a.eval) hi g5 hs.known g7 g8 g9 g10 (hle _ _ (kP hev hargs)); show (if Region.wanted o (yielded ops a.tmps) then o.wpIn F.fz 0 F.P a w (wpListIn F.fz 0 F.P ops (Sq F Q) rest) (Sq F Q) else _); rw [bI hs hg (by rw [hF.size]; exact hN), if_pos rfl]; refine ⟨fun _ _ => trivial, ?_⟩; rw [Oper.semAt_eq _ _ _ (by rw [ho]; simp), yM ho hyv, hPP]; have e1 : ys.map a.eval = (ys.toList.map a.eval).toArray := by rw [<- Array.toList_map]
 rw [e1, hrun]; refine ⟨fun h => (by cases h), ?_⟩; refine RoundIn.mono (F := F.fz) (show RoundIn F.fz 0 P l fn tm asg bo w _ from hround) ?_; rintro e W' ⟨c, O', rfl, hb, hJ⟩; rw [hd, <- hPP]; refine k c (fun n => if n = 0 then some ⟨if c then i + 2 else 0, 0, sz⟩ else μ n) C _ W' ?_; have hμ : ∀ n, n ≠ 0 -> (fun n => if n = 0 then some (⟨if c then i + 2 else 0, 0, sz⟩ : Place) else μ n) n = μ n := fun n h => by simp [h]
 have hfact : ∀ b o u, C b o u -> W'.heap[b]? = w.heap[b]? := fun b o u hc => hb.block b (hs.known.lt hc) (g9 b o u hc)
 have hkn : bG C W' := hs.known.same hfact; have hnot : ∀ b, b < F.w0.heap.size -> ¬ F.own b -> ¬ O b := fun b h1 h2 h3 => by
  rcases g12 b h3 with h | h
  ·exact h2 (by rw [hI.own]; exact h)
  ·omega
 refine ⟨by simp [Act.put, hs.size], ⟨hs.defers.nodup, fun d hd' => ?_⟩, ?_, hs.sub, hs.new, hkn, fun t' x' hx' => ?_, fun l' k' hk' => ?_, ?_, fun l' hl' => ?_, (hI.keep _ _ _ _ _).2 ?_⟩
 ·exact (hs.defers.each d hd').imp id fun ⟨q, q1, q2, q3⟩ => ⟨q, q1, q2, (hb.block q (Array.getElem?_eq_some_iff.1 q3).1 (g13 q (q1 ▸ hd'))).trans q3⟩
 ·refine ⟨hb.os.trans hs.below.os, hb.tape.trans hs.below.tape, hb.output.trans hs.below.output, Nat.le_trans hs.below.size hb.size, fun n hn hno => ?_⟩; rw [hb.block n (Nat.lt_of_lt_of_le hn hs.below.size) (hnot n hn hno)]; exact hs.below.block n hn hno
 ·rw [gJ a t t' _ (by rw [hs.size, hF.size]; exact ht)]; simp only [look] at hx'; by_cases h1 : t = t'
  ·rw [if_pos h1] at hx'; cases hx'; rw [if_pos h1.symm]; exact Rp.v _
  ·rw [if_neg h1] at hx'; rw [if_neg (Ne.symm h1)]; by_cases h2 : s = t'
   ·rw [if_pos h2] at hx'; cases hx'; exact ⟨sz, by simp⟩
   ·rw [if_neg h2, jv] at hx'; cases hl : look st.env t' with
    | none => rw [hl] at hx'; cases hx'
    | some z =>
     rw [hl] at hx'; simp only [Option.map_some, Option.some.injEq] at hx'; subst hx'; by_cases hz : z.free 0 = true
     ·rw [if_pos hz]; exact V.free_rep hz hμ (hs.env t' z hl)
     ·rw [if_neg hz]; trivial
 ·obtain ⟨p, hp, hB⟩ := hs.heap l' k' hk'; have hl0 : l' ≠ 0 := fun e => by subst e; rw [g1] at hk'; cases hk'
  refine ⟨p, (hμ l' hl0).trans hp, hB.sz, hB.len, hB.max, hB.row, fun hc => ?_⟩; obtain ⟨b1, b2, cur, T, b3, b4, b5⟩ := hB.cells hc; refine ⟨b1, b2, cur, T, ?_, b4, fun j r hr q z hz => ?_⟩
  ·exact b3.of_eq (hb.block _ (hB.lt hc) (g6 _ ⟨l', k', p, hk', hp, hc, rfl⟩))
  ·obtain ⟨u, u1, u2, u3⟩ := b5 j r hr q z hz; exact ⟨u, u1, u2, V.free_rep (hfree l' k' hl0 hk' r (List.mem_of_getElem? hr) z (List.mem_of_getElem? hz)) hμ u3⟩
 ·have hne : ∀ n, (look st.h n).isSome = true -> n ≠ 0 := fun n hn e => by subst e; rw [g1] at hn; cases hn
  intro n n' p p' h1 h2 q1 q2; exact hs.inj n n' p p' h1 h2 ((hμ n (hne n h1)).symm.trans q1) ((hμ n' (hne n' h2)).symm.trans q2)
 ·have hl0 : l' ≠ 0 := fun e => by
   have := hs.nx l' hl'; rw [e, g4] at this; cases this
  exact (hμ l' hl0).trans (hs.nx l' hl')
 ·have hown : ∀ b, eC st.h (fun n => if n = 0 then some (⟨if c then i + 2 else 0, 0, sz⟩ : Place) else μ n) b -> eC st.h μ b := fun b ⟨n, k', p, h1, h2, h3⟩ => by
   have hn0 : n ≠ 0 := fun e => by subst e; rw [g1] at h1; cases h1
   exact ⟨n, k', p, h1, (hμ n hn0).symm.trans h2, h3⟩
  refine ⟨g1, Nat.le_trans g2 hb.size, fun b h => g3 b (hown b h), _, sz, O', C, by simp, hJ, fun b h ho => ?_, fun _ _ _ h => h, fun _ _ _ h => .inl h, fun b o u hc ho => ?_, hb.lt, fun b h => hb.sub b (g11 b h), fun b h => ?_, fun q hq ho => ?_⟩
  ·have h := hown b h; rcases hb.new b ho with h' | h'
   ·exact g6 b h h'
   ·obtain ⟨n, k', p, h1, h2, h3, h4⟩ := h; obtain ⟨p2, hp2, hB⟩ := hs.heap n k' h1; rw [h2] at hp2; cases hp2; have := hB.lt h3; omega
  ·rcases hb.new b ho with h' | h'
   ·exact g9 b o u hc h'
   ·have := hs.known.lt hc; omega
  ·rcases hb.new b h with h' | h'
   ·exact g12 b h'
   ·exact .inr (Nat.le_trans g2 h')
  ·rcases hb.new q ho with h' | h'
   ·exact g13 q hq h'
   ·obtain ⟨q2, q3⟩ := hs.defers.mark hq; have := (Array.getElem?_eq_some_iff.1 q3).1; omega
end
end
section
section
variable {F : Fr} {st : St} {μ : zMz} {C : aw} {a : Act} {w : World}
theorem BlkOk.loop {mine mine' : Nat -> Prop} {C : aw} {p : Place} {k : Blk} (h : BlkOk mine μ C w p k) (hm : 0 < p.cap -> mine p.b -> mine' p.b) {l : Nat} {r : Loop} (hl : w.heap[l]? = some (Obj.loop r)) (o : Obj) : BlkOk mine' μ C (w.putObj l o) p k := by
 refine ⟨h.sz, h.len, h.max, h.row, fun hc => ?_⟩; obtain ⟨b1, b2, cur, T, b3, b4⟩ := h.cells hc; exact ⟨hm hc b1, b2, cur, T, b3.of_eq (World.putObj_heap_other (fun e => (b3.not (e ▸ hl)).2 _ rfl)), b4⟩
theorem Sim.own_cells (h : Sim F st μ C a w) {b : Nat} (hb : eC st.h μ b) : F.mine b /\ (∀ o u, ¬ C b o u) /\ b < w.heap.size /\ ∀ o, w.heap[b]? = some o -> (∀ ds, o ≠ .deferred ds) /\ ∀ r, o ≠ .loop r := by
 obtain ⟨l, k, p, h1, h2, h3, rfl⟩ := hb; obtain ⟨p2, hp2, hB⟩ := h.heap l k h1; rw [h2] at hp2; cases hp2; obtain ⟨b1, b2, cur, T, b3, _⟩ := hB.cells h3; exact ⟨b1, b2, b3.lt, fun o ho => b3.not ho⟩
end
section
variable {P : Program} {G : zGz} {N : Nat} {F : Fr} {Q : zQz}
end
end
section
def V.ren (σ : Nat -> Nat) : V -> V
 | .d x => .d x
 | .ref l i off => .ref (σ l) i off
 | .sref l lo len => .sref (σ l) lo len
 | .aref l i off es len cap => .aref (σ l) i off es len cap
 | .mix tup l n rest => .mix tup (σ l) n rest
 | .any => .any
 | .gh _ => .any
 | .mp ks ds => .mp ks ds
 | .omap l => .omap (σ l)
 | .clo f us ws => .clo f (us.map (Cap.ren σ)) (ws.map (Cap.ren σ))
 | .agr tup cs => .agr tup (cs.map (Cap.ren σ))
def Blk.ren (σ : Nat -> Nat) (k : Blk) : Blk := ⟨k.sz, k.rows.map fun r => r.map (V.ren σ)⟩
theorem rX (σ : Nat -> Nat) (k : Blk) : (k.ren σ).isMap = k.isMap := lu (g := V.ren σ) ⟨fun _ _ => rfl, fun x ks ds h => by cases x <;> first | exact h | cases h⟩ k
theorem Cap.ren_up {σ : Nat -> Nat} {μ μ' : zMz} (h : ∀ l p, μ l = some p -> μ' (σ l) = some p) {C : aw} {x : Cap} {v : Value} (hr : fr μ C x v) : fr μ' C (x.ren σ) v := by
 cases x with
 | d => exact hr
 | r l off => obtain ⟨p, h1, h2⟩ := hr; exact ⟨p, h l p h1, h2⟩
 | s l n => obtain ⟨p, a, h1, h2⟩ := hr; exact ⟨p, a, h l p h1, h2⟩
 | m l => obtain ⟨p, h1, h2⟩ := hr; exact ⟨p, h l p h1, h2⟩
theorem V.ren_up {σ : Nat -> Nat} {μ μ' : zMz} (h : ∀ l p, μ l = some p -> μ' (σ l) = some p) {C : aw} {x : V} {v : Value} (hr : ax μ C x v) : ax μ' C (x.ren σ) v := by
 cases x with
 | d => exact hr
 | ref l i off => obtain ⟨p, h1, h2⟩ := hr; exact ⟨p, h l p h1, h2⟩
 | sref l lo len => obtain ⟨p, ao, h1, h2⟩ := hr; exact ⟨p, ao, h l p h1, h2⟩
 | aref l i off es len cap => obtain ⟨p, ao, h1, h2⟩ := hr; exact ⟨p, ao, h l p h1, h2⟩
 | mix tup l n rest => obtain ⟨p, ao, us, h1, h2⟩ := hr; exact ⟨p, ao, us, h l p h1, h2⟩
 | any => trivial
 | gh m => trivial
 | mp => exact hr
 | omap l => obtain ⟨p, h1, h2⟩ := hr; exact ⟨p, h l p h1, h2⟩
 | agr tup cs => obtain ⟨us, h1, h2⟩ := hr; exact ⟨us, h1.imp fun c _ v hc => Cap.ren_up h hc, h2⟩
 | clo f us ws =>
  obtain ⟨as0, bs, h1, h2, h3⟩ := hr; have up : ∀ (c : Cap) v, fr μ C c v -> fr μ' C (c.ren σ) v := fun c v hc => Cap.ren_up h hc
  exact ⟨as0, bs, h1, h2.imp fun c _ => up c, h3.imp fun c _ => up c⟩
def V.noGh : V -> Bool
 | .gh _ => false
 | .clo .. => false
 | .agr .. => false
 | _ => true
theorem pV {σ : Nat -> Nat} {n : Nat} {μ μ' : zMz} (h : ∀ l p, l < n -> μ' (σ l) = some p -> μ l = some p) {C : aw} {x : V} (hx : x.lt n = true) (hn : x.noGh = true) {v : Value} (hr : ax μ' C (x.ren σ) v) : ax μ C x v := by
 cases x with
 | d => exact hr
 | ref l i off => obtain ⟨p, h1, h2⟩ := hr; exact ⟨p, h l p (by simpa [V.lt] using hx) h1, h2⟩
 | sref l lo len => obtain ⟨p, ao, h1, h2⟩ := hr; exact ⟨p, ao, h l p (by simpa [V.lt] using hx) h1, h2⟩
 | aref l i off es len cap => obtain ⟨p, ao, h1, h2⟩ := hr; exact ⟨p, ao, h l p (by simpa [V.lt] using hx) h1, h2⟩
 | mix tup l n rest => obtain ⟨p, ao, us, h1, h2⟩ := hr; exact ⟨p, ao, us, h l p (by simpa [V.lt] using hx) h1, h2⟩
 | any => trivial
 | gh m => cases hn
 | mp => exact hr
 | omap l => obtain ⟨p, h1, h2⟩ := hr; exact ⟨p, h l p (by simpa [V.lt] using hx) h1, h2⟩
 | clo => cases hn
 | agr => cases hn
structure Held (mine : Nat -> Prop) (h : zHz) (μ : zMz) (C : aw) (w : World) : Prop where
 heap : ∀ l k, look h l = some k -> ∃ p, μ l = some p /\ BlkOk mine μ C w p k
 inj : ∀ l l' p p', (look h l).isSome = true -> (look h l').isSome = true -> μ l = some p -> μ l' = some p' -> 0 < p.cap -> 0 < p'.cap -> p.b = p'.b -> l = l'
inductive RepVs (μ : zMz) (C : aw) : List V -> zLz -> Prop
 | nil : RepVs μ C [] []
 | cons (x : V) (v : Value) (xs : List V) (vs : zLz) : ax μ C x v -> RepVs μ C xs vs -> RepVs μ C (x :: xs) (v :: vs)
theorem RepVs.length {μ : zMz} {C : aw} {xs : List V} {vs : zLz} (h : RepVs μ C xs vs) : vs.length = xs.length := by
 induction h with
 | nil => rfl
 | cons _ _ _ _ _ _ ih => simp [ih]
theorem RepVs.get {μ : zMz} {C : aw} {xs : List V} {vs : zLz} (h : RepVs μ C xs vs) : ∀ (i : Nat) (x : V), xs[i]? = some x -> ∃ v, vs[i]? = some v /\ ax μ C x v := by
 induction h with
 | nil => intro i x h; simp at h
 | cons x v xs vs h1 _ ih =>
  intro i y hy; cases i with
  | zero => simp at hy; subst hy; exact ⟨v, rfl, h1⟩
  | succ i => simpa using ih i y (by simpa using hy)
def fH (P : Program) (G : zGz) (f : FuncId) (h : zHz) (n0 : Nat) (xs : List V) (r : V) (h' : zHz) (n1 : Nat) : Prop :=
 ∀ μ C w vs, fK G C -> bG C w -> Held (fun _ => True) h μ C w -> (∀ l, n0 <= l -> μ l = none) -> RepVs μ C xs vs ->
  Calls P f vs.toArray w fun e W' => ∃ v μ' C', e = .returned v /\ (∀ l p, l < n0 -> μ l = some p -> μ' l = some p) /\ (∀ l, n1 <= l -> μ' l = none) /\ Kept (eC h μ) w W' /\ (∀ b o u, C b o u -> C' b o u) /\
   (∀ b o u, C' b o u -> C b o u \/ w.heap.size <= b \/ eC h μ b) /\ bG C' W' /\ ax μ' C' r v /\ Held (fun b => w.heap.size <= b \/ eC h μ b) h' μ' C' W'
def V.le (x y : V) : Prop := ∀ μ C v, ax μ C x v -> ax μ C y v
theorem V.le.refl (x : V) : x.le x := fun _ _ _ h => h
theorem V.le.d {x y : D} (h : x.le y) : (V.d x).le (.d y) := fun _ C v hv => h C v hv
def ML (P : Program) (fn : Func) (r : V) (h' : zHz) (n1 : Nat) : Exit -> St -> Prop
 | .ret, st | .normal, st => (∃ v, ((kI P st fn.results.toList).map .d = some v \/ (∃ pk, pm P pk st fn.results.toList = some v)) /\ v.le r) /\ (∀ l k, look h' l = some k -> look st.h l = some k) /\ st.nx <= n1
 | _, _ => False
theorem xa {F : Fr} {st : St} {μ : zMz} {C : aw} {a : Act} {w : World} (hs : Sim F st μ C a w) {fn : Func} {d : D} (hd : kI F.P st fn.results.toList = some d) : ∃ v, (results fn a.tmps).run F.P w = .ok v w /\ Rep C d v := by
 simp only [kI, Option.map_eq_some_iff] at hd; obtain ⟨es, he, hd⟩ := hd; obtain ⟨us, h1, h2⟩ := sA hs he; have hrun := qT (P := F.P) (fn := fn) h1; have hul : us.length = es.length := ja h2; rcases us with _ | ⟨u, _ | ⟨v, us⟩⟩
 ·rcases es with _ | ⟨e, es⟩
  ·subst hd; exact ⟨.tuple #[], hrun, .tup [] [] .onil⟩
  ·cases hul
 ·rcases es with _ | ⟨e, _ | ⟨e2, es⟩⟩
  ·cases hul
  ·cases h2 with
   | ocons _ _ _ _ h3 _ => subst hd; exact ⟨u, hrun, h3⟩
  ·simp at hul
 ·rcases es with _ | ⟨e, _ | ⟨e2, es⟩⟩
  ·cases hul
  ·simp at hul
  ·subst hd; exact ⟨_, hrun, .tup _ _ h2⟩
section
variable {P : Program} {G : zGz} {N : Nat}
theorem fH.of {f : FuncId} {fn : Func} {c : Code} {h : zHz} {n0 : Nat} {xs : List V} {r : V} {h' : zHz} {n1 : Nat} (hf : P.funcs[f]? = some fn) (hb : fn.body = some c) (hN : fn.ntmps = N) (hp : xs.length <= N)
  (hh : ∀ F, Env F P G N -> F.n0 = n0 -> F.top -> Sm F c (ML P fn r h' n1) ⟨xs.zipIdx.map fun e => (e.2, e.1), h, n0⟩) : fH P G f h n0 xs r h' n1 := by
 intro μ C w vs hG hk hH hnx ha
 let F : Fr := ⟨P, N, w, C, eC h μ, none, n0, [], fun _ _ μ' _ _ => ∀ l p, l < n0 -> μ l = some p -> μ' l = some p, fun g t l p hl hp => t.low l p hl (g l p hl hp)⟩
 have hvl : vs.length = xs.length := ha.length; have hsz : (vs.toArray ++ Array.replicate (fn.ntmps - vs.toArray.size) undef).size = N := by simp; omega
 have hlook : ∀ (xs : List V) (k : Nat) (t : Nat) (x : V), look ((xs.zipIdx k).map fun e => (e.2, e.1)) t = some x -> k <= t /\ xs[t - k]? = some x := by
  intro xs
  induction xs with
  | nil => intro k t x h; simp [look] at h
  | cons d xs ih =>
   intro k t x h; simp only [List.zipIdx_cons, List.map_cons, look] at h; split at h
   ·rename_i e; cases h; subst e; exact ⟨Nat.le_refl _, by simp⟩
   ·obtain ⟨h1, h2⟩ := ih _ _ _ h; refine ⟨by omega, ?_⟩; rw [show t - k = (t - (k + 1)) + 1 by omega]; simpa using h2
 have hsim : Sim F ⟨xs.zipIdx.map fun e => (e.2, e.1), h, n0⟩ μ C { tmps := vs.toArray ++ Array.replicate (fn.ntmps - vs.toArray.size) undef, defers := [] } w := by
  refine ⟨hsz, .nil _ _, Kept.refl _ _, fun _ _ _ h => h, fun _ _ _ h => .inl h, hk, fun t x hx => ?_, fun l k hk => ?_, hH.inj, hnx, fun _ _ _ h => h⟩
  ·obtain ⟨_, hd⟩ := hlook xs 0 t x hx; rw [Nat.sub_zero] at hd; obtain ⟨v, h1, h2⟩ := ha.get t x hd; have htl := (List.getElem?_eq_some_iff.1 h1).1; have : (vs.toArray ++ Array.replicate (fn.ntmps - vs.toArray.size) undef).getD t undef = v := by
    rw [Array.getD_eq_getD_getElem?, Array.getElem?_append_left (by simpa using htl)]; simp [h1]
   rw [this]; exact h2
  ·obtain ⟨p, hp, hB⟩ := hH.heap l k hk; refine ⟨p, hp, hB.sz, hB.len, hB.max, hB.row, fun hc => ?_⟩; obtain ⟨_, b⟩ := hB.cells hc; exact ⟨.inr ⟨l, k, p, hk, hp, hc, rfl⟩, b⟩
 refine pc (F := F) rfl rfl hf hb (hh F ⟨rfl, rfl, hG⟩ rfl ⟨rfl, fun _ _ _ _ _ _ _ _ h => h⟩) hsim (fun e st' hq => by cases e <;> first | exact .inl rfl | exact .inr rfl | exact hq.elim) ?_; intro e st' μ' C' a w' hq hs0 a2 w'' _ hs; have hq' : (∃ v, ((kI P st' fn.results.toList).map .d = some v \/ (∃ pk, pm P pk st' fn.results.toList = some v)) /\ v.le r) /\ (∀ l k, look h' l = some k -> look st'.h l = some k) /\ st'.nx <= n1 := by cases e <;> first | exact hq | exact hq.elim
 obtain ⟨⟨v, hv, hle⟩, hh', hn⟩ := hq'; have hlow : ∀ l p, l < n0 -> μ l = some p -> μ' l = some p := hs0.gh; have hres : ∃ u, (results fn a2.tmps).run P w'' = .ok u w'' /\ ax μ' C' v u := by
  rcases hv with hv | ⟨pk, hv⟩
  ·simp only [Option.map_eq_some_iff] at hv; obtain ⟨d, hd, rfl⟩ := hv; obtain ⟨u, h1, h2⟩ := xa hs hd; exact ⟨u, h1, h2⟩
  ·exact xb hs hv
 obtain ⟨u, h1, h2⟩ := hres; refine ⟨u, h1, u, μ', C', rfl, hlow, fun l hl => hs.nx l (by omega), hs.below, hs.sub, hs.new, hs.known, hle _ _ _ h2, fun l k hk => hs.heap l k (hh' l k hk), fun l l' p p' g1 g2 => ?_⟩; refine hs.inj l l' p p' ?_ ?_
 ·obtain ⟨k, hk⟩ := Option.isSome_iff_exists.1 g1; rw [hh' l k hk]; rfl
 ·obtain ⟨k, hk⟩ := Option.isSome_iff_exists.1 g2; rw [hh' l' k hk]; rfl
structure Lend (σ : Nat -> Nat) (h : zHz) (n0 : Nat) (hc : zHz) : Prop where
 dom : ∀ l, l < n0 -> (look h l).isSome = true
 lt : ∀ l k, look h l = some k -> l < n0
 blk : ∀ l k, look h l = some k -> look hc (σ l) = some (k.ren σ)
 inj : ∀ l l', l < n0 -> l' < n0 -> σ l = σ l' -> l = l'
 low : ∀ l k, look h l = some k -> ∀ r ∈ k.rows, ∀ x ∈ r, V.lt n0 x = true /\ x.noGh = true
theorem rK (σ : Nat -> Nat) (sz : Nat) (rows : zRz) : (dB sz rows).ren σ = dB sz rows := by
 simp only [dB, Blk.ren, List.map_map]
 congr 1
 refine List.map_congr_left fun r _ => ?_
 simp [Function.comp_def, V.ren]
theorem Lend.one {m sz : Nat} {rows : zRz} {hc : zHz} (hm : look hc m = some (dB sz rows)) : Lend (fun _ => m) [(0, dB sz rows)] 1 hc where
 dom l hl := by obtain rfl : l = 0 := by omega
                rfl
 lt l k hk := by
  simp only [look] at hk; split at hk
  ·omega
  ·cases hk
 blk l k hk := by
  simp only [look] at hk; split at hk
  ·cases hk; rw [rK]; exact hm
  ·cases hk
 inj l l' h1 h2 _ := by omega
 low l k hk r hr x hx := by
  simp only [look] at hk; split at hk
  ·cases hk; obtain ⟨r', _, rfl⟩ := List.mem_map.1 hr; obtain ⟨d, _, rfl⟩ := List.mem_map.1 hx; exact ⟨rfl, rfl⟩
  ·cases hk
def upN (σ : Nat -> Nat) (n0 nx : Nat) (l : Nat) : Nat := if l < n0 then σ l else nx + (l - n0)
def zh (σ : Nat -> Nat) (n0 nx : Nat) (h' hc hc' : zHz) : Prop := ∀ m k, look hc' m = some k -> (look hc m = some k /\ ∀ l, l < n0 -> σ l ≠ m) \/ (∃ l k0, upN σ n0 nx l = m /\ look h' l = some k0 /\ k = k0.ren (upN σ n0 nx))
theorem CS {F : Fr} {st : St} {μ : zMz} {C : aw} {a : Act} {w : World} (hs : Sim F st μ C a w) {σ : Nat -> Nat} {h h' hc' : zHz} {n0 n1 : Nat} (hL : Lend σ h n0 st.h) (hB : zh σ n0 st.nx h' st.h hc') :
  let μ0 := fun l => if l < n0 then μ (σ l) else none
  Held (fun _ => True) h μ0 C w /\ (∀ x v, V.lt n0 x = true -> x.noGh = true -> ax μ C (x.ren σ) v -> ax μ0 C x v) /\
  ∀ μ' C' W', (∀ l p, l < n0 -> μ0 l = some p -> μ' l = some p) -> (∀ l, n1 <= l -> μ' l = none) -> Kept (eC h μ0) w W' -> (∀ b o u, C b o u -> C' b o u) ->
   (∀ b o u, C' b o u -> C b o u \/ w.heap.size <= b \/ eC h μ0 b) -> bG C' W' -> Held (fun b => w.heap.size <= b \/ eC h μ0 b) h' μ' C' W' ->
   Sim F { st with h := hc', nx := st.nx + (n1 - n0) } (fun m => if m < st.nx then μ m else μ' (m - st.nx + n0)) C' a W' /\ ∀ r v, ax μ' C' r v -> ax (fun m => if m < st.nx then μ m else μ' (m - st.nx + n0)) C' (r.ren (upN σ n0 st.nx)) v := by
 intro μ0; have hμ0 : ∀ l p, l < n0 -> (μ0 l = some p ↔ μ (σ l) = some p) := fun l p hl => by simp [μ0, hl]
 have hplace : ∀ l k, look h l = some k -> ∃ p, μ0 l = some p /\ μ (σ l) = some p /\ BlkOk F.mine μ C w p (k.ren σ) := fun l k hk => by
  obtain ⟨p, hp, hb⟩ := hs.heap (σ l) _ (hL.blk l k hk); exact ⟨p, (hμ0 l p (hL.lt l k hk)).2 hp, hp, hb⟩
 have hdown : ∀ x v, V.lt n0 x = true -> x.noGh = true -> ax μ C (x.ren σ) v -> ax μ0 C x v := fun x v h1 h2 hr => pV (fun l p hl hp => (hμ0 l p hl).2 hp) h1 h2 hr
 have hown : ∀ b, eC h μ0 b -> eC st.h μ b := fun b ⟨l, k, p, g1, g2, g3, g4⟩ => ⟨σ l, _, p, hL.blk l k g1, (hμ0 l p (hL.lt l k g1)).1 g2, g3, g4⟩
 have hfree : ∀ m k p, look st.h m = some k -> (∀ l, l < n0 -> σ l ≠ m) -> μ m = some p -> 0 < p.cap -> ¬ eC h μ0 p.b := fun m k p g1 g2 g3 g4 ⟨l, k', p', e1, e2, e3, e4⟩ =>
  g2 l (hL.lt l k' e1) (hs.inj (σ l) m p' p (by rw [hL.blk l k' e1]; rfl) (by rw [g1]; rfl) ((hμ0 l p' (hL.lt l k' e1)).1 e2) g3 e3 g4 e4)
 have hlt : ∀ m k, look st.h m = some k -> m < st.nx := fun m k hm => by
  obtain ⟨p, hp, _⟩ := hs.heap m k hm; rcases Nat.lt_or_ge m st.nx with h | h
  ·exact h
  ·rw [hs.nx m h] at hp; cases hp
 refine ⟨⟨fun l k hk => ?_, fun l l' p p' g1 g2 q1 q2 c1 c2 e => ?_⟩, hdown, ?_⟩
 ·obtain ⟨p, hp0, hp, hb⟩ := hplace l k hk; refine ⟨p, hp0, hb.sz, by simpa [Blk.ren] using hb.len, hb.max, fun r hr => by simpa [Blk.ren] using hb.row (r.map (V.ren σ)) (List.mem_map_of_mem hr), fun hc => ?_⟩; obtain ⟨_, b2, cur, T, b3, b4, b5⟩ := hb.cells hc; rw [rX] at b3; refine ⟨trivial, b2, cur, T, b3, b4, fun i r hr j x hx => ?_⟩; obtain ⟨u, u1, u2, u3⟩ := b5 i (r.map (V.ren σ)) (by simp [Blk.ren, hr]) j (x.ren σ) (by simp [hx]); obtain ⟨x1, x2⟩ := hL.low l k hk r (List.mem_of_getElem? hr) x (List.mem_of_getElem? hx); exact ⟨u, u1, u2, hdown x u x1 x2 u3⟩
 ·obtain ⟨k, hk⟩ := Option.isSome_iff_exists.1 g1; obtain ⟨k', hk'⟩ := Option.isSome_iff_exists.1 g2; exact hL.inj l l' (hL.lt l k hk) (hL.lt l' k' hk') (hs.inj (σ l) (σ l') p p' (by rw [hL.blk l k hk]; rfl) (by rw [hL.blk l' k' hk']; rfl) ((hμ0 l p (hL.lt l k hk)).1 q1) ((hμ0 l' p' (hL.lt l' k' hk')).1 q2) c1 c2 e)
 intro μ' C' W' hlow hn1 hkept hsub hnew hkn hheld; generalize hμc : (fun m => if m < st.nx then μ m else μ' (m - st.nx + n0)) = μc; have hm : ∀ m p, μ m = some p -> μc m = some p := fun m p hp => by
  have : m < st.nx := by
   rcases Nat.lt_or_ge m st.nx with h | h
   ·exact h
   ·rw [hs.nx m h] at hp; cases hp
  rw [<- hμc]; simp only [if_pos this]; exact hp
 have hup : ∀ l p, μ' l = some p -> μc (upN σ n0 st.nx l) = some p := fun l p hp => by
  by_cases hl : l < n0
  ·obtain ⟨k, hk⟩ := Option.isSome_iff_exists.1 (hL.dom l hl); obtain ⟨q, hq0, hq, _⟩ := hplace l k hk; have := hlow l q hl hq0; rw [hp] at this; cases this; unfold upN; rw [if_pos hl]; exact hm _ _ hq
  ·unfold upN; rw [if_neg hl]; rw [<- hμc]; simp only [show ¬ st.nx + (l - n0) < st.nx by omega, if_false]; rw [show st.nx + (l - n0) - st.nx + n0 = l by omega]; exact hp
 have hmine : ∀ b, (w.heap.size <= b \/ eC h μ0 b) -> F.mine b := fun b hb => hb.elim (fun hb => .inl (Nat.le_trans hs.below.size hb)) fun hb => (hs.own_cells (hown b hb)).1
 have hblk : ∀ b, b < w.heap.size -> ¬ eC h μ0 b -> W'.heap[b]? = w.heap[b]? := hkept.block; have hother : ∀ m k, look st.h m = some k -> (∀ l, l < n0 -> σ l ≠ m) -> ∃ p, μc m = some p /\ μ m = some p /\ BlkOk F.mine μc C' W' p k := fun m k g1 g2 => by
  obtain ⟨p, hp, hb⟩ := hs.heap m k g1; refine ⟨p, hm m p hp, hp, hb.sz, hb.len, hb.max, hb.row, fun hc => ?_⟩; obtain ⟨b1, b2, cur, T, b3, b4, b5⟩ := hb.cells hc; have hno := hfree m k p g1 g2 hp hc; refine ⟨b1, fun o u hcu => ?_, cur, T, b3.of_eq (hblk _ (hb.lt hc) hno), b4, b5.mono hm hsub⟩; rcases hnew _ _ _ hcu with h1 | h1 | h1
  ·exact b2 o u h1
  ·have := hb.lt hc; omega
  ·exact hno h1
 have hback : ∀ l k0, look h' l = some k0 -> ∃ p, μ' l = some p /\ μc (upN σ n0 st.nx l) = some p /\ (0 < p.cap -> w.heap.size <= p.b \/ eC h μ0 p.b) /\ BlkOk F.mine μc C' W' p (k0.ren (upN σ n0 st.nx)) := fun l k0 hk => by
  obtain ⟨p, hp, hb⟩ := hheld.heap l k0 hk; refine ⟨p, hp, hup l p hp, fun hc => (hb.cells hc).1, hb.sz, by simpa [Blk.ren] using hb.len, hb.max, fun r hr => ?_, fun hc => ?_⟩
  ·obtain ⟨r', hr', rfl⟩ := List.mem_map.1 hr; simpa [Blk.ren] using hb.row r' hr'
  ·obtain ⟨b1, b2, cur, T, b3, b4, b5⟩ := hb.cells hc; rw [<- rX (upN σ n0 st.nx)] at b3; refine ⟨hmine _ b1, b2, cur, T, b3, b4, fun i r hr j x hx => ?_⟩; simp only [Blk.ren, List.getElem?_map, Option.map_eq_some_iff] at hr; obtain ⟨r', hr', rfl⟩ := hr; simp only [List.getElem?_map, Option.map_eq_some_iff] at hx; obtain ⟨x', hx', rfl⟩ := hx; obtain ⟨u, u1, u2, u3⟩ := b5 i r' hr' j x' hx'; exact ⟨u, u1, u2, V.ren_up hup u3⟩
 refine ⟨⟨hs.size, ⟨hs.defers.nodup, fun d hd => ?_⟩, ⟨hkept.os.trans hs.below.os, hkept.tape.trans hs.below.tape, hkept.output.trans hs.below.output, Nat.le_trans hs.below.size hkept.size, fun n hn hno => ?_⟩, fun b o u hc => hsub _ _ _ (hs.sub _ _ _ hc), fun b o u hc => (hnew b o u hc).elim (hs.new b o u) fun hb => .inr (hmine b hb), hkn, fun t x hx => (hs.env t x hx).mono hm hsub, fun m k hk => ?_, fun m m' p p' g1 g2 q1 q2 c1 c2 e => ?_, fun m hm' => ?_, F.stab hs.gh ⟨hkept.os, hkept.tape, hkept.output, hkept.size, fun l p _ hp => hm l p hp, fun m hm' => ?_, fun b hb hn => hblk b hb fun ho => hn (hown b ho), fun b ⟨m, k, p, g1, g2, g3, g4⟩ => ?_, hsub, fun b o u hc => (hnew b o u hc).imp id fun h => h.elim .inr fun h => .inl (hown b h), hkn⟩⟩, fun r v hr => V.ren_up hup hr⟩
 ·refine (hs.defers.each d hd).imp id fun ⟨q, q1, q2, q3⟩ => ⟨q, q1, q2, (hblk q (Array.getElem?_eq_some_iff.1 q3).1 fun ho => ?_).trans q3⟩
  exact ((hs.own_cells (hown q ho)).2.2.2 _ q3).1 _ rfl
 ·rw [hblk n (Nat.lt_of_lt_of_le hn hs.below.size) fun ho => ?_]
  ·exact hs.below.block n hn hno
  ·rcases (hs.own_cells (hown n ho)).1 with h1 | h1
   ·omega
   ·exact hno h1
 ·rcases hB m k hk with ⟨g1, g2⟩ | ⟨l, k0, rfl, g2, rfl⟩
  ·obtain ⟨p, hp, _, hb⟩ := hother m k g1 g2; exact ⟨p, hp, hb⟩
  ·obtain ⟨p, _, hp, _, hb⟩ := hback l k0 g2; exact ⟨p, hp, hb⟩
 ·obtain ⟨k, hk⟩ := Option.isSome_iff_exists.1 g1; obtain ⟨k', hk'⟩ := Option.isSome_iff_exists.1 g2; have apart : ∀ m k p l k0 p', look st.h m = some k -> (∀ l, l < n0 -> σ l ≠ m) -> μc m = some p -> look h' l = some k0 -> μc (upN σ n0 st.nx l) = some p' -> 0 < p.cap -> 0 < p'.cap -> p.b ≠ p'.b := by
   intro m k p l k0 p' a1 a2 a3 a4 a5 a6 a7 a8; obtain ⟨q, hq, hqm, hqb⟩ := hother m k a1 a2; rw [hq] at a3; cases a3; obtain ⟨q', _, hq', hqo, _⟩ := hback l k0 a4; rw [hq'] at a5; cases a5; obtain ⟨p2, hp2, hb2⟩ := hs.heap m k a1; rw [hqm] at hp2; cases hp2; rcases hqo a7 with h1 | h1
   ·have := hb2.lt a6; omega
   ·exact hfree m k p a1 a2 hqm a6 (a8 ▸ h1)
  rcases hB m k hk with ⟨a1, a2⟩ | ⟨l, k0, rfl, a2, rfl⟩ <;> rcases hB m' k' hk' with ⟨b1, b2⟩ | ⟨l', k0', rfl, b2, rfl⟩
  ·obtain ⟨q, hq, hqm, _⟩ := hother m k a1 a2; obtain ⟨q', hq', hqm', _⟩ := hother m' k' b1 b2; rw [hq] at q1; cases q1; rw [hq'] at q2; cases q2; exact hs.inj m m' _ _ (by rw [a1]; rfl) (by rw [b1]; rfl) hqm hqm' c1 c2 e
  ·exact absurd e (apart m k p l' k0' p' a1 a2 q1 b2 q2 c1 c2)
  ·exact absurd e.symm (apart m' k' p' l k0 p b1 b2 q2 a2 q1 c2 c1)
  ·obtain ⟨q, hq, hqm, _⟩ := hback l k0 a2; obtain ⟨q', hq', hqm', _⟩ := hback l' k0' b2; rw [hqm] at q1; cases q1; rw [hqm'] at q2; cases q2; rw [hheld.inj l l' _ _ (by rw [a2]; rfl) (by rw [b2]; rfl) hq hq' c1 c2 e]
 ·have h1 : st.nx + (n1 - n0) <= m := hm'; rw [<- hμc]; simp only [show ¬ m < st.nx by omega, if_false]; exact hn1 _ (by omega)
 ·obtain ⟨k, hk⟩ := Option.isSome_iff_exists.1 hm'; rcases hB m k hk with ⟨a1, _⟩ | ⟨l, k0, rfl, a2, rfl⟩
  ·left; rw [a1]; rfl
  ·by_cases hl : l < n0
   ·obtain ⟨k2, hk2⟩ := Option.isSome_iff_exists.1 (hL.dom l hl); left; unfold upN; rw [if_pos hl, hL.blk l k2 hk2]; rfl
   ·right; unfold upN; rw [if_neg hl]; exact hs.nx _ (by omega)
 ·rcases hB m k g1 with ⟨a1, a2⟩ | ⟨l, k0, rfl, a2, rfl⟩
  ·obtain ⟨q, hq, hqm, _⟩ := hother m k a1 a2; rw [hq] at g2; cases g2; exact .inl ⟨m, k, _, a1, hqm, g3, g4⟩
  ·obtain ⟨q, _, hq, hqo, _⟩ := hback l k0 a2; rw [hq] at g2; cases g2; rcases hqo g3 with h1 | h1
   ·exact .inr (g4 ▸ h1)
   ·exact .inl (g4 ▸ hown _ h1)
end
def mC (ev : Operand -> Option V) : List Operand -> Option (List V)
 | [] => some []
 | x :: r => (ev x).bind fun v => (mC ev r).map (v :: ·)
theorem Jd {ev : Operand -> Option V} {μ : zMz} {C : aw} {a : Act} (hev : ∀ x v, ev x = some v -> ax μ C v (a.eval x)) : ∀ {xs : List Operand} {ys : List V}, mC ev xs = some ys -> RepVs μ C ys (xs.map a.eval) := by
 intro xs
 induction xs with
 | nil => intro ys h; cases h; exact .nil
 | cons x xs ih =>
  intro ys h; simp only [mC, Option.bind_eq_some_iff, Option.map_eq_some_iff] at h; obtain ⟨v, hv, r, hr, rfl⟩ := h; exact .cons _ _ _ _ (hev x _ hv) (ih hr)
theorem Df {ev ev' : Operand -> Option V} (h : ∀ x, ev x = ev' x) : ∀ (xs : List Operand), mC ev xs = mC ev' xs := by
 intro xs
 induction xs with
 | nil => rfl
 | cons x xs ih => simp only [mC, h x, ih]
theorem RepVs.append {μ : zMz} {C : aw} {xs ys : List V} {vs us : zLz} (h : RepVs μ C xs vs) (k : RepVs μ C ys us) : RepVs μ C (xs ++ ys) (vs ++ us) := by
 induction h with
 | nil => exact k
 | cons x v xs vs h1 _ ih => exact .cons _ _ _ _ h1 ih
def sZ (n : Nat) (xs : List V) : Bool := xs.all fun x => x.lt n && x.noGh
theorem CB {μ μ0 : zMz} {C : aw} {n : Nat} {σ : Nat -> Nat} (hd : ∀ x v, V.lt n x = true -> x.noGh = true -> ax μ C (x.ren σ) v -> ax μ0 C x v) : ∀ {xs : List V} {vs : zLz}, sZ n xs = true -> RepVs μ C (xs.map (V.ren σ)) vs -> RepVs μ0 C xs vs := by
 intro xs
 induction xs with
 | nil => intro vs _ h; cases h; exact .nil
 | cons x xs ih =>
  intro vs hl h; simp only [sZ, List.all_cons, Bool.and_eq_true] at hl; cases h with
  | cons _ v _ vs h1 h2 => exact .cons _ _ _ _ (hd x v hl.1.1 hl.1.2 h1) (ih (by simpa [sZ] using hl.2) h2)
section
variable {P : Program} {G : zGz} {N : Nat} {F : Fr} {ops : Array Oper} {rest : zOz} {o : Oper} {Q : zQz} {st : St} {σ : Nat -> Nat} {h0 h' hc' : zHz} {n0 n1 : Nat} {r : V} {xs0 : List V}
theorem Bc (hF : Env F P G N) (hL : Lend σ h0 n0 st.h) (hB : zh σ n0 st.nx h' st.h hc') {f : FuncId} {μ : zMz} {C : aw} {a : Act} {w : World} {vs : zLz} (hs : Sim F st μ C a w) (hlow : sZ n0 xs0 = true) (hvs : RepVs μ C (xs0.map (V.ren σ)) vs) (hc : fH P G f h0 n0 xs0 r h' n1)
  {K : Value -> World -> Prop} (k : ∀ v μ' C' w', Sim F { st with h := hc', nx := st.nx + (n1 - n0) } μ' C' a w' -> ax μ' C' (r.ren (upN σ n0 st.nx)) v -> K v w') : Calls P f vs.toArray w fun e w' => ∃ v, e = .returned v /\ K v w' := by
 obtain ⟨rfl, rfl, hG⟩ := hF; obtain ⟨hH, hdown, hback⟩ := CS (n1 := n1) hs hL hB; refine (hc _ C w vs (hG.mono hs.sub) hs.known hH (fun l hl => by simp only [show ¬ l < n0 by omega, if_false]) (CB hdown hlow hvs)).mono ?_; rintro e W' ⟨v, μ', C', rfl, g1, g2, g3, g4, g5, g6, g7, g8⟩; obtain ⟨s1, s2⟩ := hback μ' C' W' g1 g2 g3 g4 g5 g6 g8; exact ⟨v, rfl, k v _ C' W' s1 (s2 r v g7)⟩
theorem Ej (hF : Env F P G N) (hN : St.small N st) (hL : Lend σ h0 n0 st.h) (hB : zh σ n0 st.nx h' st.h hc') {f : FuncId} {xs : Array Operand} {ts : Array TypeId} {t : Tmp} (hg : bP ops st.env o.guard = some true) (ho : o.op = .call ⟨.value (.func f), xs, ts⟩) (hd : o.dst = some t) (hb : cD P f = true)
  (hargs : mC (evD G st.env) xs.toList = some (xs0.map (V.ren σ))) (hlow : sZ n0 xs0 = true) (ht : t < N) (hc : fH P G f h0 n0 xs0 r h' n1)
  (k : SmL F ops rest Q ⟨(t, r.ren (upN σ n0 st.nx)) :: st.env, hc', st.nx + (n1 - n0)⟩) : SmL F ops (o :: rest) Q st := by
 intro μ C a w hs; have hev : ∀ x v, evD G st.env x = some v -> ax μ C v (a.eval x) := fun x v h => bW hs hF.glob h
 refine cb (fun _ => by rw [ho]; simp) fun K hK => ?_
 rw [bI hs hg (by rw [hF.size]; exact hN), if_pos rfl]; have hPP := hF.prog; rw [hPP]; refine nq f (fun a w => fX hb a w) xs ts ho (xs.toList.map a.eval) rfl ?_; refine Bc hF hL hB hs hlow (Jd hev hargs) hc ?_; intro v μ' C' w' s1 s2; rw [hd]; exact hK _ _ (k μ' C' _ w' (s1.put (by rw [hF.size]; exact ht) s2))
end
theorem zh.one {m nx sz sz' : Nat} {rows rows' : zRz} {h : zHz} (hm : look h m = some (dB sz rows)) : zh (fun _ => m) 1 nx [(0, dB sz' rows')] h (rep h m (dB sz' rows')) := by
 intro l k hk; rw [cg] at hk; split at hk
 ·rename_i e; subst e; rw [hm] at hk; cases hk; exact .inr ⟨0, _, by simp [upN], rfl, (rK _ _ _).symm⟩
 ·rename_i e; exact .inl ⟨hk, fun _ _ h => e h.symm⟩
section
variable {P : Program} {G : zGz} {N : Nat} {F : Fr} {ops rest : zOz} {o : Oper} {Q : zQz} {env : zEz} {h : zHz} {nx n1 : Nat} {r : V} {xs0 : List V}
end
def leL : List D -> List D -> Prop
 | [], [] => True
 | x :: xs, y :: ys => x.le y /\ leL xs ys
 | _, _ => False
theorem leL.refl : ∀ (xs : List D), leL xs xs
 | [] => trivial
 | _ :: xs => ⟨D.le.refl _, leL.refl xs⟩
theorem Gh {xs ys : List D} (h : leL xs ys) : (D.tup xs).le (.tup ys) := by
 intro C v hv; cases hv with
 | tup _ vs hv =>
 refine .tup ys vs ?_
 induction xs generalizing ys vs with
 | nil => cases ys with
  | nil => exact hv
  | cons => exact h.elim
 | cons x xs ih => cases ys with
  | nil => exact h.elim
  | cons y ys => cases hv with | ocons _ v _ vs h1 h2 => exact .ocons _ _ _ _ (h.1 C v h1) (ih h.2 vs h2)
theorem fW {n : Nat} {xs ys : List D} (h : leL xs ys) : (D.agg n xs).le (.agg n ys) := by
 intro C v hv; cases hv with
 | agg _ _ vs hn hv =>
 have hlen : ∀ (xs ys : List D), leL xs ys -> xs.length = ys.length := by
  intro xs
  induction xs with
  | nil => intro ys h; cases ys with
   | nil => rfl
   | cons => exact h.elim
  | cons x xs ih => intro ys h; cases ys with
   | nil => exact h.elim
   | cons y ys => simp [ih ys h.2]
 refine .agg n ys vs (by rw [<- hlen xs ys h]; exact hn) ?_; clear hn
 induction xs generalizing ys vs with
 | nil => cases ys with
  | nil => exact hv
  | cons => exact h.elim
 | cons x xs ih => cases ys with
  | nil => exact h.elim
  | cons y ys => cases hv with | vcons _ v _ vs h0 h1 h2 => exact .vcons _ _ _ _ h0 (h.1 C v h1) (ih h.2 vs h2)
theorem Ag {α β : Type} (f : α -> Option β) : ∀ {l : List α} {r : List β}, l.mapM f = some r -> ∀ i : Nat, (l[i]?).bind f = r[i]? := by
 intro l
 induction l with
 | nil => intro r h i; simp at h; subst h; simp
 | cons a l ih =>
  intro r h i; rw [List.mapM_cons] at h; simp only [Option.bind_eq_bind, Option.bind_eq_some_iff, Option.pure_def, Option.some.injEq] at h; obtain ⟨b, hb, r', hr, rfl⟩ := h; cases i with
  | zero => simpa using hb
  | succ i => simpa using ih hr i
theorem ku {P : Program} {t : TypeId} {pl : List (Nat × Nat)} {ps : zEz} {z cs : List D} {n : Nat} (hz : bK P t = some z) (hp : kU P t = some pl) (hn : z.length = n) (hf : ez (fun i => pl[i]?) ps z = some cs) : dS P t ps = some (.d (.agg n cs)) := by
 have hpl : ∃ g, jb P t = some g /\ g = fun i => pl[i]? := by
  unfold kU at hp; unfold jb; split at hp
  ·rename_i fs hu; rw [hu]; refine ⟨_, rfl, funext fun i => ?_⟩; have := Ag _ hp i; rw [<- this, Array.getElem?_toList]
  ·cases hp
 obtain ⟨g, hg, rfl⟩ := hpl; simp only [dS, mm, hz, hg, Option.bind_some, hf, Option.map_some, hn]
theorem zK {pl : Nat -> Option (Nat × Nat)} {i off n : Nat} {x : V} {d : D} {r : zEz} {cs : List D} (h : pl i = some (off, 1)) (hx : eU 1 x = some [d]) (hn : cs.length = n) (hl : off + 1 <= n) : ez pl ((i, x) :: r) cs = ez pl r (cs.set off d) := by
 subst hn; simp only [ez, h, Option.bind_some, hx, hl, if_true, AH]
theorem zJ {pl : Nat -> Option (Nat × Nat)} {i off s n : Nat} {ys : List D} {r : zEz} {cs : List D} (h : pl i = some (off, s)) (hs : 2 <= s) (hy : ys.length = s) (hn : cs.length = n) (hl : off + s <= n) : ez pl ((i, .d (.agg s ys)) :: r) cs = ez pl r (cs.take off ++ ys ++ cs.drop (off + s)) := by
 subst hn; simp only [ez, h, Option.bind_some, eU, if_true, hl, if_neg (show ¬ s = 1 by omega)]; split
 ·rename_i e; have h0 : off = 0 := by omega
  subst h0; have : cs.drop (0 + s) = [] := List.drop_eq_nil_of_le (by omega); rw [this]; simp
 ·rw [lU, hy]
theorem IA {pl : Nat -> Option (Nat × Nat)} {cs cs' : List D} (h : cs = cs') : ez pl [] cs = some cs' := by rw [h]; rfl
theorem xI {pl : Nat -> Option (Nat × Nat)} {i off : Nat} {x : V} {d : D} {r : zEz} {cs : List D} {res : Option (List D)} (h : pl i = some (off, 1)) (hx : eU 1 x = some [d]) (hl : Nat.ble (off + 1) cs.length = true) (k : ez pl r (cs.set off d) = res) : ez pl ((i, x) :: r) cs = res := by
 rw [zK h hx rfl (Nat.le_of_ble_eq_true hl)]; exact k
theorem xH {pl : Nat -> Option (Nat × Nat)} {i off s : Nat} {ys : List D} {r : zEz} {cs : List D} {res : Option (List D)} (h : pl i = some (off, s)) (hs : Nat.ble 2 s = true) (hl : Nat.ble (off + s) cs.length = true) (hy : ys.length = s) (k : ez pl r (cs.take off ++ ys ++ cs.drop (off + s)) = res) : ez pl ((i, .d (.agg s ys)) :: r) cs = res := by
 rw [zJ h (Nat.le_of_ble_eq_true hs) hy rfl (Nat.le_of_ble_eq_true hl)]; exact k
def ltR (n : Nat) : List V -> Prop
 | [] => True
 | x :: r => V.lt n x = true /\ ltR n r
theorem nh (n : Nat) : ∀ (r : List D), ltR n (r.map V.d)
 | [] => trivial
 | _ :: r => ⟨rfl, nh n r⟩
theorem Cd {n : Nat} : ∀ {r : List V}, ltR n r -> ∀ x ∈ r, V.lt n x = true
 | [], _, x, hx => by cases hx
 | y :: r, h, x, hx => by
  rcases List.mem_cons.1 hx with rfl | hx
  ·exact h.1
  ·exact Cd h.2 x hx
theorem pG {n m sz : Nat} {r : List V} {h : zHz} (f : ltH n h) (hr : ltR n r) : ltH n ((m, ⟨sz, [r]⟩) :: h) := lX f fun r' hr' x hx => by
 obtain rfl : r' = r := by simpa using hr'
 exact Cd hr x hx
section
variable {P : Program} {G : zGz} {N : Nat} {F : Fr} {ops rest : zOz} {o : Oper} {Q : zQz} {env : zEz} {h : zHz} {nx : Nat} {t e : TypeId} {z : Value} {size bytes : Nat}
theorem jG (hF : Env F P G N) (hE : ElemT P t e z size bytes) {s x : Operand} {d : Tmp} {sz' l n : Nat} {xs ys : zRz} {f : Bool} (ho : o.op = .call ⟨.builtin .append, #[s, x], #[t, t]⟩) (hd : o.dst = some d) (hdN : Nat.blt d N = true) (hg : aC ops env o.guard = some true)
  (hs : evB G env s = some (.sref l 0 n)) (hx : evB G env x = some (.d (.list sz' ys f))) (hl : af h l = some ⟨size, xs.map fun r => r.map V.d⟩) (hn : n = xs.length) (hsz' : sz' = size \/ ys = []) (hb : (xs.length + ys.length) * bytes <= 140737488355328) (hb2 : xs.length + ys.length <= 140737488355328)
  (k : SmG F N ops rest Q ⟨(d, .sref l 0 (xs ++ ys).length) :: dn l env, rep (dt (cH l) h) l (dB size (xs ++ ys)), nx⟩) (hlow : F.n0 <= l := by omega) : SmG F N ops (o :: rest) Q ⟨env, h, nx⟩ := by
 refine Eg l (SmG.appendOwn hF hE ho hd hdN hg hs hx ?_ hn hsz' (vg l h) hb hb2 k hlow); rw [aL] at hl ⊢; rw [cT, hl]; exact congrArg some (nH l size xs)
end
end
section
section
variable {P : Program} {G : zGz} {N : Nat} {F : Fr} {ops : Array Oper} {rest : zOz} {o : Oper} {Q : zQz} {st : St} {t e : TypeId} {z : Value} {size bytes : Nat}
theorem HI (hE : ElemT P t e z size bytes) {k1 k2 : IntKind} {n : Nat} (hn : n <= 281474976710656) (hb : n * bytes <= 140737488355328) (w : World) :
  (Instr.makeSlice t (.int k1 n) (.int k2 n)).run P w = .ok (.slice (some ⟨w.heap.size, 0, none⟩) n n) (w.alloc (.cells ((Array.range (n * size)).map (fun i => (if n * size = 0 then #[] else z.cells)[i % (if n * size = 0 then #[] else z.cells).size]!)) e)) := by
 obtain ⟨i0, hi, hz0, hz1, hz2⟩ := info_parts hE.info; have hw : IntKind.i64.wrap (n : Int) = n := aY _ (by omega); have hrb : roomBytes = 140737488355328 := rfl; have hask : (askRoom (n * bytes)).run P w = .ok () w := by
  unfold askRoom; rw [if_neg (by omega)]; rfl
 have hbz : decide ((bytes : Int) * (n : Int) > 2 ^ 48) = false := by
  have h1 : (bytes : Int) * (n : Int) = ((n * bytes : Nat) : Int) := by rw [Nat.mul_comm]; simp
  rw [h1]; apply decide_eq_false; have : ((2 : Int) ^ 48) = 281474976710656 := rfl; omega
 have hti : (typeInfo e).run P w = .ok i0 w := by simp [typeInfo, hi]
 have hsz : (sizeOf e).run P w = .ok size w := by simp [sizeOf, typeInfo, hi, hz1]
 have hzv : (zeroValue e).run P w = .ok z w := by simp [zeroValue, typeInfo, hi, hz0]
 have hneg : decide ((n : Int) < 0) = false := decide_eq_false (by omega); have hgt : decide ((n : Int) > (n : Int)) = false := decide_eq_false (by omega); have hai : ∀ k w', (asInt (.int k (n : Int))).run P w' = .ok (n : Int) w' := fun _ _ => rfl
 unfold Instr.makeSlice; simp only [Sem.run_bind, run_underlying hE.und, Result.andThen_ok, hai, Sem.run_pure, hti, hw, hz2, hneg, hbz, hgt, Bool.or_self, Bool.false_eq_true, if_false, Int.toNat_natCast, hask, hsz]; by_cases h0 : n * size = 0
 ·simp only [h0, if_true, Sem.run_pure, Result.andThen_ok]; rfl
 ·simp only [h0, if_false, Sem.run_bind, hzv, Sem.run_pure, Result.andThen_ok]; rfl
theorem SmL.makeOwn (hF : Env F P G N) (hN : St.small N st) (hE : ElemT P t e z size bytes) (hz : z.cells.toList.all (·.oneCell') = true) {x y : Operand} {d : Tmp} {k1 k2 : IntKind} (n : Nat) (hg : bP ops st.env o.guard = some true) (ho : o.op = .makeSlice t x y) (hd : o.dst = some d) (hdN : d < N)
  (hx : evD G st.env x = some (.d (.v (.int k1 n)))) (hy : evD G st.env y = some (.d (.v (.int k2 n)))) (hn : n <= 281474976710656) (hb : n * bytes <= 140737488355328)
  (k : SmL F ops rest Q ⟨(d, .sref st.nx 0 n) :: st.env, (st.nx, dB size (List.replicate n (z.cells.toList.map bS))) :: st.h, st.nx + 1⟩) : SmL F ops (o :: rest) Q st := by
 intro μ C a w hs; obtain ⟨rfl, rfl, hG⟩ := hF; refine cb (fun _ => by rw [ho]; simp) fun K hK => ?_
 rw [bI hs hg hN, if_pos rfl]; have hxv := bz (bW hs hG hx); have hyv := bz (bW hs hG hy); have hrun := HI (P := F.P) hE (k1 := k1) (k2 := k2) hn hb w; unfold Oper.wp; have hex : (execOp a.eval o).run F.P w = .ok (.value (.slice (some ⟨w.heap.size, 0, none⟩) n n)) (w.alloc (.cells ((Array.range (n * size)).map (fun i => (if n * size = 0 then #[] else z.cells)[i % (if n * size = 0 then #[] else z.cells).size]!)) e)) := by
  simp only [execOp, ho, hxv, hyv]; simp [Sem.run_bind, hrun, Result.andThen]
 rw [hex, Oper.upon_value, hd]; refine hK _ _ ?_; have hzl : z.cells.toList.length = size := by rw [Array.length_toList]; exact hE.zs
 have hs1 := hs.allocCap n size ((List.replicate n (z.cells.toList.map bS)).map fun r => r.map V.d) ((Array.range (n * size)).map (fun i => (if n * size = 0 then #[] else z.cells)[i % (if n * size = 0 then #[] else z.cells).size]!)) e
  (by intro r hr; obtain ⟨r', hr', rfl⟩ := List.mem_map.1 hr; rw [List.eq_of_mem_replicate hr']; simpa using hzl) (by simp) (by omega) (by simp)
  (by
   intro i r hr j v hj; have hin : i < n := by have := (List.getElem?_eq_some_iff.1 hr).1; simpa using this
   have hr' : r = (z.cells.toList.map bS).map V.d := by
    rw [List.getElem?_map, List.getElem?_replicate, if_pos hin] at hr; simpa using hr.symm
   subst hr'; have hjs : j < size := by have := (List.getElem?_eq_some_iff.1 hj).1; simp only [List.length_map] at this; omega
   have hzj : z.cells.toList[j]? = some z.cells.toList[j] := List.getElem?_eq_getElem (by omega); rw [List.getElem?_map, List.getElem?_map, hzj] at hj; simp only [Option.map_some, Option.some.injEq] at hj; have hlt : i * size + j < n * size := by
    have := Nat.mul_le_mul_right size (show i + 1 <= n by omega); rw [Nat.succ_mul] at this; omega
   have hne : n * size ≠ 0 := by omega
   have hcell : (i * size + j) % z.cells.size = j := by rw [hE.zs, Nat.mul_comm, Nat.mul_add_mod, Nat.mod_eq_of_lt hjs]
   refine ⟨z.cells.toList[j], ?_, List.all_eq_true.1 hz _ (List.getElem_mem _), ?_⟩
   ·simp only [Array.toList_map, List.getElem?_map, if_neg hne]; rw [Array.getElem?_toList, Array.getElem?_eq_getElem (by simpa using hlt)]; simp only [Array.getElem_range, Option.map_some, hcell]
    congr 1
    rw [getElem!_pos z.cells j (by rw [hE.zs]; exact hjs)]; simp
   ·subst hj; exact mn _)
 have hput := hs1.put (t := d) hdN (x := .sref st.nx 0 n) (v := .slice (some ⟨w.heap.size, 0, none⟩) n n) ⟨⟨w.heap.size, n, size⟩, some ⟨w.heap.size, 0, none⟩, (by show (if st.nx = st.nx then _ else _) = _; rw [if_pos rfl]), by simp, by simp, fun _ => by simp⟩; exact k _ C _ _ hput
end
section
variable {P : Program} {G : zGz} {N : Nat} {F : Fr} {ops rest : zOz} {o : Oper} {Q : zQz} {env : zEz} {h : zHz} {nx : Nat} {t e : TypeId} {z : Value} {size bytes : Nat}
theorem SmG.makeOwn (hF : Env F P G N) (hE : ElemT P t e z size bytes) (hz : z.cells.toList.all (·.oneCell') = true) {x y : Operand} {d : Tmp} {k1 k2 : IntKind} (n : Nat) (ho : o.op = .makeSlice t x y) (hd : o.dst = some d) (hdN : Nat.blt d N = true) (hg : aC ops env o.guard = some true)
  (hx : evB G env x = some (.d (.v (.int k1 n)))) (hy : evB G env y = some (.d (.v (.int k2 n)))) (hn : n <= 281474976710656) (hb : n * bytes <= 140737488355328)
  (k : SmG F N ops rest Q ⟨(d, .sref nx 0 n) :: env, (nx, dB size (List.replicate n (z.cells.toList.map bS))) :: h, nx + 1⟩) : SmG F N ops (o :: rest) Q ⟨env, h, nx⟩ := by
 have hdN' : d < N := by simpa [Nat.blt_eq] using hdN
 intro hsm; rw [aT] at hx hy; exact SmL.makeOwn hF hsm hE hz n (aN hg) ho hd hdN' hx hy hn hb (k (bJ hsm hdN'))
end
end
section
section
variable {P : Program} {G : zGz} {N : Nat} {F : Fr} {ops rest : zOz} {o : Oper} {h : zHz} {env : zEz} {al : zHz} {nx : Nat} {t e : TypeId} {z : Value} {size bytes : Nat} {K : zEz -> zHz -> Nat -> Prop}
end
end
section
section
variable {P : Program} {G : zGz} {N : Nat} {F : Fr} {l : zOz} {Q : zQz} {st : St}
end
end
section
def SmM (F : Fr) (l : zOz) (n : Nat) (ls : List Bool) (Q : zQz) (st : St) : Prop := ∀ μ C a w, Sim F st μ C a w -> wpAnyIn F.fz 0 F.P .any l.toArray (Sq F Q) n ls.toArray a w
def LQ (s k : Nat) : List Bool := (List.range s).map fun i => decide (i < k)
section
variable {F : Fr} {l : zOz} {Q : zQz} {st : St} {P : Program} {G : zGz} {N : Nat}
theorem pq {k n : Nat} {ls : List Bool} (hn : Nat.beq (l.length - k) n = true) (hl : LQ l.length k = ls) (h : SmM F l n ls Q st) : SmA F l k Q st := by
 have hn' := Nat.eq_of_beq_eq_true hn; intro μ C a w hs; have := h μ C a w hs; rw [<- hl, <- hn'] at this; exact this
theorem SmM.nil {n : Nat} {ls : List Bool} (hr : Region.ready .any l.toArray ls.toArray = []) (q : Q .normal st) : SmM F l n ls Q st := by
 intro μ C a w hs; have hq : Sq F Q .normal a w := ⟨st, μ, C, q, hs⟩
 cases n with
 | zero => exact ⟨hr, hq⟩
 | succ n => exact ⟨fun _ => hq, fun i hi => by rw [hr] at hi; cases hi⟩
def yO (F : Fr) (N : Nat) (l : zOz) (n : Nat) (ls : List Bool) (Q : zQz) (st : St) : List Nat -> Prop
 | [] => True
 | i :: r => (∃ o, l[i]? = some o /\ SmG F N l [o] (ba (SmM F l n (ls.set i true) Q) Q) st) /\ yO F N l n ls Q st r
theorem yO.get {n : Nat} {ls : List Bool} : ∀ {is : List Nat}, yO F N l n ls Q st is -> ∀ i ∈ is, ∃ o, l[i]? = some o /\ SmG F N l [o] (ba (SmM F l n (ls.set i true) Q) Q) st := by
 intro is
 induction is with
 | nil => intro _ i hi; cases hi
 | cons j is ih =>
  intro h i hi; rcases List.mem_cons.1 hi with rfl | hi
  ·exact h.1
  ·exact ih h.2 i hi
theorem SmM.step (hF : Env F P G N) {n : Nat} {ls : List Bool} (is : List Nat) (hN : ey N st.env = true) (hr : Region.ready .any l.toArray ls.toArray = is) (hne : is.isEmpty = false) (h : yO F N l n ls Q st is) : SmM F l (n + 1) ls Q st := by
 intro μ C a w hs; refine ⟨fun e => ?_, fun i hi => ?_⟩
 ·rw [hr] at e; subst e; cases hne
 rw [hr] at hi; obtain ⟨o, ho, hw⟩ := h.get i hi; have hw := hw (jC hN) μ C a w hs; have hset : ls.toArray.setIfInBounds i true = (ls.set i true).toArray := by simp
 rw [hset]; have hoA : l.toArray[i]? = some o := by simpa using ho
 unfold wpOpIn; rw [hoA]; dsimp only; obtain ⟨Q', hQ'⟩ : ∃ Q', Q' = ba (SmM F l n (ls.set i true) Q) Q := ⟨_, rfl⟩
 rw [<- hQ'] at hw; have hQ1 : ∀ st', Q' .normal st' -> SmM F l n (ls.set i true) Q st' := fun st' q => by rw [hQ'] at q; exact q
 have hQ2 : ∀ e st', e ≠ .normal -> Q' e st' -> Q e st' := fun e st' he q => by rw [hQ'] at q; cases e <;> first | exact q | exact absurd rfl he
 have hw : (if Region.wanted o (yielded l.toArray a.tmps) then o.wpIn F.fz 0 F.P a w (fun a2 w2 => Sq F Q' .normal a2 w2) (Sq F Q') else (∀ f, o.about F.P w a.eval = some f -> F.fz.fn f) /\ Sq F Q' .normal (a.put o.dst undef) w) := hw; have key : ∀ a2 w2, Sq F Q' .normal a2 w2 -> wpAnyIn F.fz 0 F.P .any l.toArray (Sq F Q) n (ls.set i true).toArray a2 w2 := by
  intro a2 w2 h2; obtain ⟨st', μ', C', hq, hs'⟩ := h2; exact (hQ1 _ hq) μ' C' a2 w2 hs'
 split
 ·rename_i hwt; rw [if_pos hwt] at hw; refine Oper.wpIn_mono key (nW (fun e a w he q => ?_) hw); obtain ⟨st', μ', C', hq, hs'⟩ := q; exact ⟨st', μ', C', hQ2 _ _ he hq, hs'⟩
 ·rename_i hwt; rw [if_neg hwt] at hw; exact ⟨hw.1, key _ _ hw.2⟩
theorem bA {l : zOz} {n : Nat} {ls : List Bool} {env e : zEz} {h : zHz} {nx : Nat} (k : SmM F l n ls Q ⟨e, h, nx⟩) (hE : leE env e := by (repeat' first | exact trivial | refine ⟨rfl, ?_⟩)) : SmM F l n ls Q ⟨env, h, nx⟩ :=
 fun μ C a w hs => k μ C a w (hs.less (qF hE) (fun _ _ h => h) (Nat.le_refl _))
theorem nu {φ : Prop} {l : zOz} {n n' : Nat} {ls ls' : List Bool} (st' : St) (h : φ -> SmM F l n' ls' Q st') (k : (φ -> SmM F l n' ls' Q st') -> SmM F l n ls Q st) : SmM F l n ls Q st := k h
theorem cu {l : zOz} {n n' : Nat} {ls ls' : List Bool} (st' : St) (h : SmM F l n' ls' Q st') (k : SmM F l n' ls' Q st' -> SmM F l n ls Q st) : SmM F l n ls Q st := k h
end
end
section
section
variable {P : Program} {G : zGz} {N : Nat} {F : Fr} {ops rest : zOz} {o : Oper} {Q : zQz} {h0 h : zHz} {env : zEz} {al : zHz} {nx : Nat} {K : zEz -> zHz -> Nat -> Prop}
theorem SmG.gives (hF : Env F P G N) {d : Tmp} {x : V} (hd : o.dst = some d) (hdN : Nat.blt d N = true) (hg : aC ops env o.guard = some true) (hnd : ∀ c, o.op ≠ .defer c) (hx : cq F G h o env x) (k : SmG F N ops rest Q ⟨(d, x) :: env, h, nx⟩) : SmG F N ops (o :: rest) Q ⟨env, h, nx⟩ := by
 have hdN' : d < N := by simpa [Nat.blt_eq] using hdN
 intro hsm μ C a w hsim; have k2 := k (bJ hsm hdN'); obtain ⟨rfl, rfl, hG⟩ := hF; refine cb (fun _ => hnd) fun K hK => ?_
 rw [bI hsim (aN hg) hsm, if_pos rfl]; refine hx μ C a w nx h (hsim.less (fun t x hx => by simp [look] at hx) (fun _ _ h => h) (Nat.le_refl _)) (fun _ _ h => h) (fun y _ v hv => bW hsim hG hv) K _ fun u w' C' hm hu => ?_
 rw [hd]; exact hK _ _ (k2 μ C' _ w' ((hsim.more hm).put hdN' hu))
theorem rS {a : Act} {s d : TypeId} {x : Operand} (ho : o.op = .convert s d x) : execOp a.eval o = (do pure (.value (<- convert s d (a.eval x))) : Sem Next) := by
 unfold execOp; rw [ho]
theorem cq.ofString (hF : Env F P G N) {s d e : TypeId} {x : Operand} {l : zBz} (ho : o.op = .convert s d x) (hx : evD G env x = some (.d (.v (.string ⟨l.toArray⟩))))
  (h1 : P.underlying s = some .string) (h2 : P.underlying d = some (.slice e)) (h3 : P.underlying e = some (.int .u8)) (hl : l.length <= 140737488355328) : cq F G h0 o env (.d (.list 1 (l.map ai) false)) := by
 intro μ C a w nx' hh hsim hold hop K Q hK; obtain ⟨rfl, rfl, hG⟩ := hF; have hxv : ax μ C (.d (.v (.string ⟨l.toArray⟩))) (a.eval x) := hop x (by rw [ho]; simp [Op.operands]) _ hx; have hxe := bz hxv; unfold Oper.wp; rw [rS ho, Sem.run_bind, hxe, run_bytes_of_string w s d e ⟨l.toArray⟩ h1 h2 h3]; show Oper.upon F.P o a K _ (.ok (.value _) _); rw [Oper.upon_value]; have hk := hsim.known; have hsz : (⟨l.toArray⟩ : ByteArray).size = l.length := rfl; rw [hsz]; have hge := grownCap_ge w l.length 0 e; have hle := grownCap_le_maxLen w l.length 0 e (by unfold maxLen; omega); generalize grownCap w l.length 0 e = g at hge hle ⊢; have hdr : Below w.heap.size w w.drew := (Below.refl _ _).drew; have hb := hdr.alloc (Nat.le_refl _) (.cells (bytesRow ⟨l.toArray⟩ g) e ((bytesRow ⟨l.toArray⟩ g).size, (bytesRow ⟨l.toArray⟩ g).size + 1)); have hnew : (w.drew.alloc (.cells (bytesRow ⟨l.toArray⟩ g) e ((bytesRow ⟨l.toArray⟩ g).size, (bytesRow ⟨l.toArray⟩ g).size + 1))).heap[w.heap.size]? = some (.cells (bytesRow ⟨l.toArray⟩ g) e ((bytesRow ⟨l.toArray⟩ g).size, (bytesRow ⟨l.toArray⟩ g).size + 1)) := heap_alloc_new w.drew _; have hcell : ∀ (j : Nat) (b : UInt8), l[j]? = some b -> (bytesRow ⟨l.toArray⟩ g)[j]? = some (.int .u8 b.toNat) := fun j b hj => by
  have hjl := (List.getElem?_eq_some_iff.1 hj).1; unfold bytesRow; rw [Array.getElem?_append_left (by simpa using hjl)]; simp [hj]
 refine hK _ _ (lc C w.heap.size (bytesRow ⟨l.toArray⟩ g)) ⟨hb, fun _ _ _ h => .inl h, fun b o u h => h.imp id (fun h => by omega), fun b o u h => ?_⟩ ?_
 ·rcases h with h | ⟨rfl, h⟩
  ·exact hk.below hb b o u h
  ·left; unfold World.cell?; simp only [hnew]; exact h
 ·show Rep _ _ _; have hlen : (l.map ai).length = l.length := by simp
  cases hl0 : l with
  | nil => exact .nil 1 false _ g ⟨by omega, by simp, by unfold maxLen at hle; omega, (by intro h; cases h), fun x hx _ => by cases hx; rfl⟩
  | cons b0 r =>
   rw [<- hl0]; have := Rp.list (C := lc C w.heap.size (bytesRow ⟨l.toArray⟩ g)) 1 (l.map ai) false w.heap.size 0 g (by rw [hl0]; simp) ⟨by simpa using hge, by simp, by unfold maxLen at hle; omega, (by intro h; cases h), fun x hx _ => by cases hx; rfl⟩
    (kV fun i x hi => by
     rw [List.getElem?_map] at hi; simp only [Option.map_eq_some_iff] at hi; obtain ⟨b, hb, rfl⟩ := hi; refine ⟨rfl, ia fun j d hj => ?_⟩; have hj0 : j = 0 := by have := (List.getElem?_eq_some_iff.1 hj).1; simp [ai] at this; omega
     subst hj0; simp [ai] at hj; subst hj; exact ⟨_, .inr ⟨rfl, by simpa using hcell i b hb⟩, rfl, .v _⟩)
   rw [hlen] at this; exact this
def xh (l : zBz) : Option zBz := if l.length <= 4294967296 then some l else none
theorem AO {l r : zBz} (h : xh l = some r) : r = l /\ l.length <= 4294967296 := by
 unfold xh at h; split at h
 ·cases h; exact ⟨rfl, by assumption⟩
 ·cases h
theorem SmG.ofString (hF : Env F P G N) {s d e : TypeId} {x : Operand} {l r : zBz} {t : Tmp} (ho : o.op = .convert s d x) (hd : o.dst = some t) (hdN : Nat.blt t N = true) (hg : aC ops env o.guard = some true) (hx : evB G env x = some (.d (.v (.string ⟨l.toArray⟩))))
  (h1 : P.underlying s = some .string) (h2 : P.underlying d = some (.slice e)) (h3 : P.underlying e = some (.int .u8)) (hv : xh l = some r) (k : SmG F N ops rest Q ⟨(t, .d (.list 1 (r.map ai) false)) :: env, h, nx⟩) : SmG F N ops (o :: rest) Q ⟨env, h, nx⟩ := by
 obtain ⟨rfl, hl⟩ := AO hv; rw [aT] at hx; exact SmG.gives hF hd hdN hg (fun c e => by rw [ho] at e; cases e) (.ofString hF ho hx h1 h2 h3 (by omega)) k
theorem au.ofString (hF : Env F P G N) {s d e : TypeId} {x : Operand} {l r : zBz} {t : Tmp} (ho : o.op = .convert s d x) (hd : o.dst = some t) (hdN : Nat.blt t N = true) (hg : aC ops env o.guard = some true) (hx : evB G env x = some (.d (.v (.string ⟨l.toArray⟩))))
  (h1 : P.underlying s = some .string) (h2 : P.underlying d = some (.slice e)) (h3 : P.underlying e = some (.int .u8)) (hv : xh l = some r) (k : au F G N ops.toArray h rest ((t, .d (.list 1 (r.map ai) false)) :: env) al nx K) : au F G N ops.toArray h (o :: rest) env al nx K := by
 obtain ⟨rfl, hl⟩ := AO hv; rw [aT] at hx; exact .inl ⟨t, hd, by simpa [Nat.blt_eq] using hdN, .inl ⟨_, .inl ⟨aN hg, .ofString hF ho hx h1 h2 h3 (by omega)⟩, k⟩⟩
end
end
section
section
variable {P : Program} {ops : Array Oper} {rest : zOz} {o : Oper} {a : Act} {w : World} {Q : Exit -> Act -> World -> Prop} {t e : TypeId} {z : Value} {size bytes : Nat}
end
end
section
section
variable {P : Program} {G : zGz} {N : Nat} {F : Fr} {ops rest : zOz} {o : Oper} {Q : zQz} {h0 h : zHz} {env : zEz} {al : zHz} {nx : Nat} {K : zEz -> zHz -> Nat -> Prop} {t e : TypeId} {z : Value} {size bytes : Nat}
theorem Ei (hF : Env F P G N) {d : Tmp} {k : Blk} {res : Nat -> V} (hd : o.dst = some d) (hdN : Nat.blt d N = true) (hg : aC ops env o.guard = some true) (hnd : ∀ c, o.op ≠ .defer c) (hx : jE F G o env k res) (kk : SmG F N ops rest Q ⟨(d, res nx) :: env, (nx, k) :: h, nx + 1⟩) : SmG F N ops (o :: rest) Q ⟨env, h, nx⟩ := by
 have hdN' : d < N := by simpa [Nat.blt_eq] using hdN
 intro hsm μ C a w hsim; have k2 := kk (bJ hsm hdN'); obtain ⟨rfl, rfl, hG⟩ := hF; refine cb (fun _ => hnd) fun K hK => ?_
 rw [bI hsim (aN hg) hsm, if_pos rfl]; have hs1 : Sim F ⟨[], h, nx + 1⟩ μ C a w := hsim.less (fun t x hx => by simp [look] at hx) (fun _ _ h => h) (Nat.le_succ _); refine hx μ C a w (nx + 1) h hs1 (fun y _ v hv => bW hsim hG hv) nx (Nat.lt_succ_self _) (hsim.nx nx (Nat.le_refl _)) K _ fun u w' μ' C' hs2 hC hμ hμ2 hu => ?_
 rw [hd]; refine hK _ _ (k2 μ' C' _ w' (Sim.put (st := ⟨env, (nx, k) :: h, nx + 1⟩) ?_ hdN' hu)); exact ⟨hs2.size, hs2.defers, hs2.below, hs2.sub, hs2.new, hs2.known, fun t x hx => (hsim.env t x hx).mono hμ hC, hs2.heap, hs2.inj, hs2.nx, hs2.gh⟩
theorem zF {a : Act} {s x : Operand} {tn : TypeId} (ho : o.op = .call ⟨.builtin .append, #[s, x], #[t, tn]⟩) : execOp a.eval o = (do pure (.value (<- Builtin.append_ #[t, tn] o.type #[a.eval s, a.eval x])) : Sem Next) := by
 simp only [execOp, ho]; show builtin .append #[t, tn] o.type (#[s, x].map fun | .const _ => true | _ => false) (#[s, x].map a.eval) = _; simp [builtin]
theorem jE.appendMake (hF : Env F P G N) (hE : ElemT P t e z size bytes) {s x : Operand} {tn : TypeId} {kn : IntKind} (htn : P.underlying tn = some (.int kn)) {sz : Nat} {k : Nat} (ho : o.op = .call ⟨.builtin .append, #[s, x], #[t, tn]⟩)
  (hs : evD G env s = some (.d (.list sz [] true))) (hx : evD G env x = some (.d (.v (.int .i64 (k : Int))))) (hk : 0 < k) (hb : k * bytes <= 140737488355328) (hb2 : k <= 140737488355328) :
  jE F G o env (dB size []) (fun m => .sref m 0 k) := by
 intro μ C a w nx' hh hsim hop m hm hfree K Q hK; obtain ⟨rfl, rfl, hG⟩ := hF; obtain ⟨i0, hi, hz0, hz1, hz2⟩ := info_parts hE.info; have hp := hE.pos; have hsv : ax μ C (.d (.list sz [] true)) (a.eval s) := hop s (by rw [ho]; simp [Op.operands, Call.operands]) _ hs; have hxv : ax μ C (.d (.v (.int .i64 (k : Int)))) (a.eval x) := hop x (by rw [ho]; simp [Op.operands, Call.operands]) _ hx; have hxe := bz hxv; have hkn := hsim.known; obtain ⟨ao, cap, vs, e1, hcap, hvl, hvv, hvx, hvr⟩ := cM (P := F.P) (size := size) hkn hsv (.inr rfl); have hdr : Below w.heap.size w w.drew := (Below.refl _ _).drew; have hr1 := hvr w.drew hdr; rw [e1, hcap rfl] at hr1; have hv0 : vs = [] := List.eq_nil_of_length_eq_zero (by simpa using hvl); subst hv0; unfold Oper.wp; rw [zF ho, Sem.run_bind, e1, hxe]; rw [hcap rfl]; have hnx : Builtin.nextslicecap (0 + k) 0 = k := by unfold Builtin.nextslicecap; simp [hk]
 have hrun := Lib.run_append_grow_zeros (P := F.P) w t tn o.type e i0 z .i64 kn hE.und htn hi hz0 ao 0 0 [] (by rw [hz1]; exact hr1) k hk (by rw [hz1]; exact hp) (by omega) (by omega) (by rw [hz2]; omega) (by rw [hnx, hz2]; omega); have hge := grownCap_ge w (0 + k) 0 e; have hle := grownCap_le_maxLen w (0 + k) 0 e (by unfold maxLen; omega); simp only [List.length_nil]; rw [hrun, Result.andThen_ok]; show Oper.upon F.P o a K _ (.ok (.value _) _); rw [Oper.upon_value]; generalize hgc : grownCap w (0 + k) 0 e = g at hge hle ⊢; have hmore : More w C (w.drew.alloc (.cells (([] : zLz).toArray ++ Builtin.zeroCells z.cells k ++ Builtin.zeroCells z.cells (g - (0 + k))) e)) C := .of_below hkn (hdr.alloc (Nat.le_refl _) _); have hs2 := hsim.adopt hmore (m := m) (n' := nx') hfree hm (Nat.le_refl _) (p := ⟨w.heap.size, g, size⟩) (sz := size) (rows := [])
  ⟨rfl, by simp [dB], by unfold maxLen at hle; exact Nat.le_trans hle (by decide), by simp [dB], fun _ => ⟨Nat.le_refl _, fun o u hc => absurd (hkn.lt hc) (Nat.lt_irrefl _), _, e, heap_alloc_new w.drew _, by
   simp only [Array.size_append, List.size_toArray, size_zeroCells, hE.zs, List.length_nil, Nat.zero_add]; rw [<- Nat.add_mul]; congr 1; omega, fun i r hr => by simp [dB] at hr⟩⟩
 refine hK _ _ _ C hs2 (fun _ _ _ h => h) (fun l q hq => ?_) (fun l hl => by simp [hl]) ⟨⟨w.heap.size, g, size⟩, some ⟨w.heap.size, 0, none⟩, by simp, by simp, by simp; omega, fun _ => by simp⟩; have : l ≠ m := fun e => by rw [e, hfree] at hq; cases hq
 simp [this, hq]
theorem SmG.appendMake (hF : Env F P G N) (hE : ElemT P t e z size bytes) {s x : Operand} {tn : TypeId} {kn : IntKind} (htn : P.underlying tn = some (.int kn)) {sz k : Nat} {d : Tmp} {n : Int} (ho : o.op = .call ⟨.builtin .append, #[s, x], #[t, tn]⟩) (hd : o.dst = some d) (hdN : Nat.blt d N = true) (hg : aC ops env o.guard = some true)
  (hs : evB G env s = some (.d (.list sz [] true))) (hx : evB G env x = some (.d (.v (.int .i64 n)))) (hn : n = (k : Int)) (hk : 0 < k) (hb : k * bytes <= 140737488355328) (hb2 : k <= 140737488355328)
  (kk : SmG F N ops rest Q ⟨(d, .sref nx 0 k) :: env, (nx, dB size []) :: h, nx + 1⟩) : SmG F N ops (o :: rest) Q ⟨env, h, nx⟩ := by
 subst hn; rw [aT] at hs hx; exact Ei hF hd hdN hg (fun c e => by rw [ho] at e; cases e) (.appendMake hF hE htn ho hs hx hk hb hb2) kk
theorem GI {a : Act} {x : Operand} (ho : o.op = .call ⟨.builtin .cap, #[x], #[t]⟩) : execOp a.eval o = (do pure (.value (<- Builtin.cap_ #[t] o.type #[a.eval x])) : Sem Next) := by
 simp only [execOp, ho]; show builtin .cap #[t] o.type (#[x].map fun | .const _ => true | _ => false) (#[x].map a.eval) = _; simp [builtin]
theorem cq.capFull (hF : Env F P G N) {x : Operand} {sz : Nat} {xs : zRz} (hu : P.underlying t = some (.slice e)) (ho : o.op = .call ⟨.builtin .cap, #[x], #[t]⟩) (hx : evD G env x = some (.d (.list sz xs true))) : cq F G h0 o env (.d (.v (.int .i64 (xs.length : Int)))) := by
 intro μ C a w nx' hh hsim hold hop K Q hK; obtain ⟨rfl, rfl, hG⟩ := hF; have hxv : ax μ C (.d (.list sz xs true)) (a.eval x) := hop x (by rw [ho]; simp [Op.operands, Call.operands]) _ hx; have hk := hsim.known; obtain ⟨ao, cap, e1, hcb, _⟩ := Rep.elem hxv; have hc := hcb.full rfl; subst hc; unfold Oper.wp; rw [GI ho, Sem.run_bind, e1]; have : (Builtin.cap_ #[t] o.type #[.slice ao xs.length xs.length]).run F.P w = .ok (.int .i64 (xs.length : Int)) w := by
  simp [Builtin.cap_, run_underlying hu, goInt]
 rw [this, Result.andThen_ok]; show Oper.upon F.P o a K _ (.ok (.value _) w); rw [Oper.upon_value]; exact hK _ _ C (.of_below hk (Below.refl _ _)) (Rp.v _)
theorem cq.sliceNil (hF : Env F P G N) {x y : Operand} {sz s : Nat} (hu : P.underlying t = some (.slice e)) (hs : az P e = some s) (ho : o.op = .slice t x none (some y) none) (hx : evD G env x = some (.d (.list sz [] true))) (hy : evD G env y = some (.d (.v (.int .i64 0)))) : cq F G h0 o env (.d (.list sz [] true)) := by
 intro μ C a w nx' hh hsim hold hop K Q hK; obtain ⟨rfl, rfl, hG⟩ := hF; have hxv : ax μ C (.d (.list sz [] true)) (a.eval x) := hop x (by rw [ho]; simp [Op.operands]) _ hx; have hyv : ax μ C (.d (.v (.int .i64 0))) (a.eval y) := hop y (by rw [ho]; simp [Op.operands]) _ hy; have hye := bz hyv; have hk := hsim.known; obtain ⟨ao, cap, e1, hcb, _⟩ := Rep.elem hxv; have hc : cap = 0 := hcb.full rfl; subst hc; have e1 : a.eval x = .slice ao 0 0 := e1; have he : execOp a.eval o = (do pure (.value (<- Instr.sliceAt t (a.eval x) none (some (a.eval y)) none)) : Sem Next) := by simp only [execOp, ho, Option.map_none, Option.map_some]
 unfold Oper.wp; rw [he, Sem.run_bind, e1, hye]; have : (Instr.sliceAt t (.slice ao 0 0) none (some (.int .i64 0)) none).run F.P w = .ok (.slice ao 0 0) w := by
  have hi : (asIntOf (.int .i64 0)).run F.P w = .ok (.i64, 0) w := rfl; simp [Instr.sliceAt, Instr.slice, Sem.run_bind, run_underlying hu, fc hs, Result.andThen, Instr.sliceBounds, Instr.sliceBound, hi]
 rw [this, Result.andThen_ok]; show Oper.upon F.P o a K _ (.ok (.value _) w); rw [Oper.upon_value]; refine hK _ _ C (.of_below hk (Below.refl _ _)) ?_; rw [e1] at hxv; exact hxv
theorem SmG.capFull (hF : Env F P G N) {x : Operand} {d : Tmp} {sz : Nat} {xs : zRz} (hu : P.underlying t = some (.slice e)) (ho : o.op = .call ⟨.builtin .cap, #[x], #[t]⟩) (hd : o.dst = some d) (hdN : Nat.blt d N = true) (hg : aC ops env o.guard = some true) (hx : evB G env x = some (.d (.list sz xs true)))
  (k : SmG F N ops rest Q ⟨(d, .d (.v (.int .i64 (xs.length : Int)))) :: env, h, nx⟩) : SmG F N ops (o :: rest) Q ⟨env, h, nx⟩ := by
 rw [aT] at hx; exact SmG.gives hF hd hdN hg (fun c e => by rw [ho] at e; cases e) (.capFull hF hu ho hx) k
theorem SmG.sliceNil (hF : Env F P G N) {x y : Operand} {d : Tmp} {sz s : Nat} (hu : P.underlying t = some (.slice e)) (hs : az P e = some s) (ho : o.op = .slice t x none (some y) none) (hd : o.dst = some d) (hdN : Nat.blt d N = true) (hg : aC ops env o.guard = some true) (hx : evB G env x = some (.d (.list sz [] true))) (hy : evB G env y = some (.d (.v (.int .i64 0))))
  (k : SmG F N ops rest Q ⟨(d, .d (.list sz [] true)) :: env, h, nx⟩) : SmG F N ops (o :: rest) Q ⟨env, h, nx⟩ := by
 rw [aT] at hx hy; exact SmG.gives hF hd hdN hg (fun c e => by rw [ho] at e; cases e) (.sliceNil hF hu hs ho hx hy) k
end
end
section
def ob {α β : Type} (x : Option α) (f : α -> Option β) : Option β := x.bind f
theorem ap {α β : Type} {x : Option α} {f : α -> Option β} {r : β} (h : ob x f = some r) : ∃ v, x = some v /\ f v = some r := Option.bind_eq_some_iff.1 h
theorem fU {α β : Type} {x : Option α} {v : α} {f : α -> Option β} (h : x = some v) : ob x f = f v := by rw [h]; rfl
theorem ifT {α : Type} {c : Bool} {x y z : α} (hc : c = true) (h : (bif c then x else y) = z) : x = z := by subst hc; exact h
theorem ifF {α : Type} {c : Bool} {x y z : α} (hc : c = false) (h : (bif c then x else y) = z) : y = z := by subst hc; exact h
theorem aW {α : Type} {x y : α} (h : some x = some y) : x = y := Option.some.inj h
theorem sV {α β : Type} {x y : α} (h : some (Sum.inl x : α ⊕ β) = some (.inl y)) : some x = some y := by cases h; rfl
theorem sW {α β : Type} {x y : β} (h : some (Sum.inr x : α ⊕ β) = some (.inr y)) : some x = some y := by cases h; rfl
def arI (k : IntKind) (n : Int) : Option Int := if k.wrap n = n then some n else none
def DH (k : IntKind) (a b : Int) : Option Int := if b = 0 then none else arI k (a.tdiv b)
def sw (a b : Int) : Option Int := if b = 0 then none else some (a.tmod b)
def sJ (k : IntKind) (a b : Int) : Option Int := if b < 0 then none else some (k.wrap (a * 2 ^ (min b.toNat k.bits)))
def Ia (k : IntKind) (a b : Int) : Option Int := if b < 0 then none else some (a.fdiv (2 ^ (min b.toNat k.bits)))
def Kr (k : IntKind) (a b : Int) : Int := k.wrap (BitVec.ofInt k.bits a &&& BitVec.ofInt k.bits b).toNat
def orI (k : IntKind) (a b : Int) : Int := k.wrap (BitVec.ofInt k.bits a ||| BitVec.ofInt k.bits b).toNat
def Lu (k : IntKind) (a b : Int) : Int := k.wrap (BitVec.ofInt k.bits a ^^^ BitVec.ofInt k.bits b).toNat
theorem ne {k : IntKind} {n v : Int} (h : arI k n = some v) : v = n /\ k.wrap n = n := by
 unfold arI at h; split at h
 ·rename_i hw; cases h; exact ⟨rfl, hw⟩
 ·cases h
theorem bQ {n : Int} (h : -9223372036854775808 <= n /\ n <= 9223372036854775807) : arI .i64 n = some n := by unfold arI; rw [if_pos (aY n (by omega))]
theorem Hw {a b : Int} (ha : 0 <= a) (hb : 0 < b) : sw a b = some (a % b) := by
 unfold sw; rw [if_neg (by omega), Int.tmod_eq_emod_of_nonneg ha]
section
variable {P : Program} {t : TypeId} {x y : Operand} {k : IntKind} {a b v : Int}
theorem dX (h : arI k (a + b) = some v) : aD P (do eqGuard .add t x y (.int k a) (.int k b); binOp .add t (.int k a) (.int k b)) = some (.int k v) := by obtain ⟨rfl, hw⟩ := ne h; rw [Ar, hw]
theorem sl (h : arI k (a - b) = some v) : aD P (do eqGuard .sub t x y (.int k a) (.int k b); binOp .sub t (.int k a) (.int k b)) = some (.int k v) := by obtain ⟨rfl, hw⟩ := ne h; rw [FJ, hw]
theorem KU (h : arI k (a * b) = some v) : aD P (do eqGuard .mul t x y (.int k a) (.int k b); binOp .mul t (.int k a) (.int k b)) = some (.int k v) := by obtain ⟨rfl, hw⟩ := ne h; rw [FG, hw]
theorem FC (h : DH k a b = some v) : aD P (do eqGuard .quo t x y (.int k a) (.int k b); binOp .quo t (.int k a) (.int k b)) = some (.int k v) := by
 unfold DH at h; split at h
 ·cases h
 ·rename_i h0; obtain ⟨rfl, hw⟩ := ne h; rw [FH _ _ _ _ _ _ _ h0, hw]
theorem FD (h : sw a b = some v) : aD P (do eqGuard .rem t x y (.int k a) (.int k b); binOp .rem t (.int k a) (.int k b)) = some (.int k v) := by
 unfold sw at h; split at h
 ·cases h
 ·rename_i h0; cases h; rw [FI _ _ _ _ _ _ _ h0]
theorem vK {k2 : IntKind} (h : sJ k a b = some v) : aD P (do eqGuard .shl t x y (.int k a) (.int k2 b); binOp .shl t (.int k a) (.int k2 b)) = some (.int k v) := by
 unfold sJ at h; split at h
 ·cases h
 ·rename_i h0; cases h; rw [At _ _ _ _ _ _ _ k2 h0]
theorem KX {k2 : IntKind} (h : Ia k a b = some v) : aD P (do eqGuard .shr t x y (.int k a) (.int k2 b); binOp .shr t (.int k a) (.int k2 b)) = some (.int k v) := by
 unfold Ia at h; split at h
 ·cases h
 ·rename_i h0; cases h; rw [vO _ _ _ _ _ _ _ k2 h0]
theorem KR : aD P (do eqGuard .and t x y (.int k a) (.int k b); binOp .and t (.int k a) (.int k b)) = some (.int k (Kr k a b)) := FF ..
theorem II : aD P (do eqGuard .or t x y (.int k a) (.int k b); binOp .or t (.int k a) (.int k b)) = some (.int k (orI k a b)) := IJ ..
theorem KY : aD P (do eqGuard .xor t x y (.int k a) (.int k b); binOp .xor t (.int k a) (.int k b)) = some (.int k (Lu k a b)) := FK ..
theorem KV (h : arI k (0 - a) = some v) : aD P (Op.unary .neg (.int k a)) = some (.int k v) := by obtain ⟨rfl, hw⟩ := ne h; rw [Le, hw]
theorem wV {s d : TypeId} {td : TypeDesc} {k2 : IntKind} (h1 : P.underlying s = some td) (h2 : P.underlying d = some (.int k)) : fM P s d (.d (.v (.int k2 a))) = some (.d (.v (.int k (k.wrap a)))) := by
 simp only [fM, Au P k a s d h1 h2 k2, Option.map_some]
theorem KW {s u : zBz} {v : Bool} (h : (s == u) = v) : aD P (do eqGuard .eql t x y (.string ⟨s.toArray⟩) (.string ⟨u.toArray⟩); binOp .eql t (.string ⟨s.toArray⟩) (.string ⟨u.toArray⟩)) = some (.bool v) := by
 rw [Ck]; have e (l : zBz) : (⟨l.toArray⟩ : ByteArray).toList = l := by simp
 rw [e, e, h]
theorem FE {s u : zBz} {v : Bool} (h : (!(s == u)) = v) : aD P (do eqGuard .neq t x y (.string ⟨s.toArray⟩) (.string ⟨u.toArray⟩); binOp .neq t (.string ⟨s.toArray⟩) (.string ⟨u.toArray⟩)) = some (.bool v) := by
 rw [JF]; have e (l : zBz) : (⟨l.toArray⟩ : ByteArray).toList = l := by simp
 rw [e, e, h]
end
def gg {S E : Type} (body : S -> Option (S ⊕ E)) : Nat -> S -> Option E
 | 0, _ => none
 | n + 1, s => ob (body s) fun o => match o with
  | .inl s' => gg body n s'
  | .inr e => some e
theorem Dw {S E : Type} {body : S -> Option (S ⊕ E)} : ∀ {n : Nat} {s : S} {e : E}, gg body n s = some e -> gg body (n + 1) s = some e := by
 intro n
 induction n with
 | zero => intro s e h; cases h
 | succ n ih =>
  intro s e h; rw [gg] at h ⊢; obtain ⟨o, h1, h2⟩ := ap h; rw [fU h1]; cases o with
  | inl s' => exact ih h2
  | inr e => exact h2
theorem Ae {S E : Type} {body : S -> Option (S ⊕ E)} {n m : Nat} {s : S} {e : E} (h : gg body n s = some e) (hm : n <= m) : gg body m s = some e := by
 induction m with
 | zero => obtain rfl : n = 0 := by omega
           exact h
 | succ m ih => rcases Nat.lt_or_ge m n with h1 | h1
                ·obtain rfl : n = m + 1 := by omega
                 exact h
                ·exact Dw (ih h1)
open Classical in
noncomputable def cP {S E : Type} (body : S -> Option (S ⊕ E)) (s : S) : Option E := if h : ∃ n e, gg body n s = some e then some h.choose_spec.choose else none
theorem oG {S E : Type} {body : S -> Option (S ⊕ E)} {s : S} {e : E} : cP body s = some e ↔ ∃ n, gg body n s = some e := by
 unfold cP; constructor
 ·intro h; split at h
  ·rename_i hx; cases h; exact ⟨_, hx.choose_spec.choose_spec⟩
  ·cases h
 ·rintro ⟨n, hn⟩; have hx : ∃ n e, gg body n s = some e := ⟨n, e, hn⟩
  rw [dif_pos hx]; have h2 := hx.choose_spec.choose_spec; have h3 := Ae h2 (Nat.le_max_left _ n); have h4 := Ae hn (Nat.le_max_right hx.choose n); rw [h4] at h3; exact h3.symm
theorem vw {S E : Type} {body : S -> Option (S ⊕ E)} {s : S} {e : E} (h : body s = some (.inr e)) : cP body s = some e := oG.2 ⟨1, by rw [gg, fU h]⟩
theorem vz {S E : Type} {body : S -> Option (S ⊕ E)} {s s' : S} {e : E} (h : body s = some (.inl s')) (k : cP body s' = some e) : cP body s = some e := by
 obtain ⟨n, hn⟩ := oG.1 k; exact oG.2 ⟨n + 1, by rw [gg, fU h]; exact hn⟩
theorem Hg {S E : Type} {body : S -> Option (S ⊕ E)} (I : S -> Prop) (m : S -> Nat) {R : E -> Prop} {s : S} (h0 : I s) (h : ∀ s, I s -> (∃ s', body s = some (.inl s') /\ I s' /\ m s' < m s) \/ ∃ e, body s = some (.inr e) /\ R e) : ∃ e, cP body s = some e /\ R e := by
 have key : ∀ n s, m s = n -> I s -> ∃ e, cP body s = some e /\ R e := by
  intro n
  induction n using Nat.strongRecOn with
  | _ n ih =>
   intro s hm hi; rcases h s hi with ⟨s', h1, h2, h3⟩ | ⟨e, h1, h2⟩
   ·obtain ⟨e, h4, h5⟩ := ih _ (hm ▸ h3) s' rfl h2; exact ⟨e, vz h1 h4, h5⟩
   ·exact ⟨e, vw h1, h2⟩
 exact key _ s rfl h0
theorem kC {S E : Type} {body : S -> Option (S ⊕ E)} (f : Nat -> S) (n : Nat) {e : E} (hs : ∀ i, i < n -> body (f i) = some (.inl (f (i + 1)))) (he : body (f n) = some (.inr e)) : cP body (f 0) = some e := by
 have key : ∀ d i, i + d = n -> cP body (f i) = some e := by
  intro d
  induction d with
  | zero => intro i h; obtain rfl : i = n := by omega
            exact vw he
  | succ d ih => intro i h; exact vz (hs i (by omega)) (ih (i + 1) (by omega))
 exact key n 0 (by omega)
def Cz {S E : Type} (body : S -> Option (S ⊕ E)) (n : Nat) (e : E) (o : S ⊕ E) : Prop := (∃ s', o = .inl s' /\ gg body n s' = some e) \/ o = .inr e
theorem dN {S E : Type} {body : S -> Option (S ⊕ E)} {n : Nat} {e : E} {o : S ⊕ E} {s' : S} (h : some (Sum.inl s' : S ⊕ E) = some o) (hd : Cz body n e o) : gg body n s' = some e := by
 cases h; rcases hd with ⟨s2, h1, h2⟩ | h1
 ·cases h1; exact h2
 ·cases h1
theorem bV {S E : Type} {body : S -> Option (S ⊕ E)} {n : Nat} {e x : E} {o : S ⊕ E} (h : some (Sum.inr x : S ⊕ E) = some o) (hd : Cz body n e o) : some x = some e := by
 cases h; rcases hd with ⟨s2, h1, h2⟩ | h1
 ·cases h1
 ·cases h1; rfl
section
variable {F : Fr} {Q Q' : zQz} {st st' st'' : St} {env env' : zEz} {h h' : zHz} {nx nx' : Nat}
theorem kZ : St.to F st st := fun μ C _ _ hs => ⟨μ, C, hs⟩
theorem aR (h1 : St.to F st st') (h2 : St.to F st' st'') : St.to F st st'' := fun μ C a w hs => by
 obtain ⟨μ', C', hs'⟩ := h1 μ C a w hs; exact h2 μ' C' a w hs'
theorem cV (hl : st.le st') : St.to F st st' := fun μ C _ _ hs => ⟨μ, C, hs.less hl.1 hl.2.1 hl.2.2⟩
theorem iu {c y : Code} (I : St) (h1 : Sm F y Q I) (h2 : Sm F c (ba (fun st' => St.to F st' I) Q') st) : Sm F c (ba (Sm F y Q) Q') st := by
 refine Sm.mono ?_ h2; intro e st' hq; cases e <;> first | exact Sm.to hq h1 | exact hq
theorem Ee {c : Code} {ι : Type} (inv : ι -> St) (m : ι -> Nat) (i0 : ι) (h0 : St.to F st (inv i0)) (round : ∀ i, Sm F c (ba (fun st' => ∃ j, m j < m i /\ St.to F st' (inv j)) Q) (inv i)) : Sm F (.loop c) Q st := by
 intro μ C a w hs b k cs hro hb hr; have key : ∀ n i, m i = n -> ∀ μ C a w, Sim F (inv i) μ C a w -> ∃ e a' w', Sq F Q e a' w' /\ ArrivesIn (Machine.fenced F.P F.fz) F.P (lone (b.atR a (.code c :: .inLoop c :: k)) cs w) b k cs e a' w' := by
  intro n
  induction n using Nat.strongRecOn with
  | _ n ih =>
   intro i hi μ C a w hs; obtain ⟨e, a1, w1, hq, harr⟩ := round i μ C a w hs b (.inLoop c :: k) cs hro hb hr; obtain ⟨st1, μ1, C1, h1, h2⟩ := hq; cases e with
   | normal =>
    obtain ⟨j, hj, hle⟩ := h1; obtain ⟨μ2, C2, h3⟩ := hle μ1 C1 a1 w1 h2; obtain ⟨e2, a2, w2, hq2, harr2⟩ := ih (m j) (hi ▸ hj) j rfl μ2 C2 a1 w1 h3; exact ⟨e2, a2, w2, hq2, .of_steps (StepsIn.trans harr (.one (fenced_calm hb hr rfl) stepR_inLoop)) harr2⟩
   | exit id => exact ⟨_, a1, w1, ⟨st1, μ1, C1, h1, h2⟩, .pass (x := .inLoop c) rfl (fun _ _ => .inl (by simp)) harr⟩
   | goto l => exact ⟨_, a1, w1, ⟨st1, μ1, C1, h1, h2⟩, .pass (x := .inLoop c) rfl (fun _ _ => .inl (by simp)) harr⟩
   | ret => exact ⟨_, a1, w1, ⟨st1, μ1, C1, h1, h2⟩, .pass (x := .inLoop c) rfl (fun _ _ => .inl (by simp)) harr⟩
   | panic ch => exact ⟨_, a1, w1, ⟨st1, μ1, C1, h1, h2⟩, .pass (x := .inLoop c) rfl (fun _ _ => .inl (by simp)) harr⟩
   | outgrown => exact ⟨_, a1, w1, ⟨st1, μ1, C1, h1, h2⟩, .pass (x := .inLoop c) rfl (fun _ _ => .inl (by simp)) harr⟩
 obtain ⟨μ', C', hs'⟩ := h0 μ C a w hs; obtain ⟨e, a', w', hq, harr⟩ := key _ i0 rfl μ' C' a w hs'; exact ⟨e, a', w', hq, .of_steps (.one (fenced_calm hb hr rfl) stepR_loop) harr⟩
theorem eE {c : Code} {S E : Type} (body : S -> Option (S ⊕ E)) (I : S -> St) (s0 : S) {e : E} (he : cP body s0 = some e) (h0 : St.to F st (I s0))
  (round : ∀ n s o, body s = some o -> Cz body n e o -> Sm F c (ba (fun st' => ∃ s', gg body n s' = some e /\ St.to F st' (I s')) Q) (I s)) : Sm F (.loop c) Q st := by
 obtain ⟨n0, hn0⟩ := oG.1 he; refine Ee (ι := {p : Nat × S // gg body p.1 p.2 = some e}) (fun p => I p.1.2) (fun p => p.1.1) ⟨(n0, s0), hn0⟩ h0 ?_; rintro ⟨⟨n, s⟩, hn⟩; cases n with
 | zero => cases hn
 | succ n =>
  rw [gg] at hn; obtain ⟨o, h1, h2⟩ := ap hn; refine Sm.mono ?_ (round n s o h1 ?_)
  ·intro e st' hq; cases e with
   | normal =>
    obtain ⟨s', h3, h4⟩ := hq; exact ⟨⟨(n, s'), h3⟩, Nat.lt_succ_self _, h4⟩
   | _ => exact hq
  ·cases o with
   | inl s' => exact .inl ⟨s', rfl, h2⟩
   | inr x => simp only [Option.some.injEq] at h2; subst h2; exact .inr rfl
def Rds (F : Fr) (c : Code) (Q : zQz) : Nat -> St -> Prop
 | 0, _ => False
 | m + 1, st => Sm F c (ba (Rds F c Q m) Q) st
theorem Sm.rounds {c : Code} (m : Nat) (k : Rds F c Q m st) : Sm F (.loop c) Q st := by
 intro μ C a w hs; refine wpIn_loop_rounds m ?_; have key : ∀ m st μ C a w, Rds F c Q m st -> Sim F st μ C a w -> Code.roundsIn F.fz 0 F.P c (Sq F Q) m a w := by
  intro m
  induction m with
  | zero => intro st μ C a w h _; exact h.elim
  | succ m ih =>
   intro st μ C a w h hs; rw [roundsIn_succ]; refine wpIn_mono (h μ C a w hs) ?_; intro e a' w' hq; obtain ⟨st', μ', C', h1, h2⟩ := hq; cases e with
   | normal => exact ih st' μ' C' a' w' h1 h2
   | _ => exact ⟨st', μ', C', h1, h2⟩
 exact key m st μ C a w k hs
def Cx (env : zEz) : zEz -> Prop
 | [] => True
 | (t, y) :: r => (∃ x, af env t = some x /\ V.le x y) /\ Cx env r
theorem Cx.look {env : zEz} : ∀ {env' : zEz}, Cx env env' -> ∀ t y, look env' t = some y -> ∃ x, Go.Proofs.YtaclinnjekdgoaaDoor.look env t = some x /\ V.le x y := by
 intro env'
 induction env' with
 | nil => intro _ t y h; simp [Go.Proofs.YtaclinnjekdgoaaDoor.look] at h
 | cons e r ih =>
  obtain ⟨t0, y0⟩ := e; intro h t y hl; simp only [Go.Proofs.YtaclinnjekdgoaaDoor.look] at hl; split at hl
  ·rename_i e; subst e; cases hl; obtain ⟨x, h1, h2⟩ := h.1; rw [aL] at h1; exact ⟨x, h1, h2⟩
  ·exact ih h.2 t y hl
inductive CellsR : List V -> List V -> Prop
 | nil : CellsR [] []
 | cons {x y : V} {xs ys : List V} : V.le x y -> CellsR xs ys -> CellsR (x :: xs) (y :: ys)
theorem CellsR.refl : ∀ xs, CellsR xs xs
 | [] => .nil
 | x :: xs => .cons (V.le.refl x) (CellsR.refl xs)
theorem CellsR.length {xs ys : List V} (h : CellsR xs ys) : xs.length = ys.length := by induction h with | nil => rfl | cons _ _ ih => simp [ih]
theorem CellsR.get {xs ys : List V} (h : CellsR xs ys) : ∀ (j : Nat) (y : V), ys[j]? = some y -> ∃ x, xs[j]? = some x /\ V.le x y := by
 induction h with
 | nil => intro j y h; simp at h
 | cons h1 _ ih =>
  intro j y hj; cases j with
  | zero => simp at hj; subst hj; exact ⟨_, rfl, h1⟩
  | succ j => simpa using ih j y (by simpa using hj)
inductive RowsR : List (List V) -> List (List V) -> Prop
 | nil : RowsR [] []
 | cons {x y : List V} {xs ys : List (List V)} : CellsR x y -> RowsR xs ys -> RowsR (x :: xs) (y :: ys)
theorem RowsR.refl : ∀ xs, RowsR xs xs
 | [] => .nil
 | x :: xs => .cons (CellsR.refl x) (RowsR.refl xs)
theorem RowsR.length {xs ys : List (List V)} (h : RowsR xs ys) : xs.length = ys.length := by induction h with | nil => rfl | cons _ _ ih => simp [ih]
theorem RowsR.get {xs ys : List (List V)} (h : RowsR xs ys) : ∀ (j : Nat) (y : List V), ys[j]? = some y -> ∃ x, xs[j]? = some x /\ CellsR x y := by
 induction h with
 | nil => intro j y h; simp at h
 | cons h1 _ ih =>
  intro j y hj; cases j with
  | zero => simp at hj; subst hj; exact ⟨_, rfl, h1⟩
  | succ j => simpa using ih j y (by simpa using hj)
def fJ (k k' : Blk) : Prop := k.sz = k'.sz /\ RowsR k.rows k'.rows /\ k.isMap = k'.isMap
theorem fJ.refl (k : Blk) : fJ k k := ⟨rfl, RowsR.refl _, rfl⟩
theorem fJ.row {sz : Nat} {r r' : List V} (h : CellsR r r') (hm : Blk.isMap ⟨sz, [r]⟩ = Blk.isMap ⟨sz, [r']⟩ := by rfl) : fJ ⟨sz, [r]⟩ ⟨sz, [r']⟩ := ⟨rfl, .cons h .nil, hm⟩
def yP (h : zHz) : zHz -> Prop
 | [] => True
 | (l, k') :: r => (∃ k, af h l = some k /\ fJ k k') /\ yP h r
theorem yP.look {h : zHz} : ∀ {h' : zHz}, yP h h' -> ∀ t y, look h' t = some y -> ∃ x, Go.Proofs.YtaclinnjekdgoaaDoor.look h t = some x /\ fJ x y := by
 intro env'
 induction env' with
 | nil => intro _ t y h; simp [Go.Proofs.YtaclinnjekdgoaaDoor.look] at h
 | cons e r ih =>
  obtain ⟨t0, y0⟩ := e; intro h t y hl; simp only [Go.Proofs.YtaclinnjekdgoaaDoor.look] at hl; split at hl
  ·rename_i e; subst e; cases hl; obtain ⟨x, h1, h2⟩ := h.1; rw [aL] at h1; exact ⟨x, h1, h2⟩
  ·exact ih h.2 t y hl
theorem CC (hE : Cx env env') (hH : yP h h') (hn : nx <= nx') : St.to F ⟨env, h, nx⟩ ⟨env', h', nx'⟩ := by
 intro μ C a w hs; have hdom : ∀ l, (look h' l).isSome = true -> (look h l).isSome = true := fun l hl => by
  obtain ⟨k, hk⟩ := Option.isSome_iff_exists.1 hl; obtain ⟨k0, h0, _⟩ := hH.look l k hk; rw [h0]; rfl
 refine ⟨μ, C, hs.size, hs.defers, hs.below, hs.sub, hs.new, hs.known, fun t y hy => ?_, fun l k hk => ?_, fun l l' p p' h1 h2 => hs.inj l l' p p' (hdom l h1) (hdom l' h2), fun l hl => hs.nx l (Nat.le_trans hn hl),
  F.stab hs.gh ⟨rfl, rfl, rfl, Nat.le_refl _, fun _ _ _ h => h, fun l hl => .inl (hdom l hl), fun _ _ _ => rfl, fun b ⟨l, k, p, h1, h2⟩ => ?_, fun _ _ _ h => h, fun _ _ _ h => .inl h, hs.known⟩⟩
 ·obtain ⟨x, h1, h2⟩ := hE.look t y hy; exact h2 μ C _ (hs.env t x h1)
 ·obtain ⟨k0, h0, hb⟩ := hH.look l k hk; obtain ⟨p, hp, hok⟩ := hs.heap l k0 h0; refine ⟨p, hp, hok.sz.trans hb.1, by rw [<- hb.2.1.length]; exact hok.len, hok.max, fun r hr => ?_, fun hc => ?_⟩
  ·obtain ⟨i, hi⟩ := List.getElem?_of_mem hr; obtain ⟨r0, h1, h2⟩ := hb.2.1.get i r hi; rw [<- h2.length, <- hb.1]; exact hok.row r0 (List.mem_of_getElem? h1)
  ·obtain ⟨c1, c2, cur, T, c3, c4, c5⟩ := hok.cells hc; rw [hb.2.2] at c3; refine ⟨c1, c2, cur, T, c3, c4, fun i r hr j x hx => ?_⟩; obtain ⟨r0, h1, h2⟩ := hb.2.1.get i r hr; obtain ⟨x0, h3, h4⟩ := h2.get j x hx; obtain ⟨u, g1, g2, g3⟩ := c5 i r0 h1 j x0 h3; rw [hb.1] at g1; exact ⟨u, g1, g2, h4 μ C u g3⟩
 ·obtain ⟨k0, h0, _⟩ := hH.look l k h1; exact .inl ⟨l, k0, p, h0, h2⟩
theorem mR (n : Nat) (hE : (env.all fun e => V.lt n e.2) = true) (hH : ltH n h) (hL : (h.all fun e => Nat.blt e.1 n) = true) (hn : F.n0 <= n := by omega) : St.to F ⟨env, h, nx⟩ ⟨env, h, n⟩ := by
 refine aR (xp (st := ⟨env, h, nx⟩) n hH hn) (cV ⟨fun t x hx => ?_, fun l k hk => ?_, Nat.le_refl _⟩)
 ·simp only [oD]; rw [hx]; have : V.lt n x = true := by
   have hm : ∀ (r : zEz) (x : V), look r t = some x -> (t, x) ∈ r := by
    intro r
    induction r with
    | nil => intro x h; simp [look] at h
    | cons e r ih =>
     obtain ⟨k', y'⟩ := e; intro x h; simp only [look] at h; split at h
     ·rename_i hk; cases h; subst hk; simp
     ·exact List.mem_cons_of_mem _ (ih x h)
   exact List.all_eq_true.1 hE _ (hm _ _ hx)
  simp [this]
 ·simp only [jt]; have : l < n := by
   have hm : ∀ (r : zHz) (x : Blk), look r l = some x -> (l, x) ∈ r := by
    intro r
    induction r with
    | nil => intro x h; simp [look] at h
    | cons e r ih =>
     obtain ⟨k', y'⟩ := e; intro x h; simp only [look] at h; split at h
     ·rename_i hk; cases h; subst hk; simp
     ·exact List.mem_cons_of_mem _ (ih x h)
   have := List.all_eq_true.1 hL _ (hm _ _ hk); simpa [Nat.blt_eq] using this
  rw [if_pos this]; exact hk
def Gi (l sz : Nat) (rows : zRz) (env : zEz) : zEz -> Prop
 | [] => True
 | (t, y) :: r => (∃ x, af env t = some x /\ bf l sz rows x = y) /\ Gi l sz rows env r
inductive CellsF (l sz : Nat) (rows : zRz) : List V -> List V -> Prop
 | nil : CellsF l sz rows [] []
 | cons {x y : V} {xs ys : List V} : bf l sz rows x = y -> CellsF l sz rows xs ys -> CellsF l sz rows (x :: xs) (y :: ys)
theorem CellsF.map {l sz : Nat} {rows : zRz} {xs ys : List V} (h : CellsF l sz rows xs ys) : xs.map (bf l sz rows) = ys := by induction h with | nil => rfl | cons h1 _ ih => simp [h1, ih]
def Cy (l sz : Nat) (rows : zRz) (h : zHz) : zHz -> Prop
 | [] => True
 | (m, k') :: r => (Nat.beq m l = false /\ ∃ k, af h m = some k /\ cA (bf l sz rows) k = k') /\ Cy l sz rows h r
theorem Hj {l sz sz' : Nat} {rows : zRz} {r r' : List V} (h : CellsF l sz rows r r') : cA (bf l sz rows) ⟨sz', [r]⟩ = ⟨sz', [r']⟩ := by simp [cA, h.map]
theorem Jp {l sz sz' : Nat} {rows rs : zRz} : cA (bf l sz rows) (dB sz' rs) = dB sz' rs := sS ..
theorem xN {l sz : Nat} {rows : zRz} : bf l sz rows (.sref l 0 rows.length) = .d (.list sz rows false) := by simp [bf]
theorem BZ {α : Type} {l sz : Nat} {row : α -> List D} {xs : List α} : bf l sz (xs.map row) (.sref l 0 (xs.map row).length) = .d (.list sz (xs.map row) false) := xN
theorem Ek {l sz : Nat} (rows : zRz) (hk : af h l = some (dB sz rows)) (hE : Gi l sz rows env env') (hH : Cy l sz rows h h') : St.to F ⟨env, h, nx⟩ ⟨env', h', nx⟩ := by
 rw [aL] at hk; refine aR (fD (st := ⟨env, h, nx⟩) rows hk rfl) (cV ⟨?_, ?_, Nat.le_refl _⟩)
 ·intro t y hy; simp only [ju]; clear hH
  induction env' with
  | nil => simp [look] at hy
  | cons e r ih =>
   obtain ⟨t0, y0⟩ := e; simp only [look] at hy; split at hy
   ·rename_i e; subst e; cases hy; obtain ⟨x, h1, h2⟩ := hE.1; rw [aL] at h1; rw [h1, <- h2]; rfl
   ·exact ih hE.2 hy
 ·intro m k hm; simp only [hO, cT, dM]; clear hE
  induction h' with
  | nil => simp [look] at hm
  | cons e r ih =>
   obtain ⟨t0, y0⟩ := e; simp only [look] at hm; split at hm
   ·rename_i e; subst e; cases hm; obtain ⟨h0, x, h1, h2⟩ := hH.1; rw [aL] at h1; rw [if_neg (Nat.ne_of_beq_eq_false h0), h1, <- h2]; rfl
   ·exact ih hH.2 hm
end
def idx {α : Type} (l : List α) (i : Int) : Option α := if 0 <= i then l[i.toNat]? else none
theorem sU {α : Type} {l : List α} {i : Int} {x : α} (h : idx l i = some x) : 0 <= i /\ l[i.toNat]? = some x /\ i < (l.length : Int) := by
 unfold idx at h; split at h
 ·rename_i h0; have := (List.getElem?_eq_some_iff.1 h).1; exact ⟨h0, h, by omega⟩
 ·cases h
theorem er {α : Type} {l : List α} (i : Nat) : idx l (i : Int) = l[i]? := by unfold idx; rw [if_pos (by omega)]; simp
def slc {α : Type} (l : List α) (lo hi : Int) : Option (List α) := if 0 <= lo /\ lo <= hi /\ hi <= (l.length : Int) then some ((l.take hi.toNat).drop lo.toNat) else none
def app {α : Type} (l k : List α) : Option (List α) := if l.length + k.length <= 4294967296 then some (l ++ k) else none
theorem BM {α : Type} {l k r : List α} (h : app l k = some r) : r = l ++ k /\ l.length + k.length <= 4294967296 := by
 unfold app at h; split at h
 ·rename_i hl; cases h; exact ⟨rfl, hl⟩
 ·cases h
theorem eF {α : Type} {l k : List α} (h : l.length + k.length <= 4294967296) : app l k = some (l ++ k) := if_pos h
def Dp (n : Int) : Option Nat := if 0 <= n /\ n <= 4294967296 then some n.toNat else none
theorem Hd {n : Int} {m : Nat} (h : Dp n = some m) : n = (m : Int) /\ m <= 4294967296 := by
 unfold Dp at h; split at h
 ·cases h; omega
 ·cases h
def Ik (n : Int) : Option UInt8 := if 0 <= n /\ n <= 255 then some (UInt8.ofNat n.toNat) else none
theorem Il {n : Int} {b : UInt8} (h : Ik n = some b) : n = (b.toNat : Int) := by
 unfold Ik at h; split at h
 ·cases h; have : (UInt8.ofNat n.toNat).toNat = n.toNat := by simp; omega
  omega
 ·cases h
section
variable {P : Program} {h : zHz} {t e : TypeId} {l i off m sz : Nat} {α : Type} {xs : List α} {row : α -> List D} {x x' : α} {n : Int} {k : IntKind}
theorem eI {f : Bool} (hu : P.underlying t = some (.slice e)) (hs : az P e = some sz) (hv : idx xs n = some x) : cG P h t (.d (.list sz (xs.map row) f)) (.d (.v (.int k n))) = some (.d (.ptr sz (row x))) := by
 obtain ⟨h0, h1, h2⟩ := sU hv; simp [cG, iI, hu, hs, h0, h1]
theorem LS (hu : P.underlying t = some (.slice e)) (hs : az P e = some sz) (hl : af h l = some (dB sz (xs.map row))) (hv : idx xs n = some x) : cG P h t (.sref l 0 (xs.map row).length) (.d (.v (.int k n))) = some (.ref l n.toNat 0) := by
 obtain ⟨h0, h1, h2⟩ := sU hv; exact Kz (n := 0) hu hs rfl hl h0 (by simpa using h2) (by simp)
theorem JY {row : α -> List D} {xs : List α} {j : Nat} {x' : α} : (xs.map row).set j (row x') = (xs.set j x').map row := by rw [List.map_set]
theorem Ln {y : V} {ys : List D} (hl : af h l = some (dB sz (xs.map row))) (hv : idx xs n = some x) (hc : gm y = some (m, ys.map V.d)) (hs : az P t = some m) (hb : Nat.ble (off + m) sz = true) (hsz : (row x).length = sz) (hm : ys.length = m) (h1m : Nat.ble 1 m = true)
  (hk : (row x).take off ++ ys ++ (row x).drop (off + m) = row x') : dp P h t (.ref l n.toNat off) y = some (.upd l (dB sz ((xs.set n.toNat x').map row))) := by
 obtain ⟨h0, h1, h2⟩ := sU hv; have hrow : ((xs.map row).map fun r => r.map V.d)[n.toNat]? = some ((row x).map V.d) := by simp [h1]
 have hset : ((xs.map row).map fun r => r.map V.d).set n.toNat (((row x).map V.d).take off ++ ys.map V.d ++ ((row x).map V.d).drop (off + m)) = ((xs.set n.toNat x').map row).map fun r => r.map V.d := by
  rw [<- List.map_take, <- List.map_drop, <- List.map_append, <- List.map_append, hk, <- JY, List.map_set]
 by_cases hm1 : m = 1
 ·subst hm1; obtain ⟨y0, rfl⟩ := List.length_eq_one_iff.1 hm
  ·refine (Ke (x := y) (y := V.d y0) (rows' := ((xs.set n.toNat x').map row).map fun r => r.map V.d) hl hrow hc hs hb (by simpa using hsz) ?_); rw [cj, Option.map_some, <- hset]; refine congrArg some ?_
   congr 1
   have hoff : off < ((row x).map V.d).length := by have := Nat.le_of_ble_eq_true hb; simp [hsz]; omega
   rw [List.set_eq_take_append_cons_drop, if_pos hoff]; simp
 ·refine (xg (x := y) (ys := ys.map V.d) (rows' := ((xs.set n.toNat x').map row).map fun r => r.map V.d) hl hrow hc hs hb (by have := Nat.le_of_ble_eq_true h1m; rw [Nat.ble_eq]; omega) (by simpa using hsz) (by simpa using hm) ?_); exact hset
end
section
variable {P : Program} {G : zGz} {N : Nat} {F : Fr} {ops rest : zOz} {o : Oper} {Q : zQz} {env : zEz} {h : zHz} {nx : Nat} {al : zHz} {K : zEz -> zHz -> Nat -> Prop} {t e : TypeId} {z : Value} {size bytes : Nat} {α : Type} {row : α -> List D} {xs ys zs : List α}
theorem kN {bytes : Nat} {xs ys zs : List α} (hv : app xs ys = some zs) (hB : Nat.ble bytes 32768 = true) : zs = xs ++ ys /\ (xs.length + ys.length) * bytes <= 140737488355328 /\ xs.length + ys.length <= 140737488355328 := by
 obtain ⟨rfl, hl⟩ := BM hv; have hb := Nat.le_of_ble_eq_true hB; refine ⟨rfl, ?_, by omega⟩; exact Nat.le_trans (Nat.mul_le_mul hl hb) (by decide)
theorem gT (hF : Env F P G N) (hE : ElemT P t e z size bytes) (hB : Nat.ble bytes 32768 = true) {s x : Operand} {d : Tmp} {sz' l : Nat} {rys : zRz} {f : Bool} (ho : o.op = .call ⟨.builtin .append, #[s, x], #[t, t]⟩) (hd : o.dst = some d) (hdN : Nat.blt d N = true) (hg : aC ops env o.guard = some true)
  (hs : evB G env s = some (.sref l 0 (xs.map row).length)) (hx : evB G env x = some (.d (.list sz' rys f))) (hr : rys = ys.map row) (hl : af h l = some (dB size (xs.map row))) (hsz' : sz' = size \/ rys = []) (hv : app xs ys = some zs) (hfree : jM l h)
  (k : SmG F N ops rest Q ⟨(d, .sref l 0 (zs.map row).length) :: dn l env, rep h l (dB size (zs.map row)), nx⟩) (hlow : F.n0 <= l := by omega) : SmG F N ops (o :: rest) Q ⟨env, h, nx⟩ := by
 obtain ⟨rfl, h1, h2⟩ := kN hv hB; subst hr; refine SmG.appendOwn hF hE (xs := xs.map row) (ys := ys.map row) ho hd hdN hg hs hx hl rfl hsz' hfree (by simpa using h1) (by simpa using h2) ?_ hlow; rw [List.map_append] at k; exact k
theorem SmG.appendFreshL (hF : Env F P G N) (hE : ElemT P t e z size bytes) (hB : Nat.ble bytes 32768 = true) {s x : Operand} {d : Tmp} {sz sz' : Nat} {rys : zRz} {f : Bool} (ho : o.op = .call ⟨.builtin .append, #[s, x], #[t, t]⟩) (hd : o.dst = some d) (hdN : Nat.blt d N = true) (hg : aC ops env o.guard = some true)
  (hs : evB G env s = some (.d (.list sz [] true))) (hx : evB G env x = some (.d (.list sz' rys f))) (hr : rys = ys.map row) (hsz' : sz' = size \/ rys = []) (hv : app [] ys = some zs)
  (k : SmG F N ops rest Q ⟨(d, .sref nx 0 (zs.map row).length) :: env, (nx, dB size (zs.map row)) :: h, nx + 1⟩) : SmG F N ops (o :: rest) Q ⟨env, h, nx⟩ := by
 obtain ⟨rfl, h1, h2⟩ := kN hv hB; subst hr; exact SmG.appendFresh hF hE ho hd hdN hg hs hx hsz' (by simpa using h1) (by simpa using h2) k
theorem au.appendFreshL (hF : Env F P G N) (hE : ElemT P t e z size bytes) (hB : Nat.ble bytes 32768 = true) {s x : Operand} {d : Tmp} {sz sz' : Nat} {rys : zRz} {f : Bool} (ho : o.op = .call ⟨.builtin .append, #[s, x], #[t, t]⟩) (hd : o.dst = some d) (hdN : Nat.blt d N = true) (hg : aC ops env o.guard = some true)
  (hs : evB G env s = some (.d (.list sz [] true))) (hx : evB G env x = some (.d (.list sz' rys f))) (hr : rys = ys.map row) (hsz' : sz' = size \/ rys = []) (hv : app [] ys = some zs)
  (k : au F G N ops.toArray h rest ((d, .sref nx 0 (zs.map row).length) :: env) ((nx, dB size (zs.map row)) :: al) (nx + 1) K) : au F G N ops.toArray h (o :: rest) env al nx K := by
 obtain ⟨rfl, h1, h2⟩ := kN hv hB; subst hr; exact au.appendFresh hF hE ho hd hdN hg hs hx hsz' (by simpa using h1) (by simpa using h2) k
theorem SmG.appendFullL (hF : Env F P G N) (hE : ElemT P t e z size bytes) (hB : Nat.ble bytes 32768 = true) {s x : Operand} {d : Tmp} {sz sz' : Nat} {rxs rys : zRz} {f : Bool} (ho : o.op = .call ⟨.builtin .append, #[s, x], #[t, t]⟩) (hd : o.dst = some d) (hdN : Nat.blt d N = true) (hg : aC ops env o.guard = some true)
  (hs : evB G env s = some (.d (.list sz rxs true))) (hx : evB G env x = some (.d (.list sz' rys f))) (hr1 : rxs = xs.map row) (hr : rys = ys.map row) (hsz : sz = size \/ rxs = []) (hsz' : sz' = size \/ rys = []) (hv : app xs ys = some zs)
  (k : SmG F N ops rest Q ⟨(d, .d (.list size (zs.map row) false)) :: env, h, nx⟩) : SmG F N ops (o :: rest) Q ⟨env, h, nx⟩ := by
 obtain ⟨rfl, h1, h2⟩ := kN hv hB; subst hr hr1; refine SmG.append hF hE ho hd hdN hg hs hx hsz hsz' (by simpa using h1) (by simpa using h2) ?_; rw [List.map_append] at k; exact k
theorem wk (hF : Env F P G N) (hE : ElemT P t e z size bytes) (hB : Nat.ble bytes 32768 = true) {s x : Operand} {d : Tmp} {sz : Nat} {rxs rys : zRz} {f : Bool} (ho : o.op = .call ⟨.builtin .append, #[s, x], #[t, t]⟩) (hd : o.dst = some d) (hdN : Nat.blt d N = true) (hg : aC ops env o.guard = some true)
  (hs : evB G env s = some (.d (.list sz rxs true))) (hx : evB G env x = some (.d (.list size rys f))) (hr1 : rxs = xs.map row) (hr : rys = ys.map row) (hsz : sz = size \/ rxs = []) (hne : ys ≠ []) (hv : app xs ys = some zs)
  (k : SmG F N ops rest Q ⟨(d, .sref nx 0 (zs.map row).length) :: env, (nx, dB size (zs.map row)) :: h, nx + 1⟩) : SmG F N ops (o :: rest) Q ⟨env, h, nx⟩ := by
 obtain ⟨rfl, h1, h2⟩ := kN hv hB; subst hr hr1; refine SmG.appendNew hF hE ho hd hdN hg hs hx hsz rfl (by simpa using hne) (by simpa using h1) (by simpa using h2) ?_; rw [List.map_append] at k; exact k
theorem au.appendFullL (hF : Env F P G N) (hE : ElemT P t e z size bytes) (hB : Nat.ble bytes 32768 = true) {s x : Operand} {d : Tmp} {sz sz' : Nat} {rxs rys : zRz} {f : Bool} (ho : o.op = .call ⟨.builtin .append, #[s, x], #[t, t]⟩) (hd : o.dst = some d) (hdN : Nat.blt d N = true) (hg : aC ops env o.guard = some true)
  (hs : evB G env s = some (.d (.list sz rxs true))) (hx : evB G env x = some (.d (.list sz' rys f))) (hr1 : rxs = xs.map row) (hr : rys = ys.map row) (hsz : sz = size \/ rxs = []) (hsz' : sz' = size \/ rys = []) (hv : app xs ys = some zs)
  (k : au F G N ops.toArray h rest ((d, .d (.list size (zs.map row) false)) :: env) al nx K) : au F G N ops.toArray h (o :: rest) env al nx K := by
 obtain ⟨rfl, h1, h2⟩ := kN hv hB; subst hr hr1; refine au.append hF hE ho hd hdN hg hs hx hsz hsz' (by simpa using h1) (by simpa using h2) ?_; rw [List.map_append] at k; exact k
theorem Eh (hF : Env F P G N) (hE : ElemT P t e z size bytes) (hz : z.cells.toList.all (·.oneCell') = true) (hB : Nat.ble bytes 32768 = true) {x y : Operand} {d : Tmp} {k1 k2 : IntKind} {i : Int} {n : Nat} {z0 : α} (ho : o.op = .makeSlice t x y) (hd : o.dst = some d) (hdN : Nat.blt d N = true) (hg : aC ops env o.guard = some true)
  (hx : evB G env x = some (.d (.v (.int k1 i)))) (hy : evB G env y = some (.d (.v (.int k2 i)))) (hv : Dp i = some n) (hr : z.cells.toList.map bS = row z0)
  (k : SmG F N ops rest Q ⟨(d, .sref nx 0 ((List.replicate n z0).map row).length) :: env, (nx, dB size ((List.replicate n z0).map row)) :: h, nx + 1⟩) : SmG F N ops (o :: rest) Q ⟨env, h, nx⟩ := by
 obtain ⟨rfl, hn⟩ := Hd hv; have hb := Nat.le_of_ble_eq_true hB; refine SmG.makeOwn hF hE hz n ho hd hdN hg hx hy (by omega) (Nat.le_trans (Nat.mul_le_mul hn hb) (by decide)) ?_; rw [hr, <- List.map_replicate]; simpa using k
theorem oJ {c b : Bool} {x : Operand} (ho : o.op = .move x) (hx : evB G env x = some (.d (.v (.bool c)))) (hc : c = b) : opV P (evD G env) h o = some (.d (.v (.bool b))) := by subst hc; exact kE ho hx
end
def KQ (k : IntKind) (n : Int) : List D := [.v (.int k n)]
def oK (b : Bool) : List D := [.v (.bool b)]
def kG {α : Type} (sz : Nat) (row : α -> List D) (l : List α) : List D := [.list sz (l.map row) false]
def w8 (n : Int) : UInt8 := UInt8.ofNat (n % 256).toNat
theorem Ls (n : Int) : ((w8 n).toNat : Int) = n % 256 := by
 unfold w8; have : (UInt8.ofNat (n % 256).toNat).toNat = (n % 256).toNat := by simp; omega
 omega
def gx (P : Program) (t : TypeId) (f : Nat) : Option (Nat × Nat) :=
 match P.underlying t with
 | some (.struct fs) => (fs[f]?).bind fun f => (az P f.type).map fun s => (f.offset, s)
 | _ => none
def rT (P : Program) (t : TypeId) (f : Nat) : Option TypeId :=
 match P.underlying t with
 | some (.struct fs) => (fs[f]?).map fun f => f.type
 | _ => none
section
variable {P : Program} {h : zHz} {t e u : TypeId} {l i off m sz s f : Nat} {α : Type} {xs ys : List α} {row : α -> List D} {k : IntKind} {n : Int}
theorem gt {r : List D} (hp : gx P t f = some (off, s + 1)) (hb : Nat.ble off m = true) : eH P t (.d (.ptr m r)) f = some (.d (.ptr (m - off) (r.drop off))) := by
 have hb' := Nat.le_of_ble_eq_true hb; unfold gx at hp; unfold eH; split at hp
 ·rename_i fs hfs; rw [hfs]; simp only [Option.bind_eq_some_iff, Option.map_eq_some_iff, Prod.mk.injEq] at hp; obtain ⟨g, hg, s', hs, rfl, rfl⟩ := hp; simp [hg, hs, hb']
 ·cases hp
theorem mU {o : Nat} (hp : gx P t f = some (off, s + 1)) : eH P t (.ref l i o) f = some (.ref l i (o + off)) := by
 unfold gx at hp; unfold eH; split at hp
 ·rename_i fs hfs; rw [hfs]; simp only [Option.bind_eq_some_iff, Option.map_eq_some_iff, Prod.mk.injEq] at hp; obtain ⟨g, hg, s', hs, rfl, rfl⟩ := hp; simp [hg, hs]
 ·cases hp
theorem Je {cs : List D} {d : D} (hp : gx P t f = some (off, s)) (ht : rT P t f = some u) (ha : bh P u = some false) (hd : cs[off]? = some d) : jp P t (.d (.agg m cs)) f = some (.d d) := by
 unfold gx at hp; unfold rT at ht; unfold jp; split at hp
 ·rename_i fs hfs; rw [hfs] at ht ⊢; simp only [Option.bind_eq_some_iff, Option.map_eq_some_iff, Prod.mk.injEq] at hp ht; obtain ⟨g, hg, s', hs, rfl, rfl⟩ := hp; obtain ⟨g', hg', rfl⟩ := ht; rw [hg] at hg'; cases hg'; simp [hg, qR, ha, hd]
 ·cases hp
theorem Jf {cs ds : List D} (hp : gx P t f = some (off, s)) (ht : rT P t f = some u) (ha : bh P u = some true) (hb : Nat.ble (off + s) m = true) (hd : seg cs m off s = ds) : jp P t (.d (.agg m cs)) f = some (.d (.agg s ds)) := by
 have hb' := Nat.le_of_ble_eq_true hb; unfold gx at hp; unfold rT at ht; unfold jp; split at hp
 ·rename_i fs hfs; rw [hfs] at ht ⊢; simp only [Option.bind_eq_some_iff, Option.map_eq_some_iff, Prod.mk.injEq] at hp ht; obtain ⟨g, hg, s', hs, rfl, rfl⟩ := hp; obtain ⟨g', hg', rfl⟩ := ht; rw [hg] at hg'; cases hg'; simp [hg, qR, ha, hs, hb', hd]
 ·cases hp
theorem LR {r : List D} {N : Nat} (hu : P.underlying t = some (.array N e)) (hs : az P e = some s) (hi : (decide (0 <= n) && decide (n < (N : Int))) = true) (hb : Nat.ble (N * s) m = true) : cG P h t (.d (.ptr m r)) (.d (.v (.int k n))) = some (.d (.ptr (m - n.toNat * s) (r.drop (n.toNat * s)))) := by
 have hb' := Nat.le_of_ble_eq_true hb; simp only [Bool.and_eq_true, decide_eq_true_eq] at hi; simp [cG, iI, hu, hs, hi, hb']
theorem IE {o N : Nat} (hu : P.underlying t = some (.array N e)) (hs : az P e = some s) (hi : (decide (0 <= n) && decide (n < (N : Int))) = true) : cG P h t (.ref l i o) (.d (.v (.int k n))) = some (.ref l i (o + n.toNat * s)) := by
 simp only [Bool.and_eq_true, decide_eq_true_eq] at hi; simp [cG, iI, hu, hs, hi]
theorem KC {r : List D} {d : D} (ha : bh P t = some false) (hd : r[0]? = some d) : aX P h t (.d (.ptr m r)) = some (.d d) := by simp [aX, ha, hd]
theorem kj {r ds : List D} (ha : bh P t = some true) (hs : az P t = some s) (hb : Nat.ble s m = true) (hd : seg r m 0 s = ds) : aX P h t (.d (.ptr m r)) = some (.d (.agg s ds)) := by
 have hb' := Nat.le_of_ble_eq_true hb; simp [aX, ha, hs, hb', hd]
theorem eJ {b : Bool} (hu : P.underlying t = some (.slice e)) : hU P t (.d (.list sz (xs.map row) b)) = some (.d (.v (.int .i64 (xs.length : Int)))) := by simp [hU, hu]
theorem vq {b : Bool} (hu : P.underlying t = some (.slice e)) : hU P t (.d (.list sz [] b)) = some (.d (.v (.int .i64 0))) := by simp [hU, hu]
theorem LY (hu : P.underlying t = some (.slice e)) : hU P t (.sref l i (xs.map row).length) = some (.d (.v (.int .i64 (xs.length : Int)))) := by simp [hU, hu]
theorem LZ {s : zBz} (hu : P.underlying t = some .string) : hU P t (.d (.v (.string ⟨s.toArray⟩))) = some (.d (.v (.int .i64 (s.length : Int)))) := by simp [hU, hu, ByteArray.size]
theorem LX {x : V} {N : Nat} (hu : P.underlying t = some (.array N e)) : hU P t x = some (.d (.v (.int .i64 (N : Int)))) := by simp [hU, hu]
theorem kX {lo hi : Int} {l r : List α} (h : slc l lo hi = some r) : 0 <= lo /\ lo <= hi /\ hi <= (l.length : Int) /\ r = (l.take hi.toNat).drop lo.toNat := by
 unfold slc at h; split at h
 ·rename_i hc; cases h; exact ⟨hc.1, hc.2.1, hc.2.2, rfl⟩
 ·cases h
theorem Ll {b : Bool} {k2 : IntKind} {lo hi : Int} (hu : P.underlying t = some (.slice e)) (hs : az P e = some sz) (hv : slc xs lo hi = some ys) : dI P h t (.d (.list sz (xs.map row) b)) (some (.d (.v (.int k lo)))) (some (.d (.v (.int k2 hi)))) none = some (.d (.list sz (ys.map row) false)) := by
 obtain ⟨h0, h1, h2, rfl⟩ := kX hv; simp [dI, hu, hs, bx, iI, h0, show 0 <= hi by omega, show lo.toNat <= hi.toNat by omega, show hi.toNat <= xs.length by omega, List.map_take, List.map_drop]
 try omega
theorem DP {b : Bool} {lo : Int} (hu : P.underlying t = some (.slice e)) (hs : az P e = some sz) (hv : slc xs lo (xs.length : Int) = some ys) : dI P h t (.d (.list sz (xs.map row) b)) (some (.d (.v (.int k lo)))) none none = some (.d (.list sz (ys.map row) b)) := by
 obtain ⟨h0, h1, h2, rfl⟩ := kX hv; simp [dI, hu, hs, bx, iI, h0, show lo.toNat <= xs.length by omega, List.map_drop]
theorem DO {b : Bool} {hi : Int} (hu : P.underlying t = some (.slice e)) (hs : az P e = some sz) (hv : slc xs 0 hi = some ys) : dI P h t (.d (.list sz (xs.map row) b)) none (some (.d (.v (.int k hi)))) none = some (.d (.list sz (ys.map row) false)) := by
 obtain ⟨h0, h1, h2, rfl⟩ := kX hv; simp [dI, hu, hs, bx, iI, show 0 <= hi by omega, show hi.toNat <= xs.length by omega, List.map_take]
theorem MO {b : Bool} (hu : P.underlying t = some (.slice e)) (hs : az P e = some sz) (hv : slc xs 0 (xs.length : Int) = some ys) : dI P h t (.d (.list sz (xs.map row) b)) none none none = some (.d (.list sz (ys.map row) b)) := by
 obtain ⟨h0, h1, h2, rfl⟩ := kX hv; simp [dI, hu, hs, bx]
theorem Eb (n : Int) : IntKind.u8.wrap n = n % 256 := by rw [IntKind.wrap_u8]
theorem Jc {s d : TypeId} {td : TypeDesc} {k2 : IntKind} {a : Int} (h1 : P.underlying s = some td) (h2 : P.underlying d = some (.int .u8)) : fM P s d (.d (.v (.int k2 a))) = some (.d (.v (.int .u8 ((w8 a).toNat : Int)))) := by
 rw [wV h1 h2, Ls, Eb]
theorem kq (b : UInt8) : IntKind.i64.wrap (b.toNat : Int) = (b.toNat : Int) := aY _ (by have := b.toNat_lt; omega)
theorem BH (b : UInt8) : IntKind.u32.wrap (b.toNat : Int) = (b.toNat : Int) := xi _ (by have := b.toNat_lt; omega)
theorem BI (b : UInt8) : IntKind.u64.wrap (b.toNat : Int) = (b.toNat : Int) := xj _ (by have := b.toNat_lt; omega)
theorem Jb {s d : TypeId} {td : TypeDesc} {k2 : IntKind} {a v : Int} (h1 : P.underlying s = some td) (h2 : P.underlying d = some (.int k)) (hv : arI k a = some v) : fM P s d (.d (.v (.int k2 a))) = some (.d (.v (.int k v))) := by
 obtain ⟨rfl, hw⟩ := ne hv; rw [wV h1 h2, hw]
theorem iY : ∀ (l : zBz), nB (l.map ai) = some l
 | [] => rfl
 | b :: l => by
  show (nB (l.map ai)).map (UInt8.ofNat ((b.toNat : Int)).toNat :: ·) = _; rw [iY l]; simp
theorem wB {s d : TypeId} {l : zBz} {b : Bool} (h1 : P.underlying s = some (.slice e)) (h2 : P.underlying d = some .string) (h3 : P.underlying e = some (.int .u8)) : fM P s d (.d (.list 1 (l.map ai) b)) = some (.d (.v (.string ⟨l.toArray⟩))) := by
 simp [fM, h1, h2, h3, iY]
theorem tz (hu : P.underlying t = some (.slice e)) (hs : az P e = some sz) : bn P t 0 [] = some (.d (.list sz (([] : List α).map row) true)) := by
 simp [bn, hu, hs]
theorem KT {ts : Array TypeId} {T : TypeId} {a b : Int} : aD P (Builtin.min_ ts T #[.int .i64 a, .int .i64 b]) = some (.int .i64 (min a b)) := by
 rcases Int.le_total a b with hh | hh
 ·rw [JJ _ hh, Int.min_eq_left hh]
 ·rw [JK _ hh, Int.min_eq_right hh]
theorem EM {a b : List D} {n m : Nat} {c : Bool} {ds : List TypeDesc} (hg : P.eqGuardType P.depth t = false) (hk : nI P t = some ds) (h : eg ds a b = some c) : lg P t (.d (.agg n a)) (.d (.agg m b)) = some c := by
 simp [lg, hg, hk, h]
end
section
variable {P : Program} {G : zGz} {N : Nat} {F : Fr} {ops rest l : zOz} {o : Oper} {Q Q' : zQz} {st st' : St} {env : zEz} {h : zHz} {nx : Nat}
theorem V.le.len {l lo n m : Nat} (h : n = m) : V.le (.sref l lo n) (.sref l lo m) := by subst h; exact V.le.refl _
theorem V.le.any (x : V) : V.le x .any := fun _ _ _ _ => trivial
theorem wl (hto : St.to F st st') (hN : ey N st'.env = true) (k : SmG F N ops l Q st') : SmG F N ops l Q st := fun _ => SmL.to hto (k (jC hN))
theorem eZ {S E : Type} {body : S -> Option (S ⊕ E)} {n : Nat} {e : E} {s' : S} {I : S -> St} (h1 : gg body n s' = some e) (h2 : St.to F st (I s')) : ∃ s', gg body n s' = some e /\ St.to F st (I s') := ⟨s', h1, h2⟩
theorem FW {c d y : Code} (k : Sm F c (ba (Sm F d (ba (Sm F y Q) Q)) Q) st) : Sm F c (ba (Sm F (.seq d y) Q) Q) st := by
 refine Sm.mono ?_ k; intro e st' hq; cases e <;> first | exact Sm.seq hq | exact hq
inductive RetO (P : Program) (st : St) : ResultVar -> D -> Prop
 | tmp {t : Tmp} {d : D} : af st.env t = some (.d d) -> RetO P st (.tmp t) d
 | cell {p : Tmp} {ty : TypeId} {x : V} {d : D} : af st.env p = some x -> aX P st.h ty x = some (.d d) -> RetO P st (.cell p ty) d
inductive RetR (P : Program) (st : St) : List ResultVar -> List D -> Prop
 | nil : RetR P st [] []
 | cons {r : ResultVar} {d : D} {rs : List ResultVar} {ds : List D} : RetO P st r d -> RetR P st rs ds -> RetR P st (r :: rs) (d :: ds)
theorem RetO.ok {r : ResultVar} {d : D} (h : RetO P st r d) : iW P st r = some (.d d) := by
 cases h with
 | tmp h1 => rw [aL] at h1; exact h1
 | cell h1 h2 => rw [aL] at h1; simp only [iW, h1, Option.bind_some, h2]
theorem RetR.ok : ∀ {rs : List ResultVar} {ds : List D}, RetR P st rs ds -> km P st rs = some ds := by
 intro rs ds h
 induction h with
 | nil => rfl
 | cons h1 _ ih => simp [km, h1.ok, vI, ih]
def DA : List D -> D
 | [d] => d
 | ds => .tup ds
theorem tg {fn : Func} {ds : List D} {r : D} (h : RetR P st fn.results.toList ds) (hle : (DA ds).le r) : wZ P fn r .ret st := by
 refine ⟨DA ds, ?_, hle⟩; simp only [kI, h.ok, Option.map_some, Option.some.injEq]
 match ds with
 | [] => rfl
 | [_] => rfl
 | _ :: _ :: _ => rfl
end
def vN (n : Nat) (l : zBz) : Option zBz := if l.length = n then some l else none
theorem wg {n : Nat} {l r : zBz} (h : vN n l = some r) : l.length = n := by
 unfold vN at h; split at h
 ·assumption
 ·cases h
theorem Cs {n : Nat} {l : zBz} (h : l.length = n) : vN n l = some l := if_pos h
section
variable {P : Program} {h : zHz} {t e : TypeId} {l m sz : Nat} {α : Type} {xs ys : List α} {row : α -> List D} {k : IntKind}
theorem tC : ∀ {n : Nat} {a b : zBz}, a.length = n -> b.length = n -> eg (List.replicate n (.int .u8)) (ay a) (ay b) = some (a == b)
 | 0, [], [], _, _ => rfl
 | n + 1, x :: a, y :: b, h1, h2 => by
  have ih := tC (n := n) (a := a) (b := b) (by simpa using h1) (by simpa using h2); show (lH (.int .u8) (.int .u8 (x.toNat : Int)) (.int .u8 (y.toNat : Int))).bind _ = _; have hs : lH (.int .u8) (.int .u8 (x.toNat : Int)) (.int .u8 (y.toNat : Int)) = some (x == y) := by
   have : ((x.toNat : Int) == (y.toNat : Int)) = (x == y) := by
    rw [Bool.eq_iff_iff]; simp only [beq_iff_eq]; constructor
    ·intro h; exact UInt8.toNat_inj.1 (by omega)
    ·intro h; rw [h]
   simp [lH, this]
  rw [hs]; show (eg (List.replicate n (.int .u8)) (ay a) (ay b)).map _ = _; rw [ih]; simp
theorem uT {a b : zBz} {n : Nat} (hg : P.eqGuardType P.depth t = false) (hk : nI P t = some (List.replicate n (.int .u8))) (ha : a.length = n) (hb : b.length = n) : lg P t (.d (.agg n (ay a))) (.d (.agg n (ay b))) = some (a == b) := EM hg hk (tC ha hb)
theorem CW {pl : List (Nat × Nat)} {ps : zEz} {z cs : List D} {n : Nat} (hz : bK P t = some z) (hp : kU P t = some pl) (h0 : pl[0]? = some (0, 1)) (hzl : 0 < z.length)
  (hall : (ps.all fun e => match pl[e.1]? with | some q => Nat.ble 1 q.1 | none => false) = true) (hf : ez (fun i => pl[i]?) ps z = some cs) : dS P t ((0, .sref l 0 n) :: ps) = some (.mix false l n (cs.drop 1)) := by
 have hpl : ∃ g, jb P t = some g /\ g = fun i => pl[i]? := by
  unfold kU at hp; unfold jb; split at hp
  ·rename_i fs hu; rw [hu]; refine ⟨_, rfl, funext fun i => ?_⟩; have := Ag _ hp i; rw [<- this, Array.getElem?_toList]
  ·cases hp
 obtain ⟨g, hg, rfl⟩ := hpl; have hD : mm P t ((0, .sref l 0 n) :: ps) = none := by
  simp [mm, hz, hg, ez, h0, eU]
 unfold dS; rw [hD]; simp only [uM, hz, hg, Option.bind_some, h0, true_and, hzl, hf, Option.map_some]; exact if_pos hall
theorem Kb {b : Bool} {k2 : IntKind} {lo hi : Int} (hu : P.underlying t = some (.slice e)) (hs : az P e = some sz) (hv : slc xs lo hi = some ys) : dI P h t (.d (.list sz (xs.map row) b)) (some (.d (.v (.int k lo)))) (some (.d (.v (.int k2 hi)))) (some (.d (.v (.int k2 hi)))) = some (.d (.list sz (ys.map row) true)) := by
 obtain ⟨h0, h1, h2, rfl⟩ := kX hv; have hh : 0 <= hi := by omega
 have h3 : lo.toNat <= hi.toNat := by omega
 have h4 : hi.toNat <= xs.length := by omega
 simp only [dI, hu, hs, Option.bind_some, bx, iI, h0, hh, if_true, Option.isSome_some, h3, List.length_map, h4, true_or, and_self, true_and]; simp [List.map_take, List.map_drop]
theorem Lk {b : Bool} {k2 : IntKind} {hi : Int} (hu : P.underlying t = some (.slice e)) (hs : az P e = some sz) (hv : slc xs 0 hi = some ys) : dI P h t (.d (.list sz (xs.map row) b)) none (some (.d (.v (.int k2 hi)))) (some (.d (.v (.int k2 hi)))) = some (.d (.list sz (ys.map row) true)) := by
 obtain ⟨h0, h1, h2, rfl⟩ := kX hv; have hh : 0 <= hi := by omega
 have h4 : hi.toNat <= xs.length := by omega
 simp only [dI, hu, hs, Option.bind_some, bx, iI, hh, if_true, Option.isSome_some, List.length_map, h4, true_or, and_self, true_and, Nat.zero_le]; simp [List.map_take]
end
inductive LeL : List D -> List D -> Prop
 | nil : LeL [] []
 | cons {x y : D} {xs ys : List D} : x.le y -> LeL xs ys -> LeL (x :: xs) (y :: ys)
inductive LeRows : zRz -> zRz -> Prop
 | nil : LeRows [] []
 | cons {x y : List D} {xs ys : zRz} : LeL x y -> LeRows xs ys -> LeRows (x :: xs) (y :: ys)
theorem LeL.length {xs ys : List D} (h : LeL xs ys) : xs.length = ys.length := by induction h with | nil => rfl | cons _ _ ih => simp [ih]
theorem LeL.mem {C : aw} {xs ys : List D} (h : LeL xs ys) : ∀ {b off : Nat}, Rp C (.mem xs b off) -> Rp C (.mem ys b off) := by
 induction h with
 | nil => intro b off h; exact h
 | cons h1 _ ih => intro b off h; cases h with | mcons _ _ _ _ u g1 g2 g3 g4 => exact .mcons _ _ _ _ u g1 g2 (h1 _ _ g3) (ih g4)
theorem LeRows.length {xs ys : zRz} (h : LeRows xs ys) : xs.length = ys.length := by induction h with | nil => rfl | cons _ _ ih => simp [ih]
theorem LeRows.rows {C : aw} {xs ys : zRz} (h : LeRows xs ys) : ∀ {b off sz : Nat}, Rp C (.rows xs b off sz) -> Rp C (.rows ys b off sz) := by
 induction h with
 | nil => intro b off sz h; cases h; exact .rnil _ _ _
 | cons h1 _ ih => intro b off sz h; cases h with | rcons _ _ _ _ _ g1 g2 g3 => exact .rcons _ _ _ _ _ (by rw [<- h1.length]; exact g1) (h1.mem g2) (ih g3)
theorem xk {sz : Nat} {xs ys : zRz} {f : Bool} (h : LeRows xs ys) : (D.list sz xs f).le (.list sz ys false) := by
 intro C v hv; refine jW (f := f) ?_; cases hv with
 | nil _ _ a cap hc => cases h; exact .nil _ _ _ _ hc
 | list _ _ _ b off cap h1 h2 h4 =>
  rw [h.length] at h2 ⊢; refine .list _ _ _ _ _ _ ?_ h2 (h.rows h4); intro e; subst e; cases h; exact h1 rfl
structure FnV (P : Program) (G : zGz) {α β : Type} (ea : α -> List D) (eb : β -> D) where
 g : Nat
 c : List D
 f : α -> Option β
 body : cD P g = true
 ok : ∀ x y, f x = some y -> aj P G g (ea x ++ c) (eb y)
def FnV.row {P : Program} {G : zGz} {α β : Type} {ea : α -> List D} {eb : β -> D} (v : FnV P G ea eb) : List D := [.fn v.g v.c]
def wU (n : Int) : Option Nat := if 1 <= n /\ n <= 4294967296 then some n.toNat else none
theorem jw {n : Int} {m : Nat} (h : wU n = some m) : n = (m : Int) /\ 0 < m /\ m <= 4294967296 := by
 unfold wU at h; split at h
 ·cases h; omega
 ·cases h
theorem xU {m b : Nat} (h : m <= 4294967296) (hb : Nat.ble b 32768 = true) : m * b <= 140737488355328 := Nat.le_trans (Nat.mul_le_mul h (Nat.le_of_ble_eq_true hb)) (by decide)
theorem IK {P : Program} {h : zHz} {t e : TypeId} {l n : Nat} {k : IntKind} {kb : Blk} (hu : P.underlying t = some (.slice e)) (hl : af h l = some kb) (hs : az P e = some kb.sz) : dI P h t (.sref l 0 n) none (some (.d (.v (.int k 0)))) none = some (.sref l 0 0) := by
 rw [aL] at hl; simp [dI, hu, hs, hl, bx, iI]
theorem ma {P : Program} {fn : Func} {st : St} {sz : Nat} {rows : zRz} {t : Tmp} (l : Nat) (hr : fn.results.toList = [.tmp t]) (hx : af st.env t = some (.sref l 0 rows.length)) (hl : af st.h l = some (dB sz rows)) : Lb P fn .one sz rows [] .ret st := by
 rw [aL] at hx hl; refine ⟨l, ?_, hl⟩; rw [hr]; show (pm P .one st [.tmp t]) = _; simp [pm, iW, hx, Pk.v]
section
variable {P : Program} {h : zHz} {t e : TypeId} {m s : Nat} {k : IntKind} {n : Int}
end
theorem cc.args {P : Program} {G : zGz} {f : FuncId} {ds ds' : List D} {pk : Pk} {sz : Nat} {rows : zRz} {rest : List D} (h : cc P G f ds' pk sz rows rest) (hd : ∀ C vs, Rp C (.outs ds vs) -> Rp C (.outs ds' vs)) : cc P G f ds pk sz rows rest := fun C w vs hG hk ha => h C w vs hG hk (hd C vs ha)
theorem LeL.leL {xs ys : List D} (h : LeL xs ys) : leL xs ys := by induction h with | nil => trivial | cons h1 _ ih => exact ⟨h1, ih⟩
theorem Ec {xs ys : List D} (h : LeL xs ys) : (D.tup xs).le (.tup ys) := Gh h.leL
theorem rA {n : Nat} {xs ys : List D} (h : LeL xs ys) : (D.agg n xs).le (.agg n ys) := fW h.leL
theorem Hk {l sz sz' : Nat} {rows : zRz} {r : List D} : cA (bf l sz rows) ⟨sz', [r.map V.d]⟩ = ⟨sz', [r.map V.d]⟩ := by
 show Blk.mk sz' [(r.map V.d).map (bf l sz rows)] = _; rw [EW]
theorem CV {P : Program} {t e : TypeId} {N s m : Nat} {ps : zEz} {z cs : List D} (hu : P.underlying t = some (.array N e)) (hs : az P e = some s) (hz : bK P t = some z) (hn : z.length = m) (hf : ez (fun i => some (i * s, s)) ps z = some cs) : dS P t ps = some (.d (.agg m cs)) := by
 simp only [dS, mm, jb, hu, hs, hz, Option.map_some, Option.bind_some, hf, hn]
theorem BP (c : Bool) : c = false \/ c = true := by cases c <;> simp
theorem zb {α β : Type} (o : α ⊕ β) : (∃ e, o = .inr e) \/ (∃ v, o = .inl v) := by cases o <;> simp
section
variable {P : Program} {G : zGz} {N : Nat} {F : Fr} {ops rest : zOz} {o : Oper} {Q Q' : zQz} {env e : zEz} {h g : zHz} {nx m : Nat} {al : zHz} {K : zEz -> zHz -> Nat -> Prop} {st : St}
theorem xl {c y : Code} (I : St) (h2 : Sm F c (ba (fun st' => St.to F st' I) Q') st) (h1 : Sm F y Q I) : Sm F c (ba (Sm F y Q) Q') st := iu I h1 h2
theorem cN {c : Operand} {x y : Code} {t : Bool} (hF : Env F P G N) (hc : evB G env c = some (.d (.v (.bool t)))) (hf : t = false -> Sm F y Q ⟨env, h, nx⟩) (ht : t = true -> Sm F x Q ⟨env, h, nx⟩) : Sm F (.cond c x y) Q ⟨env, h, nx⟩ := eV hF hc ht hf
theorem toK (hE : leE env e) (hH : leH h g) (hn : nx <= m := by exact Nat.le_of_ble_eq_true rfl) : St.to F ⟨env, h, nx⟩ ⟨e, g, m⟩ := cV (aK hE hH hn)
theorem kA (hE : leE env e := by (repeat' first | exact trivial | refine ⟨rfl, ?_⟩)) (hH : leH h g := by (repeat' first | exact trivial | refine ⟨rfl, ?_⟩)) (hn : nx <= m := by exact Nat.le_of_ble_eq_true rfl) : St.to F ⟨env, h, nx⟩ ⟨e, g, m⟩ := toK hE hH hn
theorem oE {C : aw} {d d' : D} {ds ds' : List D} (k : ∀ vs, Rp C (.outs ds vs) -> Rp C (.outs ds' vs)) (h : D.le d d' := by (repeat' first | exact D.le.refl _ | exact rB _ _ _ | exact ck _ _ _ | refine xk ?_ | exact LeRows.nil | refine LeRows.cons ?_ ?_ | exact LeL.nil | refine LeL.cons ?_ ?_ | refine Ec ?_ | refine rA ?_)) : ∀ vs, Rp C (.outs (d :: ds) vs) -> Rp C (.outs (d' :: ds') vs) := fV h k
theorem cS (hF : Env F P G N) {f : FuncId} {xs : List Operand} {ts : Array TypeId} {t : Tmp} {ds : List D} {r : D} (hc : aj P G f ds r) (k : SmG F N ops rest Q ⟨(t, .d r) :: env, h, nx⟩) (ho : o.op = .call ⟨.value (.func f), xs.toArray, ts⟩ := by exact rfl) (hd : o.dst = some t := by exact rfl) (hb : cD P f = true := by kernel_rfl) (ht : Nat.blt t N = true := by exact rfl) (hg : aC ops env o.guard = some true := by exact rfl) (hargs : bE (evB G env) xs = some ds := by exact rfl) : SmG F N ops (o :: rest) Q ⟨env, h, nx⟩ := SmG.call hF ho hd hb ht hg hargs hc k
theorem fA {l sz : Nat} (rows : zRz) (hk : af h l = some (dB sz rows) := by exact rfl)
  (hE : Gi l sz rows env e := by (repeat' first | exact trivial | refine ⟨⟨_, rfl, BZ⟩, ?_⟩ | refine ⟨⟨_, rfl, rfl⟩, ?_⟩))
  (hH : Cy l sz rows h g := by (repeat' first | exact trivial | refine ⟨⟨rfl, _, rfl, Jp⟩, ?_⟩ | refine ⟨⟨rfl, _, rfl, Hk⟩, ?_⟩ | refine ⟨⟨rfl, _, rfl, Hj ?_⟩, ?_⟩ | exact CellsF.nil | refine CellsF.cons BZ ?_ | refine CellsF.cons rfl ?_)) : St.to F ⟨env, h, nx⟩ ⟨e, g, nx⟩ := Ek rows hk hE hH
theorem xA (n : Nat) (hE : (env.all fun e => V.lt n e.2) = true := by exact rfl) (hH : ltH n h := by (repeat' first | exact pF _ | exact nh _ _ | exact trivial | refine nM ?_ (by decide) | refine lX ?_ (vA _ _ _) | refine pG ?_ ?_ | refine ⟨rfl, ?_⟩)) (hL : (h.all fun e => Nat.blt e.1 n) = true := by exact rfl) (hn : F.n0 <= n := by omega) : St.to F ⟨env, h, nx⟩ ⟨env, h, n⟩ := mR n hE hH hL hn
theorem oL {t : TypeId} {x : Operand} {v y : V} (hy : aX P h t v = some y) (ho : o.op = .load t x := by exact rfl) (hx : evB G env x = some v := by exact rfl) : opV P (evD G env) h o = some y := ae ho hx hy
theorem oI {t : TypeId} {x i : Operand} {v w y : V} (hy : cG P h t v w = some y) (ho : o.op = .indexAddr t x i := by exact rfl) (hx : evB G env x = some v := by exact rfl) (hi : evB G env i = some w := by exact rfl) : opV P (evD G env) h o = some y := ak ho hx hi hy
theorem oF {t : TypeId} {x : Operand} {f : Nat} {v y : V} (hy : eH P t v f = some y) (ho : o.op = .fieldAddr t x f := by exact rfl) (hx : evB G env x = some v := by exact rfl) : opV P (evD G env) h o = some y := ag ho hx hy
theorem oB {op : BinOp} {t yt : TypeId} {x y : Operand} {a b u : Value} (hu : aD P (do eqGuard op t x y a b; binOp op t a b) = some u) (ho : o.op = .binOp op t x y yt := by exact rfl) (hx : evB G env x = some (.d (.v a)) := by exact rfl) (hy : evB G env y = some (.d (.v b)) := by exact rfl) : opV P (evD G env) h o = some (.d (.v u)) := ah ho hx hy hu
theorem oC {s d : TypeId} {x : Operand} {v y : V} (hy : fM P s d v = some y) (ho : o.op = .convert s d x := by exact rfl) (hx : evB G env x = some v := by exact rfl) : opV P (evD G env) h o = some y := cB ho hx hy
theorem oN {x : Operand} {t : TypeId} {v y : V} (hy : hU P t v = some y) (ho : o.op = .call ⟨.builtin .len, #[x], #[t]⟩ := by exact rfl) (hx : evB G env x = some v := by exact rfl) : opV P (evD G env) h o = some y := aJ ho hx hy
theorem oS {t : TypeId} {n : Nat} {ps : List (Nat × Operand)} {qs : zEz} {y : V} (hy : bn P t n qs = some y) (ho : o.op = .buildSlice t n ps.toArray := by exact rfl) (hx : dP (evB G env) ps = some qs := by exact rfl) : opV P (evD G env) h o = some y := bc ho hx hy
theorem lP1 {t : TypeId} {m : Nat} {r : List D} {d : D} (ha : bh P t = some false) (hd : r[0]? = some d) : aX P h t (.d (.ptr m r)) = some (.d d) := KC ha hd
end
section
variable {P : Program} {t : TypeId} {x y : Operand} {k : IntKind} {a b : Int}
theorem gb : aD P (do eqGuard .lss t x y (.int k a) (.int k b); binOp .lss t (.int k a) (.int k b)) = some (.bool (decide (a < b))) := ss ..
theorem Ix : aD P (do eqGuard .gtr t x y (.int k a) (.int k b); binOp .gtr t (.int k a) (.int k b)) = some (.bool (decide (b < a))) := vL ..
theorem LL : aD P (do eqGuard .eql t x y (.int k a) (.int k b); binOp .eql t (.int k a) (.int k b)) = some (.bool (a == b)) := my ..
theorem yR : aD P (do eqGuard .neq t x y (.int k a) (.int k b); binOp .neq t (.int k a) (.int k b)) = some (.bool (a != b)) := vM ..
end
section
variable {P : Program} {G : zGz} {N : Nat} {F : Fr} {ops rest : zOz} {o : Oper} {Q : zQz} {env : zEz} {h h0 : zHz} {nx : Nat}
theorem cq.box (hF : Env F P G N) {t : TypeId} {x : Operand} {v : V} {n : Nat} {cs : List D} (ho : o.op = .box t x) (hx : evD G env x = some v) (hc : eU n v = some cs) : cq F G h0 o env (.d (.ptr n cs)) := by
 intro μ C a w nx' hh hsim hold hop K Q hK; obtain ⟨rfl, rfl, hG⟩ := hF; have hxv := hop x (by rw [ho]; simp [Op.operands]) _ hx; obtain ⟨h1, h2⟩ := si hxv hc; have hk := hsim.known; have hrun : (execOp a.eval o).run F.P w = .ok (.value (.pointer (some ⟨w.heap.size, 0, none⟩))) (w.alloc (.cells (a.eval x).cells t)) := by
  simp only [execOp, ho]; rfl
 unfold Oper.wp; rw [hrun, Oper.upon_value]; refine hK _ _ _ (mY hk (a.eval x).cells t) ?_; have hlen : cs.length = n := by have := cw h2; simp at this; omega
 refine .ptr n cs w.heap.size 0 hlen (tI (vs := (a.eval x).cells.toList) (Rp.mono (fun _ _ _ h => .inl h) h2) fun j u hj => .inr ⟨rfl, by simpa using hj⟩)
theorem pT (hF : Env F P G N) {t : TypeId} {x : Operand} {v : V} {n : Nat} {cs : List D} {d : Tmp} (hc : eU n v = some cs) (k : SmG F N ops rest Q ⟨(d, .d (.ptr n cs)) :: env, h, nx⟩) (ho : o.op = .box t x := by exact rfl) (hx : evB G env x = some v := by exact rfl) (hd : o.dst = some d := by exact rfl) (hdN : Nat.blt d N = true := by exact rfl) (hg : aC ops env o.guard = some true := by exact rfl) : SmG F N ops (o :: rest) Q ⟨env, h, nx⟩ := by
 rw [aT] at hx; exact SmG.gives hF hd hdN hg (fun c e => by rw [ho] at e; cases e) (.box hF ho hx hc) k
theorem Gs {n : Nat} {cs : List D} : eU n (.d (.agg n cs)) = some cs := by simp [eU]
end
section
variable {P : Program} {G : zGz} {N : Nat} {F : Fr} {ops rest : zOz} {o : Oper} {Q Q' : zQz} {env : zEz} {h : zHz} {nx : Nat} {al : zHz} {K : zEz -> zHz -> Nat -> Prop} {st : St}
theorem lD {fn : Func} {t : Tmp} {d : D} (hr : fn.results.toList = [.tmp t]) (hx : af st.env t = some (.d d)) : wZ P fn d .ret st := by
 refine tg (ds := [d]) ?_ (D.le.refl _); rw [hr]; exact .cons (.tmp hx) .nil
end
abbrev D.i (n : Int) : D := .v (.int .i64 n)
abbrev V.i (n : Int) : V := .d (.v (.int .i64 n))
abbrev D.z : D := .list 0 [] true
abbrev V.z : V := .d (.list 0 [] true)
abbrev D.l (x : List Int) : D := .list 1 (x.map (KQ .i64)) false
abbrev V.l (x : List Int) : V := .d (.list 1 (x.map (KQ .i64)) false)
end
section
inductive Ty where
 | int (k : IntKind)
 | u8
 | bool
 | str
 | vec (n : Nat)
 | lst (t : Ty)
 | nm (i : Nat)
 | unit
 | pair (a b : Ty)
 | fn (a b : Ty)
 deriving DecidableEq
structure Nm where
 A : Nat -> Type
 w : Nat -> Nat
 row : ∀ i, A i -> List D
structure Vec (n : Nat) where
 l : zBz
 h : l.length = n
structure Bd where
 α : Type
 w : Nat
 one : α -> D
 cells : α -> List D
 args : α -> List D
section
variable (P : Program) (G : zGz) (S : Nm)
def Bd.sc {α : Type} (f : α -> D) : Bd := ⟨α, 1, f, fun x => [f x], fun x => [f x]⟩
def Ty.bd : Ty -> Bd
 | .int k => .sc fun n : Int => .v (.int k n)
 | .u8 => .sc aG
 | .bool => .sc fun b : Bool => .v (.bool b)
 | .str => .sc fun s : zBz => .v (.string ⟨s.toArray⟩)
 | .vec n => ⟨Vec n, n, fun v => .agg n (ay v.l), fun v => ay v.l, fun v => [.agg n (ay v.l)]⟩
 | .lst t => .sc fun l : List t.bd.α => .list t.bd.w (l.map t.bd.cells) false
 | .nm i => ⟨S.A i, S.w i, fun x => .agg (S.w i) (S.row i x), S.row i, fun x => [.agg (S.w i) (S.row i x)]⟩
 | .unit => ⟨Unit, 0, fun _ => .tup [], fun _ => [], fun _ => []⟩
 | .pair a b => ⟨a.bd.α × b.bd.α, 0, fun x => .tup (a.bd.one x.1 :: b.bd.args x.2), fun x => a.bd.cells x.1 ++ b.bd.cells x.2, fun x => a.bd.one x.1 :: b.bd.args x.2⟩
 | .fn a b => .sc fun v : FnV P G a.bd.args b.bd.one => .fn v.g v.c
abbrev Den (t : Ty) : Type := (t.bd P G S).α
end
section
variable {P : Program} {G : zGz} {S : Nm}
def jK (t u : Ty) (x : Den P G S t) : Option (Den P G S u) := if h : t = u then some (h ▸ x) else none
theorem il {t u : Ty} {x : Den P G S t} {y : Den P G S u} (h : jK t u x = some y) : ∃ e : t = u, e ▸ x = y := by
 unfold jK at h; split at h
 ·rename_i e; cases h; exact ⟨e, rfl⟩
 ·cases h
end
inductive X (P : Program) (G : zGz) (S : Nm) : Type where
 | s (t : Ty) (v : Den P G S t)
 | lit (k : IntKind) (n : Int)
 | bl (b : Bool)
 | full (t : Ty) (xs : List (Den P G S t))
 | nil
 | own (l : Nat)
 | nf
 | fn (f : Nat) (caps : List (X P G S))
 | mth (f : Nat) (first : List (X P G S))
 | mp (l : Nat)
 | agg (cs : List (X P G S))
 | tup (xs : List (X P G S))
 | ptr (cs : List (X P G S))
 | ref (l off : Nat)
 | el (l : Nat) (i : Int) (off : Nat)
 | und
 | any
inductive B (P : Program) (G : zGz) (S : Nm) : Type where
 | row (t : Ty) (xs : List (Den P G S t))
 | cells (cs : List (X P G S))
 | mp (kt vt : Ty) (kvs : List (Den P G S kt × Den P G S vt))
 | gone
section
variable {P : Program} {G : zGz} {S : Nm}
def X.isD : X P G S -> Bool
 | .s .. | .lit .. | .bl _ | .full .. | .nil | .nf | .und => true
 | .fn _ cs | .agg cs | .tup cs | .ptr cs => allD cs
 | _ => false
where allD : List (X P G S) -> Bool
 | [] => true
 | x :: r => x.isD && allD r
def X.w : X P G S -> Nat
 | .s t _ => (t.bd P G S).w
 | .agg cs => ws cs
 | _ => 1
where ws : List (X P G S) -> Nat
 | [] => 0
 | x :: r => x.w + ws r
def D1 (d : D) : D × List D := (d, [d])
def X.dc : X P G S -> D × List D
 | .s t v => ((t.bd P G S).one v, (t.bd P G S).cells v)
 | .lit k n => D1 (.v (.int k n))
 | .bl b => D1 (.v (.bool b))
 | .full t xs => D1 (.list (t.bd P G S).w (xs.map (t.bd P G S).cells) true)
 | .nil => D1 (.list 0 [] true)
 | .nf => D1 (.v .nilFunc)
 | .und => D1 (.v (.tuple #[]))
 | .fn f cs => D1 (.fn f (dcs cs).1)
 | .agg cs => (.agg (X.w.ws cs) (dcs cs).2, (dcs cs).2)
 | .tup cs => D1 (.tup (dcs cs).1)
 | .ptr cs => D1 (.ptr (X.w.ws cs) (dcs cs).2)
 | _ => D1 default
where dcs : List (X P G S) -> List D × List D
 | [] => ([], [])
 | x :: r => (x.dc.1 :: (dcs r).1, x.dc.2 ++ (dcs r).2)
abbrev X.ws (cs : List (X P G S)) : Nat := X.w.ws cs
abbrev X.allD (cs : List (X P G S)) : Bool := X.isD.allD cs
abbrev X.d (x : X P G S) : D := x.dc.1
abbrev X.c (x : X P G S) : List D := x.dc.2
abbrev X.ds (cs : List (X P G S)) : List D := (X.dc.dcs cs).1
abbrev X.cs (cs : List (X P G S)) : List D := (X.dc.dcs cs).2
theorem X.allD_iff {cs : List (X P G S)} : X.allD cs = true ↔ ∀ x ∈ cs, x.isD = true := by
 induction cs with
 | nil => simp [X.allD, X.isD.allD]
 | cons x r ih => simp only [X.allD, X.isD.allD, Bool.and_eq_true, List.mem_cons, forall_eq_or_imp] at ih ⊢; rw [ih]
theorem BK (cs : List (X P G S)) : X.ds cs = cs.map X.d := by
 induction cs with
 | nil => rfl
 | cons x r ih => simp only [X.ds, X.dc.dcs, List.map_cons] at ih ⊢; rw [ih]
theorem wn (cs : List (X P G S)) : X.cs cs = cs.flatMap X.c := by
 induction cs with
 | nil => rfl
 | cons x r ih => simp only [X.cs, X.dc.dcs, List.flatMap_cons] at ih ⊢; rw [ih]
def X.cp : X P G S -> Bool
 | .own _ | .ref .. | .mp _ => true
 | x => x.isD
def X.cap (len : Nat -> Nat) : X P G S -> Cap
 | .own l => .s l (len l)
 | .ref l off => .r l off
 | .mp l => .m l
 | x => .d x.d
def eX (len : Nat -> Nat) (cs : List (X P G S)) : List Cap := cs.map (X.cap len)
def eY (len : Nat -> Nat) (cs : List (X P G S)) : List Cap := cs.flatMap fun x => if x.isD then x.c.map Cap.d else [x.cap len]
def X.VP (len : Nat -> Nat) (x : X P G S) : V :=
 match x with
 | .agg cs => if cs.all X.cp then .agr false (eY len cs) else .any
 | .tup cs => if cs.all X.cp then .agr true (eX len cs) else .any
 | .fn f cs => if cs.all X.cp then .clo f [] (eX len cs) else .any
 | .mth f cs => if cs.all X.cp then .clo f (eX len cs) [] else .any
 | _ => .any
def X.V (len : Nat -> Nat) (x : X P G S) : V :=
 match x with
 | .own l => .sref l 0 (len l)
 | .ref l off => .ref l 0 off
 | .el l i off => .ref l i.toNat off
 | .mp l => .omap l
 | .agg (.own l :: r) => if X.allD r then .mix false l (len l) (X.cs r) else X.VP len (.agg (.own l :: r))
 | x => if x.isD then .d x.d else X.VP len x
def X.Vs (len : Nat -> Nat) (x : X P G S) : List Go.Proofs.YtaclinnjekdgoaaDoor.V := if x.isD then x.c.map .d else [x.V len]
theorem ci {len : Nat -> Nat} {x : X P G S} (h : x.isD = true) : x.V len = .d x.d := by
 unfold X.V; split
 ·simp [X.isD] at h
 ·simp [X.isD] at h
 ·simp [X.isD] at h
 ·simp [X.isD] at h
 ·simp [X.isD, X.isD.allD] at h
 ·rw [if_pos h]
theorem uG {len : Nat -> Nat} {x : X P G S} (h : x.isD = true) : x.Vs len = x.c.map .d := if_pos h
def MG : D -> Value
 | .v x => x
 | _ => undef
def B.len : B P G S -> Nat
 | .row _ xs => xs.length
 | _ => 0
def am (h : List (Nat × B P G S)) (l : Nat) : Nat := ((af h l).map B.len).getD 0
def B.blk (len : Nat -> Nat) : B P G S -> Blk
 | .row t xs => dB (t.bd P G S).w (xs.map (t.bd P G S).cells)
 | .cells cs => ⟨X.ws cs, [cs.flatMap (X.Vs len)]⟩
 | .mp kt vt kvs => ⟨1, [[.mp (kvs.map fun e => MG ((kt.bd P G S).one e.1)) (kvs.map fun e => (vt.bd P G S).one e.2)]]⟩
 | .gone => ⟨0, []⟩
def B.live : B P G S -> Bool
 | .gone => false
 | _ => true
def dz (len : Nat -> Nat) : List (Nat × B P G S) -> zHz
 | [] => []
 | (l, b) :: r => if b.live then (l, b.blk len) :: dz len r else (dz len r).filter fun e => e.1 != l
theorem wN {α : Type} (l m : Nat) : ∀ (h : List (Nat × α)), look (h.filter fun e => e.1 != l) m = if m = l then none else look h m
 | [] => by simp [look]
 | (k, x) :: r => by
  have ih := wN l m r; by_cases hk : k = l
  ·subst hk; rw [List.filter_cons_of_neg (by simp), ih]; by_cases hm : m = k
   ·rw [if_pos hm, if_pos hm]
   ·rw [if_neg hm, if_neg hm]; simp only [look, if_neg (Ne.symm hm)]
  ·rw [List.filter_cons_of_pos (by simpa using hk)]; simp only [look]; by_cases hm : k = m
   ·subst hm; rw [if_pos rfl, if_neg hk, if_pos rfl]
   ·rw [if_neg hm, if_neg hm, ih]
theorem rZ (len : Nat -> Nat) (l : Nat) : ∀ (h : List (Nat × B P G S)), look (dz len h) l = (af h l).bind fun b => if b.live then some (b.blk len) else none
 | [] => rfl
 | (k, b) :: r => by
  have ih := rZ len l r; unfold dz; simp only [af]; by_cases hk : k = l
  ·subst hk; have e : Nat.beq k k = true := Nat.beq_refl k; rw [e]; split
   ·rename_i hb; simp [look, hb]
   ·rename_i hb; rw [wN, if_pos rfl]; simp [hb]
  ·have e : Nat.beq k l = false := by cases h : Nat.beq k l with | false => rfl | true => exact absurd (Nat.eq_of_beq_eq_true h) hk
   rw [e]; split
   ·simp only [look, if_neg hk]; exact ih
   ·rw [wN, if_neg (Ne.symm hk)]; exact ih
structure DS (P : Program) (G : zGz) (S : Nm) where
 env : List (Nat × X P G S)
 h : List (Nat × B P G S)
 nx : Nat
abbrev dq (len : Nat -> Nat) (env : List (Nat × X P G S)) : zEz := env.map fun e => (e.1, e.2.V len)
def DS.enc (d : DS P G S) : St := ⟨dq (am d.h) d.env, dz (am d.h) d.h, d.nx⟩
theorem oz {α β : Type} (f : α -> β) (l : List (Nat × α)) (t : Nat) : af (l.map fun e => (e.1, f e.2)) t = (af l t).map f := by
 induction l with
 | nil => rfl
 | cons e r ih =>
  obtain ⟨k, x⟩ := e; simp only [List.map_cons, af]; cases Nat.beq k t <;> simp [ih]
def zx : Value -> Option (X P G S)
 | .int k n => some (.lit k n)
 | .bool b => some (.bl b)
 | .string s => some (.s .str s.data.toList)
 | .slice none 0 0 => some .nil
 | .nilFunc => some .nf
 | _ => none
def evX (env : List (Nat × X P G S)) : Operand -> Option (X P G S)
 | .tmp t => af env t
 | .const v => zx v
 | .func f => some (.fn f [])
 | .global _ => none
theorem EJ {v : Value} {x : X P G S} (h : zx v = some x) (len : Nat -> Nat) : V.d (bS v) = x.V len := by
 unfold zx at h; split at h <;> first | cases h; done | skip
 ·cases h; rfl
 ·cases h; rfl
 ·rename_i s; cases h; rfl
 ·cases h; rfl
 ·cases h; rfl
theorem bu {env : List (Nat × X P G S)} {len : Nat -> Nat} {x : Operand} {y : X P G S} (h : evX env x = some y) : evB G (dq len env) x = some (y.V len) := by
 unfold evX at h; split at h
 ·simp only [evB, dq, oz, h, Option.map_some]
 ·rw [<- EJ h len]; rfl
 ·cases h; rfl
 ·cases h
theorem dH {d : DS P G S} {x : Operand} {y : X P G S} (h : evX d.env x = some y) : evB G d.enc.env x = some (y.V (am d.h)) := bu h
def uz (h : List (Nat × B P G S)) (len : Nat -> Nat) : Prop := ∀ l τ xs, af h l = some (.row τ xs) -> len l = xs.length
theorem Dr (h : List (Nat × B P G S)) : uz h (am h) := fun l τ xs hl => by unfold am; rw [hl]; rfl
end
end
section
section
variable {P : Program} {G : zGz} {S : Nm} {R : Type}
def asI : X P G S -> Option (IntKind × Int × Bool)
 | .s (.int k) n => some (k, n, false)
 | .s .u8 b => some (.u8, (UInt8.toNat b : Int), false)
 | .lit k n => some (k, n, true)
 | _ => none
def asB : X P G S -> Option (Bool × Bool)
 | .s .bool b => some (b, false)
 | .bl b => some (b, true)
 | _ => none
def asS : X P G S -> Option zBz
 | .s .str l => some l
 | _ => none
theorem dw {x : X P G S} {k : IntKind} {n : Int} {b : Bool} (h : asI x = some (k, n, b)) (len : Nat -> Nat) : x.V len = .d (.v (.int k n)) := by
 unfold asI at h; split at h <;> cases h <;> rfl
theorem zo {x : X P G S} {c b : Bool} (h : asB x = some (c, b)) (len : Nat -> Nat) : x.V len = .d (.v (.bool c)) := by
 unfold asB at h; split at h <;> cases h <;> rfl
theorem zq {x : X P G S} {l : zBz} (h : asS x = some l) (len : Nat -> Nat) : x.V len = .d (.v (.string ⟨l.toArray⟩)) := by
 unfold asS at h; split at h <;> cases h; rfl
def mkB (lit b : Bool) : X P G S := match lit with | true => .bl b | false => .s .bool b
theorem qK (lit b : Bool) (len : Nat -> Nat) : (mkB lit b : X P G S).V len = .d (.v (.bool b)) := by cases lit <;> rfl
def arX (lit : Bool) (k : IntKind) (n : Int) (K : X P G S -> Option R) : Option R :=
 match lit with
 | true => if k.wrap n = n then K (.lit k n) else none
 | false => ob (arI k n) fun z => K (.s (.int k) z)
def Gp (op : BinOp) (k : IntKind) (a : Int) (k2 : IntKind) (b : Int) (lit : Bool) (K : X P G S -> Option R) : Option R :=
 match op with
 | .shl => ob (sJ k a b) fun z => K (.s (.int k) z)
 | .shr => ob (Ia k a b) fun z => K (.s (.int k) z)
 | op => if k = k2 then
  match op with
  | .lss => K (mkB lit (decide (a < b)))
  | .leq => K (mkB lit (decide (a <= b)))
  | .gtr => K (mkB lit (decide (b < a)))
  | .geq => K (mkB lit (decide (b <= a)))
  | .eql => K (mkB lit (a == b))
  | .neq => K (mkB lit (a != b))
  | .add => arX lit k (a + b) K
  | .sub => arX lit k (a - b) K
  | .mul => arX lit k (a * b) K
  | .quo => match lit with
   | true => if b = 0 then none else arX true k (a.tdiv b) K
   | false => ob (DH k a b) fun z => K (.s (.int k) z)
  | .rem => match lit with
   | true => if b = 0 then none else K (.lit k (a.tmod b))
   | false => ob (sw a b) fun z => K (.s (.int k) z)
  | .and => K (.s (.int k) (Kr k a b))
  | .or => K (.s (.int k) (orI k a b))
  | .xor => K (.s (.int k) (Lu k a b))
  | _ => none
 else none
theorem rH {lit : Bool} {k : IntKind} {n : Int} {K : X P G S -> Option R} {r : R} (h : arX lit k n K = some r) : ∃ z v, arI k n = some v /\ (∀ len, X.V len z = .d (.v (.int k v))) /\ K z = some r := by
 unfold arX at h; split at h
 ·split at h
  ·rename_i hw; exact ⟨_, n, by unfold arI; rw [if_pos hw], fun _ => rfl, h⟩
  ·cases h
 ·obtain ⟨v, hv, h⟩ := ap h; exact ⟨_, v, hv, fun _ => rfl, h⟩
variable {t yt : TypeId} {xo yo : Operand} {env : zEz} {hp : zHz} {o : Oper} {x y : X P G S} {K : X P G S -> Option R} {r : R} {len : Nat -> Nat}
theorem IU {op : BinOp} {k k2 : IntKind} {a b : Int} {lit : Bool} (h : Gp op k a k2 b lit K = some r) : ∃ z v, aD P (do eqGuard op t xo yo (.int k a) (.int k2 b); binOp op t (.int k a) (.int k2 b)) = some v /\ (∀ len, X.V len z = .d (.v v)) /\ K z = some r := by
 unfold Gp at h; split at h
 ·obtain ⟨v, hv, h⟩ := ap h; exact ⟨_, _, vK hv, fun _ => rfl, h⟩
 ·obtain ⟨v, hv, h⟩ := ap h; exact ⟨_, _, KX hv, fun _ => rfl, h⟩
 split at h
 ·rename_i hk; subst hk; split at h
  ·exact ⟨_, _, ss .., qK _ _, h⟩
  ·exact ⟨_, _, As .., qK _ _, h⟩
  ·exact ⟨_, _, vL .., qK _ _, h⟩
  ·exact ⟨_, _, sq .., qK _ _, h⟩
  ·exact ⟨_, _, my .., qK _ _, h⟩
  ·exact ⟨_, _, vM .., qK _ _, h⟩
  ·obtain ⟨z, v, h1, h2, h3⟩ := rH h; exact ⟨z, _, dX h1, h2, h3⟩
  ·obtain ⟨z, v, h1, h2, h3⟩ := rH h; exact ⟨z, _, sl h1, h2, h3⟩
  ·obtain ⟨z, v, h1, h2, h3⟩ := rH h; exact ⟨z, _, KU h1, h2, h3⟩
  ·split at h
   ·split at h
    ·cases h
    ·rename_i h0; obtain ⟨z, v, h1, h2, h3⟩ := rH h; exact ⟨z, _, FC (by unfold DH; rw [if_neg h0]; exact h1), h2, h3⟩
   ·obtain ⟨v, hv, h⟩ := ap h; exact ⟨_, _, FC hv, fun _ => rfl, h⟩
  ·split at h
   ·split at h
    ·cases h
    ·rename_i h0; exact ⟨_, _, FD (by unfold sw; rw [if_neg h0]), fun _ => rfl, h⟩
   ·obtain ⟨v, hv, h⟩ := ap h; exact ⟨_, _, FD hv, fun _ => rfl, h⟩
  ·exact ⟨_, _, KR, fun _ => rfl, h⟩
  ·exact ⟨_, _, II, fun _ => rfl, h⟩
  ·exact ⟨_, _, KY, fun _ => rfl, h⟩
  ·cases h
 ·cases h
def eqX : List TypeDesc -> List (X P G S) -> List (X P G S) -> Option Bool
 | [], [], [] => some true
 | d :: ds, x :: xs, y :: ys =>
  match d, asI x, asI y with
  | .int k, some (k1, a, _), some (k2, b, _) => if k1 = k /\ k2 = k then (eqX ds xs ys).map ((a == b) && ·) else none
  | .bool, _, _ => match asB x, asB y with
   | some (a, _), some (b, _) => (eqX ds xs ys).map ((a == b) && ·)
   | _, _ => none
  | .string, _, _ => match asS x, asS y with
   | some a, some b => (eqX ds xs ys).map ((a == b) && ·)
   | _, _ => none
  | _, _, _ => none
 | _, _, _ => none
def isAgg : X P G S -> Option (List (X P G S))
 | .agg cs => if X.allD cs then some cs else none
 | _ => none
theorem zW {cs : List (X P G S)} (h : isAgg x = some cs) : x.V len = .d (.agg (X.ws cs) (X.cs cs)) := by
 unfold isAgg at h; split at h
 ·split at h
  ·rename_i ha; cases h; exact ci (x := .agg cs) ha
  ·cases h
 ·cases h
theorem CQ {k : IntKind} {n : Int} {b : Bool} (h : asI x = some (k, n, b)) : x.c = [.v (.int k n)] := by
 unfold asI at h; split at h <;> cases h <;> rfl
theorem CP {c b : Bool} (h : asB x = some (c, b)) : x.c = [.v (.bool c)] := by
 unfold asB at h; split at h <;> cases h <;> rfl
theorem CR {l : zBz} (h : asS x = some l) : x.c = [.v (.string ⟨l.toArray⟩)] := by
 unfold asS at h; split at h <;> cases h; rfl
theorem Ku : ∀ {ds : List TypeDesc} {xs ys : List (X P G S)} {b : Bool}, eqX ds xs ys = some b -> eg ds (X.cs xs) (X.cs ys) = some b := by
 intro ds
 induction ds with
 | nil =>
  intro xs ys b h; unfold eqX at h; split at h
  ·cases h; rfl
  ·simp_all
  ·cases h
 | cons d ds ih =>
  intro xs ys b h; unfold eqX at h; split at h
  ·rename_i e; cases e
  ·rename_i d' ds' x xs y ys e; cases e; have hx : X.cs (x :: xs) = x.c ++ X.cs xs := rfl; have hy : X.cs (y :: ys) = y.c ++ X.cs ys := rfl; rw [hx, hy]; split at h
   ·rename_i k k1 a _ k2 b _ e1 e2; split at h
    ·rename_i hk; obtain ⟨rfl, rfl⟩ := hk; simp only [Option.map_eq_some_iff] at h; obtain ⟨c, hc, rfl⟩ := h; rw [CQ e1, CQ e2]; simp [eg, ih hc, lH]
    ·cases h
   ·split at h
    ·rename_i a _ b _ e1 e2; simp only [Option.map_eq_some_iff] at h; obtain ⟨c, hc, rfl⟩ := h; rw [CP e1, CP e2]; simp only [List.singleton_append, eg, ih hc, Option.map_some]; rfl
    ·cases h
   ·split at h
    ·rename_i a b e1 e2; simp only [Option.map_eq_some_iff] at h; obtain ⟨c, hc, rfl⟩ := h; rw [CR e1, CR e2]; simp only [List.singleton_append, eg, ih hc, Option.map_some]; have e : ((⟨a.toArray⟩ : ByteArray) == ⟨b.toArray⟩) = (a == b) := by
      show (a.toArray == b.toArray) = _; simp
     simp [lH, e]
    ·cases h
   ·cases h
  ·cases h
def Ea : X P G S -> Option (Nat × zBz)
 | .agg [.s (.vec n) v] => some (n, v.l)
 | _ => none
theorem Cu {n : Nat} {l : zBz} (h : Ea x = some (n, l)) : x.V len = .d (.agg n (ay l)) /\ l.length = n := by
 unfold Ea at h; split at h
 ·rename_i n v; cases h; refine ⟨?_, v.h⟩; have := ci (len := len) (x := .agg [X.s (.vec n) v]) rfl; rw [this]; show V.d (.agg (n + 0) (ay v.l ++ [])) = _; simp
 ·cases h
def vm (n : Nat) : Option (List TypeDesc) -> Bool
 | some ds => go n ds
 | none => false
where go : Nat -> List TypeDesc -> Bool
 | 0, [] => true
 | n + 1, .int .u8 :: ds => go n ds
 | _, _ => false
theorem GU {n : Nat} {o : Option (List TypeDesc)} (h : vm n o = true) : o = some (List.replicate n (.int .u8)) := by
 cases o with
 | none => cases h
 | some ds =>
  have key : ∀ (n : Nat) (ds : List TypeDesc), vm.go n ds = true -> ds = List.replicate n (.int .u8) := by
   intro n
   induction n with
   | zero => intro ds h; cases ds with
    | nil => rfl
    | cons => simp [vm.go] at h
   | succ n ih =>
    intro ds h; unfold vm.go at h; split at h
    ·rename_i e; cases e
    ·rename_i e; cases e; rw [List.replicate_succ, ih _ h]
    ·cases h
  rw [key n ds h]
theorem JD {P : Program} {t : TypeId} {x y : Operand} {a b c : zBz} (h : app a b = some c) : aD P (do eqGuard .add t x y (.string ⟨a.toArray⟩) (.string ⟨b.toArray⟩); binOp .add t (.string ⟨a.toArray⟩) (.string ⟨b.toArray⟩)) = some (.string ⟨c.toArray⟩) := by
 obtain ⟨rfl, hl⟩ := BM h; have hn : ¬ (9223372036854775807 < ((a.length : Int) + (b.length : Int))) := by omega
 have e : (⟨a.toArray⟩ ++ ⟨b.toArray⟩ : ByteArray) = ⟨(a ++ b).toArray⟩ := by apply ByteArray.ext; simp
 simp [eqGuard, binOp, Op.stringOp, bD, bM, ByteArray.size, hn, e]
def Gq (op : BinOp) (t : TypeId) (x y : X P G S) (K : X P G S -> Option R) : Option R :=
 match asI x, asI y with
 | some (k, a, la), some (k2, b, lb) => Gp op k a k2 b (la && lb) K
 | _, _ =>
 match asB x, asB y with
 | some (a, _), some (b, _) => (match P.underlying t with
  | some .bool => (match op with
   | .eql => K (.s .bool (a == b))
   | .neq => K (.s .bool (a != b))
   | _ => none)
  | _ => none)
 | _, _ =>
 match asS x, asS y with
 | some a, some b => (match op with
  | .eql => K (.s .bool (a == b))
  | .neq => K (.s .bool (!(a == b)))
  | .add => ob (app a b) fun c => K (.s .str c)
  | _ => none)
 | _, _ =>
 if P.eqGuardType P.depth t then none else
 match Ea x, Ea y with
 | some (n, a), some (m, b) => if n = m /\ vm n (nI P t) = true then (match op with
  | .eql => K (.s .bool (a == b))
  | .neq => K (.s .bool (!(a == b)))
  | _ => none) else none
 | _, _ =>
 match isAgg x, isAgg y, nI P t with
 | some a, some b, some ds => (match eqX ds a b with
  | some c => (match op with
   | .eql => K (.s .bool c)
   | .neq => K (.s .bool (!c))
   | _ => none)
  | none => none)
 | _, _, _ => none
theorem IV {op : BinOp} (ho : o.op = .binOp op t xo yo yt) (hx : evB G env xo = some (x.V len)) (hy : evB G env yo = some (y.V len)) (h : Gq op t x y K = some r) : ∃ z, opV P (evD G env) hp o = some (X.V len z) /\ K z = some r := by
 unfold Gq at h; split at h
 ·rename_i k a la k2 b lb e1 e2; obtain ⟨z, v, h1, h2, h3⟩ := IU (t := t) (xo := xo) (yo := yo) h; exact ⟨z, by rw [h2]; exact ah ho (by rw [hx, dw e1]) (by rw [hy, dw e2]) h1, h3⟩
 split at h
 ·rename_i a _ b _ e1 e2; have hx' := hx.trans (congrArg some (zo e1 len)); have hy' := hy.trans (congrArg some (zo e2 len)); split at h
  ·rename_i hu; split at h
   ·exact ⟨_, ah ho hx' hy' (KZ _ _ _ _ hu rfl), h⟩
   ·exact ⟨_, ah ho hx' hy' (pJ _ _ _ _ hu rfl), h⟩
   ·cases h
  ·cases h
 split at h
 ·rename_i a b e1 e2; have hx' := hx.trans (congrArg some (zq e1 len)); have hy' := hy.trans (congrArg some (zq e2 len)); split at h
  ·exact ⟨_, ah ho hx' hy' (KW rfl), h⟩
  ·exact ⟨_, ah ho hx' hy' (FE rfl), h⟩
  ·obtain ⟨c, hc, h⟩ := ap h; exact ⟨_, ah ho hx' hy' (JD hc), h⟩
  ·cases h
 split at h
 ·cases h
 rename_i hg; have hg : P.eqGuardType P.depth t = false := by simpa using hg
 split at h
 ·rename_i n a m b e1 e2; obtain ⟨g1, l1⟩ := Cu (len := len) e1; obtain ⟨g2, l2⟩ := Cu (len := len) e2; rw [g1] at hx; rw [g2] at hy; split at h
  ·rename_i hk; obtain ⟨rfl, hk⟩ := hk; have hk := GU hk; split at h
   ·exact ⟨_, jP ho hx hy (uT hg hk l1 l2), h⟩
   ·exact ⟨_, Cj ho hx hy (uT hg hk l1 l2), h⟩
   ·cases h
  ·cases h
 split at h
 ·rename_i a b ds e1 e2 hk; rw [zW e1] at hx; rw [zW e2] at hy; split at h
  ·rename_i c hc; have hc' := EM (n := X.ws a) (m := X.ws b) hg hk (Ku hc); split at h
   ·exact ⟨_, jP ho hx hy hc', h⟩
   ·exact ⟨_, Cj ho hx hy hc', h⟩
   ·cases h
  ·cases h
 ·cases h
end
end
section
def Ty.tup : List Ty -> Ty
 | [] => .unit
 | [t] => t
 | t :: u :: ts => .pair t (Ty.tup (u :: ts))
section
variable {P : Program} {G : zGz} {S : Nm} {R : Type}
def X.fl : X P G S -> Bool
 | .s t _ => match t with
  | .nm _ | .unit | .pair .. => false
  | _ => true
 | .lit .. | .bl _ | .full .. | .nil | .nf | .fn .. | .mth .. | .mp _ | .own _ | .ptr _ | .ref .. | .el .. | .any => true
 | _ => false
def X.one : X P G S -> Bool
 | .s (.vec _) _ => false
 | x => x.fl
theorem pW {x : X P G S} (h : x.fl = true) (hd : x.isD = true) : x.c.length = x.w := by
 cases x with
 | s t v =>
  cases t with
  | vec n => show (ay v.l).length = n; simp [ay, v.h]
  | _ => first | rfl | simp [X.fl] at h
 | _ => first | rfl | simp [X.fl] at h
theorem wo {x : X P G S} (h : x.fl = true) (len : Nat -> Nat) : (x.Vs len).length = x.w := by
 unfold X.Vs; split
 ·rename_i hd; rw [List.length_map, pW h hd]
 ·rename_i hd; cases x with
  | _ => first | rfl | (simp [X.isD] at hd; done) | simp [X.fl] at h
theorem tO {x : X P G S} (h : x.one = true) (len : Nat -> Nat) : x.Vs len = [x.V len] /\ x.w = 1 := by
 unfold X.Vs; split
 ·rename_i hd; rw [ci hd]; cases x with
  | s t v =>
   cases t with
   | _ => first | exact ⟨rfl, rfl⟩ | simp [X.one, X.fl] at h
  | _ => first | exact ⟨rfl, rfl⟩ | simp [X.one, X.fl] at h
 ·rename_i hd; cases x with
  | _ => first | exact ⟨rfl, rfl⟩ | (simp [X.isD] at hd; done) | simp [X.one, X.fl] at h
def gP : List (X P G S) -> Nat -> Option (List (X P G S))
 | cs, 0 => some cs
 | [], _ + 1 => none
 | x :: cs, n + 1 => if x.fl && Nat.ble 1 x.w && Nat.ble x.w (n + 1) then gP cs (n + 1 - x.w) else none
def tl : List (X P G S) -> Nat -> Option (List (X P G S))
 | _, 0 => some []
 | [], _ + 1 => none
 | x :: cs, n + 1 => if x.fl && Nat.ble 1 x.w && Nat.ble x.w (n + 1) then (tl cs (n + 1 - x.w)).map (x :: ·) else none
def vsX (len : Nat -> Nat) (cs : List (X P G S)) : List V := cs.flatMap (X.Vs len)
theorem Ir {len : Nat -> Nat} {x : X P G S} {ks : zLz} {ds : List D} : x.VP len ≠ .mp ks ds := by
 unfold X.VP; split
 ·split <;> simp
 ·split <;> simp
 ·split <;> simp
 ·split <;> simp
 ·simp
theorem Mp {len : Nat -> Nat} {x : X P G S} {ks : zLz} {ds : List D} : x.V len ≠ .mp ks ds := by
 unfold X.V; split
 ·simp
 ·simp
 ·simp
 ·simp
 ·split
  ·simp
  ·exact Ir
 ·split
  ·simp
  ·exact Ir
theorem Ge (len : Nat -> Nat) (cs : List (X P G S)) : ∀ y ∈ vsX len cs, ∀ ks ds, y ≠ .mp ks ds := by
 intro y hy ks ds; obtain ⟨x, _, hy⟩ := List.mem_flatMap.1 hy; unfold X.Vs at hy; split at hy
 ·obtain ⟨d, _, rfl⟩ := List.mem_map.1 hy; simp
 ·rw [List.mem_singleton] at hy; subst hy; exact Mp
theorem xT (len : Nat -> Nat) (cs : List (X P G S)) : ac (cs.flatMap (X.Vs len)) = some (vsX len cs) := Ao (Ge len cs)
def B.isRM : B P G S -> Bool
 | .row .. | .mp .. => true
 | _ => false
def B.isMp : B P G S -> Bool
 | .mp .. => true
 | _ => false
theorem iq (len : Nat -> Nat) (b : B P G S) : (b.blk len).isMap = b.isMp := by
 cases b with
 | row t xs => exact fa _ _
 | cells cs => exact ui (Ge len cs)
 | mp => rfl
 | gone => rfl
theorem fg {cs : List (X P G S)} (h : X.allD cs = true) (len : Nat -> Nat) : vsX len cs = (X.cs cs).map .d := by
 rw [X.allD_iff] at h; rw [wn]; unfold vsX
 induction cs with
 | nil => rfl
 | cons x r ih =>
  rw [List.flatMap_cons, List.flatMap_cons, List.map_append, ih fun y hy => h y (by simp [hy]), uG (h x (by simp))]
theorem kz : ∀ {cs : List (X P G S)} {n : Nat} {r : List (X P G S)}, gP cs n = some r -> ∀ len, (vsX len cs).drop n = vsX len r /\ n <= (vsX len cs).length /\ ∃ pre, cs = pre ++ r := by
 intro cs
 induction cs with
 | nil =>
  intro n r h len; cases n with
  | zero => cases h; exact ⟨rfl, by simp, [], rfl⟩
  | succ n => cases h
 | cons x cs ih =>
  intro n r h len; cases n with
  | zero => cases h; exact ⟨rfl, by simp, [], rfl⟩
  | succ n =>
   unfold gP at h; split at h
   ·rename_i hc; simp only [Bool.and_eq_true, Nat.ble_eq] at hc; obtain ⟨⟨h1, h2⟩, h3⟩ := hc; obtain ⟨g1, g2, pre, rfl⟩ := ih h len; have hl := wo h1 len; have e : vsX len (x :: (pre ++ r)) = x.Vs len ++ vsX len (pre ++ r) := rfl; refine ⟨?_, ?_, x :: pre, rfl⟩
    ·rw [e, List.drop_append, hl, List.drop_of_length_le (by omega), List.nil_append, g1]
    ·rw [e, List.length_append, hl]; omega
   ·cases h
theorem ut : ∀ {cs : List (X P G S)} {n : Nat} {r : List (X P G S)}, tl cs n = some r -> (∀ len, (vsX len cs).take n = vsX len r /\ n = (vsX len r).length) /\ X.ws r = n /\ ∃ post, cs = r ++ post := by
 intro cs
 induction cs with
 | nil =>
  intro n r h; cases n with
  | zero => cases h; exact ⟨fun len => ⟨rfl, rfl⟩, rfl, [], rfl⟩
  | succ n => cases h
 | cons x cs ih =>
  intro n r h; cases n with
  | zero => cases h; exact ⟨fun len => ⟨rfl, rfl⟩, rfl, _, rfl⟩
  | succ n =>
   unfold tl at h; split at h
   ·rename_i hc; simp only [Bool.and_eq_true, Nat.ble_eq] at hc; obtain ⟨⟨h1, h2⟩, h3⟩ := hc; simp only [Option.map_eq_some_iff] at h; obtain ⟨r', hr, rfl⟩ := h; obtain ⟨g1, g2, post, rfl⟩ := ih hr; refine ⟨fun len => ?_, ?_, post, rfl⟩
    ·obtain ⟨g1, g3⟩ := g1 len; have hl := wo h1 len; have e (l : List (X P G S)) : vsX len (x :: l) = x.Vs len ++ vsX len l := rfl; refine ⟨?_, ?_⟩
     ·rw [e, e, List.take_append, hl, List.take_of_length_le (by omega), g1]
     ·rw [e, List.length_append, hl, <- g3]; omega
    ·show x.w + X.ws r' = n + 1; rw [g2]; omega
   ·cases h
theorem mc {a b : List (X P G S)} : X.allD (a ++ b) = (X.allD a && X.allD b) := by
 induction a with
 | nil => rfl
 | cons x r ih => simp only [List.cons_append, X.allD, X.isD.allD] at ih ⊢; rw [ih, Bool.and_assoc]
theorem oH {a b : List D} (h : a.map V.d = b.map V.d) : a = b := by
 induction a generalizing b with
 | nil => cases b with
  | nil => rfl
  | cons => simp at h
 | cons x r ih => cases b with
  | nil => simp at h
  | cons y s => simp only [List.map_cons, List.cons.injEq, V.d.injEq] at h; rw [h.1, ih h.2]
end
end
section
structure SX (P : Program) (G : zGz) (S : Nm) where
 fs : Nat -> List Ty
 pr : ∀ i, S.A i -> Den P G S (Ty.tup (fs i))
 im : ∀ i, Den P G S (Ty.tup (fs i)) -> S.A i
section
variable {P : Program} {G : zGz} {S : Nm} {R : Type}
def nC (ts : List Ty) (x : Den P G S (Ty.tup ts)) : List D := match ts, x with
 | [], _ => []
 | [t], x => (t.bd P G S).cells x
 | t :: u :: ts, x => (t.bd P G S).cells x.1 ++ nC (u :: ts) x.2
structure SX.Ok (M : SX P G S) : Prop where
 pr : ∀ i x, S.row i x = nC (M.fs i) (M.pr i x)
 im : ∀ i y, S.row i (M.im i y) = nC (M.fs i) y
def sP (f : (t : Ty) -> Den P G S t -> List (X P G S)) : (ts : List Ty) -> Den P G S (Ty.tup ts) -> List (X P G S)
 | [], _ => []
 | [t], x => f t x
 | t :: u :: ts, x => f t x.1 ++ sP f (u :: ts) x.2
def SX.expl (M : SX P G S) : Nat -> (t : Ty) -> Den P G S t -> List (X P G S)
 | n + 1, .nm i, x => sP (SX.expl M n) (M.fs i) (M.pr i x)
 | _, t, x => [.s t x]
theorem mo (a b : List (X P G S)) : X.cs (a ++ b) = X.cs a ++ X.cs b := by simp only [wn, List.flatMap_append]
theorem jX (x : X P G S) : X.cs [x] = x.c := by rw [wn]; simp
theorem zG {f : (t : Ty) -> Den P G S t -> List (X P G S)} (hf : ∀ t x, X.cs (f t x) = (t.bd P G S).cells x /\ X.allD (f t x) = true) : ∀ (ts : List Ty) (x : Den P G S (Ty.tup ts)), X.cs (sP f ts x) = nC ts x /\ X.allD (sP f ts x) = true
 | [], _ => ⟨rfl, rfl⟩
 | [t], x => hf t x
 | t :: u :: ts, x => by
  obtain ⟨a1, a2⟩ := hf t x.1; obtain ⟨b1, b2⟩ := zG hf (u :: ts) x.2; show X.cs (f t x.1 ++ sP f (u :: ts) x.2) = (t.bd P G S).cells x.1 ++ nC (u :: ts) x.2 /\ X.allD (f t x.1 ++ sP f (u :: ts) x.2) = true; exact ⟨by rw [mo, a1, b1], by rw [mc, a2, b2]; rfl⟩
theorem SX.Ok.expl {M : SX P G S} (hM : M.Ok) : ∀ (n : Nat) (t : Ty) (x : Den P G S t), X.cs (M.expl n t x) = (t.bd P G S).cells x /\ X.allD (M.expl n t x) = true := by
 intro n
 induction n with
 | zero => intro t x; unfold SX.expl; exact ⟨jX _, rfl⟩
 | succ n ih =>
  intro t x; unfold SX.expl; split
  ·rename_i n i x e; cases e; obtain ⟨h1, h2⟩ := zG ih (M.fs i) (M.pr i x); exact ⟨h1.trans (hM.pr i x).symm, h2⟩
  ·exact ⟨jX _, rfl⟩
def flD : List (X P G S) -> Bool
 | [] => true
 | x :: r => x.fl && x.isD && flD r
def flV : List (X P G S) -> Bool
 | [] => true
 | x :: r => x.fl && flV r
theorem cd {cs : List (X P G S)} (h : flD cs = true) : X.allD cs = true /\ (X.cs cs).length = X.ws cs := by
 induction cs with
 | nil => exact ⟨rfl, rfl⟩
 | cons x r ih =>
  simp only [flD, Bool.and_eq_true] at h; obtain ⟨⟨h1, h2⟩, h3⟩ := h; obtain ⟨a, b⟩ := ih h3; refine ⟨by show (x.isD && X.allD r) = true; rw [h2, a]; rfl, ?_⟩; show (x.c ++ X.cs r).length = x.w + X.ws r; rw [List.length_append, b, pW h1 h2]
theorem zN {cs : List (X P G S)} (h : flV cs = true) (len : Nat -> Nat) : (vsX len cs).length = X.ws cs := by
 induction cs with
 | nil => rfl
 | cons x r ih =>
  simp only [flV, Bool.and_eq_true] at h; show (x.Vs len ++ vsX len r).length = x.w + X.ws r; rw [List.length_append, ih h.2, wo h.1]
theorem AG {α : Type} {r : List α} {n off m : Nat} (h : r.length = n) (hm : off + m <= n) : seg r n off m = (r.drop off).take m := by
 unfold seg; split
 ·rename_i e; obtain ⟨rfl, rfl⟩ := e; rw [List.drop_zero, <- h, List.take_length]
 ·rfl
theorem DF (ds : List D) : bv (ds.map V.d) = some ds := by
 induction ds with
 | nil => rfl
 | cons d ds ih => simp [bv, ih]
def It (cs : List (X P G S)) : Bool := cs.all fun x => x.cp && Nat.ble 1 x.w && x.fl
theorem rJ : ∀ {a b : List V} {x y : List Cap}, kv a = some x -> kv b = some y -> kv (a ++ b) = some (x ++ y)
 | [], _, _, _, h, k => by cases h; exact k
 | v :: a, b, x, y, h, k => by
  simp only [kv, Option.bind_eq_some_iff, Option.map_eq_some_iff] at h; obtain ⟨c, h1, x', h2, rfl⟩ := h; show ((zg v).bind fun c => (kv (a ++ b)).map (c :: ·)) = _; rw [h1, Option.bind_some, rJ h2 k]; rfl
theorem IY (ds : List D) : kv (ds.map V.d) = some (ds.map Cap.d) := by
 induction ds with
 | nil => rfl
 | cons d r ih => show (some (Cap.d d)).bind _ = _; rw [Option.bind_some, ih]; rfl
theorem zw (len : Nat -> Nat) : ∀ {cs : List (X P G S)}, cs.all X.cp = true -> kv (vsX len cs) = some (eY len cs)
 | [], _ => rfl
 | x :: cs, h => by
  simp only [List.all_cons, Bool.and_eq_true] at h; show kv (x.Vs len ++ vsX len cs) = some ((if x.isD then x.c.map Cap.d else [x.cap len]) ++ eY len cs); refine rJ ?_ (zw len h.2); unfold X.Vs; split
  ·exact IY _
  ·rename_i hd; cases x with
   | own | ref | mp => rfl
   | _ => exact absurd h.1 hd
theorem Bw {a b : List V} : bv (a ++ b) = (bv a).bind fun x => (bv b).map (x ++ ·) := by
 induction a with
 | nil => cases h : bv b <;> simp [bv, h]
 | cons v a ih =>
  cases v with
  | d x =>
   simp only [List.cons_append, bv, ih]; cases bv a with
   | none => rfl
   | some x => cases bv b <;> rfl
  | _ => rfl
theorem lB (len : Nat -> Nat) : ∀ {cs : List (X P G S)}, cs.all X.cp = true -> X.allD cs = false -> bv (vsX len cs) = none
 | [], _, h => by cases h
 | x :: cs, h, hd => by
  simp only [List.all_cons, Bool.and_eq_true] at h; show bv (x.Vs len ++ vsX len cs) = none; rw [Bw]; by_cases hx : x.isD = true
  ·have : X.allD cs = false := by
    have hd : (x.isD && X.allD cs) = false := hd; rw [hx, Bool.true_and] at hd; exact hd
   rw [lB len h.2 this]; cases bv (x.Vs len) <;> rfl
  ·have : bv (x.Vs len) = none := by
    unfold X.Vs; rw [if_neg hx]; cases x with
    | own | ref | mp => rfl
    | _ => exact absurd h.1 hx
   rw [this]; rfl
theorem Dz (len : Nat -> Nat) {cs : List (X P G S)} (h : It cs = true) (hd : X.allD cs = false) : bv (vsX len cs) = none /\ kT (vsX len cs) = some (X.V len (.agg cs)) := by
 have hcp : cs.all X.cp = true := by
  rw [List.all_eq_true]; intro x hx; have := List.all_eq_true.1 h x hx; simp only [Bool.and_eq_true] at this; exact this.1.1
 refine ⟨lB len hcp hd, ?_⟩; have hVP : X.VP len (.agg cs) = .agr false (eY len cs) := if_pos hcp; have hD : (X.agg cs).isD = false := hd; have other : nO (vsX len cs) = none -> X.V len (.agg cs) = X.VP len (.agg cs) -> kT (vsX len cs) = some (X.V len (.agg cs)) := by
  intro h1 h2; unfold kT; rw [h1, h2, hVP, zw len hcp]; rfl
 cases cs with
 | nil => cases hd
 | cons x r =>
  have hx := List.all_eq_true.1 h x (by simp); simp only [Bool.and_eq_true, Nat.ble_eq] at hx; obtain ⟨⟨hxc, hxw⟩, hxf⟩ := hx; have e : vsX len (x :: r) = x.Vs len ++ vsX len r := rfl; have nd : x.isD = true -> nO (vsX len (x :: r)) = none /\ X.V len (.agg (x :: r)) = X.VP len (.agg (x :: r)) := by
   intro hxd; have hne : x.c ≠ [] := fun e => by
    have := pW hxf hxd; rw [e] at this; simp at this; omega
   obtain ⟨c, cr, hc⟩ := List.exists_cons_of_ne_nil hne; refine ⟨by rw [e, uG hxd, hc]; rfl, ?_⟩; unfold X.V; split
   ·rename_i e; cases e
   ·rename_i e; cases e
   ·rename_i e; cases e
   ·rename_i e; cases e
   ·rename_i e; cases e; cases hxd
   ·rw [if_neg (by rw [hD]; simp)]
  cases x with
  | own l =>
   by_cases hr : X.allD r = true
   ·have e2 : vsX len (X.own l :: r) = .sref l 0 (len l) :: (X.cs r).map .d := by rw [e, fg hr]; rfl
    have e3 : X.V len (.agg (.own l :: r)) = .mix false l (len l) (X.cs r) := if_pos hr; rw [e2, e3]; simp only [kT, nO, DF, Option.map_some]
   ·refine other ?_ (if_neg hr); have e2 : vsX len (X.own l :: r) = .sref l 0 (len l) :: vsX len r := rfl; rw [e2]; simp only [nO]; rw [lB len (by simp only [List.all_cons, Bool.and_eq_true] at hcp; exact hcp.2) (by simpa using hr)]; rfl
  | ref l off => exact other rfl rfl
  | mp l => exact other rfl rfl
  | _ => exact other (nd (by first | exact hxc | rfl)).1 (nd (by first | exact hxc | rfl)).2
def sY (t : TypeId) (cs : List (X P G S)) (K : X P G S -> Option R) : Option R :=
 match bh P t with
 | some false => (match cs with
  | x :: _ => if x.one then K x else none
  | [] => none)
 | some true => (match az P t with
  | some m => (match tl cs m with
   | some r => if It r then K (.agg r) else none
   | none => none)
  | none => none)
 | none => none
theorem sj (ds : List D) : bv (ds.map V.d) = some ds := by
 induction ds with
 | nil => rfl
 | cons d ds ih => simp [bv, ih]
def xe (P : Program) (t : TypeId) (r : List V) : Option V :=
 match bh P t with
 | some true => (az P t).bind fun m => if m <= r.length then (match bv (r.take m) with | some ds => some (.d (.agg m ds)) | none => kT (r.take m)) else none
 | some false => r[0]?
 | none => none
theorem qG {t : TypeId} {cs : List (X P G S)} {K : X P G S -> Option R} {r : R} (h : sY t cs K = some r) (len : Nat -> Nat) : ∃ z, xe P t (vsX len cs) = some (z.V len) /\ K z = some r := by
 unfold sY at h; unfold xe; split at h
 ·rename_i ha; rw [ha]; split at h
  ·rename_i x cs; split at h
   ·rename_i h1; refine ⟨x, ?_, h⟩; show (x.Vs len ++ vsX len cs)[0]? = _; rw [(tO h1 len).1]; rfl
   ·cases h
  ·cases h
 ·rename_i ha; rw [ha]; split at h
  ·rename_i m hm; split at h
   ·rename_i q hq; split at h
    ·rename_i hok; refine ⟨.agg q, ?_, h⟩; obtain ⟨g1, g2, post, rfl⟩ := ut hq; obtain ⟨g1, g3⟩ := g1 len; have hle : m <= (vsX len (q ++ post)).length := by
      have : (vsX len (q ++ post)).length = (vsX len q).length + (vsX len post).length := by simp [vsX]
      omega
     simp only [hm, Option.bind_some, if_pos hle, g1]; by_cases hd : X.allD q = true
     ·rw [fg hd, sj]; have := ci (len := len) (x := .agg q) hd; rw [this]; show some (V.d (.agg m (X.cs q))) = some (V.d (.agg (X.ws q) (X.cs q))); rw [g2]
     ·obtain ⟨a1, a2⟩ := Dz len hok (by simpa using hd); rw [a1]; exact a2
    ·cases h
   ·cases h
  ·cases h
 ·cases h
def za (M : SX P G S) (h : List (Nat × B P G S)) (t : TypeId) (x : X P G S) (K : X P G S -> Option R) : Option R :=
 match x with
 | .ptr cs => if flD cs then sY t cs K else none
 | .ref l off => (match af h l with
  | some (.cells cs) => if flV cs then (match gP cs off with
   | some r => sY t r K
   | none => none) else none
  | _ => none)
 | .el l i off => (match af h l with
  | some (.row τ xs) => ob (idx xs i) fun y => if flD (M.expl 8 τ y) then (match gP (M.expl 8 τ y) off with
   | some r => if X.ws (M.expl 8 τ y) = (τ.bd P G S).w then sY t r K else none
   | none => none) else none
  | _ => none)
 | _ => none
theorem ya {t : TypeId} {r : List V} {n off : Nat} {v : V} (hl : r.length = n) (ho : off <= r.length) (h : xe P t (r.drop off) = some v) :
  (match bh P t with
  | some true => (az P t).bind fun m => if off + m <= n then (match bv (seg r n off m) with | some ds => some (.d (.agg m ds)) | none => kT (seg r n off m)) else none
  | some false => r[off]?
  | none => none) = some v := by
 unfold xe at h; split at h
 ·simp only [Option.bind_eq_some_iff] at h ⊢; obtain ⟨m, hm, h⟩ := h; split at h
  ·rename_i hle; rw [List.length_drop] at hle; refine ⟨m, hm, ?_⟩; rw [if_pos (by omega), AG hl (by omega)]; exact h
  ·cases h
 ·rw [List.getElem?_drop] at h; exact h
 ·cases h
theorem mX {hh : List (Nat × B P G S)} {len : Nat -> Nat} {l : Nat} {b : B P G S} (h : af hh l = some b) (hb : b.live = true := by rfl) : af (dz len hh) l = some (b.blk len) := by
 rw [aL, rZ, h, Option.bind_some, if_pos hb]
theorem rY {d : DS P G S} {l : Nat} {b : B P G S} (h : af d.h l = some b) (hb : b.live = true := by rfl) : af d.enc.h l = some (b.blk (am d.h)) := mX h hb
theorem Ab {M : SX P G S} (hM : M.Ok) {hh : List (Nat × B P G S)} {len : Nat -> Nat} {t : TypeId} {x : X P G S} {K : X P G S -> Option R} {r : R} (h : za M hh t x K = some r) :
  ∃ z, aX P (dz len hh) t (x.V len) = some (z.V len) /\ K z = some r := by
 unfold za at h; split at h
 ·rename_i cs; split at h
  ·rename_i hf; obtain ⟨hd, hl⟩ := cd hf; obtain ⟨z, h1, h2⟩ := qG h len; refine ⟨z, ?_, h2⟩; rw [fg hd] at h1; rw [ci (x := .ptr cs) hd]; show aX P (dz len hh) t (.d (.ptr (X.ws cs) (X.cs cs))) = _; unfold xe at h1; unfold aX; split at h1
   ·rename_i ha; rw [ha]; simp only [Option.bind_eq_some_iff] at h1 ⊢; obtain ⟨m, hm, h1⟩ := h1; split at h1
    ·rename_i hle; rw [List.length_map, hl] at hle; rw [<- List.map_take, sj] at h1; refine ⟨m, hm, ?_⟩; rw [if_pos hle, AG hl (by omega), List.drop_zero]; exact h1
    ·cases h1
   ·rename_i ha; rw [ha]; rw [List.getElem?_map] at h1; exact h1
   ·cases h1
  ·cases h
 ·rename_i l off; split at h
  ·rename_i cs hl; split at h
   ·rename_i hf; split at h
    ·rename_i q hq; obtain ⟨z, h1, h2⟩ := qG h len; obtain ⟨g1, g2, _⟩ := kz hq len; refine ⟨z, ?_, h2⟩; rw [<- g1] at h1; have hlen := zN hf len; have hk := mX (len := len) hl; rw [aL] at hk; show aX P (dz len hh) t (.ref l 0 off) = _; unfold aX; simp only [hk, Option.bind_some, B.blk, List.getElem?_cons_zero, xT]; exact ya hlen g2 h1
    ·cases h
   ·cases h
  ·cases h
 ·rename_i l i off; split at h
  ·rename_i τ xs hl; obtain ⟨y, hy, h⟩ := ap h; split at h
   ·rename_i hf; split at h
    ·rename_i q hq; split at h
     ·rename_i hw; obtain ⟨z, h1, h2⟩ := qG h len; obtain ⟨g1, g2, _⟩ := kz hq len; refine ⟨z, ?_, h2⟩; obtain ⟨hd, hlen⟩ := cd hf; have he := (hM.expl 8 τ y).1; rw [<- g1, fg hd] at h1; rw [fg hd] at g2; rw [he] at h1 g2 hlen; have hk := mX (len := len) hl; rw [aL] at hk; obtain ⟨_, g3, _⟩ := sU hy; show aX P (dz len hh) t (.ref l i.toNat off) = _; unfold aX; have hrow : ((B.row τ xs : B P G S).blk len).rows[i.toNat]? = some (((τ.bd P G S).cells y).map V.d) := by
       show (dB _ _).rows[i.toNat]? = _; simp [dB, g3]
      simp only [hk, Option.bind_some, hrow, cj]; exact ya (by rw [List.length_map, hlen, hw]; rfl) g2 h1
     ·cases h
    ·cases h
   ·cases h
  ·cases h
 ·cases h
end
end
section
section
variable {P : Program} {G : zGz} {S : Nm} {R : Type}
theorem ym (a b : List (X P G S)) : X.ws (a ++ b) = X.ws a + X.ws b := by
 induction a with
 | nil => simp [X.ws, X.w.ws]
 | cons x r ih => simp only [List.cons_append, X.ws, X.w.ws] at ih ⊢; rw [ih, Nat.add_assoc]
theorem tU : ∀ {cs : List (X P G S)} {n : Nat} {r : List (X P G S)}, gP cs n = some r -> X.ws cs = n + X.ws r := by
 intro cs
 induction cs with
 | nil =>
  intro n r h; cases n with
  | zero => cases h; simp
  | succ n => cases h
 | cons x cs ih =>
  intro n r h; cases n with
  | zero => cases h; simp
  | succ n =>
   unfold gP at h; split at h
   ·rename_i hc; simp only [Bool.and_eq_true, Nat.ble_eq] at hc; have := ih h; show x.w + X.ws cs = _; omega
   ·cases h
theorem jL {a b : List (X P G S)} : flD (a ++ b) = (flD a && flD b) := by
 induction a with
 | nil => rfl
 | cons x r ih => simp only [List.cons_append, flD, ih, Bool.and_assoc]
def zd (cs : List (X P G S)) (off : Nat) (K : X P G S -> Option R) : Option R :=
 if flD cs then (match gP cs off with
  | some r => K (.ptr r)
  | none => none) else none
theorem Ap {cs : List (X P G S)} {off : Nat} {K : X P G S -> Option R} {r : R} (h : zd cs off K = some r) (len : Nat -> Nat) :
  ∃ z, X.V len (.ptr cs) = .d (.ptr (X.ws cs) (X.cs cs)) /\ off <= X.ws cs /\ X.V len z = .d (.ptr (X.ws cs - off) ((X.cs cs).drop off)) /\ K z = some r := by
 unfold zd at h; split at h
 ·rename_i hf; split at h
  ·rename_i q hq; obtain ⟨hd, hl⟩ := cd hf; obtain ⟨g1, g2, pre, rfl⟩ := kz hq len; have hw := tU hq; have hfq : flD q = true := by rw [jL, Bool.and_eq_true] at hf; exact hf.2
   obtain ⟨hdq, _⟩ := cd hfq; refine ⟨.ptr q, ci (x := .ptr (pre ++ q)) hd, by omega, ?_, h⟩; rw [fg hd, fg hdq, <- List.map_drop] at g1; rw [oH g1, ci (x := .ptr q) hdq]; show V.d (.ptr (X.ws q) (X.cs q)) = _; rw [show X.ws (pre ++ q) - off = X.ws q by omega]
  ·cases h
 ·cases h
def qw (t : TypeId) (x : X P G S) (f : Nat) (K : X P G S -> Option R) : Option R :=
 match gx P t f with
 | some (off, _ + 1) => (match x with
  | .ptr cs => zd cs off K
  | .ref l o => K (.ref l (o + off))
  | .el l i o => K (.el l i (o + off))
  | _ => none)
 | _ => none
theorem yD {t : TypeId} {x : X P G S} {f : Nat} {K : X P G S -> Option R} {r : R} (h : qw t x f K = some r) (len : Nat -> Nat) : ∃ z, eH P t (x.V len) f = some (z.V len) /\ K z = some r := by
 unfold qw at h; split at h
 ·rename_i off s hp; split at h
  ·rename_i cs; obtain ⟨z, h1, h2, h3, h4⟩ := Ap h len; exact ⟨z, by rw [h1, h3]; exact gt hp (by simpa [Nat.ble_eq] using h2), h4⟩
  ·rename_i l o; exact ⟨.ref l (o + off), mU (l := l) (i := 0) (o := o) hp, h⟩
  ·rename_i l i o; exact ⟨.el l i (o + off), mU (l := l) (i := i.toNat) (o := o) hp, h⟩
  ·cases h
 ·cases h
def zH (t : TypeId) (x : X P G S) (f : Nat) (K : X P G S -> Option R) : Option R :=
 match x, gx P t f, rT P t f with
 | .agg cs, some (off, s), some u => if flD cs && Nat.ble (off + s) (X.ws cs) && (az P u == some s) then (match gP cs off with
  | some r => sY u r K
  | none => none) else none
 | _, _, _ => none
theorem EP {t : TypeId} {x : X P G S} {f : Nat} {K : X P G S -> Option R} {r : R} (h : zH t x f K = some r) (len : Nat -> Nat) : ∃ z, jp P t (x.V len) f = some (z.V len) /\ K z = some r := by
 unfold zH at h; split at h
 ·rename_i cs off s u hp ht; split at h
  ·rename_i hc; simp only [Bool.and_eq_true, Nat.ble_eq, beq_iff_eq] at hc; obtain ⟨⟨hf, hb⟩, hs⟩ := hc; split at h
   ·rename_i q hq; obtain ⟨hd, hl⟩ := cd hf; obtain ⟨z, h1, h2⟩ := qG h len; obtain ⟨g1, g2, _⟩ := kz hq len; refine ⟨z, ?_, h2⟩; rw [ci (x := .agg cs) hd]; show jp P t (.d (.agg (X.ws cs) (X.cs cs))) f = _; rw [<- g1, fg hd, <- List.map_drop] at h1; unfold xe at h1; split at h1
    ·rename_i ha; simp only [hs, Option.bind_some] at h1; split at h1
     ·rw [<- List.map_take, sj] at h1; rw [Jf hp ht ha (by simpa [Nat.ble_eq] using hb) rfl, AG hl hb]; exact h1
     ·cases h1
    ·rename_i ha; rw [List.getElem?_map, List.getElem?_drop] at h1; cases hd0 : (X.cs cs)[off + 0]? with
     | none => rw [hd0] at h1; cases h1
     | some d =>
      rw [hd0] at h1; rw [Je hp ht ha (by simpa using hd0)]; exact h1
    ·cases h1
   ·cases h
  ·cases h
 ·cases h
def asL : X P G S -> Option ((t : Ty) × List (Den P G S t) × Bool)
 | .s (.lst t) xs => some ⟨t, xs, false⟩
 | .full t xs => some ⟨t, xs, true⟩
 | _ => none
theorem uL {x : X P G S} {t : Ty} {xs : List (Den P G S t)} {b : Bool} (h : asL x = some ⟨t, xs, b⟩) (len : Nat -> Nat) : x.V len = .d (.list (t.bd P G S).w (xs.map (t.bd P G S).cells) b) := by
 unfold asL at h; split at h
 ·cases h; rfl
 ·cases h; rfl
 ·cases h
def mkL (t : Ty) (xs : List (Den P G S t)) (full : Bool) : X P G S := match full with | true => .full t xs | false => .s (.lst t) xs
theorem ta (t : Ty) (xs : List (Den P G S t)) (full : Bool) (len : Nat -> Nat) : (mkL t xs full : X P G S).V len = .d (.list (t.bd P G S).w (xs.map (t.bd P G S).cells) full) := by cases full <;> rfl
def qE (M : SX P G S) (h : List (Nat × B P G S)) (t : TypeId) (x i : X P G S) (K : X P G S -> Option R) : Option R :=
 match asI i with
 | none => none
 | some (_, n, lit) =>
 match P.underlying t with
 | some (.array N e) => (match az P e with
  | some s => (match lit with
   | true => if (decide (0 <= n) && decide (n < (N : Int))) = true then (match x with
    | .ptr cs => if Nat.ble (N * s) (X.ws cs) then zd cs (n.toNat * s) K else none
    | .ref l o => K (.ref l (o + n.toNat * s))
    | .el l j o => K (.el l j (o + n.toNat * s))
    | _ => none) else none
   | false => none)
  | none => none)
 | some (.slice e) => (match az P e with
  | some s => (match asL x with
   | some ⟨τ, xs, _⟩ => if (τ.bd P G S).w = s then ob (idx xs n) fun y => if flD (M.expl 8 τ y) && (X.ws (M.expl 8 τ y) == s) then K (.ptr (M.expl 8 τ y)) else none else none
   | none => (match x with
    | .own l => (match af h l with
     | some (.row τ xs) => if (τ.bd P G S).w = s then ob (idx xs n) fun _ => K (.el l n 0) else none
     | _ => none)
    | _ => none))
  | none => none)
 | _ => none
theorem ub {h : List (Nat × B P G S)} {l : Nat} {τ : Ty} {xs : List (Den P G S τ)} (hl : af h l = some (.row τ xs)) : am h l = xs.length := by
 unfold am; rw [hl]; rfl
theorem yG {M : SX P G S} (hM : M.Ok) {hh : List (Nat × B P G S)} {len : Nat -> Nat} (hL : uz hh len) {t : TypeId} {x i : X P G S} {K : X P G S -> Option R} {r : R} (h : qE M hh t x i K = some r) :
  ∃ z, cG P (dz len hh) t (x.V len) (i.V len) = some (z.V len) /\ K z = some r := by
 unfold qE at h; split at h
 ·cases h
 rename_i k n lit hi; rw [dw hi]; split at h
 ·rename_i N e hu; split at h
  ·rename_i s hs; split at h
   ·split at h
    ·rename_i hr; split at h
     ·rename_i cs; split at h
      ·rename_i hb; obtain ⟨z, h1, h2, h3, h4⟩ := Ap h len; exact ⟨z, by rw [h1, h3]; exact LR hu hs hr hb, h4⟩
      ·cases h
     ·rename_i l o; exact ⟨.ref l (o + n.toNat * s), IE (l := l) (i := 0) (o := o) hu hs hr, h⟩
     ·rename_i l j o; exact ⟨.el l j (o + n.toNat * s), IE (l := l) (i := j.toNat) (o := o) hu hs hr, h⟩
     ·cases h
    ·cases h
   ·cases h
  ·cases h
 ·rename_i e hu; split at h
  ·rename_i s hs; split at h
   ·rename_i τ xs b hx; split at h
    ·rename_i hw; subst hw; obtain ⟨y, hy, h⟩ := ap h; split at h
     ·rename_i hc; simp only [Bool.and_eq_true, beq_iff_eq] at hc; obtain ⟨hd, _⟩ := cd hc.1; refine ⟨_, ?_, h⟩; rw [uL hx, ci (x := .ptr (M.expl 8 τ y)) hd, eI hu hs hy]; show _ = some (V.d (.ptr (X.ws (M.expl 8 τ y)) (X.cs (M.expl 8 τ y)))); rw [hc.2, (hM.expl 8 τ y).1]
     ·cases h
    ·cases h
   ·split at h
    ·rename_i l _; split at h
     ·rename_i τ xs hl; split at h
      ·rename_i hw; subst hw; obtain ⟨y, hy, h⟩ := ap h; refine ⟨.el l n 0, ?_, h⟩; show cG P (dz len hh) t (.sref l 0 (len l)) _ = some (.ref l n.toNat 0); rw [hL _ _ _ hl, <- List.length_map (f := (τ.bd P G S).cells)]; exact LS hu hs (mX hl) hy
      ·cases h
     ·cases h
    ·cases h
  ·cases h
 ·cases h
def He (h : List (Nat × B P G S)) (t : TypeId) (x : X P G S) (K : X P G S -> Option R) : Option R :=
 match P.underlying t with
 | some (.slice _) => (match asL x with
  | some ⟨_, xs, _⟩ => K (.s (.int .i64) (xs.length : Int))
  | none => (match x with
   | .nil => K (.lit .i64 0)
   | .own l => (match af h l with
    | some (.row _ xs) => K (.s (.int .i64) (xs.length : Int))
    | _ => none)
   | _ => none))
 | some .string => (match asS x with
  | some s => K (.s (.int .i64) (s.length : Int))
  | none => none)
 | some (.array N _) => K (.lit .i64 (N : Int))
 | _ => none
theorem Jo {hh : List (Nat × B P G S)} {len : Nat -> Nat} (hL : uz hh len) {t : TypeId} {x : X P G S} {K : X P G S -> Option R} {r : R} (h : He hh t x K = some r) : ∃ z, hU P t (x.V len) = some (z.V len) /\ K z = some r := by
 unfold He at h; split at h
 ·rename_i e hu; split at h
  ·rename_i τ xs b hx; exact ⟨_, by rw [uL hx]; exact eJ hu, h⟩
  ·split at h
   ·exact ⟨.lit .i64 0, vq (sz := 0) (b := true) hu, h⟩
   ·rename_i l _; split at h
    ·rename_i τ xs hl; refine ⟨_, ?_, h⟩; have e : hU P t (.sref l 0 (len l)) = some (.d (.v (.int .i64 (xs.length : Int)))) := by
      rw [hL _ _ _ hl, <- List.length_map (f := (τ.bd P G S).cells), LY hu, List.length_map]
     exact e
    ·cases h
   ·cases h
 ·rename_i hu; split at h
  ·rename_i s hs; exact ⟨_, by rw [zq hs]; exact LZ hu, h⟩
  ·cases h
 ·rename_i N e hu; exact ⟨_, LX hu, h⟩
 ·cases h
end
end
section
section
variable {P : Program} {G : zGz} {S : Nm} {R : Type}
theorem LeL.refl : ∀ xs : List D, LeL xs xs
 | [] => .nil
 | x :: xs => .cons (D.le.refl x) (LeL.refl xs)
theorem LeL.append {a b c d : List D} (h : LeL a b) (k : LeL c d) : LeL (a ++ c) (b ++ d) := by
 induction h with
 | nil => exact k
 | cons h1 _ ih => exact .cons h1 ih
def zz (ex : Bool) (t : Ty) (x : X P G S) (K : Den P G S t -> Option R) : Option R :=
 match t with
 | .int k => (match asI x with
  | some (k', n, _) => if k' = k then K n else none
  | none => none)
 | .u8 => (match x with
  | .s .u8 b => K b
  | .lit .u8 n => if 0 <= n /\ n <= 255 then K (UInt8.ofNat n.toNat) else none
  | .s (.int .u8) z => ob (Ik z) K
  | _ => none)
 | .bool => (match asB x with
  | some (b, _) => K b
  | none => none)
 | .str => (match asS x with
  | some s => K s
  | none => none)
 | .vec n => (match x with
  | .s (.vec m) v => (match jK (.vec m) (.vec n) v with
   | some y => K y
   | none => none)
  | _ => none)
 | .lst t => (match asL x with
  | some ⟨t', xs, fl⟩ => if (fl && ex) = true then none else (match jK (.lst t') (.lst t) xs with
   | some ys => K ys
   | none => none)
  | none => (match x with
   | .nil => if ex = true then none else K []
   | _ => none))
 | .fn a b => (match x with
  | .s (.fn a' b') v => (match jK (.fn a' b') (.fn a b) v with
   | some y => K y
   | none => none)
  | _ => none)
 | _ => none
theorem Iv {x : X P G S} {k : IntKind} {n : Int} {b : Bool} (h : asI x = some (k, n, b)) : x.isD = true /\ x.d = .v (.int k n) := by
 unfold asI at h; split at h <;> cases h <;> exact ⟨rfl, rfl⟩
theorem Iu {x : X P G S} {c b : Bool} (h : asB x = some (c, b)) : x.isD = true /\ x.d = .v (.bool c) := by
 unfold asB at h; split at h <;> cases h <;> exact ⟨rfl, rfl⟩
theorem Iw {x : X P G S} {l : zBz} (h : asS x = some l) : x.isD = true /\ x.d = .v (.string ⟨l.toArray⟩) := by
 unfold asS at h; split at h <;> cases h; exact ⟨rfl, rfl⟩
theorem LH {x : X P G S} {t : Ty} {xs : List (Den P G S t)} {b : Bool} (h : asL x = some ⟨t, xs, b⟩) : x.isD = true /\ x.d = .list (t.bd P G S).w (xs.map (t.bd P G S).cells) b /\ x.c = [x.d] := by
 unfold asL at h; split at h
 ·cases h; exact ⟨rfl, rfl, rfl⟩
 ·cases h; exact ⟨rfl, rfl, rfl⟩
 ·cases h
structure Dec1 (ex : Bool) (t : Ty) (x : X P G S) (v : Den P G S t) : Prop where
 d : x.isD = true
 c : LeL x.c ((t.bd P G S).cells v)
 ec : ex = true -> x.c = (t.bd P G S).cells v
 o : (∀ n, t ≠ .vec n) -> x.d.le ((t.bd P G S).one v) /\ (ex = true -> x.d = (t.bd P G S).one v)
 w : ∀ n, t = .vec n -> x.w = n
 l : ∀ τ xs, x = .s (.lst τ) xs -> jK (.lst τ) t xs = some v
theorem Dec1.same {ex : Bool} {t : Ty} {x : X P G S} {v : Den P G S t} (h1 : x.isD = true) (h2 : x.d = (t.bd P G S).one v) (h3 : x.c = (t.bd P G S).cells v) (hl : ∀ τ xs, x = .s (.lst τ) xs -> jK (.lst τ) t xs = some v) (hw : ∀ n, t = .vec n -> x.w = n := by (intro n e; cases e)) : Dec1 ex t x v :=
 ⟨h1, by rw [h3]; exact LeL.refl _, fun _ => h3, fun _ => ⟨by rw [h2]; exact D.le.refl _, fun _ => h2⟩, hw, hl⟩
theorem sN {ex : Bool} {t : Ty} {x : X P G S} {K : Den P G S t -> Option R} {r : R} (h : zz ex t x K = some r) : ∃ v, K v = some r /\ Dec1 ex t x v := by
 unfold zz at h; split at h
 ·split at h
  ·rename_i k k' n b hx; split at h
   ·rename_i hk; subst hk; exact ⟨n, h, .same (Iv hx).1 (Iv hx).2 (CQ hx) fun τ xs e => by subst e; cases hx⟩
   ·cases h
  ·cases h
 ·split at h
  ·exact ⟨_, h, .same rfl rfl rfl fun τ xs e => by cases e⟩
  ·rename_i n; split at h
   ·rename_i hr; have e : (((UInt8.ofNat n.toNat).toNat : Nat) : Int) = n := by simp [UInt8.toNat_ofNat']; omega
    refine ⟨_, h, .same rfl ?_ ?_ fun τ xs e => by cases e⟩
    ·show D.v (.int .u8 n) = .v (.int .u8 _); rw [e]
    ·show [D.v (.int .u8 n)] = [.v (.int .u8 _)]
     rw [e]
   ·cases h
  ·rename_i z; obtain ⟨b, hb, h⟩ := ap h; have e := Il hb; refine ⟨b, h, .same rfl ?_ ?_ fun τ xs e => by cases e⟩
   ·show D.v (.int .u8 z) = .v (.int .u8 _); rw [e]
   ·show [D.v (.int .u8 z)] = [.v (.int .u8 _)]
    rw [e]
  ·cases h
 ·split at h
  ·rename_i b _ hx; exact ⟨b, h, .same (Iu hx).1 (Iu hx).2 (CP hx) fun τ xs e => by subst e; cases hx⟩
  ·cases h
 ·split at h
  ·rename_i s hx; exact ⟨s, h, .same (Iw hx).1 (Iw hx).2 (CR hx) fun τ xs e => by subst e; cases hx⟩
  ·cases h
 ·split at h
  ·rename_i n m v; split at h
   ·rename_i y hy; obtain ⟨e, hy⟩ := il hy; cases e; subst hy; exact ⟨v, h, ⟨rfl, LeL.refl _, fun _ => rfl, fun hn => absurd rfl (hn _), (fun n e => by cases e; rfl), fun τ xs e => by cases e⟩⟩
   ·cases h
  ·cases h
 ·split at h
  ·rename_i t' xs fl hx; split at h
   ·cases h
   ·rename_i hfe; split at h
    ·rename_i ys hy; obtain ⟨e, hy⟩ := il hy; injection e with e; subst e; subst hy; obtain ⟨g1, g2, g3⟩ := LH hx; have hle : x.d.le (.list (t'.bd P G S).w (xs.map (t'.bd P G S).cells) false) := by rw [g2]; exact rB _ _ _
     have hex : ex = true -> x.d = .list (t'.bd P G S).w (xs.map (t'.bd P G S).cells) false := fun he => by
      rw [g2]; subst he; cases fl
      ·rfl
      ·exact absurd rfl hfe
     exact ⟨xs, h, ⟨g1, by rw [g3]; exact .cons hle .nil, fun he => by rw [g3, hex he]; rfl, fun _ => ⟨hle, hex⟩, (fun n e => by cases e), fun τ ys e => by subst e; cases hx; exact dif_pos rfl⟩⟩
    ·cases h
  ·split at h
   ·split at h
    ·cases h
    ·rename_i he; exact ⟨[], h, ⟨rfl, .cons (ck _ _ _) .nil, fun e => absurd e he, fun _ => ⟨ck _ _ _, fun e => absurd e he⟩, (fun n e => by cases e), fun τ xs e => by cases e⟩⟩
   ·cases h
 ·split at h
  ·rename_i a b a' b' v; split at h
   ·rename_i y hy; obtain ⟨e, hy⟩ := il hy; cases e; subst hy; exact ⟨v, h, .same rfl rfl rfl fun τ xs e => by cases e⟩
   ·cases h
  ·cases h
 ·cases h
def GD (f : (t : Ty) -> List (X P G S) -> (Den P G S t -> List (X P G S) -> Option R) -> Option R) : (ts : List Ty) -> List (X P G S) -> (Den P G S (Ty.tup ts) -> List (X P G S) -> Option R) -> Option R
 | [], cs, K => K () cs
 | [t], cs, K => f t cs K
 | t :: u :: ts, cs, K => f t cs fun v r => GD f (u :: ts) r fun vs r' => K (v, vs) r'
def SX.dec (M : SX P G S) (ex : Bool) : Nat -> (t : Ty) -> List (X P G S) -> (Den P G S t -> List (X P G S) -> Option R) -> Option R
 | n + 1, .nm i, cs, K => GD (SX.dec M ex n) (M.fs i) cs fun y r => K (M.im i y) r
 | _, t, x :: r, K => zz ex t x fun v => K v r
 | _, _, [], _ => none
structure DecS (ex : Bool) (cs rest : List (X P G S)) (c : List D) : Prop where
 ex : ∃ pre, cs = pre ++ rest /\ X.allD pre = true /\ LeL (X.cs pre) c /\ (ex = true -> X.cs pre = c)
theorem BT {ex : Bool} {f : (t : Ty) -> List (X P G S) -> (Den P G S t -> List (X P G S) -> Option R) -> Option R} (hf : ∀ t cs K r, f t cs K = some r -> ∃ v rest, K v rest = some r /\ DecS ex cs rest ((t.bd P G S).cells v)) :
  ∀ (ts : List Ty) (cs : List (X P G S)) (K : Den P G S (Ty.tup ts) -> List (X P G S) -> Option R) (r : R), GD f ts cs K = some r -> ∃ v rest, K v rest = some r /\ DecS ex cs rest (nC ts v)
 | [], cs, K, r, h => ⟨(), cs, h, ⟨[], rfl, rfl, .nil, fun _ => rfl⟩⟩
 | [t], cs, K, r, h => hf t cs K r h
 | t :: u :: ts, cs, K, r, h => by
  obtain ⟨v, r1, h1, ⟨p1, e1, d1, l1, x1⟩⟩ := hf t cs _ r h; obtain ⟨vs, r2, h2, ⟨p2, e2, d2, l2, x2⟩⟩ := BT hf (u :: ts) r1 _ r h1; refine ⟨(v, vs), r2, h2, ⟨p1 ++ p2, by rw [e1, e2, List.append_assoc], by rw [mc, d1, d2]; rfl, ?_, fun he => ?_⟩⟩
  ·rw [mo]; exact l1.append l2
  ·rw [mo, x1 he, x2 he]; rfl
theorem SX.Ok.dec {M : SX P G S} (hM : M.Ok) {ex : Bool} : ∀ (n : Nat) (t : Ty) (cs : List (X P G S)) (K : Den P G S t -> List (X P G S) -> Option R) (r : R), M.dec ex n t cs K = some r -> ∃ v rest, K v rest = some r /\ DecS ex cs rest ((t.bd P G S).cells v) := by
 intro n
 induction n with
 | zero =>
  intro t cs K r h; unfold SX.dec at h; split at h
  ·rename_i e; cases e
  ·obtain ⟨v, h1, h2⟩ := sN h; exact ⟨v, _, h1, ⟨[_], rfl, by show (_ && true) = true; rw [h2.d]; rfl, by rw [jX]; exact h2.c, fun he => by rw [jX]; exact h2.ec he⟩⟩
  ·cases h
 | succ n ih =>
  intro t cs K r h; unfold SX.dec at h; split at h
  ·rename_i m i k e; cases e; obtain ⟨v, rest, h1, h2⟩ := BT ih (M.fs i) _ _ r h; refine ⟨_, rest, h1, ?_⟩; have e : ((Ty.nm i).bd P G S).cells (M.im i v) = nC (M.fs i) v := hM.im i v; rw [e]; exact h2
  ·obtain ⟨v, h1, h2⟩ := sN h; exact ⟨v, _, h1, ⟨[_], rfl, by show (_ && true) = true; rw [h2.d]; rfl, by rw [jX]; exact h2.c, fun he => by rw [jX]; exact h2.ec he⟩⟩
  ·cases h
def SX.decV (M : SX P G S) (ex : Bool) (t : Ty) (x : X P G S) (K : Den P G S t -> Option R) : Option R :=
 match t with
 | .nm i => (match x with
  | .agg cs => if X.ws cs = S.w i then M.dec ex 8 (.nm i) cs fun v rest => if rest.isEmpty then K v else none else none
  | _ => none)
 | .vec n => (match x with
  | .agg [y] => zz ex (.vec n) y K
  | _ => none)
 | t => zz ex t x K
structure DecV (ex : Bool) (t : Ty) (x : X P G S) (v : Den P G S t) : Prop where
 d : x.isD = true
 o : x.d.le ((t.bd P G S).one v)
 e : ex = true -> x.d = (t.bd P G S).one v
 l : ∀ τ xs, x = .s (.lst τ) xs -> jK (.lst τ) t xs = some v
 c : x.one = true -> LeL x.c ((t.bd P G S).cells v)
theorem SX.Ok.decV {M : SX P G S} (hM : M.Ok) {ex : Bool} {t : Ty} {x : X P G S} {K : Den P G S t -> Option R} {r : R} (h : M.decV ex t x K = some r) : ∃ v, K v = some r /\ DecV ex t x v := by
 unfold SX.decV at h; split at h
 ·rename_i i K; split at h
  ·rename_i cs; split at h
   ·rename_i hw; obtain ⟨v, rest, h1, ⟨pre, e, hd, hl, hx⟩⟩ := hM.dec _ _ _ _ _ h; split at h1
    ·rename_i hr; have hr : rest = [] := List.isEmpty_iff.1 hr; subst hr; rw [List.append_nil] at e; subst e; refine ⟨v, h1, ⟨hd, ?_, fun he => ?_, ?_, ?_⟩⟩
     ·show D.le (.agg (X.ws cs) (X.cs cs)) (.agg (S.w i) (S.row i v)); rw [hw]; exact rA hl
     ·show D.agg (X.ws cs) (X.cs cs) = .agg (S.w i) (S.row i v); rw [hw, hx he]; rfl
     ·exact fun τ xs e => by cases e
     ·exact fun h => by cases h
    ·cases h1
   ·cases h
  ·cases h
 ·rename_i n K; split at h
  ·rename_i y; obtain ⟨v, h1, h2⟩ := sN h; have hw : y.w = n := h2.w n rfl; refine ⟨v, h1, ⟨by show (y.isD && true) = true; rw [h2.d]; rfl, ?_, fun he => ?_, ?_, ?_⟩⟩
   ·show D.le (.agg (y.w + 0) (X.cs [y])) (.agg n (ay v.l)); rw [hw, jX]; exact rA h2.c
   ·show D.agg (y.w + 0) (X.cs [y]) = .agg n (ay v.l); rw [hw, jX, h2.ec he]; rfl
   ·exact fun τ xs e => by cases e
   ·exact fun h => by cases h
  ·cases h
 ·rename_i hn1 hn2; obtain ⟨v, h1, h2⟩ := sN h; obtain ⟨g1, g2⟩ := h2.o fun n e => by subst e; exact hn2 _ _ rfl HEq.rfl
  exact ⟨v, h1, ⟨h2.d, g1, g2, h2.l, fun _ => h2.c⟩⟩
end
end
end Go.Proofs.YtaclinnjekdgoaaDoor
