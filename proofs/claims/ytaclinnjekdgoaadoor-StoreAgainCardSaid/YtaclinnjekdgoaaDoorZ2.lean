/-
  Lemmas, part 2 of 8: walks through the program's functions, and plain Lean about what they compute.
-/
import Derived.OrdersIn
import Derived.TacticsIn
import Derived.Great.FillDense
import Derived.Laws.BytesString
import Derived.Laws.StructEq
import Derived.RangeFuncLeaves
import Derived.RangeFuncFrom
import Derived.Laws.AppendOwn
import Derived.ArgAppend
import Derived.RangeFuncBox
import Derived.Laws.MakeOwn
import Derived.Test.YtaclinnjekdgoaaDoorZ1
set_option linter.unnecessarySimpa false
set_option linter.unusedSimpArgs false
set_option linter.unusedVariables false
set_option maxRecDepth 100000
namespace Go.Proofs.YtaclinnjekdgoaaDoor
open Go.RowKit
section
inductive D where
 | v (x : Value)
 | list (sz : Nat) (xs : List (List D)) (full : Bool)
 | agg (n : Nat) (xs : List D)
 | tup (xs : List D)
 | ptr (n : Nat) (row : List D)
 | fn (f : FuncId) (caps : List D)
 | map (keys : zLz) (vals : List D)
 deriving Inhabited
abbrev aw := Nat -> Nat -> Value -> Prop
def sb (ks vs : zLz) : Value := .tuple #[.tuple ks.toArray, .tuple vs.toArray]
inductive Cl where
 | one (d : D) (v : Value)
 | vals (ds : List D) (vs : zLz)
 | outs (ds : List D) (vs : zLz)
 | mem (ds : List D) (b off : Nat)
 | rows (xs : List (List D)) (b off sz : Nat)
structure CapB (full : Bool) (a : Option Addr) (n cap : Nat) : Prop where
 le : n <= cap
 full : full = true -> cap = n
 max : cap <= 9223372036854775807
 nil : a = none -> cap = 0
 spot : ∀ x, a = some x -> 0 < cap -> x.spot = none
inductive Rp (C : aw) : Cl -> Prop
 | v (x : Value) : Rp C (.one (.v x) x)
 | nil (sz : Nat) (full : Bool) (a : Option Addr) (cap : Nat) : CapB full a 0 cap -> Rp C (.one (.list sz [] full) (.slice a 0 cap))
 | list (sz : Nat) (xs : List (List D)) (full : Bool) (b off cap : Nat) : xs ≠ [] -> CapB full (some ⟨b, off, none⟩) xs.length cap -> Rp C (.rows xs b off sz) -> Rp C (.one (.list sz xs full) (.slice (some ⟨b, off, none⟩) xs.length cap))
 | agg (n : Nat) (xs : List D) (vs : zLz) : xs.length = n -> Rp C (.vals xs vs) -> Rp C (.one (.agg n xs) (.agg vs.toArray))
 | tup (xs : List D) (vs : zLz) : Rp C (.outs xs vs) -> Rp C (.one (.tup xs) (.tuple vs.toArray))
 | ptr (n : Nat) (row : List D) (b off : Nat) : row.length = n -> Rp C (.mem row b off) -> Rp C (.one (.ptr n row) (.pointer (some ⟨b, off, none⟩)))
 | fn (f : FuncId) (ds : List D) (us : zLz) : Rp C (.outs ds us) -> Rp C (.one (.fn f ds) (.func (.func f) #[] us.toArray))
 | map (ks : zLz) (ds : List D) (us : zLz) (r : Nat) : C r 0 (sb ks us) -> C r 0 (.tuple #[]) -> ks.length = us.length -> Rp C (.outs ds us) -> Rp C (.one (.map ks ds) (.map (some r)))
 | vnil : Rp C (.vals [] [])
 | vcons (d : D) (v : Value) (ds : List D) (vs : zLz) : v.oneCell' = true -> Rp C (.one d v) -> Rp C (.vals ds vs) -> Rp C (.vals (d :: ds) (v :: vs))
 | onil : Rp C (.outs [] [])
 | ocons (d : D) (v : Value) (ds : List D) (vs : zLz) : Rp C (.one d v) -> Rp C (.outs ds vs) -> Rp C (.outs (d :: ds) (v :: vs))
 | mnil (b off : Nat) : Rp C (.mem [] b off)
 | mcons (d : D) (ds : List D) (b off : Nat) (u : Value) : u.oneCell' = true -> C b off u -> Rp C (.one d u) -> Rp C (.mem ds b (off + 1)) -> Rp C (.mem (d :: ds) b off)
 | rnil (b off sz : Nat) : Rp C (.rows [] b off sz)
 | rcons (x : List D) (xs : List (List D)) (b off sz : Nat) : x.length = sz -> Rp C (.mem x b off) -> Rp C (.rows xs b (off + sz) sz) -> Rp C (.rows (x :: xs) b off sz)
abbrev Rep (C : aw) (d : D) (v : Value) : Prop := Rp C (.one d v)
theorem Rp.mono {C C' : aw} (h : ∀ b o u, C b o u -> C' b o u) {c : Cl} (r : Rp C c) : Rp C' c := by
 induction r with
 | v x => exact .v x
 | nil sz full a cap h => exact .nil sz full a cap h
 | list sz xs full b off cap h1 h2 _ ih => exact .list sz xs full b off cap h1 h2 ih
 | agg n xs vs h1 _ ih => exact .agg n xs vs h1 ih
 | tup xs vs _ ih => exact .tup xs vs ih
 | ptr n row b off h1 _ ih => exact .ptr n row b off h1 ih
 | fn f ds us _ ih => exact .fn f ds us ih
 | map ks ds us r h1 h0 h2 _ ih => exact .map ks ds us r (h _ _ _ h1) (h _ _ _ h0) h2 ih
 | vnil => exact .vnil
 | vcons d v ds vs h1 _ _ ih1 ih2 => exact .vcons d v ds vs h1 ih1 ih2
 | onil => exact .onil
 | ocons d v ds vs _ _ ih1 ih2 => exact .ocons d v ds vs ih1 ih2
 | mnil b off => exact .mnil b off
 | mcons d ds b off u h1 h2 _ _ ih1 ih2 => exact .mcons d ds b off u h1 (h _ _ _ h2) ih1 ih2
 | rnil b off sz => exact .rnil b off sz
 | rcons x xs b off sz h1 _ _ ih1 ih2 => exact .rcons x xs b off sz h1 ih1 ih2
section
variable {C : aw}
theorem bz {x y : Value} (h : Rep C (.v x) y) : y = x := by cases h; rfl
theorem jW {sz : Nat} {xs : List (List D)} {f : Bool} {v : Value} (h : Rep C (.list sz xs f) v) : Rep C (.list sz xs false) v := by
 cases h with
 | nil _ _ a cap h => exact .nil sz false a cap ⟨h.1, by simp, h.3, h.4, h.5⟩
 | list _ _ _ b off cap h1 h h4 => exact .list sz xs false b off cap h1 ⟨h.1, by simp, h.3, h.4, h.5⟩ h4
theorem cw {ds : List D} : ∀ {vs : zLz}, Rp C (.vals ds vs) -> vs.length = ds.length := by
 induction ds with
 | nil => intro vs h; cases h; rfl
 | cons d ds ih => intro vs h; cases h with | vcons _ _ _ _ _ _ h => simp [ih h]
theorem rb {ds : List D} : ∀ {vs : zLz}, Rp C (.vals ds vs) -> ∀ v ∈ vs, v.oneCell' = true := by
 induction ds with
 | nil => intro vs h; cases h; simp
 | cons d ds ih =>
  intro vs h; cases h with | vcons _ _ _ _ h1 _ h => intro v hv; exact (List.mem_cons.1 hv).elim (fun e => e ▸ h1) (fun hv => ih h v hv)
theorem fd {ds : List D} : ∀ {vs : zLz}, Rp C (.vals ds vs) -> ∀ (i : Nat) (d : D), ds[i]? = some d -> ∃ v, vs[i]? = some v /\ v.oneCell' = true /\ Rep C d v := by
 induction ds with
 | nil => intro vs _ i d h; simp at h
 | cons d ds ih =>
  intro vs h i d' hi; cases h with
  | vcons _ v _ vs h1 h2 h3 =>
   cases i with
   | zero => simp at hi; subst hi; exact ⟨v, rfl, h1, h2⟩
   | succ i => simpa using ih h3 i d' (by simpa using hi)
theorem tq {ds : List D} : ∀ {vs : zLz}, vs.length = ds.length -> (∀ (i : Nat) (d : D) (v : Value), ds[i]? = some d -> vs[i]? = some v -> v.oneCell' = true /\ Rep C d v) -> Rp C (.vals ds vs) := by
 induction ds with
 | nil => intro vs h _; rw [List.eq_nil_of_length_eq_zero h]; exact .vnil
 | cons d ds ih =>
  intro vs h hall
  match vs, h with
  | v :: vs, h =>
   have h0 := hall 0 d v rfl rfl; exact .vcons d v ds vs h0.1 h0.2 (ih (by simpa using h) fun i d v h1 h2 => hall (i + 1) d v (by simpa using h1) (by simpa using h2))
theorem ff {ds es : List D} : ∀ {vs us : zLz}, Rp C (.vals ds vs) -> Rp C (.vals es us) -> Rp C (.vals (ds ++ es) (vs ++ us)) := by
 induction ds with
 | nil => intro vs us h k; cases h; exact k
 | cons d ds ih => intro vs us h k; cases h with | vcons _ v _ vs h1 h2 h3 => exact .vcons d v _ _ h1 h2 (ih h3 k)
theorem yl {ds : List D} : ∀ {vs : zLz} (n : Nat), Rp C (.vals ds vs) -> Rp C (.vals (ds.take n) (vs.take n)) := by
 induction ds with
 | nil => intro vs n h; cases h; simpa using .vnil
 | cons d ds ih =>
  intro vs n h; cases h with | vcons _ v _ vs h1 h2 h3 =>
   cases n with
   | zero => exact .vnil
   | succ n => exact .vcons d v _ _ h1 h2 (ih n h3)
theorem sK {ds : List D} : ∀ {vs : zLz} (n : Nat), Rp C (.vals ds vs) -> Rp C (.vals (ds.drop n) (vs.drop n)) := by
 induction ds with
 | nil => intro vs n h; cases h; simpa using .vnil
 | cons d ds ih =>
  intro vs n h; cases n with
  | zero => exact h
  | succ n => cases h with | vcons _ v _ vs h1 h2 h3 => exact ih n h3
theorem nQ {ds : List D} : ∀ {vs : zLz}, Rp C (.outs ds vs) -> ∀ (i : Nat) (d : D), ds[i]? = some d -> ∃ v, vs[i]? = some v /\ Rep C d v := by
 induction ds with
 | nil => intro vs _ i d h; simp at h
 | cons d ds ih =>
  intro vs h i d' hi; cases h with
  | ocons _ v _ vs h2 h3 =>
   cases i with
   | zero => simp at hi; subst hi; exact ⟨v, rfl, h2⟩
   | succ i => simpa using ih h3 i d' (by simpa using hi)
theorem lZ {ds : List D} : ∀ {b off : Nat}, Rp C (.mem ds b off) -> ∀ (i : Nat) (d : D), ds[i]? = some d -> ∃ u, C b (off + i) u /\ u.oneCell' = true /\ Rep C d u := by
 induction ds with
 | nil => intro b off _ i d h; simp at h
 | cons d ds ih =>
  intro b off h i d' hi; cases h with
  | mcons _ _ _ _ u h1 h2 h3 h4 =>
   cases i with
   | zero => simp at hi; subst hi; exact ⟨u, h2, h1, h3⟩
   | succ i =>
    obtain ⟨u, a, b, c⟩ := ih h4 i d' (by simpa using hi); exact ⟨u, by rw [show off + (i + 1) = off + 1 + i by omega]; exact a, b, c⟩
theorem ia {ds : List D} : ∀ {b off : Nat}, (∀ (i : Nat) (d : D), ds[i]? = some d -> ∃ u, C b (off + i) u /\ u.oneCell' = true /\ Rep C d u) -> Rp C (.mem ds b off) := by
 induction ds with
 | nil => intro b off _; exact .mnil b off
 | cons d ds ih =>
  intro b off h; obtain ⟨u, h1, h2, h3⟩ := h 0 d rfl; refine .mcons d ds b off u h2 (by simpa using h1) h3 (ih fun i d' hi => ?_); obtain ⟨u, a, b, c⟩ := h (i + 1) d' (by simpa using hi); exact ⟨u, by rw [show off + 1 + i = off + (i + 1) by omega]; exact a, b, c⟩
theorem lY {ds : List D} {b off : Nat} (h : Rp C (.mem ds b off)) (n : Nat) : Rp C (.mem (ds.drop n) b (off + n)) := by
 refine ia fun i d hi => ?_
 rw [List.getElem?_drop] at hi; obtain ⟨u, a, b, c⟩ := lZ h (n + i) d hi; exact ⟨u, by rw [Nat.add_assoc]; exact a, b, c⟩
theorem uf {ds : List D} {b off : Nat} (h : Rp C (.mem ds b off)) (n : Nat) : Rp C (.mem (ds.take n) b off) := by
 refine ia fun i d hi => ?_
 have hin : i < n := by have := (List.getElem?_eq_some_iff.1 hi).1; rw [List.length_take] at this; omega
 rw [List.getElem?_take_of_lt hin] at hi; exact lZ h i d hi
theorem ug {ds : List D} : ∀ {b off : Nat}, Rp C (.mem ds b off) -> ∃ vs, Rp C (.vals ds vs) /\ ∀ (j : Nat) (u : Value), vs[j]? = some u -> C b (off + j) u := by
 induction ds with
 | nil => intro b off _; exact ⟨[], .vnil, by simp⟩
 | cons d ds ih =>
  intro b off h; cases h with
  | mcons _ _ _ _ u h1 h2 h3 h4 =>
   obtain ⟨vs, hv, hc⟩ := ih h4; refine ⟨u :: vs, .vcons d u ds vs h1 h3 hv, fun j x hj => ?_⟩; cases j with
   | zero => simp at hj; subst hj; simpa using h2
   | succ j => rw [show off + (j + 1) = off + 1 + j by omega]; exact hc j x (by simpa using hj)
theorem tI {ds : List D} : ∀ {vs : zLz} {b off : Nat}, Rp C (.vals ds vs) -> (∀ (j : Nat) (u : Value), vs[j]? = some u -> C b (off + j) u) -> Rp C (.mem ds b off) := by
 intro vs b off h hc; refine ia fun i d hi => ?_
 obtain ⟨v, hv, h1, h2⟩ := fd h i d hi; exact ⟨v, hc i v hv, h1, h2⟩
theorem qU {xs : List (List D)} : ∀ {b off sz : Nat}, Rp C (.rows xs b off sz) -> ∀ (i : Nat) (x : List D), xs[i]? = some x -> x.length = sz /\ Rp C (.mem x b (off + i * sz)) := by
 induction xs with
 | nil => intro b off sz _ i x h; simp at h
 | cons x xs ih =>
  intro b off sz h i x' hi; cases h with
  | rcons _ _ _ _ _ h1 h2 h3 =>
   cases i with
   | zero => simp at hi; subst hi; exact ⟨h1, by simpa using h2⟩
   | succ i =>
    have := ih h3 i x' (by simpa using hi); exact ⟨this.1, by rw [Nat.succ_mul, show off + (i * sz + sz) = off + sz + i * sz by omega]; exact this.2⟩
theorem kV {xs : List (List D)} : ∀ {b off sz : Nat}, (∀ (i : Nat) (x : List D), xs[i]? = some x -> x.length = sz /\ Rp C (.mem x b (off + i * sz))) -> Rp C (.rows xs b off sz) := by
 induction xs with
 | nil => intro b off sz _; exact .rnil b off sz
 | cons x xs ih =>
  intro b off sz h; have h0 := h 0 x rfl; refine .rcons x xs b off sz h0.1 (by simpa using h0.2) (ih fun i x' hi => ?_); have := h (i + 1) x' (by simpa using hi); rw [Nat.succ_mul, show off + (i * sz + sz) = off + sz + i * sz by omega] at this; exact this
theorem yb {xs : List (List D)} {b off sz : Nat} (h : Rp C (.rows xs b off sz)) (n : Nat) : Rp C (.rows (xs.drop n) b (off + n * sz) sz) := by
 refine kV fun i x hi => ?_
 rw [List.getElem?_drop] at hi; have := qU h _ _ hi; rw [Nat.add_mul, <- Nat.add_assoc] at this; exact this
theorem yd {xs : List (List D)} {b off sz : Nat} (h : Rp C (.rows xs b off sz)) (n : Nat) : Rp C (.rows (xs.take n) b off sz) := by
 refine kV fun i x hi => ?_
 have hin : i < n := by have := (List.getElem?_eq_some_iff.1 hi).1; rw [List.length_take] at this; omega
 rw [List.getElem?_take_of_lt hin] at hi; exact qU h _ _ hi
theorem yc {xs : List (List D)} : ∀ {b off sz : Nat}, Rp C (.rows xs b off sz) -> xs.flatten.length = xs.length * sz /\ Rp C (.mem xs.flatten b off) := by
 induction xs with
 | nil => intro b off sz _; exact ⟨by simp, .mnil _ _⟩
 | cons x xs ih =>
  intro b off sz h; cases h with
  | rcons _ _ _ _ _ h1 h2 h3 =>
   obtain ⟨k1, k2⟩ := ih h3; refine ⟨by simp [k1, h1, Nat.succ_mul]; omega, ?_⟩; refine ia fun i d hi => ?_
   rw [List.flatten_cons] at hi; rcases Nat.lt_or_ge i x.length with hl | hl
   ·rw [List.getElem?_append_left hl] at hi; exact lZ h2 i d hi
   ·rw [List.getElem?_append_right hl] at hi; obtain ⟨u, a, b, c⟩ := lZ k2 _ _ hi; exact ⟨u, by rw [show off + i = off + sz + (i - x.length) by omega]; exact a, b, c⟩
theorem ES {xs : List (List D)} : ∀ {b off sz : Nat}, (∀ x ∈ xs, x.length = sz) -> Rp C (.mem xs.flatten b off) -> Rp C (.rows xs b off sz) := by
 induction xs with
 | nil => intro b off sz _ _; exact .rnil _ _ _
 | cons x xs ih =>
  intro b off sz hl h; have hx := hl x (by simp); rw [List.flatten_cons] at h; refine .rcons x xs b off sz hx ?_ (ih (fun y hy => hl y (by simp [hy])) ?_)
  ·have := uf h x.length; simpa using this
  ·have := lY h x.length; rw [hx] at this; simpa [<- hx] using this
theorem Rep.elem {sz : Nat} {xs : List (List D)} {f : Bool} {v : Value} (h : Rep C (.list sz xs f) v) : ∃ a cap, v = .slice a xs.length cap /\ CapB f a xs.length cap /\ (xs ≠ [] -> ∃ b off, a = some ⟨b, off, none⟩ /\ Rp C (.rows xs b off sz)) := by
 cases h with
 | nil _ _ a cap h => exact ⟨a, cap, rfl, h, fun h => absurd rfl h⟩
 | list _ _ _ b off cap h1 h2 h4 => exact ⟨_, cap, rfl, h2, fun _ => ⟨b, off, rfl, h4⟩⟩
end
def Mo (w : World) (b : Nat) (u : Value) : Prop := ∃ es clock, w.heap[b]? = some (.map es clock) /\ (u = sb (es.toList.map (·.key)) (es.toList.map (·.val)) \/ u = .tuple #[])
def bG (C : aw) (w : World) : Prop := ∀ b o u, C b o u -> w.cell? ⟨b, o, none⟩ = some u \/ Mo w b u
theorem bG.cell {C : aw} {w : World} (h : bG C w) {b o : Nat} {u : Value} (hc : C b o u) (h1 : u.oneCell' = true) : w.cell? ⟨b, o, none⟩ = some u :=
 (h b o u hc).resolve_right (by rintro ⟨es, c, _, rfl | rfl⟩ <;> cases h1)
structure More (w : World) (C : aw) (w' : World) (C' : aw) : Prop where
 below : Below w.heap.size w w'
 sub : ∀ b o u, C b o u -> C' b o u
 new : ∀ b o u, C' b o u -> C b o u \/ w.heap.size <= b
 known : bG C' w'
theorem bG.lt {C : aw} {w : World} (h : bG C w) {b o : Nat} {u : Value} (hc : C b o u) : b < w.heap.size := by
 rcases h b o u hc with h | ⟨es, c, h, _⟩
 ·exact block_lt_of_cell h
 ·exact (Array.getElem?_eq_some_iff.1 h).1
theorem bG.below {C : aw} {w w' : World} (h : bG C w) (hb : Below w.heap.size w w') : bG C w' := fun b o u hc => by
 have hl := h.lt hc; rcases h b o u hc with h | ⟨es, c, h, e⟩
 ·exact .inl ((hb.cell (p := ⟨b, o, none⟩) hl).trans h)
 ·exact .inr ⟨es, c, (hb.block b hl).trans h, e⟩
theorem More.refl {w : World} {C : aw} (h : bG C w) : More w C w C := ⟨Below.refl _ _, fun _ _ _ h => h, fun _ _ _ h => .inl h, h⟩
theorem More.of_below {w w' : World} {C : aw} (h : bG C w) (hb : Below w.heap.size w w') : More w C w' C := ⟨hb, fun _ _ _ h => h, fun _ _ _ h => .inl h, h.below hb⟩
theorem More.trans {w w' w'' : World} {C C' C'' : aw} (h : More w C w' C') (k : More w' C' w'' C'') : More w C w'' C'' :=
 ⟨h.below.trans (k.below.mono h.below.size), fun b o u hc => k.sub _ _ _ (h.sub _ _ _ hc), fun b o u hc => (k.new b o u hc).elim (h.new b o u) fun hb => .inr (Nat.le_trans h.below.size hb), k.known⟩
def ft (es : Nat) : Nat -> List D -> List (List D)
 | 0, _ => []
 | n + 1, r => r.take es :: ft es n (r.drop es)
theorem uQ {C : aw} {es b : Nat} : ∀ (n : Nat) {r : List D} {off : Nat}, n * es <= r.length -> Rp C (.mem r b off) -> Rp C (.rows (ft es n r) b off es) /\ (ft es n r).length = n := by
 intro n
 induction n with
 | zero => intro r off _ _; exact ⟨.rnil _ _ _, rfl⟩
 | succ n ih =>
  intro r off hl hm; rw [Nat.succ_mul] at hl; obtain ⟨h1, h2⟩ := ih (r := r.drop es) (by simp; omega) (lY hm es); exact ⟨.rcons _ _ _ _ _ (by simp; omega) (uf hm es) h1, by simp [ft, h2]⟩
abbrev zRz := List (List D)
abbrev zGz := Nat -> Option D
end
section
inductive Cap where
 | d (x : D)
 | r (l off : Nat)
 | s (l n : Nat)
 | m (l : Nat)
 deriving Inhabited
inductive V where
 | d (x : D)
 | ref (l i off : Nat)
 | sref (l lo len : Nat)
 | aref (l i off es len cap : Nat)
 | mix (tup : Bool) (l n : Nat) (rest : List D)
 | any
 | gh (m : Nat)
 | mp (ks : zLz) (ds : List D)
 | omap (l : Nat)
 | clo (f : FuncId) (first caps : List Cap)
 | agr (tup : Bool) (cs : List Cap)
 deriving Inhabited
structure Place where
 b : Nat
 cap : Nat
 sz : Nat
structure Blk where
 sz : Nat
 rows : List (List V)
def Blk.isMap (k : Blk) : Bool := match k.rows with
 | [[.mp _ _]] => true
 | _ => false
theorem fp {k : Blk} (h : ∀ ks ds, k.rows ≠ [[.mp ks ds]]) : k.isMap = false := by
 unfold Blk.isMap; split
 ·rename_i e; exact absurd e (h _ _)
 ·rfl
def mpV (ks vs : zLz) : Value := .func (.func 0) ks.toArray vs.toArray
def fr (μ : Nat -> Option Place) (C : aw) : Cap -> Value -> Prop
 | .d x, v => Rep C x v
 | .r l off, v => ∃ p, μ l = some p /\ 0 < p.cap /\ v = .pointer (some ⟨p.b, off, none⟩)
 | .s l n, v => ∃ p a, μ l = some p /\ v = .slice a n p.cap /\ n <= p.cap /\ (0 < p.cap -> a = some ⟨p.b, 0, none⟩)
 | .m l, v => ∃ p, μ l = some p /\ 0 < p.cap /\ v = .map (some p.b)
def fe (μ : Nat -> Option Place) (C : aw) : List Cap -> zLz -> Prop
 | [], vs => vs = []
 | c :: cs, vs => ∃ v us, vs = v :: us /\ fr μ C c v /\ fe μ C cs us
theorem fe.imp {μ μ' : Nat -> Option Place} {C C' : aw} {g : Cap -> Cap} : ∀ {cs : List Cap} {vs : zLz}, (∀ c ∈ cs, ∀ v, fr μ C c v -> fr μ' C' (g c) v) -> fe μ C cs vs -> fe μ' C' (cs.map g) vs
 | [], _, _, h => h
 | _ :: _, _, h, ⟨v, us, e, h1, h2⟩ => ⟨v, us, e, h _ (by simp) v h1, fe.imp (fun c hc => h c (by simp [hc])) h2⟩
theorem fe.imp' {μ μ' : Nat -> Option Place} {C C' : aw} {cs : List Cap} {vs : zLz} (h : ∀ c ∈ cs, ∀ v, fr μ C c v -> fr μ' C' c v) (k : fe μ C cs vs) : fe μ' C' cs vs := by
 have := k.imp (g := id) h; rwa [List.map_id] at this
def Cap.free (l : Nat) : Cap -> Bool
 | .d _ => true
 | .r l' _ => l' != l
 | .s l' _ => l' != l
 | .m l' => l' != l
def Cap.lt (n : Nat) : Cap -> Bool
 | .d _ => true
 | .r l _ => decide (l < n)
 | .s l _ => decide (l < n)
 | .m l => decide (l < n)
def Cap.ren (σ : Nat -> Nat) : Cap -> Cap
 | .d x => .d x
 | .r l off => .r (σ l) off
 | .s l n => .s (σ l) n
 | .m l => .m (σ l)
def ax (μ : Nat -> Option Place) (C : aw) : V -> Value -> Prop
 | .d x, v => Rep C x v
 | .ref l i off, v => ∃ p, μ l = some p /\ 0 < p.cap /\ v = .pointer (some ⟨p.b, i * p.sz + off, none⟩)
 | .sref l lo len, v => ∃ p a, μ l = some p /\ v = .slice a len (p.cap - lo) /\ lo + len <= p.cap /\ (lo < p.cap -> a = some ⟨p.b, lo * p.sz, none⟩)
 | .aref l i off es len cap, v => ∃ p a, μ l = some p /\ 0 < p.cap /\ v = .slice (some a) len cap /\ len <= cap /\ cap <= 9223372036854775807 /\ (0 < cap -> a = ⟨p.b, i * p.sz + off, none⟩)
 | .mix tup l n rest, v => ∃ p a us, μ l = some p /\ n <= p.cap /\ (0 < p.cap -> a = some ⟨p.b, 0, none⟩) /\ (if tup = true then Rp C (.outs rest us) /\ v = .tuple (.slice a n p.cap :: us).toArray else Rp C (.vals rest us) /\ v = .agg (.slice a n p.cap :: us).toArray)
 | .any, _ => True
 | .gh m, _ => ∃ sz, μ 0 = some ⟨m, 0, sz⟩
 | .mp ks ds, v => ∃ us, v = mpV ks us /\ ks.length = us.length /\ Rp C (.outs ds us)
 | .omap l, v => ∃ p, μ l = some p /\ 0 < p.cap /\ v = .map (some p.b)
 | .clo f first caps, v => ∃ us ws, v = .func (.func f) us.toArray ws.toArray /\ fe μ C first us /\ fe μ C caps ws
 | .agr tup cs, v => ∃ us, fe μ C cs us /\ (if tup = true then v = .tuple us.toArray else v = .agg us.toArray /\ ∀ u ∈ us, u.oneCell' = true)
theorem fr.mono {μ μ' : Nat -> Option Place} {C C' : aw} (hμ : ∀ l p, μ l = some p -> μ' l = some p) (hC : ∀ b o u, C b o u -> C' b o u) {x : Cap} {v : Value} (h : fr μ C x v) : fr μ' C' x v := by
 cases x with
 | d x => exact Rp.mono hC h
 | r l off => obtain ⟨p, h1, h2⟩ := h; exact ⟨p, hμ _ _ h1, h2⟩
 | s l n => obtain ⟨p, a, h1, h2⟩ := h; exact ⟨p, a, hμ _ _ h1, h2⟩
 | m l => obtain ⟨p, h1, h2⟩ := h; exact ⟨p, hμ _ _ h1, h2⟩
theorem ax.mono {μ μ' : Nat -> Option Place} {C C' : aw} (hμ : ∀ l p, μ l = some p -> μ' l = some p) (hC : ∀ b o u, C b o u -> C' b o u) {x : V} {v : Value} (h : ax μ C x v) : ax μ' C' x v := by
 cases x with
 | d x => exact Rp.mono hC h
 | ref l i off => obtain ⟨p, h1, h2⟩ := h; exact ⟨p, hμ _ _ h1, h2⟩
 | sref l lo len => obtain ⟨p, a, h1, h2⟩ := h; exact ⟨p, a, hμ _ _ h1, h2⟩
 | aref l i off es len cap => obtain ⟨p, a, h1, h2⟩ := h; exact ⟨p, a, hμ _ _ h1, h2⟩
 | mix tup l n rest =>
  obtain ⟨p, a, us, h1, h2, h3, h4⟩ := h; refine ⟨p, a, us, hμ _ _ h1, h2, h3, ?_⟩; split
  ·rename_i ht; rw [if_pos ht] at h4; exact ⟨Rp.mono hC h4.1, h4.2⟩
  ·rename_i ht; rw [if_neg ht] at h4; exact ⟨Rp.mono hC h4.1, h4.2⟩
 | any => trivial
 | gh m => obtain ⟨sz, h⟩ := h; exact ⟨sz, hμ _ _ h⟩
 | mp ks ds => obtain ⟨us, h1, h2, h3⟩ := h; exact ⟨us, h1, h2, Rp.mono hC h3⟩
 | omap l => obtain ⟨p, h1, h2⟩ := h; exact ⟨p, hμ _ _ h1, h2⟩
 | clo f first caps => obtain ⟨us, ws, h1, h2, h3⟩ := h; exact ⟨us, ws, h1, h2.imp' fun _ _ _ h => h.mono hμ hC, h3.imp' fun _ _ _ h => h.mono hμ hC⟩
 | agr tup cs => obtain ⟨us, h1, h2⟩ := h; exact ⟨us, h1.imp' fun _ _ _ h => h.mono hμ hC, h2⟩
def look {α : Type} : List (Nat × α) -> Nat -> Option α
 | [], _ => none
 | (k, x) :: r, i => if k = i then some x else look r i
def rep {α : Type} : List (Nat × α) -> Nat -> α -> List (Nat × α)
 | [], _, _ => []
 | (k, x) :: r, i, y => if k = i then (k, y) :: r else (k, x) :: rep r i y
theorem cg {α : Type} (l : List (Nat × α)) (i j : Nat) (y : α) : look (rep l i y) j = if j = i then (look l i).map fun _ => y else look l j := by
 induction l with
 | nil => simp [rep, look]
 | cons e r ih =>
  obtain ⟨k, x⟩ := e; by_cases hk : k = i
  ·subst hk; by_cases hj : j = k
   ·subst hj; simp [rep, look]
   ·simp [rep, look, hj, Ne.symm hj]
  ·by_cases hj : k = j
   ·subst hj; simp [rep, look, hk]
   ·simp only [rep, if_neg hk, look, if_neg hj, ih]
theorem Bq {α : Type} (l : List (Nat × α)) (p : Nat × α -> Bool) (j : Nat) (x : α) (hp : ∀ e ∈ l, ∀ e' ∈ l, e.1 = e'.1 -> p e = p e') (h : look (l.filter p) j = some x) : look l j = some x := by
 induction l with
 | nil => simp [look] at h
 | cons e r ih =>
  obtain ⟨k, y⟩ := e; have ih' := ih fun e he e' he' => hp e (by simp [he]) e' (by simp [he'])
  by_cases hpe : p (k, y) = true
  ·rw [List.filter_cons_of_pos hpe] at h; simp only [look] at h ⊢; split
   ·rename_i hk; rw [if_pos hk] at h; exact h
   ·rename_i hk; rw [if_neg hk] at h; exact ih' h
  ·rw [List.filter_cons_of_neg hpe] at h; have := ih' h; simp only [look]; rw [if_neg ?_]; exact this; intro hk; subst hk; have hm : ∀ (r : List (Nat × α)) (x : α), look r k = some x -> (k, x) ∈ r := by
    intro r
    induction r with
    | nil => intro x h; simp [look] at h
    | cons e r ih =>
     obtain ⟨k', y'⟩ := e; intro x h; simp only [look] at h; split at h
     ·rename_i hk; cases h; subst hk; simp
     ·exact List.mem_cons_of_mem _ (ih x h)
   have h1 := hm _ _ h; rw [List.mem_filter] at h1; have := hp (k, y) (by simp) (k, x) (by simp [h1.1]) rfl; exact hpe (this.trans h1.2)
structure St where
 env : List (Nat × V)
 h : List (Nat × Blk)
 nx : Nat
def eC (h : List (Nat × Blk)) (μ : Nat -> Option Place) (b : Nat) : Prop := ∃ l k p, look h l = some k /\ μ l = some p /\ 0 < p.cap /\ p.b = b
structure Turn (n0 : Nat) (h : List (Nat × Blk)) (μ : Nat -> Option Place) (C : aw) (w : World) (h' : List (Nat × Blk)) (μ' : Nat -> Option Place) (C' : aw) (w' : World) : Prop where
 os : w'.os = w.os
 tape : w'.tape = w.tape
 output : w'.output = w.output
 size : w.heap.size <= w'.heap.size
 low : ∀ l p, l < n0 -> μ l = some p -> μ' l = some p
 dom : ∀ l, (look h' l).isSome = true -> (look h l).isSome = true \/ μ l = none
 block : ∀ b, b < w.heap.size -> ¬ eC h μ b -> w'.heap[b]? = w.heap[b]?
 own : ∀ b, eC h' μ' b -> eC h μ b \/ w.heap.size <= b
 sub : ∀ b o u, C b o u -> C' b o u
 new : ∀ b o u, C' b o u -> C b o u \/ eC h μ b \/ w.heap.size <= b
 known : bG C' w'
structure Fr where
 P : Program
 N : Nat
 w0 : World
 C0 : aw
 own : Nat -> Prop
 rd : Option Nat
 n0 : Nat
 df : List FuncId
 G : List Deferred -> List (Nat × Blk) -> (Nat -> Option Place) -> aw -> World -> Prop
 stab : ∀ {ds h μ C w h' μ' C' w'}, G ds h μ C w -> Turn n0 h μ C w h' μ' C' w' -> G ds h' μ' C' w'
def Fr.mine (F : Fr) (b : Nat) : Prop := F.w0.heap.size <= b \/ F.own b
def Fr.top (F : Fr) : Prop := F.rd = none /\ ∀ ds h μ C w ds' C' w', F.G ds h μ C w -> F.G ds' h μ C' w'
structure Kept (own : Nat -> Prop) (w w' : World) : Prop where
 os : w'.os = w.os
 tape : w'.tape = w.tape
 output : w'.output = w.output
 size : w.heap.size <= w'.heap.size
 block : ∀ k, k < w.heap.size -> ¬ own k -> w'.heap[k]? = w.heap[k]?
theorem Kept.refl (own : Nat -> Prop) (w : World) : Kept own w w := ⟨rfl, rfl, rfl, Nat.le_refl _, fun _ _ _ => rfl⟩
theorem Kept.trans {own : Nat -> Prop} {w w' w'' : World} (h : Kept own w w') (k : Kept own w' w'') : Kept own w w'' := ⟨k.os.trans h.os, k.tape.trans h.tape, k.output.trans h.output, Nat.le_trans h.size k.size, fun i hi hn => (k.block i (Nat.lt_of_lt_of_le hi h.size) hn).trans (h.block i hi hn)⟩
theorem Kept.mono {own own' : Nat -> Prop} {w w' : World} (h : Kept own w w') (hs : ∀ b, own b -> own' b) : Kept own' w w' := ⟨h.os, h.tape, h.output, h.size, fun k hk hn => h.block k hk fun e => hn (hs k e)⟩
theorem Kept.of_below {own : Nat -> Prop} {w w' : World} (h : Below w.heap.size w w') : Kept own w w' := ⟨h.os, h.tape, h.output, h.size, fun k hk _ => h.block k hk⟩
theorem Kept.below {w w' : World} (h : Kept (fun _ => False) w w') : Below w.heap.size w w' := ⟨h.os, h.tape, h.output, h.size, fun k hk => h.block k hk id⟩
theorem Kept.grown {own : Nat -> Prop} {w w' w'' : World} {row : Option Nat} (h : Kept own w w') (hg : w'.grownBy w'' row) (hr : ∀ k, row = some k -> w.heap.size <= k \/ own k) : Kept own w w'' :=
 ⟨hg.os.trans h.os, hg.tape.trans h.tape, hg.output.trans h.output, Nat.le_trans h.size hg.size, fun k hk hn => by
  rw [hg.block k (Nat.lt_of_lt_of_le hk h.size) (fun e => by
   rcases hr k e.symm with h1 | h1
   ·omega
   ·exact hn h1)]
  exact h.block k hk hn⟩
structure Marks (df : List FuncId) (b : Nat) (w : World) (ds : List Deferred) : Prop where
 nodup : ds.Nodup
 each : ∀ d ∈ ds, (∃ f ∈ df, d = { target := .fn (.func f) #[], args := #[] }) \/ ∃ q : Nat, d = { target := .collected q, args := #[] } /\ b <= q /\ w.heap[q]? = some (Obj.deferred (some []))
theorem Marks.nil {df : List FuncId} (b : Nat) (w : World) : Marks df b w [] := ⟨by simp, by simp⟩
theorem Marks.step {df : List FuncId} {b : Nat} {w w' : World} {ds : List Deferred} (h : Marks df b w ds) (k : ∀ q : Nat, ({ target := .collected q, args := #[] } : Deferred) ∈ ds -> w.heap[q]? = some (Obj.deferred (some [])) -> w'.heap[q]? = some (Obj.deferred (some []))) : Marks df b w' ds :=
 ⟨h.nodup, fun d hd => (h.each d hd).imp id fun ⟨q, h1, h2, h3⟩ => ⟨q, h1, h2, k q (h1 ▸ hd) h3⟩⟩
theorem Marks.below {df : List FuncId} {b : Nat} {w w' : World} {ds : List Deferred} (h : Marks df b w ds) (k : Below w.heap.size w w') : Marks df b w' ds :=
 h.step fun q _ hD => (k.block q (Array.getElem?_eq_some_iff.1 hD).1).trans hD
theorem Marks.mark {df : List FuncId} {b : Nat} {w : World} {ds : List Deferred} (h : Marks df b w ds) {q : Nat} (hq : ({ target := .collected q, args := #[] } : Deferred) ∈ ds) : b <= q /\ w.heap[q]? = some (Obj.deferred (some [])) := by
 rcases h.each _ hq with ⟨f, _, e⟩ | ⟨q', e, h1, h2⟩
 ·injection e with e1 _; cases e1
 ·injection e with e1 _; injection e1 with e2; subst e2; exact ⟨h1, h2⟩
def jD (m : Bool) (w : World) (b : Nat) (cur : Array Value) (T : TypeId) : Prop :=
 if m then ∃ es clock, w.heap[b]? = some (.map es clock) /\ cur = #[mpV (es.toList.map (·.key)) (es.toList.map (·.val))] else w.heap[b]? = some (.cells cur T (0, 0))
theorem jD.of_eq {m : Bool} {w w' : World} {b : Nat} {cur : Array Value} {T : TypeId} (h : jD m w b cur T) (e : w'.heap[b]? = w.heap[b]?) : jD m w' b cur T := by
 unfold jD at h ⊢; rw [e]; exact h
theorem jD.lt {m : Bool} {w : World} {b : Nat} {cur : Array Value} {T : TypeId} (h : jD m w b cur T) : b < w.heap.size := by
 unfold jD at h; split at h
 ·obtain ⟨_, _, h, _⟩ := h; exact (Array.getElem?_eq_some_iff.1 h).1
 ·exact (Array.getElem?_eq_some_iff.1 h).1
theorem jD.not {m : Bool} {w : World} {b : Nat} {cur : Array Value} {T : TypeId} (h : jD m w b cur T) {o : Obj} (ho : w.heap[b]? = some o) : (∀ ds, o ≠ .deferred ds) /\ (∀ r, o ≠ .loop r) := by
 unfold jD at h; split at h
 ·obtain ⟨_, _, h, _⟩ := h; rw [ho] at h; cases h; exact ⟨by simp, by simp⟩
 ·rw [ho] at h; cases h; exact ⟨by simp, by simp⟩
theorem jD.cells {w : World} {b : Nat} {cur : Array Value} {T : TypeId} (h : jD false w b cur T) : w.heap[b]? = some (.cells cur T (0, 0)) := h
def gO (μ : Nat -> Option Place) (C : aw) (sz : Nat) (rows : List (List V)) (cur : zLz) : Prop :=
 ∀ (i : Nat) (r : List V), rows[i]? = some r -> ∀ (j : Nat) (x : V), r[j]? = some x -> ∃ u, cur[i * sz + j]? = some u /\ u.oneCell' = true /\ ax μ C x u
structure BlkOk (mine : Nat -> Prop) (μ : Nat -> Option Place) (C : aw) (w : World) (p : Place) (k : Blk) : Prop where
 sz : p.sz = k.sz
 len : k.rows.length <= p.cap
 max : p.cap <= 9223372036854775807
 row : ∀ r ∈ k.rows, r.length = k.sz
 cells : 0 < p.cap -> mine p.b /\ (∀ o u, ¬ C p.b o u) /\ ∃ cur T, jD k.isMap w p.b cur T /\ cur.size = p.cap * p.sz /\ gO μ C k.sz k.rows cur.toList
structure Sim (F : Fr) (st : St) (μ : Nat -> Option Place) (C : aw) (a : Act) (w : World) : Prop where
 size : a.tmps.size = F.N
 defers : Marks F.df F.w0.heap.size w a.defers
 below : Kept F.own F.w0 w
 sub : ∀ b o u, F.C0 b o u -> C b o u
 new : ∀ b o u, C b o u -> F.C0 b o u \/ F.mine b
 known : bG C w
 env : ∀ t x, look st.env t = some x -> ax μ C x (a.tmps.getD t undef)
 heap : ∀ l k, look st.h l = some k -> ∃ p, μ l = some p /\ BlkOk F.mine μ C w p k
 inj : ∀ l l' p p', (look st.h l).isSome = true -> (look st.h l').isSome = true -> μ l = some p -> μ l' = some p' -> 0 < p.cap -> 0 < p'.cap -> p.b = p'.b -> l = l'
 nx : ∀ l, st.nx <= l -> μ l = none
 gh : F.G a.defers st.h μ C w
section
variable {F : Fr} {st : St} {μ : Nat -> Option Place} {C : aw} {a : Act} {w : World}
theorem gO.mono {μ' : Nat -> Option Place} {C' : aw} (hμ : ∀ l p, μ l = some p -> μ' l = some p) (hC : ∀ b o u, C b o u -> C' b o u) {sz : Nat} {rows : List (List V)} {cur : zLz} (h : gO μ C sz rows cur) : gO μ' C' sz rows cur := by
 intro i r hr j x hx; obtain ⟨u, h1, h2, h3⟩ := h i r hr j x hx; exact ⟨u, h1, h2, h3.mono hμ hC⟩
theorem BlkOk.lt {mine : Nat -> Prop} {p : Place} {k : Blk} (h : BlkOk mine μ C w p k) (hc : 0 < p.cap) : p.b < w.heap.size := by
 obtain ⟨_, _, cur, T, hh, _⟩ := h.cells hc; exact hh.lt
theorem Sim.more {w' : World} {C' : aw} (h : Sim F st μ C a w) (m : More w C w' C') : Sim F st μ C' a w' where
 size := h.size
 defers := h.defers.below m.below
 below := h.below.trans (.of_below m.below)
 sub b o u hc := m.sub _ _ _ (h.sub _ _ _ hc)
 new b o u hc := (m.new _ _ _ hc).elim (h.new b o u) fun hb => .inr (.inl (Nat.le_trans h.below.size hb))
 known := m.known
 env t x hx := (h.env t x hx).mono (fun _ _ h => h) m.sub
 heap l k hk := by
  obtain ⟨p, hp, hb⟩ := h.heap l k hk; refine ⟨p, hp, hb.sz, hb.len, hb.max, hb.row, fun hc => ?_⟩; obtain ⟨h1, h2, cur, T, h3, h4, h5⟩ := hb.cells hc; have hlt := hb.lt hc; refine ⟨h1, fun o u hcu => ?_, cur, T, h3.of_eq (m.below.block _ hlt), h4, h5.mono (fun _ _ h => h) m.sub⟩; rcases m.new _ _ _ hcu with hcu | hge
  ·exact h2 o u hcu
  ·omega
 inj := h.inj
 nx := h.nx
 gh := F.stab h.gh ⟨m.below.os, m.below.tape, m.below.output, m.below.size, fun _ _ _ h => h, fun _ h => .inl h, fun b hb _ => m.below.block b hb, fun _ h => .inl h, m.sub, fun b o u hc => (m.new b o u hc).imp id .inr, m.known⟩
theorem gJ (a : Act) (t s : Tmp) (v : Value) (ht : t < a.tmps.size) : (a.put (some t) v).tmps.getD s undef = if s = t then v else a.tmps.getD s undef := by
 simp only [Act.put, Array.getD_eq_getD_getElem?, Array.getElem?_setIfInBounds]; by_cases h : t = s
 ·subst h; simp [ht]
 ·simp [h, Ne.symm h]
theorem Sim.put (h : Sim F st μ C a w) {t : Tmp} (ht : t < F.N) {x : V} {v : Value} (hx : ax μ C x v) : Sim F { st with env := (t, x) :: st.env } μ C (a.put (some t) v) w where
 size := by simp [Act.put, h.size]
 defers := h.defers
 below := h.below
 sub := h.sub
 new := h.new
 known := h.known
 env s y hy := by
  rw [gJ a t s v (by rw [h.size]; exact ht)]; simp only [look] at hy; by_cases hs : t = s
  ·subst hs; rw [if_pos rfl] at hy ⊢; cases hy; exact hx
  ·rw [if_neg hs] at hy; rw [if_neg (Ne.symm hs)]; exact h.env s y hy
 heap := h.heap
 inj := h.inj
 nx := h.nx
 gh := h.gh
theorem Sim.less (h : Sim F st μ C a w) {st' : St} (he : ∀ t x, look st'.env t = some x -> look st.env t = some x) (hh : ∀ l k, look st'.h l = some k -> look st.h l = some k) (hn : st.nx <= st'.nx) : Sim F st' μ C a w where
 size := h.size
 defers := h.defers
 below := h.below
 sub := h.sub
 new := h.new
 known := h.known
 env t x hx := h.env t x (he t x hx)
 heap l k hk := h.heap l k (hh l k hk)
 inj l l' p p' h1 h2 := h.inj l l' p p' (by obtain ⟨k, hk⟩ := Option.isSome_iff_exists.1 h1; rw [hh l k hk]; rfl) (by obtain ⟨k, hk⟩ := Option.isSome_iff_exists.1 h2; rw [hh l' k hk]; rfl)
 nx l hl := h.nx l (Nat.le_trans hn hl)
 gh := F.stab h.gh ⟨rfl, rfl, rfl, Nat.le_refl _, fun _ _ _ h => h, fun l hl => .inl (by obtain ⟨k, hk⟩ := Option.isSome_iff_exists.1 hl; rw [hh l k hk]; rfl), fun _ _ _ => rfl, fun b ⟨l, k, p, h1, h2⟩ => .inl ⟨l, k, p, hh l k h1, h2⟩, fun _ _ _ h => h, fun _ _ _ h => .inl h, h.known⟩
theorem Sim.drew (h : Sim F st μ C a w) : Sim F st μ C a w.drew := h.more (.of_below h.known ((Below.refl _ _).drew))
theorem nR (hs : Sim F st μ C a w) {m : Nat} (k : Blk) (p : Place) {μ' : Nat -> Option Place} {C' : aw} {w' : World} (hfree : μ m = none) (hμ : ∀ l q, μ l = some q -> μ' l = some q) (hm : μ' m = some p) (hp : 0 < p.cap -> w.heap.size <= p.b) (ho : ∀ l, l ≠ m -> μ' l = μ l) (hw : More w C w' C') :
  Turn F.n0 st.h μ C w ((m, k) :: st.h) μ' C' w' :=
 ⟨hw.below.os, hw.below.tape, hw.below.output, hw.below.size, fun l q _ h => hμ l q h, fun l hl => by
  by_cases e : m = l
  ·subst e; exact .inr hfree
  ·simp only [look, if_neg e] at hl; exact .inl hl, fun b hb _ => hw.below.block b hb, fun b ⟨l, k', q, h1, h2, h3, h4⟩ => by
  by_cases e : l = m
  ·subst e; rw [hm] at h2; cases h2; exact .inr (h4 ▸ hp h3)
  ·simp only [look, if_neg (Ne.symm e)] at h1; exact .inl ⟨l, k', q, h1, by rw [<- ho l e]; exact h2, h3, h4⟩, hw.sub, fun b o u hc => (hw.new b o u hc).imp id .inr, hw.known⟩
theorem Sim.alloc (h : Sim F st μ C a w) (sz : Nat) (rows : List (List V)) (cur : Array Value) (T : TypeId) (hrow : ∀ r ∈ rows, r.length = sz) (hne : rows ≠ []) (hmax : rows.length <= 9223372036854775807) (hsz : cur.size = rows.length * sz) (hr : gO μ C sz rows cur.toList) (hm : Blk.isMap ⟨sz, rows⟩ = false) :
  Sim F { st with h := (st.nx, ⟨sz, rows⟩) :: st.h, nx := st.nx + 1 } (fun l => if l = st.nx then some ⟨w.heap.size, rows.length, sz⟩ else μ l) C a (w.alloc (.cells cur T)) := by
 have hμ : ∀ l p, μ l = some p -> (fun l => if l = st.nx then some (⟨w.heap.size, rows.length, sz⟩ : Place) else μ l) l = some p := by
  intro l p hp; have : l ≠ st.nx := fun e => by rw [h.nx l (by omega)] at hp; cases hp
  simp [this, hp]
 have h1 := h.more (.of_below h.known ((Below.refl _ w).alloc (Nat.le_refl _) (.cells cur T))); have hold : ∀ l k, look st.h l = some k -> l ≠ st.nx := fun l k hk e => by
  obtain ⟨p, hp, _⟩ := h.heap l k hk; rw [h.nx l (by omega)] at hp; cases hp
 refine ⟨h1.size, h1.defers, h1.below, h1.sub, h1.new, h1.known, fun t x hx => (h1.env t x hx).mono hμ (fun _ _ _ h => h), ?_, ?_, ?_, F.stab h.gh (nR h _ ⟨w.heap.size, rows.length, sz⟩ (h.nx _ (Nat.le_refl _)) hμ (by simp) (fun _ => Nat.le_refl _) (fun l hl => by simp [hl]) (.of_below h.known ((Below.refl _ w).alloc (Nat.le_refl _) (.cells cur T))))⟩
 ·intro l k hk; simp only [look] at hk; by_cases hl : st.nx = l
  ·subst hl; rw [if_pos rfl] at hk; cases hk; refine ⟨⟨w.heap.size, rows.length, sz⟩, by simp, rfl, Nat.le_refl _, hmax, hrow, fun _ => ⟨.inl h.below.size, fun o u hc => ?_, cur, T, by rw [hm]; exact heap_alloc_new w _, hsz, hr.mono hμ (fun _ _ _ h => h)⟩⟩; exact absurd (h.known.lt hc) (Nat.lt_irrefl _)
  ·rw [if_neg hl] at hk; obtain ⟨p, hp, hb⟩ := h1.heap l k hk; refine ⟨p, hμ l p hp, hb.sz, hb.len, hb.max, hb.row, fun hc => ?_⟩; obtain ⟨a1, a2, cur', T', a3, a4, a5⟩ := hb.cells hc; exact ⟨a1, a2, cur', T', a3, a4, a5.mono hμ (fun _ _ _ h => h)⟩
 ·intro l l' p p' hl hl' hp hp' hc hc' hb; simp only [look] at hl hl'; have hlt : ∀ l p, (look st.h l).isSome = true -> μ l = some p -> 0 < p.cap -> p.b < w.heap.size := by
   intro l p hl hp hc; obtain ⟨k, hk⟩ := Option.isSome_iff_exists.1 hl; obtain ⟨p2, hp2, hb2⟩ := h.heap l k hk; rw [hp] at hp2; cases hp2; exact hb2.lt hc
  by_cases e : l = st.nx <;> by_cases e' : l' = st.nx
  ·rw [e, e']
  ·rw [if_neg (Ne.symm e')] at hl'; simp only [if_pos e, if_neg e'] at hp hp'; cases hp; have := hlt l' p' hl' hp' hc'; simp at hb; omega
  ·rw [if_neg (Ne.symm e)] at hl; simp only [if_neg e, if_pos e'] at hp hp'; cases hp'; have := hlt l p hl hp hc; simp at hb; omega
  ·rw [if_neg (Ne.symm e)] at hl; rw [if_neg (Ne.symm e')] at hl'; simp only [if_neg e, if_neg e'] at hp hp'; exact h.inj l l' p p' hl hl' hp hp' hc hc' hb
 ·intro l hl; have hl' : st.nx + 1 <= l := hl; have : l ≠ st.nx := by omega
  simp only [if_neg this]; exact h.nx l (by omega)
theorem Sim.stored (h : Sim F st μ C a w) {l : Nat} {k : Blk} {p : Place} (hk : look st.h l = some k) (hp : μ l = some p) (hcap : 0 < p.cap) (cur' : Array Value) (rows' : List (List V)) (hrow : ∀ r ∈ rows', r.length = k.sz) (hlen : rows'.length <= p.cap)
  (hsz : cur'.size = p.cap * p.sz) (hr : gO μ C k.sz rows' cur'.toList) (hm : k.isMap = false) (hm' : Blk.isMap ⟨k.sz, rows'⟩ = false) : Sim F { st with h := rep st.h l ⟨k.sz, rows'⟩ } μ C a (w.setRow p.b cur') := by
 obtain ⟨p2, hp2, hb⟩ := h.heap l k hk; rw [hp] at hp2; cases hp2; obtain ⟨b1, b2, cur, T, b3, b4, b5⟩ := hb.cells hcap; rw [hm] at b3; have b3 : w.heap[p.b]? = some (.cells cur T (0, 0)) := b3; have hg := jN w p.b cur'; have hbel : Kept F.own F.w0 (w.setRow p.b cur') := h.below.grown hg (fun r e => by cases e; exact b1); have hisome : ∀ l', (look (rep st.h l ⟨k.sz, rows'⟩) l').isSome = (look st.h l').isSome := by
  intro l'; rw [cg]; split
  ·rename_i e; subst e; rw [hk]; rfl
  ·rfl
 have hkn : bG C (w.setRow p.b cur') := fun b o u hc => by
  have hne : b ≠ p.b := fun e => b2 o u (e ▸ hc)
  rcases h.known b o u hc with hk | ⟨es, c, hk, e⟩
  ·left; rw [cell_setRow_other w p.b cur' _ hne]; exact hk
  ·exact .inr ⟨es, c, by rw [setRow_other w p.b b cur' hne]; exact hk, e⟩
 refine ⟨h.size, h.defers.step fun q _ hD => ?_, hbel, h.sub, h.new, hkn, h.env, ?_, ?_, h.nx, F.stab h.gh ⟨hg.os, hg.tape, hg.output, hg.size, fun _ _ _ h => h, fun l' h' => .inl (by rw [<- hisome l']; exact h'), fun b hb hn => ?_, fun b ⟨l', k', p', h1, h2⟩ => ?_, fun _ _ _ h => h, fun _ _ _ h => .inl h, hkn⟩⟩
 ·have hne : q ≠ p.b := fun e => by rw [e, b3] at hD; cases hD
  rw [setRow_other w p.b q cur' hne]; exact hD
 ·intro l' k' hk'; rw [cg] at hk'; by_cases e : l' = l
  ·subst e; rw [if_pos rfl, hk] at hk'; cases hk'; exact ⟨p, hp, hb.sz, hlen, hb.max, hrow, fun _ => ⟨b1, b2, cur', T, by rw [hm']; exact setRow_heap w p.b cur cur' T _ b3, hsz, hr⟩⟩
  ·rw [if_neg e] at hk'; obtain ⟨p', hp', hb'⟩ := h.heap l' k' hk'; refine ⟨p', hp', hb'.sz, hb'.len, hb'.max, hb'.row, fun hc => ?_⟩; obtain ⟨c1, c2, cur2, T2, c3, c4, c5⟩ := hb'.cells hc; have hne : p'.b ≠ p.b := fun eb => e (h.inj l' l p' p (by rw [hk']; rfl) (by rw [hk]; rfl) hp' hp hc hcap eb)
   exact ⟨c1, c2, cur2, T2, c3.of_eq (setRow_other w p.b p'.b cur' hne), c4, c5⟩
 ·intro l1 l2 p1 p2 h1 h2; rw [hisome] at h1 h2; exact h.inj l1 l2 p1 p2 h1 h2
 ·exact setRow_other w p.b b cur' fun e => hn ⟨l, k, p, hk, hp, hcap, e.symm⟩
 ·obtain ⟨k2, hk2⟩ := Option.isSome_iff_exists.1 ((hisome l').symm.trans (by rw [h1]; rfl)); exact .inl ⟨l', k2, p', hk2, h2⟩
end
abbrev zEz := List (Nat × V)
abbrev zHz := List (Nat × Blk)
abbrev zMz := Nat -> Option Place
abbrev zQz := Exit -> St -> Prop
end
section
def Sq (F : Fr) (Q : zQz) : Exit -> Act -> World -> Prop := fun e a w => ∃ st μ C, Q e st /\ Sim F st μ C a w
def Fr.fz (F : Fr) : Fence := { Fence.wide with round := F.rd }
def Sm (F : Fr) (c : Code) (Q : zQz) (st : St) : Prop := ∀ μ C a w, Sim F st μ C a w -> c.wpIn F.fz 0 F.P (Sq F Q) a w
def SmL (F : Fr) (ops : Array Oper) (l : zOz) (Q : zQz) (st : St) : Prop := ∀ μ C a w, Sim F st μ C a w -> wpListIn F.fz 0 F.P ops (Sq F Q) l a w
theorem CY {F : Fr} {n : Nat} {P : Program} {f : FuncId} {args : Array Value} {w : World} {R : Ending -> World -> Prop} (h : Calls P f args w R) : CallsIn F.fz n P f args w R := (callsIn_wide (n := n)).2 h
theorem IG {F : Fr} {P : Program} {o : Oper} {a : Act} {w : World} {K : Act -> World -> Prop} {Q : Exit -> Act -> World -> Prop} (hnd : ∀ c, o.op ≠ .defer c) (h : o.wp P a w K Q) : o.wpIn F.fz 0 P a w K Q := by
 refine ⟨fun _ _ => trivial, ?_⟩; rw [Oper.semAt_eq _ _ _ hnd]; unfold Oper.wp at h; generalize (execOp a.eval o).run P w = r at h; cases r with
 | ok x w' =>
  cases x with
  | value v => exact h
  | skip => exact h
  | defer d => exact h
  | enter f args =>
   refine ⟨fun h => (by cases h), CY (Calls.mono h ?_)⟩; intro e w'' he; cases e <;> exact he
  | row r args => exact ⟨fun h => (by cases h), fun c cs _ => let ⟨v, w2, g, s⟩ := h c cs; ⟨v, w2, g, stepsIn_wide.2 s⟩⟩
  | _ => exact h.elim
 | halt x w' => cases x <;> first | exact h | exact h.elim
theorem cb {F : Fr} {P : Program} {ops : Array Oper} {rest : zOz} {o : Oper} {a : Act} {w : World} {Q : Exit -> Act -> World -> Prop} (hnd : Region.wanted o (yielded ops a.tmps) = true -> ∀ c, o.op ≠ .defer c)
  (h : ∀ K : Act -> World -> Prop, (∀ a w, wpListIn F.fz 0 P ops Q rest a w -> K a w) -> if Region.wanted o (yielded ops a.tmps) then o.wp P a w K Q else K (a.put o.dst undef) w) : wpListIn F.fz 0 P ops Q (o :: rest) a w :=
 wpListIn_step fun K hK => by
  have := h K hK; split
  ·rename_i hw; rw [if_pos hw] at this; exact IG (hnd hw) this
  ·rename_i hw; rw [if_neg hw] at this; exact ⟨fun _ _ => trivial, this⟩
def ba (K : St -> Prop) (Q : zQz) : Exit -> St -> Prop
 | .normal, st => K st
 | e, st => Q e st
def bR (id : Nat) (Q : zQz) : Exit -> St -> Prop
 | .exit id', st => if id' = id then Q .normal st else Q (.exit id') st
 | e, st => Q e st
section
variable {F : Fr} {Q : zQz} {st : St} {ops : Array Oper} {l rest : zOz} {o : Oper}
theorem Sq.mono {Q' : zQz} (h : ∀ e st, Q e st -> Q' e st) {e : Exit} {a : Act} {w : World} (q : Sq F Q e a w) : Sq F Q' e a w := by
 obtain ⟨st, μ, C, h1, h2⟩ := q; exact ⟨st, μ, C, h _ _ h1, h2⟩
theorem Sm.mono {c : Code} {Q' : zQz} (h : ∀ e st, Q e st -> Q' e st) (s : Sm F c Q st) : Sm F c Q' st :=
 fun μ C a w hs => wpIn_mono (s μ C a w hs) fun _ _ _ => Sq.mono h
theorem Sm.seq {x y : Code} (h : Sm F x (ba (Sm F y Q) Q) st) : Sm F (.seq x y) Q st := fun μ C a w hs => by
 refine wpIn_seq (wpIn_mono (h μ C a w hs) ?_); intro e a' w' hq; obtain ⟨st', μ', C', h1, h2⟩ := hq; cases e <;> first | exact h1 μ' C' a' w' h2 | exact ⟨st', μ', C', h1, h2⟩
theorem Sm.skip (h : Q .normal st) : Sm F .skip Q st := fun μ C _ _ hs => wpIn_skip ⟨st, μ, C, h, hs⟩
theorem Sm.ret (h : Q .ret st) : Sm F .ret Q st := fun μ C _ _ hs => wpIn_ret ⟨st, μ, C, h, hs⟩
theorem Sm.exit {id : Nat} (h : Q (.exit id) st) : Sm F (.exit id) Q st := fun μ C _ _ hs => wpIn_exit ⟨st, μ, C, h, hs⟩
theorem Sm.block {id : Nat} {c : Code} (h : Sm F c (bR id Q) st) : Sm F (.block id c) Q st := fun μ C a w hs => by
 refine wpIn_block (wpIn_mono (h μ C a w hs) ?_); intro e a' w' hq; obtain ⟨st', μ', C', h1, h2⟩ := hq; cases e with
 | exit id' =>
  simp only [bR] at h1; simp only [Exit.inBlock]; split
  ·rename_i h; rw [if_pos h] at h1; exact ⟨st', μ', C', h1, h2⟩
  ·rename_i h; rw [if_neg h] at h1; exact ⟨st', μ', C', h1, h2⟩
 | _ => exact ⟨st', μ', C', h1, h2⟩
def bS : Value -> D
 | .slice none 0 0 => .list 0 [] true
 | v => .v v
theorem mn {C : aw} (v : Value) : Rep C (bS v) v := by
 unfold bS; split
 ·exact .nil 0 true none 0 ⟨Nat.le_refl _, fun _ => rfl, by omega, fun _ => rfl, fun _ h => by cases h⟩
 ·exact .v v
def evD (G : zGz) (env : zEz) : Operand -> Option V
 | .tmp t => look env t
 | .const v => some (.d (bS v))
 | .global g => (G g).map .d
 | .func f => some (.d (.fn f []))
def fK (G : zGz) (C : aw) : Prop := ∀ g d, G g = some d -> Rep C d (.pointer (some ⟨g, 0, none⟩))
theorem bW {G : zGz} {μ : zMz} {C : aw} {a : Act} {w : World} (hs : Sim F st μ C a w) (hG : fK G F.C0) {x : Operand} {v : V} (h : evD G st.env x = some v) : ax μ C v (a.eval x) := by
 unfold evD at h; split at h
 ·exact hs.env _ _ h
 ·cases h; exact mn _
 ·rename_i g; cases hg : G g with
  | none => rw [hg] at h; cases h
  | some d => rw [hg] at h; cases h; exact Rp.mono hs.sub (hG g d hg)
 ·cases h; exact Rp.fn _ [] [] .onil
theorem LN {G : zGz} {μ : zMz} {C : aw} {a : Act} {w : World} (hs : Sim F st μ C a w) (hG : fK G F.C0) {x : Operand} {v : Value} (h : evD G st.env x = some (.d (.v v))) : a.eval x = v :=
 bz (bW hs hG h)
theorem Sm.cond {G : zGz} {c : Operand} {x y : Code} {t : Bool} (hG : fK G F.C0) (hc : evD G st.env c = some (.d (.v (.bool t)))) (ht : t = true -> Sm F x Q st) (hf : t = false -> Sm F y Q st) : Sm F (.cond c x y) Q st :=
 fun μ C a w hs => wpIn_cond_split (LN hs hG hc) (fun h => ht h μ C a w hs) (fun h => hf h μ C a w hs)
theorem SmL.nil (h : Q .normal st) : SmL F ops [] Q st := fun μ C _ _ hs => wpListIn_nil ⟨st, μ, C, h, hs⟩
theorem Sm.region {id : Nat} {l : zOz} (h : SmL F l.toArray l Q st) : Sm F (.region id l.toArray false) Q st := fun μ C a w hs => wpIn_region_lit (h μ C a w hs)
def St.le (st st' : St) : Prop := (∀ t x, look st'.env t = some x -> look st.env t = some x) /\ (∀ l k, look st'.h l = some k -> look st.h l = some k) /\ st.nx <= st'.nx
theorem Sm.less {c : Code} {st' : St} (h : st.le st') (s : Sm F c Q st') : Sm F c Q st := fun μ C a w hs => s μ C a w (hs.less h.1 h.2.1 h.2.2)
theorem SmL.less {st' : St} (h : st.le st') (s : SmL F ops l Q st') : SmL F ops l Q st := fun μ C a w hs => s μ C a w (hs.less h.1 h.2.1 h.2.2)
theorem St.le.refl (st : St) : st.le st := ⟨fun _ _ h => h, fun _ _ h => h, Nat.le_refl _⟩
theorem Fh {α : Type} (l : List (Nat × α)) (p : Nat -> Bool) (j : Nat) (x : α) (h : look (l.filter fun e => p e.1) j = some x) : look l j = some x :=
 Bq l _ j x (fun e _ e' _ he => by simp [he]) h
theorem uE (st : St) (p : Nat -> Bool) : st.le { st with env := st.env.filter fun e => p e.1 } := ⟨fun t x h => Fh _ p t x h, fun _ _ h => h, Nat.le_refl _⟩
theorem Sm.keep {c : Code} (p : Nat -> Bool) (s : Sm F c Q { st with env := st.env.filter fun e => p e.1 }) : Sm F c Q st := s.less (uE st p)
theorem SmL.keep (p : Nat -> Bool) (s : SmL F ops l Q { st with env := st.env.filter fun e => p e.1 }) : SmL F ops l Q st := s.less (uE st p)
theorem Sm.loop {c : Code} {ι : Type} (inv : ι -> St) (m : ι -> Nat) (i0 : ι) (h0 : st.le (inv i0)) (round : ∀ i, Sm F c (ba (fun st' => ∃ j, m j < m i /\ st'.le (inv j)) Q) (inv i)) : Sm F (.loop c) Q st := by
 intro μ C a w hs b k cs hro hb hr; have key : ∀ n i, m i = n -> ∀ μ C a w, Sim F (inv i) μ C a w -> ∃ e a' w', Sq F Q e a' w' /\ ArrivesIn (Machine.fenced F.P F.fz) F.P (lone (b.atR a (.code c :: .inLoop c :: k)) cs w) b k cs e a' w' := by
  intro n
  induction n using Nat.strongRecOn with
  | _ n ih =>
   intro i hi μ C a w hs; obtain ⟨e, a1, w1, hq, harr⟩ := round i μ C a w hs b (.inLoop c :: k) cs hro hb hr; obtain ⟨st1, μ1, C1, h1, h2⟩ := hq; cases e with
   | normal =>
    obtain ⟨j, hj, hle⟩ := h1; obtain ⟨e2, a2, w2, hq2, harr2⟩ := ih (m j) (hi ▸ hj) j rfl μ1 C1 a1 w1 (h2.less hle.1 hle.2.1 hle.2.2); exact ⟨e2, a2, w2, hq2, .of_steps (StepsIn.trans harr (.one (fenced_calm hb hr rfl) stepR_inLoop)) harr2⟩
   | exit id => exact ⟨_, a1, w1, ⟨st1, μ1, C1, h1, h2⟩, .pass (x := .inLoop c) rfl (fun _ _ => .inl (by simp)) harr⟩
   | goto l => exact ⟨_, a1, w1, ⟨st1, μ1, C1, h1, h2⟩, .pass (x := .inLoop c) rfl (fun _ _ => .inl (by simp)) harr⟩
   | ret => exact ⟨_, a1, w1, ⟨st1, μ1, C1, h1, h2⟩, .pass (x := .inLoop c) rfl (fun _ _ => .inl (by simp)) harr⟩
   | panic ch => exact ⟨_, a1, w1, ⟨st1, μ1, C1, h1, h2⟩, .pass (x := .inLoop c) rfl (fun _ _ => .inl (by simp)) harr⟩
   | outgrown => exact ⟨_, a1, w1, ⟨st1, μ1, C1, h1, h2⟩, .pass (x := .inLoop c) rfl (fun _ _ => .inl (by simp)) harr⟩
 obtain ⟨e, a', w', hq, harr⟩ := key _ i0 rfl μ C a w (hs.less h0.1 h0.2.1 h0.2.2); exact ⟨e, a', w', hq, .of_steps (.one (fenced_calm hb hr rfl) stepR_loop) harr⟩
end
end
section
def aD {α : Type} (P : Program) : Sem α -> Option α
 | .pure a => some a
 | .program k => aD P (k P)
 | _ => none
theorem kH {α : Type} {P : Program} {s : Sem α} {a : α} (h : aD P s = some a) (w : World) : s.run P w = .ok a w := by
 induction s with
 | pure x => simp only [aD, Option.some.injEq] at h; subst h; rfl
 | program k ih => exact ih P h
 | _ => simp [aD] at h
theorem bM {α : Type} (P : Program) (a : α) : aD P (pure a : Sem α) = some a := rfl
theorem bD {α β : Type} (P : Program) (s : Sem α) (f : α -> Sem β) : aD P (s >>= f) = (aD P s).bind fun a => aD P (f a) := by
 show aD P (s.bind f) = _
 induction s with
 | pure x => rfl
 | program k ih => exact ih P
 | _ => rfl
theorem Aw (P : Program) (t : TypeId) : aD P (underlying t) = P.underlying t := by
 unfold underlying program; simp only [bD]; show (some P).bind _ = _; simp only [Option.bind_some]; cases P.underlying t <;> rfl
def fZ : V -> Option Value
 | .d (.v x) => some x
 | _ => none
def bh (P : Program) (t : TypeId) : Option Bool :=
 match P.underlying t with
 | some (.struct _) | some (.array _ _) => some true
 | some _ => some false
 | none => none
def az (P : Program) (t : TypeId) : Option Nat := (P.info? t).map (·.size)
def lK (P : Program) (t : TypeId) : Option Value := (P.info? t).bind (·.zero)
def Cap.v : Cap -> V
 | .d x => .d x
 | .r l off => .ref l 0 off
 | .s l n => .sref l 0 n
 | .m l => .omap l
def zg : V -> Option Cap
 | .d x => some (.d x)
 | .ref l 0 off => some (.r l off)
 | .sref l 0 n => some (.s l n)
 | .omap l => some (.m l)
 | _ => none
theorem Kh {x : V} {c : Cap} (h : zg x = some c) : x = c.v := by
 unfold zg at h; split at h <;> first | cases h; rfl | cases h
theorem Cap.rep {μ : zMz} {C : aw} {c : Cap} {v : Value} : fr μ C c v ↔ ax μ C c.v v := by
 cases c with
 | d x => exact Iff.rfl
 | r l off => exact ⟨fun ⟨p, h1, h2, h3⟩ => ⟨p, h1, h2, by simpa using h3⟩, fun ⟨p, h1, h2, h3⟩ => ⟨p, h1, h2, by simpa using h3⟩⟩
 | s l n => exact ⟨fun ⟨p, a, h1, h2, h3, h4⟩ => ⟨p, a, h1, by simpa using h2, by simpa using h3, by simpa using h4⟩, fun ⟨p, a, h1, h2, h3, h4⟩ => ⟨p, a, h1, by simpa using h2, by simpa using h3, by simpa using h4⟩⟩
 | m l => exact Iff.rfl
def gm : V -> Option (Nat × List V)
 | .d (.agg n xs) => some (n, xs.map .d)
 | .d (.tup _) => none
 | .d (.v x) => if x.oneCell' then some (1, [.d (.v x)]) else none
 | .any => none
 | .gh _ => none
 | .mp _ _ => none
 | .mix false l n rest => some (rest.length + 1, .sref l 0 n :: rest.map .d)
 | .mix true _ _ _ => none
 | .agr false cs => some (cs.length, cs.map Cap.v)
 | .agr true _ => none
 | x => some (1, [x])
theorem xD {x : V} {n : Nat} {ys : List V} (h : gm x = some (n, ys)) : ∀ y ∈ ys, ∀ ks ds, y ≠ .mp ks ds := by
 have hd : ∀ (xs : List D), ∀ y ∈ xs.map V.d, ∀ ks ds, y ≠ .mp ks ds := by
  intro xs y hy ks ds e; obtain ⟨d, _, rfl⟩ := List.mem_map.1 hy; cases e
 intro y hy ks ds e; subst e; unfold gm at h; split at h
 ·cases h; exact hd _ _ hy _ _ rfl
 ·cases h
 ·split at h
  ·cases h; simp at hy
  ·cases h
 ·cases h
 ·cases h
 ·cases h
 ·cases h; rcases List.mem_cons.1 hy with e | hy
  ·cases e
  ·exact hd _ _ hy _ _ rfl
 ·cases h
 ·cases h; obtain ⟨c, _, e⟩ := List.mem_map.1 hy; cases c <;> cases e
 ·cases h
 ·rename_i h6 _ _ _ _; cases h; rw [List.mem_singleton] at hy; exact h6 _ _ hy.symm
def bv : List V -> Option (List D)
 | [] => some []
 | .d x :: r => (bv r).map (x :: ·)
 | _ :: _ => none
def nO : List V -> Option V
 | .sref l 0 n :: r => (bv r).map fun ds => .mix false l n ds
 | _ => none
def ac : List V -> Option (List V)
 | [.mp _ _] => none
 | r => some r
theorem kl {r r' : List V} (h : ac r = some r') : r = r' /\ ∀ ks ds, r ≠ [.mp ks ds] := by
 unfold ac at h; split at h
 ·cases h
 ·rename_i hn; cases h; exact ⟨rfl, fun ks ds e => hn ks ds e⟩
theorem cj (ds : List D) : ac (ds.map .d) = some (ds.map .d) := by
 cases ds with
 | nil => rfl
 | cons d ds => rfl
theorem DD {r : List V} (h : r.length ≠ 1) : ac r = some r := by
 unfold ac; split
 ·exact absurd rfl h
 ·rfl
theorem Fz {r ys : List V} {off n : Nat} (hr : ∀ ks ds, r ≠ [.mp ks ds]) (hy : ∀ y ∈ ys, ∀ ks ds, y ≠ .mp ks ds) (hn : ys.length = n) (hle : off + n <= r.length) : ac (r.take off ++ ys ++ r.drop (off + n)) = some (r.take off ++ ys ++ r.drop (off + n)) := by
 unfold ac; split
 ·rename_i ks ds e; exfalso; have hl := congrArg List.length e; simp only [List.length_append, List.length_take, List.length_drop, List.length_singleton, hn] at hl; rcases Nat.eq_zero_or_pos n with rfl | hn0
  ·have : ys = [] := List.eq_nil_of_length_eq_zero hn; subst this; rw [List.append_nil, Nat.add_zero, List.take_append_drop] at e; exact hr ks ds e
  ·obtain ⟨y, hy'⟩ : ∃ y, y ∈ ys := List.exists_mem_of_length_pos (by omega); have : y ∈ r.take off ++ ys ++ r.drop (off + n) := by simp [hy']
   rw [e] at this; exact hy y hy' ks ds (by simpa using this)
 ·rfl
theorem wR {k : Blk} {i : Nat} {r r' : List V} (hr : k.rows[i]? = some r) (hp : ac r = some r') : k.isMap = false := by
 refine fp fun ks ds e => ?_
 rw [e] at hr; cases i with
 | zero => simp at hr; exact (kl hp).2 ks ds hr.symm
 | succ i => simp at hr
theorem Ak {sz : Nat} {rows : List (List V)} {i : Nat} {r r' : List V} (hr : rows[i]? = some r) (hp : ac r = some r') : Blk.isMap ⟨sz, rows⟩ = false := wR (k := ⟨sz, rows⟩) hr hp
theorem Ao {r : List V} (h : ∀ y ∈ r, ∀ ks ds, y ≠ .mp ks ds) : ac r = some r := by
 unfold ac; split
 ·rename_i ks ds; exact absurd rfl (h (.mp ks ds) (by simp) ks ds)
 ·rfl
theorem ui {sz : Nat} {r : List V} (h : ∀ y ∈ r, ∀ ks ds, y ≠ .mp ks ds) : Blk.isMap ⟨sz, [r]⟩ = false := Ak (i := 0) rfl (Ao h)
theorem fa (sz : Nat) (rows : zRz) : Blk.isMap ⟨sz, rows.map fun r => r.map V.d⟩ = false := by
 refine fp fun ks ds e => ?_
 have e : (rows.map fun r => r.map V.d) = [[V.mp ks ds]] := e; have h : [V.mp ks ds] ∈ rows.map fun r => r.map V.d := by rw [e]; simp
 obtain ⟨r, _, h⟩ := List.mem_map.1 h; have h2 : V.mp ks ds ∈ r.map V.d := by rw [h]; simp
 obtain ⟨d, _, h2⟩ := List.mem_map.1 h2; cases h2
theorem Aj {α : Type} (f : α -> D) (sz : Nat) (l : List α) : Blk.isMap ⟨sz, [l.map fun v => V.d (f v)]⟩ = false := ui fun y hy ks ds e => by
 obtain ⟨v, _, rfl⟩ := List.mem_map.1 hy; cases e
def kv : List V -> Option (List Cap)
 | [] => some []
 | x :: r => (zg x).bind fun c => (kv r).map (c :: ·)
theorem BR : ∀ {r : List V} {cs : List Cap}, kv r = some cs -> r = cs.map Cap.v
 | [], _, h => by cases h; rfl
 | x :: r, cs, h => by
  simp only [kv, Option.bind_eq_some_iff, Option.map_eq_some_iff] at h; obtain ⟨c, h1, cs', h2, rfl⟩ := h; rw [Kh h1, BR h2]; rfl
def kT (r : List V) : Option V := match nO r with
 | some v => some v
 | none => (kv r).map (.agr false)
def seg {α : Type} (r : List α) (n off m : Nat) : List α := if off = 0 /\ m = n then r else (r.drop off).take m
inductive Out where
 | val (x : V)
 | new (sz : Nat) (row : List V) (T : TypeId)
 | upd (l : Nat) (k : Blk)
def aX (P : Program) (h : zHz) (t : TypeId) : V -> Option V
 | .d (.ptr n row) =>
  match bh P t with
  | some true => (az P t).bind fun m => if m <= n then some (.d (.agg m (seg row n 0 m))) else none
  | some false => row[0]?.map .d
  | none => none
 | .ref l i off =>
  (look h l).bind fun k => (k.rows[i]?).bind fun r => (ac r).bind fun r =>
  match bh P t with
  | some true => (az P t).bind fun m => if off + m <= k.sz then (match bv (seg r k.sz off m) with | some ds => some (.d (.agg m ds)) | none => kT (seg r k.sz off m)) else none
  | some false => r[off]?
  | none => none
 | _ => none
def dp (P : Program) (h : zHz) (t : TypeId) : V -> V -> Option Out
 | .ref l i off, x =>
  (look h l).bind fun k => (k.rows[i]?).bind fun r => (ac r).bind fun r => (gm x).bind fun c => (az P t).bind fun m =>
  if c.1 = m /\ off + m <= k.sz then some (.upd l ⟨k.sz, k.rows.set i (if off = 0 /\ m = k.sz then c.2 else if m = 1 then (match c.2 with | [y] => r.set off y | _ => r.take off ++ c.2 ++ r.drop (off + m)) else r.take off ++ c.2 ++ r.drop (off + m))⟩) else none
 | _, _ => none
def tQ (t : TypeId) (x : V) : Option Out := (gm x).map fun c => .new c.1 c.2 t
def dF (P : Program) (t : TypeId) : Option Out := (lK P t).bind fun z => if z.cells.toList.all (·.oneCell') then some (.new z.cells.size (z.cells.toList.map fun v => .d (bS v)) t) else none
def iI : V -> Option Int
 | .d (.v (.int _ n)) => some n
 | _ => none
def cG (P : Program) (h : zHz) (t : TypeId) (x i : V) : Option V :=
 (iI i).bind fun i =>
 match P.underlying t with
 | some (.array n e) => (az P e).bind fun s =>
  if 0 <= i /\ i < n then
   match x with
   | .d (.ptr m row) => if n * s <= m then some (.d (.ptr (m - i.toNat * s) (row.drop (i.toNat * s)))) else none
   | .ref l j off => some (.ref l j (off + i.toNat * s))
   | _ => none
  else none
 | some (.slice e) => (az P e).bind fun s =>
  match x with
  | .d (.list sz xs _) => if 0 <= i /\ sz = s then (xs[i.toNat]?).map fun row => .d (.ptr sz row) else none
  | .sref l lo len => (look h l).bind fun k => if 0 <= i /\ i < len /\ k.sz = s then some (.ref l (lo + i.toNat) 0) else none
  | .aref l j off es len _ => if 0 <= i /\ i < len /\ es = s then some (.ref l j (off + i.toNat * es)) else none
  | _ => none
 | _ => none
def qR (P : Program) (t : TypeId) (n : Nat) (xs : List D) (off : Nat) : Option V :=
 match bh P t with
 | some true => (az P t).bind fun m => if off + m <= n then some (.d (.agg m (seg xs n off m))) else none
 | some false => xs[off]?.map .d
 | none => none
def vl (P : Program) (t : TypeId) (x i : V) : Option V :=
 match x with
 | .d (.agg m xs) => (iI i).bind fun i =>
  match P.underlying t with
  | some (.array n e) => (az P e).bind fun s => if 0 <= i /\ i < n then qR P e m xs (i.toNat * s) else none
  | _ => none
 | _ => (fZ x).bind fun x => (fZ i).bind fun i => (aD P (Instr.index t x i)).map fun v => .d (.v v)
def jp (P : Program) (t : TypeId) (x : V) (f : Nat) : Option V :=
 match x with
 | .d (.agg m xs) =>
  match P.underlying t with
  | some (.struct fs) => (fs[f]?).bind fun f => qR P f.type m xs f.offset
  | _ => none
 | .mix false l n rest =>
  match P.underlying t with
  | some (.struct fs) => (fs[f]?).bind fun f => match bh P f.type with
   | some false => match f.offset with
    | 0 => some (.sref l 0 n)
    | k + 1 => rest[k]?.map .d
   | _ => none
  | _ => none
 | _ => none
def eH (P : Program) (t : TypeId) (x : V) (f : Nat) : Option V :=
 match P.underlying t with
 | some (.struct fs) => (fs[f]?).bind fun f => (az P f.type).bind fun s => if s = 0 then none else
  match x with
  | .d (.ptr m row) => if f.offset <= m then some (.d (.ptr (m - f.offset) (row.drop f.offset))) else none
  | .ref l j off => some (.ref l j (off + f.offset))
  | _ => none
 | _ => none
def bx : Option V -> Nat -> Option Nat
 | none, n => some n
 | some x, _ => (iI x).bind fun i => if 0 <= i then some i.toNat else none
def dI (P : Program) (h : zHz) (t : TypeId) (x : V) (lo hi mx : Option V) : Option V :=
 match P.underlying t with
 | some (.slice e) => (az P e).bind fun s =>
  match x with
  | .d (.list sz xs f) => (bx lo 0).bind fun l => (bx hi xs.length).bind fun u =>
   match mx with
   | none => if l <= u /\ u <= xs.length /\ (sz = s \/ lo = none) then some (.d (.list sz ((if hi.isNone then xs else xs.take u).drop l) (hi.isNone && f))) else none
   | some mx => (bx (some mx) u).bind fun m => if hi.isSome /\ l <= u /\ u <= xs.length /\ m = u /\ (sz = s \/ lo = none) then some (.d (.list sz ((xs.take u).drop l) true)) else none
  | .sref b lo0 len => (look h b).bind fun k => (bx lo 0).bind fun l => (bx hi len).bind fun u =>
   if l <= u /\ u <= len /\ mx.isNone /\ k.sz = s then some (.sref b (lo0 + l) (u - l)) else none
  | .aref b j off es len cap => (bx lo 0).bind fun l => (bx hi len).bind fun u =>
   if l <= u /\ u <= len /\ mx.isNone /\ es = s then some (.aref b j (off + l * es) es (u - l) (cap - l)) else none
  | _ => none
 | some (.array n e) => (az P e).bind fun s =>
  match x with
  | .ref b j off => (bx lo 0).bind fun l => (bx hi n).bind fun u =>
   if l <= u /\ u <= n /\ mx.isNone /\ n <= 16777216 then some (.aref b j (off + l * s) s (u - l) (n - l)) else none
  | .d (.ptr m r) => (bx lo 0).bind fun l => (bx hi n).bind fun u =>
   if l <= u /\ u <= n /\ mx.isNone /\ n <= 16777216 /\ n * s <= m then some (.d (.list s (((ft s n r).take u).drop l) (decide (u = n)))) else none
  | _ => none
 | some .string => (fZ x).bind fun x =>
  match lo, hi, mx with
  | none, none, none => (aD P (Instr.slice t x none none none)).map fun v => .d (.v v)
  | some lo, none, none => (fZ lo).bind fun lo => (aD P (Instr.slice t x (some lo) none none)).map fun v => .d (.v v)
  | none, some hi, none => (fZ hi).bind fun hi => (aD P (Instr.slice t x none (some hi) none)).map fun v => .d (.v v)
  | some lo, some hi, none => (fZ lo).bind fun lo => (fZ hi).bind fun hi => (aD P (Instr.slice t x (some lo) (some hi) none)).map fun v => .d (.v v)
  | _, _, _ => none
 | _ => none
def hU (P : Program) (t : TypeId) (x : V) : Option V :=
 match P.underlying t, x with
 | some (.slice _), .d (.list _ xs _) => some (.d (.v (.int .i64 xs.length)))
 | some (.slice _), .sref _ _ len => some (.d (.v (.int .i64 len)))
 | some (.slice _), .aref _ _ _ _ len _ => some (.d (.v (.int .i64 len)))
 | some .string, .d (.v (.string s)) => some (.d (.v (.int .i64 s.size)))
 | some (.array n _), _ => some (.d (.v (.int .i64 n)))
 | _, _ => none
def nB : zRz -> Option zBz
 | [] => some []
 | [.v (.int .u8 n)] :: r => (nB r).map (UInt8.ofNat n.toNat :: ·)
 | _ :: _ => none
def fM (P : Program) (s d : TypeId) (x : V) : Option V :=
 match x with
 | .d (.v a) => (aD P (convert s d a)).map fun v => .d (.v v)
 | .d (.list sz xs _) =>
  match P.underlying s, P.underlying d with
  | some (.slice e), some .string =>
   match P.underlying e with
   | some (.int .u8) => if sz = 1 \/ xs = [] then (nB xs).map fun l => .d (.v (.string ⟨l.toArray⟩)) else none
   | _ => none
  | _, _ => none
 | _ => none
def lU (cs : List D) (off : Nat) (ys : List D) : List D := cs.take off ++ ys ++ cs.drop (off + ys.length)
def eU (s : Nat) : V -> Option (List D)
 | .d (.agg n xs) => if n = s then some xs else none
 | .d (.tup _) => none
 | .d (.v y) => if y.oneCell' /\ s = 1 then some [.v y] else none
 | .d y => if s = 1 then some [y] else none
 | _ => none
def AH (cs : List D) (off : Nat) (ys : List D) : List D := match ys with | [y] => cs.set off y | _ => lU cs off ys
def ez (place : Nat -> Option (Nat × Nat)) : zEz -> List D -> Option (List D)
 | [], cs => some cs
 | (i, x) :: r, cs => (place i).bind fun p => (eU p.2 x).bind fun ys =>
  if p.1 + p.2 <= cs.length then ez place r (if p.2 = 1 then AH cs p.1 ys else if p.2 = cs.length then ys else lU cs p.1 ys) else none
def jq (s : Nat) : zEz -> zRz -> Option zRz
 | [], rows => some rows
 | (i, x) :: r, rows => (eU s x).bind fun ys => if i < rows.length then jq s r (rows.set i ys) else none
def bK (P : Program) (t : TypeId) : Option (List D) := (lK P t).bind fun z => if z.cells.toList.all (·.oneCell') then some (z.cells.toList.map bS) else none
def kU (P : Program) (t : TypeId) : Option (List (Nat × Nat)) :=
 match P.underlying t with
 | some (.struct fs) => fs.toList.mapM fun f => (az P f.type).map fun s => (f.offset, s)
 | _ => none
def jb (P : Program) (t : TypeId) : Option (Nat -> Option (Nat × Nat)) :=
 match P.underlying t with
 | some (.struct fs) => some fun i => (fs[i]?).bind fun f => (az P f.type).map fun s => (f.offset, s)
 | some (.array _ e) => (az P e).map fun s => fun i => some (i * s, s)
 | _ => none
def dP (ev : Operand -> Option V) : List (Nat × Operand) -> Option zEz
 | [] => some []
 | (i, x) :: r => (ev x).bind fun v => (dP ev r).map ((i, v) :: ·)
def mm (P : Program) (t : TypeId) (ps : zEz) : Option V :=
 (bK P t).bind fun z => (jb P t).bind fun pl => (ez pl ps z).map fun cs => .d (.agg z.length cs)
def uM (P : Program) (t : TypeId) : zEz -> Option V
 | (0, .sref l 0 n) :: ps => (bK P t).bind fun z => (jb P t).bind fun pl => (pl 0).bind fun p => if p.1 = 0 /\ p.2 = 1 /\ 0 < z.length /\ (ps.all fun e => match pl e.1 with | some q => Nat.ble 1 q.1 | none => false) = true then (ez pl ps z).map fun cs => .mix false l n (cs.drop 1) else none
 | _ => none
def dS (P : Program) (t : TypeId) (ps : zEz) : Option V :=
 match mm P t ps with
 | some v => some v
 | none => uM P t ps
def bn (P : Program) (t : TypeId) (n : Nat) (ps : zEz) : Option V :=
 match P.underlying t with
 | some (.slice e) => (az P e).bind fun s => if n * s <= 16777216 /\ n <= 16777216 then (if n * s = 0 then (if ps.isEmpty /\ n = 0 then some [] else none) else (bK P e).bind fun z => if z.length = s then jq s ps (List.replicate n z) else none).map fun rows => .d (.list s rows true) else none
 | _ => none
def ot (k : IntKind) (n : Int) : zLz -> List D -> Option (Option D)
 | [], [] => some none
 | .int k' m :: ks, d :: ds => if k = k' then (if n = m then some (some d) else ot k n ks ds) else none
 | _, _ => none
def wO (P : Program) (t : TypeId) (x i : V) (ok : Bool) : Option V :=
 match P.underlying t, x, i with
 | some (.map kt et), .d (.map ks ds), .d (.v (.int k n)) =>
  match P.underlying kt with
  | some (.int _) => (ot k n ks ds).bind fun r => match r with
   | some d => some (.d (if ok then .tup [d, .v (.bool true)] else d))
   | none => (lK P et).bind fun z => some (.d (if ok then .tup [.v z, .v (.bool false)] else .v z))
  | _ => none
 | _, _, _ => none
end
section
section
variable {P : Program} {μ : zMz} {C : aw} {w : World}
theorem fT {t : TypeId} {b : Bool} (h : bh P t = some b) (w : World) : (isAgg t).run P w = .ok b w := by
 unfold bh at h; cases hu : P.underlying t with
 | none => rw [hu] at h; cases h
 | some d =>
  rw [hu] at h; unfold isAgg; simp only [Sem.run_bind, run_underlying hu, Result.andThen_ok]; cases d <;> simp at h <;> subst h <;> rfl
theorem fc {t n : Nat} (h : az P t = some n) (w : World) : (sizeOf t).run P w = .ok n w := iL h w
theorem sG {α : Type} (r : List α) (n m off : Nat) (h : r.length = n) : seg r n off m = (r.drop off).take m := by
 unfold seg; split
 ·rename_i e; obtain ⟨rfl, rfl⟩ := e; simp [<- h]
 ·rfl
theorem tK : ∀ {r : List V} {ds : List D}, bv r = some ds -> r = ds.map .d := by
 intro r
 induction r with
 | nil => intro ds h; simp [bv] at h; subst h; rfl
 | cons x r ih =>
  intro ds h; cases x with
  | d x =>
   simp only [bv, Option.map_eq_some_iff] at h; obtain ⟨es, h1, rfl⟩ := h; simp [<- ih h1]
  | _ => simp [bv] at h
theorem gK (ds : List D) : bv (ds.map .d) = some ds := by
 induction ds with
 | nil => rfl
 | cons d ds ih => simp [bv, ih]
theorem Hy {mine : Nat -> Prop} {p : Place} {k : Blk} (h : BlkOk mine μ C w p k) {i : Nat} {r r' : List V} (hr : k.rows[i]? = some r) (hpl : ac r = some r') : 0 < p.cap /\ (r.length = k.sz) /\ (∀ (j : Nat) (x : V), r[j]? = some x -> ∃ u, w.cell? ⟨p.b, i * p.sz + j, none⟩ = some u /\ w.frozen? ⟨p.b, i * p.sz + j, none⟩ = false /\ u.oneCell' = true /\ ax μ C x u) := by
 have hi := (List.getElem?_eq_some_iff.1 hr).1; have hc : 0 < p.cap := by have := h.len; omega
 obtain ⟨_, _, cur, T, h3, h4, h5⟩ := h.cells hc; rw [wR hr hpl] at h3; have h3 := h3.cells; refine ⟨hc, h.row r (List.mem_of_getElem? hr), fun j x hx => ?_⟩; obtain ⟨u, h6, h7, h8⟩ := h5 i r hr j x hx; refine ⟨u, ?_, frozen_of_row w p.b _ _ _ h3, h7, h8⟩; rw [cell_of_row w p.b _ _ _ _ h3, h.sz]; simpa using h6
theorem ji {t n : Nat} (h1 : bh P t = some true) (h2 : az P t = some n) {b off : Nat} {vs : zLz} (hl : vs.length = n) (hc : ∀ (j : Nat) (u : Value), vs[j]? = some u -> w.cell? ⟨b, off + j, none⟩ = some u) :
  (Instr.loadAt t (.pointer (some ⟨b, off, none⟩))).run P w = .ok (.agg vs.toArray) w := by
 subst hl; have hl : (loadCells ⟨b, off, none⟩ vs.length).run P w = .ok vs.toArray w :=
  run_loadCells_list (P := P) w ⟨b, off, none⟩ vs (fun j v hv => by rw [dJ]; exact hc j v hv)
 simp [Instr.loadAt, Instr.sureAddr, loadVar, Sem.run_bind, fT h1, fc h2, hl, Result.andThen]
theorem oP {t : Nat} (h1 : bh P t = some false) {b off : Nat} {u : Value} (hc : w.cell? ⟨b, off, none⟩ = some u) :
  (Instr.loadAt t (.pointer (some ⟨b, off, none⟩))).run P w = .ok u w := by
 simp [Instr.loadAt, Instr.sureAddr, loadVar, Sem.run_bind, fT h1, Result.andThen, load, Sem.run, hc]
variable {F : Fr} {st : St} {a : Act}
theorem fe.of {μ : zMz} {C : aw} : ∀ {cs : List Cap} {us : zLz}, us.length = cs.length -> (∀ (j : Nat) (c : Cap) (u : Value), cs[j]? = some c -> us[j]? = some u -> fr μ C c u) -> fe μ C cs us
 | [], us, h, _ => List.eq_nil_of_length_eq_zero h
 | c :: cs, u :: us, h, k => ⟨u, us, rfl, k 0 c u rfl rfl, fe.of (by simpa using h) fun j c u h1 h2 => k (j + 1) c u (by simpa using h1) (by simpa using h2)⟩
 | _ :: _, [], h, _ => by simp at h
theorem fe.get {μ : zMz} {C : aw} : ∀ {cs : List Cap} {us : zLz}, fe μ C cs us -> us.length = cs.length /\ ∀ (j : Nat) (c : Cap), cs[j]? = some c -> ∃ u, us[j]? = some u /\ fr μ C c u
 | [], _, h => by cases h; exact ⟨rfl, by simp⟩
 | c :: cs, _, ⟨u, us, e, h1, h2⟩ => by
  subst e; obtain ⟨i1, i2⟩ := fe.get h2; refine ⟨by simp [i1], fun j c' hj => ?_⟩; cases j with
  | zero => simp at hj; subst hj; exact ⟨u, rfl, h1⟩
  | succ j => simpa using i2 j c' (by simpa using hj)
theorem uc (hs : Sim F st μ C a w) {t : TypeId} {x y : V} {v : Value} (hx : ax μ C x v) (h : aX P st.h t x = some y) : ∃ u, (Instr.loadAt t v).run P w = .ok u w /\ ax μ C y u := by
 unfold aX at h; split at h
 ·rename_i n row; cases hx with
  | ptr _ _ b off hn hm =>
   split at h
   ·rename_i hag; cases hsz : az P t with
    | none => rw [hsz] at h; cases h
    | some m =>
     simp only [hsz, Option.bind_some] at h; split at h
     ·rename_i hle; cases h; rw [sG row n m 0 hn, List.drop_zero]; obtain ⟨vs, hv, hc⟩ := ug (uf hm m); have hl : vs.length = m := by rw [cw hv, List.length_take]; omega
      exact ⟨_, ji hag hsz hl (fun j u hj => hs.known.cell (hc j u hj) (rb hv u (List.mem_of_getElem? hj))), .agg m _ vs (by rw [List.length_take]; omega) hv⟩
     ·cases h
   ·rename_i hag; simp only [Option.map_eq_some_iff] at h; obtain ⟨d, hd, rfl⟩ := h; obtain ⟨u, h1, h2, h3⟩ := lZ hm 0 d hd; exact ⟨u, oP hag (hs.known.cell h1 h2), h3⟩
   ·cases h
 ·rename_i l i off; obtain ⟨p, hp, hcap, rfl⟩ := hx; simp only [Option.bind_eq_some_iff] at h; obtain ⟨k, hk, r, hr, r1, hpl, h⟩ := h; obtain rfl := (kl hpl).1; obtain ⟨p2, hp2, hb⟩ := hs.heap l k hk; rw [hp] at hp2; cases hp2; obtain ⟨_, hlen, hcell⟩ := Hy hb hr hpl; split at h
  ·rename_i hag; simp only [Option.bind_eq_some_iff] at h; obtain ⟨m, hsz, h⟩ := h; split at h
   ·rename_i hle; split at h
    rotate_left
    ·unfold kT at h; split at h
     rotate_left
     ·simp only [Option.map_eq_some_iff] at h; obtain ⟨cs, hcs, rfl⟩ := h; rw [sG r k.sz m off hlen] at hcs; have hcr := BR hcs; have hml : cs.length = m := by
       have h1 := congrArg List.length hcr; simp at h1; omega
      have hex : ∃ us : zLz, us.length = m /\ ∀ (j : Nat), j < m -> ∃ u c, us[j]? = some u /\ cs[j]? = some c /\ w.cell? ⟨p.b, i * p.sz + off + j, none⟩ = some u /\ u.oneCell' = true /\ fr μ C c u := by
       refine ⟨(List.range m).map fun j => (w.cell? ⟨p.b, i * p.sz + off + j, none⟩).getD undef, by simp, fun j hj => ?_⟩; have hcj : cs[j]? = some cs[j] := by simp [hml, hj]
       obtain ⟨u, h1, _, h3, h4⟩ := hcell (off + j) (cs[j]).v (by rw [<- List.getElem?_drop, <- List.getElem?_take_of_lt hj, hcr]; simp [hml, hj]); rw [<- Nat.add_assoc] at h1; exact ⟨u, cs[j], by simp [hj, h1], hcj, h1, h3, Cap.rep.2 h4⟩
      obtain ⟨us, hul, hall⟩ := hex; refine ⟨.agg us.toArray, ji hag hsz hul (fun j u hj => ?_), us, fe.of (by rw [hul, hml]) fun j c u hc hu => ?_, ?_⟩
      ·obtain ⟨u', c', a1, a2, a3, a4⟩ := hall j (by rw [<- hul]; exact (List.getElem?_eq_some_iff.1 hj).1); rw [a1] at hj; cases hj; exact a3
      ·obtain ⟨u', c', a1, a2, a3, a4, a5⟩ := hall j (by rw [<- hul]; exact (List.getElem?_eq_some_iff.1 hu).1); rw [a1] at hu; rw [a2] at hc; cases hu; cases hc; exact a5
      ·rw [if_neg (by simp)]; refine ⟨rfl, fun u hu => ?_⟩; obtain ⟨j, hj⟩ := List.mem_iff_getElem?.1 hu; obtain ⟨u', c', a1, a2, a3, a4, a5⟩ := hall j (by rw [<- hul]; exact (List.getElem?_eq_some_iff.1 hj).1); rw [a1] at hj; cases hj; exact a4
     rename_i hmx; cases h; have h := hmx; clear hmx; unfold nO at h; split at h
     rotate_left
     ·cases h
     rename_i l' n' r' hseg; simp only [Option.map_eq_some_iff] at h; obtain ⟨ds, hd, rfl⟩ := h; rw [sG r k.sz m off hlen] at hseg; have hr' := tK hd; have hml : m = ds.length + 1 := by
      have h1 := congrArg List.length hseg; rw [hr'] at h1; simp at h1; omega
     have hat : ∀ j, j < m -> r[off + j]? = (V.sref l' 0 n' :: ds.map V.d)[j]? := by
      intro j hj; rw [<- hr', <- hseg, List.getElem?_take_of_lt hj, List.getElem?_drop]
     obtain ⟨u0, g1, _, g3, g4⟩ := hcell (off + 0) _ (hat 0 (by omega)); have hex : ∃ us : zLz, us.length = ds.length /\ ∀ (j : Nat), j < ds.length -> ∃ u d, us[j]? = some u /\ ds[j]? = some d /\ w.cell? ⟨p.b, i * p.sz + off + (j + 1), none⟩ = some u /\ u.oneCell' = true /\ Rep C d u := by
      refine ⟨(List.range ds.length).map fun j => (w.cell? ⟨p.b, i * p.sz + off + (j + 1), none⟩).getD undef, by simp, fun j hj => ?_⟩; obtain ⟨u, h1, _, h3, h4⟩ := hcell (off + (j + 1)) (.d ds[j]) (by rw [hat (j + 1) (by omega)]; simp [hj]); rw [<- Nat.add_assoc] at h1; refine ⟨u, ds[j], ?_, by simp [hj], h1, h3, h4⟩; simp [hj, h1]
     obtain ⟨us, hul, hall⟩ := hex; obtain ⟨p3, a3, q1, q2, q3, q4⟩ := g4; refine ⟨.agg (u0 :: us).toArray, ji hag hsz (by simp [hul, hml]) (fun j u hj => ?_), p3, a3, us, q1, by simpa using q3, by simpa using q4, ?_⟩
     ·cases j with
      | zero => simp at hj; subst hj; simpa using g1
      | succ j =>
       simp only [List.getElem?_cons_succ] at hj; obtain ⟨u', d', a1, a2, a3, a4⟩ := hall j (by rw [<- hul]; exact (List.getElem?_eq_some_iff.1 hj).1); rw [a1] at hj; cases hj; exact a3
     ·rw [if_neg (by simp)]; refine ⟨tq hul fun j d v hd hv => ?_, by rw [q2]; simp⟩; obtain ⟨u', d', a1, a2, a3, a4, a5⟩ := hall j (by rw [<- hul]; exact (List.getElem?_eq_some_iff.1 hv).1); rw [a1] at hv; rw [a2] at hd; cases hv; cases hd; exact ⟨a4, a5⟩
    rename_i ds hd; simp only [Option.some.injEq] at h; subst h; rw [sG r k.sz m off hlen] at hd; have hrow := tK hd; have hdl : ds.length = m := by have := congrArg List.length hrow; simp at this; omega
    have hget : ∀ (j : Nat) (d : D), ds[j]? = some d -> r[off + j]? = some (.d d) := by
     intro j d hj; have h1 : (ds.map V.d)[j]? = some (.d d) := by simp [hj]
     rw [<- hrow] at h1; have hjm : j < m := by rw [<- hdl]; exact (List.getElem?_eq_some_iff.1 hj).1
     rw [List.getElem?_take_of_lt hjm, List.getElem?_drop] at h1; exact h1
    have hex : ∃ vs : zLz, vs.length = m /\ ∀ (j : Nat), j < m -> ∃ u d, vs[j]? = some u /\ ds[j]? = some d /\ w.cell? ⟨p.b, i * p.sz + off + j, none⟩ = some u /\ u.oneCell' = true /\ Rep C d u := by
     refine ⟨(List.range m).map fun j => (w.cell? ⟨p.b, i * p.sz + off + j, none⟩).getD undef, by simp, fun j hj => ?_⟩; obtain ⟨u, h1, _, h3, h4⟩ := hcell (off + j) (.d ds[j]) (hget j _ (by simp [hdl, hj])); rw [<- Nat.add_assoc] at h1; refine ⟨u, ds[j], ?_, by simp [hdl, hj], h1, h3, h4⟩; simp [hj, h1]
    obtain ⟨vs, hvl, hall⟩ := hex; refine ⟨.agg vs.toArray, ji hag hsz hvl (fun j u hj => ?_), .agg m ds vs hdl (tq (by rw [hvl, hdl]) fun j d v hd hv => ?_)⟩
    ·obtain ⟨u', d', a1, a2, a3, a4⟩ := hall j (by rw [<- hvl]; exact (List.getElem?_eq_some_iff.1 hj).1); rw [a1] at hj; cases hj; exact a3
    ·obtain ⟨u', d', a1, a2, a3, a4, a5⟩ := hall j (by rw [<- hvl]; exact (List.getElem?_eq_some_iff.1 hv).1); rw [a1] at hv; rw [a2] at hd; cases hv; cases hd; exact ⟨a4, a5⟩
   ·cases h
  ·rename_i hag; obtain ⟨u, h1, _, h3, h4⟩ := hcell off y h; exact ⟨u, oP hag h1, h4⟩
  ·cases h
 ·cases h
theorem xE {x : V} {v : Value} {n : Nat} {ys : List V} (hx : ax μ C x v) (h : gm x = some (n, ys)) : v.cells.size = n /\ ys.length = n /\ ∀ (j : Nat) (y : V), ys[j]? = some y -> ∃ u, v.cells[j]? = some u /\ u.oneCell' = true /\ ax μ C y u := by
 have single : ∀ {x : V} {v : Value}, ax μ C x v -> v.oneCell' = true -> (∀ cs, v ≠ .agg cs) -> v.cells.size = 1 /\ ([x] : List V).length = 1 /\ ∀ (j : Nat) (y : V), ([x] : List V)[j]? = some y -> ∃ u, v.cells[j]? = some u /\ u.oneCell' = true /\ ax μ C y u := by
  intro x v hx h1 hna; have hc : v.cells = #[v] := by cases v <;> first | rfl | (exact absurd rfl (hna _))
  rw [hc]; refine ⟨rfl, rfl, fun j y hj => ?_⟩; cases j with
  | zero => simp at hj; subst hj; exact ⟨v, rfl, h1, hx⟩
  | succ j => simp at hj
 unfold gm at h; split at h
 ·rename_i n' xs; cases h; cases hx with
  | agg _ _ vs hn hv =>
   refine ⟨by simp [Value.cells, cw hv, hn], by simp [hn], fun j y hj => ?_⟩; rw [List.getElem?_map] at hj; cases hd : xs[j]? with
   | none => rw [hd] at hj; cases hj
   | some d =>
    rw [hd] at hj; cases hj; obtain ⟨u, h1, h2, h3⟩ := fd hv j d hd; exact ⟨u, by simpa [Value.cells] using h1, h2, h3⟩
 ·cases h
 ·rename_i y; split at h
  ·rename_i ho; cases h; have := bz hx; subst this; exact single hx ho (fun cs e => by rw [e] at ho; cases ho)
  ·cases h
 ·cases h
 ·cases h
 ·cases h
 ·rename_i l k rest; cases h; obtain ⟨p, a, us, q1, q2, q3, q4⟩ := hx; rw [if_neg (by simp)] at q4; obtain ⟨q4, rfl⟩ := q4; refine ⟨by simp [Value.cells, cw q4], by simp, fun j y hj => ?_⟩; cases j with
  | zero =>
   simp at hj; subst hj; exact ⟨.slice a k p.cap, by simp [Value.cells], rfl, p, a, q1, by simp, by simpa using q2, by simpa using q3⟩
  | succ j =>
   simp only [List.getElem?_cons_succ, List.getElem?_map] at hj; cases hd : rest[j]? with
   | none => rw [hd] at hj; cases hj
   | some d =>
    rw [hd] at hj; cases hj; obtain ⟨u, h1, h2, h3⟩ := fd q4 j d hd; exact ⟨u, by simpa [Value.cells] using h1, h2, h3⟩
 ·cases h
 ·rename_i cs; cases h; obtain ⟨us, h1, h2⟩ := hx; rw [if_neg (by simp)] at h2; obtain ⟨rfl, h2⟩ := h2; obtain ⟨g1, g2⟩ := h1.get; refine ⟨by simp [Value.cells, g1], by simp, fun j y hj => ?_⟩; rw [List.getElem?_map] at hj; cases hc : cs[j]? with
  | none => rw [hc] at hj; cases hj
  | some c =>
   rw [hc] at hj; cases hj; obtain ⟨u, k1, k2⟩ := g2 j c hc; exact ⟨u, by simpa [Value.cells] using k1, h2 u (List.mem_of_getElem? k1), Cap.rep.1 k2⟩
 ·cases h
 ·rename_i h1 h2 h3 h4 h7 h8 h5 h6 h9 h10; cases h; cases x with
  | any => exact (h4 rfl).elim
  | gh => exact (h7 _ rfl).elim
  | mp => exact (h8 _ _ rfl).elim
  | omap l =>
   obtain ⟨p, h1, h2, rfl⟩ := hx; exact single ⟨p, h1, h2, rfl⟩ rfl (fun cs e => by cases e)
  | agr tp _ => cases tp with
   | true => exact (h10 _ rfl).elim
   | false => exact (h9 _ rfl).elim
  | clo f first caps =>
   obtain ⟨us, ws, rfl, h1, h2⟩ := hx; exact single ⟨us, ws, rfl, h1, h2⟩ rfl (fun cs e => by cases e)
  | mix tp _ _ _ => cases tp with
   | true => exact (h6 _ _ _ rfl).elim
   | false => exact (h5 _ _ _ rfl).elim
  | d d =>
   cases hx with
   | v _ => exact absurd rfl (h3 _)
   | nil => exact single (.nil _ _ _ _ (by assumption)) rfl (fun cs e => by cases e)
   | list _ _ _ _ _ _ a1 a2 a3 => exact single (.list _ _ _ _ _ _ a1 a2 a3) rfl (fun cs e => by cases e)
   | agg => exact absurd rfl (h1 _ _)
   | tup => exact absurd rfl (h2 _)
   | ptr _ _ _ _ a1 a2 => exact single (.ptr _ _ _ _ a1 a2) rfl (fun cs e => by cases e)
   | fn _ _ _ a1 => exact single (.fn _ _ _ a1) rfl (fun cs e => by cases e)
   | map _ _ _ _ a1 a0 a2 a3 => exact single (.map _ _ _ _ a1 a0 a2 a3) rfl (fun cs e => by cases e)
  | ref l i off =>
   obtain ⟨p, h1, h2, rfl⟩ := hx; exact single ⟨p, h1, h2, rfl⟩ rfl (fun cs e => by cases e)
  | sref l lo len =>
   obtain ⟨p, a, h1, rfl, h2⟩ := hx; exact single ⟨p, a, h1, rfl, h2⟩ rfl (fun cs e => by cases e)
  | aref l i off es len cap =>
   obtain ⟨p, a, h1, h2, rfl, h3⟩ := hx; exact single ⟨p, a, h1, h2, rfl, h3⟩ rfl (fun cs e => by cases e)
theorem yj (hs : Sim F st μ C a w) {t : TypeId} {x y : V} {v u : Value} (hx : ax μ C x v) (hy : ax μ C y u) {l : Nat} {k : Blk} (h : dp P st.h t x y = some (.upd l k)) :
  ∃ w', (Instr.storeAt t v u).run P w = .ok () w' /\ Sim F { st with h := rep st.h l k } μ C a w' := by
 unfold dp at h; split at h
 ·rename_i l' i off; obtain ⟨p, hp, hcap, rfl⟩ := hx; simp only [Option.bind_eq_some_iff] at h; obtain ⟨k0, hk, r, hr, r1, hpl, ⟨n, ys⟩, hc, m, hsz, h⟩ := h; obtain rfl := (kl hpl).1; split at h
  ·rename_i hcond; obtain ⟨hnm, hle⟩ := hcond; simp only at hnm; subst hnm; obtain ⟨p2, hp2, hb⟩ := hs.heap l' k0 hk; rw [hp] at hp2; cases hp2; obtain ⟨hvs, hyl, hyc⟩ := xE hy hc; obtain ⟨b1, b2, cur, T, b3, b4, b5⟩ := hb.cells hcap; have hkm := wR hr hpl; rw [hkm] at b3; have b3 := b3.cells; have hrl := hb.row r (List.mem_of_getElem? hr); have hi := (List.getElem?_eq_some_iff.1 hr).1; have hlen := hb.len; have hfit : i * p.sz + off + n <= cur.size := by
    rw [b4, hb.sz]; have : (i + 1) * k0.sz <= p.cap * k0.sz := Nat.mul_le_mul_right _ (by omega); rw [Nat.succ_mul] at this; omega
   have h1 : ∀ z ∈ u.cells.toList, z.oneCell' = true := by
    intro z hz; obtain ⟨j, hj⟩ := List.mem_iff_getElem?.1 hz; have hj' : u.cells[j]? = some z := by simpa using hj
    have hjn : j < n := by have := (Array.getElem?_eq_some_iff.1 hj').1; omega
    obtain ⟨u', a1, a2, _⟩ := hyc j ys[j] (by simp [hyl, hjn]); rw [a1] at hj'; cases hj'; exact a2
   have hst : (storeCells ⟨p.b, i * p.sz + off, none⟩ u.cells.toList).run P w = .ok () (w.setRow p.b (cur.toList.take (i * p.sz + off) ++ u.cells.toList ++ cur.toList.drop (i * p.sz + off + u.cells.toList.length)).toArray) := by
    have := run_storeCells_at P p.b (i * p.sz + off) T u.cells.toList 0 cur w b3 (by simpa [hvs] using hfit) h1; simpa using this
   have hrun : (Instr.storeAt t (.pointer (some ⟨p.b, i * p.sz + off, none⟩)) u).run P w = .ok () (w.setRow p.b (cur.toList.take (i * p.sz + off) ++ u.cells.toList ++ cur.toList.drop (i * p.sz + off + u.cells.toList.length)).toArray) := by
    simp only [Instr.storeAt, Instr.sureAddr, storeVar, Sem.run_bind, Sem.run_pure, Result.andThen_ok, fc hsz]; rw [if_neg (by rw [hvs]; simp)]; exact hst
   obtain ⟨r', hr', hkeq⟩ : ∃ r' : List V, r' = r.take off ++ ys ++ r.drop (off + n) /\ k = ⟨k0.sz, k0.rows.set i r'⟩ /\ l = l' := by
    refine ⟨_, rfl, ?_⟩; simp only [Option.some.injEq, Out.upd.injEq] at h; obtain ⟨rfl, rfl⟩ := h; refine ⟨?_, rfl⟩
    congr 2
    split
    ·rename_i e; obtain ⟨rfl, rfl⟩ := e; have : r.drop (0 + k0.sz) = [] := by simp [hrl]
     rw [this]; simp
    ·split
     ·rename_i hn1; subst hn1; split
      ·rename_i y; have hol : off < r.length := by omega
       rw [List.set_eq_take_append_cons_drop, if_pos hol]; simp
      ·rfl
     ·rfl
   obtain ⟨rfl, rfl⟩ := hkeq; have hr'l : r'.length = k0.sz := by rw [hr']; simp; omega
   have hm' : Blk.isMap ⟨k0.sz, k0.rows.set i r'⟩ = false := Ak (i := i) (r := r') (r' := r') (by simp [hi]) (by rw [hr']; exact Fz (kl hpl).2 (xD hc) hyl (by omega)); refine ⟨_, hrun, Sim.stored hs hk hp hcap _ _ ?_ (by simpa using hlen) ?_ ?_ hkm hm'⟩
   ·intro x hx; rcases List.mem_or_eq_of_mem_set hx with hx | rfl
    ·exact hb.row x hx
    ·exact hr'l
   ·have : u.cells.toList.length = n := by simpa using hvs
    simp [this]; omega
   ·have hul : u.cells.toList.length = n := by simpa using hvs
    intro i' r2 hr2 j x hx; have hcurl : cur.toList.length = cur.size := by simp
    have hval : ∀ q, ((cur.toList.take (i * p.sz + off) ++ u.cells.toList ++ cur.toList.drop (i * p.sz + off + u.cells.toList.length)).toArray.toList)[q]? = if i * p.sz + off <= q /\ q < i * p.sz + off + n then u.cells[q - (i * p.sz + off)]? else cur.toList[q]? := by
     intro q; rw [hul]; simp only [List.append_assoc]; have htl : (cur.toList.take (i * p.sz + off)).length = i * p.sz + off := by rw [List.length_take]; omega
     rcases Nat.lt_or_ge q (i * p.sz + off) with hq | hq
     ·rw [List.getElem?_append_left (by omega), if_neg (by omega), List.getElem?_take_of_lt hq]
     ·rw [List.getElem?_append_right (by omega), htl]; rcases Nat.lt_or_ge (q - (i * p.sz + off)) n with hq2 | hq2
      ·rw [List.getElem?_append_left (by omega), if_pos (by omega)]; simp
      ·rw [List.getElem?_append_right (by omega), if_neg (by omega), hul, List.getElem?_drop]
       congr 1; omega
    rw [hval]; have hsz' := hb.sz; by_cases hii : i' = i
    ·subst hii; rw [List.getElem?_set_self hi] at hr2; cases hr2; have hjl : j < k0.sz := by rw [<- hr'l]; exact (List.getElem?_eq_some_iff.1 hx).1
     by_cases hjr : off <= j /\ j < off + n
     ·rw [if_pos (by rw [hsz']; omega)]; have : r'[j]? = ys[j - off]? := by
       rw [hr', List.append_assoc, List.getElem?_append_right (by simp; omega), List.getElem?_append_left (by simp; omega)]
       congr 1; simp; omega
      rw [this] at hx; have e : i' * k0.sz + j - (i' * p.sz + off) = j - off := by rw [hsz']; omega
      rw [e]; exact hyc _ _ hx
     ·rw [if_neg (by rw [hsz']; omega)]; have : r'[j]? = r[j]? := by
       rw [hr']; rcases Nat.lt_or_ge j off with hq | hq
       ·rw [List.append_assoc, List.getElem?_append_left (by simp; omega), List.getElem?_take_of_lt hq]
       ·rw [List.getElem?_append_right (by simp; omega), List.getElem?_drop]
        congr 1; simp; omega
      rw [this] at hx; exact b5 i' r hr j x hx
    ·rw [List.getElem?_set_ne (Ne.symm hii)] at hr2; have hr2l := hb.row r2 (List.mem_of_getElem? hr2); have hjl : j < k0.sz := by rw [<- hr2l]; exact (List.getElem?_eq_some_iff.1 hx).1
     rw [if_neg ?_]
     ·exact b5 i' r2 hr2 j x hx
     ·rw [hsz']; rcases Nat.lt_or_gt_of_ne hii with hlt | hgt
      ·have : (i' + 1) * k0.sz <= i * k0.sz := Nat.mul_le_mul_right _ hlt; rw [Nat.succ_mul] at this; omega
      ·have : (i + 1) * k0.sz <= i' * k0.sz := Nat.mul_le_mul_right _ hgt; rw [Nat.succ_mul] at this; omega
  ·cases h
 ·cases h
end
end
section
section
variable {P : Program} {μ : zMz} {C : aw} {w : World} {F : Fr} {st : St} {a : Act}
theorem wK {x : V} {v : Value} {n : Int} (hx : ax μ C x v) (h : iI x = some n) : ∃ k, v = .int k n := by
 unfold iI at h; split at h
 ·cases h; have := bz hx; exact ⟨_, this⟩
 ·cases h
theorem fC {x : V} {v y : Value} (hx : ax μ C x v) (h : fZ x = some y) : v = y := by
 unfold fZ at h; split at h
 ·cases h; exact bz hx
 ·cases h
theorem gk (b off k : Nat) : (⟨b, off, none⟩ : Addr).add k = ⟨b, off + k, none⟩ := dJ b off k
theorem yF (hs : Sim F st μ C a w) {t : TypeId} {x i y : V} {v iv : Value} (hx : ax μ C x v) (hi : ax μ C i iv) (h : cG P st.h t x i = some y) : ∃ u, (Instr.indexAt t v iv).run P w = .ok u w /\ ax μ C y u := by
 unfold cG at h; simp only [Option.bind_eq_some_iff] at h; obtain ⟨n, hn, h⟩ := h; obtain ⟨k, rfl⟩ := wK hi hn; split at h
 ·rename_i len e hu; simp only [Option.bind_eq_some_iff] at h; obtain ⟨s, hsz, h⟩ := h; split at h
  ·rename_i hr; have hrun : ∀ b off, (Instr.indexAt t (.pointer (some ⟨b, off, none⟩)) (.int k n)).run P w = .ok (.pointer (some ⟨b, off + n.toNat * s, none⟩)) w := by
    intro b off; simp only [Instr.indexAt, asIntOf, Sem.run_bind, Sem.run_pure, Result.andThen_ok, run_underlying hu, Instr.sureAddr]; simp only [fc hsz, hr, and_self, if_true, Sem.run_bind, Result.andThen_ok, gk]; rfl
   split at h
   ·rename_i m row; split at h
    ·rename_i hm; cases h; cases hx with
     | ptr _ _ b off hl hmem =>
      have hle : n.toNat * s <= m := Nat.le_trans (Nat.mul_le_mul_right _ (by omega)) hm; exact ⟨_, hrun b off, .ptr _ _ _ _ (by rw [List.length_drop, hl]) (lY hmem _)⟩
    ·cases h
   ·rename_i l j off; cases h; obtain ⟨p, h1, h2, rfl⟩ := hx; exact ⟨_, hrun _ _, p, h1, h2, by rw [Nat.add_assoc]⟩
   ·cases h
  ·cases h
 ·rename_i e hu; simp only [Option.bind_eq_some_iff] at h; obtain ⟨s, hsz, h⟩ := h; have hrun : ∀ b off (len cap : Nat), 0 <= n -> n < len -> (Instr.indexAt t (.slice (some ⟨b, off, none⟩) len cap) (.int k n)).run P w = .ok (.pointer (some ⟨b, off + n.toNat * s, none⟩)) w := by
   intro b off len cap h0 h1; simp only [Instr.indexAt, asIntOf, Sem.run_bind, Sem.run_pure, Result.andThen_ok, run_underlying hu]; simp only [fc hsz, h0, h1, and_self, if_true, Sem.run_bind, Result.andThen_ok, gk]; rfl
  split at h
  ·rename_i sz xs f; split at h
   ·rename_i hc; obtain ⟨h0, rfl⟩ := hc; simp only [Option.map_eq_some_iff] at h; obtain ⟨row, hrow, rfl⟩ := h; have hlt := (List.getElem?_eq_some_iff.1 hrow).1; obtain ⟨ao, cap, rfl, h2, h3⟩ := Rep.elem hx; have h2 := h2.le; obtain ⟨b, off, rfl, hrows⟩ := h3 (by intro e; rw [e] at hlt; simp at hlt); have hr := qU hrows _ _ hrow; exact ⟨_, hrun b off _ cap h0 (by omega), .ptr _ _ _ _ hr.1 hr.2⟩
   ·cases h
  ·rename_i l lo len; simp only [Option.bind_eq_some_iff] at h; obtain ⟨kb, hk, h⟩ := h; split at h
   ·rename_i hc; obtain ⟨h0, h1, hsk⟩ := hc; cases h; obtain ⟨p, ao, hp, rfl, h2, h3⟩ := hx; obtain ⟨p2, hp2, hb⟩ := hs.heap l kb hk; rw [hp] at hp2; cases hp2; obtain rfl := h3 (by omega); refine ⟨_, hrun _ _ _ _ h0 h1, p, hp, by omega, ?_⟩; rw [hb.sz, hsk, Nat.add_zero, Nat.add_mul]
   ·cases h
  ·rename_i l j off es len cap; split at h
   ·rename_i hc; obtain ⟨h0, h1, rfl⟩ := hc; cases h; obtain ⟨p, ao, hp, hcap, rfl, h2, _, h3⟩ := hx; obtain rfl := h3 (by omega); exact ⟨_, hrun _ _ _ _ h0 h1, p, hp, hcap, by rw [Nat.add_assoc]⟩
   ·cases h
  ·cases h
 ·cases h
theorem An {t : TypeId} {n : Nat} {xs : List D} {vs : zLz} {off : Nat} {y : V} (hn : xs.length = n) (hv : Rp C (.vals xs vs)) (h : qR P t n xs off = some y) : ∃ u, (part t vs.toArray off).run P w = .ok u w /\ ax μ C y u := by
 unfold qR at h; split at h
 ·rename_i hag; simp only [Option.bind_eq_some_iff] at h; obtain ⟨m, hsz, h⟩ := h; split at h
  ·rename_i hle; cases h; rw [sG xs n m off hn]; refine ⟨.agg ((vs.drop off).take m).toArray, ?_, .agg _ _ _ (by simp; omega) (yl m (sK off hv))⟩; simp only [part, Sem.run_bind, fT hag, Result.andThen_ok, if_true, fc hsz, Sem.run_pure]
   congr 2
   apply Array.ext'; simp [List.extract_eq_take_drop]
  ·cases h
 ·rename_i hag; simp only [Option.map_eq_some_iff] at h; obtain ⟨d, hd, rfl⟩ := h; obtain ⟨u, h1, h2, h3⟩ := fd hv off d hd; refine ⟨u, ?_, h3⟩; simp only [part, Sem.run_bind, fT hag, Result.andThen_ok]; simp [h1]
 ·cases h
theorem Fa {t : TypeId} {x i y : V} {v iv : Value} (hx : ax μ C x v) (hi : ax μ C i iv) (h : vl P t x i = some y) : ∃ u, (Instr.index t v iv).run P w = .ok u w /\ ax μ C y u := by
 unfold vl at h; split at h
 ·rename_i m xs; simp only [Option.bind_eq_some_iff] at h; obtain ⟨n, hn, h⟩ := h; obtain ⟨k, rfl⟩ := wK hi hn; split at h
  ·rename_i len e hu; simp only [Option.bind_eq_some_iff] at h; obtain ⟨s, hsz, h⟩ := h; split at h
   ·rename_i hr; cases hx with
    | agg _ _ vs hm hv =>
     obtain ⟨u, h1, h2⟩ := An (w := w) (P := P) hm hv h; refine ⟨u, ?_, h2⟩; simp only [Instr.index, asIntOf, Sem.run_bind, Sem.run_pure, Result.andThen_ok, run_underlying hu]; simp only [hr, and_self, if_true, Sem.run_bind, fc hsz, Result.andThen_ok, h1]
   ·cases h
  ·cases h
 ·simp only [Option.bind_eq_some_iff, Option.map_eq_some_iff] at h; obtain ⟨x', hx', i', hi', u, hu, rfl⟩ := h; rw [fC hx hx', fC hi hi']; exact ⟨u, kH hu w, .v u⟩
theorem EO {t : TypeId} {x y : V} {f : Nat} {v : Value} (hx : ax μ C x v) (h : jp P t x f = some y) : ∃ u, (Instr.field t v f).run P w = .ok u w /\ ax μ C y u := by
 unfold jp at h; split at h
 ·rename_i m xs; split at h
  ·rename_i fs hu; simp only [Option.bind_eq_some_iff] at h; obtain ⟨fl, hf, h⟩ := h; cases hx with
   | agg _ _ vs hm hv =>
    obtain ⟨u, h1, h2⟩ := An (w := w) (P := P) hm hv h; refine ⟨u, ?_, h2⟩; simp only [Instr.field, Sem.run_bind, run_underlying hu, Result.andThen_ok, hf, asAgg, Sem.run_pure, h1]
  ·cases h
 ·rename_i l n rest; split at h
  ·rename_i fs hu; simp only [Option.bind_eq_some_iff] at h; obtain ⟨fl, hf, h⟩ := h; split at h
   ·rename_i hag; obtain ⟨p, a, us, q1, q2, q3, q4⟩ := hx; rw [if_neg (by simp)] at q4; obtain ⟨q4, rfl⟩ := q4; split at h
    ·rename_i ho; cases h; refine ⟨.slice a n p.cap, ?_, p, a, q1, by simp, by simpa using q2, by simpa using q3⟩; simp [Instr.field, Sem.run_bind, run_underlying hu, Result.andThen_ok, hf, asAgg, Sem.run_pure, part, fT hag, ho]
    ·rename_i k ho; simp only [Option.map_eq_some_iff] at h; obtain ⟨d, hd, rfl⟩ := h; obtain ⟨u, g1, g2, g3⟩ := fd q4 k d hd; refine ⟨u, ?_, g3⟩; simp [Instr.field, Sem.run_bind, run_underlying hu, Result.andThen_ok, hf, asAgg, Sem.run_pure, part, fT hag, ho, g1]
   ·cases h
  ·cases h
 ·cases h
theorem yC {t : TypeId} {x y : V} {f : Nat} {v : Value} (hx : ax μ C x v) (h : eH P t x f = some y) : ∃ u, (Instr.fieldAt t v f).run P w = .ok u w /\ ax μ C y u := by
 unfold eH at h; split at h
 ·rename_i fs hu; simp only [Option.bind_eq_some_iff] at h; obtain ⟨fl, hf, s, hsz, h⟩ := h; split at h
  ·cases h
  rename_i hs0; have hrun : ∀ b off, (Instr.fieldAt t (.pointer (some ⟨b, off, none⟩)) f).run P w = .ok (.pointer (some ⟨b, off + fl.offset, none⟩)) w := by
   intro b off; simp only [Instr.fieldAt, Sem.run_bind, run_underlying hu, Result.andThen_ok, hf, Instr.sureAddr, Sem.run_pure, fieldPlace, fc hsz, if_neg hs0, gk]
  split at h
  ·rename_i m row; split at h
   ·rename_i hle; cases h; cases hx with
    | ptr _ _ b off hl hmem => exact ⟨_, hrun b off, .ptr _ _ _ _ (by rw [List.length_drop, hl]) (lY hmem _)⟩
   ·cases h
  ·rename_i l j off; cases h; obtain ⟨p, h1, h2, rfl⟩ := hx; exact ⟨_, hrun _ _, p, h1, h2, by rw [Nat.add_assoc]⟩
  ·cases h
 ·cases h
theorem Jn {t : TypeId} {x y : V} {v : Value} (hx : ax μ C x v) (h : hU P t x = some y) (ty : TypeId) : ∃ u, (Builtin.len_ #[t] ty #[v]).run P w = .ok u w /\ ax μ C y u := by
 unfold hU at h; split at h
 ·rename_i e sz xs f hu; cases h; obtain ⟨ao, cap, rfl, _⟩ := Rep.elem hx; exact ⟨_, by simp [Builtin.len_, run_underlying hu, goInt], .v _⟩
 ·rename_i e l lo len hu; cases h; obtain ⟨p, ao, hp, rfl, _⟩ := hx; exact ⟨_, by simp [Builtin.len_, run_underlying hu, goInt], .v _⟩
 ·rename_i e l i off es len cap hu; cases h; obtain ⟨p, ao, hp, _, rfl, _⟩ := hx; exact ⟨_, by simp [Builtin.len_, run_underlying hu, goInt], .v _⟩
 ·rename_i s hu; cases h; rw [bz hx]; exact ⟨_, by simp [Builtin.len_, run_underlying hu, goInt], .v _⟩
 ·rename_i n e hu; cases h; exact ⟨_, by simp [Builtin.len_, run_underlying hu, goInt], .v _⟩
 ·cases h
end
end
section
section
variable {P : Program} {μ : zMz} {C : aw} {w : World} {F : Fr} {st : St} {a : Act}
theorem si {s : Nat} {x : V} {v : Value} {ys : List D} (hx : ax μ C x v) (h : eU s x = some ys) : v.cells.size = s /\ Rp C (.vals ys v.cells.toList) := by
 have one : ∀ {d : D} {v : Value}, Rep C d v -> v.oneCell' = true -> (∀ cs, v ≠ .agg cs) -> v.cells.size = 1 /\ Rp C (.vals [d] v.cells.toList) := by
  intro d v hd h1 hna; have hc : v.cells = #[v] := by cases v <;> first | rfl | (exact absurd rfl (hna _))
  rw [hc]; exact ⟨rfl, .vcons _ _ _ _ h1 hd .vnil⟩
 unfold eU at h; split at h
 ·rename_i n xs; split at h
  ·rename_i hn; cases h; cases hx with
   | agg _ _ vs hl hv => exact ⟨by simp [Value.cells, cw hv, hl, hn], by simpa [Value.cells] using hv⟩
  ·cases h
 ·cases h
 ·rename_i y; split at h
  ·rename_i ho; cases h; have := bz hx; subst this; rw [ho.2]; exact one (.v _) ho.1 (fun cs e => by rw [e] at ho; cases ho.1)
  ·cases h
 ·rename_i y h1 h2 h3; split at h
  ·rename_i hs; cases h; subst hs; cases hx with
   | v _ => exact absurd rfl (h3 _)
   | nil _ _ _ _ a1 => exact one (.nil _ _ _ _ a1) rfl (fun cs e => by cases e)
   | list _ _ _ _ _ _ a1 a2 a3 => exact one (.list _ _ _ _ _ _ a1 a2 a3) rfl (fun cs e => by cases e)
   | agg => exact absurd rfl (h1 _ _)
   | tup => exact absurd rfl (h2 _)
   | ptr _ _ _ _ a1 a2 => exact one (.ptr _ _ _ _ a1 a2) rfl (fun cs e => by cases e)
   | fn _ _ _ a1 => exact one (.fn _ _ _ a1) rfl (fun cs e => by cases e)
   | map _ _ _ _ a1 a0 a2 a3 => exact one (.map _ _ _ _ a1 a0 a2 a3) rfl (fun cs e => by cases e)
  ·cases h
 ·cases h
theorem Io {cs ys : List D} {vs us : zLz} (h : Rp C (.vals cs vs)) (k : Rp C (.vals ys us)) (off : Nat) : Rp C (.vals (lU cs off ys) (lay vs off us)) := by
 unfold lU lay; rw [<- cw k]; exact ff (ff (yl _ h) k) (sK _ h)
theorem Di (off : Nat) (l : zLz) (cs : Array Value) (hle : off + l.length <= cs.size) :
  (l.zipIdx.foldl (fun cs (x : Value × Nat) => cs.setIfInBounds (off + x.2) x.1) cs).toList = lay cs.toList off l := by
 obtain ⟨h1, h2⟩ := Go.Great.foldl_set off l 0 cs; apply List.ext_getElem?; intro k; have := h2 k; rw [Array.getElem?_toList, this]; unfold lay; rw [Nat.add_zero]; have hcl : cs.toList.length = cs.size := by simp
 rcases Nat.lt_or_ge k off with hk | hk
 ·rw [if_neg (by omega), List.append_assoc, List.getElem?_append_left (by rw [List.length_take]; omega), List.getElem?_take_of_lt hk]; simp
 ·rcases Nat.lt_or_ge k (off + l.length) with hk2 | hk2
  ·rw [if_pos (by omega), List.append_assoc, List.getElem?_append_right (by rw [List.length_take]; omega), List.getElem?_append_left (by rw [List.length_take]; omega)]
   congr 1; rw [List.length_take]; omega
  ·rw [if_neg (by omega), List.getElem?_append_right (by rw [List.length_append, List.length_take]; omega), List.getElem?_drop]; rw [List.length_append, List.length_take]; rw [show off + l.length + (k - (min off cs.toList.length + l.length)) = k by omega]; simp
def jF (μ : zMz) (C : aw) : zEz -> List (Nat × Value) -> Prop
 | [], [] => True
 | (i, x) :: r, (j, v) :: s => i = j /\ ax μ C x v /\ jF μ C r s
 | _, _ => False
theorem zI {place : Nat -> Option (Nat × Nat)} : ∀ {ps : zEz} {qs : List (Nat × Value)} {cs ds : List D} {cells : Array Value}, jF μ C ps qs -> Rp C (.vals cs cells.toList) -> ez place ps cs = some ds -> ∃ cells', Instr.fill place cells qs = some cells' /\ Rp C (.vals ds cells'.toList) /\ ds.length = cs.length := by
 intro ps
 induction ps with
 | nil =>
  intro qs cs ds cells hp hc h; cases qs with
  | nil => cases h; exact ⟨cells, rfl, hc, rfl⟩
  | cons => exact hp.elim
 | cons e ps ih =>
  intro qs cs ds cells hp hc h; obtain ⟨i, x⟩ := e; cases qs with
  | nil => exact hp.elim
  | cons q qs =>
   obtain ⟨j, v⟩ := q; obtain ⟨rfl, hx, hr⟩ := hp; simp only [ez, Option.bind_eq_some_iff] at h; obtain ⟨⟨off, s⟩, hpl, ys, hys, h⟩ := h; obtain ⟨h1, h2⟩ := si hx hys; simp only at h h1 hys; split at h
   ·rename_i hle; have hcl : cells.size = cs.length := by have := cw hc; simpa using this
    have hyl : ys.length = s := by have := cw h2; simp at this; omega
    have hlay : (if s = 1 then AH cs off ys else if s = cs.length then ys else lU cs off ys) = lU cs off ys := by
     split
     ·unfold AH; split
      ·rename_i y; unfold lU; rw [List.set_eq_take_append_cons_drop, if_pos (by omega)]; simp
      ·rfl
     ·split
      ·rename_i e; unfold lU; have : off = 0 := by omega
       subst this; simp [hyl, e]
      ·rfl
    rw [hlay] at h; have hf : (v.cells.toList.zipIdx.foldl (fun cs (x : Value × Nat) => cs.setIfInBounds (off + x.2) x.1) cells).toList = lay cells.toList off v.cells.toList := Di off _ _ (by simp; omega); have hz : v.cells.zipIdx.foldl (fun cs (x : Value × Nat) => cs.setIfInBounds (off + x.2) x.1) cells = v.cells.toList.zipIdx.foldl (fun cs (x : Value × Nat) => cs.setIfInBounds (off + x.2) x.1) cells := by
     rw [<- Array.foldl_toList]; simp
    have hv2 : Rp C (.vals (lU cs off ys) (v.cells.zipIdx.foldl (fun cs (x : Value × Nat) => cs.setIfInBounds (off + x.2) x.1) cells).toList) := by
     rw [hz, hf]; exact Io hc h2 off
    obtain ⟨cells', a1, a2, a3⟩ := ih hr hv2 h; refine ⟨cells', ?_, a2, by rw [a3]; unfold lU; simp; omega⟩; unfold Instr.fill; simp only [hpl]; rw [if_neg (by simp; omega)]; exact a1
   ·cases h
theorem ux {t : TypeId} {z : List D} (h : bK P t = some z) : ∃ zv, (∀ w, (zeroValue t).run P w = .ok zv w) /\ Rp C (.vals z zv.cells.toList) := by
 unfold bK lK at h; simp only [Option.bind_eq_some_iff] at h; obtain ⟨zv, ⟨i, hi, hz⟩, h⟩ := h; split at h
 ·rename_i hall; cases h; refine ⟨zv, fun w => by simp [zeroValue, typeInfo, hi, hz], tq (by simp) fun i d v hd hv => ?_⟩; rw [List.getElem?_map, hv] at hd; cases hd; exact ⟨List.all_eq_true.1 hall v (List.mem_of_getElem? hv), mn v⟩
 ·cases h
theorem Br (fs : List Field) (hfs : fs.all (fun f => (az P f.type).isSome) = true) :
  fs.mapM (fun f => (P.info? f.type).map fun i => (f.offset, i.size)) = some (fs.map fun f => (f.offset, (az P f.type).getD 0)) := by
 induction fs with
 | nil => rfl
 | cons f fs ih =>
  simp only [List.all_cons, Bool.and_eq_true] at hfs; obtain ⟨s, hs⟩ := Option.isSome_iff_exists.1 hfs.1; have hs' := hs; unfold az at hs'; simp only [Option.map_eq_some_iff] at hs'; obtain ⟨i, hi, rfl⟩ := hs'; simp [List.mapM_cons, ih hfs.2, hi, hs]
theorem ye {t : TypeId} {qs : Array (Nat × Value)} {zv : Value} {pl : Nat -> Option (Nat × Nat)} {cells' : Array Value} (hpl : jb P t = some pl) (hzr : ∀ w, (zeroValue t).run P w = .ok zv w) (hall : ∀ fs, P.underlying t = some (.struct fs) -> fs.toList.all (fun f => (az P f.type).isSome) = true)
  (a1 : Instr.fill pl zv.cells qs.toList = some cells') : (Instr.build t qs).run P w = .ok (.agg cells') w := by
 unfold jb at hpl; obtain ⟨it, hit, hitz⟩ : ∃ it, P.info? t = some it /\ it.zero = some zv := by
  have := hzr w; unfold zeroValue typeInfo at this; cases hi : P.info? t with
  | none => simp [hi] at this
  | some it =>
   cases hiz : it.zero with
   | none => simp [hi, hiz] at this
   | some z2 => simp [hi, hiz] at this; exact ⟨it, rfl, by rw [hiz, this]⟩
 refine run_build w t qs cells' ?_; unfold Program.built; split at hpl
 ·rename_i fs hu; cases hpl; simp only [hit, hu, hitz, Br fs.toList (hall fs hu)]; rw [<- a1]
  congr 1
  funext i
  simp only [List.getElem?_toArray, List.getElem?_map, Array.getElem?_toList]; cases hfi : fs[i]? with
  | none => rfl
  | some f =>
   have hm2 : f ∈ fs.toList := by
    have : fs.toList[i]? = some f := by simpa using hfi
    exact List.mem_of_getElem? this
   obtain ⟨s, hs⟩ := Option.isSome_iff_exists.1 (List.all_eq_true.1 (hall fs hu) f hm2); simp [hs]
 ·rename_i n e hu; simp only [Option.map_eq_some_iff] at hpl; obtain ⟨s, hs, rfl⟩ := hpl; unfold az at hs; simp only [Option.map_eq_some_iff] at hs; obtain ⟨ie, hie, rfl⟩ := hs; simp only [hit, hu, hitz, hie]; exact a1
 ·cases hpl
theorem EA {t : TypeId} {ps : zEz} {qs : Array (Nat × Value)} {y : V} (hp : jF μ C ps qs.toList) (h : mm P t ps = some y) (hall : ∀ fs, P.underlying t = some (.struct fs) -> fs.toList.all (fun f => (az P f.type).isSome) = true) : ∃ u, (Instr.build t qs).run P w = .ok u w /\ ax μ C y u := by
 unfold mm at h; simp only [Option.bind_eq_some_iff, Option.map_eq_some_iff] at h; obtain ⟨z, hz, pl, hpl, cs, hf, rfl⟩ := h; obtain ⟨zv, hzr, hzv⟩ := ux (C := C) hz; obtain ⟨cells', a1, a2, a3⟩ := zI hp hzv hf; refine ⟨.agg cells', ?_, ?_⟩
 ·exact ye hpl hzr hall a1
 ·exact Rp.agg (C := C) z.length cs cells'.toList a3 a2
theorem ER {pl : Nat -> Option (Nat × Nat)} (x : Value) : ∀ (qs : List (Nat × Value)) (cells cells' : Array Value), (∀ e ∈ qs, ∀ q, pl e.1 = some q -> 1 <= q.1) -> Instr.fill pl cells qs = some cells' -> Instr.fill pl (cells.setIfInBounds 0 x) qs = some (cells'.setIfInBounds 0 x) := by
 have hset : ∀ (l : List (Value × Nat)) (off : Nat) (cells : Array Value), 1 <= off -> l.foldl (fun cs (e : Value × Nat) => cs.setIfInBounds (off + e.2) e.1) (cells.setIfInBounds 0 x) = (l.foldl (fun cs (e : Value × Nat) => cs.setIfInBounds (off + e.2) e.1) cells).setIfInBounds 0 x := by
  intro l off
  induction l with
  | nil => intro cells _; rfl
  | cons e l ih =>
   intro cells h; simp only [List.foldl_cons]; rw [Array.setIfInBounds_comm _ _ (by omega), ih _ h]
 intro qs
 induction qs with
 | nil => intro cells cells' _ h; cases h; rfl
 | cons e qs ih =>
  obtain ⟨i, v⟩ := e; intro cells cells' hp h; unfold Instr.fill at h ⊢; cases hi : pl i with
  | none => rw [hi] at h; cases h
  | some q =>
   obtain ⟨off, size⟩ := q; rw [hi] at h; simp only at h ⊢; have ho := hp (i, v) (by simp) (off, size) hi; split at h
   ·cases h
   ·rename_i hc; rw [if_neg (by simpa using hc)]; have hz : ∀ cells : Array Value, v.cells.zipIdx.foldl (fun cs (c : Value × Nat) => cs.setIfInBounds (off + c.2) c.1) cells = v.cells.toList.zipIdx.foldl (fun cs (c : Value × Nat) => cs.setIfInBounds (off + c.2) c.1) cells := by
     intro cells; rw [<- Array.foldl_toList]; simp
    rw [hz] at h ⊢; rw [hset _ off cells ho]; exact ih _ _ (fun e he => hp e (by simp [he])) h
theorem xB {t : TypeId} {ps : zEz} {qs : Array (Nat × Value)} {y : V} (hp : jF μ C ps qs.toList) (h : dS P t ps = some y) (hall : ∀ fs, P.underlying t = some (.struct fs) -> fs.toList.all (fun f => (az P f.type).isSome) = true) : ∃ u, (Instr.build t qs).run P w = .ok u w /\ ax μ C y u := by
 unfold dS at h; split at h
 ·rename_i v hv; cases h; exact EA hp hv hall
 ·unfold uM at h; split at h
  ·rename_i l n ps _; simp only [Option.bind_eq_some_iff] at h; obtain ⟨z, hz, pl, hpl, p0, hp0, h⟩ := h; split at h
   ·rename_i hc; obtain ⟨c1, c2, c3, c4⟩ := hc; simp only [Option.map_eq_some_iff] at h; obtain ⟨cs, hf, rfl⟩ := h; obtain ⟨zv, hzr, hzv⟩ := ux (C := C) hz; have hq : ∃ s qr, qs.toList = (0, s) :: qr /\ ax μ C (.sref l 0 n) s /\ jF μ C ps qr := by
     generalize qs.toList = ql at hp
     match ql, hp with
     | (i, s) :: qr, hp => obtain ⟨rfl, h1, h2⟩ := hp; exact ⟨s, qr, rfl, h1, h2⟩
    obtain ⟨s, qr, hql, ⟨p, a, q1, rfl, q3, q4⟩, hpr⟩ := hq; obtain ⟨cells', a1, a2, a3⟩ := zI hpr hzv hf; have hplaces : ∀ e ∈ qr, ∀ q, pl e.1 = some q -> 1 <= q.1 := by
     have key : ∀ (ps : zEz) (qr : List (Nat × Value)), jF μ C ps qr -> (ps.all fun e => match pl e.1 with | some q => Nat.ble 1 q.1 | none => false) = true -> ∀ e ∈ qr, ∀ q, pl e.1 = some q -> 1 <= q.1 := by
      intro ps
      induction ps with
      | nil => intro qr hr _ e he; cases qr with
       | nil => simp at he
       | cons => exact hr.elim
      | cons e0 ps ih =>
       obtain ⟨i0, x0⟩ := e0; intro qr hr hall e he q hq; cases qr with
       | nil => exact hr.elim
       | cons f qr =>
        obtain ⟨j0, v0⟩ := f; obtain ⟨rfl, _, hr⟩ := hr; simp only [List.all_cons, Bool.and_eq_true] at hall; rcases List.mem_cons.1 he with rfl | he
        ·have h1 := hall.1; simp only at hq; rw [hq] at h1; exact Nat.le_of_ble_eq_true h1
        ·exact ih qr hr hall.2 e he q hq
     exact key ps qr hpr c4
    have hcells : Instr.fill pl zv.cells ((0, .slice a n (p.cap - 0)) :: qr) = some (cells'.setIfInBounds 0 (.slice a n p.cap)) := by
     obtain ⟨b0, b1⟩ := p0; have c1 : b0 = 0 := c1; have c2 : b1 = 1 := c2; subst c1; subst c2; have hzl := cw hzv; have hpos : 0 < zv.cells.size := by simpa using (by rw [hzl]; exact c3 : 0 < zv.cells.toList.length)
     unfold Instr.fill; rw [hp0]; have hvc : (Value.slice a n (p.cap - 0)).cells = #[.slice a n p.cap] := rfl; simp only [hvc]; rw [if_neg (by
      rw [Bool.or_eq_true, decide_eq_true_eq, decide_eq_true_eq]; rintro (h | h)
      ·exact h rfl
      ·have h : 0 + 1 > zv.cells.size := h; omega)]
     exact ER _ qr zv.cells cells' hplaces a1
    have hlen : 0 < cells'.toList.length := by rw [cw a2, a3]; exact c3
    refine ⟨.agg (cells'.setIfInBounds 0 (.slice a n p.cap)), ?_, p, a, cells'.toList.drop 1, q1, by simpa using q3, by simpa using q4, ?_⟩
    ·refine ye hpl hzr hall ?_; rw [hql]; exact hcells
    ·rw [if_neg (by simp)]; refine ⟨sK 1 a2, ?_⟩
     congr 1
     apply Array.ext'; have : ∀ (l : zLz) (x : Value), 0 < l.length -> l.set 0 x = x :: l.drop 1 := by
      intro l x hl; cases l with
      | nil => simp at hl
      | cons y l => rfl
     simpa using this cells'.toList _ hlen
   ·cases h
  ·cases h
def nX (C : aw) (s : Nat) (rows : zRz) (cells : Array Value) : Prop :=
 cells.size = rows.length * s /\ ∀ (i : Nat) (r : List D), rows[i]? = some r -> r.length = s /\ ∀ (j : Nat) (d : D), r[j]? = some d -> ∃ u, cells[i * s + j]? = some u /\ u.oneCell' = true /\ Rep C d u
theorem Bl {s : Nat} : ∀ {ps : zEz} {qs : List (Nat × Value)} {rows rows' : zRz} {cells : Array Value}, jF μ C ps qs -> nX C s rows cells -> jq s ps rows = some rows' ->
  ∃ cells', Instr.fill (fun i => some (i * s, s)) cells qs = some cells' /\ nX C s rows' cells' /\ rows'.length = rows.length := by
 intro ps
 induction ps with
 | nil =>
  intro qs rows rows' cells hp hc h; cases qs with
  | nil => cases h; exact ⟨cells, rfl, hc, rfl⟩
  | cons => exact hp.elim
 | cons e ps ih =>
  intro qs rows rows' cells hp hc h; obtain ⟨i, x⟩ := e; cases qs with
  | nil => exact hp.elim
  | cons q qs =>
   obtain ⟨j, v⟩ := q; obtain ⟨rfl, hx, hr⟩ := hp; simp only [jq, Option.bind_eq_some_iff] at h; obtain ⟨ys, hys, h⟩ := h; obtain ⟨h1, h2⟩ := si hx hys; split at h
   ·rename_i hi; have hfit : i * s + s <= cells.size := by
     rw [hc.1]; have : (i + 1) * s <= rows.length * s := Nat.mul_le_mul_right _ hi; rw [Nat.succ_mul] at this; exact this
    have hyl : ys.length = s := by have := cw h2; simp at this; omega
    have hz : v.cells.zipIdx.foldl (fun cs (x : Value × Nat) => cs.setIfInBounds (i * s + x.2) x.1) cells = v.cells.toList.zipIdx.foldl (fun cs (x : Value × Nat) => cs.setIfInBounds (i * s + x.2) x.1) cells := by
     rw [<- Array.foldl_toList]; simp
    obtain ⟨g1, g2⟩ := Go.Great.foldl_set (i * s) v.cells.toList 0 cells; have hA : nX C s (rows.set i ys) (v.cells.zipIdx.foldl (fun cs (x : Value × Nat) => cs.setIfInBounds (i * s + x.2) x.1) cells) := by
     rw [hz]; refine ⟨by rw [g1, hc.1, List.length_set], fun i' r hr' => ?_⟩; by_cases hii : i' = i
     ·subst hii; rw [List.getElem?_set_self hi] at hr'; cases hr'; refine ⟨hyl, fun j d hj => ?_⟩; obtain ⟨u, a1, a2, a3⟩ := fd h2 j d hj; have hjl : j < s := by rw [<- hyl]; exact (List.getElem?_eq_some_iff.1 hj).1
      refine ⟨u, ?_, a2, a3⟩; rw [g2, if_pos ⟨by omega, by simp; omega, by omega⟩, <- a1]
      congr 1; omega
     ·rw [List.getElem?_set_ne (Ne.symm hii)] at hr'; obtain ⟨k1, k2⟩ := hc.2 i' r hr'; refine ⟨k1, fun j d hj => ?_⟩; obtain ⟨u, a1, a2, a3⟩ := k2 j d hj; refine ⟨u, ?_, a2, a3⟩; have hjl : j < s := by rw [<- k1]; exact (List.getElem?_eq_some_iff.1 hj).1
      rw [g2, if_neg ?_]; exact a1; have hvl : v.cells.toList.length = s := by simpa using h1
      rw [hvl]; rcases Nat.lt_or_gt_of_ne hii with hlt | hgt
      ·have : (i' + 1) * s <= i * s := Nat.mul_le_mul_right _ hlt; rw [Nat.succ_mul] at this; omega
      ·have : (i + 1) * s <= i' * s := Nat.mul_le_mul_right _ hgt; rw [Nat.succ_mul] at this; omega
    obtain ⟨cells', a1, a2, a3⟩ := ih hr hA h; refine ⟨cells', ?_, a2, by rw [a3]; simp⟩; unfold Instr.fill; simp only; rw [if_neg (by simp; omega)]; exact a1
   ·cases h
def lc (C : aw) (b : Nat) (cells : Array Value) : aw := fun b' o u => C b' o u \/ (b' = b /\ cells[o]? = some u)
theorem mY (hk : bG C w) (cells : Array Value) (T : TypeId) : More w C (w.alloc (.cells cells T)) (lc C w.heap.size cells) := by
 have hb := (Below.refl w.heap.size w).alloc (Nat.le_refl _) (.cells cells T); refine ⟨hb, fun _ _ _ h => .inl h, fun b o u h => h.imp id (fun h => by omega), fun b o u h => ?_⟩; rcases h with h | ⟨rfl, h⟩
 ·exact hk.below hb b o u h
 ·left; rw [cell_of_row _ _ _ _ _ _ (heap_alloc_new w _)]; exact h
theorem DK {s : Nat} {rows : zRz} {cells : Array Value} {b : Nat} (h : nX C s rows cells) : Rp (lc C b cells) (.rows rows b 0 s) := by
 refine kV fun i x hi => ?_
 obtain ⟨h1, h2⟩ := h.2 i x hi; refine ⟨h1, ia fun j d hj => ?_⟩; obtain ⟨u, a1, a2, a3⟩ := h2 j d hj; exact ⟨u, .inr ⟨rfl, by rw [Nat.zero_add]; exact a1⟩, a2, Rp.mono (fun _ _ _ h => .inl h) a3⟩
theorem vS {z : List D} {zc : Array Value} (h : Rp C (.vals z zc.toList)) (n : Nat) (hs : 0 < z.length) : nX C z.length (List.replicate n z) ((Array.range (n * z.length)).map (zc[· % zc.size]!)) := by
 have hl := cw h; have hl' : zc.size = z.length := by simpa using hl
 refine ⟨by simp, fun i r hr => ?_⟩; have hi : i < n := by have := (List.getElem?_eq_some_iff.1 hr).1; simpa using this
 rw [List.getElem?_replicate_of_lt hi] at hr; cases hr; refine ⟨rfl, fun j d hj => ?_⟩; obtain ⟨u, a1, a2, a3⟩ := fd h j d hj; have hjl : j < z.length := (List.getElem?_eq_some_iff.1 hj).1; have hlt : i * z.length + j < n * z.length := by
  have : (i + 1) * z.length <= n * z.length := Nat.mul_le_mul_right _ hi; rw [Nat.succ_mul] at this; omega
 refine ⟨u, ?_, a2, a3⟩; have hm : (i * z.length + j) % zc.size = j := by rw [hl', Nat.mul_comm, Nat.mul_add_mod, Nat.mod_eq_of_lt hjl]
 have hj' : zc[j]? = some u := by simpa using a1
 have hsz : j < zc.size := by omega
 simp [hlt, hm]; rw [getElem!_pos zc j hsz]; rw [Array.getElem?_eq_getElem hsz] at hj'; exact Option.some.inj hj'
theorem oe {t : TypeId} {n : Nat} {ps : zEz} {qs : Array (Nat × Value)} {y : V} (hp : jF μ C ps qs.toList) (h : bn P t n ps = some y) :
  ∃ s rows cells' e, y = .d (.list s rows true) /\ n <= 16777216 /\ rows.length = n /\ nX C s rows cells' /\ (Instr.buildSlice t n qs).run P w = .ok (.slice (some ⟨w.heap.size, 0, none⟩) n n) (w.alloc (.cells cells' e)) := by
 unfold bn at h; split at h
 ·rename_i e hu; simp only [Option.bind_eq_some_iff] at h; obtain ⟨s, hs, h⟩ := h; split at h
  ·rename_i hle; obtain ⟨hle, hnle⟩ := hle; simp only [Option.map_eq_some_iff] at h; obtain ⟨rows, hrows, rfl⟩ := h; have fin : ∀ (zc : Array Value), (if n * s = 0 then (pure #[] : Sem (Array Value)) else (do pure (<- zeroValue e).cells)).run P w = .ok zc w -> ∀ cells', Instr.fill (fun i => some (i * s, s)) ((Array.range (n * s)).map (zc[· % zc.size]!)) qs.toList = some cells' -> nX C s rows cells' -> rows.length = n ->
     ∃ s' rows' cells' e', (V.d (.list s rows true) : V) = .d (.list s' rows' true) /\ n <= 16777216 /\ rows'.length = n /\ nX C s' rows' cells' /\ (Instr.buildSlice t n qs).run P w = .ok (.slice (some ⟨w.heap.size, 0, none⟩) n n) (w.alloc (.cells cells' e')) := by
    intro zc hz cells' hf hR hn; refine ⟨s, rows, cells', e, rfl, hnle, hn, hR, ?_⟩
    ·unfold Instr.buildSlice; simp only [Sem.run_bind, run_underlying hu, Result.andThen_ok, fc hs, if_neg (show ¬ n * s > 2 ^ 24 by omega), Sem.run_pure]; by_cases h00 : n * s = 0
     ·simp only [if_pos h00, Sem.run_pure, Result.ok.injEq] at hz; obtain ⟨rfl, _⟩ := hz; simp only [if_pos h00, Sem.run_bind, Sem.run_pure, Result.andThen_ok, hf, newRow, newObj]; rfl
     ·simp only [if_neg h00, Sem.run_bind] at hz; simp only [if_neg h00, Sem.run_bind]; cases hzz : (zeroValue e).run P w with
      | halt => rw [hzz] at hz; cases hz
      | ok z1 w1 =>
       rw [hzz] at hz; simp only [Result.andThen_ok, Sem.run_pure, Result.ok.injEq] at hz; obtain ⟨rfl, rfl⟩ := hz; simp only [Result.andThen_ok, Sem.run_pure, hf, newRow, newObj, Sem.run_bind]; rfl
   split at hrows
   ·rename_i h0; split at hrows
    ·rename_i hh; cases hrows; obtain ⟨hps, rfl⟩ := hh; have hq : qs.toList = [] := by
      cases hql : qs.toList with
      | nil => rfl
      | cons q r =>
       rw [hql] at hp; cases ps with
       | nil => exact hp.elim
       | cons => simp at hps
     exact fin #[] (by rw [if_pos h0]; rfl) #[] (by rw [hq]; simp [Instr.fill]) ⟨by simp, fun i r hr => by simp at hr⟩ rfl
    ·cases hrows
   ·rename_i h0; simp only [Option.bind_eq_some_iff] at hrows; obtain ⟨z, hz, hrows⟩ := hrows; split at hrows
    ·rename_i hzl; obtain ⟨zv, hzr, hzv⟩ := ux (C := C) hz; have hs0 : 0 < s := Nat.pos_of_ne_zero (fun e => h0 (by rw [e, Nat.mul_zero])); have hA := vS hzv n (by omega); rw [hzl] at hA; obtain ⟨cells', a1, a2, a3⟩ := Bl hp hA hrows; refine fin zv.cells (by rw [if_neg h0]; simp [Sem.run_bind, hzr, Result.andThen_ok]) cells' a1 a2 (by rw [a3]; simp)
    ·cases hrows
  ·cases h
 ·cases h
theorem wy (hk : bG C w) {t : TypeId} {n : Nat} {ps : zEz} {qs : Array (Nat × Value)} {y : V} (hp : jF μ C ps qs.toList) (h : bn P t n ps = some y) : ∃ u w' C', (Instr.buildSlice t n qs).run P w = .ok u w' /\ More w C w' C' /\ ax μ C' y u := by
 obtain ⟨s, rows, cells', e, rfl, hnle, hn, hR, hrun⟩ := oe (w := w) hp h; refine ⟨_, _, _, hrun, mY hk cells' e, ?_⟩; by_cases h0 : rows = []
 ·subst h0; simp at hn; subst hn; exact .nil s true _ 0 ⟨Nat.le_refl _, fun _ => rfl, by omega, fun _ => rfl, fun x h _ => by cases h; rfl⟩
 ·have := Rp.list (C := lc C w.heap.size cells') s rows true w.heap.size 0 n h0 ⟨by omega, fun _ => hn.symm, by omega, fun h => (by cases h), fun x h _ => by cases h; rfl⟩ (DK hR); rw [hn] at this; exact this
end
end
section
section
variable {P : Program} {μ : zMz} {C : aw} {w : World} {F : Fr} {st : St} {a : Act}
theorem iX {x : V} {v : Value} {d n : Nat} (hx : ax μ C x v) (h : bx (some x) d = some n) : ∃ k, v = .int k (n : Int) := by
 simp only [bx, Option.bind_eq_some_iff] at h; obtain ⟨i, hi, h⟩ := h; obtain ⟨k, rfl⟩ := wK hx hi; split at h
 ·rename_i h0; cases h; exact ⟨k, by congr 1; omega⟩
 ·cases h
theorem gz (k : IntKind) (n y : Nat) (code : BoundsCode) (h : n <= y) : (Instr.sliceBound (.int k (n : Int)) y code).run P w = .ok n w := by
 unfold Instr.sliceBound; simp [asIntOf, Sem.run_bind, Result.andThen, show ((n : Int) <= y) by omega]
def tN (μ : zMz) (C : aw) : Option V -> Option Value -> Prop
 | none, none => True
 | some x, some v => ax μ C x v
 | _, _ => False
theorem lG {lo hi : Option V} {lv hv : Option Value} {b : Bool} {len cap l u : Nat} (hlo : tN μ C lo lv) (hhi : tN μ C hi hv) (h1 : bx lo 0 = some l) (h2 : bx hi len = some u) (hl : l <= u) (hu : u <= len) (hc : len <= cap) :
  (Instr.sliceBounds b len cap lv hv none).run P w = .ok (l, u, cap) w := by
 unfold Instr.sliceBounds; cases hi with
 | none =>
  cases hv with
  | some _ => exact hhi.elim
  | none =>
   simp only [bx, Option.some.injEq] at h2; subst h2; cases lo with
   | none =>
    cases lv with
    | some _ => exact hlo.elim
    | none => simp only [bx, Option.some.injEq] at h1; subst h1; rfl
   | some lo =>
    cases lv with
    | none => exact hlo.elim
    | some lv =>
     obtain ⟨k, rfl⟩ := iX hlo h1; simp [Sem.run_bind, Sem.run_pure, Result.andThen_ok, gz k l len _ hl]
 | some hi =>
  cases hv with
  | none => exact hhi.elim
  | some hv =>
   obtain ⟨k2, rfl⟩ := iX hhi h2; cases lo with
   | none =>
    cases lv with
    | some _ => exact hlo.elim
    | none => simp only [bx, Option.some.injEq] at h1; subst h1; simp [Sem.run_bind, Sem.run_pure, Result.andThen_ok, gz k2 u cap _ (show u <= cap by omega)]
   | some lo =>
    cases lv with
    | none => exact hlo.elim
    | some lv =>
     obtain ⟨k, rfl⟩ := iX hlo h1; simp [Sem.run_bind, Sem.run_pure, Result.andThen_ok, gz k l u _ hl, gz k2 u cap _ (show u <= cap by omega)]
theorem BC {lo : Option V} {lv : Option Value} {hi mx : V} {hv mv : Value} {len cap l u m : Nat} (hlo : tN μ C lo lv) (hhi : ax μ C hi hv) (hmx : ax μ C mx mv) (h1 : bx lo 0 = some l) (h2 : bx (some hi) len = some u) (h3 : bx (some mx) u = some m) (hl : l <= u) (hu : u <= m) (hc : m <= cap) :
  (Instr.sliceBounds true len cap lv (some hv) (some mv)).run P w = .ok (l, u, m) w := by
 obtain ⟨k2, rfl⟩ := iX hhi h2; obtain ⟨k3, rfl⟩ := iX hmx h3; unfold Instr.sliceBounds; cases lo with
 | none =>
  cases lv with
  | some _ => exact hlo.elim
  | none => simp only [bx, Option.some.injEq] at h1; subst h1; simp [Sem.run_bind, Sem.run_pure, Result.andThen_ok, gz k3 m cap _ hc, gz k2 u m _ hu]
 | some lo =>
  cases lv with
  | none => exact hlo.elim
  | some lv =>
   obtain ⟨k, rfl⟩ := iX hlo h1; simp [Sem.run_bind, Sem.run_pure, Result.andThen_ok, gz k3 m cap _ hc, gz k2 u m _ hu, gz k l u _ hl]
theorem Ga (hs : Sim F st μ C a w) {t : TypeId} {x y : V} {v : Value} {lo hi mx : Option V} {lv hv mv : Option Value} (hx : ax μ C x v) (hlo : tN μ C lo lv) (hhi : tN μ C hi hv) (hmx : tN μ C mx mv) (h : dI P st.h t x lo hi mx = some y) :
  ∃ u, (Instr.sliceAt t v lv hv mv).run P w = .ok u w /\ ax μ C y u := by
 unfold dI at h; split at h
 ·rename_i e hu; simp only [Option.bind_eq_some_iff] at h; obtain ⟨s, hsz, h⟩ := h; have hrun : ∀ (ao : Option Addr) (len cap l u m : Nat), (Instr.sliceBounds true len cap lv hv mv).run P w = .ok (l, u, m) w -> (Instr.sliceAt t (.slice ao len cap) lv hv mv).run P w = .ok (.slice (if m = l then ao else ao.map (·.add (l * s))) (u - l) (m - l)) w := by
   intro ao len cap l u m hb; simp [Instr.sliceAt, Instr.slice, Sem.run_bind, run_underlying hu, hb, fc hsz, Result.andThen]
  split at h
  ·rename_i sz xs f; simp only [Option.bind_eq_some_iff] at h; obtain ⟨l, hl, u, hu', h⟩ := h; obtain ⟨ao, cap, rfl, dc, d3⟩ := Rep.elem hx; have d1 := dc.le; have d2 := dc.full; have fin : ∀ (M : Nat) (g : Bool), (Instr.sliceBounds true xs.length cap lv hv mv).run P w = .ok (l, u, M) w -> l <= u -> u <= xs.length -> u <= M -> M <= cap -> (g = true -> M = u) -> (sz = s \/ lo = none) -> ∃ r, (Instr.sliceAt t (.slice ao xs.length cap) lv hv mv).run P w = .ok r w /\ ax μ C (.d (.list sz ((xs.take u).drop l) g)) r := by
    intro M g hM c1 c2 hMu hMc hg c4; refine ⟨_, hrun ao _ cap l u M hM, ?_⟩; by_cases hlm : l = u
    ·subst hlm; have : (xs.take l).drop l = [] := by simp
     rw [this, Nat.sub_self]; refine .nil _ _ _ _ ⟨Nat.zero_le _, fun hf => by have := hg hf; omega, by have := dc.max; omega, fun hn => ?_, fun x hx => ?_⟩
     ·split at hn
      ·omega
      ·have := dc.nil (by cases ao with | none => rfl | some _ => cases hn); omega
     ·intro hpos; split at hx
      ·omega
      ·cases ao with
       | none => cases hx
       | some y =>
        cases hx; unfold Addr.add; split
        ·exact dc.spot y rfl (by omega)
        ·rfl
    ·obtain ⟨b, off, rfl, hr⟩ := d3 (by intro e; subst e; simp at c2; omega); have hne : (xs.take u).drop l ≠ [] := by
      intro e; have := congrArg List.length e; simp at this; omega
     have hlen : ((xs.take u).drop l).length = u - l := by simp; omega
     have := Rp.list (C := C) sz ((xs.take u).drop l) g b (off + l * sz) (M - l) hne ⟨by omega, fun hf => by have := hg hf; omega, by have := dc.max; omega, fun h => (by cases h), fun x h _ => by cases h; rfl⟩ (yb (yd hr u) l); rw [hlen] at this; rw [if_neg (by omega)]; simp only [Option.map_some, gk]; rcases c4 with rfl | rfl
     ·exact this
     ·simp only [bx, Option.some.injEq] at hl; subst hl; simp only [List.drop_zero, Nat.zero_mul, Nat.add_zero, Nat.sub_zero] at this ⊢; exact this
   split at h
   ·split at h
    ·rename_i hc; obtain ⟨c1, c2, c4⟩ := hc; cases h; have hxs : ((if hi.isNone then xs else xs.take u).drop l) = (xs.take u).drop l := by
      split
      ·rename_i hn; cases hi with
       | some _ => cases hn
       | none => simp only [bx, Option.some.injEq] at hu'; subst hu'; simp
      ·rfl
     rw [hxs]; cases mv with
     | some _ => exact hmx.elim
     | none =>
      refine fin cap _ (lG hlo hhi hl hu' c1 c2 d1) c1 c2 (by omega) (Nat.le_refl _) (fun hf => ?_) c4; simp at hf; obtain ⟨g1, g2⟩ := hf; subst g1; simp only [bx, Option.some.injEq] at hu'; subst hu'; exact d2 g2
    ·cases h
   ·rename_i mx; simp only [Option.bind_eq_some_iff] at h; obtain ⟨m, hm, h⟩ := h; split at h
    ·rename_i hc; obtain ⟨c0, c1, c2, rfl, c4⟩ := hc; cases h; cases mv with
     | none => exact hmx.elim
     | some mv =>
      cases hi with
      | none => cases c0
      | some hi =>
       cases hv with
       | none => exact hhi.elim
       | some hv => exact fin m true (BC hlo hhi hmx hl hu' hm c1 (Nat.le_refl _) (by omega)) c1 c2 (Nat.le_refl _) (by omega) (fun _ => rfl) c4
    ·cases h
  ·rename_i bl lo0 len; simp only [Option.bind_eq_some_iff] at h; obtain ⟨k, hk, l, hl, u, hu', h⟩ := h; split at h
   ·rename_i hc; obtain ⟨c1, c2, c3, c4⟩ := hc; cases h; cases mx with
    | some _ => cases c3
    | none =>
    cases mv with
    | some _ => exact hmx.elim
    | none =>
    obtain ⟨p, ao, hp, rfl, d1, d2⟩ := hx; obtain ⟨p2, hp2, hb⟩ := hs.heap bl k hk; rw [hp] at hp2; cases hp2; refine ⟨_, hrun ao _ _ l u _ (lG hlo hhi hl hu' c1 c2 (by omega)), p, (if p.cap - lo0 = l then ao else ao.map (·.add (l * s))), hp, ?_, by omega, ?_⟩
    ·rw [show p.cap - lo0 - l = p.cap - (lo0 + l) by omega]
    ·intro hlt; obtain rfl := d2 (by omega); rw [if_neg (by omega), Option.map_some, gk, Nat.add_mul, hb.sz, c4]
   ·cases h
  ·rename_i bl j off es len cap; simp only [Option.bind_eq_some_iff] at h; obtain ⟨l, hl, u, hu', h⟩ := h; split at h
   ·rename_i hc; obtain ⟨c1, c2, c3, rfl⟩ := hc; cases h; cases mx with
    | some _ => cases c3
    | none =>
    cases mv with
    | some _ => exact hmx.elim
    | none =>
    obtain ⟨p, ao, hp, hcap, rfl, d1, dm, d2⟩ := hx; refine ⟨_, hrun _ _ _ l u _ (lG hlo hhi hl hu' c1 c2 d1), p, if cap = l then ao else ao.add (l * es), hp, hcap, ?_, by omega, by omega, ?_⟩
    ·split <;> simp
    ·intro hlt; obtain rfl := d2 (by omega); rw [if_neg (by omega), gk, Nat.add_assoc]
   ·cases h
  ·cases h
 ·rename_i n e hu; simp only [Option.bind_eq_some_iff] at h; obtain ⟨s, hsz, h⟩ := h; split at h
  ·rename_i bl j off; simp only [Option.bind_eq_some_iff] at h; obtain ⟨l, hl, u, hu', h⟩ := h; split at h
   ·rename_i hc; obtain ⟨c1, c2, c3, cn⟩ := hc; cases h; cases mx with
    | some _ => cases c3
    | none =>
    cases mv with
    | some _ => exact hmx.elim
    | none =>
    obtain ⟨p, hp, hcap, rfl⟩ := hx; have hb := lG (P := P) (w := w) (b := false) hlo hhi hl hu' c1 c2 (Nat.le_refl n); refine ⟨.slice (some (if n = l then ⟨p.b, j * p.sz + off, none⟩ else (⟨p.b, j * p.sz + off, none⟩ : Addr).add (l * s))) (u - l) (n - l), ?_, p, _, hp, hcap, rfl, by omega, by omega, ?_⟩
    ·simp [Instr.sliceAt, Sem.run_bind, run_underlying hu, Instr.sureAddr, hb, fc hsz, Result.andThen]
    ·intro hlt; rw [if_neg (by omega), gk, Nat.add_assoc]
   ·cases h
  ·rename_i m r; simp only [Option.bind_eq_some_iff] at h; obtain ⟨l, hl, u, hu', h⟩ := h; split at h
   ·rename_i hc; obtain ⟨c1, c2, c3, cn, cm⟩ := hc; cases h; cases mx with
    | some _ => cases c3
    | none =>
    cases mv with
    | some _ => exact hmx.elim
    | none =>
    have hb := lG (P := P) (w := w) (b := false) hlo hhi hl hu' c1 c2 (Nat.le_refl n); cases hx with
    | ptr _ _ b off hlen hmem =>
    refine ⟨.slice (some (if n = l then ⟨b, off, none⟩ else (⟨b, off, none⟩ : Addr).add (l * s))) (u - l) (n - l), ?_, ?_⟩
    ·simp [Instr.sliceAt, Sem.run_bind, run_underlying hu, Instr.sureAddr, hb, fc hsz, Result.andThen]
    ·obtain ⟨hrows, hcl⟩ := uQ n (es := s) (r := r) (off := off) (b := b) (C := C) (by omega) hmem; by_cases hlm : l = u
     ·subst hlm; have : ((ft s n r).take l).drop l = [] := by simp
      rw [this, Nat.sub_self]; refine .nil _ _ _ _ ⟨Nat.zero_le _, fun hf => by simp at hf; omega, by omega, fun hn => (by cases hn), fun x hx _ => ?_⟩; cases hx; split
      ·rfl
      ·rw [gk]
     ·have hne : ((ft s n r).take u).drop l ≠ [] := by
       intro e; have := congrArg List.length e; simp [hcl] at this; omega
      have hlen2 : (((ft s n r).take u).drop l).length = u - l := by simp [hcl]; omega
      have := Rp.list (C := C) s (((ft s n r).take u).drop l) (decide (u = n)) b (off + l * s) (n - l) hne ⟨by omega, fun hf => by simp at hf; omega, by omega, fun h => (by cases h), fun x h _ => by cases h; rfl⟩ (yb (yd hrows u) l); rw [hlen2] at this; rw [if_neg (by omega), gk]; exact this
   ·cases h
  ·cases h
 ·rename_i hu; simp only [Option.bind_eq_some_iff] at h; obtain ⟨x', hx', h⟩ := h; rw [fC hx hx']; have hat : ∀ lv hv, Instr.sliceAt t x' lv hv none = (do match <- underlying t with
   | .array n elem =>
    let a <- Instr.sureAddr x'
    let (l, h, m) <- Instr.sliceBounds false n n lv hv none
    let size <- sizeOf elem
    pure (.slice (some (if m = l then a else a.add (l * size))) (h - l) (m - l))
   | _ => Instr.slice t x' lv hv none) := fun _ _ => rfl
  have fin : ∀ lv hv u, aD P (Instr.slice t x' lv hv none) = some u -> (Instr.sliceAt t x' lv hv none).run P w = .ok u w := by
   intro lv hv u h; rw [hat, Sem.run_bind, run_underlying hu, Result.andThen_ok]; exact kH h w
  split at h
  ·simp only [Option.map_eq_some_iff] at h; obtain ⟨u, h, rfl⟩ := h; cases lv with
   | some _ => exact hlo.elim
   | none =>
   cases hv with
   | some _ => exact hhi.elim
   | none =>
   cases mv with
   | some _ => exact hmx.elim
   | none => exact ⟨u, fin _ _ _ h, .v u⟩
  ·rename_i lo'; simp only [Option.bind_eq_some_iff, Option.map_eq_some_iff] at h; obtain ⟨l', hl', u, h, rfl⟩ := h; cases lv with
   | none => exact hlo.elim
   | some lv =>
   cases hv with
   | some _ => exact hhi.elim
   | none =>
   cases mv with
   | some _ => exact hmx.elim
   | none => rw [fC hlo hl']; exact ⟨u, fin _ _ _ h, .v u⟩
  ·rename_i hi'; simp only [Option.bind_eq_some_iff, Option.map_eq_some_iff] at h; obtain ⟨l', hl', u, h, rfl⟩ := h; cases lv with
   | some _ => exact hlo.elim
   | none =>
   cases hv with
   | none => exact hhi.elim
   | some hv =>
   cases mv with
   | some _ => exact hmx.elim
   | none => rw [fC hhi hl']; exact ⟨u, fin _ _ _ h, .v u⟩
  ·rename_i lo' hi'; simp only [Option.bind_eq_some_iff, Option.map_eq_some_iff] at h; obtain ⟨l', hl', h', hh', u, h, rfl⟩ := h; cases lv with
   | none => exact hlo.elim
   | some lv =>
   cases hv with
   | none => exact hhi.elim
   | some hv =>
   cases mv with
   | some _ => exact hmx.elim
   | none => rw [fC hlo hl', fC hhi hh']; exact ⟨u, fin _ _ _ h, .v u⟩
  ·cases h
 ·cases h
theorem EC {xs : zRz} : ∀ {l : zBz}, nB xs = some l -> ∀ {b off : Nat}, Rp C (.rows xs b off 1) -> ∃ ns : List Int, l = ns.map (fun n => UInt8.ofNat n.toNat) /\ ns.length = xs.length /\ ∀ (j : Nat) (n : Int), ns[j]? = some n -> C b (off + j) (.int .u8 n) := by
 induction xs with
 | nil => intro l h b off _; cases h; exact ⟨[], rfl, rfl, by simp⟩
 | cons x xs ih =>
  intro l h b off hr; unfold nB at h; split at h
  ·rename_i h0; cases h0
  ·rename_i n r heq; cases heq; simp only [Option.map_eq_some_iff] at h; obtain ⟨l', hl', rfl⟩ := h; cases hr with
   | rcons _ _ _ _ _ h1 h2 h3 =>
    obtain ⟨ns, a1, a2, a3⟩ := ih hl' h3; cases h2 with
    | mcons _ _ _ _ u b1 b2 b3 b4 =>
     have := bz b3; subst this; refine ⟨n :: ns, by simp [a1], by simp [a2], fun j m hj => ?_⟩; cases j with
     | zero => simp at hj; subst hj; simpa using b2
     | succ j => rw [show off + (j + 1) = off + 1 + j by omega]; exact a3 j m (by simpa using hj)
  ·cases h
theorem DG (ns : List Int) : ∀ s : ByteArray, (ns.foldl (fun r n => r.push (UInt8.ofNat n.toNat)) s) = ⟨(s.data.toList ++ ns.map fun n => UInt8.ofNat n.toNat).toArray⟩ := by
 induction ns with
 | nil => intro s; simp
 | cons n ns ih =>
  intro s; rw [List.foldl_cons, ih]; simp [ByteArray.push]
theorem GA (hk : bG C w) {s d : TypeId} {x y : V} {v : Value} (hx : ax μ C x v) (h : fM P s d x = some y) : ∃ u, (convert s d v).run P w = .ok u w /\ ax μ C y u := by
 unfold fM at h; split at h
 ·simp only [Option.map_eq_some_iff] at h; obtain ⟨u, h, rfl⟩ := h; rw [bz hx]; exact ⟨u, kH h w, .v u⟩
 ·rename_i sz xs f; split at h
  ·rename_i e hu1 hu2; split at h
   ·rename_i hu3; split at h
    ·rename_i hc; simp only [Option.map_eq_some_iff] at h; obtain ⟨l, h, rfl⟩ := h; obtain ⟨ao, cap, rfl, d1, d3⟩ := Rep.elem hx; have hcv : ∀ x : Value, (∀ n k, x ≠ .int k n) -> (∀ k b, x ≠ .float k b) -> (∀ k a b, x ≠ .complex k a b) -> (∀ t, x ≠ .string t) -> (convert s d x).run P w = (Conv.bytesToString x).run P w := by
      intro x h1 h2 h3 h4; unfold convert; simp only [Sem.run_bind, run_underlying hu1, run_underlying hu2, Result.andThen_ok]; cases x <;> simp_all [Sem.run_bind, run_underlying hu3, Result.andThen_ok]
     rw [hcv _ (by simp) (by simp) (by simp) (by simp)]; by_cases hxs : xs = []
     ·subst hxs; cases h; refine ⟨.string ⟨#[]⟩, ?_, .v _⟩; cases ao with
      | none => rfl
      | some a =>
       have := run_bytesToString (P := P) w a 0 cap [] (by rfl); exact this
     ·obtain ⟨b, off, rfl, hr⟩ := d3 hxs; have hsz : sz = 1 := hc.resolve_right hxs; subst hsz; obtain ⟨ns, rfl, hnl, hns⟩ := EC h hr; refine ⟨_, run_bytesToString (P := P) w ⟨b, off, none⟩ xs.length cap ns ?_, ?_⟩
      ·rw [<- hnl, <- List.length_map (f := Value.int .u8)]; refine run_loadCells_list w ⟨b, off, none⟩ (ns.map (Value.int .u8)) fun j v hv => ?_
       rw [List.getElem?_map] at hv; cases hj : ns[j]? with
       | none => rw [hj] at hv; cases hv
       | some n => rw [hj] at hv; cases hv; rw [dJ]; exact hk.cell (hns j n hj) rfl
      ·rw [DG]; exact .v _
    ·cases h
   ·cases h
  ·cases h
 ·cases h
theorem IW (hs : Sim F st μ C a w) {t : TypeId} {x : V} {v : Value} {n : Nat} {row : List V} {T : TypeId} (hx : ax μ C x v) (h : tQ t x = some (.new n row T)) : ∃ μ', (Instr.box t v).run P w = .ok (.pointer (some ⟨w.heap.size, 0, none⟩)) (w.alloc (.cells v.cells T)) /\
  Sim F { st with h := (st.nx, ⟨n, [row]⟩) :: st.h, nx := st.nx + 1 } μ' C a (w.alloc (.cells v.cells T)) /\ ax μ' C (.ref st.nx 0 0) (.pointer (some ⟨w.heap.size, 0, none⟩)) := by
 simp only [tQ, Option.map_eq_some_iff] at h; obtain ⟨⟨n', ys⟩, hc, h⟩ := h; cases h; obtain ⟨h1, h2, h3⟩ := xE hx hc; refine ⟨_, rfl, hs.alloc n' [ys] v.cells t (by simp [h2]) (by simp) (by simp) (by simp [h1]) ?_ (ui (xD hc)), ⟨w.heap.size, 1, n'⟩, by simp, by simp, by simp⟩; intro i r hr j y hy; cases i with
 | zero =>
  simp at hr; subst hr; obtain ⟨u, a1, a2, a3⟩ := h3 j y hy; exact ⟨u, by simpa using a1, a2, a3⟩
 | succ i => simp at hr
theorem Et (hs : Sim F st μ C a w) {t : TypeId} {n : Nat} {row : List V} {T : TypeId} (h : dF P t = some (.new n row T)) (hh : Bool) : ∃ μ' w', (Instr.alloc t true (.tuple #[])).run P w = .ok (.pointer (some ⟨w.heap.size, 0, none⟩)) w' /\
  Sim F { st with h := (st.nx, ⟨n, [row]⟩) :: st.h, nx := st.nx + 1 } μ' C a w' /\ ax μ' C (.ref st.nx 0 0) (.pointer (some ⟨w.heap.size, 0, none⟩)) := by
 simp only [dF, lK, Option.bind_eq_some_iff] at h; obtain ⟨z, ⟨i, hi, hz⟩, h⟩ := h; split at h
 ·rename_i hall; cases h; refine ⟨_, w.alloc (.cells z.cells t), ?_, hs.alloc z.cells.size [z.cells.toList.map fun v => .d (bS v)] z.cells t (by simp) (by simp) (by simp) (by simp) ?_ (Aj _ _ _), ⟨w.heap.size, 1, z.cells.size⟩, by simp, by simp, by simp⟩
  ·simp [Instr.alloc, Sem.run_bind, zeroValue, typeInfo, hi, hz, newVar, newRow, newObj, Result.andThen]; rfl
  ·intro i r hr j y hy; cases i with
   | zero =>
    simp at hr; subst hr; rw [List.getElem?_map] at hy; cases hj : z.cells.toList[j]? with
    | none => rw [hj] at hy; cases hy
    | some v =>
     rw [hj] at hy; cases hy; exact ⟨v, by simpa using hj, List.all_eq_true.1 hall v (List.mem_of_getElem? hj), mn v⟩
   | succ i => simp at hr
 ·cases h
theorem GM {k kk : IntKind} {n : Int} : ∀ {ks : zLz} {ds : List D} {us : zLz} {es : List MapEntry} {r : Option D} (i : Nat), Rp C (.outs ds us) -> ot k n ks ds = some r -> es.map (·.key) = ks -> es.map (·.val) = us ->
  ∃ q, Instr.findNow (.int kk) (.int k n) es i = some q /\ ((r = none /\ q = none) \/ ∃ d j u, r = some d /\ q = some (j, u) /\ Rep C d u) := by
 intro ks
 induction ks with
 | nil =>
  intro ds us es r i hr h hk hv; cases es with
  | cons e es => simp at hk
  | nil =>
   cases ds with
   | cons d ds => simp [ot] at h
   | nil => simp [ot] at h; subst h; exact ⟨none, rfl, .inl ⟨rfl, rfl⟩⟩
 | cons key ks ih =>
  intro ds us es r i hr h hk hv; cases es with
  | nil => simp at hk
  | cons e es =>
   simp only [List.map_cons, List.cons.injEq] at hk; obtain ⟨hk1, hk2⟩ := hk; simp only [List.map_cons] at hv; cases ds with
   | nil => exfalso; cases key <;> simp [ot] at h
   | cons d ds =>
    cases us with
    | nil => cases hv
    | cons u us =>
     cases hr with
     | ocons _ _ _ _ h1 h2 =>
      simp only [List.cons.injEq] at hv; cases key with
      | int k' m =>
       simp only [ot] at h; split at h
       ·rename_i hkk; split at h
        ·rename_i hnm; cases h; refine ⟨some (i, e.val), ?_, .inr ⟨d, i, e.val, rfl, rfl, by rw [hv.1]; exact h1⟩⟩; unfold Instr.findNow; rw [hk1]; simp [Instr.sameNow, hkk, hnm]
        ·rename_i hnm; obtain ⟨q, g1, g2⟩ := ih (i + 1) h2 h hk2 hv.2; refine ⟨q, ?_, g2⟩; unfold Instr.findNow; rw [hk1]; have : (n == m) = false := by simpa using hnm
         subst hkk; simp [Instr.sameNow, this, g1]
       ·cases h
      | _ => simp [ot] at h
theorem Dv (hk : bG C w) {t : TypeId} {x i y : V} {v iv : Value} {ok : Bool} (hx : ax μ C x v) (hi : ax μ C i iv) (h : wO P t x i ok = some y) : ∃ u, (Instr.lookup t v iv ok).run P w = .ok u w /\ ax μ C y u := by
 unfold wO at h; split at h
 ·rename_i kt et ks ds k n hu; split at h
  ·rename_i kk hkt; have hiv := bz hi; subst hiv; cases hx with
   | map _ _ us r h1 h0 h2 h3 =>
    obtain ⟨es, clock, hes, he⟩ : ∃ es clock, w.heap[r]? = some (.map es clock) /\ sb ks us = sb (es.toList.map (·.key)) (es.toList.map (·.val)) := by
     rcases hk _ _ _ h1 with hc | ⟨es, clock, hes, he | he⟩
     ·exfalso; rcases hk _ _ _ h0 with hc' | ⟨es, clock, hes, _⟩
      ·rw [hc] at hc'; simp [sb] at hc'
      ·simp [World.cell?, hes] at hc
     ·exact ⟨es, clock, hes, he⟩
     ·simp [sb] at he
    have hks : es.toList.map (·.key) = ks := by simp [sb] at he; simpa using he.1.symm
    have hus : es.toList.map (·.val) = us := by simp [sb] at he; simpa using he.2.symm
    simp only [Option.bind_eq_some_iff] at h; obtain ⟨rr, hf, h⟩ := h; obtain ⟨q, g1, g2⟩ := GM (kk := kk) 0 h3 hf hks hus; have hfind : (Instr.findKey kt (.int k n) es.toList).run P w = .ok q w := by
     unfold Instr.findKey; simp [Sem.run_bind, run_underlying hkt, Result.andThen, g1]
    have hchk : (Instr.checkKey es.isEmpty 10000 kt (.int k n)).run P w = .ok () w := by
     unfold Instr.checkKey; simp [Sem.run_bind, run_underlying hkt, Result.andThen]
    have hget : (getObj r).run P w = .ok (.map es clock) w := by
     simp [getObj, Sem.run, hes]
    have hrun : ∀ (p : Value × Bool), (match q with | some (_, v) => (pure (v, true) : Sem (Value × Bool)) | none => do pure (<- zeroValue et, false)).run P w = .ok p w ->
      (Instr.lookup t (.map (some r)) (.int k n) ok).run P w = .ok (if ok then .tuple #[p.1, .bool p.2] else p.1) w := by
     intro p hp; unfold Instr.lookup; simp only [Sem.run_bind, run_underlying hu, Result.andThen_ok, hget, Sem.run_pure, hchk, hfind]; cases q with
     | none =>
      simp only [Sem.run_bind] at hp ⊢; cases hz : (zeroValue et).run P w with
      | halt => rw [hz] at hp; cases hp
      | ok z w1 =>
       rw [hz] at hp; simp only [Result.andThen_ok, Sem.run_pure, Result.ok.injEq] at hp ⊢; obtain ⟨rfl, rfl⟩ := hp; simp
     | some q =>
      simp only [Sem.run_pure, Result.ok.injEq] at hp; obtain ⟨rfl, _⟩ := hp; rfl
    rcases g2 with ⟨rfl, rfl⟩ | ⟨d, j, u, rfl, rfl, hd⟩
    ·simp only [Option.bind_eq_some_iff] at h; obtain ⟨z, hz, h⟩ := h; cases h; simp only [lK, Option.bind_eq_some_iff] at hz; obtain ⟨ie, hie, hz⟩ := hz; have hzr : (zeroValue et).run P w = .ok z w := by simp [zeroValue, typeInfo, hie, hz]
     refine ⟨_, hrun (z, false) (by simp [Sem.run_bind, hzr, Result.andThen]), ?_⟩; cases ok with
     | true => exact Rp.tup _ _ (.ocons _ _ _ _ (.v z) (.ocons _ _ _ _ (.v _) .onil))
     | false => exact Rp.v z
    ·cases h; refine ⟨_, hrun (u, true) rfl, ?_⟩; cases ok with
     | true => exact Rp.tup _ _ (.ocons _ _ _ _ hd (.ocons _ _ _ _ (.v _) .onil))
     | false => exact hd
  ·cases h
 ·cases h
end
end
section
def lH : TypeDesc -> Value -> Value -> Option Bool
 | .int _, .int k a, .int k' b => if k = k' then some (a == b) else none
 | .bool, .bool a, .bool b => some (a == b)
 | .string, .string a, .string b => some (a == b)
 | _, _, _ => none
def eg : List TypeDesc -> List D -> List D -> Option Bool
 | [], [], [] => some true
 | d :: ds, .v x :: xs, .v y :: ys => (lH d x y).bind fun b => (eg ds xs ys).map (b && ·)
 | _, _, _ => none
def nI (P : Program) (t : TypeId) : Option (List TypeDesc) :=
 match P.underlying t with
 | some (.array n e) => if bh P e = some false /\ az P e = some 1 then (P.underlying e).map (List.replicate n) else none
 | some (.struct fs) => if P.stoodInHeld t = false /\ (fs.toList.zipIdx.all fun (f, i) => f.name != "_" && f.offset == i && bh P f.type == some false) then fs.toList.mapM (fun f => P.underlying f.type) else none
 | _ => none
section
variable {P : Program} {w : World}
theorem AB {e : TypeId} {ds : TypeDesc} {x y : Value} {b : Bool} (d : Nat) (he : P.underlying e = some ds) (h : lH ds x y = some b) : (Op.equalIn (d + 1) e x y).run P w = .ok b w := by
 unfold lH at h; split at h
 ·split at h
  ·rename_i hk; cases h; subst hk; exact run_equalIn_int w d e _ _ _ _ he
  ·cases h
 ·cases h; unfold Op.equalIn; simp only [Sem.run_bind, run_underlying he, Result.andThen_ok]; rfl
 ·cases h; unfold Op.equalIn; simp only [Sem.run_bind, run_underlying he, Result.andThen_ok]; rfl
 ·cases h
theorem tB : ∀ {ds : List TypeDesc} {xs ys : List D} {b : Bool}, eg ds xs ys = some b -> ∃ bs : List Bool, bs.length = ds.length /\ b = bs.all id /\ xs.length = ds.length /\ ys.length = ds.length /\ ∀ (i : Nat) (d : TypeDesc), ds[i]? = some d -> ∃ x y c, xs[i]? = some (.v x) /\ ys[i]? = some (.v y) /\ bs[i]? = some c /\ lH d x y = some c := by
 intro ds
 induction ds with
 | nil =>
  intro xs ys b h; cases xs with
  | nil => cases ys with
   | nil => cases h; exact ⟨[], rfl, rfl, rfl, rfl, by simp⟩
   | cons => simp [eg] at h
  | cons => simp [eg] at h
 | cons d ds ih =>
  intro xs ys b h; unfold eg at h; split at h
  ·rename_i h1; cases h1
  ·rename_i h1; cases h1; simp only [Option.bind_eq_some_iff, Option.map_eq_some_iff] at h; obtain ⟨c, hc, b', hb', rfl⟩ := h; obtain ⟨bs, a1, a2, a3, a4, a5⟩ := ih hb'; refine ⟨c :: bs, by simp [a1], by simp [a2], by simp [a3], by simp [a4], fun i d' hi => ?_⟩; cases i with
   | zero => simp at hi; subst hi; exact ⟨_, _, c, rfl, rfl, rfl, hc⟩
   | succ i => simpa using a5 i d' (by simpa using hi)
  ·cases h
theorem FR {C : aw} {t e : TypeId} {n : Nat} {de : TypeDesc} (d : Nat) (ht : P.underlying t = some (.array n e)) (hag : bh P e = some false) (hsz : az P e = some 1) (he : P.underlying e = some de) {xs ys : List D} {vs us : zLz} {b : Bool} (hv : Rp C (.vals xs vs)) (hu : Rp C (.vals ys us)) (h : eg (List.replicate n de) xs ys = some b) :
  (Op.equalIn (d + 2) t (.agg vs.toArray) (.agg us.toArray)).run P w = .ok b w := by
 obtain ⟨bs, a1, rfl, a3, a4, a5⟩ := tB h; simp only [List.length_replicate] at a1 a3 a4; have hbs : bs.all id = ((List.range' 0 n 1).all fun i => bs.getD i false) := by
  rw [Bool.eq_iff_iff, List.all_eq_true, List.all_eq_true]; constructor
  ·intro h i hi; have hin : i < n := by simpa using (List.mem_range'_1.1 hi).2
   have : bs.getD i false ∈ bs := by
    rw [List.getD_eq_getElem?_getD, List.getElem?_eq_getElem (by omega)]; exact List.getElem_mem _
   exact h _ this
  ·intro h c hc; obtain ⟨i, hi⟩ := List.mem_iff_getElem?.1 hc; have hin : i < n := by rw [<- a1]; exact (List.getElem?_eq_some_iff.1 hi).1
   have := h i (List.mem_range'_1.2 ⟨by omega, by omega⟩); rw [List.getD_eq_getElem?_getD, hi] at this; exact this
 rw [hbs, Op.equalIn]; simp only [Sem.run_bind, run_underlying ht, Result.andThen_ok, fc hsz, Std.Legacy.Range.forIn_eq_forIn_range', Std.Legacy.Range.size, Nat.sub_zero, Nat.add_sub_cancel, Nat.div_one]; have hl : ∀ i ∈ List.range' 0 n 1, i < n := fun i hi => by simpa using (List.mem_range'_1.1 hi).2
 generalize List.range' 0 n 1 = l at hl ⊢
 induction l with
 | nil => simp
 | cons i l ih =>
  have hi : i < n := hl i (by simp); obtain ⟨x, y, c, e1, e2, e3, e4⟩ := a5 i de (by simp [hi]); obtain ⟨x', f1, _, f2⟩ := fd hv i _ e1; obtain ⟨y', g1, _, g2⟩ := fd hu i _ e2; have := bz f2; subst this; have := bz g2; subst this; have px : (part e vs.toArray (i * 1)).run P w = .ok x' w := by
   simp only [part, Sem.run_bind, fT hag, Result.andThen_ok]; simp [f1]
  have py : (part e us.toArray (i * 1)).run P w = .ok y' w := by
   simp only [part, Sem.run_bind, fT hag, Result.andThen_ok]; simp [g1]
  have pe := AB (P := P) (w := w) d he e4; have hc : bs.getD i false = c := by rw [List.getD_eq_getElem?_getD, e3]; rfl
  simp only [List.forIn_cons, Sem.run_bind, px, py, pe, Result.andThen_ok, List.all_cons, hc]; cases c
  ·simp
  ·simp only [Bool.not_true, Bool.false_eq_true, if_false, Sem.run_pure, Result.andThen_ok, Bool.true_and]; exact ih fun j hj => hl j (by simp [hj])
theorem AA {C : aw} {t : TypeId} {fs : Array Field} {dss : List TypeDesc} (d : Nat) (ht : P.underlying t = some (.struct fs)) (hp : P.stoodInHeld t = false) (hall : (fs.toList.zipIdx.all fun (f, i) => f.name != "_" && f.offset == i && bh P f.type == some false) = true) (hk : fs.toList.mapM (fun f => P.underlying f.type) = some dss)
  {xs ys : List D} {vs us : zLz} {b : Bool} (hv : Rp C (.vals xs vs)) (hu : Rp C (.vals ys us)) (h : eg dss xs ys = some b) : (Op.equalIn (d + 2) t (.agg vs.toArray) (.agg us.toArray)).run P w = .ok b w := by
 have hfs : P.fieldsOf t = fs := by simp [Program.fieldsOf, ht]
 rw [run_equalIn_struct w (d + 1) t _ _ (by rw [hfs]; exact ht) hp, hfs]; obtain ⟨bs, a1, rfl, a3, a4, a5⟩ := tB h; have gen : ∀ (l : List Field) (k : Nat) (ds : List TypeDesc) (cs : List Bool), (l.zipIdx k).all (fun (f, i) => f.name != "_" && f.offset == i && bh P f.type == some false) = true -> l.mapM (fun f => P.underlying f.type) = some ds -> cs.length = ds.length ->
   (∀ (i : Nat) (dd : TypeDesc), ds[i]? = some dd -> ∃ x y c, xs[k + i]? = some (.v x) /\ ys[k + i]? = some (.v y) /\ cs[i]? = some c /\ lH dd x y = some c) -> (Op.eqFields (d + 1) vs.toArray us.toArray l).run P w = .ok (cs.all id) w := by
  intro l
  induction l with
  | nil =>
   intro k ds cs _ hm hl _; simp at hm; subst hm; have : cs = [] := List.eq_nil_of_length_eq_zero (by simpa using hl); subst this; rfl
  | cons f l ih =>
   intro k ds cs ha hm hl hg; simp only [List.mapM_cons, Option.bind_eq_bind, Option.bind_eq_some_iff, Option.pure_def] at hm; obtain ⟨df, hdf, dr, hdr, hm⟩ := hm; cases hm; cases cs with
   | nil => simp at hl
   | cons c cs =>
    simp only [List.zipIdx_cons, List.all_cons, Bool.and_eq_true, bne_iff_ne, ne_eq, beq_iff_eq] at ha; obtain ⟨⟨⟨hn, ho⟩, hag⟩, ha⟩ := ha; obtain ⟨x, y, c', e1, e2, e3, e4⟩ := hg 0 df rfl; simp at e3; subst e3; rw [Nat.add_zero] at e1 e2; obtain ⟨x', f1, _, f2⟩ := fd hv k _ e1; obtain ⟨y', g1, _, g2⟩ := fd hu k _ e2; have := bz f2; subst this; have := bz g2; subst this; have px : (part f.type vs.toArray f.offset).run P w = .ok x' w := by
     simp only [part, Sem.run_bind, fT hag, Result.andThen_ok]; simp [f1, ho]
    have py : (part f.type us.toArray f.offset).run P w = .ok y' w := by
     simp only [part, Sem.run_bind, fT hag, Result.andThen_ok]; simp [g1, ho]
    have pe := AB (P := P) (w := w) d hdf e4; simp only [Op.eqFields, hn, ne_eq, not_false_eq_true, if_true, Sem.run_bind, px, py, pe, Result.andThen_ok]; have ih' := ih (k + 1) dr cs (by simpa using ha) hdr (by simpa using hl) (fun i dd hi => by
     have := hg (i + 1) dd (by simpa using hi); rw [show k + 1 + i = k + (i + 1) by omega]; simpa using this)
    cases c
    ·simp
    ·simp [ih']
 have := gen fs.toList 0 dss bs hall hk a1 (fun i dd hi => by simpa using a5 i dd hi); exact this
def lg (P : Program) (t : TypeId) : V -> V -> Option Bool
 | .d (.agg _ xs), .d (.agg _ ys) => if P.eqGuardType P.depth t = false then (nI P t).bind fun ds => eg ds xs ys else none
 | _, _ => none
theorem zB {μ : zMz} {C : aw} {t : TypeId} {x y : V} {v u : Value} {b : Bool} (hx : ax μ C x v) (hy : ax μ C y u) (h : lg P t x y = some b) (xo yo : Operand) :
  (do eqGuard .eql t xo yo v u; binOp .eql t v u : Sem Value).run P w = .ok (.bool b) w /\ (do eqGuard .neq t xo yo v u; binOp .neq t v u : Sem Value).run P w = .ok (.bool (!b)) w := by
 unfold lg at h; split at h
 ·rename_i n xs m ys; split at h
  ·rename_i hgd; simp only [Option.bind_eq_some_iff] at h; obtain ⟨ds, hk, h⟩ := h; cases hx with
   | agg _ _ vs hn hv =>
    cases hy with
    | agg _ _ us hm hu =>
     have heq : (Op.equalIn 10000 t (.agg vs.toArray) (.agg us.toArray)).run P w = .ok b w := by
      unfold nI at hk; split at hk
      ·rename_i n' e ht; split at hk
       ·rename_i hc; simp only [Option.map_eq_some_iff] at hk; obtain ⟨de, he, rfl⟩ := hk; exact FR 9998 ht hc.1 hc.2 he hv hu h
       ·cases hk
      ·rename_i fs ht; split at hk
       ·rename_i hc; exact AA 9998 ht hc.1 hc.2 hk hv hu h
       ·cases hk
      ·cases hk
     have hg : ∀ op, (op = .eql \/ op = .neq) -> (eqGuard op t xo yo (.agg vs.toArray) (.agg us.toArray)).run P w = .ok () w := by
      intro op hop; rcases hop with rfl | rfl <;> simp [eqGuard, Sem.run_bind, program, Sem.run, hgd, Result.andThen]
     refine ⟨?_, ?_⟩
     ·rw [Sem.run_bind, hg _ (.inl rfl), Result.andThen_ok, run_eql_struct, heq]; rfl
     ·rw [Sem.run_bind, hg _ (.inr rfl), Result.andThen_ok, run_neq_struct, heq]; rfl
  ·cases h
 ·cases h
end
end
section
def mh (P : Program) (ev : Operand -> Option V) (o : Oper) : Option V :=
 match o.op with
 | .call c =>
  match c.callee with
  | .builtin b =>
   match b, c.args.toList with
   | .len, [x] => (ev x).bind fun x => match c.argTypes.toList with | [t] => hU P t x | _ => none
   | .min, [x, y] => (ev x).bind fun x => (ev y).bind fun y => (fZ x).bind fun x => (fZ y).bind fun y => (aD P (Builtin.min_ c.argTypes o.type #[x, y])).map fun v => .d (.v v)
   | .max, [x, y] => (ev x).bind fun x => (ev y).bind fun y => (fZ x).bind fun x => (fZ y).bind fun y => (aD P (Builtin.max_ c.argTypes o.type #[x, y])).map fun v => .d (.v v)
   | _, _ => none
  | _ => none
 | _ => none
def evO (ev : Operand -> Option V) : Option Operand -> Option (Option V)
 | none => some none
 | some x => (ev x).map some
def bE (ev : Operand -> Option V) : List Operand -> Option (List D)
 | [] => some []
 | x :: r => (ev x).bind fun v => match v with
  | .d d => (bE ev r).map (d :: ·)
  | _ => none
theorem kP {ev : Operand -> Option V} {μ : zMz} {C : aw} {a : Act} (hev : ∀ x v, ev x = some v -> ax μ C v (a.eval x)) : ∀ {xs : List Operand} {ds : List D}, bE ev xs = some ds -> Rp C (.outs ds (xs.map a.eval)) := by
 intro xs
 induction xs with
 | nil => intro ds h; cases h; exact .onil
 | cons x xs ih =>
  intro ds h; simp only [bE, Option.bind_eq_some_iff] at h; obtain ⟨v, hv, h⟩ := h; split at h
  ·rename_i d; simp only [Option.map_eq_some_iff] at h; obtain ⟨r, hr, rfl⟩ := h; exact .ocons _ _ _ _ (hev x _ hv) (ih hr)
  ·cases h
def opV (P : Program) (ev : Operand -> Option V) (h : zHz) (o : Oper) : Option V :=
 match o.op with
 | .move x | .assign x => ev x
 | .pick c x y => (ev c).bind fun c => match c with
  | .d (.v (.bool true)) => ev x
  | .d (.v (.bool false)) => ev y
  | _ => none
 | .load t x => (ev x).bind fun x => (aX P h t x)
 | .nilCheck x => (ev x).bind fun x => match x with
  | .ref .. => some x
  | .d (.ptr ..) => some x
  | _ => none
 | .binOp op t x y _ => (ev x).bind fun a => (ev y).bind fun b =>
  match fZ a, fZ b with
  | some a, some b => (aD P (do eqGuard op t x y a b; binOp op t a b)).map fun v => .d (.v v)
  | _, _ =>
   match op with
   | .eql => (lg P t a b).map fun c => .d (.v (.bool c))
   | .neq => (lg P t a b).map fun c => .d (.v (.bool (!c)))
   | _ => none
 | .unOp op _ x => (ev x).bind fun x => (fZ x).bind fun x => (aD P (Op.unary op x)).map fun v => .d (.v v)
 | .convert s d x => (ev x).bind fun x => (fM P s d x)
 | .slice t x lo hi mx => (ev x).bind fun x => (evO ev lo).bind fun lo => (evO ev hi).bind fun hi => (evO ev mx).bind fun mx => (dI P h t x lo hi mx)
 | .fieldAddr t x f => (ev x).bind fun x => (eH P t x f)
 | .field t x f => (ev x).bind fun x => (jp P t x f)
 | .indexAddr t x i => (ev x).bind fun x => (ev i).bind fun i => (cG P h t x i)
 | .index t x i => (ev x).bind fun x => (ev i).bind fun i => (vl P t x i)
 | .extract x i => (ev x).bind fun x => match x with
  | .d (.tup xs) => xs[i]?.map fun d => .d d
  | .mix true l n rest => match i with
   | 0 => some (.sref l 0 n)
   | k + 1 => rest[k]?.map fun d => .d d
  | _ => none
 | .build t ps => (dP ev ps.toList).bind fun qs => match P.underlying t with
  | some (.struct fs) => if fs.toList.all (fun f => (az P f.type).isSome) then (dS P t qs) else none
  | some (.array ..) => (dS P t qs)
  | _ => none
 | .buildSlice t n ps => (dP ev ps.toList).bind fun qs => (bn P t n qs)
 | .lookup t x i ok => (ev x).bind fun x => (ev i).bind fun i => wO P t x i ok
 | .makeFunc (.func f) first caps => if first.isEmpty then (bE ev caps.toList).map fun ds => .d (.fn f ds) else none
 | _ => mh P ev o
def opS (P : Program) (ev : Operand -> Option V) (h : zHz) (o : Oper) : Option Out :=
 match o.op with
 | .alloc t => dF P t
 | .box t x => (ev x).bind (tQ t)
 | .store t x y => (ev x).bind fun x => (ev y).bind fun y => dp P h t x y
 | _ => (opV P ev h o).map .val
theorem zD {ev : Operand -> Option V} {μ : zMz} {C : aw} {a : Act} (hev : ∀ x v, ev x = some v -> ax μ C v (a.eval x)) {x : Option Operand} {y : Option V} (h : evO ev x = some y) : tN μ C y (x.map a.eval) := by
 cases x with
 | none => cases h; trivial
 | some x =>
  simp only [evO, Option.map_eq_some_iff] at h; obtain ⟨v, hv, rfl⟩ := h; exact hev x v hv
theorem qf {ev : Operand -> Option V} {μ : zMz} {C : aw} {a : Act} (hev : ∀ x v, ev x = some v -> ax μ C v (a.eval x)) : ∀ {ps : List (Nat × Operand)} {qs : zEz}, dP ev ps = some qs -> jF μ C qs (ps.map fun e => (e.1, a.eval e.2)) := by
 intro ps
 induction ps with
 | nil => intro qs h; cases h; trivial
 | cons e ps ih =>
  intro qs h; obtain ⟨i, x⟩ := e; simp only [dP, Option.bind_eq_some_iff, Option.map_eq_some_iff] at h; obtain ⟨v, hv, r, hr, rfl⟩ := h; exact ⟨rfl, hev x v hv, ih hr⟩
section
variable {P : Program} {μ : zMz} {C : aw} {w : World} {F : Fr} {st : St} {a : Act}
theorem Fu (hs : Sim F st μ C a w) {ev : Operand -> Option V} (hev : ∀ x v, ev x = some v -> ax μ C v (a.eval x)) {o : Oper} {y : V} (h : opV P ev st.h o = some y) :
  ∃ u w' C', (execOp a.eval o).run P w = .ok (.value u) w' /\ More w C w' C' /\ ax μ C' y u := by
 have hk := hs.known; have fin : ∀ {s : Sem Value} {x : V}, execOp a.eval o = (do pure (.value (<- s))) -> (∃ u, s.run P w = .ok u w /\ ax μ C x u) -> ∃ u w' C', (execOp a.eval o).run P w = .ok (.value u) w' /\ More w C w' C' /\ ax μ C' x u := by
  intro s x he hx; obtain ⟨u, h1, h2⟩ := hx; exact ⟨u, w, C, by rw [he]; simp [Sem.run_bind, h1, Result.andThen], More.refl hk, h2⟩
 unfold opV at h; split at h
 ·rename_i x ho; exact ⟨a.eval x, w, C, by simp only [execOp, ho]; rfl, More.refl hk, hev _ _ h⟩
 ·rename_i x ho; exact ⟨a.eval x, w, C, by simp only [execOp, ho]; rfl, More.refl hk, hev _ _ h⟩
 ·rename_i c x z ho; simp only [Option.bind_eq_some_iff] at h; obtain ⟨cv, hc, h⟩ := h; have hcv := hev _ _ hc; split at h
  ·have := bz hcv; exact ⟨a.eval x, w, C, by simp only [execOp, ho, this]; simp [asBool, Sem.run_bind, Result.andThen], More.refl hk, hev _ _ h⟩
  ·have := bz hcv; exact ⟨a.eval z, w, C, by simp only [execOp, ho, this]; simp [asBool, Sem.run_bind, Result.andThen], More.refl hk, hev _ _ h⟩
  ·cases h
 ·rename_i t x ho; simp only [Option.bind_eq_some_iff, Option.map_eq_some_iff] at h; obtain ⟨v, hv, hz⟩ := h; exact fin (by simp only [execOp, ho]) (uc hs (hev _ _ hv) hz)
 ·rename_i x ho; simp only [Option.bind_eq_some_iff] at h; obtain ⟨v, hv, h⟩ := h; have hr := hev _ _ hv; split at h
  ·cases h; obtain ⟨p, h1, h2, h3⟩ := id hr; exact ⟨_, w, C, by simp only [execOp, ho, h3]; rfl, More.refl hk, h3 ▸ hr⟩
  ·cases h; cases hx : a.eval x with
   | pointer b =>
    rw [hx] at hr; cases hr with
    | ptr _ _ b off h1 h2 => exact ⟨_, w, C, by simp only [execOp, ho, hx]; rfl, More.refl hk, .ptr _ _ b off h1 h2⟩
   | _ => rw [hx] at hr; cases hr
  ·cases h
 ·rename_i op t x z yt ho; simp only [Option.bind_eq_some_iff] at h; obtain ⟨v1, hv1, v2, hv2, h⟩ := h; split at h
  ·rename_i s1 s2 hs1 hs2; simp only [Option.map_eq_some_iff] at h; obtain ⟨u, hu, rfl⟩ := h; have e1 := fC (hev _ _ hv1) hs1; have e2 := fC (hev _ _ hv2) hs2; refine fin (s := do eqGuard op t x z s1 s2; binOp op t s1 s2) (by simp only [execOp, ho, e1, e2]) ⟨u, kH hu w, .v u⟩
  ·split at h
   ·simp only [Option.map_eq_some_iff] at h; obtain ⟨c, hc, rfl⟩ := h; exact fin (by simp only [execOp, ho]) ⟨_, (zB (w := w) (hev _ _ hv1) (hev _ _ hv2) hc x z).1, .v _⟩
   ·simp only [Option.map_eq_some_iff] at h; obtain ⟨c, hc, rfl⟩ := h; exact fin (by simp only [execOp, ho]) ⟨_, (zB (w := w) (hev _ _ hv1) (hev _ _ hv2) hc x z).2, .v _⟩
   ·cases h
 ·rename_i op t x ho; simp only [Option.bind_eq_some_iff, Option.map_eq_some_iff] at h; obtain ⟨v1, hv1, s1, hs1, u, hu, rfl⟩ := h; have e1 := fC (hev _ _ hv1) hs1; exact fin (by simp only [execOp, ho, e1]) ⟨u, kH hu w, .v u⟩
 ·rename_i s d x ho; simp only [Option.bind_eq_some_iff, Option.map_eq_some_iff] at h; obtain ⟨v, hv, hz⟩ := h; exact fin (by simp only [execOp, ho]) (GA hk (hev _ _ hv) hz)
 ·rename_i t x lo hi mx ho; simp only [Option.bind_eq_some_iff, Option.map_eq_some_iff] at h; obtain ⟨v, hv, l1, hl1, l2, hl2, l3, hl3, hz⟩ := h; exact fin (by simp only [execOp, ho]) (Ga hs (hev _ _ hv) (zD hev hl1) (zD hev hl2) (zD hev hl3) hz)
 ·rename_i t x f ho; simp only [Option.bind_eq_some_iff, Option.map_eq_some_iff] at h; obtain ⟨v, hv, hz⟩ := h; exact fin (by simp only [execOp, ho]) (yC (hev _ _ hv) hz)
 ·rename_i t x f ho; simp only [Option.bind_eq_some_iff, Option.map_eq_some_iff] at h; obtain ⟨v, hv, hz⟩ := h; exact fin (by simp only [execOp, ho]) (EO (hev _ _ hv) hz)
 ·rename_i t x i ho; simp only [Option.bind_eq_some_iff, Option.map_eq_some_iff] at h; obtain ⟨v, hv, iv, hiv, hz⟩ := h; exact fin (by simp only [execOp, ho]) (yF hs (hev _ _ hv) (hev _ _ hiv) hz)
 ·rename_i t x i ho; simp only [Option.bind_eq_some_iff, Option.map_eq_some_iff] at h; obtain ⟨v, hv, iv, hiv, hz⟩ := h; exact fin (by simp only [execOp, ho]) (Fa (hev _ _ hv) (hev _ _ hiv) hz)
 ·rename_i x i ho; simp only [Option.bind_eq_some_iff] at h; obtain ⟨v, hv, h⟩ := h; have hr := hev _ _ hv; split at h
  ·rename_i xs; simp only [Option.map_eq_some_iff] at h; obtain ⟨d, hd, rfl⟩ := h; cases hx : a.eval x with
   | tuple vs =>
    rw [hx] at hr; cases hr with
    | tup _ vs h1 =>
     obtain ⟨u, h2, h3⟩ := nQ h1 i d hd; exact ⟨u, w, C, by simp only [execOp, ho, hx]; simp [Instr.extract, h2, Sem.run_bind, Result.andThen], More.refl hk, h3⟩
   | _ => rw [hx] at hr; cases hr
  ·rename_i l n rest; obtain ⟨p, ao, us, q1, q2, q3, q4⟩ := hr; rw [if_pos rfl] at q4; obtain ⟨q4, hx⟩ := q4; cases i with
   | zero =>
    simp only [Option.some.injEq] at h; subst h; exact ⟨.slice ao n p.cap, w, C, by simp only [execOp, ho, hx]; simp [Instr.extract, Sem.run_bind, Result.andThen], More.refl hk, p, ao, q1, by simp, by simpa using q2, by simpa using q3⟩
   | succ i =>
    simp only [Option.map_eq_some_iff] at h; obtain ⟨d, hd, rfl⟩ := h; obtain ⟨u, h2, h3⟩ := nQ q4 i d hd; exact ⟨u, w, C, by simp only [execOp, ho, hx]; simp [Instr.extract, h2, Sem.run_bind, Result.andThen], More.refl hk, h3⟩
  ·cases h
 ·rename_i t ps ho; simp only [Option.bind_eq_some_iff] at h; obtain ⟨qs, hq, h⟩ := h; have hp := qf hev hq; have hp' : jF μ C qs (ps.map fun (i, x) => (i, a.eval x)).toList := by simpa using hp
  split at h
  ·rename_i fs hu; split at h
   ·rename_i hall; exact fin (by simp only [execOp, ho]) (xB hp' h (fun fs' h => by rw [hu] at h; cases h; exact hall))
   ·cases h
  ·rename_i n e hu; exact fin (by simp only [execOp, ho]) (xB hp' h (fun fs' h => by rw [hu] at h; cases h))
  ·cases h
 ·rename_i t n ps ho; simp only [Option.bind_eq_some_iff, Option.map_eq_some_iff] at h; obtain ⟨qs, hq, hz⟩ := h; have hp := qf hev hq; have hp' : jF μ C qs (ps.map fun (i, x) => (i, a.eval x)).toList := by simpa using hp
  obtain ⟨u, w', C', h1, h2, h3⟩ := wy (P := P) hk hp' hz; exact ⟨u, w', C', by simp only [execOp, ho]; simp [Sem.run_bind, h1, Result.andThen], h2, h3⟩
 ·rename_i t x i ok ho; simp only [Option.bind_eq_some_iff] at h; obtain ⟨vx, hvx, vi, hvi, h⟩ := h; exact fin (by simp only [execOp, ho]) (Dv hk (hev _ _ hvx) (hev _ _ hvi) h)
 ·rename_i f first caps ho
  split at h
  ·rename_i hf; simp only [Option.map_eq_some_iff] at h; obtain ⟨ds, hds, rfl⟩ := h; have ha := kP hev hds; have hf0 : first = #[] := by simpa using hf
   subst hf0; refine ⟨_, w, C, ?_, More.refl hk, Rp.fn f ds _ ha⟩; simp only [execOp, ho]; simp [Instr.makeFunc, Sem.run_bind, Result.andThen]; apply Array.ext'; simp
  ·cases h
 ·have hz := h; unfold mh at hz; split at hz
  ·rename_i c ho; split at hz
   ·rename_i b hb; have hbi : execOp a.eval o = builtin b c.argTypes o.type (c.args.map fun | .const _ => true | _ => false) (c.args.map a.eval) := by
     simp only [execOp, ho, resolve, hb]; rfl
    split at hz
    ·rename_i x hx; simp only [Option.bind_eq_some_iff] at hz; obtain ⟨v, hv, hz⟩ := hz; split at hz
     ·rename_i t ht; have e1 : c.args = #[x] := Array.toList_inj.1 hx; have e2 : c.argTypes = #[t] := Array.toList_inj.1 ht; exact fin (s := Builtin.len_ #[t] o.type #[a.eval x]) (by rw [hbi, e1, e2]; simp [builtin]) (Jn (hev _ _ hv) hz _)
     ·cases hz
    ·rename_i x y hx; have e1 : c.args = #[x, y] := Array.toList_inj.1 hx; simp only [Option.bind_eq_some_iff, Option.map_eq_some_iff] at hz; obtain ⟨v1, hv1, v2, hv2, s1, hs1, s2, hs2, u, hu, rfl⟩ := hz; refine fin (s := Builtin.min_ c.argTypes o.type #[s1, s2]) (by rw [hbi, e1]; simp [builtin, fC (hev _ _ hv1) hs1, fC (hev _ _ hv2) hs2]) ⟨u, kH hu w, .v u⟩
    ·rename_i x y hx; have e1 : c.args = #[x, y] := Array.toList_inj.1 hx; simp only [Option.bind_eq_some_iff, Option.map_eq_some_iff] at hz; obtain ⟨v1, hv1, v2, hv2, s1, hs1, s2, hs2, u, hu, rfl⟩ := hz; refine fin (s := Builtin.max_ c.argTypes o.type #[s1, s2]) (by rw [hbi, e1]; simp [builtin, fC (hev _ _ hv1) hs1, fC (hev _ _ hv2) hs2]) ⟨u, kH hu w, .v u⟩
    ·cases hz
   ·cases hz
  ·cases hz
def bP (ops : Array Oper) (env : zEz) : Option (Nat × Bool) -> Option Bool
 | none => some true
 | some (j, want) =>
  match ((ops[j]?).bind (·.dst)).bind (look env) with
  | some (.d (.v (.bool b))) => some (b == want)
  | some (.d (.v _)) => some false
  | _ => none
theorem bI (hs : Sim F st μ C a w) {ops : Array Oper} {o : Oper} {b : Bool} (h : bP ops st.env o.guard = some b) (hN : ∀ t x, look st.env t = some x -> t < F.N) : Region.wanted o (yielded ops a.tmps) = b := by
 unfold Region.wanted; cases hg : o.guard with
 | none => rw [hg] at h; cases h; rfl
 | some e =>
  obtain ⟨j, want⟩ := e; rw [hg] at h; simp only [bP] at h; unfold yielded; split at h
  ·rename_i v hv; cases h; obtain ⟨t, ht, hl⟩ := Option.bind_eq_some_iff.1 hv; have hr := bz (hs.env t _ hl); have htl := hN t _ hl; have : a.tmps[t]? = some (.bool v) := by
    rw [Array.getD_eq_getD_getElem?] at hr; rw [Array.getElem?_eq_getElem (by rw [hs.size]; exact htl)] at hr ⊢; simpa using hr
   simp [ht, this]
  ·rename_i v hne hv; cases h; obtain ⟨t, ht, hl⟩ := Option.bind_eq_some_iff.1 hv; have hr := bz (hs.env t _ hl); have htl := hN t _ hl; have : a.tmps[t]? = some v := by
    rw [Array.getD_eq_getD_getElem?] at hr; rw [Array.getElem?_eq_getElem (by rw [hs.size]; exact htl)] at hr ⊢; simpa using hr
   simp only [ht, Option.bind_some, this]; cases v <;> first | rfl | exact (hne _ rfl).elim
  ·cases h
end
structure Env (F : Fr) (P : Program) (G : zGz) (N : Nat) : Prop where
 prog : F.P = P
 size : F.N = N
 glob : fK G F.C0
def iw (N : Nat) (st : St) : Option Tmp -> Out -> Option St
 | some t, .val x => if t < N then some { st with env := (t, x) :: st.env } else none
 | some t, .new n row _ => if t < N then some ⟨(t, .ref st.nx 0 0) :: st.env, (st.nx, ⟨n, [row]⟩) :: st.h, st.nx + 1⟩ else none
 | none, .upd l k => some { st with h := rep st.h l k }
 | _, _ => none
def kw (P : Program) (G : zGz) (N : Nat) (ops : Array Oper) (o : Oper) (st : St) : Option St :=
 match bP ops st.env o.guard with
 | some true => (opS P (evD G st.env) st.h o).bind (iw N st o.dst)
 | some false => match o.dst with
  | some t => if t < N then some { st with env := (t, .d (.v undef)) :: st.env } else none
  | none => some st
 | none => none
def St.small (N : Nat) (st : St) : Prop := ∀ t x, look st.env t = some x -> t < N
section
variable {P : Program} {G : zGz} {N : Nat} {F : Fr} {ops : Array Oper} {rest : zOz} {o : Oper} {Q : zQz} {st st' : St}
theorem SmL.step (hF : Env F P G N) (hN : St.small N st) (h : kw P G N ops o st = some st') (k : SmL F ops rest Q st') : SmL F ops (o :: rest) Q st := by
 intro μ C a w hs; obtain ⟨rfl, rfl, hG⟩ := hF; have hev : ∀ x v, evD G st.env x = some v -> ax μ C v (a.eval x) := fun x v h => bW hs hG h
 unfold kw at h; refine cb (fun hw c hc => ?_) fun K hK => ?_
 ·split at h
  ·simp [opS, opV, mh, hc] at h
  ·rename_i hg; rw [bI hs hg hN] at hw; cases hw
  ·cases h
 split at h
 ·rename_i hg; rw [bI hs hg hN, if_pos rfl]; simp only [Option.bind_eq_some_iff] at h; obtain ⟨out, hout, h⟩ := h; unfold opS at hout; split at hout
  ·rename_i t' ho; unfold iw at h; split at h
   ·exfalso; unfold dF at hout; simp only [Option.bind_eq_some_iff] at hout; obtain ⟨z, _, h⟩ := hout; split at h <;> cases h
   ·rename_i t n row T hd; split at h
    ·rename_i ht; cases h; obtain ⟨μ', w', h1, h2, h3⟩ := Et hs hout true; unfold Oper.wp; have : (execOp a.eval o).run F.P w = .ok (.value (.pointer (some ⟨w.heap.size, 0, none⟩))) w' := by
      simp only [execOp, ho]; simp [Sem.run_bind, h1, Result.andThen]
     rw [this, Oper.upon_value, hd]; exact hK _ _ (k μ' C _ w' (h2.put ht h3))
    ·cases h
   ·exfalso; unfold dF at hout; simp only [Option.bind_eq_some_iff] at hout; obtain ⟨z, _, h⟩ := hout; split at h <;> cases h
   ·cases h
  ·rename_i t' x ho; simp only [Option.bind_eq_some_iff] at hout; obtain ⟨v, hv, hb⟩ := hout; have hb' := hb; simp only [tQ, Option.map_eq_some_iff] at hb'; obtain ⟨c, hc, rfl⟩ := hb'; unfold iw at h; split at h
   ·rename_i heq; cases heq
   ·rename_i t n row T hd heq; cases heq; split at h
    ·rename_i ht; cases h; obtain ⟨μ', h1, h2, h3⟩ := IW (P := F.P) hs (hev _ _ hv) hb; unfold Oper.wp; have : (execOp a.eval o).run F.P w = .ok (.value (.pointer (some ⟨w.heap.size, 0, none⟩))) (w.alloc (.cells (a.eval x).cells t')) := by
      simp only [execOp, ho]; simp [Sem.run_bind, h1, Result.andThen]
     rw [this, Oper.upon_value, hd]; exact hK _ _ (k μ' C _ _ (h2.put ht h3))
    ·cases h
   ·rename_i heq; cases heq
   ·cases h
  ·rename_i t' x y ho; simp only [Option.bind_eq_some_iff] at hout; obtain ⟨v, hv, u, hu, hb⟩ := hout; have hup : ∃ l k, out = .upd l k := by
    unfold dp at hb; split at hb
    ·simp only [Option.bind_eq_some_iff] at hb; obtain ⟨_, _, _, _, _, _, _, _, _, _, hb⟩ := hb; split at hb
     ·cases hb; exact ⟨_, _, rfl⟩
     ·cases hb
    ·cases hb
   obtain ⟨l, kb, rfl⟩ := hup; unfold iw at h; split at h
   ·rename_i heq; cases heq
   ·rename_i heq; cases heq
   ·rename_i hd heq; cases heq; cases h; obtain ⟨w', h1, h2⟩ := yj hs (hev _ _ hv) (hev _ _ hu) hb; unfold Oper.wp; have : (execOp a.eval o).run F.P w = .ok .skip w' := by
     simp only [execOp, ho]; simp [Sem.run_bind, h1, Result.andThen]
    rw [this, Oper.upon_skip, hd]; exact hK _ _ (k μ C _ w' h2)
   ·cases h
  ·simp only [Option.map_eq_some_iff] at hout; obtain ⟨x, hx, rfl⟩ := hout; unfold iw at h; split at h
   ·rename_i t y hd heq; cases heq; split at h
    ·rename_i ht; cases h; obtain ⟨u, w', C', h1, h2, h3⟩ := Fu hs hev hx; unfold Oper.wp; rw [h1, Oper.upon_value, hd]; exact hK _ _ (k μ C' _ w' ((hs.more h2).put ht h3))
    ·cases h
   ·rename_i heq; cases heq
   ·rename_i heq; cases heq
   ·cases h
 ·rename_i hg; rw [bI hs hg hN, if_neg (by simp)]; split at h
  ·rename_i t hd; split at h
   ·rename_i ht; cases h; rw [hd]; exact hK _ _ (k μ C _ w (hs.put ht (.v _)))
   ·cases h
  ·rename_i hd; cases h; rw [hd]; exact hK _ _ (k μ C _ w hs)
 ·cases h
end
end
section
def aj (P : Program) (G : zGz) (f : FuncId) (ds : List D) (r : D) : Prop :=
 ∀ C w vs, fK G C -> bG C w -> Rp C (.outs ds vs) -> Calls P f vs.toArray w fun e w' => ∃ v C', e = .returned v /\ More w C w' C' /\ Rep C' r v
theorem ja {C : aw} {ds : List D} : ∀ {vs : zLz}, Rp C (.outs ds vs) -> vs.length = ds.length := by
 induction ds with
 | nil => intro vs h; cases h; rfl
 | cons d ds ih => intro vs h; cases h with | ocons _ _ _ _ _ h => simp [ih h]
section
variable {P : Program} {G : zGz} {N : Nat} {F : Fr} {ops : Array Oper} {rest : zOz} {o : Oper} {Q : zQz} {st : St}
theorem fK.mono {C C' : aw} (h : fK G C) (hs : ∀ b o u, C b o u -> C' b o u) : fK G C' := fun g d hg => Rp.mono hs (h g d hg)
theorem SmL.call (hF : Env F P G N) (hN : St.small N st) {f : FuncId} {xs : Array Operand} {ts : Array TypeId} {t : Tmp} {ds : List D} {r : D} (hg : bP ops st.env o.guard = some true) (ho : o.op = .call ⟨.value (.func f), xs, ts⟩) (hd : o.dst = some t)
  (hcall : ∀ args w, (callFunc f args).run P w = .ok (.enter f args) w) (hargs : bE (evD G st.env) xs.toList = some ds) (ht : t < N) (hc : aj P G f ds r)
  (k : SmL F ops rest Q { st with env := (t, .d r) :: st.env }) : SmL F ops (o :: rest) Q st := by
 intro μ C a w hs; obtain ⟨rfl, rfl, hG⟩ := hF; have hev : ∀ x v, evD G st.env x = some v -> ax μ C v (a.eval x) := fun x v h => bW hs hG h
 refine cb (fun _ => by rw [ho]; simp) fun K hK => ?_
 rw [bI hs hg hN, if_pos rfl]; refine nq f hcall xs ts ho (xs.toList.map a.eval) rfl ?_; refine (hc C w _ (hG.mono hs.sub) hs.known (kP hev hargs)).mono ?_; rintro e w' ⟨v, C', rfl, hm, hr⟩; exact ⟨v, rfl, by rw [hd]; exact hK _ _ (k μ C' _ w' ((hs.more hm).put ht hr))⟩
def D.le (x y : D) : Prop := ∀ C v, Rep C x v -> Rep C y v
theorem D.le.refl (x : D) : x.le x := fun _ _ h => h
theorem rB (sz : Nat) (xs : zRz) (f : Bool) : (D.list sz xs f).le (.list sz xs false) := fun _ _ h => jW h
theorem Gg (sz sz' : Nat) (f : Bool) : (D.list sz [] f).le (.list sz' [] f) := fun _ _ h => by cases h with | nil _ _ a cap h => exact .nil _ _ a cap h | list _ _ _ _ _ _ h => exact absurd rfl h
theorem ck (sz sz' : Nat) (f : Bool) : (D.list sz [] f).le (.list sz' [] false) := fun _ _ h => jW (Gg sz sz' f _ _ h)
def iW (P : Program) (st : St) : ResultVar -> Option V
 | .tmp t => look st.env t
 | .cell p ty => (look st.env p).bind fun x => aX P st.h ty x
def vI : V -> Option D
 | .d x => some x
 | _ => none
def km (P : Program) (st : St) : List ResultVar -> Option (List D)
 | [] => some []
 | r :: rs => (iW P st r).bind fun v => (vI v).bind fun d => (km P st rs).map (d :: ·)
def kI (P : Program) (st : St) (rs : List ResultVar) : Option D :=
 (km P st rs).map fun ds => match ds with
  | [d] => d
  | _ => .tup ds
def wZ (P : Program) (fn : Func) (r : D) : Exit -> St -> Prop
 | .ret, st | .normal, st => ∃ d, kI P st fn.results.toList = some d /\ d.le r
 | _, _ => False
theorem sA {μ : zMz} {C : aw} {a : Act} {w : World} (hs : Sim F st μ C a w) : ∀ {rs : List ResultVar} {ds : List D}, km F.P st rs = some ds ->
  ∃ vs : zLz, (rs.mapM fun (r : ResultVar) => (match r with | .tmp t => pure (a.tmps.getD t undef) | .cell p t => do loadVar t (<- asAddr (a.tmps.getD p undef)) : Sem Value)).run F.P w = .ok vs w /\ Rp C (.outs ds vs) := by
 intro rs
 induction rs with
 | nil => intro ds h; cases h; exact ⟨[], rfl, .onil⟩
 | cons r rs ih =>
  intro ds h; simp only [km, Option.bind_eq_some_iff, Option.map_eq_some_iff] at h; obtain ⟨v, hv, d, hd, r', hr', rfl⟩ := h; obtain ⟨vs, h1, h2⟩ := ih hr'; have hvd : v = .d d := by
   unfold vI at hd; split at hd
   ·cases hd; rfl
   ·cases hd
  subst hvd; have hone : ∃ u, ((match r with | .tmp t => pure (a.tmps.getD t undef) | .cell p t => do loadVar t (<- asAddr (a.tmps.getD p undef)) : Sem Value)).run F.P w = .ok u w /\ Rep C d u := by
   cases r with
   | tmp t => exact ⟨_, rfl, hs.env t _ hv⟩
   | cell p ty =>
    simp only [iW, Option.bind_eq_some_iff] at hv; obtain ⟨x, hx, hl⟩ := hv; obtain ⟨u, a1, a2⟩ := uc hs (hs.env p x hx) hl; refine ⟨u, ?_, a2⟩; have hp := hs.env p x hx; show ((do loadVar ty (<- asAddr (a.tmps.getD p undef)) : Sem Value)).run F.P w = .ok u w; generalize a.tmps.getD p undef = q at a1 hp ⊢; cases q with
    | pointer b =>
     cases b with
     | some b => simpa [Instr.loadAt, Instr.sureAddr, asAddr, Sem.run_bind, Result.andThen] using a1
     | none => simp [Instr.loadAt, Instr.sureAddr, stuck, Sem.run_bind, Result.andThen, Sem.run] at a1
    | _ => simp [Instr.loadAt, Instr.sureAddr, stuck, Sem.run_bind, Result.andThen, Sem.run] at a1
  obtain ⟨u, a1, a2⟩ := hone; refine ⟨u :: vs, ?_, .ocons _ _ _ _ a2 h2⟩; simp only [List.mapM_cons, Sem.run_bind, a1, Result.andThen_ok, h1, Sem.run_pure]
def Fr.free (F : Fr) : Fr := { F with G := fun _ _ _ _ _ => True, stab := fun _ _ => trivial }
theorem Sim.free {μ : zMz} {C : aw} {a : Act} {w : World} (h : Sim F st μ C a w) : Sim F.free st μ C a w :=
 ⟨h.size, h.defers, h.below, h.sub, h.new, h.known, h.env, h.heap, h.inj, h.nx, trivial⟩
theorem Sim.unmark {μ : zMz} {C : aw} {a : Act} {w : World} {ds : List Deferred} {q : Nat} (h : Sim F.free st μ C { a with defers := { target := .collected q, args := #[] } :: ds } w) :
  w.heap[q]? = some (Obj.deferred (some [])) /\ Sim F.free st μ C { a with defers := ds } (w.putObj q (.deferred none)) := by
 have hd := h.defers; obtain ⟨hq0, hq⟩ := hd.mark (List.mem_cons_self ..); have hother : ∀ b, b ≠ q -> (w.putObj q (.deferred none)).heap[b]? = w.heap[b]? := fun b hb => World.putObj_heap_other hb
 refine ⟨hq, h.size, ⟨(List.nodup_cons.1 hd.nodup).2, fun d hd' => ?_⟩, ?_, h.sub, h.new, fun b o u hc => ?_, h.env, fun l k hk => ?_, h.inj, h.nx, trivial⟩
 ·refine (hd.each d (by simp [hd'])).imp id fun ⟨r, e1, e2, e3⟩ => ⟨r, e1, e2, ?_⟩
  have hne : r ≠ q := fun e => (List.nodup_cons.1 hd.nodup).1 (by rw [<- e, <- e1]; exact hd')
  rw [hother r hne]; exact e3
 ·exact h.below.grown (grownBy_putObj' w q _) (fun r e => by cases e; exact .inl hq0)
 ·rcases h.known b o u hc with g | ⟨es, c, g, e⟩
  ·left; have hne : b ≠ q := fun e => by subst e; simp [World.cell?, hq] at g
   simp only [World.cell?, hother b hne] at g ⊢; exact g
  ·have hne : b ≠ q := fun e' => by subst e'; rw [hq] at g; cases g
   exact .inr ⟨es, c, (hother b hne).trans g, e⟩
 ·obtain ⟨p, hp, hb⟩ := h.heap l k hk; refine ⟨p, hp, hb.sz, hb.len, hb.max, hb.row, fun hc => ?_⟩; obtain ⟨b1, b2, cur, T, b3, b4, b5⟩ := hb.cells hc; have hne : p.b ≠ q := fun e => (b3.not (e ▸ hq)).1 _ rfl
  exact ⟨b1, b2, cur, T, b3.of_eq (hother _ hne), b4, b5⟩
structure Aft (b0 : Nat) (ds : List Deferred) (w w' : World) : Prop where
 os : w'.os = w.os
 tape : w'.tape = w.tape
 output : w'.output = w.output
 size : w.heap.size <= w'.heap.size
 other : ∀ b : Nat, ({ target := .collected b, args := #[] } : Deferred) ∉ ds -> w'.heap[b]? = w.heap[b]?
 low : ∀ b, b < b0 -> w'.heap[b]? = w.heap[b]?
theorem Aft.refl (b0 : Nat) (ds : List Deferred) (w : World) : Aft b0 ds w w := ⟨rfl, rfl, rfl, Nat.le_refl _, fun _ _ => rfl, fun _ _ => rfl⟩
theorem Aft.unmark {b0 q : Nat} {ds : List Deferred} {w w' : World} (hq : b0 <= q) (h : Aft b0 ds (w.putObj q (.deferred none)) w') : Aft b0 ({ target := .collected q, args := #[] } :: ds) w w' := by
 have hg := grownBy_putObj' w q (Obj.deferred none); have hne : ∀ b, b ≠ q -> (w.putObj q (.deferred none)).heap[b]? = w.heap[b]? := fun b hb => World.putObj_heap_other hb
 refine ⟨h.os.trans hg.os, h.tape.trans hg.tape, h.output.trans hg.output, Nat.le_trans hg.size h.size, fun b hb => ?_, fun b hb => ?_⟩
 ·have hbq : b ≠ q := fun e => hb (by rw [e]; simp)
  rw [h.other b (fun h => hb (by simp [h])), hne b hbq]
 ·rw [h.low b hb, hne b (by omega)]
theorem Cb {fn : Func} {R : Ending -> World -> Prop} {st : St} {μ : zMz} {C : aw} (hdf : F.df = []) {u : FrameMode} (hu : u ≠ .run) : ∀ (ds : List Deferred) (a : Act) (w : World), Sim F.free st μ C { a with defers := ds } w ->
  (∀ w', Aft F.w0.heap.size ds w w' -> Sim F.free st μ C { a with defers := [] } w' -> LeavesIn Fence.wide 0 F.P fn a.tmps R [] u w') -> LeavesInM Fence.wide 0 F.P fn a.tmps R ds u w := by
 intro ds
 induction ds with
 | nil => intro a w hs hR; exact hR w (.refl _ _ _) hs
 | cons d ds ih =>
  intro a w hs hR; rcases hs.defers.each d (by simp) with ⟨f, hf, _⟩ | ⟨q, he, hq0, _⟩
  ·rw [show F.free.df = [] from hdf] at hf; cases hf
  subst he; obtain ⟨hq, hs2⟩ := hs.unmark; exact ⟨hu, .inl ⟨q, _, rfl, run_takeDeferred hq, ih a _ hs2 fun w' ha => hR w' (.unmark hq0 ha)⟩⟩
theorem Aa {fn : Func} {R : Ending -> World -> Prop} {st : St} {μ : zMz} {C : aw} (hdf : F.df = []) : ∀ (ds : List Deferred) (a : Act) (w : World), Sim F.free st μ C { a with defers := ds } w ->
  (∀ w', Aft F.w0.heap.size ds w w' -> Sim F.free st μ C { a with defers := [] } w' -> ∃ v, (results fn a.tmps).run F.P w' = .ok v w' /\ R (.returned v) w') -> LeavesInM Fence.wide 0 F.P fn a.tmps R ds .returning w :=
 fun ds a w hs hR => Cb hdf (by simp) ds a w hs hR
theorem zu {f : FuncId} {fn : Func} {c : Code} {args : Array Value} {w : World} {R : Ending -> World -> Prop} {μ : zMz} {C : aw} (hF : F.P = P) (hrd : F.rd = none) (hdf : F.df = []) (hf : P.funcs[f]? = some fn) (hb : fn.body = some c) (hsm : Sm F c Q st)
  (hsim : Sim F st μ C { tmps := args ++ Array.replicate (fn.ntmps - args.size) undef, defers := [] } w)
  (hq : ∀ e st', Q e st' -> e = .normal \/ e = .ret \/ ∃ ch, e = .panic ch)
  (hend : ∀ e st' μ' C' a w', Q e st' -> Sim F st' μ' C' a w' -> (∀ ch, e ≠ .panic ch) -> ∀ a2 w'', Aft F.w0.heap.size a.defers w' w'' -> Sim F.free st' μ' C' a2 w'' -> ∃ v, (results fn a2.tmps).run P w'' = .ok v w'' /\ R (.returned v) w'')
  (hpan : ∀ ch st' μ' C' a w', Q (.panic ch) st' -> Sim F st' μ' C' a w' -> ∀ a2 w'', Aft F.w0.heap.size a.defers w' w'' -> Sim F.free st' μ' C' a2 w'' -> R (.panicked ch) w'') : Calls P f args w R := by
 subst hF; refine callsIn_wide.1 (callsIn_of_wp_marks (n := 0) (F := Fence.wide) hf hb trivial ?_); have h := hsm μ C _ w hsim; have hfz : F.fz = Fence.wide := by unfold Fr.fz; rw [hrd]; rfl
 rw [hfz] at h; refine wpIn_mono h ?_; rintro e a w' ⟨st', μ', C', hQ, hs⟩; rcases hq e st' hQ with rfl | rfl | ⟨ch, rfl⟩
 ·exact Aa hdf (fn := fn) (R := R) a.defers a w' hs.free (fun w'' ha h => hend _ st' μ' C' a w' hQ hs (by simp) { a with defers := [] } w'' ha h)
 ·exact Aa hdf (fn := fn) (R := R) a.defers a w' hs.free (fun w'' ha h => hend _ st' μ' C' a w' hQ hs (by simp) { a with defers := [] } w'' ha h)
 ·exact Cb hdf (by simp) (fn := fn) (R := R) a.defers a w' hs.free (fun w'' ha h => hpan ch st' μ' C' a w' hQ hs { a with defers := [] } w'' ha h)
theorem pc {f : FuncId} {fn : Func} {c : Code} {args : Array Value} {w : World} {R : Ending -> World -> Prop} {μ : zMz} {C : aw} (hF : F.P = P) (hrd : F.rd = none) (hf : P.funcs[f]? = some fn) (hb : fn.body = some c) (hsm : Sm F c Q st)
  (hsim : Sim F st μ C { tmps := args ++ Array.replicate (fn.ntmps - args.size) undef, defers := [] } w)
  (hq : ∀ e st', Q e st' -> e = .normal \/ e = .ret)
  (hend : ∀ e st' μ' C' a w', Q e st' -> Sim F st' μ' C' a w' -> ∀ a2 w'', Aft F.w0.heap.size a.defers w' w'' -> Sim F.free st' μ' C' a2 w'' -> ∃ v, (results fn a2.tmps).run P w'' = .ok v w'' /\ R (.returned v) w'') (hdf : F.df = [] := by rfl) : Calls P f args w R := by
 subst hF; refine callsIn_wide.1 (callsIn_of_wp_marks (n := 0) (F := Fence.wide) hf hb trivial ?_); have h := hsm μ C _ w hsim; have hfz : F.fz = Fence.wide := by unfold Fr.fz; rw [hrd]; rfl
 rw [hfz] at h; refine wpIn_mono h ?_; rintro e a w' ⟨st', μ', C', hQ, hs⟩; have hl := Aa hdf (fn := fn) (R := R) a.defers a w' hs.free (fun w'' ha h => hend e st' μ' C' a w' hQ hs { a with defers := [] } w'' ha h); rcases hq e st' hQ with rfl | rfl <;> exact hl
theorem uy {f : FuncId} {fn : Func} {c : Code} {ds : List D} {r : D} (hf : P.funcs[f]? = some fn) (hb : fn.body = some c) (hN : fn.ntmps = N) (hp : ds.length <= N)
  (h : ∀ F, Env F P G N -> F.n0 = 0 -> F.top -> (∀ ds h μ C w, F.G ds h μ C w) -> Sm F c (wZ P fn r) ⟨ds.zipIdx.map fun e => (e.2, .d e.1), [], 0⟩) : aj P G f ds r := by
 intro C w vs hG hk ha; have hvl : vs.length = ds.length := ja ha
 let F : Fr := ⟨P, N, w, C, fun _ => False, none, 0, [], fun _ _ _ _ _ => True, fun _ _ => trivial⟩
 have hsz : (vs.toArray ++ Array.replicate (fn.ntmps - vs.toArray.size) undef).size = N := by simp; omega
 have hlook : ∀ (ds : List D) (k : Nat) (t : Nat) (x : V), look ((ds.zipIdx k).map fun e => (e.2, V.d e.1)) t = some x -> ∃ d, x = .d d /\ k <= t /\ ds[t - k]? = some d := by
  intro ds
  induction ds with
  | nil => intro k t x h; simp [look] at h
  | cons d ds ih =>
   intro k t x h; simp only [List.zipIdx_cons, List.map_cons, look] at h; split at h
   ·rename_i e; cases h; subst e; exact ⟨d, rfl, Nat.le_refl _, by simp⟩
   ·obtain ⟨d', rfl, h1, h2⟩ := ih _ _ _ h; refine ⟨d', rfl, by omega, ?_⟩; rw [show t - k = (t - (k + 1)) + 1 by omega]; simpa using h2
 have hsim : Sim F ⟨ds.zipIdx.map fun e => (e.2, .d e.1), [], 0⟩ (fun _ => none) C { tmps := vs.toArray ++ Array.replicate (fn.ntmps - vs.toArray.size) undef, defers := [] } w := by
  refine ⟨hsz, .nil _ _, Kept.refl _ _, fun _ _ _ h => h, fun _ _ _ h => .inl h, hk, fun t x hx => ?_, fun l k hk => by simp [look] at hk, fun l l' p p' h => by simp [look] at h, fun _ _ => rfl, trivial⟩; obtain ⟨d, rfl, _, hd⟩ := hlook ds 0 t x hx; rw [Nat.sub_zero] at hd; obtain ⟨v, h1, h2⟩ := nQ ha t d hd; have htl := (List.getElem?_eq_some_iff.1 h1).1; have : (vs.toArray ++ Array.replicate (fn.ntmps - vs.toArray.size) undef).getD t undef = v := by
   rw [Array.getD_eq_getD_getElem?, Array.getElem?_append_left (by simpa using htl)]; simp [h1]
  show Rep C d _; rw [this]; exact h2
 refine pc (F := F) rfl rfl hf hb (h F ⟨rfl, rfl, hG⟩ rfl ⟨rfl, fun _ _ _ _ _ _ _ _ _ => trivial⟩ fun _ _ _ _ _ => trivial) hsim (fun e st' hq => by cases e <;> first | exact .inl rfl | exact .inr rfl | exact hq.elim) ?_; intro e st' μ' C' _ _ hq _ a w' _ hs; have fin : (∃ d, kI P st' fn.results.toList = some d /\ d.le r) -> ∃ v, (results fn a.tmps).run P w' = .ok v w' /\ ∃ v' C', Ending.returned v = .returned v' /\ More w C w' C' /\ Rep C' r v' := by
  rintro ⟨d, hd, hle⟩; simp only [kI, Option.map_eq_some_iff] at hd; obtain ⟨es, he, hd⟩ := hd; obtain ⟨us, h1, h2⟩ := sA hs he; rw [show F.free.P = P from rfl] at h1; have hm : More w C w' C' := ⟨hs.below.below, hs.sub, fun b o u h => (hs.new b o u h).imp id fun h => h.resolve_right (by simp [F, Fr.free]), hs.known⟩
  have hrun : (results fn a.tmps).run P w' = .ok (if h : us.toArray.size = 1 then us.toArray[0] else .tuple us.toArray) w' := by
   unfold results; rw [Array.mapM_eq_mapM_toList]; simp only [Sem.run_bind]; have : (List.toArray <$> (fn.results.toList.mapM fun (r : ResultVar) => (match r with | .tmp t => pure (a.tmps.getD t undef) | .cell p t => do loadVar t (<- asAddr (a.tmps.getD p undef)) : Sem Value))).run P w' = .ok us.toArray w' := by
    show ((fn.results.toList.mapM fun (r : ResultVar) => (match r with | .tmp t => pure (a.tmps.getD t undef) | .cell p t => do loadVar t (<- asAddr (a.tmps.getD p undef)) : Sem Value)).bind fun x => Sem.pure x.toArray).run P w' = _; have hb := Sem.run_bind' P (fn.results.toList.mapM fun (r : ResultVar) => (match r with | .tmp t => pure (a.tmps.getD t undef) | .cell p t => do loadVar t (<- asAddr (a.tmps.getD p undef)) : Sem Value)) (fun x => Sem.pure x.toArray) w'; rw [hb, h1]; rfl
   erw [this]
   rfl
  have hul : us.length = es.length := ja h2; rcases us with _ | ⟨u, _ | ⟨v, us⟩⟩
  ·rcases es with _ | ⟨e, es⟩
   ·subst hd; exact ⟨.tuple #[], hrun, _, C', rfl, hm, hle _ _ (.tup [] [] .onil)⟩
   ·cases hul
  ·rcases es with _ | ⟨e, _ | ⟨e2, es⟩⟩
   ·cases hul
   ·cases h2 with
    | ocons _ _ _ _ h3 _ =>
     subst hd; exact ⟨u, hrun, u, C', rfl, hm, hle _ _ h3⟩
   ·simp at hul
  ·rcases es with _ | ⟨e, _ | ⟨e2, es⟩⟩
   ·cases hul
   ·simp at hul
   ·subst hd; exact ⟨_, hrun, _, C', rfl, hm, hle _ _ (.tup _ _ h2)⟩
 cases e <;> first | exact fin hq | exact hq.elim
theorem aj.of {f : FuncId} {fn : Func} {c : Code} {ds : List D} {r : D} (hf : P.funcs[f]? = some fn) (hb : fn.body = some c) (hN : fn.ntmps = N) (hp : ds.length <= N)
  (h : ∀ F, Env F P G N -> F.n0 = 0 -> F.top -> Sm F c (wZ P fn r) ⟨ds.zipIdx.map fun e => (e.2, .d e.1), [], 0⟩) : aj P G f ds r := uy hf hb hN hp fun F h1 h2 h3 _ => h F h1 h2 h3
end
end
section
def Sl (w : World) (v : Value) (n : Nat) (cs : zLz) : Prop :=
 ∃ ao cap, v = .slice ao n cap /\ n <= cap /\ cap <= 9223372036854775807 /\ (ao = none -> cap = 0) /\ ∀ b o s, ao = some ⟨b, o, s⟩ -> (0 < cap -> s = none) /\ ∀ j u, cs[j]? = some u -> w.cell? ⟨b, o + j, none⟩ = some u
theorem Sl.below {w w' : World} {v : Value} {n : Nat} {cs : zLz} (h : Sl w v n cs) (hb : Below w.heap.size w w') : Sl w' v n cs := by
 obtain ⟨ao, cap, h1, h2, h3, h4, h5⟩ := h; exact ⟨ao, cap, h1, h2, h3, h4, fun b o s e => ⟨(h5 b o s e).1, fun j u hj => by
  have := (h5 b o s e).2 j u hj; exact (hb.cell (block_lt_of_cell this)).trans this⟩⟩
def ze : Value -> Nat | .slice _ n _ => n | _ => 0
structure ElemT (P : Program) (t e : TypeId) (z : Value) (size bytes : Nat) : Prop where
 und : P.underlying t = some (.slice e)
 info : (P.info? e).map (fun i => (i.zero, i.size, i.bytes)) = some (some z, size, bytes)
 zs : z.cells.size = size
 pos : 0 < size
section
variable {P : Program} {ops : Array Oper} {rest : zOz} {o : Oper} {a : Act} {w : World} {Q : Exit -> Act -> World -> Prop} {t e : TypeId} {z : Value} {size bytes : Nat}
theorem Am {W : World} {base : Nat} {v : Value} {k : Nat} {xs : zLz} (h : W.ownsRow base e size v (k + 1) xs) :
  ∃ g cap, v = .slice (some ⟨g, 0, none⟩) (k + 1) cap /\ base <= g /\ g < W.heap.size := by
 rcases h.2 with ⟨_, h0⟩ | ⟨g, cap, cur, rfl, hb, hg, _⟩
 ·omega
 ·exact ⟨g, cap, rfl, hb, lt_of_block hg⟩
theorem BG (hE : ElemT P t e z size bytes) (hgd : o.guard = none) (s x : Operand) (ho : o.op = .call ⟨.builtin .append, #[s, x], #[t, t]⟩) (base : Nat) (v : Value) (n : Nat) (xs : zLz)
  (hs : a.eval s = v) (hown : w.ownsRow base e size v n xs) (g : Nat) (hx : a.eval x = .slice (some ⟨g, 0, none⟩) 1 1) (cs : zLz) (hA : Arr w g cs) (hcs : cs.length = size) (h1 : ∀ u ∈ cs, u.oneCell' = true)
  (hn : n + 1 <= 140737488355328) (hn2 : (n + 1) * bytes <= 140737488355328) (hbase : base <= w.heap.size)
  (h : ∀ g' cap w', w'.ownsRow base e size (.slice (some ⟨g', 0, none⟩) (n + 1) cap) (n + 1) (xs ++ cs) -> w.grownBy w' v.ownBlock -> base <= g' -> g' < w'.heap.size -> wpList P ops Q rest (a.put o.dst (.slice (some ⟨g', 0, none⟩) (n + 1) cap)) w') :
  wpList P ops Q (o :: rest) a w := by
 obtain ⟨i0, hi, hz0, hz1, hz2⟩ := info_parts hE.info; refine wpList_append_own _ hgd s x t ho base e i0 z size bytes hE.und hi hz0 hz1 hz2 hE.zs hE.pos v n xs hs hown ⟨g, 0, none⟩ 1 1 cs hx (by rw [hcs, Nat.one_mul]) (fun j u hj => by rw [dJ, Nat.zero_add]; exact hA.cell hj) h1 (by unfold maxLen; omega) hn2 hbase ?_; intro v' w' hown' hg _; obtain ⟨g', cap, rfl, hb, hlt⟩ := Am hown'; exact h g' cap w' hown' hg hb hlt
theorem pO (hE : ElemT P t e z size bytes) (hgd : o.guard = none) (s x : Operand) (ho : o.op = .call ⟨.builtin .append, #[s, x], #[t, t]⟩) (base : Nat) (n : Nat) (xs : zLz)
  (g0 c0 : Nat) (hs : a.eval s = .slice (some ⟨g0, 0, none⟩) n c0) (hown : w.ownsRow base e size (.slice (some ⟨g0, 0, none⟩) n c0) n xs) (g : Nat) (hx : a.eval x = .slice (some ⟨g, 0, none⟩) 1 1) (cs : zLz) (hA : Arr w g cs) (hcs : cs.length = size) (h1 : ∀ u ∈ cs, u.oneCell' = true)
  (hn : n + 1 <= 140737488355328) (hn2 : (n + 1) * bytes <= 140737488355328) (hbase : base <= w.heap.size)
  (h : ∀ g' cap w', w'.ownsRow base e size (.slice (some ⟨g', 0, none⟩) (n + 1) cap) (n + 1) (xs ++ cs) -> w.grownBy w' (some g0) -> base <= g' -> g' < w'.heap.size -> wpList P ops Q rest (a.put o.dst (.slice (some ⟨g', 0, none⟩) (n + 1) cap)) w') :
  wpList P ops Q (o :: rest) a w := BG hE hgd s x ho base _ n xs hs hown g hx cs hA hcs h1 hn hn2 hbase h
theorem uw (hE : ElemT P t e z size bytes) (hgd : o.guard = none) (s x : Operand) (ho : o.op = .call ⟨.builtin .append, #[s, x], #[t, t]⟩) (ao : Option Addr) (n : Nat) (olds : zLz)
  (hs : a.eval s = .slice ao n n) (hnil : ao = none -> n = 0) (hlo : olds.length = n * size) (hold : ∀ b o s, ao = some ⟨b, o, s⟩ -> (0 < n -> s = none) /\ ∀ j u, olds[j]? = some u -> w.cell? ⟨b, o + j, none⟩ = some u)
  (g : Nat) (hx : a.eval x = .slice (some ⟨g, 0, none⟩) 1 1) (cs : zLz) (hA : Arr w g cs) (hcs : cs.length = size) (h1 : ∀ u ∈ cs, u.oneCell' = true)
  (hn : n + 1 <= 140737488355328) (hn2 : (n + 1) * bytes <= 140737488355328)
  (h : ∀ g' cap w', w'.ownsRow w.heap.size e size (.slice (some ⟨g', 0, none⟩) (n + 1) cap) (n + 1) (olds ++ cs) -> w.grownBy w' none -> w.heap.size <= g' -> g' < w'.heap.size -> wpList P ops Q rest (a.put o.dst (.slice (some ⟨g', 0, none⟩) (n + 1) cap)) w') :
  wpList P ops Q (o :: rest) a w := by
 obtain ⟨i0, hi, hz0, hz1, hz2⟩ := info_parts hE.info; refine wpList_append_grows _ hgd s x t ho e i0 z size bytes hE.und hi hz0 hz1 hz2 hE.zs hE.pos ao n n olds hs (fun h => ⟨hnil h, hnil h⟩) hlo (fun b hb j u hj => ?_) ⟨g, 0, none⟩ 1 1 cs hx (by rw [hcs, Nat.one_mul]) (fun j u hj => by rw [dJ, Nat.zero_add]; exact hA.cell hj) h1 (by omega) (by unfold maxLen; omega) hn2 ?_
 ·obtain ⟨b, o, s⟩ := b; have hjl := (List.getElem?_eq_some_iff.1 hj).1; obtain ⟨hs0, hc⟩ := hold b o s hb; obtain rfl := hs0 (by rw [hlo] at hjl; exact Nat.pos_of_mul_pos_right (Nat.lt_of_le_of_lt (Nat.zero_le _) hjl)); rw [dJ]; exact hc j u hj
 intro v' w' hown' hg; obtain ⟨g', cap, rfl, hb, hlt⟩ := Am hown'; exact h g' cap w' hown' hg hb hlt
theorem Hp {W : World} {base base' : Nat} {v : Value} {k : Nat} {xs : zLz} (h : W.ownsRow base e size v k xs) (hb : base' <= base) : W.ownsRow base' e size v k xs := by
 refine ⟨h.1, ?_⟩; rcases h.2 with h2 | ⟨g, cap, cur, hv, hb2, r⟩
 ·exact .inl h2
 ·exact .inr ⟨g, cap, cur, hv, by omega, r⟩
theorem Jz {W : World} {base g n cap : Nat} {xs : zLz} (h : W.ownsRow base e size (.slice (some ⟨g, 0, none⟩) n cap) n xs) :
  ∃ cur, Arr W g cur /\ cur.take (n * size) = xs /\ n <= cap /\ cap <= 9223372036854775807 /\ cur.length = cap * size := by
 rcases h.2 with ⟨h0, _⟩ | ⟨g', cap', cur, he, hb, hg, hle, hm, hsz, ht⟩
 ·cases h0
 ·simp only [Value.slice.injEq, Option.some.injEq, Addr.mk.injEq, true_and, and_true] at he; obtain ⟨rfl, rfl⟩ := he; exact ⟨cur.toList, ⟨e, by simpa using hg⟩, ht, hle, by unfold maxLen at hm; omega, by simpa using hsz⟩
end
end
section
section
variable {P : Program} {w : World} {C : aw} {μ : zMz} {t e : TypeId} {z : Value} {size bytes : Nat}
theorem cM (hk : bG C w) {sz : Nat} {ys : zRz} {f : Bool} {v : Value} (h : Rep C (.list sz ys f) v) (hs : sz = size \/ ys = []) :
  ∃ ao cap vs, v = .slice ao ys.length cap /\ (f = true -> cap = ys.length) /\ vs.length = ys.length * size /\ Rp C (.vals ys.flatten vs) /\ (∀ x ∈ ys, x.length = size) /\ ∀ w', Below w.heap.size w w' -> (Builtin.firstCells size ys.length v).run P w' = .ok vs.toArray w' := by
 obtain ⟨ao, cap, rfl, hcb, h3⟩ := Rep.elem h; have h2 := hcb.full; by_cases hy : ys = []
 ·subst hy; refine ⟨ao, cap, [], rfl, h2, by simp, .vnil, by simp, fun w' _ => ?_⟩; cases ao with
  | none => rfl
  | some b => simp [Builtin.firstCells, loadCells, loadCellsFrom]
 ·obtain ⟨b, off, rfl, hr⟩ := h3 hy; obtain rfl := hs.resolve_right hy; obtain ⟨g1, g2⟩ := yc hr; obtain ⟨vs, hv, hc⟩ := ug g2; refine ⟨_, cap, vs, rfl, h2, by rw [cw hv, g1], hv, fun x hx => ?_, fun w' hb => ?_⟩
  ·obtain ⟨i, hi⟩ := List.mem_iff_getElem?.1 hx; exact (qU hr i x hi).1
  ·exact run_firstCells_some w' sz ys.length ⟨b, off, none⟩ ys.length cap vs (by rw [cw hv, g1]) (fun j u hj => by rw [dJ]; exact (hk.below hb).cell (hc j u hj) (rb hv u (List.mem_of_getElem? hj)))
theorem ic (ht : P.underlying t = some (.slice e)) (i : TypeInfo) (hi : P.info? e = some i) (hz : i.zero = some z) (ao : Option Addr) (n cap : Nat) (olds : zLz) (xo : Option Addr) (m xc : Nat) (news : zLz) (ty : TypeId)
  (ho : (Builtin.firstCells i.size n (.slice ao n cap)).run P w.drew = .ok olds.toArray w.drew) (hn : (Builtin.firstCells i.size m (.slice xo m xc)).run P w.drew = .ok news.toArray w.drew)
  (hg : cap < n + m) (hb : (n + m) * i.bytes <= 140737488355328) (h63 : n + m <= 140737488355328) :
  (Builtin.append_ #[t, t] ty #[.slice ao n cap, .slice xo m xc]).run P w = .ok (.slice (some ⟨w.heap.size, 0, none⟩) (n + m) (grownCap w (n + m) cap e))
   (w.drew.alloc (.cells (olds.toArray ++ news.toArray ++ Builtin.zeroCells z.cells (grownCap w (n + m) cap e - (n + m))) e)) := by
 have hn' : ¬ (n + m <= cap) := by omega
 have h63' : ¬ (9223372036854775807 < ((n : Int) + (m : Int))) := by omega
 have h48' : ¬ (281474976710656 < Builtin.nextslicecap (n + m) cap * i.bytes) := by have := growslice_fits hg hb; omega
 simp [Builtin.append_, run_underlying ht, sizeOf, typeInfo, zeroValue, hi, hz, Builtin.lenOf, hn', h63', h48', Question.forced, hn, ho, newRow, grownCap]
 congr 2
 apply Array.ext'; simp [List.append_assoc]
theorem qC (cap need size : Nat) (zc : Array Value) (hz : zc.size = size) (olds news : zLz) (h : olds.length + news.length = need * size) (hc : need <= cap) : (olds.toArray ++ news.toArray ++ Builtin.zeroCells zc (cap - need)).size = cap * size := by
 simp only [Array.size_append, List.size_toArray, size_zeroCells, hz]; rw [h, <- Nat.add_mul]; congr 1; omega
theorem na {rows : zRz} {vs : zLz} {size : Nat} (hx : ∀ x ∈ rows, x.length = size) (h : Rp C (.vals rows.flatten vs)) (tail : zLz) : gO μ C size (rows.map fun r => r.map V.d) (vs ++ tail) := by
 intro i r hr j x hj; rw [List.getElem?_map] at hr; cases hrow : rows[i]? with
 | none => rw [hrow] at hr; cases hr
 | some row =>
  rw [hrow] at hr; cases hr; rw [List.getElem?_map] at hj; cases hd : row[j]? with
  | none => rw [hd] at hj; cases hj
  | some d =>
   rw [hd] at hj; cases hj; have hget : rows.flatten[i * size + j]? = some d := by
    clear h
    induction rows generalizing i with
    | nil => simp at hrow
    | cons x xs ih =>
     have hxl := hx x (by simp); rw [List.flatten_cons]; cases i with
     | zero =>
      simp at hrow; subst hrow; have := (List.getElem?_eq_some_iff.1 hd).1; rw [Nat.zero_mul, Nat.zero_add, List.getElem?_append_left this]; exact hd
     | succ i =>
      rw [List.getElem?_append_right (by rw [hxl, Nat.succ_mul]; omega)]; rw [show (i + 1) * size + j - x.length = i * size + j by rw [hxl, Nat.succ_mul]; omega]; exact ih (fun y hy => hx y (by simp [hy])) i (by simpa using hrow)
   obtain ⟨u, a1, a2, a3⟩ := fd h _ d hget; refine ⟨u, ?_, a2, a3⟩; rw [List.getElem?_append_left (List.getElem?_eq_some_iff.1 a1).1]; exact a1
theorem xJ {rows : zRz} {vs : zLz} {size : Nat} (hx : ∀ x ∈ rows, x.length = size) (h : Rp C (.vals rows.flatten vs)) (cur : Array Value) (hc : ∀ (j : Nat) (u : Value), vs[j]? = some u -> cur[j]? = some u) (b : Nat) : Rp (lc C b cur) (.rows rows b 0 size) := by
 refine ES hx (ia fun i d hi => ?_); obtain ⟨u, a1, a2, a3⟩ := fd h i d hi; exact ⟨u, .inr ⟨rfl, by rw [Nat.zero_add]; exact hc i u a1⟩, a2, Rp.mono (fun _ _ _ h => .inl h) a3⟩
end
section
variable {P : Program} {G : zGz} {N : Nat} {F : Fr} {ops : Array Oper} {rest : zOz} {o : Oper} {Q : zQz} {st : St} {t e : TypeId} {z : Value} {size bytes : Nat}
theorem gG {a : Act} {s x : Operand} (ho : o.op = .call ⟨.builtin .append, #[s, x], #[t, t]⟩) : execOp a.eval o = (do pure (.value (<- Builtin.append_ #[t, t] o.type #[a.eval s, a.eval x])) : Sem Next) := by
 simp only [execOp, ho]; show builtin .append #[t, t] o.type (#[s, x].map fun | .const _ => true | _ => false) (#[s, x].map a.eval) = _; simp [builtin]
theorem SmL.append (hF : Env F P G N) (hN : St.small N st) (hE : ElemT P t e z size bytes) {s x : Operand} {d : Tmp} {sz sz' : Nat} {xs ys : zRz} {f : Bool} (hg : bP ops st.env o.guard = some true) (ho : o.op = .call ⟨.builtin .append, #[s, x], #[t, t]⟩) (hd : o.dst = some d) (hdN : d < N)
  (hs : evD G st.env s = some (.d (.list sz xs true))) (hx : evD G st.env x = some (.d (.list sz' ys f))) (hsz : sz = size \/ xs = []) (hsz' : sz' = size \/ ys = []) (hb : (xs.length + ys.length) * bytes <= 140737488355328) (hb2 : xs.length + ys.length <= 140737488355328)
  (k : SmL F ops rest Q { st with env := (d, .d (.list size (xs ++ ys) false)) :: st.env }) : SmL F ops (o :: rest) Q st := by
 intro μ C a w hsim; obtain ⟨rfl, rfl, hG⟩ := hF; obtain ⟨i0, hi, hz0, hz1, hz2⟩ := info_parts hE.info; refine cb (fun _ => by rw [ho]; simp) fun K hK => ?_
 rw [bI hsim hg hN, if_pos rfl]; have hsv := bW hsim hG hs; have hxv := bW hsim hG hx; have hk := hsim.known; obtain ⟨ao, cap, vs, e1, hcap, hvl, hvv, hvx, hvr⟩ := cM (P := F.P) hk hsv hsz; obtain ⟨bo, cap', us, e2, _, hul, huv, hux, hur⟩ := cM (P := F.P) hk hxv hsz'; have hdr : Below w.heap.size w w.drew := (Below.refl _ _).drew; unfold Oper.wp; rw [gG ho, Sem.run_bind, e1, e2]; rw [hcap rfl]; by_cases hy : ys = []
 ·subst hy; have : (Builtin.append_ #[t, t] o.type #[.slice ao xs.length xs.length, .slice bo ([] : zRz).length cap']).run F.P w = .ok (.slice ao xs.length xs.length) w := by
   have hf0 := hur w (Below.refl _ _); rw [e2] at hf0; have : us = [] := List.eq_nil_of_length_eq_zero (by simpa using hul); subst this; have hszr : (sizeOf e).run F.P w = .ok size w := by simp [sizeOf, typeInfo, hi, hz1]
   simp only [List.length_nil] at hf0; cases ao with
   | none => simp [Builtin.append_, run_underlying hE.und, hszr, Builtin.lenOf, hf0]
   | some b => simp [Builtin.append_, run_underlying hE.und, hszr, Builtin.lenOf, hf0, storeCells]
  rw [this, Result.andThen_ok]; show Oper.upon F.P o a K _ (.ok (.value _) w); rw [Oper.upon_value, hd]; refine hK _ _ (k μ C _ w (hsim.put hdN ?_)); rw [e1, hcap rfl] at hsv; rw [List.append_nil]; show Rep C _ _; rcases hsz with rfl | rfl
  ·exact jW hsv
  ·exact ck _ _ _ _ _ hsv
 ·have hm : 0 < ys.length := List.length_pos_iff.2 hy; have hr1 := hvr w.drew hdr; have hr2 := hur w.drew hdr; rw [e1, hcap rfl] at hr1; rw [e2] at hr2; have hrun := ic (P := F.P) (w := w) hE.und i0 hi hz0 ao xs.length xs.length vs bo ys.length cap' us o.type (by rw [hz1]; exact hr1) (by rw [hz1]; exact hr2) (by omega) (by rw [hz2]; exact hb) hb2; rw [hrun, Result.andThen_ok]; show Oper.upon F.P o a K _ (.ok (.value _) _); rw [Oper.upon_value, hd]; have hs1 := hsim.drew; have hm1 := mY hs1.known (vs.toArray ++ us.toArray ++ Builtin.zeroCells z.cells (grownCap w (xs.length + ys.length) xs.length e - (xs.length + ys.length))) e; refine hK _ _ (k μ _ _ _ ((hs1.more hm1).put hdN ?_)); have hrows := xJ (C := C) (rows := xs ++ ys) (vs := vs ++ us) (size := size) (by intro x hx; rcases List.mem_append.1 hx with hx | hx; exact hvx x hx; exact hux x hx) (by rw [List.flatten_append]; exact ff hvv huv)
   (vs.toArray ++ us.toArray ++ Builtin.zeroCells z.cells (grownCap w (xs.length + ys.length) xs.length e - (xs.length + ys.length))) (fun j u hj => by
    have hjl := (List.getElem?_eq_some_iff.1 hj).1; rw [Array.getElem?_append_left (by simpa using hjl)]; simpa using hj) w.heap.size
  have hne : xs ++ ys ≠ [] := by simp [hy]
  have hge := grownCap_ge w (xs.length + ys.length) xs.length e; have := Rp.list (C := lc C w.heap.size (vs.toArray ++ us.toArray ++ Builtin.zeroCells z.cells (grownCap w (xs.length + ys.length) xs.length e - (xs.length + ys.length)))) size (xs ++ ys) false w.heap.size 0 (grownCap w (xs.length + ys.length) xs.length e) hne ⟨by simpa using hge, by simp, grownCap_le_maxLen w _ _ e (by unfold maxLen; omega), fun h => (by cases h), fun x h _ => by cases h; rfl⟩ hrows; rw [List.length_append] at this; exact this
def V.free (l : Nat) : V -> Bool
 | .d _ => true
 | .ref l' .. => l' != l
 | .sref l' .. => l' != l
 | .aref l' .. => l' != l
 | .mix _ l' .. => l' != l
 | .gh _ => 0 != l
 | .any => true
 | .mp .. => true
 | .omap l' => l' != l
 | .clo _ us ws => us.all (Cap.free l) && ws.all (Cap.free l)
 | .agr _ cs => cs.all (Cap.free l)
theorem Cap.free_rep {l : Nat} {x : Cap} (h : x.free l = true) {μ μ' : zMz} (hμ : ∀ l', l' ≠ l -> μ' l' = μ l') {C : aw} {v : Value} (hr : fr μ C x v) : fr μ' C x v := by
 cases x with
 | d => exact hr
 | r l' off => obtain ⟨p, h1, h2⟩ := hr; exact ⟨p, by rw [hμ l' (by simpa [Cap.free] using h)]; exact h1, h2⟩
 | s l' n => obtain ⟨p, a, h1, h2⟩ := hr; exact ⟨p, a, by rw [hμ l' (by simpa [Cap.free] using h)]; exact h1, h2⟩
 | m l' => obtain ⟨p, h1, h2⟩ := hr; exact ⟨p, by rw [hμ l' (by simpa [Cap.free] using h)]; exact h1, h2⟩
theorem V.free_rep {l : Nat} {x : V} (h : x.free l = true) {μ μ' : zMz} (hμ : ∀ l', l' ≠ l -> μ' l' = μ l') {C : aw} {v : Value} (hr : ax μ C x v) : ax μ' C x v := by
 cases x with
 | d => exact hr
 | ref l' i off => obtain ⟨p, h1, h2⟩ := hr; exact ⟨p, by rw [hμ l' (by simpa [V.free] using h)]; exact h1, h2⟩
 | sref l' lo len => obtain ⟨p, ao, h1, h2⟩ := hr; exact ⟨p, ao, by rw [hμ l' (by simpa [V.free] using h)]; exact h1, h2⟩
 | aref l' i off es len cap => obtain ⟨p, ao, h1, h2⟩ := hr; exact ⟨p, ao, by rw [hμ l' (by simpa [V.free] using h)]; exact h1, h2⟩
 | mix tup l' n rest => obtain ⟨p, ao, us, h1, h2⟩ := hr; exact ⟨p, ao, us, by rw [hμ l' (by simpa [V.free] using h)]; exact h1, h2⟩
 | any => trivial
 | mp => exact hr
 | omap l' => obtain ⟨p, h1, h2⟩ := hr; exact ⟨p, by rw [hμ l' (by simpa [V.free] using h)]; exact h1, h2⟩
 | agr tup cs =>
  simp only [V.free, List.all_eq_true] at h; obtain ⟨us, h1, h2⟩ := hr; exact ⟨us, h1.imp' fun c hc _ hv => Cap.free_rep (h c hc) hμ hv, h2⟩
 | clo f us ws =>
  simp only [V.free, Bool.and_eq_true, List.all_eq_true] at h; obtain ⟨as0, bs, h1, h2, h3⟩ := hr; exact ⟨as0, bs, h1, h2.imp' fun c hc _ hv => Cap.free_rep (h.1 c hc) hμ hv, h3.imp' fun c hc _ hv => Cap.free_rep (h.2 c hc) hμ hv⟩
 | gh m => obtain ⟨sz, h1⟩ := hr; exact ⟨sz, by rw [hμ 0 (by simpa [V.free] using h)]; exact h1⟩
def jM (l : Nat) (h : zHz) : Prop := ∀ l' k, l' ≠ l -> look h l' = some k -> ∀ r ∈ k.rows, ∀ x ∈ r, V.free l x = true
def dn (l : Nat) : zEz -> zEz
 | [] => []
 | (t, x) :: r => (t, if x.free l then x else .any) :: dn l r
theorem jv (l : Nat) : ∀ (env : zEz) (t : Nat), look (dn l env) t = (look env t).map fun x => if x.free l then x else .any
 | [], _ => rfl
 | (k, x) :: r, t => by
  simp only [dn, look]; split
  ·rfl
  ·exact jv l r t
theorem Sim.kill {F : Fr} {st : St} {μ : zMz} {C : aw} {a : Act} {w : World} (h : Sim F st μ C a w) (l : Nat) : Sim F { st with env := dn l st.env } μ C a w :=
 ⟨h.size, h.defers, h.below, h.sub, h.new, h.known, fun t x hx => by
  rw [jv] at hx; cases hl : look st.env t with
  | none => rw [hl] at hx; cases hx
  | some y =>
   rw [hl] at hx; cases hx; dsimp only; split
   ·exact h.env t y hl
   ·trivial, h.heap, h.inj, h.nx, h.gh⟩
theorem rl (ht : P.underlying t = some (.slice e)) (i : TypeInfo) (hi : P.info? e = some i) {w w' : World} (ao : Option Addr) (n cap : Nat) (xo : Option Addr) (m xc : Nat) (news : zLz) (ty : TypeId)
  (hn : (Builtin.firstCells i.size m (.slice xo m xc)).run P w = .ok news.toArray w) (hst : ∀ b, ao = some b -> (storeCells (b.add (n * i.size)) news).run P w = .ok () w') (h0 : ao = none -> w' = w) (hg : n + m <= cap) :
  (Builtin.append_ #[t, t] ty #[.slice ao n cap, .slice xo m xc]).run P w = .ok (.slice ao (n + m) cap) w' := by
 cases ao with
 | none => rw [h0 rfl]; simp [Builtin.append_, run_underlying ht, sizeOf, typeInfo, hi, Builtin.lenOf, hg, hn]
 | some b => simp [Builtin.append_, run_underlying ht, sizeOf, typeInfo, hi, Builtin.lenOf, hg, hn, hst b rfl]
theorem vT {μ : zMz} {C : aw} {size : Nat} {xs : zRz} {cur : zLz} (hx : ∀ x ∈ xs, x.length = size) (hr : gO μ C size (xs.map fun r => r.map V.d) cur) (hc : xs.length * size <= cur.length) :
  Rp C (.vals xs.flatten (cur.take (xs.length * size))) := by
 have hfl : xs.flatten.length = xs.length * size := by
  clear hr hc
  induction xs with
  | nil => simp
  | cons x xs ih => simp [hx x (by simp), ih (fun y hy => hx y (by simp [hy])), Nat.succ_mul]; omega
 refine tq (by rw [hfl, List.length_take]; omega) fun q d v hd hv => ?_
 have hq : q < xs.length * size := by rw [<- hfl]; exact (List.getElem?_eq_some_iff.1 hd).1
 rw [List.getElem?_take_of_lt hq] at hv; have hs0 : 0 < size := by
  rcases Nat.eq_zero_or_pos size with h | h
  ·subst h; simp at hq
  ·exact h
 have hi : q / size < xs.length := (Nat.div_lt_iff_lt_mul hs0).2 hq; have hqe : q = q / size * size + q % size := by rw [Nat.mul_comm]; exact (Nat.div_add_mod q size).symm
 have hjl : q % size < size := Nat.mod_lt _ hs0; have hrow : (xs.map fun r => r.map V.d)[q / size]? = some (xs[q / size].map V.d) := by simp [hi]
 have hlen := hx xs[q / size] (List.getElem_mem hi); have hcell : (xs[q / size].map V.d)[q % size]? = some (.d (xs[q / size][q % size]'(by omega))) := by simp [hlen, hjl]
 obtain ⟨u, a1, a2, a3⟩ := hr _ _ hrow _ _ hcell; rw [<- hqe, hv] at a1; cases a1; have hde : xs.flatten[q / size * size + q % size]? = some (xs[q / size][q % size]'(by omega)) := by
  have hgen : ∀ (l : zRz) (i j : Nat) (hi : i < l.length) (hl : ∀ x ∈ l, x.length = size) (hj : j < size), l.flatten[i * size + j]? = some (l[i][j]'(by rw [hl _ (List.getElem_mem hi)]; exact hj)) := by
   intro l
   induction l with
   | nil => intro i j hi; simp at hi
   | cons x l ih =>
    intro i j hi hl hj; have hxl := hl x (by simp); rw [List.flatten_cons]; cases i with
    | zero => rw [Nat.zero_mul, Nat.zero_add, List.getElem?_append_left (by omega)]; simp [hxl, hj]
    | succ i =>
     rw [List.getElem?_append_right (by rw [hxl, Nat.succ_mul]; omega), show (i + 1) * size + j - x.length = i * size + j by rw [hxl, Nat.succ_mul]; omega]; exact ih i j (by simpa using hi) (fun y hy => hl y (by simp [hy])) hj
  exact hgen xs _ _ hi hx hjl
 rw [<- hqe, hd] at hde; cases hde; exact ⟨a2, a3⟩
theorem Ax {μ : zMz} {C : aw} {size : Nat} {xs ys : zRz} {cur : zLz} {us : zLz} (hx : ∀ x ∈ xs, x.length = size) (hy : ∀ y ∈ ys, y.length = size) (hr : gO μ C size (xs.map fun r => r.map V.d) cur) (hu : Rp C (.vals ys.flatten us)) (hc : xs.length * size <= cur.length) (tail : zLz) :
  gO μ C size ((xs ++ ys).map fun r => r.map V.d) (cur.take (xs.length * size) ++ us ++ tail) :=
 na (rows := xs ++ ys) (by intro x h; rcases List.mem_append.1 h with h | h; exact hx x h; exact hy x h) (by rw [List.flatten_append]; exact ff (vT hx hr hc) hu) tail
theorem Sim.regrow {F : Fr} {st : St} {μ : zMz} {C : aw} {a : Act} {w : World} (h : Sim F st μ C a w) {l : Nat} {k : Blk} {p : Place} (hlow : F.n0 <= l) (hk : look st.h l = some k) (hp : μ l = some p) (hfree : jM l st.h) (cap : Nat) (cur : Array Value) (T : TypeId) (xs : zRz)
  (hrow : ∀ x ∈ xs, x.length = k.sz) (hlen : xs.length <= cap) (hmax : cap <= 9223372036854775807) (hsz : cur.size = cap * k.sz) (hr : gO μ C k.sz (xs.map fun r => r.map V.d) cur.toList) :
  Sim F { st with env := dn l st.env, h := rep st.h l ⟨k.sz, xs.map fun r => r.map V.d⟩ } (fun l' => if l' = l then some ⟨w.heap.size, cap, k.sz⟩ else μ l') C a (w.alloc (.cells cur T)) := by
 have hμ : ∀ l', l' ≠ l -> (fun l' => if l' = l then some (⟨w.heap.size, cap, k.sz⟩ : Place) else μ l') l' = μ l' := fun l' h => by simp [h]
 have h1 := h.more (.of_below h.known ((Below.refl _ w).alloc (Nat.le_refl _) (.cells cur T))); have hlt : ∀ l' p', (look st.h l').isSome = true -> μ l' = some p' -> 0 < p'.cap -> p'.b < w.heap.size := by
  intro l' p' hl' hp' hc; obtain ⟨k', hk'⟩ := Option.isSome_iff_exists.1 hl'; obtain ⟨p2, hp2, hb2⟩ := h.heap l' k' hk'; rw [hp'] at hp2; cases hp2; exact hb2.lt hc
 have hisome : ∀ l', (look (rep st.h l ⟨k.sz, xs.map fun r => r.map V.d⟩) l').isSome = (look st.h l').isSome := by
  intro l'; rw [cg]; split
  ·rename_i e; subst e; rw [hk]; rfl
  ·rfl
 refine ⟨h1.size, h1.defers, h1.below, h1.sub, h1.new, h1.known, fun t x hx => ?_, ?_, ?_, ?_, F.stab h.gh ⟨rfl, rfl, rfl, by simp, fun l' q hl hq => (hμ l' (by omega)).trans hq, fun l' h' => .inl (by rw [<- hisome l']; exact h'), fun b hb _ => Below.heap_alloc w _ b hb, fun b ⟨l', k', q, g1, g2, g3, g4⟩ => ?_, fun _ _ _ h => h, fun _ _ _ h => .inl h, h1.known⟩⟩
 ·rw [jv] at hx; cases hl : look st.env t with
  | none => rw [hl] at hx; cases hx
  | some y =>
   rw [hl] at hx; cases hx; dsimp only; split
   ·rename_i hy; exact V.free_rep hy hμ (h.env t y hl)
   ·trivial
 ·intro l' k' hk'; rw [cg] at hk'; by_cases e : l' = l
  ·subst e; rw [if_pos rfl, hk] at hk'; cases hk'; refine ⟨⟨w.heap.size, cap, k.sz⟩, by simp, rfl, by simpa using hlen, hmax, ?_, fun _ => ⟨.inl h.below.size, fun o u hc => absurd (h.known.lt hc) (Nat.lt_irrefl _), cur, T, by rw [fa]; exact heap_alloc_new w _, hsz, ?_⟩⟩
   ·intro r hr; obtain ⟨x, hx, rfl⟩ := List.mem_map.1 hr; simpa using hrow x hx
   ·intro i r hr' j x hx; obtain ⟨u, a1, a2, a3⟩ := hr i r hr' j x hx; refine ⟨u, a1, a2, ?_⟩; rw [List.getElem?_map] at hr'; cases hrow' : xs[i]? with
    | none => rw [hrow'] at hr'; cases hr'
    | some row =>
     rw [hrow'] at hr'; cases hr'; rw [List.getElem?_map] at hx; cases hd : row[j]? with
     | none => rw [hd] at hx; cases hx
     | some d => rw [hd] at hx; cases hx; exact a3
  ·rw [if_neg e] at hk'; obtain ⟨p', hp', hb'⟩ := h1.heap l' k' hk'; refine ⟨p', by simp only [if_neg e]; exact hp', hb'.sz, hb'.len, hb'.max, hb'.row, fun hc => ?_⟩; obtain ⟨c1, c2, cur2, T2, c3, c4, c5⟩ := hb'.cells hc; refine ⟨c1, c2, cur2, T2, c3, c4, fun i r hr' j x hx => ?_⟩; obtain ⟨u, a1, a2, a3⟩ := c5 i r hr' j x hx; exact ⟨u, a1, a2, V.free_rep (hfree l' k' e hk' r (List.mem_of_getElem? hr') x (List.mem_of_getElem? hx)) hμ a3⟩
 ·intro l1 l2 p1 p2 q1 q2 r1 r2 c1 c2 hb; rw [hisome] at q1 q2; by_cases e1 : l1 = l <;> by_cases e2 : l2 = l
  ·rw [e1, e2]
  ·simp only [if_pos e1, if_neg e2] at r1 r2; cases r1; have := hlt l2 p2 q2 r2 c2; simp at hb; omega
  ·simp only [if_neg e1, if_pos e2] at r1 r2; cases r2; have := hlt l1 p1 q1 r1 c1; simp at hb; omega
  ·simp only [if_neg e1, if_neg e2] at r1 r2; exact h.inj l1 l2 p1 p2 q1 q2 r1 r2 c1 c2 hb
 ·intro l' hl'; have : l' ≠ l := fun e => by rw [e, ] at hl'; rw [h.nx l hl'] at hp; cases hp
  simp only [if_neg this]; exact h.nx l' hl'
 ·by_cases e : l' = l
  ·subst e; simp only [if_true] at g2; cases g2; exact .inr (g4 ▸ Nat.le_refl _)
  ·rw [cg, if_neg e] at g1; exact .inl ⟨l', k', q, g1, (hμ l' e).symm.trans g2, g3, g4⟩
theorem SmL.appendOwn (hF : Env F P G N) (hN : St.small N st) (hE : ElemT P t e z size bytes) {s x : Operand} {d : Tmp} {sz' l n : Nat} {xs ys : zRz} {f : Bool} (hg : bP ops st.env o.guard = some true) (ho : o.op = .call ⟨.builtin .append, #[s, x], #[t, t]⟩) (hd : o.dst = some d) (hdN : d < N)
  (hs : evD G st.env s = some (.sref l 0 n)) (hl : look st.h l = some ⟨size, xs.map fun r => r.map V.d⟩) (hn : n = xs.length) (hx : evD G st.env x = some (.d (.list sz' ys f))) (hsz' : sz' = size \/ ys = []) (hfree : jM l st.h) (hb : (xs.length + ys.length) * bytes <= 140737488355328) (hb2 : xs.length + ys.length <= 140737488355328)
  (hlow : F.n0 <= l) (k : SmL F ops rest Q { st with env := (d, .sref l 0 (xs.length + ys.length)) :: dn l st.env, h := rep st.h l ⟨size, (xs ++ ys).map fun r => r.map V.d⟩ }) : SmL F ops (o :: rest) Q st := by
 intro μ C a w hsim; obtain ⟨rfl, rfl, hG⟩ := hF; obtain ⟨i0, hi, hz0, hz1, hz2⟩ := info_parts hE.info; subst hn; refine cb (fun _ => by rw [ho]; simp) fun K hK => ?_
 rw [bI hsim hg hN, if_pos rfl]; obtain ⟨p, ao, hp, e1, hcap, hao⟩ := bW hsim hG hs; have hxv := bW hsim hG hx; have hk := hsim.known; obtain ⟨p2, hp2, hB⟩ := hsim.heap l _ hl; rw [hp] at hp2; cases hp2; obtain ⟨bo, cap', us, e2, _, hul, huv, hux, hur⟩ := cM (P := F.P) hk hxv hsz'; have hdr : Below w.heap.size w w.drew := (Below.refl _ _).drew; have hpsz : p.sz = size := hB.sz; have hxl : ∀ x ∈ xs, x.length = size := by
  intro x hx; have := hB.row (x.map V.d) (List.mem_map.2 ⟨x, hx, rfl⟩); simpa using this
 rw [Nat.sub_zero, Nat.zero_add] at *; unfold Oper.wp; rw [gG ho, Sem.run_bind, e1, e2]; have hspos := hE.pos; by_cases hroom : xs.length + ys.length <= p.cap
 ·by_cases hc0 : p.cap = 0
  ·have hx0 : xs = [] := List.eq_nil_of_length_eq_zero (by omega); have hy0 : ys = [] := List.eq_nil_of_length_eq_zero (by omega); subst hx0; subst hy0; have hu0 : us = [] := List.eq_nil_of_length_eq_zero (by simpa using hul); subst hu0; have hrun := rl (P := F.P) hE.und i0 hi (w := w) (w' := w) ao 0 p.cap bo 0 cap' [] o.type (by
    have := hur w (Below.refl _ _); rw [e2] at this; rw [hz1]; exact this) (fun b _ => rfl) (fun _ => rfl) (by omega)
   simp only [List.length_nil] at hrun ⊢; rw [hrun, Result.andThen_ok]; show Oper.upon F.P o a K _ (.ok (.value _) w); rw [Oper.upon_value, hd]; refine hK _ _ (k μ C _ w ?_); have h2 := (hsim.kill l).put hdN (x := .sref l 0 0) (v := .slice ao 0 p.cap) ⟨p, ao, hp, rfl, by omega, fun h => (by omega)⟩; refine h2.less (fun t x h => h) (fun l' k' h => ?_) (Nat.le_refl _); rw [cg] at h; split at h
   ·rename_i e; subst e; rw [hl] at h; cases h; exact hl
   ·exact h
  ·have hcp : 0 < p.cap := by omega
   obtain rfl := hao hcp; obtain ⟨c1, c2, cur, T, c3, c4, c5⟩ := hB.cells hcp; rw [fa] at c3; have c3 := c3.cells; have hul' : us.length = ys.length * size := hul; have hfit : xs.length * size + us.length <= cur.size := by
    rw [hul', c4, hpsz, <- Nat.add_mul]; exact Nat.mul_le_mul_right _ hroom
   have hst := run_storeCells_at F.P p.b (xs.length * size) T us 0 cur w c3 (by simpa using hfit) (rb huv); have hrun := rl (P := F.P) hE.und i0 hi (w := w) (some ⟨p.b, 0 * p.sz, none⟩) xs.length p.cap bo ys.length cap' us o.type (by
    have := hur w (Below.refl _ _); rw [e2] at this; rw [hz1]; exact this) (fun b hb => by cases hb; rw [hz1, dJ, Nat.zero_mul, Nat.zero_add]; exact hst) (fun h => by cases h) hroom
   rw [hrun, Result.andThen_ok]; show Oper.upon F.P o a K _ (.ok (.value _) _); rw [Oper.upon_value, hd]; have hs2 := hsim.stored hl hp hcp (cur.toList.take (xs.length * size + 0) ++ us ++ cur.toList.drop (xs.length * size + 0 + us.length)).toArray ((xs ++ ys).map fun r => r.map V.d)
    (by
     intro r hr; obtain ⟨x, hx, rfl⟩ := List.mem_map.1 hr; rcases List.mem_append.1 hx with hx | hx
     ·simpa using hxl x hx
     ·simpa using hux x hx) (by simpa using hroom) (by simp; omega)
    (by
     have := Ax hxl hux c5 huv (by simp; omega) (cur.toList.drop (xs.length * size + 0 + us.length)); simpa using this) (fa _ _) (fa _ _)
   exact hK _ _ (k μ C _ _ ((hs2.kill l).put hdN ⟨p, _, hp, rfl, by omega, fun _ => rfl⟩))
 ·have hm : cap' = cap' := rfl; have hvs : ∃ vs : zLz, vs.length = xs.length * size /\ Rp C (.vals xs.flatten vs) /\ (Builtin.firstCells i0.size xs.length (.slice ao xs.length p.cap)).run F.P w.drew = .ok vs.toArray w.drew := by
   by_cases hc0 : p.cap = 0
   ·have hx0 : xs = [] := List.eq_nil_of_length_eq_zero (by omega); subst hx0; refine ⟨[], by simp, .vnil, ?_⟩; cases ao with
    | none => rfl
    | some b => simp [Builtin.firstCells, loadCells, loadCellsFrom]
   ·have hcp : 0 < p.cap := by omega
    obtain rfl := hao hcp; obtain ⟨c1, c2, cur, T, c3, c4, c5⟩ := hB.cells hcp; rw [fa] at c3; have c3 := c3.cells; have hle : xs.length * size <= cur.size := by rw [c4, hpsz]; exact Nat.mul_le_mul_right _ hcap
    refine ⟨cur.toList.take (xs.length * size), by simp; omega, ?_, ?_⟩
    ·exact vT hxl c5 (by simpa using hle)
    ·refine run_firstCells_some w.drew i0.size xs.length ⟨p.b, 0 * p.sz, none⟩ _ _ _ (by rw [hz1]; simp; omega) fun j u hj => ?_
     rw [dJ, Nat.zero_mul, Nat.zero_add]; have hjl : j < xs.length * size := by have := (List.getElem?_eq_some_iff.1 hj).1; rw [List.length_take] at this; omega
     rw [List.getElem?_take_of_lt hjl] at hj; show w.cell? _ = _; rw [cell_of_row w p.b j _ _ _ c3]; simpa using hj
  obtain ⟨vs, hvl, hvv, hvr⟩ := hvs; have hrun := ic (P := F.P) (w := w) hE.und i0 hi hz0 ao xs.length p.cap vs bo ys.length cap' us o.type hvr (by
   have := hur w.drew hdr; rw [e2] at this; rw [hz1]; exact this) (by omega) (by rw [hz2]; exact hb) hb2
  rw [hrun, Result.andThen_ok]; show Oper.upon F.P o a K _ (.ok (.value _) _); rw [Oper.upon_value, hd]; have hge := grownCap_ge w (xs.length + ys.length) p.cap e; have hg2 := hsim.drew.regrow hlow hl hp hfree (grownCap w (xs.length + ys.length) p.cap e) (vs.toArray ++ us.toArray ++ Builtin.zeroCells z.cells (grownCap w (xs.length + ys.length) p.cap e - (xs.length + ys.length))) e (xs ++ ys)
   (by
    intro x hx; rcases List.mem_append.1 hx with hx | hx
    ·exact hxl x hx
    ·exact hux x hx) (by simpa using hge) (grownCap_le_maxLen w _ _ e (by unfold maxLen; omega)) (qC _ _ size _ hE.zs _ _ (by rw [hvl, hul, Nat.add_mul]) hge)
   (by
    have := na (μ := μ) (C := C) (rows := xs ++ ys) (vs := vs ++ us) (size := size) (by intro x hx; rcases List.mem_append.1 hx with hx | hx; exact hxl x hx; exact hux x hx) (by rw [List.flatten_append]; exact ff hvv huv) (Builtin.zeroCells z.cells (grownCap w (xs.length + ys.length) p.cap e - (xs.length + ys.length))).toList; simpa using this)
  refine hK _ _ (k _ C _ _ (hg2.put hdN (v := .slice (some ⟨w.heap.size, 0, none⟩) (xs.length + ys.length) (grownCap w (xs.length + ys.length) p.cap e)) ?_)); exact ⟨⟨w.heap.size, grownCap w (xs.length + ys.length) p.cap e, size⟩, some ⟨w.heap.size, 0, none⟩, by simp, rfl, by simpa using hge, fun _ => by simp⟩
end
end
end Go.Proofs.YtaclinnjekdgoaaDoor
