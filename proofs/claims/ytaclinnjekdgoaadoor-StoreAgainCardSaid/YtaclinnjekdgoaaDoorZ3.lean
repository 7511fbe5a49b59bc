/-
  Lemmas, part 3 of 8: walks through the program's functions, and plain Lean about what they compute.
-/
import Derived.StillTail
import Derived.TacticsIn
import Derived.OwnWalkIn
import Derived.RangeFuncFrom
import Derived.RangeFuncNested
import Derived.RangeFuncBound
import Derived.RangeFuncCalls
import Derived.RangeFuncLeaves
import Derived.Shelf.Abstract
import Derived.Shelf.RegionOpen
import Derived.TacticsInMore
import Derived.LoopNIn
import Derived.LoopIn
import Derived.Test.YtaclinnjekdgoaaDoorRows
import Derived.WalkKit
import Derived.WalkSpells
import Derived.WalkLawsBesides
import Derived.BigQuiet
import Derived.Deep.QuietTactic
import Derived.Deep.RegionHeld3
import Derived.Deep.DeepCutAuto
import Derived.Deep.LoopGhost
import Derived.StillTailTactics
import Derived.Lib.Hide
import Derived.Handy
import Derived.Test.YtaclinnjekdgoaaDoorProg
import Derived.Test.YtaclinnjekdgoaaDoorZ1
import Derived.Test.YtaclinnjekdgoaaDoorZ2
set_option linter.unnecessarySimpa false
set_option linter.unusedSimpArgs false
set_option linter.unusedVariables false
set_option maxRecDepth 100000
namespace Go.Proofs.YtaclinnjekdgoaaDoor
open Go.RowKit
section
section
variable {P : Program} {G : zGz} {N : Nat} {F : Fr} {ops : Array Oper} {rest : zOz} {o : Oper} {Q : zQz} {st st' : St} {c : Code}
def St.to (F : Fr) (st st' : St) : Prop := ∀ μ C a w, Sim F st μ C a w -> ∃ μ' C', Sim F st' μ' C' a w
theorem Sm.to (h : St.to F st st') (s : Sm F c Q st') : Sm F c Q st := fun μ C a w hs => by
 obtain ⟨μ', C', h'⟩ := h μ C a w hs; exact s μ' C' a w h'
theorem SmL.to {l : zOz} (h : St.to F st st') (s : SmL F ops l Q st') : SmL F ops l Q st := fun μ C a w hs => by
 obtain ⟨μ', C', h'⟩ := h μ C a w hs; exact s μ' C' a w h'
theorem AV {t : Nat} {x y : V} (sz' : Nat) (h : look st.env t = some x) (hxy : ∀ μ C v, μ st.nx = some ⟨0, 0, sz'⟩ -> ax μ C x v -> ax μ C y v) : St.to F st ⟨(t, y) :: st.env, (st.nx, ⟨sz', []⟩) :: st.h, st.nx + 1⟩ := by
 intro μ C a w hs; have hμ : ∀ l p, μ l = some p -> (fun l => if l = st.nx then some (⟨0, 0, sz'⟩ : Place) else μ l) l = some p := by
  intro l p hp; have : l ≠ st.nx := fun e => by rw [hs.nx l (by omega)] at hp; cases hp
  simp [this, hp]
 have hold : ∀ l k, look st.h l = some k -> l ≠ st.nx := fun l k hk e => by
  obtain ⟨p, hp, _⟩ := hs.heap l k hk; rw [hs.nx l (by omega)] at hp; cases hp
 refine ⟨fun l => if l = st.nx then some ⟨0, 0, sz'⟩ else μ l, C, hs.size, hs.defers, hs.below, hs.sub, hs.new, hs.known, fun s x hx => ?_, ?_, ?_, ?_, F.stab hs.gh (nR hs _ ⟨0, 0, sz'⟩ (hs.nx _ (Nat.le_refl _)) hμ (by simp) (fun h => by simp at h) (fun l hl => by simp [hl]) (.refl hs.known))⟩
 ·simp only [look] at hx; split at hx
  ·rename_i e; subst e; cases hx; exact hxy _ _ _ (by simp) ((hs.env t _ h).mono hμ (fun _ _ _ h => h))
  ·exact (hs.env s x hx).mono hμ (fun _ _ _ h => h)
 ·intro l k hk; simp only [look] at hk; by_cases hl : st.nx = l
  ·subst hl; rw [if_pos rfl] at hk; cases hk; exact ⟨⟨0, 0, sz'⟩, by simp, rfl, by simp, by simp, by simp, fun h => by simp at h⟩
  ·rw [if_neg hl] at hk; obtain ⟨p, hp, hb⟩ := hs.heap l k hk; refine ⟨p, hμ l p hp, hb.sz, hb.len, hb.max, hb.row, fun hc => ?_⟩; obtain ⟨a1, a2, cur', T', a3, a4, a5⟩ := hb.cells hc; exact ⟨a1, a2, cur', T', a3, a4, a5.mono hμ (fun _ _ _ h => h)⟩
 ·intro l l' p p' hl hl' hp hp' hc hc' hb; simp only [look] at hl hl'; by_cases e : l = st.nx
  ·simp only [if_pos e] at hp; cases hp; simp at hc
  ·by_cases e' : l' = st.nx
   ·simp only [if_pos e'] at hp'; cases hp'; simp at hc'
   ·rw [if_neg (Ne.symm e)] at hl; rw [if_neg (Ne.symm e')] at hl'; simp only [if_neg e, if_neg e'] at hp hp'; exact hs.inj l l' p p' hl hl' hp hp' hc hc' hb
 ·intro l hl; have hl' : st.nx + 1 <= l := hl; have : l ≠ st.nx := by omega
  simp only [if_neg this]; exact hs.nx l (by omega)
theorem xG {μ : zMz} {C : aw} {m sz sz' : Nat} {v : Value} (hμ : μ m = some ⟨0, 0, sz'⟩) (hv : Rep C (.list sz [] true) v) : ax μ C (.sref m 0 0) v := by
 obtain ⟨ao, cap, e1, hcb, _⟩ := Rep.elem hv; have := hcb.full rfl; simp only [List.length_nil] at this e1; subst this; exact ⟨⟨0, 0, sz'⟩, ao, hμ, by simpa using e1, by simp, fun h => (by simp at h)⟩
theorem nZ {t sz : Nat} (sz' : Nat) (h : look st.env t = some (.d (.list sz [] true))) : St.to F st ⟨(t, .sref st.nx 0 0) :: st.env, (st.nx, ⟨sz', []⟩) :: st.h, st.nx + 1⟩ :=
 AV sz' h fun _ _ _ hμ hv => xG hμ hv
theorem kO (r : List D) : ft 1 r.length r = r.map fun d => [d] := by
 induction r with
 | nil => rfl
 | cons d r ih => simp [ft, ih]
def bf (l sz : Nat) (rows : zRz) : V -> V
 | .sref l' lo len => if l' = l then (if lo + len <= rows.length then .d (.list sz (if lo = 0 /\ len = rows.length then rows else (rows.drop lo).take len) false) else .any) else .sref l' lo len
 | .ref l' i off => if l' = l then (match rows[i]? with | some r => if off <= sz then .d (.ptr (sz - off) (r.drop off)) else .any | none => .any) else .ref l' i off
 | .aref l' i off es len cap => if l' = l then (match rows[i]? with | some r => if off + len * es <= sz then .d (.list es (if es = 1 /\ len = sz then r.map fun d => [d] else ft es len (r.drop off)) false) else .any | none => .any) else .aref l' i off es len cap
 | .mix tup l' n rest => if l' = l then (if n = rows.length then .d (if tup then .tup (.list sz rows false :: rest) else .agg (rest.length + 1) (.list sz rows false :: rest)) else .any) else .mix tup l' n rest
 | x => x
def cR (l sz : Nat) (rows : zRz) : zEz -> zEz
 | [] => []
 | (t, x) :: r => (t, bf l sz rows x) :: cR l sz rows r
theorem ju (l sz : Nat) (rows : zRz) : ∀ (env : zEz) (t : Nat), look (cR l sz rows env) t = (look env t).map (bf l sz rows)
 | [], _ => rfl
 | (k, x) :: r, t => by
  simp only [cR, look]; split
  ·rfl
  ·exact ju l sz rows r t
def bL (l : Nat) : zHz -> zHz
 | [] => []
 | (k, x) :: r => if k = l then bL l r else (k, x) :: bL l r
theorem dM (l : Nat) : ∀ (h : zHz) (j : Nat), look (bL l h) j = if j = l then none else look h j
 | [], j => by simp [bL, look]
 | (k, x) :: r, j => by
  simp only [bL]; split
  ·rename_i hk; subst hk; rw [dM k r j]; split
   ·rfl
   ·rename_i hj; simp only [look, if_neg (Ne.symm hj)]
  ·rename_i hk; simp only [look]; rw [dM l r j]; split
   ·rename_i hj; subst hj; rw [if_neg hk]
   ·rfl
def cA (g : V -> V) (k : Blk) : Blk := ⟨k.sz, k.rows.map fun r => r.map g⟩
def dt (g : V -> V) : zHz -> zHz
 | [] => []
 | (l, k) :: r => (l, cA g k) :: dt g r
theorem cT (g : V -> V) : ∀ (h : zHz) (l : Nat), look (dt g h) l = (look h l).map (cA g)
 | [], _ => rfl
 | (k, x) :: r, l => by
  simp only [dt, look]; split
  ·rfl
  ·exact cT g r l
def pH (g : V -> V) : Prop := (∀ ks ds, g (.mp ks ds) = .mp ks ds) /\ ∀ x ks ds, g x = .mp ks ds -> x = .mp ks ds
theorem lu {g : V -> V} (hg : pH g) (k : Blk) : (cA g k).isMap = k.isMap := by
 obtain ⟨sz, rows⟩ := k; by_cases h : ∃ ks ds, rows = [[.mp ks ds]]
 ·obtain ⟨ks, ds, rfl⟩ := h; show Blk.isMap ⟨sz, [[g (.mp ks ds)]]⟩ = true; rw [hg.1]; rfl
 ·rw [fp (k := ⟨sz, rows⟩) fun ks ds e => h ⟨ks, ds, e⟩]; refine fp fun ks ds e => h ?_
  have e : (rows.map fun r => r.map g) = [[.mp ks ds]] := e
  match rows, e with
  | [[x]], e =>
   have e : [[g x]] = [[V.mp ks ds]] := e; have e : g x = .mp ks ds := by simpa using e
   exact ⟨ks, ds, by rw [hg.2 x ks ds e]⟩
  | [[]], e => cases e
  | [x :: y :: r], e => simp at e
  | [], e => cases e
  | _ :: _ :: _, e => simp at e
theorem Fm : pH fun x => x := ⟨fun _ _ => rfl, fun _ _ _ h => h⟩
theorem Af {g : V -> V} {k : Blk} (h : ∀ r ∈ k.rows, r.length = k.sz) : ∀ r ∈ (cA g k).rows, r.length = (cA g k).sz := by
 intro r hr; obtain ⟨r', hr', rfl⟩ := List.mem_map.1 hr; simpa [cA] using h r' hr'
theorem gO.map {μ : zMz} {C C' : aw} {sz : Nat} {rows : List (List V)} {cur : zLz} {g : V -> V} (h : gO μ C sz rows cur) (hg : ∀ x v, ax μ C x v -> ax μ C' (g x) v) : gO μ C' sz (rows.map fun r => r.map g) cur := by
 intro i r hr j x hx; simp only [List.getElem?_map, Option.map_eq_some_iff] at hr; obtain ⟨r', hr', rfl⟩ := hr; simp only [List.getElem?_map, Option.map_eq_some_iff] at hx; obtain ⟨x', hx', rfl⟩ := hx; obtain ⟨u, h1, h2, h3⟩ := h i r' hr' j x' hx'; exact ⟨u, h1, h2, hg _ _ h3⟩
abbrev hO (l sz : Nat) (rows : zRz) (h : zHz) : zHz := dt (bf l sz rows) h
theorem wJ {l : Nat} {k : Blk} {rows : zRz} {μ : zMz} {C C' : aw} {mine : Nat -> Prop} {w : World} {p : Place} (hp : μ l = some p) (hb : BlkOk mine μ C w p k) (hrow : ∀ x ∈ rows, x.length = k.sz) (hlen : rows.length <= p.cap) (k1 : ∀ b o u, C b o u -> C' b o u)
  (k4 : 0 < p.cap -> ∀ (i : Nat) (r : List D), rows[i]? = some r -> Rp C' (.mem r p.b (i * p.sz))) {y : V} {v : Value} (hy : ax μ C y v) : ax μ C' (bf l k.sz rows y) v := by
 have same : ax μ C' y v := hy.mono (fun _ _ h => h) k1; cases y with
 | d x => exact same
 | any => trivial
 | gh m => exact same
 | mp => exact same
 | omap => exact same
 | clo => exact same
 | agr => exact same
 | sref l' lo len =>
  simp only [bf]; split
  ·rename_i e; subst e; obtain ⟨p2, ao, h1, h2, h3, h4⟩ := hy; rw [hp] at h1; cases h1; rw [h2]; split
   ·rename_i hfit; have hsame : (if lo = 0 /\ len = rows.length then rows else (rows.drop lo).take len) = (rows.drop lo).take len := by
     split
     ·rename_i e; obtain ⟨rfl, rfl⟩ := e; simp
     ·rfl
    rw [hsame]; by_cases hlen0 : len = 0
    ·subst hlen0; exact .nil _ _ _ _ ⟨Nat.zero_le _, by simp, by have := hb.max; omega, fun hn => (by
      rcases Nat.lt_or_ge lo p.cap with hlt | hge
      ·rw [h4 hlt] at hn; cases hn
      ·omega), fun x hx hpos => by
       rw [h4 (by omega)] at hx; cases hx; rfl⟩
    ·obtain rfl := h4 (by omega); have hrr : Rp C' (.rows ((rows.drop lo).take len) p.b (lo * p.sz) k.sz) := by
      refine kV fun i x hi => ?_
      have hin : i < len := by have := (List.getElem?_eq_some_iff.1 hi).1; rw [List.length_take] at this; omega
      rw [List.getElem?_take_of_lt hin, List.getElem?_drop] at hi; refine ⟨hrow x (List.mem_of_getElem? hi), ?_⟩; have := k4 (by omega) _ _ hi; rw [Nat.add_mul, hb.sz] at this; rw [hb.sz]; exact this
     have hll : ((rows.drop lo).take len).length = len := by simp; omega
     have := Rp.list (C := C') k.sz ((rows.drop lo).take len) false p.b (lo * p.sz) (p.cap - lo) (by intro e; rw [e] at hll; simp at hll; omega) ⟨by omega, by simp, by have := hb.max; omega, fun h => (by cases h), fun x h _ => by cases h; rfl⟩ hrr; rw [hll] at this; exact this
   ·trivial
  ·exact same
 | ref l' i off =>
  simp only [bf]; split
  ·rename_i e; subst e; obtain ⟨p2, h1, h2, h3⟩ := hy; rw [hp] at h1; cases h1; split
   ·rename_i r hri; split
    ·rename_i hoff; rw [h3]; exact .ptr _ _ _ _ (by rw [List.length_drop, hrow r (List.mem_of_getElem? hri)]) (lY (k4 h2 i r hri) off)
    ·trivial
   ·trivial
  ·exact same
 | aref l' i off es len cap =>
  simp only [bf]; split
  ·rename_i e; subst e; obtain ⟨p2, ao, h1, h2, h3, h4, hm, h5⟩ := hy; rw [hp] at h1; cases h1; split
   ·rename_i r hri; have hrl := hrow r (List.mem_of_getElem? hri); split
    ·rename_i hoff; rw [h3]; have hch : (if es = 1 /\ len = k.sz then r.map fun d => [d] else ft es len (r.drop off)) = ft es len (r.drop off) := by
      split
      ·rename_i e; obtain ⟨rfl, rfl⟩ := e; have : off = 0 := by omega
       subst this; rw [List.drop_zero, <- hrl, kO]
      ·rfl
     rw [hch]; obtain ⟨g1, g2⟩ := uQ (es := es) len (r := r.drop off) (by simp; omega) (lY (k4 h2 i r hri) off); by_cases hl0 : len = 0
     ·subst hl0; exact .nil _ _ _ _ ⟨Nat.zero_le _, by simp, hm, fun hn => (by cases hn), fun x h hpos => by cases h; rw [h5 hpos]⟩
     ·obtain rfl := h5 (by omega); have := Rp.list (C := C') es (ft es len (r.drop off)) false p.b (i * p.sz + off) cap (by intro e; rw [e] at g2; simp at g2; omega) ⟨by omega, by simp, hm, fun h => (by cases h), fun x h _ => by cases h; rfl⟩ g1; rw [g2] at this; exact this
    ·trivial
   ·trivial
  ·exact same
 | mix tup l' n rest =>
  simp only [bf]; split
  ·rename_i e; subst e; obtain ⟨p2, ao, us, h1, h2, h3, h4⟩ := hy; rw [hp] at h1; cases h1; split
   ·rename_i hn; subst hn; have hone : Rep C' (.list k.sz rows false) (.slice ao rows.length p.cap) := by
     by_cases hr0 : rows = []
     ·subst hr0; refine .nil _ _ _ _ ⟨Nat.zero_le _, by simp, hb.max, fun hn => ?_, fun x hx hpos => ?_⟩
      ·rcases Nat.eq_zero_or_pos p.cap with h0 | h0
       ·exact h0
       ·rw [h3 h0] at hn; cases hn
      ·rw [h3 hpos] at hx; cases hx; rfl
     ·have hpos : 0 < rows.length := List.length_pos_iff.2 hr0; obtain rfl := h3 (by omega); refine .list _ _ _ _ _ _ hr0 ⟨h2, by simp, hb.max, fun h => (by cases h), fun x h _ => by cases h; rfl⟩ (kV fun i x hi => ?_); refine ⟨hrow x (List.mem_of_getElem? hi), ?_⟩; rw [Nat.zero_add, <- hb.sz]; exact k4 (by omega) i x hi
    cases tup with
    | true =>
     rw [if_pos rfl] at h4; obtain ⟨g1, g3⟩ := h4; rw [g3]; exact Rp.tup _ _ (.ocons _ _ _ _ hone (Rp.mono k1 g1))
    | false =>
     rw [if_neg (by simp)] at h4; obtain ⟨g1, g3⟩ := h4; rw [g3]; exact Rp.agg _ _ _ (by simp) (.vcons _ _ _ _ rfl hone (Rp.mono k1 g1))
   ·trivial
  ·exact same
theorem vC (l sz : Nat) (rows : zRz) : pH (bf l sz rows) := by
 refine ⟨fun _ _ => rfl, fun x ks ds h => ?_⟩; cases x with
 | mp => exact h
 | _ => unfold bf at h; (repeat' split at h) <;> first | cases h | exact h
theorem rg {l : Nat} {k : Blk} (rows : zRz) (g : V -> V) (hg : g = (fun x => x) \/ g = bf l k.sz rows) (hk : look st.h l = some k) (hr : k.rows = rows.map fun r => r.map V.d) : St.to F st ⟨cR l k.sz rows st.env, dt g (bL l st.h), st.nx⟩ := by
 intro μ C a w hs; obtain ⟨p, hp, hb⟩ := hs.heap l k hk; have hrow : ∀ x ∈ rows, x.length = k.sz := by
  intro x hx; have := hb.row (x.map V.d) (by rw [hr]; exact List.mem_map.2 ⟨x, hx, rfl⟩); simpa using this
 have hlen : rows.length <= p.cap := by have := hb.len; rw [hr] at this; simpa using this
 have key : ∃ C', (∀ b o u, C b o u -> C' b o u) /\ (∀ b o u, C' b o u -> C b o u \/ (0 < p.cap /\ b = p.b)) /\ bG C' w /\ (0 < p.cap -> ∀ (i : Nat) (r : List D), rows[i]? = some r -> Rp C' (.mem r p.b (i * p.sz))) := by
  by_cases hc : 0 < p.cap
  ·obtain ⟨b1, b2, cur, T, b3, b4, b5⟩ := hb.cells hc; have hkm : k.isMap = false := by
    have := fa k.sz rows; rw [<- hr] at this; exact this
   rw [hkm] at b3; have b3 := b3.cells; refine ⟨lc C p.b cur, fun _ _ _ h => .inl h, fun b o u h => h.imp id (fun h => ⟨hc, h.1⟩), fun b o u h => ?_, fun _ i r hi => ?_⟩
   ·rcases h with h | ⟨rfl, h⟩
    ·exact hs.known b o u h
    ·left; rw [cell_of_row w p.b o _ _ _ b3]; exact h
   ·refine ia fun j d hj => ?_
    have h1 : k.rows[i]? = some (r.map V.d) := by rw [hr]; simp [hi]
    obtain ⟨u, a1, a2, a3⟩ := b5 i _ h1 j (.d d) (by simp [hj]); exact ⟨u, .inr ⟨rfl, by rw [hb.sz]; simpa using a1⟩, a2, Rp.mono (fun _ _ _ h => .inl h) a3⟩
  ·exact ⟨C, fun _ _ _ h => h, fun _ _ _ h => .inl h, hs.known, fun h => absurd h hc⟩
 obtain ⟨C', k1, k2, k3, k4⟩ := key; have hgk : pH g := by rcases hg with rfl | rfl <;> first | exact Fm | exact vC _ _ _
 have hother : ∀ l' k', l' ≠ l -> look st.h l' = some k' -> ∃ p', μ l' = some p' /\ BlkOk F.mine μ C' w p' (cA g k') := by
  intro l' k' hne hk'; obtain ⟨p', hp', hb'⟩ := hs.heap l' k' hk'; refine ⟨p', hp', hb'.sz, by simpa [cA] using hb'.len, hb'.max, Af hb'.row, fun hc => ?_⟩; obtain ⟨c1, c2, cur2, T2, c3, c4, c5⟩ := hb'.cells hc; rw [<- lu hgk k'] at c3; refine ⟨c1, fun o u hcu => ?_, cur2, T2, c3, c4, c5.map fun x v hx => by
   rcases hg with rfl | rfl
   ·exact hx.mono (fun _ _ h => h) k1
   ·exact wJ hp hb hrow hlen k1 k4 hx⟩
  rcases k2 _ _ _ hcu with h | ⟨hc2, hbb⟩
  ·exact c2 o u h
  ·exact hne (hs.inj l' l p' p (by rw [hk']; rfl) (by rw [hk]; rfl) hp' hp hc hc2 hbb)
 refine ⟨μ, C', hs.size, hs.defers, hs.below, fun b o u h => k1 _ _ _ (hs.sub _ _ _ h), fun b o u h => ?_, k3, fun t x hx => ?_, fun l' k' hk' => ?_, fun l1 l2 p1 p2 h1 h2 => ?_, hs.nx, F.stab hs.gh ⟨rfl, rfl, rfl, Nat.le_refl _, fun _ _ _ h => h, fun j hj => .inl (by simp only [cT, dM, Option.isSome_map] at hj; split at hj <;> first | cases hj | exact hj), fun _ _ _ => rfl, fun b ⟨l', k', q, g1, g2⟩ => .inl (by
  rw [cT, dM] at g1; split at g1
  ·cases g1
  ·simp only [Option.map_eq_some_iff] at g1; obtain ⟨k2, g1, _⟩ := g1; exact ⟨l', k2, q, g1, g2⟩), k1, fun b o u h => (k2 _ _ _ h).imp id fun ⟨hc, hb⟩ => .inl ⟨l, k, p, hk, hp, hc, hb.symm⟩, k3⟩⟩
 ·rcases k2 _ _ _ h with h | ⟨hc, rfl⟩
  ·exact hs.new _ _ _ h
  ·exact .inr (hb.cells hc).1
 ·rw [ju] at hx; cases hl : look st.env t with
  | none => rw [hl] at hx; cases hx
  | some y =>
   rw [hl] at hx; cases hx; have hy := hs.env t y hl; exact wJ hp hb hrow hlen k1 k4 hy
 ·rw [cT, dM] at hk'; split at hk'
  ·cases hk'
  ·rename_i hne; simp only [Option.map_eq_some_iff] at hk'; obtain ⟨k2, hk2, rfl⟩ := hk'; exact hother l' k2 hne hk2
 ·simp only [cT, dM, Option.isSome_map] at h1 h2; split at h1
  ·cases h1
  ·split at h2
   ·cases h2
   ·exact hs.inj l1 l2 p1 p2 h1 h2
theorem Ch : ∀ (h : zHz), dt (fun x => x) h = h
 | [] => rfl
 | (l, k) :: r => by simp [dt, cA, Ch r]
theorem nv {l : Nat} {k : Blk} (rows : zRz) (hk : look st.h l = some k) (hr : k.rows = rows.map fun r => r.map V.d) : St.to F st ⟨cR l k.sz rows st.env, bL l st.h, st.nx⟩ := by
 have := rg (F := F) rows (fun x => x) (.inl rfl) hk hr; rwa [Ch] at this
theorem fD {l : Nat} {k : Blk} (rows : zRz) (hk : look st.h l = some k) (hr : k.rows = rows.map fun r => r.map V.d) : St.to F st ⟨cR l k.sz rows st.env, hO l k.sz rows (bL l st.h), st.nx⟩ := rg rows _ (.inr rfl) hk hr
def cH (l : Nat) (x : V) : V := if x.free l then x else .any
theorem pi (m : Nat) : pH (cH m) := ⟨fun _ _ => rfl, fun x ks ds h => by
 unfold cH at h; split at h
 ·exact h
 ·cases h⟩
theorem oW (m : Nat) : St.to F st ⟨st.env, dt (cH m) st.h, st.nx⟩ := by
 intro μ C a w hs; have hlook : ∀ l k, look (dt (cH m) st.h) l = some k -> ∃ k', look st.h l = some k' /\ k = cA (cH m) k' := fun l k hk => by
  rw [cT] at hk; simp only [Option.map_eq_some_iff] at hk; obtain ⟨k', h1, rfl⟩ := hk; exact ⟨k', h1, rfl⟩
 refine ⟨μ, C, hs.size, hs.defers, hs.below, hs.sub, hs.new, hs.known, hs.env, fun l k hk => ?_, fun l1 l2 p1 p2 h1 h2 => ?_, hs.nx, F.stab hs.gh ⟨rfl, rfl, rfl, Nat.le_refl _, fun _ _ _ h => h, fun l hl => .inl (by simpa [cT] using hl), fun _ _ _ => rfl, fun b ⟨l, k, p, h1, h2⟩ => .inl (by obtain ⟨k', h3, _⟩ := hlook l k h1; exact ⟨l, k', p, h3, h2⟩), fun _ _ _ h => h, fun _ _ _ h => .inl h, hs.known⟩⟩
 ·obtain ⟨k', hk', rfl⟩ := hlook l k hk; obtain ⟨p, hp, hb⟩ := hs.heap l k' hk'; refine ⟨p, hp, hb.sz, by simpa [cA] using hb.len, hb.max, Af hb.row, fun hc => ?_⟩; obtain ⟨c1, c2, cur, T, c3, c4, c5⟩ := hb.cells hc; rw [<- lu (pi m) k'] at c3; refine ⟨c1, c2, cur, T, c3, c4, c5.map fun x v hx => ?_⟩; unfold cH; split
  ·exact hx
  ·trivial
 ·simp only [cT, Option.isSome_map] at h1 h2; exact hs.inj l1 l2 p1 p2 h1 h2
theorem vg (m : Nat) (h : zHz) : jM m (dt (cH m) h) := by
 intro l k _ hk r hr x hx; rw [cT] at hk; simp only [Option.map_eq_some_iff] at hk; obtain ⟨k', _, rfl⟩ := hk; obtain ⟨r', _, rfl⟩ := List.mem_map.1 hr; obtain ⟨x', _, rfl⟩ := List.mem_map.1 hx; unfold cH; split
 ·assumption
 ·rfl
theorem yp {m i j sz : Nat} (sz' : Nat) {k : Blk} {r : List V} (hk : look st.h m = some k) (hr : k.rows[i]? = some r) (hj : r[j]? = some (.d (.list sz [] true))) :
  St.to F st ⟨st.env, (st.nx, ⟨sz', []⟩) :: rep st.h m ⟨k.sz, k.rows.set i (r.set j (.sref st.nx 0 0))⟩, st.nx + 1⟩ := by
 intro μ C a w hs; have hμ : ∀ l p, μ l = some p -> (fun l => if l = st.nx then some (⟨0, 0, sz'⟩ : Place) else μ l) l = some p := by
  intro l p hp; have : l ≠ st.nx := fun e => by rw [hs.nx l (by omega)] at hp; cases hp
  simp [this, hp]
 have hisome : ∀ l, (look (rep st.h m ⟨k.sz, k.rows.set i (r.set j (.sref st.nx 0 0))⟩) l).isSome = (look st.h l).isSome := fun l => by
  rw [cg]; split
  ·rename_i e; subst e; rw [hk]; rfl
  ·rfl
 have hfree := hs.nx st.nx (Nat.le_refl _); have hmn : m ≠ st.nx := fun e => by
  obtain ⟨p, hp, _⟩ := hs.heap m k hk; rw [e, hfree] at hp; cases hp
 refine ⟨fun l => if l = st.nx then some ⟨0, 0, sz'⟩ else μ l, C, hs.size, hs.defers, hs.below, hs.sub, hs.new, hs.known, fun s x hx => (hs.env s x hx).mono hμ (fun _ _ _ h => h), ?_, ?_, ?_, ?_⟩
 ·intro l k2 hk2; simp only [look] at hk2; by_cases hl : st.nx = l
  ·subst hl; rw [if_pos rfl] at hk2; cases hk2; exact ⟨⟨0, 0, sz'⟩, by simp, rfl, by simp, by simp, by simp, fun h => by simp at h⟩
  ·rw [if_neg hl, cg] at hk2; split at hk2
   ·rename_i e; subst e; rw [hk] at hk2; cases hk2; obtain ⟨p, hp, hb⟩ := hs.heap l k hk; refine ⟨p, hμ l p hp, hb.sz, by simpa using hb.len, hb.max, fun x hx => ?_, fun hc => ?_⟩
    ·rcases List.mem_or_eq_of_mem_set hx with hx | rfl
     ·exact hb.row x hx
     ·rw [List.length_set]; exact hb.row r (List.mem_of_getElem? hr)
    ·obtain ⟨a1, a2, cur', T', a3, a4, a5⟩ := hb.cells hc; have e1 : k.isMap = false := fp fun ks ds e => by
      rw [e] at hr; cases i with
      | zero =>
       simp at hr; subst hr; cases j with
       | zero => simp at hj
       | succ j => simp at hj
      | succ i => simp at hr
     have e2 : Blk.isMap ⟨k.sz, k.rows.set i (r.set j (.sref st.nx 0 0))⟩ = false := fp fun ks ds e => by
      have h1 : (k.rows.set i (r.set j (.sref st.nx 0 0)))[i]? = some (r.set j (.sref st.nx 0 0)) := by
       rw [List.getElem?_set, if_pos rfl, if_pos (List.getElem?_eq_some_iff.1 hr).1]
      have h2 : (r.set j (.sref st.nx 0 0))[j]? = some (.sref st.nx 0 0) := by
       rw [List.getElem?_set, if_pos rfl, if_pos (List.getElem?_eq_some_iff.1 hj).1]
      have e : k.rows.set i (r.set j (.sref st.nx 0 0)) = [[.mp ks ds]] := e; rw [e] at h1; cases i with
      | zero =>
       simp only [List.getElem?_cons_zero, Option.some.injEq] at h1; rw [<- h1] at h2; cases j with
       | zero => simp at h2
       | succ j => simp at h2
      | succ i => simp at h1
     rw [e1] at a3; refine ⟨a1, a2, cur', T', by rw [e2]; exact a3, a4, fun i' r' hr' j' x hx => ?_⟩; rw [List.getElem?_set] at hr'; split at hr'
     ·rename_i ei; subst ei; split at hr'
      ·cases hr'; rw [List.getElem?_set] at hx; split at hx
       ·rename_i ej; subst ej; split at hx
        ·cases hx; obtain ⟨u, u1, u2, u3⟩ := a5 i r hr j _ hj; exact ⟨u, u1, u2, xG (sz' := sz') (by simp) u3⟩
        ·cases hx
       ·obtain ⟨u, u1, u2, u3⟩ := a5 i r hr j' x hx; exact ⟨u, u1, u2, u3.mono hμ (fun _ _ _ h => h)⟩
      ·cases hr'
     ·obtain ⟨u, u1, u2, u3⟩ := a5 i' r' hr' j' x hx; exact ⟨u, u1, u2, u3.mono hμ (fun _ _ _ h => h)⟩
   ·obtain ⟨p, hp, hb⟩ := hs.heap l k2 hk2; refine ⟨p, hμ l p hp, hb.sz, hb.len, hb.max, hb.row, fun hc => ?_⟩; obtain ⟨a1, a2, cur', T', a3, a4, a5⟩ := hb.cells hc; exact ⟨a1, a2, cur', T', a3, a4, a5.mono hμ (fun _ _ _ h => h)⟩
 ·intro l l' p p' hl hl' hp hp' hc hc' hb; simp only [look] at hl hl'; by_cases e : l = st.nx
  ·simp only [if_pos e] at hp; cases hp; simp at hc
  ·by_cases e' : l' = st.nx
   ·simp only [if_pos e'] at hp'; cases hp'; simp at hc'
   ·rw [if_neg (Ne.symm e), hisome] at hl; rw [if_neg (Ne.symm e'), hisome] at hl'; simp only [if_neg e, if_neg e'] at hp hp'; exact hs.inj l l' p p' hl hl' hp hp' hc hc' hb
 ·intro l hl; have hl' : st.nx + 1 <= l := hl; have : l ≠ st.nx := by omega
  simp only [if_neg this]; exact hs.nx l (by omega)
 ·refine F.stab hs.gh ⟨rfl, rfl, rfl, Nat.le_refl _, fun l p _ hp => hμ l p hp, fun l hl => ?_, fun _ _ _ => rfl, fun b ⟨l, k2, p, h1, h2, h3, h4⟩ => ?_, fun _ _ _ h => h, fun _ _ _ h => .inl h, hs.known⟩
  ·simp only [look] at hl; by_cases e : st.nx = l
   ·subst e; exact .inr hfree
   ·rw [if_neg e, hisome] at hl; exact .inl hl
  ·simp only [look] at h1; by_cases e : st.nx = l
   ·subst e; simp at h2; subst h2; simp at h3
   ·rw [if_neg e] at h1; simp only [if_neg (Ne.symm e)] at h2; obtain ⟨k3, hk3⟩ := Option.isSome_iff_exists.1 ((hisome l).symm.trans (by rw [h1]; rfl)); exact .inl ⟨l, k3, p, hk3, h2, h3, h4⟩
end
end
section
section
variable {P : Program} {ops : Array Oper} {a0 : Act} {w0 : World} {Q : Exit -> Act -> World -> Prop} {G : Nat -> (Nat -> Value) -> World -> Prop} {E : World -> World -> Prop}
def bi (size n : Nat) : Array Bool := ((List.range size).map fun i => decide (i < n)).toArray
theorem yE {listed : Array Bool} {size n : Nat} (hs : listed.size = size) (h1 : ∀ j, j < n -> j < size -> listed.getD j false = true) (h2 : ∀ t, n <= t -> t < size -> listed.getD t true = false) : listed = bi size n := by
 apply Array.ext (by simp [bi, hs]); intro i hi1 hi2; simp only [bi, List.getElem_toArray, List.getElem_map, List.getElem_range]; by_cases h : i < n
 ·have := h1 i h (by omega); simp [hi1] at this; simp [h, this]
 ·have := h2 i (by omega) (by omega); simp [hi1] at this; simp [h, this]
end
end
section
def od (l : zOz) : Bool := l.zipIdx.all fun (o, i) => o.after.all fun e => !Region.binds .any e || decide (e.on < i)
def pI (o : Oper) : Bool := match o.op with
 | .defer _ => false
 | _ => true
theorem Fy {o : Oper} (h : pI o = true) : ∀ c, o.op ≠ .defer c := fun c e => by simp [pI, e] at h
def wq (acc : List Nat) (o : Oper) : Nat := o.after.toList.foldl (fun m e => if Region.binds .any e then (m ||| 2 ^ e.on) ||| acc.getD e.on 0 else m) 0
def ld : List Oper -> List Nat -> List Nat
 | [], acc => acc
 | o :: r, acc => ld r (acc ++ [wq acc o])
def pZ (l : zOz) (n : Nat) : Bool := ((ld l []).drop n).all fun m => Nat.beq (m % 2 ^ n) (2 ^ n - 1)
def EE (l : zOz) (n : Nat) : Bool := ((ld l []).zipIdx.drop n).all fun m => Nat.beq (m.1 % 2 ^ m.2) (2 ^ m.2 - 1)
def vj (l : zOz) (n : Nat) : Bool := l.all pI && od l && decide (n <= l.length) && EE l n
theorem AY {acc : List Nat} {o : Oper} {i : Nat} (h : (wq acc o).testBit i = true) : ∃ e ∈ o.after, Region.binds .any e = true /\ (e.on = i \/ (acc.getD e.on 0).testBit i = true) := by
 have key : ∀ (es : List Edge) (m0 : Nat), (es.foldl (fun m e => if Region.binds .any e then (m ||| 2 ^ e.on) ||| acc.getD e.on 0 else m) m0).testBit i = true -> m0.testBit i = true \/ ∃ e ∈ es, Region.binds .any e = true /\ (e.on = i \/ (acc.getD e.on 0).testBit i = true) := by
  intro es
  induction es with
  | nil => intro m0 h; exact .inl h
  | cons e es ih =>
   intro m0 h; rcases ih _ h with h | ⟨e', he, h⟩
   ·simp only at h; split at h
    ·rename_i hb; rw [Nat.testBit_or, Nat.testBit_or, Bool.or_eq_true, Bool.or_eq_true] at h; rcases h with (h | h) | h
     ·exact .inl h
     ·rw [Nat.testBit_two_pow] at h; exact .inr ⟨e, by simp, hb, .inl (of_decide_eq_true h)⟩
     ·exact .inr ⟨e, by simp, hb, .inr h⟩
    ·exact .inl h
   ·exact .inr ⟨e', by simp [he], h⟩
 rcases key _ _ h with h | ⟨e, he, h⟩
 ·simp at h
 ·exact ⟨e, by simpa using he, h⟩
section
variable {l : zOz} {L : Nat -> Prop}
theorem Kq (hcl : ∀ (j : Nat) (oj : Oper), l[j]? = some oj -> L j -> ∀ e ∈ oj.after, Region.binds .any e = true -> L e.on) : ∀ (r pre : zOz) (acc : List Nat), l = pre ++ r -> acc.length = pre.length ->
  (∀ (t m : Nat), acc[t]? = some m -> ∀ i, m.testBit i = true -> (∀ o, l[t]? = some o -> ∀ e ∈ o.after, Region.binds .any e = true -> L e.on) -> L i) ->
  (ld r acc).length = l.length /\ ∀ (t m : Nat), (ld r acc)[t]? = some m -> ∀ i, m.testBit i = true -> (∀ o, l[t]? = some o -> ∀ e ∈ o.after, Region.binds .any e = true -> L e.on) -> L i := by
 intro r
 induction r with
 | nil => intro pre acc hl hlen h; exact ⟨by simp [ld, hl, hlen], h⟩
 | cons o r ih =>
  intro pre acc hl hlen h; refine ih (pre ++ [o]) (acc ++ [wq acc o]) (by simp [hl]) (by simp [hlen]) ?_; intro t m ht i hi hd; rcases Nat.lt_or_ge t acc.length with hlt | hge
  ·rw [List.getElem?_append_left hlt] at ht; exact h t m ht i hi hd
  ·rw [List.getElem?_append_right hge] at ht; have ht0 : t = acc.length := by
    have := (List.getElem?_eq_some_iff.1 ht).1; simp at this; omega
   subst ht0; simp at ht; subst ht; obtain ⟨e, he, hb, h2⟩ := AY hi; have hlo : l[acc.length]? = some o := by rw [hlen, hl]; simp
   have hL := hd o hlo e he hb; rcases h2 with rfl | h2
   ·exact hL
   ·cases hm : acc[e.on]? with
    | none => rw [List.getD_eq_getElem?_getD, hm] at h2; simp at h2
    | some m' =>
     rw [List.getD_eq_getElem?_getD, hm] at h2; exact h e.on m' hm i h2 fun o' ho' => hcl e.on o' ho' hL
theorem Ah {m n i : Nat} (h : Nat.beq (m % 2 ^ n) (2 ^ n - 1) = true) (hi : i < n) : m.testBit i = true := by
 have h1 := Nat.eq_of_beq_eq_true h; have h2 : (m % 2 ^ n).testBit i = true := by rw [h1, Nat.testBit_two_pow_sub_one]; simpa using hi
 rw [Nat.testBit_mod_two_pow] at h2; simp at h2; exact h2.2
theorem Ks {n t i : Nat} {o : Oper} (hB : pZ l n = true) (hcl : ∀ (j : Nat) (oj : Oper), l[j]? = some oj -> L j -> ∀ e ∈ oj.after, Region.binds .any e = true -> L e.on) (ht : n <= t) (ho : l[t]? = some o) (hd : ∀ e ∈ o.after, Region.binds .any e = true -> L e.on) (hi : i < n) : L i := by
 obtain ⟨h1, h2⟩ := Kq hcl l [] [] rfl rfl (by simp); have htl := (List.getElem?_eq_some_iff.1 ho).1; have hm : (ld l [])[t]? = some (ld l [])[t] := List.getElem?_eq_getElem (by omega); have hin : (ld l [])[t] ∈ (ld l []).drop n := by
  rw [List.mem_iff_getElem?]; exact ⟨t - n, by rw [List.getElem?_drop, show n + (t - n) = t by omega]; exact hm⟩
 exact h2 t _ hm i (Ah (List.all_eq_true.1 hB _ hin) hi) fun o' ho' => by rw [ho] at ho'; cases ho'; exact hd
theorem xz {n k : Nat} (h : EE l n = true) (hk : n <= k) : pZ l k = true := by
 refine List.all_eq_true.2 fun m hm => ?_
 obtain ⟨j, hj⟩ := List.mem_iff_getElem?.1 hm; rw [List.getElem?_drop] at hj; have hz : (m, k + j) ∈ (ld l []).zipIdx.drop n := by
  rw [List.mem_iff_getElem?]; refine ⟨k + j - n, ?_⟩; rw [List.getElem?_drop, show n + (k + j - n) = k + j by omega, List.getElem?_zipIdx, hj]; simp
 have h1 := List.all_eq_true.1 h _ hz; have h2 : ∀ i, i < k -> m.testBit i = true := fun i hi => Ah (n := k + j) h1 (by omega)
 have : m % 2 ^ k = 2 ^ k - 1 := by
  apply Nat.eq_of_testBit_eq; intro i; rw [Nat.testBit_mod_two_pow, Nat.testBit_two_pow_sub_one]; by_cases hi : i < k
  ·simp [hi, h2 i hi]
  ·simp [hi]
 rw [this]; simp
end
section
variable {F : Fr} {P : Program} {l : zOz} {a0 : Act} {w0 : World} {Q : Exit -> Act -> World -> Prop}
theorem Js {i : Nat} {o : Oper} {a : Act} {w : World} {K : Act -> World -> Prop} (hp : pI o = true) (ho : l[i]? = some o) (h : if Region.wanted o (yielded l.toArray a.tmps) then o.wp P a w K Q else K (a.put o.dst undef) w) : wpOpIn F.fz 0 P l.toArray Q i K a w := by
 unfold wpOpIn; simp only [List.getElem?_toArray, ho]; split
 ·rename_i hw; rw [if_pos hw] at h; exact IG (Fy hp) h
 ·rename_i hw; rw [if_neg hw] at h; exact ⟨fun _ _ => trivial, h⟩
theorem Bk (k n : Nat) : (((List.range n).map fun i => decide (i < k)).filter fun b => !b).length = n - k := by
 induction n with
 | zero => simp
 | succ n ih =>
  rw [List.range_succ, List.map_append, List.filter_append, List.length_append, ih]; by_cases h : n < k
  ·simp [h]; omega
  ·simp [h]; omega
theorem lT (s k j : Nat) (b : Bool) (hj : j < s) : (bi s k).getD j b = decide (j < k) := by
 simp [bi, hj]
theorem vk (s k j : Nat) (hk : k <= s) : (bi s k).getD j false = decide (j < k) := by
 rcases Nat.lt_or_ge j s with h | h
 ·exact lT s k j false h
 ·have : ¬ j < k := by omega
  rw [Array.getD_eq_getD_getElem?, Array.getElem?_eq_none (by simpa [bi] using h)]; simp [this]
theorem rF (k n : Nat) (hkn : k <= n) (hnl : n <= l.length) (hbk0 : od l = true) (hbar : pZ l n = true) (σ : (Nat -> Bool) -> Act -> World -> Prop) (h0 : σ (fun j => decide (j < k)) a0 w0)
  (hstep : ∀ (i : Nat) (o : Oper) (S : Nat -> Bool) (a : Act) (w : World), k <= i -> i < n -> l[i]? = some o -> S i = false -> (∀ e ∈ o.after, Region.binds .any e = true -> S e.on = true) -> (∀ j, j < k -> S j = true) -> (∀ j, n <= j -> S j = false) ->
   (∀ (j : Nat) (oj : Oper), l[j]? = some oj -> S j = true -> ∀ e ∈ oj.after, Region.binds .any e = true -> S e.on = true) -> σ S a w -> wpOpIn F.fz 0 P l.toArray Q i (σ fun j => if j = i then true else S j) a w)
  (hend : ∀ (S : Nat -> Bool) (a : Act) (w : World), (∀ j, j < n -> S j = true) -> (∀ j, n <= j -> S j = false) -> σ S a w -> wpAnyIn F.fz 0 P .any l.toArray Q (l.length - n) (bi l.length n) a w) :
  wpAnyIn F.fz 0 P .any l.toArray Q (l.length - k) (bi l.length k) a0 w0 := by
 have hbk : ∀ (i : Nat) (o : Oper), l.toArray[i]? = some o -> ∀ e ∈ o.after, Region.binds .any e = true -> e.on < i := by
  intro i o hi e he hb; have hz : (o, i) ∈ l.zipIdx := by
   rw [List.mem_zipIdx_iff_getElem?]; simpa using hi
  have := List.all_eq_true.1 hbk0 (o, i) hz; simp only [Array.all_eq_true_iff_forall_mem] at this; have := this e he; simpa [hb] using this
 have hsize : l.toArray.size = l.length := by simp
 have main : ∀ (f : Nat) (listed : Array Bool) (a : Act) (w : World), HeadInv .any l.toArray n listed -> (∀ j, j < k -> listed.getD j false = true) -> ((listed.toList.take n).filter (fun b => !b)).length = f -> σ (fun j => listed.getD j false) a w -> wpAnyIn F.fz 0 P .any l.toArray Q (f + (l.length - n)) listed a w := by
  intro f
  induction f with
  | zero =>
   intro listed a w hI hlow hf inv; have hls : listed.size = l.length := by rw [hI.size, hsize]
   have hall : ∀ j, j < n -> j < l.length -> listed.getD j false = true := by
    intro j hj hj2; cases h : listed.getD j false with
    | true => rfl
    | false =>
     exfalso; have hlt : j < listed.size := by omega
     have : false ∈ (listed.toList.take n).filter (fun b => !b) := by
      rw [List.mem_filter]; refine ⟨?_, rfl⟩; rw [List.mem_iff_getElem?]; refine ⟨j, ?_⟩; rw [List.getElem?_take_of_lt hj]; simp [hlt] at h ⊢; exact h
     have := List.length_pos_of_mem this; omega
   have hnone : ∀ j, n <= j -> listed.getD j false = false := by
    intro j hj; rcases Nat.lt_or_ge j l.length with h | h
    ·exact getD_both (hI.tail j hj (by rw [hsize]; exact h))
    ·rw [Array.getD_eq_getD_getElem?, Array.getElem?_eq_none (by omega)]; rfl
   have hr := hend _ a w (fun j hj => hall j hj (by omega)) hnone inv; rw [Nat.zero_add, yE hls hall (fun t ht htl => hI.tail t ht (by rw [hsize]; exact htl))]; exact hr
  | succ f ih =>
   intro listed a w hI hlow hf inv; have hls : listed.size = l.length := by rw [hI.size, hsize]
   obtain ⟨i0, hi0n, hi0⟩ : ∃ i, i < n /\ listed.getD i true = false := by
    have hne : ((listed.toList.take n).filter (fun b => !b)) ≠ [] := fun e => by rw [e] at hf; cases hf
    obtain ⟨b, hb⟩ := List.exists_mem_of_ne_nil _ hne; rw [List.mem_filter] at hb; obtain ⟨hb1, hb2⟩ := hb; have hbf : b = false := by simpa using hb2
    subst hbf; obtain ⟨i, hi⟩ := List.mem_iff_getElem?.1 hb1; have hin : i < n := by
     have := (List.getElem?_eq_some_iff.1 hi).1; rw [List.length_take] at this; omega
    rw [List.getElem?_take_of_lt hin] at hi; exact ⟨i, hin, by simp at hi; simp [hi]⟩
   have hready : Region.ready .any l.toArray listed ≠ [] := by
    intro h; have hall := uJ (ops := l.toArray) (by rw [hls, hsize]) hbk h i0 (by rw [hsize]; omega); have h0 := getD_both hi0; rw [h0] at hall; cases hall
   have hcl : ∀ (j : Nat) (oj : Oper), l[j]? = some oj -> listed.getD j false = true -> ∀ e ∈ oj.after, Region.binds .any e = true -> listed.getD e.on false = true := fun j oj hj hl e he hb => hI.closed j oj (by simpa using hj) hl e he hb
   rw [show f + 1 + (l.length - n) = (f + (l.length - n)) + 1 by omega]; refine ⟨fun h => absurd h hready, fun i hi => ?_⟩; obtain ⟨h0, o, ho, hall⟩ := mem_ready.1 hi; have ho' : l[i]? = some o := by simpa using ho
   have hin : i < n := by
    rcases Nat.lt_or_ge i n with h | h
    ·exact h
    ·have := Ks (L := fun j => listed.getD j false = true) hbar hcl h ho' hall hi0n; rw [getD_both hi0] at this; cases this
   have hki : k <= i := by
    rcases Nat.lt_or_ge i k with h | h
    ·have := hlow i h; rw [getD_both h0] at this; cases this
    ·exact h
   have hlt : i < listed.size := by rw [hI.size]; exact (Array.getElem?_eq_some_iff.1 ho).1
   have hset : (fun j => (listed.setIfInBounds i true).getD j false) = fun j => if j = i then true else listed.getD j false := by
    funext j
    by_cases hji : j = i
    ·subst hji; rw [if_pos rfl]; simp [hlt]
    ·rw [if_neg hji, getD_set_ne _ (Ne.symm hji)]
   have hcount : (((listed.setIfInBounds i true).toList.take n).filter (fun b => !b)).length = f := by
    have h0' : (listed.toList.take n)[i]? = some false := by
     rw [List.getElem?_take_of_lt hin]; simp [hlt] at h0 ⊢; exact h0
    have := vd (listed.toList.take n) i h0'; rw [Array.toList_setIfInBounds, List.take_set]; omega
   have hnone : ∀ j, n <= j -> listed.getD j false = false := by
    intro j hj; rcases Nat.lt_or_ge j l.length with h | h
    ·exact getD_both (hI.tail j hj (by rw [hsize]; exact h))
    ·rw [Array.getD_eq_getD_getElem?, Array.getElem?_eq_none (by omega)]; rfl
   have hst := hstep i o (fun j => listed.getD j false) a w hki hin ho' (getD_both h0) hall hlow hnone hcl inv; rw [<- hset] at hst; refine wpOpIn_mono (fun a' w' h => ih _ a' w' (hI.set hi hin) (fun j hj => ?_) hcount h) hst; have : (listed.setIfInBounds i true).getD j false = _ := congrFun hset j; rw [this]; split
   ·rfl
   ·exact hlow j hj
 have hst : (fun j => (bi l.length k).getD j false) = fun j => decide (j < k) := funext fun j => vk _ _ _ (by omega)
 have hstart := main (n - k) (bi l.length k) a0 w0 ⟨by simp [bi], fun j oj hj hl e he hb => ?_, fun t ht htl => ?_⟩ (fun j hj => ?_) ?_ (by rw [hst]; exact h0)
 ·rwa [show n - k + (l.length - n) = l.length - k by omega] at hstart
 ·have h1 : (bi l.length k).getD j false = _ := congrFun hst j; have h2 : (bi l.length k).getD e.on false = _ := congrFun hst e.on; rw [h1] at hl; rw [h2]; have := hbk j oj hj e he hb; have := of_decide_eq_true hl; exact decide_eq_true (by omega)
 ·rw [lT _ _ _ _ (by simpa using htl)]; exact decide_eq_false (by omega)
 ·have h1 : (bi l.length k).getD j false = _ := congrFun hst j; rw [h1]; exact decide_eq_true hj
 ·have : (bi l.length k).toList.take n = (List.range n).map fun i => decide (i < k) := by
   simp only [bi]; rw [<- List.map_take, List.take_range, Nat.min_eq_left hnl]
  rw [this, Bk]
theorem xx {k : Nat} {a : Act} {w : World} (hkl : l.length <= k) (q : Q .normal a w) : wpAnyIn F.fz 0 P .any l.toArray Q (l.length - k) (bi l.length k) a w := by
 rw [show l.length - k = 0 by omega]; refine ⟨?_, q⟩; cases hrd : Region.ready .any l.toArray (bi l.length k) with
 | nil => rfl
 | cons j r =>
  have hj : j ∈ Region.ready .any l.toArray (bi l.length k) := by rw [hrd]; simp
  obtain ⟨h1, o, ho, _⟩ := mem_ready.1 hj; have hjl : j < l.length := by have := (Array.getElem?_eq_some_iff.1 ho).1; simpa using this
  rw [lT _ _ _ _ hjl] at h1; have := of_decide_eq_false h1; omega
theorem Ba (hbk : od l = true) : ∀ (r : zOz) (k : Nat) (a : Act) (w : World), l.drop k = r -> (∀ j, k <= j -> pZ l j = true) -> wpListIn F.fz 0 P l.toArray Q r a w -> wpAnyIn F.fz 0 P .any l.toArray Q (l.length - k) (bi l.length k) a w := by
 intro r
 induction r with
 | nil => intro k a w hr _ h; exact xx (List.drop_eq_nil_iff.1 hr) h
 | cons o r ih =>
  intro k a w hr hb h; have hk : l[k]? = some o := by
   have := congrArg (·[0]?) hr; simpa [List.getElem?_drop] using this
  have hr' : l.drop (k + 1) = r := by
   rw [<- List.drop_drop, hr]; rfl
  have hkl := (List.getElem?_eq_some_iff.1 hk).1; refine rF k (k + 1) (by omega) (by omega) hbk (hb _ (by omega)) (fun S a' w' => (S k = false -> a' = a /\ w' = w) /\ (S k = true -> wpListIn F.fz 0 P l.toArray Q r a' w')) ⟨fun _ => ⟨rfl, rfl⟩, fun h => by simp at h⟩ ?_ (fun S a' w' h1 _ hσ => ih (k + 1) a' w' hr' (fun j hj => hb j (by omega)) (hσ.2 (h1 k (by omega)))); intro i o' S a' w' h1 h2 h3 h4 _ _ _ _ hσ; obtain rfl : i = k := by omega
  rw [hk] at h3; cases h3; obtain ⟨rfl, rfl⟩ := hσ.1 h4; have hoA : l.toArray[i]? = some o := by simpa using hk
  unfold wpOpIn; rw [hoA]; dsimp only; have hw : (if Region.wanted o (yielded l.toArray a'.tmps) then o.wpIn F.fz 0 P a' w' (wpListIn F.fz 0 P l.toArray Q r) Q else (∀ f, o.about P w' a'.eval = some f -> F.fz.fn f) /\ wpListIn F.fz 0 P l.toArray Q r (a'.put o.dst undef) w') := h; have key : ∀ a2 w2, wpListIn F.fz 0 P l.toArray Q r a2 w2 -> ((if i = i then true else S i) = false -> a2 = a' /\ w2 = w') /\ ((if i = i then true else S i) = true -> wpListIn F.fz 0 P l.toArray Q r a2 w2) := fun a2 w2 h2 => ⟨fun h => by simp at h, fun _ => h2⟩
  split
  ·rename_i hwt; rw [if_pos hwt] at hw; exact Oper.wpIn_mono key hw
  ·rename_i hwt; rw [if_neg hwt] at hw; exact ⟨hw.1, key _ _ hw.2⟩
end
theorem nW {Fc : Fence} {P : Program} {o : Oper} {a : Act} {w : World} {K : Act -> World -> Prop} {Q Q' : Exit -> Act -> World -> Prop} (h : ∀ e a w, e ≠ .normal -> Q e a w -> Q' e a w) (hh : o.wpIn Fc 0 P a w K Q) : o.wpIn Fc 0 P a w K Q' := by
 have hl : LetsOut Q -> LetsOut Q' := fun ⟨a, w, q⟩ => ⟨a, w, h _ _ _ (by simp) q⟩
 unfold Oper.wpIn at *; refine ⟨hh.1, ?_⟩; have hh := hh.2; generalize (o.semAt Fc.round a.eval).run P w = r at *; cases r with
 | ok x w' =>
  cases x <;> simp only [Oper.uponIn] at hh ⊢ <;>
   first
    | exact hh
    | exact ⟨hh.1, CallsIn.mono hh.2 (fun e w'' he => by cases e <;> first | exact he | exact h _ _ _ (by simp) he | exact hl he)⟩
    | exact ⟨hh.1, RoundIn.mono hh.2 (fun e w'' he => by cases e <;> first | exact he | exact h _ _ _ (by simp) he | exact hl he)⟩
 | halt x w' => cases x <;> simp only [Oper.uponIn] at hh ⊢ <;> first | exact hh | exact h _ _ _ (by simp) hh
theorem Gl {F : Fr} {Q Q' : zQz} {e : Exit} {a : Act} {w : World} (he : e ≠ .normal) (h : ∀ e st, e ≠ .normal -> Q e st -> Q' e st) (q : Sq F Q e a w) : Sq F Q' e a w := by
 obtain ⟨st, μ, C, h1, h2⟩ := q; exact ⟨st, μ, C, h _ _ he h1, h2⟩
def SmA (F : Fr) (l : zOz) (k : Nat) (Q : zQz) (st : St) : Prop := ∀ μ C a w, Sim F st μ C a w -> wpAnyIn F.fz 0 F.P .any l.toArray (Sq F Q) (l.length - k) (bi l.length k) a w
section
variable {F : Fr} {l : zOz} {Q : zQz} {st : St}
theorem uC {id : Nat} (hm : F.P.follows .mixedOrders = true) (h : SmA F l 0 Q st) : Sm F (.region id l.toArray true) Q st := by
 intro μ C a w hs; refine wpIn_region_any hm ?_; have := h μ C a w.drew hs.drew; have e : bi l.length 0 = Array.replicate l.toArray.size false := by
  apply Array.ext (by simp [bi]); intro i h1 h2; simp [bi]
 rw [e] at this; simpa using this
theorem SmA.nil {k : Nat} (hn : l.length <= k) (q : Q .normal st) : SmA F l k Q st := fun μ C _ _ hs => xx hn ⟨st, μ, C, q, hs⟩
theorem SmA.one {k : Nat} {o : Oper} (hb : od l = true) (hbar : pZ l (k + 1) = true) (ho : l[k]? = some o) (h : SmL F l.toArray [o] (ba (SmA F l (k + 1) Q) Q) st) : SmA F l k Q st := by
 obtain ⟨Q', hQ'⟩ : ∃ Q', Q' = ba (SmA F l (k + 1) Q) Q := ⟨_, rfl⟩
 rw [<- hQ'] at h; have hQ1 : ∀ st', Q' .normal st' -> SmA F l (k + 1) Q st' := fun st' q => by rw [hQ'] at q; exact q
 have hQ2 : ∀ e st', e ≠ .normal -> Q' e st' -> Q e st' := fun e st' he q => by rw [hQ'] at q; cases e <;> first | exact q | exact absurd rfl he
 intro μ C a w hs; have hkl := (List.getElem?_eq_some_iff.1 ho).1; refine rF k (k + 1) (by omega) (by omega) hb hbar (fun S a' w' => (S k = false -> a' = a /\ w' = w) /\ (S k = true -> wpAnyIn F.fz 0 F.P .any l.toArray (Sq F Q) (l.length - (k + 1)) (bi l.length (k + 1)) a' w')) ⟨fun _ => ⟨rfl, rfl⟩, fun h => by simp at h⟩ ?_ (fun S a' w' h1 _ hσ => hσ.2 (h1 k (by omega))); intro i o' S a' w' h1 h2 h3 h4 _ _ _ _ hσ; obtain rfl : i = k := by omega
 rw [ho] at h3; cases h3; obtain ⟨rfl, rfl⟩ := hσ.1 h4; have hw := h μ C a' w' hs; have hoA : l.toArray[i]? = some o := by simpa using ho
 unfold wpOpIn; rw [hoA]; dsimp only; have hw : (if Region.wanted o (yielded l.toArray a'.tmps) then o.wpIn F.fz 0 F.P a' w' (fun a2 w2 => Sq F Q' .normal a2 w2) (Sq F Q') else (∀ f, o.about F.P w' a'.eval = some f -> F.fz.fn f) /\ Sq F Q' .normal (a'.put o.dst undef) w') := hw; have key : ∀ a2 w2, Sq F Q' .normal a2 w2 -> ((if i = i then true else S i) = false -> a2 = a' /\ w2 = w') /\ ((if i = i then true else S i) = true -> wpAnyIn F.fz 0 F.P .any l.toArray (Sq F Q) (l.length - (i + 1)) (bi l.length (i + 1)) a2 w2) := by
  intro a2 w2 h2; refine ⟨fun h => by simp at h, fun _ => ?_⟩; obtain ⟨st', μ', C', hq, hs'⟩ := h2; exact (hQ1 _ hq) μ' C' a2 w2 hs'
 split
 ·rename_i hwt; rw [if_pos hwt] at hw; exact nW (fun e a w he q => Gl he hQ2 q) (Oper.wpIn_mono key hw)
 ·rename_i hwt; rw [if_neg hwt] at hw; exact ⟨hw.1, key _ _ hw.2⟩
end
end
section
def cq (F : Fr) (G : zGz) (h0 : zHz) (o : Oper) (env : zEz) (x : V) : Prop :=
 ∀ μ C a w nx h, Sim F ⟨[], h, nx⟩ μ C a w -> (∀ l k, look h0 l = some k -> look h l = some k) -> (∀ y ∈ o.op.operands, ∀ v, evD G env y = some v -> ax μ C v (a.eval y)) ->
  ∀ K Q, (∀ u w' C', More w C w' C' -> ax μ C' x u -> K (a.put o.dst u) w') -> o.wp F.P a w K Q
def jE (F : Fr) (G : zGz) (o : Oper) (env : zEz) (k : Blk) (res : Nat -> V) : Prop :=
 ∀ μ C a w nx h, Sim F ⟨[], h, nx⟩ μ C a w -> (∀ y ∈ o.op.operands, ∀ v, evD G env y = some v -> ax μ C v (a.eval y)) -> ∀ m, m < nx -> μ m = none ->
  ∀ K Q, (∀ u w' μ' C', Sim F ⟨[], (m, k) :: h, nx⟩ μ' C' a w' -> (∀ b o u, C b o u -> C' b o u) -> (∀ l p, μ l = some p -> μ' l = some p) -> (∀ l, l ≠ m -> μ' l = μ l) -> ax μ' C' (res m) u -> K (a.put o.dst u) w') -> o.wp F.P a w K Q
def uA (F : Fr) (G : zGz) (o : Oper) (env : zEz) (m : Nat) (k0 kb : Blk) : Prop :=
 ∀ μ C a w nx h, Sim F ⟨[], h, nx⟩ μ C a w -> look h m = some k0 -> (∀ y ∈ o.op.operands, ∀ v, evD G env y = some v -> ax μ C v (a.eval y)) ->
  ∀ K Q, (∀ w', Sim F ⟨[], rep h m kb, nx⟩ μ C a w' -> K (a.put none undef) w') -> o.wp F.P a w K Q
def au (F : Fr) (G : zGz) (N : Nat) (ops : Array Oper) (h0 : zHz) : List Oper -> zEz -> zHz -> Nat -> (zEz -> zHz -> Nat -> Prop) -> Prop
 | [], env, al, nx, K => K env al nx
 | o :: r, env, al, nx, K => (∃ t, o.dst = some t /\ t < N /\
  ((∃ x, ((bP ops env o.guard = some true /\ cq F G h0 o env x) \/ (bP ops env o.guard = some false /\ x = .d (.v undef))) /\ au F G N ops h0 r ((t, x) :: env) al nx K) \/
   (∃ k res, bP ops env o.guard = some true /\ jE F G o env k res /\ au F G N ops h0 r ((t, res nx) :: env) ((nx, k) :: al) (nx + 1) K))) \/
  (o.dst = none /\ ((bP ops env o.guard = some false /\ au F G N ops h0 r env al nx K) \/
   (∃ m k0 kb, bP ops env o.guard = some true /\ uA F G o env m k0 kb /\ (∃ y ∈ o.op.operands, ∃ i off, evD G env y = some (.ref m i off)) /\ (al.filter fun e => e.1 == m) = [(m, k0)] /\ au F G N ops h0 r env ((m, kb) :: al) nx K)))
abbrev bU := Option Tmp × V × Option (Nat × Blk)
def dk (env : zEz) (ds : List bU) : zEz := (ds.filterMap fun d => d.1.map fun t => (t, d.2.1)).reverse ++ env
def fL (ds : List bU) : zHz := (ds.filterMap fun d => d.2.2).reverse
def Dd (l : zOz) (k n : Nat) : Bool :=
 decide (((l.drop k).take (n - k)).filterMap (·.dst)).Nodup && ((l.drop k).take (n - k)).zipIdx.all fun (o, i) => (o.looksAt l.toArray).all fun s => ((l.drop k).take (n - k)).zipIdx.all fun (oj, j) =>
  oj.dst != some s || ((!decide (j < i) || o.after.any fun e => Region.binds .any e && e.on == k + j) && (!decide (i < j) || oj.after.any fun e => Region.binds .any e && e.on == k + i))
def Dc (l : zOz) (n : Nat) : Bool := Dd l 0 n
section
variable {F : Fr} {G : zGz} {N : Nat} {ops : Array Oper} {h0 : zHz}
def CD (F : Fr) (G : zGz) (N : Nat) (ops : Array Oper) (h0 : zHz) (env0 : zEz) (nx nx' : Nat) (all : List bU) (p : Nat) (o : Oper) (d : bU) : Prop :=
 o.dst = d.1 /\ (∀ t, d.1 = some t -> t < N) /\
 ((d.1.isSome = true /\ d.2.2 = none /\ ((bP ops (dk env0 (all.take p)) o.guard = some true /\ cq F G h0 o (dk env0 (all.take p)) d.2.1) \/ (bP ops (dk env0 (all.take p)) o.guard = some false /\ d.2.1 = .d (.v undef)))) \/
  (d.1.isSome = true /\ ∃ m k res, d.2.2 = some (m, k) /\ d.2.1 = res m /\ bP ops (dk env0 (all.take p)) o.guard = some true /\ jE F G o (dk env0 (all.take p)) k res /\ nx <= m /\ m < nx') \/
  (d.1 = none /\ d.2.2 = none /\ bP ops (dk env0 (all.take p)) o.guard = some false) \/
  (d.1 = none /\ ∃ m k0 kb, d.2.2 = some (m, kb) /\ bP ops (dk env0 (all.take p)) o.guard = some true /\ uA F G o (dk env0 (all.take p)) m k0 kb /\ (∃ y ∈ o.op.operands, ∃ i off, evD G (dk env0 (all.take p)) y = some (.ref m i off)) /\
   (fL (all.take p)).filter (fun e => e.1 == m) = [(m, k0)]))
theorem uS (env0 : zEz) (pre : List bU) (t : Tmp) (x : V) (b : Option (Nat × Blk)) : (t, x) :: dk env0 pre = dk env0 (pre ++ [(some t, x, b)]) := by simp [dk]
theorem uR (env0 : zEz) (pre : List bU) (x : V) (b : Option (Nat × Blk)) : dk env0 pre = dk env0 (pre ++ [(none, x, b)]) := by simp [dk]
theorem xw (pre : List bU) (t : Option Tmp) (x : V) (b : Nat × Blk) : b :: fL pre = fL (pre ++ [(t, x, some b)]) := by simp [fL]
theorem xu (pre : List bU) (t : Option Tmp) (x : V) : fL pre = fL (pre ++ [(t, x, none)]) := by simp [fL]
theorem EZ : ∀ (l : zOz) (env0 : zEz) (pre : List bU) (nx : Nat) (K : zEz -> zHz -> Nat -> Prop), au F G N ops h0 l (dk env0 pre) (fL pre) nx K ->
  ∃ (ds : List bU) (nx' : Nat), ds.length = l.length /\ nx <= nx' /\ K (dk env0 (pre ++ ds)) (fL (pre ++ ds)) nx' /\
   (∀ (i : Nat) (o : Oper) (d : bU), l[i]? = some o -> ds[i]? = some d -> CD F G N ops h0 env0 nx nx' (pre ++ ds) (pre.length + i) o d) /\
   (∀ (i j : Nat) (di dj : bU) (m : Nat) (k k' : Blk), ds[i]? = some di -> ds[j]? = some dj -> di.1.isSome = true -> dj.1.isSome = true -> di.2.2 = some (m, k) -> dj.2.2 = some (m, k') -> i = j) := by
 intro l
 induction l with
 | nil => intro env0 pre nx K h; exact ⟨[], nx, rfl, Nat.le_refl _, by simpa [au] using h, by simp, by simp⟩
 | cons o l ih =>
  intro env0 pre nx K h; have wrap : ∀ (d0 : bU) (nx1 : Nat), nx <= nx1 -> (∀ rest nx', nx1 <= nx' -> CD F G N ops h0 env0 nx nx' (pre ++ d0 :: rest) pre.length o d0) -> (∀ m k, d0.1.isSome = true -> d0.2.2 = some (m, k) -> m < nx1) -> au F G N ops h0 l (dk env0 (pre ++ [d0])) (fL (pre ++ [d0])) nx1 K ->
    ∃ (ds : List bU) (nx' : Nat), ds.length = (o :: l).length /\ nx <= nx' /\ K (dk env0 (pre ++ ds)) (fL (pre ++ ds)) nx' /\
   (∀ (i : Nat) (oi : Oper) (d : bU), (o :: l)[i]? = some oi -> ds[i]? = some d -> CD F G N ops h0 env0 nx nx' (pre ++ ds) (pre.length + i) oi d) /\
   (∀ (i j : Nat) (di dj : bU) (m : Nat) (k k' : Blk), ds[i]? = some di -> ds[j]? = some dj -> di.1.isSome = true -> dj.1.isSome = true -> di.2.2 = some (m, k) -> dj.2.2 = some (m, k') -> i = j) := by
   intro d0 nx1 hnx1 hstep hlt hh; obtain ⟨ds, nx', h1, h2, h3, h4, h5⟩ := ih env0 _ nx1 K hh; have hassoc : pre ++ [d0] ++ ds = pre ++ d0 :: ds := by simp
   rw [hassoc] at h3 h4; have hmake : ∀ (j : Nat) (dj : bU) (m : Nat) (k : Blk), ds[j]? = some dj -> dj.1.isSome = true -> dj.2.2 = some (m, k) -> nx1 <= m := by
    intro j dj m k hj hs hm; have hjl : j < l.length := by rw [<- h1]; exact (List.getElem?_eq_some_iff.1 hj).1
    obtain ⟨_, _, hk⟩ := h4 j l[j] dj (by simp [hjl]) hj; rcases hk with ⟨_, hk, _⟩ | ⟨_, m', k', _, b1, _, _, _, b5, _⟩ | ⟨hk, _⟩ | ⟨hk, _⟩
    ·rw [hk] at hm; cases hm
    ·rw [b1] at hm; cases hm; exact b5
    ·rw [hk] at hs; cases hs
    ·rw [hk] at hs; cases hs
   refine ⟨d0 :: ds, nx', by simp [h1], by omega, h3, ?_, ?_⟩
   ·intro i oi d hi hd; cases i with
    | zero => simp at hi hd; subst hi; subst hd; exact hstep ds nx' h2
    | succ i =>
     have h6 := h4 i oi d (by simpa using hi) (by simpa using hd); rw [show (pre ++ [d0]).length + i = pre.length + (i + 1) by simp; omega] at h6; obtain ⟨g1, g2, g3⟩ := h6; refine ⟨g1, g2, ?_⟩; rcases g3 with g3 | ⟨hs, m, k, res, b1, b2, b3, b4, b5, b6⟩ | g3 | g3
     ·exact .inl g3
     ·exact .inr (.inl ⟨hs, m, k, res, b1, b2, b3, b4, by omega, b6⟩)
     ·exact .inr (.inr (.inl g3))
     ·exact .inr (.inr (.inr g3))
   ·intro i j di dj m k k' hi hj hsi hsj hmi hmj; cases i with
    | zero =>
     simp at hi; subst hi; cases j with
     | zero => rfl
     | succ j =>
      have := hlt m k hsi hmi; have := hmake j dj m k' (by simpa using hj) hsj hmj; omega
    | succ i =>
     cases j with
     | zero =>
      simp at hj; subst hj; have := hlt m k' hsj hmj; have := hmake i di m k (by simpa using hi) hsi hmi; omega
     | succ j => rw [h5 i j di dj m k k' (by simpa using hi) (by simpa using hj) hsi hsj hmi hmj]
  have htake : ∀ (d0 : bU) (rest : List bU), (pre ++ d0 :: rest).take pre.length = pre := fun d0 rest => by simp
  rcases h with ⟨t, ht, htN, h⟩ | ⟨ht, h⟩
  ·rcases h with ⟨x, hx, h⟩ | ⟨k, res, hg, hk, h⟩
   ·refine wrap (some t, x, none) nx (Nat.le_refl _) (fun rest nx' _ => ⟨ht, fun t' e => by cases e; exact htN, .inl ⟨rfl, rfl, by rw [htake]; exact hx⟩⟩) (fun m k _ h => by cases h) ?_; rw [<- uS, <- xu]; exact h
   ·refine wrap (some t, res nx, some (nx, k)) (nx + 1) (by omega) (fun rest nx' hn => ⟨ht, fun t' e => by cases e; exact htN, .inr (.inl ⟨rfl, nx, k, res, rfl, rfl, by rw [htake]; exact hg, by rw [htake]; exact hk, Nat.le_refl _, by omega⟩)⟩) (fun m k _ h => by cases h; omega) ?_; rw [<- uS, <- xw]; exact h
  ·rcases h with ⟨hg, h⟩ | ⟨m, k0, kb, hg, hp, hy, hf, h⟩
   ·refine wrap (none, .any, none) nx (Nat.le_refl _) (fun rest nx' _ => ⟨ht, (fun t' e => by cases e), .inr (.inr (.inl ⟨rfl, rfl, by rw [htake]; exact hg⟩))⟩) (fun m k h => by cases h) ?_; rw [<- uR, <- xu]; exact h
   ·refine wrap (none, .any, some (m, kb)) nx (Nat.le_refl _) (fun rest nx' _ => ⟨ht, (fun t' e => by cases e), .inr (.inr (.inr ⟨rfl, m, k0, kb, rfl, by rw [htake]; exact hg, by rw [htake]; exact hp, by rw [htake]; exact hy, by rw [htake]; exact hf⟩))⟩) (fun m k h => by cases h) ?_; rw [<- uR, <- xw]; exact h
theorem qI : ∀ (ds : List bU) (env0 : zEz) (t : Nat) (x : V), look (dk env0 ds) t = some x ->
  (∃ (i : Nat) (d : bU), ds[i]? = some d /\ d.1 = some t /\ d.2.1 = x) \/ (look env0 t = some x /\ ∀ (i : Nat) (d : bU), ds[i]? = some d -> d.1 ≠ some t) := by
 have key : ∀ (r : zEz) (env0 : zEz) (t : Nat) (x : V), look (r ++ env0) t = some x -> (t, x) ∈ r \/ (look env0 t = some x /\ ∀ e ∈ r, e.1 ≠ t) := by
  intro r
  induction r with
  | nil => intro env0 t x h; exact .inr ⟨h, by simp⟩
  | cons e r ih =>
   obtain ⟨k, y⟩ := e; intro env0 t x h; simp only [List.cons_append, look] at h; split at h
   ·rename_i e; cases h; subst e; exact .inl (by simp)
   ·rename_i e; rcases ih env0 t x h with h | ⟨h1, h2⟩
    ·exact .inl (by simp [h])
    ·refine .inr ⟨h1, fun e' he' => ?_⟩; rcases List.mem_cons.1 he' with rfl | he'
     ·exact e
     ·exact h2 e' he'
 intro ds env0 t x h; rcases key _ _ _ _ h with h | ⟨h1, h2⟩
 ·left; rw [List.mem_reverse, List.mem_filterMap] at h; obtain ⟨d, hd, e⟩ := h; simp only [Option.map_eq_some_iff] at e; obtain ⟨t', ht', e⟩ := e; cases e; obtain ⟨i, hi⟩ := List.mem_iff_getElem?.1 hd; exact ⟨i, d, hi, ht', rfl⟩
 ·refine .inr ⟨h1, fun i d hi e => ?_⟩; exact h2 (t, d.2.1) (by rw [List.mem_reverse, List.mem_filterMap]; exact ⟨d, List.mem_of_getElem? hi, by rw [e]; rfl⟩) rfl
theorem Fe {α : Type} {p : List α -> Prop} (h0 : p []) (h1 : ∀ l a, p l -> p (l ++ [a])) (l : List α) : p l := by
 have : ∀ r : List α, p r.reverse := by
  intro r
  induction r with
  | nil => simpa using h0
  | cons a r ih => simpa using h1 _ a ih
 simpa using this l.reverse
theorem Fg : ∀ (ds : List bU) (h0 : zHz) (l : Nat) (k : Blk), look (fL ds ++ h0) l = some k ->
  (∃ (i : Nat) (d : bU), ds[i]? = some d /\ d.2.2 = some (l, k) /\ ∀ (j : Nat) (dj : bU) (k' : Blk), i < j -> ds[j]? = some dj -> dj.2.2 ≠ some (l, k')) \/ look h0 l = some k := by
 refine Fe ?_ ?_
 ·intro h0 l k h; exact .inr (by simpa [fL] using h)
 ·intro ds d ih h0 l k h; have hlift : (∃ (i : Nat) (d' : bU), ds[i]? = some d' /\ d'.2.2 = some (l, k) /\ ∀ (j : Nat) (dj : bU) (k' : Blk), i < j -> ds[j]? = some dj -> dj.2.2 ≠ some (l, k')) -> (∀ k', d.2.2 ≠ some (l, k')) ->
    ∃ (i : Nat) (d' : bU), (ds ++ [d])[i]? = some d' /\ d'.2.2 = some (l, k) /\ ∀ (j : Nat) (dj : bU) (k' : Blk), i < j -> (ds ++ [d])[j]? = some dj -> dj.2.2 ≠ some (l, k') := by
   rintro ⟨i, d', g1, g2, g3⟩ hd; have hil := (List.getElem?_eq_some_iff.1 g1).1; refine ⟨i, d', by rw [List.getElem?_append_left hil]; exact g1, g2, fun j dj k' hij hj => ?_⟩; rcases Nat.lt_or_ge j ds.length with hlt | hge
   ·rw [List.getElem?_append_left hlt] at hj; exact g3 j dj k' hij hj
   ·rw [List.getElem?_append_right hge] at hj; have : j - ds.length = 0 := by have := (List.getElem?_eq_some_iff.1 hj).1; simp at this; omega
    rw [this] at hj; simp at hj; subst hj; exact hd k'
  cases hb : d.2.2 with
  | none =>
   have e : fL (ds ++ [d]) = fL ds := by simp [fL, hb]
   rw [e] at h; exact (ih h0 l k h).imp (fun g => hlift g fun k' e => by rw [hb] at e; cases e) id
  | some b =>
   obtain ⟨l', k1⟩ := b; have e : fL (ds ++ [d]) = (l', k1) :: fL ds := by simp [fL, hb]
   rw [e, List.cons_append] at h; simp only [look] at h; split at h
   ·rename_i e; subst e; cases h; refine .inl ⟨ds.length, d, by simp, hb, fun j dj k' hij hj => ?_⟩; have := (List.getElem?_eq_some_iff.1 hj).1; simp at this; omega
   ·rename_i e'; exact (ih h0 l k h).imp (fun g => hlift g fun k' e => by rw [hb] at e; cases e; exact e' rfl) id
theorem xv : ∀ (ds : List bU) (m : Nat) (k0 : Blk), (fL ds).filter (fun e => e.1 == m) = [(m, k0)] ->
  (∃ (i : Nat) (d : bU), ds[i]? = some d /\ d.2.2 = some (m, k0)) /\ ∀ (i j : Nat) (di dj : bU) (k k' : Blk), ds[i]? = some di -> ds[j]? = some dj -> di.2.2 = some (m, k) -> dj.2.2 = some (m, k') -> i = j := by
 intro ds m k0 h; have h1 : (ds.filterMap fun d => d.2.2).filter (fun e => e.1 == m) = [(m, k0)] := by
  have := congrArg List.reverse h; simpa [fL, List.filter_reverse] using this
 clear h; have key : ∀ (ds : List bU) (r : zHz), (ds.filterMap fun d => d.2.2).filter (fun e => e.1 == m) = r -> (r = [] -> ∀ (i : Nat) (d : bU) (k : Blk), ds[i]? = some d -> d.2.2 ≠ some (m, k)) /\
   (∀ x, r = [x] -> (∃ (i : Nat) (d : bU), ds[i]? = some d /\ d.2.2 = some x) /\ ∀ (i j : Nat) (di dj : bU) (k k' : Blk), ds[i]? = some di -> ds[j]? = some dj -> di.2.2 = some (m, k) -> dj.2.2 = some (m, k') -> i = j) := by
  intro ds
  induction ds with
  | nil => intro r hr; subst hr; exact ⟨fun _ i d k h => by simp at h, fun x h => by simp at h⟩
  | cons d ds ih =>
   intro r hr; by_cases hd : ∃ k, d.2.2 = some (m, k)
   ·obtain ⟨k, hk⟩ := hd; have e : ((d :: ds).filterMap fun d => d.2.2).filter (fun e => e.1 == m) = (m, k) :: (ds.filterMap fun d => d.2.2).filter (fun e => e.1 == m) := by simp [hk]
    rw [e] at hr; subst hr; refine ⟨fun h => (by cases h), fun x hx => ?_⟩; injection hx with hx1 hx2; subst hx1; have hnone := (ih _ rfl).1 hx2; refine ⟨⟨0, d, rfl, hk⟩, fun i j di dj k1 k2 hi hj h1 h2 => ?_⟩; cases i with
    | zero =>
     cases j with
     | zero => rfl
     | succ j => exact absurd h2 (hnone j dj k2 (by simpa using hj))
    | succ i => exact absurd h1 (hnone i di k1 (by simpa using hi))
   ·have e : ((d :: ds).filterMap fun d => d.2.2).filter (fun e => e.1 == m) = (ds.filterMap fun d => d.2.2).filter (fun e => e.1 == m) := by
     cases hb : d.2.2 with
     | none => simp [hb]
     | some b =>
      obtain ⟨l', k1⟩ := b; have : l' ≠ m := fun e => hd ⟨k1, by rw [hb, e]⟩
      simp [hb, this]
    rw [e] at hr; obtain ⟨g1, g2⟩ := ih r hr; refine ⟨fun h0 i d' k hi => ?_, fun x hx => ?_⟩
    ·cases i with
     | zero => simp at hi; subst hi; exact fun e => hd ⟨k, e⟩
     | succ i => exact g1 h0 i d' k (by simpa using hi)
    ·obtain ⟨⟨i, d', a1, a2⟩, g3⟩ := g2 x hx; refine ⟨⟨i + 1, d', by simpa using a1, a2⟩, fun i j di dj k1 k2 hi hj h1 h2 => ?_⟩; cases i with
     | zero => simp at hi; subst hi; exact absurd ⟨k1, h1⟩ hd
     | succ i =>
      cases j with
      | zero => simp at hj; subst hj; exact absurd ⟨k2, h2⟩ hd
      | succ j => rw [g3 i j di dj k1 k2 (by simpa using hi) (by simpa using hj) h1 h2]
 exact (key ds _ h1).2 _ rfl
structure Mid (F : Fr) (st : St) (ds : List bU) (nx : Nat) (μ0 : zMz) (S : Nat -> Bool) (a : Act) (w : World) (μ : zMz) (C : aw) (h : zHz) : Prop where
 sim : Sim F ⟨[], h, nx⟩ μ C a w
 old : ∀ l k, look st.h l = some k -> look h l = some k
 done : ∀ (i : Nat) (d : bU), ds[i]? = some d -> S i = true -> ∀ t, d.1 = some t -> ax μ C d.2.1 (a.tmps.getD t undef)
 made : ∀ (i : Nat) (d : bU), ds[i]? = some d -> S i = true -> ∀ m k, d.2.2 = some (m, k) -> look h m = some k \/ ∃ (j : Nat) (dj : bU) (k' : Blk), i < j /\ ds[j]? = some dj /\ S j = true /\ dj.2.2 = some (m, k') /\ look h m = some k'
 rest : ∀ t x, look st.env t = some x -> (∀ (i : Nat) (d : bU), ds[i]? = some d -> S i = true -> d.1 ≠ some t) -> ax μ C x (a.tmps.getD t undef)
 fresh : ∀ (i : Nat) (d : bU), ds[i]? = some d -> S i = false -> d.1.isSome = true -> ∀ m k, d.2.2 = some (m, k) -> μ m = none
variable {Q : zQz} {st : St} {P : Program}
theorem SmA.head {l : zOz} (hF : Env F P G N) (hN : St.small N st) (k n : Nat) (hkn : k <= n) (hnl : n <= l.length) (hpb : l.all pI = true) (hbk : od l = true) (hbar : pZ l n = true) (hD : Dd l k n = true)
  (h : au F G N l.toArray st.h ((l.drop k).take (n - k)) st.env [] st.nx fun env al nx => SmA F l n Q ⟨env, al ++ st.h, nx⟩) : SmA F l k Q st := by
 intro μ0 C0 a0 w0 hs0; have hF' := hF; obtain ⟨rfl, rfl, hG⟩ := hF; have hh : au F G F.N l.toArray st.h ((l.drop k).take (n - k)) (dk st.env []) (fL []) st.nx fun env al nx => SmA F l n Q ⟨env, al ++ st.h, nx⟩ := by simpa [dk, fL] using h
 obtain ⟨ds, nx, hlen, hnx, hK, hall, huniq⟩ := EZ _ _ _ _ _ hh; simp only [List.nil_append, List.length_nil, Nat.zero_add] at hK hall; obtain ⟨sg, hs⟩ : ∃ sg, sg = (l.drop k).take (n - k) := ⟨_, rfl⟩
 have hsl : sg.length = n - k := by rw [hs, List.length_take, List.length_drop]; omega
 have hsg : ∀ i, i < n - k -> sg[i]? = l[k + i]? := fun i hi => by rw [hs, List.getElem?_take_of_lt hi, List.getElem?_drop]
 unfold Dd at hD; rw [<- hs] at hlen hall hD; have hdn : ds.length = n - k := by rw [hlen, hsl]
 simp only [Bool.and_eq_true] at hD; obtain ⟨hD1, hD2⟩ := hD; have hnodup := of_decide_eq_true hD1; have hopAt : ∀ (i : Nat) (d : bU), ds[i]? = some d -> ∃ o, sg[i]? = some o /\ CD F G F.N l.toArray st.h st.env st.nx nx ds i o d := by
  intro i d hi; have hil : i < sg.length := by rw [<- hlen]; exact (List.getElem?_eq_some_iff.1 hi).1
  exact ⟨_, List.getElem?_eq_getElem hil, hall i _ d (List.getElem?_eq_getElem hil) hi⟩
 have hdd : ∀ (i j : Nat) (di dj : bU) (t : Tmp), ds[i]? = some di -> ds[j]? = some dj -> di.1 = some t -> dj.1 = some t -> i = j := by
  intro i j di dj t hi hj e e'; obtain ⟨oi, h1, h2, _⟩ := hopAt i di hi; obtain ⟨oj, h3, h4, _⟩ := hopAt j dj hj; exact xR sg hnodup i j _ _ t h1 h3 (h2.trans e) (h4.trans e')
 have hput : ∀ (i : Nat) (d : bU) (m : Nat) (kb : Blk), ds[i]? = some d -> d.1 = none -> d.2.2 = some (m, kb) -> st.nx <= m /\ ∃ (j : Nat) (dj : bU) (k0 : Blk), j < i /\ ds[j]? = some dj /\ dj.1.isSome = true /\ dj.2.2 = some (m, k0) /\ (∀ (j' : Nat) (d' : bU) (k' : Blk), j' < i -> ds[j']? = some d' -> d'.2.2 = some (m, k') -> j' = j) := by
  intro i
  induction i using Nat.strongRecOn with
  | _ i ih =>
  intro d m kb hi hdn hm; obtain ⟨o, _, _, _, hk⟩ := hopAt i d hi; rcases hk with ⟨hs', _⟩ | ⟨hs', _⟩ | ⟨_, hk, _⟩ | ⟨_, m', k0, kb', b1, _, _, _, hf⟩
  ·rw [hdn] at hs'; cases hs'
  ·rw [hdn] at hs'; cases hs'
  ·rw [hk] at hm; cases hm
  ·rw [b1] at hm; cases hm; obtain ⟨⟨j, dj, g1, g2⟩, g3⟩ := xv _ _ _ hf; have hji : j < i := by have := (List.getElem?_eq_some_iff.1 g1).1; rw [List.length_take] at this; omega
   rw [List.getElem?_take_of_lt hji] at g1; have huq : ∀ (j' : Nat) (d' : bU) (k' : Blk), j' < i -> ds[j']? = some d' -> d'.2.2 = some (m, k') -> j' = j := fun j' d' k' h1 h2 h3 =>
    g3 j' j d' dj k' k0 (by rw [List.getElem?_take_of_lt h1]; exact h2) (by rw [List.getElem?_take_of_lt hji]; exact g1) h3 g2
   cases hdj : dj.1 with
   | none =>
    obtain ⟨_, j2, dj2, k2, a1, a2, _, a4, _⟩ := ih j hji dj m k0 g1 hdj g2; have := huq j2 dj2 k2 (by omega) a2 a4; omega
   | some t =>
    obtain ⟨oj, _, _, _, hkj⟩ := hopAt j dj g1; rcases hkj with ⟨_, hkj, _⟩ | ⟨_, m', k', res, c1, _, _, _, c5, _⟩ | ⟨hkj, _⟩ | ⟨hkj, _⟩
    ·rw [hkj] at g2; cases g2
    ·rw [c1] at g2; cases g2; exact ⟨c5, j, dj, k0, hji, g1, by rw [hdj]; rfl, c1, huq⟩
    ·rw [hkj] at hdj; cases hdj
    ·rw [hkj] at hdj; cases hdj
 have hafter : ∀ (i j : Nat) (di dj : bU) (m : Nat) (k k' : Blk), ds[i]? = some di -> ds[j]? = some dj -> di.1 = none -> di.2.2 = some (m, k) -> dj.2.2 = some (m, k') -> j <= i := by
  intro i j di dj m k k' hi hj hdn hm hm'; rcases Nat.lt_or_ge i j with hlt | hge
  ·exfalso; obtain ⟨_, j0, d0, k0, a1, a2, a3, a4, a5⟩ := hput i di m k hi hdn hm; cases hdj : dj.1 with
   | none =>
    obtain ⟨_, j1, d1, k1, b1, b2, b3, b4, b5⟩ := hput j dj m k' hj hdj hm'; have e1 := b5 i di k hlt hi hm; have e2 := b5 j0 d0 k0 (by omega) a2 a4; omega
   | some t =>
    have := huniq j j0 dj d0 m k' k0 hj a2 (by rw [hdj]; rfl) a3 hm' a4; omega
  ·exact hge
 refine rF (P := F.P) k n hkn hnl hbk hbar (fun S a w => ∃ μ C h, Mid F st ds nx μ0 (fun j => S (k + j)) a w μ C h) ?_ ?_ ?_
 ·refine ⟨μ0, C0, st.h, ?_, fun _ _ h => h, fun _ _ _ h => absurd (of_decide_eq_true h) (by omega), fun _ _ _ h => absurd (of_decide_eq_true h) (by omega), fun t x ht _ => hs0.env t x ht, fun i d hi _ hs' m k hm => ?_⟩
  ·exact hs0.less (fun t x h => by simp [look] at h) (fun _ _ h => h) hnx
  ·obtain ⟨_, _, _, _, h3⟩ := hopAt i d hi; rcases h3 with ⟨_, h3, _⟩ | ⟨_, m', k', _, b1, _, _, _, b5, _⟩ | ⟨h3, _⟩ | ⟨h3, _⟩
   ·rw [h3] at hm; cases hm
   ·rw [b1] at hm; cases hm; exact hs0.nx _ b5
   ·rw [h3] at hs'; cases hs'
   ·rw [h3] at hs'; cases hs'
 ·intro i0 o S0 a w hki hin0 ho hSi hdep0 _ _ hcl0 hσ; refine Js (List.all_eq_true.1 hpb o (List.mem_of_getElem? ho)) ho ?_; obtain ⟨i, rfl⟩ : ∃ i, i0 = k + i := ⟨i0 - k, by omega⟩
  have hin : i < n - k := by omega
  obtain ⟨S, hS⟩ : ∃ S : Nat -> Bool, S = fun j => S0 (k + j) := ⟨_, rfl⟩
  have hSe : ∀ j, S j = S0 (k + j) := fun j => by rw [hS]
  rw [<- hSe] at hSi; have hfun : (fun j => if k + j = k + i then true else S0 (k + j)) = fun j => if j = i then true else S j := by
   funext j; rw [hSe]; simp
  have hdep : ∀ (j : Nat) (e : Edge), e ∈ o.after -> Region.binds .any e = true -> e.on = k + j -> S j = true := fun j e he hb e1 => by rw [hSe, <- e1]; exact hdep0 e he hb
  have hcl : ∀ (j m : Nat) (oj : Oper), l[k + j]? = some oj -> S j = true -> ∀ e ∈ oj.after, Region.binds .any e = true -> e.on = k + m -> S m = true := fun j m oj hj hl e he hb e1 => by rw [hSe] at hl ⊢; rw [<- e1]; exact hcl0 _ oj hj hl e he hb
  simp only [hfun]; rw [<- hS] at hσ; obtain ⟨μ, C, h, M⟩ := hσ; have hil : i < ds.length := by omega
  obtain ⟨d, hd⟩ : ∃ d, ds[i]? = some d := ⟨ds[i], List.getElem?_eq_getElem hil⟩
  have hoT : sg[i]? = some o := by rw [hsg i hin]; exact ho
  obtain ⟨hdst, hdN, hkind⟩ := hall i o d hoT hd; have hz : (o, i) ∈ sg.zipIdx := by rw [List.mem_zipIdx_iff_getElem?]; exact hoT
  have hlook := List.all_eq_true.1 hD2 (o, i) hz; have hslot : ∀ s ∈ o.looksAt l.toArray, ∀ v, look (dk st.env (ds.take i)) s = some v -> ax μ C v (a.tmps.getD s undef) := by
   intro s hs v hv; have h1 := List.all_eq_true.1 hlook s hs; rcases qI _ _ _ _ hv with ⟨j, dj, hj, hjs, rfl⟩ | ⟨hv, hno⟩
   ·have hji : j < i := by have := (List.getElem?_eq_some_iff.1 hj).1; rw [List.length_take] at this; omega
    rw [List.getElem?_take_of_lt hji] at hj; have hjl : j < sg.length := by omega
    have hoj := hall j _ dj (List.getElem?_eq_getElem hjl) hj; have hzj : (sg[j], j) ∈ sg.zipIdx := by rw [List.mem_zipIdx_iff_getElem?]; exact List.getElem?_eq_getElem hjl
    have h2 := List.all_eq_true.1 h1 _ hzj; simp only [hoj.1, hjs, bne_self_eq_false, Bool.false_or, Bool.and_eq_true, hji, decide_true, Bool.not_true] at h2; obtain ⟨e, he, hb⟩ := Array.any_eq_true'.1 h2.1; simp only [Bool.and_eq_true, beq_iff_eq] at hb; exact M.done j dj hj (hdep j e he hb.1 hb.2) s hjs
   ·refine M.rest s v hv fun j dj hj hSj e => ?_
    have hjl : j < sg.length := by rw [<- hlen]; exact (List.getElem?_eq_some_iff.1 hj).1
    have hjn : j < n - k := by omega
    have hoj := hall j _ dj (List.getElem?_eq_getElem hjl) hj; have hzj : (sg[j], j) ∈ sg.zipIdx := by rw [List.mem_zipIdx_iff_getElem?]; exact List.getElem?_eq_getElem hjl
    have h2 := List.all_eq_true.1 h1 _ hzj; rcases Nat.lt_trichotomy j i with hlt | heq | hgt
    ·exact hno j dj (by rw [List.getElem?_take_of_lt hlt]; exact hj) e
    ·subst heq; rw [hSi] at hSj; cases hSj
    ·simp only [hoj.1, e, bne_self_eq_false, Bool.false_or, Bool.and_eq_true, hgt, decide_true, Bool.not_true] at h2; obtain ⟨e', he', hb⟩ := Array.any_eq_true'.1 h2.2; simp only [Bool.and_eq_true, beq_iff_eq] at hb; have hlj : l[k + j]? = some sg[j] := by
      rw [<- hsg j hjn, List.getElem?_eq_getElem hjl]
     have := hcl j i _ hlj hSj e' he' hb.1 hb.2; rw [hSi] at this; cases this
  have hop : ∀ y ∈ o.op.operands, ∀ v, evD G (dk st.env (ds.take i)) y = some v -> ax μ C v (a.eval y) := by
   intro y hy v hv; cases y with
   | tmp s => exact hslot s (List.mem_append_left _ (List.mem_filterMap.2 ⟨.tmp s, by simpa using hy, rfl⟩)) v hv
   | const c => exact bW M.sim hG (by unfold evD at hv ⊢; exact hv)
   | global g => exact bW M.sim hG (by unfold evD at hv ⊢; exact hv)
   | func f => exact bW M.sim hG (by unfold evD at hv ⊢; exact hv)
  have hguard : ∀ b, bP l.toArray (dk st.env (ds.take i)) o.guard = some b -> Region.wanted o (yielded l.toArray a.tmps) = b := by
   intro b hb; unfold Region.wanted; cases hg : o.guard with
   | none => rw [hg] at hb; cases hb; rfl
   | some e =>
    obtain ⟨j, want⟩ := e; rw [hg] at hb; simp only [bP] at hb; unfold yielded; have hin2 : ∀ s, (l.toArray[j]?).bind (·.dst) = some s -> s ∈ o.looksAt l.toArray := by
     intro s hs; refine List.mem_append_right _ ?_; simp only [hg, Option.mem_toList]; exact hs
    have hsmall : ∀ s v, look (dk st.env (ds.take i)) s = some v -> s < F.N := by
     intro s v hv; rcases qI _ _ _ _ hv with ⟨j', dj, hj', hjs, rfl⟩ | ⟨hv, _⟩
     ·have hji : j' < i := by have := (List.getElem?_eq_some_iff.1 hj').1; rw [List.length_take] at this; omega
      rw [List.getElem?_take_of_lt hji] at hj'; obtain ⟨_, _, h6⟩ := hopAt j' dj hj'; exact h6.2.1 s hjs
     ·exact hN s v hv
    have hval : ∀ s v, (l.toArray[j]?).bind (·.dst) = some s -> look (dk st.env (ds.take i)) s = some (.d (.v v)) -> a.tmps[s]? = some v := by
     intro s v hs hv; have hr := bz (hslot s (hin2 s hs) _ hv); have htl := hsmall s _ hv; rw [Array.getD_eq_getD_getElem?] at hr; rw [Array.getElem?_eq_getElem (by rw [M.sim.size]; exact htl)] at hr ⊢; simpa using hr
    split at hb
    ·rename_i v hv; cases hb; obtain ⟨s, hs, hl⟩ := Option.bind_eq_some_iff.1 hv; simp only [hs, Option.bind_some, hval s _ hs hl]; rfl
    ·rename_i v hne hv; cases hb; obtain ⟨s, hs, hl⟩ := Option.bind_eq_some_iff.1 hv; simp only [hs, Option.bind_some, hval s _ hs hl]; cases v <;> first | rfl | exact (hne _ rfl).elim
    ·cases hb
  have hmadeAny : ∀ (j : Nat) (dj : bU), ds[j]? = some dj -> S j = true -> ∀ m k, dj.2.2 = some (m, k) -> ∃ k', look h m = some k' := fun j dj hj hSj m k hm => by
   rcases M.made j dj hj hSj m k hm with h1 | ⟨_, _, k', _, _, _, _, h1⟩
   ·exact ⟨k, h1⟩
   ·exact ⟨k', h1⟩
  have hplace : ∀ m k', look h m = some k' -> ∃ p, μ m = some p := fun m k' hm => by
   obtain ⟨p, hp, _⟩ := M.sim.heap m k' hm; exact ⟨p, hp⟩
  have next : ∀ (t : Tmp) (u : Value) (w' : World) (C' : aw), d.1 = some t -> d.2.2 = none -> More w C w' C' -> ax μ C' d.2.1 u -> Mid F st ds nx μ0 (fun j => if j = i then true else S j) (a.put (some t) u) w' μ C' h := by
   intro t u w' C' hdt hnone hmore hu; have hbound : t < a.tmps.size := by rw [M.sim.size]; exact hdN t hdt
   have hsim := (M.sim.more hmore).put (hdN t hdt) hu; refine ⟨hsim.less (fun t x ht => by simp [look] at ht) (fun _ _ h => h) (Nat.le_refl _), M.old, ?_, ?_, ?_, ?_⟩
   ·intro j dj hj hSj t' ht'; rw [gJ a t t' u hbound]; by_cases e : j = i
    ·subst e; rw [hd] at hj; cases hj; rw [hdt] at ht'; cases ht'; rw [if_pos rfl]; exact hu
    ·have hSj' : S j = true := by simpa [e] using hSj
     have hne : t' ≠ t := fun e2 => e (hdd j i dj d t hj hd (by rw [<- e2]; exact ht') hdt)
     rw [if_neg hne]; exact (M.done j dj hj hSj' t' ht').mono (fun _ _ h => h) hmore.sub
   ·intro j dj hj hSj m k hm; have e : j ≠ i := fun e => by subst e; rw [hd] at hj; cases hj; rw [hnone] at hm; cases hm
    rcases M.made j dj hj (by simpa [e] using hSj) m k hm with h1 | ⟨j2, d2, k2, a1, a2, a3, a4, a5⟩
    ·exact .inl h1
    ·exact .inr ⟨j2, d2, k2, a1, a2, by simp [a3], a4, a5⟩
   ·intro t' x ht' hno; rw [gJ a t t' u hbound, if_neg (fun e => hno i d hd (by simp) (by rw [hdt, e]))]; exact (M.rest t' x ht' (fun j dj hj hSj => hno j dj hj (by simp [hSj]))).mono (fun _ _ h => h) hmore.sub
   ·intro j dj hj hSj hs' m k hm; have e : j ≠ i := fun e => by subst e; simp at hSj
    exact M.fresh j dj hj (by simpa [e] using hSj) hs' m k hm
  rw [hdst]; rcases hkind with ⟨hsome, hnone, hk⟩ | ⟨hsome, m, k, res, hmk, href, hg, hmake, hm1, hm2⟩ | ⟨hnone, hnb, hg⟩ | ⟨hnone, m, k0, kb, hmk, hg, hputs, ⟨y, hy, yi, yo, hyv⟩, hfl⟩
  ·obtain ⟨t, hdt⟩ := Option.isSome_iff_exists.1 hsome; rw [hdt]; rcases hk with ⟨hg, hgive⟩ | ⟨hg, hund⟩
   ·rw [hguard _ hg, if_pos rfl]; refine hgive μ C a w nx h M.sim M.old hop _ _ fun u w' C' hmore hu => ?_
    rw [hdst, hdt]; exact ⟨μ, C', h, next t u w' C' hdt hnone hmore hu⟩
   ·rw [hguard _ hg, if_neg (by simp)]; exact ⟨μ, C, h, next t undef w C hdt hnone (More.refl M.sim.known) (by rw [hund]; exact .v _)⟩
  ·obtain ⟨t, hdt⟩ := Option.isSome_iff_exists.1 hsome; rw [hdt, hguard _ hg, if_pos rfl]; have hbound : t < a.tmps.size := by rw [M.sim.size]; exact hdN t hdt
   have hfr := M.fresh i d hd hSi hsome m k hmk; refine hmake μ C a w nx h M.sim hop m hm2 hfr _ _ fun u w' μ' C' hs' hC hμ1 hμ2 hu => ?_
   rw [hdst, hdt]; have hh0 : ∀ l k', look h l = some k' -> l ≠ m := fun l k' hl e => by
    obtain ⟨p, hp⟩ := hplace l k' hl; rw [e, hfr] at hp; cases hp
   have hlk : ∀ l k', look h l = some k' -> look ((m, k) :: h) l = some k' := fun l k' hl => by
    simp only [look]; rw [if_neg (Ne.symm (hh0 l k' hl))]; exact hl
   refine ⟨μ', C', (m, k) :: h, (hs'.put (hdN t hdt) hu).less (fun t x ht => by simp [look] at ht) (fun _ _ h => h) (Nat.le_refl _), fun l' k' hl' => hlk _ _ (M.old l' k' hl'), ?_, ?_, ?_, ?_⟩
   ·intro j dj hj hSj t' ht'; rw [gJ a t t' u hbound]; by_cases e : j = i
    ·subst e; rw [hd] at hj; cases hj; rw [hdt] at ht'; cases ht'; rw [if_pos rfl, href]; exact hu
    ·have hSj' : S j = true := by simpa [e] using hSj
     have hne : t' ≠ t := fun e2 => e (hdd j i dj d t hj hd (by rw [<- e2]; exact ht') hdt)
     rw [if_neg hne]; exact (M.done j dj hj hSj' t' ht').mono hμ1 hC
   ·intro j dj hj hSj m' k' hm'; by_cases e : j = i
    ·subst e; rw [hd] at hj; cases hj; rw [hmk] at hm'; cases hm'; left; simp [look]
    ·have hSj' : S j = true := by simpa [e] using hSj
     rcases M.made j dj hj hSj' m' k' hm' with h1 | ⟨j2, d2, k2, a1, a2, a3, a4, a5⟩
     ·exact .inl (hlk _ _ h1)
     ·exact .inr ⟨j2, d2, k2, a1, a2, by simp [a3], a4, hlk _ _ a5⟩
   ·intro t' x ht' hno; rw [gJ a t t' u hbound, if_neg (fun e => hno i d hd (by simp) (by rw [hdt, e]))]; exact (M.rest t' x ht' (fun j dj hj hSj => hno j dj hj (by simp [hSj]))).mono hμ1 hC
   ·intro j dj hj hSj hs2 m' k' hm'; have e : j ≠ i := fun e => by subst e; simp at hSj
    have h1 := M.fresh j dj hj (by simpa [e] using hSj) hs2 m' k' hm'; have hne : m' ≠ m := fun em => by subst em; exact e (huniq j i dj d m' k' k hj hd hs2 hsome hm' hmk)
    rw [hμ2 m' hne]; exact h1
  ·rw [hnone, hguard _ hg, if_neg (by simp)]; refine ⟨μ, C, h, M.sim, M.old, fun j dj hj hSj t' ht' => ?_, fun j dj hj hSj m' k' hm' => ?_, fun t' x ht' hno => M.rest t' x ht' (fun j dj hj hSj => hno j dj hj (by simp [hSj])), fun j dj hj hSj hs2 m' k' hm' => ?_⟩
   ·have e : j ≠ i := fun e => by subst e; rw [hd] at hj; cases hj; rw [hnone] at ht'; cases ht'
    exact M.done j dj hj (by simpa [e] using hSj) t' ht'
   ·have e : j ≠ i := fun e => by subst e; rw [hd] at hj; cases hj; rw [hnb] at hm'; cases hm'
    rcases M.made j dj hj (by simpa [e] using hSj) m' k' hm' with h1 | ⟨j2, d2, k2, a1, a2, a3, a4, a5⟩
    ·exact .inl h1
    ·exact .inr ⟨j2, d2, k2, a1, a2, by simp [a3], a4, a5⟩
   ·have e : j ≠ i := fun e => by subst e; simp at hSj
    exact M.fresh j dj hj (by simpa [e] using hSj) hs2 m' k' hm'
  ·rw [hnone, hguard _ hg, if_pos rfl]; obtain ⟨hnm, j0, d0, k0', a1, a2, a3, a4, a5⟩ := hput i d m kb hd hnone hmk; obtain ⟨p, hp, _⟩ := hop y hy _ hyv; have hS0 : S j0 = true := by
    cases hc : S j0 with
    | true => rfl
    | false =>
     have := M.fresh j0 d0 a2 hc a3 m k0' a4; rw [hp] at this; cases this
   have hk0 : k0' = k0 := by
    obtain ⟨⟨j, dj, g1, g2⟩, _⟩ := xv _ _ _ hfl; have hji : j < i := by have := (List.getElem?_eq_some_iff.1 g1).1; rw [List.length_take] at this; omega
    rw [List.getElem?_take_of_lt hji] at g1; obtain rfl := a5 j dj k0 hji g1 g2; rw [a2] at g1; cases g1; rw [a4] at g2; cases g2; rfl
   have hlm : look h m = some k0 := by
    rcases M.made j0 d0 a2 hS0 m k0' a4 with h1 | ⟨j2, d2, k2, b1, b2, b3, b4, b5⟩
    ·rw [<- hk0]; exact h1
    ·exfalso; have hj2 := hafter i j2 d d2 m kb k2 hd b2 hnone hmk b4; rcases Nat.lt_or_ge j2 i with hlt | hge
     ·have := a5 j2 d2 k2 hlt b2 b4; omega
     ·have : j2 = i := by omega
      subst this; rw [hSi] at b3; cases b3
   refine hputs μ C a w nx h M.sim hlm hop _ _ fun w' hs' => ?_
   have hlk : ∀ l' k', l' ≠ m -> look h l' = some k' -> look (rep h m kb) l' = some k' := fun l' k' hne hl => by rw [cg, if_neg hne]; exact hl
   have hlkm : look (rep h m kb) m = some kb := by rw [cg, if_pos rfl, hlm]; rfl
   refine ⟨μ, C, rep h m kb, hs', fun l' k' hl' => hlk l' k' (fun e => ?_) (M.old l' k' hl'), fun j dj hj hSj t' ht' => ?_, fun j dj hj hSj m' k' hm' => ?_, fun t' x ht' hno => M.rest t' x ht' (fun j dj hj hSj => hno j dj hj (by simp [hSj])), fun j dj hj hSj hs2 m' k' hm' => ?_⟩
   ·obtain ⟨q, hq, _⟩ := hs0.heap l' k' hl'; rw [hs0.nx l' (by omega)] at hq; cases hq
   ·have e : j ≠ i := fun e => by subst e; rw [hd] at hj; cases hj; rw [hnone] at ht'; cases ht'
    exact M.done j dj hj (by simpa [e] using hSj) t' ht'
   ·by_cases e : j = i
    ·subst e; rw [hd] at hj; cases hj; rw [hmk] at hm'; cases hm'; exact .inl hlkm
    ·have hSj' : S j = true := by simpa [e] using hSj
     by_cases em : m' = m
     ·subst em; have hji := hafter i j d dj m' kb k' hd hj hnone hmk hm'; exact .inr ⟨i, d, kb, by omega, hd, by simp, hmk, hlkm⟩
     ·rcases M.made j dj hj hSj' m' k' hm' with h1 | ⟨j2, d2, k2, b1, b2, b3, b4, b5⟩
      ·exact .inl (hlk _ _ em h1)
      ·exact .inr ⟨j2, d2, k2, b1, b2, by simp [b3], b4, hlk _ _ em b5⟩
   ·have e : j ≠ i := fun e => by subst e; simp at hSj
    exact M.fresh j dj hj (by simpa [e] using hSj) hs2 m' k' hm'
 ·intro S a w hS1 hS2 hσ; obtain ⟨μ, C, h, M⟩ := hσ; have hSall : ∀ (i : Nat) (d : bU), ds[i]? = some d -> S (k + i) = true := fun i d hi => hS1 (k + i) (by have := (List.getElem?_eq_some_iff.1 hi).1; omega)
  have hfin : Sim F ⟨dk st.env ds, fL ds ++ st.h, nx⟩ μ C a w := by
   have h1 : Sim F ⟨dk st.env ds, h, nx⟩ μ C a w := by
    refine ⟨M.sim.size, M.sim.defers, M.sim.below, M.sim.sub, M.sim.new, M.sim.known, fun t x ht => ?_, M.sim.heap, M.sim.inj, M.sim.nx, M.sim.gh⟩; rcases qI _ _ _ _ ht with ⟨i, d, hi, ht', rfl⟩ | ⟨hv, hno⟩
    ·exact M.done i d hi (hSall i d hi) t ht'
    ·exact M.rest t x hv (fun i d hi _ => hno i d hi)
   refine h1.less (fun _ _ h => h) (fun l' k' hl' => ?_) (Nat.le_refl _); rcases Fg _ _ _ _ hl' with ⟨i, d, hi, hd, hlast⟩ | hl'
   ·rcases M.made i d hi (hSall i d hi) l' k' hd with h2 | ⟨j, dj, k2, b1, b2, _, b4, _⟩
    ·exact h2
    ·exact absurd b4 (hlast j dj k2 b1 b2)
   ·exact M.old l' k' hl'
  exact hK μ C a w hfin
theorem SmA.chain {l : zOz} (hbk : od l = true) (k : Nat) (hb : ∀ j, k <= j -> pZ l j = true) (h : SmL F l.toArray (l.drop k) Q st) : SmA F l k Q st := fun μ C a w hs => Ba hbk _ k a w rfl hb (h μ C a w hs)
theorem au.mono {K K' : zEz -> zHz -> Nat -> Prop} (hk : ∀ env al nx, K env al nx -> K' env al nx) {ops : Array Oper} {h0 : zHz} : ∀ {l : zOz} {env : zEz} {al : zHz} {nx : Nat}, au F G N ops h0 l env al nx K -> au F G N ops h0 l env al nx K' := by
 intro l
 induction l with
 | nil => intro env al nx hh; exact hk _ _ _ hh
 | cons o l ih =>
  intro env al nx hh; rcases hh with ⟨t, h1, h2, h3⟩ | ⟨h1, h2⟩
  ·rcases h3 with ⟨x, hx, h4⟩ | ⟨k, res, hx, hm, h4⟩
   ·exact .inl ⟨t, h1, h2, .inl ⟨x, hx, ih h4⟩⟩
   ·exact .inl ⟨t, h1, h2, .inr ⟨k, res, hx, hm, ih h4⟩⟩
  ·rcases h2 with ⟨h3, h4⟩ | ⟨m, k0, kb, h3, h4, h5, h6, h7⟩
   ·exact .inr ⟨h1, .inl ⟨h3, ih h4⟩⟩
   ·exact .inr ⟨h1, .inr ⟨m, k0, kb, h3, h4, h5, h6, ih h7⟩⟩
theorem Sm.draw {id : Nat} {l : zOz} (hF : Env F P G N) (hm : P.follows .mixedOrders = true) (hN : St.small N st) (n : Nat) (hB : vj l n = true) (hD : Dc l n = true)
  (h : au F G N l.toArray st.h (l.take n) st.env [] st.nx fun env al nx => SmL F l.toArray (l.drop n) Q ⟨env, al ++ st.h, nx⟩) : Sm F (.region id l.toArray true) Q st := by
 simp only [vj, Bool.and_eq_true] at hB; obtain ⟨⟨⟨h1, h2⟩, h3⟩, h4⟩ := hB; have hnl := of_decide_eq_true h3; refine uC (by rw [hF.prog]; exact hm) (SmA.head hF hN 0 n (Nat.zero_le _) hnl h1 h2 (xz h4 (Nat.le_refl _)) hD ?_); refine au.mono (fun env al nx hk => ?_) (by simpa using h); exact SmA.chain h2 n (fun j hj => xz h4 hj) hk
end
end
section
theorem mB {ev ev' : Operand -> Option V} : ∀ {ps : List (Nat × Operand)}, (∀ e ∈ ps, ev e.2 = ev' e.2) -> dP ev ps = dP ev' ps := by
 intro ps
 induction ps with
 | nil => intro _; rfl
 | cons e ps ih =>
  intro h; obtain ⟨i, x⟩ := e; simp only [dP]; rw [h (i, x) (by simp), ih (fun e he => h e (by simp [he]))]
theorem rR {ev ev' : Operand -> Option V} : ∀ {xs : List Operand}, (∀ x ∈ xs, ev x = ev' x) -> bE ev xs = bE ev' xs := by
 intro xs
 induction xs with
 | nil => intro _; rfl
 | cons x xs ih =>
  intro h; simp only [bE]; rw [h x (by simp), ih (fun e he => h e (by simp [he]))]
theorem og {ev ev' : Operand -> Option V} {x : Option Operand} (h : ∀ y, x = some y -> ev y = ev' y) : evO ev x = evO ev' x := by
 cases x with
 | none => rfl
 | some x => simp only [evO, h x rfl]
theorem Ft {P : Program} {ev ev' : Operand -> Option V} {h : zHz} {o : Oper} (hx : ∀ x ∈ o.op.operands, ev x = ev' x) : opV P ev h o = opV P ev' h o := by
 unfold opV; cases ho : o.op with
 | move x => simp only [ho, Op.operands] at hx ⊢; exact hx x (by simp)
 | assign x => simp only [ho, Op.operands] at hx ⊢; exact hx x (by simp)
 | pick c x y =>
  simp only [ho, Op.operands] at hx ⊢; rw [hx c (by simp), hx x (by simp), hx y (by simp)]
 | load t x => simp only [ho, Op.operands] at hx ⊢; rw [hx x (by simp)]
 | nilCheck x => simp only [ho, Op.operands] at hx ⊢; rw [hx x (by simp)]
 | binOp op t x y yt => simp only [ho, Op.operands] at hx ⊢; rw [hx x (by simp), hx y (by simp)]
 | unOp op t x => simp only [ho, Op.operands] at hx ⊢; rw [hx x (by simp)]
 | convert s d x => simp only [ho, Op.operands] at hx ⊢; rw [hx x (by simp)]
 | slice t x lo hi mx =>
  simp only [ho, Op.operands] at hx ⊢; rw [hx x (by simp), og (x := lo) (fun y e => hx y (by simp [e])), og (x := hi) (fun y e => hx y (by simp [e])), og (x := mx) (fun y e => hx y (by simp [e]))]
 | fieldAddr t x f => simp only [ho, Op.operands] at hx ⊢; rw [hx x (by simp)]
 | field t x f => simp only [ho, Op.operands] at hx ⊢; rw [hx x (by simp)]
 | indexAddr t x i => simp only [ho, Op.operands] at hx ⊢; rw [hx x (by simp), hx i (by simp)]
 | index t x i => simp only [ho, Op.operands] at hx ⊢; rw [hx x (by simp), hx i (by simp)]
 | extract x i => simp only [ho, Op.operands] at hx ⊢; rw [hx x (by simp)]
 | build t ps =>
  simp only [ho, Op.operands] at hx ⊢; rw [mB (fun e he => hx e.2 (by simp; exact ⟨e.1, by simpa using he⟩))]
 | buildSlice t n ps =>
  simp only [ho, Op.operands] at hx ⊢; rw [mB (fun e he => hx e.2 (by simp; exact ⟨e.1, by simpa using he⟩))]
 | lookup t x i ok => simp only [ho, Op.operands] at hx ⊢; rw [hx x (by simp), hx i (by simp)]
 | makeFunc fn first caps =>
  simp only [ho, Op.operands] at hx ⊢; cases fn with
  | func f =>
   simp only; rw [rR (xs := caps.toList) (fun x h => hx x (by simp at h ⊢; exact .inr h))]
  | _ => simp only [mh, ho]
 | call c =>
  simp only [ho, Op.operands, Call.operands] at hx ⊢; unfold mh; simp only [ho]; cases hc : c.callee with
  | builtin b =>
   simp only [hc] at hx ⊢; have hx' : ∀ x ∈ c.args.toList, ev x = ev' x := fun x h => hx x (by simpa using h)
   split
   ·rename_i x hl; rw [hx' x (by rw [hl]; simp)]
   ·rename_i x y hl; rw [hx' x (by rw [hl]; simp), hx' y (by rw [hl]; simp)]
   ·rename_i x y hl; rw [hx' x (by rw [hl]; simp), hx' y (by rw [hl]; simp)]
   ·rfl
  | _ => rfl
 | _ => simp only [mh, ho]
section
variable {P : Program} {G : zGz} {N : Nat} {F : Fr} {ops : Array Oper} {h0 al : zHz} {rest : zOz} {o : Oper} {env : zEz} {nx : Nat} {K : zEz -> zHz -> Nat -> Prop}
open Classical in
theorem cq.val (hF : Env F P G N) {x : V} (h : opV P (evD G env) h0 o = some x) : cq F G h0 o env x := by
 intro μ C a w nx' hh hs hold hop K Q hK; obtain ⟨rfl, rfl, hG⟩ := hF; have hs' : Sim F ⟨[], h0, nx'⟩ μ C a w := hs.less (fun _ _ h => h) hold (Nat.le_refl _); have hc : opV F.P (fun y => if y ∈ o.op.operands then evD G env y else none) h0 o = some x := by
  rw [<- h]; exact Ft fun y hy => if_pos hy
 obtain ⟨u, w', C', h1, h2, h3⟩ := Fu hs' (ev := fun y => if y ∈ o.op.operands then evD G env y else none) (fun y v hv => by
  split at hv
  ·rename_i hy; exact hop y hy v hv
  ·cases hv) hc
 unfold Oper.wp; rw [h1, Oper.upon_value]; exact hK u w' C' h2 h3
theorem cq.call (hF : Env F P G N) {f : FuncId} {xs : Array Operand} {ts : Array TypeId} {ds : List D} {r : D} (ho : o.op = .call ⟨.value (.func f), xs, ts⟩)
  (hcall : ∀ args w, (callFunc f args).run P w = .ok (.enter f args) w) (hargs : bE (evD G env) xs.toList = some ds) (hc : aj P G f ds r) : cq F G h0 o env (.d r) := by
 intro μ C a w nx' hh hs hold hop K Q hK; obtain ⟨rfl, rfl, hG⟩ := hF; have hxs : ∀ y ∈ xs.toList, ∀ v, evD G env y = some v -> ax μ C v (a.eval y) := fun y hy v hv => hop y (by rw [ho]; simp [Op.operands, Call.operands]; exact .inr (by simpa using hy)) v hv
 have hrep : ∀ {ys : List Operand} {es : List D}, (∀ y ∈ ys, ∀ v, evD G env y = some v -> ax μ C v (a.eval y)) -> bE (evD G env) ys = some es -> Rp C (.outs es (ys.map a.eval)) := by
  intro ys
  induction ys with
  | nil => intro es _ h; cases h; exact .onil
  | cons y ys ih =>
   intro es hy h; simp only [bE, Option.bind_eq_some_iff] at h; obtain ⟨v, hv, h⟩ := h; split at h
   ·rename_i d; simp only [Option.map_eq_some_iff] at h; obtain ⟨r, hr, rfl⟩ := h; exact .ocons _ _ _ _ (hy y (by simp) _ hv) (ih (fun z hz => hy z (by simp [hz])) hr)
   ·cases h
 refine nq f hcall xs ts ho (xs.toList.map a.eval) rfl ?_; refine (hc C w _ (hG.mono hs.sub) hs.known (hrep hxs hargs)).mono ?_; rintro e w' ⟨v, C', rfl, hm, hr⟩; exact ⟨v, rfl, hK v w' C' hm hr⟩
theorem au.val (hF : Env F P G N) {t : Tmp} {x : V} (hd : o.dst = some t) (ht : t < N) (hg : bP ops env o.guard = some true) (h : opV P (evD G env) h0 o = some x) (k : au F G N ops h0 rest ((t, x) :: env) al nx K) : au F G N ops h0 (o :: rest) env al nx K :=
 .inl ⟨t, hd, ht, .inl ⟨x, .inl ⟨hg, .val hF h⟩, k⟩⟩
theorem au.pass {t : Tmp} (hd : o.dst = some t) (ht : t < N) (hg : bP ops env o.guard = some false) (k : au F G N ops h0 rest ((t, .d (.v undef)) :: env) al nx K) : au F G N ops h0 (o :: rest) env al nx K :=
 .inl ⟨t, hd, ht, .inl ⟨_, .inr ⟨hg, rfl⟩, k⟩⟩
theorem au.call (hF : Env F P G N) {t : Tmp} {f : FuncId} {xs : Array Operand} {ts : Array TypeId} {ds : List D} {r : D} (hd : o.dst = some t) (ht : t < N) (hg : bP ops env o.guard = some true) (ho : o.op = .call ⟨.value (.func f), xs, ts⟩)
  (hcall : ∀ args w, (callFunc f args).run P w = .ok (.enter f args) w) (hargs : bE (evD G env) xs.toList = some ds) (hc : aj P G f ds r) (k : au F G N ops h0 rest ((t, .d r) :: env) al nx K) : au F G N ops h0 (o :: rest) env al nx K :=
 .inl ⟨t, hd, ht, .inl ⟨_, .inl ⟨hg, .call hF ho hcall hargs hc⟩, k⟩⟩
theorem au.nil (k : K env al nx) : au F G N ops h0 [] env al nx K := k
theorem Sim.allocAt {μ : zMz} {C : aw} {a : Act} {w : World} {st : St} (h : Sim F st μ C a w) (m : Nat) (hm : m < st.nx) (hfree : μ m = none) (sz : Nat) (row : List V) (cur : Array Value) (T : TypeId) (hrow : row.length = sz) (hsz : cur.size = sz) (hr : gO μ C sz [row] cur.toList) (hm0 : Blk.isMap ⟨sz, [row]⟩ = false) :
  Sim F { st with h := (m, ⟨sz, [row]⟩) :: st.h } (fun l => if l = m then some ⟨w.heap.size, 1, sz⟩ else μ l) C a (w.alloc (.cells cur T)) := by
 have hμ : ∀ l p, μ l = some p -> (fun l => if l = m then some (⟨w.heap.size, 1, sz⟩ : Place) else μ l) l = some p := by
  intro l p hp; have : l ≠ m := fun e => by rw [e, hfree] at hp; cases hp
  simp [this, hp]
 have h1 := h.more (.of_below h.known ((Below.refl _ w).alloc (Nat.le_refl _) (.cells cur T))); refine ⟨h1.size, h1.defers, h1.below, h1.sub, h1.new, h1.known, fun t x hx => (h1.env t x hx).mono hμ (fun _ _ _ h => h), ?_, ?_, ?_, F.stab h.gh (nR h _ ⟨w.heap.size, 1, sz⟩ hfree hμ (by simp) (fun _ => Nat.le_refl _) (fun l hl => by simp [hl]) (.of_below h.known ((Below.refl _ w).alloc (Nat.le_refl _) (.cells cur T))))⟩
 ·intro l k hk; simp only [look] at hk; by_cases hl : m = l
  ·subst hl; rw [if_pos rfl] at hk; cases hk; refine ⟨⟨w.heap.size, 1, sz⟩, by simp, rfl, by simp, by simp, by simp [hrow], fun _ => ⟨.inl h.below.size, fun o u hc => ?_, cur, T, by rw [hm0]; exact heap_alloc_new w _, by simpa using hsz, hr.mono hμ (fun _ _ _ h => h)⟩⟩; exact absurd (h.known.lt hc) (Nat.lt_irrefl _)
  ·rw [if_neg hl] at hk; obtain ⟨p, hp, hb⟩ := h1.heap l k hk; refine ⟨p, hμ l p hp, hb.sz, hb.len, hb.max, hb.row, fun hc => ?_⟩; obtain ⟨a1, a2, cur', T', a3, a4, a5⟩ := hb.cells hc; exact ⟨a1, a2, cur', T', a3, a4, a5.mono hμ (fun _ _ _ h => h)⟩
 ·intro l l' p p' hl hl' hp hp' hc hc' hb; simp only [look] at hl hl'; have hlt : ∀ l p, (look st.h l).isSome = true -> μ l = some p -> 0 < p.cap -> p.b < w.heap.size := by
   intro l p hl hp hc; obtain ⟨k, hk⟩ := Option.isSome_iff_exists.1 hl; obtain ⟨p2, hp2, hb2⟩ := h.heap l k hk; rw [hp] at hp2; cases hp2; exact hb2.lt hc
  by_cases e : l = m <;> by_cases e' : l' = m
  ·rw [e, e']
  ·rw [if_neg (Ne.symm e')] at hl'; simp only [if_pos e, if_neg e'] at hp hp'; cases hp; have := hlt l' p' hl' hp' hc'; simp at hb; omega
  ·rw [if_neg (Ne.symm e)] at hl; simp only [if_neg e, if_pos e'] at hp hp'; cases hp'; have := hlt l p hl hp hc; simp at hb; omega
  ·rw [if_neg (Ne.symm e)] at hl; rw [if_neg (Ne.symm e')] at hl'; simp only [if_neg e, if_neg e'] at hp hp'; exact h.inj l l' p p' hl hl' hp hp' hc hc' hb
 ·intro l hl; have : l ≠ m := by have : st.nx <= l := hl; omega
  simp only [if_neg this]; exact h.nx l hl
theorem uA.store (hF : Env F P G N) {t : TypeId} {x y : Operand} {m i off : Nat} {vy : V} {k0 kb : Blk} (ho : o.op = .store t x y) (hd : o.dst = none) (hx : evD G env x = some (.ref m i off)) (hy : evD G env y = some vy) (h : dp P [(m, k0)] t (.ref m i off) vy = some (.upd m kb)) : uA F G o env m k0 kb := by
 intro μ C a w nx' hh hs hm hop K Q hK; obtain ⟨rfl, rfl, hG⟩ := hF; have hst : dp F.P (St.h ⟨[], hh, nx'⟩) t (.ref m i off) vy = some (.upd m kb) := by
  rw [<- h]; simp only [dp, look, if_true, hm]
 obtain ⟨w', h1, h2⟩ := yj hs (hop x (by rw [ho]; simp [Op.operands]) _ hx) (hop y (by rw [ho]; simp [Op.operands]) _ hy) hst; unfold Oper.wp; have : (execOp a.eval o).run F.P w = .ok .skip w' := by
  simp only [execOp, ho]; simp [Sem.run_bind, h1, Result.andThen]
 rw [this, Oper.upon_skip, hd]; exact hK w' h2
theorem au.put (hF : Env F P G N) {t : TypeId} {x y : Operand} {m i off : Nat} {vy : V} {k0 kb : Blk} (ho : o.op = .store t x y) (hd : o.dst = none) (hg : bP ops env o.guard = some true) (hx : evD G env x = some (.ref m i off)) (hy : evD G env y = some vy) (hf : (al.filter fun e => e.1 == m) = [(m, k0)])
  (h : dp P [(m, k0)] t (.ref m i off) vy = some (.upd m kb)) (k : au F G N ops h0 rest env ((m, kb) :: al) nx K) : au F G N ops h0 (o :: rest) env al nx K :=
 .inr ⟨hd, .inr ⟨m, k0, kb, hg, .store hF ho hd hx hy h, ⟨x, by rw [ho]; simp [Op.operands], i, off, hx⟩, hf, k⟩⟩
theorem au.alloc (hF : Env F P G N) {t : Tmp} {ty : TypeId} {sz : Nat} {row : List V} {T : TypeId} (hd : o.dst = some t) (ht : t < N) (hg : bP ops env o.guard = some true) (ho : o.op = .alloc ty) (h : dF P ty = some (.new sz row T))
  (k : au F G N ops h0 rest ((t, .ref nx 0 0) :: env) ((nx, ⟨sz, [row]⟩) :: al) (nx + 1) K) : au F G N ops h0 (o :: rest) env al nx K := by
 refine .inl ⟨t, hd, ht, .inr ⟨⟨sz, [row]⟩, fun m => .ref m 0 0, hg, ?_, k⟩⟩; intro μ C a w nx' hh hs hop m hm hfree K Q hK; obtain ⟨rfl, rfl, hG⟩ := hF; simp only [dF, lK, Option.bind_eq_some_iff] at h; obtain ⟨z, ⟨i, hi, hz⟩, h⟩ := h; split at h
 ·rename_i hall; cases h; have hsim := hs.allocAt m hm hfree z.cells.size (z.cells.toList.map fun v => .d (bS v)) z.cells ty (by simp) rfl (by
   intro i r hr j y hy; cases i with
   | zero =>
    simp at hr; subst hr; rw [List.getElem?_map] at hy; cases hj : z.cells.toList[j]? with
    | none => rw [hj] at hy; cases hy
    | some v =>
     rw [hj] at hy; cases hy; exact ⟨v, by simpa using hj, List.all_eq_true.1 hall v (List.mem_of_getElem? hj), mn v⟩
   | succ i => simp at hr) (Aj _ _ _)
  unfold Oper.wp; have : (execOp a.eval o).run F.P w = .ok (.value (.pointer (some ⟨w.heap.size, 0, none⟩))) (w.alloc (.cells z.cells ty)) := by
   simp only [execOp, ho]; simp [Instr.alloc, Sem.run_bind, zeroValue, typeInfo, hi, hz, newVar, newRow, newObj, Result.andThen]; rfl
  rw [this, Oper.upon_value]; refine hK _ _ _ C hsim (fun _ _ _ h => h) (fun l p hp => ?_) (fun l hl => by simp [hl]) ⟨⟨w.heap.size, 1, z.cells.size⟩, by simp, by simp, by simp⟩; have : l ≠ m := fun e => by rw [e, hfree] at hp; cases hp
  simp [this, hp]
 ·cases h
end
end
section
section
variable {F : Fr} {Q : zQz} {st : St} {ops : Array Oper} {c x y : Code}
theorem aa {K : St -> Prop} (h : K st) : ba K Q .normal st := h
end
section
variable {P : Program} {G : zGz} {N : Nat} {F : Fr} {ops : Array Oper} {rest : zOz} {o : Oper} {Q : zQz} {st : St}
theorem Bt {α : Type} : ∀ {l : List (Nat × α)} {j : Nat} {x : α}, look l j = some x -> (j, x) ∈ l := by
 intro l
 induction l with
 | nil => intro j x h; simp [look] at h
 | cons e r ih =>
  obtain ⟨k, y⟩ := e; intro j x h; simp only [look] at h; split at h
  ·rename_i hk; cases h; subst hk; simp
  ·exact List.mem_cons_of_mem _ (ih h)
def ey (N : Nat) : zEz -> Bool
 | [] => true
 | (t, _) :: r => decide (t < N) && ey N r
theorem jC (h : ey N st.env = true) : St.small N st := by
 intro t x hx; have hm := Bt hx; generalize st.env = l at h hm
 induction l with
 | nil => cases hm
 | cons e r ih =>
  obtain ⟨k, y⟩ := e; simp only [ey, Bool.and_eq_true, decide_eq_true_eq] at h; rcases List.mem_cons.1 hm with e | hm
  ·cases e; exact h.1
  ·exact ih h.2 hm
structure Good (N : Nat) (st : St) : Prop where
 small : St.small N st
theorem Good.put {t : Nat} {x : V} (h : Good N st) (ht : t < N) : Good N { st with env := (t, x) :: st.env } := ⟨by
 intro s y hy; simp only [look] at hy; split at hy
 ·rename_i e; subst e; exact ht
 ·exact h.small s y hy⟩
end
def goS (P : Program) (G : zGz) (N : Nat) (ops : Array Oper) : List Oper -> St -> List Oper × St
 | [], st => ([], st)
 | o :: l, st => (kw P G N ops o st).elim (o :: l, st) (goS P G N ops l)
def HF (P : Program) (G : zGz) (N : Nat) (ops : Array Oper) : Nat -> List Oper -> St -> Option (List Oper × St)
 | 0, l, st => some (l, st)
 | n + 1, o :: l, st => (kw P G N ops o st).bind (HF P G N ops n l)
 | _ + 1, [], _ => none
section
variable {P : Program} {G : zGz} {N : Nat} {F : Fr} {ops : Array Oper} {rest : zOz} {o : Oper} {Q : zQz} {st : St}
theorem tL {st' : St} (hs : St.small N st) (h : kw P G N ops o st = some st') : St.small N st' := by
 have put : ∀ (st : St) (t : Nat) (x : V) (h' : zHz) (nx : Nat), St.small N st -> t < N -> St.small N ⟨(t, x) :: st.env, h', nx⟩ := by
  intro st t x h' nx hs ht s y hy; simp only [look] at hy; split at hy
  ·rename_i e; subst e; exact ht
  ·exact hs s y hy
 unfold kw at h; split at h
 ·simp only [Option.bind_eq_some_iff] at h; obtain ⟨out, _, h⟩ := h; unfold iw at h; split at h
  ·split at h
   ·rename_i ht; cases h; exact put _ _ _ _ _ hs ht
   ·cases h
  ·split at h
   ·rename_i ht; cases h; exact put _ _ _ _ _ hs ht
   ·cases h
  ·cases h; exact hs
  ·cases h
 ·split at h
  ·split at h
   ·rename_i ht; cases h; exact put _ _ _ _ _ hs ht
   ·cases h
  ·cases h; exact hs
 ·cases h
theorem SmL.run (hF : Env F P G N) (n : Nat) : ∀ {l : zOz} {st : St} (_ : St.small N st) {st' : St} {rest : zOz} (_ : HF P G N ops n l st = some (rest, st')) (_ : St.small N st' -> SmL F ops rest Q st'), SmL F ops l Q st := by
 induction n with
 | zero => intro l st hs st' rest h k; cases h; exact k hs
 | succ n ih =>
  intro l st hs st' rest h k; cases l with
  | nil => cases h
  | cons o l =>
   simp only [HF, Option.bind_eq_some_iff] at h; obtain ⟨st1, h1, h2⟩ := h; exact SmL.step hF hs h1 (ih (tL hs h1) h2 k)
theorem SmL.go (hF : Env F P G N) : ∀ {l : zOz} {st : St} (_ : St.small N st) {st' : St} {rest : zOz} (_ : goS P G N ops l st = (rest, st')) (_ : SmL F ops rest Q st'), SmL F ops l Q st := by
 intro l
 induction l with
 | nil => intro st hs st' rest h k; cases h; exact k
 | cons o l ih =>
  intro st hs st' rest h k; simp only [goS] at h; cases hst : kw P G N ops o st with
  | none => rw [hst] at h; cases h; exact k
  | some st1 =>
   rw [hst] at h; exact SmL.step hF hs hst (ih (tL hs hst) h k)
end
theorem aY (n : Int) (h : -9223372036854775808 <= n /\ n <= 9223372036854775807) : IntKind.i64.wrap n = n := IntWalk.i64_in n h
section
variable (P : Program) (t : TypeId) (x y : Operand) (k : IntKind) (a b : Int)
theorem Ar : aD P (do eqGuard .add t x y (.int k a) (.int k b); binOp .add t (.int k a) (.int k b)) = some (.int k (k.wrap (a + b))) := by
 simp [eqGuard, binOp, Op.intArith, bD, bM]
theorem FJ : aD P (do eqGuard .sub t x y (.int k a) (.int k b); binOp .sub t (.int k a) (.int k b)) = some (.int k (k.wrap (a - b))) := by
 simp [eqGuard, binOp, Op.intArith, bD, bM]
theorem FG : aD P (do eqGuard .mul t x y (.int k a) (.int k b); binOp .mul t (.int k a) (.int k b)) = some (.int k (k.wrap (a * b))) := by
 simp [eqGuard, binOp, Op.intArith, bD, bM]
theorem FH (h : b ≠ 0) : aD P (do eqGuard .quo t x y (.int k a) (.int k b); binOp .quo t (.int k a) (.int k b)) = some (.int k (k.wrap (a.tdiv b))) := by
 simp [eqGuard, binOp, Op.intDiv, bD, bM, h]
theorem FI (h : b ≠ 0) : aD P (do eqGuard .rem t x y (.int k a) (.int k b); binOp .rem t (.int k a) (.int k b)) = some (.int k (a.tmod b)) := by
 simp [eqGuard, binOp, Op.intDiv, bD, bM, h]
theorem ss : aD P (do eqGuard .lss t x y (.int k a) (.int k b); binOp .lss t (.int k a) (.int k b)) = some (.bool (decide (a < b))) := by
 simp [eqGuard, binOp, Op.intCmp, bD, bM]
theorem As : aD P (do eqGuard .leq t x y (.int k a) (.int k b); binOp .leq t (.int k a) (.int k b)) = some (.bool (decide (a <= b))) := by
 simp [eqGuard, binOp, Op.intCmp, bD, bM]
theorem vL : aD P (do eqGuard .gtr t x y (.int k a) (.int k b); binOp .gtr t (.int k a) (.int k b)) = some (.bool (decide (b < a))) := by
 simp [eqGuard, binOp, Op.intCmp, bD, bM]
theorem sq : aD P (do eqGuard .geq t x y (.int k a) (.int k b); binOp .geq t (.int k a) (.int k b)) = some (.bool (decide (b <= a))) := by
 simp [eqGuard, binOp, Op.intCmp, bD, bM]
theorem my : aD P (do eqGuard .eql t x y (.int k a) (.int k b); binOp .eql t (.int k a) (.int k b)) = some (.bool (a == b)) := by
 simp [eqGuard, binOp, Op.intCmp, bD, bM]
theorem vM : aD P (do eqGuard .neq t x y (.int k a) (.int k b); binOp .neq t (.int k a) (.int k b)) = some (.bool (a != b)) := by
 simp [eqGuard, binOp, Op.intCmp, bD, bM]
theorem FF : aD P (do eqGuard .and t x y (.int k a) (.int k b); binOp .and t (.int k a) (.int k b)) = some (.int k (k.wrap (BitVec.ofInt k.bits a &&& BitVec.ofInt k.bits b).toNat)) := by
 simp [eqGuard, binOp, Op.intBits, bD, bM]
theorem IJ : aD P (do eqGuard .or t x y (.int k a) (.int k b); binOp .or t (.int k a) (.int k b)) = some (.int k (k.wrap (BitVec.ofInt k.bits a ||| BitVec.ofInt k.bits b).toNat)) := by
 simp [eqGuard, binOp, Op.intBits, bD, bM]
theorem FK : aD P (do eqGuard .xor t x y (.int k a) (.int k b); binOp .xor t (.int k a) (.int k b)) = some (.int k (k.wrap (BitVec.ofInt k.bits a ^^^ BitVec.ofInt k.bits b).toNat)) := by
 simp [eqGuard, binOp, Op.intBits, bD, bM]
theorem At (k2 : IntKind) (h : ¬ b < 0) : aD P (do eqGuard .shl t x y (.int k a) (.int k2 b); binOp .shl t (.int k a) (.int k2 b)) = some (.int k (k.wrap (a * 2 ^ (min b.toNat k.bits)))) := by
 simp [eqGuard, binOp, Op.shift, bD, bM, h]
theorem vO (k2 : IntKind) (h : ¬ b < 0) : aD P (do eqGuard .shr t x y (.int k a) (.int k2 b); binOp .shr t (.int k a) (.int k2 b)) = some (.int k (a.fdiv (2 ^ (min b.toNat k.bits)))) := by
 simp [eqGuard, binOp, Op.shift, bD, bM, h]
theorem Ck (s u : ByteArray) : aD P (do eqGuard .eql t x y (.string s) (.string u); binOp .eql t (.string s) (.string u)) = some (.bool (s.toList == u.toList)) := by
 simp [eqGuard, binOp, Op.stringOp, bD, bM]
theorem JF (s u : ByteArray) : aD P (do eqGuard .neq t x y (.string s) (.string u); binOp .neq t (.string s) (.string u)) = some (.bool (!(s.toList == u.toList))) := by
 simp [eqGuard, binOp, Op.stringOp, bD, bM]
theorem Le : aD P (Op.unary .neg (.int k a)) = some (.int k (k.wrap (0 - a))) := rfl
theorem oO (c d : Bool) (h : P.underlying t = some .bool) : aD P (Op.equal t (.bool c) (.bool d)) = some (c == d) := by
 show aD P (Op.equalIn (9999 + 1) t _ _) = _; unfold Op.equalIn; simp only [bD, Aw, h, Option.bind_some]; rfl
theorem JE (c d : Bool) (h : P.underlying t = some .bool) : aD P (do eqGuard .eql t x y (.bool c) (.bool d); binOp .eql t (.bool c) (.bool d)) = some (.bool (c == d)) := by
 have h1 : aD P (eqGuard .eql t x y (.bool c) (.bool d)) = some () := rfl; have h2 : binOp .eql t (.bool c) (.bool d) = (do pure (.bool (<- Op.equal t (.bool c) (.bool d))) : Sem Value) := rfl; rw [bD, h1, Option.bind_some, h2, bD, oO P t c d h]; rfl
theorem Au (s d : TypeId) {ds : TypeDesc} (hs : P.underlying s = some ds) (hd : P.underlying d = some (.int k)) (k2 : IntKind) : aD P (convert s d (.int k2 a)) = some (.int k (k.wrap a)) := by
 unfold convert; simp only [bD, Aw, hs, hd, Option.bind_some]; cases ds <;> rfl
end
def leE (env : zEz) : zEz -> Prop
 | [] => True
 | (t, x) :: r => look env t = some x /\ leE env r
theorem qF {env : zEz} : ∀ {env' : zEz}, leE env env' -> ∀ t x, look env' t = some x -> look env t = some x
 | [], _, t, x, h => by simp [look] at h
 | (k, y) :: r, h, t, x, hl => by
  simp only [look] at hl; split at hl
  ·rename_i e; subst e; cases hl; exact h.1
  ·exact qF h.2 t x hl
def leH (h : zHz) : zHz -> Prop
 | [] => True
 | (t, x) :: r => look h t = some x /\ leH h r
theorem nJ {env : zHz} : ∀ {env' : zHz}, leH env env' -> ∀ t x, look env' t = some x -> look env t = some x
 | [], _, t, x, h => by simp [look] at h
 | (k, y) :: r, h, t, x, hl => by
  simp only [look] at hl; split at hl
  ·rename_i e; subst e; cases hl; exact h.1
  ·exact nJ h.2 t x hl
theorem aK {st st' : St} (h1 : leE st.env st'.env) (h2 : leH st.h st'.h) (h3 : st.nx <= st'.nx) : st.le st' := ⟨qF h1, nJ h2, h3⟩
end
section
section
variable {P : Program} {G : zGz} {N : Nat} {F : Fr} {ops : Array Oper} {rest : zOz} {o : Oper} {Q : zQz} {st : St} {h0 al : zHz} {env : zEz} {nx : Nat} {K : zEz -> zHz -> Nat -> Prop}
def zf (P : Program) (G : zGz) (N : Nat) (ops : Array Oper) (h0 : zHz) (o : Oper) (env : zEz) : Option zEz :=
 match o.dst with
 | some t => if t < N then
  match bP ops env o.guard with
  | some true => (opV P (evD G env) h0 o).map fun x => (t, x) :: env
  | some false => some ((t, .d (.v undef)) :: env)
  | none => none
  else none
 | none => none
def goH (P : Program) (G : zGz) (N : Nat) (ops : Array Oper) (h0 : zHz) : List Oper -> zEz -> List Oper × zEz
 | [], env => ([], env)
 | o :: l, env => (zf P G N ops h0 o env).elim (o :: l, env) (goH P G N ops h0 l)
theorem au.step (hF : Env F P G N) {env' : zEz} (h : zf P G N ops h0 o env = some env') (k : au F G N ops h0 rest env' al nx K) : au F G N ops h0 (o :: rest) env al nx K := by
 unfold zf at h; split at h
 ·rename_i t hd; split at h
  ·rename_i ht; split at h
   ·rename_i hg; simp only [Option.map_eq_some_iff] at h; obtain ⟨x, hx, rfl⟩ := h; exact au.val hF hd ht hg hx k
   ·rename_i hg; cases h; exact au.pass hd ht hg k
   ·cases h
  ·cases h
 ·cases h
theorem au.go (hF : Env F P G N) : ∀ {l : zOz} {env : zEz} {env' : zEz} {rest : zOz} (_ : goH P G N ops h0 l env = (rest, env')) (_ : au F G N ops h0 rest env' al nx K), au F G N ops h0 l env al nx K := by
 intro l
 induction l with
 | nil => intro env env' rest h k; cases h; exact k
 | cons o l ih =>
  intro env env' rest h k; simp only [goH] at h; cases hst : zf P G N ops h0 o env with
  | none => rw [hst] at h; cases h; exact k
  | some e1 =>
   rw [hst] at h; exact au.step hF hst (ih h k)
def cD (P : Program) (f : FuncId) : Bool := match P.funcs[f]? with | some fn => fn.name != "runtime.NumGoroutine" && fn.body.isSome | none => false
theorem fX {f : FuncId} (h : cD P f = true) (args : Array Value) (w : World) : (callFunc f args).run P w = .ok (.enter f args) w := by
 unfold cD at h; unfold callFunc; cases hf : P.funcs[f]? with
 | none => rw [hf] at h; cases h
 | some fn =>
  rw [hf] at h; simp only [Bool.and_eq_true, bne_iff_ne, ne_eq] at h; obtain ⟨h1, h2⟩ := h; cases hb : fn.body with
  | none => rw [hb] at h2; cases h2
  | some c => simp [Sem.run_bind, program, Sem.run, hf, h1, hb, Result.andThen]
theorem SmL.callR (hF : Env F P G N) (hN : St.small N st) {f : FuncId} {xs : Array Operand} {ts : Array TypeId} {t : Tmp} {ds : List D} {r : D} (ho : o.op = .call ⟨.value (.func f), xs, ts⟩) (hd : o.dst = some t) (hb : cD P f = true) (ht : t < N)
  (hg : bP ops st.env o.guard = some true) (hargs : bE (evD G st.env) xs.toList = some ds) (hc : aj P G f ds r)
  (k : SmL F ops rest Q { st with env := (t, .d r) :: st.env }) : SmL F ops (o :: rest) Q st :=
 SmL.call hF hN hg ho hd (fun a w => fX hb a w) hargs ht hc k
theorem au.callR (hF : Env F P G N) {f : FuncId} {xs : Array Operand} {ts : Array TypeId} {t : Tmp} {ds : List D} {r : D} (ho : o.op = .call ⟨.value (.func f), xs, ts⟩) (hd : o.dst = some t) (hb : cD P f = true) (ht : t < N)
  (hg : bP ops env o.guard = some true) (hargs : bE (evD G env) xs.toList = some ds) (hc : aj P G f ds r)
  (k : au F G N ops h0 rest ((t, .d r) :: env) al nx K) : au F G N ops h0 (o :: rest) env al nx K :=
 au.call hF hd ht hg ho (fun a w => fX hb a w) hargs hc k
theorem au.last (k : K env al nx) : au F G N ops h0 [] env al nx K := k
theorem aj.le {f : FuncId} {ds : List D} {r r' : D} (h : aj P G f ds r) (hl : r.le r') : aj P G f ds r' := fun C w vs hG hk ha =>
 (h C w vs hG hk ha).mono fun e w' ⟨v, C', a1, a2, a3⟩ => ⟨v, C', a1, a2, hl _ _ a3⟩
theorem mu (l : Nat) : jM l [] := fun l' k _ h => by simp [look] at h
theorem lq {l : Nat} {k : Blk} {h : zHz} (f : jM l h) : jM l ((l, k) :: h) := fun l' k' hne hl => by
 simp only [look] at hl; rw [if_neg (Ne.symm hne)] at hl; exact f l' k' hne hl
theorem cW {l m : Nat} {k : Blk} {h : zHz} (f : jM l h) (hr : ∀ r ∈ k.rows, ∀ x ∈ r, V.free l x = true) : jM l ((m, k) :: h) := fun l' k' hne hl => by
 simp only [look] at hl; split at hl
 ·cases hl; exact hr
 ·exact f l' k' hne hl
abbrev dB (sz : Nat) (rows : zRz) : Blk := ⟨sz, rows.map fun r => r.map V.d⟩
theorem Cg {g : V -> V} (hg : ∀ d, g (.d d) = .d d) (sz : Nat) (rows : zRz) : cA g (dB sz rows) = dB sz rows := by
 simp only [cA, dB, List.map_map]
 congr 1
 refine List.map_congr_left fun r _ => ?_
 simp [Function.comp_def, hg]
theorem lw (l : Nat) (r : List D) : (r.map V.d).map (cH l) = r.map V.d := by simp [List.map_map, Function.comp_def, cH, V.free]
theorem nH (l : Nat) (s : Nat) (rows' : zRz) : cA (cH l) (dB s rows') = dB s rows' := Cg (fun _ => rfl) s rows'
theorem ov (l : Nat) (rows : zRz) : List.map (fun r => List.map (cH l) r) (List.map (fun r => List.map V.d r) rows) = List.map (fun r => List.map V.d r) rows := by rw [List.map_map]; exact List.map_congr_left fun r _ => lw l r
theorem EW (l sz : Nat) (rows : zRz) (r : List D) : (r.map V.d).map (bf l sz rows) = r.map V.d := by simp [List.map_map, Function.comp_def, bf]
theorem sS (l sz : Nat) (rows : zRz) (s : Nat) (rows' : zRz) : cA (bf l sz rows) (dB s rows') = dB s rows' := Cg (fun _ => rfl) s rows'
theorem iZ (l sz : Nat) (rows : zRz) : ∀ r ∈ (dB sz rows).rows, ∀ x ∈ r, V.free l x = true := by
 intro r hr x hx; obtain ⟨r', _, rfl⟩ := List.mem_map.1 hr; obtain ⟨d, _, rfl⟩ := List.mem_map.1 hx; rfl
theorem nG {l : Nat} {r : List V} {sz : Nat} (h : r.all (V.free l) = true) : ∀ r' ∈ (Blk.mk sz [r]).rows, ∀ x ∈ r', V.free l x = true := by
 intro r' hr x hx; have : r' = r := by simpa using hr
 subst this; exact List.all_eq_true.1 h x hx
theorem frH {l : Nat} {h : zHz} (k : jM l h := by repeat' first | exact mu _ | refine lq ?_ | refine cW ?_ (iZ _ _ _) | refine cW ?_ (iZ _ _ [_]) | refine cW ?_ (nG (by rfl))) : jM l h := k
end
end
section
inductive Pk where
 | one
 | tup
 | agg
def Pk.v : Pk -> Nat -> Nat -> List D -> V
 | .one, l, n, _ => .sref l 0 n
 | .tup, l, n, rest => .mix true l n rest
 | .agg, l, n, rest => .mix false l n rest
def af {α : Type} : List (Nat × α) -> Nat -> Option α
 | [], _ => none
 | (k, x) :: r, i => match Nat.beq k i with
  | true => some x
  | false => af r i
theorem aL {α : Type} (l : List (Nat × α)) (i : Nat) : af l i = look l i := by
 induction l with
 | nil => rfl
 | cons e r ih =>
  obtain ⟨k, x⟩ := e; simp only [af, look]; cases hb : Nat.beq k i with
  | true => rw [if_pos (Nat.eq_of_beq_eq_true hb)]
  | false => rw [if_neg (Nat.ne_of_beq_eq_false hb)]; exact ih
def evB (G : zGz) (env : zEz) : Operand -> Option V
 | .tmp t => af env t
 | .const v => some (.d (bS v))
 | .global g => (G g).map .d
 | .func f => some (.d (.fn f []))
theorem aT (G : zGz) (env : zEz) (x : Operand) : evB G env x = evD G env x := by
 cases x <;> simp [evB, evD, aL]
def aC (ops : zOz) (env : zEz) : Option (Nat × Bool) -> Option Bool
 | none => some true
 | some (j, want) =>
  match ops[j]? with
  | some o => match o.dst with
   | some t => match af env t with
    | some (.d (.v (.bool b))) => match b, want with
     | true, true => some true
     | true, false => some false
     | false, true => some false
     | false, false => some true
    | some (.d (.v (.tuple _))) => some false
    | _ => none
   | none => none
  | none => none
theorem aN {ops : zOz} {env : zEz} {g : Option (Nat × Bool)} {b : Bool} (h : aC ops env g = some b) : bP ops.toArray env g = some b := by
 unfold aC at h; unfold bP; split at h
 ·exact h
 ·rename_i j want; simp only [List.getElem?_toArray, <- aL]; split at h
  ·rename_i o ho; rw [ho]; split at h
   ·rename_i t ht; simp only [Option.bind_some, ht]; split at h
    ·rename_i c hc; rw [aL] at hc; rw [hc]; cases c <;> cases want <;> simpa using h
    ·rename_i hc; rw [aL] at hc; rw [hc]; exact h
    ·cases h
   ·cases h
  ·cases h
def SmG (F : Fr) (N : Nat) (ops l : zOz) (Q : zQz) (st : St) : Prop := St.small N st -> SmL F ops.toArray l Q st
section
variable {P : Program} {G : zGz} {N : Nat} {F : Fr} {ops rest : zOz} {o : Oper} {Q : zQz} {env : zEz} {h : zHz} {nx : Nat} {al : zHz} {K : zEz -> zHz -> Nat -> Prop}
theorem ab {id : Nat} {l : zOz} {st : St} (hF : Env F P G N) (hN : ey N st.env = true) (g : SmG F N l l Q st) : Sm F (.region id l.toArray false) Q st := Sm.region (g (jC hN))
theorem SmG.nil {st : St} (q : Q .normal st) : SmG F N ops [] Q st := fun _ => SmL.nil q
theorem bJ {t : Nat} {x : V} {h' : zHz} {nx' : Nat} (hs : St.small N ⟨env, h, nx⟩) (ht : t < N) : St.small N ⟨(t, x) :: env, h', nx'⟩ := by
 intro s y hy; simp only [look] at hy; split at hy
 ·rename_i e; subst e; exact ht
 ·exact hs s y hy
theorem SmG.v (hF : Env F P G N) {t : Tmp} {x : V} (hd : o.dst = some t) (ht : Nat.blt t N = true) (hg : aC ops env o.guard = some true) (hx : opV P (evD G env) h o = some x) (k : SmG F N ops rest Q ⟨(t, x) :: env, h, nx⟩) : SmG F N ops (o :: rest) Q ⟨env, h, nx⟩ := by
 have ht' : t < N := by simpa [Nat.blt_eq] using ht
 intro hs; refine SmL.step hF hs (st' := ⟨(t, x) :: env, h, nx⟩) ?_ (k (bJ hs ht')); have hout : opS P (evD G env) h o = some (.val x) := by
  unfold opS; cases ho : o.op <;> simp only [hx, Option.map_some] <;> (simp [opV, mh, ho] at hx)
 simp only [kw, aN hg, hout, Option.bind_some, iw, hd, if_pos ht']
theorem SmG.pass (hF : Env F P G N) {t : Tmp} (hd : o.dst = some t) (ht : Nat.blt t N = true) (hg : aC ops env o.guard = some false) (k : SmG F N ops rest Q ⟨(t, .d (.v (.tuple #[]))) :: env, h, nx⟩) : SmG F N ops (o :: rest) Q ⟨env, h, nx⟩ := by
 have ht' : t < N := by simpa [Nat.blt_eq] using ht
 intro hs; refine SmL.step hF hs (st' := ⟨(t, .d (.v undef)) :: env, h, nx⟩) ?_ (k (bJ hs ht')); simp only [kw, aN hg, hd, if_pos ht']
theorem yn (hF : Env F P G N) (hd : o.dst = none) (hg : aC ops env o.guard = some false) (k : SmG F N ops rest Q ⟨env, h, nx⟩) : SmG F N ops (o :: rest) Q ⟨env, h, nx⟩ := by
 intro hs; refine SmL.step hF hs (st' := ⟨env, h, nx⟩) ?_ (k hs); simp only [kw, aN hg, hd]
theorem SmG.new (hF : Env F P G N) {t : Tmp} {sz : Nat} {row : List V} {T : TypeId} (hd : o.dst = some t) (ht : Nat.blt t N = true) (hg : aC ops env o.guard = some true) (hx : opS P (evD G env) h o = some (.new sz row T)) (k : SmG F N ops rest Q ⟨(t, .ref nx 0 0) :: env, (nx, ⟨sz, [row]⟩) :: h, nx + 1⟩) : SmG F N ops (o :: rest) Q ⟨env, h, nx⟩ := by
 have ht' : t < N := by simpa [Nat.blt_eq] using ht
 intro hs; refine SmL.step hF hs (st' := ⟨(t, .ref nx 0 0) :: env, (nx, ⟨sz, [row]⟩) :: h, nx + 1⟩) ?_ (k (bJ hs ht')); simp only [kw, aN hg, hx, Option.bind_some, iw, hd, if_pos ht']
theorem SmG.store (hF : Env F P G N) {t : TypeId} {x y : Operand} {vx vy : V} {l : Nat} {kb : Blk} (ho : o.op = .store t x y) (hd : o.dst = none) (hg : aC ops env o.guard = some true) (hx : evB G env x = some vx) (hy : evB G env y = some vy) (hst : dp P h t vx vy = some (.upd l kb)) (k : SmG F N ops rest Q ⟨env, rep h l kb, nx⟩) : SmG F N ops (o :: rest) Q ⟨env, h, nx⟩ := by
 intro hs; refine SmL.step hF hs (st' := ⟨env, rep h l kb, nx⟩) ?_ (k hs); rw [aT] at hx hy; simp only [kw, aN hg, hd, opS, ho, hx, hy, hst, Option.bind_some, iw]
theorem SmG.is {st : St} (g : SmG F N ops (o :: rest) Q st) : SmG F N ops (o :: rest) Q st := g
theorem au.is (g : au F G N ops.toArray h (o :: rest) env al nx K) : au F G N ops.toArray h (o :: rest) env al nx K := g
theorem jk {xs : List Operand} : ∀ {ds : List D}, bE (evB G env) xs = some ds -> bE (evD G env) xs = some ds := by
 intro ds h; rw [<- h]; exact rR fun x _ => (aT G env x).symm
theorem SmG.call (hF : Env F P G N) {f : FuncId} {xs : List Operand} {ts : Array TypeId} {t : Tmp} {ds : List D} {r : D} (ho : o.op = .call ⟨.value (.func f), xs.toArray, ts⟩) (hd : o.dst = some t) (hb : cD P f = true) (ht : Nat.blt t N = true)
  (hg : aC ops env o.guard = some true) (hargs : bE (evB G env) xs = some ds) (hc : aj P G f ds r)
  (k : SmG F N ops rest Q ⟨(t, .d r) :: env, h, nx⟩) : SmG F N ops (o :: rest) Q ⟨env, h, nx⟩ := by
 have ht' : t < N := by simpa [Nat.blt_eq] using ht
 intro hs; exact SmL.callR hF hs ho hd hb ht' (aN hg) (jk (by simpa using hargs)) hc (k (bJ hs ht'))
theorem au.v (hF : Env F P G N) {t : Tmp} {x : V} (hd : o.dst = some t) (ht : Nat.blt t N = true) (hg : aC ops env o.guard = some true) (hx : opV P (evD G env) h o = some x) (k : au F G N ops.toArray h rest ((t, x) :: env) al nx K) : au F G N ops.toArray h (o :: rest) env al nx K :=
 au.val hF hd (by simpa [Nat.blt_eq] using ht) (aN hg) hx k
theorem au.p (hF : Env F P G N) {t : Tmp} (hd : o.dst = some t) (ht : Nat.blt t N = true) (hg : aC ops env o.guard = some false) (k : au F G N ops.toArray h rest ((t, .d (.v (.tuple #[]))) :: env) al nx K) : au F G N ops.toArray h (o :: rest) env al nx K :=
 au.pass hd (by simpa [Nat.blt_eq] using ht) (aN hg) k
theorem au.c (hF : Env F P G N) {f : FuncId} {xs : List Operand} {ts : Array TypeId} {t : Tmp} {ds : List D} {r : D} (ho : o.op = .call ⟨.value (.func f), xs.toArray, ts⟩) (hd : o.dst = some t) (hb : cD P f = true) (ht : Nat.blt t N = true)
  (hg : aC ops env o.guard = some true) (hargs : bE (evB G env) xs = some ds) (hc : aj P G f ds r)
  (k : au F G N ops.toArray h rest ((t, .d r) :: env) al nx K) : au F G N ops.toArray h (o :: rest) env al nx K :=
 au.callR hF ho hd hb (by simpa [Nat.blt_eq] using ht) (aN hg) (jk (by simpa using hargs)) hc k
theorem au.new (hF : Env F P G N) {t : Tmp} {ty : TypeId} {sz : Nat} {row : List V} {T : TypeId} (ho : o.op = .alloc ty) (hd : o.dst = some t) (ht : Nat.blt t N = true) (hg : aC ops env o.guard = some true) (hx : dF P ty = some (.new sz row T))
  (k : au F G N ops.toArray h rest ((t, .ref nx 0 0) :: env) ((nx, ⟨sz, [row]⟩) :: al) (nx + 1) K) : au F G N ops.toArray h (o :: rest) env al nx K :=
 au.alloc hF hd (by simpa [Nat.blt_eq] using ht) (aN hg) ho hx k
def Lj (l : zOz) (k n : Nat) : Bool := decide (k <= n) && decide (n <= l.length) && l.all pI && od l && pZ l n && Dd l k n
theorem dD {id : Nat} {l : zOz} {st : St} (hF : Env F P G N) (hm : P.follows .mixedOrders = true) (h : SmA F l 0 Q st) : Sm F (.region id l.toArray true) Q st := uC (by rw [hF.prog]; exact hm) h
theorem ik {l : zOz} {st : St} (hF : Env F P G N) (hN : ey N st.env = true) (k n : Nat) (hB : Lj l k n = true)
  (g : au F G N l.toArray st.h ((l.drop k).take (n - k)) st.env [] st.nx fun env al nx => SmA F l n Q ⟨env, al ++ st.h, nx⟩) : SmA F l k Q st := by
 simp only [Lj, Bool.and_eq_true] at hB; obtain ⟨⟨⟨⟨⟨h1, h2⟩, h3⟩, h4⟩, h5⟩, h6⟩ := hB; exact SmA.head hF (jC hN) k n (of_decide_eq_true h1) (of_decide_eq_true h2) h3 h4 h5 h6 g
theorem lO {l : zOz} {st : St} (hF : Env F P G N) (k : Nat) (hN : ey N st.env = true) (hB : (od l && pZ l (k + 1)) = true) (ho : l[k]? = some o) (g : SmG F N l [o] (ba (SmA F l (k + 1) Q) Q) st) : SmA F l k Q st := by
 simp only [Bool.and_eq_true] at hB; exact SmA.one hB.1 hB.2 ho (g (jC hN))
theorem au.st (hF : Env F P G N) {t : TypeId} {x y : Operand} {m i off : Nat} {vy : V} {k0 kb : Blk} (ho : o.op = .store t x y) (hd : o.dst = none) (hg : aC ops env o.guard = some true) (hx : evB G env x = some (.ref m i off)) (hy : evB G env y = some vy) (hf : (al.filter fun e => e.1 == m) = [(m, k0)])
  (hs : dp P [(m, k0)] t (.ref m i off) vy = some (.upd m kb)) (k : au F G N ops.toArray h rest env ((m, kb) :: al) nx K) : au F G N ops.toArray h (o :: rest) env al nx K :=
 au.put hF ho hd (aN hg) (by rw [<- aT]; exact hx) (by rw [<- aT]; exact hy) hf hs k
theorem eW {id : Nat} {l : zOz} {st : St} (hF : Env F P G N) (hm : P.follows .mixedOrders = true) (hN : ey N st.env = true) (n : Nat) (hB : vj l n = true) (hD : Dc l n = true)
  (g : au F G N l.toArray st.h (l.take n) st.env [] st.nx fun env al nx => ey N env = true /\ SmG F N l (l.drop n) Q ⟨env, al ++ st.h, nx⟩) : Sm F (.region id l.toArray true) Q st := by
 refine Sm.draw hF hm (jC hN) n hB hD (au.mono ?_ g); intro env al nx hk; exact hk.2 (jC (st := ⟨env, al ++ st.h, nx⟩) hk.1)
end
section
variable {P : Program} {G : zGz} {env : zEz} {h : zHz} {o : Oper}
theorem kE {x : Operand} {v : V} (ho : o.op = .move x) (hx : evB G env x = some v) : opV P (evD G env) h o = some v := by
 rw [aT] at hx; simp only [opV, ho, hx]
theorem vE {x : Operand} {v : V} (ho : o.op = .assign x) (hx : evB G env x = some v) : opV P (evD G env) h o = some v := by
 rw [aT] at hx; simp only [opV, ho, hx]
theorem aO {c x y : Operand} {v : V} (ho : o.op = .pick c x y) (hc : evB G env c = some (.d (.v (.bool true)))) (hx : evB G env x = some v) : opV P (evD G env) h o = some v := by
 rw [aT] at hx hc; simp only [opV, ho, hx, hc, Option.bind_some]
theorem aU {c x y : Operand} {v : V} (ho : o.op = .pick c x y) (hc : evB G env c = some (.d (.v (.bool false)))) (hy : evB G env y = some v) : opV P (evD G env) h o = some v := by
 rw [aT] at hy hc; simp only [opV, ho, hy, hc, Option.bind_some]
theorem ae {t : TypeId} {x : Operand} {v y : V} (ho : o.op = .load t x) (hx : evB G env x = some v) (hy : aX P h t v = some y) : opV P (evD G env) h o = some y := by
 rw [aT] at hx; simp only [opV, ho, hx, Option.bind_some, hy]
theorem bt {x : Operand} {l i off : Nat} (ho : o.op = .nilCheck x) (hx : evB G env x = some (.ref l i off)) : opV P (evD G env) h o = some (.ref l i off) := by
 rw [aT] at hx; simp only [opV, ho, hx, Option.bind_some]
theorem yJ {x : Operand} {n : Nat} {row : List D} (ho : o.op = .nilCheck x) (hx : evB G env x = some (.d (.ptr n row))) : opV P (evD G env) h o = some (.d (.ptr n row)) := by
 rw [aT] at hx; simp only [opV, ho, hx, Option.bind_some]
theorem ah {op : BinOp} {t yt : TypeId} {x y : Operand} {a b u : Value} (ho : o.op = .binOp op t x y yt) (hx : evB G env x = some (.d (.v a))) (hy : evB G env y = some (.d (.v b))) (hu : aD P (do eqGuard op t x y a b; binOp op t a b) = some u) : opV P (evD G env) h o = some (.d (.v u)) := by
 rw [aT] at hx hy; simp only [opV, ho, hx, hy, Option.bind_some, fZ, hu, Option.map_some]
theorem jP {t yt : TypeId} {x y : Operand} {n m : Nat} {a b : List D} {c : Bool} (ho : o.op = .binOp .eql t x y yt) (hx : evB G env x = some (.d (.agg n a))) (hy : evB G env y = some (.d (.agg m b))) (hu : lg P t (.d (.agg n a)) (.d (.agg m b)) = some c) : opV P (evD G env) h o = some (.d (.v (.bool c))) := by
 rw [aT] at hx hy; simp only [opV, ho, hx, hy, Option.bind_some, fZ, hu, Option.map_some]
theorem Cj {t yt : TypeId} {x y : Operand} {n m : Nat} {a b : List D} {c : Bool} (ho : o.op = .binOp .neq t x y yt) (hx : evB G env x = some (.d (.agg n a))) (hy : evB G env y = some (.d (.agg m b))) (hu : lg P t (.d (.agg n a)) (.d (.agg m b)) = some c) : opV P (evD G env) h o = some (.d (.v (.bool (!c)))) := by
 rw [aT] at hx hy; simp only [opV, ho, hx, hy, Option.bind_some, fZ, hu, Option.map_some]
theorem eM {op : UnOp} {t : TypeId} {x : Operand} {a u : Value} (ho : o.op = .unOp op t x) (hx : evB G env x = some (.d (.v a))) (hu : aD P (Op.unary op a) = some u) : opV P (evD G env) h o = some (.d (.v u)) := by
 rw [aT] at hx; simp only [opV, ho, hx, Option.bind_some, fZ, hu, Option.map_some]
theorem cB {s d : TypeId} {x : Operand} {v y : V} (ho : o.op = .convert s d x) (hx : evB G env x = some v) (hy : fM P s d v = some y) : opV P (evD G env) h o = some y := by
 rw [aT] at hx; simp only [opV, ho, hx, Option.bind_some, hy]
theorem De {x : Option Operand} {y : Option V} (hx : evO (evB G env) x = some y) : evO (evD G env) x = some y := by
 rw [<- hx]; exact og fun z _ => (aT G env z).symm
theorem bC {t : TypeId} {x : Operand} {lo hi mx : Option Operand} {v y : V} {lv hv mv : Option V} (ho : o.op = .slice t x lo hi mx) (hx : evB G env x = some v) (h1 : evO (evB G env) lo = some lv) (h2 : evO (evB G env) hi = some hv) (h3 : evO (evB G env) mx = some mv) (hy : dI P h t v lv hv mv = some y) : opV P (evD G env) h o = some y := by
 rw [aT] at hx; simp only [opV, ho, hx, De h1, De h2, De h3, Option.bind_some, hy]
theorem ag {t : TypeId} {x : Operand} {f : Nat} {v y : V} (ho : o.op = .fieldAddr t x f) (hx : evB G env x = some v) (hy : eH P t v f = some y) : opV P (evD G env) h o = some y := by
 rw [aT] at hx; simp only [opV, ho, hx, Option.bind_some, hy]
theorem se {t : TypeId} {x : Operand} {f : Nat} {v y : V} (ho : o.op = .field t x f) (hx : evB G env x = some v) (hy : jp P t v f = some y) : opV P (evD G env) h o = some y := by
 rw [aT] at hx; simp only [opV, ho, hx, Option.bind_some, hy]
theorem ak {t : TypeId} {x i : Operand} {v w y : V} (ho : o.op = .indexAddr t x i) (hx : evB G env x = some v) (hi : evB G env i = some w) (hy : cG P h t v w = some y) : opV P (evD G env) h o = some y := by
 rw [aT] at hx hi; simp only [opV, ho, hx, hi, Option.bind_some, hy]
theorem pj {x : Operand} {i : Nat} {xs : List D} {d : D} (ho : o.op = .extract x i) (hx : evB G env x = some (.d (.tup xs))) (hi : xs[i]? = some d) : opV P (evD G env) h o = some (.d d) := by
 rw [aT] at hx; simp only [opV, ho, hx, hi, Option.bind_some, Option.map_some]
theorem aJ {x : Operand} {t : TypeId} {v y : V} (ho : o.op = .call ⟨.builtin .len, #[x], #[t]⟩) (hx : evB G env x = some v) (hy : hU P t v = some y) : opV P (evD G env) h o = some y := by
 rw [aT] at hx; simp only [opV, mh, ho, hx, Option.bind_some, hy]
theorem Jv {x y : Operand} {ts : Array TypeId} {k : IntKind} {a b : Int} (ho : o.op = .call ⟨.builtin .min, #[x, y], ts⟩) (hx : evB G env x = some (.d (.v (.int k a)))) (hy : evB G env y = some (.d (.v (.int k b)))) {u : Value} (hu : aD P (Builtin.min_ ts o.type #[.int k a, .int k b]) = some u) : opV P (evD G env) h o = some (.d (.v u)) := by
 rw [aT] at hx hy; simp only [opV, mh, ho, hx, hy, Option.bind_some, fZ, hu, Option.map_some]
theorem Ju {x y : Operand} {ts : Array TypeId} {k : IntKind} {a b : Int} (ho : o.op = .call ⟨.builtin .max, #[x, y], ts⟩) (hx : evB G env x = some (.d (.v (.int k a)))) (hy : evB G env y = some (.d (.v (.int k b)))) {u : Value} (hu : aD P (Builtin.max_ ts o.type #[.int k a, .int k b]) = some u) : opV P (evD G env) h o = some (.d (.v u)) := by
 rw [aT] at hx hy; simp only [opV, mh, ho, hx, hy, Option.bind_some, fZ, hu, Option.map_some]
theorem oh {ps : List (Nat × Operand)} {qs : zEz} (hx : dP (evB G env) ps = some qs) : dP (evD G env) ps = some qs := by
 rw [<- hx]; exact mB fun z _ => (aT G env z.2).symm
theorem bc {t : TypeId} {n : Nat} {ps : List (Nat × Operand)} {qs : zEz} {y : V} (ho : o.op = .buildSlice t n ps.toArray) (hx : dP (evB G env) ps = some qs) (hy : bn P t n qs = some y) : opV P (evD G env) h o = some y := by
 simp only [opV, ho, oh hx, Option.bind_some, hy]
theorem gw {t : TypeId} {ps : List (Nat × Operand)} {qs : zEz} {y : V} {n : Nat} {e : TypeId} (ho : o.op = .build t ps.toArray) (hu : P.underlying t = some (.array n e)) (hx : dP (evB G env) ps = some qs) (hy : dS P t qs = some y) : opV P (evD G env) h o = some y := by
 simp only [opV, ho, oh hx, Option.bind_some, hu, hy]
theorem cZ {t : TypeId} {ps : List (Nat × Operand)} {qs : zEz} {y : V} {fs : Array Field} (ho : o.op = .build t ps.toArray) (hu : P.underlying t = some (.struct fs)) (hall : (fs.toList.all fun f => (az P f.type).isSome) = true) (hx : dP (evB G env) ps = some qs) (hy : dS P t qs = some y) : opV P (evD G env) h o = some y := by
 simp only [opV, ho, oh hx, Option.bind_some, hu, hall, if_true, hy]
theorem aF {t : TypeId} {u : Out} (ho : o.op = .alloc t) (hu : dF P t = some u) : opS P (evD G env) h o = some u := by
 simp only [opS, ho, hu]
theorem fb {t : TypeId} {x : Operand} {v : V} {u : Out} (ho : o.op = .box t x) (hx : evB G env x = some v) (hu : tQ t v = some u) : opS P (evD G env) h o = some u := by
 rw [aT] at hx; simp only [opS, ho, hx, Option.bind_some, hu]
end
section
variable (P : Program) (t : TypeId) (x y : Operand) (k : IntKind) {a b : Int}
theorem eN (h : k.wrap (a + b) = a + b) : aD P (do eqGuard .add t x y (.int k a) (.int k b); binOp .add t (.int k a) (.int k b)) = some (.int k (a + b)) := by rw [Ar, h]
theorem ib (h : k.wrap (a - b) = a - b) : aD P (do eqGuard .sub t x y (.int k a) (.int k b); binOp .sub t (.int k a) (.int k b)) = some (.int k (a - b)) := by rw [FJ, h]
theorem vP (h : k.wrap (a * b) = a * b) : aD P (do eqGuard .mul t x y (.int k a) (.int k b); binOp .mul t (.int k a) (.int k b)) = some (.int k (a * b)) := by rw [FG, h]
theorem eu (h : a < b) : aD P (do eqGuard .lss t x y (.int k a) (.int k b); binOp .lss t (.int k a) (.int k b)) = some (.bool true) := by rw [ss, decide_eq_true h]
theorem eR (h : ¬ a < b) : aD P (do eqGuard .lss t x y (.int k a) (.int k b); binOp .lss t (.int k a) (.int k b)) = some (.bool false) := by rw [ss, decide_eq_false h]
theorem te (h : a <= b) : aD P (do eqGuard .leq t x y (.int k a) (.int k b); binOp .leq t (.int k a) (.int k b)) = some (.bool true) := by rw [As, decide_eq_true h]
theorem wX (h : ¬ a <= b) : aD P (do eqGuard .leq t x y (.int k a) (.int k b); binOp .leq t (.int k a) (.int k b)) = some (.bool false) := by rw [As, decide_eq_false h]
theorem JI (h : b < a) : aD P (do eqGuard .gtr t x y (.int k a) (.int k b); binOp .gtr t (.int k a) (.int k b)) = some (.bool true) := by rw [vL, decide_eq_true h]
theorem wW (h : ¬ b < a) : aD P (do eqGuard .gtr t x y (.int k a) (.int k b); binOp .gtr t (.int k a) (.int k b)) = some (.bool false) := by rw [vL, decide_eq_false h]
theorem pL (h : b <= a) : aD P (do eqGuard .geq t x y (.int k a) (.int k b); binOp .geq t (.int k a) (.int k b)) = some (.bool true) := by rw [sq, decide_eq_true h]
theorem pK (h : ¬ b <= a) : aD P (do eqGuard .geq t x y (.int k a) (.int k b); binOp .geq t (.int k a) (.int k b)) = some (.bool false) := by rw [sq, decide_eq_false h]
theorem dR (h : a = b) : aD P (do eqGuard .eql t x y (.int k a) (.int k b); binOp .eql t (.int k a) (.int k b)) = some (.bool true) := by rw [my, beq_iff_eq.2 h]
theorem jQ (h : a ≠ b) : aD P (do eqGuard .eql t x y (.int k a) (.int k b); binOp .eql t (.int k a) (.int k b)) = some (.bool false) := by rw [my, beq_eq_false_iff_ne.2 h]
theorem nk (h : a ≠ b) : aD P (do eqGuard .neq t x y (.int k a) (.int k b); binOp .neq t (.int k a) (.int k b)) = some (.bool true) := by rw [vM, bne_iff_ne.2 h]
theorem jc (h : a = b) : aD P (do eqGuard .neq t x y (.int k a) (.int k b); binOp .neq t (.int k a) (.int k b)) = some (.bool false) := by rw [vM, bne_eq_false_iff_eq.2 h]
theorem JJ {ts : Array TypeId} {T : TypeId} (h : a <= b) : aD P (Builtin.min_ ts T #[.int .i64 a, .int .i64 b]) = some (.int .i64 a) := by
 have : ¬ b < a := by omega
 simp [Builtin.min_, Builtin.min2, bM, this]
theorem JK {ts : Array TypeId} {T : TypeId} (h : b <= a) : aD P (Builtin.min_ ts T #[.int .i64 a, .int .i64 b]) = some (.int .i64 b) := by
 by_cases hb : b < a
 ·simp [Builtin.min_, Builtin.min2, bM, hb]
 ·have : a = b := by omega
  subst this; simp [Builtin.min_, Builtin.min2, bM]
theorem xi (n : Int) (h : 0 <= n /\ n <= 4294967295) : IntKind.u32.wrap n = n := IntWalk.u32_in n h
theorem xj (n : Int) (h : 0 <= n /\ n <= 18446744073709551615) : IntKind.u64.wrap n = n := by rw [IntKind.wrap_u64]; omega
theorem La (h0 : 0 <= a /\ a <= 9223372036854775807) (h1 : 0 < b) : aD P (do eqGuard .quo t x y (.int .i64 a) (.int .i64 b); binOp .quo t (.int .i64 a) (.int .i64 b)) = some (.int .i64 (a / b)) := by
 rw [FH P t x y .i64 a b (by omega), Int.tdiv_eq_ediv_of_nonneg h0.1, aY]; refine ⟨?_, ?_⟩
 ·have := Int.ediv_nonneg h0.1 (Int.le_of_lt h1); omega
 ·have := Int.ediv_le_self b h0.1; omega
theorem Av (h0 : 0 <= a) (h1 : 0 < b) : aD P (do eqGuard .rem t x y (.int k a) (.int k b); binOp .rem t (.int k a) (.int k b)) = some (.int k (a % b)) := by
 rw [FI P t x y k a b (by omega), Int.tmod_eq_emod_of_nonneg h0]
theorem KZ {c d r : Bool} (h : P.underlying t = some .bool) (e : (c == d) = r) : aD P (do eqGuard .eql t x y (.bool c) (.bool d); binOp .eql t (.bool c) (.bool d)) = some (.bool r) := by
 rw [JE P t x y c d h, e]
theorem pJ {c d r : Bool} (h : P.underlying t = some .bool) (e : (c != d) = r) : aD P (do eqGuard .neq t x y (.bool c) (.bool d); binOp .neq t (.bool c) (.bool d)) = some (.bool r) := by
 have h1 : aD P (eqGuard .neq t x y (.bool c) (.bool d)) = some () := rfl; have h2 : binOp .neq t (.bool c) (.bool d) = (do pure (.bool (!(<- Op.equal t (.bool c) (.bool d)))) : Sem Value) := rfl; rw [bD, h1, Option.bind_some, h2, bD, oO P t c d h, <- e]; rfl
theorem su {c : Bool} : aD P (Op.unary .not (.bool c)) = some (.bool (!c)) := rfl
theorem gj : aD P (Op.unary .not (.bool true)) = some (.bool false) := rfl
theorem tf : aD P (Op.unary .not (.bool false)) = some (.bool true) := rfl
end
section
theorem Bo (n : Nat) : (n <= n) = True := by simp
end
theorem CU (k : IntKind) (n d : Nat) : bx (some (.d (.v (.int k (n : Int))))) d = some n := by
 simp [bx, iI]
theorem Be (k : IntKind) (d : Nat) : bx (some (.d (.v (.int k 0)))) d = some 0 := rfl
theorem Bf (k : IntKind) (d : Nat) : bx (some (.d (.v (.int k 1)))) d = some 1 := rfl
theorem Bg (d : Nat) : bx none d = some d := rfl
theorem CT (k : IntKind) {n : Int} (d : Nat) (h : 0 <= n) : bx (some (.d (.v (.int k n)))) d = some n.toNat := by
 simp [bx, iI, h]
theorem aE {α : Type} {c : Prop} [Decidable c] (h : c) (x y : α) : (if c then x else y) = x := if_pos h
section
variable {P : Program} {G : zGz} {N : Nat} {F : Fr} {ops rest : zOz} {o : Oper} {Q : zQz} {env : zEz} {h : zHz} {nx : Nat} {t e : TypeId} {z : Value} {size bytes : Nat}
theorem SmG.appendOwn (hF : Env F P G N) (hE : ElemT P t e z size bytes) {s x : Operand} {d : Tmp} {sz' l n : Nat} {xs ys : zRz} {f : Bool} (ho : o.op = .call ⟨.builtin .append, #[s, x], #[t, t]⟩) (hd : o.dst = some d) (hdN : Nat.blt d N = true) (hg : aC ops env o.guard = some true)
  (hs : evB G env s = some (.sref l 0 n)) (hx : evB G env x = some (.d (.list sz' ys f))) (hl : af h l = some ⟨size, xs.map fun r => r.map V.d⟩) (hn : n = xs.length) (hsz' : sz' = size \/ ys = []) (hfree : jM l h) (hb : (xs.length + ys.length) * bytes <= 140737488355328) (hb2 : xs.length + ys.length <= 140737488355328)
  (k : SmG F N ops rest Q ⟨(d, .sref l 0 (xs ++ ys).length) :: dn l env, rep h l (dB size (xs ++ ys)), nx⟩) (hlow : F.n0 <= l := by omega) : SmG F N ops (o :: rest) Q ⟨env, h, nx⟩ := by
 have hdN' : d < N := by simpa [Nat.blt_eq] using hdN
 intro hsm; rw [aT] at hs hx; rw [aL] at hl; refine SmL.appendOwn (ops := ops.toArray) (rest := rest) (st := ⟨env, h, nx⟩) hF hsm hE (aN hg) ho hd hdN' hs hl hn hx hsz' hfree hb hb2 hlow ?_; rw [List.length_append] at k; refine k (bJ (h := h) (nx := nx) ?_ hdN'); intro s y hy; simp only [jv] at hy; cases hq : look env s with
 | none => rw [hq] at hy; cases hy
 | some y' => exact hsm s y' hq
theorem SmG.append (hF : Env F P G N) (hE : ElemT P t e z size bytes) {s x : Operand} {d : Tmp} {sz sz' : Nat} {xs ys : zRz} {f : Bool} (ho : o.op = .call ⟨.builtin .append, #[s, x], #[t, t]⟩) (hd : o.dst = some d) (hdN : Nat.blt d N = true) (hg : aC ops env o.guard = some true)
  (hs : evB G env s = some (.d (.list sz xs true))) (hx : evB G env x = some (.d (.list sz' ys f))) (hsz : sz = size \/ xs = []) (hsz' : sz' = size \/ ys = []) (hb : (xs.length + ys.length) * bytes <= 140737488355328) (hb2 : xs.length + ys.length <= 140737488355328)
  (k : SmG F N ops rest Q ⟨(d, .d (.list size (xs ++ ys) false)) :: env, h, nx⟩) : SmG F N ops (o :: rest) Q ⟨env, h, nx⟩ := by
 have hdN' : d < N := by simpa [Nat.blt_eq] using hdN
 intro hsm; rw [aT] at hs hx; exact SmL.append hF hsm hE (aN hg) ho hd hdN' hs hx hsz hsz' hb hb2 (k (bJ hsm hdN'))
end
section
variable {P : Program} {G : zGz} {N : Nat} {F : Fr} {Q : zQz} {env : zEz} {h : zHz} {nx : Nat} {c : Operand} {x y : Code}
theorem eV {t : Bool} (hF : Env F P G N) (hc : evB G env c = some (.d (.v (.bool t)))) (ht : t = true -> Sm F x Q ⟨env, h, nx⟩) (hf : t = false -> Sm F y Q ⟨env, h, nx⟩) : Sm F (.cond c x y) Q ⟨env, h, nx⟩ := Sm.cond hF.glob (by rw [<- aT]; exact hc) ht hf
theorem aZ (hF : Env F P G N) (hc : evB G env c = some (.d (.v (.bool true)))) (ht : Sm F x Q ⟨env, h, nx⟩) : Sm F (.cond c x y) Q ⟨env, h, nx⟩ := eV hF hc (fun _ => ht) (fun h => by cases h)
theorem aS (hF : Env F P G N) (hc : evB G env c = some (.d (.v (.bool false)))) (hf : Sm F y Q ⟨env, h, nx⟩) : Sm F (.cond c x y) Q ⟨env, h, nx⟩ := eV hF hc (fun h => by cases h) (fun _ => hf)
end
theorem aI {id : Nat} {Q : zQz} {st : St} (h : Q .normal st) : bR id Q .normal st := h
attribute [go_sem] aX dp gm cj bv seg cG vl dI hU jp eH qR bn dS dF tQ fM iI fZ CU Bg Be Bf CT look bS Option.bind_some Option.map_some Option.bind_none Option.map_none List.map_cons List.map_nil Nat.zero_add Nat.add_zero
attribute [go_sem] Int.toNat_natCast Int.toNat_zero Int.toNat_one List.getElem?_cons_succ List.getElem?_cons_zero List.getElem?_map Option.isNone_none Option.isSome_some Option.isNone_some Option.isSome_none Bool.true_and Bool.and_true Bool.false_and Bool.and_false and_true true_and and_self if_true if_false beq_self_eq_true List.length_map List.length_nil List.length_cons List.isEmpty_nil List.isEmpty_cons eq_self_iff_true Bool.not_true Bool.not_false Bool.false_eq_true decide_true decide_false Int.cast_ofNat_Int Int.natCast_zero Int.natCast_nonneg List.drop_zero List.drop_succ_cons List.set_cons_zero List.set_cons_succ Nat.mul_one Nat.one_mul Nat.mul_zero Nat.zero_mul List.nil_append List.cons_append Nat.sub_zero Nat.sub_self Bo true_or or_true false_or or_false List.replicate_zero List.replicate_succ jq eU ez AH lU Value.oneCell' Nat.zero_le
inductive Spl {α : Type} : Nat -> List α -> List α -> List α -> Prop
 | z (l : List α) : Spl 0 l [] l
 | s {n : Nat} {x : α} {l a b : List α} : Spl n l a b -> Spl (n + 1) (x :: l) (x :: a) b
theorem Spl.eq {α : Type} {n : Nat} {l a b : List α} (h : Spl n l a b) : l.take n = a /\ l.drop n = b := by
 induction h with
 | z l => exact ⟨rfl, rfl⟩
 | s _ ih => exact ⟨by rw [List.take_succ_cons, ih.1], by rw [List.drop_succ_cons, ih.2]⟩
inductive Apd {α : Type} : List α -> List α -> List α -> Prop
 | nil (l : List α) : Apd [] l l
 | cons {x : α} {a b c : List α} : Apd a b c -> Apd (x :: a) b (x :: c)
theorem Apd.eq {α : Type} {a b c : List α} (h : Apd a b c) : a ++ b = c := by
 induction h with
 | nil l => rfl
 | cons _ ih => rw [List.cons_append, ih]
section
variable {P : Program} {G : zGz} {N : Nat} {F : Fr} {ops rest : zOz} {o : Oper} {Q Q' : zQz} {env e : zEz} {h g : zHz} {nx m : Nat} {al : zHz} {K : zEz -> zHz -> Nat -> Prop} {st : St}
theorem gv (hF : Env F P G N) {t : Tmp} {op : Op} {ty : TypeId} {pos : String} {w : Array Edge} {gd : Option (Nat × Bool)} {x : V} (hx : opV P (evD G env) h ⟨some t, op, ty, pos, w, gd⟩ = some x) (k : SmG F N ops rest Q ⟨(t, x) :: env, h, nx⟩) (ht : Nat.blt t N = true := by exact rfl) (hg : aC ops env gd = some true := by exact rfl) : SmG F N ops (⟨some t, op, ty, pos, w, gd⟩ :: rest) Q ⟨env, h, nx⟩ := SmG.v hF rfl ht hg hx k
theorem hv (hF : Env F P G N) {t : Tmp} {op : Op} {ty : TypeId} {pos : String} {w : Array Edge} {gd : Option (Nat × Bool)} {x : V} (hx : opV P (evD G env) h ⟨some t, op, ty, pos, w, gd⟩ = some x) (k : au F G N ops.toArray h rest ((t, x) :: env) al nx K) (ht : Nat.blt t N = true := by exact rfl) (hg : aC ops env gd = some true := by exact rfl) : au F G N ops.toArray h (⟨some t, op, ty, pos, w, gd⟩ :: rest) env al nx K := au.v hF rfl ht hg hx k
theorem gp (hF : Env F P G N) {t : Tmp} {op : Op} {ty : TypeId} {pos : String} {w : Array Edge} {gd : Option (Nat × Bool)} (k : SmG F N ops rest Q ⟨(t, .d (.v (.tuple #[]))) :: env, h, nx⟩) (ht : Nat.blt t N = true := by exact rfl) (hg : aC ops env gd = some false := by exact rfl) : SmG F N ops (⟨some t, op, ty, pos, w, gd⟩ :: rest) Q ⟨env, h, nx⟩ := SmG.pass hF rfl ht hg k
theorem hp (hF : Env F P G N) {t : Tmp} {op : Op} {ty : TypeId} {pos : String} {w : Array Edge} {gd : Option (Nat × Bool)} (k : au F G N ops.toArray h rest ((t, .d (.v (.tuple #[]))) :: env) al nx K) (ht : Nat.blt t N = true := by exact rfl) (hg : aC ops env gd = some false := by exact rfl) : au F G N ops.toArray h (⟨some t, op, ty, pos, w, gd⟩ :: rest) env al nx K := au.p hF rfl ht hg k
theorem oM {x : Operand} {v : V} (ho : o.op = .move x := by exact rfl) (hx : evB G env x = some v := by exact rfl) : opV P (evD G env) h o = some v := kE ho hx
theorem oA {x : Operand} {v : V} (ho : o.op = .assign x := by exact rfl) (hx : evB G env x = some v := by exact rfl) : opV P (evD G env) h o = some v := vE ho hx
theorem sn {K' : St -> Prop} (q : K' st) : SmG F N ops [] (ba K' Q) st := SmG.nil (aa q)
theorem sk {K' : St -> Prop} (q : K' st) : Sm F .skip (ba K' Q) st := Sm.skip (aa q)
theorem sr (hF : Env F P G N) {id : Nat} {l : zOz} {y : Code} (g : SmG F N l l (ba (Sm F y Q) Q) st) (hN : ey N st.env = true := by exact rfl) : Sm F (.seq (.region id l.toArray false) y) Q st := Sm.seq (ab hF hN g)
theorem dG (hF : Env F P G N) {id : Nat} {l a b : zOz} (n : Nat) (g : au F G N l.toArray h a env [] nx fun env al nx => ey N env = true /\ SmG F N l b Q ⟨env, al ++ h, nx⟩) (hm : P.follows .mixedOrders = true := by kernel_rfl) (hs : Spl n l a b := by repeat' constructor) (hN : ey N env = true := by exact rfl) (hB : vj l n = true := by kernel_rfl) (hD : Dc l n = true := by kernel_rfl) : Sm F (.region id l.toArray true) Q ⟨env, h, nx⟩ := by
 obtain ⟨rfl, rfl⟩ := hs.eq; exact eW (st := ⟨env, h, nx⟩) hF hm hN n hB hD g
theorem hE {h' h0 : zHz} {l b : zOz} (k : SmG F N l b Q ⟨env, h', nx⟩) (ha : Apd al h h' := by repeat' constructor) (hN : ey N env = true := by exact rfl) : au F G N ops.toArray h0 [] env al nx (fun env al nx => ey N env = true /\ SmG F N l b Q ⟨env, al ++ h, nx⟩) := by
 rw [<- ha.eq] at k; exact ⟨hN, k⟩
end
end
section
section
variable {F : Fr} {st : St} {μ : zMz} {C : aw} {a : Act} {w : World}
theorem Sim.allocCap (h : Sim F st μ C a w) (cap sz : Nat) (rows : List (List V)) (cur : Array Value) (T : TypeId) (hrow : ∀ r ∈ rows, r.length = sz) (hle : rows.length <= cap) (hmax : cap <= 9223372036854775807) (hsz : cur.size = cap * sz) (hr : gO μ C sz rows cur.toList) (hm0 : Blk.isMap ⟨sz, rows⟩ = false := by exact fa _ _) :
  Sim F { st with h := (st.nx, ⟨sz, rows⟩) :: st.h, nx := st.nx + 1 } (fun l => if l = st.nx then some ⟨w.heap.size, cap, sz⟩ else μ l) C a (w.alloc (.cells cur T)) := by
 have hμ : ∀ l p, μ l = some p -> (fun l => if l = st.nx then some (⟨w.heap.size, cap, sz⟩ : Place) else μ l) l = some p := by
  intro l p hp; have : l ≠ st.nx := fun e => by rw [h.nx l (by omega)] at hp; cases hp
  simp [this, hp]
 have h1 := h.more (.of_below h.known ((Below.refl _ w).alloc (Nat.le_refl _) (.cells cur T))); have hold : ∀ l k, look st.h l = some k -> l ≠ st.nx := fun l k hk e => by
  obtain ⟨p, hp, _⟩ := h.heap l k hk; rw [h.nx l (by omega)] at hp; cases hp
 refine ⟨h1.size, h1.defers, h1.below, h1.sub, h1.new, h1.known, fun t x hx => (h1.env t x hx).mono hμ (fun _ _ _ h => h), ?_, ?_, ?_, F.stab h.gh (nR h _ ⟨w.heap.size, cap, sz⟩ (h.nx _ (Nat.le_refl _)) hμ (by simp) (fun _ => Nat.le_refl _) (fun l hl => by simp [hl]) (.of_below h.known ((Below.refl _ w).alloc (Nat.le_refl _) (.cells cur T))))⟩
 ·intro l k hk; simp only [look] at hk; by_cases hl : st.nx = l
  ·subst hl; rw [if_pos rfl] at hk; cases hk; refine ⟨⟨w.heap.size, cap, sz⟩, by simp, rfl, hle, hmax, hrow, fun _ => ⟨.inl h.below.size, fun o u hc => ?_, cur, T, by rw [hm0]; exact heap_alloc_new w _, hsz, hr.mono hμ (fun _ _ _ h => h)⟩⟩; exact absurd (h.known.lt hc) (Nat.lt_irrefl _)
  ·rw [if_neg hl] at hk; obtain ⟨p, hp, hb⟩ := h1.heap l k hk; refine ⟨p, hμ l p hp, hb.sz, hb.len, hb.max, hb.row, fun hc => ?_⟩; obtain ⟨a1, a2, cur', T', a3, a4, a5⟩ := hb.cells hc; exact ⟨a1, a2, cur', T', a3, a4, a5.mono hμ (fun _ _ _ h => h)⟩
 ·intro l l' p p' hl hl' hp hp' hc hc' hb; simp only [look] at hl hl'; have hlt : ∀ l p, (look st.h l).isSome = true -> μ l = some p -> 0 < p.cap -> p.b < w.heap.size := by
   intro l p hl hp hc; obtain ⟨k, hk⟩ := Option.isSome_iff_exists.1 hl; obtain ⟨p2, hp2, hb2⟩ := h.heap l k hk; rw [hp] at hp2; cases hp2; exact hb2.lt hc
  by_cases e : l = st.nx <;> by_cases e' : l' = st.nx
  ·rw [e, e']
  ·rw [if_neg (Ne.symm e')] at hl'; simp only [if_pos e, if_neg e'] at hp hp'; cases hp; have := hlt l' p' hl' hp' hc'; simp at hb; omega
  ·rw [if_neg (Ne.symm e)] at hl; simp only [if_neg e, if_pos e'] at hp hp'; cases hp'; have := hlt l p hl hp hc; simp at hb; omega
  ·rw [if_neg (Ne.symm e)] at hl; rw [if_neg (Ne.symm e')] at hl'; simp only [if_neg e, if_neg e'] at hp hp'; exact h.inj l l' p p' hl hl' hp hp' hc hc' hb
 ·intro l hl; have hl' : st.nx + 1 <= l := hl; have : l ≠ st.nx := by omega
  simp only [if_neg this]; exact h.nx l (by omega)
end
section
variable {P : Program} {G : zGz} {N : Nat} {F : Fr} {ops : Array Oper} {rest : zOz} {o : Oper} {Q : zQz} {st : St} {t e : TypeId} {z : Value} {size bytes : Nat}
theorem SmL.appendNew (hF : Env F P G N) (hN : St.small N st) (hE : ElemT P t e z size bytes) {s x : Operand} {d : Tmp} {sz sz' : Nat} {xs ys : zRz} {f : Bool} (hg : bP ops st.env o.guard = some true) (ho : o.op = .call ⟨.builtin .append, #[s, x], #[t, t]⟩) (hd : o.dst = some d) (hdN : d < N)
  (hs : evD G st.env s = some (.d (.list sz xs true))) (hx : evD G st.env x = some (.d (.list sz' ys f))) (hsz : sz = size \/ xs = []) (hsz' : sz' = size) (hy : ys ≠ []) (hb : (xs.length + ys.length) * bytes <= 140737488355328) (hb2 : xs.length + ys.length <= 140737488355328)
  (k : SmL F ops rest Q ⟨(d, .sref st.nx 0 (xs ++ ys).length) :: st.env, (st.nx, ⟨size, (xs ++ ys).map fun r => r.map V.d⟩) :: st.h, st.nx + 1⟩) : SmL F ops (o :: rest) Q st := by
 intro μ C a w hsim; obtain ⟨rfl, rfl, hG⟩ := hF; obtain ⟨i0, hi, hz0, hz1, hz2⟩ := info_parts hE.info; refine cb (fun _ => by rw [ho]; simp) fun K hK => ?_
 rw [bI hsim hg hN, if_pos rfl]; have hsv := bW hsim hG hs; have hxv := bW hsim hG hx; have hk := hsim.known; obtain ⟨ao, cap, vs, e1, hcap, hvl, hvv, hvx, hvr⟩ := cM (P := F.P) hk hsv hsz; obtain ⟨bo, cap', us, e2, _, hul, huv, hux, hur⟩ := cM (P := F.P) hk hxv (.inl hsz'); have hdr : Below w.heap.size w w.drew := (Below.refl _ _).drew; unfold Oper.wp; rw [gG ho, Sem.run_bind, e1, e2]; rw [hcap rfl]; have hm : 0 < ys.length := List.length_pos_iff.2 hy; have hr1 := hvr w.drew hdr; have hr2 := hur w.drew hdr; rw [e1, hcap rfl] at hr1; rw [e2] at hr2; have hrun := ic (P := F.P) (w := w) hE.und i0 hi hz0 ao xs.length xs.length vs bo ys.length cap' us o.type (by rw [hz1]; exact hr1) (by rw [hz1]; exact hr2) (by omega) (by rw [hz2]; exact hb) hb2; rw [hrun, Result.andThen_ok]; show Oper.upon F.P o a K _ (.ok (.value _) _); rw [Oper.upon_value, hd]; have hge := grownCap_ge w (xs.length + ys.length) xs.length e; have hgm := grownCap_le_maxLen w (xs.length + ys.length) xs.length e (by unfold maxLen; omega); generalize hgc : grownCap w (xs.length + ys.length) xs.length e = g at hge hgm ⊢; have hrowx : ∀ x ∈ xs ++ ys, x.length = size := by
  intro x hx; rcases List.mem_append.1 hx with hx | hx
  ·exact hvx x hx
  ·exact hux x hx
 have hs1 := hsim.drew.allocCap g size ((xs ++ ys).map fun r => r.map V.d) (vs.toArray ++ us.toArray ++ Builtin.zeroCells z.cells (g - (xs.length + ys.length))) e
  (by intro r hr; obtain ⟨x, hx, rfl⟩ := List.mem_map.1 hr; simpa using hrowx x hx) (by simp; omega) (by unfold maxLen at hgm; omega)
  (qC g (xs.length + ys.length) size z.cells hE.zs vs us (by rw [hvl, hul, Nat.add_mul]) hge)
  (by
   have := na (μ := μ) (C := C) (rows := xs ++ ys) (vs := vs ++ us) (size := size) hrowx (by rw [List.flatten_append]; exact ff hvv huv) (Builtin.zeroCells z.cells (g - (xs.length + ys.length))).toList; simpa using this)
 have hput := hs1.put (t := d) hdN (x := .sref st.nx 0 (xs ++ ys).length) (v := .slice (some ⟨w.heap.size, 0, none⟩) (xs.length + ys.length) g) ⟨⟨w.heap.size, g, size⟩, some ⟨w.heap.size, 0, none⟩, (by show (if st.nx = st.nx then some (⟨w.drew.heap.size, g, size⟩ : Place) else _) = _; rw [if_pos rfl]; rfl), by simp, by simpa using hge, fun _ => by simp⟩; exact hK _ _ (k _ C _ _ hput)
theorem SmL.buildOwn (hF : Env F P G N) (hN : St.small N st) {t : TypeId} {n : Nat} {ps : Array (Nat × Operand)} {qs : zEz} {sz : Nat} {rows : zRz} {d : Tmp} (hg : bP ops st.env o.guard = some true) (ho : o.op = .buildSlice t n ps) (hd : o.dst = some d) (hdN : d < N)
  (hp : dP (evD G st.env) ps.toList = some qs) (hb : bn P t n qs = some (.d (.list sz rows true))) (hne : rows ≠ [])
  (k : SmL F ops rest Q ⟨(d, .sref st.nx 0 rows.length) :: st.env, (st.nx, ⟨sz, rows.map fun r => r.map V.d⟩) :: st.h, st.nx + 1⟩) : SmL F ops (o :: rest) Q st := by
 intro μ C a w hsim; obtain ⟨rfl, rfl, hG⟩ := hF; refine cb (fun _ => by rw [ho]; simp) fun K hK => ?_
 rw [bI hsim hg hN, if_pos rfl]; have hev : ∀ x v, evD G st.env x = some v -> ax μ C v (a.eval x) := fun x v h => bW hsim hG h
 have hp' : jF μ C qs (ps.map fun (i, x) => (i, a.eval x)).toList := by simpa using qf hev hp
 obtain ⟨s', rows', cells', e', he, hnle, hn, hR, hrun⟩ := oe (P := F.P) (w := w) hp' hb; cases he; have hex : (execOp a.eval o).run F.P w = .ok (.value (.slice (some ⟨w.heap.size, 0, none⟩) n n)) (w.alloc (.cells cells' e')) := by
  simp only [execOp, ho]; simp [Sem.run_bind, hrun, Result.andThen]
 unfold Oper.wp; rw [hex, Oper.upon_value, hd]; have hs1 := hsim.alloc sz (rows.map fun r => r.map V.d) cells' e' (by intro r hr; obtain ⟨x, hx, rfl⟩ := List.mem_map.1 hr; obtain ⟨i, hi⟩ := List.getElem?_of_mem hx; simpa using (hR.2 i x hi).1) (by simpa using hne) (by simp; omega) (by simpa using hR.1) (by
  intro i r hr j x hj; rw [List.getElem?_map] at hr; cases hrow : rows[i]? with
  | none => rw [hrow] at hr; cases hr
  | some row =>
   rw [hrow] at hr; cases hr; rw [List.getElem?_map] at hj; cases hd : row[j]? with
   | none => rw [hd] at hj; cases hj
   | some dd =>
    rw [hd] at hj; cases hj; obtain ⟨u, g1, g2, g3⟩ := (hR.2 i row hrow).2 j dd hd; exact ⟨u, by simpa using g1, g2, g3⟩) (fa _ _)
 have hpos : 0 < rows.length := List.length_pos_iff.2 hne; have hput := hs1.put (t := d) hdN (x := .sref st.nx 0 rows.length) (v := .slice (some ⟨w.heap.size, 0, none⟩) n n) ⟨⟨w.heap.size, rows.length, sz⟩, some ⟨w.heap.size, 0, none⟩, by simp, by simp [hn], by simp, fun _ => by simp⟩; exact hK _ _ (k _ C _ _ hput)
theorem SmL.appendFresh (hF : Env F P G N) (hN : St.small N st) (hE : ElemT P t e z size bytes) {s x : Operand} {d : Tmp} {sz sz' : Nat} {ys : zRz} {f : Bool} (hg : bP ops st.env o.guard = some true) (ho : o.op = .call ⟨.builtin .append, #[s, x], #[t, t]⟩) (hd : o.dst = some d) (hdN : d < N)
  (hs : evD G st.env s = some (.d (.list sz [] true))) (hx : evD G st.env x = some (.d (.list sz' ys f))) (hsz' : sz' = size \/ ys = []) (hb : ys.length * bytes <= 140737488355328) (hb2 : ys.length <= 140737488355328)
  (k : SmL F ops rest Q ⟨(d, .sref st.nx 0 ys.length) :: st.env, (st.nx, ⟨size, ys.map fun r => r.map V.d⟩) :: st.h, st.nx + 1⟩) : SmL F ops (o :: rest) Q st := by
 by_cases hy : ys = []
 ·subst hy; have hk2 : SmL F ops rest Q { st with env := (d, .d (.list size [] true)) :: st.env } := by
   refine SmL.to (nZ (st := { st with env := (d, .d (.list size [] true)) :: st.env }) (t := d) (sz := size) size (by simp [look])) ?_; refine SmL.less (st' := ⟨(d, .sref st.nx 0 0) :: st.env, (st.nx, ⟨size, []⟩) :: st.h, st.nx + 1⟩) ⟨fun t x hx => ?_, fun _ _ h => h, Nat.le_refl _⟩ (by simpa using k); simp only [look] at hx ⊢; split at hx
   ·rename_i e; rw [if_pos e]; exact hx
   ·rename_i e; rw [if_neg e, if_neg e]; exact hx
  intro μ C a w hsim; obtain ⟨rfl, rfl, hG⟩ := hF; obtain ⟨i0, hi, hz0, hz1, hz2⟩ := info_parts hE.info; refine cb (fun _ => by rw [ho]; simp) fun K hK => ?_
  rw [bI hsim hg hN, if_pos rfl]; have hsv := bW hsim hG hs; have hxv := bW hsim hG hx; have hk := hsim.known; obtain ⟨ao, cap, vs, e1, hcap, hvl, hvv, hvx, hvr⟩ := cM (P := F.P) (size := size) hk hsv (.inr rfl); obtain ⟨bo, cap', us, e2, _, hul, huv, hux, hur⟩ := cM (P := F.P) (size := size) hk hxv (.inr rfl); unfold Oper.wp; rw [gG ho, Sem.run_bind, e1, e2]; rw [hcap rfl]; have : (Builtin.append_ #[t, t] o.type #[.slice ao ([] : zRz).length ([] : zRz).length, .slice bo ([] : zRz).length cap']).run F.P w = .ok (.slice ao ([] : zRz).length ([] : zRz).length) w := by
   have hf0 := hur w (Below.refl _ _); rw [e2] at hf0; have : us = [] := List.eq_nil_of_length_eq_zero (by simpa using hul); subst this; have hszr : (sizeOf e).run F.P w = .ok size w := by simp [sizeOf, typeInfo, hi, hz1]
   simp only [List.length_nil] at hf0; cases ao with
   | none => simp [Builtin.append_, run_underlying hE.und, hszr, Builtin.lenOf, hf0]
   | some b => simp [Builtin.append_, run_underlying hE.und, hszr, Builtin.lenOf, hf0, storeCells]
  rw [this, Result.andThen_ok]; show Oper.upon F.P o a K _ (.ok (.value _) w); rw [Oper.upon_value, hd]; refine hK _ _ (hk2 μ C _ w (hsim.put hdN ?_)); rw [e1, hcap rfl] at hsv; show Rep C _ _; cases hsv with
  | nil _ _ a cap h => exact .nil _ _ _ _ h
  | list _ _ _ _ _ _ h => exact absurd rfl h
 ·have hsz2 : sz' = size := hsz'.resolve_right hy; exact SmL.appendNew hF hN hE hg ho hd hdN hs hx (.inr rfl) hsz2 hy (by simpa using hb) (by simpa using hb2) (by simpa using k)
end
section
variable {P : Program} {G : zGz} {N : Nat} {F : Fr} {ops rest : zOz} {o : Oper} {Q : zQz} {env : zEz} {h : zHz} {nx : Nat} {t e : TypeId} {z : Value} {size bytes : Nat}
theorem SmG.appendNew (hF : Env F P G N) (hE : ElemT P t e z size bytes) {s x : Operand} {d : Tmp} {sz sz' : Nat} {xs ys : zRz} {f : Bool} (ho : o.op = .call ⟨.builtin .append, #[s, x], #[t, t]⟩) (hd : o.dst = some d) (hdN : Nat.blt d N = true) (hg : aC ops env o.guard = some true)
  (hs : evB G env s = some (.d (.list sz xs true))) (hx : evB G env x = some (.d (.list sz' ys f))) (hsz : sz = size \/ xs = []) (hsz' : sz' = size) (hy : ys ≠ []) (hb : (xs.length + ys.length) * bytes <= 140737488355328) (hb2 : xs.length + ys.length <= 140737488355328)
  (k : SmG F N ops rest Q ⟨(d, .sref nx 0 (xs ++ ys).length) :: env, (nx, dB size (xs ++ ys)) :: h, nx + 1⟩) : SmG F N ops (o :: rest) Q ⟨env, h, nx⟩ := by
 have hdN' : d < N := by simpa [Nat.blt_eq] using hdN
 intro hsm; rw [aT] at hs hx; exact SmL.appendNew hF hsm hE (aN hg) ho hd hdN' hs hx hsz hsz' hy hb hb2 (k (bJ hsm hdN'))
theorem SmG.buildOwn (hF : Env F P G N) {t : TypeId} {n : Nat} {ps : List (Nat × Operand)} {qs : zEz} {sz : Nat} {rows : zRz} {d : Tmp} (ho : o.op = .buildSlice t n ps.toArray) (hd : o.dst = some d) (hdN : Nat.blt d N = true) (hg : aC ops env o.guard = some true)
  (hp : dP (evB G env) ps = some qs) (hb : bn P t n qs = some (.d (.list sz rows true))) (hne : rows ≠ [])
  (k : SmG F N ops rest Q ⟨(d, .sref nx 0 rows.length) :: env, (nx, dB sz rows) :: h, nx + 1⟩) : SmG F N ops (o :: rest) Q ⟨env, h, nx⟩ := by
 have hdN' : d < N := by simpa [Nat.blt_eq] using hdN
 intro hsm; exact SmL.buildOwn hF hsm (aN hg) ho hd hdN' (by simpa using oh hp) hb hne (k (bJ hsm hdN'))
theorem SmG.appendFresh (hF : Env F P G N) (hE : ElemT P t e z size bytes) {s x : Operand} {d : Tmp} {sz sz' : Nat} {ys : zRz} {f : Bool} (ho : o.op = .call ⟨.builtin .append, #[s, x], #[t, t]⟩) (hd : o.dst = some d) (hdN : Nat.blt d N = true) (hg : aC ops env o.guard = some true)
  (hs : evB G env s = some (.d (.list sz [] true))) (hx : evB G env x = some (.d (.list sz' ys f))) (hsz' : sz' = size \/ ys = []) (hb : ys.length * bytes <= 140737488355328) (hb2 : ys.length <= 140737488355328)
  (k : SmG F N ops rest Q ⟨(d, .sref nx 0 ys.length) :: env, (nx, dB size ys) :: h, nx + 1⟩) : SmG F N ops (o :: rest) Q ⟨env, h, nx⟩ := by
 have hdN' : d < N := by simpa [Nat.blt_eq] using hdN
 intro hsm; rw [aT] at hs hx; exact SmL.appendFresh hF hsm hE (aN hg) ho hd hdN' hs hx hsz' hb hb2 (k (bJ hsm hdN'))
theorem SmG.own {t sz : Nat} (sz' : Nat) (ht : af env t = some (.d (.list sz [] true))) (k : SmG F N ops rest Q ⟨(t, .sref nx 0 0) :: env, (nx, ⟨sz', []⟩) :: h, nx + 1⟩) : SmG F N ops rest Q ⟨env, h, nx⟩ := by
 intro hsm; rw [aL] at ht; refine SmL.to (nZ (st := ⟨env, h, nx⟩) (t := t) sz' ht) (k ?_); exact bJ hsm (hsm t _ ht)
theorem SmG.freeze {l sz : Nat} (rows : zRz) (hk : af h l = some (dB sz rows)) (k : SmG F N ops rest Q ⟨cR l sz rows env, bL l h, nx⟩) : SmG F N ops rest Q ⟨env, h, nx⟩ := by
 intro hsm; rw [aL] at hk; refine SmL.to (nv (st := ⟨env, h, nx⟩) rows hk rfl) (k ?_); intro s y hy; simp only [ju] at hy; cases hq : look env s with
 | none => rw [hq] at hy; cases hy
 | some y' => exact hsm s y' hq
theorem Sm.freeze {c : Code} {l sz : Nat} (rows : zRz) (hk : af h l = some (dB sz rows)) (k : Sm F c Q ⟨cR l sz rows env, bL l h, nx⟩) : Sm F c Q ⟨env, h, nx⟩ := by
 rw [aL] at hk; exact Sm.to (nv (st := ⟨env, h, nx⟩) rows hk rfl) k
theorem Sm.own {c : Code} {t sz : Nat} (sz' : Nat) (ht : af env t = some (.d (.list sz [] true))) (k : Sm F c Q ⟨(t, .sref nx 0 0) :: env, (nx, ⟨sz', []⟩) :: h, nx + 1⟩) : Sm F c Q ⟨env, h, nx⟩ := by
 rw [aL] at ht; exact Sm.to (nZ (st := ⟨env, h, nx⟩) (t := t) sz' ht) k
theorem oV {l sz : Nat} (rows : zRz) (hk : af h l = some (dB sz rows)) (k : SmG F N ops rest Q ⟨cR l sz rows env, hO l sz rows (bL l h), nx⟩) : SmG F N ops rest Q ⟨env, h, nx⟩ := by
 intro hsm; rw [aL] at hk; refine SmL.to (fD (st := ⟨env, h, nx⟩) rows hk rfl) (k ?_); intro s y hy; simp only [ju] at hy; cases hq : look env s with
 | none => rw [hq] at hy; cases hy
 | some y' => exact hsm s y' hq
theorem Eg (m : Nat) (k : SmG F N ops rest Q ⟨env, dt (cH m) h, nx⟩) : SmG F N ops rest Q ⟨env, h, nx⟩ := fun hsm => SmL.to (oW (st := ⟨env, h, nx⟩) m) (k hsm)
theorem pS {c : Code} (m i j : Nat) {sz : Nat} (sz' : Nat) {kb : Blk} {r : List V} (hk : af h m = some kb) (hr : kb.rows[i]? = some r) (hj : r[j]? = some (.d (.list sz [] true)))
  (k : Sm F c Q ⟨env, (nx, ⟨sz', []⟩) :: rep h m ⟨kb.sz, kb.rows.set i (r.set j (.sref nx 0 0))⟩, nx + 1⟩) : Sm F c Q ⟨env, h, nx⟩ := by
 rw [aL] at hk; exact Sm.to (yp (st := ⟨env, h, nx⟩) sz' hk hr hj) k
end
end
section
def CA (C : aw) (base : Nat) (w : World) (v : Value) (sz : Nat) (rows : zRz) : Prop :=
 ∃ p a, v = .slice a rows.length p.cap /\ (0 < p.cap -> a = some ⟨p.b, 0, none⟩) /\ BlkOk (base <= ·) (fun _ => none) C w p (dB sz rows)
def Pk.val : Pk -> Value -> zLz -> Value
 | .one, s, _ => s
 | .tup, s, us => .tuple (s :: us).toArray
 | .agg, s, us => .agg (s :: us).toArray
def Pk.ok (C : aw) : Pk -> List D -> zLz -> Prop
 | .one, _, _ => True
 | .tup, rest, us => Rp C (.outs rest us)
 | .agg, rest, us => Rp C (.vals rest us)
def Pk.d : Pk -> D -> List D -> D
 | .one, x, _ => x
 | .tup, x, rest => .tup (x :: rest)
 | .agg, x, rest => .agg (rest.length + 1) (x :: rest)
def cc (P : Program) (G : zGz) (f : FuncId) (ds : List D) (pk : Pk) (sz : Nat) (rows : zRz) (rest : List D) : Prop :=
 ∀ C w vs, fK G C -> bG C w -> Rp C (.outs ds vs) -> Calls P f vs.toArray w fun e w' => ∃ s us C', e = .returned (pk.val s us) /\ More w C w' C' /\ CA C' w.heap.size w' s sz rows /\ pk.ok C' rest us
section
variable {F : Fr} {st : St} {μ : zMz} {C : aw} {a : Act} {w : World}
theorem Sim.adopt (h : Sim F st μ C a w) {w' : World} {C' : aw} (hm : More w C w' C') {m n' : Nat} (hfree : μ m = none) (hmn : m < n') (hn : st.nx <= n') {p : Place} {sz : Nat} {rows : zRz} (ho : BlkOk (w.heap.size <= ·) (fun _ => none) C' w' p (dB sz rows)) :
  Sim F { st with h := (m, dB sz rows) :: st.h, nx := n' } (fun l => if l = m then some p else μ l) C' a w' := by
 have hμ : ∀ l q, μ l = some q -> (fun l => if l = m then some p else μ l) l = some q := by
  intro l q hq; have : l ≠ m := fun e => by rw [e, hfree] at hq; cases hq
  simp [this, hq]
 have h1 := h.more hm; refine ⟨h1.size, h1.defers, h1.below, h1.sub, h1.new, h1.known, fun t x hx => (h1.env t x hx).mono hμ (fun _ _ _ h => h), ?_, ?_, ?_, F.stab h.gh (nR h _ p hfree hμ (by simp) (fun hc => (ho.cells hc).1) (fun l hl => by simp [hl]) hm)⟩
 ·intro l k hk; simp only [look] at hk; by_cases hl : m = l
  ·subst hl; rw [if_pos rfl] at hk; cases hk; refine ⟨p, by simp, ho.sz, ho.len, ho.max, ho.row, fun hc => ?_⟩; obtain ⟨b1, b2, cur, T, b3, b4, b5⟩ := ho.cells hc; exact ⟨.inl (Nat.le_trans h.below.size b1), b2, cur, T, b3, b4, b5.mono (fun l p h => by cases h) (fun _ _ _ h => h)⟩
  ·rw [if_neg hl] at hk; obtain ⟨q, hq, hb⟩ := h1.heap l k hk; refine ⟨q, hμ l q hq, hb.sz, hb.len, hb.max, hb.row, fun hc => ?_⟩; obtain ⟨a1, a2, cur', T', a3, a4, a5⟩ := hb.cells hc; exact ⟨a1, a2, cur', T', a3, a4, a5.mono hμ (fun _ _ _ h => h)⟩
 ·intro l l' q q' hl hl' hq hq' hc hc' hb; simp only [look] at hl hl'; have hlt : ∀ l q, (look st.h l).isSome = true -> μ l = some q -> 0 < q.cap -> q.b < w.heap.size := by
   intro l q hl hq hc; obtain ⟨k, hk⟩ := Option.isSome_iff_exists.1 hl; obtain ⟨q2, hq2, hb2⟩ := h.heap l k hk; rw [hq] at hq2; cases hq2; exact hb2.lt hc
  by_cases e : l = m <;> by_cases e' : l' = m
  ·rw [e, e']
  ·rw [if_neg (Ne.symm e')] at hl'; simp only [if_pos e, if_neg e'] at hq hq'; cases hq; have := hlt l' q' hl' hq' hc'; have : w.heap.size <= p.b := (ho.cells hc).1; omega
  ·rw [if_neg (Ne.symm e)] at hl; simp only [if_neg e, if_pos e'] at hq hq'; cases hq'; have := hlt l q hl hq hc; have : w.heap.size <= p.b := (ho.cells hc').1; omega
  ·rw [if_neg (Ne.symm e)] at hl; rw [if_neg (Ne.symm e')] at hl'; simp only [if_neg e, if_neg e'] at hq hq'; exact h.inj l l' q q' hl hl' hq hq' hc hc' hb
 ·intro l hl; have hl' : n' <= l := hl; have : l ≠ m := by omega
  simp only [if_neg this]; exact h.nx l (by omega)
theorem Fx {pk : Pk} {m : Nat} {n : Nat} {rest : List D} {p : Place} {ao : Option Addr} {us : zLz} {μ : zMz} (hp : μ m = some p) (hn : n <= p.cap) (hao : 0 < p.cap -> ao = some ⟨p.b, 0, none⟩) (hok : pk.ok C rest us) : ax μ C (pk.v m n rest) (pk.val (.slice ao n p.cap) us) := by
 cases pk with
 | one => exact ⟨p, ao, hp, by simp [Pk.val], by simpa using hn, by simpa using hao⟩
 | tup => exact ⟨p, ao, us, hp, hn, hao, by rw [if_pos rfl]; exact ⟨hok, rfl⟩⟩
 | agg => exact ⟨p, ao, us, hp, hn, hao, by rw [if_neg (by simp)]; exact ⟨hok, rfl⟩⟩
end
section
variable {P : Program} {G : zGz} {N : Nat} {F : Fr} {ops : Array Oper} {rest : zOz} {o : Oper} {Q : zQz} {st : St} {pk : Pk} {sz : Nat} {rows : zRz} {rs : List D}
theorem SmL.callO (hF : Env F P G N) (hN : St.small N st) {f : FuncId} {xs : Array Operand} {ts : Array TypeId} {t : Tmp} {ds : List D} (hg : bP ops st.env o.guard = some true) (ho : o.op = .call ⟨.value (.func f), xs, ts⟩) (hd : o.dst = some t) (hb : cD P f = true)
  (hargs : bE (evD G st.env) xs.toList = some ds) (ht : t < N) (hc : cc P G f ds pk sz rows rs)
  (k : SmL F ops rest Q ⟨(t, pk.v st.nx rows.length rs) :: st.env, (st.nx, dB sz rows) :: st.h, st.nx + 1⟩) : SmL F ops (o :: rest) Q st := by
 intro μ C a w hs; obtain ⟨rfl, rfl, hG⟩ := hF; have hev : ∀ x v, evD G st.env x = some v -> ax μ C v (a.eval x) := fun x v h => bW hs hG h
 refine cb (fun _ => by rw [ho]; simp) fun K hK => ?_
 rw [bI hs hg hN, if_pos rfl]; refine nq f (fun a w => fX hb a w) xs ts ho (xs.toList.map a.eval) rfl ?_; refine (hc C w _ (hG.mono hs.sub) hs.known (kP hev hargs)).mono ?_; rintro e w' ⟨s, us, C', rfl, hm, ⟨p, ao, rfl, hao, hB⟩, hok⟩; have hs2 := hs.adopt hm (m := st.nx) (n' := st.nx + 1) (hs.nx _ (Nat.le_refl _)) (by omega) (by omega) hB; refine ⟨_, rfl, by rw [hd]; exact hK _ _ (k _ C' _ w' (hs2.put ht (Fx (by simp) (by simpa using hB.len) hao hok)))⟩
theorem jE.callO (hF : Env F P G N) {env : zEz} {f : FuncId} {xs : Array Operand} {ts : Array TypeId} {ds : List D} (ho : o.op = .call ⟨.value (.func f), xs, ts⟩) (hb : cD P f = true)
  (hargs : bE (evD G env) xs.toList = some ds) (hc : cc P G f ds pk sz rows rs) : jE F G o env (dB sz rows) (fun m => pk.v m rows.length rs) := by
 intro μ C a w nx' hh hs hop m hm hfree K Q hK; obtain ⟨rfl, rfl, hG⟩ := hF; have hxs : ∀ y ∈ xs.toList, ∀ v, evD G env y = some v -> ax μ C v (a.eval y) := fun y hy v hv => hop y (by rw [ho]; simp [Op.operands, Call.operands]; exact .inr (by simpa using hy)) v hv
 have hrep : ∀ {ys : List Operand} {es : List D}, (∀ y ∈ ys, ∀ v, evD G env y = some v -> ax μ C v (a.eval y)) -> bE (evD G env) ys = some es -> Rp C (.outs es (ys.map a.eval)) := by
  intro ys
  induction ys with
  | nil => intro es _ h; cases h; exact .onil
  | cons y ys ih =>
   intro es hy h; simp only [bE, Option.bind_eq_some_iff] at h; obtain ⟨v, hv, h⟩ := h; split at h
   ·rename_i d; simp only [Option.map_eq_some_iff] at h; obtain ⟨r, hr, rfl⟩ := h; exact .ocons _ _ _ _ (hy y (by simp) _ hv) (ih (fun z hz => hy z (by simp [hz])) hr)
   ·cases h
 refine nq f (fun a w => fX hb a w) xs ts ho (xs.toList.map a.eval) rfl ?_; refine (hc C w _ (hG.mono hs.sub) hs.known (hrep hxs hargs)).mono ?_; rintro e w' ⟨s, us, C', rfl, hm', ⟨p, ao, rfl, hao, hB⟩, hok⟩; have hs2 := hs.adopt hm' (m := m) (n' := nx') hfree hm (Nat.le_refl _) hB; refine ⟨_, rfl, hK _ _ _ C' hs2 hm'.sub (fun l q hq => ?_) (fun l hl => by simp [hl]) (Fx (by simp) (by simpa using hB.len) hao hok)⟩; have : l ≠ m := fun e => by rw [e, hfree] at hq; cases hq
 simp [this, hq]
end
section
variable {P : Program} {G : zGz} {N : Nat} {F : Fr} {ops rest : zOz} {o : Oper} {Q : zQz} {env : zEz} {h : zHz} {nx : Nat} {al : zHz} {K : zEz -> zHz -> Nat -> Prop} {pk : Pk} {sz : Nat} {rows : zRz} {rs : List D}
theorem SmG.callO (hF : Env F P G N) {f : FuncId} {xs : List Operand} {ts : Array TypeId} {t : Tmp} {ds : List D} (ho : o.op = .call ⟨.value (.func f), xs.toArray, ts⟩) (hd : o.dst = some t) (hb : cD P f = true) (ht : Nat.blt t N = true)
  (hg : aC ops env o.guard = some true) (hargs : bE (evB G env) xs = some ds) (hc : cc P G f ds pk sz rows rs)
  (k : SmG F N ops rest Q ⟨(t, pk.v nx rows.length rs) :: env, (nx, dB sz rows) :: h, nx + 1⟩) : SmG F N ops (o :: rest) Q ⟨env, h, nx⟩ := by
 have ht' : t < N := by simpa [Nat.blt_eq] using ht
 intro hs; exact SmL.callO hF hs (aN hg) ho hd hb (jk (by simpa using hargs)) ht' hc (k (bJ hs ht'))
theorem au.co (hF : Env F P G N) {f : FuncId} {xs : List Operand} {ts : Array TypeId} {t : Tmp} {ds : List D} (ho : o.op = .call ⟨.value (.func f), xs.toArray, ts⟩) (hd : o.dst = some t) (hb : cD P f = true) (ht : Nat.blt t N = true)
  (hg : aC ops env o.guard = some true) (hargs : bE (evB G env) xs = some ds) (hc : cc P G f ds pk sz rows rs)
  (k : au F G N ops.toArray h rest ((t, pk.v nx rows.length rs) :: env) ((nx, dB sz rows) :: al) (nx + 1) K) : au F G N ops.toArray h (o :: rest) env al nx K :=
 .inl ⟨t, hd, by simpa [Nat.blt_eq] using ht, .inr ⟨dB sz rows, fun m => pk.v m rows.length rs, aN hg, .callO hF ho hb (jk (by simpa using hargs)) hc, k⟩⟩
end
theorem CA.data {C : aw} {base : Nat} {w : World} {v : Value} {sz : Nat} {rows : zRz} (hk : bG C w) (ho : CA C base w v sz rows) : ∃ C', (∀ b o u, C b o u -> C' b o u) /\ (∀ b o u, C' b o u -> C b o u \/ base <= b) /\ bG C' w /\ Rep C' (.list sz rows false) v := by
 obtain ⟨p, ao, rfl, hao, hb⟩ := ho; refine ⟨fun b o u => C b o u \/ (0 < p.cap /\ b = p.b /\ w.cell? ⟨p.b, o, none⟩ = some u), fun b o u h => .inl h, ?_, ?_, ?_⟩
 ·rintro b o u (h | ⟨h1, rfl, _⟩)
  ·exact .inl h
  ·exact .inr (hb.cells h1).1
 ·rintro b o u (h | ⟨h1, rfl, h2⟩)
  ·exact hk b o u h
  ·exact .inl h2
 ·have hlen : rows.length <= p.cap := by simpa using hb.len
  by_cases hr0 : rows = []
  ·subst hr0; refine .nil _ _ _ _ ⟨Nat.zero_le _, by simp, hb.max, fun hn => ?_, fun x hx hpos => ?_⟩
   ·rcases Nat.eq_zero_or_pos p.cap with h0 | h0
    ·exact h0
    ·rw [hao h0] at hn; cases hn
   ·rw [hao hpos] at hx; cases hx; rfl
  ·have hpos : 0 < rows.length := List.length_pos_iff.2 hr0; have hcap : 0 < p.cap := by omega
   obtain rfl := hao hcap; refine .list _ _ _ _ _ _ hr0 ⟨hlen, by simp, hb.max, fun h => (by cases h), fun x h _ => by cases h; rfl⟩ (kV fun i x hi => ?_); have hrow : (rows.map fun r => r.map V.d)[i]? = some (x.map V.d) := by simp [hi]
   refine ⟨by simpa using hb.row _ (List.mem_of_getElem? hrow), ia fun j d hj => ?_⟩; obtain ⟨_, _, cur, T, h3, h4, h5⟩ := hb.cells hcap; rw [show (dB sz rows).isMap = false from fa _ _] at h3; have h3 := h3.cells; obtain ⟨u, g1, g2, g3⟩ := h5 i _ hrow j (.d d) (by simp [hj]); have hc : w.cell? ⟨p.b, 0 + i * sz + j, none⟩ = some u := by
    rw [Nat.zero_add]; simp [World.cell?, h3]; simpa using g1
   exact ⟨u, .inr ⟨hcap, rfl, hc⟩, g2, Rp.mono (fun _ _ _ h => .inl h) g3⟩
theorem cc.data {P : Program} {G : zGz} {f : FuncId} {ds : List D} {pk : Pk} {sz : Nat} {rows : zRz} {rest : List D} (h : cc P G f ds pk sz rows rest) : aj P G f ds (pk.d (.list sz rows false) rest) := by
 intro C w vs hG hk ha; refine (h C w vs hG hk ha).mono ?_; rintro e w' ⟨s, us, C', rfl, hm, ho, hok⟩; obtain ⟨C2, k1, k2, k3, k4⟩ := ho.data hm.known; refine ⟨_, C2, rfl, ⟨hm.below, fun b o u hc => k1 _ _ _ (hm.sub _ _ _ hc), fun b o u hc => (k2 _ _ _ hc).elim (hm.new b o u) .inr, k3⟩, ?_⟩; cases pk with
 | one => exact k4
 | tup => exact .tup _ _ (.ocons _ _ _ _ k4 (Rp.mono k1 hok))
 | agg =>
  refine .agg _ _ _ (by simp) (.vcons _ _ _ _ ?_ k4 (Rp.mono k1 hok)); obtain ⟨p, ao, rfl, _⟩ := ho; rfl
def pm (P : Program) (pk : Pk) (st : St) (rs : List ResultVar) : Option V :=
 match pk with
 | .tup => match rs with
  | r :: rs => (iW P st r).bind fun v => match v with
   | .sref l 0 n => if rs.isEmpty then none else (km P st rs).map fun ds => .mix true l n ds
   | _ => none
  | _ => none
 | _ => match rs with
  | [r] => iW P st r
  | _ => none
def Lb (P : Program) (fn : Func) (pk : Pk) (sz : Nat) (rows : zRz) (rest : List D) : Exit -> St -> Prop
 | .ret, st | .normal, st => ∃ l, pm P pk st fn.results.toList = some (pk.v l rows.length rest) /\ look st.h l = some (dB sz rows)
 | _, _ => False
section
variable {P : Program} {G : zGz} {N : Nat} {F : Fr} {st : St} {μ : zMz} {C : aw} {a : Act} {w : World}
theorem xY (hs : Sim F st μ C a w) {r : ResultVar} {v : V} (hv : iW F.P st r = some v) :
  ∃ u, ((match r with | .tmp t => pure (a.tmps.getD t undef) | .cell p t => do loadVar t (<- asAddr (a.tmps.getD p undef)) : Sem Value)).run F.P w = .ok u w /\ ax μ C v u := by
 cases r with
 | tmp t => exact ⟨_, rfl, hs.env t _ hv⟩
 | cell p ty =>
  simp only [iW, Option.bind_eq_some_iff] at hv; obtain ⟨x, hx, hl⟩ := hv; obtain ⟨u, a1, a2⟩ := uc hs (hs.env p x hx) hl; refine ⟨u, ?_, a2⟩; have hp := hs.env p x hx; show ((do loadVar ty (<- asAddr (a.tmps.getD p undef)) : Sem Value)).run F.P w = .ok u w; generalize a.tmps.getD p undef = q at a1 hp ⊢; cases q with
  | pointer b =>
   cases b with
   | some b => simpa [Instr.loadAt, Instr.sureAddr, asAddr, Sem.run_bind, Result.andThen] using a1
   | none => simp [Instr.loadAt, Instr.sureAddr, stuck, Sem.run_bind, Result.andThen, Sem.run] at a1
  | _ => simp [Instr.loadAt, Instr.sureAddr, stuck, Sem.run_bind, Result.andThen, Sem.run] at a1
theorem qT {fn : Func} {us : zLz} (h1 : ((fn.results.toList.mapM fun (r : ResultVar) => (match r with | .tmp t => pure (a.tmps.getD t undef) | .cell p t => do loadVar t (<- asAddr (a.tmps.getD p undef)) : Sem Value))).run P w = .ok us w) :
  (results fn a.tmps).run P w = .ok (if h : us.toArray.size = 1 then us.toArray[0] else .tuple us.toArray) w := by
 unfold results; rw [Array.mapM_eq_mapM_toList]; simp only [Sem.run_bind]; have : (List.toArray <$> (fn.results.toList.mapM fun (r : ResultVar) => (match r with | .tmp t => pure (a.tmps.getD t undef) | .cell p t => do loadVar t (<- asAddr (a.tmps.getD p undef)) : Sem Value))).run P w = .ok us.toArray w := by
  show ((fn.results.toList.mapM fun (r : ResultVar) => (match r with | .tmp t => pure (a.tmps.getD t undef) | .cell p t => do loadVar t (<- asAddr (a.tmps.getD p undef)) : Sem Value)).bind fun x => Sem.pure x.toArray).run P w = _; have hb := Sem.run_bind' P (fn.results.toList.mapM fun (r : ResultVar) => (match r with | .tmp t => pure (a.tmps.getD t undef) | .cell p t => do loadVar t (<- asAddr (a.tmps.getD p undef)) : Sem Value)) (fun x => Sem.pure x.toArray) w; rw [hb, h1]; rfl
 erw [this]
 rfl
theorem xb (hs : Sim F st μ C a w) {fn : Func} {pk : Pk} {v : V} (hv : pm F.P pk st fn.results.toList = some v) : ∃ u, (results fn a.tmps).run F.P w = .ok u w /\ ax μ C v u := by
 have one : ∀ {r : ResultVar}, fn.results.toList = [r] -> iW F.P st r = some v -> ∃ u, (results fn a.tmps).run F.P w = .ok u w /\ ax μ C v u := by
  intro r hr hv; obtain ⟨u, h1, h2⟩ := xY hs hv; refine ⟨u, ?_, h2⟩; have := qT (P := F.P) (fn := fn) (a := a) (w := w) (us := [u]) (by rw [hr]; simp only [List.mapM_cons, List.mapM_nil, Sem.run_bind, h1, Result.andThen_ok, Sem.run_pure]); simpa using this
 unfold pm at hv; split at hv
 ·split at hv
  ·rename_i r rs hr; simp only [Option.bind_eq_some_iff] at hv; obtain ⟨x, hx, hv⟩ := hv; obtain ⟨u, h1, h2⟩ := xY hs hx; split at hv
   ·rename_i l n; split at hv
    ·cases hv
    ·rename_i hne; simp only [Option.map_eq_some_iff] at hv; obtain ⟨ds, hds, rfl⟩ := hv; obtain ⟨us, g1, g2⟩ := sA hs hds; have hul : us ≠ [] := by
      intro e; subst e; cases rs with
      | nil => simp at hne
      | cons r' rs =>
       have := ja g2; simp only [km, Option.bind_eq_some_iff, Option.map_eq_some_iff] at hds; obtain ⟨_, _, _, _, _, _, rfl⟩ := hds; simp at this
     have := qT (P := F.P) (fn := fn) (a := a) (w := w) (us := u :: us) (by rw [hr]; simp only [List.mapM_cons, Sem.run_bind, h1, Result.andThen_ok]; erw [g1]; rfl); obtain ⟨p, ao, q1, rfl, q3, q4⟩ := h2; refine ⟨_, this, p, ao, us, q1, by simpa using q3, by simpa using q4, ?_⟩; rw [if_pos rfl]; refine ⟨g2, ?_⟩; cases us with
     | nil => exact absurd rfl hul
     | cons u2 us => simp
   ·cases hv
  ·cases hv
 ·split at hv
  ·rename_i r hr; exact one hr hv
  ·cases hv
theorem cc.of {f : FuncId} {fn : Func} {c : Code} {ds : List D} {pk : Pk} {sz : Nat} {rows : zRz} {rest : List D} (hf : P.funcs[f]? = some fn) (hb : fn.body = some c) (hN : fn.ntmps = N) (hp : ds.length <= N)
  (h : ∀ F, Env F P G N -> F.n0 = 0 -> F.top -> Sm F c (Lb P fn pk sz rows rest) ⟨ds.zipIdx.map fun e => (e.2, .d e.1), [], 0⟩) : cc P G f ds pk sz rows rest := by
 intro C w vs hG hk ha; have hvl : vs.length = ds.length := ja ha
 let F : Fr := ⟨P, N, w, C, fun _ => False, none, 0, [], fun _ _ _ _ _ => True, fun _ _ => trivial⟩
 have hsz : (vs.toArray ++ Array.replicate (fn.ntmps - vs.toArray.size) undef).size = N := by simp; omega
 have hlook : ∀ (ds : List D) (k : Nat) (t : Nat) (x : V), look ((ds.zipIdx k).map fun e => (e.2, V.d e.1)) t = some x -> ∃ d, x = .d d /\ k <= t /\ ds[t - k]? = some d := by
  intro ds
  induction ds with
  | nil => intro k t x h; simp [look] at h
  | cons d ds ih =>
   intro k t x h; simp only [List.zipIdx_cons, List.map_cons, look] at h; split at h
   ·rename_i e; cases h; subst e; exact ⟨d, rfl, Nat.le_refl _, by simp⟩
   ·obtain ⟨d', rfl, h1, h2⟩ := ih _ _ _ h; refine ⟨d', rfl, by omega, ?_⟩; rw [show t - k = (t - (k + 1)) + 1 by omega]; simpa using h2
 have hsim : Sim F ⟨ds.zipIdx.map fun e => (e.2, .d e.1), [], 0⟩ (fun _ => none) C { tmps := vs.toArray ++ Array.replicate (fn.ntmps - vs.toArray.size) undef, defers := [] } w := by
  refine ⟨hsz, .nil _ _, Kept.refl _ _, fun _ _ _ h => h, fun _ _ _ h => .inl h, hk, fun t x hx => ?_, fun l k hk => by simp [look] at hk, fun l l' p p' h => by simp [look] at h, fun _ _ => rfl, trivial⟩; obtain ⟨d, rfl, _, hd⟩ := hlook ds 0 t x hx; rw [Nat.sub_zero] at hd; obtain ⟨v, h1, h2⟩ := nQ ha t d hd; have htl := (List.getElem?_eq_some_iff.1 h1).1; have : (vs.toArray ++ Array.replicate (fn.ntmps - vs.toArray.size) undef).getD t undef = v := by
   rw [Array.getD_eq_getD_getElem?, Array.getElem?_append_left (by simpa using htl)]; simp [h1]
  show Rep C d _; rw [this]; exact h2
 refine pc (F := F) rfl rfl hf hb (h F ⟨rfl, rfl, hG⟩ rfl ⟨rfl, fun _ _ _ _ _ _ _ _ _ => trivial⟩) hsim (fun e st' hq => by cases e <;> first | exact .inl rfl | exact .inr rfl | exact hq.elim) ?_; intro e st' μ' C' _ _ hq _ a w' _ hs; have fin : (∃ l, pm P pk st' fn.results.toList = some (pk.v l rows.length rest) /\ look st'.h l = some (dB sz rows)) -> ∃ v, (results fn a.tmps).run P w' = .ok v w' /\ ∃ s us C', Ending.returned v = .returned (pk.val s us) /\ More w C w' C' /\ CA C' w.heap.size w' s sz rows /\ pk.ok C' rest us := by
  rintro ⟨l, hv, hl⟩; obtain ⟨u, h1, h2⟩ := xb hs hv; rw [show F.free.P = P from rfl] at h1; have hm : More w C w' C' := ⟨hs.below.below, hs.sub, fun b o u h => (hs.new b o u h).imp id fun h => h.resolve_right (by simp [F, Fr.free]), hs.known⟩
  obtain ⟨p, hp, hB⟩ := hs.heap l _ hl; have hB' : BlkOk (w.heap.size <= ·) (fun _ => none) C' w' p (dB sz rows) := by
   refine ⟨hB.sz, hB.len, hB.max, hB.row, fun hc => ?_⟩; obtain ⟨b1, b2, cur, T, b3, b4, b5⟩ := hB.cells hc; refine ⟨b1.resolve_right (by simp [F, Fr.free]), b2, cur, T, b3, b4, fun i r hr j x hj => ?_⟩; obtain ⟨u, g1, g2, g3⟩ := b5 i r hr j x hj; refine ⟨u, g1, g2, ?_⟩; have hr' : ∃ r0 : List D, r = r0.map V.d := by
    have := List.mem_of_getElem? hr; obtain ⟨r0, _, e⟩ := List.mem_map.1 this; exact ⟨r0, e.symm⟩
   obtain ⟨r0, rfl⟩ := hr'; rw [List.getElem?_map] at hj; cases hd : r0[j]? with
   | none => rw [hd] at hj; cases hj
   | some d => rw [hd] at hj; cases hj; exact g3
  cases pk with
  | one =>
   obtain ⟨q, ao, q1, rfl, q3, q4⟩ := h2; rw [hp] at q1; cases q1; exact ⟨_, h1, _, [], C', rfl, hm, ⟨p, ao, by simp, by simpa using q4, hB'⟩, trivial⟩
  | tup =>
   obtain ⟨q, ao, us, q1, q2, q3, q4⟩ := h2; rw [hp] at q1; cases q1; rw [if_pos rfl] at q4; obtain ⟨q4, rfl⟩ := q4; exact ⟨_, h1, _, us, C', rfl, hm, ⟨p, ao, rfl, q3, hB'⟩, q4⟩
  | agg =>
   obtain ⟨q, ao, us, q1, q2, q3, q4⟩ := h2; rw [hp] at q1; cases q1; rw [if_neg (by simp)] at q4; obtain ⟨q4, rfl⟩ := q4; exact ⟨_, h1, _, us, C', rfl, hm, ⟨p, ao, rfl, q3, hB'⟩, q4⟩
 cases e <;> first | exact fin hq | exact hq.elim
end
theorem BJ {F : Fr} {c y : Code} {Q Q' : zQz} {st : St} {ι : Type} (I : ι -> St) (h1 : ∀ i, Sm F y Q (I i)) (h2 : Sm F c (ba (fun st' => ∃ i, st'.le (I i)) Q') st) : Sm F c (ba (Sm F y Q) Q') st := by
 refine h2.mono fun e st' h => ?_
 cases e <;> first | exact h | (obtain ⟨i, hle⟩ := h; exact (h1 i).less hle)
theorem aj.args {P : Program} {G : zGz} {f : FuncId} {ds ds' : List D} {r : D} (h : aj P G f ds' r) (hd : ∀ C vs, Rp C (.outs ds vs) -> Rp C (.outs ds' vs)) : aj P G f ds r := fun C w vs hG hk ha => h C w vs hG hk (hd C vs ha)
theorem fV {C : aw} {d d' : D} {ds ds' : List D} (h : d.le d') (k : ∀ vs, Rp C (.outs ds vs) -> Rp C (.outs ds' vs)) : ∀ vs, Rp C (.outs (d :: ds) vs) -> Rp C (.outs (d' :: ds') vs) := by
 intro vs hv; cases hv with | ocons _ v _ vs h1 h2 => exact .ocons _ _ _ _ (h C v h1) (k vs h2)
theorem xS {C : aw} (ds : List D) : ∀ vs, Rp C (.outs ds vs) -> Rp C (.outs ds vs) := fun _ h => h
theorem fh {P : Program} {s d : TypeId} {td : TypeDesc} {k k2 : IntKind} {n : Int} (h1 : P.underlying s = some td) (h2 : P.underlying d = some (.int k)) (hw : k.wrap n = n) : fM P s d (.d (.v (.int k2 n))) = some (.d (.v (.int k n))) := by
 simp only [fM, Au P k n s d h1 h2 k2, hw, Option.map_some]
def V.lt (n : Nat) : V -> Bool
 | .d _ => true
 | .ref l .. => decide (l < n)
 | .sref l .. => decide (l < n)
 | .aref l .. => decide (l < n)
 | .mix _ l .. => decide (l < n)
 | .gh _ => decide (0 < n)
 | .mp .. => true
 | .omap l => decide (l < n)
 | .clo _ us ws => us.all (Cap.lt n) && ws.all (Cap.lt n)
 | .agr _ cs => cs.all (Cap.lt n)
 | .any => true
theorem Cap.lt_rep {n : Nat} {x : Cap} (h : x.lt n = true) {μ μ' : zMz} (hμ : ∀ l, l < n -> μ' l = μ l) {C : aw} {v : Value} (hr : fr μ C x v) : fr μ' C x v := by
 cases x with
 | d => exact hr
 | r l off => obtain ⟨p, h1, h2⟩ := hr; exact ⟨p, by rw [hμ l (by simpa [Cap.lt] using h)]; exact h1, h2⟩
 | s l n => obtain ⟨p, a, h1, h2⟩ := hr; exact ⟨p, a, by rw [hμ l (by simpa [Cap.lt] using h)]; exact h1, h2⟩
 | m l => obtain ⟨p, h1, h2⟩ := hr; exact ⟨p, by rw [hμ l (by simpa [Cap.lt] using h)]; exact h1, h2⟩
def tT (n : Nat) : zEz -> zEz
 | [] => []
 | (t, x) :: r => (t, if x.lt n then x else .any) :: tT n r
theorem oD (n : Nat) : ∀ (env : zEz) (t : Nat), look (tT n env) t = (look env t).map fun x => if x.lt n then x else .any
 | [], _ => rfl
 | (k, x) :: r, t => by
  simp only [tT, look]; split
  ·rfl
  ·exact oD n r t
def qd (n : Nat) : zHz -> zHz
 | [] => []
 | (l, k) :: r => if l < n then (l, k) :: qd n r else qd n r
theorem jt (n : Nat) : ∀ (h : zHz) (l : Nat), look (qd n h) l = if l < n then look h l else none
 | [], l => by simp [qd, look]
 | (k, x) :: r, l => by
  simp only [qd]; split
  ·rename_i hk; simp only [look]; split
   ·rename_i e; subst e; rw [if_pos hk]
   ·exact jt n r l
  ·rename_i hk; rw [jt n r l]; simp only [look]; split
   ·rename_i hl; have hne : k ≠ l := by omega
    rw [if_neg hne]
   ·rfl
def ltH (n : Nat) (h : zHz) : Prop := ∀ l k, l < n -> look h l = some k -> ∀ r ∈ k.rows, ∀ x ∈ r, V.lt n x = true
theorem pF (n : Nat) : ltH n [] := fun l k _ h => by simp [look] at h
theorem lX {n m : Nat} {k : Blk} {h : zHz} (f : ltH n h) (hr : ∀ r ∈ k.rows, ∀ x ∈ r, V.lt n x = true) : ltH n ((m, k) :: h) := fun l k' hl hk => by
 simp only [look] at hk; split at hk
 ·cases hk; exact hr
 ·exact f l k' hl hk
theorem nM {n m : Nat} {k : Blk} {h : zHz} (f : ltH n h) (hm : n <= m) : ltH n ((m, k) :: h) := fun l k' hl hk => by
 simp only [look] at hk; split at hk
 ·omega
 ·exact f l k' hl hk
theorem vA (n sz : Nat) (rows : zRz) : ∀ r ∈ (dB sz rows).rows, ∀ x ∈ r, V.lt n x = true := by
 intro r hr x hx; obtain ⟨r', _, rfl⟩ := List.mem_map.1 hr; obtain ⟨d, _, rfl⟩ := List.mem_map.1 hx; rfl
theorem V.lt_rep {n : Nat} {x : V} (h : x.lt n = true) {μ μ' : zMz} (hμ : ∀ l, l < n -> μ' l = μ l) {C : aw} {v : Value} (hr : ax μ C x v) : ax μ' C x v := by
 cases x with
 | d => exact hr
 | ref l i off => obtain ⟨p, h1, h2⟩ := hr; exact ⟨p, by rw [hμ l (by simpa [V.lt] using h)]; exact h1, h2⟩
 | sref l lo len => obtain ⟨p, ao, h1, h2⟩ := hr; exact ⟨p, ao, by rw [hμ l (by simpa [V.lt] using h)]; exact h1, h2⟩
 | aref l i off es len cap => obtain ⟨p, ao, h1, h2⟩ := hr; exact ⟨p, ao, by rw [hμ l (by simpa [V.lt] using h)]; exact h1, h2⟩
 | mix tup l k rest => obtain ⟨p, ao, us, h1, h2⟩ := hr; exact ⟨p, ao, us, by rw [hμ l (by simpa [V.lt] using h)]; exact h1, h2⟩
 | any => trivial
 | gh m => obtain ⟨sz, h1⟩ := hr; exact ⟨sz, by rw [hμ 0 (by simpa [V.lt] using h)]; exact h1⟩
 | mp => exact hr
 | omap l => obtain ⟨p, h1, h2⟩ := hr; exact ⟨p, by rw [hμ l (by simpa [V.lt] using h)]; exact h1, h2⟩
 | agr tup cs =>
  simp only [V.lt, List.all_eq_true] at h; obtain ⟨us, h1, h2⟩ := hr; exact ⟨us, h1.imp' fun c hc _ hv => Cap.lt_rep (h c hc) hμ hv, h2⟩
 | clo f us ws =>
  simp only [V.lt, Bool.and_eq_true, List.all_eq_true] at h; obtain ⟨as0, bs, h1, h2, h3⟩ := hr; exact ⟨as0, bs, h1, h2.imp' fun c hc _ hv => Cap.lt_rep (h.1 c hc) hμ hv, h3.imp' fun c hc _ hv => Cap.lt_rep (h.2 c hc) hμ hv⟩
theorem xp {F : Fr} {st : St} (n : Nat) (hh : ltH n st.h) (hn : F.n0 <= n) : St.to F st ⟨tT n st.env, qd n st.h, n⟩ := by
 intro μ C a w hs; refine ⟨fun l => if l < n then μ l else none, C, hs.size, hs.defers, hs.below, hs.sub, hs.new, hs.known, fun t x hx => ?_, fun l k hk => ?_, fun l l' p p' h1 h2 g1 g2 => ?_, fun l hl => ?_, F.stab hs.gh ⟨rfl, rfl, rfl, Nat.le_refl _, fun l p hl hp => by rw [if_pos (by omega)]; exact hp, fun l hl => .inl (by simp only [jt] at hl; split at hl <;> first | exact hl | cases hl), fun _ _ _ => rfl, fun b ⟨l, k, p, g1, g2, g3⟩ => ?_, fun _ _ _ h => h, fun _ _ _ h => .inl h, hs.known⟩⟩
 ·rw [oD] at hx; cases hq : look st.env t with
  | none => rw [hq] at hx; cases hx
  | some y =>
   rw [hq] at hx; simp only [Option.map_some, Option.some.injEq] at hx; subst hx; split
   ·rename_i hl; exact V.lt_rep hl (fun l hl => by simp [hl]) (hs.env t y hq)
   ·trivial
 ·rw [jt] at hk; split at hk
  ·rename_i hl; obtain ⟨p, hp, hb⟩ := hs.heap l k hk; refine ⟨p, by simp [hl, hp], hb.sz, hb.len, hb.max, hb.row, fun hc => ?_⟩; obtain ⟨b1, b2, cur, T, b3, b4, b5⟩ := hb.cells hc; refine ⟨b1, b2, cur, T, b3, b4, fun i r hr j x hx => ?_⟩; obtain ⟨u, g1, g2, g3⟩ := b5 i r hr j x hx; exact ⟨u, g1, g2, V.lt_rep (hh l k hl hk r (List.mem_of_getElem? hr) x (List.mem_of_getElem? hx)) (fun l hl => by simp [hl]) g3⟩
  ·cases hk
 ·rw [jt] at h1 h2; split at h1
  ·rename_i hl; split at h2
   ·rename_i hl'; simp only [if_pos hl] at g1; simp only [if_pos hl'] at g2; exact hs.inj l l' p p' h1 h2 g1 g2
   ·cases h2
  ·cases h1
 ·have hl' : n <= l := hl; simp [show ¬ l < n by omega]
 ·rw [jt] at g1; split at g1
  ·rename_i hl; simp only [if_pos hl] at g2; exact .inl ⟨l, k, p, g1, g2, g3⟩
  ·cases g1
section
variable {P : Program} {G : zGz} {N : Nat} {F : Fr} {ops rest : zOz} {Q : zQz} {env : zEz} {h : zHz} {nx : Nat} {c : Code}
theorem SmG.cut (n : Nat) (hh : ltH n h) (k : SmG F N ops rest Q ⟨tT n env, qd n h, n⟩) (hn : F.n0 <= n := by omega) : SmG F N ops rest Q ⟨env, h, nx⟩ := by
 intro hsm; refine SmL.to (xp (st := ⟨env, h, nx⟩) n hh hn) (k ?_); intro s y hy; simp only [oD] at hy; cases hq : look env s with
 | none => rw [hq] at hy; cases hy
 | some y' => exact hsm s y' hq
end
theorem oT {α β : Type} (f : α -> β) (n : Nat) (l : List α) : List.take n (List.map f l) = List.map f (List.take n l) := by rw [List.map_take]
section
variable {P : Program} {G : zGz} {env : zEz} {h : zHz} {o : Oper}
end
theorem cK {P : Program} {fn : Func} {p : Tmp} {ty : TypeId} {st : St} {x : V} {v d : D} (hr : fn.results = #[.cell p ty]) (hx : af st.env p = some x) (hl : aX P st.h ty x = some (.d v)) (hle : v.le d) : wZ P fn d .ret st := by
 refine ⟨v, ?_, hle⟩; rw [aL] at hx; simp only [kI, hr, km, iW, hx, hl, Option.bind_some, vI, Option.map_some]
attribute [go_sem] gK rep uM mm nO Pk.v List.getElem?_toArray List.getElem_toArray List.getElem_cons_succ List.getElem_cons_zero jb
end
section
def aG (b : UInt8) : D := .v (.int .u8 b.toNat)
def ai (b : UInt8) : List D := [aG b]
def aB (l : zBz) : D := .list 1 (l.map ai) false
def ay (s : zBz) : List D := s.map aG
def qZ (s : zBz) : D := .agg 32 (ay s)
def av (l : zBz) : List D := [aB l]
section
variable {C : aw} {w : World}
theorem FN {sz : Nat} {xs : zRz} {f : Bool} {v : Value} (h : Rep C (.list sz xs f) v) (hk : bG C w) : ∃ vs, Rp C (.vals xs.flatten vs) /\ Sl w v xs.length vs := by
 obtain ⟨ao, cap, rfl, hc, h3⟩ := Rep.elem h; by_cases hx : xs = []
 ·subst hx; exact ⟨[], .vnil, ao, cap, rfl, hc.le, hc.max, hc.nil, fun b o s e => ⟨fun h => hc.spot ⟨b, o, s⟩ e h, fun j u hj => by simp at hj⟩⟩
 ·obtain ⟨b, off, rfl, hr⟩ := h3 hx; obtain ⟨g1, g2⟩ := yc hr; obtain ⟨vs, hv, hcell⟩ := ug g2; refine ⟨vs, hv, _, cap, rfl, hc.le, hc.max, hc.nil, fun b' o s e => ?_⟩; cases e; exact ⟨fun _ => rfl, fun j u hj => hk.cell (hcell j u hj) (rb hv u (List.mem_of_getElem? hj))⟩
theorem Lp : ∀ {xs vs : zLz}, Rp C (.vals (xs.map D.v) vs) -> vs = xs := by
 intro xs
 induction xs with
 | nil => intro vs h; cases h; rfl
 | cons x xs ih =>
  intro vs h; cases h with
  | vcons _ v _ vs h1 h2 h3 => rw [bz h2, ih h3]
theorem Fq : ∀ {xs : zLz}, (∀ x ∈ xs, x.oneCell' = true) -> Rp C (.vals (xs.map D.v) xs) := by
 intro xs
 induction xs with
 | nil => intro _; exact .vnil
 | cons x xs ih => intro h; exact .vcons _ _ _ _ (h x (by simp)) (.v x) (ih fun y hy => h y (by simp [hy]))
theorem GP {α β : Type} (f : α -> β) (l : List α) : (l.map fun x => [f x]).flatten = l.map f := by
 induction l with
 | nil => rfl
 | cons x l ih => simp [ih]
theorem Ld (s : zBz) : ay s = (u8s s).map D.v := by simp [ay, u8s, aG]
theorem Gu {l : zBz} {v : Value} (h : Rep C (aB l) v) (hk : bG C w) : Sl w v l.length (u8s l) := by
 obtain ⟨vs, h1, h2⟩ := FN h hk; have e : (l.map ai).flatten = (u8s l).map D.v := by
  show (l.map fun b => [aG b]).flatten = _; rw [GP]; simp [u8s, aG]
 rw [e] at h1; rw [Lp h1] at h2; simpa using h2
theorem Kg {s : zBz} (h : s.length = 32) : Rep C (qZ s) (.agg (u8s s).toArray) :=
 .agg 32 _ _ (by simp [ay, h]) (by rw [Ld]; exact Fq (Cq s))
end
theorem IH {C : aw} {d : D} {vs : zLz} (h : Rp C (.outs [d] vs)) : ∃ v, vs = [v] /\ Rep C d v := by
 cases h with | ocons _ v _ _ h1 h2 => cases h2; exact ⟨v, rfl, h1⟩
theorem Mb {C : aw} {d e : D} {vs : zLz} (h : Rp C (.outs [d, e] vs)) : ∃ v u, vs = [v, u] /\ Rep C d v /\ Rep C e u := by
 cases h with | ocons _ v _ _ h1 h2 => obtain ⟨u, rfl, h3⟩ := IH h2; exact ⟨v, u, rfl, h1, h3⟩
end
section
section
variable {P : Program} {F : Fence} {n : Nat} {ops : Array Oper} {rest : zOz} {o : Oper} {a : Act} {w w' : World} {Q : Exit -> Act -> World -> Prop}
theorem tv (hF : ∀ f, F.fn f) (hgd : o.guard = none) (hnd : ∀ c, o.op ≠ .defer c) {v : Value} (hrun : (execOp a.eval o).run P w = .ok (.value v) w') (h : wpListIn F n P ops Q rest (a.put o.dst v) w') :
  wpListIn F n P ops Q (o :: rest) a w := by
 refine wpListIn_plain hgd fun K hK => ⟨fun f _ => hF f, ?_⟩
 rw [Oper.semAt_plain F _ _ hnd, hrun, Oper.uponIn_value]; exact hK _ _ h
theorem uv (hF : ∀ f, F.fn f) (hgd : o.guard = none) (hnd : ∀ c, o.op ≠ .defer c) (hd : o.dst = none) (hrun : (execOp a.eval o).run P w = .ok .skip w') (h : wpListIn F n P ops Q rest a w') :
  wpListIn F n P ops Q (o :: rest) a w := by
 refine wpListIn_plain hgd fun K hK => ⟨fun f _ => hF f, ?_⟩
 rw [Oper.semAt_plain F _ _ hnd, hrun, Oper.uponIn_skip, hd]; exact hK _ _ h
theorem rx (hF : ∀ f, F.fn f) (hgd : o.guard = none) (ty : TypeId) (x : Operand) (ho : o.op = .load ty x) (g off : Nat) (hx : a.eval x = .pointer (some ⟨g, off, none⟩))
  (cs : zLz) (hT : ry P ty cs.length) (hc : ∀ j v, cs[j]? = some v -> w.cell? ⟨g, off + j, none⟩ = some v)
  (h : wpListIn F n P ops Q rest (a.put o.dst (.agg cs.toArray)) w) : wpListIn F n P ops Q (o :: rest) a w := by
 have hl : (loadCells ⟨g, off, none⟩ cs.length).run P w = .ok cs.toArray w :=
  run_loadCells_list (P := P) w ⟨g, off, none⟩ cs (fun j v hv => by rw [dJ]; exact hc j v hv)
 refine tv hF hgd (by rw [ho]; intro c hc; cases hc) ?_ h; simp only [execOp, ho, hx]; simp [Instr.loadAt, Instr.sureAddr, loadVar, Sem.run_bind, hT.1, iL hT.2, hl, Result.andThen]
theorem rc (hF : ∀ f, F.fn f) (hgd : o.guard = none) (hd : o.dst = none) (ty : TypeId) (x y : Operand) (ho : o.op = .store ty x y) (g off : Nat) (hx : a.eval x = .pointer (some ⟨g, off, none⟩))
  (cs : zLz) (hy : a.eval y = .agg cs.toArray) (hT : (P.info? ty).map (·.size) = some cs.length) (h1 : ∀ v ∈ cs, v.oneCell' = true) (cur : zLz) (hA : Arr w g cur) (hfit : off + cs.length <= cur.length)
  (h : ∀ w', Arr w' g (lay cur off cs) -> w.grownBy w' (some g) -> wpListIn F n P ops Q rest a w') : wpListIn F n P ops Q (o :: rest) a w := by
 obtain ⟨T, hg⟩ := hA; have hs : (storeCells ⟨g, off, none⟩ cs).run P w = .ok () (w.setRow g (lay cur off cs).toArray) := by
  have := run_storeCells_at P g off T cs 0 cur.toArray w hg (by simpa using hfit) h1; simpa [lay] using this
 refine uv (w' := w.setRow g (lay cur off cs).toArray) hF hgd (by rw [ho]; intro c hc; cases hc) hd ?_ (h _ (Arr.setRow ⟨T, hg⟩ _) (jN _ _ _)); simp only [execOp, ho, hx, hy]; simp [Instr.storeAt, Instr.sureAddr, storeVar, Sem.run_bind, Value.cells, iL hT, hs, Result.andThen]
end
theorem yL {P : Program} {w : World} {fn : Func} {p : Tmp} {ty : TypeId} (hr : fn.results = #[.cell p ty]) (tmps : Array Value) (g : Nat) (hp : tmps.getD p undef = .pointer (some ⟨g, 0, none⟩))
  (cs : zLz) (hA : Arr w g cs) (hT : ry P ty cs.length) : (results fn tmps).run P w = .ok (.agg cs.toArray) w := by
 have hl : (loadCells ⟨g, 0, none⟩ cs.length).run P w = .ok cs.toArray w :=
  run_loadCells_list (P := P) w ⟨g, 0, none⟩ cs (fun j v hv => by rw [dJ, Nat.zero_add]; exact hA.cell hv)
 have hp' : tmps[p]?.getD undef = .pointer (some ⟨g, 0, none⟩) := by simpa using hp
 simp [results, hr, hp', asAddr, loadVar, Sem.run_bind, hT.1, iL hT.2, hl, Result.andThen]
theorem Arr.ownK {W W' : World} {row : Option Nat} {b : Nat} {cs : zLz} (h : Arr W b cs) (hg : W.grownBy W' row) (hr : ∀ r, row = some r -> ∃ o : Obj, W.heap[r]? = some o /\ o.isCells = false) : Arr W' b cs := by
 refine h.grown hg (fun e => ?_); obtain ⟨o, ho, hc⟩ := hr b e.symm; obtain ⟨T, hT⟩ := h; rw [hT] at ho; cases ho; cases hc
theorem wL {W W' : World} (h : Below W.heap.size W W') : KeepsOthers W W' :=
 ⟨h.size, fun k o hk _ => (h.block k (Array.getElem?_eq_some_iff.1 hk).1).trans hk⟩
theorem wM {W W' : World} {g : Nat} {cs : zLz} (hA : Arr W g cs) (h : W.grownBy W' (some g)) : KeepsOthers W W' :=
 KeepsOthers.of_grownBy h (fun j o e ho => by
  cases e; obtain ⟨T, hT⟩ := hA; rw [hT] at ho; cases ho; rfl)
end
section
open Go.RowKit Go.Shelf
attribute [local go_sem] Oper.semAt_some
def pR (w : World) : Prop := (∀ i, i < 8 -> w.cell? ⟨0, i, none⟩ = some (.int .u32 (Sha.begin8.getD i 0).toNat)) /\ (∀ i, i < 64 -> w.cell? ⟨1, i, none⟩ = some (.int .u32 (Sha.keys64.getD i 0).toNat))
theorem pR.below {B : Nat} {w w' : World} (h : pR w) (hb : Below B w w') (hB : 2 <= B) : pR w' :=
 ⟨fun i hi => (hb.cell (p := ⟨0, i, none⟩) (by simp; omega)).trans (h.1 i hi), fun i hi => (hb.cell (p := ⟨1, i, none⟩) (by simp; omega)).trans (h.2 i hi)⟩
theorem pR.size {w : World} (h : pR w) : 2 <= w.heap.size := block_lt_of_cell (h.2 0 (by omega))
theorem tW : ElemT Tryd.prog 30 5 (.int .u8 0) 1 1 := ⟨Tryd.underlying30, by kernel_rfl, rfl, by decide⟩
theorem CF : ry Tryd.prog 42 32 := ⟨fun _ => by kernel_rfl, by kernel_rfl⟩
set_option maxRecDepth 100000 in
set_option maxHeartbeats 1000000 in
theorem Kf (v : Value) (l : zBz) (w : World) (hg : pR w) (hS : Sl w v l.length (u8s l)) (hn : l.length <= 1000000) :
  Calls Tryd.prog 21 #[v] w fun e w' => e = .returned (.agg (u8s (Sha.sum l)).toArray) /\ Below w.heap.size w w' := by
 obtain ⟨ao, cap, rfl, hle, hcap, hnil, hcell⟩ := hS; obtain ⟨n, hnn⟩ : ∃ n, n = l.length := ⟨_, rfl⟩
 rw [<- hnn] at hle hn; have Hn := Lib.hid hnn; have HG := Lib.hid hg; clear hg; have HC := Lib.hid hcell; clear hcell; have Hnil := Lib.hid hnil; clear hnil; rw [<- hnn]; clear hnn; refine callsIn_wide (n := 2).1 ?_; refine callsIn_of_wp_marks Tryd.func21 rfl trivial ?_ rfl; simp only [Tryd.ntmps21, List.size_toArray, List.length_cons, List.length_nil, Nat.reduceAdd, Nat.reduceSub, Array.replicate_succ, Array.replicate_zero, List.push_toArray, List.append_toArray, List.nil_append, List.cons_append]; refine wpIn_wide.2 ?_
 go_wp2_with (first
  | (go_at_call 41; refine (Gy ao n cap _ hle hcap Hnil.out).mono ?_; rintro e w' ⟨rfl, rfl⟩)
  | (at_builtin; refine Hid.out ?_))
 refine qY ?_; refine uw tW rfl _ _ rfl ao n (u8s l) rfl (fun h => by have := Hnil.out h; omega) (by rw [nc, <- Hn.out, Nat.mul_one]) (fun b o s e => ⟨fun h => (HC.out b o s e).1 (by omega), fun j u hj => ?_⟩) _ rfl [.int .u8 128] (Arr.newAt (by simp) _ _) rfl (by simp [Value.oneCell']) (by omega) (by omega) ?_
 ·have := (HC.out b o s e).2 j u hj; exact mf (((Below.refl _ _).alloc (Nat.le_refl _) _).alloc (by simp) _) this
 intro g1 cap1 w1 hown hgr hg1 hlt1; have hB1 : Below w.heap.size w w1 := (((Below.refl _ _).alloc (Nat.le_refl _) _).alloc (by simp) _).grown hgr (by simp; omega) (by intro k hk; cases hk); have hA0 : Arr w1 w.heap.size (u8s (List.replicate 32 0)) := ((Arr.new w (u8s (List.replicate 32 0)) _).alloc _).grown hgr (by simp); have hown' : w1.ownsRow (w.heap.size + 1) 5 1 (.slice (some ⟨g1, 0, none⟩) (n + 1) cap1) (n + 1) (u8s (l ++ [128])) := by
  have : u8s (l ++ [128]) = u8s l ++ [.int .u8 128] := by simp [u8s]
  rw [this]; exact Hp hown (by simp)
 have hg1' : w.heap.size + 1 <= g1 := by simp at hg1; omega
 clear hown hgr hcap hle hg1
 go_wp2
 go_loopw [3] (fun v wr => ∃ j : Nat, j <= Sha.zeros n /\ ∃ g cap, v = .slice (some ⟨g, 0, none⟩) (n + 1 + j) cap /\ w.heap.size + 1 <= g /\ g < wr.heap.size /\ wr.ownsRow (w.heap.size + 1) 5 1 (.slice (some ⟨g, 0, none⟩) (n + 1 + j) cap) (n + 1 + j) (u8s (l ++ [128] ++ List.replicate j 0)) /\ Arr wr w.heap.size (u8s (List.replicate 32 0)) /\ Below w.heap.size w wr) (fun v _ => n + 1 + Sha.zeros n - ze v)
 case atStart => exact ⟨0, by omega, g1, cap1, rfl, hg1', hlt1, by simpa using hown', hA0, hB1⟩
 case round =>
  clear hB1 hA0 hown' hlt1 hg1'; obtain ⟨j, hj, g, cap, rfl, hgB, hgl, hown, hA, hB⟩ := hrel; have hz : Sha.zeros n <= 63 := by unfold Sha.zeros; omega
  have Hown := Lib.hid hown; clear hown; have HA := Lib.hid hA; clear hA; have hsz := hB.size; have HB := Lib.hid hB; clear hB; by_cases hlt : j < Sha.zeros n
  ·have ht := Sha.zeros_test n j hlt; have hb : (((n : Int) + 1 + j + 8) % 64 != 0) = true := by rw [bne_iff_ne]; omega
   have HL := Lib.hid hlt; have hj63 : j <= 62 := by omega
   clear hlt hj ht hz
   go_wp2_with (at_builtin; refine Hid.out ?_)
   refine qY ?_; refine pO tW rfl _ _ rfl (w.heap.size + 1) (n + 1 + j) _ _ _ rfl (Hown.out.alloc _) _ rfl [.int .u8 0] (Arr.newAt rfl _ _) rfl (by simp [Value.oneCell']) (by omega) (by omega) (by simp; omega) ?_; intro g2 cap2 w2 hown2 hgr2 hg2 hlt2; have hB2 : Hid (Below w.heap.size w w2) := by
    refine qY ((HB.out.alloc HB.out.size _).grown hgr2 ?_ ?_)
    ·rw [World.size_alloc]; omega
    ·intro k hk; cases hk; omega
   have hA2 : Hid (Arr w2 w.heap.size (u8s (List.replicate 32 0))) := qY ((HA.out.alloc _).grown hgr2 (by intro h; cases h; omega)); have Hown2 := Lib.hid hown2; clear hown2 hgr2
   go_wp2
   go_roundw
   case rel =>
    refine ⟨j + 1, HL.out, g2, cap2, rfl, hg2, hlt2, ?_, hA2.out, hB2.out⟩; have e : u8s (l ++ [128] ++ List.replicate (j + 1) 0) = u8s (l ++ [128] ++ List.replicate j 0) ++ [.int .u8 0] := by
     rw [List.replicate_succ', <- List.append_assoc]; simp [u8s]
    rw [e]; exact Hown2.out
   case measure => simp [ze]; have := HL.out; omega
  ·have hje : j = Sha.zeros n := by omega
   have hb : (((n : Int) + 1 + j + 8) % 64 != 0) = false := by
    have := Sha.zeros_end n; rw [bne_eq_false_iff_eq]; omega
   have HJ := Lib.hid hje; have hj63 : j <= 63 := by omega
   clear hlt hj hz hje
   go_wp2_with (at_builtin; refine Hid.out ?_)
   go_loopw [3, 4] (fun v s wr => ∃ i : Nat, i <= 8 /\ s = .int .i64 (56 - 8 * (i : Int)) /\ ∃ g cap, v = .slice (some ⟨g, 0, none⟩) (n + 1 + j + i) cap /\ w.heap.size + 1 <= g /\ g < wr.heap.size /\ wr.ownsRow (w.heap.size + 1) 5 1 (.slice (some ⟨g, 0, none⟩) (n + 1 + j + i) cap) (n + 1 + j + i) (u8s (l ++ [128] ++ List.replicate j 0 ++ (Sha.lenBytes n).take i)) /\ Arr wr w.heap.size (u8s (List.replicate 32 0)) /\ Below w.heap.size w wr) (fun v _ _ => n + 1 + j + 8 - ze v)
   case atStart => exact ⟨0, by omega, rfl, g, cap, rfl, hgB, hgl, by simpa using Hown.out, HA.out, HB.out⟩
   case round =>
    clear HA HB Hown hgB hgl hsz; obtain ⟨i, hi, rfl, g, cap, rfl, hgB, hgl, hown, hA, hB⟩ := hrel; have Hown := Lib.hid hown; clear hown; have HA := Lib.hid hA; clear hA; have hsz := hB.size; have HB := Lib.hid hB; clear hB; by_cases hlt : i < 8
    ·have h56 : (0 : Int) <= 56 - 8 * i := by omega
     go_wp2_with (at_builtin; refine Hid.out ?_)
     refine qY ?_; refine pO tW rfl _ _ rfl (w.heap.size + 1) (n + 1 + j + i) _ _ _ rfl (Hown.out.alloc _) _ rfl [_] (Arr.newAt rfl [_] _) rfl ?_ (by omega) (by omega) (by simp; omega) ?_
     ·intro u hu; simp only [List.mem_singleton] at hu; subst hu; rfl
     intro g2 cap2 w2 hown2 hgr2 hg2 hlt2; have hB2 : Hid (Below w.heap.size w w2) := by
      refine qY ((HB.out.alloc HB.out.size _).grown hgr2 ?_ ?_)
      ·rw [World.size_alloc]; omega
      ·intro k hk; cases hk; omega
     have hA2 : Hid (Arr w2 w.heap.size (u8s (List.replicate 32 0))) := qY ((HA.out.alloc _).grown hgr2 (by intro h; cases h; omega)); have Hown2 := Lib.hid hown2; clear hown2 hgr2
     go_wp2
     go_roundw
     case rel =>
      refine ⟨i + 1, by omega, by go_num, g2, cap2, rfl, hg2, hlt2, ?_, hA2.out, hB2.out⟩; have e : u8s (l ++ [128] ++ List.replicate j 0 ++ (Sha.lenBytes n).take (i + 1)) = u8s (l ++ [128] ++ List.replicate j 0 ++ (Sha.lenBytes n).take i) ++ [.int .u8 (8 * ↑n / 2 ^ (56 - 8 * i) % 256)] := by
       rw [Sha.lenBytes_take n i hlt, <- List.append_assoc]; simp only [u8s, List.map_append, List.map_cons, List.map_nil]
       congr 3
      rw [e]; exact Hown2.out
     case measure => simp [ze]; omega
    ·obtain rfl : i = 8 := by omega
     have hg2 := HG.out.below HB.out HG.out.size; have hgb := Lib.hid hg2.1; clear hg2
     go_wp2_with (first
      | (refine gS rfl _ _ rfl 0 0 rfl (bg Sha.begin8) rE (fun j v hv => ?_) ?_)
      | (refine gE rfl rfl _ _ _ rfl _ _ rfl (bg Sha.begin8) rfl rE.2 (kL _) _ (Arr.newAt rfl (bg (List.replicate 8 0)) _) (by decide) ?_; intro w3 hA3 hG3)
      | (go_at_call 42; refine (EG _ _ _ _).mono ?_; rintro e w' ⟨rfl, hw'⟩))
     ·have hj8 : j < 8 := by
       have := (List.getElem?_eq_some_iff.1 hv).1; simpa [bg, Sha.begin8] using this
      rw [ga (l := Sha.begin8) (by simpa [Sha.begin8] using hj8), Option.some.injEq] at hv; rw [<- hv, Nat.zero_add]; exact hgb.out j hj8
     obtain ⟨cur, hcur, htake, hcle, hcmax, hclen⟩ := Jz Hown.out; have hpad : l ++ [128] ++ List.replicate j 0 ++ (Sha.lenBytes n).take 8 = Sha.padded l := by
      rw [HJ.out, Hn.out, List.take_of_length_le (by simp [Sha.lenBytes])]; rfl
     rw [hpad, Nat.mul_one] at htake; obtain ⟨m, hm⟩ : ∃ m, m = (Sha.padded l).length / 64 := ⟨_, rfl⟩
     have hmod := Sha.padded_mod l; have hplen := Sha.padded_length l; rw [<- hm] at hmod; rw [<- Hn.out, <- HJ.out] at hplen; have h64 : n + 1 + j + 8 = 64 * m := by omega
     rw [h64] at hw' htake hcle ⊢; have eA : lay (bg (List.replicate 8 0)) 0 (bg Sha.begin8) = bg Sha.first.list := rfl; rw [eA] at hA3; obtain ⟨b5, hb5⟩ : ∃ b, b = wr.heap.size := ⟨_, rfl⟩
     rw [<- hb5] at hA3 hG3 ⊢; have hB3 : Below w.heap.size w w3 := by
      refine (HB.out.alloc HB.out.size _).grown hG3 ?_ ?_
      ·rw [World.size_alloc]; omega
      ·intro k hk; cases hk; omega
     have hZ3 : Arr w3 w.heap.size (u8s (List.replicate 32 0)) := (HA.out.alloc _).grown hG3 (by intro h; cases h; omega); have hC3 : Arr w3 g cur := (hcur.alloc _).grown hG3 (by intro h; cases h; omega); have hs3 : b5 < w3.heap.size := hA3.lt; have hBw : Below w3.heap.size w3 w' := by rw [hw']; exact ((Below.refl _ _).alloc (Nat.le_refl _) _).alloc (by simp) _
     have c0 : w'.cell? ⟨w3.heap.size, 0, none⟩ = some (.slice (some ⟨g, 0, none⟩) (64 * m) cap) := by rw [hw']; simp
     have c1 : w'.cell? ⟨w3.heap.size + 1, 0, none⟩ = some (.int .i64 64) := by rw [hw']; simp
     have hsw : w3.heap.size + 1 < w'.heap.size := block_lt_of_cell c1; have A5 := hA3.below' hBw; have AZ := hZ3.below' hBw; have AC := hC3.below' hBw; have BW := hB3.trans (hBw.mono hB3.size); have hB3s := hB3.size; rw [<- hw']; clear hw' hA3 hZ3 hC3 hB3 hBw hG3 HA HB Hown hgb hcur; have hgb5 : g ≠ b5 := by omega
     have HT := Lib.hid htake; have H64 := Lib.hid h64; have HM := Lib.hid hm; have HMO := Lib.hid hmod; have D0 := Lib.hid c0; have D1 := Lib.hid c1; have HB5 := Lib.hid hb5; have HBW := Lib.hid BW; have hwb5 : w.heap.size <= b5 := by omega
     clear htake h64 hm hmod c0 c1 hb5 BW eA hpad hclen hplen; refine (wpIn_wide (n := 2)).1 ?_; refine wpIn_rangeFunc_ownF (F := Fence.wide) (n := 2) rfl (by decide) (gf := 67) (lb := #[.pointer (some ⟨w3.heap.size, 0, none⟩), .pointer (some ⟨w3.heap.size + 1, 0, none⟩)]) rfl trivial Tryd.call67
      (Bi 1 (by decide) w3.heap.size g m cap hcle hcmax w' hsw D0.out D1.out) (fun h k => h.trans k) (fun W l o o' hl _ _ _ => KpC.putObj W o' (by omega)) (Below.refl _ _) (fun _ => rfl)
      (fun (pre : List (Fin m)) W => Arr W b5 (bg (Sha.foldB (Sha.padded l) (pre.map (·.1))).list) /\ Arr W w.heap.size (u8s (List.replicate 32 0)) /\ Arr W g cur /\ Below w.heap.size w W /\ w'.heap.size <= W.heap.size) (fun _ _ _ => False) ?hI (fun _ _ _ _ _ h _ _ => h) ⟨A5, AZ, AC, HBW.out, Nat.le_refl _⟩ ?a1 ?assign ?body ?done ?qY
     case assign =>
      intro l x W K hK
      gi_wp2
      exact hK
     case hI =>
      intro s W W' row hs hg hr; have hr' : ∀ r, row = some r -> ∃ o : Obj, W.heap[r]? = some o /\ o.isCells = false := fun r e => (hr r e).2
      refine ⟨hs.1.ownK hg hr', hs.2.1.ownK hg hr', hs.2.2.1.ownK hg hr', hs.2.2.2.1.grown hg hs.2.2.2.1.size (fun r e => Nat.le_trans HBW.out.size (hr r e).1), Nat.le_trans hs.2.2.2.2 hg.size⟩
     case body =>
      intro l' pre x W hI hlen; obtain ⟨I5, IZ, IC, IB, IS⟩ := hI; have hxm := x.2; obtain ⟨s, hs⟩ : ∃ s, s = Sha.foldB (Sha.padded l) (pre.map (·.1)) := ⟨_, rfl⟩
      rw [<- hs] at I5; have hgW := HG.out.below IB HG.out.size; have hcell : ∀ i, i < 64 -> W.cell? ⟨g, 64 * x.1 + i, none⟩ = some (.int .u8 ((((Sha.padded l).drop (64 * x.1)).take 64).getD i 0).toNat) := by
       intro i hi; refine IC.cell ?_; have h1 : (cur.take (64 * m))[64 * x.1 + i]? = cur[64 * x.1 + i]? := List.getElem?_take_of_lt (by omega); rw [<- h1, HT.out, Cp (by have := HMO.out; omega)]
       congr 4
       simp [List.getElem?_take_of_lt hi]
      have J5 := Lib.hid I5; clear I5; have JZ := Lib.hid IZ; clear IZ; have JC := Lib.hid IC; clear IC; have JB := Lib.hid IB; clear IB; have JG := Lib.hid hgW; clear hgW; have JH := Lib.hid hcell; clear hcell; have HS := Lib.hid hs; clear hs; have hgW : g < W.heap.size := JC.out.lt
      gi_wp2_with (first
       | (refine rx (fun _ => trivial) rfl _ _ rfl b5 0 rfl (bg s.list) rE (fun j v hv => by rw [Nat.zero_add]; exact J5.out.cell hv) ?_)
       | (refine ⟨trivial, rfl, ?_⟩; gi_at_call 43; refine (CallsIn.inRound l' (callsIn_wide.2 (Er g (64 * x.1) 64 s (((Sha.padded l).drop (64 * x.1)).take 64) W hgW JH.out JG.out.2))).mono ?_; rintro e w4 ⟨rfl, hb4⟩)
       | (refine rc (fun _ => trivial) rfl rfl _ _ _ rfl b5 0 rfl (bg (Sha.after s (((Sha.padded l).drop (64 * x.1)).take 64)).list) rfl rE.2 (kL _) _ (J5.out.below' hb4) (by simp [db, sF]) ?_; intro w5 hA5 hG5))
      rw [ir _ _ (by simp [db, sF])] at hA5; have hb4' : Below w.heap.size w w4 := JB.out.trans (hb4.mono JB.out.size); have hs4 := hb4.size; refine ⟨(wL hb4).trans (wM (J5.out.below' hb4) hG5), (KpC.of_below hb4 (by omega)).trans ⟨hG5.block _ (by omega) (by intro h; cases h; omega), hG5.block _ (by omega) (by intro h; cases h; omega)⟩, ?_, (JZ.out.below' hb4).grown hG5 ?_, (JC.out.below' hb4).grown hG5 ?_, hb4'.grown hG5 hb4'.size ?_, ?_⟩
      ·rw [List.map_append, List.map_cons, List.map_nil, Sha.foldB_snoc, <- HS.out]; exact hA5
      ·intro h; cases h; have := HB5.out; omega
      ·intro h; cases h; exact hgb5 rfl
      ·intro k hk; cases hk; exact hwb5
      ·have := hG5.size; omega
     case done =>
      rintro D ys W hD hys ⟨I5, IZ, IC, IB, IS⟩ hK; have e : ys.map (·.1) = List.range m := by
       rw [hys]; apply List.ext_getElem (by simp); intro i h1 h2; simp
      rw [e, Sha.foldB_range, HM.out] at I5; obtain ⟨s, hs⟩ : ∃ s, s = Sha.over (Sha.padded l) ((Sha.padded l).length / 64) := ⟨_, rfl⟩
      rw [<- hs] at I5; have HS := Lib.hid hs; clear hs e hys; have G5 := Lib.hid I5; clear I5; have GZ := Lib.hid IZ; clear IZ; have GB := Lib.hid IB; clear IB; have GK := Lib.hid hK; clear hK; clear IC A5 AZ AC; have hls : s.list.length = 8 := rfl; have h28 : w.heap.size < W.heap.size := GZ.out.lt; have h59 : b5 < W.heap.size := G5.out.lt; clear hls
      go_wp2
      go_loopw [42] (fun i wr => ∃ k : Nat, k <= 32 /\ i = .int .i64 k /\ Arr wr W.heap.size (u8s ((Sha.out s).take k ++ List.replicate (32 - k) 0)) /\ Arr wr b5 (bg s.list) /\ Arr wr w.heap.size (u8s (List.replicate 32 0)) /\ Below w.heap.size w wr /\ wr.heap[D]? = some (.deferred (some []))) (fun i _ => 32 - (intOf i).toNat)
      case atStart =>
       refine ⟨0, by omega, rfl, ?_, G5.out.alloc _, GZ.out.alloc _, GB.out.alloc GB.out.size _, (Below.heap_alloc W _ D (lt_of_block GK.out)).trans GK.out⟩; exact Arr.new W (u8s (List.replicate 32 0)) _
      case round =>
       have hDl : D < W.heap.size := lt_of_block GK.out; clear G5 GZ GB GK; obtain ⟨k, hk, rfl, h6, h5, hZ, hB, hK⟩ := hrel; by_cases hlt : k < 32
       ·have cx := h5.cell (ga (l := s.list) (i := k / 4) (by show k / 4 < 8; omega)); obtain ⟨x, hx⟩ : ∃ x, x = s.list.getD (k / 4) 0 := ⟨_, rfl⟩
        rw [<- hx] at cx; have HX := Lib.hid hx; clear hx; have fx := h6.frozen k; have hl32 : ((Sha.out s).take k ++ List.replicate (32 - k) (0 : UInt8)).length = 32 := by
         rw [List.length_append, List.length_take, List.length_replicate, Sha.out_length]; omega
        have c6 := h6.cell (Cp (i := k) (by rw [hl32]; exact hlt)); obtain ⟨old, hold⟩ : ∃ x, x = ((Sha.out s).take k ++ List.replicate (32 - k) (0 : UInt8)).getD k 0 := ⟨_, rfl⟩
        rw [<- hold] at c6; clear hold hl32; have G6 := Lib.hid h6; clear h6; have G5 := Lib.hid h5; clear h5; have GZ := Lib.hid hZ; clear hZ; have GB := Lib.hid hB; clear hB; have GK := Lib.hid hK; clear hK; have lx := sa x
        go_wp2
        have hv : ((x.toNat : Int) / 2 ^ (24 - 8 * (k % 4)) % 256) = ((UInt8.ofNat (x.toNat / 2 ^ (24 - 8 * (k % 4)))).toNat : Int) := by
         rw [show (UInt8.ofNat (x.toNat / 2 ^ (24 - 8 * (k % 4)))).toNat = x.toNat / 2 ^ (24 - 8 * (k % 4)) % 256 from rfl]; simp
        rw [hv]; refine ⟨⟨k + 1, by omega, by go_num, ?_, G5.out.other (by simp; omega) _, GZ.out.other (by simp; omega) _, GB.out.setCell (by simp; omega) _, ?_⟩, by simp [intOf]; omega⟩
        ·rw [<- Sha.out_set s k hlt, <- HX.out, <- Ki]; exact G6.out.set _ _
        ·rw [Below.heap_setCell _ _ _ _ (by simp; omega)]; exact GK.out
       ·have hk32 : k = 32 := by omega
        have h6' : Arr wr W.heap.size (u8s (Sha.out s)) := by
         rw [hk32, List.take_of_length_le (by rw [Sha.out_length]; omega)] at h6; simpa using h6
        have hlo : (u8s (Sha.out s)).length = 32 := by rw [nc, Sha.out_length]
        have G6 := Lib.hid h6'; clear h6 h6' hk32; have GZ := Lib.hid hZ; clear hZ; have GB := Lib.hid hB; clear hB; have GK := Lib.hid hK; clear hK; have HLO := Lib.hid hlo; clear hlo h5
        go_wp2_with (first
         | (refine gS rfl _ _ rfl _ 0 rfl (u8s (Sha.out s)) (by rw [HLO.out]; exact CF) (fun j v hv => by rw [Nat.zero_add]; exact G6.out.cell hv) ?_)
         | (refine gE rfl rfl _ _ _ rfl _ 0 rfl (u8s (Sha.out s)) rfl (by rw [HLO.out]; exact CF.2) (Cq _) _ GZ.out (by rw [HLO.out, nc, List.length_replicate]; decide) ?_; intro w2 hA2 hG2))
        rw [ir _ _ (by rw [HLO.out, nc, List.length_replicate])] at hA2; have hDw : w.heap.size < D := by have := HBW.out.size; have := HB5.out; omega
        have hK2 : w2.heap[D]? = some (.deferred (some [])) := by
         rw [hG2.block D (lt_of_block GK.out) (by intro h; cases h; omega)]; exact GK.out
        refine ⟨by simp, .inl ⟨_, _, rfl, run_takeDeferred hK2, ?_⟩⟩; have hA3 := hA2.grown (grownBy_putObj' w2 D (.deferred none)) (by intro h; cases h; omega); refine ⟨_, yL rfl _ w.heap.size rfl (u8s (Sha.out s)) hA3 (by rw [HLO.out]; exact CF), ?_, ?_⟩
        ·rw [HS.out]; rfl
        ·refine (GB.out.grown hG2 GB.out.size (by intro k hk; cases hk; omega)).grown (grownBy_putObj' w2 D (.deferred none)) ?_ (by intro k hk; cases hk; omega); exact Nat.le_trans GB.out.size hG2.size
     case qY => exact fun _ _ _ _ _ _ h _ => h.elim
end
section
def bB (x : UInt32) : D := .v (.int .u32 x.toNat)
def HG (g : Nat) : Option D := if g = 0 then some (.ptr 8 (Sha.begin8.map bB)) else if g = 1 then some (.ptr 64 (Sha.keys64.map bB)) else none
section
variable {C : aw} {w : World}
theorem Jk (hG : fK HG C) (hk : bG C w) : pR w := by
 have h0 := hG 0 _ rfl; have h1 := hG 1 _ rfl; cases h0 with
 | ptr _ _ _ _ l0 m0 =>
  cases h1 with
  | ptr _ _ _ _ l1 m1 =>
   refine ⟨fun i hi => ?_, fun i hi => ?_⟩
   ·have hl : i < Sha.begin8.length := by simpa using (show i < (Sha.begin8.map bB).length by rw [l0]; exact hi)
    obtain ⟨u, a1, _, a3⟩ := lZ m0 i (bB Sha.begin8[i]) (by simp [hl]); have := bz a3; subst this; have := hk.cell a1 rfl; rw [Nat.zero_add] at this; rw [this]; simp [hl]
   ·have hl : i < Sha.keys64.length := by simpa using (show i < (Sha.keys64.map bB).length by rw [l1]; exact hi)
    obtain ⟨u, a1, _, a3⟩ := lZ m1 i (bB Sha.keys64[i]) (by simp [hl]); have := bz a3; subst this; have := hk.cell a1 rfl; rw [Nat.zero_add] at this; rw [this]; simp [hl]
end
theorem wd (l : zBz) (hn : l.length <= 1000000) : aj Tryd.prog HG 21 [aB l] (qZ (Sha.sum l)) := by
 intro C w vs hG hk ha; obtain ⟨v, rfl, hv⟩ := IH ha; refine (Kf v l w (Jk hG hk) (Gu hv hk) hn).mono ?_; rintro e w' ⟨rfl, hb⟩; exact ⟨_, C, rfl, .of_below hk hb, Kg (Sha.out_length _)⟩
end
section
theorem ag2 : bh Tryd.prog 2 = some false := by kernel_rfl
theorem sz2 : az Tryd.prog 2 = some 1 := by kernel_rfl
theorem ze2 : bK Tryd.prog 2 = some [.v (Value.int IntKind.i64 0)] := by kernel_rfl
theorem ag3 : bh Tryd.prog 3 = some false := by kernel_rfl
theorem sz3 : az Tryd.prog 3 = some 1 := by kernel_rfl
theorem ze3 : bK Tryd.prog 3 = some [.v (Value.int IntKind.i64 0)] := by kernel_rfl
theorem ag4 : bh Tryd.prog 4 = some false := by kernel_rfl
theorem sz4 : az Tryd.prog 4 = some 1 := by kernel_rfl
theorem ze4 : bK Tryd.prog 4 = some [.v (Value.bool false)] := by kernel_rfl
theorem ag5 : bh Tryd.prog 5 = some false := by kernel_rfl
theorem sz5 : az Tryd.prog 5 = some 1 := by kernel_rfl
theorem ze5 : bK Tryd.prog 5 = some [.v (Value.int IntKind.u8 0)] := by kernel_rfl
theorem ag6 : bh Tryd.prog 6 = some false := by kernel_rfl
theorem sz6 : az Tryd.prog 6 = some 1 := by kernel_rfl
theorem ze6 : bK Tryd.prog 6 = some [.v (Value.int IntKind.u8 0)] := by kernel_rfl
theorem ag7 : bh Tryd.prog 7 = some true := by kernel_rfl
theorem sz7 : az Tryd.prog 7 = some 4 := by kernel_rfl
theorem ze7 : bK Tryd.prog 7 = some ([.v (Value.int IntKind.i64 0), .v (Value.int IntKind.i64 0), .v (Value.bool false), .v (Value.int IntKind.u8 0)]) := by kernel_rfl
theorem ag9 : bh Tryd.prog 9 = some false := by kernel_rfl
theorem sz9 : az Tryd.prog 9 = some 1 := by kernel_rfl
theorem ze9 : bK Tryd.prog 9 = some [.v (Value.string { data := #[] })] := by kernel_rfl
theorem Mq : bh Tryd.prog 12 = some false := by kernel_rfl
theorem MP : az Tryd.prog 12 = some 1 := by kernel_rfl
theorem Nc : bK Tryd.prog 12 = some [.v (Value.int IntKind.u64 0)] := by kernel_rfl
theorem Mr : bh Tryd.prog 13 = some true := by kernel_rfl
theorem MQ : az Tryd.prog 13 = some 2 := by kernel_rfl
theorem Nd : bK Tryd.prog 13 = some ([.v (Value.string { data := #[] }), .v (Value.int IntKind.u64 0)]) := by kernel_rfl
theorem Ms : bh Tryd.prog 20 = some false := by kernel_rfl
theorem MR : az Tryd.prog 20 = some 1 := by kernel_rfl
theorem Kn : bh Tryd.prog 22 = some false := by kernel_rfl
theorem tP : bh Tryd.prog 24 = some false := by kernel_rfl
theorem DW : az Tryd.prog 24 = some 1 := by kernel_rfl
theorem Lv : bK Tryd.prog 24 = some [.list 0 [] true] := by kernel_rfl
theorem pY : bh Tryd.prog 25 = some false := by kernel_rfl
theorem DX : az Tryd.prog 25 = some 1 := by kernel_rfl
theorem Lw : bK Tryd.prog 25 = some [.list 0 [] true] := by kernel_rfl
theorem oY : bh Tryd.prog 27 = some true := by kernel_rfl
theorem iN : az Tryd.prog 27 = some 3 := by kernel_rfl
theorem Lx : bK Tryd.prog 27 = some ([.list 0 [] true, .list 0 [] true, .list 0 [] true]) := by kernel_rfl
theorem zk : bh Tryd.prog 30 = some false := by kernel_rfl
theorem AP : az Tryd.prog 30 = some 1 := by kernel_rfl
theorem Ly : bK Tryd.prog 30 = some [.list 0 [] true] := by kernel_rfl
theorem Mt : bh Tryd.prog 31 = some false := by kernel_rfl
theorem MS : az Tryd.prog 31 = some 1 := by kernel_rfl
theorem Nf : bK Tryd.prog 31 = some [.list 0 [] true] := by kernel_rfl
theorem oZ : bh Tryd.prog 42 = some true := by kernel_rfl
theorem pp : az Tryd.prog 42 = some 32 := by kernel_rfl
theorem Ns : bK Tryd.prog 42 = some (List.replicate 32 (D.v (Value.int IntKind.u8 0))) := by kernel_rfl
theorem Ko : bh Tryd.prog 43 = some false := by kernel_rfl
theorem MT : az Tryd.prog 43 = some 1 := by kernel_rfl
theorem Ng : bK Tryd.prog 43 = some [.v (Value.int IntKind.i64 0)] := by kernel_rfl
theorem Kp : bh Tryd.prog 45 = some true := by kernel_rfl
theorem Lo : az Tryd.prog 45 = some 36 := by kernel_rfl
theorem Nt : bK Tryd.prog 45 = some ([D.list 0 [] true, D.list 0 [] true, D.list 0 [] true] ++ List.replicate 32 (D.v (Value.int IntKind.u8 0)) ++ [D.v (Value.int IntKind.i64 0)]) := by kernel_rfl
theorem Mu : bh Tryd.prog 47 = some false := by kernel_rfl
theorem MU : az Tryd.prog 47 = some 1 := by kernel_rfl
theorem Mv : bh Tryd.prog 49 = some true := by kernel_rfl
theorem MV : az Tryd.prog 49 = some 2 := by kernel_rfl
theorem Nh : bK Tryd.prog 49 = some ([.list 0 [] true, .v (Value.int IntKind.i64 0)]) := by kernel_rfl
theorem Mw : bh Tryd.prog 51 = some false := by kernel_rfl
theorem MW : az Tryd.prog 51 = some 1 := by kernel_rfl
theorem rD : bh Tryd.prog 53 = some true := by kernel_rfl
theorem fO : az Tryd.prog 53 = some 33 := by kernel_rfl
theorem Ni : bK Tryd.prog 53 = some (List.replicate 32 (D.v (Value.int IntKind.u8 0)) ++ [D.list 0 [] true]) := by kernel_rfl
theorem nz : bh Tryd.prog 64 = some true := by kernel_rfl
theorem gM : az Tryd.prog 64 = some 36 := by kernel_rfl
theorem Nj : bK Tryd.prog 64 = some ([D.v (Value.bool false), D.v (Value.int IntKind.u8 0), D.v (Value.int IntKind.i64 0), D.list 0 [] true] ++ List.replicate 32 (D.v (Value.int IntKind.u8 0))) := by kernel_rfl
theorem Mx : bh Tryd.prog 75 = some true := by kernel_rfl
theorem MX : az Tryd.prog 75 = some 0 := by kernel_rfl
theorem Nk : bK Tryd.prog 75 = some ([]) := by kernel_rfl
theorem My : bh Tryd.prog 78 = some false := by kernel_rfl
theorem MY : az Tryd.prog 78 = some 1 := by kernel_rfl
theorem Mz : bh Tryd.prog 82 = some false := by kernel_rfl
theorem MZ : az Tryd.prog 82 = some 1 := by kernel_rfl
theorem Nl : bK Tryd.prog 82 = some [.v (Value.int IntKind.u64 0)] := by kernel_rfl
theorem MA : bh Tryd.prog 83 = some false := by kernel_rfl
theorem Na : az Tryd.prog 83 = some 1 := by kernel_rfl
theorem Nn : bK Tryd.prog 83 = some [.v (Value.int IntKind.u32 0)] := by kernel_rfl
theorem MB : bh Tryd.prog 84 = some true := by kernel_rfl
theorem Nb : az Tryd.prog 84 = some 8 := by kernel_rfl
theorem Np : bK Tryd.prog 84 = some ([.v (Value.int IntKind.u32 0), .v (Value.int IntKind.u32 0), .v (Value.int IntKind.u32 0), .v (Value.int IntKind.u32 0), .v (Value.int IntKind.u32 0), .v (Value.int IntKind.u32 0), .v (Value.int IntKind.u32 0), .v (Value.int IntKind.u32 0)]) := by kernel_rfl
theorem LC : bh Tryd.prog 101 = some false := by kernel_rfl
theorem Mg : az Tryd.prog 101 = some 1 := by kernel_rfl
theorem LD : bh Tryd.prog 103 = some true := by kernel_rfl
theorem Mh : az Tryd.prog 103 = some 1 := by kernel_rfl
theorem Mn : bK Tryd.prog 103 = some ([.list 0 [] true]) := by kernel_rfl
theorem LE : bh Tryd.prog 106 = some false := by kernel_rfl
theorem Mi : az Tryd.prog 106 = some 1 := by kernel_rfl
theorem LF : bh Tryd.prog 107 = some false := by kernel_rfl
theorem Mj : az Tryd.prog 107 = some 1 := by kernel_rfl
theorem LG : bh Tryd.prog 112 = some true := by kernel_rfl
theorem Mk : az Tryd.prog 112 = some 64 := by kernel_rfl
theorem Nr : bK Tryd.prog 112 = some (List.replicate 64 (D.v (Value.int IntKind.u32 0))) := by kernel_rfl
attribute [go_sem] ag2 sz2 ze2 ag3 sz3 ze3 ag4 sz4 ze4 ag5 sz5 ze5 ag6 sz6 ze6 ag7 sz7 ze7 ag9 sz9 ze9 Mq MP Nc Mr MQ Nd
attribute [go_sem] Ms MR Kn tP DW Lv pY DX Lw oY iN Lx zk
attribute [go_sem] AP Ly Mt MS Nf oZ pp Ko MT Ng Kp Lo Mu MU
attribute [go_sem] Mv MV Nh Mw MW rD fO nz gM
attribute [go_sem] Mx MX Nk My MY Mz MZ Nl MA Na Nn MB Nb Np
attribute [go_sem] LC Mg LD Mh Mn
attribute [go_sem] LE Mi LF Mj LG Mk
attribute [go_sem] Tryd.underlying0 Tryd.underlying2 Tryd.underlying3 Tryd.underlying4 Tryd.underlying5 Tryd.underlying6 Tryd.underlying7 Tryd.underlying9 Tryd.underlying12 Tryd.underlying13 Tryd.underlying20 Tryd.underlying24 Tryd.underlying25 Tryd.underlying27 Tryd.underlying30 Tryd.underlying31
attribute [go_sem] Tryd.underlying42 Tryd.underlying43 Tryd.underlying45 Tryd.underlying47 Tryd.underlying49 Tryd.underlying51 Tryd.underlying53 Tryd.underlying64 Tryd.underlying75
attribute [go_sem] Tryd.underlying76 Tryd.underlying78 Tryd.underlying82 Tryd.underlying83 Tryd.underlying84 Tryd.underlying101 Tryd.underlying103 Tryd.underlying106 Tryd.underlying107 Tryd.underlying112
theorem MH : kU Tryd.prog 27 = some [(0, 1), (1, 1), (2, 1)] := by kernel_rfl
theorem mz : dF Tryd.prog 27 = some (.new 3 ([.d (.list 0 [] true), .d (.list 0 [] true), .d (.list 0 [] true)]) 27) := by kernel_rfl
theorem MD : dS Tryd.prog 27 [] = some (.d (.agg 3 ([.list 0 [] true, .list 0 [] true, .list 0 [] true]))) := by kernel_rfl
theorem mA : dF Tryd.prog 42 = some (.new 32 ((List.replicate 32 (D.v (Value.int IntKind.u8 0))).map V.d) 42) := by kernel_rfl
theorem Gv : dS Tryd.prog 42 [] = some (.d (.agg 32 (List.replicate 32 (.v (Value.int IntKind.u8 0))))) := by kernel_rfl
theorem zl : dF Tryd.prog 45 = some (.new 36 ([V.d (D.list 0 [] true), V.d (D.list 0 [] true), V.d (D.list 0 [] true)] ++ List.replicate 32 (V.d (D.v (Value.int IntKind.u8 0))) ++ [V.d (D.v (Value.int IntKind.i64 0))]) 45) := by kernel_rfl
theorem MI : kU Tryd.prog 53 = some [(0, 32), (32, 1)] := by kernel_rfl
theorem zm : dF Tryd.prog 53 = some (.new 33 (List.replicate 32 (V.d (D.v (Value.int IntKind.u8 0))) ++ [V.d (D.list 0 [] true)]) 53) := by kernel_rfl
theorem MJ : kU Tryd.prog 64 = some [(0, 1), (1, 1), (2, 1), (3, 1), (4, 32)] := by kernel_rfl
theorem CH : dF Tryd.prog 64 = some (.new 36 ([V.d (D.v (Value.bool false)), V.d (D.v (Value.int IntKind.u8 0)), V.d (D.v (Value.int IntKind.i64 0)), V.d (D.list 0 [] true)] ++ List.replicate 32 (V.d (D.v (Value.int IntKind.u8 0)))) 64) := by kernel_rfl
theorem wA : dS Tryd.prog 64 [] = some (.d (.agg 36 ([D.v (Value.bool false), D.v (Value.int IntKind.u8 0), D.v (Value.int IntKind.i64 0), D.list 0 [] true] ++ List.replicate 32 (D.v (Value.int IntKind.u8 0))))) := by kernel_rfl
theorem MC : dF Tryd.prog 75 = some (.new 0 ([]) 75) := by kernel_rfl
theorem ME : dS Tryd.prog 75 [] = some (.d (.agg 0 ([]))) := by kernel_rfl
theorem CI : dF Tryd.prog 84 = some (.new 8 ([.d (.v (Value.int IntKind.u32 0)), .d (.v (Value.int IntKind.u32 0)), .d (.v (Value.int IntKind.u32 0)), .d (.v (Value.int IntKind.u32 0)), .d (.v (Value.int IntKind.u32 0)), .d (.v (Value.int IntKind.u32 0)), .d (.v (Value.int IntKind.u32 0)), .d (.v (Value.int IntKind.u32 0))]) 84) := by kernel_rfl
theorem uI : dF Tryd.prog 112 = some (.new 64 ((List.replicate 64 (D.v (Value.int IntKind.u32 0))).map V.d) 112) := by kernel_rfl
theorem LK : dS Tryd.prog 112 [] = some (.d (.agg 64 (List.replicate 64 (.v (Value.int IntKind.u32 0))))) := by kernel_rfl
end
section
theorem MF : ElemT Tryd.prog 25 30 (.slice none 0 0) 1 24 := ⟨Tryd.underlying25, by kernel_rfl, rfl, by decide⟩
theorem yq : ∀ (s t : zBz), s.length = t.length -> eg (List.replicate s.length (.int .u8)) (ay s) (ay t) = some (decide (s = t)) := by
 intro s
 induction s with
 | nil => intro t h; cases t with
  | nil => rfl
  | cons => simp at h
 | cons a s ih =>
  intro t h; cases t with
  | nil => simp at h
  | cons b t =>
   simp only [List.length_cons, Nat.add_right_cancel_iff] at h; have hab : ((a.toNat : Int) == (b.toNat : Int)) = decide (a = b) := by
    rw [Bool.eq_iff_iff, beq_iff_eq, decide_eq_true_eq]; constructor
    ·intro e; exact UInt8.toNat_inj.1 (by omega)
    ·intro e; rw [e]
   have ih' := ih t h; simp only [ay, List.map_cons, List.length_cons, List.replicate_succ, aG, eg, lH, if_true, Option.bind_some] at ih' ⊢; rw [ih', Option.map_some, hab, <- Bool.decide_and]
   congr 1
   simp only [List.cons.injEq]
theorem rP {s t : zBz} (h1 : s.length = 32) (h2 : t.length = 32) : lg Tryd.prog 42 (.d (.agg 32 (ay s))) (.d (.agg 32 (ay t))) = some (decide (s = t)) := by
 have hg : Tryd.prog.eqGuardType Tryd.prog.depth 42 = false := by kernel_rfl
 have hk : nI Tryd.prog 42 = some (List.replicate 32 (.int .u8)) := by kernel_rfl
 have := yq s t (by rw [h1, h2]); rw [h1] at this; simp only [lg, hg, if_true, hk, Option.bind_some, this]
theorem cQ {s : zBz} (h : s.length = 32) : (ay s).length = 32 := by simp [ay, h]
end
end Go.Proofs.YtaclinnjekdgoaaDoor
