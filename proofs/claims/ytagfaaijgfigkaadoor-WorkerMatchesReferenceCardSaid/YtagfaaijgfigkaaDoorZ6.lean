/-
  Lemmas, part 6 of 7: walks through the program's functions, and plain Lean about what they compute.
-/
import Derived.Test.YtagfaaijgfigkaaDoorZ1
import Derived.Test.YtagfaaijgfigkaaDoorZ2
import Derived.Test.YtagfaaijgfigkaaDoorZ3
import Derived.Test.YtagfaaijgfigkaaDoorZ4
import Derived.Test.YtagfaaijgfigkaaDoorZ5
set_option linter.unnecessarySimpa false
set_option linter.unusedSimpArgs false
set_option linter.unusedVariables false
namespace Go.Proofs.YtagfaaijgfigkaaDoor
open Go.RowKit
def V.ren (σ : Nat → Nat) : V → V
  | .d x => .d x
  | .ref l i off => .ref (σ l) i off
  | .sref l lo len => .sref (σ l) lo len
  | .aref l i off es len cap => .aref (σ l) i off es len cap
  | .mix tup l n rest => .mix tup (σ l) n rest
  | .any => .any
  | .gh _ => .any
def Blk.ren (σ : Nat → Nat) (k : Blk) : Blk := ⟨k.sz, k.rows.map fun r => r.map (V.ren σ)⟩
theorem V.ren_up {σ : Nat → Nat} {μ μ' : Nat → Option Place} (h : ∀ l p, μ l = some p → μ' (σ l) = some p) {C : Facts} {x : V} {v : Value} (hr : RepV μ C x v) : RepV μ' C (x.ren σ) v := by
  cases x with
  | d => exact hr
  | ref l i off => obtain ⟨p, h1, h2⟩ := hr; exact ⟨p, h l p h1, h2⟩
  | sref l lo len => obtain ⟨p, ao, h1, h2⟩ := hr; exact ⟨p, ao, h l p h1, h2⟩
  | aref l i off es len cap => obtain ⟨p, ao, h1, h2⟩ := hr; exact ⟨p, ao, h l p h1, h2⟩
  | mix tup l n rest => obtain ⟨p, ao, us, h1, h2⟩ := hr; exact ⟨p, ao, us, h l p h1, h2⟩
  | any => trivial
  | gh m => trivial
def V.noGh : V → Bool
  | .gh _ => false
  | _ => true
theorem V.ren_down {σ : Nat → Nat} {n : Nat} {μ μ' : Nat → Option Place} (h : ∀ l p, l < n → μ' (σ l) = some p → μ l = some p) {C : Facts} {x : V} (hx : x.lt n = true) (hn : x.noGh = true) {v : Value} (hr : RepV μ' C (x.ren σ) v) : RepV μ C x v := by
  cases x with
  | d => exact hr
  | ref l i off => obtain ⟨p, h1, h2⟩ := hr; exact ⟨p, h l p (by simpa [V.lt] using hx) h1, h2⟩
  | sref l lo len => obtain ⟨p, ao, h1, h2⟩ := hr; exact ⟨p, ao, h l p (by simpa [V.lt] using hx) h1, h2⟩
  | aref l i off es len cap => obtain ⟨p, ao, h1, h2⟩ := hr; exact ⟨p, ao, h l p (by simpa [V.lt] using hx) h1, h2⟩
  | mix tup l n rest => obtain ⟨p, ao, us, h1, h2⟩ := hr; exact ⟨p, ao, us, h l p (by simpa [V.lt] using hx) h1, h2⟩
  | any => trivial
  | gh m => cases hn
structure Held (mine : Nat → Prop) (h : List (Nat × Blk)) (μ : Nat → Option Place) (C : Facts) (w : World) : Prop where
  heap : ∀ l k, look h l = some k → ∃ p, μ l = some p ∧ BlkOk mine μ C w p k
  inj : ∀ l l' p p', (look h l).isSome = true → (look h l').isSome = true → μ l = some p → μ l' = some p' → 0 < p.cap → 0 < p'.cap → p.b = p'.b → l = l'
inductive RepVs (μ : Nat → Option Place) (C : Facts) : List V → List Value → Prop
  | nil : RepVs μ C [] []
  | cons (x : V) (v : Value) (xs : List V) (vs : List Value) : RepV μ C x v → RepVs μ C xs vs → RepVs μ C (x :: xs) (v :: vs)
theorem RepVs.length {μ : Nat → Option Place} {C : Facts} {xs : List V} {vs : List Value} (h : RepVs μ C xs vs) : vs.length = xs.length := by
  induction h with
  | nil => rfl
  | cons _ _ _ _ _ _ ih => simp [ih]
theorem RepVs.get {μ : Nat → Option Place} {C : Facts} {xs : List V} {vs : List Value} (h : RepVs μ C xs vs) : ∀ (i : Nat) (x : V), xs[i]? = some x → ∃ v, vs[i]? = some v ∧ RepV μ C x v := by
  induction h with
  | nil => intro i x h; simp at h
  | cons x v xs vs h1 _ ih =>
    intro i y hy
    cases i with
    | zero => simp at hy; subst hy; exact ⟨v, rfl, h1⟩
    | succ i => simpa using ih i y (by simpa using hy)
def CallsB (P : Program) (G : Nat → Option D) (f : FuncId) (h : List (Nat × Blk)) (n0 : Nat) (xs : List V) (r : V) (h' : List (Nat × Blk)) (n1 : Nat) : Prop :=
  ∀ μ C w vs, GlobD G C → Known C w → Held (fun _ => True) h μ C w → (∀ l, n0 ≤ l → μ l = none) → RepVs μ C xs vs →
    Calls P f vs.toArray w fun e W' => ∃ v μ' C', e = .returned v ∧ (∀ l p, l < n0 → μ l = some p → μ' l = some p) ∧ (∀ l, n1 ≤ l → μ' l = none) ∧ Kept (OwnB h μ) w W' ∧ (∀ b o u, C b o u → C' b o u) ∧
      (∀ b o u, C' b o u → C b o u ∨ w.heap.size ≤ b ∨ OwnB h μ b) ∧ Known C' W' ∧ RepV μ' C' r v ∧ Held (fun b => w.heap.size ≤ b ∨ OwnB h μ b) h' μ' C' W'
def V.le (x y : V) : Prop := ∀ μ C v, RepV μ C x v → RepV μ C y v
theorem V.le.refl (x : V) : x.le x := fun _ _ _ h => h
theorem V.le.d {x y : D} (h : x.le y) : (V.d x).le (.d y) := fun _ C v hv => h C v hv
def retB (P : Program) (fn : Func) (r : V) (h' : List (Nat × Blk)) (n1 : Nat) : Exit → St → Prop
  | .ret, st | .normal, st => (∃ v, ((retS P st fn.results.toList).map .d = some v ∨ (∃ pk, retV P pk st fn.results.toList = some v)) ∧ v.le r) ∧ (∀ l k, look h' l = some k → look st.h l = some k) ∧ st.nx ≤ n1
  | _, _ => False
theorem retS_ok {F : Fr} {st : St} {μ : Nat → Option Place} {C : Facts} {a : Act} {w : World} (hs : Sim F st μ C a w) {fn : Func} {d : D} (hd : retS F.P st fn.results.toList = some d) : ∃ v, (results fn a.tmps).run F.P w = .ok v w ∧ Rep C d v := by
  simp only [retS, Option.map_eq_some_iff] at hd
  obtain ⟨es, he, hd⟩ := hd
  obtain ⟨us, h1, h2⟩ := retAll_ok hs he
  have hrun := results_of (P := F.P) (fn := fn) h1
  have hul : us.length = es.length := outs_length h2
  rcases us with _ | ⟨u, _ | ⟨v, us⟩⟩
  · rcases es with _ | ⟨e, es⟩
    · subst hd; exact ⟨.tuple #[], hrun, .tup [] [] .onil⟩
    · cases hul
  · rcases es with _ | ⟨e, _ | ⟨e2, es⟩⟩
    · cases hul
    · cases h2 with
      | ocons _ _ _ _ h3 _ => subst hd; exact ⟨u, hrun, h3⟩
    · simp at hul
  · rcases es with _ | ⟨e, _ | ⟨e2, es⟩⟩
    · cases hul
    · simp at hul
    · subst hd; exact ⟨_, hrun, .tup _ _ h2⟩
section
variable {P : Program} {G : Nat → Option D} {N : Nat}
theorem CallsB.of {f : FuncId} {fn : Func} {c : Code} {h : List (Nat × Blk)} {n0 : Nat} {xs : List V} {r : V} {h' : List (Nat × Blk)} {n1 : Nat} (hf : P.funcs[f]? = some fn) (hb : fn.body = some c) (hN : fn.ntmps = N) (hp : xs.length ≤ N)
    (hh : ∀ F, Env F P G N → F.n0 = n0 → F.top → Sm F c (retB P fn r h' n1) ⟨xs.zipIdx.map fun e => (e.2, e.1), h, n0⟩) : CallsB P G f h n0 xs r h' n1 := by
  intro μ C w vs hG hk hH hnx ha
  let F : Fr := ⟨P, N, w, C, OwnB h μ, none, n0, fun _ _ μ' _ _ => ∀ l p, l < n0 → μ l = some p → μ' l = some p, fun g t l p hl hp => t.low l p hl (g l p hl hp)⟩
  have hvl : vs.length = xs.length := ha.length
  have hsz : (vs.toArray ++ Array.replicate (fn.ntmps - vs.toArray.size) undef).size = N := by simp; omega
  have hlook : ∀ (xs : List V) (k : Nat) (t : Nat) (x : V), look ((xs.zipIdx k).map fun e => (e.2, e.1)) t = some x → k ≤ t ∧ xs[t - k]? = some x := by
    intro xs
    induction xs with
    | nil => intro k t x h; simp [look] at h
    | cons d xs ih =>
      intro k t x h
      simp only [List.zipIdx_cons, List.map_cons, look] at h
      split at h
      · rename_i e; cases h; subst e; exact ⟨Nat.le_refl _, by simp⟩
      · obtain ⟨h1, h2⟩ := ih _ _ _ h
        refine ⟨by omega, ?_⟩
        rw [show t - k = (t - (k + 1)) + 1 by omega]; simpa using h2
  have hsim : Sim F ⟨xs.zipIdx.map fun e => (e.2, e.1), h, n0⟩ μ C { tmps := vs.toArray ++ Array.replicate (fn.ntmps - vs.toArray.size) undef, defers := [] } w := by
    refine ⟨hsz, .nil _ _, Kept.refl _ _, fun _ _ _ h => h, fun _ _ _ h => .inl h, hk, fun t x hx => ?_, fun l k hk => ?_, hH.inj, hnx, fun _ _ _ h => h⟩
    · obtain ⟨_, hd⟩ := hlook xs 0 t x hx
      rw [Nat.sub_zero] at hd
      obtain ⟨v, h1, h2⟩ := ha.get t x hd
      have htl := (List.getElem?_eq_some_iff.1 h1).1
      have : (vs.toArray ++ Array.replicate (fn.ntmps - vs.toArray.size) undef).getD t undef = v := by
        rw [Array.getD_eq_getD_getElem?, Array.getElem?_append_left (by simpa using htl)]
        simp [h1]
      rw [this]; exact h2
    · obtain ⟨p, hp, hB⟩ := hH.heap l k hk
      refine ⟨p, hp, hB.sz, hB.len, hB.max, hB.row, fun hc => ?_⟩
      obtain ⟨_, b⟩ := hB.cells hc
      exact ⟨.inr ⟨l, k, p, hk, hp, hc, rfl⟩, b⟩
  refine calls_of_Sm (F := F) rfl rfl hf hb (hh F ⟨rfl, rfl, hG⟩ rfl ⟨rfl, fun _ _ _ _ _ _ _ _ h => h⟩) hsim (fun e st' hq => by cases e <;> first | exact .inl rfl | exact .inr rfl | exact hq.elim) ?_
  intro e st' μ' C' a w' hq hs0 a2 w'' _ hs
  have hq' : (∃ v, ((retS P st' fn.results.toList).map .d = some v ∨ (∃ pk, retV P pk st' fn.results.toList = some v)) ∧ v.le r) ∧ (∀ l k, look h' l = some k → look st'.h l = some k) ∧ st'.nx ≤ n1 := by cases e <;> first | exact hq | exact hq.elim
  obtain ⟨⟨v, hv, hle⟩, hh', hn⟩ := hq'
  have hlow : ∀ l p, l < n0 → μ l = some p → μ' l = some p := hs0.gh
  have hres : ∃ u, (results fn a2.tmps).run P w'' = .ok u w'' ∧ RepV μ' C' v u := by
    rcases hv with hv | ⟨pk, hv⟩
    · simp only [Option.map_eq_some_iff] at hv
      obtain ⟨d, hd, rfl⟩ := hv
      obtain ⟨u, h1, h2⟩ := retS_ok hs hd
      exact ⟨u, h1, h2⟩
    · exact retV_ok hs hv
  obtain ⟨u, h1, h2⟩ := hres
  refine ⟨u, h1, u, μ', C', rfl, hlow, fun l hl => hs.nx l (by omega), hs.below, hs.sub, hs.new, hs.known, hle _ _ _ h2, fun l k hk => hs.heap l k (hh' l k hk), fun l l' p p' g1 g2 => ?_⟩
  refine hs.inj l l' p p' ?_ ?_
  · obtain ⟨k, hk⟩ := Option.isSome_iff_exists.1 g1; rw [hh' l k hk]; rfl
  · obtain ⟨k, hk⟩ := Option.isSome_iff_exists.1 g2; rw [hh' l' k hk]; rfl
structure Lend (σ : Nat → Nat) (h : List (Nat × Blk)) (n0 : Nat) (hc : List (Nat × Blk)) : Prop where
  dom : ∀ l, l < n0 → (look h l).isSome = true
  lt : ∀ l k, look h l = some k → l < n0
  blk : ∀ l k, look h l = some k → look hc (σ l) = some (k.ren σ)
  inj : ∀ l l', l < n0 → l' < n0 → σ l = σ l' → l = l'
  low : ∀ l k, look h l = some k → ∀ r ∈ k.rows, ∀ x ∈ r, V.lt n0 x = true ∧ x.noGh = true
theorem dB_ren (σ : Nat → Nat) (sz : Nat) (rows : List (List D)) : (dB sz rows).ren σ = dB sz rows := by
  simp only [dB, Blk.ren, List.map_map]
  congr 1
  refine List.map_congr_left fun r _ => ?_
  simp [Function.comp_def, V.ren]
theorem Lend.one {m sz : Nat} {rows : List (List D)} {hc : List (Nat × Blk)} (hm : look hc m = some (dB sz rows)) : Lend (fun _ => m) [(0, dB sz rows)] 1 hc where
  dom l hl := by obtain rfl : l = 0 := by omega
                 rfl
  lt l k hk := by
    simp only [look] at hk
    split at hk
    · omega
    · cases hk
  blk l k hk := by
    simp only [look] at hk
    split at hk
    · cases hk; rw [dB_ren]; exact hm
    · cases hk
  inj l l' h1 h2 _ := by omega
  low l k hk r hr x hx := by
    simp only [look] at hk
    split at hk
    · cases hk
      obtain ⟨r', _, rfl⟩ := List.mem_map.1 hr
      obtain ⟨d, _, rfl⟩ := List.mem_map.1 hx
      exact ⟨rfl, rfl⟩
    · cases hk
def upN (σ : Nat → Nat) (n0 nx : Nat) (l : Nat) : Nat := if l < n0 then σ l else nx + (l - n0)
def Back (σ : Nat → Nat) (n0 nx : Nat) (h' hc hc' : List (Nat × Blk)) : Prop := ∀ m k, look hc' m = some k → (look hc m = some k ∧ ∀ l, l < n0 → σ l ≠ m) ∨ (∃ l k0, upN σ n0 nx l = m ∧ look h' l = some k0 ∧ k = k0.ren (upN σ n0 nx))
theorem borrow_sim {F : Fr} {st : St} {μ : Nat → Option Place} {C : Facts} {a : Act} {w : World} (hs : Sim F st μ C a w) {σ : Nat → Nat} {h h' hc' : List (Nat × Blk)} {n0 n1 : Nat} (hL : Lend σ h n0 st.h) (hB : Back σ n0 st.nx h' st.h hc') :
    let μ0 := fun l => if l < n0 then μ (σ l) else none
    Held (fun _ => True) h μ0 C w ∧ (∀ x v, V.lt n0 x = true → x.noGh = true → RepV μ C (x.ren σ) v → RepV μ0 C x v) ∧
    ∀ μ' C' W', (∀ l p, l < n0 → μ0 l = some p → μ' l = some p) → (∀ l, n1 ≤ l → μ' l = none) → Kept (OwnB h μ0) w W' → (∀ b o u, C b o u → C' b o u) →
      (∀ b o u, C' b o u → C b o u ∨ w.heap.size ≤ b ∨ OwnB h μ0 b) → Known C' W' → Held (fun b => w.heap.size ≤ b ∨ OwnB h μ0 b) h' μ' C' W' →
      Sim F { st with h := hc', nx := st.nx + (n1 - n0) } (fun m => if m < st.nx then μ m else μ' (m - st.nx + n0)) C' a W' ∧ ∀ r v, RepV μ' C' r v → RepV (fun m => if m < st.nx then μ m else μ' (m - st.nx + n0)) C' (r.ren (upN σ n0 st.nx)) v := by
  intro μ0
  have hμ0 : ∀ l p, l < n0 → (μ0 l = some p ↔ μ (σ l) = some p) := fun l p hl => by simp [μ0, hl]
  have hplace : ∀ l k, look h l = some k → ∃ p, μ0 l = some p ∧ μ (σ l) = some p ∧ BlkOk F.mine μ C w p (k.ren σ) := fun l k hk => by
    obtain ⟨p, hp, hb⟩ := hs.heap (σ l) _ (hL.blk l k hk)
    exact ⟨p, (hμ0 l p (hL.lt l k hk)).2 hp, hp, hb⟩
  have hdown : ∀ x v, V.lt n0 x = true → x.noGh = true → RepV μ C (x.ren σ) v → RepV μ0 C x v := fun x v h1 h2 hr => V.ren_down (fun l p hl hp => (hμ0 l p hl).2 hp) h1 h2 hr
  have hown : ∀ b, OwnB h μ0 b → OwnB st.h μ b := fun b ⟨l, k, p, g1, g2, g3, g4⟩ => ⟨σ l, _, p, hL.blk l k g1, (hμ0 l p (hL.lt l k g1)).1 g2, g3, g4⟩
  have hfree : ∀ m k p, look st.h m = some k → (∀ l, l < n0 → σ l ≠ m) → μ m = some p → 0 < p.cap → ¬ OwnB h μ0 p.b := fun m k p g1 g2 g3 g4 ⟨l, k', p', e1, e2, e3, e4⟩ =>
    g2 l (hL.lt l k' e1) (hs.inj (σ l) m p' p (by rw [hL.blk l k' e1]; rfl) (by rw [g1]; rfl) ((hμ0 l p' (hL.lt l k' e1)).1 e2) g3 e3 g4 e4)
  have hlt : ∀ m k, look st.h m = some k → m < st.nx := fun m k hm => by
    obtain ⟨p, hp, _⟩ := hs.heap m k hm
    rcases Nat.lt_or_ge m st.nx with h | h
    · exact h
    · rw [hs.nx m h] at hp; cases hp
  refine ⟨⟨fun l k hk => ?_, fun l l' p p' g1 g2 q1 q2 c1 c2 e => ?_⟩, hdown, ?_⟩
  · obtain ⟨p, hp0, hp, hb⟩ := hplace l k hk
    refine ⟨p, hp0, hb.sz, by simpa [Blk.ren] using hb.len, hb.max, fun r hr => by simpa [Blk.ren] using hb.row (r.map (V.ren σ)) (List.mem_map_of_mem hr), fun hc => ?_⟩
    obtain ⟨_, b2, cur, T, b3, b4, b5⟩ := hb.cells hc
    refine ⟨trivial, b2, cur, T, b3, b4, fun i r hr j x hx => ?_⟩
    obtain ⟨u, u1, u2, u3⟩ := b5 i (r.map (V.ren σ)) (by simp [Blk.ren, hr]) j (x.ren σ) (by simp [hx])
    obtain ⟨x1, x2⟩ := hL.low l k hk r (List.mem_of_getElem? hr) x (List.mem_of_getElem? hx)
    exact ⟨u, u1, u2, hdown x u x1 x2 u3⟩
  · obtain ⟨k, hk⟩ := Option.isSome_iff_exists.1 g1
    obtain ⟨k', hk'⟩ := Option.isSome_iff_exists.1 g2
    exact hL.inj l l' (hL.lt l k hk) (hL.lt l' k' hk') (hs.inj (σ l) (σ l') p p' (by rw [hL.blk l k hk]; rfl) (by rw [hL.blk l' k' hk']; rfl) ((hμ0 l p (hL.lt l k hk)).1 q1) ((hμ0 l' p' (hL.lt l' k' hk')).1 q2) c1 c2 e)
  intro μ' C' W' hlow hn1 hkept hsub hnew hkn hheld
  generalize hμc : (fun m => if m < st.nx then μ m else μ' (m - st.nx + n0)) = μc
  have hm : ∀ m p, μ m = some p → μc m = some p := fun m p hp => by
    have : m < st.nx := by
      rcases Nat.lt_or_ge m st.nx with h | h
      · exact h
      · rw [hs.nx m h] at hp; cases hp
    rw [← hμc]; simp only [if_pos this]; exact hp
  have hup : ∀ l p, μ' l = some p → μc (upN σ n0 st.nx l) = some p := fun l p hp => by
    by_cases hl : l < n0
    · obtain ⟨k, hk⟩ := Option.isSome_iff_exists.1 (hL.dom l hl)
      obtain ⟨q, hq0, hq, _⟩ := hplace l k hk
      have := hlow l q hl hq0
      rw [hp] at this; cases this
      unfold upN; rw [if_pos hl]; exact hm _ _ hq
    · unfold upN; rw [if_neg hl]
      rw [← hμc]; simp only [show ¬ st.nx + (l - n0) < st.nx by omega, if_false]
      rw [show st.nx + (l - n0) - st.nx + n0 = l by omega]; exact hp
  have hmine : ∀ b, (w.heap.size ≤ b ∨ OwnB h μ0 b) → F.mine b := fun b hb => hb.elim (fun hb => .inl (Nat.le_trans hs.below.size hb)) fun hb => (hs.own_cells (hown b hb)).1
  have hblk : ∀ b, b < w.heap.size → ¬ OwnB h μ0 b → W'.heap[b]? = w.heap[b]? := hkept.block
  have hother : ∀ m k, look st.h m = some k → (∀ l, l < n0 → σ l ≠ m) → ∃ p, μc m = some p ∧ μ m = some p ∧ BlkOk F.mine μc C' W' p k := fun m k g1 g2 => by
    obtain ⟨p, hp, hb⟩ := hs.heap m k g1
    refine ⟨p, hm m p hp, hp, hb.sz, hb.len, hb.max, hb.row, fun hc => ?_⟩
    obtain ⟨b1, b2, cur, T, b3, b4, b5⟩ := hb.cells hc
    have hno := hfree m k p g1 g2 hp hc
    refine ⟨b1, fun o u hcu => ?_, cur, T, (hblk _ (hb.lt hc) hno).trans b3, b4, b5.mono hm hsub⟩
    rcases hnew _ _ _ hcu with h1 | h1 | h1
    · exact b2 o u h1
    · have := hb.lt hc; omega
    · exact hno h1
  have hback : ∀ l k0, look h' l = some k0 → ∃ p, μ' l = some p ∧ μc (upN σ n0 st.nx l) = some p ∧ (0 < p.cap → w.heap.size ≤ p.b ∨ OwnB h μ0 p.b) ∧ BlkOk F.mine μc C' W' p (k0.ren (upN σ n0 st.nx)) := fun l k0 hk => by
    obtain ⟨p, hp, hb⟩ := hheld.heap l k0 hk
    refine ⟨p, hp, hup l p hp, fun hc => (hb.cells hc).1, hb.sz, by simpa [Blk.ren] using hb.len, hb.max, fun r hr => ?_, fun hc => ?_⟩
    · obtain ⟨r', hr', rfl⟩ := List.mem_map.1 hr
      simpa [Blk.ren] using hb.row r' hr'
    · obtain ⟨b1, b2, cur, T, b3, b4, b5⟩ := hb.cells hc
      refine ⟨hmine _ b1, b2, cur, T, b3, b4, fun i r hr j x hx => ?_⟩
      simp only [Blk.ren, List.getElem?_map, Option.map_eq_some_iff] at hr
      obtain ⟨r', hr', rfl⟩ := hr
      simp only [List.getElem?_map, Option.map_eq_some_iff] at hx
      obtain ⟨x', hx', rfl⟩ := hx
      obtain ⟨u, u1, u2, u3⟩ := b5 i r' hr' j x' hx'
      exact ⟨u, u1, u2, V.ren_up hup u3⟩
  refine ⟨⟨hs.size, ⟨hs.defers.nodup, fun d hd => ?_⟩, ⟨hkept.os.trans hs.below.os, hkept.tape.trans hs.below.tape, hkept.output.trans hs.below.output, Nat.le_trans hs.below.size hkept.size, fun n hn hno => ?_⟩, fun b o u hc => hsub _ _ _ (hs.sub _ _ _ hc), fun b o u hc => (hnew b o u hc).elim (hs.new b o u) fun hb => .inr (hmine b hb), hkn, fun t x hx => (hs.env t x hx).mono hm hsub, fun m k hk => ?_, fun m m' p p' g1 g2 q1 q2 c1 c2 e => ?_, fun m hm' => ?_, F.stab hs.gh ⟨hkept.os, hkept.tape, hkept.output, hkept.size, fun l p _ hp => hm l p hp, fun m hm' => ?_, fun b hb hn => hblk b hb fun ho => hn (hown b ho), fun b ⟨m, k, p, g1, g2, g3, g4⟩ => ?_, hsub, fun b o u hc => (hnew b o u hc).imp id fun h => h.elim .inr fun h => .inl (hown b h), hkn⟩⟩, fun r v hr => V.ren_up hup hr⟩
  · obtain ⟨q, q1, q2, q3⟩ := hs.defers.each d hd
    refine ⟨q, q1, q2, (hblk q (Array.getElem?_eq_some_iff.1 q3).1 fun ho => ?_).trans q3⟩
    obtain ⟨_, _, cur, T, hc⟩ := hs.own_cells (hown q ho)
    rw [q3] at hc; cases hc
  · rw [hblk n (Nat.lt_of_lt_of_le hn hs.below.size) fun ho => ?_]
    · exact hs.below.block n hn hno
    · rcases (hs.own_cells (hown n ho)).1 with h1 | h1
      · omega
      · exact hno h1
  · rcases hB m k hk with ⟨g1, g2⟩ | ⟨l, k0, rfl, g2, rfl⟩
    · obtain ⟨p, hp, _, hb⟩ := hother m k g1 g2; exact ⟨p, hp, hb⟩
    · obtain ⟨p, _, hp, _, hb⟩ := hback l k0 g2; exact ⟨p, hp, hb⟩
  · obtain ⟨k, hk⟩ := Option.isSome_iff_exists.1 g1
    obtain ⟨k', hk'⟩ := Option.isSome_iff_exists.1 g2
    have apart : ∀ m k p l k0 p', look st.h m = some k → (∀ l, l < n0 → σ l ≠ m) → μc m = some p → look h' l = some k0 → μc (upN σ n0 st.nx l) = some p' → 0 < p.cap → 0 < p'.cap → p.b ≠ p'.b := by
      intro m k p l k0 p' a1 a2 a3 a4 a5 a6 a7 a8
      obtain ⟨q, hq, hqm, hqb⟩ := hother m k a1 a2
      rw [hq] at a3; cases a3
      obtain ⟨q', _, hq', hqo, _⟩ := hback l k0 a4
      rw [hq'] at a5; cases a5
      obtain ⟨p2, hp2, hb2⟩ := hs.heap m k a1
      rw [hqm] at hp2; cases hp2
      rcases hqo a7 with h1 | h1
      · have := hb2.lt a6; omega
      · exact hfree m k p a1 a2 hqm a6 (a8 ▸ h1)
    rcases hB m k hk with ⟨a1, a2⟩ | ⟨l, k0, rfl, a2, rfl⟩ <;> rcases hB m' k' hk' with ⟨b1, b2⟩ | ⟨l', k0', rfl, b2, rfl⟩
    · obtain ⟨q, hq, hqm, _⟩ := hother m k a1 a2
      obtain ⟨q', hq', hqm', _⟩ := hother m' k' b1 b2
      rw [hq] at q1; cases q1; rw [hq'] at q2; cases q2
      exact hs.inj m m' _ _ (by rw [a1]; rfl) (by rw [b1]; rfl) hqm hqm' c1 c2 e
    · exact absurd e (apart m k p l' k0' p' a1 a2 q1 b2 q2 c1 c2)
    · exact absurd e.symm (apart m' k' p' l k0 p b1 b2 q2 a2 q1 c2 c1)
    · obtain ⟨q, hq, hqm, _⟩ := hback l k0 a2
      obtain ⟨q', hq', hqm', _⟩ := hback l' k0' b2
      rw [hqm] at q1; cases q1; rw [hqm'] at q2; cases q2
      rw [hheld.inj l l' _ _ (by rw [a2]; rfl) (by rw [b2]; rfl) hq hq' c1 c2 e]
  · have h1 : st.nx + (n1 - n0) ≤ m := hm'
    rw [← hμc]; simp only [show ¬ m < st.nx by omega, if_false]
    exact hn1 _ (by omega)
  · obtain ⟨k, hk⟩ := Option.isSome_iff_exists.1 hm'
    rcases hB m k hk with ⟨a1, _⟩ | ⟨l, k0, rfl, a2, rfl⟩
    · left; rw [a1]; rfl
    · by_cases hl : l < n0
      · obtain ⟨k2, hk2⟩ := Option.isSome_iff_exists.1 (hL.dom l hl)
        left; unfold upN; rw [if_pos hl, hL.blk l k2 hk2]; rfl
      · right; unfold upN; rw [if_neg hl]; exact hs.nx _ (by omega)
  · rcases hB m k g1 with ⟨a1, a2⟩ | ⟨l, k0, rfl, a2, rfl⟩
    · obtain ⟨q, hq, hqm, _⟩ := hother m k a1 a2
      rw [hq] at g2; cases g2
      exact .inl ⟨m, k, _, a1, hqm, g3, g4⟩
    · obtain ⟨q, _, hq, hqo, _⟩ := hback l k0 a2
      rw [hq] at g2; cases g2
      rcases hqo g3 with h1 | h1
      · exact .inr (g4 ▸ h1)
      · exact .inl (g4 ▸ hown _ h1)
end
def evVs (ev : Operand → Option V) : List Operand → Option (List V)
  | [] => some []
  | x :: r => (ev x).bind fun v => (evVs ev r).map (v :: ·)
theorem evVs_ok {ev : Operand → Option V} {μ : Nat → Option Place} {C : Facts} {a : Act} (hev : ∀ x v, ev x = some v → RepV μ C v (a.eval x)) : ∀ {xs : List Operand} {ys : List V}, evVs ev xs = some ys → RepVs μ C ys (xs.map a.eval) := by
  intro xs
  induction xs with
  | nil => intro ys h; cases h; exact .nil
  | cons x xs ih =>
    intro ys h
    simp only [evVs, Option.bind_eq_some_iff, Option.map_eq_some_iff] at h
    obtain ⟨v, hv, r, hr, rfl⟩ := h
    exact .cons _ _ _ _ (hev x _ hv) (ih hr)
theorem evVs_congr {ev ev' : Operand → Option V} (h : ∀ x, ev x = ev' x) : ∀ (xs : List Operand), evVs ev xs = evVs ev' xs := by
  intro xs
  induction xs with
  | nil => rfl
  | cons x xs ih => simp only [evVs, h x, ih]
theorem RepVs.append {μ : Nat → Option Place} {C : Facts} {xs ys : List V} {vs us : List Value} (h : RepVs μ C xs vs) (k : RepVs μ C ys us) : RepVs μ C (xs ++ ys) (vs ++ us) := by
  induction h with
  | nil => exact k
  | cons x v xs vs h1 _ ih => exact .cons _ _ _ _ h1 ih
theorem RepVs.of_outs {μ : Nat → Option Place} {C : Facts} {ds : List D} : ∀ {us : List Value}, Rp C (.outs ds us) → RepVs μ C (ds.map V.d) us := by
  induction ds with
  | nil => intro us h; cases h; exact .nil
  | cons d ds ih => intro us h; cases h with | ocons _ v _ vs h1 h2 => exact .cons _ _ _ _ h1 (ih h2)
def lowVs (n : Nat) (xs : List V) : Bool := xs.all fun x => x.lt n && x.noGh
theorem RepVs.down {μ μ0 : Nat → Option Place} {C : Facts} {n : Nat} {σ : Nat → Nat} (hd : ∀ x v, V.lt n x = true → x.noGh = true → RepV μ C (x.ren σ) v → RepV μ0 C x v) : ∀ {xs : List V} {vs : List Value}, lowVs n xs = true → RepVs μ C (xs.map (V.ren σ)) vs → RepVs μ0 C xs vs := by
  intro xs
  induction xs with
  | nil => intro vs _ h; cases h; exact .nil
  | cons x xs ih =>
    intro vs hl h
    simp only [lowVs, List.all_cons, Bool.and_eq_true] at hl
    cases h with
    | cons _ v _ vs h1 h2 => exact .cons _ _ _ _ (hd x v hl.1.1 hl.1.2 h1) (ih (by simpa [lowVs] using hl.2) h2)
section
variable {P : Program} {G : Nat → Option D} {N : Nat} {F : Fr} {ops : Array Oper} {rest : List Oper} {o : Oper} {Q : Exit → St → Prop} {st : St} {σ : Nat → Nat} {h0 h' hc' : List (Nat × Blk)} {n0 n1 : Nat} {r : V} {xs0 : List V}
theorem borrow_call (hF : Env F P G N) (hL : Lend σ h0 n0 st.h) (hB : Back σ n0 st.nx h' st.h hc') {f : FuncId} {μ : Nat → Option Place} {C : Facts} {a : Act} {w : World} {vs : List Value} (hs : Sim F st μ C a w) (hlow : lowVs n0 xs0 = true) (hvs : RepVs μ C (xs0.map (V.ren σ)) vs) (hc : CallsB P G f h0 n0 xs0 r h' n1)
    {K : Value → World → Prop} (k : ∀ v μ' C' w', Sim F { st with h := hc', nx := st.nx + (n1 - n0) } μ' C' a w' → RepV μ' C' (r.ren (upN σ n0 st.nx)) v → K v w') : Calls P f vs.toArray w fun e w' => ∃ v, e = .returned v ∧ K v w' := by
  obtain ⟨rfl, rfl, hG⟩ := hF
  obtain ⟨hH, hdown, hback⟩ := borrow_sim (n1 := n1) hs hL hB
  refine (hc _ C w vs (hG.mono hs.sub) hs.known hH (fun l hl => by simp only [show ¬ l < n0 by omega, if_false]) (RepVs.down hdown hlow hvs)).mono ?_
  rintro e W' ⟨v, μ', C', rfl, g1, g2, g3, g4, g5, g6, g7, g8⟩
  obtain ⟨s1, s2⟩ := hback μ' C' W' g1 g2 g3 g4 g5 g6 g8
  exact ⟨v, rfl, k v _ C' W' s1 (s2 r v g7)⟩
theorem SmL.callFB (hF : Env F P G N) (hN : St.small N st) (hL : Lend σ h0 n0 st.h) (hB : Back σ n0 st.nx h' st.h hc') {f : FuncId} {x : Operand} {xs : Array Operand} {ts : Array TypeId} {t : Tmp} {ys : List V} {caps : List D} (hg : guardS ops st.env o.guard = some true) (ho : o.op = .call ⟨.value x, xs, ts⟩) (hd : o.dst = some t) (hb : hasBody P f = true)
    (hx : evD G st.env x = some (.d (.fn f caps))) (hargs : evVs (evD G st.env) xs.toList = some ys) (hys : ys ++ caps.map V.d = xs0.map (V.ren σ)) (hlow : lowVs n0 xs0 = true) (ht : t < N) (hc : CallsB P G f h0 n0 xs0 r h' n1)
    (k : SmL F ops rest Q ⟨(t, r.ren (upN σ n0 st.nx)) :: st.env, hc', st.nx + (n1 - n0)⟩) : SmL F ops (o :: rest) Q st := by
  intro μ C a w hs
  have hev : ∀ x v, evD G st.env x = some v → RepV μ C v (a.eval x) := fun x v h => evD_ok hs hF.glob h
  refine wpS_step (fun _ => by rw [ho]; simp) fun K hK => ?_
  rw [guardS_ok hs hg (by rw [hF.size]; exact hN), if_pos rfl]
  have hfv := hev x _ hx
  generalize hfx : a.eval x = fv at hfv
  cases hfv with
  | fn _ _ us hu =>
    have hPP := hF.prog
    rw [hPP]
    refine wp_callV f (fun a w => hcall_of hb a w) x xs ts ho us hfx (xs.toList.map a.eval) rfl ?_
    refine borrow_call hF hL hB hs hlow ?_ hc ?_
    · rw [← hys]; exact (evVs_ok hev hargs).append (.of_outs hu)
    · intro v μ' C' w' s1 s2
      rw [hd]
      exact hK _ _ (k μ' C' _ w' (s1.put (by rw [hF.size]; exact ht) s2))
end
theorem Back.one {m nx sz sz' : Nat} {rows rows' : List (List D)} {h : List (Nat × Blk)} (hm : look h m = some (dB sz rows)) : Back (fun _ => m) 1 nx [(0, dB sz' rows')] h (rep h m (dB sz' rows')) := by
  intro l k hk
  rw [look_rep] at hk
  split at hk
  · rename_i e
    subst e
    rw [hm] at hk; cases hk
    exact .inr ⟨0, _, by simp [upN], rfl, (dB_ren _ _ _).symm⟩
  · rename_i e
    exact .inl ⟨hk, fun _ _ h => e h.symm⟩
section
variable {P : Program} {G : Nat → Option D} {N : Nat} {F : Fr} {ops rest : List Oper} {o : Oper} {Q : Exit → St → Prop} {env : List (Nat × V)} {h : List (Nat × Blk)} {nx n1 : Nat} {r : V} {xs0 : List V}
theorem SmG.callF1 (hF : Env F P G N) (m : Nat) {f : FuncId} {x : Operand} {xs : List Operand} {ts : Array TypeId} {t : Tmp} {ys : List V} {caps : List D} {sz sz' : Nat} {rows rows' : List (List D)} (ho : o.op = .call ⟨.value x, xs.toArray, ts⟩) (hd : o.dst = some t) (ht : Nat.blt t N = true)
    (hg : guardB ops env o.guard = some true) (hx : evB G env x = some (.d (.fn f caps))) (hargs : evVs (evB G env) xs = some ys) (hb : hasBody P f = true) (hm : lookB h m = some (dB sz rows)) (hc : CallsB P G f [(0, dB sz rows)] 1 xs0 r [(0, dB sz' rows')] n1) (hys : ys ++ caps.map V.d = xs0.map (V.ren fun _ => m)) (hlow : lowVs 1 xs0 = true)
    (k : SmG F N ops rest Q ⟨(t, r.ren (upN (fun _ => m) 1 nx)) :: env, rep h m (dB sz' rows'), nx + (n1 - 1)⟩) : SmG F N ops (o :: rest) Q ⟨env, h, nx⟩ := by
  have ht' : t < N := by simpa [Nat.blt_eq] using ht
  intro hs
  rw [evB_eq] at hx
  rw [lookB_eq] at hm
  rw [evVs_congr (evB_eq G env)] at hargs
  exact SmL.callFB hF hs (.one hm) (.one hm) (guardB_ok hg) ho hd hb hx (by simpa using hargs) hys hlow ht' hc (k (small_put hs ht'))
end
theorem opV_lookup {P : Program} {G : Nat → Option D} {env : List (Nat × V)} {h : List (Nat × Blk)} {o : Oper} {t : TypeId} {x i : Operand} {ok : Bool} {v w y : V} (ho : o.op = .lookup t x i ok) (hx : evB G env x = some v) (hi : evB G env i = some w) (hy : lookupS P t v w ok = some y) : opV P (evD G env) h o = some y := by
  rw [evB_eq] at hx hi; simp only [opV, ho, hx, hi, Option.bind_some, hy]
theorem retQ_cell2 {P : Program} {fn : Func} {p q : Tmp} {ty : TypeId} {st : St} {x : V} {v v2 d : D} (hr : fn.results = #[.cell p ty, .tmp q]) (hx : lookB st.env p = some x) (hl : loadS P st.h ty x = some (.d v)) (h2 : lookB st.env q = some (.d v2)) (hle : (D.tup [v, v2]).le d) : retQ P fn d .ret st := by
  refine ⟨.tup [v, v2], ?_, hle⟩
  rw [lookB_eq] at hx h2
  simp only [retS, hr, retAll, retOne, hx, hl, h2, Option.bind_some, pureV, Option.map_some]
def leL : List D → List D → Prop
  | [], [] => True
  | x :: xs, y :: ys => x.le y ∧ leL xs ys
  | _, _ => False
theorem leL.refl : ∀ (xs : List D), leL xs xs
  | [] => trivial
  | _ :: xs => ⟨D.le.refl _, leL.refl xs⟩
theorem D.le_tup {xs ys : List D} (h : leL xs ys) : (D.tup xs).le (.tup ys) := by
  intro C v hv
  cases hv with
  | tup _ vs hv =>
  refine .tup ys vs ?_
  induction xs generalizing ys vs with
  | nil => cases ys with
    | nil => exact hv
    | cons => exact h.elim
  | cons x xs ih => cases ys with
    | nil => exact h.elim
    | cons y ys => cases hv with | ocons _ v _ vs h1 h2 => exact .ocons _ _ _ _ (h.1 C v h1) (ih h.2 vs h2)
theorem D.le_agg {n : Nat} {xs ys : List D} (h : leL xs ys) : (D.agg n xs).le (.agg n ys) := by
  intro C v hv
  cases hv with
  | agg _ _ vs hn hv =>
  have hlen : ∀ (xs ys : List D), leL xs ys → xs.length = ys.length := by
    intro xs
    induction xs with
    | nil => intro ys h; cases ys with
      | nil => rfl
      | cons => exact h.elim
    | cons x xs ih => intro ys h; cases ys with
      | nil => exact h.elim
      | cons y ys => simp [ih ys h.2]
  refine .agg n ys vs (by rw [← hlen xs ys h]; exact hn) ?_
  clear hn
  induction xs generalizing ys vs with
  | nil => cases ys with
    | nil => exact hv
    | cons => exact h.elim
  | cons x xs ih => cases ys with
    | nil => exact h.elim
    | cons y ys => cases hv with | vcons _ v _ vs h0 h1 h2 => exact .vcons _ _ _ _ h0 (h.1 C v h1) (ih h.2 vs h2)
theorem mapM_get {α β : Type} (f : α → Option β) : ∀ {l : List α} {r : List β}, l.mapM f = some r → ∀ i : Nat, (l[i]?).bind f = r[i]? := by
  intro l
  induction l with
  | nil => intro r h i; simp at h; subst h; simp
  | cons a l ih =>
    intro r h i
    rw [List.mapM_cons] at h
    simp only [Option.bind_eq_bind, Option.bind_eq_some_iff, Option.pure_def, Option.some.injEq] at h
    obtain ⟨b, hb, r', hr, rfl⟩ := h
    cases i with
    | zero => simpa using hb
    | succ i => simpa using ih hr i
theorem buildS_struct {P : Program} {t : TypeId} {pl : List (Nat × Nat)} {ps : List (Nat × V)} {z cs : List D} {n : Nat} (hz : zeroD P t = some z) (hp : placesL P t = some pl) (hn : z.length = n) (hf : fillD (fun i => pl[i]?) ps z = some cs) : buildS P t ps = some (.d (.agg n cs)) := by
  have hpl : ∃ g, placesT P t = some g ∧ g = fun i => pl[i]? := by
    unfold placesL at hp
    unfold placesT
    split at hp
    · rename_i fs hu
      rw [hu]
      refine ⟨_, rfl, funext fun i => ?_⟩
      have := mapM_get _ hp i
      rw [← this, Array.getElem?_toList]
    · cases hp
  obtain ⟨g, hg, rfl⟩ := hpl
  simp only [buildS, buildD, hz, hg, Option.bind_some, hf, Option.map_some, hn]
theorem fill_one {pl : Nat → Option (Nat × Nat)} {i off n : Nat} {x : V} {d : D} {r : List (Nat × V)} {cs : List D} (h : pl i = some (off, 1)) (hx : partOf 1 x = some [d]) (hn : cs.length = n) (hl : off + 1 ≤ n) : fillD pl ((i, x) :: r) cs = fillD pl r (cs.set off d) := by
  subst hn
  simp only [fillD, h, Option.bind_some, hx, hl, if_true, setD]
theorem fill_agg {pl : Nat → Option (Nat × Nat)} {i off s n : Nat} {ys : List D} {r : List (Nat × V)} {cs : List D} (h : pl i = some (off, s)) (hs : 2 ≤ s) (hy : ys.length = s) (hn : cs.length = n) (hl : off + s ≤ n) : fillD pl ((i, .d (.agg s ys)) :: r) cs = fillD pl r (cs.take off ++ ys ++ cs.drop (off + s)) := by
  subst hn
  simp only [fillD, h, Option.bind_some, partOf, if_true, hl, if_neg (show ¬ s = 1 by omega)]
  split
  · rename_i e
    have h0 : off = 0 := by omega
    subst h0
    have : cs.drop (0 + s) = [] := List.drop_eq_nil_of_le (by omega)
    rw [this]; simp
  · rw [layD, hy]
theorem fillE {pl : Nat → Option (Nat × Nat)} {cs cs' : List D} (h : cs = cs') : fillD pl [] cs = some cs' := by rw [h]; rfl
theorem fill_oneE {pl : Nat → Option (Nat × Nat)} {i off : Nat} {x : V} {d : D} {r : List (Nat × V)} {cs : List D} {res : Option (List D)} (h : pl i = some (off, 1)) (hx : partOf 1 x = some [d]) (hl : Nat.ble (off + 1) cs.length = true) (k : fillD pl r (cs.set off d) = res) : fillD pl ((i, x) :: r) cs = res := by
  rw [fill_one h hx rfl (Nat.le_of_ble_eq_true hl)]; exact k
theorem fill_aggE {pl : Nat → Option (Nat × Nat)} {i off s : Nat} {ys : List D} {r : List (Nat × V)} {cs : List D} {res : Option (List D)} (h : pl i = some (off, s)) (hs : Nat.ble 2 s = true) (hl : Nat.ble (off + s) cs.length = true) (hy : ys.length = s) (k : fillD pl r (cs.take off ++ ys ++ cs.drop (off + s)) = res) : fillD pl ((i, .d (.agg s ys)) :: r) cs = res := by
  rw [fill_agg h (Nat.le_of_ble_eq_true hs) hy rfl (Nat.le_of_ble_eq_true hl)]; exact k
def ltR (n : Nat) : List V → Prop
  | [] => True
  | x :: r => V.lt n x = true ∧ ltR n r
theorem ltR_map (n : Nat) : ∀ (r : List D), ltR n (r.map V.d)
  | [] => trivial
  | _ :: r => ⟨rfl, ltR_map n r⟩
theorem ltR_mem {n : Nat} : ∀ {r : List V}, ltR n r → ∀ x ∈ r, V.lt n x = true
  | [], _, x, hx => by cases hx
  | y :: r, h, x, hx => by
    rcases List.mem_cons.1 hx with rfl | hx
    · exact h.1
    · exact ltR_mem h.2 x hx
theorem ltH_row {n m sz : Nat} {r : List V} {h : List (Nat × Blk)} (f : ltH n h) (hr : ltR n r) : ltH n ((m, ⟨sz, [r]⟩) :: h) := ltH_cons f fun r' hr' x hx => by
  obtain rfl : r' = r := by simpa using hr'
  exact ltR_mem hr x hx
section
variable {P : Program} {G : Nat → Option D} {N : Nat} {F : Fr} {ops rest : List Oper} {o : Oper} {Q : Exit → St → Prop} {env : List (Nat × V)} {h : List (Nat × Blk)} {nx : Nat} {t e : TypeId} {z : Value} {size bytes : Nat}
theorem SmG.appendCell (hF : Env F P G N) (hE : ElemT P t e z size bytes) {s x : Operand} {d : Tmp} {sz' l n : Nat} {xs ys : List (List D)} {f : Bool} (ho : o.op = .call ⟨.builtin .append, #[s, x], #[t, t]⟩) (hd : o.dst = some d) (hdN : Nat.blt d N = true) (hg : guardB ops env o.guard = some true)
    (hs : evB G env s = some (.sref l 0 n)) (hx : evB G env x = some (.d (.list sz' ys f))) (hl : lookB h l = some ⟨size, xs.map fun r => r.map V.d⟩) (hn : n = xs.length) (hsz' : sz' = size ∨ ys = []) (hb : (xs.length + ys.length) * bytes ≤ 140737488355328) (hb2 : xs.length + ys.length ≤ 140737488355328)
    (k : SmG F N ops rest Q ⟨(d, .sref l 0 (xs ++ ys).length) :: killV l env, rep (mapH (killX l) h) l (dB size (xs ++ ys)), nx⟩) (hlow : F.n0 ≤ l := by omega) : SmG F N ops (o :: rest) Q ⟨env, h, nx⟩ := by
  refine SmG.killH l (SmG.appendOwn hF hE ho hd hdN hg hs hx ?_ hn hsz' (free_killH l h) hb hb2 k hlow)
  rw [lookB_eq] at hl ⊢
  rw [look_mapH, hl]
  exact congrArg some (killB_dB l size xs)
end
end Go.Proofs.YtagfaaijgfigkaaDoor
namespace Go.Proofs.YtagfaaijgfigkaaDoor
open Go.RowKit
set_option maxRecDepth 100000
theorem clone_O (l : List Res) (hl : l.length ≤ 1000000) (G : Nat → Option D) : CallsO Tryd.prog G 36 [ressL l] .one 2 (l.map Res.row) [] := by
  refine CallsO.of Tryd.func36 rfl Tryd.ntmps36 (by simp) ?_; intro F hF h0 hT; simp only [List.zipIdx_cons, List.zipIdx_nil, List.map_cons, List.map_nil, Nat.zero_add, Nat.reduceAdd]
  refine Sm.seq ?_
  refine Sm.regionG hF rfl ?_
  refine SmG.v hF rfl rfl rfl (opV_assign rfl rfl) ?_
  refine SmG.nil ?_
  refine nextS_normal ?_
  refine Sm.seq ?_
  refine Sm.seq ?_
  refine Sm.regionG hF rfl ?_
  refine SmG.v hF rfl rfl rfl (opV_move rfl rfl) ?_
  refine SmG.nilEq hF Tryd.underlying27 rfl rfl rfl rfl rfl (fun c hc => ?_)
  refine SmG.nil ?_
  refine nextS_normal ?_
  cases c with
  | true =>
    have h0 : l = [] := by
      rcases l with _ | ⟨r, l⟩
      · rfl
      · have := hc (by simp)
        cases this
    subst h0
    refine Sm.condT hF rfl ?_
    refine Sm.seq ?_
    refine Sm.regionG hF rfl ?_
    (refine SmG.v hF rfl rfl rfl (opV_assign rfl rfl) ?_; refine SmG.own (t := 2) 2 rfl ?_)
    refine SmG.nil ?_
    refine nextS_normal ?_
    refine Sm.ret ?_
    simp only [nextS, blockS]
    exact ⟨0, rfl, rfl⟩
  | false =>
    refine Sm.condF hF rfl ?_
    refine Sm.skip ?_
    refine nextS_normal ?_
    refine Sm.seq ?_
    refine Sm.regionG hF rfl ?_
    refine SmG.v hF rfl rfl rfl (opV_buildSlice rfl rfl (by simp (disch := omega) only [go_sem, Nat.reduceEqDiff, iteP, ressL] <;> rfl)) ?_
    refine SmG.v hF rfl rfl rfl (opV_move rfl rfl) ?_
    refine SmG.appendFresh hF elRes rfl rfl rfl rfl rfl rfl (Or.inl rfl) (by simp only [List.length_map]; omega) (by simp only [List.length_map]; omega) ?_
    refine SmG.v hF rfl rfl rfl (opV_assign rfl rfl) ?_
    refine SmG.nil ?_
    refine nextS_normal ?_
    refine Sm.ret ?_
    exact ⟨0, rfl, rfl⟩
def lie (x : Wk) (at0 : Int) (l : List Res) : List Res := if at0 ≤ x.at_ ∧ x.at_ < at0 + l.length then l.set (x.at_ - at0).toNat x.by_ else l
theorem lie_B (x : Wk) (t : Int) (at0 : Nat) (l : List Res) (hl : l.length ≤ 1000000) (ha : at0 ≤ 1000000) (G : Nat → Option D) :
    CallsB Tryd.prog G 48 [(0, dB 2 (l.map Res.row))] 1 [.d (wkD x), .d (.v (.int .i64 t)), .d (.v (.int .i64 at0)), .sref 0 0 (l.map Res.row).length] (.mix true 0 (l.map Res.row).length [.v (.bool true)]) [(0, dB 2 ((lie x at0 l).map Res.row))] 2 := by
  have hlen : (l.map Res.row).length = l.length := List.length_map ..
  by_cases h1 : (at0 : Int) ≤ x.at_
  · by_cases h2 : x.at_ < (at0 : Int) + (l.length : Int)
    · obtain ⟨k, hk⟩ : ∃ k : Nat, x.at_ = (at0 : Int) + (k : Int) := ⟨(x.at_ - at0).toNat, by omega⟩
      have hkl : k < l.length := by omega
      have hrow : (l.map Res.row)[k]? = some l[k].row := by simp [hkl]
      have hli : lie x at0 l = l.set k x.by_ := by
        unfold lie
        rw [if_pos ⟨h1, h2⟩]
        congr 1; omega
      have hki : (x.at_ - (at0 : Int)).toNat = k := by omega
      have hset : (dB 2 (l.map Res.row)).rows.set k (x.by_.row.map V.d) = (dB 2 ((lie x at0 l).map Res.row)).rows := by
        rw [hli]
        simp [dB, List.map_set]
      refine CallsB.of Tryd.func48 rfl Tryd.ntmps48 (by simp) ?_; intro F hF h0 hT; simp only [List.zipIdx_cons, List.zipIdx_nil, List.map_cons, List.map_nil, Nat.zero_add, Nat.reduceAdd]
      refine Sm.seq ?_
      refine Sm.regionG hF rfl ?_
      refine SmG.new hF rfl rfl rfl (opS_box rfl rfl (by simp (disch := omega) only [go_sem, Nat.reduceEqDiff, iteP, wkD, Wk.row, Res.row, hlen, hki, hrow, dB] <;> rfl)) ?_
      refine SmG.v hF rfl rfl rfl (opV_assign rfl rfl) ?_
      refine SmG.v hF rfl rfl rfl (opV_assign rfl rfl) ?_
      refine SmG.nil ?_
      refine nextS_normal ?_
      refine Sm.seq ?_
      refine Sm.seq ?_
      refine Sm.regionG hF rfl ?_
      refine SmG.v hF rfl rfl rfl (opV_fieldAddr rfl rfl (by simp (disch := omega) only [go_sem, Nat.reduceEqDiff, iteP, wkD, Wk.row, Res.row, hlen, hki, hrow, dB] <;> rfl)) ?_
      refine SmG.v hF rfl rfl rfl (opV_load rfl rfl (by simp (disch := omega) only [go_sem, Nat.reduceEqDiff, iteP, wkD, Wk.row, Res.row, hlen, hki, hrow, dB] <;> rfl)) ?_
      refine SmG.v hF rfl rfl rfl (opV_move rfl rfl) ?_
      refine SmG.v hF rfl rfl rfl (opV_bin rfl rfl rfl (by first | exact rd_geqT _ _ _ _ _ (by omega) | exact rd_geqF _ _ _ _ _ (by omega) | exact rb_geq _ _ _ _ _ _ _)) ?_
      refine SmG.v hF rfl rfl rfl (opV_move rfl rfl) ?_
      first | refine SmG.v hF rfl rfl rfl (opV_fieldAddr rfl rfl (by simp (disch := omega) only [go_sem, Nat.reduceEqDiff, iteP, wkD, Wk.row, Res.row, hlen, hki, hrow, dB] <;> rfl)) ?_ | refine SmG.pass hF rfl rfl rfl ?_
      first | refine SmG.v hF rfl rfl rfl (opV_load rfl rfl (by simp (disch := omega) only [go_sem, Nat.reduceEqDiff, iteP, wkD, Wk.row, Res.row, hlen, hki, hrow, dB] <;> rfl)) ?_ | refine SmG.pass hF rfl rfl rfl ?_
      first | refine SmG.v hF rfl rfl rfl (opV_move rfl rfl) ?_ | refine SmG.pass hF rfl rfl rfl ?_
      first | refine SmG.v hF rfl rfl rfl (opV_move rfl rfl) ?_ | refine SmG.pass hF rfl rfl rfl ?_
      first | refine SmG.v hF rfl rfl rfl (opV_len rfl rfl (by simp (disch := omega) only [go_sem, Nat.reduceEqDiff, iteP, wkD, Wk.row, Res.row, hlen, hki, hrow, dB] <;> rfl)) ?_ | refine SmG.pass hF rfl rfl rfl ?_
      first | refine SmG.v hF rfl rfl rfl (opV_bin rfl rfl rfl (by first | exact rd_add _ _ _ _ _ (wrapI64 _ (by omega)) | exact rb_add _ _ _ _ _ _ _)) ?_ | refine SmG.pass hF rfl rfl rfl ?_
      first | refine SmG.v hF rfl rfl rfl (opV_bin rfl rfl rfl (by first | exact rd_lssT _ _ _ _ _ (by omega) | exact rd_lssF _ _ _ _ _ (by omega) | exact rb_lss _ _ _ _ _ _ _)) ?_ | refine SmG.pass hF rfl rfl rfl ?_
      first | refine SmG.v hF rfl rfl rfl (opV_pickT rfl rfl rfl) ?_ | refine SmG.v hF rfl rfl rfl (opV_pickF rfl rfl rfl) ?_
      refine SmG.nil ?_
      refine nextS_normal ?_
      refine Sm.condT hF rfl ?_
      refine Sm.regionG hF rfl ?_
      refine SmG.v hF rfl rfl rfl (opV_move rfl rfl) ?_
      refine SmG.v hF rfl rfl rfl (opV_fieldAddr rfl rfl (by simp (disch := omega) only [go_sem, Nat.reduceEqDiff, iteP, wkD, Wk.row, Res.row, hlen, hki, hrow, dB] <;> rfl)) ?_
      refine SmG.v hF rfl rfl rfl (opV_load rfl rfl (by simp (disch := omega) only [go_sem, Nat.reduceEqDiff, iteP, wkD, Wk.row, Res.row, hlen, hki, hrow, dB] <;> rfl)) ?_
      refine SmG.v hF rfl rfl rfl (opV_move rfl rfl) ?_
      refine SmG.v hF rfl rfl rfl (opV_bin rfl rfl rfl (by first | exact rd_sub _ _ _ _ _ (wrapI64 _ (by omega)) | exact rb_sub _ _ _ _ _ _ _)) ?_
      refine SmG.v hF rfl rfl rfl (opV_fieldAddr rfl rfl (by simp (disch := omega) only [go_sem, Nat.reduceEqDiff, iteP, wkD, Wk.row, Res.row, hlen, hki, hrow, dB] <;> rfl)) ?_
      refine SmG.v hF rfl rfl rfl (opV_load rfl rfl (by simp (disch := omega) only [go_sem, Nat.reduceEqDiff, iteP, wkD, Wk.row, Res.row, hlen, hki, hrow, dB] <;> rfl)) ?_
      refine SmG.v hF rfl rfl rfl (opV_indexAddr rfl rfl rfl (by simp (disch := omega) only [go_sem, Nat.reduceEqDiff, iteP, wkD, Wk.row, Res.row, hlen, hki, hrow, dB] <;> rfl)) ?_
      refine SmG.store hF rfl rfl rfl rfl rfl (by simp (disch := omega) only [go_sem, Nat.reduceEqDiff, iteP, wkD, Wk.row, Res.row, hlen, hki, hrow, dB] <;> rfl) ?_
      refine SmG.nil ?_
      refine nextS_normal ?_
      refine Sm.seq ?_
      refine Sm.regionG hF rfl ?_
      refine SmG.v hF rfl rfl rfl (opV_move rfl rfl) ?_
      refine SmG.v hF rfl rfl rfl (opV_assign rfl rfl) ?_
      refine SmG.v hF rfl rfl rfl (opV_assign rfl rfl) ?_
      refine SmG.nil ?_
      refine nextS_normal ?_
      refine Sm.ret ?_
      exact ⟨⟨_, .inr ⟨.tup, rfl⟩, V.le.refl _⟩, leH_look ⟨congrArg (fun rs => some (Blk.mk 2 rs)) hset, trivial⟩, Nat.le_of_ble_eq_true rfl⟩
    · have hli : lie x at0 l = l := by unfold lie; rw [if_neg (by omega)]
      rw [hli]
      refine CallsB.of Tryd.func48 rfl Tryd.ntmps48 (by simp) ?_; intro F hF h0 hT; simp only [List.zipIdx_cons, List.zipIdx_nil, List.map_cons, List.map_nil, Nat.zero_add, Nat.reduceAdd]
      refine Sm.seq ?_
      refine Sm.regionG hF rfl ?_
      refine SmG.new hF rfl rfl rfl (opS_box rfl rfl (by simp (disch := omega) only [go_sem, Nat.reduceEqDiff, iteP, wkD, Wk.row, Res.row, hlen] <;> rfl)) ?_
      refine SmG.v hF rfl rfl rfl (opV_assign rfl rfl) ?_
      refine SmG.v hF rfl rfl rfl (opV_assign rfl rfl) ?_
      refine SmG.nil ?_
      refine nextS_normal ?_
      refine Sm.seq ?_
      refine Sm.seq ?_
      refine Sm.regionG hF rfl ?_
      refine SmG.v hF rfl rfl rfl (opV_fieldAddr rfl rfl (by simp (disch := omega) only [go_sem, Nat.reduceEqDiff, iteP, wkD, Wk.row, Res.row, hlen] <;> rfl)) ?_
      refine SmG.v hF rfl rfl rfl (opV_load rfl rfl (by simp (disch := omega) only [go_sem, Nat.reduceEqDiff, iteP, wkD, Wk.row, Res.row, hlen] <;> rfl)) ?_
      refine SmG.v hF rfl rfl rfl (opV_move rfl rfl) ?_
      refine SmG.v hF rfl rfl rfl (opV_bin rfl rfl rfl (by first | exact rd_geqT _ _ _ _ _ (by omega) | exact rd_geqF _ _ _ _ _ (by omega) | exact rb_geq _ _ _ _ _ _ _)) ?_
      refine SmG.v hF rfl rfl rfl (opV_move rfl rfl) ?_
      first | refine SmG.v hF rfl rfl rfl (opV_fieldAddr rfl rfl (by simp (disch := omega) only [go_sem, Nat.reduceEqDiff, iteP, wkD, Wk.row, Res.row, hlen] <;> rfl)) ?_ | refine SmG.pass hF rfl rfl rfl ?_
      first | refine SmG.v hF rfl rfl rfl (opV_load rfl rfl (by simp (disch := omega) only [go_sem, Nat.reduceEqDiff, iteP, wkD, Wk.row, Res.row, hlen] <;> rfl)) ?_ | refine SmG.pass hF rfl rfl rfl ?_
      first | refine SmG.v hF rfl rfl rfl (opV_move rfl rfl) ?_ | refine SmG.pass hF rfl rfl rfl ?_
      first | refine SmG.v hF rfl rfl rfl (opV_move rfl rfl) ?_ | refine SmG.pass hF rfl rfl rfl ?_
      first | refine SmG.v hF rfl rfl rfl (opV_len rfl rfl (by simp (disch := omega) only [go_sem, Nat.reduceEqDiff, iteP, wkD, Wk.row, Res.row, hlen] <;> rfl)) ?_ | refine SmG.pass hF rfl rfl rfl ?_
      first | refine SmG.v hF rfl rfl rfl (opV_bin rfl rfl rfl (by first | exact rd_add _ _ _ _ _ (wrapI64 _ (by omega)) | exact rb_add _ _ _ _ _ _ _)) ?_ | refine SmG.pass hF rfl rfl rfl ?_
      first | refine SmG.v hF rfl rfl rfl (opV_bin rfl rfl rfl (by first | exact rd_lssT _ _ _ _ _ (by omega) | exact rd_lssF _ _ _ _ _ (by omega) | exact rb_lss _ _ _ _ _ _ _)) ?_ | refine SmG.pass hF rfl rfl rfl ?_
      first | refine SmG.v hF rfl rfl rfl (opV_pickT rfl rfl rfl) ?_ | refine SmG.v hF rfl rfl rfl (opV_pickF rfl rfl rfl) ?_
      refine SmG.nil ?_
      refine nextS_normal ?_
      refine Sm.condF hF rfl ?_
      refine Sm.skip ?_
      refine nextS_normal ?_
      refine Sm.seq ?_
      refine Sm.regionG hF rfl ?_
      refine SmG.v hF rfl rfl rfl (opV_move rfl rfl) ?_
      refine SmG.v hF rfl rfl rfl (opV_assign rfl rfl) ?_
      refine SmG.v hF rfl rfl rfl (opV_assign rfl rfl) ?_
      refine SmG.nil ?_
      refine nextS_normal ?_
      refine Sm.ret ?_
      exact ⟨⟨_, .inr ⟨.tup, rfl⟩, V.le.refl _⟩, leH_look ⟨rfl, trivial⟩, Nat.le_of_ble_eq_true rfl⟩
  · have hli : lie x at0 l = l := by unfold lie; rw [if_neg (by omega)]
    rw [hli]
    refine CallsB.of Tryd.func48 rfl Tryd.ntmps48 (by simp) ?_; intro F hF h0 hT; simp only [List.zipIdx_cons, List.zipIdx_nil, List.map_cons, List.map_nil, Nat.zero_add, Nat.reduceAdd]
    refine Sm.seq ?_
    refine Sm.regionG hF rfl ?_
    refine SmG.new hF rfl rfl rfl (opS_box rfl rfl (by simp (disch := omega) only [go_sem, Nat.reduceEqDiff, iteP, wkD, Wk.row, Res.row] <;> rfl)) ?_
    refine SmG.v hF rfl rfl rfl (opV_assign rfl rfl) ?_
    refine SmG.v hF rfl rfl rfl (opV_assign rfl rfl) ?_
    refine SmG.nil ?_
    refine nextS_normal ?_
    refine Sm.seq ?_
    refine Sm.seq ?_
    refine Sm.regionG hF rfl ?_
    refine SmG.v hF rfl rfl rfl (opV_fieldAddr rfl rfl (by simp (disch := omega) only [go_sem, Nat.reduceEqDiff, iteP, wkD, Wk.row, Res.row] <;> rfl)) ?_
    refine SmG.v hF rfl rfl rfl (opV_load rfl rfl (by simp (disch := omega) only [go_sem, Nat.reduceEqDiff, iteP, wkD, Wk.row, Res.row] <;> rfl)) ?_
    refine SmG.v hF rfl rfl rfl (opV_move rfl rfl) ?_
    refine SmG.v hF rfl rfl rfl (opV_bin rfl rfl rfl (by first | exact rd_geqT _ _ _ _ _ (by omega) | exact rd_geqF _ _ _ _ _ (by omega) | exact rb_geq _ _ _ _ _ _ _)) ?_
    refine SmG.v hF rfl rfl rfl (opV_move rfl rfl) ?_
    first | refine SmG.v hF rfl rfl rfl (opV_fieldAddr rfl rfl (by simp (disch := omega) only [go_sem, Nat.reduceEqDiff, iteP, wkD, Wk.row, Res.row] <;> rfl)) ?_ | refine SmG.pass hF rfl rfl rfl ?_
    first | refine SmG.v hF rfl rfl rfl (opV_load rfl rfl (by simp (disch := omega) only [go_sem, Nat.reduceEqDiff, iteP, wkD, Wk.row, Res.row] <;> rfl)) ?_ | refine SmG.pass hF rfl rfl rfl ?_
    first | refine SmG.v hF rfl rfl rfl (opV_move rfl rfl) ?_ | refine SmG.pass hF rfl rfl rfl ?_
    first | refine SmG.v hF rfl rfl rfl (opV_move rfl rfl) ?_ | refine SmG.pass hF rfl rfl rfl ?_
    first | refine SmG.v hF rfl rfl rfl (opV_len rfl rfl (by simp (disch := omega) only [go_sem, Nat.reduceEqDiff, iteP, wkD, Wk.row, Res.row] <;> rfl)) ?_ | refine SmG.pass hF rfl rfl rfl ?_
    first | refine SmG.v hF rfl rfl rfl (opV_bin rfl rfl rfl (by first | exact rd_add _ _ _ _ _ (wrapI64 _ (by omega)) | exact rb_add _ _ _ _ _ _ _)) ?_ | refine SmG.pass hF rfl rfl rfl ?_
    first | refine SmG.v hF rfl rfl rfl (opV_bin rfl rfl rfl (by first | exact rd_lssT _ _ _ _ _ (by omega) | exact rd_lssF _ _ _ _ _ (by omega) | exact rb_lss _ _ _ _ _ _ _)) ?_ | refine SmG.pass hF rfl rfl rfl ?_
    first | refine SmG.v hF rfl rfl rfl (opV_pickT rfl rfl rfl) ?_ | refine SmG.v hF rfl rfl rfl (opV_pickF rfl rfl rfl) ?_
    refine SmG.nil ?_
    refine nextS_normal ?_
    refine Sm.condF hF rfl ?_
    refine Sm.skip ?_
    refine nextS_normal ?_
    refine Sm.seq ?_
    refine Sm.regionG hF rfl ?_
    refine SmG.v hF rfl rfl rfl (opV_move rfl rfl) ?_
    refine SmG.v hF rfl rfl rfl (opV_assign rfl rfl) ?_
    refine SmG.v hF rfl rfl rfl (opV_assign rfl rfl) ?_
    refine SmG.nil ?_
    refine nextS_normal ?_
    refine Sm.ret ?_
    exact ⟨⟨_, .inr ⟨.tup, rfl⟩, V.le.refl _⟩, leH_look ⟨rfl, trivial⟩, Nat.le_of_ble_eq_true rfl⟩
end Go.Proofs.YtagfaaijgfigkaaDoor
namespace Go.Proofs.YtagfaaijgfigkaaDoor
open Go.RowKit
set_option maxRecDepth 100000
def sayM : D := .map [.int .i64 1, .int .i64 3, .int .i64 4] [.fn 46 [], .fn 47 [], .fn 48 []]
theorem sayings_D (G : Nat → Option D) : CallsD Tryd.prog G 35 [] sayM := by
  refine CallsD.of Tryd.func35 rfl Tryd.ntmps35 (by simp) ?_; intro F hF h0 hT; simp only [List.zipIdx_cons, List.zipIdx_nil, List.map_cons, List.map_nil, Nat.zero_add, Nat.reduceAdd]
  refine Sm.seq ?_
  refine Sm.regionG hF rfl ?_
  refine SmG.v hF rfl rfl rfl (opV_assign rfl rfl) ?_
  refine SmG.nil ?_
  refine nextS_normal ?_
  refine Sm.seq ?_
  refine Sm.regionG hF rfl ?_
  refine SmG.mapLit hF Tryd.underlying84 Tryd.underlying3 (kk := .i64) (ins := [_, _, _]) (entries := [(1, .func 46), (3, .func 47), (4, .func 48)]) rfl rfl rfl rfl ⟨rfl, rfl, rfl, rfl, rfl, rfl, rfl, rfl, rfl, trivial⟩ (by decide) (by simp) rfl ?_
  refine SmG.v hF rfl rfl rfl (opV_move rfl rfl) ?_
  refine SmG.v hF rfl rfl rfl (opV_assign rfl rfl) ?_
  refine SmG.nil ?_
  refine nextS_normal ?_
  refine Sm.ret ?_
  refine ⟨_, rfl, ?_⟩; dsimp only
  exact D.le.refl _
def sayKind (k : Int) : Prop := k = 1 ∨ k = 3 ∨ k = 4
theorem say_none {k : Int} (h : ¬ sayKind k) : lookupS Tryd.prog 84 (.d sayM) (.d (.v (.int .i64 k))) true = some (.d (.tup [.v .nilFunc, .v (.bool false)])) := by
  have h1 : ¬ k = 1 := fun e => h (.inl e)
  have h3 : ¬ k = 3 := fun e => h (.inr (.inl e))
  have h4 : ¬ k = 4 := fun e => h (.inr (.inr e))
  simp [lookupS, sayM, findI, Tryd.underlying84, Tryd.underlying3, h1, h3, h4]
  rfl
structure Clm where
  who : Int
  lo : Int
  hi : Int
  l : List Res
  root : List UInt8
def Clm.row (c : Clm) : List D := .v (.int .i64 c.who) :: .v (.int .i64 c.lo) :: .v (.int .i64 c.hi) :: ressL c.l :: rowS c.root
def clmD (c : Clm) : D := .agg 36 c.row
def noClm : Clm := ⟨0, 0, 0, [], List.replicate 32 0⟩
theorem noClm_le : (D.tup [D.agg 36 (.v (.int .i64 0) :: .v (.int .i64 0) :: .v (.int .i64 0) :: .list 0 [] true :: rowS (List.replicate 32 0)), constD (.bool false)]).le (.tup [clmD noClm, .v (.bool false)]) :=
  D.le_tup ⟨D.le_agg ⟨D.le.refl _, D.le.refl _, D.le.refl _, D.le_nil' 0 2 true, leL.refl _⟩, D.le.refl _, trivial⟩
theorem work_no (x : Wk) (who t : Int) (v : List Res) (a b : Int) (hl : v.length ≤ 1000000) (h : ¬ sayKind x.kind ∨ (sayKind x.kind ∧ (a < 0 ∨ (0 ≤ a ∧ (b < a ∨ (a ≤ b ∧ (v.length : Int) < b)))))) : CallsD Tryd.prog HG 31 [wkD x, .v (.int .i64 who), .v (.int .i64 t), ressL v, .v (.int .i64 a), .v (.int .i64 b)] (.tup [clmD noClm, .v (.bool false)]) := by
  have hlk : ∃ (d : D) (k : Bool), lookupS Tryd.prog 84 (.d sayM) (.d (.v (.int .i64 x.kind))) true = some (.d (.tup [d, .v (.bool k)])) ∧ (k = true → sayKind x.kind) ∧ (k = false → ¬ sayKind x.kind) := by
    by_cases hk : sayKind x.kind
    · rcases hk with hk | hk | hk <;> rw [hk] <;> exact ⟨_, true, rfl, (fun _ => by unfold sayKind; omega), (fun h => by cases h)⟩
    · exact ⟨_, false, say_none hk, (fun h => by cases h), (fun _ => hk)⟩
  obtain ⟨d, k, hlk, hk1, hk2⟩ := hlk
  rcases h with h | ⟨h0, h⟩
  · cases k with
    | true => exact absurd (hk1 rfl) h
    | false =>
      refine CallsD.of Tryd.func31 rfl Tryd.ntmps31 (by simp) ?_; intro F hF h0 hT; simp only [List.zipIdx_cons, List.zipIdx_nil, List.map_cons, List.map_nil, Nat.zero_add, Nat.reduceAdd]
      refine Sm.seq ?_
      refine Sm.regionG hF rfl ?_
      refine SmG.new hF rfl rfl rfl (opS_box rfl rfl (by simp (disch := omega) only [go_sem, Nat.reduceEqDiff, iteP, wkD, Wk.row, ressL] <;> rfl)) ?_
      refine SmG.new hF rfl rfl rfl (opS_alloc rfl al41) ?_
      refine SmG.v hF rfl rfl rfl (opV_assign rfl rfl) ?_
      refine SmG.nil ?_
      refine nextS_normal ?_
      refine Sm.seq ?_
      refine Sm.drawG hF (by kernel_rfl) rfl 9 (by kernel_rfl) (by kernel_rfl) ?_
      simp only [List.take_succ_cons, List.take_zero, List.take_nil]
      refine Head.c hF rfl rfl (by kernel_rfl) rfl rfl rfl (sayings_D HG) ?_
      refine Head.v hF rfl rfl rfl (opV_fieldAddr rfl rfl (by simp (disch := omega) only [go_sem, Nat.reduceEqDiff, iteP, wkD, Wk.row, ressL] <;> rfl)) ?_
      refine Head.v hF rfl rfl rfl (opV_load rfl rfl (by simp (disch := omega) only [go_sem, Nat.reduceEqDiff, iteP, wkD, Wk.row, ressL] <;> rfl)) ?_
      refine Head.v hF rfl rfl rfl (opV_lookup rfl rfl rfl hlk) ?_
      refine Head.v hF rfl rfl rfl (opV_move rfl rfl) ?_
      refine Head.v hF rfl rfl rfl (by first | exact opV_extract rfl rfl rfl | exact opV_extract0 rfl rfl) ?_
      refine Head.v hF rfl rfl rfl (by first | exact opV_extract rfl rfl rfl | exact opV_extractS rfl rfl rfl) ?_
      refine Head.v hF rfl rfl rfl (opV_assign rfl rfl) ?_
      refine Head.v hF rfl rfl rfl (opV_assign rfl rfl) ?_
      refine Head.last ⟨rfl, ?_⟩
      simp only [List.drop_succ_cons, List.drop_zero, List.drop_nil, List.nil_append, List.cons_append]
      refine SmG.nil ?_
      refine nextS_normal ?_
      refine Sm.seq ?_
      refine Sm.seq ?_
      refine Sm.regionG hF rfl ?_
      refine SmG.v hF rfl rfl rfl (opV_move rfl rfl) ?_
      refine SmG.v hF rfl rfl rfl (opV_un rfl rfl (by first | exact rd_notT _ | exact rd_notF _ | exact rd_not _)) ?_
      refine SmG.v hF rfl rfl rfl (opV_move rfl rfl) ?_
      first | refine SmG.v hF rfl rfl rfl (opV_move rfl rfl) ?_ | refine SmG.pass hF rfl rfl rfl ?_
      first | refine SmG.v hF rfl rfl rfl (opV_bin rfl rfl rfl (by first | exact rd_lssT _ _ _ _ _ (by omega) | exact rd_lssF _ _ _ _ _ (by omega) | exact rb_lss _ _ _ _ _ _ _)) ?_ | refine SmG.pass hF rfl rfl rfl ?_
      first | refine SmG.v hF rfl rfl rfl (opV_pickT rfl rfl rfl) ?_ | refine SmG.v hF rfl rfl rfl (opV_pickF rfl rfl rfl) ?_
      refine SmG.v hF rfl rfl rfl (opV_move rfl rfl) ?_
      first | refine SmG.v hF rfl rfl rfl (opV_move rfl rfl) ?_ | refine SmG.pass hF rfl rfl rfl ?_
      first | refine SmG.v hF rfl rfl rfl (opV_move rfl rfl) ?_ | refine SmG.pass hF rfl rfl rfl ?_
      first | refine SmG.v hF rfl rfl rfl (opV_bin rfl rfl rfl (by first | exact rd_lssT _ _ _ _ _ (by omega) | exact rd_lssF _ _ _ _ _ (by omega) | exact rb_lss _ _ _ _ _ _ _)) ?_ | refine SmG.pass hF rfl rfl rfl ?_
      first | refine SmG.v hF rfl rfl rfl (opV_pickT rfl rfl rfl) ?_ | refine SmG.v hF rfl rfl rfl (opV_pickF rfl rfl rfl) ?_
      refine SmG.v hF rfl rfl rfl (opV_move rfl rfl) ?_
      first | refine SmG.v hF rfl rfl rfl (opV_move rfl rfl) ?_ | refine SmG.pass hF rfl rfl rfl ?_
      first | refine SmG.v hF rfl rfl rfl (opV_move rfl rfl) ?_ | refine SmG.pass hF rfl rfl rfl ?_
      first | refine SmG.v hF rfl rfl rfl (opV_len rfl rfl (by simp (disch := omega) only [go_sem, Nat.reduceEqDiff, iteP, wkD, Wk.row, ressL] <;> rfl)) ?_ | refine SmG.pass hF rfl rfl rfl ?_
      first | refine SmG.v hF rfl rfl rfl (opV_bin rfl rfl rfl (by first | exact rd_gtrT _ _ _ _ _ (by omega) | exact rd_gtrF _ _ _ _ _ (by omega) | exact rb_gtr _ _ _ _ _ _ _)) ?_ | refine SmG.pass hF rfl rfl rfl ?_
      first | refine SmG.v hF rfl rfl rfl (opV_pickT rfl rfl rfl) ?_ | refine SmG.v hF rfl rfl rfl (opV_pickF rfl rfl rfl) ?_
      refine SmG.nil ?_
      refine nextS_normal ?_
      refine Sm.condT hF rfl ?_
      refine Sm.seq ?_
      refine Sm.regionG hF rfl ?_
      refine SmG.v hF rfl rfl rfl (opV_buildT rfl Tryd.underlying41 (by kernel_rfl) rfl bz41) ?_
      refine SmG.store hF rfl rfl rfl rfl rfl (by simp (disch := omega) only [go_sem, Nat.reduceEqDiff, iteP, wkD, Wk.row, ressL] <;> rfl) ?_
      refine SmG.v hF rfl rfl rfl (opV_assign rfl rfl) ?_
      refine SmG.nil ?_
      refine nextS_normal ?_
      refine Sm.ret ?_
      simp only [nextS, blockS]
      refine retQ_cell2 rfl rfl (by simp (disch := omega) only [go_sem, Nat.reduceEqDiff, iteP] <;> rfl) rfl ?_
      exact noClm_le
  · cases k with
    | false => exact absurd h0 (hk2 rfl)
    | true =>
      rcases h with h | ⟨h, h' | ⟨h', h''⟩⟩
      all_goals
        refine CallsD.of Tryd.func31 rfl Tryd.ntmps31 (by simp) ?_; intro F hF h0 hT; simp only [List.zipIdx_cons, List.zipIdx_nil, List.map_cons, List.map_nil, Nat.zero_add, Nat.reduceAdd]
        refine Sm.seq ?_
        refine Sm.regionG hF rfl ?_
        refine SmG.new hF rfl rfl rfl (opS_box rfl rfl (by simp (disch := omega) only [go_sem, Nat.reduceEqDiff, iteP, wkD, Wk.row, ressL] <;> rfl)) ?_
        refine SmG.new hF rfl rfl rfl (opS_alloc rfl al41) ?_
        refine SmG.v hF rfl rfl rfl (opV_assign rfl rfl) ?_
        refine SmG.nil ?_
        refine nextS_normal ?_
        refine Sm.seq ?_
        refine Sm.drawG hF (by kernel_rfl) rfl 9 (by kernel_rfl) (by kernel_rfl) ?_
        simp only [List.take_succ_cons, List.take_zero, List.take_nil]
        refine Head.c hF rfl rfl (by kernel_rfl) rfl rfl rfl (sayings_D HG) ?_
        refine Head.v hF rfl rfl rfl (opV_fieldAddr rfl rfl (by simp (disch := omega) only [go_sem, Nat.reduceEqDiff, iteP, wkD, Wk.row, ressL] <;> rfl)) ?_
        refine Head.v hF rfl rfl rfl (opV_load rfl rfl (by simp (disch := omega) only [go_sem, Nat.reduceEqDiff, iteP, wkD, Wk.row, ressL] <;> rfl)) ?_
        refine Head.v hF rfl rfl rfl (opV_lookup rfl rfl rfl hlk) ?_
        refine Head.v hF rfl rfl rfl (opV_move rfl rfl) ?_
        refine Head.v hF rfl rfl rfl (by first | exact opV_extract rfl rfl rfl | exact opV_extract0 rfl rfl) ?_
        refine Head.v hF rfl rfl rfl (by first | exact opV_extract rfl rfl rfl | exact opV_extractS rfl rfl rfl) ?_
        refine Head.v hF rfl rfl rfl (opV_assign rfl rfl) ?_
        refine Head.v hF rfl rfl rfl (opV_assign rfl rfl) ?_
        refine Head.last ⟨rfl, ?_⟩
        simp only [List.drop_succ_cons, List.drop_zero, List.drop_nil, List.nil_append, List.cons_append]
        refine SmG.nil ?_
        refine nextS_normal ?_
        refine Sm.seq ?_
        refine Sm.seq ?_
        refine Sm.regionG hF rfl ?_
        refine SmG.v hF rfl rfl rfl (opV_move rfl rfl) ?_
        refine SmG.v hF rfl rfl rfl (opV_un rfl rfl (by first | exact rd_notT _ | exact rd_notF _ | exact rd_not _)) ?_
        refine SmG.v hF rfl rfl rfl (opV_move rfl rfl) ?_
        first | refine SmG.v hF rfl rfl rfl (opV_move rfl rfl) ?_ | refine SmG.pass hF rfl rfl rfl ?_
        first | refine SmG.v hF rfl rfl rfl (opV_bin rfl rfl rfl (by first | exact rd_lssT _ _ _ _ _ (by omega) | exact rd_lssF _ _ _ _ _ (by omega) | exact rb_lss _ _ _ _ _ _ _)) ?_ | refine SmG.pass hF rfl rfl rfl ?_
        first | refine SmG.v hF rfl rfl rfl (opV_pickT rfl rfl rfl) ?_ | refine SmG.v hF rfl rfl rfl (opV_pickF rfl rfl rfl) ?_
        refine SmG.v hF rfl rfl rfl (opV_move rfl rfl) ?_
        first | refine SmG.v hF rfl rfl rfl (opV_move rfl rfl) ?_ | refine SmG.pass hF rfl rfl rfl ?_
        first | refine SmG.v hF rfl rfl rfl (opV_move rfl rfl) ?_ | refine SmG.pass hF rfl rfl rfl ?_
        first | refine SmG.v hF rfl rfl rfl (opV_bin rfl rfl rfl (by first | exact rd_lssT _ _ _ _ _ (by omega) | exact rd_lssF _ _ _ _ _ (by omega) | exact rb_lss _ _ _ _ _ _ _)) ?_ | refine SmG.pass hF rfl rfl rfl ?_
        first | refine SmG.v hF rfl rfl rfl (opV_pickT rfl rfl rfl) ?_ | refine SmG.v hF rfl rfl rfl (opV_pickF rfl rfl rfl) ?_
        refine SmG.v hF rfl rfl rfl (opV_move rfl rfl) ?_
        first | refine SmG.v hF rfl rfl rfl (opV_move rfl rfl) ?_ | refine SmG.pass hF rfl rfl rfl ?_
        first | refine SmG.v hF rfl rfl rfl (opV_move rfl rfl) ?_ | refine SmG.pass hF rfl rfl rfl ?_
        first | refine SmG.v hF rfl rfl rfl (opV_len rfl rfl (by simp (disch := omega) only [go_sem, Nat.reduceEqDiff, iteP, wkD, Wk.row, ressL] <;> rfl)) ?_ | refine SmG.pass hF rfl rfl rfl ?_
        first | refine SmG.v hF rfl rfl rfl (opV_bin rfl rfl rfl (by first | exact rd_gtrT _ _ _ _ _ (by omega) | exact rd_gtrF _ _ _ _ _ (by omega) | exact rb_gtr _ _ _ _ _ _ _)) ?_ | refine SmG.pass hF rfl rfl rfl ?_
        first | refine SmG.v hF rfl rfl rfl (opV_pickT rfl rfl rfl) ?_ | refine SmG.v hF rfl rfl rfl (opV_pickF rfl rfl rfl) ?_
        refine SmG.nil ?_
        refine nextS_normal ?_
        refine Sm.condT hF rfl ?_
        refine Sm.seq ?_
        refine Sm.regionG hF rfl ?_
        refine SmG.v hF rfl rfl rfl (opV_buildT rfl Tryd.underlying41 (by kernel_rfl) rfl bz41) ?_
        refine SmG.store hF rfl rfl rfl rfl rfl (by simp (disch := omega) only [go_sem, Nat.reduceEqDiff, iteP, wkD, Wk.row, ressL] <;> rfl) ?_
        refine SmG.v hF rfl rfl rfl (opV_assign rfl rfl) ?_
        refine SmG.nil ?_
        refine nextS_normal ?_
        refine Sm.ret ?_
        simp only [nextS, blockS]
        refine retQ_cell2 rfl rfl (by simp (disch := omega) only [go_sem, Nat.reduceEqDiff, iteP] <;> rfl) rfl ?_
        exact noClm_le
theorem clm_build (a b c : Value) (ha : a.oneCell' = true) (hb : b.oneCell' = true) (hc : c.oneCell' = true) (xs : List (List D)) (f : Bool) {R : List UInt8} (h : R.length = 32) :
    buildS Tryd.prog 41 [(0, .d (.v a)), (1, .d (.v b)), (2, .d (.v c)), (3, .d (.list 2 xs f)), (4, .d (.agg 32 (rowS R)))] = some (.d (.agg 36 (.v a :: .v b :: .v c :: .list 2 xs f :: rowS R))) := by
  have hr : (rowS R).length = 32 := by simp [rowS, h]
  have hq : ∀ x : Value, x.oneCell' = true → partOf 1 (.d (.v x)) = some [.v x] := fun x hx => by simp [partOf, hx]
  refine buildS_struct (pl := [(0, 1), (1, 1), (2, 1), (3, 1), (4, 32)]) (z := .v (.int .i64 0) :: .v (.int .i64 0) :: .v (.int .i64 0) :: .list 0 [] true :: rowS (List.replicate 32 0)) ze41 (by kernel_rfl) rfl ?_
  rw [fill_one (n := 36) rfl (hq a ha) rfl (by omega), fill_one (n := 36) rfl (hq b hb) rfl (by omega), fill_one (n := 36) rfl (hq c hc) rfl (by omega), fill_one (n := 36) (d := .list 2 xs f) rfl rfl rfl (by omega), fill_agg (n := 36) rfl (by omega) hr rfl (by omega)]
  simp [fillD, rowS]
def partOfL (v : List Res) (a b : Nat) : List Res := (v.take b).drop a
theorem part_len {v : List Res} {a b : Nat} (h : b ≤ v.length) : (partOfL v a b).length = b - a := by
  simp [partOfL]; omega
theorem work_say (x : Wk) (who t : Int) (v : List Res) (a b : Nat) (hl : v.length ≤ 1000000) (hab : a ≤ b) (hb : b ≤ v.length) (fi : FuncId) (l : List Res) (ok : Bool) (hll : l.length = b - a) (hbody : hasBody Tryd.prog fi = true)
    (hlk : lookupS Tryd.prog 84 (.d sayM) (.d (.v (.int .i64 x.kind))) true = some (.d (.tup [.fn fi [], .v (.bool true)])))
    (hsay : CallsD Tryd.prog HG fi ([wkD x, .v (.int .i64 t), .v (.int .i64 a), ressL (partOfL v a b)] ++ []) (.tup [ressL l, .v (.bool ok)])) :
    CallsD Tryd.prog HG 31 [wkD x, .v (.int .i64 who), .v (.int .i64 t), ressL v, .v (.int .i64 a), .v (.int .i64 b)] (.tup [clmD (if ok then ⟨who, a, b, l, Sha.root (l.map resBytes)⟩ else noClm), .v (.bool ok)]) := by
  have hsl : List.drop a (List.take b (List.map Res.row v)) = List.map Res.row (partOfL v a b) := by simp [partOfL, List.map_take, List.map_drop]
  have hpl := part_len (a := a) hb
  have hRl := Sha.root_len (l.map resBytes)
  have hR := workRoot_D l (by omega)
  generalize Sha.root (l.map resBytes) = R at hR hRl ⊢
  have hc : ∀ A : List UInt8, A.length = 32 → (rowS A).length = 32 := fun A h => by simp [rowS, h]
  have hcR := hc R hRl
  cases ok with
  | false =>
    refine CallsD.of Tryd.func31 rfl Tryd.ntmps31 (by simp) ?_; intro F hF h0 hT; simp only [List.zipIdx_cons, List.zipIdx_nil, List.map_cons, List.map_nil, Nat.zero_add, Nat.reduceAdd]
    refine Sm.seq ?_
    refine Sm.regionG hF rfl ?_
    refine SmG.new hF rfl rfl rfl (opS_box rfl rfl (by simp (disch := omega) only [go_sem, Nat.reduceEqDiff, iteP, wkD, Wk.row, ressL, hsl, sumD, hcR] <;> rfl)) ?_
    refine SmG.new hF rfl rfl rfl (opS_alloc rfl al41) ?_
    refine SmG.v hF rfl rfl rfl (opV_assign rfl rfl) ?_
    refine SmG.nil ?_
    refine nextS_normal ?_
    refine Sm.seq ?_
    refine Sm.drawG hF (by kernel_rfl) rfl 9 (by kernel_rfl) (by kernel_rfl) ?_
    simp only [List.take_succ_cons, List.take_zero, List.take_nil]
    refine Head.c hF rfl rfl (by kernel_rfl) rfl rfl rfl (sayings_D HG) ?_
    refine Head.v hF rfl rfl rfl (opV_fieldAddr rfl rfl (by simp (disch := omega) only [go_sem, Nat.reduceEqDiff, iteP, wkD, Wk.row, ressL, hsl, sumD, hcR] <;> rfl)) ?_
    refine Head.v hF rfl rfl rfl (opV_load rfl rfl (by simp (disch := omega) only [go_sem, Nat.reduceEqDiff, iteP, wkD, Wk.row, ressL, hsl, sumD, hcR] <;> rfl)) ?_
    refine Head.v hF rfl rfl rfl (opV_lookup rfl rfl rfl hlk) ?_
    refine Head.v hF rfl rfl rfl (opV_move rfl rfl) ?_
    refine Head.v hF rfl rfl rfl (by first | exact opV_extract rfl rfl rfl | exact opV_extract0 rfl rfl) ?_
    refine Head.v hF rfl rfl rfl (by first | exact opV_extract rfl rfl rfl | exact opV_extractS rfl rfl rfl) ?_
    refine Head.v hF rfl rfl rfl (opV_assign rfl rfl) ?_
    refine Head.v hF rfl rfl rfl (opV_assign rfl rfl) ?_
    refine Head.last ⟨rfl, ?_⟩
    simp only [List.drop_succ_cons, List.drop_zero, List.drop_nil, List.nil_append, List.cons_append]
    refine SmG.nil ?_
    refine nextS_normal ?_
    refine Sm.seq ?_
    refine Sm.seq ?_
    refine Sm.regionG hF rfl ?_
    refine SmG.v hF rfl rfl rfl (opV_move rfl rfl) ?_
    refine SmG.v hF rfl rfl rfl (opV_un rfl rfl (by first | exact rd_notT _ | exact rd_notF _ | exact rd_not _)) ?_
    refine SmG.v hF rfl rfl rfl (opV_move rfl rfl) ?_
    first | refine SmG.v hF rfl rfl rfl (opV_move rfl rfl) ?_ | refine SmG.pass hF rfl rfl rfl ?_
    first | refine SmG.v hF rfl rfl rfl (opV_bin rfl rfl rfl (by first | exact rd_lssT _ _ _ _ _ (by omega) | exact rd_lssF _ _ _ _ _ (by omega) | exact rb_lss _ _ _ _ _ _ _)) ?_ | refine SmG.pass hF rfl rfl rfl ?_
    first | refine SmG.v hF rfl rfl rfl (opV_pickT rfl rfl rfl) ?_ | refine SmG.v hF rfl rfl rfl (opV_pickF rfl rfl rfl) ?_
    refine SmG.v hF rfl rfl rfl (opV_move rfl rfl) ?_
    first | refine SmG.v hF rfl rfl rfl (opV_move rfl rfl) ?_ | refine SmG.pass hF rfl rfl rfl ?_
    first | refine SmG.v hF rfl rfl rfl (opV_move rfl rfl) ?_ | refine SmG.pass hF rfl rfl rfl ?_
    first | refine SmG.v hF rfl rfl rfl (opV_bin rfl rfl rfl (by first | exact rd_lssT _ _ _ _ _ (by omega) | exact rd_lssF _ _ _ _ _ (by omega) | exact rb_lss _ _ _ _ _ _ _)) ?_ | refine SmG.pass hF rfl rfl rfl ?_
    first | refine SmG.v hF rfl rfl rfl (opV_pickT rfl rfl rfl) ?_ | refine SmG.v hF rfl rfl rfl (opV_pickF rfl rfl rfl) ?_
    refine SmG.v hF rfl rfl rfl (opV_move rfl rfl) ?_
    first | refine SmG.v hF rfl rfl rfl (opV_move rfl rfl) ?_ | refine SmG.pass hF rfl rfl rfl ?_
    first | refine SmG.v hF rfl rfl rfl (opV_move rfl rfl) ?_ | refine SmG.pass hF rfl rfl rfl ?_
    first | refine SmG.v hF rfl rfl rfl (opV_len rfl rfl (by simp (disch := omega) only [go_sem, Nat.reduceEqDiff, iteP, wkD, Wk.row, ressL, hsl, sumD, hcR] <;> rfl)) ?_ | refine SmG.pass hF rfl rfl rfl ?_
    first | refine SmG.v hF rfl rfl rfl (opV_bin rfl rfl rfl (by first | exact rd_gtrT _ _ _ _ _ (by omega) | exact rd_gtrF _ _ _ _ _ (by omega) | exact rb_gtr _ _ _ _ _ _ _)) ?_ | refine SmG.pass hF rfl rfl rfl ?_
    first | refine SmG.v hF rfl rfl rfl (opV_pickT rfl rfl rfl) ?_ | refine SmG.v hF rfl rfl rfl (opV_pickF rfl rfl rfl) ?_
    refine SmG.nil ?_
    refine nextS_normal ?_
    refine Sm.condF hF rfl ?_
    refine Sm.skip ?_
    refine nextS_normal ?_
    refine Sm.seq ?_
    refine Sm.drawG hF (by kernel_rfl) rfl 15 (by kernel_rfl) (by kernel_rfl) ?_
    simp only [List.take_succ_cons, List.take_zero, List.take_nil]
    refine Head.v hF rfl rfl rfl (opV_move rfl rfl) ?_
    refine Head.v hF rfl rfl rfl (opV_load rfl rfl (by simp (disch := omega) only [go_sem, Nat.reduceEqDiff, iteP, wkD, Wk.row, ressL, hsl, sumD, hcR] <;> rfl)) ?_
    refine Head.v hF rfl rfl rfl (opV_move rfl rfl) ?_
    refine Head.v hF rfl rfl rfl (opV_move rfl rfl) ?_
    refine Head.v hF rfl rfl rfl (opV_move rfl rfl) ?_
    refine Head.v hF rfl rfl rfl (opV_move rfl rfl) ?_
    refine Head.v hF rfl rfl rfl (opV_move rfl rfl) ?_
    refine Head.v hF rfl rfl rfl (opV_slice rfl rfl rfl rfl rfl (by simp (disch := omega) only [go_sem, Nat.reduceEqDiff, iteP, wkD, Wk.row, ressL, hsl, sumD, hcR] <;> rfl)) ?_
    refine Head.c hF rfl rfl (by kernel_rfl) rfl rfl rfl (clone_D _ (by omega) HG) ?_
    refine Head.cf hF rfl rfl rfl rfl rfl rfl hbody hsay ?_
    refine Head.v hF rfl rfl rfl (opV_move rfl rfl) ?_
    refine Head.v hF rfl rfl rfl (by first | exact opV_extract rfl rfl rfl | exact opV_extract0 rfl rfl) ?_
    refine Head.v hF rfl rfl rfl (by first | exact opV_extract rfl rfl rfl | exact opV_extractS rfl rfl rfl) ?_
    refine Head.v hF rfl rfl rfl (opV_assign rfl rfl) ?_
    refine Head.v hF rfl rfl rfl (opV_assign rfl rfl) ?_
    refine Head.last ⟨rfl, ?_⟩
    simp only [List.drop_succ_cons, List.drop_zero, List.drop_nil, List.nil_append, List.cons_append]
    refine SmG.nil ?_
    refine nextS_normal ?_
    refine Sm.seq ?_
    refine Sm.seq ?_
    refine Sm.regionG hF rfl ?_
    refine SmG.v hF rfl rfl rfl (opV_move rfl rfl) ?_
    refine SmG.v hF rfl rfl rfl (opV_un rfl rfl (by first | exact rd_notT _ | exact rd_notF _ | exact rd_not _)) ?_
    refine SmG.nil ?_
    refine nextS_normal ?_
    refine Sm.condT hF rfl ?_
    refine Sm.seq ?_
    refine Sm.regionG hF rfl ?_
    refine SmG.v hF rfl rfl rfl (opV_buildT rfl Tryd.underlying41 (by kernel_rfl) rfl bz41) ?_
    refine SmG.store hF rfl rfl rfl rfl rfl (by simp (disch := omega) only [go_sem, Nat.reduceEqDiff, iteP, wkD, Wk.row, ressL, hsl, sumD, hcR] <;> rfl) ?_
    refine SmG.v hF rfl rfl rfl (opV_assign rfl rfl) ?_
    refine SmG.nil ?_
    refine nextS_normal ?_
    refine Sm.ret ?_
    simp only [nextS, blockS]
    refine retQ_cell2 rfl rfl (by simp (disch := omega) only [go_sem, Nat.reduceEqDiff, iteP] <;> rfl) rfl ?_
    exact noClm_le
  | true =>
    refine CallsD.of Tryd.func31 rfl Tryd.ntmps31 (by simp) ?_; intro F hF h0 hT; simp only [List.zipIdx_cons, List.zipIdx_nil, List.map_cons, List.map_nil, Nat.zero_add, Nat.reduceAdd]
    refine Sm.seq ?_
    refine Sm.regionG hF rfl ?_
    refine SmG.new hF rfl rfl rfl (opS_box rfl rfl (by simp (disch := omega) only [go_sem, Nat.reduceEqDiff, iteP, wkD, Wk.row, ressL, hsl, sumD, hcR] <;> rfl)) ?_
    refine SmG.new hF rfl rfl rfl (opS_alloc rfl al41) ?_
    refine SmG.v hF rfl rfl rfl (opV_assign rfl rfl) ?_
    refine SmG.nil ?_
    refine nextS_normal ?_
    refine Sm.seq ?_
    refine Sm.drawG hF (by kernel_rfl) rfl 9 (by kernel_rfl) (by kernel_rfl) ?_
    simp only [List.take_succ_cons, List.take_zero, List.take_nil]
    refine Head.c hF rfl rfl (by kernel_rfl) rfl rfl rfl (sayings_D HG) ?_
    refine Head.v hF rfl rfl rfl (opV_fieldAddr rfl rfl (by simp (disch := omega) only [go_sem, Nat.reduceEqDiff, iteP, wkD, Wk.row, ressL, hsl, sumD, hcR] <;> rfl)) ?_
    refine Head.v hF rfl rfl rfl (opV_load rfl rfl (by simp (disch := omega) only [go_sem, Nat.reduceEqDiff, iteP, wkD, Wk.row, ressL, hsl, sumD, hcR] <;> rfl)) ?_
    refine Head.v hF rfl rfl rfl (opV_lookup rfl rfl rfl hlk) ?_
    refine Head.v hF rfl rfl rfl (opV_move rfl rfl) ?_
    refine Head.v hF rfl rfl rfl (by first | exact opV_extract rfl rfl rfl | exact opV_extract0 rfl rfl) ?_
    refine Head.v hF rfl rfl rfl (by first | exact opV_extract rfl rfl rfl | exact opV_extractS rfl rfl rfl) ?_
    refine Head.v hF rfl rfl rfl (opV_assign rfl rfl) ?_
    refine Head.v hF rfl rfl rfl (opV_assign rfl rfl) ?_
    refine Head.last ⟨rfl, ?_⟩
    simp only [List.drop_succ_cons, List.drop_zero, List.drop_nil, List.nil_append, List.cons_append]
    refine SmG.nil ?_
    refine nextS_normal ?_
    refine Sm.seq ?_
    refine Sm.seq ?_
    refine Sm.regionG hF rfl ?_
    refine SmG.v hF rfl rfl rfl (opV_move rfl rfl) ?_
    refine SmG.v hF rfl rfl rfl (opV_un rfl rfl (by first | exact rd_notT _ | exact rd_notF _ | exact rd_not _)) ?_
    refine SmG.v hF rfl rfl rfl (opV_move rfl rfl) ?_
    first | refine SmG.v hF rfl rfl rfl (opV_move rfl rfl) ?_ | refine SmG.pass hF rfl rfl rfl ?_
    first | refine SmG.v hF rfl rfl rfl (opV_bin rfl rfl rfl (by first | exact rd_lssT _ _ _ _ _ (by omega) | exact rd_lssF _ _ _ _ _ (by omega) | exact rb_lss _ _ _ _ _ _ _)) ?_ | refine SmG.pass hF rfl rfl rfl ?_
    first | refine SmG.v hF rfl rfl rfl (opV_pickT rfl rfl rfl) ?_ | refine SmG.v hF rfl rfl rfl (opV_pickF rfl rfl rfl) ?_
    refine SmG.v hF rfl rfl rfl (opV_move rfl rfl) ?_
    first | refine SmG.v hF rfl rfl rfl (opV_move rfl rfl) ?_ | refine SmG.pass hF rfl rfl rfl ?_
    first | refine SmG.v hF rfl rfl rfl (opV_move rfl rfl) ?_ | refine SmG.pass hF rfl rfl rfl ?_
    first | refine SmG.v hF rfl rfl rfl (opV_bin rfl rfl rfl (by first | exact rd_lssT _ _ _ _ _ (by omega) | exact rd_lssF _ _ _ _ _ (by omega) | exact rb_lss _ _ _ _ _ _ _)) ?_ | refine SmG.pass hF rfl rfl rfl ?_
    first | refine SmG.v hF rfl rfl rfl (opV_pickT rfl rfl rfl) ?_ | refine SmG.v hF rfl rfl rfl (opV_pickF rfl rfl rfl) ?_
    refine SmG.v hF rfl rfl rfl (opV_move rfl rfl) ?_
    first | refine SmG.v hF rfl rfl rfl (opV_move rfl rfl) ?_ | refine SmG.pass hF rfl rfl rfl ?_
    first | refine SmG.v hF rfl rfl rfl (opV_move rfl rfl) ?_ | refine SmG.pass hF rfl rfl rfl ?_
    first | refine SmG.v hF rfl rfl rfl (opV_len rfl rfl (by simp (disch := omega) only [go_sem, Nat.reduceEqDiff, iteP, wkD, Wk.row, ressL, hsl, sumD, hcR] <;> rfl)) ?_ | refine SmG.pass hF rfl rfl rfl ?_
    first | refine SmG.v hF rfl rfl rfl (opV_bin rfl rfl rfl (by first | exact rd_gtrT _ _ _ _ _ (by omega) | exact rd_gtrF _ _ _ _ _ (by omega) | exact rb_gtr _ _ _ _ _ _ _)) ?_ | refine SmG.pass hF rfl rfl rfl ?_
    first | refine SmG.v hF rfl rfl rfl (opV_pickT rfl rfl rfl) ?_ | refine SmG.v hF rfl rfl rfl (opV_pickF rfl rfl rfl) ?_
    refine SmG.nil ?_
    refine nextS_normal ?_
    refine Sm.condF hF rfl ?_
    refine Sm.skip ?_
    refine nextS_normal ?_
    refine Sm.seq ?_
    refine Sm.drawG hF (by kernel_rfl) rfl 15 (by kernel_rfl) (by kernel_rfl) ?_
    simp only [List.take_succ_cons, List.take_zero, List.take_nil]
    refine Head.v hF rfl rfl rfl (opV_move rfl rfl) ?_
    refine Head.v hF rfl rfl rfl (opV_load rfl rfl (by simp (disch := omega) only [go_sem, Nat.reduceEqDiff, iteP, wkD, Wk.row, ressL, hsl, sumD, hcR] <;> rfl)) ?_
    refine Head.v hF rfl rfl rfl (opV_move rfl rfl) ?_
    refine Head.v hF rfl rfl rfl (opV_move rfl rfl) ?_
    refine Head.v hF rfl rfl rfl (opV_move rfl rfl) ?_
    refine Head.v hF rfl rfl rfl (opV_move rfl rfl) ?_
    refine Head.v hF rfl rfl rfl (opV_move rfl rfl) ?_
    refine Head.v hF rfl rfl rfl (opV_slice rfl rfl rfl rfl rfl (by simp (disch := omega) only [go_sem, Nat.reduceEqDiff, iteP, wkD, Wk.row, ressL, hsl, sumD, hcR] <;> rfl)) ?_
    refine Head.c hF rfl rfl (by kernel_rfl) rfl rfl rfl (clone_D _ (by omega) HG) ?_
    refine Head.cf hF rfl rfl rfl rfl rfl rfl hbody hsay ?_
    refine Head.v hF rfl rfl rfl (opV_move rfl rfl) ?_
    refine Head.v hF rfl rfl rfl (by first | exact opV_extract rfl rfl rfl | exact opV_extract0 rfl rfl) ?_
    refine Head.v hF rfl rfl rfl (by first | exact opV_extract rfl rfl rfl | exact opV_extractS rfl rfl rfl) ?_
    refine Head.v hF rfl rfl rfl (opV_assign rfl rfl) ?_
    refine Head.v hF rfl rfl rfl (opV_assign rfl rfl) ?_
    refine Head.last ⟨rfl, ?_⟩
    simp only [List.drop_succ_cons, List.drop_zero, List.drop_nil, List.nil_append, List.cons_append]
    refine SmG.nil ?_
    refine nextS_normal ?_
    refine Sm.seq ?_
    refine Sm.seq ?_
    refine Sm.regionG hF rfl ?_
    refine SmG.v hF rfl rfl rfl (opV_move rfl rfl) ?_
    refine SmG.v hF rfl rfl rfl (opV_un rfl rfl (by first | exact rd_notT _ | exact rd_notF _ | exact rd_not _)) ?_
    refine SmG.nil ?_
    refine nextS_normal ?_
    refine Sm.condF hF rfl ?_
    refine Sm.skip ?_
    refine nextS_normal ?_
    refine Sm.seq ?_
    refine Sm.regionG hF rfl ?_
    refine SmG.v hF rfl rfl rfl (opV_move rfl rfl) ?_
    refine SmG.v hF rfl rfl rfl (opV_move rfl rfl) ?_
    refine SmG.v hF rfl rfl rfl (opV_move rfl rfl) ?_
    refine SmG.v hF rfl rfl rfl (opV_move rfl rfl) ?_
    refine SmG.v hF rfl rfl rfl (opV_move rfl rfl) ?_
    refine SmG.call hF rfl rfl (by kernel_rfl) rfl rfl rfl (hR) ?_
    refine SmG.v hF rfl rfl rfl (opV_buildT rfl Tryd.underlying41 (by kernel_rfl) rfl (clm_build _ _ _ rfl rfl rfl _ _ hRl)) ?_
    refine SmG.store hF rfl rfl rfl rfl rfl (by simp (disch := omega) only [go_sem, Nat.reduceEqDiff, iteP, wkD, Wk.row, ressL, hsl, sumD, hcR] <;> rfl) ?_
    refine SmG.v hF rfl rfl rfl (opV_assign rfl rfl) ?_
    refine SmG.nil ?_
    refine nextS_normal ?_
    refine Sm.ret ?_
    refine retQ_cell2 rfl rfl (by simp (disch := omega) only [go_sem, Nat.reduceEqDiff, iteP] <;> rfl) rfl ?_
    exact D.le.refl _
theorem lie_len (x : Wk) (a : Int) (l : List Res) : (lie x a l).length = l.length := by
  unfold lie; split <;> simp
theorem work_lie (x : Wk) (who t : Int) (v : List Res) (a b : Nat) (hl : v.length ≤ 1000000) (hab : a ≤ b) (hb : b ≤ v.length) (hk : x.kind = 4) :
    CallsD Tryd.prog HG 31 [wkD x, .v (.int .i64 who), .v (.int .i64 t), ressL v, .v (.int .i64 a), .v (.int .i64 b)] (.tup [clmD ⟨who, a, b, lie x a (partOfL v a b), Sha.root ((lie x a (partOfL v a b)).map resBytes)⟩, .v (.bool true)]) := by
  have hsl : List.drop a (List.take b (List.map Res.row v)) = List.map Res.row (partOfL v a b) := by simp [partOfL, List.map_take, List.map_drop]
  have hpl := part_len (a := a) hb
  have hll : (lie x a (partOfL v a b)).length = (partOfL v a b).length := lie_len ..
  have hRl := Sha.root_len ((lie x a (partOfL v a b)).map resBytes)
  have hR := workRoot_D (lie x a (partOfL v a b)) (by omega)
  generalize Sha.root ((lie x a (partOfL v a b)).map resBytes) = R at hR hRl ⊢
  have hc : ∀ A : List UInt8, A.length = 32 → (rowS A).length = 32 := fun A h => by simp [rowS, h]
  have hcR := hc R hRl
  have hlk : lookupS Tryd.prog 84 (.d sayM) (.d (.v (.int .i64 x.kind))) true = some (.d (.tup [.fn 48 [], .v (.bool true)])) := by rw [hk]; rfl
  refine CallsD.of Tryd.func31 rfl Tryd.ntmps31 (by simp) ?_; intro F hF h0 hT; simp only [List.zipIdx_cons, List.zipIdx_nil, List.map_cons, List.map_nil, Nat.zero_add, Nat.reduceAdd]
  refine Sm.seq ?_
  refine Sm.regionG hF rfl ?_
  refine SmG.new hF rfl rfl rfl (opS_box rfl rfl (by simp (disch := omega) only [go_sem, Nat.reduceEqDiff, iteP, wkD, Wk.row, ressL, hsl, sumD, hcR] <;> rfl)) ?_
  refine SmG.new hF rfl rfl rfl (opS_alloc rfl al41) ?_
  refine SmG.v hF rfl rfl rfl (opV_assign rfl rfl) ?_
  refine SmG.nil ?_
  refine nextS_normal ?_
  refine Sm.seq ?_
  refine Sm.drawG hF (by kernel_rfl) rfl 9 (by kernel_rfl) (by kernel_rfl) ?_
  simp only [List.take_succ_cons, List.take_zero, List.take_nil]
  refine Head.c hF rfl rfl (by kernel_rfl) rfl rfl rfl (sayings_D HG) ?_
  refine Head.v hF rfl rfl rfl (opV_fieldAddr rfl rfl (by simp (disch := omega) only [go_sem, Nat.reduceEqDiff, iteP, wkD, Wk.row, ressL, hsl, sumD, hcR] <;> rfl)) ?_
  refine Head.v hF rfl rfl rfl (opV_load rfl rfl (by simp (disch := omega) only [go_sem, Nat.reduceEqDiff, iteP, wkD, Wk.row, ressL, hsl, sumD, hcR] <;> rfl)) ?_
  refine Head.v hF rfl rfl rfl (opV_lookup rfl rfl rfl hlk) ?_
  refine Head.v hF rfl rfl rfl (opV_move rfl rfl) ?_
  refine Head.v hF rfl rfl rfl (by first | exact opV_extract rfl rfl rfl | exact opV_extract0 rfl rfl) ?_
  refine Head.v hF rfl rfl rfl (by first | exact opV_extract rfl rfl rfl | exact opV_extractS rfl rfl rfl) ?_
  refine Head.v hF rfl rfl rfl (opV_assign rfl rfl) ?_
  refine Head.v hF rfl rfl rfl (opV_assign rfl rfl) ?_
  refine Head.last ⟨rfl, ?_⟩
  simp only [List.drop_succ_cons, List.drop_zero, List.drop_nil, List.nil_append, List.cons_append]
  refine SmG.nil ?_
  refine nextS_normal ?_
  refine Sm.seq ?_
  refine Sm.seq ?_
  refine Sm.regionG hF rfl ?_
  refine SmG.v hF rfl rfl rfl (opV_move rfl rfl) ?_
  refine SmG.v hF rfl rfl rfl (opV_un rfl rfl (by first | exact rd_notT _ | exact rd_notF _ | exact rd_not _)) ?_
  refine SmG.v hF rfl rfl rfl (opV_move rfl rfl) ?_
  first | refine SmG.v hF rfl rfl rfl (opV_move rfl rfl) ?_ | refine SmG.pass hF rfl rfl rfl ?_
  first | refine SmG.v hF rfl rfl rfl (opV_bin rfl rfl rfl (by first | exact rd_lssT _ _ _ _ _ (by omega) | exact rd_lssF _ _ _ _ _ (by omega) | exact rb_lss _ _ _ _ _ _ _)) ?_ | refine SmG.pass hF rfl rfl rfl ?_
  first | refine SmG.v hF rfl rfl rfl (opV_pickT rfl rfl rfl) ?_ | refine SmG.v hF rfl rfl rfl (opV_pickF rfl rfl rfl) ?_
  refine SmG.v hF rfl rfl rfl (opV_move rfl rfl) ?_
  first | refine SmG.v hF rfl rfl rfl (opV_move rfl rfl) ?_ | refine SmG.pass hF rfl rfl rfl ?_
  first | refine SmG.v hF rfl rfl rfl (opV_move rfl rfl) ?_ | refine SmG.pass hF rfl rfl rfl ?_
  first | refine SmG.v hF rfl rfl rfl (opV_bin rfl rfl rfl (by first | exact rd_lssT _ _ _ _ _ (by omega) | exact rd_lssF _ _ _ _ _ (by omega) | exact rb_lss _ _ _ _ _ _ _)) ?_ | refine SmG.pass hF rfl rfl rfl ?_
  first | refine SmG.v hF rfl rfl rfl (opV_pickT rfl rfl rfl) ?_ | refine SmG.v hF rfl rfl rfl (opV_pickF rfl rfl rfl) ?_
  refine SmG.v hF rfl rfl rfl (opV_move rfl rfl) ?_
  first | refine SmG.v hF rfl rfl rfl (opV_move rfl rfl) ?_ | refine SmG.pass hF rfl rfl rfl ?_
  first | refine SmG.v hF rfl rfl rfl (opV_move rfl rfl) ?_ | refine SmG.pass hF rfl rfl rfl ?_
  first | refine SmG.v hF rfl rfl rfl (opV_len rfl rfl (by simp (disch := omega) only [go_sem, Nat.reduceEqDiff, iteP, wkD, Wk.row, ressL, hsl, sumD, hcR] <;> rfl)) ?_ | refine SmG.pass hF rfl rfl rfl ?_
  first | refine SmG.v hF rfl rfl rfl (opV_bin rfl rfl rfl (by first | exact rd_gtrT _ _ _ _ _ (by omega) | exact rd_gtrF _ _ _ _ _ (by omega) | exact rb_gtr _ _ _ _ _ _ _)) ?_ | refine SmG.pass hF rfl rfl rfl ?_
  first | refine SmG.v hF rfl rfl rfl (opV_pickT rfl rfl rfl) ?_ | refine SmG.v hF rfl rfl rfl (opV_pickF rfl rfl rfl) ?_
  refine SmG.nil ?_
  refine nextS_normal ?_
  refine Sm.condF hF rfl ?_
  refine Sm.skip ?_
  refine nextS_normal ?_
  refine Sm.seq ?_
  refine Sm.regionAG hF rfl ?_
  refine SmA.headG hF rfl 0 9 (by kernel_rfl) ?_
  simp only [List.take_succ_cons, List.take_zero, List.take_nil, List.drop_succ_cons, List.drop_zero, Nat.reduceSub]
  refine Head.v hF rfl rfl rfl (opV_move rfl rfl) ?_
  refine Head.v hF rfl rfl rfl (opV_load rfl rfl (by simp (disch := omega) only [go_sem, Nat.reduceEqDiff, iteP, wkD, Wk.row, ressL, hsl, sumD, hcR] <;> rfl)) ?_
  refine Head.v hF rfl rfl rfl (opV_move rfl rfl) ?_
  refine Head.v hF rfl rfl rfl (opV_move rfl rfl) ?_
  refine Head.v hF rfl rfl rfl (opV_move rfl rfl) ?_
  refine Head.v hF rfl rfl rfl (opV_move rfl rfl) ?_
  refine Head.v hF rfl rfl rfl (opV_move rfl rfl) ?_
  refine Head.v hF rfl rfl rfl (opV_slice rfl rfl rfl rfl rfl (by simp (disch := omega) only [go_sem, Nat.reduceEqDiff, iteP, wkD, Wk.row, ressL, hsl, sumD, hcR] <;> rfl)) ?_
  refine Head.co hF rfl rfl (by kernel_rfl) rfl rfl rfl (clone_O _ (by omega) HG) ?_
  refine Head.last ?_
  simp only [List.nil_append, List.cons_append]
  refine SmA.oneG hF 9 rfl (by kernel_rfl) rfl ?_
  refine SmG.callF1 hF 2 rfl rfl rfl rfl rfl rfl (by kernel_rfl) rfl (lie_B x t a (partOfL v a b) (by omega) (by omega) HG) rfl rfl ?_; simp only [V.ren, upN, Nat.lt_irrefl, Nat.zero_lt_one, if_true, rep, Nat.reduceEqDiff, reduceIte, Nat.reduceAdd, Nat.reduceSub]
  refine SmG.nil ?_
  refine nextS_normal ?_
  refine SmA.headG hF rfl 10 15 (by kernel_rfl) ?_
  simp only [List.take_succ_cons, List.take_zero, List.take_nil, List.drop_succ_cons, List.drop_zero, Nat.reduceSub]
  refine Head.v hF rfl rfl rfl (opV_move rfl rfl) ?_
  refine Head.v hF rfl rfl rfl (by first | exact opV_extract rfl rfl rfl | exact opV_extract0 rfl rfl) ?_
  refine Head.v hF rfl rfl rfl (by first | exact opV_extract rfl rfl rfl | exact opV_extractS rfl rfl rfl) ?_
  refine Head.v hF rfl rfl rfl (opV_assign rfl rfl) ?_
  refine Head.v hF rfl rfl rfl (opV_assign rfl rfl) ?_
  refine Head.last ?_
  simp only [List.nil_append, List.cons_append]
  refine SmA.nil (Nat.le_of_ble_eq_true rfl) ?_
  refine nextS_normal ?_
  refine Sm.seq ?_
  refine Sm.seq ?_
  refine Sm.regionG hF rfl ?_
  refine SmG.v hF rfl rfl rfl (opV_move rfl rfl) ?_
  refine SmG.v hF rfl rfl rfl (opV_un rfl rfl (by first | exact rd_notT _ | exact rd_notF _ | exact rd_not _)) ?_
  refine SmG.nil ?_
  refine nextS_normal ?_
  refine Sm.condF hF rfl ?_
  refine Sm.freeze (l := 2) ((lie x a (partOfL v a b)).map Res.row) rfl ?_
  simp only [Pk.v, frzE, frzV, dropH,  reduceIte, Nat.reduceAdd, Nat.zero_add, List.length_map, List.length_append, Nat.le_refl, true_and, and_self, if_true, Nat.reduceEqDiff, hll]
  refine Sm.skip ?_
  refine nextS_normal ?_
  refine Sm.seq ?_
  refine Sm.regionG hF rfl ?_
  refine SmG.v hF rfl rfl rfl (opV_move rfl rfl) ?_
  refine SmG.v hF rfl rfl rfl (opV_move rfl rfl) ?_
  refine SmG.v hF rfl rfl rfl (opV_move rfl rfl) ?_
  refine SmG.v hF rfl rfl rfl (opV_move rfl rfl) ?_
  refine SmG.v hF rfl rfl rfl (opV_move rfl rfl) ?_
  refine SmG.call hF rfl rfl (by kernel_rfl) rfl rfl rfl (hR) ?_
  refine SmG.v hF rfl rfl rfl (opV_buildT rfl Tryd.underlying41 (by kernel_rfl) rfl (clm_build _ _ _ rfl rfl rfl _ _ hRl)) ?_
  refine SmG.store hF rfl rfl rfl rfl rfl (by simp (disch := omega) only [go_sem, Nat.reduceEqDiff, iteP, wkD, Wk.row, ressL, hsl, sumD, hcR] <;> rfl) ?_
  refine SmG.v hF rfl rfl rfl (opV_assign rfl rfl) ?_
  refine SmG.nil ?_
  refine nextS_normal ?_
  refine Sm.ret ?_
  refine retQ_cell2 rfl rfl (by simp (disch := omega) only [go_sem, Nat.reduceEqDiff, iteP] <;> rfl) rfl ?_
  exact D.le.refl _
def saidW (x : Wk) (t : Int) (v : List Res) (a b : Int) : Option (List Res) :=
  if 0 ≤ a ∧ a ≤ b ∧ b ≤ v.length then
    if x.kind = 1 then some (partOfL v a.toNat b.toNat) else if x.kind = 3 then (if x.n ≤ t then some (partOfL v a.toNat b.toNat) else none) else if x.kind = 4 then some (lie x a (partOfL v a.toNat b.toNat)) else none
  else none
def claimW (x : Wk) (who t : Int) (v : List Res) (a b : Int) : Clm × Bool :=
  match saidW x t v a b with
  | some l => (⟨who, a, b, l, Sha.root (l.map resBytes)⟩, true)
  | none => (noClm, false)
theorem work_D (x : Wk) (who t : Int) (v : List Res) (a b : Int) (hl : v.length ≤ 1000000) : CallsD Tryd.prog HG 31 [wkD x, .v (.int .i64 who), .v (.int .i64 t), ressL v, .v (.int .i64 a), .v (.int .i64 b)] (.tup [clmD (claimW x who t v a b).1, .v (.bool (claimW x who t v a b).2)]) := by
  by_cases hk : sayKind x.kind
  · by_cases hab : 0 ≤ a ∧ a ≤ b ∧ b ≤ v.length
    · obtain ⟨h1, h2, h3⟩ := hab
      obtain ⟨a, rfl⟩ : ∃ n : Nat, a = n := ⟨a.toNat, by omega⟩
      obtain ⟨b, rfl⟩ : ∃ n : Nat, b = n := ⟨b.toNat, by omega⟩
      have hpl := part_len (v := v) (a := a) (b := b) (by omega)
      rcases hk with hk | hk | hk
      · have hs : claimW x who t v a b = (⟨who, a, b, partOfL v a b, Sha.root ((partOfL v a b).map resBytes)⟩, true) := by
          simp [claimW, saidW, hk, h2, h3]
        rw [hs]
        exact work_say x who t v a b hl (by omega) (by omega) _ (partOfL v a b) true hpl (by kernel_rfl) (by rw [hk]; rfl) (honest_D x t a _ HG)
      · have hw := work_say x who t v a b hl (by omega) (by omega) 47 (partOfL v a b) (decide (x.n ≤ t)) hpl (by kernel_rfl) (by rw [hk]; rfl) (late_D x t a _ HG)
        by_cases ht : x.n ≤ t
        · have hs : claimW x who t v a b = (⟨who, a, b, partOfL v a b, Sha.root ((partOfL v a b).map resBytes)⟩, true) := by
            simp [claimW, saidW, hk, h2, h3, ht]
          rw [hs]
          simpa [ht] using hw
        · have hs : claimW x who t v a b = (noClm, false) := by
            simp [claimW, saidW, hk, h2, h3, ht]
          rw [hs]
          simpa [ht] using hw
      · have hs : claimW x who t v a b = (⟨who, a, b, lie x a (partOfL v a b), Sha.root ((lie x a (partOfL v a b)).map resBytes)⟩, true) := by
          simp [claimW, saidW, hk, h2, h3]
        rw [hs]
        exact work_lie x who t v a b hl (by omega) (by omega) hk
    · have hs : claimW x who t v a b = (noClm, false) := by
        simp [claimW, saidW, hab]
      rw [hs]
      exact work_no x who t v a b hl (.inr ⟨hk, by omega⟩)
  · have hs : claimW x who t v a b = (noClm, false) := by
      unfold claimW saidW
      simp only [sayKind, not_or] at hk
      simp [hk]
    rw [hs]
    exact work_no x who t v a b hl (.inl hk)
end Go.Proofs.YtagfaaijgfigkaaDoor
namespace Go.Proofs.YtagfaaijgfigkaaDoor
open Go.RowKit
set_option maxRecDepth 100000
def bnd (q r i : Nat) : Nat := i * q + min i r
theorem bnd_succ (q r i : Nat) : bnd q r (i + 1) = bnd q r i + q + if i < r then 1 else 0 := by
  unfold bnd
  rw [Nat.succ_mul]
  split <;> omega
theorem bnd_end {n m : Nat} (hm : 0 < m) : bnd (n / m) (n % m) m = n := by
  unfold bnd
  have := Nat.mod_lt n hm
  rw [Nat.min_eq_right (by omega), Nat.mul_comm]
  have := Nat.mod_add_div n m
  rw [Nat.mul_comm] at this ⊢; rw [Nat.mul_comm m]; omega
theorem bnd_mono {q r i j : Nat} (h : i ≤ j) : bnd q r i ≤ bnd q r j := by
  induction h with
  | refl => exact Nat.le_refl _
  | step _ ih => rw [bnd_succ]; omega
def cutAt (q r i : Nat) : Int × Int := (bnd q r i, bnd q r (i + 1))
def cutN (n m : Nat) : List (Int × Int) := (List.range m).map (cutAt (n / m) (n % m))
def cutL (n k : Int) : List (Int × Int) := if k < 1 ∨ n < 1 ∨ 4000 < n then [] else cutN n.toNat (min n k).toNat
def rowP (p : Int × Int) : List D := [.v (.int .i64 p.1), .v (.int .i64 p.2)]
def partsD (l : List (Int × Int)) : D := .list 2 (l.map rowP) false
theorem elPart : ElemT Tryd.prog 49 56 (.agg #[.int .i64 0, .int .i64 0]) 2 16 := ⟨Tryd.underlying49, by kernel_rfl, rfl, by decide⟩
theorem cut_no (n k : Int) (h : k < 1 ∨ (1 ≤ k ∧ (n < 1 ∨ (1 ≤ n ∧ 4000 < n)))) (G : Nat → Option D) : CallsD Tryd.prog G 20 [.v (.int .i64 n), .v (.int .i64 k)] (partsD []) := by
  rcases h with h | ⟨h, h' | ⟨h', h''⟩⟩
  all_goals
    refine CallsD.of Tryd.func20 rfl Tryd.ntmps20 (by simp) ?_; intro F hF h0 hT; simp only [List.zipIdx_cons, List.zipIdx_nil, List.map_cons, List.map_nil, Nat.zero_add, Nat.reduceAdd]
    refine Sm.seq ?_
    refine Sm.regionG hF rfl ?_
    refine SmG.v hF rfl rfl rfl (opV_assign rfl rfl) ?_
    refine SmG.nil ?_
    refine nextS_normal ?_
    refine Sm.seq ?_
    refine Sm.seq ?_
    refine Sm.regionG hF rfl ?_
    refine SmG.v hF rfl rfl rfl (opV_move rfl rfl) ?_
    refine SmG.v hF rfl rfl rfl (opV_bin rfl rfl rfl (by first | exact rd_lssT _ _ _ _ _ (by omega) | exact rd_lssF _ _ _ _ _ (by omega) | exact rb_lss _ _ _ _ _ _ _)) ?_
    refine SmG.v hF rfl rfl rfl (opV_move rfl rfl) ?_
    first | refine SmG.v hF rfl rfl rfl (opV_move rfl rfl) ?_ | refine SmG.pass hF rfl rfl rfl ?_
    first | refine SmG.v hF rfl rfl rfl (opV_bin rfl rfl rfl (by first | exact rd_lssT _ _ _ _ _ (by omega) | exact rd_lssF _ _ _ _ _ (by omega) | exact rb_lss _ _ _ _ _ _ _)) ?_ | refine SmG.pass hF rfl rfl rfl ?_
    first | refine SmG.v hF rfl rfl rfl (opV_pickT rfl rfl rfl) ?_ | refine SmG.v hF rfl rfl rfl (opV_pickF rfl rfl rfl) ?_
    refine SmG.v hF rfl rfl rfl (opV_move rfl rfl) ?_
    first | refine SmG.v hF rfl rfl rfl (opV_move rfl rfl) ?_ | refine SmG.pass hF rfl rfl rfl ?_
    first | refine SmG.v hF rfl rfl rfl (opV_bin rfl rfl rfl (by first | exact rd_gtrT _ _ _ _ _ (by omega) | exact rd_gtrF _ _ _ _ _ (by omega) | exact rb_gtr _ _ _ _ _ _ _)) ?_ | refine SmG.pass hF rfl rfl rfl ?_
    first | refine SmG.v hF rfl rfl rfl (opV_pickT rfl rfl rfl) ?_ | refine SmG.v hF rfl rfl rfl (opV_pickF rfl rfl rfl) ?_
    refine SmG.nil ?_
    refine nextS_normal ?_
    refine Sm.condT hF rfl ?_
    refine Sm.seq ?_
    refine Sm.regionG hF rfl ?_
    refine SmG.v hF rfl rfl rfl (opV_assign rfl rfl) ?_
    refine SmG.nil ?_
    refine nextS_normal ?_
    refine Sm.ret ?_
    simp only [nextS, blockS]
    refine ⟨_, rfl, ?_⟩; dsimp only
    exact D.le_nil' _ _ _
theorem range_take (m i : Nat) (h : i ≤ m) : (List.range m).take i = List.range i := by rw [List.take_range, Nat.min_eq_left h]
theorem cutN_take (n m i : Nat) (h : i < m) : ((cutN n m).take i).map rowP ++ [[.v (.int .i64 ((bnd (n / m) (n % m) i : Nat) : Int)), .v (.int .i64 ((bnd (n / m) (n % m) (i + 1) : Nat) : Int))]] = ((cutN n m).take (i + 1)).map rowP := by
  unfold cutN
  rw [← List.map_take, ← List.map_take, range_take _ _ (by omega), range_take _ _ (by omega), List.range_succ]
  simp [rowP, cutAt]
theorem cut_yes (n m : Nat) (k : Int) (h1 : 1 ≤ n) (h2 : n ≤ 4000) (hk : 1 ≤ k) (hm : (m : Int) = min (n : Int) k) (G : Nat → Option D) : CallsD Tryd.prog G 20 [.v (.int .i64 n), .v (.int .i64 k)] (partsD (cutN n m)) := by
  have hm1 : 1 ≤ m := by omega
  have hmn : m ≤ n := by omega
  have hmin : ∀ {ts : Array TypeId} {T : TypeId}, reck Tryd.prog (Builtin.min_ ts T #[.int .i64 (n : Int), .int .i64 k]) = some (.int .i64 (m : Int)) := by
    intro ts T
    rcases Int.le_total (n : Int) k with h | h
    · rw [rd_minL _ h, hm, Int.min_eq_left h]
    · rw [rd_minR _ h, hm, Int.min_eq_right h]
  have hend := bnd_end (n := n) (m := m) hm1
  have hqn : n / m ≤ n := Nat.div_le_self n m
  have hrm : n % m < m := Nat.mod_lt n (by omega)
  have htk := cutN_take n m
  have hquo : ∀ t x y, reck Tryd.prog (do eqGuard .quo t x y (.int .i64 (n : Int)) (.int .i64 (m : Int)); binOp .quo t (.int .i64 (n : Int)) (.int .i64 (m : Int))) = some (.int .i64 ((n / m : Nat) : Int)) := fun t x y => by
    rw [rd_quo _ _ _ _ (by omega) (by omega)]; simp
  have hrem : ∀ t x y, reck Tryd.prog (do eqGuard .rem t x y (.int .i64 (n : Int)) (.int .i64 (m : Int)); binOp .rem t (.int .i64 (n : Int)) (.int .i64 (m : Int))) = some (.int .i64 ((n % m : Nat) : Int)) := fun t x y => by
    rw [rd_rem _ _ _ _ _ (by omega) (by omega)]; simp
  have hcl : (cutN n m).length = m := by simp [cutN]
  unfold partsD
  generalize cutN n m = L at htk hcl ⊢
  generalize n / m = q at *
  generalize n % m = r at *
  refine CallsD.of Tryd.func20 rfl Tryd.ntmps20 (by simp) ?_; intro F hF h0 hT; simp only [List.zipIdx_cons, List.zipIdx_nil, List.map_cons, List.map_nil, Nat.zero_add, Nat.reduceAdd]
  refine Sm.seq ?_
  refine Sm.regionG hF rfl ?_
  refine SmG.v hF rfl rfl rfl (opV_assign rfl rfl) ?_
  refine SmG.nil ?_
  refine nextS_normal ?_
  refine Sm.seq ?_
  refine Sm.seq ?_
  refine Sm.regionG hF rfl ?_
  refine SmG.v hF rfl rfl rfl (opV_move rfl rfl) ?_
  refine SmG.v hF rfl rfl rfl (opV_bin rfl rfl rfl (by first | exact rd_lssT _ _ _ _ _ (by omega) | exact rd_lssF _ _ _ _ _ (by omega) | exact rb_lss _ _ _ _ _ _ _)) ?_
  refine SmG.v hF rfl rfl rfl (opV_move rfl rfl) ?_
  first | refine SmG.v hF rfl rfl rfl (opV_move rfl rfl) ?_ | refine SmG.pass hF rfl rfl rfl ?_
  first | refine SmG.v hF rfl rfl rfl (opV_bin rfl rfl rfl (by first | exact rd_lssT _ _ _ _ _ (by omega) | exact rd_lssF _ _ _ _ _ (by omega) | exact rb_lss _ _ _ _ _ _ _)) ?_ | refine SmG.pass hF rfl rfl rfl ?_
  first | refine SmG.v hF rfl rfl rfl (opV_pickT rfl rfl rfl) ?_ | refine SmG.v hF rfl rfl rfl (opV_pickF rfl rfl rfl) ?_
  refine SmG.v hF rfl rfl rfl (opV_move rfl rfl) ?_
  first | refine SmG.v hF rfl rfl rfl (opV_move rfl rfl) ?_ | refine SmG.pass hF rfl rfl rfl ?_
  first | refine SmG.v hF rfl rfl rfl (opV_bin rfl rfl rfl (by first | exact rd_gtrT _ _ _ _ _ (by omega) | exact rd_gtrF _ _ _ _ _ (by omega) | exact rb_gtr _ _ _ _ _ _ _)) ?_ | refine SmG.pass hF rfl rfl rfl ?_
  first | refine SmG.v hF rfl rfl rfl (opV_pickT rfl rfl rfl) ?_ | refine SmG.v hF rfl rfl rfl (opV_pickF rfl rfl rfl) ?_
  refine SmG.nil ?_
  refine nextS_normal ?_
  refine Sm.condF hF rfl ?_
  refine Sm.skip ?_
  refine nextS_normal ?_
  refine Sm.seq ?_
  refine Sm.regionG hF rfl ?_
  refine SmG.v hF rfl rfl rfl (opV_move rfl rfl) ?_
  refine SmG.v hF rfl rfl rfl (opV_move rfl rfl) ?_
  refine SmG.v hF rfl rfl rfl (opV_min rfl rfl rfl hmin) ?_
  refine SmG.v hF rfl rfl rfl (opV_assign rfl rfl) ?_
  refine SmG.nil ?_
  refine nextS_normal ?_
  refine Sm.seq ?_
  refine Sm.drawG hF (by kernel_rfl) rfl 8 (by kernel_rfl) (by kernel_rfl) ?_
  simp only [List.take_succ_cons, List.take_zero, List.take_nil]
  refine Head.v hF rfl rfl rfl (opV_move rfl rfl) ?_
  refine Head.v hF rfl rfl rfl (opV_move rfl rfl) ?_
  refine Head.v hF rfl rfl rfl (opV_bin rfl rfl rfl (hquo _ _ _)) ?_
  refine Head.v hF rfl rfl rfl (opV_move rfl rfl) ?_
  refine Head.v hF rfl rfl rfl (opV_move rfl rfl) ?_
  refine Head.v hF rfl rfl rfl (opV_bin rfl rfl rfl (hrem _ _ _)) ?_
  refine Head.v hF rfl rfl rfl (opV_assign rfl rfl) ?_
  refine Head.v hF rfl rfl rfl (opV_assign rfl rfl) ?_
  refine Head.last ⟨rfl, ?_⟩
  simp only [List.drop_succ_cons, List.drop_zero, List.drop_nil, List.nil_append, List.cons_append]
  refine SmG.nil ?_
  refine nextS_normal ?_
  refine Sm.seq ?_
  refine Sm.regionG hF rfl ?_
  refine SmG.v hF rfl rfl rfl (opV_assign rfl rfl) ?_
  refine SmG.nil ?_
  refine nextS_normal ?_
  refine Sm.seq ?_
  refine Sm.regionG hF rfl ?_
  refine SmG.v hF rfl rfl rfl (opV_assign rfl rfl) ?_
  refine SmG.nil ?_
  refine nextS_normal ?_
  refine Sm.seq ?_
  refine Sm.seq ?_
  refine Sm.regionG hF rfl ?_
  refine SmG.v hF rfl rfl rfl (opV_move rfl rfl) ?_
  refine SmG.v hF rfl rfl rfl (opV_move rfl rfl) ?_
  refine SmG.nil ?_
  refine nextS_normal ?_
  refine Sm.block ?_
  refine Sm.own (t := 7) (sz := 0) 2 rfl ?_
  refine Sm.loop (ι := {i : Nat // i ≤ m}) (fun i => ⟨[(5, .d (.v (.int .i64 q))), (6, .d (.v (.int .i64 r))), (7, .sref 0 0 ((L.take i.1).map rowP).length), (8, .d (.v (.int .i64 (bnd q r i.1 : Nat)))), (30, .d (.v (.int .i64 m))), (31, .d (.v (.int .i64 i.1)))], [(0, dB 2 ((L.take i.1).map rowP))], 1⟩) (fun i => m - i.1) (⟨0, by omega⟩) ?_ ?_
  · exact St.le_of (by simp [leE, look, constD, bnd]) ⟨rfl, trivial⟩ (Nat.le_refl _)
  rintro ⟨i, hi⟩
  simp only
  by_cases hlt : i < m
  · have hb := bnd_succ q r i
    have hm1 := bnd_mono (q := q) (r := r) (show i + 1 ≤ m by omega)
    have htk' := htk i hlt
    have hll : ((L.take i).map rowP).length = i := by rw [List.length_map, List.length_take]; omega
    by_cases hir : i < r
    · rw [if_pos hir] at hb
      have he : ((bnd q r i : Nat) : Int) + (q : Int) + 1 = ((bnd q r (i + 1) : Nat) : Int) := by omega
      refine Sm.seq ?_
      refine Sm.regionG hF rfl ?_
      refine SmG.v hF rfl rfl rfl (opV_bin rfl rfl rfl (by first | exact rd_lssT _ _ _ _ _ (by omega) | exact rd_lssF _ _ _ _ _ (by omega) | exact rb_lss _ _ _ _ _ _ _)) ?_
      refine SmG.nil ?_
      refine nextS_normal ?_
      refine Sm.seq ?_
      refine Sm.condT hF rfl ?_
      refine Sm.skip ?_
      refine nextS_normal ?_
      refine Sm.seq ?_
      refine Sm.block ?_
      refine Sm.seq ?_
      refine Sm.regionG hF rfl ?_
      refine SmG.v hF rfl rfl rfl (opV_move rfl rfl) ?_
      refine SmG.v hF rfl rfl rfl (opV_assign rfl rfl) ?_
      refine SmG.nil ?_
      refine nextS_normal ?_
      refine Sm.seq ?_
      refine Sm.regionG hF rfl ?_
      refine SmG.v hF rfl rfl rfl (opV_move rfl rfl) ?_
      refine SmG.v hF rfl rfl rfl (opV_move rfl rfl) ?_
      refine SmG.v hF rfl rfl rfl (opV_bin rfl rfl rfl (by first | exact rd_add _ _ _ _ _ (wrapI64 _ (by omega)) | exact rb_add _ _ _ _ _ _ _)) ?_
      refine SmG.v hF rfl rfl rfl (opV_assign rfl rfl) ?_
      refine SmG.nil ?_
      refine nextS_normal ?_
      refine Sm.seq ?_
      refine Sm.seq ?_
      refine Sm.regionG hF rfl ?_
      refine SmG.v hF rfl rfl rfl (opV_move rfl rfl) ?_
      refine SmG.v hF rfl rfl rfl (opV_move rfl rfl) ?_
      refine SmG.v hF rfl rfl rfl (opV_bin rfl rfl rfl (by first | exact rd_lssT _ _ _ _ _ (by omega) | exact rd_lssF _ _ _ _ _ (by omega) | exact rb_lss _ _ _ _ _ _ _)) ?_
      refine SmG.nil ?_
      refine nextS_normal ?_
      refine Sm.condT hF rfl ?_
      refine Sm.regionG hF rfl ?_
      refine SmG.v hF rfl rfl rfl (opV_move rfl rfl) ?_
      refine SmG.v hF rfl rfl rfl (opV_bin rfl rfl rfl (by first | exact rd_add _ _ _ _ _ (wrapI64 _ (by omega)) | exact rb_add _ _ _ _ _ _ _)) ?_
      refine SmG.v hF rfl rfl rfl (opV_assign rfl rfl) ?_
      refine SmG.nil ?_
      refine nextS_normal ?_
      refine Sm.seq ?_
      refine Sm.regionG hF rfl ?_
      refine SmG.v hF rfl rfl rfl (opV_move rfl rfl) ?_
      refine SmG.v hF rfl rfl rfl (opV_move rfl rfl) ?_
      refine SmG.v hF rfl rfl rfl (opV_move rfl rfl) ?_
      refine SmG.v hF rfl rfl rfl (opV_buildA rfl Tryd.underlying56 rfl (by simp (disch := omega) only [go_sem, Nat.reduceEqDiff, iteP] <;> rfl)) ?_
      refine SmG.v hF rfl rfl rfl (opV_buildSlice rfl rfl (by simp (disch := omega) only [go_sem, Nat.reduceEqDiff, iteP] <;> rfl)) ?_
      refine SmG.appendOwn hF elPart rfl rfl rfl rfl rfl rfl rfl (by first | rfl | (simp; done) | (simp; omega)) (Or.inl rfl) (by (repeat' first | exact freeH_nil _ | refine freeH_same ?_ | refine freeH_cons ?_ (free_dB _ _ _) | refine freeH_cons ?_ (free_dB _ _ [_]) | refine freeH_cons ?_ (free_row (by rfl)))) ?_ ?_ ?_; rotate_left; rotate_left; simp only [killV, Pk.v, V.free, rep, bne_self_eq_false, Nat.reduceAdd, Nat.reduceBNe, Nat.reduceBEq, Nat.reduceEqDiff, reduceIte, Bool.false_eq_true]
      rotate_left
      · simp only [List.length_cons, List.length_nil]; omega
      · simp only [List.length_cons, List.length_nil]; omega
      rw [he, htk']
      refine SmG.v hF rfl rfl rfl (opV_assign rfl rfl) ?_
      refine SmG.nil ?_
      refine nextS_normal ?_
      refine Sm.regionG hF rfl ?_
      refine SmG.v hF rfl rfl rfl (opV_move rfl rfl) ?_
      refine SmG.v hF rfl rfl rfl (opV_assign rfl rfl) ?_
      refine SmG.nil ?_
      refine blockS_normal ?_
      refine nextS_normal ?_
      refine Sm.regionG hF rfl ?_
      refine SmG.v hF rfl rfl rfl (opV_bin rfl rfl rfl (by first | exact rd_add _ _ _ _ _ (wrapI64 _ (by omega)) | exact rb_add _ _ _ _ _ _ _)) ?_
      refine SmG.v hF rfl rfl rfl (opV_move rfl rfl) ?_
      refine SmG.nil ?_
      refine nextS_normal ?_
      exact ⟨⟨i + 1, by omega⟩, by show m - (i + 1) < m - i; omega, by exact St.le_of (by first | (simp [leE, look, constD] <;> omega) | (simp [leE, look, constD, he] <;> omega)) (by simp only [leH, look, rep, reduceIte, Nat.reduceEqDiff, List.set_cons_zero, List.set_cons_succ, he, and_self, and_true, and_false, false_and, if_true, if_false] <;> (repeat' first | rfl | constructor)) (by first | exact Nat.le_refl _ | (dsimp only; omega))⟩
    · rw [if_neg hir] at hb
      have he : ((bnd q r i : Nat) : Int) + (q : Int) = ((bnd q r (i + 1) : Nat) : Int) := by omega
      refine Sm.seq ?_
      refine Sm.regionG hF rfl ?_
      refine SmG.v hF rfl rfl rfl (opV_bin rfl rfl rfl (by first | exact rd_lssT _ _ _ _ _ (by omega) | exact rd_lssF _ _ _ _ _ (by omega) | exact rb_lss _ _ _ _ _ _ _)) ?_
      refine SmG.nil ?_
      refine nextS_normal ?_
      refine Sm.seq ?_
      refine Sm.condT hF rfl ?_
      refine Sm.skip ?_
      refine nextS_normal ?_
      refine Sm.seq ?_
      refine Sm.block ?_
      refine Sm.seq ?_
      refine Sm.regionG hF rfl ?_
      refine SmG.v hF rfl rfl rfl (opV_move rfl rfl) ?_
      refine SmG.v hF rfl rfl rfl (opV_assign rfl rfl) ?_
      refine SmG.nil ?_
      refine nextS_normal ?_
      refine Sm.seq ?_
      refine Sm.regionG hF rfl ?_
      refine SmG.v hF rfl rfl rfl (opV_move rfl rfl) ?_
      refine SmG.v hF rfl rfl rfl (opV_move rfl rfl) ?_
      refine SmG.v hF rfl rfl rfl (opV_bin rfl rfl rfl (by first | exact rd_add _ _ _ _ _ (wrapI64 _ (by omega)) | exact rb_add _ _ _ _ _ _ _)) ?_
      refine SmG.v hF rfl rfl rfl (opV_assign rfl rfl) ?_
      refine SmG.nil ?_
      refine nextS_normal ?_
      refine Sm.seq ?_
      refine Sm.seq ?_
      refine Sm.regionG hF rfl ?_
      refine SmG.v hF rfl rfl rfl (opV_move rfl rfl) ?_
      refine SmG.v hF rfl rfl rfl (opV_move rfl rfl) ?_
      refine SmG.v hF rfl rfl rfl (opV_bin rfl rfl rfl (by first | exact rd_lssT _ _ _ _ _ (by omega) | exact rd_lssF _ _ _ _ _ (by omega) | exact rb_lss _ _ _ _ _ _ _)) ?_
      refine SmG.nil ?_
      refine nextS_normal ?_
      refine Sm.condF hF rfl ?_
      refine Sm.skip ?_
      refine nextS_normal ?_
      refine Sm.seq ?_
      refine Sm.regionG hF rfl ?_
      refine SmG.v hF rfl rfl rfl (opV_move rfl rfl) ?_
      refine SmG.v hF rfl rfl rfl (opV_move rfl rfl) ?_
      refine SmG.v hF rfl rfl rfl (opV_move rfl rfl) ?_
      refine SmG.v hF rfl rfl rfl (opV_buildA rfl Tryd.underlying56 rfl (by simp (disch := omega) only [go_sem, Nat.reduceEqDiff, iteP] <;> rfl)) ?_
      refine SmG.v hF rfl rfl rfl (opV_buildSlice rfl rfl (by simp (disch := omega) only [go_sem, Nat.reduceEqDiff, iteP] <;> rfl)) ?_
      refine SmG.appendOwn hF elPart rfl rfl rfl rfl rfl rfl rfl (by first | rfl | (simp; done) | (simp; omega)) (Or.inl rfl) (by (repeat' first | exact freeH_nil _ | refine freeH_same ?_ | refine freeH_cons ?_ (free_dB _ _ _) | refine freeH_cons ?_ (free_dB _ _ [_]) | refine freeH_cons ?_ (free_row (by rfl)))) ?_ ?_ ?_; rotate_left; rotate_left; simp only [killV, Pk.v, V.free, rep, bne_self_eq_false, Nat.reduceAdd, Nat.reduceBNe, Nat.reduceBEq, Nat.reduceEqDiff, reduceIte, Bool.false_eq_true]
      rotate_left
      · simp only [List.length_cons, List.length_nil]; omega
      · simp only [List.length_cons, List.length_nil]; omega
      rw [he, htk']
      refine SmG.v hF rfl rfl rfl (opV_assign rfl rfl) ?_
      refine SmG.nil ?_
      refine nextS_normal ?_
      refine Sm.regionG hF rfl ?_
      refine SmG.v hF rfl rfl rfl (opV_move rfl rfl) ?_
      refine SmG.v hF rfl rfl rfl (opV_assign rfl rfl) ?_
      refine SmG.nil ?_
      refine blockS_normal ?_
      refine nextS_normal ?_
      refine Sm.regionG hF rfl ?_
      refine SmG.v hF rfl rfl rfl (opV_bin rfl rfl rfl (by first | exact rd_add _ _ _ _ _ (wrapI64 _ (by omega)) | exact rb_add _ _ _ _ _ _ _)) ?_
      refine SmG.v hF rfl rfl rfl (opV_move rfl rfl) ?_
      refine SmG.nil ?_
      refine nextS_normal ?_
      exact ⟨⟨i + 1, by omega⟩, by show m - (i + 1) < m - i; omega, by exact St.le_of (by first | (simp [leE, look, constD] <;> omega) | (simp [leE, look, constD, he] <;> omega)) (by simp only [leH, look, rep, reduceIte, Nat.reduceEqDiff, List.set_cons_zero, List.set_cons_succ, he, and_self, and_true, and_false, false_and, if_true, if_false] <;> (repeat' first | rfl | constructor)) (by first | exact Nat.le_refl _ | (dsimp only; omega))⟩
  · obtain rfl : i = m := by omega
    rw [List.take_of_length_le (by omega)]
    refine Sm.seq ?_
    refine Sm.regionG hF rfl ?_
    refine SmG.v hF rfl rfl rfl (opV_bin rfl rfl rfl (by first | exact rd_lssT _ _ _ _ _ (by omega) | exact rd_lssF _ _ _ _ _ (by omega) | exact rb_lss _ _ _ _ _ _ _)) ?_
    refine SmG.nil ?_
    refine nextS_normal ?_
    refine Sm.seq ?_
    refine Sm.condF hF rfl ?_
    refine Sm.freeze (l := 0) _ rfl ?_
    simp only [Pk.v, frzE, frzV, dropH,  reduceIte, Nat.reduceAdd, Nat.zero_add, List.length_map, List.length_append, Nat.le_refl, true_and, and_self, if_true, Nat.reduceEqDiff, true_and]
    refine Sm.exit ?_
    simp only [nextS, blockS, reduceIte, reduceCtorEq]
    refine Sm.seq ?_
    refine Sm.regionG hF rfl ?_
    refine SmG.v hF rfl rfl rfl (opV_move rfl rfl) ?_
    refine SmG.v hF rfl rfl rfl (opV_assign rfl rfl) ?_
    refine SmG.nil ?_
    refine nextS_normal ?_
    refine Sm.ret ?_
    refine ⟨_, rfl, ?_⟩; dsimp only
    exact D.le.refl _
theorem cut17_D (n k : Int) (G : Nat → Option D) : CallsD Tryd.prog G 20 [.v (.int .i64 n), .v (.int .i64 k)] (partsD (cutL n k)) := by
  unfold cutL
  by_cases h : k < 1 ∨ n < 1 ∨ 4000 < n
  · rw [if_pos h]; exact cut_no n k (by omega) G
  · rw [if_neg h]
    have := cut_yes n.toNat (min n k).toNat k (by omega) (by omega) (by omega) (by omega) G
    rwa [Int.toNat_of_nonneg (by omega)] at this
theorem refCut_no (n k : Int) (h : k < 1 ∨ (1 ≤ k ∧ (n < 1 ∨ (1 ≤ n ∧ 4000 < n)))) (G : Nat → Option D) : CallsD Tryd.prog G 21 [.v (.int .i64 n), .v (.int .i64 k)] (partsD []) := by
  rcases h with h | ⟨h, h' | ⟨h', h''⟩⟩
  all_goals
    refine CallsD.of Tryd.func21 rfl Tryd.ntmps21 (by simp) ?_; intro F hF h0 hT; simp only [List.zipIdx_cons, List.zipIdx_nil, List.map_cons, List.map_nil, Nat.zero_add, Nat.reduceAdd]
    refine Sm.seq ?_
    refine Sm.regionG hF rfl ?_
    refine SmG.v hF rfl rfl rfl (opV_assign rfl rfl) ?_
    refine SmG.nil ?_
    refine nextS_normal ?_
    refine Sm.seq ?_
    refine Sm.regionG hF rfl ?_
    refine SmG.v hF rfl rfl rfl (opV_buildSlice rfl rfl (by simp (disch := omega) only [go_sem, Nat.reduceEqDiff, iteP] <;> rfl)) ?_
    refine SmG.v hF rfl rfl rfl (opV_assign rfl rfl) ?_
    refine SmG.nil ?_
    refine nextS_normal ?_
    refine Sm.seq ?_
    refine Sm.seq ?_
    refine Sm.regionG hF rfl ?_
    refine SmG.v hF rfl rfl rfl (opV_move rfl rfl) ?_
    refine SmG.v hF rfl rfl rfl (opV_bin rfl rfl rfl (by first | exact rd_lssT _ _ _ _ _ (by omega) | exact rd_lssF _ _ _ _ _ (by omega) | exact rb_lss _ _ _ _ _ _ _)) ?_
    refine SmG.v hF rfl rfl rfl (opV_move rfl rfl) ?_
    first | refine SmG.v hF rfl rfl rfl (opV_move rfl rfl) ?_ | refine SmG.pass hF rfl rfl rfl ?_
    first | refine SmG.v hF rfl rfl rfl (opV_bin rfl rfl rfl (by first | exact rd_lssT _ _ _ _ _ (by omega) | exact rd_lssF _ _ _ _ _ (by omega) | exact rb_lss _ _ _ _ _ _ _)) ?_ | refine SmG.pass hF rfl rfl rfl ?_
    first | refine SmG.v hF rfl rfl rfl (opV_pickT rfl rfl rfl) ?_ | refine SmG.v hF rfl rfl rfl (opV_pickF rfl rfl rfl) ?_
    refine SmG.v hF rfl rfl rfl (opV_move rfl rfl) ?_
    first | refine SmG.v hF rfl rfl rfl (opV_move rfl rfl) ?_ | refine SmG.pass hF rfl rfl rfl ?_
    first | refine SmG.v hF rfl rfl rfl (opV_bin rfl rfl rfl (by first | exact rd_gtrT _ _ _ _ _ (by omega) | exact rd_gtrF _ _ _ _ _ (by omega) | exact rb_gtr _ _ _ _ _ _ _)) ?_ | refine SmG.pass hF rfl rfl rfl ?_
    first | refine SmG.v hF rfl rfl rfl (opV_pickT rfl rfl rfl) ?_ | refine SmG.v hF rfl rfl rfl (opV_pickF rfl rfl rfl) ?_
    refine SmG.nil ?_
    refine nextS_normal ?_
    refine Sm.condT hF rfl ?_
    refine Sm.seq ?_
    refine Sm.regionG hF rfl ?_
    refine SmG.v hF rfl rfl rfl (opV_move rfl rfl) ?_
    refine SmG.v hF rfl rfl rfl (opV_assign rfl rfl) ?_
    refine SmG.nil ?_
    refine nextS_normal ?_
    refine Sm.ret ?_
    simp only [nextS, blockS]
    refine ⟨_, rfl, ?_⟩; dsimp only
    exact D.le_nil' _ _ _
theorem cut_quo {n m i : Nat} (hm : 0 < m) (hi : i < m) : (n - bnd (n / m) (n % m) i + (m - i) - 1) / (m - i) = bnd (n / m) (n % m) (i + 1) - bnd (n / m) (n % m) i := by
  have he := bnd_end (n := n) hm
  have hr := Nat.mod_lt n hm
  have hs := bnd_succ (n / m) (n % m) i
  generalize n / m = q at *
  generalize n % m = r at *
  have hn : n = m * q + r := by rw [← he]; unfold bnd; rw [Nat.min_eq_right (by omega)]
  rw [hs]
  obtain ⟨j, rfl⟩ : ∃ j, m = i + j := ⟨m - i, by omega⟩
  have hb : n = bnd q r i + j * q + (r - min i r) := by rw [hn]; unfold bnd; rw [Nat.add_mul]; omega
  generalize bnd q r i = b at *
  rw [show n - b + (i + j - i) - 1 = j * q + ((r - min i r) + j - 1) by omega, show i + j - i = j by omega, Nat.mul_add_div (by omega)]
  split
  · have : (r - min i r + j - 1) / j = 1 := by
      rw [Nat.min_eq_left (by omega)]
      exact Nat.div_eq_of_lt_le (by omega) (by omega)
    omega
  · have : (r - min i r + j - 1) / j = 0 := Nat.div_eq_of_lt (by omega)
    omega
theorem refCut_yes (n m : Nat) (k : Int) (h1 : 1 ≤ n) (h2 : n ≤ 4000) (hk : 1 ≤ k) (hm : (m : Int) = min (n : Int) k) (G : Nat → Option D) : CallsD Tryd.prog G 21 [.v (.int .i64 n), .v (.int .i64 k)] (partsD (cutN n m)) := by
  have hm1 : 1 ≤ m := by omega
  have hmn : m ≤ n := by omega
  have hmin : ∀ {ts : Array TypeId} {T : TypeId}, reck Tryd.prog (Builtin.min_ ts T #[.int .i64 k, .int .i64 (n : Int)]) = some (.int .i64 (m : Int)) := by
    intro ts T
    rcases Int.le_total (n : Int) k with h | h
    · rw [rd_minR _ h, hm, Int.min_eq_left h]
    · rw [rd_minL _ h, hm, Int.min_eq_right h]
  have hend := bnd_end (n := n) (m := m) hm1
  have htk := cutN_take n m
  have hcl : (cutN n m).length = m := by simp [cutN]
  have hcq : ∀ i, i < m → _ := fun i hi => cut_quo (n := n) (m := m) hm1 hi
  unfold partsD
  generalize cutN n m = L at htk hcl ⊢
  generalize n / m = q at *
  generalize n % m = r at *
  refine CallsD.of Tryd.func21 rfl Tryd.ntmps21 (by simp) ?_; intro F hF h0 hT; simp only [List.zipIdx_cons, List.zipIdx_nil, List.map_cons, List.map_nil, Nat.zero_add, Nat.reduceAdd]
  refine Sm.seq ?_
  refine Sm.regionG hF rfl ?_
  refine SmG.v hF rfl rfl rfl (opV_assign rfl rfl) ?_
  refine SmG.nil ?_
  refine nextS_normal ?_
  refine Sm.seq ?_
  refine Sm.regionG hF rfl ?_
  refine SmG.v hF rfl rfl rfl (opV_buildSlice rfl rfl (by simp (disch := omega) only [go_sem, Nat.reduceEqDiff, iteP] <;> rfl)) ?_
  refine SmG.v hF rfl rfl rfl (opV_assign rfl rfl) ?_
  refine SmG.nil ?_
  refine nextS_normal ?_
  refine Sm.seq ?_
  refine Sm.seq ?_
  refine Sm.regionG hF rfl ?_
  refine SmG.v hF rfl rfl rfl (opV_move rfl rfl) ?_
  refine SmG.v hF rfl rfl rfl (opV_bin rfl rfl rfl (by first | exact rd_lssT _ _ _ _ _ (by omega) | exact rd_lssF _ _ _ _ _ (by omega) | exact rb_lss _ _ _ _ _ _ _)) ?_
  refine SmG.v hF rfl rfl rfl (opV_move rfl rfl) ?_
  first | refine SmG.v hF rfl rfl rfl (opV_move rfl rfl) ?_ | refine SmG.pass hF rfl rfl rfl ?_
  first | refine SmG.v hF rfl rfl rfl (opV_bin rfl rfl rfl (by first | exact rd_lssT _ _ _ _ _ (by omega) | exact rd_lssF _ _ _ _ _ (by omega) | exact rb_lss _ _ _ _ _ _ _)) ?_ | refine SmG.pass hF rfl rfl rfl ?_
  first | refine SmG.v hF rfl rfl rfl (opV_pickT rfl rfl rfl) ?_ | refine SmG.v hF rfl rfl rfl (opV_pickF rfl rfl rfl) ?_
  refine SmG.v hF rfl rfl rfl (opV_move rfl rfl) ?_
  first | refine SmG.v hF rfl rfl rfl (opV_move rfl rfl) ?_ | refine SmG.pass hF rfl rfl rfl ?_
  first | refine SmG.v hF rfl rfl rfl (opV_bin rfl rfl rfl (by first | exact rd_gtrT _ _ _ _ _ (by omega) | exact rd_gtrF _ _ _ _ _ (by omega) | exact rb_gtr _ _ _ _ _ _ _)) ?_ | refine SmG.pass hF rfl rfl rfl ?_
  first | refine SmG.v hF rfl rfl rfl (opV_pickT rfl rfl rfl) ?_ | refine SmG.v hF rfl rfl rfl (opV_pickF rfl rfl rfl) ?_
  refine SmG.nil ?_
  refine nextS_normal ?_
  refine Sm.condF hF rfl ?_
  refine Sm.skip ?_
  refine nextS_normal ?_
  refine Sm.seq ?_
  refine Sm.regionG hF rfl ?_
  refine SmG.v hF rfl rfl rfl (opV_move rfl rfl) ?_
  refine SmG.v hF rfl rfl rfl (opV_move rfl rfl) ?_
  refine SmG.v hF rfl rfl rfl (opV_min rfl rfl rfl hmin) ?_
  refine SmG.v hF rfl rfl rfl (opV_assign rfl rfl) ?_
  refine SmG.v hF rfl rfl rfl (opV_assign rfl rfl) ?_
  refine SmG.nil ?_
  refine nextS_normal ?_
  refine Sm.seq ?_
  refine Sm.block ?_
  refine Sm.own (t := 5) (sz := 2) 2 rfl ?_
  refine Sm.loop (ι := {i : Nat // i ≤ m}) (fun i => ⟨[(0, .d (.v (.int .i64 n))), (5, .sref 0 0 ((L.take i.1).map rowP).length), (6, .d (.v (.int .i64 (bnd q r i.1 : Nat)))), (7, .d (.v (.int .i64 ((m - i.1 : Nat) : Int))))], [(0, dB 2 ((L.take i.1).map rowP))], 1⟩) (fun i => m - i.1) (⟨0, by omega⟩) ?_ ?_
  · exact St.le_of (by simp [leE, look, constD, bnd]) ⟨rfl, trivial⟩ (Nat.le_refl _)
  rintro ⟨i, hi⟩
  simp only
  by_cases hlt : i < m
  · have hm2 := bnd_mono (q := q) (r := r) (show i ≤ m by omega)
    have hm1 := bnd_mono (q := q) (r := r) (show i + 1 ≤ m by omega)
    have hm3 := bnd_mono (q := q) (r := r) (show i ≤ i + 1 by omega)
    have htk' := htk i hlt
    have hll : ((L.take i).map rowP).length = i := by rw [List.length_map, List.length_take]; omega
    have hquo : ∀ t x y, reck Tryd.prog (do eqGuard .quo t x y (.int .i64 ((n : Int) - (bnd q r i : Nat) + (m - i : Nat) - 1)) (.int .i64 ((m - i : Nat) : Int)); binOp .quo t (.int .i64 ((n : Int) - (bnd q r i : Nat) + (m - i : Nat) - 1)) (.int .i64 ((m - i : Nat) : Int))) = some (.int .i64 ((bnd q r (i + 1) - bnd q r i : Nat) : Int)) := fun t x y => by
      rw [show (n : Int) - (bnd q r i : Nat) + (m - i : Nat) - 1 = ((n - bnd q r i + (m - i) - 1 : Nat) : Int) by omega, rd_quo _ _ _ _ (by omega) (by omega), ← hcq i hlt]; simp
    have he : ((bnd q r i : Nat) : Int) + ((bnd q r (i + 1) - bnd q r i : Nat) : Int) = ((bnd q r (i + 1) : Nat) : Int) := by omega
    have he2 : ((m - i : Nat) : Int) - 1 = ((m - (i + 1) : Nat) : Int) := by omega
    refine Sm.seq ?_
    refine Sm.seq ?_
    refine Sm.regionG hF rfl ?_
    refine SmG.v hF rfl rfl rfl (opV_move rfl rfl) ?_
    refine SmG.v hF rfl rfl rfl (opV_bin rfl rfl rfl (by first | exact rd_gtrT _ _ _ _ _ (by omega) | exact rd_gtrF _ _ _ _ _ (by omega) | exact rb_gtr _ _ _ _ _ _ _)) ?_
    refine SmG.nil ?_
    refine nextS_normal ?_
    refine Sm.condT hF rfl ?_
    refine Sm.skip ?_
    refine nextS_normal ?_
    refine Sm.block ?_
    refine Sm.seq ?_
    refine Sm.regionG hF rfl ?_
    refine SmG.v hF rfl rfl rfl (opV_move rfl rfl) ?_
    refine SmG.v hF rfl rfl rfl (opV_move rfl rfl) ?_
    refine SmG.v hF rfl rfl rfl (opV_bin rfl rfl rfl (by first | exact rd_sub _ _ _ _ _ (wrapI64 _ (by omega)) | exact rb_sub _ _ _ _ _ _ _)) ?_
    refine SmG.v hF rfl rfl rfl (opV_move rfl rfl) ?_
    refine SmG.v hF rfl rfl rfl (opV_bin rfl rfl rfl (by first | exact rd_add _ _ _ _ _ (wrapI64 _ (by omega)) | exact rb_add _ _ _ _ _ _ _)) ?_
    refine SmG.v hF rfl rfl rfl (opV_bin rfl rfl rfl (by first | exact rd_sub _ _ _ _ _ (wrapI64 _ (by omega)) | exact rb_sub _ _ _ _ _ _ _)) ?_
    refine SmG.v hF rfl rfl rfl (opV_move rfl rfl) ?_
    refine SmG.v hF rfl rfl rfl (opV_bin rfl rfl rfl (hquo _ _ _)) ?_
    refine SmG.v hF rfl rfl rfl (opV_assign rfl rfl) ?_
    refine SmG.nil ?_
    refine nextS_normal ?_
    refine Sm.seq ?_
    refine Sm.regionG hF rfl ?_
    refine SmG.v hF rfl rfl rfl (opV_move rfl rfl) ?_
    refine SmG.v hF rfl rfl rfl (opV_move rfl rfl) ?_
    refine SmG.v hF rfl rfl rfl (opV_move rfl rfl) ?_
    refine SmG.v hF rfl rfl rfl (opV_move rfl rfl) ?_
    refine SmG.v hF rfl rfl rfl (opV_bin rfl rfl rfl (by first | exact rd_add _ _ _ _ _ (wrapI64 _ (by omega)) | exact rb_add _ _ _ _ _ _ _)) ?_
    refine SmG.v hF rfl rfl rfl (opV_buildA rfl Tryd.underlying56 rfl (by simp (disch := omega) only [go_sem, Nat.reduceEqDiff, iteP] <;> rfl)) ?_
    refine SmG.v hF rfl rfl rfl (opV_buildSlice rfl rfl (by simp (disch := omega) only [go_sem, Nat.reduceEqDiff, iteP] <;> rfl)) ?_
    refine SmG.appendOwn hF elPart rfl rfl rfl rfl rfl rfl rfl (by first | rfl | (simp; done) | (simp; omega)) (Or.inl rfl) (by (repeat' first | exact freeH_nil _ | refine freeH_same ?_ | refine freeH_cons ?_ (free_dB _ _ _) | refine freeH_cons ?_ (free_dB _ _ [_]) | refine freeH_cons ?_ (free_row (by rfl)))) ?_ ?_ ?_; rotate_left; rotate_left; simp only [killV, Pk.v, V.free, rep, bne_self_eq_false, Nat.reduceAdd, Nat.reduceBNe, Nat.reduceBEq, Nat.reduceEqDiff, reduceIte, Bool.false_eq_true]
    rotate_left
    · simp only [List.length_cons, List.length_nil]; omega
    · simp only [List.length_cons, List.length_nil]; omega
    rw [he, htk']
    refine SmG.v hF rfl rfl rfl (opV_assign rfl rfl) ?_
    refine SmG.nil ?_
    refine nextS_normal ?_
    refine Sm.regionG hF rfl ?_
    refine SmG.v hF rfl rfl rfl (opV_move rfl rfl) ?_
    refine SmG.v hF rfl rfl rfl (opV_move rfl rfl) ?_
    refine SmG.v hF rfl rfl rfl (opV_bin rfl rfl rfl (by first | exact rd_add _ _ _ _ _ (wrapI64 _ (by omega)) | exact rb_add _ _ _ _ _ _ _)) ?_
    refine SmG.v hF rfl rfl rfl (opV_move rfl rfl) ?_
    refine SmG.v hF rfl rfl rfl (opV_bin rfl rfl rfl (by first | exact rd_sub _ _ _ _ _ (wrapI64 _ (by omega)) | exact rb_sub _ _ _ _ _ _ _)) ?_
    refine SmG.v hF rfl rfl rfl (opV_assign rfl rfl) ?_
    refine SmG.v hF rfl rfl rfl (opV_assign rfl rfl) ?_
    refine SmG.nil ?_
    refine blockS_normal ?_
    refine nextS_normal ?_
    rw [he2, he]
    exact ⟨⟨i + 1, by omega⟩, by show m - (i + 1) < m - i; omega, by exact St.le_of ⟨rfl, rfl, rfl, rfl, trivial⟩ ⟨rfl, trivial⟩ (Nat.le_refl _)⟩
  · obtain rfl : i = m := by omega
    rw [List.take_of_length_le (by omega)]
    refine Sm.seq ?_
    refine Sm.seq ?_
    refine Sm.regionG hF rfl ?_
    refine SmG.v hF rfl rfl rfl (opV_move rfl rfl) ?_
    refine SmG.v hF rfl rfl rfl (opV_bin rfl rfl rfl (by first | exact rd_gtrT _ _ _ _ _ (by omega) | exact rd_gtrF _ _ _ _ _ (by omega) | exact rb_gtr _ _ _ _ _ _ _)) ?_
    refine SmG.nil ?_
    refine nextS_normal ?_
    refine Sm.condF hF rfl ?_
    refine Sm.freeze (l := 0) _ rfl ?_
    simp only [Pk.v, frzE, frzV, dropH,  reduceIte, Nat.reduceAdd, Nat.zero_add, List.length_map, List.length_append, Nat.le_refl, true_and, and_self, if_true, Nat.reduceEqDiff, true_and]
    refine Sm.exit ?_
    simp only [nextS, blockS, reduceIte, reduceCtorEq]
    refine Sm.seq ?_
    refine Sm.regionG hF rfl ?_
    refine SmG.v hF rfl rfl rfl (opV_move rfl rfl) ?_
    refine SmG.v hF rfl rfl rfl (opV_assign rfl rfl) ?_
    refine SmG.nil ?_
    refine nextS_normal ?_
    refine Sm.ret ?_
    refine ⟨_, rfl, ?_⟩; dsimp only
    exact D.le.refl _
theorem refCut17_D (n k : Int) (G : Nat → Option D) : CallsD Tryd.prog G 21 [.v (.int .i64 n), .v (.int .i64 k)] (partsD (cutL n k)) := by
  unfold cutL
  by_cases h : k < 1 ∨ n < 1 ∨ 4000 < n
  · rw [if_pos h]; exact refCut_no n k (by omega) G
  · rw [if_neg h]
    have := refCut_yes n.toNat (min n k).toNat k (by omega) (by omega) (by omega) (by omega) G
    rwa [Int.toNat_of_nonneg (by omega)] at this
end Go.Proofs.YtagfaaijgfigkaaDoor
namespace Go.Proofs.YtagfaaijgfigkaaDoor
open Go.RowKit
set_option maxRecDepth 100000
def soundC (c : Clm) : Bool := decide (0 ≤ c.lo ∧ c.lo ≤ c.hi ∧ (c.l.length : Int) = c.hi - c.lo ∧ c.root = Sha.root (c.l.map resBytes))
theorem eq_sum' {s t : List UInt8} {c : Bool} (h1 : s.length = 32) (h2 : t.length = 32) (hc : c = decide (s = t)) : eqAgg Tryd.prog 39 (.d (.agg 32 (rowS s))) (.d (.agg 32 (rowS t))) = some c := by rw [hc]; exact eq_sum h1 h2
theorem sound_D (c : Clm) (hr : c.root.length = 32) (hl : c.l.length ≤ 1000000) (hh : c.hi ≤ 9223372036854775807) : CallsD Tryd.prog HG 26 [clmD c] (.v (.bool (soundC c))) := by
  have hR := workRoot_D c.l hl
  have hRl := Sha.root_len (c.l.map resBytes)
  have hcc : decide (c.root = Sha.root (c.l.map resBytes)) = decide (c.root = Sha.root (c.l.map resBytes)) := rfl
  have hs : soundC c = decide (0 ≤ c.lo ∧ c.lo ≤ c.hi ∧ (c.l.length : Int) = c.hi - c.lo ∧ c.root = Sha.root (c.l.map resBytes)) := rfl
  have htk : List.take 32 (List.map V.d (rowS c.root)) = List.map V.d (rowS c.root) := List.take_of_length_le (by simp [rowS, hr])
  generalize Sha.root (c.l.map resBytes) = R at hR hRl hcc hs
  by_cases h1 : 0 ≤ c.lo
  · by_cases h2 : c.lo ≤ c.hi
    · by_cases h3 : (c.l.length : Int) = c.hi - c.lo
      · rw [hs, show decide _ = decide (c.root = R) by simp [h1, h2, h3]]
        refine CallsD.of Tryd.func26 rfl Tryd.ntmps26 (by simp) ?_; intro F hF h0 hT; simp only [List.zipIdx_cons, List.zipIdx_nil, List.map_cons, List.map_nil, Nat.zero_add, Nat.reduceAdd]
        refine Sm.seq ?_
        refine Sm.regionG hF rfl ?_
        refine SmG.new hF rfl rfl rfl (opS_box rfl rfl (by simp (disch := omega) only [go_sem, Nat.reduceEqDiff, iteP, clmD, Clm.row, ressL, sumD, htk, pureRow_map] <;> rfl)) ?_
        refine SmG.v hF rfl rfl rfl (opV_assign rfl rfl) ?_
        refine SmG.nil ?_
        refine nextS_normal ?_
        refine Sm.seq ?_
        refine Sm.drawG hF (by kernel_rfl) rfl 30 (by kernel_rfl) (by kernel_rfl) ?_
        simp only [List.take_succ_cons, List.take_zero, List.take_nil]
        refine Head.v hF rfl rfl rfl (opV_fieldAddr rfl rfl (by simp (disch := omega) only [go_sem, Nat.reduceEqDiff, iteP, clmD, Clm.row, ressL, sumD, htk, pureRow_map] <;> rfl)) ?_
        refine Head.v hF rfl rfl rfl (opV_load rfl rfl (by simp (disch := omega) only [go_sem, Nat.reduceEqDiff, iteP, clmD, Clm.row, ressL, sumD, htk, pureRow_map] <;> rfl)) ?_
        refine Head.v hF rfl rfl rfl (opV_bin rfl rfl rfl (by first | exact rd_geqT _ _ _ _ _ (by omega) | exact rd_geqF _ _ _ _ _ (by omega) | exact rb_geq _ _ _ _ _ _ _)) ?_
        refine Head.v hF rfl rfl rfl (opV_move rfl rfl) ?_
        first | refine Head.v hF rfl rfl rfl (opV_fieldAddr rfl rfl (by simp (disch := omega) only [go_sem, Nat.reduceEqDiff, iteP, clmD, Clm.row, ressL, sumD, htk, pureRow_map] <;> rfl)) ?_ | refine Head.p hF rfl rfl rfl ?_
        first | refine Head.v hF rfl rfl rfl (opV_load rfl rfl (by simp (disch := omega) only [go_sem, Nat.reduceEqDiff, iteP, clmD, Clm.row, ressL, sumD, htk, pureRow_map] <;> rfl)) ?_ | refine Head.p hF rfl rfl rfl ?_
        first | refine Head.v hF rfl rfl rfl (opV_fieldAddr rfl rfl (by simp (disch := omega) only [go_sem, Nat.reduceEqDiff, iteP, clmD, Clm.row, ressL, sumD, htk, pureRow_map] <;> rfl)) ?_ | refine Head.p hF rfl rfl rfl ?_
        first | refine Head.v hF rfl rfl rfl (opV_load rfl rfl (by simp (disch := omega) only [go_sem, Nat.reduceEqDiff, iteP, clmD, Clm.row, ressL, sumD, htk, pureRow_map] <;> rfl)) ?_ | refine Head.p hF rfl rfl rfl ?_
        first | refine Head.v hF rfl rfl rfl (opV_bin rfl rfl rfl (by first | exact rd_geqT _ _ _ _ _ (by omega) | exact rd_geqF _ _ _ _ _ (by omega) | exact rb_geq _ _ _ _ _ _ _)) ?_ | refine Head.p hF rfl rfl rfl ?_
        first | refine Head.v hF rfl rfl rfl (opV_pickT rfl rfl rfl) ?_ | refine Head.v hF rfl rfl rfl (opV_pickF rfl rfl rfl) ?_
        refine Head.v hF rfl rfl rfl (opV_move rfl rfl) ?_
        first | refine Head.v hF rfl rfl rfl (opV_fieldAddr rfl rfl (by simp (disch := omega) only [go_sem, Nat.reduceEqDiff, iteP, clmD, Clm.row, ressL, sumD, htk, pureRow_map] <;> rfl)) ?_ | refine Head.p hF rfl rfl rfl ?_
        first | refine Head.v hF rfl rfl rfl (opV_load rfl rfl (by simp (disch := omega) only [go_sem, Nat.reduceEqDiff, iteP, clmD, Clm.row, ressL, sumD, htk, pureRow_map] <;> rfl)) ?_ | refine Head.p hF rfl rfl rfl ?_
        first | refine Head.v hF rfl rfl rfl (opV_len rfl rfl (by simp (disch := omega) only [go_sem, Nat.reduceEqDiff, iteP, clmD, Clm.row, ressL, sumD, htk, pureRow_map] <;> rfl)) ?_ | refine Head.p hF rfl rfl rfl ?_
        first | refine Head.v hF rfl rfl rfl (opV_fieldAddr rfl rfl (by simp (disch := omega) only [go_sem, Nat.reduceEqDiff, iteP, clmD, Clm.row, ressL, sumD, htk, pureRow_map] <;> rfl)) ?_ | refine Head.p hF rfl rfl rfl ?_
        first | refine Head.v hF rfl rfl rfl (opV_load rfl rfl (by simp (disch := omega) only [go_sem, Nat.reduceEqDiff, iteP, clmD, Clm.row, ressL, sumD, htk, pureRow_map] <;> rfl)) ?_ | refine Head.p hF rfl rfl rfl ?_
        first | refine Head.v hF rfl rfl rfl (opV_fieldAddr rfl rfl (by simp (disch := omega) only [go_sem, Nat.reduceEqDiff, iteP, clmD, Clm.row, ressL, sumD, htk, pureRow_map] <;> rfl)) ?_ | refine Head.p hF rfl rfl rfl ?_
        first | refine Head.v hF rfl rfl rfl (opV_load rfl rfl (by simp (disch := omega) only [go_sem, Nat.reduceEqDiff, iteP, clmD, Clm.row, ressL, sumD, htk, pureRow_map] <;> rfl)) ?_ | refine Head.p hF rfl rfl rfl ?_
        first | refine Head.v hF rfl rfl rfl (opV_bin rfl rfl rfl (by first | exact rd_sub _ _ _ _ _ (wrapI64 _ (by omega)) | exact rb_sub _ _ _ _ _ _ _)) ?_ | refine Head.p hF rfl rfl rfl ?_
        first | refine Head.v hF rfl rfl rfl (opV_bin rfl rfl rfl (by first | exact rd_eqlT _ _ _ _ _ (by omega) | exact rd_eqlF _ _ _ _ _ (by omega) | exact rb_eql _ _ _ _ _ _ _)) ?_ | refine Head.p hF rfl rfl rfl ?_
        first | refine Head.v hF rfl rfl rfl (opV_pickT rfl rfl rfl) ?_ | refine Head.v hF rfl rfl rfl (opV_pickF rfl rfl rfl) ?_
        refine Head.v hF rfl rfl rfl (opV_move rfl rfl) ?_
        first | refine Head.v hF rfl rfl rfl (opV_fieldAddr rfl rfl (by simp (disch := omega) only [go_sem, Nat.reduceEqDiff, iteP, clmD, Clm.row, ressL, sumD, htk, pureRow_map] <;> rfl)) ?_ | refine Head.p hF rfl rfl rfl ?_
        first | refine Head.v hF rfl rfl rfl (opV_load rfl rfl (by simp (disch := omega) only [go_sem, Nat.reduceEqDiff, iteP, clmD, Clm.row, ressL, sumD, htk, pureRow_map] <;> rfl)) ?_ | refine Head.p hF rfl rfl rfl ?_
        first | refine Head.v hF rfl rfl rfl (opV_fieldAddr rfl rfl (by simp (disch := omega) only [go_sem, Nat.reduceEqDiff, iteP, clmD, Clm.row, ressL, sumD, htk, pureRow_map] <;> rfl)) ?_ | refine Head.p hF rfl rfl rfl ?_
        first | refine Head.v hF rfl rfl rfl (opV_load rfl rfl (by simp (disch := omega) only [go_sem, Nat.reduceEqDiff, iteP, clmD, Clm.row, ressL, sumD, htk, pureRow_map] <;> rfl)) ?_ | refine Head.p hF rfl rfl rfl ?_
        first | refine Head.c hF rfl rfl (by kernel_rfl) rfl rfl rfl (hR) ?_ | refine Head.p hF rfl rfl rfl ?_
        first | refine Head.v hF rfl rfl rfl (opV_eqA rfl rfl rfl (eq_sum' hr hRl hcc)) ?_ | refine Head.p hF rfl rfl rfl ?_
        first | refine Head.v hF rfl rfl rfl (opV_pickT rfl rfl rfl) ?_ | refine Head.v hF rfl rfl rfl (opV_pickF rfl rfl rfl) ?_
        refine Head.v hF rfl rfl rfl (opV_assign rfl rfl) ?_
        refine Head.last ⟨rfl, ?_⟩
        simp only [List.drop_succ_cons, List.drop_zero, List.drop_nil, List.nil_append, List.cons_append]
        refine SmG.nil ?_
        refine nextS_normal ?_
        refine Sm.ret ?_
        refine ⟨_, rfl, ?_⟩; exact D.le.refl _
      · rw [hs, decide_eq_false (by omega)]
        refine CallsD.of Tryd.func26 rfl Tryd.ntmps26 (by simp) ?_; intro F hF h0 hT; simp only [List.zipIdx_cons, List.zipIdx_nil, List.map_cons, List.map_nil, Nat.zero_add, Nat.reduceAdd]
        refine Sm.seq ?_
        refine Sm.regionG hF rfl ?_
        refine SmG.new hF rfl rfl rfl (opS_box rfl rfl (by simp (disch := omega) only [go_sem, Nat.reduceEqDiff, iteP, clmD, Clm.row, ressL, sumD, htk, pureRow_map] <;> rfl)) ?_
        refine SmG.v hF rfl rfl rfl (opV_assign rfl rfl) ?_
        refine SmG.nil ?_
        refine nextS_normal ?_
        refine Sm.seq ?_
        refine Sm.drawG hF (by kernel_rfl) rfl 30 (by kernel_rfl) (by kernel_rfl) ?_
        simp only [List.take_succ_cons, List.take_zero, List.take_nil]
        refine Head.v hF rfl rfl rfl (opV_fieldAddr rfl rfl (by simp (disch := omega) only [go_sem, Nat.reduceEqDiff, iteP, clmD, Clm.row, ressL, sumD, htk, pureRow_map] <;> rfl)) ?_
        refine Head.v hF rfl rfl rfl (opV_load rfl rfl (by simp (disch := omega) only [go_sem, Nat.reduceEqDiff, iteP, clmD, Clm.row, ressL, sumD, htk, pureRow_map] <;> rfl)) ?_
        refine Head.v hF rfl rfl rfl (opV_bin rfl rfl rfl (by first | exact rd_geqT _ _ _ _ _ (by omega) | exact rd_geqF _ _ _ _ _ (by omega) | exact rb_geq _ _ _ _ _ _ _)) ?_
        refine Head.v hF rfl rfl rfl (opV_move rfl rfl) ?_
        first | refine Head.v hF rfl rfl rfl (opV_fieldAddr rfl rfl (by simp (disch := omega) only [go_sem, Nat.reduceEqDiff, iteP, clmD, Clm.row, ressL, sumD, htk, pureRow_map] <;> rfl)) ?_ | refine Head.p hF rfl rfl rfl ?_
        first | refine Head.v hF rfl rfl rfl (opV_load rfl rfl (by simp (disch := omega) only [go_sem, Nat.reduceEqDiff, iteP, clmD, Clm.row, ressL, sumD, htk, pureRow_map] <;> rfl)) ?_ | refine Head.p hF rfl rfl rfl ?_
        first | refine Head.v hF rfl rfl rfl (opV_fieldAddr rfl rfl (by simp (disch := omega) only [go_sem, Nat.reduceEqDiff, iteP, clmD, Clm.row, ressL, sumD, htk, pureRow_map] <;> rfl)) ?_ | refine Head.p hF rfl rfl rfl ?_
        first | refine Head.v hF rfl rfl rfl (opV_load rfl rfl (by simp (disch := omega) only [go_sem, Nat.reduceEqDiff, iteP, clmD, Clm.row, ressL, sumD, htk, pureRow_map] <;> rfl)) ?_ | refine Head.p hF rfl rfl rfl ?_
        first | refine Head.v hF rfl rfl rfl (opV_bin rfl rfl rfl (by first | exact rd_geqT _ _ _ _ _ (by omega) | exact rd_geqF _ _ _ _ _ (by omega) | exact rb_geq _ _ _ _ _ _ _)) ?_ | refine Head.p hF rfl rfl rfl ?_
        first | refine Head.v hF rfl rfl rfl (opV_pickT rfl rfl rfl) ?_ | refine Head.v hF rfl rfl rfl (opV_pickF rfl rfl rfl) ?_
        refine Head.v hF rfl rfl rfl (opV_move rfl rfl) ?_
        first | refine Head.v hF rfl rfl rfl (opV_fieldAddr rfl rfl (by simp (disch := omega) only [go_sem, Nat.reduceEqDiff, iteP, clmD, Clm.row, ressL, sumD, htk, pureRow_map] <;> rfl)) ?_ | refine Head.p hF rfl rfl rfl ?_
        first | refine Head.v hF rfl rfl rfl (opV_load rfl rfl (by simp (disch := omega) only [go_sem, Nat.reduceEqDiff, iteP, clmD, Clm.row, ressL, sumD, htk, pureRow_map] <;> rfl)) ?_ | refine Head.p hF rfl rfl rfl ?_
        first | refine Head.v hF rfl rfl rfl (opV_len rfl rfl (by simp (disch := omega) only [go_sem, Nat.reduceEqDiff, iteP, clmD, Clm.row, ressL, sumD, htk, pureRow_map] <;> rfl)) ?_ | refine Head.p hF rfl rfl rfl ?_
        first | refine Head.v hF rfl rfl rfl (opV_fieldAddr rfl rfl (by simp (disch := omega) only [go_sem, Nat.reduceEqDiff, iteP, clmD, Clm.row, ressL, sumD, htk, pureRow_map] <;> rfl)) ?_ | refine Head.p hF rfl rfl rfl ?_
        first | refine Head.v hF rfl rfl rfl (opV_load rfl rfl (by simp (disch := omega) only [go_sem, Nat.reduceEqDiff, iteP, clmD, Clm.row, ressL, sumD, htk, pureRow_map] <;> rfl)) ?_ | refine Head.p hF rfl rfl rfl ?_
        first | refine Head.v hF rfl rfl rfl (opV_fieldAddr rfl rfl (by simp (disch := omega) only [go_sem, Nat.reduceEqDiff, iteP, clmD, Clm.row, ressL, sumD, htk, pureRow_map] <;> rfl)) ?_ | refine Head.p hF rfl rfl rfl ?_
        first | refine Head.v hF rfl rfl rfl (opV_load rfl rfl (by simp (disch := omega) only [go_sem, Nat.reduceEqDiff, iteP, clmD, Clm.row, ressL, sumD, htk, pureRow_map] <;> rfl)) ?_ | refine Head.p hF rfl rfl rfl ?_
        first | refine Head.v hF rfl rfl rfl (opV_bin rfl rfl rfl (by first | exact rd_sub _ _ _ _ _ (wrapI64 _ (by omega)) | exact rb_sub _ _ _ _ _ _ _)) ?_ | refine Head.p hF rfl rfl rfl ?_
        first | refine Head.v hF rfl rfl rfl (opV_bin rfl rfl rfl (by first | exact rd_eqlT _ _ _ _ _ (by omega) | exact rd_eqlF _ _ _ _ _ (by omega) | exact rb_eql _ _ _ _ _ _ _)) ?_ | refine Head.p hF rfl rfl rfl ?_
        first | refine Head.v hF rfl rfl rfl (opV_pickT rfl rfl rfl) ?_ | refine Head.v hF rfl rfl rfl (opV_pickF rfl rfl rfl) ?_
        refine Head.v hF rfl rfl rfl (opV_move rfl rfl) ?_
        first | refine Head.v hF rfl rfl rfl (opV_fieldAddr rfl rfl (by simp (disch := omega) only [go_sem, Nat.reduceEqDiff, iteP, clmD, Clm.row, ressL, sumD, htk, pureRow_map] <;> rfl)) ?_ | refine Head.p hF rfl rfl rfl ?_
        first | refine Head.v hF rfl rfl rfl (opV_load rfl rfl (by simp (disch := omega) only [go_sem, Nat.reduceEqDiff, iteP, clmD, Clm.row, ressL, sumD, htk, pureRow_map] <;> rfl)) ?_ | refine Head.p hF rfl rfl rfl ?_
        first | refine Head.v hF rfl rfl rfl (opV_fieldAddr rfl rfl (by simp (disch := omega) only [go_sem, Nat.reduceEqDiff, iteP, clmD, Clm.row, ressL, sumD, htk, pureRow_map] <;> rfl)) ?_ | refine Head.p hF rfl rfl rfl ?_
        first | refine Head.v hF rfl rfl rfl (opV_load rfl rfl (by simp (disch := omega) only [go_sem, Nat.reduceEqDiff, iteP, clmD, Clm.row, ressL, sumD, htk, pureRow_map] <;> rfl)) ?_ | refine Head.p hF rfl rfl rfl ?_
        first | refine Head.c hF rfl rfl (by kernel_rfl) rfl rfl rfl (hR) ?_ | refine Head.p hF rfl rfl rfl ?_
        first | refine Head.v hF rfl rfl rfl (opV_eqA rfl rfl rfl (eq_sum' hr hRl hcc)) ?_ | refine Head.p hF rfl rfl rfl ?_
        first | refine Head.v hF rfl rfl rfl (opV_pickT rfl rfl rfl) ?_ | refine Head.v hF rfl rfl rfl (opV_pickF rfl rfl rfl) ?_
        refine Head.v hF rfl rfl rfl (opV_assign rfl rfl) ?_
        refine Head.last ⟨rfl, ?_⟩
        simp only [List.drop_succ_cons, List.drop_zero, List.drop_nil, List.nil_append, List.cons_append]
        refine SmG.nil ?_
        refine nextS_normal ?_
        refine Sm.ret ?_
        refine ⟨_, rfl, ?_⟩; exact D.le.refl _
    · rw [hs, decide_eq_false (by omega)]
      refine CallsD.of Tryd.func26 rfl Tryd.ntmps26 (by simp) ?_; intro F hF h0 hT; simp only [List.zipIdx_cons, List.zipIdx_nil, List.map_cons, List.map_nil, Nat.zero_add, Nat.reduceAdd]
      refine Sm.seq ?_
      refine Sm.regionG hF rfl ?_
      refine SmG.new hF rfl rfl rfl (opS_box rfl rfl (by simp (disch := omega) only [go_sem, Nat.reduceEqDiff, iteP, clmD, Clm.row, ressL, sumD, htk, pureRow_map] <;> rfl)) ?_
      refine SmG.v hF rfl rfl rfl (opV_assign rfl rfl) ?_
      refine SmG.nil ?_
      refine nextS_normal ?_
      refine Sm.seq ?_
      refine Sm.drawG hF (by kernel_rfl) rfl 30 (by kernel_rfl) (by kernel_rfl) ?_
      simp only [List.take_succ_cons, List.take_zero, List.take_nil]
      refine Head.v hF rfl rfl rfl (opV_fieldAddr rfl rfl (by simp (disch := omega) only [go_sem, Nat.reduceEqDiff, iteP, clmD, Clm.row, ressL, sumD, htk, pureRow_map] <;> rfl)) ?_
      refine Head.v hF rfl rfl rfl (opV_load rfl rfl (by simp (disch := omega) only [go_sem, Nat.reduceEqDiff, iteP, clmD, Clm.row, ressL, sumD, htk, pureRow_map] <;> rfl)) ?_
      refine Head.v hF rfl rfl rfl (opV_bin rfl rfl rfl (by first | exact rd_geqT _ _ _ _ _ (by omega) | exact rd_geqF _ _ _ _ _ (by omega) | exact rb_geq _ _ _ _ _ _ _)) ?_
      refine Head.v hF rfl rfl rfl (opV_move rfl rfl) ?_
      first | refine Head.v hF rfl rfl rfl (opV_fieldAddr rfl rfl (by simp (disch := omega) only [go_sem, Nat.reduceEqDiff, iteP, clmD, Clm.row, ressL, sumD, htk, pureRow_map] <;> rfl)) ?_ | refine Head.p hF rfl rfl rfl ?_
      first | refine Head.v hF rfl rfl rfl (opV_load rfl rfl (by simp (disch := omega) only [go_sem, Nat.reduceEqDiff, iteP, clmD, Clm.row, ressL, sumD, htk, pureRow_map] <;> rfl)) ?_ | refine Head.p hF rfl rfl rfl ?_
      first | refine Head.v hF rfl rfl rfl (opV_fieldAddr rfl rfl (by simp (disch := omega) only [go_sem, Nat.reduceEqDiff, iteP, clmD, Clm.row, ressL, sumD, htk, pureRow_map] <;> rfl)) ?_ | refine Head.p hF rfl rfl rfl ?_
      first | refine Head.v hF rfl rfl rfl (opV_load rfl rfl (by simp (disch := omega) only [go_sem, Nat.reduceEqDiff, iteP, clmD, Clm.row, ressL, sumD, htk, pureRow_map] <;> rfl)) ?_ | refine Head.p hF rfl rfl rfl ?_
      first | refine Head.v hF rfl rfl rfl (opV_bin rfl rfl rfl (by first | exact rd_geqT _ _ _ _ _ (by omega) | exact rd_geqF _ _ _ _ _ (by omega) | exact rb_geq _ _ _ _ _ _ _)) ?_ | refine Head.p hF rfl rfl rfl ?_
      first | refine Head.v hF rfl rfl rfl (opV_pickT rfl rfl rfl) ?_ | refine Head.v hF rfl rfl rfl (opV_pickF rfl rfl rfl) ?_
      refine Head.v hF rfl rfl rfl (opV_move rfl rfl) ?_
      first | refine Head.v hF rfl rfl rfl (opV_fieldAddr rfl rfl (by simp (disch := omega) only [go_sem, Nat.reduceEqDiff, iteP, clmD, Clm.row, ressL, sumD, htk, pureRow_map] <;> rfl)) ?_ | refine Head.p hF rfl rfl rfl ?_
      first | refine Head.v hF rfl rfl rfl (opV_load rfl rfl (by simp (disch := omega) only [go_sem, Nat.reduceEqDiff, iteP, clmD, Clm.row, ressL, sumD, htk, pureRow_map] <;> rfl)) ?_ | refine Head.p hF rfl rfl rfl ?_
      first | refine Head.v hF rfl rfl rfl (opV_len rfl rfl (by simp (disch := omega) only [go_sem, Nat.reduceEqDiff, iteP, clmD, Clm.row, ressL, sumD, htk, pureRow_map] <;> rfl)) ?_ | refine Head.p hF rfl rfl rfl ?_
      first | refine Head.v hF rfl rfl rfl (opV_fieldAddr rfl rfl (by simp (disch := omega) only [go_sem, Nat.reduceEqDiff, iteP, clmD, Clm.row, ressL, sumD, htk, pureRow_map] <;> rfl)) ?_ | refine Head.p hF rfl rfl rfl ?_
      first | refine Head.v hF rfl rfl rfl (opV_load rfl rfl (by simp (disch := omega) only [go_sem, Nat.reduceEqDiff, iteP, clmD, Clm.row, ressL, sumD, htk, pureRow_map] <;> rfl)) ?_ | refine Head.p hF rfl rfl rfl ?_
      first | refine Head.v hF rfl rfl rfl (opV_fieldAddr rfl rfl (by simp (disch := omega) only [go_sem, Nat.reduceEqDiff, iteP, clmD, Clm.row, ressL, sumD, htk, pureRow_map] <;> rfl)) ?_ | refine Head.p hF rfl rfl rfl ?_
      first | refine Head.v hF rfl rfl rfl (opV_load rfl rfl (by simp (disch := omega) only [go_sem, Nat.reduceEqDiff, iteP, clmD, Clm.row, ressL, sumD, htk, pureRow_map] <;> rfl)) ?_ | refine Head.p hF rfl rfl rfl ?_
      first | refine Head.v hF rfl rfl rfl (opV_bin rfl rfl rfl (by first | exact rd_sub _ _ _ _ _ (wrapI64 _ (by omega)) | exact rb_sub _ _ _ _ _ _ _)) ?_ | refine Head.p hF rfl rfl rfl ?_
      first | refine Head.v hF rfl rfl rfl (opV_bin rfl rfl rfl (by first | exact rd_eqlT _ _ _ _ _ (by omega) | exact rd_eqlF _ _ _ _ _ (by omega) | exact rb_eql _ _ _ _ _ _ _)) ?_ | refine Head.p hF rfl rfl rfl ?_
      first | refine Head.v hF rfl rfl rfl (opV_pickT rfl rfl rfl) ?_ | refine Head.v hF rfl rfl rfl (opV_pickF rfl rfl rfl) ?_
      refine Head.v hF rfl rfl rfl (opV_move rfl rfl) ?_
      first | refine Head.v hF rfl rfl rfl (opV_fieldAddr rfl rfl (by simp (disch := omega) only [go_sem, Nat.reduceEqDiff, iteP, clmD, Clm.row, ressL, sumD, htk, pureRow_map] <;> rfl)) ?_ | refine Head.p hF rfl rfl rfl ?_
      first | refine Head.v hF rfl rfl rfl (opV_load rfl rfl (by simp (disch := omega) only [go_sem, Nat.reduceEqDiff, iteP, clmD, Clm.row, ressL, sumD, htk, pureRow_map] <;> rfl)) ?_ | refine Head.p hF rfl rfl rfl ?_
      first | refine Head.v hF rfl rfl rfl (opV_fieldAddr rfl rfl (by simp (disch := omega) only [go_sem, Nat.reduceEqDiff, iteP, clmD, Clm.row, ressL, sumD, htk, pureRow_map] <;> rfl)) ?_ | refine Head.p hF rfl rfl rfl ?_
      first | refine Head.v hF rfl rfl rfl (opV_load rfl rfl (by simp (disch := omega) only [go_sem, Nat.reduceEqDiff, iteP, clmD, Clm.row, ressL, sumD, htk, pureRow_map] <;> rfl)) ?_ | refine Head.p hF rfl rfl rfl ?_
      first | refine Head.c hF rfl rfl (by kernel_rfl) rfl rfl rfl (hR) ?_ | refine Head.p hF rfl rfl rfl ?_
      first | refine Head.v hF rfl rfl rfl (opV_eqA rfl rfl rfl (eq_sum' hr hRl hcc)) ?_ | refine Head.p hF rfl rfl rfl ?_
      first | refine Head.v hF rfl rfl rfl (opV_pickT rfl rfl rfl) ?_ | refine Head.v hF rfl rfl rfl (opV_pickF rfl rfl rfl) ?_
      refine Head.v hF rfl rfl rfl (opV_assign rfl rfl) ?_
      refine Head.last ⟨rfl, ?_⟩
      simp only [List.drop_succ_cons, List.drop_zero, List.drop_nil, List.nil_append, List.cons_append]
      refine SmG.nil ?_
      refine nextS_normal ?_
      refine Sm.ret ?_
      refine ⟨_, rfl, ?_⟩; exact D.le.refl _
  · rw [hs, decide_eq_false (by omega)]
    refine CallsD.of Tryd.func26 rfl Tryd.ntmps26 (by simp) ?_; intro F hF h0 hT; simp only [List.zipIdx_cons, List.zipIdx_nil, List.map_cons, List.map_nil, Nat.zero_add, Nat.reduceAdd]
    refine Sm.seq ?_
    refine Sm.regionG hF rfl ?_
    refine SmG.new hF rfl rfl rfl (opS_box rfl rfl (by simp (disch := omega) only [go_sem, Nat.reduceEqDiff, iteP, clmD, Clm.row, ressL, sumD, htk, pureRow_map] <;> rfl)) ?_
    refine SmG.v hF rfl rfl rfl (opV_assign rfl rfl) ?_
    refine SmG.nil ?_
    refine nextS_normal ?_
    refine Sm.seq ?_
    refine Sm.drawG hF (by kernel_rfl) rfl 30 (by kernel_rfl) (by kernel_rfl) ?_
    simp only [List.take_succ_cons, List.take_zero, List.take_nil]
    refine Head.v hF rfl rfl rfl (opV_fieldAddr rfl rfl (by simp (disch := omega) only [go_sem, Nat.reduceEqDiff, iteP, clmD, Clm.row, ressL, sumD, htk, pureRow_map] <;> rfl)) ?_
    refine Head.v hF rfl rfl rfl (opV_load rfl rfl (by simp (disch := omega) only [go_sem, Nat.reduceEqDiff, iteP, clmD, Clm.row, ressL, sumD, htk, pureRow_map] <;> rfl)) ?_
    refine Head.v hF rfl rfl rfl (opV_bin rfl rfl rfl (by first | exact rd_geqT _ _ _ _ _ (by omega) | exact rd_geqF _ _ _ _ _ (by omega) | exact rb_geq _ _ _ _ _ _ _)) ?_
    refine Head.v hF rfl rfl rfl (opV_move rfl rfl) ?_
    first | refine Head.v hF rfl rfl rfl (opV_fieldAddr rfl rfl (by simp (disch := omega) only [go_sem, Nat.reduceEqDiff, iteP, clmD, Clm.row, ressL, sumD, htk, pureRow_map] <;> rfl)) ?_ | refine Head.p hF rfl rfl rfl ?_
    first | refine Head.v hF rfl rfl rfl (opV_load rfl rfl (by simp (disch := omega) only [go_sem, Nat.reduceEqDiff, iteP, clmD, Clm.row, ressL, sumD, htk, pureRow_map] <;> rfl)) ?_ | refine Head.p hF rfl rfl rfl ?_
    first | refine Head.v hF rfl rfl rfl (opV_fieldAddr rfl rfl (by simp (disch := omega) only [go_sem, Nat.reduceEqDiff, iteP, clmD, Clm.row, ressL, sumD, htk, pureRow_map] <;> rfl)) ?_ | refine Head.p hF rfl rfl rfl ?_
    first | refine Head.v hF rfl rfl rfl (opV_load rfl rfl (by simp (disch := omega) only [go_sem, Nat.reduceEqDiff, iteP, clmD, Clm.row, ressL, sumD, htk, pureRow_map] <;> rfl)) ?_ | refine Head.p hF rfl rfl rfl ?_
    first | refine Head.v hF rfl rfl rfl (opV_bin rfl rfl rfl (by first | exact rd_geqT _ _ _ _ _ (by omega) | exact rd_geqF _ _ _ _ _ (by omega) | exact rb_geq _ _ _ _ _ _ _)) ?_ | refine Head.p hF rfl rfl rfl ?_
    first | refine Head.v hF rfl rfl rfl (opV_pickT rfl rfl rfl) ?_ | refine Head.v hF rfl rfl rfl (opV_pickF rfl rfl rfl) ?_
    refine Head.v hF rfl rfl rfl (opV_move rfl rfl) ?_
    first | refine Head.v hF rfl rfl rfl (opV_fieldAddr rfl rfl (by simp (disch := omega) only [go_sem, Nat.reduceEqDiff, iteP, clmD, Clm.row, ressL, sumD, htk, pureRow_map] <;> rfl)) ?_ | refine Head.p hF rfl rfl rfl ?_
    first | refine Head.v hF rfl rfl rfl (opV_load rfl rfl (by simp (disch := omega) only [go_sem, Nat.reduceEqDiff, iteP, clmD, Clm.row, ressL, sumD, htk, pureRow_map] <;> rfl)) ?_ | refine Head.p hF rfl rfl rfl ?_
    first | refine Head.v hF rfl rfl rfl (opV_len rfl rfl (by simp (disch := omega) only [go_sem, Nat.reduceEqDiff, iteP, clmD, Clm.row, ressL, sumD, htk, pureRow_map] <;> rfl)) ?_ | refine Head.p hF rfl rfl rfl ?_
    first | refine Head.v hF rfl rfl rfl (opV_fieldAddr rfl rfl (by simp (disch := omega) only [go_sem, Nat.reduceEqDiff, iteP, clmD, Clm.row, ressL, sumD, htk, pureRow_map] <;> rfl)) ?_ | refine Head.p hF rfl rfl rfl ?_
    first | refine Head.v hF rfl rfl rfl (opV_load rfl rfl (by simp (disch := omega) only [go_sem, Nat.reduceEqDiff, iteP, clmD, Clm.row, ressL, sumD, htk, pureRow_map] <;> rfl)) ?_ | refine Head.p hF rfl rfl rfl ?_
    first | refine Head.v hF rfl rfl rfl (opV_fieldAddr rfl rfl (by simp (disch := omega) only [go_sem, Nat.reduceEqDiff, iteP, clmD, Clm.row, ressL, sumD, htk, pureRow_map] <;> rfl)) ?_ | refine Head.p hF rfl rfl rfl ?_
    first | refine Head.v hF rfl rfl rfl (opV_load rfl rfl (by simp (disch := omega) only [go_sem, Nat.reduceEqDiff, iteP, clmD, Clm.row, ressL, sumD, htk, pureRow_map] <;> rfl)) ?_ | refine Head.p hF rfl rfl rfl ?_
    first | refine Head.v hF rfl rfl rfl (opV_bin rfl rfl rfl (by first | exact rd_sub _ _ _ _ _ (wrapI64 _ (by omega)) | exact rb_sub _ _ _ _ _ _ _)) ?_ | refine Head.p hF rfl rfl rfl ?_
    first | refine Head.v hF rfl rfl rfl (opV_bin rfl rfl rfl (by first | exact rd_eqlT _ _ _ _ _ (by omega) | exact rd_eqlF _ _ _ _ _ (by omega) | exact rb_eql _ _ _ _ _ _ _)) ?_ | refine Head.p hF rfl rfl rfl ?_
    first | refine Head.v hF rfl rfl rfl (opV_pickT rfl rfl rfl) ?_ | refine Head.v hF rfl rfl rfl (opV_pickF rfl rfl rfl) ?_
    refine Head.v hF rfl rfl rfl (opV_move rfl rfl) ?_
    first | refine Head.v hF rfl rfl rfl (opV_fieldAddr rfl rfl (by simp (disch := omega) only [go_sem, Nat.reduceEqDiff, iteP, clmD, Clm.row, ressL, sumD, htk, pureRow_map] <;> rfl)) ?_ | refine Head.p hF rfl rfl rfl ?_
    first | refine Head.v hF rfl rfl rfl (opV_load rfl rfl (by simp (disch := omega) only [go_sem, Nat.reduceEqDiff, iteP, clmD, Clm.row, ressL, sumD, htk, pureRow_map] <;> rfl)) ?_ | refine Head.p hF rfl rfl rfl ?_
    first | refine Head.v hF rfl rfl rfl (opV_fieldAddr rfl rfl (by simp (disch := omega) only [go_sem, Nat.reduceEqDiff, iteP, clmD, Clm.row, ressL, sumD, htk, pureRow_map] <;> rfl)) ?_ | refine Head.p hF rfl rfl rfl ?_
    first | refine Head.v hF rfl rfl rfl (opV_load rfl rfl (by simp (disch := omega) only [go_sem, Nat.reduceEqDiff, iteP, clmD, Clm.row, ressL, sumD, htk, pureRow_map] <;> rfl)) ?_ | refine Head.p hF rfl rfl rfl ?_
    first | refine Head.c hF rfl rfl (by kernel_rfl) rfl rfl rfl (hR) ?_ | refine Head.p hF rfl rfl rfl ?_
    first | refine Head.v hF rfl rfl rfl (opV_eqA rfl rfl rfl (eq_sum' hr hRl hcc)) ?_ | refine Head.p hF rfl rfl rfl ?_
    first | refine Head.v hF rfl rfl rfl (opV_pickT rfl rfl rfl) ?_ | refine Head.v hF rfl rfl rfl (opV_pickF rfl rfl rfl) ?_
    refine Head.v hF rfl rfl rfl (opV_assign rfl rfl) ?_
    refine Head.last ⟨rfl, ?_⟩
    simp only [List.drop_succ_cons, List.drop_zero, List.drop_nil, List.nil_append, List.cons_append]
    refine SmG.nil ?_
    refine nextS_normal ?_
    refine Sm.ret ?_
    refine ⟨_, rfl, ?_⟩; exact D.le.refl _
end Go.Proofs.YtagfaaijgfigkaaDoor
namespace Go.Proofs.YtagfaaijgfigkaaDoor
open Go.RowKit
set_option maxRecDepth 100000
def partD4 (who t a b : Int) : D := .agg 4 [.v (.int .i64 who), .v (.int .i64 t), .v (.int .i64 a), .v (.int .i64 b)]
def saidD (c : Clm × Bool) : D := .agg 37 (c.1.row ++ [.v (.bool c.2)])
theorem noSaid_le : (D.agg 37 (.v (.int .i64 0) :: .v (.int .i64 0) :: .v (.int .i64 0) :: .list 0 [] true :: (rowS (List.replicate 32 0) ++ [.v (.bool false)]))).le (saidD (noClm, false)) :=
  D.le_agg ⟨D.le.refl _, D.le.refl _, D.le.refl _, D.le_nil' 0 2 true, leL.refl _⟩
theorem refWork_range (x : Wk) (who t : Int) (v : List Res) (a b : Int) (h : a < 0 ∨ (0 ≤ a ∧ (b < a ∨ (a ≤ b ∧ (v.length : Int) < b)))) : CallsD Tryd.prog HG 15 [wkD x, partD4 who t a b, ressL v] (saidD (noClm, false)) := by
  rcases h with h | ⟨h, h' | ⟨h', h''⟩⟩
  all_goals
    refine CallsD.of Tryd.func15 rfl Tryd.ntmps15 (by simp) ?_; intro F hF h0 hT; simp only [List.zipIdx_cons, List.zipIdx_nil, List.map_cons, List.map_nil, Nat.zero_add, Nat.reduceAdd]
    refine Sm.seq ?_
    refine Sm.regionG hF rfl ?_
    refine SmG.new hF rfl rfl rfl (opS_box rfl rfl (by simp (disch := omega) only [go_sem, Nat.reduceEqDiff, iteP, wkD, Wk.row, ressL, Res.row, partD4] <;> rfl)) ?_
    refine SmG.new hF rfl rfl rfl (opS_box rfl rfl (by simp (disch := omega) only [go_sem, Nat.reduceEqDiff, iteP, wkD, Wk.row, ressL, Res.row, partD4] <;> rfl)) ?_
    refine SmG.new hF rfl rfl rfl (opS_alloc rfl al43) ?_
    refine SmG.nil ?_
    refine nextS_normal ?_
    refine Sm.seq ?_
    refine Sm.seq ?_
    refine Sm.regionG hF rfl ?_
    refine SmG.v hF rfl rfl rfl (opV_fieldAddr rfl rfl (by simp (disch := omega) only [go_sem, Nat.reduceEqDiff, iteP, wkD, Wk.row, ressL, Res.row, partD4] <;> rfl)) ?_
    refine SmG.v hF rfl rfl rfl (opV_load rfl rfl (by simp (disch := omega) only [go_sem, Nat.reduceEqDiff, iteP, wkD, Wk.row, ressL, Res.row, partD4] <;> rfl)) ?_
    refine SmG.v hF rfl rfl rfl (opV_bin rfl rfl rfl (by first | exact rd_lssT _ _ _ _ _ (by omega) | exact rd_lssF _ _ _ _ _ (by omega) | exact rb_lss _ _ _ _ _ _ _)) ?_
    refine SmG.v hF rfl rfl rfl (opV_move rfl rfl) ?_
    first | refine SmG.v hF rfl rfl rfl (opV_fieldAddr rfl rfl (by simp (disch := omega) only [go_sem, Nat.reduceEqDiff, iteP, wkD, Wk.row, ressL, Res.row, partD4] <;> rfl)) ?_ | refine SmG.pass hF rfl rfl rfl ?_
    first | refine SmG.v hF rfl rfl rfl (opV_load rfl rfl (by simp (disch := omega) only [go_sem, Nat.reduceEqDiff, iteP, wkD, Wk.row, ressL, Res.row, partD4] <;> rfl)) ?_ | refine SmG.pass hF rfl rfl rfl ?_
    first | refine SmG.v hF rfl rfl rfl (opV_fieldAddr rfl rfl (by simp (disch := omega) only [go_sem, Nat.reduceEqDiff, iteP, wkD, Wk.row, ressL, Res.row, partD4] <;> rfl)) ?_ | refine SmG.pass hF rfl rfl rfl ?_
    first | refine SmG.v hF rfl rfl rfl (opV_load rfl rfl (by simp (disch := omega) only [go_sem, Nat.reduceEqDiff, iteP, wkD, Wk.row, ressL, Res.row, partD4] <;> rfl)) ?_ | refine SmG.pass hF rfl rfl rfl ?_
    first | refine SmG.v hF rfl rfl rfl (opV_bin rfl rfl rfl (by first | exact rd_lssT _ _ _ _ _ (by omega) | exact rd_lssF _ _ _ _ _ (by omega) | exact rb_lss _ _ _ _ _ _ _)) ?_ | refine SmG.pass hF rfl rfl rfl ?_
    first | refine SmG.v hF rfl rfl rfl (opV_pickT rfl rfl rfl) ?_ | refine SmG.v hF rfl rfl rfl (opV_pickF rfl rfl rfl) ?_
    refine SmG.v hF rfl rfl rfl (opV_move rfl rfl) ?_
    first | refine SmG.v hF rfl rfl rfl (opV_fieldAddr rfl rfl (by simp (disch := omega) only [go_sem, Nat.reduceEqDiff, iteP, wkD, Wk.row, ressL, Res.row, partD4] <;> rfl)) ?_ | refine SmG.pass hF rfl rfl rfl ?_
    first | refine SmG.v hF rfl rfl rfl (opV_load rfl rfl (by simp (disch := omega) only [go_sem, Nat.reduceEqDiff, iteP, wkD, Wk.row, ressL, Res.row, partD4] <;> rfl)) ?_ | refine SmG.pass hF rfl rfl rfl ?_
    first | refine SmG.v hF rfl rfl rfl (opV_move rfl rfl) ?_ | refine SmG.pass hF rfl rfl rfl ?_
    first | refine SmG.v hF rfl rfl rfl (opV_len rfl rfl (by simp (disch := omega) only [go_sem, Nat.reduceEqDiff, iteP, wkD, Wk.row, ressL, Res.row, partD4] <;> rfl)) ?_ | refine SmG.pass hF rfl rfl rfl ?_
    first | refine SmG.v hF rfl rfl rfl (opV_bin rfl rfl rfl (by first | exact rd_gtrT _ _ _ _ _ (by omega) | exact rd_gtrF _ _ _ _ _ (by omega) | exact rb_gtr _ _ _ _ _ _ _)) ?_ | refine SmG.pass hF rfl rfl rfl ?_
    first | refine SmG.v hF rfl rfl rfl (opV_pickT rfl rfl rfl) ?_ | refine SmG.v hF rfl rfl rfl (opV_pickF rfl rfl rfl) ?_
    refine SmG.nil ?_
    refine nextS_normal ?_
    refine Sm.condT hF rfl ?_
    refine Sm.seq ?_
    refine Sm.regionG hF rfl ?_
    refine SmG.v hF rfl rfl rfl (opV_buildT rfl Tryd.underlying43 (by kernel_rfl) rfl bz43) ?_
    refine SmG.store hF rfl rfl rfl rfl rfl (by simp (disch := omega) only [go_sem, Nat.reduceEqDiff, iteP, wkD, Wk.row, ressL, Res.row, partD4] <;> rfl) ?_
    refine SmG.nil ?_
    refine nextS_normal ?_
    refine Sm.ret ?_
    simp only [nextS, blockS]
    refine retQ_cell rfl rfl (by simp (disch := omega) only [go_sem, Nat.reduceEqDiff, iteP, noClm] <;> rfl) ?_
    exact noSaid_le
theorem refWork_kind (x : Wk) (who t : Int) (v : List Res) (a b : Int) (h1 : 0 ≤ a) (h2 : a ≤ b) (h3 : b ≤ v.length) (h : (x.kind ≠ 1 ∧ x.kind ≠ 4 ∧ x.kind ≠ 3) ∨ (x.kind = 3 ∧ t < x.n)) : CallsD Tryd.prog HG 15 [wkD x, partD4 who t a b, ressL v] (saidD (noClm, false)) := by
  rcases h with ⟨h, h', h''⟩ | ⟨h, h'⟩
  all_goals
    refine CallsD.of Tryd.func15 rfl Tryd.ntmps15 (by simp) ?_; intro F hF h0 hT; simp only [List.zipIdx_cons, List.zipIdx_nil, List.map_cons, List.map_nil, Nat.zero_add, Nat.reduceAdd]
    refine Sm.seq ?_
    refine Sm.regionG hF rfl ?_
    refine SmG.new hF rfl rfl rfl (opS_box rfl rfl (by simp (disch := omega) only [go_sem, Nat.reduceEqDiff, iteP, wkD, Wk.row, ressL, Res.row, partD4] <;> rfl)) ?_
    refine SmG.new hF rfl rfl rfl (opS_box rfl rfl (by simp (disch := omega) only [go_sem, Nat.reduceEqDiff, iteP, wkD, Wk.row, ressL, Res.row, partD4] <;> rfl)) ?_
    refine SmG.new hF rfl rfl rfl (opS_alloc rfl al43) ?_
    refine SmG.nil ?_
    refine nextS_normal ?_
    refine Sm.seq ?_
    refine Sm.seq ?_
    refine Sm.regionG hF rfl ?_
    refine SmG.v hF rfl rfl rfl (opV_fieldAddr rfl rfl (by simp (disch := omega) only [go_sem, Nat.reduceEqDiff, iteP, wkD, Wk.row, ressL, Res.row, partD4] <;> rfl)) ?_
    refine SmG.v hF rfl rfl rfl (opV_load rfl rfl (by simp (disch := omega) only [go_sem, Nat.reduceEqDiff, iteP, wkD, Wk.row, ressL, Res.row, partD4] <;> rfl)) ?_
    refine SmG.v hF rfl rfl rfl (opV_bin rfl rfl rfl (by first | exact rd_lssT _ _ _ _ _ (by omega) | exact rd_lssF _ _ _ _ _ (by omega) | exact rb_lss _ _ _ _ _ _ _)) ?_
    refine SmG.v hF rfl rfl rfl (opV_move rfl rfl) ?_
    first | refine SmG.v hF rfl rfl rfl (opV_fieldAddr rfl rfl (by simp (disch := omega) only [go_sem, Nat.reduceEqDiff, iteP, wkD, Wk.row, ressL, Res.row, partD4] <;> rfl)) ?_ | refine SmG.pass hF rfl rfl rfl ?_
    first | refine SmG.v hF rfl rfl rfl (opV_load rfl rfl (by simp (disch := omega) only [go_sem, Nat.reduceEqDiff, iteP, wkD, Wk.row, ressL, Res.row, partD4] <;> rfl)) ?_ | refine SmG.pass hF rfl rfl rfl ?_
    first | refine SmG.v hF rfl rfl rfl (opV_fieldAddr rfl rfl (by simp (disch := omega) only [go_sem, Nat.reduceEqDiff, iteP, wkD, Wk.row, ressL, Res.row, partD4] <;> rfl)) ?_ | refine SmG.pass hF rfl rfl rfl ?_
    first | refine SmG.v hF rfl rfl rfl (opV_load rfl rfl (by simp (disch := omega) only [go_sem, Nat.reduceEqDiff, iteP, wkD, Wk.row, ressL, Res.row, partD4] <;> rfl)) ?_ | refine SmG.pass hF rfl rfl rfl ?_
    first | refine SmG.v hF rfl rfl rfl (opV_bin rfl rfl rfl (by first | exact rd_lssT _ _ _ _ _ (by omega) | exact rd_lssF _ _ _ _ _ (by omega) | exact rb_lss _ _ _ _ _ _ _)) ?_ | refine SmG.pass hF rfl rfl rfl ?_
    first | refine SmG.v hF rfl rfl rfl (opV_pickT rfl rfl rfl) ?_ | refine SmG.v hF rfl rfl rfl (opV_pickF rfl rfl rfl) ?_
    refine SmG.v hF rfl rfl rfl (opV_move rfl rfl) ?_
    first | refine SmG.v hF rfl rfl rfl (opV_fieldAddr rfl rfl (by simp (disch := omega) only [go_sem, Nat.reduceEqDiff, iteP, wkD, Wk.row, ressL, Res.row, partD4] <;> rfl)) ?_ | refine SmG.pass hF rfl rfl rfl ?_
    first | refine SmG.v hF rfl rfl rfl (opV_load rfl rfl (by simp (disch := omega) only [go_sem, Nat.reduceEqDiff, iteP, wkD, Wk.row, ressL, Res.row, partD4] <;> rfl)) ?_ | refine SmG.pass hF rfl rfl rfl ?_
    first | refine SmG.v hF rfl rfl rfl (opV_move rfl rfl) ?_ | refine SmG.pass hF rfl rfl rfl ?_
    first | refine SmG.v hF rfl rfl rfl (opV_len rfl rfl (by simp (disch := omega) only [go_sem, Nat.reduceEqDiff, iteP, wkD, Wk.row, ressL, Res.row, partD4] <;> rfl)) ?_ | refine SmG.pass hF rfl rfl rfl ?_
    first | refine SmG.v hF rfl rfl rfl (opV_bin rfl rfl rfl (by first | exact rd_gtrT _ _ _ _ _ (by omega) | exact rd_gtrF _ _ _ _ _ (by omega) | exact rb_gtr _ _ _ _ _ _ _)) ?_ | refine SmG.pass hF rfl rfl rfl ?_
    first | refine SmG.v hF rfl rfl rfl (opV_pickT rfl rfl rfl) ?_ | refine SmG.v hF rfl rfl rfl (opV_pickF rfl rfl rfl) ?_
    refine SmG.nil ?_
    refine nextS_normal ?_
    refine Sm.condF hF rfl ?_
    refine Sm.skip ?_
    refine nextS_normal ?_
    refine Sm.seq ?_
    refine Sm.seq ?_
    refine Sm.regionG hF rfl ?_
    refine SmG.v hF rfl rfl rfl (opV_fieldAddr rfl rfl (by simp (disch := omega) only [go_sem, Nat.reduceEqDiff, iteP, wkD, Wk.row, ressL, Res.row, partD4] <;> rfl)) ?_
    refine SmG.v hF rfl rfl rfl (opV_load rfl rfl (by simp (disch := omega) only [go_sem, Nat.reduceEqDiff, iteP, wkD, Wk.row, ressL, Res.row, partD4] <;> rfl)) ?_
    refine SmG.v hF rfl rfl rfl (opV_bin rfl rfl rfl (by first | exact rd_neqT _ _ _ _ _ (by omega) | exact rd_neqF _ _ _ _ _ (by omega) | exact rb_neq _ _ _ _ _ _ _)) ?_
    refine SmG.v hF rfl rfl rfl (opV_move rfl rfl) ?_
    first | refine SmG.v hF rfl rfl rfl (opV_fieldAddr rfl rfl (by simp (disch := omega) only [go_sem, Nat.reduceEqDiff, iteP, wkD, Wk.row, ressL, Res.row, partD4] <;> rfl)) ?_ | refine SmG.pass hF rfl rfl rfl ?_
    first | refine SmG.v hF rfl rfl rfl (opV_load rfl rfl (by simp (disch := omega) only [go_sem, Nat.reduceEqDiff, iteP, wkD, Wk.row, ressL, Res.row, partD4] <;> rfl)) ?_ | refine SmG.pass hF rfl rfl rfl ?_
    first | refine SmG.v hF rfl rfl rfl (opV_bin rfl rfl rfl (by first | exact rd_neqT _ _ _ _ _ (by omega) | exact rd_neqF _ _ _ _ _ (by omega) | exact rb_neq _ _ _ _ _ _ _)) ?_ | refine SmG.pass hF rfl rfl rfl ?_
    first | refine SmG.v hF rfl rfl rfl (opV_pickT rfl rfl rfl) ?_ | refine SmG.v hF rfl rfl rfl (opV_pickF rfl rfl rfl) ?_
    refine SmG.v hF rfl rfl rfl (opV_move rfl rfl) ?_
    first | refine SmG.v hF rfl rfl rfl (opV_fieldAddr rfl rfl (by simp (disch := omega) only [go_sem, Nat.reduceEqDiff, iteP, wkD, Wk.row, ressL, Res.row, partD4] <;> rfl)) ?_ | refine SmG.pass hF rfl rfl rfl ?_
    first | refine SmG.v hF rfl rfl rfl (opV_load rfl rfl (by simp (disch := omega) only [go_sem, Nat.reduceEqDiff, iteP, wkD, Wk.row, ressL, Res.row, partD4] <;> rfl)) ?_ | refine SmG.pass hF rfl rfl rfl ?_
    first | refine SmG.v hF rfl rfl rfl (opV_bin rfl rfl rfl (by first | exact rd_eqlT _ _ _ _ _ (by omega) | exact rd_eqlF _ _ _ _ _ (by omega) | exact rb_eql _ _ _ _ _ _ _)) ?_ | refine SmG.pass hF rfl rfl rfl ?_
    first | refine SmG.v hF rfl rfl rfl (opV_move rfl rfl) ?_ | refine SmG.pass hF rfl rfl rfl ?_
    first | refine SmG.v hF rfl rfl rfl (opV_fieldAddr rfl rfl (by simp (disch := omega) only [go_sem, Nat.reduceEqDiff, iteP, wkD, Wk.row, ressL, Res.row, partD4] <;> rfl)) ?_ | refine SmG.pass hF rfl rfl rfl ?_
    first | refine SmG.v hF rfl rfl rfl (opV_load rfl rfl (by simp (disch := omega) only [go_sem, Nat.reduceEqDiff, iteP, wkD, Wk.row, ressL, Res.row, partD4] <;> rfl)) ?_ | refine SmG.pass hF rfl rfl rfl ?_
    first | refine SmG.v hF rfl rfl rfl (opV_fieldAddr rfl rfl (by simp (disch := omega) only [go_sem, Nat.reduceEqDiff, iteP, wkD, Wk.row, ressL, Res.row, partD4] <;> rfl)) ?_ | refine SmG.pass hF rfl rfl rfl ?_
    first | refine SmG.v hF rfl rfl rfl (opV_load rfl rfl (by simp (disch := omega) only [go_sem, Nat.reduceEqDiff, iteP, wkD, Wk.row, ressL, Res.row, partD4] <;> rfl)) ?_ | refine SmG.pass hF rfl rfl rfl ?_
    first | refine SmG.v hF rfl rfl rfl (opV_bin rfl rfl rfl (by first | exact rd_geqT _ _ _ _ _ (by omega) | exact rd_geqF _ _ _ _ _ (by omega) | exact rb_geq _ _ _ _ _ _ _)) ?_ | refine SmG.pass hF rfl rfl rfl ?_
    first | refine SmG.v hF rfl rfl rfl (opV_pickT rfl rfl rfl) ?_ | refine SmG.v hF rfl rfl rfl (opV_pickF rfl rfl rfl) ?_ | refine SmG.pass hF rfl rfl rfl ?_
    first | refine SmG.v hF rfl rfl rfl (opV_un rfl rfl (by first | exact rd_notT _ | exact rd_notF _ | exact rd_not _)) ?_ | refine SmG.pass hF rfl rfl rfl ?_
    first | refine SmG.v hF rfl rfl rfl (opV_pickT rfl rfl rfl) ?_ | refine SmG.v hF rfl rfl rfl (opV_pickF rfl rfl rfl) ?_
    refine SmG.nil ?_
    refine nextS_normal ?_
    refine Sm.condT hF rfl ?_
    refine Sm.seq ?_
    refine Sm.regionG hF rfl ?_
    refine SmG.v hF rfl rfl rfl (opV_buildT rfl Tryd.underlying43 (by kernel_rfl) rfl bz43) ?_
    refine SmG.store hF rfl rfl rfl rfl rfl (by simp (disch := omega) only [go_sem, Nat.reduceEqDiff, iteP, wkD, Wk.row, ressL, Res.row, partD4] <;> rfl) ?_
    refine SmG.nil ?_
    refine nextS_normal ?_
    refine Sm.ret ?_
    simp only [nextS, blockS]
    refine retQ_cell rfl rfl (by simp (disch := omega) only [go_sem, Nat.reduceEqDiff, iteP, noClm] <;> rfl) ?_
    exact noSaid_le
set_option maxHeartbeats 2000000 in
theorem refWork_yes (x : Wk) (who t : Int) (v l : List Res) (a b : Nat) (hl : v.length ≤ 1000000) (h2 : a ≤ b) (h3 : b ≤ v.length) (hk : x.kind = 1 ∨ (x.kind = 3 ∧ x.n ≤ t) ∨ x.kind = 4) (hll : l.length = b - a)
    (hget : ∀ j, j < b - a → l[j]? = if x.kind = 4 ∧ ((a + j : Nat) : Int) = x.at_ then some x.by_ else v[a + j]?) : CallsD Tryd.prog HG 15 [wkD x, partD4 who t a b, ressL v] (saidD (⟨who, a, b, l, Sha.root (l.map resBytes)⟩, true)) := by
  have hRl := Sha.root_len (l.map resBytes)
  have hR := refRoot17_D l (by omega)
  generalize Sha.root (l.map resBytes) = R at hR hRl ⊢
  refine CallsD.of Tryd.func15 rfl Tryd.ntmps15 (by simp) ?_; intro F hF h0 hT; simp only [List.zipIdx_cons, List.zipIdx_nil, List.map_cons, List.map_nil, Nat.zero_add, Nat.reduceAdd]
  refine Sm.seq ?_
  refine Sm.regionG hF rfl ?_
  refine SmG.new hF rfl rfl rfl (opS_box rfl rfl (by simp (disch := omega) only [go_sem, Nat.reduceEqDiff, iteP, wkD, Wk.row, ressL, Res.row, partD4, List.length_map] <;> rfl)) ?_
  refine SmG.new hF rfl rfl rfl (opS_box rfl rfl (by simp (disch := omega) only [go_sem, Nat.reduceEqDiff, iteP, wkD, Wk.row, ressL, Res.row, partD4, List.length_map] <;> rfl)) ?_
  refine SmG.new hF rfl rfl rfl (opS_alloc rfl al43) ?_
  refine SmG.nil ?_
  refine nextS_normal ?_
  refine Sm.seq ?_
  refine Sm.seq ?_
  refine Sm.regionG hF rfl ?_
  refine SmG.v hF rfl rfl rfl (opV_fieldAddr rfl rfl (by simp (disch := omega) only [go_sem, Nat.reduceEqDiff, iteP, wkD, Wk.row, ressL, Res.row, partD4, List.length_map] <;> rfl)) ?_
  refine SmG.v hF rfl rfl rfl (opV_load rfl rfl (by simp (disch := omega) only [go_sem, Nat.reduceEqDiff, iteP, wkD, Wk.row, ressL, Res.row, partD4, List.length_map] <;> rfl)) ?_
  refine SmG.v hF rfl rfl rfl (opV_bin rfl rfl rfl (by first | exact rd_lssT _ _ _ _ _ (by omega) | exact rd_lssF _ _ _ _ _ (by omega) | exact rb_lss _ _ _ _ _ _ _)) ?_
  refine SmG.v hF rfl rfl rfl (opV_move rfl rfl) ?_
  first | refine SmG.v hF rfl rfl rfl (opV_fieldAddr rfl rfl (by simp (disch := omega) only [go_sem, Nat.reduceEqDiff, iteP, wkD, Wk.row, ressL, Res.row, partD4, List.length_map] <;> rfl)) ?_ | refine SmG.pass hF rfl rfl rfl ?_
  first | refine SmG.v hF rfl rfl rfl (opV_load rfl rfl (by simp (disch := omega) only [go_sem, Nat.reduceEqDiff, iteP, wkD, Wk.row, ressL, Res.row, partD4, List.length_map] <;> rfl)) ?_ | refine SmG.pass hF rfl rfl rfl ?_
  first | refine SmG.v hF rfl rfl rfl (opV_fieldAddr rfl rfl (by simp (disch := omega) only [go_sem, Nat.reduceEqDiff, iteP, wkD, Wk.row, ressL, Res.row, partD4, List.length_map] <;> rfl)) ?_ | refine SmG.pass hF rfl rfl rfl ?_
  first | refine SmG.v hF rfl rfl rfl (opV_load rfl rfl (by simp (disch := omega) only [go_sem, Nat.reduceEqDiff, iteP, wkD, Wk.row, ressL, Res.row, partD4, List.length_map] <;> rfl)) ?_ | refine SmG.pass hF rfl rfl rfl ?_
  first | refine SmG.v hF rfl rfl rfl (opV_bin rfl rfl rfl (by first | exact rd_lssT _ _ _ _ _ (by omega) | exact rd_lssF _ _ _ _ _ (by omega) | exact rb_lss _ _ _ _ _ _ _)) ?_ | refine SmG.pass hF rfl rfl rfl ?_
  first | refine SmG.v hF rfl rfl rfl (opV_pickT rfl rfl rfl) ?_ | refine SmG.v hF rfl rfl rfl (opV_pickF rfl rfl rfl) ?_
  refine SmG.v hF rfl rfl rfl (opV_move rfl rfl) ?_
  first | refine SmG.v hF rfl rfl rfl (opV_fieldAddr rfl rfl (by simp (disch := omega) only [go_sem, Nat.reduceEqDiff, iteP, wkD, Wk.row, ressL, Res.row, partD4, List.length_map] <;> rfl)) ?_ | refine SmG.pass hF rfl rfl rfl ?_
  first | refine SmG.v hF rfl rfl rfl (opV_load rfl rfl (by simp (disch := omega) only [go_sem, Nat.reduceEqDiff, iteP, wkD, Wk.row, ressL, Res.row, partD4, List.length_map] <;> rfl)) ?_ | refine SmG.pass hF rfl rfl rfl ?_
  first | refine SmG.v hF rfl rfl rfl (opV_move rfl rfl) ?_ | refine SmG.pass hF rfl rfl rfl ?_
  first | refine SmG.v hF rfl rfl rfl (opV_len rfl rfl (by simp (disch := omega) only [go_sem, Nat.reduceEqDiff, iteP, wkD, Wk.row, ressL, Res.row, partD4, List.length_map] <;> rfl)) ?_ | refine SmG.pass hF rfl rfl rfl ?_
  first | refine SmG.v hF rfl rfl rfl (opV_bin rfl rfl rfl (by first | exact rd_gtrT _ _ _ _ _ (by omega) | exact rd_gtrF _ _ _ _ _ (by omega) | exact rb_gtr _ _ _ _ _ _ _)) ?_ | refine SmG.pass hF rfl rfl rfl ?_
  first | refine SmG.v hF rfl rfl rfl (opV_pickT rfl rfl rfl) ?_ | refine SmG.v hF rfl rfl rfl (opV_pickF rfl rfl rfl) ?_
  refine SmG.nil ?_
  refine nextS_normal ?_
  refine Sm.condF hF rfl ?_
  refine Sm.skip ?_
  refine nextS_normal ?_
  refine Sm.seq ?_
  refine Sm.seq ?_
  refine Sm.join (ι := Unit) (fun _ => ⟨[(2, .d (ressL v)), (3, .ref 0 0 0), (4, .ref 1 0 0), (6, .ref 2 0 0), (48, .d (.v (.bool false)))], [(2, dB 37 [.v (.int .i64 0) :: .v (.int .i64 0) :: .v (.int .i64 0) :: .list 0 [] true :: (rowS (List.replicate 32 0) ++ [.v (.bool false)])]), (1, dB 4 [[.v (.int .i64 who), .v (.int .i64 t), .v (.int .i64 a), .v (.int .i64 b)]]), (0, dB 5 [x.row])], 3⟩) ?_ ?_
  rotate_left
  · rcases hk with hk | ⟨hk, hk'⟩ | hk
    all_goals
      refine Sm.regionG hF rfl ?_
      refine SmG.v hF rfl rfl rfl (opV_fieldAddr rfl rfl (by simp (disch := omega) only [go_sem, Nat.reduceEqDiff, iteP, wkD, Wk.row, ressL, Res.row, partD4, List.length_map] <;> rfl)) ?_
      refine SmG.v hF rfl rfl rfl (opV_load rfl rfl (by simp (disch := omega) only [go_sem, Nat.reduceEqDiff, iteP, wkD, Wk.row, ressL, Res.row, partD4, List.length_map] <;> rfl)) ?_
      refine SmG.v hF rfl rfl rfl (opV_bin rfl rfl rfl (by first | exact rd_neqT _ _ _ _ _ (by omega) | exact rd_neqF _ _ _ _ _ (by omega) | exact rb_neq _ _ _ _ _ _ _)) ?_
      refine SmG.v hF rfl rfl rfl (opV_move rfl rfl) ?_
      first | refine SmG.v hF rfl rfl rfl (opV_fieldAddr rfl rfl (by simp (disch := omega) only [go_sem, Nat.reduceEqDiff, iteP, wkD, Wk.row, ressL, Res.row, partD4, List.length_map] <;> rfl)) ?_ | refine SmG.pass hF rfl rfl rfl ?_
      first | refine SmG.v hF rfl rfl rfl (opV_load rfl rfl (by simp (disch := omega) only [go_sem, Nat.reduceEqDiff, iteP, wkD, Wk.row, ressL, Res.row, partD4, List.length_map] <;> rfl)) ?_ | refine SmG.pass hF rfl rfl rfl ?_
      first | refine SmG.v hF rfl rfl rfl (opV_bin rfl rfl rfl (by first | exact rd_neqT _ _ _ _ _ (by omega) | exact rd_neqF _ _ _ _ _ (by omega) | exact rb_neq _ _ _ _ _ _ _)) ?_ | refine SmG.pass hF rfl rfl rfl ?_
      first | refine SmG.v hF rfl rfl rfl (opV_pickT rfl rfl rfl) ?_ | refine SmG.v hF rfl rfl rfl (opV_pickF rfl rfl rfl) ?_
      refine SmG.v hF rfl rfl rfl (opV_move rfl rfl) ?_
      first | refine SmG.v hF rfl rfl rfl (opV_fieldAddr rfl rfl (by simp (disch := omega) only [go_sem, Nat.reduceEqDiff, iteP, wkD, Wk.row, ressL, Res.row, partD4, List.length_map] <;> rfl)) ?_ | refine SmG.pass hF rfl rfl rfl ?_
      first | refine SmG.v hF rfl rfl rfl (opV_load rfl rfl (by simp (disch := omega) only [go_sem, Nat.reduceEqDiff, iteP, wkD, Wk.row, ressL, Res.row, partD4, List.length_map] <;> rfl)) ?_ | refine SmG.pass hF rfl rfl rfl ?_
      first | refine SmG.v hF rfl rfl rfl (opV_bin rfl rfl rfl (by first | exact rd_eqlT _ _ _ _ _ (by omega) | exact rd_eqlF _ _ _ _ _ (by omega) | exact rb_eql _ _ _ _ _ _ _)) ?_ | refine SmG.pass hF rfl rfl rfl ?_
      first | refine SmG.v hF rfl rfl rfl (opV_move rfl rfl) ?_ | refine SmG.pass hF rfl rfl rfl ?_
      first | refine SmG.v hF rfl rfl rfl (opV_fieldAddr rfl rfl (by simp (disch := omega) only [go_sem, Nat.reduceEqDiff, iteP, wkD, Wk.row, ressL, Res.row, partD4, List.length_map] <;> rfl)) ?_ | refine SmG.pass hF rfl rfl rfl ?_
      first | refine SmG.v hF rfl rfl rfl (opV_load rfl rfl (by simp (disch := omega) only [go_sem, Nat.reduceEqDiff, iteP, wkD, Wk.row, ressL, Res.row, partD4, List.length_map] <;> rfl)) ?_ | refine SmG.pass hF rfl rfl rfl ?_
      first | refine SmG.v hF rfl rfl rfl (opV_fieldAddr rfl rfl (by simp (disch := omega) only [go_sem, Nat.reduceEqDiff, iteP, wkD, Wk.row, ressL, Res.row, partD4, List.length_map] <;> rfl)) ?_ | refine SmG.pass hF rfl rfl rfl ?_
      first | refine SmG.v hF rfl rfl rfl (opV_load rfl rfl (by simp (disch := omega) only [go_sem, Nat.reduceEqDiff, iteP, wkD, Wk.row, ressL, Res.row, partD4, List.length_map] <;> rfl)) ?_ | refine SmG.pass hF rfl rfl rfl ?_
      first | refine SmG.v hF rfl rfl rfl (opV_bin rfl rfl rfl (by first | exact rd_geqT _ _ _ _ _ (by omega) | exact rd_geqF _ _ _ _ _ (by omega) | exact rb_geq _ _ _ _ _ _ _)) ?_ | refine SmG.pass hF rfl rfl rfl ?_
      first | refine SmG.v hF rfl rfl rfl (opV_pickT rfl rfl rfl) ?_ | refine SmG.v hF rfl rfl rfl (opV_pickF rfl rfl rfl) ?_ | refine SmG.pass hF rfl rfl rfl ?_
      first | refine SmG.v hF rfl rfl rfl (opV_un rfl rfl (by first | exact rd_notT _ | exact rd_notF _ | exact rd_not _)) ?_ | refine SmG.pass hF rfl rfl rfl ?_
      first | refine SmG.v hF rfl rfl rfl (opV_pickT rfl rfl rfl) ?_ | refine SmG.v hF rfl rfl rfl (opV_pickF rfl rfl rfl) ?_
      refine SmG.nil ?_
      refine nextS_normal ?_
      exact ⟨(), St.le_of ⟨rfl, rfl, rfl, rfl, rfl, trivial⟩ ⟨rfl, rfl, rfl, trivial⟩ (Nat.le_refl _)⟩
  intro _
  skip
  refine Sm.condF hF rfl ?_
  refine Sm.skip ?_
  refine nextS_normal ?_
  refine Sm.seq ?_
  refine Sm.regionG hF rfl ?_
  refine SmG.v hF rfl rfl rfl (opV_fieldAddr rfl rfl (by simp (disch := omega) only [go_sem, Nat.reduceEqDiff, iteP, wkD, Wk.row, ressL, Res.row, partD4, List.length_map] <;> rfl)) ?_
  refine SmG.v hF rfl rfl rfl (opV_load rfl rfl (by simp (disch := omega) only [go_sem, Nat.reduceEqDiff, iteP, wkD, Wk.row, ressL, Res.row, partD4, List.length_map] <;> rfl)) ?_
  refine SmG.v hF rfl rfl rfl (opV_fieldAddr rfl rfl (by simp (disch := omega) only [go_sem, Nat.reduceEqDiff, iteP, wkD, Wk.row, ressL, Res.row, partD4, List.length_map] <;> rfl)) ?_
  refine SmG.v hF rfl rfl rfl (opV_load rfl rfl (by simp (disch := omega) only [go_sem, Nat.reduceEqDiff, iteP, wkD, Wk.row, ressL, Res.row, partD4, List.length_map] <;> rfl)) ?_
  refine SmG.v hF rfl rfl rfl (opV_fieldAddr rfl rfl (by simp (disch := omega) only [go_sem, Nat.reduceEqDiff, iteP, wkD, Wk.row, ressL, Res.row, partD4, List.length_map] <;> rfl)) ?_
  refine SmG.v hF rfl rfl rfl (opV_load rfl rfl (by simp (disch := omega) only [go_sem, Nat.reduceEqDiff, iteP, wkD, Wk.row, ressL, Res.row, partD4, List.length_map] <;> rfl)) ?_
  refine SmG.v hF rfl rfl rfl (opV_buildT rfl Tryd.underlying41 (by kernel_rfl) rfl (buildS_struct (n := 36) ze41 pl41 rfl (by repeat' first | apply fill_oneE rfl rfl (by first | rfl | simp [rowS, wkD, Wk.row, ressL, Res.row, partD4, List.length_map]) | apply fill_aggE rfl rfl rfl (by first | assumption | simp [rowS, wkD, Wk.row, ressL, Res.row, partD4, List.length_map]) | (apply fillE; simp only [List.set_cons_succ, List.set_cons_zero, List.take_succ_cons, List.take_zero, List.drop_succ_cons, List.drop_zero, List.drop_nil, List.cons_append, List.nil_append, List.append_nil, wkD, Wk.row, ressL, Res.row, partD4, List.length_map] <;> rfl)))) ?_
  refine SmG.new hF rfl rfl rfl (opS_alloc rfl al41) ?_
  refine SmG.store hF rfl rfl rfl rfl rfl (by simp (disch := omega) only [go_sem, Nat.reduceEqDiff, iteP, wkD, Wk.row, ressL, Res.row, partD4, List.length_map] <;> rfl) ?_
  refine SmG.nil ?_
  refine nextS_normal ?_
  refine Sm.seq ?_
  refine Sm.seq ?_
  refine Sm.regionG hF rfl ?_
  refine SmG.v hF rfl rfl rfl (opV_fieldAddr rfl rfl (by simp (disch := omega) only [go_sem, Nat.reduceEqDiff, iteP, wkD, Wk.row, ressL, Res.row, partD4, List.length_map] <;> rfl)) ?_
  refine SmG.v hF rfl rfl rfl (opV_load rfl rfl (by simp (disch := omega) only [go_sem, Nat.reduceEqDiff, iteP, wkD, Wk.row, ressL, Res.row, partD4, List.length_map] <;> rfl)) ?_
  refine SmG.v hF rfl rfl rfl (opV_assign rfl rfl) ?_
  refine SmG.nil ?_
  refine nextS_normal ?_
  refine Sm.block ?_
  have hrow3 : ∀ (xs : List V), (xs ++ (rowS (List.replicate 32 0)).map V.d) = xs ++ (rowS (List.replicate 32 0)).map V.d := fun _ => rfl
  refine Sm.ownCell 3 0 3 2 rfl rfl rfl ?_
  obtain ⟨zs, hzs⟩ : ∃ zs : List D, zs = rowS (List.replicate 32 0) := ⟨_, rfl⟩
  have hzd : (zs.map V.d).drop 32 = [] := by rw [hzs]; rfl
  refine Sm.loop (ι := {j : Nat // j ≤ b - a}) (fun j => ⟨[(2, .d (ressL v)), (3, .ref 0 0 0), (4, .ref 1 0 0), (6, .ref 2 0 0), (7, .ref 3 0 0), (8, .d (.v (.int .i64 (a + j.1 : Nat))))], [(4, dB 2 ((l.take j.1).map Res.row)), (3, ⟨36, [.d (.v (.int .i64 who)) :: .d (.v (.int .i64 a)) :: .d (.v (.int .i64 b)) :: .sref 4 0 (l.take j.1).length :: zs.map V.d]⟩), (2, dB 37 [.v (.int .i64 0) :: .v (.int .i64 0) :: .v (.int .i64 0) :: .list 0 [] true :: (rowS (List.replicate 32 0) ++ [.v (.bool false)])]), (1, dB 4 [[.v (.int .i64 who), .v (.int .i64 t), .v (.int .i64 a), .v (.int .i64 b)]]), (0, dB 5 [x.row])], 5⟩) (fun j => b - a - j.1) (⟨0, by omega⟩) ?_ ?_
  · exact St.le_of ⟨rfl, rfl, rfl, rfl, rfl, rfl, trivial⟩ ⟨rfl, (by rw [hzs]; rfl), rfl, rfl, rfl, trivial⟩ (Nat.le_refl _)
  clear hzs
  rintro ⟨j, hj⟩
  simp only
  by_cases hlt : j < b - a
  · have hge := hget j hlt
    have hvj : v[a + j]? = some v[a + j] := by simp
    have htk : l.take (j + 1) = l.take j ++ [if x.kind = 4 ∧ ((a + j : Nat) : Int) = x.at_ then x.by_ else v[a + j]] := by
      rw [List.take_add_one, hge, hvj]; split <;> rfl
    have hlen : (l.take j).length = j := by rw [List.length_take]; omega
    generalize v[a + j] = e at hvj htk
    clear hget hge
    have he : ((a + j : Nat) : Int) + 1 = ((a + (j + 1) : Nat) : Int) := by omega
    by_cases hk4 : x.kind = 4
    · by_cases hat : ((a + j : Nat) : Int) = x.at_
      · rw [if_pos ⟨hk4, hat⟩] at htk
        have hrow : (l.take j).map Res.row ++ [[.v (.int .i64 (x.by_).out), .v (.int .i64 (x.by_).n)]] = (l.take (j + 1)).map Res.row := by rw [htk]; simp [Res.row]
        refine Sm.seq ?_
        refine Sm.seq ?_
        refine Sm.regionG hF rfl ?_
        refine SmG.v hF rfl rfl rfl (opV_move rfl rfl) ?_
        refine SmG.v hF rfl rfl rfl (opV_fieldAddr rfl rfl (by simp (disch := omega) only [go_sem, Nat.reduceEqDiff, iteP, wkD, Wk.row, ressL, Res.row, partD4, List.length_map, hvj] <;> rfl)) ?_
        refine SmG.v hF rfl rfl rfl (opV_load rfl rfl (by simp (disch := omega) only [go_sem, Nat.reduceEqDiff, iteP, wkD, Wk.row, ressL, Res.row, partD4, List.length_map, hvj] <;> rfl)) ?_
        refine SmG.v hF rfl rfl rfl (opV_bin rfl rfl rfl (by first | exact rd_lssT _ _ _ _ _ (by omega) | exact rd_lssF _ _ _ _ _ (by omega) | exact rb_lss _ _ _ _ _ _ _)) ?_
        refine SmG.nil ?_
        refine nextS_normal ?_
        refine Sm.condT hF rfl ?_
        refine Sm.skip ?_
        refine nextS_normal ?_
        refine Sm.seq ?_
        refine Sm.block ?_
        refine Sm.seq ?_
        refine Sm.regionG hF rfl ?_
        refine SmG.v hF rfl rfl rfl (opV_move rfl rfl) ?_
        refine SmG.v hF rfl rfl rfl (opV_move rfl rfl) ?_
        refine SmG.v hF rfl rfl rfl (opV_indexAddr rfl rfl rfl (by simp (disch := omega) only [go_sem, Nat.reduceEqDiff, iteP, wkD, Wk.row, ressL, Res.row, partD4, List.length_map, hvj] <;> rfl)) ?_
        refine SmG.v hF rfl rfl rfl (opV_load rfl rfl (by simp (disch := omega) only [go_sem, Nat.reduceEqDiff, iteP, wkD, Wk.row, ressL, Res.row, partD4, List.length_map, hvj] <;> rfl)) ?_
        refine SmG.new hF rfl rfl rfl (opS_alloc rfl al34) ?_
        refine SmG.store hF rfl rfl rfl rfl rfl (by simp (disch := omega) only [go_sem, Nat.reduceEqDiff, iteP, wkD, Wk.row, ressL, Res.row, partD4, List.length_map, hvj] <;> rfl) ?_
        refine SmG.nil ?_
        refine nextS_normal ?_
        refine Sm.seq ?_
        refine Sm.seq ?_
        refine Sm.regionG hF rfl ?_
        refine SmG.v hF rfl rfl rfl (opV_fieldAddr rfl rfl (by simp (disch := omega) only [go_sem, Nat.reduceEqDiff, iteP, wkD, Wk.row, ressL, Res.row, partD4, List.length_map, hvj] <;> rfl)) ?_
        refine SmG.v hF rfl rfl rfl (opV_load rfl rfl (by simp (disch := omega) only [go_sem, Nat.reduceEqDiff, iteP, wkD, Wk.row, ressL, Res.row, partD4, List.length_map, hvj] <;> rfl)) ?_
        refine SmG.v hF rfl rfl rfl (opV_bin rfl rfl rfl (by first | exact rd_eqlT _ _ _ _ _ (by omega) | exact rd_eqlF _ _ _ _ _ (by omega) | exact rb_eql _ _ _ _ _ _ _)) ?_
        refine SmG.v hF rfl rfl rfl (opV_move rfl rfl) ?_
        first | refine SmG.v hF rfl rfl rfl (opV_move rfl rfl) ?_ | refine SmG.pass hF rfl rfl rfl ?_
        first | refine SmG.v hF rfl rfl rfl (opV_fieldAddr rfl rfl (by simp (disch := omega) only [go_sem, Nat.reduceEqDiff, iteP, wkD, Wk.row, ressL, Res.row, partD4, List.length_map, hvj] <;> rfl)) ?_ | refine SmG.pass hF rfl rfl rfl ?_
        first | refine SmG.v hF rfl rfl rfl (opV_load rfl rfl (by simp (disch := omega) only [go_sem, Nat.reduceEqDiff, iteP, wkD, Wk.row, ressL, Res.row, partD4, List.length_map, hvj] <;> rfl)) ?_ | refine SmG.pass hF rfl rfl rfl ?_
        first | refine SmG.v hF rfl rfl rfl (opV_bin rfl rfl rfl (by first | exact rd_eqlT _ _ _ _ _ (by omega) | exact rd_eqlF _ _ _ _ _ (by omega) | exact rb_eql _ _ _ _ _ _ _)) ?_ | refine SmG.pass hF rfl rfl rfl ?_
        first | refine SmG.v hF rfl rfl rfl (opV_pickT rfl rfl rfl) ?_ | refine SmG.v hF rfl rfl rfl (opV_pickF rfl rfl rfl) ?_
        refine SmG.nil ?_
        refine nextS_normal ?_
        refine Sm.condT hF rfl ?_
        refine Sm.regionG hF rfl ?_
        refine SmG.v hF rfl rfl rfl (opV_fieldAddr rfl rfl (by simp (disch := omega) only [go_sem, Nat.reduceEqDiff, iteP, wkD, Wk.row, ressL, Res.row, partD4, List.length_map, hvj] <;> rfl)) ?_
        refine SmG.v hF rfl rfl rfl (opV_load rfl rfl (by simp (disch := omega) only [go_sem, Nat.reduceEqDiff, iteP, wkD, Wk.row, ressL, Res.row, partD4, List.length_map, hvj] <;> rfl)) ?_
        refine SmG.store hF rfl rfl rfl rfl rfl (by simp (disch := omega) only [go_sem, Nat.reduceEqDiff, iteP, wkD, Wk.row, ressL, Res.row, partD4, List.length_map, hvj] <;> rfl) ?_
        refine SmG.nil ?_
        refine nextS_normal ?_
        refine Sm.regionG hF rfl ?_
        refine SmG.v hF rfl rfl rfl (opV_fieldAddr rfl rfl (by simp (disch := omega) only [go_sem, Nat.reduceEqDiff, iteP, wkD, Wk.row, ressL, Res.row, partD4, List.length_map, hvj] <;> rfl)) ?_
        refine SmG.v hF rfl rfl rfl (opV_load rfl rfl (by simp (disch := omega) only [go_sem, Nat.reduceEqDiff, iteP, wkD, Wk.row, ressL, Res.row, partD4, List.length_map, hvj] <;> rfl)) ?_
        refine SmG.v hF rfl rfl rfl (opV_load rfl rfl (by simp (disch := omega) only [go_sem, Nat.reduceEqDiff, iteP, wkD, Wk.row, ressL, Res.row, partD4, List.length_map, hvj] <;> rfl)) ?_
        refine SmG.v hF rfl rfl rfl (opV_buildSlice rfl rfl (by simp (disch := omega) only [go_sem, Nat.reduceEqDiff, iteP, wkD, Wk.row, ressL, Res.row, partD4, List.length_map, hvj] <;> rfl)) ?_
        refine SmG.appendCell hF elRes rfl rfl rfl rfl rfl rfl rfl (by first | rfl | (simp; done) | (simp; omega)) (Or.inl rfl) ?_ ?_ ?_; rotate_left; rotate_left; simp only [killV, Pk.v, V.free, rep, mapH, mapB, killB_dB, kill_map_d, kill_rows, killX, List.map_cons, List.map_nil, bne_self_eq_false, Nat.reduceAdd, Nat.reduceBNe, Nat.reduceBEq, Nat.reduceEqDiff, reduceIte, Bool.false_eq_true]
        rotate_left
        · simp only [List.length_map, List.length_cons, List.length_nil]; omega
        · simp only [List.length_map, List.length_cons, List.length_nil]; omega
        refine SmG.cut 5 (by (repeat' first | exact ltH_nil _ | exact ltR_map _ _ | exact trivial | refine ltH_over ?_ (by decide) | refine ltH_cons ?_ (lt_dB _ _ _) | refine ltH_row ?_ ?_ | refine ⟨rfl, ?_⟩)) ?_; simp only [Pk.v, cutE, cutH, V.lt, Nat.reduceAdd, Nat.reduceLT, decide_true, decide_false, reduceIte, Bool.false_eq_true, Nat.lt_irrefl, Nat.not_lt_zero, Nat.zero_lt_one, Nat.zero_lt_succ, Nat.zero_lt_two, Nat.one_lt_two]
        rw [hrow]
        refine SmG.v hF rfl rfl rfl (opV_fieldAddr rfl rfl (by simp (disch := omega) only [go_sem, Nat.reduceEqDiff, iteP, wkD, Wk.row, ressL, Res.row, partD4, List.length_map, hvj] <;> rfl)) ?_
        refine SmG.store hF rfl rfl rfl rfl rfl (by simp (disch := omega) only [go_sem, Nat.reduceEqDiff, iteP, wkD, Wk.row, ressL, Res.row, partD4, List.length_map, hvj] <;> rfl) ?_
        refine SmG.nil ?_
        refine blockS_normal ?_
        refine nextS_normal ?_
        refine Sm.regionG hF rfl ?_
        refine SmG.v hF rfl rfl rfl (opV_move rfl rfl) ?_
        refine SmG.v hF rfl rfl rfl (opV_bin rfl rfl rfl (by first | exact rd_add _ _ _ _ _ (wrapI64 _ (by omega)) | exact rb_add _ _ _ _ _ _ _)) ?_
        refine SmG.v hF rfl rfl rfl (opV_assign rfl rfl) ?_
        refine SmG.nil ?_
        refine nextS_normal ?_
        rw [he]
        exact ⟨⟨j + 1, by omega⟩, by show b - a - (j + 1) < b - a - j; omega, St.le_of ⟨rfl, rfl, rfl, rfl, rfl, rfl, trivial⟩ ⟨rfl, rfl, rfl, rfl, rfl, trivial⟩ (Nat.le_refl _)⟩
      · rw [if_neg (fun h => hat h.2)] at htk
        have hrow : (l.take j).map Res.row ++ [[.v (.int .i64 (e).out), .v (.int .i64 (e).n)]] = (l.take (j + 1)).map Res.row := by rw [htk]; simp [Res.row]
        refine Sm.seq ?_
        refine Sm.seq ?_
        refine Sm.regionG hF rfl ?_
        refine SmG.v hF rfl rfl rfl (opV_move rfl rfl) ?_
        refine SmG.v hF rfl rfl rfl (opV_fieldAddr rfl rfl (by simp (disch := omega) only [go_sem, Nat.reduceEqDiff, iteP, wkD, Wk.row, ressL, Res.row, partD4, List.length_map, hvj] <;> rfl)) ?_
        refine SmG.v hF rfl rfl rfl (opV_load rfl rfl (by simp (disch := omega) only [go_sem, Nat.reduceEqDiff, iteP, wkD, Wk.row, ressL, Res.row, partD4, List.length_map, hvj] <;> rfl)) ?_
        refine SmG.v hF rfl rfl rfl (opV_bin rfl rfl rfl (by first | exact rd_lssT _ _ _ _ _ (by omega) | exact rd_lssF _ _ _ _ _ (by omega) | exact rb_lss _ _ _ _ _ _ _)) ?_
        refine SmG.nil ?_
        refine nextS_normal ?_
        refine Sm.condT hF rfl ?_
        refine Sm.skip ?_
        refine nextS_normal ?_
        refine Sm.seq ?_
        refine Sm.block ?_
        refine Sm.seq ?_
        refine Sm.regionG hF rfl ?_
        refine SmG.v hF rfl rfl rfl (opV_move rfl rfl) ?_
        refine SmG.v hF rfl rfl rfl (opV_move rfl rfl) ?_
        refine SmG.v hF rfl rfl rfl (opV_indexAddr rfl rfl rfl (by simp (disch := omega) only [go_sem, Nat.reduceEqDiff, iteP, wkD, Wk.row, ressL, Res.row, partD4, List.length_map, hvj] <;> rfl)) ?_
        refine SmG.v hF rfl rfl rfl (opV_load rfl rfl (by simp (disch := omega) only [go_sem, Nat.reduceEqDiff, iteP, wkD, Wk.row, ressL, Res.row, partD4, List.length_map, hvj] <;> rfl)) ?_
        refine SmG.new hF rfl rfl rfl (opS_alloc rfl al34) ?_
        refine SmG.store hF rfl rfl rfl rfl rfl (by simp (disch := omega) only [go_sem, Nat.reduceEqDiff, iteP, wkD, Wk.row, ressL, Res.row, partD4, List.length_map, hvj] <;> rfl) ?_
        refine SmG.nil ?_
        refine nextS_normal ?_
        refine Sm.seq ?_
        refine Sm.seq ?_
        refine Sm.regionG hF rfl ?_
        refine SmG.v hF rfl rfl rfl (opV_fieldAddr rfl rfl (by simp (disch := omega) only [go_sem, Nat.reduceEqDiff, iteP, wkD, Wk.row, ressL, Res.row, partD4, List.length_map, hvj] <;> rfl)) ?_
        refine SmG.v hF rfl rfl rfl (opV_load rfl rfl (by simp (disch := omega) only [go_sem, Nat.reduceEqDiff, iteP, wkD, Wk.row, ressL, Res.row, partD4, List.length_map, hvj] <;> rfl)) ?_
        refine SmG.v hF rfl rfl rfl (opV_bin rfl rfl rfl (by first | exact rd_eqlT _ _ _ _ _ (by omega) | exact rd_eqlF _ _ _ _ _ (by omega) | exact rb_eql _ _ _ _ _ _ _)) ?_
        refine SmG.v hF rfl rfl rfl (opV_move rfl rfl) ?_
        first | refine SmG.v hF rfl rfl rfl (opV_move rfl rfl) ?_ | refine SmG.pass hF rfl rfl rfl ?_
        first | refine SmG.v hF rfl rfl rfl (opV_fieldAddr rfl rfl (by simp (disch := omega) only [go_sem, Nat.reduceEqDiff, iteP, wkD, Wk.row, ressL, Res.row, partD4, List.length_map, hvj] <;> rfl)) ?_ | refine SmG.pass hF rfl rfl rfl ?_
        first | refine SmG.v hF rfl rfl rfl (opV_load rfl rfl (by simp (disch := omega) only [go_sem, Nat.reduceEqDiff, iteP, wkD, Wk.row, ressL, Res.row, partD4, List.length_map, hvj] <;> rfl)) ?_ | refine SmG.pass hF rfl rfl rfl ?_
        first | refine SmG.v hF rfl rfl rfl (opV_bin rfl rfl rfl (by first | exact rd_eqlT _ _ _ _ _ (by omega) | exact rd_eqlF _ _ _ _ _ (by omega) | exact rb_eql _ _ _ _ _ _ _)) ?_ | refine SmG.pass hF rfl rfl rfl ?_
        first | refine SmG.v hF rfl rfl rfl (opV_pickT rfl rfl rfl) ?_ | refine SmG.v hF rfl rfl rfl (opV_pickF rfl rfl rfl) ?_
        refine SmG.nil ?_
        refine nextS_normal ?_
        refine Sm.condF hF rfl ?_
        refine Sm.skip ?_
        refine nextS_normal ?_
        refine Sm.regionG hF rfl ?_
        refine SmG.v hF rfl rfl rfl (opV_fieldAddr rfl rfl (by simp (disch := omega) only [go_sem, Nat.reduceEqDiff, iteP, wkD, Wk.row, ressL, Res.row, partD4, List.length_map, hvj] <;> rfl)) ?_
        refine SmG.v hF rfl rfl rfl (opV_load rfl rfl (by simp (disch := omega) only [go_sem, Nat.reduceEqDiff, iteP, wkD, Wk.row, ressL, Res.row, partD4, List.length_map, hvj] <;> rfl)) ?_
        refine SmG.v hF rfl rfl rfl (opV_load rfl rfl (by simp (disch := omega) only [go_sem, Nat.reduceEqDiff, iteP, wkD, Wk.row, ressL, Res.row, partD4, List.length_map, hvj] <;> rfl)) ?_
        refine SmG.v hF rfl rfl rfl (opV_buildSlice rfl rfl (by simp (disch := omega) only [go_sem, Nat.reduceEqDiff, iteP, wkD, Wk.row, ressL, Res.row, partD4, List.length_map, hvj] <;> rfl)) ?_
        refine SmG.appendCell hF elRes rfl rfl rfl rfl rfl rfl rfl (by first | rfl | (simp; done) | (simp; omega)) (Or.inl rfl) ?_ ?_ ?_; rotate_left; rotate_left; simp only [killV, Pk.v, V.free, rep, mapH, mapB, killB_dB, kill_map_d, kill_rows, killX, List.map_cons, List.map_nil, bne_self_eq_false, Nat.reduceAdd, Nat.reduceBNe, Nat.reduceBEq, Nat.reduceEqDiff, reduceIte, Bool.false_eq_true]
        rotate_left
        · simp only [List.length_map, List.length_cons, List.length_nil]; omega
        · simp only [List.length_map, List.length_cons, List.length_nil]; omega
        refine SmG.cut 5 (by (repeat' first | exact ltH_nil _ | exact ltR_map _ _ | exact trivial | refine ltH_over ?_ (by decide) | refine ltH_cons ?_ (lt_dB _ _ _) | refine ltH_row ?_ ?_ | refine ⟨rfl, ?_⟩)) ?_; simp only [Pk.v, cutE, cutH, V.lt, Nat.reduceAdd, Nat.reduceLT, decide_true, decide_false, reduceIte, Bool.false_eq_true, Nat.lt_irrefl, Nat.not_lt_zero, Nat.zero_lt_one, Nat.zero_lt_succ, Nat.zero_lt_two, Nat.one_lt_two]
        rw [hrow]
        refine SmG.v hF rfl rfl rfl (opV_fieldAddr rfl rfl (by simp (disch := omega) only [go_sem, Nat.reduceEqDiff, iteP, wkD, Wk.row, ressL, Res.row, partD4, List.length_map, hvj] <;> rfl)) ?_
        refine SmG.store hF rfl rfl rfl rfl rfl (by simp (disch := omega) only [go_sem, Nat.reduceEqDiff, iteP, wkD, Wk.row, ressL, Res.row, partD4, List.length_map, hvj] <;> rfl) ?_
        refine SmG.nil ?_
        refine blockS_normal ?_
        refine nextS_normal ?_
        refine Sm.regionG hF rfl ?_
        refine SmG.v hF rfl rfl rfl (opV_move rfl rfl) ?_
        refine SmG.v hF rfl rfl rfl (opV_bin rfl rfl rfl (by first | exact rd_add _ _ _ _ _ (wrapI64 _ (by omega)) | exact rb_add _ _ _ _ _ _ _)) ?_
        refine SmG.v hF rfl rfl rfl (opV_assign rfl rfl) ?_
        refine SmG.nil ?_
        refine nextS_normal ?_
        rw [he]
        exact ⟨⟨j + 1, by omega⟩, by show b - a - (j + 1) < b - a - j; omega, St.le_of ⟨rfl, rfl, rfl, rfl, rfl, rfl, trivial⟩ ⟨rfl, rfl, rfl, rfl, rfl, trivial⟩ (Nat.le_refl _)⟩
    · rw [if_neg (fun h => hk4 h.1)] at htk
      have hrow : (l.take j).map Res.row ++ [[.v (.int .i64 (e).out), .v (.int .i64 (e).n)]] = (l.take (j + 1)).map Res.row := by rw [htk]; simp [Res.row]
      refine Sm.seq ?_
      refine Sm.seq ?_
      refine Sm.regionG hF rfl ?_
      refine SmG.v hF rfl rfl rfl (opV_move rfl rfl) ?_
      refine SmG.v hF rfl rfl rfl (opV_fieldAddr rfl rfl (by simp (disch := omega) only [go_sem, Nat.reduceEqDiff, iteP, wkD, Wk.row, ressL, Res.row, partD4, List.length_map, hvj] <;> rfl)) ?_
      refine SmG.v hF rfl rfl rfl (opV_load rfl rfl (by simp (disch := omega) only [go_sem, Nat.reduceEqDiff, iteP, wkD, Wk.row, ressL, Res.row, partD4, List.length_map, hvj] <;> rfl)) ?_
      refine SmG.v hF rfl rfl rfl (opV_bin rfl rfl rfl (by first | exact rd_lssT _ _ _ _ _ (by omega) | exact rd_lssF _ _ _ _ _ (by omega) | exact rb_lss _ _ _ _ _ _ _)) ?_
      refine SmG.nil ?_
      refine nextS_normal ?_
      refine Sm.condT hF rfl ?_
      refine Sm.skip ?_
      refine nextS_normal ?_
      refine Sm.seq ?_
      refine Sm.block ?_
      refine Sm.seq ?_
      refine Sm.regionG hF rfl ?_
      refine SmG.v hF rfl rfl rfl (opV_move rfl rfl) ?_
      refine SmG.v hF rfl rfl rfl (opV_move rfl rfl) ?_
      refine SmG.v hF rfl rfl rfl (opV_indexAddr rfl rfl rfl (by simp (disch := omega) only [go_sem, Nat.reduceEqDiff, iteP, wkD, Wk.row, ressL, Res.row, partD4, List.length_map, hvj] <;> rfl)) ?_
      refine SmG.v hF rfl rfl rfl (opV_load rfl rfl (by simp (disch := omega) only [go_sem, Nat.reduceEqDiff, iteP, wkD, Wk.row, ressL, Res.row, partD4, List.length_map, hvj] <;> rfl)) ?_
      refine SmG.new hF rfl rfl rfl (opS_alloc rfl al34) ?_
      refine SmG.store hF rfl rfl rfl rfl rfl (by simp (disch := omega) only [go_sem, Nat.reduceEqDiff, iteP, wkD, Wk.row, ressL, Res.row, partD4, List.length_map, hvj] <;> rfl) ?_
      refine SmG.nil ?_
      refine nextS_normal ?_
      refine Sm.seq ?_
      refine Sm.seq ?_
      refine Sm.regionG hF rfl ?_
      refine SmG.v hF rfl rfl rfl (opV_fieldAddr rfl rfl (by simp (disch := omega) only [go_sem, Nat.reduceEqDiff, iteP, wkD, Wk.row, ressL, Res.row, partD4, List.length_map, hvj] <;> rfl)) ?_
      refine SmG.v hF rfl rfl rfl (opV_load rfl rfl (by simp (disch := omega) only [go_sem, Nat.reduceEqDiff, iteP, wkD, Wk.row, ressL, Res.row, partD4, List.length_map, hvj] <;> rfl)) ?_
      refine SmG.v hF rfl rfl rfl (opV_bin rfl rfl rfl (by first | exact rd_eqlT _ _ _ _ _ (by omega) | exact rd_eqlF _ _ _ _ _ (by omega) | exact rb_eql _ _ _ _ _ _ _)) ?_
      refine SmG.v hF rfl rfl rfl (opV_move rfl rfl) ?_
      first | refine SmG.v hF rfl rfl rfl (opV_move rfl rfl) ?_ | refine SmG.pass hF rfl rfl rfl ?_
      first | refine SmG.v hF rfl rfl rfl (opV_fieldAddr rfl rfl (by simp (disch := omega) only [go_sem, Nat.reduceEqDiff, iteP, wkD, Wk.row, ressL, Res.row, partD4, List.length_map, hvj] <;> rfl)) ?_ | refine SmG.pass hF rfl rfl rfl ?_
      first | refine SmG.v hF rfl rfl rfl (opV_load rfl rfl (by simp (disch := omega) only [go_sem, Nat.reduceEqDiff, iteP, wkD, Wk.row, ressL, Res.row, partD4, List.length_map, hvj] <;> rfl)) ?_ | refine SmG.pass hF rfl rfl rfl ?_
      first | refine SmG.v hF rfl rfl rfl (opV_bin rfl rfl rfl (by first | exact rd_eqlT _ _ _ _ _ (by omega) | exact rd_eqlF _ _ _ _ _ (by omega) | exact rb_eql _ _ _ _ _ _ _)) ?_ | refine SmG.pass hF rfl rfl rfl ?_
      first | refine SmG.v hF rfl rfl rfl (opV_pickT rfl rfl rfl) ?_ | refine SmG.v hF rfl rfl rfl (opV_pickF rfl rfl rfl) ?_
      refine SmG.nil ?_
      refine nextS_normal ?_
      refine Sm.condF hF rfl ?_
      refine Sm.skip ?_
      refine nextS_normal ?_
      refine Sm.regionG hF rfl ?_
      refine SmG.v hF rfl rfl rfl (opV_fieldAddr rfl rfl (by simp (disch := omega) only [go_sem, Nat.reduceEqDiff, iteP, wkD, Wk.row, ressL, Res.row, partD4, List.length_map, hvj] <;> rfl)) ?_
      refine SmG.v hF rfl rfl rfl (opV_load rfl rfl (by simp (disch := omega) only [go_sem, Nat.reduceEqDiff, iteP, wkD, Wk.row, ressL, Res.row, partD4, List.length_map, hvj] <;> rfl)) ?_
      refine SmG.v hF rfl rfl rfl (opV_load rfl rfl (by simp (disch := omega) only [go_sem, Nat.reduceEqDiff, iteP, wkD, Wk.row, ressL, Res.row, partD4, List.length_map, hvj] <;> rfl)) ?_
      refine SmG.v hF rfl rfl rfl (opV_buildSlice rfl rfl (by simp (disch := omega) only [go_sem, Nat.reduceEqDiff, iteP, wkD, Wk.row, ressL, Res.row, partD4, List.length_map, hvj] <;> rfl)) ?_
      refine SmG.appendCell hF elRes rfl rfl rfl rfl rfl rfl rfl (by first | rfl | (simp; done) | (simp; omega)) (Or.inl rfl) ?_ ?_ ?_; rotate_left; rotate_left; simp only [killV, Pk.v, V.free, rep, mapH, mapB, killB_dB, kill_map_d, kill_rows, killX, List.map_cons, List.map_nil, bne_self_eq_false, Nat.reduceAdd, Nat.reduceBNe, Nat.reduceBEq, Nat.reduceEqDiff, reduceIte, Bool.false_eq_true]
      rotate_left
      · simp only [List.length_map, List.length_cons, List.length_nil]; omega
      · simp only [List.length_map, List.length_cons, List.length_nil]; omega
      refine SmG.cut 5 (by (repeat' first | exact ltH_nil _ | exact ltR_map _ _ | exact trivial | refine ltH_over ?_ (by decide) | refine ltH_cons ?_ (lt_dB _ _ _) | refine ltH_row ?_ ?_ | refine ⟨rfl, ?_⟩)) ?_; simp only [Pk.v, cutE, cutH, V.lt, Nat.reduceAdd, Nat.reduceLT, decide_true, decide_false, reduceIte, Bool.false_eq_true, Nat.lt_irrefl, Nat.not_lt_zero, Nat.zero_lt_one, Nat.zero_lt_succ, Nat.zero_lt_two, Nat.one_lt_two]
      rw [hrow]
      refine SmG.v hF rfl rfl rfl (opV_fieldAddr rfl rfl (by simp (disch := omega) only [go_sem, Nat.reduceEqDiff, iteP, wkD, Wk.row, ressL, Res.row, partD4, List.length_map, hvj] <;> rfl)) ?_
      refine SmG.store hF rfl rfl rfl rfl rfl (by simp (disch := omega) only [go_sem, Nat.reduceEqDiff, iteP, wkD, Wk.row, ressL, Res.row, partD4, List.length_map, hvj] <;> rfl) ?_
      refine SmG.nil ?_
      refine blockS_normal ?_
      refine nextS_normal ?_
      refine Sm.regionG hF rfl ?_
      refine SmG.v hF rfl rfl rfl (opV_move rfl rfl) ?_
      refine SmG.v hF rfl rfl rfl (opV_bin rfl rfl rfl (by first | exact rd_add _ _ _ _ _ (wrapI64 _ (by omega)) | exact rb_add _ _ _ _ _ _ _)) ?_
      refine SmG.v hF rfl rfl rfl (opV_assign rfl rfl) ?_
      refine SmG.nil ?_
      refine nextS_normal ?_
      rw [he]
      exact ⟨⟨j + 1, by omega⟩, by show b - a - (j + 1) < b - a - j; omega, St.le_of ⟨rfl, rfl, rfl, rfl, rfl, rfl, trivial⟩ ⟨rfl, rfl, rfl, rfl, rfl, trivial⟩ (Nat.le_refl _)⟩
  · obtain rfl : j = b - a := by omega
    rw [List.take_of_length_le (by omega)]
    have hset : ∀ x, (rowS R ++ [D.v (.bool false)]).set 32 x = rowS R ++ [x] := fun x => by
      rw [List.set_append_right _ _ (by simp [rowS, hRl])]; simp [rowS, hRl]
    have hcR : (rowS R).length = 32 := by simp [rowS, hRl]
    refine Sm.seq ?_
    refine Sm.seq ?_
    refine Sm.regionG hF rfl ?_
    refine SmG.v hF rfl rfl rfl (opV_move rfl rfl) ?_
    refine SmG.v hF rfl rfl rfl (opV_fieldAddr rfl rfl (by simp (disch := omega) only [go_sem, Nat.reduceEqDiff, iteP, wkD, Wk.row, ressL, Res.row, partD4, List.length_map, sumD, hcR, hset, hRl, hzd, List.take_succ_cons, List.take_zero, List.append_nil] <;> rfl)) ?_
    refine SmG.v hF rfl rfl rfl (opV_load rfl rfl (by simp (disch := omega) only [go_sem, Nat.reduceEqDiff, iteP, wkD, Wk.row, ressL, Res.row, partD4, List.length_map, sumD, hcR, hset, hRl, hzd, List.take_succ_cons, List.take_zero, List.append_nil] <;> rfl)) ?_
    refine SmG.v hF rfl rfl rfl (opV_bin rfl rfl rfl (by first | exact rd_lssT _ _ _ _ _ (by omega) | exact rd_lssF _ _ _ _ _ (by omega) | exact rb_lss _ _ _ _ _ _ _)) ?_
    refine SmG.nil ?_
    refine nextS_normal ?_
    refine Sm.condF hF rfl ?_
    refine Sm.freezeH (l := 4) _ rfl ?_
    simp only [Pk.v, frzE, frzV, dropH, mapH, frzB_dB, frz_map_d, frz_rows, mapB, List.map_cons, List.map_nil, reduceIte, Nat.reduceAdd, Nat.zero_add, List.length_map, List.length_append, Nat.le_refl, true_and, and_self, if_true, Nat.reduceEqDiff, true_and]
    refine Sm.exit ?_
    simp only [nextS, blockS, reduceIte, reduceCtorEq]
    refine Sm.seq ?_
    refine Sm.regionG hF rfl ?_
    refine SmG.v hF rfl rfl rfl (opV_fieldAddr rfl rfl (by simp (disch := omega) only [go_sem, Nat.reduceEqDiff, iteP, wkD, Wk.row, ressL, Res.row, partD4, List.length_map, sumD, hcR, hset, hRl, hzd, List.take_succ_cons, List.take_zero, List.append_nil] <;> rfl)) ?_
    refine SmG.v hF rfl rfl rfl (opV_load rfl rfl (by simp (disch := omega) only [go_sem, Nat.reduceEqDiff, iteP, wkD, Wk.row, ressL, Res.row, partD4, List.length_map, sumD, hcR, hset, hRl, hzd, List.take_succ_cons, List.take_zero, List.append_nil] <;> rfl)) ?_
    refine SmG.call hF rfl rfl (by kernel_rfl) rfl rfl rfl (hR) ?_
    refine SmG.v hF rfl rfl rfl (opV_fieldAddr rfl rfl (by simp (disch := omega) only [go_sem, Nat.reduceEqDiff, iteP, wkD, Wk.row, ressL, Res.row, partD4, List.length_map, sumD, hcR, hset, hRl, hzd, List.take_succ_cons, List.take_zero, List.append_nil] <;> rfl)) ?_
    refine SmG.store hF rfl rfl rfl rfl rfl (by simp (disch := omega) only [go_sem, Nat.reduceEqDiff, iteP, wkD, Wk.row, ressL, Res.row, partD4, List.length_map, sumD, hcR, hset, hRl, hzd, List.take_succ_cons, List.take_zero, List.append_nil] <;> rfl) ?_
    refine SmG.nil ?_
    refine nextS_normal ?_
    refine Sm.seq ?_
    refine Sm.regionG hF rfl ?_
    refine SmG.v hF rfl rfl rfl (opV_load rfl rfl (by simp (disch := omega) only [go_sem, Nat.reduceEqDiff, iteP, wkD, Wk.row, ressL, Res.row, partD4, List.length_map, sumD, hcR, hset, hRl, hzd, List.take_succ_cons, List.take_zero, List.append_nil] <;> rfl)) ?_
    refine SmG.v hF rfl rfl rfl (opV_buildT rfl Tryd.underlying43 (by kernel_rfl) rfl (buildS_struct (n := 37) ze43 pl43 rfl (by repeat' first | apply fill_oneE rfl rfl (by first | rfl | simp [rowS, wkD, Wk.row, ressL, Res.row, partD4, List.length_map, sumD, hcR, hset, hRl, hzd, List.take_succ_cons, List.take_zero, List.append_nil]) | apply fill_aggE rfl rfl rfl (by first | assumption | simp [rowS, wkD, Wk.row, ressL, Res.row, partD4, List.length_map, sumD, hcR, hset, hRl, hzd, List.take_succ_cons, List.take_zero, List.append_nil]) | (apply fillE; simp only [List.set_cons_succ, List.set_cons_zero, List.take_succ_cons, List.take_zero, List.drop_succ_cons, List.drop_zero, List.drop_nil, List.cons_append, List.nil_append, List.append_nil, wkD, Wk.row, ressL, Res.row, partD4, List.length_map, sumD, hcR, hset, hRl, hzd, List.take_succ_cons, List.take_zero, List.append_nil] <;> rfl)))) ?_
    refine SmG.store hF rfl rfl rfl rfl rfl (by simp (disch := omega) only [go_sem, Nat.reduceEqDiff, iteP, wkD, Wk.row, ressL, Res.row, partD4, List.length_map, sumD, hcR, hset, hRl, hzd, List.take_succ_cons, List.take_zero, List.append_nil] <;> rfl) ?_
    refine SmG.nil ?_
    refine nextS_normal ?_
    refine Sm.ret ?_
    refine retQ_cell rfl rfl (by simp (disch := omega) only [go_sem, Nat.reduceEqDiff, iteP, pureRow_map, hzd, hcR, List.take_succ_cons, List.take_zero, List.append_nil, List.length_append] <;> rfl) ?_
    exact D.le.refl _
theorem part_get {v : List Res} {a b j : Nat} (h : j < b - a) : (partOfL v a b)[j]? = v[a + j]? := by
  simp only [partOfL, List.getElem?_drop]
  rw [List.getElem?_take_of_lt (by omega)]
theorem lie_get {x : Wk} {v : List Res} {a b j : Nat} (hb : b ≤ v.length) (h : j < b - a) : (lie x a (partOfL v a b))[j]? = if ((a + j : Nat) : Int) = x.at_ then some x.by_ else v[a + j]? := by
  have hp := part_len (a := a) hb
  unfold lie
  split
  · rw [List.getElem?_set]
    by_cases he : ((a + j : Nat) : Int) = x.at_
    · rw [if_pos he, if_pos (by omega), if_pos (by omega)]
    · rw [if_neg he, if_neg (by omega), part_get h]
  · rw [if_neg (by omega), part_get h]
theorem refWork_D (x : Wk) (who t : Int) (v : List Res) (a b : Int) (hl : v.length ≤ 1000000) : CallsD Tryd.prog HG 15 [wkD x, partD4 who t a b, ressL v] (saidD (claimW x who t v a b)) := by
  by_cases hab : 0 ≤ a ∧ a ≤ b ∧ b ≤ v.length
  · obtain ⟨h1, h2, h3⟩ := hab
    by_cases hk : x.kind = 1 ∨ (x.kind = 3 ∧ x.n ≤ t) ∨ x.kind = 4
    · obtain ⟨a, rfl⟩ : ∃ n : Nat, a = n := ⟨a.toNat, by omega⟩
      obtain ⟨b, rfl⟩ : ∃ n : Nat, b = n := ⟨b.toNat, by omega⟩
      have hpl := part_len (v := v) (a := a) (b := b) (by omega)
      by_cases h4 : x.kind = 4
      · have hs : claimW x who t v a b = (⟨who, a, b, lie x a (partOfL v a b), Sha.root ((lie x a (partOfL v a b)).map resBytes)⟩, true) := by
          simp [claimW, saidW, h4, h2, h3]
        rw [hs]
        refine refWork_yes x who t v _ a b hl (by omega) (by omega) hk (by rw [lie_len]; exact hpl) fun j hj => ?_
        rw [lie_get (by omega) hj]
        by_cases he : ((a + j : Nat) : Int) = x.at_
        · rw [if_pos he, if_pos ⟨h4, he⟩]
        · rw [if_neg he, if_neg fun h => he h.2]
      · have hs : claimW x who t v a b = (⟨who, a, b, partOfL v a b, Sha.root ((partOfL v a b).map resBytes)⟩, true) := by
          rcases hk with hk | ⟨hk, hk'⟩ | hk
          · simp [claimW, saidW, hk, h2, h3]
          · simp [claimW, saidW, hk, hk', h2, h3]
          · exact absurd hk h4
        rw [hs]
        refine refWork_yes x who t v _ a b hl (by omega) (by omega) hk hpl fun j hj => ?_
        rw [part_get hj, if_neg fun h => h4 h.1]
    · have hs : claimW x who t v a b = (noClm, false) := by
        unfold claimW saidW
        simp only [not_or, not_and, Int.not_le] at hk
        by_cases h3 : x.kind = 3
        · simp [h3, Int.not_le.2 (hk.2.1 h3)]
        · simp [hk.1, hk.2.2, h3]
      rw [hs]
      exact refWork_kind x who t v a b h1 h2 h3 (by
        simp only [not_or, not_and, Int.not_le] at hk
        by_cases h3 : x.kind = 3
        · exact .inr ⟨h3, hk.2.1 h3⟩
        · exact .inl ⟨hk.1, hk.2.2, h3⟩)
  · have hs : claimW x who t v a b = (noClm, false) := by
      simp [claimW, saidW, hab]
    rw [hs]
    exact refWork_range x who t v a b (by omega)
end Go.Proofs.YtagfaaijgfigkaaDoor
namespace Go.Proofs.YtagfaaijgfigkaaDoor
open Go.RowKit
section
variable {P : Program} {G : Nat → Option D} {N : Nat} {F : Fr} {ops rest : List Oper} {o : Oper} {Q : Exit → St → Prop} {env : List (Nat × V)} {h : List (Nat × Blk)} {nx : Nat}
theorem SmG.yield (hF : Env F P G N) {l i s : Nat} {t : Tmp} {xs : List (List D)} {O0 : Nat → Prop} {J : Jt} {x : List D} (hI : ItFr F P l xs O0 J) {y : Operand} {ys : List Operand} {ts : Array TypeId} (ho : o.op = .call ⟨.value y, ys.toArray, ts⟩) (hd : o.dst = some t) (ht : Nat.blt t N = true)
    (hg : guardB ops env o.guard = some true) (hgh : lookB env s = some (.gh (i + 1))) (hi : xs[i]? = some x) (hy : evB G env y = some (.d (.v (.func (.yield l) #[] #[])))) (hargs : evArgs (evB G env) ys = some x) (hfree : freeH 0 h)
    (k : ∀ c : Bool, SmG F N ops rest Q ⟨(t, .d (.v (.bool c))) :: (s, .gh (if c then i + 2 else 0)) :: killV 0 env, h, nx⟩) : SmG F N ops (o :: rest) Q ⟨env, h, nx⟩ := by
  have ht' : t < N := by simpa [Nat.blt_eq] using ht
  intro hsm
  rw [evB_eq] at hy
  rw [lookB_eq] at hgh
  refine SmL.yield (st := ⟨env, h, nx⟩) hF hsm hI hgh hi (guardB_ok hg) ho hd ht' hy (evArgs_B (by simpa using hargs)) (fun _ _ h => h) hfree fun c => k c ?_
  intro t' y hy
  simp only [look] at hy
  split at hy
  · rename_i e; subst e; exact ht'
  · split at hy
    · rename_i e; subst e; exact hsm s _ hgh
    · rw [look_kill] at hy
      cases hq : look env t' with
      | none => rw [hq] at hy; cases hy
      | some z => exact hsm t' z hq
end
end Go.Proofs.YtagfaaijgfigkaaDoor
