/-
  Lemmas, part 6 of 7: walks through the program's functions, and plain Lean about what they compute.
-/
import Derived.Test.YtagfaaijgfigkaaDoorZ1
import Derived.Test.YtagfaaijgfigkaaDoorZ2
import Derived.Test.YtagfaaijgfigkaaDoorZ3
import Derived.Test.YtagfaaijgfigkaaDoorZ4
import Derived.Test.YtagfaaijgfigkaaDoorZ5
set_option linter.unnecessarySimpa false
set_option linter.unusedSimpArgs false
set_option linter.unusedVariables false
namespace Go.Proofs.YtagfaaijgfigkaaDoor
open Go.RowKit
def V.ren (σ : Nat → Nat) : V → V
  | .d x => .d x
  | .ref l i off => .ref (σ l) i off
  | .sref l lo len => .sref (σ l) lo len
  | .aref l i off es len cap => .aref (σ l) i off es len cap
  | .mix tup l n rest => .mix tup (σ l) n rest
  | .any => .any
  | .gh _ => .any
def Blk.ren (σ : Nat → Nat) (k : Blk) : Blk := ⟨k.sz, k.rows.map fun r => r.map (V.ren σ)⟩
theorem V.ren_up {σ : Nat → Nat} {μ μ' : Nat → Option Place} (h : ∀ l p, μ l = some p → μ' (σ l) = some p) {C : Facts} {x : V} {v : Value} (hr : RepV μ C x v) : RepV μ' C (x.ren σ) v := by
  cases x with
  | d => exact hr
  | ref l i off => obtain ⟨p, h1, h2⟩ := hr; exact ⟨p, h l p h1, h2⟩
  | sref l lo len => obtain ⟨p, ao, h1, h2⟩ := hr; exact ⟨p, ao, h l p h1, h2⟩
  | aref l i off es len cap => obtain ⟨p, ao, h1, h2⟩ := hr; exact ⟨p, ao, h l p h1, h2⟩
  | mix tup l n rest => obtain ⟨p, ao, us, h1, h2⟩ := hr; exact ⟨p, ao, us, h l p h1, h2⟩
  | any => trivial
  | gh m => trivial
def V.noGh : V → Bool
  | .gh _ => false
  | _ => true
theorem V.ren_down {σ : Nat → Nat} {n : Nat} {μ μ' : Nat → Option Place} (h : ∀ l p, l < n → μ' (σ l) = some p → μ l = some p) {C : Facts} {x : V} (hx : x.lt n = true) (hn : x.noGh = true) {v : Value} (hr : RepV μ' C (x.ren σ) v) : RepV μ C x v := by
  cases x with
  | d => exact hr
  | ref l i off => obtain ⟨p, h1, h2⟩ := hr; exact ⟨p, h l p (by simpa [V.lt] using hx) h1, h2⟩
  | sref l lo len => obtain ⟨p, ao, h1, h2⟩ := hr; exact ⟨p, ao, h l p (by simpa [V.lt] using hx) h1, h2⟩
  | aref l i off es len cap => obtain ⟨p, ao, h1, h2⟩ := hr; exact ⟨p, ao, h l p (by simpa [V.lt] using hx) h1, h2⟩
  | mix tup l n rest => obtain ⟨p, ao, us, h1, h2⟩ := hr; exact ⟨p, ao, us, h l p (by simpa [V.lt] using hx) h1, h2⟩
  | any => trivial
  | gh m => cases hn
structure Held (mine : Nat → Prop) (h : List (Nat × Blk)) (μ : Nat → Option Place) (C : Facts) (w : World) : Prop where
  heap : ∀ l k, look h l = some k → ∃ p, μ l = some p ∧ BlkOk mine μ C w p k
  inj : ∀ l l' p p', (look h l).isSome = true → (look h l').isSome = true → μ l = some p → μ l' = some p' → 0 < p.cap → 0 < p'.cap → p.b = p'.b → l = l'
inductive RepVs (μ : Nat → Option Place) (C : Facts) : List V → List Value → Prop
  | nil : RepVs μ C [] []
  | cons (x : V) (v : Value) (xs : List V) (vs : List Value) : RepV μ C x v → RepVs μ C xs vs → RepVs μ C (x :: xs) (v :: vs)
theorem RepVs.length {μ : Nat → Option Place} {C : Facts} {xs : List V} {vs : List Value} (h : RepVs μ C xs vs) : vs.length = xs.length := by
  induction h with
  | nil => rfl
  | cons _ _ _ _ _ _ ih => simp [ih]
theorem RepVs.get {μ : Nat → Option Place} {C : Facts} {xs : List V} {vs : List Value} (h : RepVs μ C xs vs) : ∀ (i : Nat) (x : V), xs[i]? = some x → ∃ v, vs[i]? = some v ∧ RepV μ C x v := by
  induction h with
  | nil => intro i x h; simp at h
  | cons x v xs vs h1 _ ih =>
    intro i y hy
    cases i with
    | zero => simp at hy; subst hy; exact ⟨v, rfl, h1⟩
    | succ i => simpa using ih i y (by simpa using hy)
def CallsB (P : Program) (G : Nat → Option D) (f : FuncId) (h : List (Nat × Blk)) (n0 : Nat) (xs : List V) (r : V) (h' : List (Nat × Blk)) (n1 : Nat) : Prop :=
  ∀ μ C w vs, GlobD G C → Known C w → Held (fun _ => True) h μ C w → (∀ l, n0 ≤ l → μ l = none) → RepVs μ C xs vs →
    Calls P f vs.toArray w fun e W' => ∃ v μ' C', e = .returned v ∧ (∀ l p, l < n0 → μ l = some p → μ' l = some p) ∧ (∀ l, n1 ≤ l → μ' l = none) ∧ Kept (OwnB h μ) w W' ∧ (∀ b o u, C b o u → C' b o u) ∧
      (∀ b o u, C' b o u → C b o u ∨ w.heap.size ≤ b ∨ OwnB h μ b) ∧ Known C' W' ∧ RepV μ' C' r v ∧ Held (fun b => w.heap.size ≤ b ∨ OwnB h μ b) h' μ' C' W'
def V.le (x y : V) : Prop := ∀ μ C v, RepV μ C x v → RepV μ C y v
theorem V.le.refl (x : V) : x.le x := fun _ _ _ h => h
theorem V.le.d {x y : D} (h : x.le y) : (V.d x).le (.d y) := fun _ C v hv => h C v hv
def retB (P : Program) (fn : Func) (r : V) (h' : List (Nat × Blk)) (n1 : Nat) : Exit → St → Prop
  | .ret, st | .normal, st => (∃ v, ((retS P st fn.results.toList).map .d = some v ∨ (∃ pk, retV P pk st fn.results.toList = some v)) ∧ v.le r) ∧ (∀ l k, look h' l = some k → look st.h l = some k) ∧ st.nx ≤ n1
  | _, _ => False
theorem retS_ok {F : Fr} {st : St} {μ : Nat → Option Place} {C : Facts} {a : Act} {w : World} (hs : Sim F st μ C a w) {fn : Func} {d : D} (hd : retS F.P st fn.results.toList = some d) : ∃ v, (results fn a.tmps).run F.P w = .ok v w ∧ Rep C d v := by
  simp only [retS, Option.map_eq_some_iff] at hd
  obtain ⟨es, he, hd⟩ := hd
  obtain ⟨us, h1, h2⟩ := retAll_ok hs he
  have hrun := results_of (P := F.P) (fn := fn) h1
  have hul : us.length = es.length := outs_length h2
  rcases us with _ | ⟨u, _ | ⟨v, us⟩⟩
  · rcases es with _ | ⟨e, es⟩
    · subst hd; exact ⟨.tuple #[], hrun, .tup [] [] .onil⟩
    · cases hul
  · rcases es with _ | ⟨e, _ | ⟨e2, es⟩⟩
    · cases hul
    · cases h2 with
      | ocons _ _ _ _ h3 _ => subst hd; exact ⟨u, hrun, h3⟩
    · simp at hul
  · rcases es with _ | ⟨e, _ | ⟨e2, es⟩⟩
    · cases hul
    · simp at hul
    · subst hd; exact ⟨_, hrun, .tup _ _ h2⟩
section
variable {P : Program} {G : Nat → Option D} {N : Nat}
theorem CallsB.of {f : FuncId} {fn : Func} {c : Code} {h : List (Nat × Blk)} {n0 : Nat} {xs : List V} {r : V} {h' : List (Nat × Blk)} {n1 : Nat} (hf : P.funcs[f]? = some fn) (hb : fn.body = some c) (hN : fn.ntmps = N) (hp : xs.length ≤ N)
    (hh : ∀ F, Env F P G N → F.n0 = n0 → F.top → Sm F c (retB P fn r h' n1) ⟨xs.zipIdx.map fun e => (e.2, e.1), h, n0⟩) : CallsB P G f h n0 xs r h' n1 := by
  intro μ C w vs hG hk hH hnx ha
  let F : Fr := ⟨P, N, w, C, OwnB h μ, none, n0, fun _ _ μ' _ _ => ∀ l p, l < n0 → μ l = some p → μ' l = some p, fun g t l p hl hp => t.low l p hl (g l p hl hp)⟩
  have hvl : vs.length = xs.length := ha.length
  have hsz : (vs.toArray ++ Array.replicate (fn.ntmps - vs.toArray.size) undef).size = N := by simp; omega
  have hlook : ∀ (xs : List V) (k : Nat) (t : Nat) (x : V), look ((xs.zipIdx k).map fun e => (e.2, e.1)) t = some x → k ≤ t ∧ xs[t - k]? = some x := by
    intro xs
    induction xs with
    | nil => intro k t x h; simp [look] at h
    | cons d xs ih =>
      intro k t x h
      simp only [List.zipIdx_cons, List.map_cons, look] at h
      split at h
      · rename_i e; cases h; subst e; exact ⟨Nat.le_refl _, by simp⟩
      · obtain ⟨h1, h2⟩ := ih _ _ _ h
        refine ⟨by omega, ?_⟩
        rw [show t - k = (t - (k + 1)) + 1 by omega]; simpa using h2
  have hsim : Sim F ⟨xs.zipIdx.map fun e => (e.2, e.1), h, n0⟩ μ C { tmps := vs.toArray ++ Array.replicate (fn.ntmps - vs.toArray.size) undef, defers := [] } w := by
    refine ⟨hsz, .nil _ _, Kept.refl _ _, fun _ _ _ h => h, fun _ _ _ h => .inl h, hk, fun t x hx => ?_, fun l k hk => ?_, hH.inj, hnx, fun _ _ _ h => h⟩
    · obtain ⟨_, hd⟩ := hlook xs 0 t x hx
      rw [Nat.sub_zero] at hd
      obtain ⟨v, h1, h2⟩ := ha.get t x hd
      have htl := (List.getElem?_eq_some_iff.1 h1).1
      have : (vs.toArray ++ Array.replicate (fn.ntmps - vs.toArray.size) undef).getD t undef = v := by
        rw [Array.getD_eq_getD_getElem?, Array.getElem?_append_left (by simpa using htl)]
        simp [h1]
      rw [this]; exact h2
    · obtain ⟨p, hp, hB⟩ := hH.heap l k hk
      refine ⟨p, hp, hB.sz, hB.len, hB.max, hB.row, fun hc => ?_⟩
      obtain ⟨_, b⟩ := hB.cells hc
      exact ⟨.inr ⟨l, k, p, hk, hp, hc, rfl⟩, b⟩
  refine calls_of_Sm (F := F) rfl rfl hf hb (hh F ⟨rfl, rfl, hG⟩ rfl ⟨rfl, fun _ _ _ _ _ _ _ _ h => h⟩) hsim (fun e st' hq => by cases e <;> first | exact .inl rfl | exact .inr rfl | exact hq.elim) ?_
  intro e st' μ' C' a w' hq hs0 a2 w'' _ hs
  have hq' : (∃ v, ((retS P st' fn.results.toList).map .d = some v ∨ (∃ pk, retV P pk st' fn.results.toList = some v)) ∧ v.le r) ∧ (∀ l k, look h' l = some k → look st'.h l = some k) ∧ st'.nx ≤ n1 := by cases e <;> first | exact hq | exact hq.elim
  obtain ⟨⟨v, hv, hle⟩, hh', hn⟩ := hq'
  have hlow : ∀ l p, l < n0 → μ l = some p → μ' l = some p := hs0.gh
  have hres : ∃ u, (results fn a2.tmps).run P w'' = .ok u w'' ∧ RepV μ' C' v u := by
    rcases hv with hv | ⟨pk, hv⟩
    · simp only [Option.map_eq_some_iff] at hv
      obtain ⟨d, hd, rfl⟩ := hv
      obtain ⟨u, h1, h2⟩ := retS_ok hs hd
      exact ⟨u, h1, h2⟩
    · exact retV_ok hs hv
  obtain ⟨u, h1, h2⟩ := hres
  refine ⟨u, h1, u, μ', C', rfl, hlow, fun l hl => hs.nx l (by omega), hs.below, hs.sub, hs.new, hs.known, hle _ _ _ h2, fun l k hk => hs.heap l k (hh' l k hk), fun l l' p p' g1 g2 => ?_⟩
  refine hs.inj l l' p p' ?_ ?_
  · obtain ⟨k, hk⟩ := Option.isSome_iff_exists.1 g1; rw [hh' l k hk]; rfl
  · obtain ⟨k, hk⟩ := Option.isSome_iff_exists.1 g2; rw [hh' l' k hk]; rfl
structure Lend (σ : Nat → Nat) (h : List (Nat × Blk)) (n0 : Nat) (hc : List (Nat × Blk)) : Prop where
  dom : ∀ l, l < n0 → (look h l).isSome = true
  lt : ∀ l k, look h l = some k → l < n0
  blk : ∀ l k, look h l = some k → look hc (σ l) = some (k.ren σ)
  inj : ∀ l l', l < n0 → l' < n0 → σ l = σ l' → l = l'
  low : ∀ l k, look h l = some k → ∀ r ∈ k.rows, ∀ x ∈ r, V.lt n0 x = true ∧ x.noGh = true
theorem dB_ren (σ : Nat → Nat) (sz : Nat) (rows : List (List D)) : (dB sz rows).ren σ = dB sz rows := by
  simp only [dB, Blk.ren, List.map_map]
  congr 1
  refine List.map_congr_left fun r _ => ?_
  simp [Function.comp_def, V.ren]
theorem Lend.one {m sz : Nat} {rows : List (List D)} {hc : List (Nat × Blk)} (hm : look hc m = some (dB sz rows)) : Lend (fun _ => m) [(0, dB sz rows)] 1 hc where
  dom l hl := by obtain rfl : l = 0 := by omega
                 rfl
  lt l k hk := by
    simp only [look] at hk
    split at hk
    · omega
    · cases hk
  blk l k hk := by
    simp only [look] at hk
    split at hk
    · cases hk; rw [dB_ren]; exact hm
    · cases hk
  inj l l' h1 h2 _ := by omega
  low l k hk r hr x hx := by
    simp only [look] at hk
    split at hk
    · cases hk
      obtain ⟨r', _, rfl⟩ := List.mem_map.1 hr
      obtain ⟨d, _, rfl⟩ := List.mem_map.1 hx
      exact ⟨rfl, rfl⟩
    · cases hk
def upN (σ : Nat → Nat) (n0 nx : Nat) (l : Nat) : Nat := if l < n0 then σ l else nx + (l - n0)
def Back (σ : Nat → Nat) (n0 nx : Nat) (h' hc hc' : List (Nat × Blk)) : Prop := ∀ m k, look hc' m = some k → (look hc m = some k ∧ ∀ l, l < n0 → σ l ≠ m) ∨ (∃ l k0, upN σ n0 nx l = m ∧ look h' l = some k0 ∧ k = k0.ren (upN σ n0 nx))
theorem borrow_sim {F : Fr} {st : St} {μ : Nat → Option Place} {C : Facts} {a : Act} {w : World} (hs : Sim F st μ C a w) {σ : Nat → Nat} {h h' hc' : List (Nat × Blk)} {n0 n1 : Nat} (hL : Lend σ h n0 st.h) (hB : Back σ n0 st.nx h' st.h hc') :
    let μ0 := fun l => if l < n0 then μ (σ l) else none
    Held (fun _ => True) h μ0 C w ∧ (∀ x v, V.lt n0 x = true → x.noGh = true → RepV μ C (x.ren σ) v → RepV μ0 C x v) ∧
    ∀ μ' C' W', (∀ l p, l < n0 → μ0 l = some p → μ' l = some p) → (∀ l, n1 ≤ l → μ' l = none) → Kept (OwnB h μ0) w W' → (∀ b o u, C b o u → C' b o u) →
      (∀ b o u, C' b o u → C b o u ∨ w.heap.size ≤ b ∨ OwnB h μ0 b) → Known C' W' → Held (fun b => w.heap.size ≤ b ∨ OwnB h μ0 b) h' μ' C' W' →
      Sim F { st with h := hc', nx := st.nx + (n1 - n0) } (fun m => if m < st.nx then μ m else μ' (m - st.nx + n0)) C' a W' ∧ ∀ r v, RepV μ' C' r v → RepV (fun m => if m < st.nx then μ m else μ' (m - st.nx + n0)) C' (r.ren (upN σ n0 st.nx)) v := by
  intro μ0
  have hμ0 : ∀ l p, l < n0 → (μ0 l = some p ↔ μ (σ l) = some p) := fun l p hl => by simp [μ0, hl]
  have hplace : ∀ l k, look h l = some k → ∃ p, μ0 l = some p ∧ μ (σ l) = some p ∧ BlkOk F.mine μ C w p (k.ren σ) := fun l k hk => by
    obtain ⟨p, hp, hb⟩ := hs.heap (σ l) _ (hL.blk l k hk)
    exact ⟨p, (hμ0 l p (hL.lt l k hk)).2 hp, hp, hb⟩
  have hdown : ∀ x v, V.lt n0 x = true → x.noGh = true → RepV μ C (x.ren σ) v → RepV μ0 C x v := fun x v h1 h2 hr => V.ren_down (fun l p hl hp => (hμ0 l p hl).2 hp) h1 h2 hr
  have hown : ∀ b, OwnB h μ0 b → OwnB st.h μ b := fun b ⟨l, k, p, g1, g2, g3, g4⟩ => ⟨σ l, _, p, hL.blk l k g1, (hμ0 l p (hL.lt l k g1)).1 g2, g3, g4⟩
  have hfree : ∀ m k p, look st.h m = some k → (∀ l, l < n0 → σ l ≠ m) → μ m = some p → 0 < p.cap → ¬ OwnB h μ0 p.b := fun m k p g1 g2 g3 g4 ⟨l, k', p', e1, e2, e3, e4⟩ =>
    g2 l (hL.lt l k' e1) (hs.inj (σ l) m p' p (by rw [hL.blk l k' e1]; rfl) (by rw [g1]; rfl) ((hμ0 l p' (hL.lt l k' e1)).1 e2) g3 e3 g4 e4)
  have hlt : ∀ m k, look st.h m = some k → m < st.nx := fun m k hm => by
    obtain ⟨p, hp, _⟩ := hs.heap m k hm
    rcases Nat.lt_or_ge m st.nx with h | h
    · exact h
    · rw [hs.nx m h] at hp; cases hp
  refine ⟨⟨fun l k hk => ?_, fun l l' p p' g1 g2 q1 q2 c1 c2 e => ?_⟩, hdown, ?_⟩
  · obtain ⟨p, hp0, hp, hb⟩ := hplace l k hk
    refine ⟨p, hp0, hb.sz, by simpa [Blk.ren] using hb.len, hb.max, fun r hr => by simpa [Blk.ren] using hb.row (r.map (V.ren σ)) (List.mem_map_of_mem hr), fun hc => ?_⟩
    obtain ⟨_, b2, cur, T, b3, b4, b5⟩ := hb.cells hc
    refine ⟨trivial, b2, cur, T, b3, b4, fun i r hr j x hx => ?_⟩
    obtain ⟨u, u1, u2, u3⟩ := b5 i (r.map (V.ren σ)) (by simp [Blk.ren, hr]) j (x.ren σ) (by simp [hx])
    obtain ⟨x1, x2⟩ := hL.low l k hk r (List.mem_of_getElem? hr) x (List.mem_of_getElem? hx)
    exact ⟨u, u1, u2, hdown x u x1 x2 u3⟩
  · obtain ⟨k, hk⟩ := Option.isSome_iff_exists.1 g1
    obtain ⟨k', hk'⟩ := Option.isSome_iff_exists.1 g2
    exact hL.inj l l' (hL.lt l k hk) (hL.lt l' k' hk') (hs.inj (σ l) (σ l') p p' (by rw [hL.blk l k hk]; rfl) (by rw [hL.blk l' k' hk']; rfl) ((hμ0 l p (hL.lt l k hk)).1 q1) ((hμ0 l' p' (hL.lt l' k' hk')).1 q2) c1 c2 e)
  intro μ' C' W' hlow hn1 hkept hsub hnew hkn hheld
  generalize hμc : (fun m => if m < st.nx then μ m else μ' (m - st.nx + n0)) = μc
  have hm : ∀ m p, μ m = some p → μc m = some p := fun m p hp => by
    have : m < st.nx := by
      rcases Nat.lt_or_ge m st.nx with h | h
      · exact h
      · rw [hs.nx m h] at hp; cases hp
    rw [← hμc]; simp only [if_pos this]; exact hp
  have hup : ∀ l p, μ' l = some p → μc (upN σ n0 st.nx l) = some p := fun l p hp => by
    by_cases hl : l < n0
    · obtain ⟨k, hk⟩ := Option.isSome_iff_exists.1 (hL.dom l hl)
      obtain ⟨q, hq0, hq, _⟩ := hplace l k hk
      have := hlow l q hl hq0
      rw [hp] at this; cases this
      unfold upN; rw [if_pos hl]; exact hm _ _ hq
    · unfold upN; rw [if_neg hl]
      rw [← hμc]; simp only [show ¬ st.nx + (l - n0) < st.nx by omega, if_false]
      rw [show st.nx + (l - n0) - st.nx + n0 = l by omega]; exact hp
  have hmine : ∀ b, (w.heap.size ≤ b ∨ OwnB h μ0 b) → F.mine b := fun b hb => hb.elim (fun hb => .inl (Nat.le_trans hs.below.size hb)) fun hb => (hs.own_cells (hown b hb)).1
  have hblk : ∀ b, b < w.heap.size → ¬ OwnB h μ0 b → W'.heap[b]? = w.heap[b]? := hkept.block
  have hother : ∀ m k, look st.h m = some k → (∀ l, l < n0 → σ l ≠ m) → ∃ p, μc m = some p ∧ μ m = some p ∧ BlkOk F.mine μc C' W' p k := fun m k g1 g2 => by
    obtain ⟨p, hp, hb⟩ := hs.heap m k g1
    refine ⟨p, hm m p hp, hp, hb.sz, hb.len, hb.max, hb.row, fun hc => ?_⟩
    obtain ⟨b1, b2, cur, T, b3, b4, b5⟩ := hb.cells hc
    have hno := hfree m k p g1 g2 hp hc
    refine ⟨b1, fun o u hcu => ?_, cur, T, (hblk _ (hb.lt hc) hno).trans b3, b4, b5.mono hm hsub⟩
    rcases hnew _ _ _ hcu with h1 | h1 | h1
    · exact b2 o u h1
    · have := hb.lt hc; omega
    · exact hno h1
  have hback : ∀ l k0, look h' l = some k0 → ∃ p, μ' l = some p ∧ μc (upN σ n0 st.nx l) = some p ∧ (0 < p.cap → w.heap.size ≤ p.b ∨ OwnB h μ0 p.b) ∧ BlkOk F.mine μc C' W' p (k0.ren (upN σ n0 st.nx)) := fun l k0 hk => by
    obtain ⟨p, hp, hb⟩ := hheld.heap l k0 hk
    refine ⟨p, hp, hup l p hp, fun hc => (hb.cells hc).1, hb.sz, by simpa [Blk.ren] using hb.len, hb.max, fun r hr => ?_, fun hc => ?_⟩
    · obtain ⟨r', hr', rfl⟩ := List.mem_map.1 hr
      simpa [Blk.ren] using hb.row r' hr'
    · obtain ⟨b1, b2, cur, T, b3, b4, b5⟩ := hb.cells hc
      refine ⟨hmine _ b1, b2, cur, T, b3, b4, fun i r hr j x hx => ?_⟩
      simp only [Blk.ren, List.getElem?_map, Option.map_eq_some_iff] at hr
      obtain ⟨r', hr', rfl⟩ := hr
      simp only [List.getElem?_map, Option.map_eq_some_iff] at hx
      obtain ⟨x', hx', rfl⟩ := hx
      obtain ⟨u, u1, u2, u3⟩ := b5 i r' hr' j x' hx'
      exact ⟨u, u1, u2, V.ren_up hup u3⟩
  refine ⟨⟨hs.size, ⟨hs.defers.nodup, fun d hd => ?_⟩, ⟨hkept.os.trans hs.below.os, hkept.tape.trans hs.below.tape, hkept.output.trans hs.below.output, Nat.le_trans hs.below.size hkept.size, fun n hn hno => ?_⟩, fun b o u hc => hsub _ _ _ (hs.sub _ _ _ hc), fun b o u hc => (hnew b o u hc).elim (hs.new b o u) fun hb => .inr (hmine b hb), hkn, fun t x hx => (hs.env t x hx).mono hm hsub, fun m k hk => ?_, fun m m' p p' g1 g2 q1 q2 c1 c2 e => ?_, fun m hm' => ?_, F.stab hs.gh ⟨hkept.os, hkept.tape, hkept.output, hkept.size, fun l p _ hp => hm l p hp, fun m hm' => ?_, fun b hb hn => hblk b hb fun ho => hn (hown b ho), fun b ⟨m, k, p, g1, g2, g3, g4⟩ => ?_, hsub, fun b o u hc => (hnew b o u hc).imp id fun h => h.elim .inr fun h => .inl (hown b h), hkn⟩⟩, fun r v hr => V.ren_up hup hr⟩
  · obtain ⟨q, q1, q2, q3⟩ := hs.defers.each d hd
    refine ⟨q, q1, q2, (hblk q (Array.getElem?_eq_some_iff.1 q3).1 fun ho => ?_).trans q3⟩
    obtain ⟨_, _, cur, T, hc⟩ := hs.own_cells (hown q ho)
    rw [q3] at hc; cases hc
  · rw [hblk n (Nat.lt_of_lt_of_le hn hs.below.size) fun ho => ?_]
    · exact hs.below.block n hn hno
    · rcases (hs.own_cells (hown n ho)).1 with h1 | h1
      · omega
      · exact hno h1
  · rcases hB m k hk with ⟨g1, g2⟩ | ⟨l, k0, rfl, g2, rfl⟩
    · obtain ⟨p, hp, _, hb⟩ := hother m k g1 g2; exact ⟨p, hp, hb⟩
    · obtain ⟨p, _, hp, _, hb⟩ := hback l k0 g2; exact ⟨p, hp, hb⟩
  · obtain ⟨k, hk⟩ := Option.isSome_iff_exists.1 g1
    obtain ⟨k', hk'⟩ := Option.isSome_iff_exists.1 g2
    have apart : ∀ m k p l k0 p', look st.h m = some k → (∀ l, l < n0 → σ l ≠ m) → μc m = some p → look h' l = some k0 → μc (upN σ n0 st.nx l) = some p' → 0 < p.cap → 0 < p'.cap → p.b ≠ p'.b := by
      intro m k p l k0 p' a1 a2 a3 a4 a5 a6 a7 a8
      obtain ⟨q, hq, hqm, hqb⟩ := hother m k a1 a2
      rw [hq] at a3; cases a3
      obtain ⟨q', _, hq', hqo, _⟩ := hback l k0 a4
      rw [hq'] at a5; cases a5
      obtain ⟨p2, hp2, hb2⟩ := hs.heap m k a1
      rw [hqm] at hp2; cases hp2
      rcases hqo a7 with h1 | h1
      · have := hb2.lt a6; omega
      · exact hfree m k p a1 a2 hqm a6 (a8 ▸ h1)
    rcases hB m k hk with ⟨a1, a2⟩ | ⟨l, k0, rfl, a2, rfl⟩ <;> rcases hB m' k' hk' with ⟨b1, b2⟩ | ⟨l', k0', rfl, b2, rfl⟩
    · obtain ⟨q, hq, hqm, _⟩ := hother m k a1 a2
      obtain ⟨q', hq', hqm', _⟩ := hother m' k' b1 b2
      rw [hq] at q1; cases q1; rw [hq'] at q2; cases q2
      exact hs.inj m m' _ _ (by rw [a1]; rfl) (by rw [b1]; rfl) hqm hqm' c1 c2 e
    · exact absurd e (apart m k p l' k0' p' a1 a2 q1 b2 q2 c1 c2)
    · exact absurd e.symm (apart m' k' p' l k0 p b1 b2 q2 a2 q1 c2 c1)
    · obtain ⟨q, hq, hqm, _⟩ := hback l k0 a2
      obtain ⟨q', hq', hqm', _⟩ := hback l' k0' b2
      rw [hqm] at q1; cases q1; rw [hqm'] at q2; cases q2
      rw [hheld.inj l l' _ _ (by rw [a2]; rfl) (by rw [b2]; rfl) hq hq' c1 c2 e]
  · have h1 : st.nx + (n1 - n0) ≤ m := hm'
    rw [← hμc]; simp only [show ¬ m < st.nx by omega, if_false]
    exact hn1 _ (by omega)
  · obtain ⟨k, hk⟩ := Option.isSome_iff_exists.1 hm'
    rcases hB m k hk with ⟨a1, _⟩ | ⟨l, k0, rfl, a2, rfl⟩
    · left; rw [a1]; rfl
    · by_cases hl : l < n0
      · obtain ⟨k2, hk2⟩ := Option.isSome_iff_exists.1 (hL.dom l hl)
        left; unfold upN; rw [if_pos hl, hL.blk l k2 hk2]; rfl
      · right; unfold upN; rw [if_neg hl]; exact hs.nx _ (by omega)
  · rcases hB m k g1 with ⟨a1, a2⟩ | ⟨l, k0, rfl, a2, rfl⟩
    · obtain ⟨q, hq, hqm, _⟩ := hother m k a1 a2
      rw [hq] at g2; cases g2
      exact .inl ⟨m, k, _, a1, hqm, g3, g4⟩
    · obtain ⟨q, _, hq, hqo, _⟩ := hback l k0 a2
      rw [hq] at g2; cases g2
      rcases hqo g3 with h1 | h1
      · exact .inr (g4 ▸ h1)
      · exact .inl (g4 ▸ hown _ h1)
end
def evVs (ev : Operand → Option V) : List Operand → Option (List V)
  | [] => some []
  | x :: r => (ev x).bind fun v => (evVs ev r).map (v :: ·)
theorem evVs_ok {ev : Operand → Option V} {μ : Nat → Option Place} {C : Facts} {a : Act} (hev : ∀ x v, ev x = some v → RepV μ C v (a.eval x)) : ∀ {xs : List Operand} {ys : List V}, evVs ev xs = some ys → RepVs μ C ys (xs.map a.eval) := by
  intro xs
  induction xs with
  | nil => intro ys h; cases h; exact .nil
  | cons x xs ih =>
    intro ys h
    simp only [evVs, Option.bind_eq_some_iff, Option.map_eq_some_iff] at h
    obtain ⟨v, hv, r, hr, rfl⟩ := h
    exact .cons _ _ _ _ (hev x _ hv) (ih hr)
theorem evVs_congr {ev ev' : Operand → Option V} (h : ∀ x, ev x = ev' x) : ∀ (xs : List Operand), evVs ev xs = evVs ev' xs := by
  intro xs
  induction xs with
  | nil => rfl
  | cons x xs ih => simp only [evVs, h x, ih]
theorem RepVs.append {μ : Nat → Option Place} {C : Facts} {xs ys : List V} {vs us : List Value} (h : RepVs μ C xs vs) (k : RepVs μ C ys us) : RepVs μ C (xs ++ ys) (vs ++ us) := by
  induction h with
  | nil => exact k
  | cons x v xs vs h1 _ ih => exact .cons _ _ _ _ h1 ih
theorem RepVs.of_outs {μ : Nat → Option Place} {C : Facts} {ds : List D} : ∀ {us : List Value}, Rp C (.outs ds us) → RepVs μ C (ds.map V.d) us := by
  induction ds with
  | nil => intro us h; cases h; exact .nil
  | cons d ds ih => intro us h; cases h with | ocons _ v _ vs h1 h2 => exact .cons _ _ _ _ h1 (ih h2)
def lowVs (n : Nat) (xs : List V) : Bool := xs.all fun x => x.lt n && x.noGh
theorem RepVs.down {μ μ0 : Nat → Option Place} {C : Facts} {n : Nat} {σ : Nat → Nat} (hd : ∀ x v, V.lt n x = true → x.noGh = true → RepV μ C (x.ren σ) v → RepV μ0 C x v) : ∀ {xs : List V} {vs : List Value}, lowVs n xs = true → RepVs μ C (xs.map (V.ren σ)) vs → RepVs μ0 C xs vs := by
  intro xs
  induction xs with
  | nil => intro vs _ h; cases h; exact .nil
  | cons x xs ih =>
    intro vs hl h
    simp only [lowVs, List.all_cons, Bool.and_eq_true] at hl
    cases h with
    | cons _ v _ vs h1 h2 => exact .cons _ _ _ _ (hd x v hl.1.1 hl.1.2 h1) (ih (by simpa [lowVs] using hl.2) h2)
section
variable {P : Program} {G : Nat → Option D} {N : Nat} {F : Fr} {ops : Array Oper} {rest : List Oper} {o : Oper} {Q : Exit → St → Prop} {st : St} {σ : Nat → Nat} {h0 h' hc' : List (Nat × Blk)} {n0 n1 : Nat} {r : V} {xs0 : List V}
theorem borrow_call (hF : Env F P G N) (hL : Lend σ h0 n0 st.h) (hB : Back σ n0 st.nx h' st.h hc') {f : FuncId} {μ : Nat → Option Place} {C : Facts} {a : Act} {w : World} {vs : List Value} (hs : Sim F st μ C a w) (hlow : lowVs n0 xs0 = true) (hvs : RepVs μ C (xs0.map (V.ren σ)) vs) (hc : CallsB P G f h0 n0 xs0 r h' n1)
    {K : Value → World → Prop} (k : ∀ v μ' C' w', Sim F { st with h := hc', nx := st.nx + (n1 - n0) } μ' C' a w' → RepV μ' C' (r.ren (upN σ n0 st.nx)) v → K v w') : Calls P f vs.toArray w fun e w' => ∃ v, e = .returned v ∧ K v w' := by
  obtain ⟨rfl, rfl, hG⟩ := hF
  obtain ⟨hH, hdown, hback⟩ := borrow_sim (n1 := n1) hs hL hB
  refine (hc _ C w vs (hG.mono hs.sub) hs.known hH (fun l hl => by simp only [show ¬ l < n0 by omega, if_false]) (RepVs.down hdown hlow hvs)).mono ?_
  rintro e W' ⟨v, μ', C', rfl, g1, g2, g3, g4, g5, g6, g7, g8⟩
  obtain ⟨s1, s2⟩ := hback μ' C' W' g1 g2 g3 g4 g5 g6 g8
  exact ⟨v, rfl, k v _ C' W' s1 (s2 r v g7)⟩
theorem SmL.callFB (hF : Env F P G N) (hN : St.small N st) (hL : Lend σ h0 n0 st.h) (hB : Back σ n0 st.nx h' st.h hc') {f : FuncId} {x : Operand} {xs : Array Operand} {ts : Array TypeId} {t : Tmp} {ys : List V} {caps : List D} (hg : guardS ops st.env o.guard = some true) (ho : o.op = .call ⟨.value x, xs, ts⟩) (hd : o.dst = some t) (hb : hasBody P f = true)
    (hx : evD G st.env x = some (.d (.fn f caps))) (hargs : evVs (evD G st.env) xs.toList = some ys) (hys : ys ++ caps.map V.d = xs0.map (V.ren σ)) (hlow : lowVs n0 xs0 = true) (ht : t < N) (hc : CallsB P G f h0 n0 xs0 r h' n1)
    (k : SmL F ops rest Q ⟨(t, r.ren (upN σ n0 st.nx)) :: st.env, hc', st.nx + (n1 - n0)⟩) : SmL F ops (o :: rest) Q st := by
  intro μ C a w hs
  have hev : ∀ x v, evD G st.env x = some v → RepV μ C v (a.eval x) := fun x v h => evD_ok hs hF.glob h
  refine wpS_step (fun _ => by rw [ho]; simp) fun K hK => ?_
  rw [guardS_ok hs hg (by rw [hF.size]; exact hN), if_pos rfl]
  have hfv := hev x _ hx
  generalize hfx : a.eval x = fv at hfv
  cases hfv with
  | fn _ _ us hu =>
    have hPP := hF.prog
    rw [hPP]
    refine wp_callV f (fun a w => hcall_of hb a w) x xs ts ho us hfx (xs.toList.map a.eval) rfl ?_
    refine borrow_call hF hL hB hs hlow ?_ hc ?_
    · rw [← hys]; exact (evVs_ok hev hargs).append (.of_outs hu)
    · intro v μ' C' w' s1 s2
      rw [hd]
      exact hK _ _ (k μ' C' _ w' (s1.put (by rw [hF.size]; exact ht) s2))
end
theorem Back.one {m nx sz sz' : Nat} {rows rows' : List (List D)} {h : List (Nat × Blk)} (hm : look h m = some (dB sz rows)) : Back (fun _ => m) 1 nx [(0, dB sz' rows')] h (rep h m (dB sz' rows')) := by
  intro l k hk
  rw [look_rep] at hk
  split at hk
  · rename_i e
    subst e
    rw [hm] at hk; cases hk
    exact .inr ⟨0, _, by simp [upN], rfl, (dB_ren _ _ _).symm⟩
  · rename_i e
    exact .inl ⟨hk, fun _ _ h => e h.symm⟩
section
variable {P : Program} {G : Nat → Option D} {N : Nat} {F : Fr} {ops rest : List Oper} {o : Oper} {Q : Exit → St → Prop} {env : List (Nat × V)} {h : List (Nat × Blk)} {nx n1 : Nat} {r : V} {xs0 : List V}
theorem SmG.callF1 (hF : Env F P G N) (m : Nat) {f : FuncId} {x : Operand} {xs : List Operand} {ts : Array TypeId} {t : Tmp} {ys : List V} {caps : List D} {sz sz' : Nat} {rows rows' : List (List D)} (ho : o.op = .call ⟨.value x, xs.toArray, ts⟩) (hd : o.dst = some t) (ht : Nat.blt t N = true)
    (hg : guardB ops env o.guard = some true) (hx : evB G env x = some (.d (.fn f caps))) (hargs : evVs (evB G env) xs = some ys) (hb : hasBody P f = true) (hm : lookB h m = some (dB sz rows)) (hc : CallsB P G f [(0, dB sz rows)] 1 xs0 r [(0, dB sz' rows')] n1) (hys : ys ++ caps.map V.d = xs0.map (V.ren fun _ => m)) (hlow : lowVs 1 xs0 = true)
    (k : SmG F N ops rest Q ⟨(t, r.ren (upN (fun _ => m) 1 nx)) :: env, rep h m (dB sz' rows'), nx + (n1 - 1)⟩) : SmG F N ops (o :: rest) Q ⟨env, h, nx⟩ := by
  have ht' : t < N := by simpa [Nat.blt_eq] using ht
  intro hs
  rw [evB_eq] at hx
  rw [lookB_eq] at hm
  rw [evVs_congr (evB_eq G env)] at hargs
  exact SmL.callFB hF hs (.one hm) (.one hm) (guardB_ok hg) ho hd hb hx (by simpa using hargs) hys hlow ht' hc (k (small_put hs ht'))
end
theorem opV_lookup {P : Program} {G : Nat → Option D} {env : List (Nat × V)} {h : List (Nat × Blk)} {o : Oper} {t : TypeId} {x i : Operand} {ok : Bool} {v w y : V} (ho : o.op = .lookup t x i ok) (hx : evB G env x = some v) (hi : evB G env i = some w) (hy : lookupS P t v w ok = some y) : opV P (evD G env) h o = some y := by
  rw [evB_eq] at hx hi; simp only [opV, ho, hx, hi, Option.bind_some, hy]
theorem retQ_cell2 {P : Program} {fn : Func} {p q : Tmp} {ty : TypeId} {st : St} {x : V} {v v2 d : D} (hr : fn.results = #[.cell p ty, .tmp q]) (hx : lookB st.env p = some x) (hl : loadS P st.h ty x = some (.d v)) (h2 : lookB st.env q = some (.d v2)) (hle : (D.tup [v, v2]).le d) : retQ P fn d .ret st := by
  refine ⟨.tup [v, v2], ?_, hle⟩
  rw [lookB_eq] at hx h2
  simp only [retS, hr, retAll, retOne, hx, hl, h2, Option.bind_some, pureV, Option.map_some]
def leL : List D → List D → Prop
  | [], [] => True
  | x :: xs, y :: ys => x.le y ∧ leL xs ys
  | _, _ => False
theorem leL.refl : ∀ (xs : List D), leL xs xs
  | [] => trivial
  | _ :: xs => ⟨D.le.refl _, leL.refl xs⟩
theorem D.le_tup {xs ys : List D} (h : leL xs ys) : (D.tup xs).le (.tup ys) := by
  intro C v hv
  cases hv with
  | tup _ vs hv =>
  refine .tup ys vs ?_
  induction xs generalizing ys vs with
  | nil => cases ys with
    | nil => exact hv
    | cons => exact h.elim
  | cons x xs ih => cases ys with
    | nil => exact h.elim
    | cons y ys => cases hv with | ocons _ v _ vs h1 h2 => exact .ocons _ _ _ _ (h.1 C v h1) (ih h.2 vs h2)
theorem D.le_agg {n : Nat} {xs ys : List D} (h : leL xs ys) : (D.agg n xs).le (.agg n ys) := by
  intro C v hv
  cases hv with
  | agg _ _ vs hn hv =>
  have hlen : ∀ (xs ys : List D), leL xs ys → xs.length = ys.length := by
    intro xs
    induction xs with
    | nil => intro ys h; cases ys with
      | nil => rfl
      | cons => exact h.elim
    | cons x xs ih => intro ys h; cases ys with
      | nil => exact h.elim
      | cons y ys => simp [ih ys h.2]
  refine .agg n ys vs (by rw [← hlen xs ys h]; exact hn) ?_
  clear hn
  induction xs generalizing ys vs with
  | nil => cases ys with
    | nil => exact hv
    | cons => exact h.elim
  | cons x xs ih => cases ys with
    | nil => exact h.elim
    | cons y ys => cases hv with | vcons _ v _ vs h0 h1 h2 => exact .vcons _ _ _ _ h0 (h.1 C v h1) (ih h.2 vs h2)
theorem mapM_get {α β : Type} (f : α → Option β) : ∀ {l : List α} {r : List β}, l.mapM f = some r → ∀ i : Nat, (l[i]?).bind f = r[i]? := by
  intro l
  induction l with
  | nil => intro r h i; simp at h; subst h; simp
  | cons a l ih =>
    intro r h i
    rw [List.mapM_cons] at h
    simp only [Option.bind_eq_bind, Option.bind_eq_some_iff, Option.pure_def, Option.some.injEq] at h
    obtain ⟨b, hb, r', hr, rfl⟩ := h
    cases i with
    | zero => simpa using hb
    | succ i => simpa using ih hr i
theorem buildS_struct {P : Program} {t : TypeId} {pl : List (Nat × Nat)} {ps : List (Nat × V)} {z cs : List D} {n : Nat} (hz : zeroD P t = some z) (hp : placesL P t = some pl) (hn : z.length = n) (hf : fillD (fun i => pl[i]?) ps z = some cs) : buildS P t ps = some (.d (.agg n cs)) := by
  have hpl : ∃ g, placesT P t = some g ∧ g = fun i => pl[i]? := by
    unfold placesL at hp
    unfold placesT
    split at hp
    · rename_i fs hu
      rw [hu]
      refine ⟨_, rfl, funext fun i => ?_⟩
      have := mapM_get _ hp i
      rw [← this, Array.getElem?_toList]
    · cases hp
  obtain ⟨g, hg, rfl⟩ := hpl
  simp only [buildS, buildD, hz, hg, Option.bind_some, hf, Option.map_some, hn]
theorem fill_one {pl : Nat → Option (Nat × Nat)} {i off n : Nat} {x : V} {d : D} {r : List (Nat × V)} {cs : List D} (h : pl i = some (off, 1)) (hx : partOf 1 x = some [d]) (hn : cs.length = n) (hl : off + 1 ≤ n) : fillD pl ((i, x) :: r) cs = fillD pl r (cs.set off d) := by
  subst hn
  simp only [fillD, h, Option.bind_some, hx, hl, if_true, setD]
theorem fill_agg {pl : Nat → Option (Nat × Nat)} {i off s n : Nat} {ys : List D} {r : List (Nat × V)} {cs : List D} (h : pl i = some (off, s)) (hs : 2 ≤ s) (hy : ys.length = s) (hn : cs.length = n) (hl : off + s ≤ n) : fillD pl ((i, .d (.agg s ys)) :: r) cs = fillD pl r (cs.take off ++ ys ++ cs.drop (off + s)) := by
  subst hn
  simp only [fillD, h, Option.bind_some, partOf, if_true, hl, if_neg (show ¬ s = 1 by omega)]
  split
  · rename_i e
    have h0 : off = 0 := by omega
    subst h0
    have : cs.drop (0 + s) = [] := List.drop_eq_nil_of_le (by omega)
    rw [this]; simp
  · rw [layD, hy]
theorem fillE {pl : Nat → Option (Nat × Nat)} {cs cs' : List D} (h : cs = cs') : fillD pl [] cs = some cs' := by rw [h]; rfl
theorem fill_oneE {pl : Nat → Option (Nat × Nat)} {i off : Nat} {x : V} {d : D} {r : List (Nat × V)} {cs : List D} {res : Option (List D)} (h : pl i = some (off, 1)) (hx : partOf 1 x = some [d]) (hl : Nat.ble (off + 1) cs.length = true) (k : fillD pl r (cs.set off d) = res) : fillD pl ((i, x) :: r) cs = res := by
  rw [fill_one h hx rfl (Nat.le_of_ble_eq_true hl)]; exact k
theorem fill_aggE {pl : Nat → Option (Nat × Nat)} {i off s : Nat} {ys : List D} {r : List (Nat × V)} {cs : List D} {res : Option (List D)} (h : pl i = some (off, s)) (hs : Nat.ble 2 s = true) (hl : Nat.ble (off + s) cs.length = true) (hy : ys.length = s) (k : fillD pl r (cs.take off ++ ys ++ cs.drop (off + s)) = res) : fillD pl ((i, .d (.agg s ys)) :: r) cs = res := by
  rw [fill_agg h (Nat.le_of_ble_eq_true hs) hy rfl (Nat.le_of_ble_eq_true hl)]; exact k
def ltR (n : Nat) : List V → Prop
  | [] => True
  | x :: r => V.lt n x = true ∧ ltR n r
theorem ltR_map (n : Nat) : ∀ (r : List D), ltR n (r.map V.d)
  | [] => trivial
  | _ :: r => ⟨rfl, ltR_map n r⟩
theorem ltR_mem {n : Nat} : ∀ {r : List V}, ltR n r → ∀ x ∈ r, V.lt n x = true
  | [], _, x, hx => by cases hx
  | y :: r, h, x, hx => by
    rcases List.mem_cons.1 hx with rfl | hx
    · exact h.1
    · exact ltR_mem h.2 x hx
theorem ltH_row {n m sz : Nat} {r : List V} {h : List (Nat × Blk)} (f : ltH n h) (hr : ltR n r) : ltH n ((m, ⟨sz, [r]⟩) :: h) := ltH_cons f fun r' hr' x hx => by
  obtain rfl : r' = r := by simpa using hr'
  exact ltR_mem hr x hx
section
variable {P : Program} {G : Nat → Option D} {N : Nat} {F : Fr} {ops rest : List Oper} {o : Oper} {Q : Exit → St → Prop} {env : List (Nat × V)} {h : List (Nat × Blk)} {nx : Nat} {t e : TypeId} {z : Value} {size bytes : Nat}
theorem SmG.appendCell (hF : Env F P G N) (hE : ElemT P t e z size bytes) {s x : Operand} {d : Tmp} {sz' l n : Nat} {xs ys : List (List D)} {f : Bool} (ho : o.op = .call ⟨.builtin .append, #[s, x], #[t, t]⟩) (hd : o.dst = some d) (hdN : Nat.blt d N = true) (hg : guardB ops env o.guard = some true)
    (hs : evB G env s = some (.sref l 0 n)) (hx : evB G env x = some (.d (.list sz' ys f))) (hl : lookB h l = some ⟨size, xs.map fun r => r.map V.d⟩) (hn : n = xs.length) (hsz' : sz' = size ∨ ys = []) (hb : (xs.length + ys.length) * bytes ≤ 140737488355328) (hb2 : xs.length + ys.length ≤ 140737488355328)
    (k : SmG F N ops rest Q ⟨(d, .sref l 0 (xs ++ ys).length) :: killV l env, rep (mapH (killX l) h) l (dB size (xs ++ ys)), nx⟩) (hlow : F.n0 ≤ l := by omega) : SmG F N ops (o :: rest) Q ⟨env, h, nx⟩ := by
  refine SmG.killH l (SmG.appendOwn hF hE ho hd hdN hg hs hx ?_ hn hsz' (free_killH l h) hb hb2 k hlow)
  rw [lookB_eq] at hl ⊢
  rw [look_mapH, hl]
  exact congrArg some (killB_dB l size xs)
end
end Go.Proofs.YtagfaaijgfigkaaDoor
namespace Go.Proofs.YtagfaaijgfigkaaDoor
open Go.RowKit
set_option maxRecDepth 100000
theorem clone_O (l : List Res) (hl : l.length ≤ 1000000) (G : Nat → Option D) : CallsO Tryd.prog G 36 [ressL l] .one 2 (l.map Res.row) [] := by
  refine CallsO.of Tryd.func36 rfl Tryd.ntmps36 (by simp) ?_; intro F hF h0 hT; simp only [List.zipIdx_cons, List.zipIdx_nil, List.map_cons, List.map_nil, Nat.zero_add, Nat.reduceAdd]
  refine Sm.seq ?_
  refine Sm.regionG hF rfl ?_
  refine SmG.v hF rfl rfl rfl (opV_assign rfl rfl) ?_
  refine SmG.nil ?_
  refine nextS_normal ?_
  refine Sm.seq ?_
  refine Sm.seq ?_
  refine Sm.regionG hF rfl ?_
  refine SmG.v hF rfl rfl rfl (opV_move rfl rfl) ?_
  refine SmG.nilEq hF Tryd.underlying27 rfl rfl rfl rfl rfl (fun c hc => ?_)
  refine SmG.nil ?_
  refine nextS_normal ?_
  cases c with
  | true =>
    have h0 : l = [] := by
      rcases l with _ | ⟨r, l⟩
      · rfl
      · have := hc (by simp)
        cases this
    subst h0
    refine Sm.condT hF rfl ?_
    refine Sm.seq ?_
    refine Sm.regionG hF rfl ?_
    (refine SmG.v hF rfl rfl rfl (opV_assign rfl rfl) ?_; refine SmG.own (t := 2) 2 rfl ?_)
    refine SmG.nil ?_
    refine nextS_normal ?_
    refine Sm.ret ?_
    simp only [nextS, blockS]
    exact ⟨0, rfl, rfl⟩
  | false =>
    refine Sm.condF hF rfl ?_
    refine Sm.skip ?_
    refine nextS_normal ?_
    refine Sm.seq ?_
    refine Sm.regionG hF rfl ?_
    refine SmG.v hF rfl rfl rfl (opV_buildSlice rfl rfl (by simp (disch := omega) only [go_sem, Nat.reduceEqDiff, iteP, ressL] <;> rfl)) ?_
    refine SmG.v hF rfl rfl rfl (opV_move rfl rfl) ?_
    refine SmG.appendFresh hF elRes rfl rfl rfl rfl rfl rfl (Or.inl rfl) (by simp only [List.length_map]; omega) (by simp only [List.length_map]; omega) ?_
    refine SmG.v hF rfl rfl rfl (opV_assign rfl rfl) ?_
    refine SmG.nil ?_
    refine nextS_normal ?_
    refine Sm.ret ?_
    exact ⟨0, rfl, rfl⟩
def lie (x : Wk) (at0 : Int) (l : List Res) : List Res := if at0 ≤ x.at_ ∧ x.at_ < at0 + l.length then l.set (x.at_ - at0).toNat x.by_ else l
theorem lie_B (x : Wk) (t : Int) (at0 : Nat) (l : List Res) (hl : l.length ≤ 1000000) (ha : at0 ≤ 1000000) (G : Nat → Option D) :
    CallsB Tryd.prog G 48 [(0, dB 2 (l.map Res.row))] 1 [.d (wkD x), .d (.v (.int .i64 t)), .d (.v (.int .i64 at0)), .sref 0 0 (l.map Res.row).length] (.mix true 0 (l.map Res.row).length [.v (.bool true)]) [(0, dB 2 ((lie x at0 l).map Res.row))] 2 := by
  have hlen : (l.map Res.row).length = l.length := List.length_map ..
  by_cases h1 : (at0 : Int) ≤ x.at_
  · by_cases h2 : x.at_ < (at0 : Int) + (l.length : Int)
    · obtain ⟨k, hk⟩ : ∃ k : Nat, x.at_ = (at0 : Int) + (k : Int) := ⟨(x.at_ - at0).toNat, by omega⟩
      have hkl : k < l.length := by omega
      have hrow : (l.map Res.row)[k]? = some l[k].row := by simp [hkl]
      have hli : lie x at0 l = l.set k x.by_ := by
        unfold lie
        rw [if_pos ⟨h1, h2⟩]
        congr 1; omega
      have hki : (x.at_ - (at0 : Int)).toNat = k := by omega
      have hset : (dB 2 (l.map Res.row)).rows.set k (x.by_.row.map V.d) = (dB 2 ((lie x at0 l).map Res.row)).rows := by
        rw [hli]
        simp [dB, List.map_set]
      refine CallsB.of Tryd.func48 rfl Tryd.ntmps48 (by simp) ?_; intro F hF h0 hT; simp only [List.zipIdx_cons, List.zipIdx_nil, List.map_cons, List.map_nil, Nat.zero_add, Nat.reduceAdd]
      refine Sm.seq ?_
      refine Sm.regionG hF rfl ?_
      refine SmG.new hF rfl rfl rfl (opS_box rfl rfl (by simp (disch := omega) only [go_sem, Nat.reduceEqDiff, iteP, wkD, Wk.row, Res.row, hlen, hki, hrow, dB] <;> rfl)) ?_
      refine SmG.v hF rfl rfl rfl (opV_assign rfl rfl) ?_
      refine SmG.v hF rfl rfl rfl (opV_assign rfl rfl) ?_
      refine SmG.nil ?_
      refine nextS_normal ?_
      refine Sm.seq ?_
      refine Sm.seq ?_
      refine Sm.regionG hF rfl ?_
      refine SmG.v hF rfl rfl rfl (opV_fieldAddr rfl rfl (by simp (disch := omega) only [go_sem, Nat.reduceEqDiff, iteP, wkD, Wk.row, Res.row, hlen, hki, hrow, dB] <;> rfl)) ?_
      refine SmG.v hF rfl rfl rfl (opV_load rfl rfl (by simp (disch := omega) only [go_sem, Nat.reduceEqDiff, iteP, wkD, Wk.row, Res.row, hlen, hki, hrow, dB] <;> rfl)) ?_
      refine SmG.v hF rfl rfl rfl (opV_move rfl rfl) ?_
      refine SmG.v hF rfl rfl rfl (opV_bin rfl rfl rfl (by first | exact rd_geqT _ _ _ _ _ (by omega) | exact rd_geqF _ _ _ _ _ (by omega) | exact rb_geq _ _ _ _ _ _ _)) ?_
      refine SmG.v hF rfl rfl rfl (opV_move rfl rfl) ?_
      first | refine SmG.v hF rfl rfl rfl (opV_fieldAddr rfl rfl (by simp (disch := omega) only [go_sem, Nat.reduceEqDiff, iteP, wkD, Wk.row, Res.row, hlen, hki, hrow, dB] <;> rfl)) ?_ | refine SmG.pass hF rfl rfl rfl ?_
      first | refine SmG.v hF rfl rfl rfl (opV_load rfl rfl (by simp (disch := omega) only [go_sem, Nat.reduceEqDiff, iteP, wkD, Wk.row, Res.row, hlen, hki, hrow, dB] <;> rfl)) ?_ | refine SmG.pass hF rfl rfl rfl ?_
      first | refine SmG.v hF rfl rfl rfl (opV_move rfl rfl) ?_ | refine SmG.pass hF rfl rfl rfl ?_
      first | refine SmG.v hF rfl rfl rfl (opV_move rfl rfl) ?_ | refine SmG.pass hF rfl rfl rfl ?_
      first | refine SmG.v hF rfl rfl rfl (opV_len rfl rfl (by simp (disch := omega) only [go_sem, Nat.reduceEqDiff, iteP, wkD, Wk.row, Res.row, hlen, hki, hrow, dB] <;> rfl)) ?_ | refine SmG.pass hF rfl rfl rfl ?_
      first | refine SmG.v hF rfl rfl rfl (opV_bin rfl rfl rfl (by first | exact rd_add _ _ _ _ _ (wrapI64 _ (by omega)) | exact rb_add _ _ _ _ _ _ _)) ?_ | refine SmG.pass hF rfl rfl rfl ?_
      first | refine SmG.v hF rfl rfl rfl (opV_bin rfl rfl rfl (by first | exact rd_lssT _ _ _ _ _ (by omega) | exact rd_lssF _ _ _ _ _ (by omega) | exact rb_lss _ _ _ _ _ _ _)) ?_ | refine SmG.pass hF rfl rfl rfl ?_
      first | refine SmG.v hF rfl rfl rfl (opV_pickT rfl rfl rfl) ?_ | refine SmG.v hF rfl rfl rfl (opV_pickF rfl rfl rfl) ?_
      refine SmG.nil ?_
      refine nextS_normal ?_
      refine Sm.condT hF rfl ?_
      refine Sm.regionG hF rfl ?_
      refine SmG.v hF rfl rfl rfl (opV_move rfl rfl) ?_
      refine SmG.v hF rfl rfl rfl (opV_fieldAddr rfl rfl (by simp (disch := omega) only [go_sem, Nat.reduceEqDiff, iteP, wkD, Wk.row, Res.row, hlen, hki, hrow, dB] <;> rfl)) ?_
      refine SmG.v hF rfl rfl rfl (opV_load rfl rfl (by simp (disch := omega) only [go_sem, Nat.reduceEqDiff, iteP, wkD, Wk.row, Res.row, hlen, hki, hrow, dB] <;> rfl)) ?_
      refine SmG.v hF rfl rfl rfl (opV_move rfl rfl) ?_
      refine SmG.v hF rfl rfl rfl (opV_bin rfl rfl rfl (by first | exact rd_sub _ _ _ _ _ (wrapI64 _ (by omega)) | exact rb_sub _ _ _ _ _ _ _)) ?_
      refine SmG.v hF rfl rfl rfl (opV_fieldAddr rfl rfl (by simp (disch := omega) only [go_sem, Nat.reduceEqDiff, iteP, wkD, Wk.row, Res.row, hlen, hki, hrow, dB] <;> rfl)) ?_
      refine SmG.v hF rfl rfl rfl (opV_load rfl rfl (by simp (disch := omega) only [go_sem, Nat.reduceEqDiff, iteP, wkD, Wk.row, Res.row, hlen, hki, hrow, dB] <;> rfl)) ?_
      refine SmG.v hF rfl rfl rfl (opV_indexAddr rfl rfl rfl (by simp (disch := omega) only [go_sem, Nat.reduceEqDiff, iteP, wkD, Wk.row, Res.row, hlen, hki, hrow, dB] <;> rfl)) ?_
      refine SmG.store hF rfl rfl rfl rfl rfl (by simp (disch := omega) only [go_sem, Nat.reduceEqDiff, iteP, wkD, Wk.row, Res.row, hlen, hki, hrow, dB] <;> rfl) ?_
      refine SmG.nil ?_
      refine nextS_normal ?_
      refine Sm.seq ?_
      refine Sm.regionG hF rfl ?_
      refine SmG.v hF rfl rfl rfl (opV_move rfl rfl) ?_
      refine SmG.v hF rfl rfl rfl (opV_assign rfl rfl) ?_
      refine SmG.v hF rfl rfl rfl (opV_assign rfl rfl) ?_
      refine SmG.nil ?_
      refine nextS_normal ?_
      refine Sm.ret ?_
      exact ⟨⟨_, .inr ⟨.tup, rfl⟩, V.le.refl _⟩, leH_look ⟨congrArg (fun rs => some (Blk.mk 2 rs)) hset, trivial⟩, Nat.le_of_ble_eq_true rfl⟩
    · have hli : lie x at0 l = l := by unfold lie; rw [if_neg (by omega)]
      rw [hli]
      refine CallsB.of Tryd.func48 rfl Tryd.ntmps48 (by simp) ?_; intro F hF h0 hT; simp only [List.zipIdx_cons, List.zipIdx_nil, List.map_cons, List.map_nil, Nat.zero_add, Nat.reduceAdd]
      refine Sm.seq ?_
      refine Sm.regionG hF rfl ?_
      refine SmG.new hF rfl rfl rfl (opS_box rfl rfl (by simp (disch := omega) only [go_sem, Nat.reduceEqDiff, iteP, wkD, Wk.row, Res.row, hlen] <;> rfl)) ?_
      refine SmG.v hF rfl rfl rfl (opV_assign rfl rfl) ?_
      refine SmG.v hF rfl rfl rfl (opV_assign rfl rfl) ?_
      refine SmG.nil ?_
      refine nextS_normal ?_
      refine Sm.seq ?_
      refine Sm.seq ?_
      refine Sm.regionG hF rfl ?_
      refine SmG.v hF rfl rfl rfl (opV_fieldAddr rfl rfl (by simp (disch := omega) only [go_sem, Nat.reduceEqDiff, iteP, wkD, Wk.row, Res.row, hlen] <;> rfl)) ?_
      refine SmG.v hF rfl rfl rfl (opV_load rfl rfl (by simp (disch := omega) only [go_sem, Nat.reduceEqDiff, iteP, wkD, Wk.row, Res.row, hlen] <;> rfl)) ?_
      refine SmG.v hF rfl rfl rfl (opV_move rfl rfl) ?_
      refine SmG.v hF rfl rfl rfl (opV_bin rfl rfl rfl (by first | exact rd_geqT _ _ _ _ _ (by omega) | exact rd_geqF _ _ _ _ _ (by omega) | exact rb_geq _ _ _ _ _ _ _)) ?_
      refine SmG.v hF rfl rfl rfl (opV_move rfl rfl) ?_
      first | refine SmG.v hF rfl rfl rfl (opV_fieldAddr rfl rfl (by simp (disch := omega) only [go_sem, Nat.reduceEqDiff, iteP, wkD, Wk.row, Res.row, hlen] <;> rfl)) ?_ | refine SmG.pass hF rfl rfl rfl ?_
      first | refine SmG.v hF rfl rfl rfl (opV_load rfl rfl (by simp (disch := omega) only [go_sem, Nat.reduceEqDiff, iteP, wkD, Wk.row, Res.row, hlen] <;> rfl)) ?_ | refine SmG.pass hF rfl rfl rfl ?_
      first | refine SmG.v hF rfl rfl rfl (opV_move rfl rfl) ?_ | refine SmG.pass hF rfl rfl rfl ?_
      first | refine SmG.v hF rfl rfl rfl (opV_move rfl rfl) ?_ | refine SmG.pass hF rfl rfl rfl ?_
      first | refine SmG.v hF rfl rfl rfl (opV_len rfl rfl (by simp (disch := omega) only [go_sem, Nat.reduceEqDiff, iteP, wkD, Wk.row, Res.row, hlen] <;> rfl)) ?_ | refine SmG.pass hF rfl rfl rfl ?_
      first | refine SmG.v hF rfl rfl rfl (opV_bin rfl rfl rfl (by first | exact rd_add _ _ _ _ _ (wrapI64 _ (by omega)) | exact rb_add _ _ _ _ _ _ _)) ?_ | refine SmG.pass hF rfl rfl rfl ?_
      first | refine SmG.v hF rfl rfl rfl (opV_bin rfl rfl rfl (by first | exact rd_lssT _ _ _ _ _ (by omega) | exact rd_lssF _ _ _ _ _ (by omega) | exact rb_lss _ _ _ _ _ _ _)) ?_ | refine SmG.pass hF rfl rfl rfl ?_
      first | refine SmG.v hF rfl rfl rfl (opV_pickT rfl rfl rfl) ?_ | refine SmG.v hF rfl rfl rfl (opV_pickF rfl rfl rfl) ?_
      refine SmG.nil ?_
      refine nextS_normal ?_
      refine Sm.condF hF rfl ?_
      refine Sm.skip ?_
      refine nextS_normal ?_
      refine Sm.seq ?_
      refine Sm.regionG hF rfl ?_
      refine SmG.v hF rfl rfl rfl (opV_move rfl rfl) ?_
      refine SmG.v hF rfl rfl rfl (opV_assign rfl rfl) ?_
      refine SmG.v hF rfl rfl rfl (opV_assign rfl rfl) ?_
      refine SmG.nil ?_
      refine nextS_normal ?_
      refine Sm.ret ?_
      exact ⟨⟨_, .inr ⟨.tup, rfl⟩, V.le.refl _⟩, leH_look ⟨rfl, trivial⟩, Nat.le_of_ble_eq_true rfl⟩
  · have hli : lie x at0 l = l := by unfold lie; rw [if_neg (by omega)]
    rw [hli]
    refine CallsB.of Tryd.func48 rfl Tryd.ntmps48 (by simp) ?_; intro F hF h0 hT; simp only [List.zipIdx_cons, List.zipIdx_nil, List.map_cons, List.map_nil, Nat.zero_add, Nat.reduceAdd]
    refine Sm.seq ?_
    refine Sm.regionG hF rfl ?_
    refine SmG.new hF rfl rfl rfl (opS_box rfl rfl (by simp (disch := omega) only [go_sem, Nat.reduceEqDiff, iteP, wkD, Wk.row, Res.row] <;> rfl)) ?_
    refine SmG.v hF rfl rfl rfl (opV_assign rfl rfl) ?_
    refine SmG.v hF rfl rfl rfl (opV_assign rfl rfl) ?_
    refine SmG.nil ?_
    refine nextS_normal ?_
    refine Sm.seq ?_
    refine Sm.seq ?_
    refine Sm.regionG hF rfl ?_
    refine SmG.v hF rfl rfl rfl (opV_fieldAddr rfl rfl (by simp (disch := omega) only [go_sem, Nat.reduceEqDiff, iteP, wkD, Wk.row, Res.row] <;> rfl)) ?_
    refine SmG.v hF rfl rfl rfl (opV_load rfl rfl (by simp (disch := omega) only [go_sem, Nat.reduceEqDiff, iteP, wkD, Wk.row, Res.row] <;> rfl)) ?_
    refine SmG.v hF rfl rfl rfl (opV_move rfl rfl) ?_
    refine SmG.v hF rfl rfl rfl (opV_bin rfl rfl rfl (by first | exact rd_geqT _ _ _ _ _ (by omega) | exact rd_geqF _ _ _ _ _ (by omega) | exact rb_geq _ _ _ _ _ _ _)) ?_
    refine SmG.v hF rfl rfl rfl (opV_move rfl rfl) ?_
    first | refine SmG.v hF rfl rfl rfl (opV_fieldAddr rfl rfl (by simp (disch := omega) only [go_sem, Nat.reduceEqDiff, iteP, wkD, Wk.row, Res.row] <;> rfl)) ?_ | refine SmG.pass hF rfl rfl rfl ?_
    first | refine SmG.v hF rfl rfl rfl (opV_load rfl rfl (by simp (disch := omega) only [go_sem, Nat.reduceEqDiff, iteP, wkD, Wk.row, Res.row] <;> rfl)) ?_ | refine SmG.pass hF rfl rfl rfl ?_
    first | refine SmG.v hF rfl rfl rfl (opV_move rfl rfl) ?_ | refine SmG.pass hF rfl rfl rfl ?_
    first | refine SmG.v hF rfl rfl rfl (opV_move rfl rfl) ?_ | refine SmG.pass hF rfl rfl rfl ?_
    first | refine SmG.v hF rfl rfl rfl (opV_len rfl rfl (by simp (disch := omega) only [go_sem, Nat.reduceEqDiff, iteP, wkD, Wk.row, Res.row] <;> rfl)) ?_ | refine SmG.pass hF rfl rfl rfl ?_
    first | refine SmG.v hF rfl rfl rfl (opV_bin rfl rfl rfl (by first | exact rd_add _ _ _ _ _ (wrapI64 _ (by omega)) | exact rb_add _ _ _ _ _ _ _)) ?_ | refine SmG.pass hF rfl rfl rfl ?_
    first | refine SmG.v hF rfl rfl rfl (opV_bin rfl rfl rfl (by first | exact rd_lssT _ _ _ _ _ (by omega) | exact rd_lssF _ _ _ _ _ (by omega) | exact rb_lss _ _ _ _ _ _ _)) ?_ | refine SmG.pass hF rfl rfl rfl ?_
    first | refine SmG.v hF rfl rfl rfl (opV_pickT rfl rfl rfl) ?_ | refine SmG.v hF rfl rfl rfl (opV_pickF rfl rfl rfl) ?_
    refine SmG.nil ?_
    refine nextS_normal ?_
    refine Sm.condF hF rfl ?_
    refine Sm.skip ?_
    refine nextS_normal ?_
    refine Sm.seq ?_
    refine Sm.regionG hF rfl ?_
    refine SmG.v hF rfl rfl rfl (opV_move rfl rfl) ?_
    refine SmG.v hF rfl rfl rfl (opV_assign rfl rfl) ?_
    refine SmG.v hF rfl rfl rfl (opV_assign rfl rfl) ?_
    refine SmG.nil ?_
    refine nextS_normal ?_
    refine Sm.ret ?_
    exact ⟨⟨_, .inr ⟨.tup, rfl⟩, V.le.refl _⟩, leH_look ⟨rfl, trivial⟩, Nat.le_of_ble_eq_true rfl⟩
end Go.Proofs.YtagfaaijgfigkaaDoor
namespace Go.Proofs.YtagfaaijgfigkaaDoor
open Go.RowKit
set_option maxRecDepth 100000
def sayM : D := .map [.int .i64 1, .int .i64 3, .int .i64 4] [.fn 46 [], .fn 47 [], .fn 48 []]
theorem sayings_D (G : Nat → Option D) : CallsD Tryd.prog G 35 [] sayM := by
  refine CallsD.of Tryd.func35 rfl Tryd.ntmps35 (by simp) ?_; intro F hF h0 hT; simp only [List.zipIdx_cons, List.zipIdx_nil, List.map_cons, List.map_nil, Nat.zero_add, Nat.reduceAdd]
  refine Sm.seq ?_
  refine Sm.regionG hF rfl ?_
  refine SmG.v hF rfl rfl rfl (opV_assign rfl rfl) ?_
  refine SmG.nil ?_
  refine nextS_normal ?_
  refine Sm.seq ?_
  refine Sm.regionG hF rfl ?_
  refine SmG.mapLit hF Tryd.underlying84 Tryd.underlying3 (kk := .i64) (ins := [_, _, _]) (entries := [(1, .func 46), (3, .func 47), (4, .func 48)]) rfl rfl rfl rfl ⟨rfl, rfl, rfl, rfl, rfl, rfl, rfl, rfl, rfl, trivial⟩ (by decide) (by simp) rfl ?_
  refine SmG.v hF rfl rfl rfl (opV_move rfl rfl) ?_
  refine SmG.v hF rfl rfl rfl (opV_assign rfl rfl) ?_
  refine SmG.nil ?_
  refine nextS_normal ?_
  refine Sm.ret ?_
  refine ⟨_, rfl, ?_⟩; dsimp only
  exact D.le.refl _
def sayKind (k : Int) : Prop := k = 1 ∨ k = 3 ∨ k = 4
theorem say_none {k : Int} (h : ¬ sayKind k) : lookupS Tryd.prog 84 (.d sayM) (.d (.v (.int .i64 k))) true = some (.d (.tup [.v .nilFunc, .v (.bool false)])) := by
  have h1 : ¬ k = 1 := fun e => h (.inl e)
  have h3 : ¬ k = 3 := fun e => h (.inr (.inl e))
  have h4 : ¬ k = 4 := fun e => h (.inr (.inr e))
  simp [lookupS, sayM, findI, Tryd.underlying84, Tryd.underlying3, h1, h3, h4]
  rfl
structure Clm where
  who : Int
  lo : Int
  hi : Int
  l : List Res
  root : List UInt8
def Clm.row (c : Clm) : List D := .v (.int .i64 c.who) :: .v (.int .i64 c.lo) :: .v (.int .i64 c.hi) :: ressL c.l :: rowS c.root
def clmD (c : Clm) : D := .agg 36 c.row
def noClm : Clm := ⟨0, 0, 0, [], List.replicate 32 0⟩
theorem noClm_le : (D.tup [D.agg 36 (.v (.int .i64 0) :: .v (.int .i64 0) :: .v (.int .i64 0) :: .list 0 [] true :: rowS (List.replicate 32 0)), constD (.bool false)]).le (.tup [clmD noClm, .v (.bool false)]) :=
  D.le_tup ⟨D.le_agg ⟨D.le.refl _, D.le.refl _, D.le.refl _, D.le_nil' 0 2 true, leL.refl _⟩, D.le.refl _, trivial⟩
theorem work_no (x : Wk) (who t : Int) (v : List Res) (a b : Int) (hl : v.length ≤ 1000000) (h : ¬ sayKind x.kind ∨ (sayKind x.kind ∧ (a < 0 ∨ (0 ≤ a ∧ (b < a ∨ (a ≤ b ∧ (v.length : Int) < b)))))) : CallsD Tryd.prog HG 31 [wkD x, .v (.int .i64 who), .v (.int .i64 t), ressL v, .v (.int .i64 a), .v (.int .i64 b)] (.tup [clmD noClm, .v (.bool false)]) := by
  have hlk : ∃ (d : D) (k : Bool), lookupS Tryd.prog 84 (.d sayM) (.d (.v (.int .i64 x.kind))) true = some (.d (.tup [d, .v (.bool k)])) ∧ (k = true → sayKind x.kind) ∧ (k = false → ¬ sayKind x.kind) := by
    by_cases hk : sayKind x.kind
    · rcases hk with hk | hk | hk <;> rw [hk] <;> exact ⟨_, true, rfl, (fun _ => by unfold sayKind; omega), (fun h => by cases h)⟩
    · exact ⟨_, false, say_none hk, (fun h => by cases h), (fun _ => hk)⟩
  obtain ⟨d, k, hlk, hk1, hk2⟩ := hlk
  rcases h with h | ⟨h0, h⟩
  · cases k with
    | true => exact absurd (hk1 rfl) h
    | false =>
      refine CallsD.of Tryd.func31 rfl Tryd.ntmps31 (by simp) ?_; intro F hF h0 hT; simp only [List.zipIdx_cons, List.zipIdx_nil, List.map_cons, List.map_nil, Nat.zero_add, Nat.reduceAdd]
      refine Sm.seq ?_
      refine Sm.regionG hF rfl ?_
      refine SmG.new hF rfl rfl rfl (opS_box rfl rfl (by simp (disch := omega) only [go_sem, Nat.reduceEqDiff, iteP, wkD, Wk.row, ressL] <;> rfl)) ?_
      refine SmG.new hF rfl rfl rfl (opS_alloc rfl al41) ?_
      refine SmG.v hF rfl rfl rfl (opV_assign rfl rfl) ?_
      refine SmG.nil ?_
      refine nextS_normal ?_
      refine Sm.seq ?_
      refine Sm.drawG hF (by kernel_rfl) rfl 9 (by kernel_rfl) (by kernel_rfl) ?_
      simp only [List.take_succ_cons, List.take_zero, List.take_nil]
      refine Head.c hF rfl rfl (by kernel_rfl) rfl rfl rfl (sayings_D HG) ?_
      refine Head.v hF rfl rfl rfl (opV_fieldAddr rfl rfl (by simp (disch := omega) only [go_sem, Nat.reduceEqDiff, iteP, wkD, Wk.row, ressL] <;> rfl)) ?_
      refine Head.v hF rfl rfl rfl (opV_load rfl rfl (by simp (disch := omega) only [go_sem, Nat.reduceEqDiff, iteP, wkD, Wk.row, ressL] <;> rfl)) ?_
      refine Head.v hF rfl rfl rfl (opV_lookup rfl rfl rfl hlk) ?_
      refine Head.v hF rfl rfl rfl (opV_move rfl rfl) ?_
      refine Head.v hF rfl rfl rfl (by first | exact opV_extract rfl rfl rfl | exact opV_extract0 rfl rfl) ?_
      refine Head.v hF rfl rfl rfl (by first | exact opV_extract rfl rfl rfl | exact opV_extractS rfl rfl rfl) ?_
      refine Head.v hF rfl rfl rfl (opV_assign rfl rfl) ?_
      refine Head.v hF rfl rfl rfl (opV_assign rfl rfl) ?_
      refine Head.last ⟨rfl, ?_⟩
      simp only [List.drop_succ_cons, List.drop_zero, List.drop_nil, List.nil_append, List.cons_append]
      refine SmG.nil ?_
      refine nextS_normal ?_
      refine Sm.seq ?_
      refine Sm.seq ?_
      refine Sm.regionG hF rfl ?_
      refine SmG.v hF rfl rfl rfl (opV_move rfl rfl) ?_
      refine SmG.v hF rfl rfl rfl (opV_un rfl rfl (by first | exact rd_notT _ | exact rd_notF _ | exact rd_not _)) ?_
      refine SmG.v hF rfl rfl rfl (opV_move rfl rfl) ?_
      first | refine SmG.v hF rfl rfl rfl (opV_move rfl rfl) ?_ | refine SmG.pass hF rfl rfl rfl ?_
      first | refine SmG.v hF rfl rfl rfl (opV_bin rfl rfl rfl (by first | exact rd_lssT _ _ _ _ _ (by omega) | exact rd_lssF _ _ _ _ _ (by omega) | exact rb_lss _ _ _ _ _ _ _)) ?_ | refine SmG.pass hF rfl rfl rfl ?_
      first | refine SmG.v hF rfl rfl rfl (opV_pickT rfl rfl rfl) ?_ | refine SmG.v hF rfl rfl rfl (opV_pickF rfl rfl rfl) ?_
      refine SmG.v hF rfl rfl rfl (opV_move rfl rfl) ?_
      first | refine SmG.v hF rfl rfl rfl (opV_move rfl rfl) ?_ | refine SmG.pass hF rfl rfl rfl ?_
      first | refine SmG.v hF rfl rfl rfl (opV_move rfl rfl) ?_ | refine SmG.pass hF rfl rfl rfl ?_
      first | refine SmG.v hF rfl rfl rfl (opV_bin rfl rfl rfl (by first | exact rd_lssT _ _ _ _ _ (by omega) | exact rd_lssF _ _ _ _ _ (by omega) | exact rb_lss _ _ _ _ _ _ _)) ?_ | refine SmG.pass hF rfl rfl rfl ?_
      first | refine SmG.v hF rfl rfl rfl (opV_pickT rfl rfl rfl) ?_ | refine SmG.v hF rfl rfl rfl (opV_pickF rfl rfl rfl) ?_
      refine SmG.v hF rfl rfl rfl (opV_move rfl rfl) ?_
      first | refine SmG.v hF rfl rfl rfl (opV_move rfl rfl) ?_ | refine SmG.pass hF rfl rfl rfl ?_
      first | refine SmG.v hF rfl rfl rfl (opV_move rfl rfl) ?_ | refine SmG.pass hF rfl rfl rfl ?_
      first | refine SmG.v hF rfl rfl rfl (opV_len rfl rfl (by simp (disch := omega) only [go_sem, Nat.reduceEqDiff, iteP, wkD, Wk.row, ressL] <;> rfl)) ?_ | refine SmG.pass hF rfl rfl rfl ?_
      first | refine SmG.v hF rfl rfl rfl (opV_bin rfl rfl rfl (by first | exact rd_gtrT _ _ _ _ _ (by omega) | exact rd_gtrF _ _ _ _ _ (by omega) | exact rb_gtr _ _ _ _ _ _ _)) ?_ | refine SmG.pass hF rfl rfl rfl ?_
      first | refine SmG.v hF rfl rfl rfl (opV_pickT rfl rfl rfl) ?_ | refine SmG.v hF rfl rfl rfl (opV_pickF rfl rfl rfl) ?_
      refine SmG.nil ?_
      refine nextS_normal ?_
      refine Sm.condT hF rfl ?_
      refine Sm.seq ?_
      refine Sm.regionG hF rfl ?_
      refine SmG.v hF rfl rfl rfl (opV_buildT rfl Tryd.underlying41 (by kernel_rfl) rfl bz41) ?_
      refine SmG.store hF rfl rfl rfl rfl rfl (by simp (disch := omega) only [go_sem, Nat.reduceEqDiff, iteP, wkD, Wk.row, ressL] <;> rfl) ?_
      refine SmG.v hF rfl rfl rfl (opV_assign rfl rfl) ?_
      refine SmG.nil ?_
      refine nextS_normal ?_
      refine Sm.ret ?_
      simp only [nextS, blockS]
      refine retQ_cell2 rfl rfl (by simp (disch := omega) only [go_sem, Nat.reduceEqDiff, iteP] <;> rfl) rfl ?_
      exact noClm_le
  · cases k with
    | false => exact absurd h0 (hk2 rfl)
    | true =>
      rcases h with h | ⟨h, h' | ⟨h', h''⟩⟩
      all_goals
        refine CallsD.of Tryd.func31 rfl Tryd.ntmps31 (by simp) ?_; intro F hF h0 hT; simp only [List.zipIdx_cons, List.zipIdx_nil, List.map_cons, List.map_nil, Nat.zero_add, Nat.reduceAdd]
        refine Sm.seq ?_
        refine Sm.regionG hF rfl ?_
        refine SmG.new hF rfl rfl rfl (opS_box rfl rfl (by simp (disch := omega) only [go_sem, Nat.reduceEqDiff, iteP, wkD, Wk.row, ressL] <;> rfl)) ?_
        refine SmG.new hF rfl rfl rfl (opS_alloc rfl al41) ?_
        refine SmG.v hF rfl rfl rfl (opV_assign rfl rfl) ?_
        refine SmG.nil ?_
        refine nextS_normal ?_
        refine Sm.seq ?_
        refine Sm.drawG hF (by kernel_rfl) rfl 9 (by kernel_rfl) (by kernel_rfl) ?_
        simp only [List.take_succ_cons, List.take_zero, List.take_nil]
        refine Head.c hF rfl rfl (by kernel_rfl) rfl rfl rfl (sayings_D HG) ?_
        refine Head.v hF rfl rfl rfl (opV_fieldAddr rfl rfl (by simp (disch := omega) only [go_sem, Nat.reduceEqDiff, iteP, wkD, Wk.row, ressL] <;> rfl)) ?_
        refine Head.v hF rfl rfl rfl (opV_load rfl rfl (by simp (disch := omega) only [go_sem, Nat.reduceEqDiff, iteP, wkD, Wk.row, ressL] <;> rfl)) ?_
        refine Head.v hF rfl rfl rfl (opV_lookup rfl rfl rfl hlk) ?_
        refine Head.v hF rfl rfl rfl (opV_move rfl rfl) ?_
        refine Head.v hF rfl rfl rfl (by first | exact opV_extract rfl rfl rfl | exact opV_extract0 rfl rfl) ?_
        refine Head.v hF rfl rfl rfl (by first | exact opV_extract rfl rfl rfl | exact opV_extractS rfl rfl rfl) ?_
        refine Head.v hF rfl rfl rfl (opV_assign rfl rfl) ?_
        refine Head.v hF rfl rfl rfl (opV_assign rfl rfl) ?_
        refine Head.last ⟨rfl, ?_⟩
        simp only [List.drop_succ_cons, List.drop_zero, List.drop_nil, List.nil_append, List.cons_append]
        refine SmG.nil ?_
        refine nextS_normal ?_
        refine Sm.seq ?_
        refine Sm.seq ?_
        refine Sm.regionG hF rfl ?_
        refine SmG.v hF rfl rfl rfl (opV_move rfl rfl) ?_
        refine SmG.v hF rfl rfl rfl (opV_un rfl rfl (by first | exact rd_notT _ | exact rd_notF _ | exact rd_not _)) ?_
        refine SmG.v hF rfl rfl rfl (opV_move rfl rfl) ?_
        first | refine SmG.v hF rfl rfl rfl (opV_move rfl rfl) ?_ | refine SmG.pass hF rfl rfl rfl ?_
        first | refine SmG.v hF rfl rfl rfl (opV_bin rfl rfl rfl (by first | exact rd_lssT _ _ _ _ _ (by omega) | exact rd_lssF _ _ _ _ _ (by omega) | exact rb_lss _ _ _ _ _ _ _)) ?_ | refine SmG.pass hF rfl rfl rfl ?_
        first | refine SmG.v hF rfl rfl rfl (opV_pickT rfl rfl rfl) ?_ | refine SmG.v hF rfl rfl rfl (opV_pickF rfl rfl rfl) ?_
        refine SmG.v hF rfl rfl rfl (opV_move rfl rfl) ?_
        first | refine SmG.v hF rfl rfl rfl (opV_move rfl rfl) ?_ | refine SmG.pass hF rfl rfl rfl ?_
        first | refine SmG.v hF rfl rfl rfl (opV_move rfl rfl) ?_ | refine SmG.pass hF rfl rfl rfl ?_
        first | refine SmG.v hF rfl rfl rfl (opV_bin rfl rfl rfl (by first | exact rd_lssT _ _ _ _ _ (by omega) | exact rd_lssF _ _ _ _ _ (by omega) | exact rb_lss _ _ _ _ _ _ _)) ?_ | refine SmG.pass hF rfl rfl rfl ?_
        first | refine SmG.v hF rfl rfl rfl (opV_pickT rfl rfl rfl) ?_ | refine SmG.v hF rfl rfl rfl (opV_pickF rfl rfl rfl) ?_
        refine SmG.v hF rfl rfl rfl (opV_move rfl rfl) ?_
        first | refine SmG.v hF rfl rfl rfl (opV_move rfl rfl) ?_ | refine SmG.pass hF rfl rfl rfl ?_
        first | refine SmG.v hF rfl rfl rfl (opV_move rfl rfl) ?_ | refine SmG.pass hF rfl rfl rfl ?_
        first | refine SmG.v hF rfl rfl rfl (opV_len rfl rfl (by simp (disch := omega) only [go_sem, Nat.reduceEqDiff, iteP, wkD, Wk.row, ressL] <;> rfl)) ?_ | refine SmG.pass hF rfl rfl rfl ?_
        first | refine SmG.v hF rfl rfl rfl (opV_bin rfl rfl rfl (by first | exact rd_gtrT _ _ _ _ _ (by omega) | exact rd_gtrF _ _ _ _ _ (by omega) | exact rb_gtr _ _ _ _ _ _ _)) ?_ | refine SmG.pass hF rfl rfl rfl ?_
        first | refine SmG.v hF rfl rfl rfl (opV_pickT rfl rfl rfl) ?_ | refine SmG.v hF rfl rfl rfl (opV_pickF rfl rfl rfl) ?_
        refine SmG.nil ?_
        refine nextS_normal ?_
        refine Sm.condT hF rfl ?_
        refine Sm.seq ?_
        refine Sm.regionG hF rfl ?_
        refine SmG.v hF rfl rfl rfl (opV_buildT rfl Tryd.underlying41 (by kernel_rfl) rfl bz41) ?_
        refine SmG.store hF rfl rfl rfl rfl rfl (by simp (disch := omega) only [go_sem, Nat.reduceEqDiff, iteP, wkD, Wk.row, ressL] <;> rfl) ?_
        refine SmG.v hF rfl rfl rfl (opV_assign rfl rfl) ?_
        refine SmG.nil ?_
        refine nextS_normal ?_
        refine Sm.ret ?_
        simp only [nextS, blockS]
        refine retQ_cell2 rfl rfl (by simp (disch := omega) only [go_sem, Nat.reduceEqDiff, iteP] <;> rfl) rfl ?_
        exact noClm_le
theorem clm_build (a b c : Value) (ha : a.oneCell' = true) (hb : b.oneCell' = true) (hc : c.oneCell' = true) (xs : List (List D)) (f : Bool) {R : List UInt8} (h : R.length = 32) :
    buildS Tryd.prog 41 [(0, .d (.v a)), (1, .d (.v b)), (2, .d (.v c)), (3, .d (.list 2 xs f)), (4, .d (.agg 32 (rowS R)))] = some (.d (.agg 36 (.v a :: .v b :: .v c :: .list 2 xs f :: rowS R))) := by
  have hr : (rowS R).length = 32 := by simp [rowS, h]
  have hq : ∀ x : Value, x.oneCell' = true → partOf 1 (.d (.v x)) = some [.v x] := fun x hx => by simp [partOf, hx]
  refine buildS_struct (pl := [(0, 1), (1, 1), (2, 1), (3, 1), (4, 32)]) (z := .v (.int .i64 0) :: .v (.int .i64 0) :: .v (.int .i64 0) :: .list 0 [] true :: rowS (List.replicate 32 0)) ze41 (by kernel_rfl) rfl ?_
  rw [fill_one (n := 36) rfl (hq a ha) rfl (by omega), fill_one (n := 36) rfl (hq b hb) rfl (by omega), fill_one (n := 36) rfl (hq c hc) rfl (by omega), fill_one (n := 36) (d := .list 2 xs f) rfl rfl rfl (by omega), fill_agg (n := 36) rfl (by omega) hr rfl (by omega)]
  simp [fillD, rowS]
def partOfL (v : List Res) (a b : Nat) : List Res := (v.take b).drop a
theorem part_len {v : List Res} {a b : Nat} (h : b ≤ v.length) : (partOfL v a b).length = b - a := by
  simp [partOfL]; omega
theorem work_say (x : Wk) (who t : Int) (v : List Res) (a b : Nat) (hl : v.length ≤ 1000000) (hab : a ≤ b) (hb : b ≤ v.length) (fi : FuncId) (l : List Res) (ok : Bool) (hll : l.length = b - a) (hbody : hasBody Tryd.prog fi = true)
    (hlk : lookupS Tryd.prog 84 (.d sayM) (.d (.v (.int .i64 x.kind))) true = some (.d (.tup [.fn fi [], .v (.bool true)])))
    (hsay : CallsD Tryd.prog HG fi ([wkD x, .v (.int .i64 t), .v (.int .i64 a), ressL (partOfL v a b)] ++ []) (.tup [ressL l, .v (.bool ok)])) :
    CallsD Tryd.prog HG 31 [wkD x, .v (.int .i64 who), .v (.int .i64 t), ressL v, .v (.int .i64 a), .v (.int .i64 b)] (.tup [clmD (if ok then ⟨who, a, b, l, Sha.root (l.map resBytes)⟩ else noClm), .v (.bool ok)]) := by
  have hsl : List.drop a (List.take b (List.map Res.row v)) = List.map Res.row (partOfL v a b) := by simp [partOfL, List.map_take, List.map_drop]
  have hpl := part_len (a := a) hb
  have hRl := Sha.root_len (l.map resBytes)
  have hR := workRoot_D l (by omega)
  generalize Sha.root (l.map resBytes) = R at hR hRl ⊢
  have hc : ∀ A : List UInt8, A.length = 32 → (rowS A).length = 32 := fun A h => by simp [rowS, h]
  have hcR := hc R hRl
  cases ok with
  | false =>
    refine CallsD.of Tryd.func31 rfl Tryd.ntmps31 (by simp) ?_; intro F hF h0 hT; simp only [List.zipIdx_cons, List.zipIdx_nil, List.map_cons, List.map_nil, Nat.zero_add, Nat.reduceAdd]
    refine Sm.seq ?_
    refine Sm.regionG hF rfl ?_
    refine SmG.new hF rfl rfl rfl (opS_box rfl rfl (by simp (disch := omega) only [go_sem, Nat.reduceEqDiff, iteP, wkD, Wk.row, ressL, hsl, sumD, hcR] <;> rfl)) ?_
    refine SmG.new hF rfl rfl rfl (opS_alloc rfl al41) ?_
    refine SmG.v hF rfl rfl rfl (opV_assign rfl rfl) ?_
    refine SmG.nil ?_
    refine nextS_normal ?_
    refine Sm.seq ?_
    refine Sm.drawG hF (by kernel_rfl) rfl 9 (by kernel_rfl) (by kernel_rfl) ?_
    simp only [List.take_succ_cons, List.take_zero, List.take_nil]
    refine Head.c hF rfl rfl (by kernel_rfl) rfl rfl rfl (sayings_D HG) ?_
    refine Head.v hF rfl rfl rfl (opV_fieldAddr rfl rfl (by simp (disch := omega) only [go_sem, Nat.reduceEqDiff, iteP, wkD, Wk.row, ressL, hsl, sumD, hcR] <;> rfl)) ?_
    refine Head.v hF rfl rfl rfl (opV_load rfl rfl (by simp (disch := omega) only [go_sem, Nat.reduceEqDiff, iteP, wkD, Wk.row, ressL, hsl, sumD, hcR] <;> rfl)) ?_
    refine Head.v hF rfl rfl rfl (opV_lookup rfl rfl rfl hlk) ?_
    refine Head.v hF rfl rfl rfl (opV_move rfl rfl) ?_
    refine Head.v hF rfl rfl rfl (by first | exact opV_extract rfl rfl rfl | exact opV_extract0 rfl rfl) ?_
    refine Head.v hF rfl rfl rfl (by first | exact opV_extract rfl rfl rfl | exact opV_extractS rfl rfl rfl) ?_
    refine Head.v hF rfl rfl rfl (opV_assign rfl rfl) ?_
    refine Head.v hF rfl rfl rfl (opV_assign rfl rfl) ?_
    refine Head.last ⟨rfl, ?_⟩
    simp only [List.drop_succ_cons, List.drop_zero, List.drop_nil, List.nil_append, List.cons_append]
    refine SmG.nil ?_
    refine nextS_normal ?_
    refine Sm.seq ?_
    refine Sm.seq ?_
    refine Sm.regionG hF rfl ?_
    refine SmG.v hF rfl rfl rfl (opV_move rfl rfl) ?_
    refine SmG.v hF rfl rfl rfl (opV_un rfl rfl (by first | exact rd_notT _ | exact rd_notF _ | exact rd_not _)) ?_
    refine SmG.v hF rfl rfl rfl (opV_move rfl rfl) ?_
    first | refine SmG.v hF rfl rfl rfl (opV_move rfl rfl) ?_ | refine SmG.pass hF rfl rfl rfl ?_
    first | refine SmG.v hF rfl rfl rfl (opV_bin rfl rfl rfl (by first | exact rd_lssT _ _ _ _ _ (by omega) | exact rd_lssF _ _ _ _ _ (by omega) | exact rb_lss _ _ _ _ _ _ _)) ?_ | refine SmG.pass hF rfl rfl rfl ?_
    first | refine SmG.v hF rfl rfl rfl (opV_pickT rfl rfl rfl) ?_ | refine SmG.v hF rfl rfl rfl (opV_pickF rfl rfl rfl) ?_
    refine SmG.v hF rfl rfl rfl (opV_move rfl rfl) ?_
    first | refine SmG.v hF rfl rfl rfl (opV_move rfl rfl) ?_ | refine SmG.pass hF rfl rfl rfl ?_
    first | refine SmG.v hF rfl rfl rfl (opV_move rfl rfl) ?_ | refine SmG.pass hF rfl rfl rfl ?_
    first | refine SmG.v hF rfl rfl rfl (opV_bin rfl rfl rfl (by first | exact rd_lssT _ _ _ _ _ (by omega) | exact rd_lssF _ _ _ _ _ (by omega) | exact rb_lss _ _ _ _ _ _ _)) ?_ | refine SmG.pass hF rfl rfl rfl ?_
    first | refine SmG.v hF rfl rfl rfl (opV_pickT rfl rfl rfl) ?_ | refine SmG.v hF rfl rfl rfl (opV_pickF rfl rfl rfl) ?_
    refine SmG.v hF rfl rfl rfl (opV_move rfl rfl) ?_
    first | refine SmG.v hF rfl rfl rfl (opV_move rfl rfl) ?_ | refine SmG.pass hF rfl rfl rfl ?_
    first | refine SmG.v hF rfl rfl rfl (opV_move rfl rfl) ?_ | refine SmG.pass hF rfl rfl rfl ?_
    first | refine SmG.v hF rfl rfl rfl (opV_len rfl rfl (by simp (disch := omega) only [go_sem, Nat.reduceEqDiff, iteP, wkD, Wk.row, ressL, hsl, sumD, hcR] <;> rfl)) ?_ | refine SmG.pass hF rfl rfl rfl ?_
    first | refine SmG.v hF rfl rfl rfl (opV_bin rfl rfl rfl (by first | exact rd_gtrT _ _ _ _ _ (by omega) | exact rd_gtrF _ _ _ _ _ (by omega) | exact rb_gtr _ _ _ _ _ _ _)) ?_ | refine SmG.pass hF rfl rfl rfl ?_
    first | refine SmG.v hF rfl rfl rfl (opV_pickT rfl rfl rfl) ?_ | refine SmG.v hF rfl rfl rfl (opV_pickF rfl rfl rfl) ?_
    refine SmG.nil ?_
    refine nextS_normal ?_
    refine Sm.condF hF rfl ?_
    refine Sm.skip ?_
    refine nextS_normal ?_
    refine Sm.seq ?_
    refine Sm.drawG hF (by kernel_rfl) rfl 15 (by kernel_rfl) (by kernel_rfl) ?_
    simp only [List.take_succ_cons, List.take_zero, List.take_nil]
    refine Head.v hF rfl rfl rfl (opV_move rfl rfl) ?_
    refine Head.v hF rfl rfl rfl (opV_load rfl rfl (by simp (disch := omega) only [go_sem, Nat.reduceEqDiff, iteP, wkD, Wk.row, ressL, hsl, sumD, hcR] <;> rfl)) ?_
    refine Head.v hF rfl rfl rfl (opV_move rfl rfl) ?_
    refine Head.v hF rfl rfl rfl (opV_move rfl rfl) ?_
    refine Head.v hF rfl rfl rfl (opV_move rfl rfl) ?_
    refine Head.v hF rfl rfl rfl (opV_move rfl rfl) ?_
    refine Head.v hF rfl rfl rfl (opV_move rfl rfl) ?_
    refine Head.v hF rfl rfl rfl (opV_slice rfl rfl rfl rfl rfl (by simp (disch := omega) only [go_sem, Nat.reduceEqDiff, iteP, wkD, Wk.row, ressL, hsl, sumD, hcR] <;> rfl)) ?_
    refine Head.c hF rfl rfl (by kernel_rfl) rfl rfl rfl (clone_D _ (by omega) HG) ?_
    refine Head.cf hF rfl rfl rfl rfl rfl rfl hbody hsay ?_
    refine Head.v hF rfl rfl rfl (opV_move rfl rfl) ?_
    refine Head.v hF rfl rfl rfl (by first | exact opV_extract rfl rfl rfl | exact opV_extract0 rfl rfl) ?_
    refine Head.v hF rfl rfl rfl (by first | exact opV_extract rfl rfl rfl | exact opV_extractS rfl rfl rfl) ?_
    refine Head.v hF rfl rfl rfl (opV_assign rfl rfl) ?_
    refine Head.v hF rfl rfl rfl (opV_assign rfl rfl) ?_
    refine Head.last ⟨rfl, ?_⟩
    simp only [List.drop_succ_cons, List.drop_zero, List.drop_nil, List.nil_append, List.cons_append]
    refine SmG.nil ?_
    refine nextS_normal ?_
    refine Sm.seq ?_
    refine Sm.seq ?_
    refine Sm.regionG hF rfl ?_
    refine SmG.v hF rfl rfl rfl (opV_move rfl rfl) ?_
    refine SmG.v hF rfl rfl rfl (opV_un rfl rfl (by first | exact rd_notT _ | exact rd_notF _ | exact rd_not _)) ?_
    refine SmG.nil ?_
    refine nextS_normal ?_
    refine Sm.condT hF rfl ?_
    refine Sm.seq ?_
    refine Sm.regionG hF rfl ?_
    refine SmG.v hF rfl rfl rfl (opV_buildT rfl Tryd.underlying41 (by kernel_rfl) rfl bz41) ?_
    refine SmG.store hF rfl rfl rfl rfl rfl (by simp (disch := omega) only [go_sem, Nat.reduceEqDiff, iteP, wkD, Wk.row, ressL, hsl, sumD, hcR] <;> rfl) ?_
    refine SmG.v hF rfl rfl rfl (opV_assign rfl rfl) ?_
    refine SmG.nil ?_
    refine nextS_normal ?_
    refine Sm.ret ?_
    simp only [nextS, blockS]
    refine retQ_cell2 rfl rfl (by simp (disch := omega) only [go_sem, Nat.reduceEqDiff, iteP] <;> rfl) rfl ?_
    exact noClm_le
  | true =>
    refine CallsD.of Tryd.func31 rfl Tryd.ntmps31 (by simp) ?_; intro F hF h0 hT; simp only [List.zipIdx_cons, List.zipIdx_nil, List.map_cons, List.map_nil, Nat.zero_add, Nat.reduceAdd]
    refine Sm.seq ?_
    refine Sm.regionG hF rfl ?_
    refine SmG.new hF rfl rfl rfl (opS_box rfl rfl (by simp (disch := omega) only [go_sem, Nat.reduceEqDiff, iteP, wkD, Wk.row, ressL, hsl, sumD, hcR] <;> rfl)) ?_
    refine SmG.new hF rfl rfl rfl (opS_alloc rfl al41) ?_
    refine SmG.v hF rfl rfl rfl (opV_assign rfl rfl) ?_
    refine SmG.nil ?_
    refine nextS_normal ?_
    refine Sm.seq ?_
    refine Sm.drawG hF (by kernel_rfl) rfl 9 (by kernel_rfl) (by kernel_rfl) ?_
    simp only [List.take_succ_cons, List.take_zero, List.take_nil]
    refine Head.c hF rfl rfl (by kernel_rfl) rfl rfl rfl (sayings_D HG) ?_
    refine Head.v hF rfl rfl rfl (opV_fieldAddr rfl rfl (by simp (disch := omega) only [go_sem, Nat.reduceEqDiff, iteP, wkD, Wk.row, ressL, hsl, sumD, hcR] <;> rfl)) ?_
    refine Head.v hF rfl rfl rfl (opV_load rfl rfl (by simp (disch := omega) only [go_sem, Nat.reduceEqDiff, iteP, wkD, Wk.row, ressL, hsl, sumD, hcR] <;> rfl)) ?_
    refine Head.v hF rfl rfl rfl (opV_lookup rfl rfl rfl hlk) ?_
    refine Head.v hF rfl rfl rfl (opV_move rfl rfl) ?_
    refine Head.v hF rfl rfl rfl (by first | exact opV_extract rfl rfl rfl | exact opV_extract0 rfl rfl) ?_
    refine Head.v hF rfl rfl rfl (by first | exact opV_extract rfl rfl rfl | exact opV_extractS rfl rfl rfl) ?_
    refine Head.v hF rfl rfl rfl (opV_assign rfl rfl) ?_
    refine Head.v hF rfl rfl rfl (opV_assign rfl rfl) ?_
    refine Head.last ⟨rfl, ?_⟩
    simp only [List.drop_succ_cons, List.drop_zero, List.drop_nil, List.nil_append, List.cons_append]
    refine SmG.nil ?_
    refine nextS_normal ?_
    refine Sm.seq ?_
    refine Sm.seq ?_
    refine Sm.regionG hF rfl ?_
    refine SmG.v hF rfl rfl rfl (opV_move rfl rfl) ?_
    refine SmG.v hF rfl rfl rfl (opV_un rfl rfl (by first | exact rd_notT _ | exact rd_notF _ | exact rd_not _)) ?_
    refine SmG.v hF rfl rfl rfl (opV_move rfl rfl) ?_
    first | refine SmG.v hF rfl rfl rfl (opV_move rfl rfl) ?_ | refine SmG.pass hF rfl rfl rfl ?_
    first | refine SmG.v hF rfl rfl rfl (opV_bin rfl rfl rfl (by first | exact rd_lssT _ _ _ _ _ (by omega) | exact rd_lssF _ _ _ _ _ (by omega) | exact rb_lss _ _ _ _ _ _ _)) ?_ | refine SmG.pass hF rfl rfl rfl ?_
    first | refine SmG.v hF rfl rfl rfl (opV_pickT rfl rfl rfl) ?_ | refine SmG.v hF rfl rfl rfl (opV_pickF rfl rfl rfl) ?_
    refine SmG.v hF rfl rfl rfl (opV_move rfl rfl) ?_
    first | refine SmG.v hF rfl rfl rfl (opV_move rfl rfl) ?_ | refine SmG.pass hF rfl rfl rfl ?_
    first | refine SmG.v hF rfl rfl rfl (opV_move rfl rfl) ?_ | refine SmG.pass hF rfl rfl rfl ?_
    first | refine SmG.v hF rfl rfl rfl (opV_bin rfl rfl rfl (by first | exact rd_lssT _ _ _ _ _ (by omega) | exact rd_lssF _ _ _ _ _ (by omega) | exact rb_lss _ _ _ _ _ _ _)) ?_ | refine SmG.pass hF rfl rfl rfl ?_
    first | refine SmG.v hF rfl rfl rfl (opV_pickT rfl rfl rfl) ?_ | refine SmG.v hF rfl rfl rfl (opV_pickF rfl rfl rfl) ?_
    refine SmG.v hF rfl rfl rfl (opV_move rfl rfl) ?_
    first | refine SmG.v hF rfl rfl rfl (opV_move rfl rfl) ?_ | refine SmG.pass hF rfl rfl rfl ?_
    first | refine SmG.v hF rfl rfl rfl (opV_move rfl rfl) ?_ | refine SmG.pass hF rfl rfl rfl ?_
    first | refine SmG.v hF rfl rfl rfl (opV_len rfl rfl (by simp (disch := omega) only [go_sem, Nat.reduceEqDiff, iteP, wkD, Wk.row, ressL, hsl, sumD, hcR] <;> rfl)) ?_ | refine SmG.pass hF rfl rfl rfl ?_
    first | refine SmG.v hF rfl rfl rfl (opV_bin rfl rfl rfl (by first | exact rd_gtrT _ _ _ _ _ (by omega) | exact rd_gtrF _ _ _ _ _ (by omega) | exact rb_gtr _ _ _ _ _ _ _)) ?_ | refine SmG.pass hF rfl rfl rfl ?_
    first | refine SmG.v hF rfl rfl rfl (opV_pickT rfl rfl rfl) ?_ | refine SmG.v hF rfl rfl rfl (opV_pickF rfl rfl rfl) ?_
    refine SmG.nil ?_
    refine nextS_normal ?_
    refine Sm.condF hF rfl ?_
    refine Sm.skip ?_
    refine nextS_normal ?_
    refine Sm.seq ?_
    refine Sm.drawG hF (by kernel_rfl) rfl 15 (by kernel_rfl) (by kernel_rfl) ?_
    simp only [List.take_succ_cons, List.take_zero, List.take_nil]
    refine Head.v hF rfl rfl rfl (opV_move rfl rfl) ?_
    refine Head.v hF rfl rfl rfl (opV_load rfl rfl (by simp (disch := omega) only [go_sem, Nat.reduceEqDiff, iteP, wkD, Wk.row, ressL, hsl, sumD, hcR] <;> rfl)) ?_
    refine Head.v hF rfl rfl rfl (opV_move rfl rfl) ?_
    refine Head.v hF rfl rfl rfl (opV_move rfl rfl) ?_
    refine Head.v hF rfl rfl rfl (opV_move rfl rfl) ?_
    refine Head.v hF rfl rfl rfl (opV_move rfl rfl) ?_
    refine Head.v hF rfl rfl rfl (opV_move rfl rfl) ?_
    refine Head.v hF rfl rfl rfl (opV_slice rfl rfl rfl rfl rfl (by simp (disch := omega) only [go_sem, Nat.reduceEqDiff, iteP, wkD, Wk.row, ressL, hsl, sumD, hcR] <;> rfl)) ?_
    refine Head.c hF rfl rfl (by kernel_rfl) rfl rfl rfl (clone_D _ (by omega) HG) ?_
    refine Head.cf hF rfl rfl rfl rfl rfl rfl hbody hsay ?_
    refine Head.v hF rfl rfl rfl (opV_move rfl rfl) ?_
    refine Head.v hF rfl rfl rfl (by first | exact opV_extract rfl rfl rfl | exact opV_extract0 rfl rfl) ?_
    refine Head.v hF rfl rfl rfl (by first | exact opV_extract rfl rfl rfl | exact opV_extractS rfl rfl rfl) ?_
    refine Head.v hF rfl rfl rfl (opV_assign rfl rfl) ?_
    refine Head.v hF rfl rfl rfl (opV_assign rfl rfl) ?_
    refine Head.last ⟨rfl, ?_⟩
    simp only [List.drop_succ_cons, List.drop_zero, List.drop_nil, List.nil_append, List.cons_append]
    refine SmG.nil ?_
    refine nextS_normal ?_
    refine Sm.seq ?_
    refine Sm.seq ?_
    refine Sm.regionG hF rfl ?_
    refine SmG.v hF rfl rfl rfl (opV_move rfl rfl) ?_
    refine SmG.v hF rfl rfl rfl (opV_un rfl rfl (by first | exact rd_notT _ | exact rd_notF _ | exact rd_not _)) ?_
    refine SmG.nil ?_
    refine nextS_normal ?_
    refine Sm.condF hF rfl ?_
    refine Sm.skip ?_
    refine nextS_normal ?_
    refine Sm.seq ?_
    refine Sm.regionG hF rfl ?_
    refine SmG.v hF rfl rfl rfl (opV_move rfl rfl) ?_
    refine SmG.v hF rfl rfl rfl (opV_move rfl rfl) ?_
    refine SmG.v hF rfl rfl rfl (opV_move rfl rfl) ?_
    refine SmG.v hF rfl rfl rfl (opV_move rfl rfl) ?_
    refine SmG.v hF rfl rfl rfl (opV_move rfl rfl) ?_
    refine SmG.call hF rfl rfl (by kernel_rfl) rfl rfl rfl (hR) ?_
    refine SmG.v hF rfl rfl rfl (opV_buildT rfl Tryd.underlying41 (by kernel_rfl) rfl (clm_build _ _ _ rfl rfl rfl _ _ hRl)) ?_
    refine SmG.store hF rfl rfl rfl rfl rfl (by simp (disch := omega) only [go_sem, Nat.reduceEqDiff, iteP, wkD, Wk.row, ressL, hsl, sumD, hcR] <;> rfl) ?_
    refine SmG.v hF rfl rfl rfl (opV_assign rfl rfl) ?_
    refine SmG.nil ?_
    refine nextS_normal ?_
    refine Sm.ret ?_
    refine retQ_cell2 rfl rfl (by simp (disch := omega) only [go_sem, Nat.reduceEqDiff, iteP] <;> rfl) rfl ?_
    exact D.le.refl _
theorem lie_len (x : Wk) (a : Int) (l : List Res) : (lie x a l).length = l.length := by
  unfold lie; split <;> simp
theorem work_lie (x : Wk) (who t : Int) (v : List Res) (a b : Nat) (hl : v.length ≤ 1000000) (hab : a ≤ b) (hb : b ≤ v.length) (hk : x.kind = 4) :
    CallsD Tryd.prog HG 31 [wkD x, .v (.int .i64 who), .v (.int .i64 t), ressL v, .v (.int .i64 a), .v (.int .i64 b)] (.tup [clmD ⟨who, a, b, lie x a (partOfL v a b), Sha.root ((lie x a (partOfL v a b)).map resBytes)⟩, .v (.bool true)]) := by
  have hsl : List.drop a (List.take b (List.map Res.row v)) = List.map Res.row (partOfL v a b) := by simp [partOfL, List.map_take, List.map_drop]
  have hpl := part_len (a := a) hb
  have hll : (lie x a (partOfL v a b)).length = (partOfL v a b).length := lie_len ..
  have hRl := Sha.root_len ((lie x a (partOfL v a b)).map resBytes)
  have hR := workRoot_D (lie x a (partOfL v a b)) (by omega)
  generalize Sha.root ((lie x a (partOfL v a b)).map resBytes) = R at hR hRl ⊢
  have hc : ∀ A : List UInt8, A.length = 32 → (rowS A).length = 32 := fun A h => by simp [rowS, h]
  have hcR := hc R hRl
  have hlk : lookupS Tryd.prog 84 (.d sayM) (.d (.v (.int .i64 x.kind))) true = some (.d (.tup [.fn 48 [], .v (.bool true)])) := by rw [hk]; rfl
  refine CallsD.of Tryd.func31 rfl Tryd.ntmps31 (by simp) ?_; intro F hF h0 hT; simp only [List.zipIdx_cons, List.zipIdx_nil, List.map_cons, List.map_nil, Nat.zero_add, Nat.reduceAdd]
  refine Sm.seq ?_
  refine Sm.regionG hF rfl ?_
  refine SmG.new hF rfl rfl rfl (opS_box rfl rfl (by simp (disch := omega) only [go_sem, Nat.reduceEqDiff, iteP, wkD, Wk.row, ressL, hsl, sumD, hcR] <;> rfl)) ?_
  refine SmG.new hF rfl rfl rfl (opS_alloc rfl al41) ?_
  refine SmG.v hF rfl rfl rfl (opV_assign rfl rfl) ?_
  refine SmG.nil ?_
  refine nextS_normal ?_
  refine Sm.seq ?_
  refine Sm.drawG hF (by kernel_rfl) rfl 9 (by kernel_rfl) (by kernel_rfl) ?_
  simp only [List.take_succ_cons, List.take_zero, List.take_nil]
  refine Head.c hF rfl rfl (by kernel_rfl) rfl rfl rfl (sayings_D HG) ?_
  refine Head.v hF rfl rfl rfl (opV_fieldAddr rfl rfl (by simp (disch := omega) only [go_sem, Nat.reduceEqDiff, iteP, wkD, Wk.row, ressL, hsl, sumD, hcR] <;> rfl)) ?_
  refine Head.v hF rfl rfl rfl (opV_load rfl rfl (by simp (disch := omega) only [go_sem, Nat.reduceEqDiff, iteP, wkD, Wk.row, ressL, hsl, sumD, hcR] <;> rfl)) ?_
  refine Head.v hF rfl rfl rfl (opV_lookup rfl rfl rfl hlk) ?_
  refine Head.v hF rfl rfl rfl (opV_move rfl rfl) ?_
  refine Head.v hF rfl rfl rfl (by first | exact opV_extract rfl rfl rfl | exact opV_extract0 rfl rfl) ?_
  refine Head.v hF rfl rfl rfl (by first | exact opV_extract rfl rfl rfl | exact opV_extractS rfl rfl rfl) ?_
  refine Head.v hF rfl rfl rfl (opV_assign rfl rfl) ?_
  refine Head.v hF rfl rfl rfl (opV_assign rfl rfl) ?_
  refine Head.last ⟨rfl, ?_⟩
  simp only [List.drop_succ_cons, List.drop_zero, List.drop_nil, List.nil_append, List.cons_append]
  refine SmG.nil ?_
  refine nextS_normal ?_
  refine Sm.seq ?_
  refine Sm.seq ?_
  refine Sm.regionG hF rfl ?_
  refine SmG.v hF rfl rfl rfl (opV_move rfl rfl) ?_
  refine SmG.v hF rfl rfl rfl (opV_un rfl rfl (by first | exact rd_notT _ | exact rd_notF _ | exact rd_not _)) ?_
  refine SmG.v hF rfl rfl rfl (opV_move rfl rfl) ?_
  first | refine SmG.v hF rfl rfl rfl (opV_move rfl rfl) ?_ | refine SmG.pass hF rfl rfl rfl ?_
  first | refine SmG.v hF rfl rfl rfl (opV_bin rfl rfl rfl (by first | exact rd_lssT _ _ _ _ _ (by omega) | exact rd_lssF _ _ _ _ _ (by omega) | exact rb_lss _ _ _ _ _ _ _)) ?_ | refine SmG.pass hF rfl rfl rfl ?_
  first | refine SmG.v hF rfl rfl rfl (opV_pickT rfl rfl rfl) ?_ | refine SmG.v hF rfl rfl rfl (opV_pickF rfl rfl rfl) ?_
  refine SmG.v hF rfl rfl rfl (opV_move rfl rfl) ?_
  first | refine SmG.v hF rfl rfl rfl (opV_move rfl rfl) ?_ | refine SmG.pass hF rfl rfl rfl ?_
  first | refine SmG.v hF rfl rfl rfl (opV_move rfl rfl) ?_ | refine SmG.pass hF rfl rfl rfl ?_
  first | refine SmG.v hF rfl rfl rfl (opV_bin rfl rfl rfl (by first | exact rd_lssT _ _ _ _ _ (by omega) | exact rd_lssF _ _ _ _ _ (by omega) | exact rb_lss _ _ _ _ _ _ _)) ?_ | refine SmG.pass hF rfl rfl rfl ?_
  first | refine SmG.v hF rfl rfl rfl (opV_pickT rfl rfl rfl) ?_ | refine SmG.v hF rfl rfl rfl (opV_pickF rfl rfl rfl) ?_
  refine SmG.v hF rfl rfl rfl (opV_move rfl rfl) ?_
  first | refine SmG.v hF rfl rfl rfl (opV_move rfl rfl) ?_ | refine SmG.pass hF rfl rfl rfl ?_
  first | refine SmG.v hF rfl rfl rfl (opV_move rfl rfl) ?_ | refine SmG.pass hF rfl rfl rfl ?_
  first | refine SmG.v hF rfl rfl rfl (opV_len rfl rfl (by simp (disch := omega) only [go_sem, Nat.reduceEqDiff, iteP, wkD, Wk.row, ressL, hsl, sumD, hcR] <;> rfl)) ?_ | refine SmG.pass hF rfl rfl rfl ?_
  first | refine SmG.v hF rfl rfl rfl (opV_bin rfl rfl rfl (by first | exact rd_gtrT _ _ _ _ _ (by omega) | exact rd_gtrF _ _ _ _ _ (by omega) | exact rb_gtr _ _ _ _ _ _ _)) ?_ | refine SmG.pass hF rfl rfl rfl ?_
  first | refine SmG.v hF rfl rfl rfl (opV_pickT rfl rfl rfl) ?_ | refine SmG.v hF rfl rfl rfl (opV_pickF rfl rfl rfl) ?_
  refine SmG.nil ?_
  refine nextS_normal ?_
  refine Sm.condF hF rfl ?_
  refine Sm.skip ?_
  refine nextS_normal ?_
  refine Sm.seq ?_
  refine Sm.regionAG hF rfl ?_
  refine SmA.headG hF rfl 0 9 (by kernel_rfl) ?_
  simp only [List.take_succ_cons, List.take_zero, List.take_nil, List.drop_succ_cons, List.drop_zero, Nat.reduceSub]
  refine Head.v hF rfl rfl rfl (opV_move rfl rfl) ?_
  refine Head.v hF rfl rfl rfl (opV_load rfl rfl (by simp (disch := omega) only [go_sem, Nat.reduceEqDiff, iteP, wkD, Wk.row, ressL, hsl, sumD, hcR] <;> rfl)) ?_
  refine Head.v hF rfl rfl rfl (opV_move rfl rfl) ?_
  refine Head.v hF rfl rfl rfl (opV_move rfl rfl) ?_
  refine Head.v hF rfl rfl rfl (opV_move rfl rfl) ?_
  refine Head.v hF rfl rfl rfl (opV_move rfl rfl) ?_
  refine Head.v hF rfl rfl rfl (opV_move rfl rfl) ?_
  refine Head.v hF rfl rfl rfl (opV_slice rfl rfl rfl rfl rfl (by simp (disch := omega) only [go_sem, Nat.reduceEqDiff, iteP, wkD, Wk.row, ressL, hsl, sumD, hcR] <;> rfl)) ?_
  refine Head.co hF rfl rfl (by kernel_rfl) rfl rfl rfl (clone_O _ (by omega) HG) ?_
  refine Head.last ?_
  simp only [List.nil_append, List.cons_append]
  refine SmA.oneG hF 9 rfl (by kernel_rfl) rfl ?_
  refine SmG.callF1 hF 2 rfl rfl rfl rfl rfl rfl (by kernel_rfl) rfl (lie_B x t a (partOfL v a b) (by omega) (by omega) HG) rfl rfl ?_; simp only [V.ren, upN, Nat.lt_irrefl, Nat.zero_lt_one, if_true, rep, Nat.reduceEqDiff, reduceIte, Nat.reduceAdd, Nat.reduceSub]
  refine SmG.nil ?_
  refine nextS_normal ?_
  refine SmA.headG hF rfl 10 15 (by kernel_rfl) ?_
  simp only [List.take_succ_cons, List.take_zero, List.take_nil, List.drop_succ_cons, List.drop_zero, Nat.reduceSub]
  refine Head.v hF rfl rfl rfl (opV_move rfl rfl) ?_
  refine Head.v hF rfl rfl rfl (by first | exact opV_extract rfl rfl rfl | exact opV_extract0 rfl rfl) ?_
  refine Head.v hF rfl rfl rfl (by first | exact opV_extract rfl rfl rfl | exact opV_extractS rfl rfl rfl) ?_
  refine Head.v hF rfl rfl rfl (opV_assign rfl rfl) ?_
  refine Head.v hF rfl rfl rfl (opV_assign rfl rfl) ?_
  refine Head.last ?_
  simp only [List.nil_append, List.cons_append]
  refine SmA.nil (Nat.le_of_ble_eq_true rfl) ?_
  refine nextS_normal ?_
  refine Sm.seq ?_
  refine Sm.seq ?_
  refine Sm.regionG hF rfl ?_
  refine SmG.v hF rfl rfl rfl (opV_move rfl rfl) ?_
  refine SmG.v hF rfl rfl rfl (opV_un rfl rfl (by first | exact rd_notT _ | exact rd_notF _ | exact rd_not _)) ?_
  refine SmG.nil ?_
  refine nextS_normal ?_
  refine Sm.condF hF rfl ?_
  refine Sm.freeze (l := 2) ((lie x a (partOfL v a b)).map Res.row) rfl ?_
  simp only [Pk.v, frzE, frzV, dropH,  reduceIte, Nat.reduceAdd, Nat.zero_add, List.length_map, List.length_append, Nat.le_refl, true_and, and_self, if_true, Nat.reduceEqDiff, hll]
  refine Sm.skip ?_
  refine nextS_normal ?_
  refine Sm.seq ?_
  refine Sm.regionG hF rfl ?_
  refine SmG.v hF rfl rfl rfl (opV_move rfl rfl) ?_
  refine SmG.v hF rfl rfl rfl (opV_move rfl rfl) ?_
  refine SmG.v hF rfl rfl rfl (opV_move rfl rfl) ?_
  refine SmG.v hF rfl rfl rfl (opV_move rfl rfl) ?_
  refine SmG.v hF rfl rfl rfl (opV_move rfl rfl) ?_
  refine SmG.call hF rfl rfl (by kernel_rfl) rfl rfl rfl (hR) ?_
  refine SmG.v hF rfl rfl rfl (opV_buildT rfl Tryd.underlying41 (by kernel_rfl) rfl (clm_build _ _ _ rfl rfl rfl _ _ hRl)) ?_
  refine SmG.store hF rfl rfl rfl rfl rfl (by simp (disch := omega) only [go_sem, Nat.reduceEqDiff, iteP, wkD, Wk.row, ressL, hsl, sumD, hcR] <;> rfl) ?_
  refine SmG.v hF rfl rfl rfl (opV_assign rfl rfl) ?_
  refine SmG.nil ?_
  refine nextS_normal ?_
  refine Sm.ret ?_
  refine retQ_cell2 rfl rfl (by simp (disch := omega) only [go_sem, Nat.reduceEqDiff, iteP] <;> rfl) rfl ?_
  exact D.le.refl _
def saidW (x : Wk) (t : Int) (v : List Res) (a b : Int) : Option (List Res) :=
  if 0 ≤ a ∧ a ≤ b ∧ b ≤ v.length then
    if x.kind = 1 then some (partOfL v a.toNat b.toNat) else if x.kind = 3 then (if x.n ≤ t then some (partOfL v a.toNat b.toNat) else none) else if x.kind = 4 then some (lie x a (partOfL v a.toNat b.toNat)) else none
  else none
def claimW (x : Wk) (who t : Int) (v : List Res) (a b : Int) : Clm × Bool :=
  match saidW x t v a b with
  | some l => (⟨who, a, b, l, Sha.root (l.map resBytes)⟩, true)
  | none => (noClm, false)
theorem work_D (x : Wk) (who t : Int) (v : List Res) (a b : Int) (hl : v.length ≤ 1000000) : CallsD Tryd.prog HG 31 [wkD x, .v (.int .i64 who), .v (.int .i64 t), ressL v, .v (.int .i64 a), .v (.int .i64 b)] (.tup [clmD (claimW x who t v a b).1, .v (.bool (claimW x who t v a b).2)]) := by
  by_cases hk : sayKind x.kind
  · by_cases hab : 0 ≤ a ∧ a ≤ b ∧ b ≤ v.length
    · obtain ⟨h1, h2, h3⟩ := hab
      obtain ⟨a, rfl⟩ : ∃ n : Nat, a = n := ⟨a.toNat, by omega⟩
      obtain ⟨b, rfl⟩ : ∃ n : Nat, b = n := ⟨b.toNat, by omega⟩
      have hpl := part_len (v := v) (a := a) (b := b) (by omega)
      rcases hk with hk | hk | hk
      · have hs : claimW x who t v a b = (⟨who, a, b, partOfL v a b, Sha.root ((partOfL v a b).map resBytes)⟩, true) := by
          simp [claimW, saidW, hk, h2, h3]
        rw [hs]
        exact work_say x who t v a b hl (by omega) (by omega) _ (partOfL v a b) true hpl (by kernel_rfl) (by rw [hk]; rfl) (honest_D x t a _ HG)
      · have hw := work_say x who t v a b hl (by omega) (by omega) 47 (partOfL v a b) (decide (x.n ≤ t)) hpl (by kernel_rfl) (by rw [hk]; rfl) (late_D x t a _ HG)
        by_cases ht : x.n ≤ t
        · have hs : claimW x who t v a b = (⟨who, a, b, partOfL v a b, Sha.root ((partOfL v a b).map resBytes)⟩, true) := by
            simp [claimW, saidW, hk, h2, h3, ht]
          rw [hs]
          simpa [ht] using hw
        · have hs : claimW x who t v a b = (noClm, false) := by
            simp [claimW, saidW, hk, h2, h3, ht]
          rw [hs]
          simpa [ht] using hw
      · have hs : claimW x who t v a b = (⟨who, a, b, lie x a (partOfL v a b), Sha.root ((lie x a (partOfL v a b)).map resBytes)⟩, true) := by
          simp [claimW, saidW, hk, h2, h3]
        rw [hs]
        exact work_lie x who t v a b hl (by omega) (by omega) hk
    · have hs : claimW x who t v a b = (noClm, false) := by
        simp [claimW, saidW, hab]
      rw [hs]
      exact work_no x who t v a b hl (.inr ⟨hk, by omega⟩)
  · have hs : claimW x who t v a b = (noClm, false) := by
      unfold claimW saidW
      simp only [sayKind, not_or] at hk
      simp [hk]
    rw [hs]
    exact work_no x who t v a b hl (.inl hk)
end Go.Proofs.YtagfaaijgfigkaaDoor
namespace Go.Proofs.YtagfaaijgfigkaaDoor
open Go.RowKit
set_option maxRecDepth 100000
def bnd (q r i : Nat) : Nat := i * q + min i r
theorem bnd_succ (q r i : Nat) : bnd q r (i + 1) = bnd q r i + q + if i < r then 1 else 0 := by
  unfold bnd
  rw [Nat.succ_mul]
  split <;> omega
theorem bnd_end {n m : Nat} (hm : 0 < m) : bnd (n / m) (n % m) m = n := by
  unfold bnd
  have := Nat.mod_lt n hm
  rw [Nat.min_eq_right (by omega), Nat.mul_comm]
  have := Nat.mod_add_div n m
  rw [Nat.mul_comm] at this ⊢; rw [Nat.mul_comm m]; omega
theorem bnd_mono {q r i j : Nat} (h : i ≤ j) : bnd q r i ≤ bnd q r j := by
  induction h with
  | refl => exact Nat.le_refl _
  | step _ ih => rw [bnd_succ]; omega
def cutAt (q r i : Nat) : Int × Int := (bnd q r i, bnd q r (i + 1))
def cutN (n m : Nat) : List (Int × Int) := (List.range m).map (cutAt (n / m) (n % m))
def cutL (n k : Int) : List (Int × Int) := if k < 1 ∨ n < 1 ∨ 4000 < n then [] else cutN n.toNat (min n k).toNat
def rowP (p : Int × Int) : List D := [.v (.int .i64 p.1), .v (.int .i64 p.2)]
def partsD (l : List (Int × Int)) : D := .list 2 (l.map rowP) false
theorem elPart : ElemT Tryd.prog 49 56 (.agg #[.int .i64 0, .int .i64 0]) 2 16 := ⟨Tryd.underlying49, by kernel_rfl, rfl, by decide⟩
theorem cut_no (n k : Int) (h : k < 1 ∨ (1 ≤ k ∧ (n < 1 ∨ (1 ≤ n ∧ 4000 < n)))) (G : Nat → Option D) : CallsD Tryd.prog G 20 [.v (.int .i64 n), .v (.int .i64 k)] (partsD []) := by
  rcases h with h | ⟨h, h' | ⟨h', h''⟩⟩
  all_goals
    refine CallsD.of Tryd.func20 rfl Tryd.ntmps20 (by simp) ?_; intro F hF h0 hT; simp only [List.zipIdx_cons, List.zipIdx_nil, List.map_cons, List.map_nil, Nat.zero_add, Nat.reduceAdd]
    refine Sm.seq ?_
    refine Sm.regionG hF rfl ?_
    refine SmG.v hF rfl rfl rfl (opV_assign rfl rfl) ?_
    refine SmG.nil ?_
    refine nextS_normal ?_
    refine Sm.seq ?_
    refine Sm.seq ?_
    refine Sm.regionG hF rfl ?_
    refine SmG.v hF rfl rfl rfl (opV_move rfl rfl) ?_
    refine SmG.v hF rfl rfl rfl (opV_bin rfl rfl rfl (by first | exact rd_lssT _ _ _ _ _ (by omega) | exact rd_lssF _ _ _ _ _ (by omega) | exact rb_lss _ _ _ _ _ _ _)) ?_
    refine SmG.v hF rfl rfl rfl (opV_move rfl rfl) ?_
    first | refine SmG.v hF rfl rfl rfl (opV_move rfl rfl) ?_ | refine SmG.pass hF rfl rfl rfl ?_
    first | refine SmG.v hF rfl rfl rfl (opV_bin rfl rfl rfl (by first | exact rd_lssT _ _ _ _ _ (by omega) | exact rd_lssF _ _ _ _ _ (by omega) | exact rb_lss _ _ _ _ _ _ _)) ?_ | refine SmG.pass hF rfl rfl rfl ?_
    first | refine SmG.v hF rfl rfl rfl (opV_pickT rfl rfl rfl) ?_ | refine SmG.v hF rfl rfl rfl (opV_pickF rfl rfl rfl) ?_
    refine SmG.v hF rfl rfl rfl (opV_move rfl rfl) ?_
    first | refine SmG.v hF rfl rfl rfl (opV_move rfl rfl) ?_ | refine SmG.pass hF rfl rfl rfl ?_
    first | refine SmG.v hF rfl rfl rfl (opV_bin rfl rfl rfl (by first | exact rd_gtrT _ _ _ _ _ (by omega) | exact rd_gtrF _ _ _ _ _ (by omega) | exact rb_gtr _ _ _ _ _ _ _)) ?_ | refine SmG.pass hF rfl rfl rfl ?_
    first | refine SmG.v hF rfl rfl rfl (opV_pickT rfl rfl rfl) ?_ | refine SmG.v hF rfl rfl rfl (opV_pickF rfl rfl rfl) ?_
    refine SmG.nil ?_
    refine nextS_normal ?_
    refine Sm.condT hF rfl ?_
    refine Sm.seq ?_
    refine Sm.regionG hF rfl ?_
    refine SmG.v hF rfl rfl rfl (opV_assign rfl rfl) ?_
    refine SmG.nil ?_
    refine nextS_normal ?_
    refine Sm.ret ?_
    simp only [nextS, blockS]
    refine ⟨_, rfl, ?_⟩; dsimp only
    exact D.le_nil' _ _ _
theorem range_take (m i : Nat) (h : i ≤ m) : (List.range m).take i = List.range i := by rw [List.take_range, Nat.min_eq_left h]
theorem cutN_take (n m i : Nat) (h : i < m) : ((cutN n m).take i).map rowP ++ [[.v (.int .i64 ((bnd (n / m) (n % m) i : Nat) : Int)), .v (.int .i64 ((bnd (n / m) (n % m) (i + 1) : Nat) : Int))]] = ((cutN n m).take (i + 1)).map rowP := by
  unfold cutN
  rw [← List.map_take, ← List.map_take, range_take _ _ (by omega), range_take _ _ (by omega), List.range_succ]
  simp [rowP, cutAt]
theorem cut_yes (n m : Nat) (k : Int) (h1 : 1 ≤ n) (h2 : n ≤ 4000) (hk : 1 ≤ k) (hm : (m : Int) = min (n : Int) k) (G : Nat → Option D) : CallsD Tryd.prog G 20 [.v (.int .i64 n), .v (.int .i64 k)] (partsD (cutN n m)) := by
  have hm1 : 1 ≤ m := by omega
  have hmn : m ≤ n := by omega
  have hmin : ∀ {ts : Array TypeId} {T : TypeId}, reck Tryd.prog (Builtin.min_ ts T #[.int .i64 (n : Int), .int .i64 k]) = some (.int .i64 (m : Int)) := by
    intro ts T
    rcases Int.le_total (n : Int) k with h | h
    · rw [rd_minL _ h, hm, Int.min_eq_left h]
    · rw [rd_minR _ h, hm, Int.min_eq_right h]
  have hend := bnd_end (n := n) (m := m) hm1
  have hqn : n / m ≤ n := Nat.div_le_self n m
  have hrm : n % m < m := Nat.mod_lt n (by omega)
  have htk := cutN_take n m
  have hquo : ∀ t x y, reck Tryd.prog (do eqGuard .quo t x y (.int .i64 (n : Int)) (.int .i64 (m : Int)); binOp .quo t (.int .i64 (n : Int)) (.int .i64 (m : Int))) = some (.int .i64 ((n / m : Nat) : Int)) := fun t x y => by
    rw [rd_quo _ _ _ _ (by omega) (by omega)]; simp
  have hrem : ∀ t x y, reck Tryd.prog (do eqGuard .rem t x y (.int .i64 (n : Int)) (.int .i64 (m : Int)); binOp .rem t (.int .i64 (n : Int)) (.int .i64 (m : Int))) = some (.int .i64 ((n % m : Nat) : Int)) := fun t x y => by
    rw [rd_rem _ _ _ _ _ (by omega) (by omega)]; simp
  have hcl : (cutN n m).length = m := by simp [cutN]
  unfold partsD
  generalize cutN n m = L at htk hcl ⊢
  generalize n / m = q at *
  generalize n % m = r at *
  refine CallsD.of Tryd.func20 rfl Tryd.ntmps20 (by simp) ?_; intro F hF h0 hT; simp only [List.zipIdx_cons, List.zipIdx_nil, List.map_cons, List.map_nil, Nat.zero_add, Nat.reduceAdd]
  refine Sm.seq ?_
  refine Sm.regionG hF rfl ?_
  refine SmG.v hF rfl rfl rfl (opV_assign rfl rfl) ?_
  refine SmG.nil ?_
  refine nextS_normal ?_
  refine Sm.seq ?_
  refine Sm.seq ?_
  refine Sm.regionG hF rfl ?_
  refine SmG.v hF rfl rfl rfl (opV_move rfl rfl) ?_
  refine SmG.v hF rfl rfl rfl (opV_bin rfl rfl rfl (by first | exact rd_lssT _ _ _ _ _ (by omega) | exact rd_lssF _ _ _ _ _ (by omega) | exact rb_lss _ _ _ _ _ _ _)) ?_
  refine SmG.v hF rfl rfl rfl (opV_move rfl rfl) ?_
  first | refine SmG.v hF rfl rfl rfl (opV_move rfl rfl) ?_ | refine SmG.pass hF rfl rfl rfl ?_
  first | refine SmG.v hF rfl rfl rfl (opV_bin rfl rfl rfl (by first | exact rd_lssT _ _ _ _ _ (by omega) | exact rd_lssF _ _ _ _ _ (by omega) | exact rb_lss _ _ _ _ _ _ _)) ?_ | refine SmG.pass hF rfl rfl rfl ?_
  first | refine SmG.v hF rfl rfl rfl (opV_pickT rfl rfl rfl) ?_ | refine SmG.v hF rfl rfl rfl (opV_pickF rfl rfl rfl) ?_
  refine SmG.v hF rfl rfl rfl (opV_move rfl rfl) ?_
  first | refine SmG.v hF rfl rfl rfl (opV_move rfl rfl) ?_ | refine SmG.pass hF rfl rfl rfl ?_
  first | refine SmG.v hF rfl rfl rfl (opV_bin rfl rfl rfl (by first | exact rd_gtrT _ _ _ _ _ (by omega) | exact rd_gtrF _ _ _ _ _ (by omega) | exact rb_gtr _ _ _ _ _ _ _)) ?_ | refine SmG.pass hF rfl rfl rfl ?_
  first | refine SmG.v hF rfl rfl rfl (opV_pickT rfl rfl rfl) ?_ | refine SmG.v hF rfl rfl rfl (opV_pickF rfl rfl rfl) ?_
  refine SmG.nil ?_
  refine nextS_normal ?_
  refine Sm.condF hF rfl ?_
  refine Sm.skip ?_
  refine nextS_normal ?_
  refine Sm.seq ?_
  refine Sm.regionG hF rfl ?_
  refine SmG.v hF rfl rfl rfl (opV_move rfl rfl) ?_
  refine SmG.v hF rfl rfl rfl (opV_move rfl rfl) ?_
  refine SmG.v hF rfl rfl rfl (opV_min rfl rfl rfl hmin) ?_
  refine SmG.v hF rfl rfl rfl (opV_assign rfl rfl) ?_
  refine SmG.nil ?_
  refine nextS_normal ?_
  refine Sm.seq ?_
  refine Sm.drawG hF (by kernel_rfl) rfl 8 (by kernel_rfl) (by kernel_rfl) ?_
  simp only [List.take_succ_cons, List.take_zero, List.take_nil]
  refine Head.v hF rfl rfl rfl (opV_move rfl rfl) ?_
  refine Head.v hF rfl rfl rfl (opV_move rfl rfl) ?_
  refine Head.v hF rfl rfl rfl (opV_bin rfl rfl rfl (hquo _ _ _)) ?_
  refine Head.v hF rfl rfl rfl (opV_move rfl rfl) ?_
  refine Head.v hF rfl rfl rfl (opV_move rfl rfl) ?_
  refine Head.v hF rfl rfl rfl (opV_bin rfl rfl rfl (hrem _ _ _)) ?_
  refine Head.v hF rfl rfl rfl (opV_assign rfl rfl) ?_
  refine Head.v hF rfl rfl rfl (opV_assign rfl rfl) ?_
  refine Head.last ⟨rfl, ?_⟩
  simp only [List.drop_succ_cons, List.drop_zero, List.drop_nil, List.nil_append, List.cons_append]
  refine SmG.nil ?_
  refine nextS_normal ?_
  refine Sm.seq ?_
  refine Sm.regionG hF rfl ?_
  refine SmG.v hF rfl rfl rfl (opV_assign rfl rfl) ?_
  refine SmG.nil ?_
  refine nextS_normal ?_
  refine Sm.seq ?_
  refine Sm.regionG hF rfl ?_
  refine SmG.v hF rfl rfl rfl (opV_assign rfl rfl) ?_
  refine SmG.nil ?_
  refine nextS_normal ?_
  refine Sm.seq ?_
  refine Sm.seq ?_
  refine Sm.regionG hF rfl ?_
  refine SmG.v hF rfl rfl rfl (opV_move rfl rfl) ?_
  refine SmG.v hF rfl rfl rfl (opV_move rfl rfl) ?_
  refine SmG.nil ?_
  refine nextS_normal ?_
  refine Sm.block ?_
  refine Sm.own (t := 7) (sz := 0) 2 rfl ?_
  refine Sm.loop (ι := {i : Nat // i ≤ m}) (fun i => ⟨[(5, .d (.v (.int .i64 q))), (6, .d (.v (.int .i64 r))), (7, .sref 0 0 ((L.take i.1).map rowP).length), (8, .d (.v (.int .i64 (bnd q r i.1 : Nat)))), (30, .d (.v (.int .i64 m))), (31, .d (.v (.int .i64 i.1)))], [(0, dB 2 ((L.take i.1).map rowP))], 1⟩) (fun i => m - i.1) (⟨0, by omega⟩) ?_ ?_
  · exact St.le_of (by simp [leE, look, constD, bnd]) ⟨rfl, trivial⟩ (Nat.le_refl _)
  rintro ⟨i, hi⟩
  simp only
  by_cases hlt : i < m
  · have hb := bnd_succ q r i
    have hm1 := bnd_mono (q := q) (r := r) (show i + 1 ≤ m by omega)
    have htk' := htk i hlt
    have hll : ((L.take i).map rowP).length = i := by rw [List.length_map, List.length_take]; omega
    by_cases hir : i < r
    · rw [if_pos hir] at hb
      have he : ((bnd q r i : Nat) : Int) + (q : Int) + 1 = ((bnd q r (i + 1) : Nat) : Int) := by omega
      refine Sm.seq ?_
      refine Sm.regionG hF rfl ?_
      refine SmG.v hF rfl rfl rfl (opV_bin rfl rfl rfl (by first | exact rd_lssT _ _ _ _ _ (by omega) | exact rd_lssF _ _ _ _ _ (by omega) | exact rb_lss _ _ _ _ _ _ _)) ?_
      refine SmG.nil ?_
      refine nextS_normal ?_
      refine Sm.seq ?_
      refine Sm.condT hF rfl ?_
      refine Sm.skip ?_
      refine nextS_normal ?_
      refine Sm.seq ?_
      refine Sm.block ?_
      refine Sm.seq ?_
      refine Sm.regionG hF rfl ?_
      refine SmG.v hF rfl rfl rfl (opV_move rfl rfl) ?_
      refine SmG.v hF rfl rfl rfl (opV_assign rfl rfl) ?_
      refine SmG.nil ?_
      refine nextS_normal ?_
      refine Sm.seq ?_
      refine Sm.regionG hF rfl ?_
      refine SmG.v hF rfl rfl rfl (opV_move rfl rfl) ?_
      refine SmG.v hF rfl rfl rfl (opV_move rfl rfl) ?_
      refine SmG.v hF rfl rfl rfl (opV_bin rfl rfl rfl (by first | exact rd_add _ _ _ _ _ (wrapI64 _ (by omega)) | exact rb_add _ _ _ _ _ _ _)) ?_
      refine SmG.v hF rfl rfl rfl (opV_assign rfl rfl) ?_
      refine SmG.nil ?_
      refine nextS_normal ?_
      refine Sm.seq ?_
      refine Sm.seq ?_
      refine Sm.regionG hF rfl ?_
      refine SmG.v hF rfl rfl rfl (opV_move rfl rfl) ?_
      refine SmG.v hF rfl rfl rfl (opV_move rfl rfl) ?_
      refine SmG.v hF rfl rfl rfl (opV_bin rfl rfl rfl (by first | exact rd_lssT _ _ _ _ _ (by omega) | exact rd_lssF _ _ _ _ _ (by omega) | exact rb_lss _ _ _ _ _ _ _)) ?_
      refine SmG.nil ?_
      refine nextS_normal ?_
      refine Sm.condT hF rfl ?_
      refine Sm.regionG hF rfl ?_
      refine SmG.v hF rfl rfl rfl (opV_move rfl rfl) ?_
      refine SmG.v hF rfl rfl rfl (opV_bin rfl rfl rfl (by first | exact rd_add _ _ _ _ _ (wrapI64 _ (by omega)) | exact rb_add _ _ _ _ _ _ _)) ?_
      refine SmG.v hF rfl rfl rfl (opV_assign rfl rfl) ?_
      refine SmG.nil ?_
      refine nextS_normal ?_
      refine Sm.seq ?_
      refine Sm.regionG hF rfl ?_
      refine SmG.v hF rfl rfl rfl (opV_move rfl rfl) ?_
      refine SmG.v hF rfl rfl rfl (opV_move rfl rfl) ?_
      refine SmG.v hF rfl rfl rfl (opV_move rfl rfl) ?_
      refine SmG.v hF rfl rfl rfl (opV_buildA rfl Tryd.underlying56 rfl (by simp (disch := omega) only [go_sem, Nat.reduceEqDiff, iteP] <;> rfl)) ?_
      refine SmG.v hF rfl rfl rfl (opV_buildSlice rfl rfl (by simp (disch := omega) only [go_sem, Nat.reduceEqDiff, iteP] <;> rfl)) ?_
      refine SmG.appendOwn hF elPart rfl rfl rfl rfl rfl rfl rfl (by first | rfl | (simp; done) | (simp; omega)) (Or.inl rfl) (by (repeat' first | exact freeH_nil _ | refine freeH_same ?_ | refine freeH_cons ?_ (free_dB _ _ _) | refine freeH_cons ?_ (free_dB _ _ [_]) | refine freeH_cons ?_ (free_row (by rfl)))) ?_ ?_ ?_; rotate_left; rotate_left; simp only [killV, Pk.v, V.free, rep, bne_self_eq_false, Nat.reduceAdd, Nat.reduceBNe, Nat.reduceBEq, Nat.reduceEqDiff, reduceIte, Bool.false_eq_true]
      rotate_left
      · simp only [List.length_cons, List.length_nil]; omega
      · simp only [List.length_cons, List.length_nil]; omega
      rw [he, htk']
      refine SmG.v hF rfl rfl rfl (opV_assign rfl rfl) ?_
      refine SmG.nil ?_
      refine nextS_normal ?_
      refine Sm.regionG hF rfl ?_
      refine SmG.v hF rfl rfl rfl (opV_move rfl rfl) ?_
      refine SmG.v hF rfl rfl rfl (opV_assign rfl rfl) ?_
      refine SmG.nil ?_
      refine blockS_normal ?_
      refine nextS_normal ?_
      refine Sm.regionG hF rfl ?_
      refine SmG.v hF rfl rfl rfl (opV_bin rfl rfl rfl (by first | exact rd_add _ _ _ _ _ (wrapI64 _ (by omega)) | exact rb_add _ _ _ _ _ _ _)) ?_
      refine SmG.v hF rfl rfl rfl (opV_move rfl rfl) ?_
      refine SmG.nil ?_
      refine nextS_normal ?_
      exact ⟨⟨i + 1, by omega⟩, by show m - (i + 1) < m - i; omega, by exact St.le_of (by first | (simp [leE, look, constD] <;> omega) | (simp [leE, look, constD, he] <;> omega)) (by simp only [leH, look, rep, reduceIte, Nat.reduceEqDiff, List.set_cons_zero, List.set_cons_succ, he, and_self, and_true, and_false, false_and, if_true, if_false] <;> (repeat' first | rfl | constructor)) (by first | exact Nat.le_refl _ | (dsimp only; omega))⟩
    · rw [if_neg hir] at hb
      have he : ((bnd q r i : Nat) : Int) + (q : Int) = ((bnd q r (i + 1) : Nat) : Int) := by omega
      refine Sm.seq ?_
      refine Sm.regionG hF rfl ?_
      refine SmG.v hF rfl rfl rfl (opV_bin rfl rfl rfl (by first | exact rd_lssT _ _ _ _ _ (by omega) | exact rd_lssF _ _ _ _ _ (by omega) | exact rb_lss _ _ _ _ _ _ _)) ?_
      refine SmG.nil ?_
      refine nextS_normal ?_
      refine Sm.seq ?_
      refine Sm.condT hF rfl ?_
      refine Sm.skip ?_
      refine nextS_normal ?_
      refine Sm.seq ?_
      refine Sm.block ?_
      refine Sm.seq ?_
      refine Sm.regionG hF rfl ?_
      refine SmG.v hF rfl rfl rfl (opV_move rfl rfl) ?_
      refine SmG.v hF rfl rfl rfl (opV_assign rfl rfl) ?_
      refine SmG.nil ?_
      refine nextS_normal ?_
      refine Sm.seq ?_
      refine Sm.regionG hF rfl ?_
      refine SmG.v hF rfl rfl rfl (opV_move rfl rfl) ?_
      refine SmG.v hF rfl rfl rfl (opV_move rfl rfl) ?_
      refine SmG.v hF rfl rfl rfl (opV_bin rfl rfl rfl (by first | exact rd_add _ _ _ _ _ (wrapI64 _ (by omega)) | exact rb_add _ _ _ _ _ _ _)) ?_
      refine SmG.v hF rfl rfl rfl (opV_assign rfl rfl) ?_
      refine SmG.nil ?_
      refine nextS_normal ?_
      refine Sm.seq ?_
      refine Sm.seq ?_
      refine Sm.regionG hF rfl ?_
      refine SmG.v hF rfl rfl rfl (opV_move rfl rfl) ?_
      refine SmG.v hF rfl rfl rfl (opV_move rfl rfl) ?_
      refine SmG.v hF rfl rfl rfl (opV_bin rfl rfl rfl (by first | exact rd_lssT _ _ _ _ _ (by omega) | exact rd_lssF _ _ _ _ _ (by omega) | exact rb_lss _ _ _ _ _ _ _)) ?_
      refine SmG.nil ?_
      refine nextS_normal ?_
      refine Sm.condF hF rfl ?_
      refine Sm.skip ?_
      refine nextS_normal ?_
      refine Sm.seq ?_
      refine Sm.regionG hF rfl ?_
      refine SmG.v hF rfl rfl rfl (opV_move rfl rfl) ?_
      refine SmG.v hF rfl rfl rfl (opV_move rfl rfl) ?_
      refine SmG.v hF rfl rfl rfl (opV_move rfl rfl) ?_
      refine SmG.v hF rfl rfl rfl (opV_buildA rfl Tryd.underlying56 rfl (by simp (disch := omega) only [go_sem, Nat.reduceEqDiff, iteP] <;> rfl)) ?_
      refine SmG.v hF rfl rfl rfl (opV_buildSlice rfl rfl (by simp (disch := omega) only [go_sem, Nat.reduceEqDiff, iteP] <;> rfl)) ?_
      refine SmG.appendOwn hF elPart rfl rfl rfl rfl rfl rfl rfl (by first | rfl | (simp; done) | (simp; omega)) (Or.inl rfl) (by (repeat' first | exact freeH_nil _ | refine freeH_same ?_ | refine freeH_cons ?_ (free_dB _ _ _) | refine freeH_cons ?_ (free_dB _ _ [_]) | refine freeH_cons ?_ (free_row (by rfl)))) ?_ ?_ ?_; rotate_left; rotate_left; simp only [killV, Pk.v, V.free, rep, bne_self_eq_false, Nat.reduceAdd, Nat.reduceBNe, Nat.reduceBEq, Nat.reduceEqDiff, reduceIte, Bool.false_eq_true]
      rotate_left
      · simp only [List.length_cons, List.length_nil]; omega
      · simp only [List.length_cons, List.length_nil]; omega
      rw [he, htk']
      refine SmG.v hF rfl rfl rfl (opV_assign rfl rfl) ?_
      refine SmG.nil ?_
      refine nextS_normal ?_
      refine Sm.regionG hF rfl ?_
      refine SmG.v hF rfl rfl rfl (opV_move rfl rfl) ?_
      refine SmG.v hF rfl rfl rfl (opV_assign rfl rfl) ?_
      refine SmG.nil ?_
      refine blockS_normal ?_
      refine nextS_normal ?_
      refine Sm.regionG hF rfl ?_
      refine SmG.v hF rfl rfl rfl (opV_bin rfl rfl rfl (by first | exact rd_add _ _ _ _ _ (wrapI64 _ (by omega)) | exact rb_add _ _ _ _ _ _ _)) ?_
      refine SmG.v hF rfl rfl rfl (opV_move rfl rfl) ?_
      refine SmG.nil ?_
      refine nextS_normal ?_
      exact ⟨⟨i + 1, by omega⟩, by show m - (i + 1) < m - i; omega, by exact St.le_of (by first | (simp [leE, look, constD] <;> omega) | (simp [leE, look, constD, he] <;> omega)) (by simp only [leH, look, rep, reduceIte, Nat.reduceEqDiff, List.set_cons_zero, List.set_cons_succ, he, and_self, and_true, and_false, false_and, if_true, if_false] <;> (repeat' first | rfl | constructor)) (by first | exact Nat.le_refl _ | (dsimp only; omega))⟩
  · obtain rfl : i = m := by omega
    rw [List.take_of_length_le (by omega)]
    refine Sm.seq ?_
    refine Sm.regionG hF rfl ?_
    refine SmG.v hF rfl rfl rfl (opV_bin rfl rfl rfl (by first | exact rd_lssT _ _ _ _ _ (by omega) | exact rd_lssF _ _ _ _ _ (by omega) | exact rb_lss _ _ _ _ _ _ _)) ?_
    refine SmG.nil ?_
    refine nextS_normal ?_
    refine Sm.seq ?_
    refine Sm.condF hF rfl ?_
    refine Sm.freeze (l := 0) _ rfl ?_
    simp only [Pk.v, frzE, frzV, dropH,  reduceIte, Nat.reduceAdd, Nat.zero_add, List.length_map, List.length_append, Nat.le_refl, true_and, and_self, if_true, Nat.reduceEqDiff, true_and]
    refine Sm.exit ?_
    simp only [nextS, blockS, reduceIte, reduceCtorEq]
    refine Sm.seq ?_
    refine Sm.regionG hF rfl ?_
    refine SmG.v hF rfl rfl rfl (opV_move rfl rfl) ?_
    refine SmG.v hF rfl rfl rfl (opV_assign rfl rfl) ?_
    refine SmG.nil ?_
    refine nextS_normal ?_
    refine Sm.ret ?_
    refine ⟨_, rfl, ?_⟩; dsimp only
    exact D.le.refl _
theorem cut17_D (n k : Int) (G : Nat → Option D) : CallsD Tryd.prog G 20 [.v (.int .i64 n), .v (.int .i64 k)] (partsD (cutL n k)) := by
  unfold cutL
  by_cases h : k < 1 ∨ n < 1 ∨ 4000 < n
  · rw [if_pos h]; exact cut_no n k (by omega) G
  · rw [if_neg h]
    have := cut_yes n.toNat (min n k).toNat k (by omega) (by omega) (by omega) (by omega) G
    rwa [Int.toNat_of_nonneg (by omega)] at this
end Go.Proofs.YtagfaaijgfigkaaDoor
namespace Go.Proofs.YtagfaaijgfigkaaDoor
open Go.RowKit
set_option maxRecDepth 100000
def soundC (c : Clm) : Bool := decide (0 ≤ c.lo ∧ c.lo ≤ c.hi ∧ (c.l.length : Int) = c.hi - c.lo ∧ c.root = Sha.root (c.l.map resBytes))
theorem eq_sum' {s t : List UInt8} {c : Bool} (h1 : s.length = 32) (h2 : t.length = 32) (hc : c = decide (s = t)) : eqAgg Tryd.prog 39 (.d (.agg 32 (rowS s))) (.d (.agg 32 (rowS t))) = some c := by rw [hc]; exact eq_sum h1 h2
theorem sound_D (c : Clm) (hr : c.root.length = 32) (hl : c.l.length ≤ 1000000) (hh : c.hi ≤ 9223372036854775807) : CallsD Tryd.prog HG 26 [clmD c] (.v (.bool (soundC c))) := by
  have hR := workRoot_D c.l hl
  have hRl := Sha.root_len (c.l.map resBytes)
  have hcc : decide (c.root = Sha.root (c.l.map resBytes)) = decide (c.root = Sha.root (c.l.map resBytes)) := rfl
  have hs : soundC c = decide (0 ≤ c.lo ∧ c.lo ≤ c.hi ∧ (c.l.length : Int) = c.hi - c.lo ∧ c.root = Sha.root (c.l.map resBytes)) := rfl
  have htk : List.take 32 (List.map V.d (rowS c.root)) = List.map V.d (rowS c.root) := List.take_of_length_le (by simp [rowS, hr])
  generalize Sha.root (c.l.map resBytes) = R at hR hRl hcc hs
  by_cases h1 : 0 ≤ c.lo
  · by_cases h2 : c.lo ≤ c.hi
    · by_cases h3 : (c.l.length : Int) = c.hi - c.lo
      · rw [hs, show decide _ = decide (c.root = R) by simp [h1, h2, h3]]
        refine CallsD.of Tryd.func26 rfl Tryd.ntmps26 (by simp) ?_; intro F hF h0 hT; simp only [List.zipIdx_cons, List.zipIdx_nil, List.map_cons, List.map_nil, Nat.zero_add, Nat.reduceAdd]
        refine Sm.seq ?_
        refine Sm.regionG hF rfl ?_
        refine SmG.new hF rfl rfl rfl (opS_box rfl rfl (by simp (disch := omega) only [go_sem, Nat.reduceEqDiff, iteP, clmD, Clm.row, ressL, sumD, htk, pureRow_map] <;> rfl)) ?_
        refine SmG.v hF rfl rfl rfl (opV_assign rfl rfl) ?_
        refine SmG.nil ?_
        refine nextS_normal ?_
        refine Sm.seq ?_
        refine Sm.drawG hF (by kernel_rfl) rfl 30 (by kernel_rfl) (by kernel_rfl) ?_
        simp only [List.take_succ_cons, List.take_zero, List.take_nil]
        refine Head.v hF rfl rfl rfl (opV_fieldAddr rfl rfl (by simp (disch := omega) only [go_sem, Nat.reduceEqDiff, iteP, clmD, Clm.row, ressL, sumD, htk, pureRow_map] <;> rfl)) ?_
        refine Head.v hF rfl rfl rfl (opV_load rfl rfl (by simp (disch := omega) only [go_sem, Nat.reduceEqDiff, iteP, clmD, Clm.row, ressL, sumD, htk, pureRow_map] <;> rfl)) ?_
        refine Head.v hF rfl rfl rfl (opV_bin rfl rfl rfl (by first | exact rd_geqT _ _ _ _ _ (by omega) | exact rd_geqF _ _ _ _ _ (by omega) | exact rb_geq _ _ _ _ _ _ _)) ?_
        refine Head.v hF rfl rfl rfl (opV_move rfl rfl) ?_
        first | refine Head.v hF rfl rfl rfl (opV_fieldAddr rfl rfl (by simp (disch := omega) only [go_sem, Nat.reduceEqDiff, iteP, clmD, Clm.row, ressL, sumD, htk, pureRow_map] <;> rfl)) ?_ | refine Head.p hF rfl rfl rfl ?_
        first | refine Head.v hF rfl rfl rfl (opV_load rfl rfl (by simp (disch := omega) only [go_sem, Nat.reduceEqDiff, iteP, clmD, Clm.row, ressL, sumD, htk, pureRow_map] <;> rfl)) ?_ | refine Head.p hF rfl rfl rfl ?_
        first | refine Head.v hF rfl rfl rfl (opV_fieldAddr rfl rfl (by simp (disch := omega) only [go_sem, Nat.reduceEqDiff, iteP, clmD, Clm.row, ressL, sumD, htk, pureRow_map] <;> rfl)) ?_ | refine Head.p hF rfl rfl rfl ?_
        first | refine Head.v hF rfl rfl rfl (opV_load rfl rfl (by simp (disch := omega) only [go_sem, Nat.reduceEqDiff, iteP, clmD, Clm.row, ressL, sumD, htk, pureRow_map] <;> rfl)) ?_ | refine Head.p hF rfl rfl rfl ?_
        first | refine Head.v hF rfl rfl rfl (opV_bin rfl rfl rfl (by first | exact rd_geqT _ _ _ _ _ (by omega) | exact rd_geqF _ _ _ _ _ (by omega) | exact rb_geq _ _ _ _ _ _ _)) ?_ | refine Head.p hF rfl rfl rfl ?_
        first | refine Head.v hF rfl rfl rfl (opV_pickT rfl rfl rfl) ?_ | refine Head.v hF rfl rfl rfl (opV_pickF rfl rfl rfl) ?_
        refine Head.v hF rfl rfl rfl (opV_move rfl rfl) ?_
        first | refine Head.v hF rfl rfl rfl (opV_fieldAddr rfl rfl (by simp (disch := omega) only [go_sem, Nat.reduceEqDiff, iteP, clmD, Clm.row, ressL, sumD, htk, pureRow_map] <;> rfl)) ?_ | refine Head.p hF rfl rfl rfl ?_
        first | refine Head.v hF rfl rfl rfl (opV_load rfl rfl (by simp (disch := omega) only [go_sem, Nat.reduceEqDiff, iteP, clmD, Clm.row, ressL, sumD, htk, pureRow_map] <;> rfl)) ?_ | refine Head.p hF rfl rfl rfl ?_
        first | refine Head.v hF rfl rfl rfl (opV_len rfl rfl (by simp (disch := omega) only [go_sem, Nat.reduceEqDiff, iteP, clmD, Clm.row, ressL, sumD, htk, pureRow_map] <;> rfl)) ?_ | refine Head.p hF rfl rfl rfl ?_
        first | refine Head.v hF rfl rfl rfl (opV_fieldAddr rfl rfl (by simp (disch := omega) only [go_sem, Nat.reduceEqDiff, iteP, clmD, Clm.row, ressL, sumD, htk, pureRow_map] <;> rfl)) ?_ | refine Head.p hF rfl rfl rfl ?_
        first | refine Head.v hF rfl rfl rfl (opV_load rfl rfl (by simp (disch := omega) only [go_sem, Nat.reduceEqDiff, iteP, clmD, Clm.row, ressL, sumD, htk, pureRow_map] <;> rfl)) ?_ | refine Head.p hF rfl rfl rfl ?_
        first | refine Head.v hF rfl rfl rfl (opV_fieldAddr rfl rfl (by simp (disch := omega) only [go_sem, Nat.reduceEqDiff, iteP, clmD, Clm.row, ressL, sumD, htk, pureRow_map] <;> rfl)) ?_ | refine Head.p hF rfl rfl rfl ?_
        first | refine Head.v hF rfl rfl rfl (opV_load rfl rfl (by simp (disch := omega) only [go_sem, Nat.reduceEqDiff, iteP, clmD, Clm.row, ressL, sumD, htk, pureRow_map] <;> rfl)) ?_ | refine Head.p hF rfl rfl rfl ?_
        first | refine Head.v hF rfl rfl rfl (opV_bin rfl rfl rfl (by first | exact rd_sub _ _ _ _ _ (wrapI64 _ (by omega)) | exact rb_sub _ _ _ _ _ _ _)) ?_ | refine Head.p hF rfl rfl rfl ?_
        first | refine Head.v hF rfl rfl rfl (opV_bin rfl rfl rfl (by first | exact rd_eqlT _ _ _ _ _ (by omega) | exact rd_eqlF _ _ _ _ _ (by omega) | exact rb_eql _ _ _ _ _ _ _)) ?_ | refine Head.p hF rfl rfl rfl ?_
        first | refine Head.v hF rfl rfl rfl (opV_pickT rfl rfl rfl) ?_ | refine Head.v hF rfl rfl rfl (opV_pickF rfl rfl rfl) ?_
        refine Head.v hF rfl rfl rfl (opV_move rfl rfl) ?_
        first | refine Head.v hF rfl rfl rfl (opV_fieldAddr rfl rfl (by simp (disch := omega) only [go_sem, Nat.reduceEqDiff, iteP, clmD, Clm.row, ressL, sumD, htk, pureRow_map] <;> rfl)) ?_ | refine Head.p hF rfl rfl rfl ?_
        first | refine Head.v hF rfl rfl rfl (opV_load rfl rfl (by simp (disch := omega) only [go_sem, Nat.reduceEqDiff, iteP, clmD, Clm.row, ressL, sumD, htk, pureRow_map] <;> rfl)) ?_ | refine Head.p hF rfl rfl rfl ?_
        first | refine Head.v hF rfl rfl rfl (opV_fieldAddr rfl rfl (by simp (disch := omega) only [go_sem, Nat.reduceEqDiff, iteP, clmD, Clm.row, ressL, sumD, htk, pureRow_map] <;> rfl)) ?_ | refine Head.p hF rfl rfl rfl ?_
        first | refine Head.v hF rfl rfl rfl (opV_load rfl rfl (by simp (disch := omega) only [go_sem, Nat.reduceEqDiff, iteP, clmD, Clm.row, ressL, sumD, htk, pureRow_map] <;> rfl)) ?_ | refine Head.p hF rfl rfl rfl ?_
        first | refine Head.c hF rfl rfl (by kernel_rfl) rfl rfl rfl (hR) ?_ | refine Head.p hF rfl rfl rfl ?_
        first | refine Head.v hF rfl rfl rfl (opV_eqA rfl rfl rfl (eq_sum' hr hRl hcc)) ?_ | refine Head.p hF rfl rfl rfl ?_
        first | refine Head.v hF rfl rfl rfl (opV_pickT rfl rfl rfl) ?_ | refine Head.v hF rfl rfl rfl (opV_pickF rfl rfl rfl) ?_
        refine Head.v hF rfl rfl rfl (opV_assign rfl rfl) ?_
        refine Head.last ⟨rfl, ?_⟩
        simp only [List.drop_succ_cons, List.drop_zero, List.drop_nil, List.nil_append, List.cons_append]
        refine SmG.nil ?_
        refine nextS_normal ?_
        refine Sm.ret ?_
        refine ⟨_, rfl, ?_⟩; exact D.le.refl _
      · rw [hs, decide_eq_false (by omega)]
        refine CallsD.of Tryd.func26 rfl Tryd.ntmps26 (by simp) ?_; intro F hF h0 hT; simp only [List.zipIdx_cons, List.zipIdx_nil, List.map_cons, List.map_nil, Nat.zero_add, Nat.reduceAdd]
        refine Sm.seq ?_
        refine Sm.regionG hF rfl ?_
        refine SmG.new hF rfl rfl rfl (opS_box rfl rfl (by simp (disch := omega) only [go_sem, Nat.reduceEqDiff, iteP, clmD, Clm.row, ressL, sumD, htk, pureRow_map] <;> rfl)) ?_
        refine SmG.v hF rfl rfl rfl (opV_assign rfl rfl) ?_
        refine SmG.nil ?_
        refine nextS_normal ?_
        refine Sm.seq ?_
        refine Sm.drawG hF (by kernel_rfl) rfl 30 (by kernel_rfl) (by kernel_rfl) ?_
        simp only [List.take_succ_cons, List.take_zero, List.take_nil]
        refine Head.v hF rfl rfl rfl (opV_fieldAddr rfl rfl (by simp (disch := omega) only [go_sem, Nat.reduceEqDiff, iteP, clmD, Clm.row, ressL, sumD, htk, pureRow_map] <;> rfl)) ?_
        refine Head.v hF rfl rfl rfl (opV_load rfl rfl (by simp (disch := omega) only [go_sem, Nat.reduceEqDiff, iteP, clmD, Clm.row, ressL, sumD, htk, pureRow_map] <;> rfl)) ?_
        refine Head.v hF rfl rfl rfl (opV_bin rfl rfl rfl (by first | exact rd_geqT _ _ _ _ _ (by omega) | exact rd_geqF _ _ _ _ _ (by omega) | exact rb_geq _ _ _ _ _ _ _)) ?_
        refine Head.v hF rfl rfl rfl (opV_move rfl rfl) ?_
        first | refine Head.v hF rfl rfl rfl (opV_fieldAddr rfl rfl (by simp (disch := omega) only [go_sem, Nat.reduceEqDiff, iteP, clmD, Clm.row, ressL, sumD, htk, pureRow_map] <;> rfl)) ?_ | refine Head.p hF rfl rfl rfl ?_
        first | refine Head.v hF rfl rfl rfl (opV_load rfl rfl (by simp (disch := omega) only [go_sem, Nat.reduceEqDiff, iteP, clmD, Clm.row, ressL, sumD, htk, pureRow_map] <;> rfl)) ?_ | refine Head.p hF rfl rfl rfl ?_
        first | refine Head.v hF rfl rfl rfl (opV_fieldAddr rfl rfl (by simp (disch := omega) only [go_sem, Nat.reduceEqDiff, iteP, clmD, Clm.row, ressL, sumD, htk, pureRow_map] <;> rfl)) ?_ | refine Head.p hF rfl rfl rfl ?_
        first | refine Head.v hF rfl rfl rfl (opV_load rfl rfl (by simp (disch := omega) only [go_sem, Nat.reduceEqDiff, iteP, clmD, Clm.row, ressL, sumD, htk, pureRow_map] <;> rfl)) ?_ | refine Head.p hF rfl rfl rfl ?_
        first | refine Head.v hF rfl rfl rfl (opV_bin rfl rfl rfl (by first | exact rd_geqT _ _ _ _ _ (by omega) | exact rd_geqF _ _ _ _ _ (by omega) | exact rb_geq _ _ _ _ _ _ _)) ?_ | refine Head.p hF rfl rfl rfl ?_
        first | refine Head.v hF rfl rfl rfl (opV_pickT rfl rfl rfl) ?_ | refine Head.v hF rfl rfl rfl (opV_pickF rfl rfl rfl) ?_
        refine Head.v hF rfl rfl rfl (opV_move rfl rfl) ?_
        first | refine Head.v hF rfl rfl rfl (opV_fieldAddr rfl rfl (by simp (disch := omega) only [go_sem, Nat.reduceEqDiff, iteP, clmD, Clm.row, ressL, sumD, htk, pureRow_map] <;> rfl)) ?_ | refine Head.p hF rfl rfl rfl ?_
        first | refine Head.v hF rfl rfl rfl (opV_load rfl rfl (by simp (disch := omega) only [go_sem, Nat.reduceEqDiff, iteP, clmD, Clm.row, ressL, sumD, htk, pureRow_map] <;> rfl)) ?_ | refine Head.p hF rfl rfl rfl ?_
        first | refine Head.v hF rfl rfl rfl (opV_len rfl rfl (by simp (disch := omega) only [go_sem, Nat.reduceEqDiff, iteP, clmD, Clm.row, ressL, sumD, htk, pureRow_map] <;> rfl)) ?_ | refine Head.p hF rfl rfl rfl ?_
        first | refine Head.v hF rfl rfl rfl (opV_fieldAddr rfl rfl (by simp (disch := omega) only [go_sem, Nat.reduceEqDiff, iteP, clmD, Clm.row, ressL, sumD, htk, pureRow_map] <;> rfl)) ?_ | refine Head.p hF rfl rfl rfl ?_
        first | refine Head.v hF rfl rfl rfl (opV_load rfl rfl (by simp (disch := omega) only [go_sem, Nat.reduceEqDiff, iteP, clmD, Clm.row, ressL, sumD, htk, pureRow_map] <;> rfl)) ?_ | refine Head.p hF rfl rfl rfl ?_
        first | refine Head.v hF rfl rfl rfl (opV_fieldAddr rfl rfl (by simp (disch := omega) only [go_sem, Nat.reduceEqDiff, iteP, clmD, Clm.row, ressL, sumD, htk, pureRow_map] <;> rfl)) ?_ | refine Head.p hF rfl rfl rfl ?_
        first | refine Head.v hF rfl rfl rfl (opV_load rfl rfl (by simp (disch := omega) only [go_sem, Nat.reduceEqDiff, iteP, clmD, Clm.row, ressL, sumD, htk, pureRow_map] <;> rfl)) ?_ | refine Head.p hF rfl rfl rfl ?_
        first | refine Head.v hF rfl rfl rfl (opV_bin rfl rfl rfl (by first | exact rd_sub _ _ _ _ _ (wrapI64 _ (by omega)) | exact rb_sub _ _ _ _ _ _ _)) ?_ | refine Head.p hF rfl rfl rfl ?_
        first | refine Head.v hF rfl rfl rfl (opV_bin rfl rfl rfl (by first | exact rd_eqlT _ _ _ _ _ (by omega) | exact rd_eqlF _ _ _ _ _ (by omega) | exact rb_eql _ _ _ _ _ _ _)) ?_ | refine Head.p hF rfl rfl rfl ?_
        first | refine Head.v hF rfl rfl rfl (opV_pickT rfl rfl rfl) ?_ | refine Head.v hF rfl rfl rfl (opV_pickF rfl rfl rfl) ?_
        refine Head.v hF rfl rfl rfl (opV_move rfl rfl) ?_
        first | refine Head.v hF rfl rfl rfl (opV_fieldAddr rfl rfl (by simp (disch := omega) only [go_sem, Nat.reduceEqDiff, iteP, clmD, Clm.row, ressL, sumD, htk, pureRow_map] <;> rfl)) ?_ | refine Head.p hF rfl rfl rfl ?_
        first | refine Head.v hF rfl rfl rfl (opV_load rfl rfl (by simp (disch := omega) only [go_sem, Nat.reduceEqDiff, iteP, clmD, Clm.row, ressL, sumD, htk, pureRow_map] <;> rfl)) ?_ | refine Head.p hF rfl rfl rfl ?_
        first | refine Head.v hF rfl rfl rfl (opV_fieldAddr rfl rfl (by simp (disch := omega) only [go_sem, Nat.reduceEqDiff, iteP, clmD, Clm.row, ressL, sumD, htk, pureRow_map] <;> rfl)) ?_ | refine Head.p hF rfl rfl rfl ?_
        first | refine Head.v hF rfl rfl rfl (opV_load rfl rfl (by simp (disch := omega) only [go_sem, Nat.reduceEqDiff, iteP, clmD, Clm.row, ressL, sumD, htk, pureRow_map] <;> rfl)) ?_ | refine Head.p hF rfl rfl rfl ?_
        first | refine Head.c hF rfl rfl (by kernel_rfl) rfl rfl rfl (hR) ?_ | refine Head.p hF rfl rfl rfl ?_
        first | refine Head.v hF rfl rfl rfl (opV_eqA rfl rfl rfl (eq_sum' hr hRl hcc)) ?_ | refine Head.p hF rfl rfl rfl ?_
        first | refine Head.v hF rfl rfl rfl (opV_pickT rfl rfl rfl) ?_ | refine Head.v hF rfl rfl rfl (opV_pickF rfl rfl rfl) ?_
        refine Head.v hF rfl rfl rfl (opV_assign rfl rfl) ?_
        refine Head.last ⟨rfl, ?_⟩
        simp only [List.drop_succ_cons, List.drop_zero, List.drop_nil, List.nil_append, List.cons_append]
        refine SmG.nil ?_
        refine nextS_normal ?_
        refine Sm.ret ?_
        refine ⟨_, rfl, ?_⟩; exact D.le.refl _
    · rw [hs, decide_eq_false (by omega)]
      refine CallsD.of Tryd.func26 rfl Tryd.ntmps26 (by simp) ?_; intro F hF h0 hT; simp only [List.zipIdx_cons, List.zipIdx_nil, List.map_cons, List.map_nil, Nat.zero_add, Nat.reduceAdd]
      refine Sm.seq ?_
      refine Sm.regionG hF rfl ?_
      refine SmG.new hF rfl rfl rfl (opS_box rfl rfl (by simp (disch := omega) only [go_sem, Nat.reduceEqDiff, iteP, clmD, Clm.row, ressL, sumD, htk, pureRow_map] <;> rfl)) ?_
      refine SmG.v hF rfl rfl rfl (opV_assign rfl rfl) ?_
      refine SmG.nil ?_
      refine nextS_normal ?_
      refine Sm.seq ?_
      refine Sm.drawG hF (by kernel_rfl) rfl 30 (by kernel_rfl) (by kernel_rfl) ?_
      simp only [List.take_succ_cons, List.take_zero, List.take_nil]
      refine Head.v hF rfl rfl rfl (opV_fieldAddr rfl rfl (by simp (disch := omega) only [go_sem, Nat.reduceEqDiff, iteP, clmD, Clm.row, ressL, sumD, htk, pureRow_map] <;> rfl)) ?_
      refine Head.v hF rfl rfl rfl (opV_load rfl rfl (by simp (disch := omega) only [go_sem, Nat.reduceEqDiff, iteP, clmD, Clm.row, ressL, sumD, htk, pureRow_map] <;> rfl)) ?_
      refine Head.v hF rfl rfl rfl (opV_bin rfl rfl rfl (by first | exact rd_geqT _ _ _ _ _ (by omega) | exact rd_geqF _ _ _ _ _ (by omega) | exact rb_geq _ _ _ _ _ _ _)) ?_
      refine Head.v hF rfl rfl rfl (opV_move rfl rfl) ?_
      first | refine Head.v hF rfl rfl rfl (opV_fieldAddr rfl rfl (by simp (disch := omega) only [go_sem, Nat.reduceEqDiff, iteP, clmD, Clm.row, ressL, sumD, htk, pureRow_map] <;> rfl)) ?_ | refine Head.p hF rfl rfl rfl ?_
      first | refine Head.v hF rfl rfl rfl (opV_load rfl rfl (by simp (disch := omega) only [go_sem, Nat.reduceEqDiff, iteP, clmD, Clm.row, ressL, sumD, htk, pureRow_map] <;> rfl)) ?_ | refine Head.p hF rfl rfl rfl ?_
      first | refine Head.v hF rfl rfl rfl (opV_fieldAddr rfl rfl (by simp (disch := omega) only [go_sem, Nat.reduceEqDiff, iteP, clmD, Clm.row, ressL, sumD, htk, pureRow_map] <;> rfl)) ?_ | refine Head.p hF rfl rfl rfl ?_
      first | refine Head.v hF rfl rfl rfl (opV_load rfl rfl (by simp (disch := omega) only [go_sem, Nat.reduceEqDiff, iteP, clmD, Clm.row, ressL, sumD, htk, pureRow_map] <;> rfl)) ?_ | refine Head.p hF rfl rfl rfl ?_
      first | refine Head.v hF rfl rfl rfl (opV_bin rfl rfl rfl (by first | exact rd_geqT _ _ _ _ _ (by omega) | exact rd_geqF _ _ _ _ _ (by omega) | exact rb_geq _ _ _ _ _ _ _)) ?_ | refine Head.p hF rfl rfl rfl ?_
      first | refine Head.v hF rfl rfl rfl (opV_pickT rfl rfl rfl) ?_ | refine Head.v hF rfl rfl rfl (opV_pickF rfl rfl rfl) ?_
      refine Head.v hF rfl rfl rfl (opV_move rfl rfl) ?_
      first | refine Head.v hF rfl rfl rfl (opV_fieldAddr rfl rfl (by simp (disch := omega) only [go_sem, Nat.reduceEqDiff, iteP, clmD, Clm.row, ressL, sumD, htk, pureRow_map] <;> rfl)) ?_ | refine Head.p hF rfl rfl rfl ?_
      first | refine Head.v hF rfl rfl rfl (opV_load rfl rfl (by simp (disch := omega) only [go_sem, Nat.reduceEqDiff, iteP, clmD, Clm.row, ressL, sumD, htk, pureRow_map] <;> rfl)) ?_ | refine Head.p hF rfl rfl rfl ?_
      first | refine Head.v hF rfl rfl rfl (opV_len rfl rfl (by simp (disch := omega) only [go_sem, Nat.reduceEqDiff, iteP, clmD, Clm.row, ressL, sumD, htk, pureRow_map] <;> rfl)) ?_ | refine Head.p hF rfl rfl rfl ?_
      first | refine Head.v hF rfl rfl rfl (opV_fieldAddr rfl rfl (by simp (disch := omega) only [go_sem, Nat.reduceEqDiff, iteP, clmD, Clm.row, ressL, sumD, htk, pureRow_map] <;> rfl)) ?_ | refine Head.p hF rfl rfl rfl ?_
      first | refine Head.v hF rfl rfl rfl (opV_load rfl rfl (by simp (disch := omega) only [go_sem, Nat.reduceEqDiff, iteP, clmD, Clm.row, ressL, sumD, htk, pureRow_map] <;> rfl)) ?_ | refine Head.p hF rfl rfl rfl ?_
      first | refine Head.v hF rfl rfl rfl (opV_fieldAddr rfl rfl (by simp (disch := omega) only [go_sem, Nat.reduceEqDiff, iteP, clmD, Clm.row, ressL, sumD, htk, pureRow_map] <;> rfl)) ?_ | refine Head.p hF rfl rfl rfl ?_
      first | refine Head.v hF rfl rfl rfl (opV_load rfl rfl (by simp (disch := omega) only [go_sem, Nat.reduceEqDiff, iteP, clmD, Clm.row, ressL, sumD, htk, pureRow_map] <;> rfl)) ?_ | refine Head.p hF rfl rfl rfl ?_
      first | refine Head.v hF rfl rfl rfl (opV_bin rfl rfl rfl (by first | exact rd_sub _ _ _ _ _ (wrapI64 _ (by omega)) | exact rb_sub _ _ _ _ _ _ _)) ?_ | refine Head.p hF rfl rfl rfl ?_
      first | refine Head.v hF rfl rfl rfl (opV_bin rfl rfl rfl (by first | exact rd_eqlT _ _ _ _ _ (by omega) | exact rd_eqlF _ _ _ _ _ (by omega) | exact rb_eql _ _ _ _ _ _ _)) ?_ | refine Head.p hF rfl rfl rfl ?_
      first | refine Head.v hF rfl rfl rfl (opV_pickT rfl rfl rfl) ?_ | refine Head.v hF rfl rfl rfl (opV_pickF rfl rfl rfl) ?_
      refine Head.v hF rfl rfl rfl (opV_move rfl rfl) ?_
      first | refine Head.v hF rfl rfl rfl (opV_fieldAddr rfl rfl (by simp (disch := omega) only [go_sem, Nat.reduceEqDiff, iteP, clmD, Clm.row, ressL, sumD, htk, pureRow_map] <;> rfl)) ?_ | refine Head.p hF rfl rfl rfl ?_
      first | refine Head.v hF rfl rfl rfl (opV_load rfl rfl (by simp (disch := omega) only [go_sem, Nat.reduceEqDiff, iteP, clmD, Clm.row, ressL, sumD, htk, pureRow_map] <;> rfl)) ?_ | refine Head.p hF rfl rfl rfl ?_
      first | refine Head.v hF rfl rfl rfl (opV_fieldAddr rfl rfl (by simp (disch := omega) only [go_sem, Nat.reduceEqDiff, iteP, clmD, Clm.row, ressL, sumD, htk, pureRow_map] <;> rfl)) ?_ | refine Head.p hF rfl rfl rfl ?_
      first | refine Head.v hF rfl rfl rfl (opV_load rfl rfl (by simp (disch := omega) only [go_sem, Nat.reduceEqDiff, iteP, clmD, Clm.row, ressL, sumD, htk, pureRow_map] <;> rfl)) ?_ | refine Head.p hF rfl rfl rfl ?_
      first | refine Head.c hF rfl rfl (by kernel_rfl) rfl rfl rfl (hR) ?_ | refine Head.p hF rfl rfl rfl ?_
      first | refine Head.v hF rfl rfl rfl (opV_eqA rfl rfl rfl (eq_sum' hr hRl hcc)) ?_ | refine Head.p hF rfl rfl rfl ?_
      first | refine Head.v hF rfl rfl rfl (opV_pickT rfl rfl rfl) ?_ | refine Head.v hF rfl rfl rfl (opV_pickF rfl rfl rfl) ?_
      refine Head.v hF rfl rfl rfl (opV_assign rfl rfl) ?_
      refine Head.last ⟨rfl, ?_⟩
      simp only [List.drop_succ_cons, List.drop_zero, List.drop_nil, List.nil_append, List.cons_append]
      refine SmG.nil ?_
      refine nextS_normal ?_
      refine Sm.ret ?_
      refine ⟨_, rfl, ?_⟩; exact D.le.refl _
  · rw [hs, decide_eq_false (by omega)]
    refine CallsD.of Tryd.func26 rfl Tryd.ntmps26 (by simp) ?_; intro F hF h0 hT; simp only [List.zipIdx_cons, List.zipIdx_nil, List.map_cons, List.map_nil, Nat.zero_add, Nat.reduceAdd]
    refine Sm.seq ?_
    refine Sm.regionG hF rfl ?_
    refine SmG.new hF rfl rfl rfl (opS_box rfl rfl (by simp (disch := omega) only [go_sem, Nat.reduceEqDiff, iteP, clmD, Clm.row, ressL, sumD, htk, pureRow_map] <;> rfl)) ?_
    refine SmG.v hF rfl rfl rfl (opV_assign rfl rfl) ?_
    refine SmG.nil ?_
    refine nextS_normal ?_
    refine Sm.seq ?_
    refine Sm.drawG hF (by kernel_rfl) rfl 30 (by kernel_rfl) (by kernel_rfl) ?_
    simp only [List.take_succ_cons, List.take_zero, List.take_nil]
    refine Head.v hF rfl rfl rfl (opV_fieldAddr rfl rfl (by simp (disch := omega) only [go_sem, Nat.reduceEqDiff, iteP, clmD, Clm.row, ressL, sumD, htk, pureRow_map] <;> rfl)) ?_
    refine Head.v hF rfl rfl rfl (opV_load rfl rfl (by simp (disch := omega) only [go_sem, Nat.reduceEqDiff, iteP, clmD, Clm.row, ressL, sumD, htk, pureRow_map] <;> rfl)) ?_
    refine Head.v hF rfl rfl rfl (opV_bin rfl rfl rfl (by first | exact rd_geqT _ _ _ _ _ (by omega) | exact rd_geqF _ _ _ _ _ (by omega) | exact rb_geq _ _ _ _ _ _ _)) ?_
    refine Head.v hF rfl rfl rfl (opV_move rfl rfl) ?_
    first | refine Head.v hF rfl rfl rfl (opV_fieldAddr rfl rfl (by simp (disch := omega) only [go_sem, Nat.reduceEqDiff, iteP, clmD, Clm.row, ressL, sumD, htk, pureRow_map] <;> rfl)) ?_ | refine Head.p hF rfl rfl rfl ?_
    first | refine Head.v hF rfl rfl rfl (opV_load rfl rfl (by simp (disch := omega) only [go_sem, Nat.reduceEqDiff, iteP, clmD, Clm.row, ressL, sumD, htk, pureRow_map] <;> rfl)) ?_ | refine Head.p hF rfl rfl rfl ?_
    first | refine Head.v hF rfl rfl rfl (opV_fieldAddr rfl rfl (by simp (disch := omega) only [go_sem, Nat.reduceEqDiff, iteP, clmD, Clm.row, ressL, sumD, htk, pureRow_map] <;> rfl)) ?_ | refine Head.p hF rfl rfl rfl ?_
    first | refine Head.v hF rfl rfl rfl (opV_load rfl rfl (by simp (disch := omega) only [go_sem, Nat.reduceEqDiff, iteP, clmD, Clm.row, ressL, sumD, htk, pureRow_map] <;> rfl)) ?_ | refine Head.p hF rfl rfl rfl ?_
    first | refine Head.v hF rfl rfl rfl (opV_bin rfl rfl rfl (by first | exact rd_geqT _ _ _ _ _ (by omega) | exact rd_geqF _ _ _ _ _ (by omega) | exact rb_geq _ _ _ _ _ _ _)) ?_ | refine Head.p hF rfl rfl rfl ?_
    first | refine Head.v hF rfl rfl rfl (opV_pickT rfl rfl rfl) ?_ | refine Head.v hF rfl rfl rfl (opV_pickF rfl rfl rfl) ?_
    refine Head.v hF rfl rfl rfl (opV_move rfl rfl) ?_
    first | refine Head.v hF rfl rfl rfl (opV_fieldAddr rfl rfl (by simp (disch := omega) only [go_sem, Nat.reduceEqDiff, iteP, clmD, Clm.row, ressL, sumD, htk, pureRow_map] <;> rfl)) ?_ | refine Head.p hF rfl rfl rfl ?_
    first | refine Head.v hF rfl rfl rfl (opV_load rfl rfl (by simp (disch := omega) only [go_sem, Nat.reduceEqDiff, iteP, clmD, Clm.row, ressL, sumD, htk, pureRow_map] <;> rfl)) ?_ | refine Head.p hF rfl rfl rfl ?_
    first | refine Head.v hF rfl rfl rfl (opV_len rfl rfl (by simp (disch := omega) only [go_sem, Nat.reduceEqDiff, iteP, clmD, Clm.row, ressL, sumD, htk, pureRow_map] <;> rfl)) ?_ | refine Head.p hF rfl rfl rfl ?_
    first | refine Head.v hF rfl rfl rfl (opV_fieldAddr rfl rfl (by simp (disch := omega) only [go_sem, Nat.reduceEqDiff, iteP, clmD, Clm.row, ressL, sumD, htk, pureRow_map] <;> rfl)) ?_ | refine Head.p hF rfl rfl rfl ?_
    first | refine Head.v hF rfl rfl rfl (opV_load rfl rfl (by simp (disch := omega) only [go_sem, Nat.reduceEqDiff, iteP, clmD, Clm.row, ressL, sumD, htk, pureRow_map] <;> rfl)) ?_ | refine Head.p hF rfl rfl rfl ?_
    first | refine Head.v hF rfl rfl rfl (opV_fieldAddr rfl rfl (by simp (disch := omega) only [go_sem, Nat.reduceEqDiff, iteP, clmD, Clm.row, ressL, sumD, htk, pureRow_map] <;> rfl)) ?_ | refine Head.p hF rfl rfl rfl ?_
    first | refine Head.v hF rfl rfl rfl (opV_load rfl rfl (by simp (disch := omega) only [go_sem, Nat.reduceEqDiff, iteP, clmD, Clm.row, ressL, sumD, htk, pureRow_map] <;> rfl)) ?_ | refine Head.p hF rfl rfl rfl ?_
    first | refine Head.v hF rfl rfl rfl (opV_bin rfl rfl rfl (by first | exact rd_sub _ _ _ _ _ (wrapI64 _ (by omega)) | exact rb_sub _ _ _ _ _ _ _)) ?_ | refine Head.p hF rfl rfl rfl ?_
    first | refine Head.v hF rfl rfl rfl (opV_bin rfl rfl rfl (by first | exact rd_eqlT _ _ _ _ _ (by omega) | exact rd_eqlF _ _ _ _ _ (by omega) | exact rb_eql _ _ _ _ _ _ _)) ?_ | refine Head.p hF rfl rfl rfl ?_
    first | refine Head.v hF rfl rfl rfl (opV_pickT rfl rfl rfl) ?_ | refine Head.v hF rfl rfl rfl (opV_pickF rfl rfl rfl) ?_
    refine Head.v hF rfl rfl rfl (opV_move rfl rfl) ?_
    first | refine Head.v hF rfl rfl rfl (opV_fieldAddr rfl rfl (by simp (disch := omega) only [go_sem, Nat.reduceEqDiff, iteP, clmD, Clm.row, ressL, sumD, htk, pureRow_map] <;> rfl)) ?_ | refine Head.p hF rfl rfl rfl ?_
    first | refine Head.v hF rfl rfl rfl (opV_load rfl rfl (by simp (disch := omega) only [go_sem, Nat.reduceEqDiff, iteP, clmD, Clm.row, ressL, sumD, htk, pureRow_map] <;> rfl)) ?_ | refine Head.p hF rfl rfl rfl ?_
    first | refine Head.v hF rfl rfl rfl (opV_fieldAddr rfl rfl (by simp (disch := omega) only [go_sem, Nat.reduceEqDiff, iteP, clmD, Clm.row, ressL, sumD, htk, pureRow_map] <;> rfl)) ?_ | refine Head.p hF rfl rfl rfl ?_
    first | refine Head.v hF rfl rfl rfl (opV_load rfl rfl (by simp (disch := omega) only [go_sem, Nat.reduceEqDiff, iteP, clmD, Clm.row, ressL, sumD, htk, pureRow_map] <;> rfl)) ?_ | refine Head.p hF rfl rfl rfl ?_
    first | refine Head.c hF rfl rfl (by kernel_rfl) rfl rfl rfl (hR) ?_ | refine Head.p hF rfl rfl rfl ?_
    first | refine Head.v hF rfl rfl rfl (opV_eqA rfl rfl rfl (eq_sum' hr hRl hcc)) ?_ | refine Head.p hF rfl rfl rfl ?_
    first | refine Head.v hF rfl rfl rfl (opV_pickT rfl rfl rfl) ?_ | refine Head.v hF rfl rfl rfl (opV_pickF rfl rfl rfl) ?_
    refine Head.v hF rfl rfl rfl (opV_assign rfl rfl) ?_
    refine Head.last ⟨rfl, ?_⟩
    simp only [List.drop_succ_cons, List.drop_zero, List.drop_nil, List.nil_append, List.cons_append]
    refine SmG.nil ?_
    refine nextS_normal ?_
    refine Sm.ret ?_
    refine ⟨_, rfl, ?_⟩; exact D.le.refl _
theorem refSound_D (c : Clm) (hr : c.root.length = 32) (hl : c.l.length ≤ 1000000) (hh : c.hi ≤ 9223372036854775807) : CallsD Tryd.prog HG 30 [clmD c] (.v (.bool (soundC c))) := by
  have hR := refRoot17_D c.l hl
  have hRl := Sha.root_len (c.l.map resBytes)
  have hcc : decide (c.root = Sha.root (c.l.map resBytes)) = decide (c.root = Sha.root (c.l.map resBytes)) := rfl
  have hs : soundC c = decide (0 ≤ c.lo ∧ c.lo ≤ c.hi ∧ (c.l.length : Int) = c.hi - c.lo ∧ c.root = Sha.root (c.l.map resBytes)) := rfl
  have htk : List.take 32 (List.map V.d (rowS c.root)) = List.map V.d (rowS c.root) := List.take_of_length_le (by simp [rowS, hr])
  generalize Sha.root (c.l.map resBytes) = R at hR hRl hcc hs
  by_cases h1 : 0 ≤ c.lo
  · by_cases h2 : c.lo ≤ c.hi
    · by_cases h3 : (c.l.length : Int) = c.hi - c.lo
      · rw [hs, show decide _ = decide (c.root = R) by simp [h1, h2, h3]]
        refine CallsD.of Tryd.func30 rfl Tryd.ntmps30 (by simp) ?_; intro F hF h0 hT; simp only [List.zipIdx_cons, List.zipIdx_nil, List.map_cons, List.map_nil, Nat.zero_add, Nat.reduceAdd]
        refine Sm.seq ?_
        refine Sm.regionG hF rfl ?_
        refine SmG.new hF rfl rfl rfl (opS_box rfl rfl (by simp (disch := omega) only [go_sem, Nat.reduceEqDiff, iteP, clmD, Clm.row, ressL, sumD, htk, pureRow_map] <;> rfl)) ?_
        refine SmG.v hF rfl rfl rfl (opV_assign rfl rfl) ?_
        refine SmG.nil ?_
        refine nextS_normal ?_
        refine Sm.seq ?_
        refine Sm.drawG hF (by kernel_rfl) rfl 30 (by kernel_rfl) (by kernel_rfl) ?_
        simp only [List.take_succ_cons, List.take_zero, List.take_nil]
        refine Head.v hF rfl rfl rfl (opV_fieldAddr rfl rfl (by simp (disch := omega) only [go_sem, Nat.reduceEqDiff, iteP, clmD, Clm.row, ressL, sumD, htk, pureRow_map] <;> rfl)) ?_
        refine Head.v hF rfl rfl rfl (opV_load rfl rfl (by simp (disch := omega) only [go_sem, Nat.reduceEqDiff, iteP, clmD, Clm.row, ressL, sumD, htk, pureRow_map] <;> rfl)) ?_
        refine Head.v hF rfl rfl rfl (opV_bin rfl rfl rfl (by first | exact rd_geqT _ _ _ _ _ (by omega) | exact rd_geqF _ _ _ _ _ (by omega) | exact rb_geq _ _ _ _ _ _ _)) ?_
        refine Head.v hF rfl rfl rfl (opV_move rfl rfl) ?_
        first | refine Head.v hF rfl rfl rfl (opV_fieldAddr rfl rfl (by simp (disch := omega) only [go_sem, Nat.reduceEqDiff, iteP, clmD, Clm.row, ressL, sumD, htk, pureRow_map] <;> rfl)) ?_ | refine Head.p hF rfl rfl rfl ?_
        first | refine Head.v hF rfl rfl rfl (opV_load rfl rfl (by simp (disch := omega) only [go_sem, Nat.reduceEqDiff, iteP, clmD, Clm.row, ressL, sumD, htk, pureRow_map] <;> rfl)) ?_ | refine Head.p hF rfl rfl rfl ?_
        first | refine Head.v hF rfl rfl rfl (opV_fieldAddr rfl rfl (by simp (disch := omega) only [go_sem, Nat.reduceEqDiff, iteP, clmD, Clm.row, ressL, sumD, htk, pureRow_map] <;> rfl)) ?_ | refine Head.p hF rfl rfl rfl ?_
        first | refine Head.v hF rfl rfl rfl (opV_load rfl rfl (by simp (disch := omega) only [go_sem, Nat.reduceEqDiff, iteP, clmD, Clm.row, ressL, sumD, htk, pureRow_map] <;> rfl)) ?_ | refine Head.p hF rfl rfl rfl ?_
        first | refine Head.v hF rfl rfl rfl (opV_bin rfl rfl rfl (by first | exact rd_geqT _ _ _ _ _ (by omega) | exact rd_geqF _ _ _ _ _ (by omega) | exact rb_geq _ _ _ _ _ _ _)) ?_ | refine Head.p hF rfl rfl rfl ?_
        first | refine Head.v hF rfl rfl rfl (opV_pickT rfl rfl rfl) ?_ | refine Head.v hF rfl rfl rfl (opV_pickF rfl rfl rfl) ?_
        refine Head.v hF rfl rfl rfl (opV_move rfl rfl) ?_
        first | refine Head.v hF rfl rfl rfl (opV_fieldAddr rfl rfl (by simp (disch := omega) only [go_sem, Nat.reduceEqDiff, iteP, clmD, Clm.row, ressL, sumD, htk, pureRow_map] <;> rfl)) ?_ | refine Head.p hF rfl rfl rfl ?_
        first | refine Head.v hF rfl rfl rfl (opV_load rfl rfl (by simp (disch := omega) only [go_sem, Nat.reduceEqDiff, iteP, clmD, Clm.row, ressL, sumD, htk, pureRow_map] <;> rfl)) ?_ | refine Head.p hF rfl rfl rfl ?_
        first | refine Head.v hF rfl rfl rfl (opV_len rfl rfl (by simp (disch := omega) only [go_sem, Nat.reduceEqDiff, iteP, clmD, Clm.row, ressL, sumD, htk, pureRow_map] <;> rfl)) ?_ | refine Head.p hF rfl rfl rfl ?_
        first | refine Head.v hF rfl rfl rfl (opV_fieldAddr rfl rfl (by simp (disch := omega) only [go_sem, Nat.reduceEqDiff, iteP, clmD, Clm.row, ressL, sumD, htk, pureRow_map] <;> rfl)) ?_ | refine Head.p hF rfl rfl rfl ?_
        first | refine Head.v hF rfl rfl rfl (opV_load rfl rfl (by simp (disch := omega) only [go_sem, Nat.reduceEqDiff, iteP, clmD, Clm.row, ressL, sumD, htk, pureRow_map] <;> rfl)) ?_ | refine Head.p hF rfl rfl rfl ?_
        first | refine Head.v hF rfl rfl rfl (opV_fieldAddr rfl rfl (by simp (disch := omega) only [go_sem, Nat.reduceEqDiff, iteP, clmD, Clm.row, ressL, sumD, htk, pureRow_map] <;> rfl)) ?_ | refine Head.p hF rfl rfl rfl ?_
        first | refine Head.v hF rfl rfl rfl (opV_load rfl rfl (by simp (disch := omega) only [go_sem, Nat.reduceEqDiff, iteP, clmD, Clm.row, ressL, sumD, htk, pureRow_map] <;> rfl)) ?_ | refine Head.p hF rfl rfl rfl ?_
        first | refine Head.v hF rfl rfl rfl (opV_bin rfl rfl rfl (by first | exact rd_sub _ _ _ _ _ (wrapI64 _ (by omega)) | exact rb_sub _ _ _ _ _ _ _)) ?_ | refine Head.p hF rfl rfl rfl ?_
        first | refine Head.v hF rfl rfl rfl (opV_bin rfl rfl rfl (by first | exact rd_eqlT _ _ _ _ _ (by omega) | exact rd_eqlF _ _ _ _ _ (by omega) | exact rb_eql _ _ _ _ _ _ _)) ?_ | refine Head.p hF rfl rfl rfl ?_
        first | refine Head.v hF rfl rfl rfl (opV_pickT rfl rfl rfl) ?_ | refine Head.v hF rfl rfl rfl (opV_pickF rfl rfl rfl) ?_
        refine Head.v hF rfl rfl rfl (opV_move rfl rfl) ?_
        first | refine Head.v hF rfl rfl rfl (opV_fieldAddr rfl rfl (by simp (disch := omega) only [go_sem, Nat.reduceEqDiff, iteP, clmD, Clm.row, ressL, sumD, htk, pureRow_map] <;> rfl)) ?_ | refine Head.p hF rfl rfl rfl ?_
        first | refine Head.v hF rfl rfl rfl (opV_load rfl rfl (by simp (disch := omega) only [go_sem, Nat.reduceEqDiff, iteP, clmD, Clm.row, ressL, sumD, htk, pureRow_map] <;> rfl)) ?_ | refine Head.p hF rfl rfl rfl ?_
        first | refine Head.v hF rfl rfl rfl (opV_fieldAddr rfl rfl (by simp (disch := omega) only [go_sem, Nat.reduceEqDiff, iteP, clmD, Clm.row, ressL, sumD, htk, pureRow_map] <;> rfl)) ?_ | refine Head.p hF rfl rfl rfl ?_
        first | refine Head.v hF rfl rfl rfl (opV_load rfl rfl (by simp (disch := omega) only [go_sem, Nat.reduceEqDiff, iteP, clmD, Clm.row, ressL, sumD, htk, pureRow_map] <;> rfl)) ?_ | refine Head.p hF rfl rfl rfl ?_
        first | refine Head.c hF rfl rfl (by kernel_rfl) rfl rfl rfl (hR) ?_ | refine Head.p hF rfl rfl rfl ?_
        first | refine Head.v hF rfl rfl rfl (opV_eqA rfl rfl rfl (eq_sum' hr hRl hcc)) ?_ | refine Head.p hF rfl rfl rfl ?_
        first | refine Head.v hF rfl rfl rfl (opV_pickT rfl rfl rfl) ?_ | refine Head.v hF rfl rfl rfl (opV_pickF rfl rfl rfl) ?_
        refine Head.v hF rfl rfl rfl (opV_assign rfl rfl) ?_
        refine Head.last ⟨rfl, ?_⟩
        simp only [List.drop_succ_cons, List.drop_zero, List.drop_nil, List.nil_append, List.cons_append]
        refine SmG.nil ?_
        refine nextS_normal ?_
        refine Sm.ret ?_
        refine ⟨_, rfl, ?_⟩; exact D.le.refl _
      · rw [hs, decide_eq_false (by omega)]
        refine CallsD.of Tryd.func30 rfl Tryd.ntmps30 (by simp) ?_; intro F hF h0 hT; simp only [List.zipIdx_cons, List.zipIdx_nil, List.map_cons, List.map_nil, Nat.zero_add, Nat.reduceAdd]
        refine Sm.seq ?_
        refine Sm.regionG hF rfl ?_
        refine SmG.new hF rfl rfl rfl (opS_box rfl rfl (by simp (disch := omega) only [go_sem, Nat.reduceEqDiff, iteP, clmD, Clm.row, ressL, sumD, htk, pureRow_map] <;> rfl)) ?_
        refine SmG.v hF rfl rfl rfl (opV_assign rfl rfl) ?_
        refine SmG.nil ?_
        refine nextS_normal ?_
        refine Sm.seq ?_
        refine Sm.drawG hF (by kernel_rfl) rfl 30 (by kernel_rfl) (by kernel_rfl) ?_
        simp only [List.take_succ_cons, List.take_zero, List.take_nil]
        refine Head.v hF rfl rfl rfl (opV_fieldAddr rfl rfl (by simp (disch := omega) only [go_sem, Nat.reduceEqDiff, iteP, clmD, Clm.row, ressL, sumD, htk, pureRow_map] <;> rfl)) ?_
        refine Head.v hF rfl rfl rfl (opV_load rfl rfl (by simp (disch := omega) only [go_sem, Nat.reduceEqDiff, iteP, clmD, Clm.row, ressL, sumD, htk, pureRow_map] <;> rfl)) ?_
        refine Head.v hF rfl rfl rfl (opV_bin rfl rfl rfl (by first | exact rd_geqT _ _ _ _ _ (by omega) | exact rd_geqF _ _ _ _ _ (by omega) | exact rb_geq _ _ _ _ _ _ _)) ?_
        refine Head.v hF rfl rfl rfl (opV_move rfl rfl) ?_
        first | refine Head.v hF rfl rfl rfl (opV_fieldAddr rfl rfl (by simp (disch := omega) only [go_sem, Nat.reduceEqDiff, iteP, clmD, Clm.row, ressL, sumD, htk, pureRow_map] <;> rfl)) ?_ | refine Head.p hF rfl rfl rfl ?_
        first | refine Head.v hF rfl rfl rfl (opV_load rfl rfl (by simp (disch := omega) only [go_sem, Nat.reduceEqDiff, iteP, clmD, Clm.row, ressL, sumD, htk, pureRow_map] <;> rfl)) ?_ | refine Head.p hF rfl rfl rfl ?_
        first | refine Head.v hF rfl rfl rfl (opV_fieldAddr rfl rfl (by simp (disch := omega) only [go_sem, Nat.reduceEqDiff, iteP, clmD, Clm.row, ressL, sumD, htk, pureRow_map] <;> rfl)) ?_ | refine Head.p hF rfl rfl rfl ?_
        first | refine Head.v hF rfl rfl rfl (opV_load rfl rfl (by simp (disch := omega) only [go_sem, Nat.reduceEqDiff, iteP, clmD, Clm.row, ressL, sumD, htk, pureRow_map] <;> rfl)) ?_ | refine Head.p hF rfl rfl rfl ?_
        first | refine Head.v hF rfl rfl rfl (opV_bin rfl rfl rfl (by first | exact rd_geqT _ _ _ _ _ (by omega) | exact rd_geqF _ _ _ _ _ (by omega) | exact rb_geq _ _ _ _ _ _ _)) ?_ | refine Head.p hF rfl rfl rfl ?_
        first | refine Head.v hF rfl rfl rfl (opV_pickT rfl rfl rfl) ?_ | refine Head.v hF rfl rfl rfl (opV_pickF rfl rfl rfl) ?_
        refine Head.v hF rfl rfl rfl (opV_move rfl rfl) ?_
        first | refine Head.v hF rfl rfl rfl (opV_fieldAddr rfl rfl (by simp (disch := omega) only [go_sem, Nat.reduceEqDiff, iteP, clmD, Clm.row, ressL, sumD, htk, pureRow_map] <;> rfl)) ?_ | refine Head.p hF rfl rfl rfl ?_
        first | refine Head.v hF rfl rfl rfl (opV_load rfl rfl (by simp (disch := omega) only [go_sem, Nat.reduceEqDiff, iteP, clmD, Clm.row, ressL, sumD, htk, pureRow_map] <;> rfl)) ?_ | refine Head.p hF rfl rfl rfl ?_
        first | refine Head.v hF rfl rfl rfl (opV_len rfl rfl (by simp (disch := omega) only [go_sem, Nat.reduceEqDiff, iteP, clmD, Clm.row, ressL, sumD, htk, pureRow_map] <;> rfl)) ?_ | refine Head.p hF rfl rfl rfl ?_
        first | refine Head.v hF rfl rfl rfl (opV_fieldAddr rfl rfl (by simp (disch := omega) only [go_sem, Nat.reduceEqDiff, iteP, clmD, Clm.row, ressL, sumD, htk, pureRow_map] <;> rfl)) ?_ | refine Head.p hF rfl rfl rfl ?_
        first | refine Head.v hF rfl rfl rfl (opV_load rfl rfl (by simp (disch := omega) only [go_sem, Nat.reduceEqDiff, iteP, clmD, Clm.row, ressL, sumD, htk, pureRow_map] <;> rfl)) ?_ | refine Head.p hF rfl rfl rfl ?_
        first | refine Head.v hF rfl rfl rfl (opV_fieldAddr rfl rfl (by simp (disch := omega) only [go_sem, Nat.reduceEqDiff, iteP, clmD, Clm.row, ressL, sumD, htk, pureRow_map] <;> rfl)) ?_ | refine Head.p hF rfl rfl rfl ?_
        first | refine Head.v hF rfl rfl rfl (opV_load rfl rfl (by simp (disch := omega) only [go_sem, Nat.reduceEqDiff, iteP, clmD, Clm.row, ressL, sumD, htk, pureRow_map] <;> rfl)) ?_ | refine Head.p hF rfl rfl rfl ?_
        first | refine Head.v hF rfl rfl rfl (opV_bin rfl rfl rfl (by first | exact rd_sub _ _ _ _ _ (wrapI64 _ (by omega)) | exact rb_sub _ _ _ _ _ _ _)) ?_ | refine Head.p hF rfl rfl rfl ?_
        first | refine Head.v hF rfl rfl rfl (opV_bin rfl rfl rfl (by first | exact rd_eqlT _ _ _ _ _ (by omega) | exact rd_eqlF _ _ _ _ _ (by omega) | exact rb_eql _ _ _ _ _ _ _)) ?_ | refine Head.p hF rfl rfl rfl ?_
        first | refine Head.v hF rfl rfl rfl (opV_pickT rfl rfl rfl) ?_ | refine Head.v hF rfl rfl rfl (opV_pickF rfl rfl rfl) ?_
        refine Head.v hF rfl rfl rfl (opV_move rfl rfl) ?_
        first | refine Head.v hF rfl rfl rfl (opV_fieldAddr rfl rfl (by simp (disch := omega) only [go_sem, Nat.reduceEqDiff, iteP, clmD, Clm.row, ressL, sumD, htk, pureRow_map] <;> rfl)) ?_ | refine Head.p hF rfl rfl rfl ?_
        first | refine Head.v hF rfl rfl rfl (opV_load rfl rfl (by simp (disch := omega) only [go_sem, Nat.reduceEqDiff, iteP, clmD, Clm.row, ressL, sumD, htk, pureRow_map] <;> rfl)) ?_ | refine Head.p hF rfl rfl rfl ?_
        first | refine Head.v hF rfl rfl rfl (opV_fieldAddr rfl rfl (by simp (disch := omega) only [go_sem, Nat.reduceEqDiff, iteP, clmD, Clm.row, ressL, sumD, htk, pureRow_map] <;> rfl)) ?_ | refine Head.p hF rfl rfl rfl ?_
        first | refine Head.v hF rfl rfl rfl (opV_load rfl rfl (by simp (disch := omega) only [go_sem, Nat.reduceEqDiff, iteP, clmD, Clm.row, ressL, sumD, htk, pureRow_map] <;> rfl)) ?_ | refine Head.p hF rfl rfl rfl ?_
        first | refine Head.c hF rfl rfl (by kernel_rfl) rfl rfl rfl (hR) ?_ | refine Head.p hF rfl rfl rfl ?_
        first | refine Head.v hF rfl rfl rfl (opV_eqA rfl rfl rfl (eq_sum' hr hRl hcc)) ?_ | refine Head.p hF rfl rfl rfl ?_
        first | refine Head.v hF rfl rfl rfl (opV_pickT rfl rfl rfl) ?_ | refine Head.v hF rfl rfl rfl (opV_pickF rfl rfl rfl) ?_
        refine Head.v hF rfl rfl rfl (opV_assign rfl rfl) ?_
        refine Head.last ⟨rfl, ?_⟩
        simp only [List.drop_succ_cons, List.drop_zero, List.drop_nil, List.nil_append, List.cons_append]
        refine SmG.nil ?_
        refine nextS_normal ?_
        refine Sm.ret ?_
        refine ⟨_, rfl, ?_⟩; exact D.le.refl _
    · rw [hs, decide_eq_false (by omega)]
      refine CallsD.of Tryd.func30 rfl Tryd.ntmps30 (by simp) ?_; intro F hF h0 hT; simp only [List.zipIdx_cons, List.zipIdx_nil, List.map_cons, List.map_nil, Nat.zero_add, Nat.reduceAdd]
      refine Sm.seq ?_
      refine Sm.regionG hF rfl ?_
      refine SmG.new hF rfl rfl rfl (opS_box rfl rfl (by simp (disch := omega) only [go_sem, Nat.reduceEqDiff, iteP, clmD, Clm.row, ressL, sumD, htk, pureRow_map] <;> rfl)) ?_
      refine SmG.v hF rfl rfl rfl (opV_assign rfl rfl) ?_
      refine SmG.nil ?_
      refine nextS_normal ?_
      refine Sm.seq ?_
      refine Sm.drawG hF (by kernel_rfl) rfl 30 (by kernel_rfl) (by kernel_rfl) ?_
      simp only [List.take_succ_cons, List.take_zero, List.take_nil]
      refine Head.v hF rfl rfl rfl (opV_fieldAddr rfl rfl (by simp (disch := omega) only [go_sem, Nat.reduceEqDiff, iteP, clmD, Clm.row, ressL, sumD, htk, pureRow_map] <;> rfl)) ?_
      refine Head.v hF rfl rfl rfl (opV_load rfl rfl (by simp (disch := omega) only [go_sem, Nat.reduceEqDiff, iteP, clmD, Clm.row, ressL, sumD, htk, pureRow_map] <;> rfl)) ?_
      refine Head.v hF rfl rfl rfl (opV_bin rfl rfl rfl (by first | exact rd_geqT _ _ _ _ _ (by omega) | exact rd_geqF _ _ _ _ _ (by omega) | exact rb_geq _ _ _ _ _ _ _)) ?_
      refine Head.v hF rfl rfl rfl (opV_move rfl rfl) ?_
      first | refine Head.v hF rfl rfl rfl (opV_fieldAddr rfl rfl (by simp (disch := omega) only [go_sem, Nat.reduceEqDiff, iteP, clmD, Clm.row, ressL, sumD, htk, pureRow_map] <;> rfl)) ?_ | refine Head.p hF rfl rfl rfl ?_
      first | refine Head.v hF rfl rfl rfl (opV_load rfl rfl (by simp (disch := omega) only [go_sem, Nat.reduceEqDiff, iteP, clmD, Clm.row, ressL, sumD, htk, pureRow_map] <;> rfl)) ?_ | refine Head.p hF rfl rfl rfl ?_
      first | refine Head.v hF rfl rfl rfl (opV_fieldAddr rfl rfl (by simp (disch := omega) only [go_sem, Nat.reduceEqDiff, iteP, clmD, Clm.row, ressL, sumD, htk, pureRow_map] <;> rfl)) ?_ | refine Head.p hF rfl rfl rfl ?_
      first | refine Head.v hF rfl rfl rfl (opV_load rfl rfl (by simp (disch := omega) only [go_sem, Nat.reduceEqDiff, iteP, clmD, Clm.row, ressL, sumD, htk, pureRow_map] <;> rfl)) ?_ | refine Head.p hF rfl rfl rfl ?_
      first | refine Head.v hF rfl rfl rfl (opV_bin rfl rfl rfl (by first | exact rd_geqT _ _ _ _ _ (by omega) | exact rd_geqF _ _ _ _ _ (by omega) | exact rb_geq _ _ _ _ _ _ _)) ?_ | refine Head.p hF rfl rfl rfl ?_
      first | refine Head.v hF rfl rfl rfl (opV_pickT rfl rfl rfl) ?_ | refine Head.v hF rfl rfl rfl (opV_pickF rfl rfl rfl) ?_
      refine Head.v hF rfl rfl rfl (opV_move rfl rfl) ?_
      first | refine Head.v hF rfl rfl rfl (opV_fieldAddr rfl rfl (by simp (disch := omega) only [go_sem, Nat.reduceEqDiff, iteP, clmD, Clm.row, ressL, sumD, htk, pureRow_map] <;> rfl)) ?_ | refine Head.p hF rfl rfl rfl ?_
      first | refine Head.v hF rfl rfl rfl (opV_load rfl rfl (by simp (disch := omega) only [go_sem, Nat.reduceEqDiff, iteP, clmD, Clm.row, ressL, sumD, htk, pureRow_map] <;> rfl)) ?_ | refine Head.p hF rfl rfl rfl ?_
      first | refine Head.v hF rfl rfl rfl (opV_len rfl rfl (by simp (disch := omega) only [go_sem, Nat.reduceEqDiff, iteP, clmD, Clm.row, ressL, sumD, htk, pureRow_map] <;> rfl)) ?_ | refine Head.p hF rfl rfl rfl ?_
      first | refine Head.v hF rfl rfl rfl (opV_fieldAddr rfl rfl (by simp (disch := omega) only [go_sem, Nat.reduceEqDiff, iteP, clmD, Clm.row, ressL, sumD, htk, pureRow_map] <;> rfl)) ?_ | refine Head.p hF rfl rfl rfl ?_
      first | refine Head.v hF rfl rfl rfl (opV_load rfl rfl (by simp (disch := omega) only [go_sem, Nat.reduceEqDiff, iteP, clmD, Clm.row, ressL, sumD, htk, pureRow_map] <;> rfl)) ?_ | refine Head.p hF rfl rfl rfl ?_
      first | refine Head.v hF rfl rfl rfl (opV_fieldAddr rfl rfl (by simp (disch := omega) only [go_sem, Nat.reduceEqDiff, iteP, clmD, Clm.row, ressL, sumD, htk, pureRow_map] <;> rfl)) ?_ | refine Head.p hF rfl rfl rfl ?_
      first | refine Head.v hF rfl rfl rfl (opV_load rfl rfl (by simp (disch := omega) only [go_sem, Nat.reduceEqDiff, iteP, clmD, Clm.row, ressL, sumD, htk, pureRow_map] <;> rfl)) ?_ | refine Head.p hF rfl rfl rfl ?_
      first | refine Head.v hF rfl rfl rfl (opV_bin rfl rfl rfl (by first | exact rd_sub _ _ _ _ _ (wrapI64 _ (by omega)) | exact rb_sub _ _ _ _ _ _ _)) ?_ | refine Head.p hF rfl rfl rfl ?_
      first | refine Head.v hF rfl rfl rfl (opV_bin rfl rfl rfl (by first | exact rd_eqlT _ _ _ _ _ (by omega) | exact rd_eqlF _ _ _ _ _ (by omega) | exact rb_eql _ _ _ _ _ _ _)) ?_ | refine Head.p hF rfl rfl rfl ?_
      first | refine Head.v hF rfl rfl rfl (opV_pickT rfl rfl rfl) ?_ | refine Head.v hF rfl rfl rfl (opV_pickF rfl rfl rfl) ?_
      refine Head.v hF rfl rfl rfl (opV_move rfl rfl) ?_
      first | refine Head.v hF rfl rfl rfl (opV_fieldAddr rfl rfl (by simp (disch := omega) only [go_sem, Nat.reduceEqDiff, iteP, clmD, Clm.row, ressL, sumD, htk, pureRow_map] <;> rfl)) ?_ | refine Head.p hF rfl rfl rfl ?_
      first | refine Head.v hF rfl rfl rfl (opV_load rfl rfl (by simp (disch := omega) only [go_sem, Nat.reduceEqDiff, iteP, clmD, Clm.row, ressL, sumD, htk, pureRow_map] <;> rfl)) ?_ | refine Head.p hF rfl rfl rfl ?_
      first | refine Head.v hF rfl rfl rfl (opV_fieldAddr rfl rfl (by simp (disch := omega) only [go_sem, Nat.reduceEqDiff, iteP, clmD, Clm.row, ressL, sumD, htk, pureRow_map] <;> rfl)) ?_ | refine Head.p hF rfl rfl rfl ?_
      first | refine Head.v hF rfl rfl rfl (opV_load rfl rfl (by simp (disch := omega) only [go_sem, Nat.reduceEqDiff, iteP, clmD, Clm.row, ressL, sumD, htk, pureRow_map] <;> rfl)) ?_ | refine Head.p hF rfl rfl rfl ?_
      first | refine Head.c hF rfl rfl (by kernel_rfl) rfl rfl rfl (hR) ?_ | refine Head.p hF rfl rfl rfl ?_
      first | refine Head.v hF rfl rfl rfl (opV_eqA rfl rfl rfl (eq_sum' hr hRl hcc)) ?_ | refine Head.p hF rfl rfl rfl ?_
      first | refine Head.v hF rfl rfl rfl (opV_pickT rfl rfl rfl) ?_ | refine Head.v hF rfl rfl rfl (opV_pickF rfl rfl rfl) ?_
      refine Head.v hF rfl rfl rfl (opV_assign rfl rfl) ?_
      refine Head.last ⟨rfl, ?_⟩
      simp only [List.drop_succ_cons, List.drop_zero, List.drop_nil, List.nil_append, List.cons_append]
      refine SmG.nil ?_
      refine nextS_normal ?_
      refine Sm.ret ?_
      refine ⟨_, rfl, ?_⟩; exact D.le.refl _
  · rw [hs, decide_eq_false (by omega)]
    refine CallsD.of Tryd.func30 rfl Tryd.ntmps30 (by simp) ?_; intro F hF h0 hT; simp only [List.zipIdx_cons, List.zipIdx_nil, List.map_cons, List.map_nil, Nat.zero_add, Nat.reduceAdd]
    refine Sm.seq ?_
    refine Sm.regionG hF rfl ?_
    refine SmG.new hF rfl rfl rfl (opS_box rfl rfl (by simp (disch := omega) only [go_sem, Nat.reduceEqDiff, iteP, clmD, Clm.row, ressL, sumD, htk, pureRow_map] <;> rfl)) ?_
    refine SmG.v hF rfl rfl rfl (opV_assign rfl rfl) ?_
    refine SmG.nil ?_
    refine nextS_normal ?_
    refine Sm.seq ?_
    refine Sm.drawG hF (by kernel_rfl) rfl 30 (by kernel_rfl) (by kernel_rfl) ?_
    simp only [List.take_succ_cons, List.take_zero, List.take_nil]
    refine Head.v hF rfl rfl rfl (opV_fieldAddr rfl rfl (by simp (disch := omega) only [go_sem, Nat.reduceEqDiff, iteP, clmD, Clm.row, ressL, sumD, htk, pureRow_map] <;> rfl)) ?_
    refine Head.v hF rfl rfl rfl (opV_load rfl rfl (by simp (disch := omega) only [go_sem, Nat.reduceEqDiff, iteP, clmD, Clm.row, ressL, sumD, htk, pureRow_map] <;> rfl)) ?_
    refine Head.v hF rfl rfl rfl (opV_bin rfl rfl rfl (by first | exact rd_geqT _ _ _ _ _ (by omega) | exact rd_geqF _ _ _ _ _ (by omega) | exact rb_geq _ _ _ _ _ _ _)) ?_
    refine Head.v hF rfl rfl rfl (opV_move rfl rfl) ?_
    first | refine Head.v hF rfl rfl rfl (opV_fieldAddr rfl rfl (by simp (disch := omega) only [go_sem, Nat.reduceEqDiff, iteP, clmD, Clm.row, ressL, sumD, htk, pureRow_map] <;> rfl)) ?_ | refine Head.p hF rfl rfl rfl ?_
    first | refine Head.v hF rfl rfl rfl (opV_load rfl rfl (by simp (disch := omega) only [go_sem, Nat.reduceEqDiff, iteP, clmD, Clm.row, ressL, sumD, htk, pureRow_map] <;> rfl)) ?_ | refine Head.p hF rfl rfl rfl ?_
    first | refine Head.v hF rfl rfl rfl (opV_fieldAddr rfl rfl (by simp (disch := omega) only [go_sem, Nat.reduceEqDiff, iteP, clmD, Clm.row, ressL, sumD, htk, pureRow_map] <;> rfl)) ?_ | refine Head.p hF rfl rfl rfl ?_
    first | refine Head.v hF rfl rfl rfl (opV_load rfl rfl (by simp (disch := omega) only [go_sem, Nat.reduceEqDiff, iteP, clmD, Clm.row, ressL, sumD, htk, pureRow_map] <;> rfl)) ?_ | refine Head.p hF rfl rfl rfl ?_
    first | refine Head.v hF rfl rfl rfl (opV_bin rfl rfl rfl (by first | exact rd_geqT _ _ _ _ _ (by omega) | exact rd_geqF _ _ _ _ _ (by omega) | exact rb_geq _ _ _ _ _ _ _)) ?_ | refine Head.p hF rfl rfl rfl ?_
    first | refine Head.v hF rfl rfl rfl (opV_pickT rfl rfl rfl) ?_ | refine Head.v hF rfl rfl rfl (opV_pickF rfl rfl rfl) ?_
    refine Head.v hF rfl rfl rfl (opV_move rfl rfl) ?_
    first | refine Head.v hF rfl rfl rfl (opV_fieldAddr rfl rfl (by simp (disch := omega) only [go_sem, Nat.reduceEqDiff, iteP, clmD, Clm.row, ressL, sumD, htk, pureRow_map] <;> rfl)) ?_ | refine Head.p hF rfl rfl rfl ?_
    first | refine Head.v hF rfl rfl rfl (opV_load rfl rfl (by simp (disch := omega) only [go_sem, Nat.reduceEqDiff, iteP, clmD, Clm.row, ressL, sumD, htk, pureRow_map] <;> rfl)) ?_ | refine Head.p hF rfl rfl rfl ?_
    first | refine Head.v hF rfl rfl rfl (opV_len rfl rfl (by simp (disch := omega) only [go_sem, Nat.reduceEqDiff, iteP, clmD, Clm.row, ressL, sumD, htk, pureRow_map] <;> rfl)) ?_ | refine Head.p hF rfl rfl rfl ?_
    first | refine Head.v hF rfl rfl rfl (opV_fieldAddr rfl rfl (by simp (disch := omega) only [go_sem, Nat.reduceEqDiff, iteP, clmD, Clm.row, ressL, sumD, htk, pureRow_map] <;> rfl)) ?_ | refine Head.p hF rfl rfl rfl ?_
    first | refine Head.v hF rfl rfl rfl (opV_load rfl rfl (by simp (disch := omega) only [go_sem, Nat.reduceEqDiff, iteP, clmD, Clm.row, ressL, sumD, htk, pureRow_map] <;> rfl)) ?_ | refine Head.p hF rfl rfl rfl ?_
    first | refine Head.v hF rfl rfl rfl (opV_fieldAddr rfl rfl (by simp (disch := omega) only [go_sem, Nat.reduceEqDiff, iteP, clmD, Clm.row, ressL, sumD, htk, pureRow_map] <;> rfl)) ?_ | refine Head.p hF rfl rfl rfl ?_
    first | refine Head.v hF rfl rfl rfl (opV_load rfl rfl (by simp (disch := omega) only [go_sem, Nat.reduceEqDiff, iteP, clmD, Clm.row, ressL, sumD, htk, pureRow_map] <;> rfl)) ?_ | refine Head.p hF rfl rfl rfl ?_
    first | refine Head.v hF rfl rfl rfl (opV_bin rfl rfl rfl (by first | exact rd_sub _ _ _ _ _ (wrapI64 _ (by omega)) | exact rb_sub _ _ _ _ _ _ _)) ?_ | refine Head.p hF rfl rfl rfl ?_
    first | refine Head.v hF rfl rfl rfl (opV_bin rfl rfl rfl (by first | exact rd_eqlT _ _ _ _ _ (by omega) | exact rd_eqlF _ _ _ _ _ (by omega) | exact rb_eql _ _ _ _ _ _ _)) ?_ | refine Head.p hF rfl rfl rfl ?_
    first | refine Head.v hF rfl rfl rfl (opV_pickT rfl rfl rfl) ?_ | refine Head.v hF rfl rfl rfl (opV_pickF rfl rfl rfl) ?_
    refine Head.v hF rfl rfl rfl (opV_move rfl rfl) ?_
    first | refine Head.v hF rfl rfl rfl (opV_fieldAddr rfl rfl (by simp (disch := omega) only [go_sem, Nat.reduceEqDiff, iteP, clmD, Clm.row, ressL, sumD, htk, pureRow_map] <;> rfl)) ?_ | refine Head.p hF rfl rfl rfl ?_
    first | refine Head.v hF rfl rfl rfl (opV_load rfl rfl (by simp (disch := omega) only [go_sem, Nat.reduceEqDiff, iteP, clmD, Clm.row, ressL, sumD, htk, pureRow_map] <;> rfl)) ?_ | refine Head.p hF rfl rfl rfl ?_
    first | refine Head.v hF rfl rfl rfl (opV_fieldAddr rfl rfl (by simp (disch := omega) only [go_sem, Nat.reduceEqDiff, iteP, clmD, Clm.row, ressL, sumD, htk, pureRow_map] <;> rfl)) ?_ | refine Head.p hF rfl rfl rfl ?_
    first | refine Head.v hF rfl rfl rfl (opV_load rfl rfl (by simp (disch := omega) only [go_sem, Nat.reduceEqDiff, iteP, clmD, Clm.row, ressL, sumD, htk, pureRow_map] <;> rfl)) ?_ | refine Head.p hF rfl rfl rfl ?_
    first | refine Head.c hF rfl rfl (by kernel_rfl) rfl rfl rfl (hR) ?_ | refine Head.p hF rfl rfl rfl ?_
    first | refine Head.v hF rfl rfl rfl (opV_eqA rfl rfl rfl (eq_sum' hr hRl hcc)) ?_ | refine Head.p hF rfl rfl rfl ?_
    first | refine Head.v hF rfl rfl rfl (opV_pickT rfl rfl rfl) ?_ | refine Head.v hF rfl rfl rfl (opV_pickF rfl rfl rfl) ?_
    refine Head.v hF rfl rfl rfl (opV_assign rfl rfl) ?_
    refine Head.last ⟨rfl, ?_⟩
    simp only [List.drop_succ_cons, List.drop_zero, List.drop_nil, List.nil_append, List.cons_append]
    refine SmG.nil ?_
    refine nextS_normal ?_
    refine Sm.ret ?_
    refine ⟨_, rfl, ?_⟩; exact D.le.refl _
end Go.Proofs.YtagfaaijgfigkaaDoor
namespace Go.Proofs.YtagfaaijgfigkaaDoor
open Go.RowKit
set_option maxRecDepth 100000
def partD4 (who t a b : Int) : D := .agg 4 [.v (.int .i64 who), .v (.int .i64 t), .v (.int .i64 a), .v (.int .i64 b)]
def saidD (c : Clm × Bool) : D := .agg 37 (c.1.row ++ [.v (.bool c.2)])
end Go.Proofs.YtagfaaijgfigkaaDoor
namespace Go.Proofs.YtagfaaijgfigkaaDoor
open Go.RowKit
section
variable {P : Program} {G : Nat → Option D} {N : Nat} {F : Fr} {ops rest : List Oper} {o : Oper} {Q : Exit → St → Prop} {env : List (Nat × V)} {h : List (Nat × Blk)} {nx : Nat}
theorem SmG.yield (hF : Env F P G N) {l i s : Nat} {t : Tmp} {xs : List (List D)} {O0 : Nat → Prop} {J : Jt} {x : List D} (hI : ItFr F P l xs O0 J) {y : Operand} {ys : List Operand} {ts : Array TypeId} (ho : o.op = .call ⟨.value y, ys.toArray, ts⟩) (hd : o.dst = some t) (ht : Nat.blt t N = true)
    (hg : guardB ops env o.guard = some true) (hgh : lookB env s = some (.gh (i + 1))) (hi : xs[i]? = some x) (hy : evB G env y = some (.d (.v (.func (.yield l) #[] #[])))) (hargs : evArgs (evB G env) ys = some x) (hfree : freeH 0 h)
    (k : ∀ c : Bool, SmG F N ops rest Q ⟨(t, .d (.v (.bool c))) :: (s, .gh (if c then i + 2 else 0)) :: killV 0 env, h, nx⟩) : SmG F N ops (o :: rest) Q ⟨env, h, nx⟩ := by
  have ht' : t < N := by simpa [Nat.blt_eq] using ht
  intro hsm
  rw [evB_eq] at hy
  rw [lookB_eq] at hgh
  refine SmL.yield (st := ⟨env, h, nx⟩) hF hsm hI hgh hi (guardB_ok hg) ho hd ht' hy (evArgs_B (by simpa using hargs)) (fun _ _ h => h) hfree fun c => k c ?_
  intro t' y hy
  simp only [look] at hy
  split at hy
  · rename_i e; subst e; exact ht'
  · split at hy
    · rename_i e; subst e; exact hsm s _ hgh
    · rw [look_kill] at hy
      cases hq : look env t' with
      | none => rw [hq] at hy; cases hy
      | some z => exact hsm t' z hq
end
end Go.Proofs.YtagfaaijgfigkaaDoor
namespace Go.Proofs.YtagfaaijgfigkaaDoor
open Go.RowKit
set_option maxRecDepth 100000
def wksL (l : List Wk) : D := .list 5 (l.map Wk.row) false
def clmsL (l : List Clm) : D := .list 36 (l.map Clm.row) false
def sayAt (ws : List Wk) (v : List Res) (t : Int) (ps : List (Int × Int)) (i : Nat) : Clm × Bool :=
  match ws[i]?, ps[i % ps.length]? with
  | some w, some p => claimW w i t v p.1 p.2
  | _, _ => (noClm, false)
def roundN (ws : List Wk) (v : List Res) (t : Int) (ps : List (Int × Int)) : Nat → List Clm
  | 0 => []
  | n + 1 => roundN ws v t ps n ++ if (sayAt ws v t ps n).2 then [(sayAt ws v t ps n).1] else []
def claimsF (ws : List Wk) (v : List Res) (ps : List (Int × Int)) (t : Int) : D := .fn 37 [.ptr 1 [wksL ws], .ptr 1 [partsD ps], .ptr 1 [.v (.int .i64 t)], .ptr 1 [ressL v]]
theorem claims_D (ws : List Wk) (v : List Res) (ps : List (Int × Int)) (t : Int) (G : Nat → Option D) : CallsD Tryd.prog G 32 [wksL ws, ressL v, partsD ps, .v (.int .i64 t)] (claimsF ws v ps t) := by
  refine CallsD.of Tryd.func32 rfl Tryd.ntmps32 (by simp) ?_; intro F hF h0 hT; simp only [List.zipIdx_cons, List.zipIdx_nil, List.map_cons, List.map_nil, Nat.zero_add, Nat.reduceAdd]
  refine Sm.seq ?_
  refine Sm.regionG hF rfl ?_
  refine SmG.new hF rfl rfl rfl (opS_box rfl rfl (by simp (disch := omega) only [go_sem, Nat.reduceEqDiff, iteP, wksL, partsD, ressL] <;> rfl)) ?_
  refine SmG.new hF rfl rfl rfl (opS_box rfl rfl (by simp (disch := omega) only [go_sem, Nat.reduceEqDiff, iteP, wksL, partsD, ressL] <;> rfl)) ?_
  refine SmG.new hF rfl rfl rfl (opS_box rfl rfl (by simp (disch := omega) only [go_sem, Nat.reduceEqDiff, iteP, wksL, partsD, ressL] <;> rfl)) ?_
  refine SmG.new hF rfl rfl rfl (opS_box rfl rfl (by simp (disch := omega) only [go_sem, Nat.reduceEqDiff, iteP, wksL, partsD, ressL] <;> rfl)) ?_
  refine SmG.v hF rfl rfl rfl (opV_assign rfl rfl) ?_
  refine SmG.nil ?_
  refine nextS_normal ?_
  refine Sm.seq ?_
  refine Sm.regionG hF rfl ?_
  (refine SmG.freeze (l := 0) (sz := 1) [[wksL ws]] rfl ?_; simp only [frzE, frzV, dropH, reduceIte, Nat.reduceEqDiff]; refine SmG.freeze (l := 1) (sz := 1) [[ressL v]] rfl ?_; simp only [frzE, frzV, dropH, reduceIte, Nat.reduceEqDiff]; refine SmG.freeze (l := 2) (sz := 1) [[partsD ps]] rfl ?_; simp only [frzE, frzV, dropH, reduceIte, Nat.reduceEqDiff]; refine SmG.freeze (l := 3) (sz := 1) [[.v (.int .i64 t)]] rfl ?_; simp only [frzE, frzV, dropH, reduceIte, Nat.reduceEqDiff])
  refine SmG.v hF rfl rfl rfl (opV_makeFunc rfl rfl) ?_
  refine SmG.v hF rfl rfl rfl (opV_assign rfl rfl) ?_
  refine SmG.nil ?_
  refine nextS_normal ?_
  refine Sm.ret ?_
  refine ⟨_, rfl, ?_⟩; dsimp only
  exact D.le.refl _
theorem roundN_mono (ws : List Wk) (v : List Res) (t : Int) (ps : List (Int × Int)) {i n : Nat} (h : i ≤ n) : ∃ r, roundN ws v t ps n = roundN ws v t ps i ++ r := by
  induction h with
  | refl => exact ⟨[], by simp⟩
  | step _ ih => obtain ⟨r, hr⟩ := ih; exact ⟨_, by rw [roundN, hr, List.append_assoc]⟩
def yieldD (l : Nat) : D := .v (.func (.yield l) #[] #[])
theorem claims_I (ws : List Wk) (v : List Res) (ps : List (Int × Int)) (t : Int) (hl : v.length ≤ 1000000) (hws : ws.length ≤ 1000000) (hps : 0 < ps.length) (hps2 : ps.length ≤ 1000000) : IterD Tryd.prog HG 37 [.ptr 1 [wksL ws], .ptr 1 [partsD ps], .ptr 1 [.v (.int .i64 t)], .ptr 1 [ressL v]] ((roundN ws v t ps ws.length).map fun c => [clmD c]) := by
  refine IterD.of 5 Tryd.func37 rfl Tryd.ntmps37 (by simp) rfl ?_
  intro F l O0 J hF h0 hI
  simp only [List.zipIdx_cons, List.zipIdx_nil, List.map_cons, List.map_nil, Nat.zero_add, Nat.reduceAdd, List.length_map]
  rw [show (D.v (.func (.yield l) #[] #[])) = yieldD l from rfl]
  refine Sm.seq ?_
  refine Sm.regionG hF rfl ?_
  refine SmG.v hF rfl rfl rfl (opV_load rfl rfl (by simp (disch := omega) only [go_sem, Nat.reduceEqDiff, iteP, partsD, wksL] <;> rfl)) ?_
  refine SmG.v hF rfl rfl rfl (opV_len rfl rfl (by simp (disch := omega) only [go_sem, Nat.reduceEqDiff, iteP, partsD, wksL] <;> rfl)) ?_
  refine SmG.v hF rfl rfl rfl (opV_move rfl rfl) ?_
  refine SmG.nil ?_
  refine nextS_normal ?_
  refine Sm.block ?_
  refine Sm.loop (ι := {i : Nat // i ≤ ws.length}) (fun i => ⟨[(5, .gh ((roundN ws v t ps i.1).length + 1)), (0, .d (yieldD l)), (1, .d (.ptr 1 [wksL ws])), (2, .d (.ptr 1 [partsD ps])), (3, .d (.ptr 1 [.v (.int .i64 t)])), (4, .d (.ptr 1 [ressL v])), (11, .d (wksL ws)), (12, .d (.v (.int .i64 ws.length))), (13, .d (.v (.int .i64 i.1)))], [], 1⟩) (fun i => ws.length - i.1) (⟨0, by omega⟩) ?_ ?_
  · exact St.le_of ⟨rfl, rfl, rfl, rfl, rfl, rfl, rfl, rfl, rfl, trivial⟩ trivial (Nat.le_refl _)
  rintro ⟨i, hi⟩
  simp only
  by_cases hlt : i < ws.length
  · have hwi : ws[i]? = some ws[i] := by simp
    have hpl : i % ps.length < ps.length := Nat.mod_lt _ hps
    have hpi : ps[i % ps.length]? = some ps[i % ps.length] := by simp
    have hsa : sayAt ws v t ps i = claimW ws[i] i t v ps[i % ps.length].1 ps[i % ps.length].2 := by
      simp only [sayAt, hwi, hpi]
    have hrem : ∀ t x y, reck Tryd.prog (do eqGuard .rem t x y (.int .i64 (i : Int)) (.int .i64 (ps.length : Int)); binOp .rem t (.int .i64 (i : Int)) (.int .i64 (ps.length : Int))) = some (.int .i64 ((i % ps.length : Nat) : Int)) := fun t x y => by
      rw [rd_rem _ _ _ _ _ (by omega) (by omega)]; simp
    have hW := work_D ws[i] i t v ps[i % ps.length].1 ps[i % ps.length].2 hl
    have hrs : roundN ws v t ps (i + 1) = roundN ws v t ps i ++ if (sayAt ws v t ps i).2 then [(sayAt ws v t ps i).1] else [] := rfl
    obtain ⟨rr, hrr⟩ := roundN_mono ws v t ps (show i + 1 ≤ ws.length by omega)
    rw [hrs] at hrr
    rw [← hsa] at hW
    generalize sayAt ws v t ps i = c at hW hrr hrs
    generalize ps[i % ps.length] = p at hpi hW
    generalize ws[i] = x at hwi hW
    clear hsa
    have he : (i : Int) + 1 = ((i + 1 : Nat) : Int) := by omega
    obtain ⟨c, ok⟩ := c
    simp only at hW hrr hrs
    cases ok with
    | false =>
      simp only [Bool.false_eq_true, if_false, List.append_nil] at hrs
      refine Sm.seq ?_
      refine Sm.regionG hF rfl ?_
      refine SmG.v hF rfl rfl rfl (opV_bin rfl rfl rfl (by first | exact rd_lssT _ _ _ _ _ (by omega) | exact rd_lssF _ _ _ _ _ (by omega) | exact rb_lss _ _ _ _ _ _ _)) ?_
      refine SmG.nil ?_
      refine nextS_normal ?_
      refine Sm.seq ?_
      refine Sm.condT hF rfl ?_
      refine Sm.skip ?_
      refine nextS_normal ?_
      refine Sm.seq ?_
      refine Sm.block ?_
      refine Sm.seq ?_
      refine Sm.regionG hF rfl ?_
      refine SmG.v hF rfl rfl rfl (opV_move rfl rfl) ?_
      refine SmG.v hF rfl rfl rfl (opV_indexAddr rfl rfl rfl (by simp (disch := omega) only [go_sem, Nat.reduceEqDiff, iteP, partsD, wksL, pureRow_map, hwi, hpi, rowP, clmD] <;> rfl)) ?_
      refine SmG.v hF rfl rfl rfl (opV_load rfl rfl (by simp (disch := omega) only [go_sem, Nat.reduceEqDiff, iteP, partsD, wksL, pureRow_map, hwi, hpi, rowP, clmD] <;> rfl)) ?_
      refine SmG.new hF rfl rfl rfl (opS_alloc rfl al36) ?_
      refine SmG.v hF rfl rfl rfl (opV_assign rfl rfl) ?_
      refine SmG.store hF rfl rfl rfl rfl rfl (by simp (disch := omega) only [go_sem, Nat.reduceEqDiff, iteP, partsD, wksL, pureRow_map, hwi, hpi, rowP, clmD] <;> rfl) ?_
      refine SmG.nil ?_
      refine nextS_normal ?_
      refine Sm.seq ?_
      refine Sm.drawG hF (by kernel_rfl) rfl 8 (by kernel_rfl) (by kernel_rfl) ?_
      simp only [List.take_succ_cons, List.take_zero, List.take_nil]
      refine Head.v hF rfl rfl rfl (opV_load rfl rfl (by simp (disch := omega) only [go_sem, Nat.reduceEqDiff, iteP, partsD, wksL, pureRow_map, hwi, hpi, rowP, clmD] <;> rfl)) ?_
      refine Head.v hF rfl rfl rfl (opV_move rfl rfl) ?_
      refine Head.v hF rfl rfl rfl (opV_load rfl rfl (by simp (disch := omega) only [go_sem, Nat.reduceEqDiff, iteP, partsD, wksL, pureRow_map, hwi, hpi, rowP, clmD] <;> rfl)) ?_
      refine Head.v hF rfl rfl rfl (opV_len rfl rfl (by simp (disch := omega) only [go_sem, Nat.reduceEqDiff, iteP, partsD, wksL, pureRow_map, hwi, hpi, rowP, clmD] <;> rfl)) ?_
      refine Head.v hF rfl rfl rfl (opV_bin rfl rfl rfl (hrem _ _ _)) ?_
      refine Head.v hF rfl rfl rfl (opV_indexAddr rfl rfl rfl (by simp (disch := omega) only [go_sem, Nat.reduceEqDiff, iteP, partsD, wksL, pureRow_map, hwi, hpi, rowP, clmD] <;> rfl)) ?_
      refine Head.v hF rfl rfl rfl (opV_load rfl rfl (by simp (disch := omega) only [go_sem, Nat.reduceEqDiff, iteP, partsD, wksL, pureRow_map, hwi, hpi, rowP, clmD] <;> rfl)) ?_
      refine Head.new hF rfl rfl rfl rfl al56 ?_
      refine Head.last ⟨rfl, ?_⟩
      simp only [List.drop_succ_cons, List.drop_zero, List.drop_nil, List.nil_append, List.cons_append]
      refine SmG.store hF rfl rfl rfl rfl rfl (by simp (disch := omega) only [go_sem, Nat.reduceEqDiff, iteP, partsD, wksL, pureRow_map, hwi, hpi, rowP, clmD] <;> rfl) ?_
      refine SmG.nil ?_
      refine nextS_normal ?_
      refine Sm.seq ?_
      refine Sm.regionG hF rfl ?_
      refine SmG.v hF rfl rfl rfl (opV_load rfl rfl (by simp (disch := omega) only [go_sem, Nat.reduceEqDiff, iteP, partsD, wksL, pureRow_map, hwi, hpi, rowP, clmD] <;> rfl)) ?_
      refine SmG.v hF rfl rfl rfl (opV_move rfl rfl) ?_
      refine SmG.v hF rfl rfl rfl (opV_load rfl rfl (by simp (disch := omega) only [go_sem, Nat.reduceEqDiff, iteP, partsD, wksL, pureRow_map, hwi, hpi, rowP, clmD] <;> rfl)) ?_
      refine SmG.v hF rfl rfl rfl (opV_load rfl rfl (by simp (disch := omega) only [go_sem, Nat.reduceEqDiff, iteP, partsD, wksL, pureRow_map, hwi, hpi, rowP, clmD] <;> rfl)) ?_
      refine SmG.v hF rfl rfl rfl (opV_indexAddr rfl rfl rfl (by simp (disch := omega) only [go_sem, Nat.reduceEqDiff, iteP, partsD, wksL, pureRow_map, hwi, hpi, rowP, clmD] <;> rfl)) ?_
      refine SmG.v hF rfl rfl rfl (opV_load rfl rfl (by simp (disch := omega) only [go_sem, Nat.reduceEqDiff, iteP, partsD, wksL, pureRow_map, hwi, hpi, rowP, clmD] <;> rfl)) ?_
      refine SmG.v hF rfl rfl rfl (opV_indexAddr rfl rfl rfl (by simp (disch := omega) only [go_sem, Nat.reduceEqDiff, iteP, partsD, wksL, pureRow_map, hwi, hpi, rowP, clmD] <;> rfl)) ?_
      refine SmG.v hF rfl rfl rfl (opV_load rfl rfl (by simp (disch := omega) only [go_sem, Nat.reduceEqDiff, iteP, partsD, wksL, pureRow_map, hwi, hpi, rowP, clmD] <;> rfl)) ?_
      refine SmG.call hF rfl rfl (by kernel_rfl) rfl rfl rfl (hW) ?_
      refine SmG.v hF rfl rfl rfl (opV_move rfl rfl) ?_
      refine SmG.v hF rfl rfl rfl (by first | exact opV_extract rfl rfl rfl | exact opV_extract0 rfl rfl) ?_
      refine SmG.v hF rfl rfl rfl (by first | exact opV_extract rfl rfl rfl | exact opV_extractS rfl rfl rfl) ?_
      refine SmG.new hF rfl rfl rfl (opS_alloc rfl al41) ?_
      refine SmG.store hF rfl rfl rfl rfl rfl (by simp (disch := omega) only [go_sem, Nat.reduceEqDiff, iteP, partsD, wksL, pureRow_map, hwi, hpi, rowP, clmD] <;> rfl) ?_
      refine SmG.v hF rfl rfl rfl (opV_assign rfl rfl) ?_
      refine SmG.nil ?_
      refine nextS_normal ?_
      refine Sm.seq ?_
      refine Sm.regionG hF rfl ?_
      refine SmG.v hF rfl rfl rfl (opV_move rfl rfl) ?_
      refine SmG.v hF rfl rfl rfl (opV_move rfl rfl) ?_
      first | refine SmG.v hF rfl rfl rfl (opV_move rfl rfl) ?_ | refine SmG.pass hF rfl rfl rfl ?_
      first | refine SmG.v hF rfl rfl rfl (opV_load rfl rfl (by simp (disch := omega) only [go_sem, Nat.reduceEqDiff, iteP, partsD, wksL, pureRow_map, hwi, hpi, rowP, clmD] <;> rfl)) ?_ | refine SmG.pass hF rfl rfl rfl ?_
      refine SmG.pass hF rfl rfl rfl ?_
      first | refine SmG.v hF rfl rfl rfl (opV_un rfl rfl (by first | exact rd_notT _ | exact rd_notF _ | exact rd_not _)) ?_ | refine SmG.pass hF rfl rfl rfl ?_
      first | refine SmG.v hF rfl rfl rfl (opV_pickT rfl rfl rfl) ?_ | refine SmG.v hF rfl rfl rfl (opV_pickF rfl rfl rfl) ?_
      refine SmG.nil ?_
      refine nextS_normal ?_
      refine Sm.condF hF rfl ?_
      refine Sm.skip ?_
      refine blockS_normal ?_
      refine nextS_normal ?_
      refine Sm.regionG hF rfl ?_
      refine SmG.cut 1 (by (repeat' first | exact ltH_nil _ | exact ltR_map _ _ | exact trivial | refine ltH_over ?_ (by decide) | refine ltH_cons ?_ (lt_dB _ _ _) | refine ltH_row ?_ ?_ | refine ⟨rfl, ?_⟩)) ?_; simp only [Pk.v, cutE, cutH, V.lt, Nat.reduceAdd, Nat.reduceLT, decide_true, decide_false, reduceIte, Bool.false_eq_true, Nat.lt_irrefl, Nat.not_lt_zero, Nat.zero_lt_one, Nat.zero_lt_succ, Nat.zero_lt_two, Nat.one_lt_two]
      refine SmG.v hF rfl rfl rfl (opV_bin rfl rfl rfl (by first | exact rd_add _ _ _ _ _ (wrapI64 _ (by omega)) | exact rb_add _ _ _ _ _ _ _)) ?_
      refine SmG.v hF rfl rfl rfl (opV_move rfl rfl) ?_
      refine SmG.nil ?_
      refine nextS_normal ?_
      rw [← hrs, he]
      exact ⟨⟨i + 1, by omega⟩, by show ws.length - (i + 1) < ws.length - i; omega, St.le_of ⟨rfl, rfl, rfl, rfl, rfl, rfl, rfl, rfl, rfl, trivial⟩ trivial (Nat.le_refl _)⟩
    | true =>
      simp only [if_true] at hrs hrr
      have hxi : ((roundN ws v t ps ws.length).map fun c => [clmD c])[(roundN ws v t ps i).length]? = some [clmD c] := by rw [hrr]; simp
      refine Sm.seq ?_
      refine Sm.regionG hF rfl ?_
      refine SmG.v hF rfl rfl rfl (opV_bin rfl rfl rfl (by first | exact rd_lssT _ _ _ _ _ (by omega) | exact rd_lssF _ _ _ _ _ (by omega) | exact rb_lss _ _ _ _ _ _ _)) ?_
      refine SmG.nil ?_
      refine nextS_normal ?_
      refine Sm.seq ?_
      refine Sm.condT hF rfl ?_
      refine Sm.skip ?_
      refine nextS_normal ?_
      refine Sm.seq ?_
      refine Sm.block ?_
      refine Sm.seq ?_
      refine Sm.regionG hF rfl ?_
      refine SmG.v hF rfl rfl rfl (opV_move rfl rfl) ?_
      refine SmG.v hF rfl rfl rfl (opV_indexAddr rfl rfl rfl (by simp (disch := omega) only [go_sem, Nat.reduceEqDiff, iteP, partsD, wksL, pureRow_map, hwi, hpi, rowP, clmD] <;> rfl)) ?_
      refine SmG.v hF rfl rfl rfl (opV_load rfl rfl (by simp (disch := omega) only [go_sem, Nat.reduceEqDiff, iteP, partsD, wksL, pureRow_map, hwi, hpi, rowP, clmD] <;> rfl)) ?_
      refine SmG.new hF rfl rfl rfl (opS_alloc rfl al36) ?_
      refine SmG.v hF rfl rfl rfl (opV_assign rfl rfl) ?_
      refine SmG.store hF rfl rfl rfl rfl rfl (by simp (disch := omega) only [go_sem, Nat.reduceEqDiff, iteP, partsD, wksL, pureRow_map, hwi, hpi, rowP, clmD] <;> rfl) ?_
      refine SmG.nil ?_
      refine nextS_normal ?_
      refine Sm.seq ?_
      refine Sm.drawG hF (by kernel_rfl) rfl 8 (by kernel_rfl) (by kernel_rfl) ?_
      simp only [List.take_succ_cons, List.take_zero, List.take_nil]
      refine Head.v hF rfl rfl rfl (opV_load rfl rfl (by simp (disch := omega) only [go_sem, Nat.reduceEqDiff, iteP, partsD, wksL, pureRow_map, hwi, hpi, rowP, clmD] <;> rfl)) ?_
      refine Head.v hF rfl rfl rfl (opV_move rfl rfl) ?_
      refine Head.v hF rfl rfl rfl (opV_load rfl rfl (by simp (disch := omega) only [go_sem, Nat.reduceEqDiff, iteP, partsD, wksL, pureRow_map, hwi, hpi, rowP, clmD] <;> rfl)) ?_
      refine Head.v hF rfl rfl rfl (opV_len rfl rfl (by simp (disch := omega) only [go_sem, Nat.reduceEqDiff, iteP, partsD, wksL, pureRow_map, hwi, hpi, rowP, clmD] <;> rfl)) ?_
      refine Head.v hF rfl rfl rfl (opV_bin rfl rfl rfl (hrem _ _ _)) ?_
      refine Head.v hF rfl rfl rfl (opV_indexAddr rfl rfl rfl (by simp (disch := omega) only [go_sem, Nat.reduceEqDiff, iteP, partsD, wksL, pureRow_map, hwi, hpi, rowP, clmD] <;> rfl)) ?_
      refine Head.v hF rfl rfl rfl (opV_load rfl rfl (by simp (disch := omega) only [go_sem, Nat.reduceEqDiff, iteP, partsD, wksL, pureRow_map, hwi, hpi, rowP, clmD] <;> rfl)) ?_
      refine Head.new hF rfl rfl rfl rfl al56 ?_
      refine Head.last ⟨rfl, ?_⟩
      simp only [List.drop_succ_cons, List.drop_zero, List.drop_nil, List.nil_append, List.cons_append]
      refine SmG.store hF rfl rfl rfl rfl rfl (by simp (disch := omega) only [go_sem, Nat.reduceEqDiff, iteP, partsD, wksL, pureRow_map, hwi, hpi, rowP, clmD] <;> rfl) ?_
      refine SmG.nil ?_
      refine nextS_normal ?_
      refine Sm.seq ?_
      refine Sm.regionG hF rfl ?_
      refine SmG.v hF rfl rfl rfl (opV_load rfl rfl (by simp (disch := omega) only [go_sem, Nat.reduceEqDiff, iteP, partsD, wksL, pureRow_map, hwi, hpi, rowP, clmD] <;> rfl)) ?_
      refine SmG.v hF rfl rfl rfl (opV_move rfl rfl) ?_
      refine SmG.v hF rfl rfl rfl (opV_load rfl rfl (by simp (disch := omega) only [go_sem, Nat.reduceEqDiff, iteP, partsD, wksL, pureRow_map, hwi, hpi, rowP, clmD] <;> rfl)) ?_
      refine SmG.v hF rfl rfl rfl (opV_load rfl rfl (by simp (disch := omega) only [go_sem, Nat.reduceEqDiff, iteP, partsD, wksL, pureRow_map, hwi, hpi, rowP, clmD] <;> rfl)) ?_
      refine SmG.v hF rfl rfl rfl (opV_indexAddr rfl rfl rfl (by simp (disch := omega) only [go_sem, Nat.reduceEqDiff, iteP, partsD, wksL, pureRow_map, hwi, hpi, rowP, clmD] <;> rfl)) ?_
      refine SmG.v hF rfl rfl rfl (opV_load rfl rfl (by simp (disch := omega) only [go_sem, Nat.reduceEqDiff, iteP, partsD, wksL, pureRow_map, hwi, hpi, rowP, clmD] <;> rfl)) ?_
      refine SmG.v hF rfl rfl rfl (opV_indexAddr rfl rfl rfl (by simp (disch := omega) only [go_sem, Nat.reduceEqDiff, iteP, partsD, wksL, pureRow_map, hwi, hpi, rowP, clmD] <;> rfl)) ?_
      refine SmG.v hF rfl rfl rfl (opV_load rfl rfl (by simp (disch := omega) only [go_sem, Nat.reduceEqDiff, iteP, partsD, wksL, pureRow_map, hwi, hpi, rowP, clmD] <;> rfl)) ?_
      refine SmG.call hF rfl rfl (by kernel_rfl) rfl rfl rfl (hW) ?_
      refine SmG.v hF rfl rfl rfl (opV_move rfl rfl) ?_
      refine SmG.v hF rfl rfl rfl (by first | exact opV_extract rfl rfl rfl | exact opV_extract0 rfl rfl) ?_
      refine SmG.v hF rfl rfl rfl (by first | exact opV_extract rfl rfl rfl | exact opV_extractS rfl rfl rfl) ?_
      refine SmG.new hF rfl rfl rfl (opS_alloc rfl al41) ?_
      refine SmG.store hF rfl rfl rfl rfl rfl (by simp (disch := omega) only [go_sem, Nat.reduceEqDiff, iteP, partsD, wksL, pureRow_map, hwi, hpi, rowP, clmD] <;> rfl) ?_
      refine SmG.v hF rfl rfl rfl (opV_assign rfl rfl) ?_
      refine SmG.nil ?_
      refine nextS_normal ?_
      refine Sm.seq ?_
      refine Sm.regionG hF rfl ?_
      refine SmG.v hF rfl rfl rfl (opV_move rfl rfl) ?_
      refine SmG.v hF rfl rfl rfl (opV_move rfl rfl) ?_
      first | refine SmG.v hF rfl rfl rfl (opV_move rfl rfl) ?_ | refine SmG.pass hF rfl rfl rfl ?_
      first | refine SmG.v hF rfl rfl rfl (opV_load rfl rfl (by simp (disch := omega) only [go_sem, Nat.reduceEqDiff, iteP, partsD, wksL, pureRow_map, hwi, hpi, rowP, clmD] <;> rfl)) ?_ | refine SmG.pass hF rfl rfl rfl ?_
      refine SmG.yield hF (s := 5) (i := (roundN ws v t ps i).length) hI rfl rfl rfl rfl rfl hxi rfl rfl (by (repeat' first | exact freeH_nil _ | refine freeH_same ?_ | refine freeH_cons ?_ (free_dB _ _ _) | refine freeH_cons ?_ (free_dB _ _ [_]) | refine freeH_cons ?_ (free_row (by rfl)))) (fun c2 => ?_)
      simp only [killV, V.free, Nat.reduceBNe, bne_self_eq_false, reduceIte, Bool.false_eq_true]
      cases c2 with
      | true =>
        first | refine SmG.v hF rfl rfl rfl (opV_un rfl rfl (by first | exact rd_notT _ | exact rd_notF _ | exact rd_not _)) ?_ | refine SmG.pass hF rfl rfl rfl ?_
        first | refine SmG.v hF rfl rfl rfl (opV_pickT rfl rfl rfl) ?_ | refine SmG.v hF rfl rfl rfl (opV_pickF rfl rfl rfl) ?_
        refine SmG.nil ?_
        refine nextS_normal ?_
        refine Sm.condF hF rfl ?_
        refine Sm.skip ?_
        refine blockS_normal ?_
        refine nextS_normal ?_
        refine Sm.regionG hF rfl ?_
        refine SmG.cut 1 (by (repeat' first | exact ltH_nil _ | exact ltR_map _ _ | exact trivial | refine ltH_over ?_ (by decide) | refine ltH_cons ?_ (lt_dB _ _ _) | refine ltH_row ?_ ?_ | refine ⟨rfl, ?_⟩)) ?_; simp only [Pk.v, cutE, cutH, V.lt, Nat.reduceAdd, Nat.reduceLT, decide_true, decide_false, reduceIte, Bool.false_eq_true, Nat.lt_irrefl, Nat.not_lt_zero, Nat.zero_lt_one, Nat.zero_lt_succ, Nat.zero_lt_two, Nat.one_lt_two]
        refine SmG.v hF rfl rfl rfl (opV_bin rfl rfl rfl (by first | exact rd_add _ _ _ _ _ (wrapI64 _ (by omega)) | exact rb_add _ _ _ _ _ _ _)) ?_
        refine SmG.v hF rfl rfl rfl (opV_move rfl rfl) ?_
        refine SmG.nil ?_
        refine nextS_normal ?_
        rw [he]
        exact ⟨⟨i + 1, by omega⟩, by show ws.length - (i + 1) < ws.length - i; omega, St.le_of ⟨(by rw [hrs]; simp; rfl), rfl, rfl, rfl, rfl, rfl, rfl, rfl, rfl, trivial⟩ trivial (Nat.le_refl _)⟩
      | false =>
        first | refine SmG.v hF rfl rfl rfl (opV_un rfl rfl (by first | exact rd_notT _ | exact rd_notF _ | exact rd_not _)) ?_ | refine SmG.pass hF rfl rfl rfl ?_
        first | refine SmG.v hF rfl rfl rfl (opV_pickT rfl rfl rfl) ?_ | refine SmG.v hF rfl rfl rfl (opV_pickF rfl rfl rfl) ?_
        refine SmG.nil ?_
        refine nextS_normal ?_
        refine Sm.condT hF rfl ?_
        refine Sm.ret ?_
        simp only [nextS, blockS]
        exact ⟨_, rfl, .inl rfl⟩
  · obtain rfl : i = ws.length := by omega
    refine Sm.seq ?_
    refine Sm.regionG hF rfl ?_
    refine SmG.v hF rfl rfl rfl (opV_bin rfl rfl rfl (by first | exact rd_lssT _ _ _ _ _ (by omega) | exact rd_lssF _ _ _ _ _ (by omega) | exact rb_lss _ _ _ _ _ _ _)) ?_
    refine SmG.nil ?_
    refine nextS_normal ?_
    refine Sm.seq ?_
    refine Sm.condF hF rfl ?_
    refine Sm.exit ?_
    simp only [nextS, blockS, reduceIte, reduceCtorEq]
    exact ⟨_, rfl, .inr rfl⟩
def roundW (ws : List Wk) (v : List Res) (k t : Int) : List Clm := if cutL v.length k = [] then [] else roundN ws v t (cutL v.length k) ws.length
theorem cutL_len (n k : Int) : (cutL n k).length ≤ 4000 := by
  unfold cutL
  split
  · simp
  · simp only [cutN, List.length_map, List.length_range]; omega
theorem roundN_len (ws : List Wk) (v : List Res) (t : Int) (ps : List (Int × Int)) : ∀ n, (roundN ws v t ps n).length ≤ n := by
  intro n
  induction n with
  | zero => simp [roundN]
  | succ n ih => rw [roundN, List.length_append]; split <;> simp <;> omega
theorem elClm : ElemT Tryd.prog 45 41 (.agg (#[.int .i64 0, .int .i64 0, .int .i64 0, .slice none 0 0] ++ Array.replicate 32 (.int .u8 0))) 36 80 := ⟨Tryd.underlying45, by kernel_rfl, rfl, by decide⟩
def yrow : List D → List D
  | [.agg _ r] => r
  | _ => []
theorem round_no (ws : List Wk) (v : List Res) (k t : Int) (h : cutL v.length k = []) : CallsD Tryd.prog HG 16 [wksL ws, ressL v, .v (.int .i64 k), .v (.int .i64 t)] (clmsL []) := by
  have hc := cut17_D v.length k HG
  rw [h] at hc
  refine CallsD.of Tryd.func16 rfl Tryd.ntmps16 (by simp) ?_; intro F hF h0 hT; simp only [List.zipIdx_cons, List.zipIdx_nil, List.map_cons, List.map_nil, Nat.zero_add, Nat.reduceAdd]
  refine Sm.seq ?_
  refine Sm.regionG hF rfl ?_
  refine SmG.v hF rfl rfl rfl (opV_assign rfl rfl) ?_
  refine SmG.nil ?_
  refine nextS_normal ?_
  refine Sm.seq ?_
  refine Sm.regionG hF rfl ?_
  refine SmG.v hF rfl rfl rfl (opV_move rfl rfl) ?_
  refine SmG.v hF rfl rfl rfl (opV_len rfl rfl (by simp (disch := omega) only [go_sem, Nat.reduceEqDiff, iteP, ressL, partsD, clmD, pureRow_map] <;> rfl)) ?_
  refine SmG.v hF rfl rfl rfl (opV_move rfl rfl) ?_
  refine SmG.call hF rfl rfl (by kernel_rfl) rfl rfl rfl (hc) ?_
  refine SmG.v hF rfl rfl rfl (opV_assign rfl rfl) ?_
  refine SmG.nil ?_
  refine nextS_normal ?_
  refine Sm.seq ?_
  refine Sm.seq ?_
  refine Sm.regionG hF rfl ?_
  refine SmG.v hF rfl rfl rfl (opV_move rfl rfl) ?_
  refine SmG.v hF rfl rfl rfl (opV_len rfl rfl (by simp (disch := omega) only [go_sem, Nat.reduceEqDiff, iteP, ressL, partsD, clmD, pureRow_map] <;> rfl)) ?_
  refine SmG.v hF rfl rfl rfl (opV_bin rfl rfl rfl (by first | exact rd_eqlT _ _ _ _ _ (by omega) | exact rd_eqlF _ _ _ _ _ (by omega) | exact rb_eql _ _ _ _ _ _ _)) ?_
  refine SmG.nil ?_
  refine nextS_normal ?_
  refine Sm.condT hF rfl ?_
  refine Sm.seq ?_
  refine Sm.regionG hF rfl ?_
  refine SmG.v hF rfl rfl rfl (opV_assign rfl rfl) ?_
  refine SmG.nil ?_
  refine nextS_normal ?_
  refine Sm.ret ?_
  simp only [nextS, blockS]
  refine ⟨_, rfl, ?_⟩; dsimp only
  exact D.le_nil' _ _ _
theorem round_yes (ws : List Wk) (v : List Res) (k t : Int) (hl : v.length ≤ 1000000) (hws : ws.length ≤ 1000000) (h : cutL v.length k ≠ []) : CallsD Tryd.prog HG 16 [wksL ws, ressL v, .v (.int .i64 k), .v (.int .i64 t)] (clmsL (roundN ws v t (cutL v.length k) ws.length)) := by
  have hc := cut17_D v.length k HG
  have hcl2 := cutL_len v.length k
  generalize cutL v.length k = ps at h hc hcl2 ⊢
  have hps : 0 < ps.length := List.length_pos_iff.2 h
  have hcl := claims_D ws v ps t HG
  have hit := claims_I ws v ps t hl hws hps (by omega)
  have hrl := roundN_len ws v t ps ws.length
  generalize roundN ws v t ps ws.length = cs at hit hrl ⊢
  refine CallsD.of Tryd.func16 rfl Tryd.ntmps16 (by simp) ?_; intro F hF h0 hT; simp only [List.zipIdx_cons, List.zipIdx_nil, List.map_cons, List.map_nil, Nat.zero_add, Nat.reduceAdd]
  refine Sm.seq ?_
  refine Sm.regionG hF rfl ?_
  refine SmG.v hF rfl rfl rfl (opV_assign rfl rfl) ?_
  refine SmG.nil ?_
  refine nextS_normal ?_
  refine Sm.seq ?_
  refine Sm.regionG hF rfl ?_
  refine SmG.v hF rfl rfl rfl (opV_move rfl rfl) ?_
  refine SmG.v hF rfl rfl rfl (opV_len rfl rfl (by simp (disch := omega) only [go_sem, Nat.reduceEqDiff, iteP, ressL, partsD, clmD, pureRow_map] <;> rfl)) ?_
  refine SmG.v hF rfl rfl rfl (opV_move rfl rfl) ?_
  refine SmG.call hF rfl rfl (by kernel_rfl) rfl rfl rfl (hc) ?_
  refine SmG.v hF rfl rfl rfl (opV_assign rfl rfl) ?_
  refine SmG.nil ?_
  refine nextS_normal ?_
  refine Sm.seq ?_
  refine Sm.seq ?_
  refine Sm.regionG hF rfl ?_
  refine SmG.v hF rfl rfl rfl (opV_move rfl rfl) ?_
  refine SmG.v hF rfl rfl rfl (opV_len rfl rfl (by simp (disch := omega) only [go_sem, Nat.reduceEqDiff, iteP, ressL, partsD, clmD, pureRow_map] <;> rfl)) ?_
  refine SmG.v hF rfl rfl rfl (opV_bin rfl rfl rfl (by first | exact rd_eqlT _ _ _ _ _ (by omega) | exact rd_eqlF _ _ _ _ _ (by omega) | exact rb_eql _ _ _ _ _ _ _)) ?_
  refine SmG.nil ?_
  refine nextS_normal ?_
  refine Sm.condF hF rfl ?_
  refine Sm.skip ?_
  refine nextS_normal ?_
  refine Sm.seq ?_
  refine Sm.regionG hF rfl ?_
  refine SmG.new hF rfl rfl rfl (opS_alloc rfl al45) ?_
  refine SmG.nil ?_
  refine nextS_normal ?_
  refine Sm.seq ?_
  refine Sm.seq ?_
  refine Sm.regionG hF rfl ?_
  refine SmG.ownCell 0 0 0 36 rfl rfl rfl ?_
  refine SmG.v hF rfl rfl rfl (opV_move rfl rfl) ?_
  refine SmG.v hF rfl rfl rfl (opV_move rfl rfl) ?_
  refine SmG.v hF rfl rfl rfl (opV_move rfl rfl) ?_
  refine SmG.v hF rfl rfl rfl (opV_move rfl rfl) ?_
  refine SmG.call hF rfl rfl (by kernel_rfl) rfl rfl rfl (hcl) ?_
  refine SmG.nil ?_
  refine nextS_normal ?_
  refine Sm.block ?_
  refine Sm.rangeFunc hF hT (xs := cs.map fun c => [clmD c]) 1 (by omega) rfl (by kernel_rfl) hit (by simp) (by simp) (fun i => [(1, dB 36 ((cs.take i).map Clm.row)), (0, ⟨1, [[.sref 1 0 (cs.take i).length]]⟩)]) (fun _ => 2)
    (fun i x => ⟨[(10, .ref 0 0 0), (11, .ref 2 0 0)], [(2, dB 36 [yrow x]), (1, dB 36 ((cs.take i).map Clm.row)), (0, ⟨1, [[.sref 1 0 (cs.take i).length]]⟩)], 3⟩) (leH_look ⟨rfl, rfl, trivial⟩) (Nat.le_refl 2) ?_ ?_ ?_
  · intro i x hx F' hF h0
    have hx' := hx
    simp only [List.getElem?_map, Option.map_eq_some_iff] at hx'
    obtain ⟨c, hc, rfl⟩ := hx'
    simp only [cutE, V.lt, roundE, List.zip_cons_cons, List.zip_nil_left, List.zip_nil_right, List.map_cons, List.map_nil, List.reverse_cons, List.reverse_nil, List.nil_append, List.cons_append, Nat.reduceLT, Nat.zero_lt_one, Nat.reduceAdd, Nat.lt_irrefl, decide_true, decide_false, reduceIte, Bool.false_eq_true, claimsF]
    refine Sm.regionG hF rfl ?_
    refine SmG.new hF rfl rfl rfl (opS_alloc rfl al41) ?_
    refine SmG.store hF rfl rfl rfl rfl rfl (by simp (disch := omega) only [go_sem, Nat.reduceEqDiff, iteP, ressL, partsD, clmD, pureRow_map] <;> rfl) ?_
    refine SmG.nil ?_
    exact St.le_of ⟨rfl, rfl, trivial⟩ ⟨rfl, rfl, rfl, trivial⟩ (Nat.le_refl _)
  · intro i x hx F' hF h0
    have hx' := hx
    simp only [List.getElem?_map, Option.map_eq_some_iff] at hx'
    obtain ⟨c, hc, rfl⟩ := hx'
    have hil : i < cs.length := (List.getElem?_eq_some_iff.1 hc).1
    have htk : (cs.take i).map Clm.row ++ [c.row] = (cs.take (i + 1)).map Clm.row := by rw [List.take_add_one, hc]; simp
    have hlen : (cs.take i).length = i := by rw [List.length_take]; omega
    simp only [yrow, clmD]
    refine Sm.block ?_
    refine Sm.regionG hF rfl ?_
    refine SmG.v hF rfl rfl rfl (opV_load rfl rfl (by simp (disch := omega) only [go_sem, Nat.reduceEqDiff, iteP, pureRow_map] <;> rfl)) ?_
    refine SmG.v hF rfl rfl rfl (opV_load rfl rfl (by simp (disch := omega) only [go_sem, Nat.reduceEqDiff, iteP, pureRow_map] <;> rfl)) ?_
    refine SmG.v hF rfl rfl rfl (opV_buildSlice rfl rfl (by simp (disch := omega) only [go_sem, Nat.reduceEqDiff, iteP, pureRow_map] <;> rfl)) ?_
    refine SmG.appendCell hF elClm rfl rfl rfl rfl rfl rfl rfl (by first | rfl | (simp; done) | (simp; omega)) (Or.inl rfl) ?_ ?_ ?_; rotate_left; rotate_left; simp only [killV, Pk.v, V.free, rep, mapH, mapB, killB_dB, kill_map_d, kill_rows, killX, List.map_cons, List.map_nil, bne_self_eq_false, Nat.reduceAdd, Nat.reduceBNe, Nat.reduceBEq, Nat.reduceEqDiff, reduceIte, Bool.false_eq_true]
    rotate_left
    · simp only [List.length_map, List.length_cons, List.length_nil]; omega
    · simp only [List.length_map, List.length_cons, List.length_nil]; omega
    rw [htk]
    refine SmG.cut 2 (by (repeat' first | exact ltH_nil _ | exact ltR_map _ _ | exact trivial | refine ltH_over ?_ (by decide) | refine ltH_cons ?_ (lt_dB _ _ _) | refine ltH_row ?_ ?_ | refine ⟨rfl, ?_⟩)) ?_; simp only [Pk.v, cutE, cutH, V.lt, Nat.reduceAdd, Nat.reduceLT, decide_true, decide_false, reduceIte, Bool.false_eq_true, Nat.lt_irrefl, Nat.not_lt_zero, Nat.zero_lt_one, Nat.zero_lt_succ, Nat.zero_lt_two, Nat.one_lt_two]
    refine SmG.store hF rfl rfl rfl rfl rfl (by simp (disch := omega) only [go_sem, Nat.reduceEqDiff, iteP, pureRow_map] <;> rfl) ?_
    refine SmG.nil ?_
    refine blockS_normal ?_
    exact ⟨leH_look ⟨rfl, rfl, trivial⟩, Nat.le_refl _⟩
  · rw [List.length_map, List.take_of_length_le (Nat.le_refl _)]
    simp only [cutE, V.lt, roundE, List.zip_cons_cons, List.zip_nil_left, List.zip_nil_right, List.map_cons, List.map_nil, List.reverse_cons, List.reverse_nil, List.nil_append, List.cons_append, Nat.reduceLT, Nat.zero_lt_one, Nat.reduceAdd, Nat.lt_irrefl, decide_true, decide_false, reduceIte, Bool.false_eq_true, claimsF]
    refine blockS_normal ?_
    refine nextS_normal ?_
    refine Sm.freezeH (l := 1) _ rfl ?_
    simp only [Pk.v, frzE, frzV, dropH, mapH, frzB_dB, frz_map_d, frz_rows, mapB, List.map_cons, List.map_nil, reduceIte, Nat.reduceAdd, Nat.zero_add, List.length_map, List.length_append, Nat.le_refl, true_and, and_self, if_true, Nat.reduceEqDiff, true_and]
    refine Sm.seq ?_
    refine Sm.regionG hF rfl ?_
    refine SmG.v hF rfl rfl rfl (opV_load rfl rfl (by simp (disch := omega) only [go_sem, Nat.reduceEqDiff, iteP, ressL, partsD, clmD, pureRow_map] <;> rfl)) ?_
    refine SmG.v hF rfl rfl rfl (opV_assign rfl rfl) ?_
    refine SmG.nil ?_
    refine nextS_normal ?_
    refine Sm.ret ?_
    refine ⟨_, rfl, ?_⟩; dsimp only
    exact D.le.refl _
theorem round_D (ws : List Wk) (v : List Res) (k t : Int) (hl : v.length ≤ 1000000) (hws : ws.length ≤ 1000000) : CallsD Tryd.prog HG 16 [wksL ws, ressL v, .v (.int .i64 k), .v (.int .i64 t)] (clmsL (roundW ws v k t)) := by
  unfold roundW
  split
  · rename_i h; exact round_no ws v k t h
  · rename_i h; exact round_yes ws v k t hl hws h
theorem claimW_root (x : Wk) (who t : Int) (v : List Res) (a b : Int) : (claimW x who t v a b).1.root.length = 32 := by
  unfold claimW
  split
  · exact Sha.root_len _
  · rfl
theorem clm_row_len {c : Clm} (h : c.root.length = 32) : c.row.length = 36 := by simp [Clm.row, rowS, h]
end Go.Proofs.YtagfaaijgfigkaaDoor
namespace Go.Proofs.YtagfaaijgfigkaaDoor
open Go.RowKit
section
variable {P : Program} {G : Nat → Option D} {N : Nat} {F : Fr} {ops : Array Oper} {rest : List Oper} {o : Oper} {Q : Exit → St → Prop} {st : St} {t e : TypeId} {z : Value} {size bytes : Nat}
theorem run_make (hE : ElemT P t e z size bytes) {k1 k2 : IntKind} {n : Nat} (hn : n ≤ 281474976710656) (hb : n * bytes ≤ 140737488355328) (w : World) :
    (Instr.makeSlice t (.int k1 n) (.int k2 n)).run P w = .ok (.slice (some ⟨w.heap.size, 0, none⟩) n n) (w.alloc (.cells ((Array.range (n * size)).map (fun i => (if n * size = 0 then #[] else z.cells)[i % (if n * size = 0 then #[] else z.cells).size]!)) e)) := by
  obtain ⟨i0, hi, hz0, hz1, hz2⟩ := info_parts hE.info
  have hw : IntKind.i64.wrap (n : Int) = n := wrapI64 _ (by omega)
  have hrb : roomBytes = 140737488355328 := rfl
  have hask : (askRoom (n * bytes)).run P w = .ok () w := by
    unfold askRoom
    rw [if_neg (by omega)]; rfl
  have hbz : decide ((bytes : Int) * (n : Int) > 2 ^ 48) = false := by
    have h1 : (bytes : Int) * (n : Int) = ((n * bytes : Nat) : Int) := by rw [Nat.mul_comm]; simp
    rw [h1]
    apply decide_eq_false
    have : ((2 : Int) ^ 48) = 281474976710656 := rfl
    omega
  have hti : (typeInfo e).run P w = .ok i0 w := by simp [typeInfo, hi]
  have hsz : (sizeOf e).run P w = .ok size w := by simp [sizeOf, typeInfo, hi, hz1]
  have hzv : (zeroValue e).run P w = .ok z w := by simp [zeroValue, typeInfo, hi, hz0]
  have hneg : decide ((n : Int) < 0) = false := decide_eq_false (by omega)
  have hgt : decide ((n : Int) > (n : Int)) = false := decide_eq_false (by omega)
  have hai : ∀ k w', (asInt (.int k (n : Int))).run P w' = .ok (n : Int) w' := fun _ _ => rfl
  unfold Instr.makeSlice
  simp only [Sem.run_bind, run_underlying hE.und, Result.andThen_ok, hai, Sem.run_pure, hti, hw, hz2, hneg, hbz, hgt, Bool.or_self, Bool.false_eq_true, if_false, Int.toNat_natCast, hask, hsz]
  by_cases h0 : n * size = 0
  · simp only [h0, if_true, Sem.run_pure, Result.andThen_ok]
    rfl
  · simp only [h0, if_false, Sem.run_bind, hzv, Sem.run_pure, Result.andThen_ok]
    rfl
theorem SmL.makeOwn (hF : Env F P G N) (hN : St.small N st) (hE : ElemT P t e z size bytes) (hz : z.cells.toList.all (·.oneCell') = true) {x y : Operand} {d : Tmp} {k1 k2 : IntKind} (n : Nat) (hg : guardS ops st.env o.guard = some true) (ho : o.op = .makeSlice t x y) (hd : o.dst = some d) (hdN : d < N)
    (hx : evD G st.env x = some (.d (.v (.int k1 n)))) (hy : evD G st.env y = some (.d (.v (.int k2 n)))) (hn : n ≤ 281474976710656) (hb : n * bytes ≤ 140737488355328)
    (k : SmL F ops rest Q ⟨(d, .sref st.nx 0 n) :: st.env, (st.nx, dB size (List.replicate n (z.cells.toList.map constD))) :: st.h, st.nx + 1⟩) : SmL F ops (o :: rest) Q st := by
  intro μ C a w hs
  obtain ⟨rfl, rfl, hG⟩ := hF
  refine wpS_step (fun _ => by rw [ho]; simp) fun K hK => ?_
  rw [guardS_ok hs hg hN, if_pos rfl]
  have hxv := Rep.v_eq (evD_ok hs hG hx)
  have hyv := Rep.v_eq (evD_ok hs hG hy)
  have hrun := run_make (P := F.P) hE (k1 := k1) (k2 := k2) hn hb w
  unfold Oper.wp
  have hex : (execOp a.eval o).run F.P w = .ok (.value (.slice (some ⟨w.heap.size, 0, none⟩) n n)) (w.alloc (.cells ((Array.range (n * size)).map (fun i => (if n * size = 0 then #[] else z.cells)[i % (if n * size = 0 then #[] else z.cells).size]!)) e)) := by
    simp only [execOp, ho, hxv, hyv]
    simp [Sem.run_bind, hrun, Result.andThen]
  rw [hex, Oper.upon_value, hd]
  refine hK _ _ ?_
  have hzl : z.cells.toList.length = size := by rw [Array.length_toList]; exact hE.zs
  have hs1 := hs.allocCap n size ((List.replicate n (z.cells.toList.map constD)).map fun r => r.map V.d) ((Array.range (n * size)).map (fun i => (if n * size = 0 then #[] else z.cells)[i % (if n * size = 0 then #[] else z.cells).size]!)) e
    (by intro r hr; obtain ⟨r', hr', rfl⟩ := List.mem_map.1 hr; rw [List.eq_of_mem_replicate hr']; simpa using hzl) (by simp) (by omega) (by simp)
    (by
      intro i r hr j v hj
      have hin : i < n := by have := (List.getElem?_eq_some_iff.1 hr).1; simpa using this
      have hr' : r = (z.cells.toList.map constD).map V.d := by
        rw [List.getElem?_map, List.getElem?_replicate, if_pos hin] at hr
        simpa using hr.symm
      subst hr'
      have hjs : j < size := by have := (List.getElem?_eq_some_iff.1 hj).1; simp only [List.length_map] at this; omega
      have hzj : z.cells.toList[j]? = some z.cells.toList[j] := List.getElem?_eq_getElem (by omega)
      rw [List.getElem?_map, List.getElem?_map, hzj] at hj
      simp only [Option.map_some, Option.some.injEq] at hj
      have hlt : i * size + j < n * size := by
        have := Nat.mul_le_mul_right size (show i + 1 ≤ n by omega)
        rw [Nat.succ_mul] at this; omega
      have hne : n * size ≠ 0 := by omega
      have hcell : (i * size + j) % z.cells.size = j := by rw [hE.zs, Nat.mul_comm, Nat.mul_add_mod, Nat.mod_eq_of_lt hjs]
      refine ⟨z.cells.toList[j], ?_, List.all_eq_true.1 hz _ (List.getElem_mem _), ?_⟩
      · simp only [Array.toList_map, List.getElem?_map, if_neg hne]
        rw [Array.getElem?_toList, Array.getElem?_eq_getElem (by simpa using hlt)]
        simp only [Array.getElem_range, Option.map_some, hcell]
        congr 1
        rw [getElem!_pos z.cells j (by rw [hE.zs]; exact hjs)]; simp
      · subst hj; exact constD_ok _)
  have hput := hs1.put (t := d) hdN (x := .sref st.nx 0 n) (v := .slice (some ⟨w.heap.size, 0, none⟩) n n) ⟨⟨w.heap.size, n, size⟩, some ⟨w.heap.size, 0, none⟩, (by show (if st.nx = st.nx then _ else _) = _; rw [if_pos rfl]), by simp, by simp, fun _ => by simp⟩
  exact k _ C _ _ hput
end
section
variable {P : Program} {G : Nat → Option D} {N : Nat} {F : Fr} {ops rest : List Oper} {o : Oper} {Q : Exit → St → Prop} {env : List (Nat × V)} {h : List (Nat × Blk)} {nx : Nat} {t e : TypeId} {z : Value} {size bytes : Nat}
theorem SmG.makeOwn (hF : Env F P G N) (hE : ElemT P t e z size bytes) (hz : z.cells.toList.all (·.oneCell') = true) {x y : Operand} {d : Tmp} {k1 k2 : IntKind} (n : Nat) (ho : o.op = .makeSlice t x y) (hd : o.dst = some d) (hdN : Nat.blt d N = true) (hg : guardB ops env o.guard = some true)
    (hx : evB G env x = some (.d (.v (.int k1 n)))) (hy : evB G env y = some (.d (.v (.int k2 n)))) (hn : n ≤ 281474976710656) (hb : n * bytes ≤ 140737488355328)
    (k : SmG F N ops rest Q ⟨(d, .sref nx 0 n) :: env, (nx, dB size (List.replicate n (z.cells.toList.map constD))) :: h, nx + 1⟩) : SmG F N ops (o :: rest) Q ⟨env, h, nx⟩ := by
  have hdN' : d < N := by simpa [Nat.blt_eq] using hdN
  intro hsm
  rw [evB_eq] at hx hy
  exact SmL.makeOwn hF hsm hE hz n (guardB_ok hg) ho hd hdN' hx hy hn hb (k (small_put hsm hdN'))
end
end Go.Proofs.YtagfaaijgfigkaaDoor
namespace Go.Proofs.YtagfaaijgfigkaaDoor
open Go.RowKit
set_option maxRecDepth 100000
theorem eq_two {t : TypeId} (hg : Tryd.prog.eqGuardType Tryd.prog.depth t = false) (hk : kindsT Tryd.prog t = some [.int .i64, .int .i64]) (a b c d : Int) : eqAgg Tryd.prog t (.d (.agg 2 [.v (.int .i64 a), .v (.int .i64 b)])) (.d (.agg 2 [.v (.int .i64 c), .v (.int .i64 d)])) = some (decide (a = c ∧ b = d)) := by
  have : ∀ x y : Int, (x == y) = decide (x = y) := fun x y => by
    rw [Bool.eq_iff_iff, beq_iff_eq, decide_eq_true_eq]
  simp only [eqAgg, hg, if_true, hk, Option.bind_some, eqCells, sameV, Option.map_some, this, Bool.and_true, Bool.decide_and]
theorem eq_res (x y : Res) : eqAgg Tryd.prog 34 (.d (.agg 2 x.row)) (.d (.agg 2 y.row)) = some (decide (x = y)) := by
  rw [show x.row = [.v (.int .i64 x.out), .v (.int .i64 x.n)] from rfl, show y.row = [.v (.int .i64 y.out), .v (.int .i64 y.n)] from rfl, eq_two (by kernel_rfl) (by kernel_rfl)]
  congr 1
  rw [decide_eq_decide]
  cases x; cases y; simp
theorem eq_prt (x y : Int × Int) : eqAgg Tryd.prog 56 (.d (.agg 2 (rowP x))) (.d (.agg 2 (rowP y))) = some (decide (x = y)) := by
  unfold rowP
  rw [eq_two (by kernel_rfl) (by kernel_rfl)]
  congr 1
  rw [decide_eq_decide]
  cases x; cases y; simp
theorem take_eq_succ {α : Type} {a b : List α} {i : Nat} {x : α} (h : a.take i = b.take i) (ha : a[i]? = some x) (hb : b[i]? = some x) : a.take (i + 1) = b.take (i + 1) := by
  rw [List.take_add_one, List.take_add_one, h, ha, hb]
theorem sameResults_D (a b : List Res) (hl : a.length ≤ 1000000) (G : Nat → Option D) (hG : G = HG) : CallsD Tryd.prog G 27 [ressL a, ressL b] (.v (.bool (decide (a = b)))) := by
  subst hG
  by_cases hlen : a.length = b.length
  · have hle : (b.length : Int) = (a.length : Int) := by omega
    refine CallsD.of Tryd.func27 rfl Tryd.ntmps27 (by simp) ?_; intro F hF h0 hT; simp only [List.zipIdx_cons, List.zipIdx_nil, List.map_cons, List.map_nil, Nat.zero_add, Nat.reduceAdd]
    refine Sm.seq ?_
    refine Sm.regionG hF rfl ?_
    refine SmG.v hF rfl rfl rfl (opV_assign rfl rfl) ?_
    refine SmG.nil ?_
    refine nextS_normal ?_
    refine Sm.seq ?_
    refine Sm.seq ?_
    refine Sm.regionG hF rfl ?_
    refine SmG.v hF rfl rfl rfl (opV_move rfl rfl) ?_
    refine SmG.v hF rfl rfl rfl (opV_len rfl rfl (by simp (disch := omega) only [go_sem, Nat.reduceEqDiff, iteP, ressL, hle] <;> rfl)) ?_
    refine SmG.v hF rfl rfl rfl (opV_move rfl rfl) ?_
    refine SmG.v hF rfl rfl rfl (opV_len rfl rfl (by simp (disch := omega) only [go_sem, Nat.reduceEqDiff, iteP, ressL, hle] <;> rfl)) ?_
    refine SmG.v hF rfl rfl rfl (opV_bin rfl rfl rfl (by first | exact rd_neqT _ _ _ _ _ (by omega) | exact rd_neqF _ _ _ _ _ (by omega) | exact rb_neq _ _ _ _ _ _ _)) ?_
    refine SmG.nil ?_
    refine nextS_normal ?_
    refine Sm.condF hF rfl ?_
    refine Sm.skip ?_
    refine nextS_normal ?_
    refine Sm.seq ?_
    refine Sm.seq ?_
    refine Sm.regionG hF rfl ?_
    refine SmG.v hF rfl rfl rfl (opV_assign rfl rfl) ?_
    refine SmG.nil ?_
    refine nextS_normal ?_
    refine Sm.block ?_
    refine Sm.loop (ι := {i : Nat // i ≤ a.length ∧ a.take i = b.take i}) (fun i => ⟨[(0, .d (ressL a)), (1, .d (ressL b)), (5, .d (.v (.int .i64 i.1)))], [], 0⟩) (fun i => a.length - i.1) (⟨0, by omega, rfl⟩) ?_ ?_
    · exact St.le_of ⟨rfl, rfl, rfl, trivial⟩ trivial (Nat.le_refl _)
    rintro ⟨i, hi, htk⟩
    simp only
    by_cases hlt : i < a.length
    · have hai : a[i]? = some a[i] := by simp
      have hbi : b[i]? = some (b[i]'(by omega)) := by simp
      have hma : a[i] ∈ a := List.getElem_mem _
      have hmb : b[i]'(by omega) ∈ b := List.getElem_mem _
      have he : (i : Int) + 1 = ((i + 1 : Nat) : Int) := by omega
      generalize a[i] = x at hai hma
      generalize b[i]'(by omega) = y at hbi hmb
      by_cases hxy : x = y
      · have hd : decide (x = y) = true := decide_eq_true hxy
        refine Sm.seq ?_
        refine Sm.seq ?_
        refine Sm.regionG hF rfl ?_
        refine SmG.v hF rfl rfl rfl (opV_move rfl rfl) ?_
        refine SmG.v hF rfl rfl rfl (opV_move rfl rfl) ?_
        refine SmG.v hF rfl rfl rfl (opV_len rfl rfl (by simp (disch := omega) only [go_sem, Nat.reduceEqDiff, iteP, ressL, hle, hai, hbi] <;> rfl)) ?_
        refine SmG.v hF rfl rfl rfl (opV_bin rfl rfl rfl (by first | exact rd_lssT _ _ _ _ _ (by omega) | exact rd_lssF _ _ _ _ _ (by omega) | exact rb_lss _ _ _ _ _ _ _)) ?_
        refine SmG.nil ?_
        refine nextS_normal ?_
        refine Sm.condT hF rfl ?_
        refine Sm.skip ?_
        refine nextS_normal ?_
        refine Sm.seq ?_
        refine Sm.block ?_
        refine Sm.seq ?_
        refine Sm.drawG hF (by kernel_rfl) rfl 9 (by kernel_rfl) (by kernel_rfl) ?_
        simp only [List.take_succ_cons, List.take_zero, List.take_nil]
        refine Head.v hF rfl rfl rfl (opV_move rfl rfl) ?_
        refine Head.v hF rfl rfl rfl (opV_move rfl rfl) ?_
        refine Head.v hF rfl rfl rfl (opV_indexAddr rfl rfl rfl (by simp (disch := omega) only [go_sem, Nat.reduceEqDiff, iteP, ressL, hle, hai, hbi] <;> rfl)) ?_
        refine Head.v hF rfl rfl rfl (opV_load rfl rfl (by simp (disch := omega) only [go_sem, Nat.reduceEqDiff, iteP, ressL, hle, hai, hbi] <;> rfl)) ?_
        refine Head.v hF rfl rfl rfl (opV_move rfl rfl) ?_
        refine Head.v hF rfl rfl rfl (opV_move rfl rfl) ?_
        refine Head.v hF rfl rfl rfl (opV_indexAddr rfl rfl rfl (by simp (disch := omega) only [go_sem, Nat.reduceEqDiff, iteP, ressL, hle, hai, hbi] <;> rfl)) ?_
        refine Head.v hF rfl rfl rfl (opV_load rfl rfl (by simp (disch := omega) only [go_sem, Nat.reduceEqDiff, iteP, ressL, hle, hai, hbi] <;> rfl)) ?_
        refine Head.v hF rfl rfl rfl (opV_neA rfl rfl rfl (eq_res _ _)) ?_
        refine Head.last ⟨rfl, ?_⟩
        simp only [List.drop_succ_cons, List.drop_zero, List.drop_nil, List.nil_append, List.cons_append]
        refine SmG.nil ?_
        refine nextS_normal ?_
        rw [hd]
        refine Sm.condF hF rfl ?_
        refine Sm.skip ?_
        refine blockS_normal ?_
        refine nextS_normal ?_
        refine Sm.regionG hF rfl ?_
        refine SmG.v hF rfl rfl rfl (opV_move rfl rfl) ?_
        refine SmG.v hF rfl rfl rfl (opV_bin rfl rfl rfl (by first | exact rd_add _ _ _ _ _ (wrapI64 _ (by omega)) | exact rb_add _ _ _ _ _ _ _)) ?_
        refine SmG.v hF rfl rfl rfl (opV_assign rfl rfl) ?_
        refine SmG.nil ?_
        refine nextS_normal ?_
        rw [he]
        exact ⟨⟨i + 1, by omega, take_eq_succ htk hai (hxy ▸ hbi)⟩, by show a.length - (i + 1) < a.length - i; omega, St.le_of ⟨rfl, rfl, rfl, trivial⟩ trivial (Nat.le_refl _)⟩
      · have hd : decide (x = y) = false := decide_eq_false hxy
        have hne : decide (a = b) = false := decide_eq_false fun e => by rw [e, hbi] at hai; exact hxy (Option.some.inj hai).symm
        rw [hne]
        refine Sm.seq ?_
        refine Sm.seq ?_
        refine Sm.regionG hF rfl ?_
        refine SmG.v hF rfl rfl rfl (opV_move rfl rfl) ?_
        refine SmG.v hF rfl rfl rfl (opV_move rfl rfl) ?_
        refine SmG.v hF rfl rfl rfl (opV_len rfl rfl (by simp (disch := omega) only [go_sem, Nat.reduceEqDiff, iteP, ressL, hle, hai, hbi] <;> rfl)) ?_
        refine SmG.v hF rfl rfl rfl (opV_bin rfl rfl rfl (by first | exact rd_lssT _ _ _ _ _ (by omega) | exact rd_lssF _ _ _ _ _ (by omega) | exact rb_lss _ _ _ _ _ _ _)) ?_
        refine SmG.nil ?_
        refine nextS_normal ?_
        refine Sm.condT hF rfl ?_
        refine Sm.skip ?_
        refine nextS_normal ?_
        refine Sm.seq ?_
        refine Sm.block ?_
        refine Sm.seq ?_
        refine Sm.drawG hF (by kernel_rfl) rfl 9 (by kernel_rfl) (by kernel_rfl) ?_
        simp only [List.take_succ_cons, List.take_zero, List.take_nil]
        refine Head.v hF rfl rfl rfl (opV_move rfl rfl) ?_
        refine Head.v hF rfl rfl rfl (opV_move rfl rfl) ?_
        refine Head.v hF rfl rfl rfl (opV_indexAddr rfl rfl rfl (by simp (disch := omega) only [go_sem, Nat.reduceEqDiff, iteP, ressL, hle, hai, hbi] <;> rfl)) ?_
        refine Head.v hF rfl rfl rfl (opV_load rfl rfl (by simp (disch := omega) only [go_sem, Nat.reduceEqDiff, iteP, ressL, hle, hai, hbi] <;> rfl)) ?_
        refine Head.v hF rfl rfl rfl (opV_move rfl rfl) ?_
        refine Head.v hF rfl rfl rfl (opV_move rfl rfl) ?_
        refine Head.v hF rfl rfl rfl (opV_indexAddr rfl rfl rfl (by simp (disch := omega) only [go_sem, Nat.reduceEqDiff, iteP, ressL, hle, hai, hbi] <;> rfl)) ?_
        refine Head.v hF rfl rfl rfl (opV_load rfl rfl (by simp (disch := omega) only [go_sem, Nat.reduceEqDiff, iteP, ressL, hle, hai, hbi] <;> rfl)) ?_
        refine Head.v hF rfl rfl rfl (opV_neA rfl rfl rfl (eq_res _ _)) ?_
        refine Head.last ⟨rfl, ?_⟩
        simp only [List.drop_succ_cons, List.drop_zero, List.drop_nil, List.nil_append, List.cons_append]
        refine SmG.nil ?_
        refine nextS_normal ?_
        rw [hd]
        refine Sm.condT hF rfl ?_
        refine Sm.seq ?_
        refine Sm.regionG hF rfl ?_
        refine SmG.v hF rfl rfl rfl (opV_assign rfl rfl) ?_
        refine SmG.nil ?_
        refine nextS_normal ?_
        refine Sm.ret ?_
        simp only [nextS, blockS]
        refine ⟨_, rfl, ?_⟩; exact D.le.refl _
    · have hil : i = a.length := by omega
      have hab : decide (a = b) = true := decide_eq_true (by rw [hil, List.take_of_length_le (Nat.le_refl _), List.take_of_length_le (by omega)] at htk; exact htk)
      rw [hab]
      subst hil
      refine Sm.seq ?_
      refine Sm.seq ?_
      refine Sm.regionG hF rfl ?_
      refine SmG.v hF rfl rfl rfl (opV_move rfl rfl) ?_
      refine SmG.v hF rfl rfl rfl (opV_move rfl rfl) ?_
      refine SmG.v hF rfl rfl rfl (opV_len rfl rfl (by simp (disch := omega) only [go_sem, Nat.reduceEqDiff, iteP, ressL, hle] <;> rfl)) ?_
      refine SmG.v hF rfl rfl rfl (opV_bin rfl rfl rfl (by first | exact rd_lssT _ _ _ _ _ (by omega) | exact rd_lssF _ _ _ _ _ (by omega) | exact rb_lss _ _ _ _ _ _ _)) ?_
      refine SmG.nil ?_
      refine nextS_normal ?_
      refine Sm.condF hF rfl ?_
      refine Sm.exit ?_
      simp only [nextS, blockS, reduceIte, reduceCtorEq]
      refine Sm.seq ?_
      refine Sm.regionG hF rfl ?_
      refine SmG.v hF rfl rfl rfl (opV_assign rfl rfl) ?_
      refine SmG.nil ?_
      refine nextS_normal ?_
      refine Sm.ret ?_
      refine ⟨_, rfl, ?_⟩; exact D.le.refl _
  · have hne : decide (a = b) = false := decide_eq_false fun e => hlen (by rw [e])
    rw [hne]
    refine CallsD.of Tryd.func27 rfl Tryd.ntmps27 (by simp) ?_; intro F hF h0 hT; simp only [List.zipIdx_cons, List.zipIdx_nil, List.map_cons, List.map_nil, Nat.zero_add, Nat.reduceAdd]
    refine Sm.seq ?_
    refine Sm.regionG hF rfl ?_
    refine SmG.v hF rfl rfl rfl (opV_assign rfl rfl) ?_
    refine SmG.nil ?_
    refine nextS_normal ?_
    refine Sm.seq ?_
    refine Sm.seq ?_
    refine Sm.regionG hF rfl ?_
    refine SmG.v hF rfl rfl rfl (opV_move rfl rfl) ?_
    refine SmG.v hF rfl rfl rfl (opV_len rfl rfl (by simp (disch := omega) only [go_sem, Nat.reduceEqDiff, iteP, ressL] <;> rfl)) ?_
    refine SmG.v hF rfl rfl rfl (opV_move rfl rfl) ?_
    refine SmG.v hF rfl rfl rfl (opV_len rfl rfl (by simp (disch := omega) only [go_sem, Nat.reduceEqDiff, iteP, ressL] <;> rfl)) ?_
    refine SmG.v hF rfl rfl rfl (opV_bin rfl rfl rfl (by first | exact rd_neqT _ _ _ _ _ (by omega) | exact rd_neqF _ _ _ _ _ (by omega) | exact rb_neq _ _ _ _ _ _ _)) ?_
    refine SmG.nil ?_
    refine nextS_normal ?_
    refine Sm.condT hF rfl ?_
    refine Sm.seq ?_
    refine Sm.regionG hF rfl ?_
    refine SmG.v hF rfl rfl rfl (opV_assign rfl rfl) ?_
    refine SmG.nil ?_
    refine nextS_normal ?_
    refine Sm.ret ?_
    simp only [nextS, blockS]
    refine ⟨_, rfl, ?_⟩; exact D.le.refl _
theorem sameParts_D (a b : List (Int × Int)) (hl : a.length ≤ 1000000) (G : Nat → Option D) (hG : G = HG) : CallsD Tryd.prog G 19 [partsD a, partsD b] (.v (.bool (decide (a = b)))) := by
  subst hG
  by_cases hlen : a.length = b.length
  · have hle : (b.length : Int) = (a.length : Int) := by omega
    refine CallsD.of Tryd.func19 rfl Tryd.ntmps19 (by simp) ?_; intro F hF h0 hT; simp only [List.zipIdx_cons, List.zipIdx_nil, List.map_cons, List.map_nil, Nat.zero_add, Nat.reduceAdd]
    refine Sm.seq ?_
    refine Sm.regionG hF rfl ?_
    refine SmG.v hF rfl rfl rfl (opV_assign rfl rfl) ?_
    refine SmG.nil ?_
    refine nextS_normal ?_
    refine Sm.seq ?_
    refine Sm.seq ?_
    refine Sm.regionG hF rfl ?_
    refine SmG.v hF rfl rfl rfl (opV_move rfl rfl) ?_
    refine SmG.v hF rfl rfl rfl (opV_len rfl rfl (by simp (disch := omega) only [go_sem, Nat.reduceEqDiff, iteP, partsD, hle] <;> rfl)) ?_
    refine SmG.v hF rfl rfl rfl (opV_move rfl rfl) ?_
    refine SmG.v hF rfl rfl rfl (opV_len rfl rfl (by simp (disch := omega) only [go_sem, Nat.reduceEqDiff, iteP, partsD, hle] <;> rfl)) ?_
    refine SmG.v hF rfl rfl rfl (opV_bin rfl rfl rfl (by first | exact rd_neqT _ _ _ _ _ (by omega) | exact rd_neqF _ _ _ _ _ (by omega) | exact rb_neq _ _ _ _ _ _ _)) ?_
    refine SmG.nil ?_
    refine nextS_normal ?_
    refine Sm.condF hF rfl ?_
    refine Sm.skip ?_
    refine nextS_normal ?_
    refine Sm.seq ?_
    refine Sm.seq ?_
    refine Sm.regionG hF rfl ?_
    refine SmG.v hF rfl rfl rfl (opV_assign rfl rfl) ?_
    refine SmG.nil ?_
    refine nextS_normal ?_
    refine Sm.block ?_
    refine Sm.loop (ι := {i : Nat // i ≤ a.length ∧ a.take i = b.take i}) (fun i => ⟨[(0, .d (partsD a)), (1, .d (partsD b)), (5, .d (.v (.int .i64 i.1)))], [], 0⟩) (fun i => a.length - i.1) (⟨0, by omega, rfl⟩) ?_ ?_
    · exact St.le_of ⟨rfl, rfl, rfl, trivial⟩ trivial (Nat.le_refl _)
    rintro ⟨i, hi, htk⟩
    simp only
    by_cases hlt : i < a.length
    · have hai : a[i]? = some a[i] := by simp
      have hbi : b[i]? = some (b[i]'(by omega)) := by simp
      have hma : a[i] ∈ a := List.getElem_mem _
      have hmb : b[i]'(by omega) ∈ b := List.getElem_mem _
      have he : (i : Int) + 1 = ((i + 1 : Nat) : Int) := by omega
      generalize a[i] = x at hai hma
      generalize b[i]'(by omega) = y at hbi hmb
      by_cases hxy : x = y
      · have hd : decide (x = y) = true := decide_eq_true hxy
        refine Sm.seq ?_
        refine Sm.seq ?_
        refine Sm.regionG hF rfl ?_
        refine SmG.v hF rfl rfl rfl (opV_move rfl rfl) ?_
        refine SmG.v hF rfl rfl rfl (opV_move rfl rfl) ?_
        refine SmG.v hF rfl rfl rfl (opV_len rfl rfl (by simp (disch := omega) only [go_sem, Nat.reduceEqDiff, iteP, partsD, hle, hai, hbi] <;> rfl)) ?_
        refine SmG.v hF rfl rfl rfl (opV_bin rfl rfl rfl (by first | exact rd_lssT _ _ _ _ _ (by omega) | exact rd_lssF _ _ _ _ _ (by omega) | exact rb_lss _ _ _ _ _ _ _)) ?_
        refine SmG.nil ?_
        refine nextS_normal ?_
        refine Sm.condT hF rfl ?_
        refine Sm.skip ?_
        refine nextS_normal ?_
        refine Sm.seq ?_
        refine Sm.block ?_
        refine Sm.seq ?_
        refine Sm.drawG hF (by kernel_rfl) rfl 9 (by kernel_rfl) (by kernel_rfl) ?_
        simp only [List.take_succ_cons, List.take_zero, List.take_nil]
        refine Head.v hF rfl rfl rfl (opV_move rfl rfl) ?_
        refine Head.v hF rfl rfl rfl (opV_move rfl rfl) ?_
        refine Head.v hF rfl rfl rfl (opV_indexAddr rfl rfl rfl (by simp (disch := omega) only [go_sem, Nat.reduceEqDiff, iteP, partsD, hle, hai, hbi] <;> rfl)) ?_
        refine Head.v hF rfl rfl rfl (opV_load rfl rfl (by simp (disch := omega) only [go_sem, Nat.reduceEqDiff, iteP, partsD, hle, hai, hbi] <;> rfl)) ?_
        refine Head.v hF rfl rfl rfl (opV_move rfl rfl) ?_
        refine Head.v hF rfl rfl rfl (opV_move rfl rfl) ?_
        refine Head.v hF rfl rfl rfl (opV_indexAddr rfl rfl rfl (by simp (disch := omega) only [go_sem, Nat.reduceEqDiff, iteP, partsD, hle, hai, hbi] <;> rfl)) ?_
        refine Head.v hF rfl rfl rfl (opV_load rfl rfl (by simp (disch := omega) only [go_sem, Nat.reduceEqDiff, iteP, partsD, hle, hai, hbi] <;> rfl)) ?_
        refine Head.v hF rfl rfl rfl (opV_neA rfl rfl rfl (eq_prt _ _)) ?_
        refine Head.last ⟨rfl, ?_⟩
        simp only [List.drop_succ_cons, List.drop_zero, List.drop_nil, List.nil_append, List.cons_append]
        refine SmG.nil ?_
        refine nextS_normal ?_
        rw [hd]
        refine Sm.condF hF rfl ?_
        refine Sm.skip ?_
        refine blockS_normal ?_
        refine nextS_normal ?_
        refine Sm.regionG hF rfl ?_
        refine SmG.v hF rfl rfl rfl (opV_move rfl rfl) ?_
        refine SmG.v hF rfl rfl rfl (opV_bin rfl rfl rfl (by first | exact rd_add _ _ _ _ _ (wrapI64 _ (by omega)) | exact rb_add _ _ _ _ _ _ _)) ?_
        refine SmG.v hF rfl rfl rfl (opV_assign rfl rfl) ?_
        refine SmG.nil ?_
        refine nextS_normal ?_
        rw [he]
        exact ⟨⟨i + 1, by omega, take_eq_succ htk hai (hxy ▸ hbi)⟩, by show a.length - (i + 1) < a.length - i; omega, St.le_of ⟨rfl, rfl, rfl, trivial⟩ trivial (Nat.le_refl _)⟩
      · have hd : decide (x = y) = false := decide_eq_false hxy
        have hne : decide (a = b) = false := decide_eq_false fun e => by rw [e, hbi] at hai; exact hxy (Option.some.inj hai).symm
        rw [hne]
        refine Sm.seq ?_
        refine Sm.seq ?_
        refine Sm.regionG hF rfl ?_
        refine SmG.v hF rfl rfl rfl (opV_move rfl rfl) ?_
        refine SmG.v hF rfl rfl rfl (opV_move rfl rfl) ?_
        refine SmG.v hF rfl rfl rfl (opV_len rfl rfl (by simp (disch := omega) only [go_sem, Nat.reduceEqDiff, iteP, partsD, hle, hai, hbi] <;> rfl)) ?_
        refine SmG.v hF rfl rfl rfl (opV_bin rfl rfl rfl (by first | exact rd_lssT _ _ _ _ _ (by omega) | exact rd_lssF _ _ _ _ _ (by omega) | exact rb_lss _ _ _ _ _ _ _)) ?_
        refine SmG.nil ?_
        refine nextS_normal ?_
        refine Sm.condT hF rfl ?_
        refine Sm.skip ?_
        refine nextS_normal ?_
        refine Sm.seq ?_
        refine Sm.block ?_
        refine Sm.seq ?_
        refine Sm.drawG hF (by kernel_rfl) rfl 9 (by kernel_rfl) (by kernel_rfl) ?_
        simp only [List.take_succ_cons, List.take_zero, List.take_nil]
        refine Head.v hF rfl rfl rfl (opV_move rfl rfl) ?_
        refine Head.v hF rfl rfl rfl (opV_move rfl rfl) ?_
        refine Head.v hF rfl rfl rfl (opV_indexAddr rfl rfl rfl (by simp (disch := omega) only [go_sem, Nat.reduceEqDiff, iteP, partsD, hle, hai, hbi] <;> rfl)) ?_
        refine Head.v hF rfl rfl rfl (opV_load rfl rfl (by simp (disch := omega) only [go_sem, Nat.reduceEqDiff, iteP, partsD, hle, hai, hbi] <;> rfl)) ?_
        refine Head.v hF rfl rfl rfl (opV_move rfl rfl) ?_
        refine Head.v hF rfl rfl rfl (opV_move rfl rfl) ?_
        refine Head.v hF rfl rfl rfl (opV_indexAddr rfl rfl rfl (by simp (disch := omega) only [go_sem, Nat.reduceEqDiff, iteP, partsD, hle, hai, hbi] <;> rfl)) ?_
        refine Head.v hF rfl rfl rfl (opV_load rfl rfl (by simp (disch := omega) only [go_sem, Nat.reduceEqDiff, iteP, partsD, hle, hai, hbi] <;> rfl)) ?_
        refine Head.v hF rfl rfl rfl (opV_neA rfl rfl rfl (eq_prt _ _)) ?_
        refine Head.last ⟨rfl, ?_⟩
        simp only [List.drop_succ_cons, List.drop_zero, List.drop_nil, List.nil_append, List.cons_append]
        refine SmG.nil ?_
        refine nextS_normal ?_
        rw [hd]
        refine Sm.condT hF rfl ?_
        refine Sm.seq ?_
        refine Sm.regionG hF rfl ?_
        refine SmG.v hF rfl rfl rfl (opV_assign rfl rfl) ?_
        refine SmG.nil ?_
        refine nextS_normal ?_
        refine Sm.ret ?_
        simp only [nextS, blockS]
        refine ⟨_, rfl, ?_⟩; exact D.le.refl _
    · have hil : i = a.length := by omega
      have hab : decide (a = b) = true := decide_eq_true (by rw [hil, List.take_of_length_le (Nat.le_refl _), List.take_of_length_le (by omega)] at htk; exact htk)
      rw [hab]
      subst hil
      refine Sm.seq ?_
      refine Sm.seq ?_
      refine Sm.regionG hF rfl ?_
      refine SmG.v hF rfl rfl rfl (opV_move rfl rfl) ?_
      refine SmG.v hF rfl rfl rfl (opV_move rfl rfl) ?_
      refine SmG.v hF rfl rfl rfl (opV_len rfl rfl (by simp (disch := omega) only [go_sem, Nat.reduceEqDiff, iteP, partsD, hle] <;> rfl)) ?_
      refine SmG.v hF rfl rfl rfl (opV_bin rfl rfl rfl (by first | exact rd_lssT _ _ _ _ _ (by omega) | exact rd_lssF _ _ _ _ _ (by omega) | exact rb_lss _ _ _ _ _ _ _)) ?_
      refine SmG.nil ?_
      refine nextS_normal ?_
      refine Sm.condF hF rfl ?_
      refine Sm.exit ?_
      simp only [nextS, blockS, reduceIte, reduceCtorEq]
      refine Sm.seq ?_
      refine Sm.regionG hF rfl ?_
      refine SmG.v hF rfl rfl rfl (opV_assign rfl rfl) ?_
      refine SmG.nil ?_
      refine nextS_normal ?_
      refine Sm.ret ?_
      refine ⟨_, rfl, ?_⟩; exact D.le.refl _
  · have hne : decide (a = b) = false := decide_eq_false fun e => hlen (by rw [e])
    rw [hne]
    refine CallsD.of Tryd.func19 rfl Tryd.ntmps19 (by simp) ?_; intro F hF h0 hT; simp only [List.zipIdx_cons, List.zipIdx_nil, List.map_cons, List.map_nil, Nat.zero_add, Nat.reduceAdd]
    refine Sm.seq ?_
    refine Sm.regionG hF rfl ?_
    refine SmG.v hF rfl rfl rfl (opV_assign rfl rfl) ?_
    refine SmG.nil ?_
    refine nextS_normal ?_
    refine Sm.seq ?_
    refine Sm.seq ?_
    refine Sm.regionG hF rfl ?_
    refine SmG.v hF rfl rfl rfl (opV_move rfl rfl) ?_
    refine SmG.v hF rfl rfl rfl (opV_len rfl rfl (by simp (disch := omega) only [go_sem, Nat.reduceEqDiff, iteP, partsD] <;> rfl)) ?_
    refine SmG.v hF rfl rfl rfl (opV_move rfl rfl) ?_
    refine SmG.v hF rfl rfl rfl (opV_len rfl rfl (by simp (disch := omega) only [go_sem, Nat.reduceEqDiff, iteP, partsD] <;> rfl)) ?_
    refine SmG.v hF rfl rfl rfl (opV_bin rfl rfl rfl (by first | exact rd_neqT _ _ _ _ _ (by omega) | exact rd_neqF _ _ _ _ _ (by omega) | exact rb_neq _ _ _ _ _ _ _)) ?_
    refine SmG.nil ?_
    refine nextS_normal ?_
    refine Sm.condT hF rfl ?_
    refine Sm.seq ?_
    refine Sm.regionG hF rfl ?_
    refine SmG.v hF rfl rfl rfl (opV_assign rfl rfl) ?_
    refine SmG.nil ?_
    refine nextS_normal ?_
    refine Sm.ret ?_
    simp only [nextS, blockS]
    refine ⟨_, rfl, ?_⟩; exact D.le.refl _
theorem Clm.ext_iff' (x y : Clm) : x = y ↔ x.who = y.who ∧ x.lo = y.lo ∧ x.hi = y.hi ∧ x.root = y.root ∧ x.l = y.l := by
  cases x; cases y; simp only [Clm.mk.injEq]; exact ⟨fun h => ⟨h.1, h.2.1, h.2.2.1, h.2.2.2.2, h.2.2.2.1⟩, fun h => ⟨h.1, h.2.1, h.2.2.1, h.2.2.2.2, h.2.2.2.1⟩⟩
instance : DecidableEq Clm := fun x y => if h : x.who = y.who ∧ x.lo = y.lo ∧ x.hi = y.hi ∧ x.root = y.root ∧ x.l = y.l then isTrue ((Clm.ext_iff' x y).2 h) else isFalse fun e => h ((Clm.ext_iff' x y).1 e)
end Go.Proofs.YtagfaaijgfigkaaDoor
