/-
  Lemmas, part 4 of 8: walks through the program's functions, and plain Lean about what they compute.
-/
import Derived.ProofKit
import Derived.OpenShut
import Derived.Deep.Slices
import Derived.ChangeArms
import Derived.Carry
import Derived.Test.YtbaccmkhjmmlnaaDoorRows
import Derived.OpenVars
import Derived.LaidMore
import Derived.Lay
import Derived.LaidLaws
import Derived.Handed
import Derived.Clock
import Derived.Test.YtbaccmkhjmmlnaaDoorProg
import Derived.SevenTiedAt
import Derived.Test.YtbaccmkhjmmlnaaDoorZ1
import Derived.Test.YtbaccmkhjmmlnaaDoorZ2
import Derived.Test.YtbaccmkhjmmlnaaDoorZ3
set_option linter.unnecessarySimpa false
set_option linter.unusedSimpArgs false
set_option linter.unusedVariables false
namespace Go.Proofs.YtbaccmkhjmmlnaaDoor
section
open Go.RowKit
def nb (l : List Oper) : Bool := l.zipIdx.all fun (o, i) => o.after.all fun e => !Region.binds .any e || decide (e.on < i)
def mI (o : Oper) : Bool := match o.op with
 | .defer _ => false
 | _ => true
theorem wk {o : Oper} (h : mI o = true) : ∀ c, o.op ≠ .defer c := fun c e => by simp [mI, e] at h
def ri (acc : List Nat) (o : Oper) : Nat := o.after.toList.foldl (fun m e => if Region.binds .any e then (m ||| 2 ^ e.on) ||| acc.getD e.on 0 else m) 0
def jS : List Oper → List Nat → List Nat
 | [], acc => acc
 | o :: r, acc => jS r (acc ++ [ri acc o])
def oH (l : List Oper) (n : Nat) : Bool := ((jS l []).drop n).all fun m => Nat.beq (m % 2 ^ n) (2 ^ n - 1)
def wl (l : List Oper) (n : Nat) : Bool := ((jS l []).zipIdx.drop n).all fun m => Nat.beq (m.1 % 2 ^ m.2) (2 ^ m.2 - 1)
def sb (l : List Oper) (n : Nat) : Bool := l.all mI && nb l && decide (n ≤ l.length) && wl l n
theorem uc {acc : List Nat} {o : Oper} {i : Nat} (h : (ri acc o).testBit i = true) : ∃ e ∈ o.after, Region.binds .any e = true ∧ (e.on = i ∨ (acc.getD e.on 0).testBit i = true) := by
 have key : ∀ (es : List Edge) (m0 : Nat), (es.foldl (fun m e => if Region.binds .any e then (m ||| 2 ^ e.on) ||| acc.getD e.on 0 else m) m0).testBit i = true → m0.testBit i = true ∨ ∃ e ∈ es, Region.binds .any e = true ∧ (e.on = i ∨ (acc.getD e.on 0).testBit i = true) := by
  intro es
  induction es with
  | nil => intro m0 h; exact .inl h
  | cons e es ih =>
   intro m0 h
   rcases ih _ h with h | ⟨e', he, h⟩
   ·simp only at h
    split at h
    ·rename_i hb
     rw [Nat.testBit_or, Nat.testBit_or, Bool.or_eq_true, Bool.or_eq_true] at h
     rcases h with (h | h) | h
     ·exact .inl h
     ·rw [Nat.testBit_two_pow] at h
      exact .inr ⟨e, by simp, hb, .inl (of_decide_eq_true h)⟩
     ·exact .inr ⟨e, by simp, hb, .inr h⟩
    ·exact .inl h
   ·exact .inr ⟨e', by simp [he], h⟩
 rcases key _ _ h with h | ⟨e, he, h⟩
 ·simp at h
 ·exact ⟨e, by simpa using he, h⟩
section
variable {l : List Oper} {L : Nat → Prop}
theorem Au (hcl : ∀ (j : Nat) (oj : Oper), l[j]? = some oj → L j → ∀ e ∈ oj.after, Region.binds .any e = true → L e.on) : ∀ (r pre : List Oper) (acc : List Nat), l = pre ++ r → acc.length = pre.length →
  (∀ (t m : Nat), acc[t]? = some m → ∀ i, m.testBit i = true → (∀ o, l[t]? = some o → ∀ e ∈ o.after, Region.binds .any e = true → L e.on) → L i) →
  (jS r acc).length = l.length ∧ ∀ (t m : Nat), (jS r acc)[t]? = some m → ∀ i, m.testBit i = true → (∀ o, l[t]? = some o → ∀ e ∈ o.after, Region.binds .any e = true → L e.on) → L i := by
 intro r
 induction r with
 | nil => intro pre acc hl hlen h; exact ⟨by simp [jS, hl, hlen], h⟩
 | cons o r ih =>
  intro pre acc hl hlen h
  refine ih (pre ++ [o]) (acc ++ [ri acc o]) (by simp [hl]) (by simp [hlen]) ?_
  intro t m ht i hi hd
  rcases Nat.lt_or_ge t acc.length with hlt | hge
  ·rw [List.getElem?_append_left hlt] at ht
   exact h t m ht i hi hd
  ·rw [List.getElem?_append_right hge] at ht
   have ht0 : t = acc.length := by
    have := (List.getElem?_eq_some_iff.1 ht).1
    simp at this; omega
   subst ht0
   simp at ht; subst ht
   obtain ⟨e, he, hb, h2⟩ := uc hi
   have hlo : l[acc.length]? = some o := by rw [hlen, hl]; simp
   have hL := hd o hlo e he hb
   rcases h2 with rfl | h2
   ·exact hL
   ·cases hm : acc[e.on]? with
    | none => rw [List.getD_eq_getElem?_getD, hm] at h2; simp at h2
    | some m' =>
     rw [List.getD_eq_getElem?_getD, hm] at h2
     exact h e.on m' hm i h2 fun o' ho' => hcl e.on o' ho' hL
theorem tt {m n i : Nat} (h : Nat.beq (m % 2 ^ n) (2 ^ n - 1) = true) (hi : i < n) : m.testBit i = true := by
 have h1 := Nat.eq_of_beq_eq_true h
 have h2 : (m % 2 ^ n).testBit i = true := by rw [h1, Nat.testBit_two_pow_sub_one]; simpa using hi
 rw [Nat.testBit_mod_two_pow] at h2
 simp at h2; exact h2.2
theorem Az {n t i : Nat} {o : Oper} (hB : oH l n = true) (hcl : ∀ (j : Nat) (oj : Oper), l[j]? = some oj → L j → ∀ e ∈ oj.after, Region.binds .any e = true → L e.on) (ht : n ≤ t) (ho : l[t]? = some o) (hd : ∀ e ∈ o.after, Region.binds .any e = true → L e.on) (hi : i < n) : L i := by
 obtain ⟨h1, h2⟩ := Au hcl l [] [] rfl rfl (by simp)
 have htl := (List.getElem?_eq_some_iff.1 ho).1
 have hm : (jS l [])[t]? = some (jS l [])[t] := List.getElem?_eq_getElem (by omega)
 have hin : (jS l [])[t] ∈ (jS l []).drop n := by
  rw [List.mem_iff_getElem?]
  exact ⟨t - n, by rw [List.getElem?_drop, show n + (t - n) = t by omega]; exact hm⟩
 exact h2 t _ hm i (tt (List.all_eq_true.1 hB _ hin) hi) fun o' ho' => by rw [ho] at ho'; cases ho'; exact hd
theorem rF {n k : Nat} (h : wl l n = true) (hk : n ≤ k) : oH l k = true := by
 refine List.all_eq_true.2 fun m hm => ?_
 obtain ⟨j, hj⟩ := List.mem_iff_getElem?.1 hm
 rw [List.getElem?_drop] at hj
 have hz : (m, k + j) ∈ (jS l []).zipIdx.drop n := by
  rw [List.mem_iff_getElem?]
  refine ⟨k + j - n, ?_⟩
  rw [List.getElem?_drop, show n + (k + j - n) = k + j by omega, List.getElem?_zipIdx, hj]; simp
 have h1 := List.all_eq_true.1 h _ hz
 have h2 : ∀ i, i < k → m.testBit i = true := fun i hi => tt (n := k + j) h1 (by omega)
 have : m % 2 ^ k = 2 ^ k - 1 := by
  apply Nat.eq_of_testBit_eq
  intro i
  rw [Nat.testBit_mod_two_pow, Nat.testBit_two_pow_sub_one]
  by_cases hi : i < k
  ·simp [hi, h2 i hi]
  ·simp [hi]
 rw [this]; simp
end
section
variable {F : Fr} {P : Program} {l : List Oper} {a0 : Act} {w0 : World} {Q : Exit → Act → World → Prop}
theorem zm {i : Nat} {o : Oper} {a : Act} {w : World} {K : Act → World → Prop} (hp : mI o = true) (ho : l[i]? = some o) (h : if Region.wanted o (yielded l.toArray a.tmps) then o.wp P a w K Q else K (a.put o.dst undef) w) : wpOpIn F.fz 0 P l.toArray Q i K a w := by
 unfold wpOpIn
 simp only [List.getElem?_toArray, ho]
 split
 ·rename_i hw; rw [if_pos hw] at h; exact yN (wk hp) h
 ·rename_i hw; rw [if_neg hw] at h; exact ⟨fun _ _ => trivial, h⟩
theorem tY (k n : Nat) : (((List.range n).map fun i => decide (i < k)).filter fun b => !b).length = n - k := by
 induction n with
 | zero => simp
 | succ n ih =>
  rw [List.range_succ, List.map_append, List.filter_append, List.length_append, ih]
  by_cases h : n < k
  ·simp [h]; omega
  ·simp [h]; omega
theorem jY (s k j : Nat) (b : Bool) (hj : j < s) : (bk s k).getD j b = decide (j < k) := by
 simp [bk, hj]
theorem qq (s k j : Nat) (hk : k ≤ s) : (bk s k).getD j false = decide (j < k) := by
 rcases Nat.lt_or_ge j s with h | h
 ·exact jY s k j false h
 ·have : ¬ j < k := by omega
  rw [Array.getD_eq_getD_getElem?, Array.getElem?_eq_none (by simpa [bk] using h)]
  simp [this]
theorem oO (k n : Nat) (hkn : k ≤ n) (hnl : n ≤ l.length) (hbk0 : nb l = true) (hbar : oH l n = true) (σ : (Nat → Bool) → Act → World → Prop) (h0 : σ (fun j => decide (j < k)) a0 w0)
  (hstep : ∀ (i : Nat) (o : Oper) (S : Nat → Bool) (a : Act) (w : World), k ≤ i → i < n → l[i]? = some o → S i = false → (∀ e ∈ o.after, Region.binds .any e = true → S e.on = true) → (∀ j, j < k → S j = true) → (∀ j, n ≤ j → S j = false) →
   (∀ (j : Nat) (oj : Oper), l[j]? = some oj → S j = true → ∀ e ∈ oj.after, Region.binds .any e = true → S e.on = true) → σ S a w → wpOpIn F.fz 0 P l.toArray Q i (σ fun j => if j = i then true else S j) a w)
  (hend : ∀ (S : Nat → Bool) (a : Act) (w : World), (∀ j, j < n → S j = true) → (∀ j, n ≤ j → S j = false) → σ S a w → wpAnyIn F.fz 0 P .any l.toArray Q (l.length - n) (bk l.length n) a w) :
  wpAnyIn F.fz 0 P .any l.toArray Q (l.length - k) (bk l.length k) a0 w0 := by
 have hbk : ∀ (i : Nat) (o : Oper), l.toArray[i]? = some o → ∀ e ∈ o.after, Region.binds .any e = true → e.on < i := by
  intro i o hi e he hb
  have hz : (o, i) ∈ l.zipIdx := by
   rw [List.mem_zipIdx_iff_getElem?]
   simpa using hi
  have := List.all_eq_true.1 hbk0 (o, i) hz
  simp only [Array.all_eq_true_iff_forall_mem] at this
  have := this e he
  simpa [hb] using this
 have hsize : l.toArray.size = l.length := by simp
 have main : ∀ (f : Nat) (listed : Array Bool) (a : Act) (w : World), HeadInv .any l.toArray n listed → (∀ j, j < k → listed.getD j false = true) → ((listed.toList.take n).filter (fun b => !b)).length = f → σ (fun j => listed.getD j false) a w → wpAnyIn F.fz 0 P .any l.toArray Q (f + (l.length - n)) listed a w := by
  intro f
  induction f with
  | zero =>
   intro listed a w hI hlow hf inv
   have hls : listed.size = l.length := by rw [hI.size, hsize]
   have hall : ∀ j, j < n → j < l.length → listed.getD j false = true := by
    intro j hj hj2
    cases h : listed.getD j false with
    | true => rfl
    | false =>
     exfalso
     have hlt : j < listed.size := by omega
     have : false ∈ (listed.toList.take n).filter (fun b => !b) := by
      rw [List.mem_filter]
      refine ⟨?_, rfl⟩
      rw [List.mem_iff_getElem?]
      refine ⟨j, ?_⟩
      rw [List.getElem?_take_of_lt hj]
      simp [hlt] at h ⊢
      exact h
     have := List.length_pos_of_mem this
     omega
   have hnone : ∀ j, n ≤ j → listed.getD j false = false := by
    intro j hj
    rcases Nat.lt_or_ge j l.length with h | h
    ·exact getD_both (hI.tail j hj (by rw [hsize]; exact h))
    ·rw [Array.getD_eq_getD_getElem?, Array.getElem?_eq_none (by omega)]; rfl
   have hr := hend _ a w (fun j hj => hall j hj (by omega)) hnone inv
   rw [Nat.zero_add, nI hls hall (fun t ht htl => hI.tail t ht (by rw [hsize]; exact htl))]
   exact hr
  | succ f ih =>
   intro listed a w hI hlow hf inv
   have hls : listed.size = l.length := by rw [hI.size, hsize]
   obtain ⟨i0, hi0n, hi0⟩ : ∃ i, i < n ∧ listed.getD i true = false := by
    have hne : ((listed.toList.take n).filter (fun b => !b)) ≠ [] := fun e => by rw [e] at hf; cases hf
    obtain ⟨b, hb⟩ := List.exists_mem_of_ne_nil _ hne
    rw [List.mem_filter] at hb
    obtain ⟨hb1, hb2⟩ := hb
    have hbf : b = false := by simpa using hb2
    subst hbf
    obtain ⟨i, hi⟩ := List.mem_iff_getElem?.1 hb1
    have hin : i < n := by
     have := (List.getElem?_eq_some_iff.1 hi).1
     rw [List.length_take] at this; omega
    rw [List.getElem?_take_of_lt hin] at hi
    exact ⟨i, hin, by simp at hi; simp [hi]⟩
   have hready : Region.ready .any l.toArray listed ≠ [] := by
    intro h
    have hall := lq (ops := l.toArray) (by rw [hls, hsize]) hbk h i0 (by rw [hsize]; omega)
    have h0 := getD_both hi0
    rw [h0] at hall; cases hall
   have hcl : ∀ (j : Nat) (oj : Oper), l[j]? = some oj → listed.getD j false = true → ∀ e ∈ oj.after, Region.binds .any e = true → listed.getD e.on false = true := fun j oj hj hl e he hb => hI.closed j oj (by simpa using hj) hl e he hb
   rw [show f + 1 + (l.length - n) = (f + (l.length - n)) + 1 by omega]
   refine ⟨fun h => absurd h hready, fun i hi => ?_⟩
   obtain ⟨h0, o, ho, hall⟩ := mem_ready.1 hi
   have ho' : l[i]? = some o := by simpa using ho
   have hin : i < n := by
    rcases Nat.lt_or_ge i n with h | h
    ·exact h
    ·have := Az (L := fun j => listed.getD j false = true) hbar hcl h ho' hall hi0n
     rw [getD_both hi0] at this; cases this
   have hki : k ≤ i := by
    rcases Nat.lt_or_ge i k with h | h
    ·have := hlow i h
     rw [getD_both h0] at this; cases this
    ·exact h
   have hlt : i < listed.size := by rw [hI.size]; exact (Array.getElem?_eq_some_iff.1 ho).1
   have hset : (fun j => (listed.setIfInBounds i true).getD j false) = fun j => if j = i then true else listed.getD j false := by
    funext j
    by_cases hji : j = i
    ·subst hji; rw [if_pos rfl]; simp [hlt]
    ·rw [if_neg hji, getD_set_ne _ (Ne.symm hji)]
   have hcount : (((listed.setIfInBounds i true).toList.take n).filter (fun b => !b)).length = f := by
    have h0' : (listed.toList.take n)[i]? = some false := by
     rw [List.getElem?_take_of_lt hin]
     simp [hlt] at h0 ⊢; exact h0
    have := lp (listed.toList.take n) i h0'
    rw [Array.toList_setIfInBounds, List.take_set]
    omega
   have hnone : ∀ j, n ≤ j → listed.getD j false = false := by
    intro j hj
    rcases Nat.lt_or_ge j l.length with h | h
    ·exact getD_both (hI.tail j hj (by rw [hsize]; exact h))
    ·rw [Array.getD_eq_getD_getElem?, Array.getElem?_eq_none (by omega)]; rfl
   have hst := hstep i o (fun j => listed.getD j false) a w hki hin ho' (getD_both h0) hall hlow hnone hcl inv
   rw [← hset] at hst
   refine wpOpIn_mono (fun a' w' h => ih _ a' w' (hI.set hi hin) (fun j hj => ?_) hcount h) hst
   have : (listed.setIfInBounds i true).getD j false = _ := congrFun hset j
   rw [this]; split
   ·rfl
   ·exact hlow j hj
 have hst : (fun j => (bk l.length k).getD j false) = fun j => decide (j < k) := funext fun j => qq _ _ _ (by omega)
 have hstart := main (n - k) (bk l.length k) a0 w0 ⟨by simp [bk], fun j oj hj hl e he hb => ?_, fun t ht htl => ?_⟩ (fun j hj => ?_) ?_ (by rw [hst]; exact h0)
 ·rwa [show n - k + (l.length - n) = l.length - k by omega] at hstart
 ·have h1 : (bk l.length k).getD j false = _ := congrFun hst j
  have h2 : (bk l.length k).getD e.on false = _ := congrFun hst e.on
  rw [h1] at hl; rw [h2]
  have := hbk j oj hj e he hb
  have := of_decide_eq_true hl
  exact decide_eq_true (by omega)
 ·rw [jY _ _ _ _ (by simpa using htl)]
  exact decide_eq_false (by omega)
 ·have h1 : (bk l.length k).getD j false = _ := congrFun hst j
  rw [h1]; exact decide_eq_true hj
 ·have : (bk l.length k).toList.take n = (List.range n).map fun i => decide (i < k) := by
   simp only [bk]
   rw [← List.map_take, List.take_range, Nat.min_eq_left hnl]
  rw [this, tY]
theorem ry {k : Nat} {a : Act} {w : World} (hkl : l.length ≤ k) (q : Q .normal a w) : wpAnyIn F.fz 0 P .any l.toArray Q (l.length - k) (bk l.length k) a w := by
 rw [show l.length - k = 0 by omega]
 refine ⟨?_, q⟩
 cases hrd : Region.ready .any l.toArray (bk l.length k) with
 | nil => rfl
 | cons j r =>
  have hj : j ∈ Region.ready .any l.toArray (bk l.length k) := by rw [hrd]; simp
  obtain ⟨h1, o, ho, _⟩ := mem_ready.1 hj
  have hjl : j < l.length := by have := (Array.getElem?_eq_some_iff.1 ho).1; simpa using this
  rw [jY _ _ _ _ hjl] at h1
  have := of_decide_eq_false h1; omega
theorem tM (hbk : nb l = true) : ∀ (r : List Oper) (k : Nat) (a : Act) (w : World), l.drop k = r → (∀ j, k ≤ j → oH l j = true) → wpListIn F.fz 0 P l.toArray Q r a w → wpAnyIn F.fz 0 P .any l.toArray Q (l.length - k) (bk l.length k) a w := by
 intro r
 induction r with
 | nil => intro k a w hr _ h; exact ry (List.drop_eq_nil_iff.1 hr) h
 | cons o r ih =>
  intro k a w hr hb h
  have hk : l[k]? = some o := by
   have := congrArg (·[0]?) hr
   simpa [List.getElem?_drop] using this
  have hr' : l.drop (k + 1) = r := by
   rw [← List.drop_drop, hr]; rfl
  have hkl := (List.getElem?_eq_some_iff.1 hk).1
  refine oO k (k + 1) (by omega) (by omega) hbk (hb _ (by omega)) (fun S a' w' => (S k = false → a' = a ∧ w' = w) ∧ (S k = true → wpListIn F.fz 0 P l.toArray Q r a' w')) ⟨fun _ => ⟨rfl, rfl⟩, fun h => by simp at h⟩ ?_ (fun S a' w' h1 _ hσ => ih (k + 1) a' w' hr' (fun j hj => hb j (by omega)) (hσ.2 (h1 k (by omega))))
  intro i o' S a' w' h1 h2 h3 h4 _ _ _ _ hσ
  obtain rfl : i = k := by omega
  rw [hk] at h3; cases h3
  obtain ⟨rfl, rfl⟩ := hσ.1 h4
  have hoA : l.toArray[i]? = some o := by simpa using hk
  unfold wpOpIn
  rw [hoA]
  dsimp only
  have hw : (if Region.wanted o (yielded l.toArray a'.tmps) then o.wpIn F.fz 0 P a' w' (wpListIn F.fz 0 P l.toArray Q r) Q else (∀ f, o.about P w' a'.eval = some f → F.fz.fn f) ∧ wpListIn F.fz 0 P l.toArray Q r (a'.put o.dst undef) w') := h
  have key : ∀ a2 w2, wpListIn F.fz 0 P l.toArray Q r a2 w2 → ((if i = i then true else S i) = false → a2 = a' ∧ w2 = w') ∧ ((if i = i then true else S i) = true → wpListIn F.fz 0 P l.toArray Q r a2 w2) := fun a2 w2 h2 => ⟨fun h => by simp at h, fun _ => h2⟩
  split
  ·rename_i hwt; rw [if_pos hwt] at hw; exact Oper.wpIn_mono key hw
  ·rename_i hwt; rw [if_neg hwt] at hw; exact ⟨hw.1, key _ _ hw.2⟩
end
theorem mo {Fc : Fence} {P : Program} {o : Oper} {a : Act} {w : World} {K : Act → World → Prop} {Q Q' : Exit → Act → World → Prop} (h : ∀ e a w, e ≠ .normal → Q e a w → Q' e a w) (hh : o.wpIn Fc 0 P a w K Q) : o.wpIn Fc 0 P a w K Q' := by
 have hl : LetsOut Q → LetsOut Q' := fun ⟨a, w, q⟩ => ⟨a, w, h _ _ _ (by simp) q⟩
 unfold Oper.wpIn at *
 refine ⟨hh.1, ?_⟩
 have hh := hh.2
 generalize (o.semAt Fc.round a.eval).run P w = r at *
 cases r with
 | ok x w' =>
  cases x <;> simp only [Oper.uponIn] at hh ⊢ <;>
   first
    | exact hh
    | exact ⟨hh.1, CallsIn.mono hh.2 (fun e w'' he => by cases e <;> first | exact he | exact h _ _ _ (by simp) he | exact hl he)⟩
    | exact ⟨hh.1, RoundIn.mono hh.2 (fun e w'' he => by cases e <;> first | exact he | exact h _ _ _ (by simp) he | exact hl he)⟩
 | halt x w' => cases x <;> simp only [Oper.uponIn] at hh ⊢ <;> first | exact hh | exact h _ _ _ (by simp) hh
theorem yI {F : Fr} {Q Q' : Exit → St → Prop} {e : Exit} {a : Act} {w : World} (he : e ≠ .normal) (h : ∀ e st, e ≠ .normal → Q e st → Q' e st) (q : Sq F Q e a w) : Sq F Q' e a w := by
 obtain ⟨st, μ, C, h1, h2⟩ := q; exact ⟨st, μ, C, h _ _ he h1, h2⟩
def SmA (F : Fr) (l : List Oper) (k : Nat) (Q : Exit → St → Prop) (st : St) : Prop := ∀ μ C a w, Sim F st μ C a w → wpAnyIn F.fz 0 F.P .any l.toArray (Sq F Q) (l.length - k) (bk l.length k) a w
section
variable {F : Fr} {l : List Oper} {Q : Exit → St → Prop} {st : St}
theorem qJ {id : Nat} (hm : F.P.follows .mixedOrders = true) (h : SmA F l 0 Q st) : Sm F (.region id l.toArray true) Q st := by
 intro μ C a w hs
 refine wpIn_region_any hm ?_
 have := h μ C a w.drew hs.drew
 have e : bk l.length 0 = Array.replicate l.toArray.size false := by
  apply Array.ext (by simp [bk])
  intro i h1 h2
  simp [bk]
 rw [e] at this
 simpa using this
theorem SmA.nil {k : Nat} (hn : l.length ≤ k) (q : Q .normal st) : SmA F l k Q st := fun μ C _ _ hs => ry hn ⟨st, μ, C, q, hs⟩
theorem SmA.one {k : Nat} {o : Oper} (hb : nb l = true) (hbar : oH l (k + 1) = true) (ho : l[k]? = some o) (h : SmL F l.toArray [o] (cZ (SmA F l (k + 1) Q) Q) st) : SmA F l k Q st := by
 obtain ⟨Q', hQ'⟩ : ∃ Q', Q' = cZ (SmA F l (k + 1) Q) Q := ⟨_, rfl⟩
 rw [← hQ'] at h
 have hQ1 : ∀ st', Q' .normal st' → SmA F l (k + 1) Q st' := fun st' q => by rw [hQ'] at q; exact q
 have hQ2 : ∀ e st', e ≠ .normal → Q' e st' → Q e st' := fun e st' he q => by rw [hQ'] at q; cases e <;> first | exact q | exact absurd rfl he
 intro μ C a w hs
 have hkl := (List.getElem?_eq_some_iff.1 ho).1
 refine oO k (k + 1) (by omega) (by omega) hb hbar (fun S a' w' => (S k = false → a' = a ∧ w' = w) ∧ (S k = true → wpAnyIn F.fz 0 F.P .any l.toArray (Sq F Q) (l.length - (k + 1)) (bk l.length (k + 1)) a' w')) ⟨fun _ => ⟨rfl, rfl⟩, fun h => by simp at h⟩ ?_ (fun S a' w' h1 _ hσ => hσ.2 (h1 k (by omega)))
 intro i o' S a' w' h1 h2 h3 h4 _ _ _ _ hσ
 obtain rfl : i = k := by omega
 rw [ho] at h3; cases h3
 obtain ⟨rfl, rfl⟩ := hσ.1 h4
 have hw := h μ C a' w' hs
 have hoA : l.toArray[i]? = some o := by simpa using ho
 unfold wpOpIn
 rw [hoA]
 dsimp only
 have hw : (if Region.wanted o (yielded l.toArray a'.tmps) then o.wpIn F.fz 0 F.P a' w' (fun a2 w2 => Sq F Q' .normal a2 w2) (Sq F Q') else (∀ f, o.about F.P w' a'.eval = some f → F.fz.fn f) ∧ Sq F Q' .normal (a'.put o.dst undef) w') := hw
 have key : ∀ a2 w2, Sq F Q' .normal a2 w2 → ((if i = i then true else S i) = false → a2 = a' ∧ w2 = w') ∧ ((if i = i then true else S i) = true → wpAnyIn F.fz 0 F.P .any l.toArray (Sq F Q) (l.length - (i + 1)) (bk l.length (i + 1)) a2 w2) := by
  intro a2 w2 h2
  refine ⟨fun h => by simp at h, fun _ => ?_⟩
  obtain ⟨st', μ', C', hq, hs'⟩ := h2
  exact (hQ1 _ hq) μ' C' a2 w2 hs'
 split
 ·rename_i hwt
  rw [if_pos hwt] at hw
  exact mo (fun e a w he q => yI he hQ2 q) (Oper.wpIn_mono key hw)
 ·rename_i hwt
  rw [if_neg hwt] at hw
  exact ⟨hw.1, key _ _ hw.2⟩
end
end
section
open Go.RowKit
def dZ (F : Fr) (G : Nat → Option D) (h0 : List (Nat × Blk)) (o : Oper) (env : List (Nat × V)) (x : V) : Prop :=
 ∀ μ C a w nx h, Sim F ⟨[], h, nx⟩ μ C a w → (∀ l k, look h0 l = some k → look h l = some k) → (∀ y ∈ o.op.operands, ∀ v, evD G env y = some v → aN μ C v (a.eval y)) →
  ∀ K Q, (∀ u w' C', More w C w' C' → aN μ C' x u → K (a.put o.dst u) w') → o.wp F.P a w K Q
def gX (F : Fr) (G : Nat → Option D) (o : Oper) (env : List (Nat × V)) (k : Blk) (res : Nat → V) : Prop :=
 ∀ μ C a w nx h, Sim F ⟨[], h, nx⟩ μ C a w → (∀ y ∈ o.op.operands, ∀ v, evD G env y = some v → aN μ C v (a.eval y)) → ∀ m, m < nx → μ m = none →
  ∀ K Q, (∀ u w' μ' C', Sim F ⟨[], (m, k) :: h, nx⟩ μ' C' a w' → (∀ b o u, C b o u → C' b o u) → (∀ l p, μ l = some p → μ' l = some p) → (∀ l, l ≠ m → μ' l = μ l) → aN μ' C' (res m) u → K (a.put o.dst u) w') → o.wp F.P a w K Q
def qF (F : Fr) (G : Nat → Option D) (o : Oper) (env : List (Nat × V)) (m : Nat) (k0 kb : Blk) : Prop :=
 ∀ μ C a w nx h, Sim F ⟨[], h, nx⟩ μ C a w → look h m = some k0 → (∀ y ∈ o.op.operands, ∀ v, evD G env y = some v → aN μ C v (a.eval y)) →
  ∀ K Q, (∀ w', Sim F ⟨[], rep h m kb, nx⟩ μ C a w' → K (a.put none undef) w') → o.wp F.P a w K Q
def aF (F : Fr) (G : Nat → Option D) (N : Nat) (ops : Array Oper) (h0 : List (Nat × Blk)) : List Oper → List (Nat × V) → List (Nat × Blk) → Nat → (List (Nat × V) → List (Nat × Blk) → Nat → Prop) → Prop
 | [], env, al, nx, K => K env al nx
 | o :: r, env, al, nx, K => (∃ t, o.dst = some t ∧ t < N ∧
  ((∃ x, ((bU ops env o.guard = some true ∧ dZ F G h0 o env x) ∨ (bU ops env o.guard = some false ∧ x = .d (.v undef))) ∧ aF F G N ops h0 r ((t, x) :: env) al nx K) ∨
   (∃ k res, bU ops env o.guard = some true ∧ gX F G o env k res ∧ aF F G N ops h0 r ((t, res nx) :: env) ((nx, k) :: al) (nx + 1) K))) ∨
  (o.dst = none ∧ ((bU ops env o.guard = some false ∧ aF F G N ops h0 r env al nx K) ∨
   (∃ m k0 kb, bU ops env o.guard = some true ∧ qF F G o env m k0 kb ∧ (∃ y ∈ o.op.operands, ∃ i off, evD G env y = some (.ref m i off)) ∧ (al.filter fun e => e.1 == m) = [(m, k0)] ∧ aF F G N ops h0 r env ((m, kb) :: al) nx K)))
abbrev bY := Option Tmp × V × Option (Nat × Blk)
def dw (env : List (Nat × V)) (ds : List bY) : List (Nat × V) := (ds.filterMap fun d => d.1.map fun t => (t, d.2.1)).reverse ++ env
def gk (ds : List bY) : List (Nat × Blk) := (ds.filterMap fun d => d.2.2).reverse
def uW (l : List Oper) (k n : Nat) : Bool :=
 decide (((l.drop k).take (n - k)).filterMap (·.dst)).Nodup && ((l.drop k).take (n - k)).zipIdx.all fun (o, i) => (o.looksAt l.toArray).all fun s => ((l.drop k).take (n - k)).zipIdx.all fun (oj, j) =>
  oj.dst != some s || ((!decide (j < i) || o.after.any fun e => Region.binds .any e && e.on == k + j) && (!decide (i < j) || oj.after.any fun e => Region.binds .any e && e.on == k + i))
def yA (l : List Oper) (n : Nat) : Bool := uW l 0 n
section
variable {F : Fr} {G : Nat → Option D} {N : Nat} {ops : Array Oper} {h0 : List (Nat × Blk)}
def u4 (F : Fr) (G : Nat → Option D) (N : Nat) (ops : Array Oper) (h0 : List (Nat × Blk)) (env0 : List (Nat × V)) (nx nx' : Nat) (all : List bY) (p : Nat) (o : Oper) (d : bY) : Prop :=
 o.dst = d.1 ∧ (∀ t, d.1 = some t → t < N) ∧
 ((d.1.isSome = true ∧ d.2.2 = none ∧ ((bU ops (dw env0 (all.take p)) o.guard = some true ∧ dZ F G h0 o (dw env0 (all.take p)) d.2.1) ∨ (bU ops (dw env0 (all.take p)) o.guard = some false ∧ d.2.1 = .d (.v undef)))) ∨
  (d.1.isSome = true ∧ ∃ m k res, d.2.2 = some (m, k) ∧ d.2.1 = res m ∧ bU ops (dw env0 (all.take p)) o.guard = some true ∧ gX F G o (dw env0 (all.take p)) k res ∧ nx ≤ m ∧ m < nx') ∨
  (d.1 = none ∧ d.2.2 = none ∧ bU ops (dw env0 (all.take p)) o.guard = some false) ∨
  (d.1 = none ∧ ∃ m k0 kb, d.2.2 = some (m, kb) ∧ bU ops (dw env0 (all.take p)) o.guard = some true ∧ qF F G o (dw env0 (all.take p)) m k0 kb ∧ (∃ y ∈ o.op.operands, ∃ i off, evD G (dw env0 (all.take p)) y = some (.ref m i off)) ∧
   (gk (all.take p)).filter (fun e => e.1 == m) = [(m, k0)]))
theorem qk (env0 : List (Nat × V)) (pre : List bY) (t : Tmp) (x : V) (b : Option (Nat × Blk)) : (t, x) :: dw env0 pre = dw env0 (pre ++ [(some t, x, b)]) := by simp [dw]
theorem qm (env0 : List (Nat × V)) (pre : List bY) (x : V) (b : Option (Nat × Blk)) : dw env0 pre = dw env0 (pre ++ [(none, x, b)]) := by simp [dw]
theorem rN (pre : List bY) (t : Option Tmp) (x : V) (b : Nat × Blk) : b :: gk pre = gk (pre ++ [(t, x, some b)]) := by simp [gk]
theorem rD (pre : List bY) (t : Option Tmp) (x : V) : gk pre = gk (pre ++ [(t, x, none)]) := by simp [gk]
theorem wv : ∀ (l : List Oper) (env0 : List (Nat × V)) (pre : List bY) (nx : Nat) (K : List (Nat × V) → List (Nat × Blk) → Nat → Prop), aF F G N ops h0 l (dw env0 pre) (gk pre) nx K →
  ∃ (ds : List bY) (nx' : Nat), ds.length = l.length ∧ nx ≤ nx' ∧ K (dw env0 (pre ++ ds)) (gk (pre ++ ds)) nx' ∧
   (∀ (i : Nat) (o : Oper) (d : bY), l[i]? = some o → ds[i]? = some d → u4 F G N ops h0 env0 nx nx' (pre ++ ds) (pre.length + i) o d) ∧
   (∀ (i j : Nat) (di dj : bY) (m : Nat) (k k' : Blk), ds[i]? = some di → ds[j]? = some dj → di.1.isSome = true → dj.1.isSome = true → di.2.2 = some (m, k) → dj.2.2 = some (m, k') → i = j) := by
 intro l
 induction l with
 | nil => intro env0 pre nx K h; exact ⟨[], nx, rfl, Nat.le_refl _, by simpa [aF] using h, by simp, by simp⟩
 | cons o l ih =>
  intro env0 pre nx K h
  have wrap : ∀ (d0 : bY) (nx1 : Nat), nx ≤ nx1 → (∀ rest nx', nx1 ≤ nx' → u4 F G N ops h0 env0 nx nx' (pre ++ d0 :: rest) pre.length o d0) → (∀ m k, d0.1.isSome = true → d0.2.2 = some (m, k) → m < nx1) → aF F G N ops h0 l (dw env0 (pre ++ [d0])) (gk (pre ++ [d0])) nx1 K →
    ∃ (ds : List bY) (nx' : Nat), ds.length = (o :: l).length ∧ nx ≤ nx' ∧ K (dw env0 (pre ++ ds)) (gk (pre ++ ds)) nx' ∧
   (∀ (i : Nat) (oi : Oper) (d : bY), (o :: l)[i]? = some oi → ds[i]? = some d → u4 F G N ops h0 env0 nx nx' (pre ++ ds) (pre.length + i) oi d) ∧
   (∀ (i j : Nat) (di dj : bY) (m : Nat) (k k' : Blk), ds[i]? = some di → ds[j]? = some dj → di.1.isSome = true → dj.1.isSome = true → di.2.2 = some (m, k) → dj.2.2 = some (m, k') → i = j) := by
   intro d0 nx1 hnx1 hstep hlt hh
   obtain ⟨ds, nx', h1, h2, h3, h4, h5⟩ := ih env0 _ nx1 K hh
   have hassoc : pre ++ [d0] ++ ds = pre ++ d0 :: ds := by simp
   rw [hassoc] at h3 h4
   have hmake : ∀ (j : Nat) (dj : bY) (m : Nat) (k : Blk), ds[j]? = some dj → dj.1.isSome = true → dj.2.2 = some (m, k) → nx1 ≤ m := by
    intro j dj m k hj hs hm
    have hjl : j < l.length := by rw [← h1]; exact (List.getElem?_eq_some_iff.1 hj).1
    obtain ⟨_, _, hk⟩ := h4 j l[j] dj (by simp [hjl]) hj
    rcases hk with ⟨_, hk, _⟩ | ⟨_, m', k', _, b1, _, _, _, b5, _⟩ | ⟨hk, _⟩ | ⟨hk, _⟩
    ·rw [hk] at hm; cases hm
    ·rw [b1] at hm; cases hm; exact b5
    ·rw [hk] at hs; cases hs
    ·rw [hk] at hs; cases hs
   refine ⟨d0 :: ds, nx', by simp [h1], by omega, h3, ?_, ?_⟩
   ·intro i oi d hi hd
    cases i with
    | zero => simp at hi hd; subst hi; subst hd; exact hstep ds nx' h2
    | succ i =>
     have h6 := h4 i oi d (by simpa using hi) (by simpa using hd)
     rw [show (pre ++ [d0]).length + i = pre.length + (i + 1) by simp; omega] at h6
     obtain ⟨g1, g2, g3⟩ := h6
     refine ⟨g1, g2, ?_⟩
     rcases g3 with g3 | ⟨hs, m, k, res, b1, b2, b3, b4, b5, b6⟩ | g3 | g3
     ·exact .inl g3
     ·exact .inr (.inl ⟨hs, m, k, res, b1, b2, b3, b4, by omega, b6⟩)
     ·exact .inr (.inr (.inl g3))
     ·exact .inr (.inr (.inr g3))
   ·intro i j di dj m k k' hi hj hsi hsj hmi hmj
    cases i with
    | zero =>
     simp at hi; subst hi
     cases j with
     | zero => rfl
     | succ j =>
      have := hlt m k hsi hmi
      have := hmake j dj m k' (by simpa using hj) hsj hmj
      omega
    | succ i =>
     cases j with
     | zero =>
      simp at hj; subst hj
      have := hlt m k' hsj hmj
      have := hmake i di m k (by simpa using hi) hsi hmi
      omega
     | succ j => rw [h5 i j di dj m k k' (by simpa using hi) (by simpa using hj) hsi hsj hmi hmj]
  have htake : ∀ (d0 : bY) (rest : List bY), (pre ++ d0 :: rest).take pre.length = pre := fun d0 rest => by simp
  rcases h with ⟨t, ht, htN, h⟩ | ⟨ht, h⟩
  ·rcases h with ⟨x, hx, h⟩ | ⟨k, res, hg, hk, h⟩
   ·refine wrap (some t, x, none) nx (Nat.le_refl _) (fun rest nx' _ => ⟨ht, fun t' e => by cases e; exact htN, .inl ⟨rfl, rfl, by rw [htake]; exact hx⟩⟩) (fun m k _ h => by cases h) ?_
    rw [← qk, ← rD]; exact h
   ·refine wrap (some t, res nx, some (nx, k)) (nx + 1) (by omega) (fun rest nx' hn => ⟨ht, fun t' e => by cases e; exact htN, .inr (.inl ⟨rfl, nx, k, res, rfl, rfl, by rw [htake]; exact hg, by rw [htake]; exact hk, Nat.le_refl _, by omega⟩)⟩) (fun m k _ h => by cases h; omega) ?_
    rw [← qk, ← rN]; exact h
  ·rcases h with ⟨hg, h⟩ | ⟨m, k0, kb, hg, hp, hy, hf, h⟩
   ·refine wrap (none, .any, none) nx (Nat.le_refl _) (fun rest nx' _ => ⟨ht, (fun t' e => by cases e), .inr (.inr (.inl ⟨rfl, rfl, by rw [htake]; exact hg⟩))⟩) (fun m k h => by cases h) ?_
    rw [← qm, ← rD]; exact h
   ·refine wrap (none, .any, some (m, kb)) nx (Nat.le_refl _) (fun rest nx' _ => ⟨ht, (fun t' e => by cases e), .inr (.inr (.inr ⟨rfl, m, k0, kb, rfl, by rw [htake]; exact hg, by rw [htake]; exact hp, by rw [htake]; exact hy, by rw [htake]; exact hf⟩))⟩) (fun m k h => by cases h) ?_
    rw [← qm, ← rN]; exact h
theorem mY : ∀ (ds : List bY) (env0 : List (Nat × V)) (t : Nat) (x : V), look (dw env0 ds) t = some x →
  (∃ (i : Nat) (d : bY), ds[i]? = some d ∧ d.1 = some t ∧ d.2.1 = x) ∨ (look env0 t = some x ∧ ∀ (i : Nat) (d : bY), ds[i]? = some d → d.1 ≠ some t) := by
 have key : ∀ (r : List (Nat × V)) (env0 : List (Nat × V)) (t : Nat) (x : V), look (r ++ env0) t = some x → (t, x) ∈ r ∨ (look env0 t = some x ∧ ∀ e ∈ r, e.1 ≠ t) := by
  intro r
  induction r with
  | nil => intro env0 t x h; exact .inr ⟨h, by simp⟩
  | cons e r ih =>
   obtain ⟨k, y⟩ := e
   intro env0 t x h
   simp only [List.cons_append, look] at h
   split at h
   ·rename_i e; cases h; subst e; exact .inl (by simp)
   ·rename_i e
    rcases ih env0 t x h with h | ⟨h1, h2⟩
    ·exact .inl (by simp [h])
    ·refine .inr ⟨h1, fun e' he' => ?_⟩
     rcases List.mem_cons.1 he' with rfl | he'
     ·exact e
     ·exact h2 e' he'
 intro ds env0 t x h
 rcases key _ _ _ _ h with h | ⟨h1, h2⟩
 ·left
  rw [List.mem_reverse, List.mem_filterMap] at h
  obtain ⟨d, hd, e⟩ := h
  simp only [Option.map_eq_some_iff] at e
  obtain ⟨t', ht', e⟩ := e
  cases e
  obtain ⟨i, hi⟩ := List.mem_iff_getElem?.1 hd
  exact ⟨i, d, hi, ht', rfl⟩
 ·refine .inr ⟨h1, fun i d hi e => ?_⟩
  exact h2 (t, d.2.1) (by rw [List.mem_reverse, List.mem_filterMap]; exact ⟨d, List.mem_of_getElem? hi, by rw [e]; rfl⟩) rfl
theorem wI {α : Type} {p : List α → Prop} (h0 : p []) (h1 : ∀ l a, p l → p (l ++ [a])) (l : List α) : p l := by
 have : ∀ r : List α, p r.reverse := by
  intro r
  induction r with
  | nil => simpa using h0
  | cons a r ih => simpa using h1 _ a ih
 simpa using this l.reverse
theorem wn : ∀ (ds : List bY) (h0 : List (Nat × Blk)) (l : Nat) (k : Blk), look (gk ds ++ h0) l = some k →
  (∃ (i : Nat) (d : bY), ds[i]? = some d ∧ d.2.2 = some (l, k) ∧ ∀ (j : Nat) (dj : bY) (k' : Blk), i < j → ds[j]? = some dj → dj.2.2 ≠ some (l, k')) ∨ look h0 l = some k := by
 refine wI ?_ ?_
 ·intro h0 l k h; exact .inr (by simpa [gk] using h)
 ·intro ds d ih h0 l k h
  have hlift : (∃ (i : Nat) (d' : bY), ds[i]? = some d' ∧ d'.2.2 = some (l, k) ∧ ∀ (j : Nat) (dj : bY) (k' : Blk), i < j → ds[j]? = some dj → dj.2.2 ≠ some (l, k')) → (∀ k', d.2.2 ≠ some (l, k')) →
    ∃ (i : Nat) (d' : bY), (ds ++ [d])[i]? = some d' ∧ d'.2.2 = some (l, k) ∧ ∀ (j : Nat) (dj : bY) (k' : Blk), i < j → (ds ++ [d])[j]? = some dj → dj.2.2 ≠ some (l, k') := by
   rintro ⟨i, d', g1, g2, g3⟩ hd
   have hil := (List.getElem?_eq_some_iff.1 g1).1
   refine ⟨i, d', by rw [List.getElem?_append_left hil]; exact g1, g2, fun j dj k' hij hj => ?_⟩
   rcases Nat.lt_or_ge j ds.length with hlt | hge
   ·rw [List.getElem?_append_left hlt] at hj; exact g3 j dj k' hij hj
   ·rw [List.getElem?_append_right hge] at hj
    have : j - ds.length = 0 := by have := (List.getElem?_eq_some_iff.1 hj).1; simp at this; omega
    rw [this] at hj; simp at hj; subst hj; exact hd k'
  cases hb : d.2.2 with
  | none =>
   have e : gk (ds ++ [d]) = gk ds := by simp [gk, hb]
   rw [e] at h
   exact (ih h0 l k h).imp (fun g => hlift g fun k' e => by rw [hb] at e; cases e) id
  | some b =>
   obtain ⟨l', k1⟩ := b
   have e : gk (ds ++ [d]) = (l', k1) :: gk ds := by simp [gk, hb]
   rw [e, List.cons_append] at h
   simp only [look] at h
   split at h
   ·rename_i e; subst e; cases h
    refine .inl ⟨ds.length, d, by simp, hb, fun j dj k' hij hj => ?_⟩
    have := (List.getElem?_eq_some_iff.1 hj).1
    simp at this; omega
   ·rename_i e'
    exact (ih h0 l k h).imp (fun g => hlift g fun k' e => by rw [hb] at e; cases e; exact e' rfl) id
theorem rK : ∀ (ds : List bY) (m : Nat) (k0 : Blk), (gk ds).filter (fun e => e.1 == m) = [(m, k0)] →
  (∃ (i : Nat) (d : bY), ds[i]? = some d ∧ d.2.2 = some (m, k0)) ∧ ∀ (i j : Nat) (di dj : bY) (k k' : Blk), ds[i]? = some di → ds[j]? = some dj → di.2.2 = some (m, k) → dj.2.2 = some (m, k') → i = j := by
 intro ds m k0 h
 have h1 : (ds.filterMap fun d => d.2.2).filter (fun e => e.1 == m) = [(m, k0)] := by
  have := congrArg List.reverse h
  simpa [gk, List.filter_reverse] using this
 clear h
 have key : ∀ (ds : List bY) (r : List (Nat × Blk)), (ds.filterMap fun d => d.2.2).filter (fun e => e.1 == m) = r → (r = [] → ∀ (i : Nat) (d : bY) (k : Blk), ds[i]? = some d → d.2.2 ≠ some (m, k)) ∧
   (∀ x, r = [x] → (∃ (i : Nat) (d : bY), ds[i]? = some d ∧ d.2.2 = some x) ∧ ∀ (i j : Nat) (di dj : bY) (k k' : Blk), ds[i]? = some di → ds[j]? = some dj → di.2.2 = some (m, k) → dj.2.2 = some (m, k') → i = j) := by
  intro ds
  induction ds with
  | nil => intro r hr; subst hr; exact ⟨fun _ i d k h => by simp at h, fun x h => by simp at h⟩
  | cons d ds ih =>
   intro r hr
   by_cases hd : ∃ k, d.2.2 = some (m, k)
   ·obtain ⟨k, hk⟩ := hd
    have e : ((d :: ds).filterMap fun d => d.2.2).filter (fun e => e.1 == m) = (m, k) :: (ds.filterMap fun d => d.2.2).filter (fun e => e.1 == m) := by simp [hk]
    rw [e] at hr
    subst hr
    refine ⟨fun h => (by cases h), fun x hx => ?_⟩
    injection hx with hx1 hx2
    subst hx1
    have hnone := (ih _ rfl).1 hx2
    refine ⟨⟨0, d, rfl, hk⟩, fun i j di dj k1 k2 hi hj h1 h2 => ?_⟩
    cases i with
    | zero =>
     cases j with
     | zero => rfl
     | succ j => exact absurd h2 (hnone j dj k2 (by simpa using hj))
    | succ i => exact absurd h1 (hnone i di k1 (by simpa using hi))
   ·have e : ((d :: ds).filterMap fun d => d.2.2).filter (fun e => e.1 == m) = (ds.filterMap fun d => d.2.2).filter (fun e => e.1 == m) := by
     cases hb : d.2.2 with
     | none => simp [hb]
     | some b =>
      obtain ⟨l', k1⟩ := b
      have : l' ≠ m := fun e => hd ⟨k1, by rw [hb, e]⟩
      simp [hb, this]
    rw [e] at hr
    obtain ⟨g1, g2⟩ := ih r hr
    refine ⟨fun h0 i d' k hi => ?_, fun x hx => ?_⟩
    ·cases i with
     | zero => simp at hi; subst hi; exact fun e => hd ⟨k, e⟩
     | succ i => exact g1 h0 i d' k (by simpa using hi)
    ·obtain ⟨⟨i, d', a1, a2⟩, g3⟩ := g2 x hx
     refine ⟨⟨i + 1, d', by simpa using a1, a2⟩, fun i j di dj k1 k2 hi hj h1 h2 => ?_⟩
     cases i with
     | zero => simp at hi; subst hi; exact absurd ⟨k1, h1⟩ hd
     | succ i =>
      cases j with
      | zero => simp at hj; subst hj; exact absurd ⟨k2, h2⟩ hd
      | succ j => rw [g3 i j di dj k1 k2 (by simpa using hi) (by simpa using hj) h1 h2]
 exact (key ds _ h1).2 _ rfl
structure Mid (F : Fr) (st : St) (ds : List bY) (nx : Nat) (μ0 : Nat → Option Place) (S : Nat → Bool) (a : Act) (w : World) (μ : Nat → Option Place) (C : aK) (h : List (Nat × Blk)) : Prop where
 sim : Sim F ⟨[], h, nx⟩ μ C a w
 old : ∀ l k, look st.h l = some k → look h l = some k
 done : ∀ (i : Nat) (d : bY), ds[i]? = some d → S i = true → ∀ t, d.1 = some t → aN μ C d.2.1 (a.tmps.getD t undef)
 made : ∀ (i : Nat) (d : bY), ds[i]? = some d → S i = true → ∀ m k, d.2.2 = some (m, k) → look h m = some k ∨ ∃ (j : Nat) (dj : bY) (k' : Blk), i < j ∧ ds[j]? = some dj ∧ S j = true ∧ dj.2.2 = some (m, k') ∧ look h m = some k'
 rest : ∀ t x, look st.env t = some x → (∀ (i : Nat) (d : bY), ds[i]? = some d → S i = true → d.1 ≠ some t) → aN μ C x (a.tmps.getD t undef)
 fresh : ∀ (i : Nat) (d : bY), ds[i]? = some d → S i = false → d.1.isSome = true → ∀ m k, d.2.2 = some (m, k) → μ m = none
variable {Q : Exit → St → Prop} {st : St} {P : Program}
theorem SmA.head {l : List Oper} (hF : Env F P G N) (hN : St.small N st) (k n : Nat) (hkn : k ≤ n) (hnl : n ≤ l.length) (hpb : l.all mI = true) (hbk : nb l = true) (hbar : oH l n = true) (hD : uW l k n = true)
  (h : aF F G N l.toArray st.h ((l.drop k).take (n - k)) st.env [] st.nx fun env al nx => SmA F l n Q ⟨env, al ++ st.h, nx⟩) : SmA F l k Q st := by
 intro μ0 C0 a0 w0 hs0
 have hF' := hF
 obtain ⟨rfl, rfl, hG⟩ := hF
 have hh : aF F G F.N l.toArray st.h ((l.drop k).take (n - k)) (dw st.env []) (gk []) st.nx fun env al nx => SmA F l n Q ⟨env, al ++ st.h, nx⟩ := by simpa [dw, gk] using h
 obtain ⟨ds, nx, hlen, hnx, hK, hall, huniq⟩ := wv _ _ _ _ _ hh
 simp only [List.nil_append, List.length_nil, Nat.zero_add] at hK hall
 obtain ⟨sg, hs⟩ : ∃ sg, sg = (l.drop k).take (n - k) := ⟨_, rfl⟩
 have hsl : sg.length = n - k := by rw [hs, List.length_take, List.length_drop]; omega
 have hsg : ∀ i, i < n - k → sg[i]? = l[k + i]? := fun i hi => by rw [hs, List.getElem?_take_of_lt hi, List.getElem?_drop]
 unfold uW at hD
 rw [← hs] at hlen hall hD
 have hdn : ds.length = n - k := by rw [hlen, hsl]
 simp only [Bool.and_eq_true] at hD
 obtain ⟨hD1, hD2⟩ := hD
 have hnodup := of_decide_eq_true hD1
 have hopAt : ∀ (i : Nat) (d : bY), ds[i]? = some d → ∃ o, sg[i]? = some o ∧ u4 F G F.N l.toArray st.h st.env st.nx nx ds i o d := by
  intro i d hi
  have hil : i < sg.length := by rw [← hlen]; exact (List.getElem?_eq_some_iff.1 hi).1
  exact ⟨_, List.getElem?_eq_getElem hil, hall i _ d (List.getElem?_eq_getElem hil) hi⟩
 have hdd : ∀ (i j : Nat) (di dj : bY) (t : Tmp), ds[i]? = some di → ds[j]? = some dj → di.1 = some t → dj.1 = some t → i = j := by
  intro i j di dj t hi hj e e'
  obtain ⟨oi, h1, h2, _⟩ := hopAt i di hi
  obtain ⟨oj, h3, h4, _⟩ := hopAt j dj hj
  exact kQ sg hnodup i j _ _ t h1 h3 (h2.trans e) (h4.trans e')
 have hput : ∀ (i : Nat) (d : bY) (m : Nat) (kb : Blk), ds[i]? = some d → d.1 = none → d.2.2 = some (m, kb) → st.nx ≤ m ∧ ∃ (j : Nat) (dj : bY) (k0 : Blk), j < i ∧ ds[j]? = some dj ∧ dj.1.isSome = true ∧ dj.2.2 = some (m, k0) ∧ (∀ (j' : Nat) (d' : bY) (k' : Blk), j' < i → ds[j']? = some d' → d'.2.2 = some (m, k') → j' = j) := by
  intro i
  induction i using Nat.strongRecOn with
  | _ i ih =>
  intro d m kb hi hdn hm
  obtain ⟨o, _, _, _, hk⟩ := hopAt i d hi
  rcases hk with ⟨hs', _⟩ | ⟨hs', _⟩ | ⟨_, hk, _⟩ | ⟨_, m', k0, kb', b1, _, _, _, hf⟩
  ·rw [hdn] at hs'; cases hs'
  ·rw [hdn] at hs'; cases hs'
  ·rw [hk] at hm; cases hm
  ·rw [b1] at hm; cases hm
   obtain ⟨⟨j, dj, g1, g2⟩, g3⟩ := rK _ _ _ hf
   have hji : j < i := by have := (List.getElem?_eq_some_iff.1 g1).1; rw [List.length_take] at this; omega
   rw [List.getElem?_take_of_lt hji] at g1
   have huq : ∀ (j' : Nat) (d' : bY) (k' : Blk), j' < i → ds[j']? = some d' → d'.2.2 = some (m, k') → j' = j := fun j' d' k' h1 h2 h3 =>
    g3 j' j d' dj k' k0 (by rw [List.getElem?_take_of_lt h1]; exact h2) (by rw [List.getElem?_take_of_lt hji]; exact g1) h3 g2
   cases hdj : dj.1 with
   | none =>
    obtain ⟨_, j2, dj2, k2, a1, a2, _, a4, _⟩ := ih j hji dj m k0 g1 hdj g2
    have := huq j2 dj2 k2 (by omega) a2 a4
    omega
   | some t =>
    obtain ⟨oj, _, _, _, hkj⟩ := hopAt j dj g1
    rcases hkj with ⟨_, hkj, _⟩ | ⟨_, m', k', res, c1, _, _, _, c5, _⟩ | ⟨hkj, _⟩ | ⟨hkj, _⟩
    ·rw [hkj] at g2; cases g2
    ·rw [c1] at g2; cases g2
     exact ⟨c5, j, dj, k0, hji, g1, by rw [hdj]; rfl, c1, huq⟩
    ·rw [hkj] at hdj; cases hdj
    ·rw [hkj] at hdj; cases hdj
 have hafter : ∀ (i j : Nat) (di dj : bY) (m : Nat) (k k' : Blk), ds[i]? = some di → ds[j]? = some dj → di.1 = none → di.2.2 = some (m, k) → dj.2.2 = some (m, k') → j ≤ i := by
  intro i j di dj m k k' hi hj hdn hm hm'
  rcases Nat.lt_or_ge i j with hlt | hge
  ·exfalso
   obtain ⟨_, j0, d0, k0, a1, a2, a3, a4, a5⟩ := hput i di m k hi hdn hm
   cases hdj : dj.1 with
   | none =>
    obtain ⟨_, j1, d1, k1, b1, b2, b3, b4, b5⟩ := hput j dj m k' hj hdj hm'
    have e1 := b5 i di k hlt hi hm
    have e2 := b5 j0 d0 k0 (by omega) a2 a4
    omega
   | some t =>
    have := huniq j j0 dj d0 m k' k0 hj a2 (by rw [hdj]; rfl) a3 hm' a4
    omega
  ·exact hge
 refine oO (P := F.P) k n hkn hnl hbk hbar (fun S a w => ∃ μ C h, Mid F st ds nx μ0 (fun j => S (k + j)) a w μ C h) ?_ ?_ ?_
 ·refine ⟨μ0, C0, st.h, ?_, fun _ _ h => h, fun _ _ _ h => absurd (of_decide_eq_true h) (by omega), fun _ _ _ h => absurd (of_decide_eq_true h) (by omega), fun t x ht _ => hs0.env t x ht, fun i d hi _ hs' m k hm => ?_⟩
  ·exact hs0.less (fun t x h => by simp [look] at h) (fun _ _ h => h) hnx
  ·obtain ⟨_, _, _, _, h3⟩ := hopAt i d hi
   rcases h3 with ⟨_, h3, _⟩ | ⟨_, m', k', _, b1, _, _, _, b5, _⟩ | ⟨h3, _⟩ | ⟨h3, _⟩
   ·rw [h3] at hm; cases hm
   ·rw [b1] at hm; cases hm; exact hs0.nx _ b5
   ·rw [h3] at hs'; cases hs'
   ·rw [h3] at hs'; cases hs'
 ·intro i0 o S0 a w hki hin0 ho hSi hdep0 _ _ hcl0 hσ
  refine zm (List.all_eq_true.1 hpb o (List.mem_of_getElem? ho)) ho ?_
  obtain ⟨i, rfl⟩ : ∃ i, i0 = k + i := ⟨i0 - k, by omega⟩
  have hin : i < n - k := by omega
  obtain ⟨S, hS⟩ : ∃ S : Nat → Bool, S = fun j => S0 (k + j) := ⟨_, rfl⟩
  have hSe : ∀ j, S j = S0 (k + j) := fun j => by rw [hS]
  rw [← hSe] at hSi
  have hfun : (fun j => if k + j = k + i then true else S0 (k + j)) = fun j => if j = i then true else S j := by
   funext j; rw [hSe]; simp
  have hdep : ∀ (j : Nat) (e : Edge), e ∈ o.after → Region.binds .any e = true → e.on = k + j → S j = true := fun j e he hb e1 => by rw [hSe, ← e1]; exact hdep0 e he hb
  have hcl : ∀ (j m : Nat) (oj : Oper), l[k + j]? = some oj → S j = true → ∀ e ∈ oj.after, Region.binds .any e = true → e.on = k + m → S m = true := fun j m oj hj hl e he hb e1 => by rw [hSe] at hl ⊢; rw [← e1]; exact hcl0 _ oj hj hl e he hb
  simp only [hfun]
  rw [← hS] at hσ
  obtain ⟨μ, C, h, M⟩ := hσ
  have hil : i < ds.length := by omega
  obtain ⟨d, hd⟩ : ∃ d, ds[i]? = some d := ⟨ds[i], List.getElem?_eq_getElem hil⟩
  have hoT : sg[i]? = some o := by rw [hsg i hin]; exact ho
  obtain ⟨hdst, hdN, hkind⟩ := hall i o d hoT hd
  have hz : (o, i) ∈ sg.zipIdx := by rw [List.mem_zipIdx_iff_getElem?]; exact hoT
  have hlook := List.all_eq_true.1 hD2 (o, i) hz
  have hslot : ∀ s ∈ o.looksAt l.toArray, ∀ v, look (dw st.env (ds.take i)) s = some v → aN μ C v (a.tmps.getD s undef) := by
   intro s hs v hv
   have h1 := List.all_eq_true.1 hlook s hs
   rcases mY _ _ _ _ hv with ⟨j, dj, hj, hjs, rfl⟩ | ⟨hv, hno⟩
   ·have hji : j < i := by have := (List.getElem?_eq_some_iff.1 hj).1; rw [List.length_take] at this; omega
    rw [List.getElem?_take_of_lt hji] at hj
    have hjl : j < sg.length := by omega
    have hoj := hall j _ dj (List.getElem?_eq_getElem hjl) hj
    have hzj : (sg[j], j) ∈ sg.zipIdx := by rw [List.mem_zipIdx_iff_getElem?]; exact List.getElem?_eq_getElem hjl
    have h2 := List.all_eq_true.1 h1 _ hzj
    simp only [hoj.1, hjs, bne_self_eq_false, Bool.false_or, Bool.and_eq_true, hji, decide_true, Bool.not_true] at h2
    obtain ⟨e, he, hb⟩ := Array.any_eq_true'.1 h2.1
    simp only [Bool.and_eq_true, beq_iff_eq] at hb
    exact M.done j dj hj (hdep j e he hb.1 hb.2) s hjs
   ·refine M.rest s v hv fun j dj hj hSj e => ?_
    have hjl : j < sg.length := by rw [← hlen]; exact (List.getElem?_eq_some_iff.1 hj).1
    have hjn : j < n - k := by omega
    have hoj := hall j _ dj (List.getElem?_eq_getElem hjl) hj
    have hzj : (sg[j], j) ∈ sg.zipIdx := by rw [List.mem_zipIdx_iff_getElem?]; exact List.getElem?_eq_getElem hjl
    have h2 := List.all_eq_true.1 h1 _ hzj
    rcases Nat.lt_trichotomy j i with hlt | heq | hgt
    ·exact hno j dj (by rw [List.getElem?_take_of_lt hlt]; exact hj) e
    ·subst heq; rw [hSi] at hSj; cases hSj
    ·simp only [hoj.1, e, bne_self_eq_false, Bool.false_or, Bool.and_eq_true, hgt, decide_true, Bool.not_true] at h2
     obtain ⟨e', he', hb⟩ := Array.any_eq_true'.1 h2.2
     simp only [Bool.and_eq_true, beq_iff_eq] at hb
     have hlj : l[k + j]? = some sg[j] := by
      rw [← hsg j hjn, List.getElem?_eq_getElem hjl]
     have := hcl j i _ hlj hSj e' he' hb.1 hb.2
     rw [hSi] at this; cases this
  have hop : ∀ y ∈ o.op.operands, ∀ v, evD G (dw st.env (ds.take i)) y = some v → aN μ C v (a.eval y) := by
   intro y hy v hv
   cases y with
   | tmp s => exact hslot s (List.mem_append_left _ (List.mem_filterMap.2 ⟨.tmp s, by simpa using hy, rfl⟩)) v hv
   | const c => exact eh M.sim hG (by unfold evD at hv ⊢; exact hv)
   | global g => exact eh M.sim hG (by unfold evD at hv ⊢; exact hv)
   | func f => exact eh M.sim hG (by unfold evD at hv ⊢; exact hv)
  have hguard : ∀ b, bU l.toArray (dw st.env (ds.take i)) o.guard = some b → Region.wanted o (yielded l.toArray a.tmps) = b := by
   intro b hb
   unfold Region.wanted
   cases hg : o.guard with
   | none => rw [hg] at hb; cases hb; rfl
   | some e =>
    obtain ⟨j, want⟩ := e
    rw [hg] at hb
    simp only [bU] at hb
    unfold yielded
    have hin2 : ∀ s, (l.toArray[j]?).bind (·.dst) = some s → s ∈ o.looksAt l.toArray := by
     intro s hs
     refine List.mem_append_right _ ?_
     simp only [hg, Option.mem_toList]
     exact hs
    have hsmall : ∀ s v, look (dw st.env (ds.take i)) s = some v → s < F.N := by
     intro s v hv
     rcases mY _ _ _ _ hv with ⟨j', dj, hj', hjs, rfl⟩ | ⟨hv, _⟩
     ·have hji : j' < i := by have := (List.getElem?_eq_some_iff.1 hj').1; rw [List.length_take] at this; omega
      rw [List.getElem?_take_of_lt hji] at hj'
      obtain ⟨_, _, h6⟩ := hopAt j' dj hj'
      exact h6.2.1 s hjs
     ·exact hN s v hv
    have hval : ∀ s v, (l.toArray[j]?).bind (·.dst) = some s → look (dw st.env (ds.take i)) s = some (.d (.v v)) → a.tmps[s]? = some v := by
     intro s v hs hv
     have hr := bp (hslot s (hin2 s hs) _ hv)
     have htl := hsmall s _ hv
     rw [Array.getD_eq_getD_getElem?] at hr
     rw [Array.getElem?_eq_getElem (by rw [M.sim.size]; exact htl)] at hr ⊢
     simpa using hr
    split at hb
    ·rename_i v hv
     cases hb
     obtain ⟨s, hs, hl⟩ := Option.bind_eq_some_iff.1 hv
     simp only [hs, Option.bind_some, hval s _ hs hl]
     rfl
    ·rename_i v hne hv
     cases hb
     obtain ⟨s, hs, hl⟩ := Option.bind_eq_some_iff.1 hv
     simp only [hs, Option.bind_some, hval s _ hs hl]
     cases v <;> first | rfl | exact (hne _ rfl).elim
    ·cases hb
  have hmadeAny : ∀ (j : Nat) (dj : bY), ds[j]? = some dj → S j = true → ∀ m k, dj.2.2 = some (m, k) → ∃ k', look h m = some k' := fun j dj hj hSj m k hm => by
   rcases M.made j dj hj hSj m k hm with h1 | ⟨_, _, k', _, _, _, _, h1⟩
   ·exact ⟨k, h1⟩
   ·exact ⟨k', h1⟩
  have hplace : ∀ m k', look h m = some k' → ∃ p, μ m = some p := fun m k' hm => by
   obtain ⟨p, hp, _⟩ := M.sim.heap m k' hm; exact ⟨p, hp⟩
  have next : ∀ (t : Tmp) (u : Value) (w' : World) (C' : aK), d.1 = some t → d.2.2 = none → More w C w' C' → aN μ C' d.2.1 u → Mid F st ds nx μ0 (fun j => if j = i then true else S j) (a.put (some t) u) w' μ C' h := by
   intro t u w' C' hdt hnone hmore hu
   have hbound : t < a.tmps.size := by rw [M.sim.size]; exact hdN t hdt
   have hsim := (M.sim.more hmore).put (hdN t hdt) hu
   refine ⟨hsim.less (fun t x ht => by simp [look] at ht) (fun _ _ h => h) (Nat.le_refl _), M.old, ?_, ?_, ?_, ?_⟩
   ·intro j dj hj hSj t' ht'
    rw [kd a t t' u hbound]
    by_cases e : j = i
    ·subst e
     rw [hd] at hj; cases hj
     rw [hdt] at ht'; cases ht'
     rw [if_pos rfl]; exact hu
    ·have hSj' : S j = true := by simpa [e] using hSj
     have hne : t' ≠ t := fun e2 => e (hdd j i dj d t hj hd (by rw [← e2]; exact ht') hdt)
     rw [if_neg hne]
     exact (M.done j dj hj hSj' t' ht').mono (fun _ _ h => h) hmore.sub
   ·intro j dj hj hSj m k hm
    have e : j ≠ i := fun e => by subst e; rw [hd] at hj; cases hj; rw [hnone] at hm; cases hm
    rcases M.made j dj hj (by simpa [e] using hSj) m k hm with h1 | ⟨j2, d2, k2, a1, a2, a3, a4, a5⟩
    ·exact .inl h1
    ·exact .inr ⟨j2, d2, k2, a1, a2, by simp [a3], a4, a5⟩
   ·intro t' x ht' hno
    rw [kd a t t' u hbound, if_neg (fun e => hno i d hd (by simp) (by rw [hdt, e]))]
    exact (M.rest t' x ht' (fun j dj hj hSj => hno j dj hj (by simp [hSj]))).mono (fun _ _ h => h) hmore.sub
   ·intro j dj hj hSj hs' m k hm
    have e : j ≠ i := fun e => by subst e; simp at hSj
    exact M.fresh j dj hj (by simpa [e] using hSj) hs' m k hm
  rw [hdst]
  rcases hkind with ⟨hsome, hnone, hk⟩ | ⟨hsome, m, k, res, hmk, href, hg, hmake, hm1, hm2⟩ | ⟨hnone, hnb, hg⟩ | ⟨hnone, m, k0, kb, hmk, hg, hputs, ⟨y, hy, yi, yo, hyv⟩, hfl⟩
  ·obtain ⟨t, hdt⟩ := Option.isSome_iff_exists.1 hsome
   rw [hdt]
   rcases hk with ⟨hg, hgive⟩ | ⟨hg, hund⟩
   ·rw [hguard _ hg, if_pos rfl]
    refine hgive μ C a w nx h M.sim M.old hop _ _ fun u w' C' hmore hu => ?_
    rw [hdst, hdt]
    exact ⟨μ, C', h, next t u w' C' hdt hnone hmore hu⟩
   ·rw [hguard _ hg, if_neg (by simp)]
    exact ⟨μ, C, h, next t undef w C hdt hnone (More.refl M.sim.known) (by rw [hund]; exact .v _)⟩
  ·obtain ⟨t, hdt⟩ := Option.isSome_iff_exists.1 hsome
   rw [hdt, hguard _ hg, if_pos rfl]
   have hbound : t < a.tmps.size := by rw [M.sim.size]; exact hdN t hdt
   have hfr := M.fresh i d hd hSi hsome m k hmk
   refine hmake μ C a w nx h M.sim hop m hm2 hfr _ _ fun u w' μ' C' hs' hC hμ1 hμ2 hu => ?_
   rw [hdst, hdt]
   have hh0 : ∀ l k', look h l = some k' → l ≠ m := fun l k' hl e => by
    obtain ⟨p, hp⟩ := hplace l k' hl
    rw [e, hfr] at hp; cases hp
   have hlk : ∀ l k', look h l = some k' → look ((m, k) :: h) l = some k' := fun l k' hl => by
    simp only [look]; rw [if_neg (Ne.symm (hh0 l k' hl))]; exact hl
   refine ⟨μ', C', (m, k) :: h, (hs'.put (hdN t hdt) hu).less (fun t x ht => by simp [look] at ht) (fun _ _ h => h) (Nat.le_refl _), fun l' k' hl' => hlk _ _ (M.old l' k' hl'), ?_, ?_, ?_, ?_⟩
   ·intro j dj hj hSj t' ht'
    rw [kd a t t' u hbound]
    by_cases e : j = i
    ·subst e
     rw [hd] at hj; cases hj
     rw [hdt] at ht'; cases ht'
     rw [if_pos rfl, href]; exact hu
    ·have hSj' : S j = true := by simpa [e] using hSj
     have hne : t' ≠ t := fun e2 => e (hdd j i dj d t hj hd (by rw [← e2]; exact ht') hdt)
     rw [if_neg hne]
     exact (M.done j dj hj hSj' t' ht').mono hμ1 hC
   ·intro j dj hj hSj m' k' hm'
    by_cases e : j = i
    ·subst e
     rw [hd] at hj; cases hj
     rw [hmk] at hm'; cases hm'
     left; simp [look]
    ·have hSj' : S j = true := by simpa [e] using hSj
     rcases M.made j dj hj hSj' m' k' hm' with h1 | ⟨j2, d2, k2, a1, a2, a3, a4, a5⟩
     ·exact .inl (hlk _ _ h1)
     ·exact .inr ⟨j2, d2, k2, a1, a2, by simp [a3], a4, hlk _ _ a5⟩
   ·intro t' x ht' hno
    rw [kd a t t' u hbound, if_neg (fun e => hno i d hd (by simp) (by rw [hdt, e]))]
    exact (M.rest t' x ht' (fun j dj hj hSj => hno j dj hj (by simp [hSj]))).mono hμ1 hC
   ·intro j dj hj hSj hs2 m' k' hm'
    have e : j ≠ i := fun e => by subst e; simp at hSj
    have h1 := M.fresh j dj hj (by simpa [e] using hSj) hs2 m' k' hm'
    have hne : m' ≠ m := fun em => by subst em; exact e (huniq j i dj d m' k' k hj hd hs2 hsome hm' hmk)
    rw [hμ2 m' hne]; exact h1
  ·rw [hnone, hguard _ hg, if_neg (by simp)]
   refine ⟨μ, C, h, M.sim, M.old, fun j dj hj hSj t' ht' => ?_, fun j dj hj hSj m' k' hm' => ?_, fun t' x ht' hno => M.rest t' x ht' (fun j dj hj hSj => hno j dj hj (by simp [hSj])), fun j dj hj hSj hs2 m' k' hm' => ?_⟩
   ·have e : j ≠ i := fun e => by subst e; rw [hd] at hj; cases hj; rw [hnone] at ht'; cases ht'
    exact M.done j dj hj (by simpa [e] using hSj) t' ht'
   ·have e : j ≠ i := fun e => by subst e; rw [hd] at hj; cases hj; rw [hnb] at hm'; cases hm'
    rcases M.made j dj hj (by simpa [e] using hSj) m' k' hm' with h1 | ⟨j2, d2, k2, a1, a2, a3, a4, a5⟩
    ·exact .inl h1
    ·exact .inr ⟨j2, d2, k2, a1, a2, by simp [a3], a4, a5⟩
   ·have e : j ≠ i := fun e => by subst e; simp at hSj
    exact M.fresh j dj hj (by simpa [e] using hSj) hs2 m' k' hm'
  ·rw [hnone, hguard _ hg, if_pos rfl]
   obtain ⟨hnm, j0, d0, k0', a1, a2, a3, a4, a5⟩ := hput i d m kb hd hnone hmk
   obtain ⟨p, hp, _⟩ := hop y hy _ hyv
   have hS0 : S j0 = true := by
    cases hc : S j0 with
    | true => rfl
    | false =>
     have := M.fresh j0 d0 a2 hc a3 m k0' a4
     rw [hp] at this; cases this
   have hk0 : k0' = k0 := by
    obtain ⟨⟨j, dj, g1, g2⟩, _⟩ := rK _ _ _ hfl
    have hji : j < i := by have := (List.getElem?_eq_some_iff.1 g1).1; rw [List.length_take] at this; omega
    rw [List.getElem?_take_of_lt hji] at g1
    obtain rfl := a5 j dj k0 hji g1 g2
    rw [a2] at g1; cases g1
    rw [a4] at g2; cases g2; rfl
   have hlm : look h m = some k0 := by
    rcases M.made j0 d0 a2 hS0 m k0' a4 with h1 | ⟨j2, d2, k2, b1, b2, b3, b4, b5⟩
    ·rw [← hk0]; exact h1
    ·exfalso
     have hj2 := hafter i j2 d d2 m kb k2 hd b2 hnone hmk b4
     rcases Nat.lt_or_ge j2 i with hlt | hge
     ·have := a5 j2 d2 k2 hlt b2 b4; omega
     ·have : j2 = i := by omega
      subst this; rw [hSi] at b3; cases b3
   refine hputs μ C a w nx h M.sim hlm hop _ _ fun w' hs' => ?_
   have hlk : ∀ l' k', l' ≠ m → look h l' = some k' → look (rep h m kb) l' = some k' := fun l' k' hne hl => by rw [gC, if_neg hne]; exact hl
   have hlkm : look (rep h m kb) m = some kb := by rw [gC, if_pos rfl, hlm]; rfl
   refine ⟨μ, C, rep h m kb, hs', fun l' k' hl' => hlk l' k' (fun e => ?_) (M.old l' k' hl'), fun j dj hj hSj t' ht' => ?_, fun j dj hj hSj m' k' hm' => ?_, fun t' x ht' hno => M.rest t' x ht' (fun j dj hj hSj => hno j dj hj (by simp [hSj])), fun j dj hj hSj hs2 m' k' hm' => ?_⟩
   ·obtain ⟨q, hq, _⟩ := hs0.heap l' k' hl'
    rw [hs0.nx l' (by omega)] at hq; cases hq
   ·have e : j ≠ i := fun e => by subst e; rw [hd] at hj; cases hj; rw [hnone] at ht'; cases ht'
    exact M.done j dj hj (by simpa [e] using hSj) t' ht'
   ·by_cases e : j = i
    ·subst e
     rw [hd] at hj; cases hj
     rw [hmk] at hm'; cases hm'
     exact .inl hlkm
    ·have hSj' : S j = true := by simpa [e] using hSj
     by_cases em : m' = m
     ·subst em
      have hji := hafter i j d dj m' kb k' hd hj hnone hmk hm'
      exact .inr ⟨i, d, kb, by omega, hd, by simp, hmk, hlkm⟩
     ·rcases M.made j dj hj hSj' m' k' hm' with h1 | ⟨j2, d2, k2, b1, b2, b3, b4, b5⟩
      ·exact .inl (hlk _ _ em h1)
      ·exact .inr ⟨j2, d2, k2, b1, b2, by simp [b3], b4, hlk _ _ em b5⟩
   ·have e : j ≠ i := fun e => by subst e; simp at hSj
    exact M.fresh j dj hj (by simpa [e] using hSj) hs2 m' k' hm'
 ·intro S a w hS1 hS2 hσ
  obtain ⟨μ, C, h, M⟩ := hσ
  have hSall : ∀ (i : Nat) (d : bY), ds[i]? = some d → S (k + i) = true := fun i d hi => hS1 (k + i) (by have := (List.getElem?_eq_some_iff.1 hi).1; omega)
  have hfin : Sim F ⟨dw st.env ds, gk ds ++ st.h, nx⟩ μ C a w := by
   have h1 : Sim F ⟨dw st.env ds, h, nx⟩ μ C a w := by
    refine ⟨M.sim.size, M.sim.defers, M.sim.below, M.sim.sub, M.sim.new, M.sim.known, fun t x ht => ?_, M.sim.heap, M.sim.inj, M.sim.nx, M.sim.gh⟩
    rcases mY _ _ _ _ ht with ⟨i, d, hi, ht', rfl⟩ | ⟨hv, hno⟩
    ·exact M.done i d hi (hSall i d hi) t ht'
    ·exact M.rest t x hv (fun i d hi _ => hno i d hi)
   refine h1.less (fun _ _ h => h) (fun l' k' hl' => ?_) (Nat.le_refl _)
   rcases wn _ _ _ _ hl' with ⟨i, d, hi, hd, hlast⟩ | hl'
   ·rcases M.made i d hi (hSall i d hi) l' k' hd with h2 | ⟨j, dj, k2, b1, b2, _, b4, _⟩
    ·exact h2
    ·exact absurd b4 (hlast j dj k2 b1 b2)
   ·exact M.old l' k' hl'
  exact hK μ C a w hfin
theorem SmA.chain {l : List Oper} (hbk : nb l = true) (k : Nat) (hb : ∀ j, k ≤ j → oH l j = true) (h : SmL F l.toArray (l.drop k) Q st) : SmA F l k Q st := fun μ C a w hs => tM hbk _ k a w rfl hb (h μ C a w hs)
theorem aF.mono {K K' : List (Nat × V) → List (Nat × Blk) → Nat → Prop} (hk : ∀ env al nx, K env al nx → K' env al nx) {ops : Array Oper} {h0 : List (Nat × Blk)} : ∀ {l : List Oper} {env : List (Nat × V)} {al : List (Nat × Blk)} {nx : Nat}, aF F G N ops h0 l env al nx K → aF F G N ops h0 l env al nx K' := by
 intro l
 induction l with
 | nil => intro env al nx hh; exact hk _ _ _ hh
 | cons o l ih =>
  intro env al nx hh
  rcases hh with ⟨t, h1, h2, h3⟩ | ⟨h1, h2⟩
  ·rcases h3 with ⟨x, hx, h4⟩ | ⟨k, res, hx, hm, h4⟩
   ·exact .inl ⟨t, h1, h2, .inl ⟨x, hx, ih h4⟩⟩
   ·exact .inl ⟨t, h1, h2, .inr ⟨k, res, hx, hm, ih h4⟩⟩
  ·rcases h2 with ⟨h3, h4⟩ | ⟨m, k0, kb, h3, h4, h5, h6, h7⟩
   ·exact .inr ⟨h1, .inl ⟨h3, ih h4⟩⟩
   ·exact .inr ⟨h1, .inr ⟨m, k0, kb, h3, h4, h5, h6, ih h7⟩⟩
theorem zI {id : Nat} {l : List Oper} (hF : Env F P G N) (hm : P.follows .mixedOrders = true) (hN : St.small N st) (n : Nat) (hB : sb l n = true) (hD : yA l n = true)
  (h : aF F G N l.toArray st.h (l.take n) st.env [] st.nx fun env al nx => SmL F l.toArray (l.drop n) Q ⟨env, al ++ st.h, nx⟩) : Sm F (.region id l.toArray true) Q st := by
 simp only [sb, Bool.and_eq_true] at hB
 obtain ⟨⟨⟨h1, h2⟩, h3⟩, h4⟩ := hB
 have hnl := of_decide_eq_true h3
 refine qJ (by rw [hF.prog]; exact hm) (SmA.head hF hN 0 n (Nat.zero_le _) hnl h1 h2 (rF h4 (Nat.le_refl _)) hD ?_)
 refine aF.mono (fun env al nx hk => ?_) (by simpa using h)
 exact SmA.chain h2 n (fun j hj => rF h4 hj) hk
end
end
section
open Go.RowKit
theorem k7 {ev ev' : Operand → Option V} : ∀ {ps : List (Nat × Operand)}, (∀ e ∈ ps, ev e.2 = ev' e.2) → e8 ev ps = e8 ev' ps := by
 intro ps
 induction ps with
 | nil => intro _; rfl
 | cons e ps ih =>
  intro h
  obtain ⟨i, x⟩ := e
  simp only [e8]
  rw [h (i, x) (by simp), ih (fun e he => h e (by simp [he]))]
theorem oo {ev ev' : Operand → Option V} : ∀ {xs : List Operand}, (∀ x ∈ xs, ev x = ev' x) → b7 ev xs = b7 ev' xs := by
 intro xs
 induction xs with
 | nil => intro _; rfl
 | cons x xs ih =>
  intro h
  simp only [b7]
  rw [h x (by simp), ih (fun e he => h e (by simp [he]))]
theorem me {ev ev' : Operand → Option V} {x : Option Operand} (h : ∀ y, x = some y → ev y = ev' y) : evO ev x = evO ev' x := by
 cases x with
 | none => rfl
 | some x => simp only [evO, h x rfl]
theorem wE {P : Program} {ev ev' : Operand → Option V} {h : List (Nat × Blk)} {o : Oper} (hx : ∀ x ∈ o.op.operands, ev x = ev' x) : opV P ev h o = opV P ev' h o := by
 unfold opV
 cases ho : o.op with
 | move x => simp only [ho, Op.operands] at hx ⊢; exact hx x (by simp)
 | assign x => simp only [ho, Op.operands] at hx ⊢; exact hx x (by simp)
 | pick c x y =>
  simp only [ho, Op.operands] at hx ⊢
  rw [hx c (by simp), hx x (by simp), hx y (by simp)]
 | load t x => simp only [ho, Op.operands] at hx ⊢; rw [hx x (by simp)]
 | nilCheck x => simp only [ho, Op.operands] at hx ⊢; rw [hx x (by simp)]
 | binOp op t x y yt => simp only [ho, Op.operands] at hx ⊢; rw [hx x (by simp), hx y (by simp)]
 | unOp op t x => simp only [ho, Op.operands] at hx ⊢; rw [hx x (by simp)]
 | convert s d x => simp only [ho, Op.operands] at hx ⊢; rw [hx x (by simp)]
 | slice t x lo hi mx =>
  simp only [ho, Op.operands] at hx ⊢
  rw [hx x (by simp), me (x := lo) (fun y e => hx y (by simp [e])), me (x := hi) (fun y e => hx y (by simp [e])), me (x := mx) (fun y e => hx y (by simp [e]))]
 | fieldAddr t x f => simp only [ho, Op.operands] at hx ⊢; rw [hx x (by simp)]
 | field t x f => simp only [ho, Op.operands] at hx ⊢; rw [hx x (by simp)]
 | indexAddr t x i => simp only [ho, Op.operands] at hx ⊢; rw [hx x (by simp), hx i (by simp)]
 | index t x i => simp only [ho, Op.operands] at hx ⊢; rw [hx x (by simp), hx i (by simp)]
 | extract x i => simp only [ho, Op.operands] at hx ⊢; rw [hx x (by simp)]
 | build t ps =>
  simp only [ho, Op.operands] at hx ⊢
  rw [k7 (fun e he => hx e.2 (by simp; exact ⟨e.1, by simpa using he⟩))]
 | buildSlice t n ps =>
  simp only [ho, Op.operands] at hx ⊢
  rw [k7 (fun e he => hx e.2 (by simp; exact ⟨e.1, by simpa using he⟩))]
 | lookup t x i ok => simp only [ho, Op.operands] at hx ⊢; rw [hx x (by simp), hx i (by simp)]
 | makeFunc fn first caps =>
  simp only [ho, Op.operands] at hx ⊢
  cases fn with
  | func f =>
   simp only
   rw [oo (xs := caps.toList) (fun x h => hx x (by simp at h ⊢; exact .inr h))]
  | _ => simp only [ll, ho]
 | call c =>
  simp only [ho, Op.operands, Call.operands] at hx ⊢
  unfold ll
  simp only [ho]
  cases hc : c.callee with
  | builtin b =>
   simp only [hc] at hx ⊢
   have hx' : ∀ x ∈ c.args.toList, ev x = ev' x := fun x h => hx x (by simpa using h)
   split
   ·rename_i x hl; rw [hx' x (by rw [hl]; simp)]
   ·rename_i x y hl; rw [hx' x (by rw [hl]; simp), hx' y (by rw [hl]; simp)]
   ·rename_i x y hl; rw [hx' x (by rw [hl]; simp), hx' y (by rw [hl]; simp)]
   ·rfl
  | _ => rfl
 | _ => simp only [ll, ho]
section
variable {P : Program} {G : Nat → Option D} {N : Nat} {F : Fr} {ops : Array Oper} {h0 al : List (Nat × Blk)} {rest : List Oper} {o : Oper} {env : List (Nat × V)} {nx : Nat} {K : List (Nat × V) → List (Nat × Blk) → Nat → Prop}
open Classical in
theorem dZ.val (hF : Env F P G N) {x : V} (h : opV P (evD G env) h0 o = some x) : dZ F G h0 o env x := by
 intro μ C a w nx' hh hs hold hop K Q hK
 obtain ⟨rfl, rfl, hG⟩ := hF
 have hs' : Sim F ⟨[], h0, nx'⟩ μ C a w := hs.less (fun _ _ h => h) hold (Nat.le_refl _)
 have hc : opV F.P (fun y => if y ∈ o.op.operands then evD G env y else none) h0 o = some x := by
  rw [← h]; exact wE fun y hy => if_pos hy
 obtain ⟨u, w', C', h1, h2, h3⟩ := ww hs' (ev := fun y => if y ∈ o.op.operands then evD G env y else none) (fun y v hv => by
  split at hv
  ·rename_i hy; exact hop y hy v hv
  ·cases hv) hc
 unfold Oper.wp
 rw [h1, Oper.upon_value]
 exact hK u w' C' h2 h3
theorem dZ.call (hF : Env F P G N) {f : FuncId} {xs : Array Operand} {ts : Array TypeId} {ds : List D} {r : D} (ho : o.op = .call ⟨.value (.func f), xs, ts⟩)
  (hcall : ∀ args w, (callFunc f args).run P w = .ok (.enter f args) w) (hargs : b7 (evD G env) xs.toList = some ds) (hc : aj P G f ds r) : dZ F G h0 o env (.d r) := by
 intro μ C a w nx' hh hs hold hop K Q hK
 obtain ⟨rfl, rfl, hG⟩ := hF
 have hxs : ∀ y ∈ xs.toList, ∀ v, evD G env y = some v → aN μ C v (a.eval y) := fun y hy v hv => hop y (by rw [ho]; simp [Op.operands, Call.operands]; exact .inr (by simpa using hy)) v hv
 have hrep : ∀ {ys : List Operand} {es : List D}, (∀ y ∈ ys, ∀ v, evD G env y = some v → aN μ C v (a.eval y)) → b7 (evD G env) ys = some es → Rp C (.outs es (ys.map a.eval)) := by
  intro ys
  induction ys with
  | nil => intro es _ h; cases h; exact .onil
  | cons y ys ih =>
   intro es hy h
   simp only [b7, Option.bind_eq_some_iff] at h
   obtain ⟨v, hv, h⟩ := h
   split at h
   ·rename_i d
    simp only [Option.map_eq_some_iff] at h
    obtain ⟨r, hr, rfl⟩ := h
    exact .ocons _ _ _ _ (hy y (by simp) _ hv) (ih (fun z hz => hy z (by simp [hz])) hr)
   ·cases h
 refine mO f hcall xs ts ho (xs.toList.map a.eval) rfl ?_
 refine (hc C w _ (hG.mono hs.sub) hs.known (hrep hxs hargs)).mono ?_
 rintro e w' ⟨v, C', rfl, hm, hr⟩
 exact ⟨v, rfl, hK v w' C' hm hr⟩
theorem aF.val (hF : Env F P G N) {t : Tmp} {x : V} (hd : o.dst = some t) (ht : t < N) (hg : bU ops env o.guard = some true) (h : opV P (evD G env) h0 o = some x) (k : aF F G N ops h0 rest ((t, x) :: env) al nx K) : aF F G N ops h0 (o :: rest) env al nx K :=
 .inl ⟨t, hd, ht, .inl ⟨x, .inl ⟨hg, .val hF h⟩, k⟩⟩
theorem aF.pass {t : Tmp} (hd : o.dst = some t) (ht : t < N) (hg : bU ops env o.guard = some false) (k : aF F G N ops h0 rest ((t, .d (.v undef)) :: env) al nx K) : aF F G N ops h0 (o :: rest) env al nx K :=
 .inl ⟨t, hd, ht, .inl ⟨_, .inr ⟨hg, rfl⟩, k⟩⟩
theorem aF.call (hF : Env F P G N) {t : Tmp} {f : FuncId} {xs : Array Operand} {ts : Array TypeId} {ds : List D} {r : D} (hd : o.dst = some t) (ht : t < N) (hg : bU ops env o.guard = some true) (ho : o.op = .call ⟨.value (.func f), xs, ts⟩)
  (hcall : ∀ args w, (callFunc f args).run P w = .ok (.enter f args) w) (hargs : b7 (evD G env) xs.toList = some ds) (hc : aj P G f ds r) (k : aF F G N ops h0 rest ((t, .d r) :: env) al nx K) : aF F G N ops h0 (o :: rest) env al nx K :=
 .inl ⟨t, hd, ht, .inl ⟨_, .inl ⟨hg, .call hF ho hcall hargs hc⟩, k⟩⟩
theorem aF.nil (k : K env al nx) : aF F G N ops h0 [] env al nx K := k
theorem Sim.allocAt {μ : Nat → Option Place} {C : aK} {a : Act} {w : World} {st : St} (h : Sim F st μ C a w) (m : Nat) (hm : m < st.nx) (hfree : μ m = none) (sz : Nat) (row : List V) (cur : Array Value) (T : TypeId) (hrow : row.length = sz) (hsz : cur.size = sz) (hr : gR μ C sz [row] cur.toList) :
  Sim F { st with h := (m, ⟨sz, [row]⟩) :: st.h } (fun l => if l = m then some ⟨w.heap.size, 1, sz⟩ else μ l) C a (w.alloc (.cells cur T)) := by
 have hμ : ∀ l p, μ l = some p → (fun l => if l = m then some (⟨w.heap.size, 1, sz⟩ : Place) else μ l) l = some p := by
  intro l p hp
  have : l ≠ m := fun e => by rw [e, hfree] at hp; cases hp
  simp [this, hp]
 have h1 := h.more (.of_below h.known ((Below.refl _ w).alloc (Nat.le_refl _) (.cells cur T)))
 refine ⟨h1.size, h1.defers, h1.below, h1.sub, h1.new, h1.known, fun t x hx => (h1.env t x hx).mono hμ (fun _ _ _ h => h), ?_, ?_, ?_, F.stab h.gh (lK h _ ⟨w.heap.size, 1, sz⟩ hfree hμ (by simp) (fun _ => Nat.le_refl _) (fun l hl => by simp [hl]) (.of_below h.known ((Below.refl _ w).alloc (Nat.le_refl _) (.cells cur T))))⟩
 ·intro l k hk
  simp only [look] at hk
  by_cases hl : m = l
  ·subst hl
   rw [if_pos rfl] at hk
   cases hk
   refine ⟨⟨w.heap.size, 1, sz⟩, by simp, rfl, by simp, by simp, by simp [hrow], fun _ => ⟨.inl h.below.size, fun o u hc => ?_, cur, T, heap_alloc_new w _, by simpa using hsz, hr.mono hμ (fun _ _ _ h => h)⟩⟩
   exact absurd (h.known.lt hc) (Nat.lt_irrefl _)
  ·rw [if_neg hl] at hk
   obtain ⟨p, hp, hb⟩ := h1.heap l k hk
   refine ⟨p, hμ l p hp, hb.sz, hb.len, hb.max, hb.row, fun hc => ?_⟩
   obtain ⟨a1, a2, cur', T', a3, a4, a5⟩ := hb.cells hc
   exact ⟨a1, a2, cur', T', a3, a4, a5.mono hμ (fun _ _ _ h => h)⟩
 ·intro l l' p p' hl hl' hp hp' hc hc' hb
  simp only [look] at hl hl'
  have hlt : ∀ l p, (look st.h l).isSome = true → μ l = some p → 0 < p.cap → p.b < w.heap.size := by
   intro l p hl hp hc
   obtain ⟨k, hk⟩ := Option.isSome_iff_exists.1 hl
   obtain ⟨p2, hp2, hb2⟩ := h.heap l k hk
   rw [hp] at hp2; cases hp2
   exact hb2.lt hc
  by_cases e : l = m <;> by_cases e' : l' = m
  ·rw [e, e']
  ·rw [if_neg (Ne.symm e')] at hl'
   simp only [if_pos e, if_neg e'] at hp hp'
   cases hp
   have := hlt l' p' hl' hp' hc'
   simp at hb; omega
  ·rw [if_neg (Ne.symm e)] at hl
   simp only [if_neg e, if_pos e'] at hp hp'
   cases hp'
   have := hlt l p hl hp hc
   simp at hb; omega
  ·rw [if_neg (Ne.symm e)] at hl
   rw [if_neg (Ne.symm e')] at hl'
   simp only [if_neg e, if_neg e'] at hp hp'
   exact h.inj l l' p p' hl hl' hp hp' hc hc' hb
 ·intro l hl
  have : l ≠ m := by have : st.nx ≤ l := hl; omega
  simp only [if_neg this]
  exact h.nx l hl
theorem qF.store (hF : Env F P G N) {t : TypeId} {x y : Operand} {m i off : Nat} {vy : V} {k0 kb : Blk} (ho : o.op = .store t x y) (hd : o.dst = none) (hx : evD G env x = some (.ref m i off)) (hy : evD G env y = some vy) (h : fZ P [(m, k0)] t (.ref m i off) vy = some (.upd m kb)) : qF F G o env m k0 kb := by
 intro μ C a w nx' hh hs hm hop K Q hK
 obtain ⟨rfl, rfl, hG⟩ := hF
 have hst : fZ F.P (St.h ⟨[], hh, nx'⟩) t (.ref m i off) vy = some (.upd m kb) := by
  rw [← h]; simp only [fZ, look, if_true, hm]
 obtain ⟨w', h1, h2⟩ := rE hs (hop x (by rw [ho]; simp [Op.operands]) _ hx) (hop y (by rw [ho]; simp [Op.operands]) _ hy) hst
 unfold Oper.wp
 have : (execOp a.eval o).run F.P w = .ok .skip w' := by
  simp only [execOp, ho]; simp [Sem.run_bind, h1, Result.andThen]
 rw [this, Oper.upon_skip, hd]
 exact hK w' h2
theorem aF.put (hF : Env F P G N) {t : TypeId} {x y : Operand} {m i off : Nat} {vy : V} {k0 kb : Blk} (ho : o.op = .store t x y) (hd : o.dst = none) (hg : bU ops env o.guard = some true) (hx : evD G env x = some (.ref m i off)) (hy : evD G env y = some vy) (hf : (al.filter fun e => e.1 == m) = [(m, k0)])
  (h : fZ P [(m, k0)] t (.ref m i off) vy = some (.upd m kb)) (k : aF F G N ops h0 rest env ((m, kb) :: al) nx K) : aF F G N ops h0 (o :: rest) env al nx K :=
 .inr ⟨hd, .inr ⟨m, k0, kb, hg, .store hF ho hd hx hy h, ⟨x, by rw [ho]; simp [Op.operands], i, off, hx⟩, hf, k⟩⟩
theorem aF.alloc (hF : Env F P G N) {t : Tmp} {ty : TypeId} {sz : Nat} {row : List V} {T : TypeId} (hd : o.dst = some t) (ht : t < N) (hg : bU ops env o.guard = some true) (ho : o.op = .alloc ty) (h : ee P ty = some (.new sz row T))
  (k : aF F G N ops h0 rest ((t, .ref nx 0 0) :: env) ((nx, ⟨sz, [row]⟩) :: al) (nx + 1) K) : aF F G N ops h0 (o :: rest) env al nx K := by
 refine .inl ⟨t, hd, ht, .inr ⟨⟨sz, [row]⟩, fun m => .ref m 0 0, hg, ?_, k⟩⟩
 intro μ C a w nx' hh hs hop m hm hfree K Q hK
 obtain ⟨rfl, rfl, hG⟩ := hF
 simp only [ee, nq, Option.bind_eq_some_iff] at h
 obtain ⟨z, ⟨i, hi, hz⟩, h⟩ := h
 split at h
 ·rename_i hall
  cases h
  have hsim := hs.allocAt m hm hfree z.cells.size (z.cells.toList.map fun v => .d (bf v)) z.cells ty (by simp) rfl (by
   intro i r hr j y hy
   cases i with
   | zero =>
    simp at hr; subst hr
    rw [List.getElem?_map] at hy
    cases hj : z.cells.toList[j]? with
    | none => rw [hj] at hy; cases hy
    | some v =>
     rw [hj] at hy; cases hy
     exact ⟨v, by simpa using hj, List.all_eq_true.1 hall v (List.mem_of_getElem? hj), jr v⟩
   | succ i => simp at hr)
  unfold Oper.wp
  have : (execOp a.eval o).run F.P w = .ok (.value (.pointer (some ⟨w.heap.size, 0, none⟩))) (w.alloc (.cells z.cells ty)) := by
   simp only [execOp, ho]
   simp [Instr.alloc, Sem.run_bind, zeroValue, typeInfo, hi, hz, newVar, newRow, newObj, Result.andThen]
   rfl
  rw [this, Oper.upon_value]
  refine hK _ _ _ C hsim (fun _ _ _ h => h) (fun l p hp => ?_) (fun l hl => by simp [hl]) ⟨⟨w.heap.size, 1, z.cells.size⟩, by simp, by simp, by simp⟩
  have : l ≠ m := fun e => by rw [e, hfree] at hp; cases hp
  simp [this, hp]
 ·cases h
end
end
section
open Go.RowKit
section
variable {F : Fr} {Q : Exit → St → Prop} {st : St} {ops : Array Oper} {c x y : Code}
theorem ae {K : St → Prop} (h : K st) : cZ K Q .normal st := h
end
section
variable {P : Program} {G : Nat → Option D} {N : Nat} {F : Fr} {ops : Array Oper} {rest : List Oper} {o : Oper} {Q : Exit → St → Prop} {st : St}
theorem tW {α : Type} : ∀ {l : List (Nat × α)} {j : Nat} {x : α}, look l j = some x → (j, x) ∈ l := by
 intro l
 induction l with
 | nil => intro j x h; simp [look] at h
 | cons e r ih =>
  obtain ⟨k, y⟩ := e
  intro j x h
  simp only [look] at h
  split at h
  ·rename_i hk; cases h; subst hk; simp
  ·exact List.mem_cons_of_mem _ (ih h)
def gN (N : Nat) : List (Nat × V) → Bool
 | [] => true
 | (t, _) :: r => decide (t < N) && gN N r
theorem kc (h : gN N st.env = true) : St.small N st := by
 intro t x hx
 have hm := tW hx
 generalize st.env = l at h hm
 induction l with
 | nil => cases hm
 | cons e r ih =>
  obtain ⟨k, y⟩ := e
  simp only [gN, Bool.and_eq_true, decide_eq_true_eq] at h
  rcases List.mem_cons.1 hm with e | hm
  ·cases e; exact h.1
  ·exact ih h.2 hm
structure Good (N : Nat) (st : St) : Prop where
 small : St.small N st
theorem Good.put {t : Nat} {x : V} (h : Good N st) (ht : t < N) : Good N { st with env := (t, x) :: st.env } := ⟨by
 intro s y hy
 simp only [look] at hy
 split at hy
 ·rename_i e; subst e; exact ht
 ·exact h.small s y hy⟩
end
def yv (P : Program) (G : Nat → Option D) (N : Nat) (ops : Array Oper) : Nat → List Oper → St → Option (List Oper × St)
 | 0, l, st => some (l, st)
 | n + 1, o :: l, st => (lm P G N ops o st).bind (yv P G N ops n l)
 | _ + 1, [], _ => none
section
variable {P : Program} {G : Nat → Option D} {N : Nat} {F : Fr} {ops : Array Oper} {rest : List Oper} {o : Oper} {Q : Exit → St → Prop} {st : St}
theorem tP {st' : St} (hs : St.small N st) (h : lm P G N ops o st = some st') : St.small N st' := by
 have put : ∀ (st : St) (t : Nat) (x : V) (h' : List (Nat × Blk)) (nx : Nat), St.small N st → t < N → St.small N ⟨(t, x) :: st.env, h', nx⟩ := by
  intro st t x h' nx hs ht s y hy
  simp only [look] at hy
  split at hy
  ·rename_i e; subst e; exact ht
  ·exact hs s y hy
 unfold lm at h
 split at h
 ·simp only [Option.bind_eq_some_iff] at h
  obtain ⟨out, _, h⟩ := h
  unfold iu at h
  split at h
  ·split at h
   ·rename_i ht; cases h; exact put _ _ _ _ _ hs ht
   ·cases h
  ·split at h
   ·rename_i ht; cases h; exact put _ _ _ _ _ hs ht
   ·cases h
  ·cases h; exact hs
  ·cases h
 ·split at h
  ·split at h
   ·rename_i ht; cases h; exact put _ _ _ _ _ hs ht
   ·cases h
  ·cases h; exact hs
 ·cases h
theorem SmL.run (hF : Env F P G N) (n : Nat) : ∀ {l : List Oper} {st : St} (_ : St.small N st) {st' : St} {rest : List Oper} (_ : yv P G N ops n l st = some (rest, st')) (_ : St.small N st' → SmL F ops rest Q st'), SmL F ops l Q st := by
 induction n with
 | zero => intro l st hs st' rest h k; cases h; exact k hs
 | succ n ih =>
  intro l st hs st' rest h k
  cases l with
  | nil => cases h
  | cons o l =>
   simp only [yv, Option.bind_eq_some_iff] at h
   obtain ⟨st1, h1, h2⟩ := h
   exact SmL.step hF hs h1 (ih (tP hs h1) h2 k)
end
theorem bX (n : Int) (h : -9223372036854775808 ≤ n ∧ n ≤ 9223372036854775807) : IntKind.i64.wrap n = n := IntWalk.i64_in n h
section
variable (P : Program) (t : TypeId) (x y : Operand) (k : IntKind) (a b : Int)
theorem cT : bb P (do eqGuard .add t x y (.int k a) (.int k b); binOp .add t (.int k a) (.int k b)) = some (.int k (k.wrap (a + b))) := by
 simp [eqGuard, binOp, Op.intArith, ck, cd]
theorem ky : bb P (do eqGuard .sub t x y (.int k a) (.int k b); binOp .sub t (.int k a) (.int k b)) = some (.int k (k.wrap (a - b))) := by
 simp [eqGuard, binOp, Op.intArith, ck, cd]
theorem jM : bb P (do eqGuard .mul t x y (.int k a) (.int k b); binOp .mul t (.int k a) (.int k b)) = some (.int k (k.wrap (a * b))) := by
 simp [eqGuard, binOp, Op.intArith, ck, cd]
theorem tD (h : b ≠ 0) : bb P (do eqGuard .quo t x y (.int k a) (.int k b); binOp .quo t (.int k a) (.int k b)) = some (.int k (k.wrap (a.tdiv b))) := by
 simp [eqGuard, binOp, Op.intDiv, ck, cd, h]
theorem oy (h : b ≠ 0) : bb P (do eqGuard .rem t x y (.int k a) (.int k b); binOp .rem t (.int k a) (.int k b)) = some (.int k (a.tmod b)) := by
 simp [eqGuard, binOp, Op.intDiv, ck, cd, h]
theorem ep : bb P (do eqGuard .lss t x y (.int k a) (.int k b); binOp .lss t (.int k a) (.int k b)) = some (.bool (decide (a < b))) := by
 simp [eqGuard, binOp, Op.intCmp, ck, cd]
theorem zR : bb P (do eqGuard .leq t x y (.int k a) (.int k b); binOp .leq t (.int k a) (.int k b)) = some (.bool (decide (a ≤ b))) := by
 simp [eqGuard, binOp, Op.intCmp, ck, cd]
theorem z7 : bb P (do eqGuard .gtr t x y (.int k a) (.int k b); binOp .gtr t (.int k a) (.int k b)) = some (.bool (decide (b < a))) := by
 simp [eqGuard, binOp, Op.intCmp, ck, cd]
theorem Al : bb P (do eqGuard .geq t x y (.int k a) (.int k b); binOp .geq t (.int k a) (.int k b)) = some (.bool (decide (b ≤ a))) := by
 simp [eqGuard, binOp, Op.intCmp, ck, cd]
theorem kV : bb P (do eqGuard .eql t x y (.int k a) (.int k b); binOp .eql t (.int k a) (.int k b)) = some (.bool (a == b)) := by
 simp [eqGuard, binOp, Op.intCmp, ck, cd]
theorem nY : bb P (do eqGuard .neq t x y (.int k a) (.int k b); binOp .neq t (.int k a) (.int k b)) = some (.bool (a != b)) := by
 simp [eqGuard, binOp, Op.intCmp, ck, cd]
theorem lG : bb P (do eqGuard .and t x y (.int k a) (.int k b); binOp .and t (.int k a) (.int k b)) = some (.int k (k.wrap (BitVec.ofInt k.bits a &&& BitVec.ofInt k.bits b).toNat)) := by
 simp [eqGuard, binOp, Op.intBits, ck, cd]
theorem Cw : bb P (do eqGuard .or t x y (.int k a) (.int k b); binOp .or t (.int k a) (.int k b)) = some (.int k (k.wrap (BitVec.ofInt k.bits a ||| BitVec.ofInt k.bits b).toNat)) := by
 simp [eqGuard, binOp, Op.intBits, ck, cd]
theorem iw : bb P (do eqGuard .xor t x y (.int k a) (.int k b); binOp .xor t (.int k a) (.int k b)) = some (.int k (k.wrap (BitVec.ofInt k.bits a ^^^ BitVec.ofInt k.bits b).toNat)) := by
 simp [eqGuard, binOp, Op.intBits, ck, cd]
theorem wy (k2 : IntKind) (h : ¬ b < 0) : bb P (do eqGuard .shl t x y (.int k a) (.int k2 b); binOp .shl t (.int k a) (.int k2 b)) = some (.int k (k.wrap (a * 2 ^ (min b.toNat k.bits)))) := by
 simp [eqGuard, binOp, Op.shift, ck, cd, h]
theorem sY (k2 : IntKind) (h : ¬ b < 0) : bb P (do eqGuard .shr t x y (.int k a) (.int k2 b); binOp .shr t (.int k a) (.int k2 b)) = some (.int k (a.fdiv (2 ^ (min b.toNat k.bits)))) := by
 simp [eqGuard, binOp, Op.shift, ck, cd, h]
theorem zh (s u : ByteArray) : bb P (do eqGuard .eql t x y (.string s) (.string u); binOp .eql t (.string s) (.string u)) = some (.bool (s.toList == u.toList)) := by
 simp [eqGuard, binOp, Op.stringOp, ck, cd]
theorem zp (s u : ByteArray) : bb P (do eqGuard .neq t x y (.string s) (.string u); binOp .neq t (.string s) (.string u)) = some (.bool (!(s.toList == u.toList))) := by
 simp [eqGuard, binOp, Op.stringOp, ck, cd]
theorem sU (s d : TypeId) {ds : TypeDesc} (hs : P.underlying s = some ds) (hd : P.underlying d = some (.int k)) (k2 : IntKind) : bb P (convert s d (.int k2 a)) = some (.int k (k.wrap a)) := by
 unfold convert
 simp only [ck, xM, hs, hd, Option.bind_some]
 cases ds <;> rfl
end
def leE (env : List (Nat × V)) : List (Nat × V) → Prop
 | [] => True
 | (t, x) :: r => look env t = some x ∧ leE env r
theorem tA {env : List (Nat × V)} : ∀ {env' : List (Nat × V)}, leE env env' → ∀ t x, look env' t = some x → look env t = some x
 | [], _, t, x, h => by simp [look] at h
 | (k, y) :: r, h, t, x, hl => by
  simp only [look] at hl
  split at hl
  ·rename_i e; subst e; cases hl; exact h.1
  ·exact tA h.2 t x hl
def leH (h : List (Nat × Blk)) : List (Nat × Blk) → Prop
 | [] => True
 | (t, x) :: r => look h t = some x ∧ leH h r
theorem su {env : List (Nat × Blk)} : ∀ {env' : List (Nat × Blk)}, leH env env' → ∀ t x, look env' t = some x → look env t = some x
 | [], _, t, x, h => by simp [look] at h
 | (k, y) :: r, h, t, x, hl => by
  simp only [look] at hl
  split at hl
  ·rename_i e; subst e; cases hl; exact h.1
  ·exact su h.2 t x hl
theorem cC {st st' : St} (h1 : leE st.env st'.env) (h2 : leH st.h st'.h) (h3 : st.nx ≤ st'.nx) : st.le st' := ⟨tA h1, su h2, h3⟩
end
section
open Go.RowKit
section
variable {P : Program} {G : Nat → Option D} {N : Nat} {F : Fr} {ops : Array Oper} {rest : List Oper} {o : Oper} {Q : Exit → St → Prop} {st : St} {h0 al : List (Nat × Blk)} {env : List (Nat × V)} {nx : Nat} {K : List (Nat × V) → List (Nat × Blk) → Nat → Prop}
def yM (P : Program) (G : Nat → Option D) (N : Nat) (ops : Array Oper) (h0 : List (Nat × Blk)) (o : Oper) (env : List (Nat × V)) : Option (List (Nat × V)) :=
 match o.dst with
 | some t => if t < N then
  match bU ops env o.guard with
  | some true => (opV P (evD G env) h0 o).map fun x => (t, x) :: env
  | some false => some ((t, .d (.v undef)) :: env)
  | none => none
  else none
 | none => none
theorem aF.step (hF : Env F P G N) {env' : List (Nat × V)} (h : yM P G N ops h0 o env = some env') (k : aF F G N ops h0 rest env' al nx K) : aF F G N ops h0 (o :: rest) env al nx K := by
 unfold yM at h
 split at h
 ·rename_i t hd
  split at h
  ·rename_i ht
   split at h
   ·rename_i hg
    simp only [Option.map_eq_some_iff] at h
    obtain ⟨x, hx, rfl⟩ := h
    exact aF.val hF hd ht hg hx k
   ·rename_i hg
    cases h
    exact aF.pass hd ht hg k
   ·cases h
  ·cases h
 ·cases h
def e9 (P : Program) (f : FuncId) : Bool := match P.funcs[f]? with | some fn => fn.name != "runtime.NumGoroutine" && fn.body.isSome | none => false
theorem kj {f : FuncId} (h : e9 P f = true) (args : Array Value) (w : World) : (callFunc f args).run P w = .ok (.enter f args) w := by
 unfold e9 at h
 unfold callFunc
 cases hf : P.funcs[f]? with
 | none => rw [hf] at h; cases h
 | some fn =>
  rw [hf] at h
  simp only [Bool.and_eq_true, bne_iff_ne, ne_eq] at h
  obtain ⟨h1, h2⟩ := h
  cases hb : fn.body with
  | none => rw [hb] at h2; cases h2
  | some c => simp [Sem.run_bind, program, Sem.run, hf, h1, hb, Result.andThen]
theorem SmL.callR (hF : Env F P G N) (hN : St.small N st) {f : FuncId} {xs : Array Operand} {ts : Array TypeId} {t : Tmp} {ds : List D} {r : D} (ho : o.op = .call ⟨.value (.func f), xs, ts⟩) (hd : o.dst = some t) (hb : e9 P f = true) (ht : t < N)
  (hg : bU ops st.env o.guard = some true) (hargs : b7 (evD G st.env) xs.toList = some ds) (hc : aj P G f ds r)
  (k : SmL F ops rest Q { st with env := (t, .d r) :: st.env }) : SmL F ops (o :: rest) Q st :=
 SmL.call hF hN hg ho hd (fun a w => kj hb a w) hargs ht hc k
theorem aF.callR (hF : Env F P G N) {f : FuncId} {xs : Array Operand} {ts : Array TypeId} {t : Tmp} {ds : List D} {r : D} (ho : o.op = .call ⟨.value (.func f), xs, ts⟩) (hd : o.dst = some t) (hb : e9 P f = true) (ht : t < N)
  (hg : bU ops env o.guard = some true) (hargs : b7 (evD G env) xs.toList = some ds) (hc : aj P G f ds r)
  (k : aF F G N ops h0 rest ((t, .d r) :: env) al nx K) : aF F G N ops h0 (o :: rest) env al nx K :=
 aF.call hF hd ht hg ho (fun a w => kj hb a w) hargs hc k
theorem aF.last (k : K env al nx) : aF F G N ops h0 [] env al nx K := k
theorem aj.le {f : FuncId} {ds : List D} {r r' : D} (h : aj P G f ds r) (hl : r.le r') : aj P G f ds r' := fun C w vs hG hk ha =>
 (h C w vs hG hk ha).mono fun e w' ⟨v, C', a1, a2, a3⟩ => ⟨v, C', a1, a2, hl _ _ a3⟩
theorem bn (l : Nat) : kq l [] := fun l' k _ h => by simp [look] at h
theorem be {l : Nat} {k : Blk} {h : List (Nat × Blk)} (f : kq l h) : kq l ((l, k) :: h) := fun l' k' hne hl => by
 simp only [look] at hl
 rw [if_neg (Ne.symm hne)] at hl
 exact f l' k' hne hl
theorem am {l m : Nat} {k : Blk} {h : List (Nat × Blk)} (f : kq l h) (hr : ∀ r ∈ k.rows, ∀ x ∈ r, V.free l x = true) : kq l ((m, k) :: h) := fun l' k' hne hl => by
 simp only [look] at hl
 split at hl
 ·cases hl; exact hr
 ·exact f l' k' hne hl
abbrev dB (sz : Nat) (rows : List (List D)) : Blk := ⟨sz, rows.map fun r => r.map V.d⟩
theorem zF {g : V → V} (hg : ∀ d, g (.d d) = .d d) (sz : Nat) (rows : List (List D)) : i9 g (dB sz rows) = dB sz rows := by
 simp only [i9, dB, List.map_map]
 congr 1
 refine List.map_congr_left fun r _ => ?_
 simp [Function.comp_def, hg]
theorem wo (l sz : Nat) (rows : List (List D)) (r : List D) : (r.map V.d).map (ft l sz rows) = r.map V.d := by simp [List.map_map, Function.comp_def, ft]
theorem y5 (l sz : Nat) (rows : List (List D)) (s : Nat) (rows' : List (List D)) : i9 (ft l sz rows) (dB s rows') = dB s rows' := zF (fun _ => rfl) s rows'
theorem aP (l sz : Nat) (rows : List (List D)) : ∀ r ∈ (dB sz rows).rows, ∀ x ∈ r, V.free l x = true := by
 intro r hr x hx
 obtain ⟨r', _, rfl⟩ := List.mem_map.1 hr
 obtain ⟨d, _, rfl⟩ := List.mem_map.1 hx
 rfl
theorem bD {l : Nat} {r : List V} {sz : Nat} (h : r.all (V.free l) = true) : ∀ r' ∈ (Blk.mk sz [r]).rows, ∀ x ∈ r', V.free l x = true := by
 intro r' hr x hx
 have : r' = r := by simpa using hr
 subst this
 exact List.all_eq_true.1 h x hx
end
end
section
open Go.RowKit
inductive Pk where
 | one
 | tup
 | agg
def Pk.v : Pk → Nat → Nat → List D → V
 | .one, l, n, _ => .sref l 0 n
 | .tup, l, n, rest => .mix true l n rest
 | .agg, l, n, rest => .mix false l n rest
def cw {α : Type} : List (Nat × α) → Nat → Option α
 | [], _ => none
 | (k, x) :: r, i => match Nat.beq k i with
  | true => some x
  | false => cw r i
theorem bV {α : Type} (l : List (Nat × α)) (i : Nat) : cw l i = look l i := by
 induction l with
 | nil => rfl
 | cons e r ih =>
  obtain ⟨k, x⟩ := e
  simp only [cw, look]
  cases hb : Nat.beq k i with
  | true => rw [if_pos (Nat.eq_of_beq_eq_true hb)]
  | false => rw [if_neg (Nat.ne_of_beq_eq_false hb)]; exact ih
def evB (G : Nat → Option D) (env : List (Nat × V)) : Operand → Option V
 | .tmp t => cw env t
 | .const v => some (.d (bf v))
 | .global g => (G g).map .d
 | .func f => some (.d (.fn f []))
theorem bK (G : Nat → Option D) (env : List (Nat × V)) (x : Operand) : evB G env x = evD G env x := by
 cases x <;> simp [evB, evD, bV]
def bz (ops : List Oper) (env : List (Nat × V)) : Option (Nat × Bool) → Option Bool
 | none => some true
 | some (j, want) =>
  match ops[j]? with
  | some o => match o.dst with
   | some t => match cw env t with
    | some (.d (.v (.bool b))) => match b, want with
     | true, true => some true
     | true, false => some false
     | false, true => some false
     | false, false => some true
    | some (.d (.v (.tuple _))) => some false
    | _ => none
   | none => none
  | none => none
theorem bN {ops : List Oper} {env : List (Nat × V)} {g : Option (Nat × Bool)} {b : Bool} (h : bz ops env g = some b) : bU ops.toArray env g = some b := by
 unfold bz at h
 unfold bU
 split at h
 ·exact h
 ·rename_i j want
  simp only [List.getElem?_toArray, ← bV]
  split at h
  ·rename_i o ho
   rw [ho]
   split at h
   ·rename_i t ht
    simp only [Option.bind_some, ht]
    split at h
    ·rename_i c hc
     rw [bV] at hc
     rw [hc]
     cases c <;> cases want <;> simpa using h
    ·rename_i hc
     rw [bV] at hc
     rw [hc]; exact h
    ·cases h
   ·cases h
  ·cases h
def SmG (F : Fr) (N : Nat) (ops l : List Oper) (Q : Exit → St → Prop) (st : St) : Prop := St.small N st → SmL F ops.toArray l Q st
section
variable {P : Program} {G : Nat → Option D} {N : Nat} {F : Fr} {ops rest : List Oper} {o : Oper} {Q : Exit → St → Prop} {env : List (Nat × V)} {h : List (Nat × Blk)} {nx : Nat} {al : List (Nat × Blk)} {K : List (Nat × V) → List (Nat × Blk) → Nat → Prop}
theorem ab {id : Nat} {l : List Oper} {st : St} (hF : Env F P G N) (hN : gN N st.env = true) (g : SmG F N l l Q st) : Sm F (.region id l.toArray false) Q st := Sm.region (g (kc hN))
theorem SmG.nil {st : St} (q : Q .normal st) : SmG F N ops [] Q st := fun _ => SmL.nil q
theorem dK {t : Nat} {x : V} {h' : List (Nat × Blk)} {nx' : Nat} (hs : St.small N ⟨env, h, nx⟩) (ht : t < N) : St.small N ⟨(t, x) :: env, h', nx'⟩ := by
 intro s y hy
 simp only [look] at hy
 split at hy
 ·rename_i e; subst e; exact ht
 ·exact hs s y hy
theorem SmG.v (hF : Env F P G N) {t : Tmp} {x : V} (hd : o.dst = some t) (ht : Nat.blt t N = true) (hg : bz ops env o.guard = some true) (hx : opV P (evD G env) h o = some x) (k : SmG F N ops rest Q ⟨(t, x) :: env, h, nx⟩) : SmG F N ops (o :: rest) Q ⟨env, h, nx⟩ := by
 have ht' : t < N := by simpa [Nat.blt_eq] using ht
 intro hs
 refine SmL.step hF hs (st' := ⟨(t, x) :: env, h, nx⟩) ?_ (k (dK hs ht'))
 have hout : opS P (evD G env) h o = some (.val x) := by
  unfold opS
  cases ho : o.op <;> simp only [hx, Option.map_some] <;> (simp [opV, ll, ho] at hx)
 simp only [lm, bN hg, hout, Option.bind_some, iu, hd, if_pos ht']
theorem SmG.pass (hF : Env F P G N) {t : Tmp} (hd : o.dst = some t) (ht : Nat.blt t N = true) (hg : bz ops env o.guard = some false) (k : SmG F N ops rest Q ⟨(t, .d (.v (.tuple #[]))) :: env, h, nx⟩) : SmG F N ops (o :: rest) Q ⟨env, h, nx⟩ := by
 have ht' : t < N := by simpa [Nat.blt_eq] using ht
 intro hs
 refine SmL.step hF hs (st' := ⟨(t, .d (.v undef)) :: env, h, nx⟩) ?_ (k (dK hs ht'))
 simp only [lm, bN hg, hd, if_pos ht']
theorem SmG.new (hF : Env F P G N) {t : Tmp} {sz : Nat} {row : List V} {T : TypeId} (hd : o.dst = some t) (ht : Nat.blt t N = true) (hg : bz ops env o.guard = some true) (hx : opS P (evD G env) h o = some (.new sz row T)) (k : SmG F N ops rest Q ⟨(t, .ref nx 0 0) :: env, (nx, ⟨sz, [row]⟩) :: h, nx + 1⟩) : SmG F N ops (o :: rest) Q ⟨env, h, nx⟩ := by
 have ht' : t < N := by simpa [Nat.blt_eq] using ht
 intro hs
 refine SmL.step hF hs (st' := ⟨(t, .ref nx 0 0) :: env, (nx, ⟨sz, [row]⟩) :: h, nx + 1⟩) ?_ (k (dK hs ht'))
 simp only [lm, bN hg, hx, Option.bind_some, iu, hd, if_pos ht']
theorem SmG.store (hF : Env F P G N) {t : TypeId} {x y : Operand} {vx vy : V} {l : Nat} {kb : Blk} (ho : o.op = .store t x y) (hd : o.dst = none) (hg : bz ops env o.guard = some true) (hx : evB G env x = some vx) (hy : evB G env y = some vy) (hst : fZ P h t vx vy = some (.upd l kb)) (k : SmG F N ops rest Q ⟨env, rep h l kb, nx⟩) : SmG F N ops (o :: rest) Q ⟨env, h, nx⟩ := by
 intro hs
 refine SmL.step hF hs (st' := ⟨env, rep h l kb, nx⟩) ?_ (k hs)
 rw [bK] at hx hy
 simp only [lm, bN hg, hd, opS, ho, hx, hy, hst, Option.bind_some, iu]
theorem j6 {xs : List Operand} : ∀ {ds : List D}, b7 (evB G env) xs = some ds → b7 (evD G env) xs = some ds := by
 intro ds h
 rw [← h]
 exact oo fun x _ => (bK G env x).symm
theorem SmG.call (hF : Env F P G N) {f : FuncId} {xs : List Operand} {ts : Array TypeId} {t : Tmp} {ds : List D} {r : D} (ho : o.op = .call ⟨.value (.func f), xs.toArray, ts⟩) (hd : o.dst = some t) (hb : e9 P f = true) (ht : Nat.blt t N = true)
  (hg : bz ops env o.guard = some true) (hargs : b7 (evB G env) xs = some ds) (hc : aj P G f ds r)
  (k : SmG F N ops rest Q ⟨(t, .d r) :: env, h, nx⟩) : SmG F N ops (o :: rest) Q ⟨env, h, nx⟩ := by
 have ht' : t < N := by simpa [Nat.blt_eq] using ht
 intro hs
 exact SmL.callR hF hs ho hd hb ht' (bN hg) (j6 (by simpa using hargs)) hc (k (dK hs ht'))
theorem aF.v (hF : Env F P G N) {t : Tmp} {x : V} (hd : o.dst = some t) (ht : Nat.blt t N = true) (hg : bz ops env o.guard = some true) (hx : opV P (evD G env) h o = some x) (k : aF F G N ops.toArray h rest ((t, x) :: env) al nx K) : aF F G N ops.toArray h (o :: rest) env al nx K :=
 aF.val hF hd (by simpa [Nat.blt_eq] using ht) (bN hg) hx k
theorem aF.p (hF : Env F P G N) {t : Tmp} (hd : o.dst = some t) (ht : Nat.blt t N = true) (hg : bz ops env o.guard = some false) (k : aF F G N ops.toArray h rest ((t, .d (.v (.tuple #[]))) :: env) al nx K) : aF F G N ops.toArray h (o :: rest) env al nx K :=
 aF.pass hd (by simpa [Nat.blt_eq] using ht) (bN hg) k
theorem aF.c (hF : Env F P G N) {f : FuncId} {xs : List Operand} {ts : Array TypeId} {t : Tmp} {ds : List D} {r : D} (ho : o.op = .call ⟨.value (.func f), xs.toArray, ts⟩) (hd : o.dst = some t) (hb : e9 P f = true) (ht : Nat.blt t N = true)
  (hg : bz ops env o.guard = some true) (hargs : b7 (evB G env) xs = some ds) (hc : aj P G f ds r)
  (k : aF F G N ops.toArray h rest ((t, .d r) :: env) al nx K) : aF F G N ops.toArray h (o :: rest) env al nx K :=
 aF.callR hF ho hd hb (by simpa [Nat.blt_eq] using ht) (bN hg) (j6 (by simpa using hargs)) hc k
theorem aF.new (hF : Env F P G N) {t : Tmp} {ty : TypeId} {sz : Nat} {row : List V} {T : TypeId} (ho : o.op = .alloc ty) (hd : o.dst = some t) (ht : Nat.blt t N = true) (hg : bz ops env o.guard = some true) (hx : ee P ty = some (.new sz row T))
  (k : aF F G N ops.toArray h rest ((t, .ref nx 0 0) :: env) ((nx, ⟨sz, [row]⟩) :: al) (nx + 1) K) : aF F G N ops.toArray h (o :: rest) env al nx K :=
 aF.alloc hF hd (by simpa [Nat.blt_eq] using ht) (bN hg) ho hx k
def Ay (l : List Oper) (k n : Nat) : Bool := decide (k ≤ n) && decide (n ≤ l.length) && l.all mI && nb l && oH l n && uW l k n
theorem um {id : Nat} {l : List Oper} {st : St} (hF : Env F P G N) (hm : P.follows .mixedOrders = true) (h : SmA F l 0 Q st) : Sm F (.region id l.toArray true) Q st := qJ (by rw [hF.prog]; exact hm) h
theorem xz {l : List Oper} {st : St} (hF : Env F P G N) (hN : gN N st.env = true) (k n : Nat) (hB : Ay l k n = true)
  (g : aF F G N l.toArray st.h ((l.drop k).take (n - k)) st.env [] st.nx fun env al nx => SmA F l n Q ⟨env, al ++ st.h, nx⟩) : SmA F l k Q st := by
 simp only [Ay, Bool.and_eq_true] at hB
 obtain ⟨⟨⟨⟨⟨h1, h2⟩, h3⟩, h4⟩, h5⟩, h6⟩ := hB
 exact SmA.head hF (kc hN) k n (of_decide_eq_true h1) (of_decide_eq_true h2) h3 h4 h5 h6 g
theorem iX {id : Nat} {l : List Oper} {st : St} (hF : Env F P G N) (hm : P.follows .mixedOrders = true) (hN : gN N st.env = true) (n : Nat) (hB : sb l n = true) (hD : yA l n = true)
  (g : aF F G N l.toArray st.h (l.take n) st.env [] st.nx fun env al nx => gN N env = true ∧ SmG F N l (l.drop n) Q ⟨env, al ++ st.h, nx⟩) : Sm F (.region id l.toArray true) Q st := by
 refine zI hF hm (kc hN) n hB hD (aF.mono ?_ g)
 intro env al nx hk
 exact hk.2 (kc (st := ⟨env, al ++ st.h, nx⟩) hk.1)
end
section
variable {P : Program} {G : Nat → Option D} {env : List (Nat × V)} {h : List (Nat × Blk)} {o : Oper}
theorem sH {x : Operand} {v : V} (ho : o.op = .move x) (hx : evB G env x = some v) : opV P (evD G env) h o = some v := by
 rw [bK] at hx; simp only [opV, ho, hx]
theorem ve {x : Operand} {v : V} (ho : o.op = .assign x) (hx : evB G env x = some v) : opV P (evD G env) h o = some v := by
 rw [bK] at hx; simp only [opV, ho, hx]
theorem aJ {c x y : Operand} {v : V} (ho : o.op = .pick c x y) (hc : evB G env c = some (.d (.v (.bool true)))) (hx : evB G env x = some v) : opV P (evD G env) h o = some v := by
 rw [bK] at hx hc; simp only [opV, ho, hx, hc, Option.bind_some]
theorem ap {c x y : Operand} {v : V} (ho : o.op = .pick c x y) (hc : evB G env c = some (.d (.v (.bool false)))) (hy : evB G env y = some v) : opV P (evD G env) h o = some v := by
 rw [bK] at hy hc; simp only [opV, ho, hy, hc, Option.bind_some]
theorem aZ {t : TypeId} {x : Operand} {v y : V} (ho : o.op = .load t x) (hx : evB G env x = some v) (hy : fy P h t v = some y) : opV P (evD G env) h o = some y := by
 rw [bK] at hx; simp only [opV, ho, hx, Option.bind_some, hy]
theorem aA {op : BinOp} {t yt : TypeId} {x y : Operand} {a b u : Value} (ho : o.op = .binOp op t x y yt) (hx : evB G env x = some (.d (.v a))) (hy : evB G env y = some (.d (.v b))) (hu : bb P (do eqGuard op t x y a b; binOp op t a b) = some u) : opV P (evD G env) h o = some (.d (.v u)) := by
 rw [bK] at hx hy; simp only [opV, ho, hx, hy, Option.bind_some, gE, hu, Option.map_some]
theorem ig {t yt : TypeId} {x y : Operand} {n m : Nat} {a b : List D} {c : Bool} (ho : o.op = .binOp .eql t x y yt) (hx : evB G env x = some (.d (.agg n a))) (hy : evB G env y = some (.d (.agg m b))) (hu : lf P t (.d (.agg n a)) (.d (.agg m b)) = some c) : opV P (evD G env) h o = some (.d (.v (.bool c))) := by
 rw [bK] at hx hy; simp only [opV, ho, hx, hy, Option.bind_some, gE, hu, Option.map_some]
theorem zb {t yt : TypeId} {x y : Operand} {n m : Nat} {a b : List D} {c : Bool} (ho : o.op = .binOp .neq t x y yt) (hx : evB G env x = some (.d (.agg n a))) (hy : evB G env y = some (.d (.agg m b))) (hu : lf P t (.d (.agg n a)) (.d (.agg m b)) = some c) : opV P (evD G env) h o = some (.d (.v (.bool (!c)))) := by
 rw [bK] at hx hy; simp only [opV, ho, hx, hy, Option.bind_some, gE, hu, Option.map_some]
theorem jF {op : UnOp} {t : TypeId} {x : Operand} {a u : Value} (ho : o.op = .unOp op t x) (hx : evB G env x = some (.d (.v a))) (hu : bb P (Op.unary op a) = some u) : opV P (evD G env) h o = some (.d (.v u)) := by
 rw [bK] at hx; simp only [opV, ho, hx, Option.bind_some, gE, hu, Option.map_some]
theorem lR {s d : TypeId} {x : Operand} {v y : V} (ho : o.op = .convert s d x) (hx : evB G env x = some v) (hy : gU P s d v = some y) : opV P (evD G env) h o = some y := by
 rw [bK] at hx; simp only [opV, ho, hx, Option.bind_some, hy]
theorem vk {x : Option Operand} {y : Option V} (hx : evO (evB G env) x = some y) : evO (evD G env) x = some y := by
 rw [← hx]; exact me fun z _ => (bK G env z).symm
theorem dI {t : TypeId} {x : Operand} {lo hi mx : Option Operand} {v y : V} {lv hv mv : Option V} (ho : o.op = .slice t x lo hi mx) (hx : evB G env x = some v) (h1 : evO (evB G env) lo = some lv) (h2 : evO (evB G env) hi = some hv) (h3 : evO (evB G env) mx = some mv) (hy : iI P h t v lv hv mv = some y) : opV P (evD G env) h o = some y := by
 rw [bK] at hx; simp only [opV, ho, hx, vk h1, vk h2, vk h3, Option.bind_some, hy]
theorem rY {t : TypeId} {x : Operand} {f : Nat} {v y : V} (ho : o.op = .fieldAddr t x f) (hx : evB G env x = some v) (hy : fw P t v f = some y) : opV P (evD G env) h o = some y := by
 rw [bK] at hx; simp only [opV, ho, hx, Option.bind_some, hy]
theorem az {t : TypeId} {x i : Operand} {v w y : V} (ho : o.op = .indexAddr t x i) (hx : evB G env x = some v) (hi : evB G env i = some w) (hy : cz P h t v w = some y) : opV P (evD G env) h o = some y := by
 rw [bK] at hx hi; simp only [opV, ho, hx, hi, Option.bind_some, hy]
theorem bS {x : Operand} {i : Nat} {xs : List D} {d : D} (ho : o.op = .extract x i) (hx : evB G env x = some (.d (.tup xs))) (hi : xs[i]? = some d) : opV P (evD G env) h o = some (.d d) := by
 rw [bK] at hx; simp only [opV, ho, hx, hi, Option.bind_some, Option.map_some]
theorem gG {x : Operand} {t : TypeId} {v y : V} (ho : o.op = .call ⟨.builtin .len, #[x], #[t]⟩) (hx : evB G env x = some v) (hy : k6 P t v = some y) : opV P (evD G env) h o = some y := by
 rw [bK] at hx; simp only [opV, ll, ho, hx, Option.bind_some, hy]
theorem ut {x y : Operand} {ts : Array TypeId} {k : IntKind} {a b : Int} (ho : o.op = .call ⟨.builtin .min, #[x, y], ts⟩) (hx : evB G env x = some (.d (.v (.int k a)))) (hy : evB G env y = some (.d (.v (.int k b)))) {u : Value} (hu : bb P (Builtin.min_ ts o.type #[.int k a, .int k b]) = some u) : opV P (evD G env) h o = some (.d (.v u)) := by
 rw [bK] at hx hy; simp only [opV, ll, ho, hx, hy, Option.bind_some, gE, hu, Option.map_some]
theorem mj {ps : List (Nat × Operand)} {qs : List (Nat × V)} (hx : e8 (evB G env) ps = some qs) : e8 (evD G env) ps = some qs := by
 rw [← hx]; exact k7 fun z _ => (bK G env z.2).symm
theorem fr {t : TypeId} {n : Nat} {ps : List (Nat × Operand)} {qs : List (Nat × V)} {y : V} (ho : o.op = .buildSlice t n ps.toArray) (hx : e8 (evB G env) ps = some qs) (hy : dn P t n qs = some y) : opV P (evD G env) h o = some y := by
 simp only [opV, ho, mj hx, Option.bind_some, hy]
theorem iq {t : TypeId} {ps : List (Nat × Operand)} {qs : List (Nat × V)} {y : V} {n : Nat} {e : TypeId} (ho : o.op = .build t ps.toArray) (hu : P.underlying t = some (.array n e)) (hx : e8 (evB G env) ps = some qs) (hy : fm P t qs = some y) : opV P (evD G env) h o = some y := by
 simp only [opV, ho, mj hx, Option.bind_some, hu, hy]
theorem a8 {t : TypeId} {ps : List (Nat × Operand)} {qs : List (Nat × V)} {y : V} {fs : Array Field} (ho : o.op = .build t ps.toArray) (hu : P.underlying t = some (.struct fs)) (hall : (fs.toList.all fun f => (ah P f.type).isSome) = true) (hx : e8 (evB G env) ps = some qs) (hy : fm P t qs = some y) : opV P (evD G env) h o = some y := by
 simp only [opV, ho, mj hx, Option.bind_some, hu, hall, if_true, hy]
theorem aO {t : TypeId} {u : Out} (ho : o.op = .alloc t) (hu : ee P t = some u) : opS P (evD G env) h o = some u := by
 simp only [opS, ho, hu]
theorem mR {t : TypeId} {x : Operand} {v : V} {u : Out} (ho : o.op = .box t x) (hx : evB G env x = some v) (hu : qR t v = some u) : opS P (evD G env) h o = some u := by
 rw [bK] at hx; simp only [opS, ho, hx, Option.bind_some, hu]
end
section
variable (P : Program) (t : TypeId) (x y : Operand) (k : IntKind) {a b : Int}
theorem iz (h : k.wrap (a + b) = a + b) : bb P (do eqGuard .add t x y (.int k a) (.int k b); binOp .add t (.int k a) (.int k b)) = some (.int k (a + b)) := by rw [cT, h]
theorem mG (h : k.wrap (a - b) = a - b) : bb P (do eqGuard .sub t x y (.int k a) (.int k b); binOp .sub t (.int k a) (.int k b)) = some (.int k (a - b)) := by rw [ky, h]
theorem lO (h : k.wrap (a * b) = a * b) : bb P (do eqGuard .mul t x y (.int k a) (.int k b); binOp .mul t (.int k a) (.int k b)) = some (.int k (a * b)) := by rw [jM, h]
theorem dD (h : a < b) : bb P (do eqGuard .lss t x y (.int k a) (.int k b); binOp .lss t (.int k a) (.int k b)) = some (.bool true) := by rw [ep, decide_eq_true h]
theorem dO (h : ¬ a < b) : bb P (do eqGuard .lss t x y (.int k a) (.int k b); binOp .lss t (.int k a) (.int k b)) = some (.bool false) := by rw [ep, decide_eq_false h]
theorem mJ (h : a = b) : bb P (do eqGuard .eql t x y (.int k a) (.int k b); binOp .eql t (.int k a) (.int k b)) = some (.bool true) := by rw [kV, beq_iff_eq.2 h]
theorem mU (h : a ≠ b) : bb P (do eqGuard .eql t x y (.int k a) (.int k b); binOp .eql t (.int k a) (.int k b)) = some (.bool false) := by rw [kV, beq_eq_false_iff_ne.2 h]
theorem uN (h : a ≠ b) : bb P (do eqGuard .neq t x y (.int k a) (.int k b); binOp .neq t (.int k a) (.int k b)) = some (.bool true) := by rw [nY, bne_iff_ne.2 h]
theorem uJ (h : a = b) : bb P (do eqGuard .neq t x y (.int k a) (.int k b); binOp .neq t (.int k a) (.int k b)) = some (.bool false) := by rw [nY, bne_eq_false_iff_eq.2 h]
theorem zk {ts : Array TypeId} {T : TypeId} (h : a ≤ b) : bb P (Builtin.min_ ts T #[.int .i64 a, .int .i64 b]) = some (.int .i64 a) := by
 have : ¬ b < a := by omega
 simp [Builtin.min_, Builtin.min2, cd, this]
theorem za {ts : Array TypeId} {T : TypeId} (h : b ≤ a) : bb P (Builtin.min_ ts T #[.int .i64 a, .int .i64 b]) = some (.int .i64 b) := by
 by_cases hb : b < a
 ·simp [Builtin.min_, Builtin.min2, cd, hb]
 ·have : a = b := by omega
  subst this; simp [Builtin.min_, Builtin.min2, cd]
theorem Aj (n : Int) (h : 0 ≤ n ∧ n ≤ 255) : IntKind.u8.wrap n = n := IntWalk.u8_in n h
theorem uw (n : Int) (h : 0 ≤ n ∧ n ≤ 4294967295) : IntKind.u32.wrap n = n := IntWalk.u32_in n h
theorem uz (n : Int) (h : 0 ≤ n ∧ n ≤ 18446744073709551615) : IntKind.u64.wrap n = n := by rw [IntKind.wrap_u64]; omega
theorem Ac (h0 : 0 ≤ a ∧ a ≤ 9223372036854775807) (h1 : 0 < b) : bb P (do eqGuard .quo t x y (.int .i64 a) (.int .i64 b); binOp .quo t (.int .i64 a) (.int .i64 b)) = some (.int .i64 (a / b)) := by
 rw [tD P t x y .i64 a b (by omega), Int.tdiv_eq_ediv_of_nonneg h0.1, bX]
 refine ⟨?_, ?_⟩
 ·have := Int.ediv_nonneg h0.1 (Int.le_of_lt h1); omega
 ·have := Int.ediv_le_self b h0.1; omega
theorem si (h0 : 0 ≤ a) (h1 : 0 < b) : bb P (do eqGuard .rem t x y (.int k a) (.int k b); binOp .rem t (.int k a) (.int k b)) = some (.int k (a % b)) := by
 rw [oy P t x y k a b (by omega), Int.tmod_eq_emod_of_nonneg h0]
theorem kz {c : Bool} : bb P (Op.unary .not (.bool c)) = some (.bool (!c)) := rfl
end
section
theorem t8 (n : Nat) : (n ≤ n) = True := by simp
end
theorem vS (k : IntKind) (n d : Nat) : b8 (some (.d (.v (.int k (n : Int))))) d = some n := by
 simp [b8, i8]
theorem t7 (k : IntKind) (d : Nat) : b8 (some (.d (.v (.int k 0)))) d = some 0 := rfl
theorem uk (k : IntKind) (d : Nat) : b8 (some (.d (.v (.int k 1)))) d = some 1 := rfl
theorem ua (d : Nat) : b8 none d = some d := rfl
theorem vU (k : IntKind) {n : Int} (d : Nat) (h : 0 ≤ n) : b8 (some (.d (.v (.int k n)))) d = some n.toNat := by
 simp [b8, i8, h]
theorem aE {α : Type} {c : Prop} [Decidable c] (h : c) (x y : α) : (if c then x else y) = x := if_pos h
section
variable {P : Program} {G : Nat → Option D} {N : Nat} {F : Fr} {ops rest : List Oper} {o : Oper} {Q : Exit → St → Prop} {env : List (Nat × V)} {h : List (Nat × Blk)} {nx : Nat} {t e : TypeId} {z : Value} {size bytes : Nat}
theorem SmG.appendOwn (hF : Env F P G N) (hE : ElemT P t e z size bytes) {s x : Operand} {d : Tmp} {sz' l n : Nat} {xs ys : List (List D)} {f : Bool} (ho : o.op = .call ⟨.builtin .append, #[s, x], #[t, t]⟩) (hd : o.dst = some d) (hdN : Nat.blt d N = true) (hg : bz ops env o.guard = some true)
  (hs : evB G env s = some (.sref l 0 n)) (hx : evB G env x = some (.d (.list sz' ys f))) (hl : cw h l = some ⟨size, xs.map fun r => r.map V.d⟩) (hn : n = xs.length) (hsz' : sz' = size ∨ ys = []) (hfree : kq l h) (hb : (xs.length + ys.length) * bytes ≤ 140737488355328) (hb2 : xs.length + ys.length ≤ 140737488355328)
  (k : SmG F N ops rest Q ⟨(d, .sref l 0 (xs ++ ys).length) :: i3 l env, rep h l (dB size (xs ++ ys)), nx⟩) (hlow : F.n0 ≤ l := by omega) : SmG F N ops (o :: rest) Q ⟨env, h, nx⟩ := by
 have hdN' : d < N := by simpa [Nat.blt_eq] using hdN
 intro hsm
 rw [bK] at hs hx
 rw [bV] at hl
 refine SmL.appendOwn (ops := ops.toArray) (rest := rest) (st := ⟨env, h, nx⟩) hF hsm hE (bN hg) ho hd hdN' hs hl hn hx hsz' hfree hb hb2 hlow ?_
 rw [List.length_append] at k
 refine k (dK (h := h) (nx := nx) ?_ hdN')
 intro s y hy
 simp only [kK] at hy
 cases hq : look env s with
 | none => rw [hq] at hy; cases hy
 | some y' => exact hsm s y' hq
theorem SmG.append (hF : Env F P G N) (hE : ElemT P t e z size bytes) {s x : Operand} {d : Tmp} {sz sz' : Nat} {xs ys : List (List D)} {f : Bool} (ho : o.op = .call ⟨.builtin .append, #[s, x], #[t, t]⟩) (hd : o.dst = some d) (hdN : Nat.blt d N = true) (hg : bz ops env o.guard = some true)
  (hs : evB G env s = some (.d (.list sz xs true))) (hx : evB G env x = some (.d (.list sz' ys f))) (hsz : sz = size ∨ xs = []) (hsz' : sz' = size ∨ ys = []) (hb : (xs.length + ys.length) * bytes ≤ 140737488355328) (hb2 : xs.length + ys.length ≤ 140737488355328)
  (k : SmG F N ops rest Q ⟨(d, .d (.list size (xs ++ ys) false)) :: env, h, nx⟩) : SmG F N ops (o :: rest) Q ⟨env, h, nx⟩ := by
 have hdN' : d < N := by simpa [Nat.blt_eq] using hdN
 intro hsm
 rw [bK] at hs hx
 exact SmL.append hF hsm hE (bN hg) ho hd hdN' hs hx hsz hsz' hb hb2 (k (dK hsm hdN'))
end
section
variable {P : Program} {G : Nat → Option D} {N : Nat} {F : Fr} {Q : Exit → St → Prop} {env : List (Nat × V)} {h : List (Nat × Blk)} {nx : Nat} {c : Operand} {x y : Code}
theorem bw {t : Bool} (hF : Env F P G N) (hc : evB G env c = some (.d (.v (.bool t)))) (ht : t = true → Sm F x Q ⟨env, h, nx⟩) (hf : t = false → Sm F y Q ⟨env, h, nx⟩) : Sm F (.cond c x y) Q ⟨env, h, nx⟩ := Sm.cond hF.glob (by rw [← bK]; exact hc) ht hf
theorem cP (hF : Env F P G N) (hc : evB G env c = some (.d (.v (.bool true)))) (ht : Sm F x Q ⟨env, h, nx⟩) : Sm F (.cond c x y) Q ⟨env, h, nx⟩ := bw hF hc (fun _ => ht) (fun h => by cases h)
theorem bq (hF : Env F P G N) (hc : evB G env c = some (.d (.v (.bool false)))) (hf : Sm F y Q ⟨env, h, nx⟩) : Sm F (.cond c x y) Q ⟨env, h, nx⟩ := bw hF hc (fun h => by cases h) (fun _ => hf)
end
theorem ak {id : Nat} {Q : Exit → St → Prop} {st : St} (h : Q .normal st) : gA id Q .normal st := h
attribute [go_sem] fy fZ kR ij seg cz qv iI k6 qy fw qh dn fm ee qR gU i8 gE vS ua t7 uk vU look bf Option.bind_some Option.map_some Option.bind_none Option.map_none List.map_cons List.map_nil Nat.zero_add Nat.add_zero
attribute [go_sem] Int.toNat_natCast Int.toNat_zero Int.toNat_one List.getElem?_cons_succ List.getElem?_cons_zero List.getElem?_map Option.isNone_none Option.isSome_some Option.isNone_some Option.isSome_none Bool.true_and Bool.and_true Bool.false_and Bool.and_false and_true true_and and_self if_true if_false beq_self_eq_true List.length_map List.length_nil List.length_cons List.isEmpty_nil List.isEmpty_cons eq_self_iff_true Bool.not_true Bool.not_false Bool.false_eq_true decide_true decide_false Int.cast_ofNat_Int Int.natCast_zero Int.natCast_nonneg List.drop_zero List.drop_succ_cons List.set_cons_zero List.set_cons_succ Nat.mul_one Nat.one_mul Nat.mul_zero Nat.zero_mul List.nil_append List.cons_append Nat.sub_zero Nat.sub_self t8 true_or or_true false_or or_false List.replicate_zero List.replicate_succ iW ii ku vC lQ Value.oneCell' Nat.zero_le
inductive Spl {α : Type} : Nat → List α → List α → List α → Prop
 | z (l : List α) : Spl 0 l [] l
 | s {n : Nat} {x : α} {l a b : List α} : Spl n l a b → Spl (n + 1) (x :: l) (x :: a) b
theorem Spl.eq {α : Type} {n : Nat} {l a b : List α} (h : Spl n l a b) : l.take n = a ∧ l.drop n = b := by
 induction h with
 | z l => exact ⟨rfl, rfl⟩
 | s _ ih => exact ⟨by rw [List.take_succ_cons, ih.1], by rw [List.drop_succ_cons, ih.2]⟩
inductive Apd {α : Type} : List α → List α → List α → Prop
 | nil (l : List α) : Apd [] l l
 | cons {x : α} {a b c : List α} : Apd a b c → Apd (x :: a) b (x :: c)
theorem Apd.eq {α : Type} {a b c : List α} (h : Apd a b c) : a ++ b = c := by
 induction h with
 | nil l => rfl
 | cons _ ih => rw [List.cons_append, ih]
section
variable {P : Program} {G : Nat → Option D} {N : Nat} {F : Fr} {ops rest : List Oper} {o : Oper} {Q Q' : Exit → St → Prop} {env e : List (Nat × V)} {h g : List (Nat × Blk)} {nx m : Nat} {al : List (Nat × Blk)} {K : List (Nat × V) → List (Nat × Blk) → Nat → Prop} {st : St}
theorem gv (hF : Env F P G N) {t : Tmp} {op : Op} {ty : TypeId} {pos : String} {w : Array Edge} {gd : Option (Nat × Bool)} {x : V} (hx : opV P (evD G env) h ⟨some t, op, ty, pos, w, gd⟩ = some x) (k : SmG F N ops rest Q ⟨(t, x) :: env, h, nx⟩) (ht : Nat.blt t N = true := by exact rfl) (hg : bz ops env gd = some true := by exact rfl) : SmG F N ops (⟨some t, op, ty, pos, w, gd⟩ :: rest) Q ⟨env, h, nx⟩ := SmG.v hF rfl ht hg hx k
theorem hv (hF : Env F P G N) {t : Tmp} {op : Op} {ty : TypeId} {pos : String} {w : Array Edge} {gd : Option (Nat × Bool)} {x : V} (hx : opV P (evD G env) h ⟨some t, op, ty, pos, w, gd⟩ = some x) (k : aF F G N ops.toArray h rest ((t, x) :: env) al nx K) (ht : Nat.blt t N = true := by exact rfl) (hg : bz ops env gd = some true := by exact rfl) : aF F G N ops.toArray h (⟨some t, op, ty, pos, w, gd⟩ :: rest) env al nx K := aF.v hF rfl ht hg hx k
theorem gp (hF : Env F P G N) {t : Tmp} {op : Op} {ty : TypeId} {pos : String} {w : Array Edge} {gd : Option (Nat × Bool)} (k : SmG F N ops rest Q ⟨(t, .d (.v (.tuple #[]))) :: env, h, nx⟩) (ht : Nat.blt t N = true := by exact rfl) (hg : bz ops env gd = some false := by exact rfl) : SmG F N ops (⟨some t, op, ty, pos, w, gd⟩ :: rest) Q ⟨env, h, nx⟩ := SmG.pass hF rfl ht hg k
theorem hp (hF : Env F P G N) {t : Tmp} {op : Op} {ty : TypeId} {pos : String} {w : Array Edge} {gd : Option (Nat × Bool)} (k : aF F G N ops.toArray h rest ((t, .d (.v (.tuple #[]))) :: env) al nx K) (ht : Nat.blt t N = true := by exact rfl) (hg : bz ops env gd = some false := by exact rfl) : aF F G N ops.toArray h (⟨some t, op, ty, pos, w, gd⟩ :: rest) env al nx K := aF.p hF rfl ht hg k
theorem oM {x : Operand} {v : V} (ho : o.op = .move x := by exact rfl) (hx : evB G env x = some v := by exact rfl) : opV P (evD G env) h o = some v := sH ho hx
theorem oA {x : Operand} {v : V} (ho : o.op = .assign x := by exact rfl) (hx : evB G env x = some v := by exact rfl) : opV P (evD G env) h o = some v := ve ho hx
theorem sn {K' : St → Prop} (q : K' st) : SmG F N ops [] (cZ K' Q) st := SmG.nil (ae q)
theorem sk {K' : St → Prop} (q : K' st) : Sm F .skip (cZ K' Q) st := Sm.skip (ae q)
theorem sr (hF : Env F P G N) {id : Nat} {l : List Oper} {y : Code} (g : SmG F N l l (cZ (Sm F y Q) Q) st) (hN : gN N st.env = true := by exact rfl) : Sm F (.seq (.region id l.toArray false) y) Q st := Sm.seq (ab hF hN g)
theorem dG (hF : Env F P G N) {id : Nat} {l a b : List Oper} (n : Nat) (g : aF F G N l.toArray h a env [] nx fun env al nx => gN N env = true ∧ SmG F N l b Q ⟨env, al ++ h, nx⟩) (hm : P.follows .mixedOrders = true := by kernel_rfl) (hs : Spl n l a b := by repeat' constructor) (hN : gN N env = true := by exact rfl) (hB : sb l n = true := by kernel_rfl) (hD : yA l n = true := by kernel_rfl) : Sm F (.region id l.toArray true) Q ⟨env, h, nx⟩ := by
 obtain ⟨rfl, rfl⟩ := hs.eq
 exact iX (st := ⟨env, h, nx⟩) hF hm hN n hB hD g
theorem hE {h' h0 : List (Nat × Blk)} {l b : List Oper} (k : SmG F N l b Q ⟨env, h', nx⟩) (ha : Apd al h h' := by repeat' constructor) (hN : gN N env = true := by exact rfl) : aF F G N ops.toArray h0 [] env al nx (fun env al nx => gN N env = true ∧ SmG F N l b Q ⟨env, al ++ h, nx⟩) := by
 rw [← ha.eq] at k
 exact ⟨hN, k⟩
end
end
section
open Go.RowKit Go.ChangeShapes Go.WideShapes
def fQ (w : World) : aK := fun b o u => w.cell? ⟨b, o, none⟩ = some u
theorem ui (w : World) : bW (fQ w) w := fun _ _ _ h => .inl h
def TyD (P : Program) : Nat → TypeId → List D → Prop
 | 0, _, _ => False
 | n + 1, t, ds =>
  match P.underlying t with
  | some .bool => ∃ b, ds = [.v (.bool b)]
  | some (.int k) => ∃ z, ds = [.v (.int k z)] ∧ k.min ≤ z ∧ z ≤ k.max
  | some .string => ∃ s : ByteArray, ds = [.v (.string s)] ∧ s.size ≤ 9223372036854775807
  | some (.slice e) => ∃ xs : List (List D), ds = [.list (P.cellsOf e) xs false] ∧ xs.length ≤ 9223372036854775807 ∧ ∀ x ∈ xs, TyD P n e x
  | some (.struct fs) => ∃ parts : List (List D), parts.length = fs.size ∧ ds = parts.flatten ∧ ∀ (i : Nat) (f : Field) (p : List D), fs[i]? = some f → parts[i]? = some p → TyD P n f.type p
  | some (.array m e) => ∃ parts : List (List D), parts.length = m ∧ ds = parts.flatten ∧ ∀ p ∈ parts, TyD P n e p
  | _ => False
def r7 (P : Program) : Nat → List Field → Bool
 | _, [] => true
 | off, f :: r => f.offset == off && r7 P (off + P.cellsOf f.type) r
def mS (P : Program) : List Field → Nat
 | [] => 0
 | f :: r => P.cellsOf f.type + mS P r
def jP (P : Program) : Nat → TypeId → Bool
 | 0, _ => false
 | n + 1, t =>
  match P.underlying t with
  | some .bool | some (.int _) | some .string => P.cellsOf t == 1
  | some (.slice e) => P.cellsOf t == 1 && decide (0 < P.cellsOf e) && jP P n e
  | some (.struct fs) => r7 P 0 fs.toList && mS P fs.toList == P.cellsOf t && fs.toList.all fun f => jP P n f.type
  | some (.array m e) => m * P.cellsOf e == P.cellsOf t && jP P n e
  | _ => false
section
variable {H : Type} {enc : TypeId × Value → H} {P : Program} {w : World}
theorem vn {n : Nat} : ∀ (l : List Field) (off : Nat) (cs : List Value), r7 P off l = true → (∀ (i : Nat) (f : Field), l[i]? = some f → ∃ ds, Rp (fQ w) (.vals ds ((cs.drop f.offset).take (P.cellsOf f.type))) ∧ TyD P n f.type ds) →
  ∃ parts : List (List D), parts.length = l.length ∧ (∀ (i : Nat) (f : Field) (p : List D), l[i]? = some f → parts[i]? = some p → TyD P n f.type p) ∧ Rp (fQ w) (.vals parts.flatten ((cs.drop off).take (mS P l))) := by
 intro l
 induction l with
 | nil => intro off cs _ _; exact ⟨[], rfl, by simp, by simpa [mS] using .vnil⟩
 | cons f l ih =>
  intro off cs hc h
  simp only [r7, Bool.and_eq_true, beq_iff_eq] at hc
  obtain ⟨ho, hc⟩ := hc
  obtain ⟨ds, h1, h2⟩ := h 0 f rfl
  obtain ⟨parts, k1, k2, k3⟩ := ih (off + P.cellsOf f.type) cs hc fun i g hg => h (i + 1) g (by simpa using hg)
  refine ⟨ds :: parts, by simp [k1], fun i g p hg hp => ?_, ?_⟩
  ·cases i with
   | zero => simp at hg hp; subst hg; subst hp; exact h2
   | succ i => exact k2 i g p (by simpa using hg) (by simpa using hp)
  ·rw [ho] at h1
   have := fC h1 k3
   rw [List.flatten_cons, mS, List.take_add, List.drop_drop]
   exact this
theorem wq {n e : Nat} : ∀ (m i0 : Nat) (cs : List Value), (∀ i, i < m → ∃ ds, Rp (fQ w) (.vals ds ((cs.drop ((i0 + i) * P.cellsOf e)).take (P.cellsOf e))) ∧ TyD P n e ds) →
  ∃ parts : List (List D), parts.length = m ∧ (∀ p ∈ parts, TyD P n e p) ∧ Rp (fQ w) (.vals parts.flatten ((cs.drop (i0 * P.cellsOf e)).take (m * P.cellsOf e))) := by
 intro m
 induction m with
 | zero => intro i0 cs _; exact ⟨[], rfl, by simp, by simpa using .vnil⟩
 | succ m ih =>
  intro i0 cs h
  obtain ⟨ds, h1, h2⟩ := h 0 (by omega)
  obtain ⟨parts, k1, k2, k3⟩ := ih (i0 + 1) cs fun i hi => by
   have := h (i + 1) (by omega)
   rw [show i0 + 1 + i = i0 + (i + 1) by omega]; exact this
  refine ⟨ds :: parts, by simp [k1], fun p hp => (List.mem_cons.1 hp).elim (fun e => e ▸ h2) (k2 p), ?_⟩
  have := fC h1 k3
  rw [List.flatten_cons, Nat.succ_mul, Nat.add_comm (m * _), List.take_add, List.drop_drop, show i0 * P.cellsOf e + P.cellsOf e = (i0 + 1) * P.cellsOf e by rw [Nat.succ_mul]]
  simpa using this
theorem yj : ∀ (n : Nat) (t : TypeId) (fuel : Nat) (cs : List Value) (x : DataW H × List MemPlace), jP P n t = true → DataW.trod enc P w 0 (fun _ => true) true fuel t cs = some x →
  cs.length = P.cellsOf t ∧ ∃ ds, Rp (fQ w) (.vals ds cs) ∧ TyD P n t ds := by
 intro n
 induction n with
 | zero => intro t fuel cs x hf; simp [jP] at hf
 | succ n ih =>
  intro t fuel cs x hf h
  simp only [jP] at hf
  split at hf
  ·rename_i ht
   obtain ⟨b, rfl, _⟩ := DataW.trod_bool ht h
   refine ⟨(by simpa using (beq_iff_eq.1 hf).symm), [.v (.bool b)], .vcons _ _ _ _ rfl (.v _) .vnil, ?_⟩
   simp only [TyD, ht]; exact ⟨b, rfl⟩
  ·rename_i k ht
   obtain ⟨z, rfl, _, hw⟩ := DataW.trod_int ht h
   simp only [Lit.wf, Bool.and_eq_true, decide_eq_true_eq] at hw
   refine ⟨(by simpa using (beq_iff_eq.1 hf).symm), [.v (.int k z)], .vcons _ _ _ _ rfl (.v _) .vnil, ?_⟩
   simp only [TyD, ht]; exact ⟨z, rfl, hw.1, hw.2⟩
  ·rename_i ht
   obtain ⟨s, rfl, _, hs⟩ := DataW.trod_string ht h
   refine ⟨(by simpa using (beq_iff_eq.1 hf).symm), [.v (.string s)], .vcons _ _ _ _ rfl (.v _) .vnil, ?_⟩
   simp only [TyD, ht]; exact ⟨s, rfl, by unfold maxLen at hs; omega⟩
  ·rename_i e ht
   simp only [Bool.and_eq_true, decide_eq_true_eq, beq_iff_eq] at hf
   obtain ⟨⟨hf1, hpos⟩, hf⟩ := hf
   rcases DataW.trod_slice ht h with ⟨rfl, _⟩ | ⟨a, len, cap, elems, rest, m, _, rfl, _, _, hlc, hcm, hel, hget, hsp, _⟩
   ·refine ⟨by simpa using hf1.symm, [.list (P.cellsOf e) [] false], .vcons _ _ _ _ rfl (.nil _ _ _ _ ⟨Nat.le_refl _, fun _ => rfl, by omega, fun _ => rfl, fun _ h => by cases h⟩) .vnil, ?_⟩
    simp only [TyD, ht]; exact ⟨[], rfl, by simp, by simp⟩
   ·have hmax : cap ≤ 9223372036854775807 := by unfold maxLen at hcm; omega
    obtain ⟨hrl, hrest⟩ := hsp rfl
    have one : ∀ i, i < cap → ∃ cs', w.cells? 0 (a.add (i * P.cellsOf e)) (P.cellsOf e) = some cs' ∧ ∃ y, DataW.trod enc P w 0 (fun _ => true) true m e cs' = some y := by
     intro i hi
     rcases Nat.lt_or_ge i len with hil | hil
     ·have := hget i hil
      rw [List.getElem?_eq_getElem (by omega)] at this
      obtain ⟨cs', h1, h2⟩ := Option.bind_eq_some_iff.1 this
      exact ⟨cs', h1, _, h2⟩
     ·have := hrest (i - len) (by omega)
      rw [show len + (i - len) = i by omega, List.getElem?_eq_getElem (by omega)] at this
      obtain ⟨cs', h1, h2⟩ := Option.bind_eq_some_iff.1 this
      exact ⟨cs', h1, _, h2⟩
    have hspot : 0 < cap → a.spot = none := by
     intro hc
     obtain ⟨cs', h1, y, h2⟩ := one 0 hc
     have hlen := (World.cells?_some h1)
     have h3 := hlen.2.2 0 hpos
     rw [List.getElem?_eq_getElem (by rw [hlen.2.1]; exact hpos)] at h3
     have := World.cell?_spot h3
     simpa [Addr.add] using this
    have rows : ∃ xs : List (List D), xs.length = len ∧ (∀ x ∈ xs, TyD P n e x) ∧ (0 < cap → Rp (fQ w) (.rows xs a.block a.off (P.cellsOf e))) := by
     have hch : ∀ i, i < len → ∃ x : List D, x.length = P.cellsOf e ∧ TyD P n e x ∧ Rp (fQ w) (.mem x a.block (a.off + i * P.cellsOf e)) := by
      intro i hi
      obtain ⟨cs', h1, y, h2⟩ := one i (by omega)
      obtain ⟨hl, ds, k1, k2⟩ := ih e m cs' y hf h2
      refine ⟨ds, by rw [← cc k1, hl], k2, pc k1 fun j u hj => ?_⟩
      obtain ⟨_, g1, g2⟩ := World.cells?_some h1
      have hjl : j < P.cellsOf e := by rw [← hl]; exact (List.getElem?_eq_some_iff.1 hj).1
      have g3 := g2 j hjl
      rw [hj] at g3
      have hsp0 := hspot (by omega)
      obtain ⟨b, o, s⟩ := a
      simp only at hsp0
      subst hsp0
      rw [cX, cX] at g3
      exact g3
     obtain ⟨f, hfx⟩ := Deep.choose_lt hch
     refine ⟨(List.range len).map f, by simp, fun x hx => ?_, fun _ => jt fun i x hi => ?_⟩
     ·obtain ⟨i, hi, rfl⟩ := List.mem_map.1 hx
      exact (hfx i (by simpa using hi)).2.1
     ·have hil : i < len := by have := (List.getElem?_eq_some_iff.1 hi).1; simpa using this
      simp [hil] at hi
      subst hi
      exact ⟨(hfx i hil).1, (hfx i hil).2.2⟩
    obtain ⟨xs, x1, x2, x3⟩ := rows
    refine ⟨by simpa using hf1.symm, [.list (P.cellsOf e) xs false], .vcons _ _ _ _ rfl ?_ .vnil, ?_⟩
    ·by_cases hx : xs = []
     ·subst hx
      simp only [List.length_nil] at x1
      subst x1
      exact .nil _ _ _ _ ⟨Nat.zero_le _, by simp, hmax, fun h => (by cases h), fun x hx hc => by cases hx; exact hspot hc⟩
     ·have hl : 0 < xs.length := List.length_pos_iff.2 hx
      have hsp0 := hspot (by omega)
      obtain ⟨b, o, s⟩ := a
      simp only at hsp0
      subst hsp0
      rw [← x1]
      exact .list _ _ _ _ _ _ hx ⟨by omega, by simp, hmax, fun h => (by cases h), fun x hx _ => by cases hx; rfl⟩ (x3 (by omega))
    ·simp only [TyD, ht]; exact ⟨xs, rfl, by omega, x2⟩
  ·rename_i fs ht
   simp only [Bool.and_eq_true, beq_iff_eq] at hf
   obtain ⟨⟨hf1, hf2⟩, hf3⟩ := hf
   obtain ⟨xs, m, _, _, hl, hxl, hget⟩ := DataW.trod_struct ht h
   obtain ⟨parts, k1, k2, k3⟩ := vn (P := P) (w := w) (n := n) fs.toList 0 cs hf1 (fun i f hi => by
    have hi' : fs[i]? = some f := by simpa using hi
    have hil : i < xs.length := by rw [hxl]; exact (Array.getElem?_eq_some_iff.1 hi').1
    have := hget i f hi'
    rw [List.getElem?_eq_getElem hil] at this
    have hm : f ∈ fs.toList := List.mem_of_getElem? hi
    exact (ih f.type m _ _ (List.all_eq_true.1 hf3 f hm) this).2)
   refine ⟨hl, parts.flatten, ?_, ?_⟩
   ·rw [hf2, ← hl] at k3
    simpa using k3
   ·simp only [TyD, ht]
    exact ⟨parts, by simpa using k1, rfl, fun i f p hi hp => k2 i f p (by simpa using hi) hp⟩
  ·rename_i m e ht
   simp only [Bool.and_eq_true, beq_iff_eq] at hf
   obtain ⟨hf1, hf2⟩ := hf
   obtain ⟨xs, q, _, _, hl, hxl, hget⟩ := DataW.trod_array ht h
   obtain ⟨parts, k1, k2, k3⟩ := wq (P := P) (w := w) (n := n) (e := e) m 0 cs (fun i hi => by
    have := hget i hi
    rw [List.getElem?_eq_getElem (by omega)] at this
    rw [Nat.zero_add]
    exact (ih e q _ _ hf2 this).2)
   refine ⟨hl, parts.flatten, ?_, ?_⟩
   ·rw [hf1, ← hl] at k3
    simpa using k3
   ·simp only [TyD, ht]
    exact ⟨parts, k1, rfl, k2⟩
  ·cases hf
def mt (P : Program) (n : Nat) (t : TypeId) (d : D) : Prop :=
 match au P t with
 | some true => ∃ ds, d = .agg (P.cellsOf t) ds ∧ ds.length = P.cellsOf t ∧ TyD P n t ds
 | some false => TyD P n t [d]
 | none => False
theorem zG {n : Nat} {t : TypeId} {v : Value} {x : DataW H} {p : List MemPlace} {base : Nat} (hf : jP P n t = true) (hv : Value.okWide P w .any base t v) (h : DataW.Trod enc P w 0 (fun _ => true) true t v x p) : ∃ d, Rep (fQ w) d v ∧ mt P n t d := by
 obtain ⟨fuel, h⟩ := h
 obtain ⟨hl, ds, h1, h2⟩ := yj n t fuel _ _ hf h
 cases n with
 | zero => simp [jP] at hf
 | succ n =>
 have one : au P t = some false → P.cellsOf t = 1 → (∀ cs, v ≠ .agg cs) → ∃ d, Rep (fQ w) d v ∧ mt P (n + 1) t d := by
  intro ha hc hne
  have hcv : v.cells.toList = [v] := by cases v <;> first | rfl | exact (hne _ rfl).elim
  rw [hcv] at h1
  cases h1 with
  | vcons d _ ds' _ g1 g2 g3 =>
   cases g3
   exact ⟨d, g2, by simpa only [mt, ha] using h2⟩
 have all : au P t = some true → (∃ cs, v = .agg cs) → ∃ d, Rep (fQ w) d v ∧ mt P (n + 1) t d := by
  rintro ha ⟨cs, rfl⟩
  have hc : (Value.agg cs).cells.toList = cs.toList := rfl
  rw [hc] at h1 hl
  have hdl : ds.length = P.cellsOf t := by rw [← cc h1, hl]
  exact ⟨.agg (P.cellsOf t) ds, by have := Rp.agg (P.cellsOf t) ds cs.toList hdl h1; simpa using this, by simp only [mt, ha]; exact ⟨ds, rfl, hdl, h2⟩⟩
 have h0 := hf
 simp only [jP] at hf
 have hv' := hv
 split at hf
 ·rename_i ht
  refine one (by simp [au, ht]) (beq_iff_eq.1 hf) fun cs e => ?_
  subst e; simp [Value.okWide, ht, Cell.okWide, Cell.ok] at hv
 ·rename_i k ht
  refine one (by simp [au, ht]) (beq_iff_eq.1 hf) fun cs e => ?_
  subst e; simp [Value.okWide, ht, Cell.okWide, Cell.ok] at hv
 ·rename_i ht
  refine one (by simp [au, ht]) (beq_iff_eq.1 hf) fun cs e => ?_
  subst e; simp [Value.okWide, ht, Cell.okWide, Cell.ok] at hv
 ·rename_i e ht
  simp only [Bool.and_eq_true, beq_iff_eq] at hf
  refine one (by simp [au, ht]) hf.1.1 fun cs e => ?_
  subst e; simp [Value.okWide, ht, Cell.okWide, Cell.ok] at hv
 ·rename_i fs ht
  refine all (by simp [au, ht]) ?_
  simp only [Value.okWide, ht] at hv
  obtain ⟨cs, e, _⟩ := hv
  exact ⟨cs, e⟩
 ·rename_i m e ht
  refine all (by simp [au, ht]) ?_
  simp only [Value.okWide, ht] at hv
  obtain ⟨cs, e, _⟩ := hv
  exact ⟨cs, e⟩
 ·cases hf
def nd (P : Program) (n : Nat) : List TypeId → List D → Prop
 | [], [] => True
 | t :: ts, d :: ds => mt P n t d ∧ nd P n ts ds
 | _, _ => False
theorem yy {n base : Nat} : ∀ {ts : List TypeId} {vs : List Value} {xs : List (DataW H)} {p : List MemPlace}, (ts.all (jP P n)) = true → (∀ (j : Nat) t v, ts[j]? = some t → vs[j]? = some v → Value.okWide P w .any base t v) → DataW.TrodAll enc P w 0 (fun _ => true) true ts vs xs p →
  xs.length = ts.length ∧ ∃ ds, Rp (fQ w) (.outs ds vs) ∧ nd P n ts ds := by
 intro ts
 induction ts with
 | nil =>
  intro vs xs p _ _ h
  cases vs with
  | nil => cases xs with
   | nil => exact ⟨rfl, [], .onil, trivial⟩
   | cons => exact h.elim
  | cons => cases xs <;> exact h.elim
 | cons t ts ih =>
  intro vs xs p hf hv h
  cases vs with
  | nil => cases xs <;> exact h.elim
  | cons v vs =>
   cases xs with
   | nil => exact h.elim
   | cons x xs =>
    obtain ⟨p', q, h1, h2, _⟩ := h
    simp only [List.all_cons, Bool.and_eq_true] at hf
    obtain ⟨hl, ds, k1, k2⟩ := ih hf.2 (fun j t v ht hv' => hv (j + 1) t v (by simpa using ht) (by simpa using hv')) h2
    obtain ⟨d, g1, g2⟩ := zG hf.1 (hv 0 t v rfl rfl) h1
    exact ⟨by simp [hl], d :: ds, .ocons _ _ _ _ g1 k1, g2, k2⟩
theorem wh {W' : World} (hl : laidOutB P = true) : ∀ {ts : List TypeId} {vs : List Value} {xs : List (DataW H)} {p : List MemPlace}, (ts.all fun t => P.readableRec t && decide (t < P.types.size)) = true → DataW.TrodAll enc P w 0 (fun _ => true) true ts vs xs p → Below w.heap.size w W' → (∀ x ∈ p, x.block < w.heap.size) →
  DataW.TrodAll enc P W' 0 (fun b => decide (b < w.heap.size)) true ts vs xs p := by
 intro ts
 induction ts with
 | nil =>
  intro vs xs p _ h _ _
  cases vs with
  | nil => cases xs with
   | nil => exact h
   | cons => exact h.elim
  | cons => cases xs <;> exact h.elim
 | cons t ts ih =>
  intro vs xs p hf h hb hp
  cases vs with
  | nil => cases xs <;> exact h.elim
  | cons v vs =>
   cases xs with
   | nil => exact h.elim
   | cons x xs =>
    obtain ⟨p', q, h1, h2, rfl⟩ := h
    simp only [List.all_cons, Bool.and_eq_true, decide_eq_true_eq] at hf
    exact ⟨p', q, Below.trod hl hf.1.1 hf.1.2 h1 hb (fun x hx => hp x (by simp [hx])), ih hf.2 h2 hb (fun x hx => hp x (by simp [hx])), rfl⟩
end
end
section
open Go.ChangeShapes Go.WideShapes Go.ChangeAt Go.RowKit
set_option maxRecDepth 100000
theorem own : ownKnob Tryd.prog.godebug = none := by kernel_rfl
theorem y1 : laidOutB Tryd.prog = true := by kernel_rfl
theorem qB {H : Type} {enc : TypeId × Value → H} {P : Program} {w : World} {base : Nat} {sp : Nat → Bool} {held : Bool} {fuel t e n : Nat} {k : IntKind} {cs : List Value} {ns : List Int} {q : List MemPlace}
  (ht : P.underlying t = some (.array n e)) (he : P.underlying e = some (.int k)) (ce : P.cellsOf e = 1) (ct : P.cellsOf t = n)
  (hd : DataW.trod enc P w base sp held fuel t cs = some (.agg (ns.map fun x => .lit (.int k x)), q)) : cs = ns.map (.int k) := by
 obtain ⟨xs, m, _, ex, hlen, hl, hel⟩ := DataW.trod_array ht hd
 have e1 := DataW.agg.inj (Prod.mk.inj ex).1
 rw [ct] at hlen
 have hnl : ns.length = n := by have := congrArg List.length e1; simpa [hl] using this
 apply List.ext_getElem?
 intro i
 rcases Nat.lt_or_ge i n with hi | hi
 ·have h1 := hel i hi
  rw [ce, Nat.mul_one] at h1
  have hxi : xs[i]? = some xs[i] := by simp [hl, hi]
  rw [hxi] at h1
  obtain ⟨z, hz, hx, _⟩ := DataW.trod_int he h1
  have h2 : (ns.map fun x => (DataW.lit (.int k x) : DataW H))[i]? = some (.lit (.int k z)) := by
   rw [e1, List.getElem?_map, hxi, hx]; rfl
  rw [List.getElem?_map] at h2
  cases hn : ns[i]? with
  | none => rw [hn] at h2; cases h2
  | some y =>
   rw [hn] at h2
   simp at h2
   subst h2
   have h3 : cs[i]? = some (.int k y) := by
    have := congrArg (·[0]?) hz
    simp at this
    exact this
   rw [h3, List.getElem?_map, hn]; rfl
 ·rw [List.getElem?_eq_none (by omega), List.getElem?_eq_none (by simp [hnl]; omega)]
def ml : List (String × DataW Unit) := [("skewer/hash.begin", Rows.laid_skewer_hash_begin), ("skewer/hash.keys", Rows.laid_skewer_hash_keys)]
theorem vf : (Rows.laid_skewer_hash_begin : DataW Unit) = .agg ((Sha.begin8.map fun x => (x.toNat : Int)).map fun x => .lit (.int .u32 x)) := rfl
theorem wP : (Rows.laid_skewer_hash_keys : DataW Unit) = .agg ((Sha.keys64.map fun x => (x.toNat : Int)).map fun x => .lit (.int .u32 x)) := rfl
theorem sC {W : World} (h : laidMetH Tryd.prog ml W) : ip W := by
 rw [MakeChecks.laidMetH_plain _ _ _ (by kernel_rfl)] at h
 obtain ⟨ps, ⟨g, t, cs, fuel, p, q, hg, ht, hv, hd, ⟨g2, t2, cs2, fuel2, p2, q2, hg2, ht2, hv2, hd2, _, _⟩, _⟩, _, _⟩ := h
 obtain rfl := Option.some.inj ((show Tryd.prog.globalNamed "skewer/hash.begin" = some 0 by kernel_rfl).symm.trans hg)
 obtain rfl := Option.some.inj ((show (Tryd.prog.globals[0]?).map (·.type) = some 139 by kernel_rfl).symm.trans ht)
 obtain rfl := Option.some.inj ((show Tryd.prog.globalNamed "skewer/hash.keys" = some 1 by kernel_rfl).symm.trans hg2)
 obtain rfl := Option.some.inj ((show (Tryd.prog.globals[1]?).map (·.type) = some 154 by kernel_rfl).symm.trans ht2)
 rw [vf] at hd
 rw [wP] at hd2
 have e1 := qB Tryd.underlying139 Tryd.underlying68 (by kernel_rfl) (by kernel_rfl) hd
 have e2 := qB Tryd.underlying154 Tryd.underlying68 (by kernel_rfl) (by kernel_rfl) hd2
 refine ⟨fun i hi => ?_, fun i hi => ?_⟩
 ·have := World.var?_cell hg hv i
  rw [this]
  have hc : cs[i]? = cs.toList[i]? := by simp
  rw [hc, e1]
  have hb : i < Sha.begin8.length := hi
  simp [hb]
 ·have := World.var?_cell hg2 hv2 i
  rw [this]
  have hc : cs2[i]? = cs2.toList[i]? := by simp
  rw [hc, e2]
  have hb : i < Sha.keys64.length := hi
  simp [hb]
theorem rV (os : Os) (args : Array Value) : laidMetH Tryd.prog ml ((World.laidAll Tryd.prog os ml).forCall (fun _ _ => 0) ⟨#[], args, []⟩).memory := by
 rw [MakeChecks.laidMetH_plain _ _ _ (by kernel_rfl)]
 exact laidMet_laidAll _ (by kernel_rfl) (by kernel_rfl)
end
section
open Go.RowKit
def cg (l : List (List UInt8)) : List Value := (l.map u8s).flatten
def Len32 (l : List (List UInt8)) : Prop := ∀ x ∈ l, x.length = 32
theorem Len32.get {l : List (List UInt8)} (h : Len32 l) {k : Nat} (hk : k < l.length) : (l.getD k []).length = 32 := by
 have : l.getD k [] = l[k] := by simp [hk]
 rw [this]; exact h _ (List.getElem_mem hk)
theorem Len32.set {l : List (List UInt8)} (h : Len32 l) {x : List UInt8} (hx : x.length = 32) (k : Nat) : Len32 (l.set k x) := by
 intro y hy
 rcases List.mem_or_eq_of_mem_set hy with h' | h'
 ·exact h y h'
 ·rw [h']; exact hx
theorem Len32.append {l m : List (List UInt8)} (h : Len32 l) (k : Len32 m) : Len32 (l ++ m) := by
 intro x hx; rcases List.mem_append.1 hx with h' | h'
 ·exact h x h'
 ·exact k x h'
theorem Len32.reverse {l : List (List UInt8)} (h : Len32 l) : Len32 l.reverse := fun x hx => h x (by simpa using hx)
theorem Len32.take {l : List (List UInt8)} (h : Len32 l) (k : Nat) : Len32 (l.take k) := fun x hx => h x (List.mem_of_mem_take hx)
theorem Len32.drop {l : List (List UInt8)} (h : Len32 l) (k : Nat) : Len32 (l.drop k) := fun x hx => h x (List.mem_of_mem_drop hx)
theorem mb (x : List UInt8) (l : List (List UInt8)) : cg (x :: l) = u8s x ++ cg l := by simp [cg]
theorem kp (l m : List (List UInt8)) : cg (l ++ m) = cg l ++ cg m := by simp [cg]
theorem ta (x : List UInt8) : cg [x] = u8s x := by simp [cg]
theorem mg (l : List (List UInt8)) (x : List UInt8) : cg (l ++ [x]) = cg l ++ u8s x := by simp [cg]
theorem gl {l : List (List UInt8)} (h : Len32 l) : (cg l).length = l.length * 32 := by
 induction l with
 | nil => rfl
 | cons x r ih =>
  rw [mb, List.length_append, av, h x (by simp), ih (fun y hy => h y (by simp [hy]))]
  simp [Nat.add_mul]; omega
theorem sj {l : List (List UInt8)} (h : Len32 l) (tail : List Value) {k : Nat} (hk : k < l.length) {j : Nat} {v : Value} (hj : (u8s (l.getD k []))[j]? = some v) : (cg l ++ tail)[k * 32 + j]? = some v := by
 induction l generalizing k with
 | nil => simp at hk
 | cons x r ih =>
  rw [mb, List.append_assoc]
  have hx : (u8s x).length = 32 := by rw [av]; exact h x (by simp)
  cases k with
  | zero =>
   simp only [List.getD_cons_zero] at hj
   rw [Nat.zero_mul, Nat.zero_add, List.getElem?_append_left (List.getElem?_eq_some_iff.1 hj).1]; exact hj
  | succ k =>
   simp only [List.getD_cons_succ] at hj
   rw [List.getElem?_append_right (by omega), hx, show (k + 1) * 32 + j - 32 = k * 32 + j by omega]
   exact ih (fun y hy => h y (by simp [hy])) (by simpa using hk) hj
theorem sI {l : List (List UInt8)} (h : Len32 l) (tail : List Value) {k : Nat} (hk : k < l.length) {x : List UInt8} (hx : x.length = 32) : lay (cg l ++ tail) (k * 32) (u8s x) = cg (l.set k x) ++ tail := by
 have hux : (u8s x).length = 32 := by rw [av]; exact hx
 have e1 : l = l.take k ++ [l.getD k []] ++ l.drop (k + 1) := by
  have : l.getD k [] = l[k] := by simp [hk]
  rw [this, List.append_assoc, List.singleton_append, List.getElem_cons_drop, List.take_append_drop]
 have e2 : l.set k x = l.take k ++ [x] ++ l.drop (k + 1) := by
  rw [List.set_eq_take_append_cons_drop, if_pos hk, List.append_assoc, List.singleton_append]
 have l1 : (cg (l.take k)).length = k * 32 := by rw [gl (h.take k), List.length_take, Nat.min_eq_left (by omega)]
 have l2 : (u8s (l.getD k [])).length = 32 := by rw [av]; exact h.get hk
 rw [e2]
 have e3 : cg l = cg (l.take k) ++ u8s (l.getD k []) ++ cg (l.drop (k + 1)) := by
  conv => lhs; rw [e1]
  rw [kp, kp, ta]
 rw [e3, kp, kp, ta]
 unfold lay
 have t1 : (cg (l.take k) ++ u8s (l.getD k []) ++ cg (l.drop (k + 1)) ++ tail).take (k * 32) = cg (l.take k) := by
  rw [List.append_assoc, List.append_assoc, List.take_append_of_le_length (by omega), List.take_of_length_le (by omega)]
 have t2 : (cg (l.take k) ++ u8s (l.getD k []) ++ cg (l.drop (k + 1)) ++ tail).drop (k * 32 + (u8s x).length) = cg (l.drop (k + 1)) ++ tail := by
  rw [hux, List.append_assoc, List.drop_append, List.length_append, l1, l2]
  rw [List.drop_of_length_le (by rw [List.length_append]; omega)]
  simp
 rw [t1, t2]
 simp [List.append_assoc]
def jb (l : List (List UInt8)) (k : Nat) : List (List UInt8) := (List.range l.length).map fun i => if i < k ∨ l.length ≤ i + k then l.getD (l.length - 1 - i) [] else l.getD i []
theorem fB (l : List (List UInt8)) (k : Nat) : (jb l k).length = l.length := by simp [jb]
theorem j5 (l : List (List UInt8)) (k i : Nat) (hi : i < l.length) : (jb l k).getD i [] = if i < k ∨ l.length ≤ i + k then l.getD (l.length - 1 - i) [] else l.getD i [] := by
 simp [jb, hi]
theorem kZ {l m : List (List UInt8)} (hl : l.length = m.length) (h : ∀ i, i < l.length → l.getD i [] = m.getD i []) : l = m := by
 apply List.ext_getElem hl
 intro i h1 h2
 have := h i h1
 simpa [h1, h2] using this
theorem wi (l : List (List UInt8)) : jb l 0 = l := by
 refine kZ (fB _ _) fun i hi => ?_
 rw [fB] at hi
 rw [j5 _ _ _ hi, if_neg (by omega)]
theorem ti (l : List (List UInt8)) (i j : Nat) (x : List UInt8) (hi : i < l.length) : (l.set i x).getD j [] = if j = i then x else l.getD j [] := by
 simp only [List.getD_eq_getElem?_getD, List.getElem?_set]
 by_cases h : i = j
 ·subst h; simp [hi]
 ·rw [if_neg h, if_neg (Ne.symm h)]
theorem xt (l : List (List UInt8)) (k : Nat) (h : k + k + 1 < l.length) :
  jb l (k + 1) = ((jb l k).set k ((jb l k).getD (l.length - 1 - k) [])).set (l.length - 1 - k) ((jb l k).getD k []) := by
 refine kZ (by simp [fB]) fun i hi => ?_
 rw [fB] at hi
 rw [ti _ _ _ _ (by simp [fB]; omega), ti _ _ _ _ (by simp [fB]; omega)]
 rw [j5 _ _ _ hi, j5 _ _ _ hi, j5 _ _ _ (by omega), j5 _ _ _ (by omega)]
 by_cases h1 : i = l.length - 1 - k
 ·rw [if_pos h1, if_pos (by omega), if_neg (by omega), h1]; congr 1; omega
 ·rw [if_neg h1]
  by_cases h2 : i = k
  ·rw [if_pos h2, if_pos (by omega), if_neg (by omega), h2]
  ·rw [if_neg h2]
   by_cases h3 : i < k ∨ l.length ≤ i + k
   ·rw [if_pos h3, if_pos (by omega)]
   ·rw [if_neg h3, if_neg (by omega)]
theorem yq (l : List (List UInt8)) (k : Nat) (h : l.length ≤ k + k + 1) : jb l k = l.reverse := by
 refine kZ (by simp [fB]) fun i hi => ?_
 rw [fB] at hi
 rw [j5 _ _ _ hi]
 have e : l.reverse.getD i [] = l.getD (l.length - 1 - i) [] := by
  simp only [List.getD_eq_getElem?_getD, List.getElem?_reverse hi]
 rw [e]
 split
 ·rfl
 ·rename_i h'; congr 1; omega
theorem uX {l : List (List UInt8)} (h : Len32 l) (k : Nat) : Len32 (jb l k) := by
 intro x hx
 simp only [jb, List.mem_map, List.mem_range] at hx
 obtain ⟨i, hi, rfl⟩ := hx
 split
 ·exact h.get (by omega)
 ·exact h.get hi
end
section
open Go.RowKit
def dX (b : UInt8) : D := .v (.int .u8 b.toNat)
def aH (b : UInt8) : List D := [dX b]
def bi (l : List UInt8) : D := .list 1 (l.map aH) false
def aI (s : List UInt8) : List D := s.map dX
def da (s : List UInt8) : D := .agg 32 (aI s)
def vv (ls : List (List UInt8)) : D := .list 32 (ls.map aI) false
def aS (l : List UInt8) : List D := [bi l]
def fi (ls : List (List UInt8)) : D := .list 1 (ls.map aS) false
def aM (x : UInt32) : D := .v (.int .u32 x.toNat)
def HG (g : Nat) : Option D := if g = 0 then some (.ptr 8 (Sha.begin8.map aM)) else if g = 1 then some (.ptr 64 (Sha.keys64.map aM)) else none
section
variable {C : aK} {w : World}
theorem nX {sz : Nat} {xs : List (List D)} {f : Bool} {v : Value} (h : Rep C (.list sz xs f) v) (hk : bW C w) : ∃ vs, Rp C (.vals xs.flatten vs) ∧ Sl w v xs.length vs := by
 obtain ⟨ao, cap, rfl, hc, h3⟩ := Rep.elem h
 by_cases hx : xs = []
 ·subst hx
  exact ⟨[], .vnil, ao, cap, rfl, hc.le, hc.max, hc.nil, fun b o s e => ⟨fun h => hc.spot ⟨b, o, s⟩ e h, fun j u hj => by simp at hj⟩⟩
 ·obtain ⟨b, off, rfl, hr⟩ := h3 hx
  obtain ⟨g1, g2⟩ := rB hr
  obtain ⟨vs, hv, hcell⟩ := pN g2
  refine ⟨vs, hv, _, cap, rfl, hc.le, hc.max, hc.nil, fun b' o s e => ?_⟩
  cases e
  exact ⟨fun _ => rfl, fun j u hj => hk.cell (hcell j u hj) (m8 hv u (List.mem_of_getElem? hj))⟩
theorem sQ : ∀ {xs vs : List Value}, Rp C (.vals (xs.map D.v) vs) → vs = xs := by
 intro xs
 induction xs with
 | nil => intro vs h; cases h; rfl
 | cons x xs ih =>
  intro vs h
  cases h with
  | vcons _ v _ vs h1 h2 h3 => rw [bp h2, ih h3]
theorem rP : ∀ {xs : List Value}, (∀ x ∈ xs, x.oneCell' = true) → Rp C (.vals (xs.map D.v) xs) := by
 intro xs
 induction xs with
 | nil => intro _; exact .vnil
 | cons x xs ih => intro h; exact .vcons _ _ _ _ (h x (by simp)) (.v x) (ih fun y hy => h y (by simp [hy]))
theorem tF {α β : Type} (f : α → β) (l : List α) : (l.map fun x => [f x]).flatten = l.map f := by
 induction l with
 | nil => rfl
 | cons x l ih => simp [ih]
theorem qD (s : List UInt8) : aI s = (u8s s).map D.v := by simp [aI, u8s, dX]
theorem sB {l : List UInt8} {v : Value} (h : Rep C (bi l) v) (hk : bW C w) : Sl w v l.length (u8s l) := by
 obtain ⟨vs, h1, h2⟩ := nX h hk
 have e : (l.map aH).flatten = (u8s l).map D.v := by
  show (l.map fun b => [dX b]).flatten = _
  rw [tF]; simp [u8s, dX]
 rw [e] at h1
 rw [sQ h1] at h2
 simpa using h2
theorem pJ {ls : List (List UInt8)} {v : Value} (h : Rep C (fi ls) v) (hk : bW C w) : BB w v ls := by
 obtain ⟨vs, h1, h2⟩ := nX h hk
 have e : (ls.map aS).flatten = ls.map bi := by
  show (ls.map fun b => [bi b]).flatten = _
  exact tF _ _
 rw [e] at h1
 have hl := cc h1
 refine ⟨vs, by simpa using hl, by simpa using h2, fun i l hi => ?_⟩
 obtain ⟨u, a1, _, a3⟩ := eZ h1 i (bi l) (by simp [hi])
 exact ⟨u, a1, sB a3 hk⟩
theorem zr {p : List (List UInt8)} {v : Value} (h : Rep C (vv p) v) (hk : bW C w) : Sl w v p.length (cg p) := by
 obtain ⟨vs, h1, h2⟩ := nX h hk
 have e : (p.map aI).flatten = (cg p).map D.v := by
  clear h h1 h2
  induction p with
  | nil => rfl
  | cons s p ih => simp [mb, qD, ih]
 rw [e] at h1
 rw [sQ h1] at h2
 simpa using h2
theorem zw {s : List UInt8} {v : Value} (h : Rep C (da s) v) : v = .agg (u8s s).toArray := by
 cases h with
 | agg _ _ vs hl hv => rw [qD] at hv; rw [sQ hv]
theorem zA {s : List UInt8} (h : s.length = 32) : Rep C (da s) (.agg (u8s s).toArray) :=
 .agg 32 _ _ (by simp [aI, h]) (by rw [qD]; exact rP (cV s))
theorem qQ (hG : i6 HG C) (hk : bW C w) : ip w := by
 have h0 := hG 0 _ rfl
 have h1 := hG 1 _ rfl
 cases h0 with
 | ptr _ _ _ _ l0 m0 =>
  cases h1 with
  | ptr _ _ _ _ l1 m1 =>
   refine ⟨fun i hi => ?_, fun i hi => ?_⟩
   ·have hl : i < Sha.begin8.length := by simpa using (show i < (Sha.begin8.map aM).length by rw [l0]; exact hi)
    obtain ⟨u, a1, _, a3⟩ := kl m0 i (aM Sha.begin8[i]) (by simp [hl])
    have := bp a3; subst this
    have := hk.cell a1 rfl
    rw [Nat.zero_add] at this
    rw [this]; simp [hl]
   ·have hl : i < Sha.keys64.length := by simpa using (show i < (Sha.keys64.map aM).length by rw [l1]; exact hi)
    obtain ⟨u, a1, _, a3⟩ := kl m1 i (aM Sha.keys64[i]) (by simp [hl])
    have := bp a3; subst this
    have := hk.cell a1 rfl
    rw [Nat.zero_add] at this
    rw [this]; simp [hl]
end
theorem yR {C : aK} {d : D} {vs : List Value} (h : Rp C (.outs [d] vs)) : ∃ v, vs = [v] ∧ Rep C d v := by
 cases h with | ocons _ v _ _ h1 h2 => cases h2; exact ⟨v, rfl, h1⟩
theorem r5 {C : aK} {d e : D} {vs : List Value} (h : Rp C (.outs [d, e] vs)) : ∃ v u, vs = [v, u] ∧ Rep C d v ∧ Rep C e u := by
 cases h with | ocons _ v _ _ h1 h2 => obtain ⟨u, rfl, h3⟩ := yR h2; exact ⟨v, u, rfl, h1, h3⟩
theorem zn {C : aK} {w w' : World} {base e size : Nat} {v : Value} {n : Nat} {cs : List Value} {xs : List (List D)} (hk : bW C w) (hb : Below w.heap.size w w') (hbase : w.heap.size ≤ base) (ho : w'.ownsRow base e size v n cs) (hx : ∀ x ∈ xs, x.length = size) (hn : xs.length = n) (hcs : Rp C (.vals xs.flatten cs)) :
  ∃ C', More w C w' C' ∧ Rep C' (.list size xs false) v := by
 obtain ⟨h1, h2⟩ := ho
 rcases h2 with ⟨rfl, rfl⟩ | ⟨g, cap, cur, rfl, hg, hh, hcap, hmax, hsz, htake⟩
 ·have : xs = [] := List.eq_nil_of_length_eq_zero hn
  subst this
  exact ⟨C, .of_below hk hb, .nil _ _ _ _ ⟨Nat.le_refl _, fun _ => rfl, by omega, fun _ => rfl, fun _ h => by cases h⟩⟩
 ·have hm : More w C w' (lL C g cur) := by
   refine ⟨hb, fun _ _ _ h => .inl h, fun b o u h => h.imp id (fun h => by omega), fun b o u h => ?_⟩
   rcases h with h | ⟨rfl, h⟩
   ·exact hk.below hb b o u h
   ·left; rw [cell_of_row _ _ _ _ _ _ hh]; exact h
  refine ⟨_, hm, ?_⟩
  by_cases h0 : xs = []
  ·subst h0
   subst hn
   exact .nil _ _ _ _ ⟨Nat.zero_le _, by simp, hmax, fun h => (by cases h), fun x h _ => by cases h; rfl⟩
  ·have hrows := oP (C := C) (rows := xs) (vs := cs) (size := size) hx hcs cur (fun j u hj => by
    have hjl : j < n * size := by rw [← h1]; exact (List.getElem?_eq_some_iff.1 hj).1
    rw [← htake, List.getElem?_take_of_lt hjl] at hj
    simpa using hj) g
   have := Rp.list (C := lL C g cur) size xs false g 0 cap h0 ⟨by omega, by simp, hmax, fun h => (by cases h), fun x h _ => by cases h; rfl⟩ hrows
   rw [hn] at this
   exact this
theorem vt (p : List (List UInt8)) : (p.map aI).flatten = (cg p).map D.v := by
 induction p with
 | nil => rfl
 | cons s p ih => simp [mb, qD, ih]
theorem wD (p : List (List UInt8)) : ∀ x ∈ cg p, x.oneCell' = true := by
 intro x hx
 simp only [cg, List.mem_flatten, List.mem_map] at hx
 obtain ⟨l, ⟨s, _, rfl⟩, hx⟩ := hx
 exact cV s x hx
theorem Am (ls : List (List UInt8)) (hF : Fit ls) : aj Tryd.prog HG 32 [fi ls] (da (Sha.root ls)) := by
 intro C w vs hG hk ha
 obtain ⟨v, rfl, hv⟩ := yR ha
 refine (pT _ ls v w rfl (qQ hG hk) (pJ hv hk) hF).mono ?_
 rintro e w' ⟨rfl, hb⟩
 exact ⟨_, C, rfl, .of_below hk hb, zA (Sha.root_len ls)⟩
end
section
open Go.RowKit
set_option maxRecDepth 100000
theorem ag1 : au Tryd.prog 1 = some false := by kernel_rfl
theorem sz1 : ah Tryd.prog 1 = some 1 := by kernel_rfl
theorem ag2 : au Tryd.prog 2 = some false := by kernel_rfl
theorem sz2 : ah Tryd.prog 2 = some 1 := by kernel_rfl
theorem ze2 : aq Tryd.prog 2 = some [.v (Value.int IntKind.i64 0)] := by kernel_rfl
theorem ag3 : au Tryd.prog 3 = some false := by kernel_rfl
theorem sz3 : ah Tryd.prog 3 = some 1 := by kernel_rfl
theorem ze3 : aq Tryd.prog 3 = some [.v (Value.int IntKind.i64 0)] := by kernel_rfl
theorem ag4 : au Tryd.prog 4 = some false := by kernel_rfl
theorem sz4 : ah Tryd.prog 4 = some 1 := by kernel_rfl
theorem ze4 : aq Tryd.prog 4 = some [.v (Value.bool false)] := by kernel_rfl
theorem ag5 : au Tryd.prog 5 = some false := by kernel_rfl
theorem sz5 : ah Tryd.prog 5 = some 1 := by kernel_rfl
theorem ze5 : aq Tryd.prog 5 = some [.v (Value.int IntKind.u8 0)] := by kernel_rfl
theorem ag6 : au Tryd.prog 6 = some false := by kernel_rfl
theorem sz6 : ah Tryd.prog 6 = some 1 := by kernel_rfl
theorem ze6 : aq Tryd.prog 6 = some [.v (Value.int IntKind.u8 0)] := by kernel_rfl
theorem ag7 : au Tryd.prog 7 = some true := by kernel_rfl
theorem sz7 : ah Tryd.prog 7 = some 4 := by kernel_rfl
theorem ze7 : aq Tryd.prog 7 = some [.v (Value.int IntKind.i64 0), .v (Value.int IntKind.i64 0), .v (Value.bool false), .v (Value.int IntKind.u8 0)] := by kernel_rfl
theorem ag8 : au Tryd.prog 8 = some true := by kernel_rfl
theorem sz8 : ah Tryd.prog 8 = some 4 := by kernel_rfl
theorem ze8 : aq Tryd.prog 8 = some [.v (Value.int IntKind.i64 0), .v (Value.int IntKind.i64 0), .v (Value.bool false), .v (Value.int IntKind.u8 0)] := by kernel_rfl
theorem ag9 : au Tryd.prog 9 = some false := by kernel_rfl
theorem sz9 : ah Tryd.prog 9 = some 1 := by kernel_rfl
theorem ze9 : aq Tryd.prog 9 = some [.v (Value.string { data := #[] })] := by kernel_rfl
theorem Gt : au Tryd.prog 10 = some false := by kernel_rfl
theorem HH : ah Tryd.prog 10 = some 1 := by kernel_rfl
theorem E6 : aq Tryd.prog 10 = some [.v (Value.string { data := #[] })] := by kernel_rfl
theorem FV : au Tryd.prog 11 = some false := by kernel_rfl
theorem GT : ah Tryd.prog 11 = some 1 := by kernel_rfl
theorem Fo : aq Tryd.prog 11 = some [.v (Value.string { data := #[] })] := by kernel_rfl
theorem G7 : au Tryd.prog 12 = some false := by kernel_rfl
theorem Ep : ah Tryd.prog 12 = some 1 := by kernel_rfl
theorem Ft : aq Tryd.prog 12 = some [.v (Value.int IntKind.u64 0)] := by kernel_rfl
theorem EG : au Tryd.prog 13 = some true := by kernel_rfl
theorem Es : ah Tryd.prog 13 = some 2 := by kernel_rfl
theorem EX : aq Tryd.prog 13 = some [.v (Value.string { data := #[] }), .v (Value.int IntKind.u64 0)] := by kernel_rfl
theorem Fm : au Tryd.prog 14 = some true := by kernel_rfl
theorem F0 : ah Tryd.prog 14 = some 2 := by kernel_rfl
theorem Ex : aq Tryd.prog 14 = some [.v (Value.string { data := #[] }), .v (Value.int IntKind.u64 0)] := by kernel_rfl
theorem Hi : au Tryd.prog 15 = some false := by kernel_rfl
theorem FK : ah Tryd.prog 15 = some 1 := by kernel_rfl
theorem Fa : au Tryd.prog 16 = some false := by kernel_rfl
theorem F4 : ah Tryd.prog 16 = some 1 := by kernel_rfl
theorem Fi : au Tryd.prog 17 = some false := by kernel_rfl
theorem EE : ah Tryd.prog 17 = some 1 := by kernel_rfl
theorem Fy : au Tryd.prog 18 = some true := by kernel_rfl
theorem ES : ah Tryd.prog 18 = some 1 := by kernel_rfl
theorem FI : aq Tryd.prog 18 = some [.v (Value.pointer none)] := by kernel_rfl
theorem Ic : au Tryd.prog 19 = some true := by kernel_rfl
theorem Hr : ah Tryd.prog 19 = some 1 := by kernel_rfl
theorem FQ : aq Tryd.prog 19 = some [.v (Value.pointer none)] := by kernel_rfl
theorem ET : au Tryd.prog 20 = some false := by kernel_rfl
theorem FT : ah Tryd.prog 20 = some 1 := by kernel_rfl
theorem GP : au Tryd.prog 21 = some false := by kernel_rfl
theorem Fw : ah Tryd.prog 21 = some 1 := by kernel_rfl
theorem FH : aq Tryd.prog 21 = some [.v (Value.int IntKind.i32 0)] := by kernel_rfl
theorem yf : au Tryd.prog 22 = some false := by kernel_rfl
theorem xS : ah Tryd.prog 22 = some 1 := by kernel_rfl
theorem E1 : aq Tryd.prog 22 = some [.list 0 [] true] := by kernel_rfl
theorem Aa : au Tryd.prog 23 = some true := by kernel_rfl
theorem EU : ah Tryd.prog 23 = some 2 := by kernel_rfl
theorem H9 : aq Tryd.prog 23 = some [.list 0 [] true, .list 0 [] true] := by kernel_rfl
theorem eX : au Tryd.prog 24 = some false := by kernel_rfl
theorem cE : ah Tryd.prog 24 = some 1 := by kernel_rfl
theorem pw : aq Tryd.prog 24 = some [.list 0 [] true] := by kernel_rfl
theorem Hf : au Tryd.prog 25 = some true := by kernel_rfl
theorem Gr : ah Tryd.prog 25 = some 2 := by kernel_rfl
theorem FD : aq Tryd.prog 25 = some [.list 0 [] true, .list 0 [] true] := by kernel_rfl
theorem pr : au Tryd.prog 26 = some false := by kernel_rfl
theorem FG : ah Tryd.prog 26 = some 1 := by kernel_rfl
theorem E8 : aq Tryd.prog 26 = some [.list 0 [] true] := by kernel_rfl
theorem GN : au Tryd.prog 27 = some true := by kernel_rfl
theorem Eo : ah Tryd.prog 27 = some 6 := by kernel_rfl
theorem Hl : aq Tryd.prog 27 = some [.v (Value.int IntKind.u8 0), .v (Value.int IntKind.u8 0), .v (Value.int IntKind.u8 0), .v (Value.int IntKind.u8 0), .v (Value.int IntKind.u8 0), .v (Value.int IntKind.u8 0)] := by kernel_rfl
theorem Gn : au Tryd.prog 28 = some true := by kernel_rfl
theorem Fn : ah Tryd.prog 28 = some 12 := by kernel_rfl
theorem Ev : aq Tryd.prog 28 = some [.v (Value.int IntKind.u8 0), .v (Value.int IntKind.u8 0), .v (Value.int IntKind.u8 0), .list 0 [] true, .list 0 [] true, .list 0 [] true, .v (Value.int IntKind.u8 0), .v (Value.int IntKind.u8 0), .v (Value.int IntKind.u8 0), .v (Value.int IntKind.u8 0), .v (Value.int IntKind.u8 0), .v (Value.int IntKind.u8 0)] := by kernel_rfl
theorem sR : au Tryd.prog 29 = some true := by kernel_rfl
theorem vp : ah Tryd.prog 29 = some 12 := by kernel_rfl
theorem Ff : aq Tryd.prog 29 = some [.v (Value.int IntKind.u8 0), .v (Value.int IntKind.u8 0), .v (Value.int IntKind.u8 0), .list 0 [] true, .list 0 [] true, .list 0 [] true, .v (Value.int IntKind.u8 0), .v (Value.int IntKind.u8 0), .v (Value.int IntKind.u8 0), .v (Value.int IntKind.u8 0), .v (Value.int IntKind.u8 0), .v (Value.int IntKind.u8 0)] := by kernel_rfl
theorem eo : au Tryd.prog 30 = some false := by kernel_rfl
theorem eE : ah Tryd.prog 30 = some 1 := by kernel_rfl
theorem vq : aq Tryd.prog 30 = some [.list 0 [] true] := by kernel_rfl
theorem E5 : au Tryd.prog 31 = some true := by kernel_rfl
theorem E4 : ah Tryd.prog 31 = some 2 := by kernel_rfl
theorem zV : aq Tryd.prog 31 = some [.list 0 [] true, .list 0 [] true] := by kernel_rfl
theorem Gl : au Tryd.prog 32 = some true := by kernel_rfl
theorem EZ : ah Tryd.prog 32 = some 5 := by kernel_rfl
theorem Hk : aq Tryd.prog 32 = some [.list 0 [] true, .list 0 [] true, .list 0 [] true, .v (Value.int IntKind.i64 0), .v (Value.int IntKind.i64 0)] := by kernel_rfl
theorem gz : au Tryd.prog 33 = some true := by kernel_rfl
theorem cK : ah Tryd.prog 33 = some 5 := by kernel_rfl
theorem oz : aq Tryd.prog 33 = some [.list 0 [] true, .list 0 [] true, .list 0 [] true, .v (Value.int IntKind.i64 0), .v (Value.int IntKind.i64 0)] := by kernel_rfl
theorem Fq : au Tryd.prog 34 = some true := by kernel_rfl
theorem H6 : ah Tryd.prog 34 = some 2 := by kernel_rfl
theorem Fz : aq Tryd.prog 34 = some [.v (Value.int IntKind.i64 0), .v (Value.int IntKind.i64 0)] := by kernel_rfl
theorem j8 : au Tryd.prog 35 = some true := by kernel_rfl
theorem fL : ah Tryd.prog 35 = some 2 := by kernel_rfl
theorem pO : aq Tryd.prog 35 = some [.v (Value.int IntKind.i64 0), .v (Value.int IntKind.i64 0)] := by kernel_rfl
theorem yg : au Tryd.prog 36 = some false := by kernel_rfl
theorem Em : ah Tryd.prog 36 = some 1 := by kernel_rfl
theorem G1 : aq Tryd.prog 36 = some [.list 0 [] true] := by kernel_rfl
theorem Ib : au Tryd.prog 37 = some true := by kernel_rfl
theorem Gp : ah Tryd.prog 37 = some 11 := by kernel_rfl
theorem FL : aq Tryd.prog 37 = some [.v (Value.int IntKind.i64 0), .v (Value.int IntKind.i64 0), .v (Value.int IntKind.i64 0), .list 0 [] true, .list 0 [] true, .list 0 [] true, .v (Value.int IntKind.i64 0), .v (Value.int IntKind.i64 0), .v (Value.int IntKind.i64 0), .v (Value.int IntKind.i64 0), .list 0 [] true] := by kernel_rfl
theorem pC : au Tryd.prog 38 = some true := by kernel_rfl
theorem ka : ah Tryd.prog 38 = some 11 := by kernel_rfl
theorem AR : aq Tryd.prog 38 = some [.v (Value.int IntKind.i64 0), .v (Value.int IntKind.i64 0), .v (Value.int IntKind.i64 0), .list 0 [] true, .list 0 [] true, .list 0 [] true, .v (Value.int IntKind.i64 0), .v (Value.int IntKind.i64 0), .v (Value.int IntKind.i64 0), .v (Value.int IntKind.i64 0), .list 0 [] true] := by kernel_rfl
theorem yc : au Tryd.prog 39 = some false := by kernel_rfl
theorem vz : ah Tryd.prog 39 = some 1 := by kernel_rfl
theorem Ez : au Tryd.prog 40 = some false := by kernel_rfl
theorem Gc : ah Tryd.prog 40 = some 1 := by kernel_rfl
theorem E2 : aq Tryd.prog 40 = some [.list 0 [] true] := by kernel_rfl
theorem En : au Tryd.prog 41 = some false := by kernel_rfl
theorem GA : ah Tryd.prog 41 = some 1 := by kernel_rfl
theorem Hu : aq Tryd.prog 41 = some [.list 0 [] true] := by kernel_rfl
theorem GV : au Tryd.prog 43 = some false := by kernel_rfl
theorem G9 : ah Tryd.prog 43 = some 1 := by kernel_rfl
theorem vh : au Tryd.prog 44 = some false := by kernel_rfl
theorem qS : ah Tryd.prog 44 = some 1 := by kernel_rfl
theorem yb : aq Tryd.prog 44 = some [.v (Value.int IntKind.u16 0)] := by kernel_rfl
theorem Fg : au Tryd.prog 45 = some false := by kernel_rfl
theorem Gf : ah Tryd.prog 45 = some 1 := by kernel_rfl
theorem Hj : aq Tryd.prog 45 = some [.list 0 [] true] := by kernel_rfl
theorem Id : au Tryd.prog 46 = some true := by kernel_rfl
theorem Hs : ah Tryd.prog 46 = some 32 := by kernel_rfl
theorem Gi : aq Tryd.prog 46 = some [.v (Value.int IntKind.u8 0), .v (Value.int IntKind.u8 0), .v (Value.int IntKind.u8 0), .v (Value.int IntKind.u8 0), .v (Value.int IntKind.u8 0), .v (Value.int IntKind.u8 0), .v (Value.int IntKind.u8 0), .v (Value.int IntKind.u8 0), .v (Value.int IntKind.u8 0), .v (Value.int IntKind.u8 0), .v (Value.int IntKind.u8 0), .v (Value.int IntKind.u8 0), .v (Value.int IntKind.u8 0), .v (Value.int IntKind.u8 0), .v (Value.int IntKind.u8 0), .v (Value.int IntKind.u8 0), .v (Value.int IntKind.u8 0), .v (Value.int IntKind.u8 0), .v (Value.int IntKind.u8 0), .v (Value.int IntKind.u8 0), .v (Value.int IntKind.u8 0), .v (Value.int IntKind.u8 0), .v (Value.int IntKind.u8 0), .v (Value.int IntKind.u8 0), .v (Value.int IntKind.u8 0), .v (Value.int IntKind.u8 0), .v (Value.int IntKind.u8 0), .v (Value.int IntKind.u8 0), .v (Value.int IntKind.u8 0), .v (Value.int IntKind.u8 0), .v (Value.int IntKind.u8 0), .v (Value.int IntKind.u8 0)] := by kernel_rfl
theorem fJ : au Tryd.prog 47 = some true := by kernel_rfl
theorem cB : ah Tryd.prog 47 = some 32 := by kernel_rfl
theorem zN : aq Tryd.prog 47 = some [.v (Value.int IntKind.u8 0), .v (Value.int IntKind.u8 0), .v (Value.int IntKind.u8 0), .v (Value.int IntKind.u8 0), .v (Value.int IntKind.u8 0), .v (Value.int IntKind.u8 0), .v (Value.int IntKind.u8 0), .v (Value.int IntKind.u8 0), .v (Value.int IntKind.u8 0), .v (Value.int IntKind.u8 0), .v (Value.int IntKind.u8 0), .v (Value.int IntKind.u8 0), .v (Value.int IntKind.u8 0), .v (Value.int IntKind.u8 0), .v (Value.int IntKind.u8 0), .v (Value.int IntKind.u8 0), .v (Value.int IntKind.u8 0), .v (Value.int IntKind.u8 0), .v (Value.int IntKind.u8 0), .v (Value.int IntKind.u8 0), .v (Value.int IntKind.u8 0), .v (Value.int IntKind.u8 0), .v (Value.int IntKind.u8 0), .v (Value.int IntKind.u8 0), .v (Value.int IntKind.u8 0), .v (Value.int IntKind.u8 0), .v (Value.int IntKind.u8 0), .v (Value.int IntKind.u8 0), .v (Value.int IntKind.u8 0), .v (Value.int IntKind.u8 0), .v (Value.int IntKind.u8 0), .v (Value.int IntKind.u8 0)] := by kernel_rfl
theorem Ia : au Tryd.prog 48 = some false := by kernel_rfl
theorem FE : ah Tryd.prog 48 = some 1 := by kernel_rfl
theorem Gu : au Tryd.prog 49 = some false := by kernel_rfl
theorem GW : ah Tryd.prog 49 = some 1 := by kernel_rfl
theorem FC : au Tryd.prog 50 = some false := by kernel_rfl
theorem Fe : ah Tryd.prog 50 = some 1 := by kernel_rfl
theorem FR : aq Tryd.prog 50 = some [.v (Value.int IntKind.i64 0)] := by kernel_rfl
theorem GL : au Tryd.prog 52 = some false := by kernel_rfl
theorem Gy : ah Tryd.prog 52 = some 1 := by kernel_rfl
theorem H7 : au Tryd.prog 53 = some false := by kernel_rfl
theorem FP : ah Tryd.prog 53 = some 1 := by kernel_rfl
theorem Hw : au Tryd.prog 54 = some false := by kernel_rfl
theorem F6 : ah Tryd.prog 54 = some 1 := by kernel_rfl
theorem FO : au Tryd.prog 55 = some false := by kernel_rfl
theorem Gh : ah Tryd.prog 55 = some 1 := by kernel_rfl
theorem Ho : au Tryd.prog 56 = some true := by kernel_rfl
theorem EJ : ah Tryd.prog 56 = some 3 := by kernel_rfl
theorem Fu : aq Tryd.prog 56 = some [.v (Value.int IntKind.i64 0), .v (Value.int IntKind.i64 0), .v (Value.int IntKind.i64 0)] := by kernel_rfl
theorem GE : au Tryd.prog 57 = some false := by kernel_rfl
theorem Er : ah Tryd.prog 57 = some 1 := by kernel_rfl
theorem G8 : au Tryd.prog 58 = some false := by kernel_rfl
theorem FS : ah Tryd.prog 58 = some 1 := by kernel_rfl
theorem HU : au Tryd.prog 59 = some true := by kernel_rfl
theorem Hh : ah Tryd.prog 59 = some 4 := by kernel_rfl
theorem Ie : aq Tryd.prog 59 = some [.v (Value.int IntKind.u8 0), .v (Value.int IntKind.u8 0), .v (Value.int IntKind.u8 0), .v (Value.int IntKind.u8 0)] := by kernel_rfl
theorem Hm : au Tryd.prog 60 = some false := by kernel_rfl
theorem Gq : ah Tryd.prog 60 = some 1 := by kernel_rfl
theorem FJ : au Tryd.prog 61 = some false := by kernel_rfl
theorem EP : ah Tryd.prog 61 = some 1 := by kernel_rfl
theorem FU : aq Tryd.prog 61 = some [.list 0 [] true] := by kernel_rfl
theorem F8 : au Tryd.prog 62 = some false := by kernel_rfl
theorem GH : ah Tryd.prog 62 = some 1 := by kernel_rfl
theorem Fv : au Tryd.prog 63 = some false := by kernel_rfl
theorem G3 : ah Tryd.prog 63 = some 1 := by kernel_rfl
theorem GM : au Tryd.prog 64 = some true := by kernel_rfl
theorem Gk : ah Tryd.prog 64 = some 24 := by kernel_rfl
theorem Et : aq Tryd.prog 64 = some [.v (Value.int IntKind.u8 0), .v (Value.int IntKind.u8 0), .v (Value.int IntKind.u8 0), .list 0 [] true, .list 0 [] true, .list 0 [] true, .v (Value.int IntKind.u8 0), .v (Value.int IntKind.u8 0), .v (Value.int IntKind.u8 0), .v (Value.int IntKind.u8 0), .v (Value.int IntKind.u8 0), .v (Value.int IntKind.u8 0), .v (Value.int IntKind.u8 0), .v (Value.int IntKind.u8 0), .v (Value.int IntKind.u8 0), .list 0 [] true, .list 0 [] true, .list 0 [] true, .v (Value.int IntKind.u8 0), .v (Value.int IntKind.u8 0), .v (Value.int IntKind.u8 0), .v (Value.int IntKind.u8 0), .v (Value.int IntKind.u8 0), .v (Value.int IntKind.u8 0)] := by kernel_rfl
theorem Ig : au Tryd.prog 65 = some true := by kernel_rfl
theorem E0 : ah Tryd.prog 65 = some 18 := by kernel_rfl
theorem Ht : aq Tryd.prog 65 = some [.v (Value.int IntKind.u8 0), .v (Value.int IntKind.u8 0), .v (Value.int IntKind.u8 0), .v (Value.int IntKind.u8 0), .v (Value.int IntKind.u8 0), .v (Value.int IntKind.u8 0), .v (Value.int IntKind.u8 0), .v (Value.int IntKind.u8 0), .v (Value.int IntKind.u8 0), .v (Value.int IntKind.u8 0), .v (Value.int IntKind.u8 0), .v (Value.int IntKind.u8 0), .v (Value.int IntKind.u8 0), .v (Value.int IntKind.u8 0), .v (Value.int IntKind.u8 0), .v (Value.int IntKind.u8 0), .v (Value.int IntKind.u8 0), .v (Value.int IntKind.u8 0)] := by kernel_rfl
theorem zZ : au Tryd.prog 66 = some true := by kernel_rfl
theorem xP : ah Tryd.prog 66 = some 18 := by kernel_rfl
theorem Ge : aq Tryd.prog 66 = some [.v (Value.int IntKind.u8 0), .v (Value.int IntKind.u8 0), .v (Value.int IntKind.u8 0), .v (Value.int IntKind.u8 0), .v (Value.int IntKind.u8 0), .v (Value.int IntKind.u8 0), .v (Value.int IntKind.u8 0), .v (Value.int IntKind.u8 0), .v (Value.int IntKind.u8 0), .v (Value.int IntKind.u8 0), .v (Value.int IntKind.u8 0), .v (Value.int IntKind.u8 0), .v (Value.int IntKind.u8 0), .v (Value.int IntKind.u8 0), .v (Value.int IntKind.u8 0), .v (Value.int IntKind.u8 0), .v (Value.int IntKind.u8 0), .v (Value.int IntKind.u8 0)] := by kernel_rfl
theorem Hp : au Tryd.prog 67 = some true := by kernel_rfl
theorem Fd : ah Tryd.prog 67 = some 36 := by kernel_rfl
theorem EF : aq Tryd.prog 67 = some [.v (Value.int IntKind.u8 0), .v (Value.int IntKind.u8 0), .v (Value.int IntKind.u8 0), .v (Value.int IntKind.u8 0), .v (Value.int IntKind.u8 0), .v (Value.int IntKind.u8 0), .v (Value.int IntKind.u8 0), .v (Value.int IntKind.u8 0), .v (Value.int IntKind.u8 0), .v (Value.int IntKind.u8 0), .v (Value.int IntKind.u8 0), .v (Value.int IntKind.u8 0), .v (Value.int IntKind.u8 0), .v (Value.int IntKind.u8 0), .v (Value.int IntKind.u8 0), .v (Value.int IntKind.u8 0), .v (Value.int IntKind.u8 0), .v (Value.int IntKind.u8 0), .v (Value.int IntKind.u8 0), .v (Value.int IntKind.u8 0), .v (Value.int IntKind.u8 0), .v (Value.int IntKind.u8 0), .v (Value.int IntKind.u8 0), .v (Value.int IntKind.u8 0), .v (Value.int IntKind.u8 0), .v (Value.int IntKind.u8 0), .v (Value.int IntKind.u8 0), .v (Value.int IntKind.u8 0), .v (Value.int IntKind.u8 0), .v (Value.int IntKind.u8 0), .v (Value.int IntKind.u8 0), .v (Value.int IntKind.u8 0), .v (Value.int IntKind.u8 0), .v (Value.int IntKind.u8 0), .v (Value.int IntKind.u8 0), .v (Value.int IntKind.u8 0)] := by kernel_rfl
theorem GU : au Tryd.prog 68 = some false := by kernel_rfl
theorem Eu : ah Tryd.prog 68 = some 1 := by kernel_rfl
theorem GG : aq Tryd.prog 68 = some [.v (Value.int IntKind.u32 0)] := by kernel_rfl
theorem H5 : au Tryd.prog 69 = some true := by kernel_rfl
theorem GS : ah Tryd.prog 69 = some 4 := by kernel_rfl
theorem FF : aq Tryd.prog 69 = some [.v (Value.int IntKind.u32 0), .v (Value.int IntKind.u32 0), .v (Value.int IntKind.u32 0), .v (Value.int IntKind.u32 0)] := by kernel_rfl
theorem F7 : au Tryd.prog 70 = some false := by kernel_rfl
theorem EV : ah Tryd.prog 70 = some 1 := by kernel_rfl
theorem pR : au Tryd.prog 71 = some false := by kernel_rfl
theorem yE : ah Tryd.prog 71 = some 1 := by kernel_rfl
theorem FM : aq Tryd.prog 71 = some [.list 0 [] true] := by kernel_rfl
theorem EW : au Tryd.prog 72 = some true := by kernel_rfl
theorem EL : ah Tryd.prog 72 = some 3 := by kernel_rfl
theorem FB : aq Tryd.prog 72 = some [.v (Value.int IntKind.i64 0), .list 0 [] true, .list 0 [] true] := by kernel_rfl
theorem jl : au Tryd.prog 73 = some true := by kernel_rfl
theorem eD : ah Tryd.prog 73 = some 3 := by kernel_rfl
theorem yr : aq Tryd.prog 73 = some [.v (Value.int IntKind.i64 0), .list 0 [] true, .list 0 [] true] := by kernel_rfl
theorem lN : au Tryd.prog 74 = some false := by kernel_rfl
theorem yB : ah Tryd.prog 74 = some 1 := by kernel_rfl
theorem HW : aq Tryd.prog 74 = some [.list 0 [] true] := by kernel_rfl
theorem Av : au Tryd.prog 75 = some false := by kernel_rfl
theorem zY : ah Tryd.prog 75 = some 1 := by kernel_rfl
theorem GJ : aq Tryd.prog 75 = some [.list 0 [] true] := by kernel_rfl
theorem G0 : au Tryd.prog 76 = some true := by kernel_rfl
theorem GC : ah Tryd.prog 76 = some 9 := by kernel_rfl
theorem ER : aq Tryd.prog 76 = some [.v (Value.int IntKind.i64 0), .list 0 [] true, .list 0 [] true, .list 0 [] true, .v (Value.int IntKind.i64 0), .v (Value.bool false), .list 0 [] true, .v (Value.int IntKind.i64 0), .v (Value.int IntKind.i64 0)] := by kernel_rfl
theorem vj : au Tryd.prog 77 = some true := by kernel_rfl
theorem q6 : ah Tryd.prog 77 = some 9 := by kernel_rfl
theorem Ad : aq Tryd.prog 77 = some [.v (Value.int IntKind.i64 0), .list 0 [] true, .list 0 [] true, .list 0 [] true, .v (Value.int IntKind.i64 0), .v (Value.bool false), .list 0 [] true, .v (Value.int IntKind.i64 0), .v (Value.int IntKind.i64 0)] := by kernel_rfl
theorem GI : au Tryd.prog 78 = some false := by kernel_rfl
theorem ED : ah Tryd.prog 78 = some 1 := by kernel_rfl
theorem E3 : au Tryd.prog 79 = some false := by kernel_rfl
theorem Gg : ah Tryd.prog 79 = some 1 := by kernel_rfl
theorem GD : aq Tryd.prog 79 = some [.v (Value.int IntKind.u64 0)] := by kernel_rfl
theorem FX : au Tryd.prog 80 = some false := by kernel_rfl
theorem Fl : ah Tryd.prog 80 = some 1 := by kernel_rfl
theorem Ey : au Tryd.prog 81 = some false := by kernel_rfl
theorem EO : ah Tryd.prog 81 = some 1 := by kernel_rfl
theorem AP : au Tryd.prog 82 = some true := by kernel_rfl
theorem EH : ah Tryd.prog 82 = some 2 := by kernel_rfl
theorem EK : aq Tryd.prog 82 = some [.v (Value.int IntKind.u16 0), .v (Value.int IntKind.u16 0)] := by kernel_rfl
theorem FA : au Tryd.prog 83 = some false := by kernel_rfl
theorem Hz : ah Tryd.prog 83 = some 1 := by kernel_rfl
theorem Gs : au Tryd.prog 84 = some false := by kernel_rfl
theorem EI : ah Tryd.prog 84 = some 1 := by kernel_rfl
theorem GF : au Tryd.prog 85 = some false := by kernel_rfl
theorem EY : ah Tryd.prog 85 = some 1 := by kernel_rfl
theorem Fx : au Tryd.prog 86 = some false := by kernel_rfl
theorem Gv : ah Tryd.prog 86 = some 1 := by kernel_rfl
theorem FW : au Tryd.prog 87 = some true := by kernel_rfl
theorem Gd : ah Tryd.prog 87 = some 3 := by kernel_rfl
theorem Hd : aq Tryd.prog 87 = some [.v (Value.int IntKind.i32 0), .v (Value.int IntKind.i32 0), .v (Value.int IntKind.i32 0)] := by kernel_rfl
theorem Fb : au Tryd.prog 88 = some false := by kernel_rfl
theorem He : ah Tryd.prog 88 = some 1 := by kernel_rfl
theorem Hy : au Tryd.prog 89 = some false := by kernel_rfl
theorem E7 : ah Tryd.prog 89 = some 1 := by kernel_rfl
theorem Hg : au Tryd.prog 90 = some false := by kernel_rfl
theorem GO : ah Tryd.prog 90 = some 1 := by kernel_rfl
theorem H8 : au Tryd.prog 91 = some false := by kernel_rfl
theorem FZ : ah Tryd.prog 91 = some 1 := by kernel_rfl
theorem EM : au Tryd.prog 92 = some false := by kernel_rfl
theorem Fh : ah Tryd.prog 92 = some 1 := by kernel_rfl
theorem Ew : au Tryd.prog 93 = some false := by kernel_rfl
theorem F9 : ah Tryd.prog 93 = some 1 := by kernel_rfl
theorem GY : au Tryd.prog 94 = some false := by kernel_rfl
theorem GX : ah Tryd.prog 94 = some 1 := by kernel_rfl
theorem GR : au Tryd.prog 95 = some false := by kernel_rfl
theorem Fs : ah Tryd.prog 95 = some 1 := by kernel_rfl
theorem H0 : au Tryd.prog 97 = some false := by kernel_rfl
theorem F5 : ah Tryd.prog 97 = some 1 := by kernel_rfl
theorem Gz : au Tryd.prog 98 = some true := by kernel_rfl
theorem EC : ah Tryd.prog 98 = some 2 := by kernel_rfl
theorem Fp : aq Tryd.prog 98 = some [.list 0 [] true, .v (Value.int IntKind.i64 0)] := by kernel_rfl
theorem Fk : au Tryd.prog 99 = some true := by kernel_rfl
theorem EQ : ah Tryd.prog 99 = some 2 := by kernel_rfl
theorem Fj : aq Tryd.prog 99 = some [.list 0 [] true, .v (Value.int IntKind.i64 0)] := by kernel_rfl
theorem DT : au Tryd.prog 100 = some false := by kernel_rfl
theorem Cg : ah Tryd.prog 100 = some 1 := by kernel_rfl
theorem BI : au Tryd.prog 101 = some false := by kernel_rfl
theorem A1 : ah Tryd.prog 101 = some 1 := by kernel_rfl
theorem DF : au Tryd.prog 102 = some false := by kernel_rfl
theorem A2 : ah Tryd.prog 102 = some 1 := by kernel_rfl
theorem Bq : au Tryd.prog 103 = some false := by kernel_rfl
theorem CO : ah Tryd.prog 103 = some 1 := by kernel_rfl
theorem Be : au Tryd.prog 104 = some false := by kernel_rfl
theorem DH : ah Tryd.prog 104 = some 1 := by kernel_rfl
theorem CJ : aq Tryd.prog 104 = some [.list 0 [] true] := by kernel_rfl
theorem Cb : au Tryd.prog 105 = some false := by kernel_rfl
theorem Bd : ah Tryd.prog 105 = some 1 := by kernel_rfl
theorem Dm : au Tryd.prog 106 = some false := by kernel_rfl
theorem DA : ah Tryd.prog 106 = some 1 := by kernel_rfl
theorem BC : au Tryd.prog 107 = some false := by kernel_rfl
theorem Dg : ah Tryd.prog 107 = some 1 := by kernel_rfl
theorem C5 : au Tryd.prog 108 = some false := by kernel_rfl
theorem B2 : ah Tryd.prog 108 = some 1 := by kernel_rfl
theorem vK : au Tryd.prog 109 = some false := by kernel_rfl
theorem vT : ah Tryd.prog 109 = some 1 := by kernel_rfl
theorem CX : aq Tryd.prog 109 = some [.list 0 [] true] := by kernel_rfl
theorem CH : au Tryd.prog 110 = some true := by kernel_rfl
theorem Ed : ah Tryd.prog 110 = some 3 := by kernel_rfl
theorem B0 : aq Tryd.prog 110 = some [.v (Value.string { data := #[] }), .list 0 [] true, .v (Value.bool false)] := by kernel_rfl
theorem vJ : au Tryd.prog 111 = some true := by kernel_rfl
theorem kw : ah Tryd.prog 111 = some 3 := by kernel_rfl
theorem oU : aq Tryd.prog 111 = some [.v (Value.string { data := #[] }), .list 0 [] true, .v (Value.bool false)] := by kernel_rfl
theorem Cq : au Tryd.prog 112 = some false := by kernel_rfl
theorem Eh : ah Tryd.prog 112 = some 1 := by kernel_rfl
theorem Ej : au Tryd.prog 113 = some false := by kernel_rfl
theorem Ea : ah Tryd.prog 113 = some 1 := by kernel_rfl
theorem DQ : aq Tryd.prog 113 = some [.list 0 [] true] := by kernel_rfl
theorem Bn : au Tryd.prog 114 = some false := by kernel_rfl
theorem Dq : ah Tryd.prog 114 = some 1 := by kernel_rfl
theorem B6 : aq Tryd.prog 114 = some [.list 0 [] true] := by kernel_rfl
theorem yS : au Tryd.prog 115 = some false := by kernel_rfl
theorem qz : ah Tryd.prog 115 = some 1 := by kernel_rfl
theorem sf : aq Tryd.prog 115 = some [.list 0 [] true] := by kernel_rfl
theorem Cc : au Tryd.prog 116 = some false := by kernel_rfl
theorem CL : ah Tryd.prog 116 = some 1 := by kernel_rfl
theorem DK : au Tryd.prog 117 = some true := by kernel_rfl
theorem o0 : ah Tryd.prog 117 = some 3 := by kernel_rfl
theorem DD : aq Tryd.prog 117 = some [.v (Value.int IntKind.u8 0), .v (Value.int IntKind.u8 0), .v (Value.int IntKind.u8 0)] := by kernel_rfl
theorem B1 : au Tryd.prog 118 = some true := by kernel_rfl
theorem Bw : ah Tryd.prog 118 = some 4 := by kernel_rfl
theorem Ek : aq Tryd.prog 118 = some [.v (Value.int IntKind.i64 0), .v (Value.int IntKind.i64 0), .v (Value.int IntKind.i64 0), .v (Value.int IntKind.i64 0)] := by kernel_rfl
theorem yV : au Tryd.prog 119 = some true := by kernel_rfl
theorem r9 : ah Tryd.prog 119 = some 4 := by kernel_rfl
theorem vu : aq Tryd.prog 119 = some [.v (Value.int IntKind.i64 0), .v (Value.int IntKind.i64 0), .v (Value.int IntKind.i64 0), .v (Value.int IntKind.i64 0)] := by kernel_rfl
theorem BN : au Tryd.prog 120 = some false := by kernel_rfl
theorem DB : ah Tryd.prog 120 = some 1 := by kernel_rfl
theorem DX : au Tryd.prog 121 = some false := by kernel_rfl
theorem Cs : ah Tryd.prog 121 = some 1 := by kernel_rfl
theorem Dn : au Tryd.prog 122 = some false := by kernel_rfl
theorem CS : ah Tryd.prog 122 = some 1 := by kernel_rfl
theorem CG : au Tryd.prog 123 = some false := by kernel_rfl
theorem De : ah Tryd.prog 123 = some 1 := by kernel_rfl
theorem BL : au Tryd.prog 124 = some false := by kernel_rfl
theorem Dh : ah Tryd.prog 124 = some 1 := by kernel_rfl
theorem BZ : au Tryd.prog 125 = some false := by kernel_rfl
theorem B9 : ah Tryd.prog 125 = some 1 := by kernel_rfl
theorem Bu : au Tryd.prog 126 = some false := by kernel_rfl
theorem C6 : ah Tryd.prog 126 = some 1 := by kernel_rfl
theorem r4 : au Tryd.prog 127 = some false := by kernel_rfl
theorem yT : ah Tryd.prog 127 = some 1 := by kernel_rfl
theorem Db : au Tryd.prog 128 = some false := by kernel_rfl
theorem Ct : ah Tryd.prog 128 = some 1 := by kernel_rfl
theorem Cz : au Tryd.prog 129 = some false := by kernel_rfl
theorem DZ : ah Tryd.prog 129 = some 1 := by kernel_rfl
theorem CK : au Tryd.prog 130 = some false := by kernel_rfl
theorem BP : ah Tryd.prog 130 = some 1 := by kernel_rfl
theorem Du : au Tryd.prog 131 = some false := by kernel_rfl
theorem CQ : ah Tryd.prog 131 = some 1 := by kernel_rfl
theorem Eg : au Tryd.prog 133 = some false := by kernel_rfl
theorem Dk : ah Tryd.prog 133 = some 1 := by kernel_rfl
theorem Ec : au Tryd.prog 134 = some false := by kernel_rfl
theorem B5 : ah Tryd.prog 134 = some 1 := by kernel_rfl
theorem Dr : aq Tryd.prog 134 = some [.list 0 [] true] := by kernel_rfl
theorem Ch : au Tryd.prog 136 = some false := by kernel_rfl
theorem B7 : ah Tryd.prog 136 = some 1 := by kernel_rfl
theorem CM : au Tryd.prog 137 = some false := by kernel_rfl
theorem Do : ah Tryd.prog 137 = some 1 := by kernel_rfl
theorem DY : au Tryd.prog 138 = some false := by kernel_rfl
theorem Bz : ah Tryd.prog 138 = some 1 := by kernel_rfl
theorem DM : au Tryd.prog 139 = some true := by kernel_rfl
theorem Eb : ah Tryd.prog 139 = some 8 := by kernel_rfl
theorem C3 : aq Tryd.prog 139 = some [.v (Value.int IntKind.u32 0), .v (Value.int IntKind.u32 0), .v (Value.int IntKind.u32 0), .v (Value.int IntKind.u32 0), .v (Value.int IntKind.u32 0), .v (Value.int IntKind.u32 0), .v (Value.int IntKind.u32 0), .v (Value.int IntKind.u32 0)] := by kernel_rfl
theorem CP : au Tryd.prog 140 = some false := by kernel_rfl
theorem BF : ah Tryd.prog 140 = some 1 := by kernel_rfl
theorem D7 : au Tryd.prog 141 = some false := by kernel_rfl
theorem Di : ah Tryd.prog 141 = some 1 := by kernel_rfl
theorem Dj : au Tryd.prog 143 = some false := by kernel_rfl
theorem A0 : ah Tryd.prog 143 = some 1 := by kernel_rfl
theorem Bc : au Tryd.prog 144 = some false := by kernel_rfl
theorem BV : ah Tryd.prog 144 = some 1 := by kernel_rfl
theorem C7 : au Tryd.prog 145 = some false := by kernel_rfl
theorem BT : ah Tryd.prog 145 = some 1 := by kernel_rfl
theorem D4 : au Tryd.prog 146 = some false := by kernel_rfl
theorem BQ : ah Tryd.prog 146 = some 1 := by kernel_rfl
theorem Dt : au Tryd.prog 147 = some false := by kernel_rfl
theorem BS : ah Tryd.prog 147 = some 1 := by kernel_rfl
theorem C4 : aq Tryd.prog 147 = some [.v (Value.int IntKind.u64 0)] := by kernel_rfl
theorem D9 : au Tryd.prog 148 = some false := by kernel_rfl
theorem CA : ah Tryd.prog 148 = some 1 := by kernel_rfl
theorem DS : au Tryd.prog 149 = some false := by kernel_rfl
theorem A6 : ah Tryd.prog 149 = some 1 := by kernel_rfl
theorem DR : au Tryd.prog 150 = some false := by kernel_rfl
theorem Dw : ah Tryd.prog 150 = some 1 := by kernel_rfl
theorem Bi : au Tryd.prog 151 = some false := by kernel_rfl
theorem D5 : ah Tryd.prog 151 = some 1 := by kernel_rfl
theorem D2 : au Tryd.prog 152 = some false := by kernel_rfl
theorem El : ah Tryd.prog 152 = some 1 := by kernel_rfl
theorem Bv : au Tryd.prog 153 = some false := by kernel_rfl
theorem Da : ah Tryd.prog 153 = some 1 := by kernel_rfl
theorem Dp : au Tryd.prog 154 = some true := by kernel_rfl
theorem Ef : ah Tryd.prog 154 = some 64 := by kernel_rfl
theorem DJ : aq Tryd.prog 154 = some [.v (Value.int IntKind.u32 0), .v (Value.int IntKind.u32 0), .v (Value.int IntKind.u32 0), .v (Value.int IntKind.u32 0), .v (Value.int IntKind.u32 0), .v (Value.int IntKind.u32 0), .v (Value.int IntKind.u32 0), .v (Value.int IntKind.u32 0), .v (Value.int IntKind.u32 0), .v (Value.int IntKind.u32 0), .v (Value.int IntKind.u32 0), .v (Value.int IntKind.u32 0), .v (Value.int IntKind.u32 0), .v (Value.int IntKind.u32 0), .v (Value.int IntKind.u32 0), .v (Value.int IntKind.u32 0), .v (Value.int IntKind.u32 0), .v (Value.int IntKind.u32 0), .v (Value.int IntKind.u32 0), .v (Value.int IntKind.u32 0), .v (Value.int IntKind.u32 0), .v (Value.int IntKind.u32 0), .v (Value.int IntKind.u32 0), .v (Value.int IntKind.u32 0), .v (Value.int IntKind.u32 0), .v (Value.int IntKind.u32 0), .v (Value.int IntKind.u32 0), .v (Value.int IntKind.u32 0), .v (Value.int IntKind.u32 0), .v (Value.int IntKind.u32 0), .v (Value.int IntKind.u32 0), .v (Value.int IntKind.u32 0), .v (Value.int IntKind.u32 0), .v (Value.int IntKind.u32 0), .v (Value.int IntKind.u32 0), .v (Value.int IntKind.u32 0), .v (Value.int IntKind.u32 0), .v (Value.int IntKind.u32 0), .v (Value.int IntKind.u32 0), .v (Value.int IntKind.u32 0), .v (Value.int IntKind.u32 0), .v (Value.int IntKind.u32 0), .v (Value.int IntKind.u32 0), .v (Value.int IntKind.u32 0), .v (Value.int IntKind.u32 0), .v (Value.int IntKind.u32 0), .v (Value.int IntKind.u32 0), .v (Value.int IntKind.u32 0), .v (Value.int IntKind.u32 0), .v (Value.int IntKind.u32 0), .v (Value.int IntKind.u32 0), .v (Value.int IntKind.u32 0), .v (Value.int IntKind.u32 0), .v (Value.int IntKind.u32 0), .v (Value.int IntKind.u32 0), .v (Value.int IntKind.u32 0), .v (Value.int IntKind.u32 0), .v (Value.int IntKind.u32 0), .v (Value.int IntKind.u32 0), .v (Value.int IntKind.u32 0), .v (Value.int IntKind.u32 0), .v (Value.int IntKind.u32 0), .v (Value.int IntKind.u32 0), .v (Value.int IntKind.u32 0)] := by kernel_rfl
theorem B8 : au Tryd.prog 155 = some false := by kernel_rfl
theorem CI : ah Tryd.prog 155 = some 1 := by kernel_rfl
theorem BD : au Tryd.prog 156 = some false := by kernel_rfl
theorem Bb : ah Tryd.prog 156 = some 1 := by kernel_rfl
theorem Bj : au Tryd.prog 157 = some false := by kernel_rfl
theorem Co : ah Tryd.prog 157 = some 1 := by kernel_rfl
theorem DG : au Tryd.prog 158 = some true := by kernel_rfl
theorem Cu : ah Tryd.prog 158 = some 2 := by kernel_rfl
theorem Dv : aq Tryd.prog 158 = some [.v (Value.int IntKind.i64 0), .v (Value.int IntKind.i64 0)] := by kernel_rfl
theorem bA : au Tryd.prog 159 = some true := by kernel_rfl
theorem aR : ah Tryd.prog 159 = some 2 := by kernel_rfl
theorem cR : aq Tryd.prog 159 = some [.v (Value.int IntKind.i64 0), .v (Value.int IntKind.i64 0)] := by kernel_rfl
theorem C9 : au Tryd.prog 160 = some false := by kernel_rfl
theorem CF : ah Tryd.prog 160 = some 1 := by kernel_rfl
theorem CB : au Tryd.prog 161 = some false := by kernel_rfl
theorem Bl : ah Tryd.prog 161 = some 1 := by kernel_rfl
theorem CT : au Tryd.prog 162 = some false := by kernel_rfl
theorem BO : ah Tryd.prog 162 = some 1 := by kernel_rfl
theorem Bf : au Tryd.prog 163 = some false := by kernel_rfl
theorem Ba : ah Tryd.prog 163 = some 1 := by kernel_rfl
theorem Dz : aq Tryd.prog 163 = some [.list 0 [] true] := by kernel_rfl
theorem Bk : au Tryd.prog 164 = some false := by kernel_rfl
theorem Cy : ah Tryd.prog 164 = some 1 := by kernel_rfl
theorem Df : au Tryd.prog 165 = some false := by kernel_rfl
theorem BE : ah Tryd.prog 165 = some 1 := by kernel_rfl
theorem C8 : au Tryd.prog 166 = some false := by kernel_rfl
theorem DO : ah Tryd.prog 166 = some 1 := by kernel_rfl
theorem BU : au Tryd.prog 167 = some false := by kernel_rfl
theorem Bp : ah Tryd.prog 167 = some 1 := by kernel_rfl
theorem Ei : au Tryd.prog 168 = some false := by kernel_rfl
theorem BK : ah Tryd.prog 168 = some 1 := by kernel_rfl
theorem Cj : au Tryd.prog 169 = some true := by kernel_rfl
theorem Ci : ah Tryd.prog 169 = some 4 := by kernel_rfl
theorem DL : aq Tryd.prog 169 = some [.v (Value.pointer none), .v (Value.pointer none), .v (Value.pointer none), .v (Value.string { data := #[] })] := by kernel_rfl
theorem BH : au Tryd.prog 170 = some true := by kernel_rfl
theorem BJ : ah Tryd.prog 170 = some 4 := by kernel_rfl
theorem BR : aq Tryd.prog 170 = some [.v (Value.pointer none), .v (Value.pointer none), .v (Value.pointer none), .v (Value.string { data := #[] })] := by kernel_rfl
theorem CZ : au Tryd.prog 171 = some true := by kernel_rfl
theorem Ce : ah Tryd.prog 171 = some 0 := by kernel_rfl
theorem BX : aq Tryd.prog 171 = some [] := by kernel_rfl
theorem DE : au Tryd.prog 172 = some true := by kernel_rfl
theorem BM : ah Tryd.prog 172 = some 0 := by kernel_rfl
theorem DI : aq Tryd.prog 172 = some [] := by kernel_rfl
theorem Bg : au Tryd.prog 173 = some true := by kernel_rfl
theorem D8 : ah Tryd.prog 173 = some 0 := by kernel_rfl
theorem A7 : aq Tryd.prog 173 = some [] := by kernel_rfl
theorem Bm : au Tryd.prog 174 = some false := by kernel_rfl
theorem Cd : ah Tryd.prog 174 = some 1 := by kernel_rfl
theorem DV : au Tryd.prog 175 = some false := by kernel_rfl
theorem BG : ah Tryd.prog 175 = some 1 := by kernel_rfl
theorem Ck : aq Tryd.prog 175 = some [.v (Value.int IntKind.u8 0)] := by kernel_rfl
theorem CY : au Tryd.prog 176 = some false := by kernel_rfl
theorem D3 : ah Tryd.prog 176 = some 1 := by kernel_rfl
theorem CW : aq Tryd.prog 176 = some [.v (Value.int IntKind.u8 0)] := by kernel_rfl
theorem DW : au Tryd.prog 177 = some false := by kernel_rfl
theorem DN : ah Tryd.prog 177 = some 1 := by kernel_rfl
theorem Dy : au Tryd.prog 178 = some false := by kernel_rfl
theorem Bh : ah Tryd.prog 178 = some 1 := by kernel_rfl
theorem CC : au Tryd.prog 179 = some false := by kernel_rfl
theorem CE : ah Tryd.prog 179 = some 1 := by kernel_rfl
theorem Cm : aq Tryd.prog 179 = some [.v (Value.int IntKind.i32 0)] := by kernel_rfl
theorem Ds : au Tryd.prog 180 = some false := by kernel_rfl
theorem Dx : ah Tryd.prog 180 = some 1 := by kernel_rfl
theorem Cv : aq Tryd.prog 180 = some [.v (Value.int IntKind.i32 0)] := by kernel_rfl
theorem Bt : au Tryd.prog 181 = some true := by kernel_rfl
theorem CR : ah Tryd.prog 181 = some 11 := by kernel_rfl
theorem CD : aq Tryd.prog 181 = some [.v (Value.int IntKind.u64 0), .v (Value.int IntKind.u64 0), .v (Value.int IntKind.u32 0), .v (Value.int IntKind.u8 0), .v (Value.int IntKind.u8 0), .v (Value.int IntKind.u8 0), .v (Value.int IntKind.u8 0), .v (Value.nilFunc), .v (Value.pointer none), .v (Value.int IntKind.i32 0), .v (Value.int IntKind.i32 0)] := by kernel_rfl
theorem BA : au Tryd.prog 182 = some true := by kernel_rfl
theorem Dc : ah Tryd.prog 182 = some 11 := by kernel_rfl
theorem Br : aq Tryd.prog 182 = some [.v (Value.int IntKind.u64 0), .v (Value.int IntKind.u64 0), .v (Value.int IntKind.u32 0), .v (Value.int IntKind.u8 0), .v (Value.int IntKind.u8 0), .v (Value.int IntKind.u8 0), .v (Value.int IntKind.u8 0), .v (Value.nilFunc), .v (Value.pointer none), .v (Value.int IntKind.i32 0), .v (Value.int IntKind.i32 0)] := by kernel_rfl
theorem Cn : au Tryd.prog 183 = some false := by kernel_rfl
theorem A9 : ah Tryd.prog 183 = some 1 := by kernel_rfl
attribute [go_sem] ag1 sz1 ag2 sz2 ze2 ag3 sz3 ze3 ag4 sz4 ze4 ag5 sz5 ze5 ag6 sz6 ze6 ag7 sz7 ze7 ag8 sz8 ze8 ag9 sz9 ze9 Gt HH E6 FV GT Fo G7 Ep Ft EG Es EX Fm F0
attribute [go_sem] Ex Hi FK Fa F4 Fi EE Fy ES FI Ic Hr FQ ET FT GP Fw FH yf xS E1 Aa EU H9 eX cE pw Hf Gr FD pr FG E8 GN Eo Hl Gn Fn Ev sR
attribute [go_sem] vp Ff eo eE vq E5 E4 zV Gl EZ Hk gz cK oz Fq H6 Fz j8 fL pO yg Em G1 Ib Gp FL pC ka AR yc vz Ez Gc E2 En GA Hu GV G9 vh
attribute [go_sem] qS yb Fg Gf Hj Id Hs Gi fJ cB zN Ia FE Gu GW FC Fe FR GL Gy H7 FP Hw F6 FO Gh Ho EJ Fu GE Er G8 FS HU Hh Ie Hm Gq FJ EP
attribute [go_sem] FU F8 GH Fv G3 GM Gk Et Ig E0 Ht zZ xP Ge Hp Fd EF GU Eu GG H5 GS FF F7 EV pR yE FM EW EL FB jl eD yr lN yB HW Av zY GJ
attribute [go_sem] G0 GC ER vj q6 Ad GI ED E3 Gg GD FX Fl Ey EO AP EH EK FA Hz Gs EI GF EY Fx Gv FW Gd Hd Fb He Hy E7 Hg GO H8 FZ EM Fh Ew
attribute [go_sem] F9 GY GX GR Fs H0 F5 Gz EC Fp Fk EQ Fj DT Cg BI A1 DF A2 Bq CO Be DH CJ Cb Bd Dm DA BC Dg C5 B2 vK vT CX CH Ed B0 vJ kw
attribute [go_sem] oU Cq Eh Ej Ea DQ Bn Dq B6 yS qz sf Cc CL DK o0 DD B1 Bw Ek yV r9 vu BN DB DX Cs Dn CS CG De BL Dh BZ B9 Bu C6 r4 yT Db
attribute [go_sem] Ct Cz DZ CK BP Du CQ Eg Dk Ec B5 Dr Ch B7 CM Do DY Bz DM Eb C3 CP BF D7 Di Dj A0 Bc BV C7 BT D4 BQ Dt BS C4 D9 CA DS A6
attribute [go_sem] DR Dw Bi D5 D2 El Bv Da Dp Ef DJ B8 CI BD Bb Bj Co DG Cu Dv bA aR cR C9 CF CB Bl CT BO Bf Ba Dz Bk Cy Df BE C8 DO BU Bp
attribute [go_sem] Ei BK Cj Ci DL BH BJ BR CZ Ce BX DE BM DI Bg D8 A7 Bm Cd DV BG Ck CY D3 CW DW DN Dy Bh CC CE Cm Ds Dx Cv Bt CR CD BA Dc
attribute [go_sem] Br Cn A9 Tryd.underlying0 Tryd.underlying1 Tryd.underlying2 Tryd.underlying3 Tryd.underlying4 Tryd.underlying5 Tryd.underlying6 Tryd.underlying7 Tryd.underlying8 Tryd.underlying9 Tryd.underlying10 Tryd.underlying11 Tryd.underlying12 Tryd.underlying13 Tryd.underlying14 Tryd.underlying15 Tryd.underlying16 Tryd.underlying17 Tryd.underlying18 Tryd.underlying19 Tryd.underlying20 Tryd.underlying21 Tryd.underlying22 Tryd.underlying23 Tryd.underlying24 Tryd.underlying25 Tryd.underlying26 Tryd.underlying27 Tryd.underlying28 Tryd.underlying29 Tryd.underlying30 Tryd.underlying31 Tryd.underlying32 Tryd.underlying33 Tryd.underlying34 Tryd.underlying35 Tryd.underlying36
attribute [go_sem] Tryd.underlying37 Tryd.underlying38 Tryd.underlying39 Tryd.underlying40 Tryd.underlying41 Tryd.underlying42 Tryd.underlying43 Tryd.underlying44 Tryd.underlying45 Tryd.underlying46 Tryd.underlying47 Tryd.underlying48 Tryd.underlying49 Tryd.underlying50 Tryd.underlying51 Tryd.underlying52 Tryd.underlying53 Tryd.underlying54 Tryd.underlying55 Tryd.underlying56 Tryd.underlying57 Tryd.underlying58 Tryd.underlying59 Tryd.underlying60 Tryd.underlying61 Tryd.underlying62 Tryd.underlying63 Tryd.underlying64 Tryd.underlying65 Tryd.underlying66 Tryd.underlying67 Tryd.underlying68 Tryd.underlying69 Tryd.underlying70 Tryd.underlying71 Tryd.underlying72 Tryd.underlying73 Tryd.underlying74 Tryd.underlying75 Tryd.underlying76
attribute [go_sem] Tryd.underlying77 Tryd.underlying78 Tryd.underlying79 Tryd.underlying80 Tryd.underlying81 Tryd.underlying82 Tryd.underlying83 Tryd.underlying84 Tryd.underlying85 Tryd.underlying86 Tryd.underlying87 Tryd.underlying88 Tryd.underlying89 Tryd.underlying90 Tryd.underlying91 Tryd.underlying92 Tryd.underlying93 Tryd.underlying94 Tryd.underlying95 Tryd.underlying96 Tryd.underlying97 Tryd.underlying98 Tryd.underlying99 Tryd.underlying100 Tryd.underlying101 Tryd.underlying102 Tryd.underlying103 Tryd.underlying104 Tryd.underlying105 Tryd.underlying106 Tryd.underlying107 Tryd.underlying108 Tryd.underlying109 Tryd.underlying110 Tryd.underlying111 Tryd.underlying112 Tryd.underlying113 Tryd.underlying114 Tryd.underlying115 Tryd.underlying116
attribute [go_sem] Tryd.underlying117 Tryd.underlying118 Tryd.underlying119 Tryd.underlying120 Tryd.underlying121 Tryd.underlying122 Tryd.underlying123 Tryd.underlying124 Tryd.underlying125 Tryd.underlying126 Tryd.underlying127 Tryd.underlying128 Tryd.underlying129 Tryd.underlying130 Tryd.underlying131 Tryd.underlying132 Tryd.underlying133 Tryd.underlying134 Tryd.underlying135 Tryd.underlying136 Tryd.underlying137 Tryd.underlying138 Tryd.underlying139 Tryd.underlying140 Tryd.underlying141 Tryd.underlying142 Tryd.underlying143 Tryd.underlying144 Tryd.underlying145 Tryd.underlying146 Tryd.underlying147 Tryd.underlying148 Tryd.underlying149 Tryd.underlying150 Tryd.underlying151 Tryd.underlying152 Tryd.underlying153 Tryd.underlying154 Tryd.underlying155 Tryd.underlying156
attribute [go_sem] Tryd.underlying157 Tryd.underlying158 Tryd.underlying159 Tryd.underlying160 Tryd.underlying161 Tryd.underlying162 Tryd.underlying163 Tryd.underlying164 Tryd.underlying165 Tryd.underlying166 Tryd.underlying167 Tryd.underlying168 Tryd.underlying169 Tryd.underlying170 Tryd.underlying171 Tryd.underlying172 Tryd.underlying173 Tryd.underlying174 Tryd.underlying175 Tryd.underlying176 Tryd.underlying177 Tryd.underlying178 Tryd.underlying179 Tryd.underlying180 Tryd.underlying181 Tryd.underlying182 Tryd.underlying183
theorem AB : gJ Tryd.prog 33 = some [(0, 1), (1, 2), (3, 1), (4, 1)] := by kernel_rfl
theorem yn : ee Tryd.prog 33 = some (.new 5 ([.d (.list 0 [] true), .d (.list 0 [] true), .d (.list 0 [] true), .d (.v (Value.int IntKind.i64 0)), .d (.v (Value.int IntKind.i64 0))]) 33) := by kernel_rfl
theorem Hv : ee Tryd.prog 35 = some (.new 2 ([.d (.v (Value.int IntKind.i64 0)), .d (.v (Value.int IntKind.i64 0))]) 35) := by kernel_rfl
theorem EN : gJ Tryd.prog 38 = some [(0, 1), (1, 1), (2, 1), (3, 5), (8, 2), (10, 1)] := by kernel_rfl
theorem uT : ee Tryd.prog 38 = some (.new 11 ([.d (.v (Value.int IntKind.i64 0)), .d (.v (Value.int IntKind.i64 0)), .d (.v (Value.int IntKind.i64 0)), .d (.list 0 [] true), .d (.list 0 [] true), .d (.list 0 [] true), .d (.v (Value.int IntKind.i64 0)), .d (.v (Value.int IntKind.i64 0)), .d (.v (Value.int IntKind.i64 0)), .d (.v (Value.int IntKind.i64 0)), .d (.list 0 [] true)]) 38) := by kernel_rfl
theorem Ag : fm Tryd.prog 38 [] = some (.d (.agg 11 ([.v (Value.int IntKind.i64 0), .v (Value.int IntKind.i64 0), .v (Value.int IntKind.i64 0), .list 0 [] true, .list 0 [] true, .list 0 [] true, .v (Value.int IntKind.i64 0), .v (Value.int IntKind.i64 0), .v (Value.int IntKind.i64 0), .v (Value.int IntKind.i64 0), .list 0 [] true]))) := by kernel_rfl
theorem jo : ee Tryd.prog 47 = some (.new 32 ((List.replicate 32 (D.v (Value.int IntKind.u8 0))).map V.d) 47) := by kernel_rfl
theorem AV : fm Tryd.prog 47 [] = some (.d (.agg 32 (List.replicate 32 (.v (Value.int IntKind.u8 0))))) := by kernel_rfl
theorem At : gJ Tryd.prog 73 = some [(0, 1), (1, 1), (2, 1)] := by kernel_rfl
theorem qP : ee Tryd.prog 73 = some (.new 3 ([.d (.v (Value.int IntKind.i64 0)), .d (.list 0 [] true), .d (.list 0 [] true)]) 73) := by kernel_rfl
theorem pM : fm Tryd.prog 73 [] = some (.d (.agg 3 ([.v (Value.int IntKind.i64 0), .list 0 [] true, .list 0 [] true]))) := by kernel_rfl
theorem Gb : gJ Tryd.prog 77 = some [(0, 3), (3, 1), (4, 1), (5, 1), (6, 1), (7, 1), (8, 1)] := by kernel_rfl
theorem zO : ee Tryd.prog 77 = some (.new 9 ([.d (.v (Value.int IntKind.i64 0)), .d (.list 0 [] true), .d (.list 0 [] true), .d (.list 0 [] true), .d (.v (Value.int IntKind.i64 0)), .d (.v (Value.bool false)), .d (.list 0 [] true), .d (.v (Value.int IntKind.i64 0)), .d (.v (Value.int IntKind.i64 0))]) 77) := by kernel_rfl
theorem vb : gJ Tryd.prog 111 = some [(0, 1), (1, 1), (2, 1)] := by kernel_rfl
theorem uR : ee Tryd.prog 111 = some (.new 3 ([.d (.v (Value.string { data := #[] })), .d (.list 0 [] true), .d (.v (Value.bool false))]) 111) := by kernel_rfl
theorem CN : gJ Tryd.prog 119 = some [(0, 1), (1, 1), (2, 1), (3, 1)] := by kernel_rfl
theorem AY : ee Tryd.prog 119 = some (.new 4 ([.d (.v (Value.int IntKind.i64 0)), .d (.v (Value.int IntKind.i64 0)), .d (.v (Value.int IntKind.i64 0)), .d (.v (Value.int IntKind.i64 0))]) 119) := by kernel_rfl
theorem sd : ee Tryd.prog 139 = some (.new 8 ([.d (.v (Value.int IntKind.u32 0)), .d (.v (Value.int IntKind.u32 0)), .d (.v (Value.int IntKind.u32 0)), .d (.v (Value.int IntKind.u32 0)), .d (.v (Value.int IntKind.u32 0)), .d (.v (Value.int IntKind.u32 0)), .d (.v (Value.int IntKind.u32 0)), .d (.v (Value.int IntKind.u32 0))]) 139) := by kernel_rfl
theorem qI : ee Tryd.prog 154 = some (.new 64 ((List.replicate 64 (D.v (Value.int IntKind.u32 0))).map V.d) 154) := by kernel_rfl
theorem Cr : fm Tryd.prog 154 [] = some (.d (.agg 64 (List.replicate 64 (.v (Value.int IntKind.u32 0))))) := by kernel_rfl
theorem i4 : ee Tryd.prog 159 = some (.new 2 ([.d (.v (Value.int IntKind.i64 0)), .d (.v (Value.int IntKind.i64 0))]) 159) := by kernel_rfl
end
section
open Go.ChangeShapes Go.WideShapes Go.ChangeAt Go.RowKit
set_option maxRecDepth 100000
theorem yw {W : World} (h : ip W) : i6 HG (fQ W) := by
 intro g d hg
 unfold HG at hg
 split at hg
 ·rename_i e
  subst e
  cases hg
  refine .ptr _ _ _ _ (by simp [Sha.begin8]) (iJ fun i d hi => ?_)
  have hl : i < Sha.begin8.length := by have := (List.getElem?_eq_some_iff.1 hi).1; simpa using this
  have hd : d = aM Sha.begin8[i] := by simp [hl] at hi; exact hi.symm
  subst hd
  have := h.1 i (by simpa [Sha.begin8] using hl)
  refine ⟨.int .u32 Sha.begin8[i].toNat, ?_, rfl, .v _⟩
  show W.cell? ⟨0, 0 + i, none⟩ = _
  rw [Nat.zero_add, this]; simp [hl]
 ·split at hg
  ·rename_i e
   subst e
   cases hg
   refine .ptr _ _ _ _ (by simp [Sha.keys64]) (iJ fun i d hi => ?_)
   have hl : i < Sha.keys64.length := by have := (List.getElem?_eq_some_iff.1 hi).1; simpa using this
   have hd : d = aM Sha.keys64[i] := by simp [hl] at hi; exact hi.symm
   subst hd
   have := h.2 i (by simpa [Sha.keys64] using hl)
   refine ⟨.int .u32 Sha.keys64[i].toNat, ?_, rfl, .v _⟩
   show W.cell? ⟨1, 0 + i, none⟩ = _
   rw [Nat.zero_add, this]; simp [hl]
  ·cases hg
theorem xH {H : Type} {enc : TypeId × Value → H} {s : ChangeSpec} {fn : Func} {f : FuncId} {n : Nat} (hsv : s.vars = []) (hs : ∀ (ds : List (DataW H)), ds.length = fn.params.size → s.fn H ds = { results := [.lit (.bool true)], args := ds })
  (hres : fn.resultTypes = #[4]) (hfine : (fn.params.toList.all (jP Tryd.prog n)) = true) (hread : (fn.params.toList.all fun t => Tryd.prog.readableRec t && decide (t < Tryd.prog.types.size)) = true)
  (hD : ∀ ds, nd Tryd.prog n fn.params.toList ds → aj Tryd.prog HG f ds (.v (.bool true)))
  (W : World) (base : Nat) (args : Array Value) (ds gs : List (DataW H)) (before : List MemPlace) (hval : ∀ (j : Nat) t v, fn.params[j]? = some t → args[j]? = some v → Value.okWide Tryd.prog W .any base t v)
  (hW : DataW.Whole enc Tryd.prog fn.params.toList s.vars false W args.toList ds gs before) (hL : laidMetH Tryd.prog ml W) :
  Calls Tryd.prog f args W fun e W' => ∃ v, e = .returned v ∧ s.post enc Tryd.prog fn false true false false W args v W' := by
 have hW' := hW
 obtain ⟨p, q, hA, hV, rfl, _, _⟩ := hW
 obtain ⟨hlen, xs, hrep, harg⟩ := yy (w := W) hfine (fun j t v h1 h2 => hval j t v (by simpa using h1) (by simpa using h2)) hA
 rw [hsv] at hV
 obtain ⟨rfl, rfl⟩ := trodVars_none hV
 have hlt : ∀ x ∈ p, x.block < W.heap.size := fun x hx => hW'.lt x (by simp [hx])
 have hc := hD xs harg (fQ W) W args.toList (yw (sC hL)) (ui W) hrep
 rw [Array.toArray_toList] at hc
 refine hc.mono ?_
 rintro e W' ⟨v, C', rfl, hm, hv⟩
 have := bp hv
 subst this
 have hsp := hs ds (by rw [hlen]; simp)
 have hres' : fn.resultTypes.toList = [4] := by rw [hres]
 have hb := hm.below
 refine ⟨_, rfl, ds, [], _, [], p, [], hW', ?_, ?_, ?_, hb.frame _, fun h => by cases h⟩
 ·rw [List.append_nil, hsp, hres', hres]
  exact trodAll_mk1 (shut_bool Tryd.underlying4 true)
 ·rw [List.append_nil, hsp]
  exact wh y1 hread hA hb hlt
 ·rw [hsv, List.append_nil, hsp]; rfl
theorem m6 {P : Program} {n : Nat} {t : TypeId} {ts : List TypeId} {ds : List D} (h : nd P n (t :: ts) ds) : ∃ d r, ds = d :: r ∧ mt P n t d ∧ nd P n ts r := by
 cases ds with
 | nil => exact h.elim
 | cons d r => exact ⟨d, r, rfl, h.1, h.2⟩
theorem wg {P : Program} {n : Nat} {ds : List D} (h : nd P n [] ds) : ds = [] := by
 cases ds with
 | nil => rfl
 | cons d r => exact h.elim
end
section
open Go.ChangeShapes Go.WideShapes Go.ChangeAt Go.RowKit
theorem qZ {α β : Type} {f : α → β} {g : α → Prop} : ∀ {xs : List β}, (∀ x ∈ xs, ∃ a, x = f a ∧ g a) → ∃ l : List α, xs = l.map f ∧ ∀ a ∈ l, g a := by
 intro xs
 induction xs with
 | nil => intro _; exact ⟨[], rfl, by simp⟩
 | cons x xs ih =>
  intro h
  obtain ⟨a, rfl, ha⟩ := h x (by simp)
  obtain ⟨l, rfl, hl⟩ := ih fun y hy => h y (by simp [hy])
  exact ⟨a :: l, rfl, by simpa using ⟨ha, hl⟩⟩
end
section
open Go.RowKit
section
variable {F : Fr} {st : St} {μ : Nat → Option Place} {C : aK} {a : Act} {w : World}
theorem Sim.allocCap (h : Sim F st μ C a w) (cap sz : Nat) (rows : List (List V)) (cur : Array Value) (T : TypeId) (hrow : ∀ r ∈ rows, r.length = sz) (hle : rows.length ≤ cap) (hmax : cap ≤ 9223372036854775807) (hsz : cur.size = cap * sz) (hr : gR μ C sz rows cur.toList) :
  Sim F { st with h := (st.nx, ⟨sz, rows⟩) :: st.h, nx := st.nx + 1 } (fun l => if l = st.nx then some ⟨w.heap.size, cap, sz⟩ else μ l) C a (w.alloc (.cells cur T)) := by
 have hμ : ∀ l p, μ l = some p → (fun l => if l = st.nx then some (⟨w.heap.size, cap, sz⟩ : Place) else μ l) l = some p := by
  intro l p hp
  have : l ≠ st.nx := fun e => by rw [h.nx l (by omega)] at hp; cases hp
  simp [this, hp]
 have h1 := h.more (.of_below h.known ((Below.refl _ w).alloc (Nat.le_refl _) (.cells cur T)))
 have hold : ∀ l k, look st.h l = some k → l ≠ st.nx := fun l k hk e => by
  obtain ⟨p, hp, _⟩ := h.heap l k hk
  rw [h.nx l (by omega)] at hp; cases hp
 refine ⟨h1.size, h1.defers, h1.below, h1.sub, h1.new, h1.known, fun t x hx => (h1.env t x hx).mono hμ (fun _ _ _ h => h), ?_, ?_, ?_, F.stab h.gh (lK h _ ⟨w.heap.size, cap, sz⟩ (h.nx _ (Nat.le_refl _)) hμ (by simp) (fun _ => Nat.le_refl _) (fun l hl => by simp [hl]) (.of_below h.known ((Below.refl _ w).alloc (Nat.le_refl _) (.cells cur T))))⟩
 ·intro l k hk
  simp only [look] at hk
  by_cases hl : st.nx = l
  ·subst hl
   rw [if_pos rfl] at hk
   cases hk
   refine ⟨⟨w.heap.size, cap, sz⟩, by simp, rfl, hle, hmax, hrow, fun _ => ⟨.inl h.below.size, fun o u hc => ?_, cur, T, heap_alloc_new w _, hsz, hr.mono hμ (fun _ _ _ h => h)⟩⟩
   exact absurd (h.known.lt hc) (Nat.lt_irrefl _)
  ·rw [if_neg hl] at hk
   obtain ⟨p, hp, hb⟩ := h1.heap l k hk
   refine ⟨p, hμ l p hp, hb.sz, hb.len, hb.max, hb.row, fun hc => ?_⟩
   obtain ⟨a1, a2, cur', T', a3, a4, a5⟩ := hb.cells hc
   exact ⟨a1, a2, cur', T', a3, a4, a5.mono hμ (fun _ _ _ h => h)⟩
 ·intro l l' p p' hl hl' hp hp' hc hc' hb
  simp only [look] at hl hl'
  have hlt : ∀ l p, (look st.h l).isSome = true → μ l = some p → 0 < p.cap → p.b < w.heap.size := by
   intro l p hl hp hc
   obtain ⟨k, hk⟩ := Option.isSome_iff_exists.1 hl
   obtain ⟨p2, hp2, hb2⟩ := h.heap l k hk
   rw [hp] at hp2; cases hp2
   exact hb2.lt hc
  by_cases e : l = st.nx <;> by_cases e' : l' = st.nx
  ·rw [e, e']
  ·rw [if_neg (Ne.symm e')] at hl'
   simp only [if_pos e, if_neg e'] at hp hp'
   cases hp
   have := hlt l' p' hl' hp' hc'
   simp at hb; omega
  ·rw [if_neg (Ne.symm e)] at hl
   simp only [if_neg e, if_pos e'] at hp hp'
   cases hp'
   have := hlt l p hl hp hc
   simp at hb; omega
  ·rw [if_neg (Ne.symm e)] at hl
   rw [if_neg (Ne.symm e')] at hl'
   simp only [if_neg e, if_neg e'] at hp hp'
   exact h.inj l l' p p' hl hl' hp hp' hc hc' hb
 ·intro l hl
  have hl' : st.nx + 1 ≤ l := hl
  have : l ≠ st.nx := by omega
  simp only [if_neg this]
  exact h.nx l (by omega)
end
section
variable {P : Program} {G : Nat → Option D} {N : Nat} {F : Fr} {ops : Array Oper} {rest : List Oper} {o : Oper} {Q : Exit → St → Prop} {st : St} {t e : TypeId} {z : Value} {size bytes : Nat}
theorem SmL.appendNew (hF : Env F P G N) (hN : St.small N st) (hE : ElemT P t e z size bytes) {s x : Operand} {d : Tmp} {sz sz' : Nat} {xs ys : List (List D)} {f : Bool} (hg : bU ops st.env o.guard = some true) (ho : o.op = .call ⟨.builtin .append, #[s, x], #[t, t]⟩) (hd : o.dst = some d) (hdN : d < N)
  (hs : evD G st.env s = some (.d (.list sz xs true))) (hx : evD G st.env x = some (.d (.list sz' ys f))) (hsz : sz = size ∨ xs = []) (hsz' : sz' = size) (hy : ys ≠ []) (hb : (xs.length + ys.length) * bytes ≤ 140737488355328) (hb2 : xs.length + ys.length ≤ 140737488355328)
  (k : SmL F ops rest Q ⟨(d, .sref st.nx 0 (xs ++ ys).length) :: st.env, (st.nx, ⟨size, (xs ++ ys).map fun r => r.map V.d⟩) :: st.h, st.nx + 1⟩) : SmL F ops (o :: rest) Q st := by
 intro μ C a w hsim
 obtain ⟨rfl, rfl, hG⟩ := hF
 obtain ⟨i0, hi, hz0, hz1, hz2⟩ := info_parts hE.info
 refine fV (fun _ => by rw [ho]; simp) fun K hK => ?_
 rw [dH hsim hg hN, if_pos rfl]
 have hsv := eh hsim hG hs
 have hxv := eh hsim hG hx
 have hk := hsim.known
 obtain ⟨ao, cap, vs, e1, hcap, hvl, hvv, hvx, hvr⟩ := cI (P := F.P) hk hsv hsz
 obtain ⟨bo, cap', us, e2, _, hul, huv, hux, hur⟩ := cI (P := F.P) hk hxv (.inl hsz')
 have hdr : Below w.heap.size w w.drew := (Below.refl _ _).drew
 unfold Oper.wp
 rw [gQ ho, Sem.run_bind, e1, e2]
 rw [hcap rfl]
 have hm : 0 < ys.length := List.length_pos_iff.2 hy
 have hr1 := hvr w.drew hdr
 have hr2 := hur w.drew hdr
 rw [e1, hcap rfl] at hr1
 rw [e2] at hr2
 have hrun := ic (P := F.P) (w := w) hE.und i0 hi hz0 ao xs.length xs.length vs bo ys.length cap' us o.type (by rw [hz1]; exact hr1) (by rw [hz1]; exact hr2) (by omega) (by rw [hz2]; exact hb) hb2
 rw [hrun, Result.andThen_ok]
 show Oper.upon F.P o a K _ (.ok (.value _) _)
 rw [Oper.upon_value, hd]
 have hge := grownCap_ge w (xs.length + ys.length) xs.length e
 have hgm := grownCap_le_maxLen w (xs.length + ys.length) xs.length e (by unfold maxLen; omega)
 generalize hgc : grownCap w (xs.length + ys.length) xs.length e = g at hge hgm ⊢
 have hrowx : ∀ x ∈ xs ++ ys, x.length = size := by
  intro x hx
  rcases List.mem_append.1 hx with hx | hx
  ·exact hvx x hx
  ·exact hux x hx
 have hs1 := hsim.drew.allocCap g size ((xs ++ ys).map fun r => r.map V.d) (vs.toArray ++ us.toArray ++ Builtin.zeroCells z.cells (g - (xs.length + ys.length))) e
  (by intro r hr; obtain ⟨x, hx, rfl⟩ := List.mem_map.1 hr; simpa using hrowx x hx) (by simp; omega) (by unfold maxLen at hgm; omega)
  (nf g (xs.length + ys.length) size z.cells hE.zs vs us (by rw [hvl, hul, Nat.add_mul]) hge)
  (by
   have := lh (μ := μ) (C := C) (rows := xs ++ ys) (vs := vs ++ us) (size := size) hrowx (by rw [List.flatten_append]; exact fC hvv huv) (Builtin.zeroCells z.cells (g - (xs.length + ys.length))).toList
   simpa using this)
 have hput := hs1.put (t := d) hdN (x := .sref st.nx 0 (xs ++ ys).length) (v := .slice (some ⟨w.heap.size, 0, none⟩) (xs.length + ys.length) g) ⟨⟨w.heap.size, g, size⟩, some ⟨w.heap.size, 0, none⟩, (by show (if st.nx = st.nx then some (⟨w.drew.heap.size, g, size⟩ : Place) else _) = _; rw [if_pos rfl]; rfl), by simp, by simpa using hge, fun _ => by simp⟩
 exact hK _ _ (k _ C _ _ hput)
theorem SmL.buildOwn (hF : Env F P G N) (hN : St.small N st) {t : TypeId} {n : Nat} {ps : Array (Nat × Operand)} {qs : List (Nat × V)} {sz : Nat} {rows : List (List D)} {d : Tmp} (hg : bU ops st.env o.guard = some true) (ho : o.op = .buildSlice t n ps) (hd : o.dst = some d) (hdN : d < N)
  (hp : e8 (evD G st.env) ps.toList = some qs) (hb : dn P t n qs = some (.d (.list sz rows true))) (hne : rows ≠ [])
  (k : SmL F ops rest Q ⟨(d, .sref st.nx 0 rows.length) :: st.env, (st.nx, ⟨sz, rows.map fun r => r.map V.d⟩) :: st.h, st.nx + 1⟩) : SmL F ops (o :: rest) Q st := by
 intro μ C a w hsim
 obtain ⟨rfl, rfl, hG⟩ := hF
 refine fV (fun _ => by rw [ho]; simp) fun K hK => ?_
 rw [dH hsim hg hN, if_pos rfl]
 have hev : ∀ x v, evD G st.env x = some v → aN μ C v (a.eval x) := fun x v h => eh hsim hG h
 have hp' : iY μ C qs (ps.map fun (i, x) => (i, a.eval x)).toList := by simpa using nA hev hp
 obtain ⟨s', rows', cells', e', he, hnle, hn, hR, hrun⟩ := mc (P := F.P) (w := w) hp' hb
 cases he
 have hex : (execOp a.eval o).run F.P w = .ok (.value (.slice (some ⟨w.heap.size, 0, none⟩) n n)) (w.alloc (.cells cells' e')) := by
  simp only [execOp, ho]
  simp [Sem.run_bind, hrun, Result.andThen]
 unfold Oper.wp
 rw [hex, Oper.upon_value, hd]
 have hs1 := hsim.alloc sz (rows.map fun r => r.map V.d) cells' e' (by intro r hr; obtain ⟨x, hx, rfl⟩ := List.mem_map.1 hr; obtain ⟨i, hi⟩ := List.getElem?_of_mem hx; simpa using (hR.2 i x hi).1) (by simpa using hne) (by simp; omega) (by simpa using hR.1) (by
  intro i r hr j x hj
  rw [List.getElem?_map] at hr
  cases hrow : rows[i]? with
  | none => rw [hrow] at hr; cases hr
  | some row =>
   rw [hrow] at hr; cases hr
   rw [List.getElem?_map] at hj
   cases hd : row[j]? with
   | none => rw [hd] at hj; cases hj
   | some dd =>
    rw [hd] at hj; cases hj
    obtain ⟨u, g1, g2, g3⟩ := (hR.2 i row hrow).2 j dd hd
    exact ⟨u, by simpa using g1, g2, g3⟩)
 have hpos : 0 < rows.length := List.length_pos_iff.2 hne
 have hput := hs1.put (t := d) hdN (x := .sref st.nx 0 rows.length) (v := .slice (some ⟨w.heap.size, 0, none⟩) n n) ⟨⟨w.heap.size, rows.length, sz⟩, some ⟨w.heap.size, 0, none⟩, by simp, by simp [hn], by simp, fun _ => by simp⟩
 exact hK _ _ (k _ C _ _ hput)
theorem SmL.appendFresh (hF : Env F P G N) (hN : St.small N st) (hE : ElemT P t e z size bytes) {s x : Operand} {d : Tmp} {sz sz' : Nat} {ys : List (List D)} {f : Bool} (hg : bU ops st.env o.guard = some true) (ho : o.op = .call ⟨.builtin .append, #[s, x], #[t, t]⟩) (hd : o.dst = some d) (hdN : d < N)
  (hs : evD G st.env s = some (.d (.list sz [] true))) (hx : evD G st.env x = some (.d (.list sz' ys f))) (hsz' : sz' = size ∨ ys = []) (hb : ys.length * bytes ≤ 140737488355328) (hb2 : ys.length ≤ 140737488355328)
  (k : SmL F ops rest Q ⟨(d, .sref st.nx 0 ys.length) :: st.env, (st.nx, ⟨size, ys.map fun r => r.map V.d⟩) :: st.h, st.nx + 1⟩) : SmL F ops (o :: rest) Q st := by
 by_cases hy : ys = []
 ·subst hy
  have hk2 : SmL F ops rest Q { st with env := (d, .d (.list size [] true)) :: st.env } := by
   refine SmL.to (oT (st := { st with env := (d, .d (.list size [] true)) :: st.env }) (t := d) (sz := size) size (by simp [look])) ?_
   refine SmL.less (st' := ⟨(d, .sref st.nx 0 0) :: st.env, (st.nx, ⟨size, []⟩) :: st.h, st.nx + 1⟩) ⟨fun t x hx => ?_, fun _ _ h => h, Nat.le_refl _⟩ (by simpa using k)
   simp only [look] at hx ⊢
   split at hx
   ·rename_i e; rw [if_pos e]; exact hx
   ·rename_i e; rw [if_neg e, if_neg e]; exact hx
  intro μ C a w hsim
  obtain ⟨rfl, rfl, hG⟩ := hF
  obtain ⟨i0, hi, hz0, hz1, hz2⟩ := info_parts hE.info
  refine fV (fun _ => by rw [ho]; simp) fun K hK => ?_
  rw [dH hsim hg hN, if_pos rfl]
  have hsv := eh hsim hG hs
  have hxv := eh hsim hG hx
  have hk := hsim.known
  obtain ⟨ao, cap, vs, e1, hcap, hvl, hvv, hvx, hvr⟩ := cI (P := F.P) (size := size) hk hsv (.inr rfl)
  obtain ⟨bo, cap', us, e2, _, hul, huv, hux, hur⟩ := cI (P := F.P) (size := size) hk hxv (.inr rfl)
  unfold Oper.wp
  rw [gQ ho, Sem.run_bind, e1, e2]
  rw [hcap rfl]
  have : (Builtin.append_ #[t, t] o.type #[.slice ao ([] : List (List D)).length ([] : List (List D)).length, .slice bo ([] : List (List D)).length cap']).run F.P w = .ok (.slice ao ([] : List (List D)).length ([] : List (List D)).length) w := by
   have hf0 := hur w (Below.refl _ _)
   rw [e2] at hf0
   have : us = [] := List.eq_nil_of_length_eq_zero (by simpa using hul)
   subst this
   have hszr : (sizeOf e).run F.P w = .ok size w := by simp [sizeOf, typeInfo, hi, hz1]
   simp only [List.length_nil] at hf0
   cases ao with
   | none => simp [Builtin.append_, run_underlying hE.und, hszr, Builtin.lenOf, hf0]
   | some b => simp [Builtin.append_, run_underlying hE.und, hszr, Builtin.lenOf, hf0, storeCells]
  rw [this, Result.andThen_ok]
  show Oper.upon F.P o a K _ (.ok (.value _) w)
  rw [Oper.upon_value, hd]
  refine hK _ _ (hk2 μ C _ w (hsim.put hdN ?_))
  rw [e1, hcap rfl] at hsv
  show Rep C _ _
  cases hsv with
  | nil _ _ a cap h => exact .nil _ _ _ _ h
  | list _ _ _ _ _ _ h => exact absurd rfl h
 ·have hsz2 : sz' = size := hsz'.resolve_right hy
  exact SmL.appendNew hF hN hE hg ho hd hdN hs hx (.inr rfl) hsz2 hy (by simpa using hb) (by simpa using hb2) (by simpa using k)
end
section
variable {P : Program} {G : Nat → Option D} {N : Nat} {F : Fr} {ops rest : List Oper} {o : Oper} {Q : Exit → St → Prop} {env : List (Nat × V)} {h : List (Nat × Blk)} {nx : Nat} {t e : TypeId} {z : Value} {size bytes : Nat}
theorem SmG.appendNew (hF : Env F P G N) (hE : ElemT P t e z size bytes) {s x : Operand} {d : Tmp} {sz sz' : Nat} {xs ys : List (List D)} {f : Bool} (ho : o.op = .call ⟨.builtin .append, #[s, x], #[t, t]⟩) (hd : o.dst = some d) (hdN : Nat.blt d N = true) (hg : bz ops env o.guard = some true)
  (hs : evB G env s = some (.d (.list sz xs true))) (hx : evB G env x = some (.d (.list sz' ys f))) (hsz : sz = size ∨ xs = []) (hsz' : sz' = size) (hy : ys ≠ []) (hb : (xs.length + ys.length) * bytes ≤ 140737488355328) (hb2 : xs.length + ys.length ≤ 140737488355328)
  (k : SmG F N ops rest Q ⟨(d, .sref nx 0 (xs ++ ys).length) :: env, (nx, dB size (xs ++ ys)) :: h, nx + 1⟩) : SmG F N ops (o :: rest) Q ⟨env, h, nx⟩ := by
 have hdN' : d < N := by simpa [Nat.blt_eq] using hdN
 intro hsm
 rw [bK] at hs hx
 exact SmL.appendNew hF hsm hE (bN hg) ho hd hdN' hs hx hsz hsz' hy hb hb2 (k (dK hsm hdN'))
theorem SmG.buildOwn (hF : Env F P G N) {t : TypeId} {n : Nat} {ps : List (Nat × Operand)} {qs : List (Nat × V)} {sz : Nat} {rows : List (List D)} {d : Tmp} (ho : o.op = .buildSlice t n ps.toArray) (hd : o.dst = some d) (hdN : Nat.blt d N = true) (hg : bz ops env o.guard = some true)
  (hp : e8 (evB G env) ps = some qs) (hb : dn P t n qs = some (.d (.list sz rows true))) (hne : rows ≠ [])
  (k : SmG F N ops rest Q ⟨(d, .sref nx 0 rows.length) :: env, (nx, dB sz rows) :: h, nx + 1⟩) : SmG F N ops (o :: rest) Q ⟨env, h, nx⟩ := by
 have hdN' : d < N := by simpa [Nat.blt_eq] using hdN
 intro hsm
 exact SmL.buildOwn hF hsm (bN hg) ho hd hdN' (by simpa using mj hp) hb hne (k (dK hsm hdN'))
theorem SmG.appendFresh (hF : Env F P G N) (hE : ElemT P t e z size bytes) {s x : Operand} {d : Tmp} {sz sz' : Nat} {ys : List (List D)} {f : Bool} (ho : o.op = .call ⟨.builtin .append, #[s, x], #[t, t]⟩) (hd : o.dst = some d) (hdN : Nat.blt d N = true) (hg : bz ops env o.guard = some true)
  (hs : evB G env s = some (.d (.list sz [] true))) (hx : evB G env x = some (.d (.list sz' ys f))) (hsz' : sz' = size ∨ ys = []) (hb : ys.length * bytes ≤ 140737488355328) (hb2 : ys.length ≤ 140737488355328)
  (k : SmG F N ops rest Q ⟨(d, .sref nx 0 ys.length) :: env, (nx, dB size ys) :: h, nx + 1⟩) : SmG F N ops (o :: rest) Q ⟨env, h, nx⟩ := by
 have hdN' : d < N := by simpa [Nat.blt_eq] using hdN
 intro hsm
 rw [bK] at hs hx
 exact SmL.appendFresh hF hsm hE (bN hg) ho hd hdN' hs hx hsz' hb hb2 (k (dK hsm hdN'))
theorem SmG.own {t sz : Nat} (sz' : Nat) (ht : cw env t = some (.d (.list sz [] true))) (k : SmG F N ops rest Q ⟨(t, .sref nx 0 0) :: env, (nx, ⟨sz', []⟩) :: h, nx + 1⟩) : SmG F N ops rest Q ⟨env, h, nx⟩ := by
 intro hsm
 rw [bV] at ht
 refine SmL.to (oT (st := ⟨env, h, nx⟩) (t := t) sz' ht) (k ?_)
 exact dK hsm (hsm t _ ht)
theorem SmG.freeze {l sz : Nat} (rows : List (List D)) (hk : cw h l = some (dB sz rows)) (k : SmG F N ops rest Q ⟨k8 l sz rows env, iF l h, nx⟩) : SmG F N ops rest Q ⟨env, h, nx⟩ := by
 intro hsm
 rw [bV] at hk
 refine SmL.to (oR (st := ⟨env, h, nx⟩) rows hk rfl) (k ?_)
 intro s y hy
 simp only [m4] at hy
 cases hq : look env s with
 | none => rw [hq] at hy; cases hy
 | some y' => exact hsm s y' hq
theorem Sm.freeze {c : Code} {l sz : Nat} (rows : List (List D)) (hk : cw h l = some (dB sz rows)) (k : Sm F c Q ⟨k8 l sz rows env, iF l h, nx⟩) : Sm F c Q ⟨env, h, nx⟩ := by
 rw [bV] at hk
 exact Sm.to (oR (st := ⟨env, h, nx⟩) rows hk rfl) k
theorem Sm.own {c : Code} {t sz : Nat} (sz' : Nat) (ht : cw env t = some (.d (.list sz [] true))) (k : Sm F c Q ⟨(t, .sref nx 0 0) :: env, (nx, ⟨sz', []⟩) :: h, nx + 1⟩) : Sm F c Q ⟨env, h, nx⟩ := by
 rw [bV] at ht
 exact Sm.to (oT (st := ⟨env, h, nx⟩) (t := t) sz' ht) k
theorem SmG.ownCell (m i j : Nat) {sz : Nat} (sz' : Nat) {kb : Blk} {r : List V} (hk : cw h m = some kb) (hr : kb.rows[i]? = some r) (hj : r[j]? = some (.d (.list sz [] true)))
  (k : SmG F N ops rest Q ⟨env, (nx, ⟨sz', []⟩) :: rep h m ⟨kb.sz, kb.rows.set i (r.set j (.sref nx 0 0))⟩, nx + 1⟩) : SmG F N ops rest Q ⟨env, h, nx⟩ := fun hsm => by
 rw [bV] at hk
 exact SmL.to (nL (st := ⟨env, h, nx⟩) sz' hk hr hj) (k hsm)
theorem Sm.ownCell {c : Code} (m i j : Nat) {sz : Nat} (sz' : Nat) {kb : Blk} {r : List V} (hk : cw h m = some kb) (hr : kb.rows[i]? = some r) (hj : r[j]? = some (.d (.list sz [] true)))
  (k : Sm F c Q ⟨env, (nx, ⟨sz', []⟩) :: rep h m ⟨kb.sz, kb.rows.set i (r.set j (.sref nx 0 0))⟩, nx + 1⟩) : Sm F c Q ⟨env, h, nx⟩ := by
 rw [bV] at hk
 exact Sm.to (nL (st := ⟨env, h, nx⟩) sz' hk hr hj) k
end
end
end Go.Proofs.YtbaccmkhjmmlnaaDoor
