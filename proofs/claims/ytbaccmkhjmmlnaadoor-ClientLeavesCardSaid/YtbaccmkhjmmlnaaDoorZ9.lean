/-
  Lemmas, part 9 of 9: walks through the program's functions, and plain Lean about what they compute.
-/
import Derived.Test.YtbaccmkhjmmlnaaDoorZ1
import Derived.Test.YtbaccmkhjmmlnaaDoorZ2
import Derived.Test.YtbaccmkhjmmlnaaDoorZ3
import Derived.Test.YtbaccmkhjmmlnaaDoorZ4
import Derived.Test.YtbaccmkhjmmlnaaDoorZ5
import Derived.Test.YtbaccmkhjmmlnaaDoorZ6
import Derived.Test.YtbaccmkhjmmlnaaDoorZ7
import Derived.Test.YtbaccmkhjmmlnaaDoorZ8
set_option linter.unnecessarySimpa false
set_option linter.unusedSimpArgs false
set_option linter.unusedVariables false
namespace Go.Proofs.YtbaccmkhjmmlnaaDoor
section
open Go.RowKit
set_option maxRecDepth 100000
structure GmFine (g : Gm) : Prop where
 board : BrdOk g.board
 k1 : 1 ≤ g.kinds.length
 k2 : g.kinds.length ≤ 2
 r0 : 0 ≤ g.rights
 r2 : g.rights ≤ 2
theorem gm_ok (x : GRaw) : Ok (znd x) GmFine := by
 unfold znd
 refine Ok.bind (z0u x.w x.h x.cut) fun b hB => ?_
 have hnl := hB.nl
 have hc1 := hB.c1
 have h0 := x.f0.toNat_lt
 have h1 := x.f1.toNat_lt
 have h3 := x.f3.toNat_lt
 have h4 := x.f4.toNat_lt
 rw [zlb (by omega) (by omega), ob_eq, zlb (by omega) (by omega), ob_eq]
 obtain ⟨r, hr, hr0, hr2⟩ : ∃ r : Int, (x.f0.toNat : Int) % 3 = r ∧ 0 ≤ r ∧ r ≤ 2 := ⟨_, rfl, by omega, by omega⟩
 rw [hr]
 refine Ok.bind (P := fun v => v = 1 ∨ v = 2) (Ok.cond (fun _ => Ok.ret (.inr rfl)) fun _ => Ok.ret (.inl rfl)) fun kn hkn => ?_
 have hk0 : 0 < kn := by omega
 have hl0 : Ok (loopO (zod x b r kn) (0, [])) fun _ => True := by
  refine Ok.loop (fun s : Int × List (List Stp) => ∃ i : Nat, s.1 = i ∧ i ≤ 4 ∧ s.2.length = i) (fun s : Int × List (List Stp) => 4 - s.1.toNat) ⟨0, rfl, by omega, rfl⟩ ?_
  rintro ⟨_, acc⟩ ⟨i, rfl, hi, ha⟩
  unfold zod
  simp only at ha ⊢
  refine Ok.cond (fun c1 => Ok.cond (fun c2 => ?_) fun _ => Ok.ret trivial) fun _ => Ok.ret trivial
  simp only [decide_eq_true_eq] at c1 c2
  rw [zed (by omega) (by omega), ob_eq]
  refine Ok.bind (z7r _ (by omega) hk0 hr0) fun _ _ => ?_
  rw [z7b (by simp; omega), ob_eq, zt (by omega), ob_eq]
  exact Ok.ret ⟨⟨i + 1, by simp, by omega, by simp [ha]⟩, by simp only; omega⟩
 have hl1 : Ok (loopO (zyd x b r kn) (0, [])) fun _ => True := by
  refine Ok.loop (fun s : Int × List (List Stp) => ∃ i : Nat, s.1 = i ∧ i ≤ 4 ∧ s.2.length = i) (fun s : Int × List (List Stp) => 4 - s.1.toNat) ⟨0, rfl, by omega, rfl⟩ ?_
  rintro ⟨_, acc⟩ ⟨i, rfl, hi, ha⟩
  unfold zyd
  simp only at ha ⊢
  refine Ok.cond (fun c1 => Ok.cond (fun c2 => ?_) fun _ => Ok.ret trivial) fun _ => Ok.ret trivial
  simp only [decide_eq_true_eq] at c1 c2
  rw [zed (by omega) (by omega), ob_eq]
  refine Ok.bind (z7r _ (by omega) hk0 hr0) fun _ _ => ?_
  rw [z7b (by simp; omega), ob_eq, zt (by omega), ob_eq]
  exact Ok.ret ⟨⟨i + 1, by simp, by omega, by simp [ha]⟩, by simp only; omega⟩
 have hl3 : Ok (loopO (zsd x b kn) (0, [])) fun _ => True := by
  refine Ok.loop (fun s : Int × List Cls => ∃ i : Nat, s.1 = i ∧ i ≤ 3 ∧ s.2.length = i) (fun s : Int × List Cls => 3 - s.1.toNat) ⟨0, rfl, by omega, rfl⟩ ?_
  rintro ⟨_, acc⟩ ⟨i, rfl, hi, ha⟩
  unfold zsd
  simp only at ha ⊢
  refine Ok.cond (fun c1 => Ok.cond (fun c2 => ?_) fun _ => Ok.ret trivial) fun _ => Ok.ret trivial
  simp only [decide_eq_true_eq] at c1 c2
  obtain ⟨e, he⟩ : ∃ e, idx x.c (i : Int) = some e := ⟨_, zed (by omega) (by omega)⟩
  obtain ⟨e1, e2, e3⟩ := e
  have g1 := e1.toNat_lt
  have g2 := e2.toNat_lt
  have g3 := e3.toNat_lt
  simp only [he, ob_eq]
  rw [zlb (by omega) (by omega), ob_eq, zt (by omega), ob_eq, zkk (by omega) (by omega), ob_eq, zt (by omega), ob_eq, zlb (by omega) (by omega), ob_eq, zt (by omega), ob_eq]
  refine Ok.bind (P := fun _ => True) (Ok.cond (fun _ => ?_) fun _ => Ok.ret trivial) fun _ _ => Ok.bind (P := fun _ => True) (Ok.cond (fun _ => ?_) fun _ => Ok.ret trivial) fun _ _ => Ok.bind (P := fun _ => True) (Ok.cond (fun _ => ?_) fun _ => Ok.ret trivial) fun _ _ => ?_
  ·rw [zlb (by omega) (by omega), ob_eq]; exact Ok.ret trivial
  ·rw [zlb (by omega) (by omega), ob_eq]; exact Ok.ret trivial
  ·rw [zlb (by omega) (by omega), ob_eq]; exact Ok.ret trivial
  ·rw [z7b (by simp; omega), ob_eq, zt (by omega), ob_eq]
   exact Ok.ret ⟨⟨i + 1, by simp, by omega, by simp [ha]⟩, by simp only; omega⟩
 refine Ok.bind (P := fun l : List Knd => 1 ≤ l.length ∧ l.length ≤ 2) ?_ fun ks hks => ?_
 ·rw [dlt_t hk0, cond_true]
  refine Ok.bind (P := fun l : List Knd => l.length = 1) ?_ fun l hl => ?_
  ·rw [show idx [([97] : List UInt8), [98, 101, 101]] 0 = some [97] from rfl, ob_eq, zpr (by omega), ob_eq]
   refine Ok.bind hl0 fun ps _ => ?_
   rw [z7b (by simp), ob_eq]
   exact Ok.ret rfl
  ·refine Ok.cond (fun c1 => ?_) fun _ => Ok.ret ⟨by omega, by omega⟩
   refine Ok.bind (P := fun l : List Knd => l.length = 2) ?_ fun l2 hl2 => ?_
   ·rw [show idx [([97] : List UInt8), [98, 101, 101]] 1 = some [98, 101, 101] from rfl, ob_eq, zpr (by omega), ob_eq]
    refine Ok.bind hl1 fun ps _ => ?_
    rw [z7b (by simp; omega), ob_eq]
    exact Ok.ret (by simp; omega)
   ·rw [dlt_f (by omega), cond_false]
    exact Ok.ret ⟨by omega, by omega⟩
 ·refine Ok.bind (P := fun _ => True) ?_ fun _ _ => Ok.bind (P := fun _ => True) ?_ fun _ _ => Ok.bind hl3 fun _ _ => Ok.ret ⟨hB, hks.1, hks.2, hr0, hr2⟩
  ·rw [zlb (by omega) (by omega), ob_eq]
   refine Ok.cond (fun _ => ?_) fun _ => Ok.ret trivial
   rw [zkk (by omega) (by omega), ob_eq, zt (by omega), ob_eq, zlb (by omega) (by omega), ob_eq, zt (by omega), ob_eq]
   exact Ok.ret trivial
  ·rw [zlb (by omega) (by omega), ob_eq]
   refine Ok.cond (fun _ => ?_) fun _ => Ok.ret trivial
   rw [zkk (by omega) (by omega), ob_eq, zt (by omega), ob_eq, zlb (by omega) (by omega), ob_eq, zt (by omega), ob_eq]
   exact Ok.ret trivial
structure PsFine (g : Gm) (p : Ps) : Prop where
 la : (p.at_.length : Int) = g.board.cells
 l0 : p.h0.length = g.kinds.length
 l1 : p.h1.length = g.kinds.length
 a : ∀ x ∈ p.at_, 0 ≤ x ∧ x ≤ 2 * (g.kinds.length : Int)
 b : ∀ x ∈ p.h0, 0 ≤ x ∧ x ≤ 8
 c : ∀ x ∈ p.h1, 0 ≤ x ∧ x ≤ 8
 r : 0 ≤ p.rights ∧ p.rights < 2 ^ g.rights.toNat
 s : p.side = 0 ∨ p.side = 1
theorem PsFine.ok {g : Gm} {p : Ps} (hg : GmFine g) (h : PsFine g p) : PsOk p := by
 have h1 := hg.board.c9
 have h2 := hg.k2
 have h3 := h.la
 have h4 := h.l0
 have h5 := h.l1
 have hr := hg.r2
 have hr0 := hg.r0
 refine ⟨by omega, by omega, by omega, fun x hx => ?_, fun x hx => ?_, fun x hx => ?_, ?_, ?_⟩
 ·have := h.a x hx; exact ⟨this.1, by omega⟩
 ·have := h.b x hx; exact ⟨this.1, by omega⟩
 ·have := h.c x hx; exact ⟨this.1, by omega⟩
 ·have := h.r
  have h4 : (2 : Int) ^ g.rights.toNat ≤ 4 := by
   have : g.rights.toNat = 0 ∨ g.rights.toNat = 1 ∨ g.rights.toNat = 2 := by omega
   rcases this with h | h | h <;> rw [h] <;> decide
  exact ⟨h.r.1, by have := h.r.2; omega⟩
 ·rcases h.s with e | e <;> rw [e] <;> exact ⟨by omega, by omega⟩
theorem zvo (g : Gm) (hs : List UInt8) (o : Nat) (hl : hs.length = 4) (ho : o ≤ 2) (hg : GmFine g) {body : (Int × List Int) → Option ((Int × List Int) ⊕ List Int)}
  (hb : ∀ s, body s = (bif (decide (s.1 < (g.kinds.length : Int))) then (bif (decide (s.1 < 2)) then (ob (ob (idx g.kinds s.1) fun x => bif x.keep then (ob (arI .i64 (o + s.1)) fun a => ob (idx hs a) fun b => ob (remI (b.toNat : Int) 3) fun c => ob (idx s.2 s.1) fun _ => ob (arI .i64 (o + s.1)) fun a2 => ob (idx hs a2) fun b2 =>
   bif (decide (250 < (b2.toNat : Int))) then (ob (idx (s.2.set (s.1 : Int).toNat c) s.1) fun _ => some ((s.2.set (s.1 : Int).toNat c).set (s.1 : Int).toNat 8)) else some (s.2.set (s.1 : Int).toNat c)) else some s.2) fun v => ob (arI .i64 (s.1 + 1)) fun z => some (.inl (z, v))) else some (.inr s.2)) else some (.inr s.2))) :
  Ok (loopO body (0, List.replicate g.kinds.length 0)) fun l => l.length = g.kinds.length ∧ ∀ x ∈ l, 0 ≤ x ∧ x ≤ 8 := by
 have hk2 := hg.k2
 refine Ok.loop (fun s : Int × List Int => ∃ i : Nat, s.1 = i ∧ i ≤ 2 ∧ s.2.length = g.kinds.length ∧ ∀ x ∈ s.2, 0 ≤ x ∧ x ≤ 8) (fun s : Int × List Int => 2 - s.1.toNat) ⟨0, rfl, by omega, by simp, fun x hx => by rw [List.eq_of_mem_replicate hx]; omega⟩ ?_
 rintro ⟨_, l⟩ ⟨i, rfl, hi, h1, h2⟩
 rw [hb]
 simp only at h1 h2 ⊢
 refine Ok.cond (fun c1 => Ok.cond (fun c2 => ?_) fun _ => Ok.ret ⟨h1, h2⟩) fun _ => Ok.ret ⟨h1, h2⟩
 simp only [decide_eq_true_eq] at c1 c2
 refine Ok.bind (P := fun v : List Int => v.length = g.kinds.length ∧ ∀ x ∈ v, 0 ≤ x ∧ x ≤ 8) ?_ fun v hv => ?_
 ·rw [zed (by omega) (by omega), ob_eq]
  refine Ok.cond (fun _ => ?_) fun _ => Ok.ret ⟨h1, h2⟩
  rw [zt (by omega), ob_eq]
  obtain ⟨b, hb'⟩ : ∃ b, idx hs ((o : Int) + i) = some b := ⟨_, zed (by omega) (by omega)⟩
  have hbl := b.toNat_lt
  rw [hb', ob_eq, zlb (by omega) (by omega), ob_eq, zed (by omega) (by omega), ob_eq, ob_eq, hb', ob_eq]
  have hset : ∀ (l : List Int) (y : Int), (∀ x ∈ l, 0 ≤ x ∧ x ≤ 8) → 0 ≤ y ∧ y ≤ 8 → ∀ x ∈ l.set i y, 0 ≤ x ∧ x ≤ 8 := fun l y hl hy x hx => by
   rcases List.mem_or_eq_of_mem_set hx with h | rfl
   ·exact hl x h
   ·exact hy
  have s1 := hset l ((b.toNat : Int) % 3) h2 (by omega)
  refine Ok.cond (fun _ => ?_) fun _ => Ok.ret ⟨by simpa using h1, by simpa using s1⟩
  rw [zed (by omega) (by simp; omega), ob_eq]
  exact Ok.ret ⟨by simpa using h1, by simpa using hset _ 8 s1 (by omega)⟩
 ·rw [zt (by omega), ob_eq]
  exact Ok.ret ⟨⟨i + 1, by simp, by omega, hv.1, hv.2⟩, by simp only; omega⟩
theorem ps_ok (g : Gm) (y : PRaw) (hg : GmFine g) : Ok (zvd g y) (PsFine g) := by
 unfold zvd
 have hc1 := hg.board.c1
 have hc9 := hg.board.c9
 have hk1 := hg.k1
 have hk2 := hg.k2
 have hr0 := hg.r0
 have hr2 := hg.r2
 have hyr := y.rights.toNat_lt
 have hys := y.side.toNat_lt
 have hpow : (1 : Int) ≤ 2 ^ g.rights.toNat ∧ (2 : Int) ^ g.rights.toNat ≤ 4 := by
  have : g.rights.toNat = 0 ∨ g.rights.toNat = 1 ∨ g.rights.toNat = 2 := by omega
  rcases this with h | h | h <;> rw [h] <;> decide
 have hshl : shlI .i64 1 g.rights = some (2 ^ g.rights.toNat) := by
  unfold shlI
  have : min g.rights.toNat IntKind.i64.bits = g.rights.toNat := by show min _ 64 = _; omega
  rw [if_neg (by omega), this, Int.one_mul, zbc _ (by omega)]
 rw [zoo (by omega), ob_eq, hshl, ob_eq, zlb (by omega) (by omega), ob_eq, zlb (by omega) (by omega), ob_eq, zt (by omega), ob_eq]
 refine Ok.bind (P := fun l : List Int => (l.length : Int) = g.board.cells ∧ ∀ x ∈ l, 0 ≤ x ∧ x ≤ 2 * (g.kinds.length : Int)) ?_ fun at_ hat => ?_
 ·refine Ok.loop (fun s : Int × List Int => ∃ i : Nat, s.1 = i ∧ i ≤ 6 ∧ (s.2.length : Int) = g.board.cells ∧ ∀ x ∈ s.2, 0 ≤ x ∧ x ≤ 2 * (g.kinds.length : Int)) (fun s : Int × List Int => 6 - s.1.toNat) ⟨0, rfl, by omega, by simp; omega, fun x hx => by rw [List.eq_of_mem_replicate hx]; omega⟩ ?_
  rintro ⟨_, l⟩ ⟨i, rfl, hi, h1, h2⟩
  unfold zle
  simp only at h1 h2 ⊢
  refine Ok.cond (fun c1 => ?_) fun _ => Ok.ret ⟨h1, h2⟩
  simp only [decide_eq_true_eq] at c1
  refine Ok.bind (P := fun v : List Int => (v.length : Int) = g.board.cells ∧ ∀ x ∈ v, 0 ≤ x ∧ x ≤ 2 * (g.kinds.length : Int)) ?_ fun v hv => ?_
  ·obtain ⟨a, ha⟩ : ∃ a, idx [y.c0, y.c1, y.c2, y.c3, y.c4, y.c5] (i : Int) = some a := ⟨_, zed (by omega) (by simp only [List.length_cons, List.length_nil]; omega)⟩
   have hal := a.toNat_lt
   rw [ha, ob_eq, zt (by omega), ob_eq, zlb (by omega) (by omega), ob_eq]
   refine Ok.cond (fun c2 => ?_) fun _ => Ok.ret ⟨h1, h2⟩
   simp only [decide_eq_true_eq] at c2
   rw [dlt_t (by omega), cond_true]
   obtain ⟨k, hk⟩ : ∃ k, idx [y.k0, y.k1, y.k2, y.k3, y.k4, y.k5] (i : Int) = some k := ⟨_, zed (by omega) (by simp only [List.length_cons, List.length_nil]; omega)⟩
   have hkl := k.toNat_lt
   rw [hk, ob_eq, zlb (by omega) (by omega), ob_eq]
   obtain ⟨q, hq, hq0, hq1⟩ : ∃ q : Int, (k.toNat : Int) % (g.kinds.length : Int) = q ∧ 0 ≤ q ∧ q < (g.kinds.length : Int) := ⟨_, rfl, Int.emod_nonneg _ (by omega), Int.emod_lt_of_pos _ (by omega)⟩
   rw [hq]
   have hcm := Int.emod_nonneg (a.toNat : Int) (show g.board.cells + 1 ≠ 0 by omega)
   rw [zt (by omega), ob_eq, zt (by omega), ob_eq, zlb (by omega) (by omega), ob_eq, zt (by omega), ob_eq, zed (by omega) (by omega), ob_eq]
   refine Ok.ret ⟨by simpa using h1, fun x hx => ?_⟩
   rcases List.mem_or_eq_of_mem_set hx with h | rfl
   ·exact h2 x h
   ·omega
  ·rw [zt (by omega), ob_eq]
   exact Ok.ret ⟨⟨i + 1, by simp, by omega, hv.1, hv.2⟩, by simp only; omega⟩
 ·refine Ok.bind (P := fun v : List Int × List Int => (v.1.length = g.kinds.length ∧ ∀ x ∈ v.1, 0 ≤ x ∧ x ≤ 8) ∧ (v.2.length = g.kinds.length ∧ ∀ x ∈ v.2, 0 ≤ x ∧ x ≤ 8)) ?_ fun v hv => ?_
  ·rw [zoo (by omega), Int.toNat_natCast]
   refine Ok.bind (P := fun v : List Int => v.length = g.kinds.length ∧ ∀ x ∈ v, 0 ≤ x ∧ x ≤ 8) ?_ fun v1 hv1 => Ok.bind (P := fun v : List Int => v.length = g.kinds.length ∧ ∀ x ∈ v, 0 ≤ x ∧ x ≤ 8) ?_ fun v2 hv2 => Ok.ret ⟨hv1, hv2⟩
   ·rw [ob_eq]; exact zvo g [y.h0, y.h1, y.h2, y.h3] 0 rfl (by omega) hg fun s => rfl
   ·rw [ob_eq]; exact zvo g [y.h0, y.h1, y.h2, y.h3] 2 rfl (by omega) hg fun s => rfl
  ·refine Ok.ret ⟨hat.1, hv.1.1, hv.2.1, hat.2, hv.1.2, hv.2.2, ⟨Int.emod_nonneg _ (by omega), Int.emod_lt_of_pos _ (by omega)⟩, ?_⟩
   simp only; omega
end
section
open Go.RowKit
set_option maxRecDepth 100000
open Classical
structure PsS (p : Ps) : Prop where
 a : p.at_.length ≤ 200000
 b : p.h0.length ≤ 200000
 c : p.h1.length ≤ 200000
theorem PsS.B {p : Ps} (h : PsS p) : PsB p := ⟨by have := h.a; omega, by have := h.b; omega, by have := h.c; omega⟩
theorem PsOk.S {p : Ps} (h : PsOk p) : PsS p := ⟨by have := h.la; omega, by have := h.l0; omega, by have := h.l1; omega⟩
theorem zrp {p : Ps} (h : PsS p) (r : Rs) : (leafB p r).length ≤ 700000 := by
 rw [zso]
 have := h.a
 have := h.b
 have := h.c
 simp [nums]; omega
def z1e (l : List Ps) (v : List Rs) : List (List UInt8) := (l.zip v).map fun e => leafB e.1 e.2
theorem zim (l : List Ps) (v : List Rs) : (z1e l v).length = min l.length v.length := by simp [z1e]
theorem z3v {l : List Ps} {v : List Rs} {i : Nat} {e : Ps × Rs} (h : (l.zip v)[i]? = some e) : l[i]? = some e.1 ∧ v[i]? = some e.2 := by
 rw [List.getElem?_zip_eq_some] at h; exact h
theorem z2o (l : List Ps) (v : List Rs) (hl : l.length ≤ 1000000) (hs : ∀ p ∈ l, PsS p) : zne l v = some (z1e l v) := by
 unfold zne
 have := zzo (body := zxd l v) (l.zip v) (fun e => leafB e.1 e.2) (fun i e acc he hacc => by
  obtain ⟨h1, h2⟩ := z3v he
  have hi := (List.getElem?_eq_some_iff.1 he).1
  rw [List.length_zip] at hi
  have hS := hs e.1 (List.mem_of_getElem? h1)
  unfold zxd
  simp only
  rw [dlt_t (by omega), cond_true, z9f, z9f, h1, h2, ob_eq, ob_eq, zdk _ _ hS.B, ob_eq, z7b (by simp; omega), ob_eq, zt (by omega), ob_eq]; rfl) (fun acc => by
  unfold zxd
  simp only [List.length_zip]
  rw [dlt_f (by omega), cond_false])
 rw [this, ob_eq]; rfl
theorem z9k {l : List Ps} {v : List Rs} (hl : l.length ≤ 1000000) (hs : ∀ p ∈ l, PsS p) : Fit (z1e l v) := by
 refine ⟨by rw [zim]; omega, fun x hx => ?_⟩
 simp only [z1e, List.mem_map] at hx
 obtain ⟨e, he, rfl⟩ := hx
 have := zrp (hs e.1 (List.of_mem_zip he).1) e.2
 omega
theorem zzv (l : List Ps) (v : List Rs) (hl : l.length ≤ 1000000) (hs : ∀ p ∈ l, PsS p) : zbf l v = some (Sha.root (z1e l v)) := by
 unfold zbf
 rw [z2o l v hl hs, ob_eq, show zzh (z1e l v) = some (Sha.root (z1e l v)) from if_pos (z9k hl hs), ob_eq, zam (Sha.root_len _), ob_eq]
def ans0 : Ans := ⟨0, 0, 0, ⟨[], [], [], 0, 0⟩, ⟨0, 0⟩, []⟩
noncomputable def zak (l : List Ps) (v : List Rs) (ver i : Int) : Ans × Int :=
 if h : l.length = v.length ∧ 0 ≤ i ∧ i < (l.length : Int) then (⟨ver, i, l.length, l[i.toNat]'(by omega), v[i.toNat]'(by omega), Sha.proof (z1e l v) i.toNat⟩, 0) else (ans0, 1)
theorem zol (l : List Ps) (v : List Rs) (ver i : Int) (hl : l.length ≤ 1000000) (hs : ∀ p ∈ l, PsS p) : zpc l v ver i = some (zak l v ver i) := by
 refine Ok.get ?_
 unfold zpc zak
 refine Ok.cond (fun c => Ok.ret ?_) fun c => ?_
 ·rw [dif_neg (fun h => by rw [h.1] at c; simp at c)]; rfl
 ·have hlv : l.length = v.length := by simp at c; omega
  have hlen := zim l v
  rw [z2o l v hl hs, ob_eq]
  by_cases hi : i < 0 ∨ (l.length : Int) ≤ i
  ·rw [show z7e (z1e l v) i = some ([], 1) by unfold z7e; rw [if_pos (z9k hl hs), if_pos (by omega)], ob_eq, dif_neg (by omega)]
   exact Ok.ret rfl
  ·rw [show z7e (z1e l v) i = some (Sha.proof (z1e l v) i.toNat, 0) by unfold z7e; rw [if_pos (z9k hl hs), if_neg (by omega)], ob_eq, dif_pos (by omega)]
   simp only
   rw [bne_f rfl, cond_false, zed (by omega) (by omega), ob_eq, zed (by omega) (by omega), ob_eq]
   exact Ok.ret rfl
theorem zqo {α : Type} {body : Int → Option (Int ⊕ (Unit ⊕ Int))} (l : List α) (g : α → Bool) (f : α → Option Bool) (hf : ∀ x ∈ l, f x = some (g x)) (hl : l.length ≤ 9223372036854775807)
  (hb : ∀ s, body s = (bif (decide (s < (l.length : Int))) then (ob (idx l s) fun x => ob (f x) fun y => bif y then some (.inr (.inr s)) else ob (arI .i64 (s + 1)) fun z => some (.inl z)) else some (.inr (.inl ())))) :
  Ok (ob (loopO body 0) fun o => match o with | .inl _ => some (-1) | .inr e => some e) fun r => decide (0 ≤ r) = l.any g := by
 refine Ok.bind (P := fun o => match o with | .inl () => ∀ x ∈ l, g x = false | .inr r => 0 ≤ r ∧ l.any g = true) ?_ ?_
 ·refine Ok.loop (fun s : Int => ∃ i : Nat, s = i ∧ i ≤ l.length ∧ ∀ j x, j < i → l[j]? = some x → g x = false) (fun s : Int => l.length - s.toNat) ⟨0, rfl, by omega, fun j x h => by omega⟩ ?_
  rintro _ ⟨i, rfl, hi, hall⟩
  rw [hb]
  refine Ok.cond (fun c1 => ?_) fun c1 => Ok.ret ?_
  ·simp only [decide_eq_true_eq] at c1
   have e : l[i]? = some (l[i]'(by omega)) := List.getElem?_eq_getElem _
   generalize l[i]'(by omega) = x at e
   have hx := List.mem_of_getElem? e
   rw [z9f, e, ob_eq, hf x hx, ob_eq]
   refine Ok.cond (fun c2 => Ok.ret ⟨by omega, List.any_eq_true.2 ⟨x, hx, c2⟩⟩) fun c2 => ?_
   rw [zt (by omega), ob_eq]
   refine Ok.ret ⟨⟨i + 1, by omega, by omega, fun j y hj hy => ?_⟩, by omega⟩
   rcases Nat.lt_or_ge j i with h | h
   ·exact hall j y h hy
   ·obtain rfl : j = i := by omega
    rw [e] at hy; cases hy; exact c2
  ·simp only [decide_eq_false_iff_not] at c1
   intro x hx
   obtain ⟨j, hj⟩ := List.getElem?_of_mem hx
   exact hall j x (by have := (List.getElem?_eq_some_iff.1 hj).1; omega) hj
 ·rintro (⟨⟩ | r) h
  ·refine Ok.ret ?_
   have : l.any g = false := by rw [List.any_eq_false]; intro x hx; rw [h x hx]; simp
   rw [this]; rfl
  ·refine Ok.ret ?_
   rw [h.2]; exact decide_eq_true h.1
theorem z9p (l : List Int) (F : FnV Tryd.prog HG (α := Int) (β := Bool) (fun x => [.v (.int .i64 x)]) (fun y => .v (.bool y))) (g : Int → Bool) (hf : ∀ x ∈ l, F.f x = some (g x)) (hl : l.length ≤ 9223372036854775807) : zec l F = some (l.any g) := by
 unfold zec z6c
 obtain ⟨r, h1, h2⟩ := zqo l g F.f hf hl (body := zyb l F) (fun s => rfl)
 exact Ok.get (Ok.eq h1 (Ok.ret h2))
abbrev FnB := FnV Tryd.prog HG (α := Unit) (β := Bool) (fun _ => []) (fun y => .v (.bool y))
theorem zkr (l : List FnB) (F : FnV Tryd.prog HG (α := FnB) (β := Bool) (fun x => [.fn x.g x.c]) (fun y => .v (.bool y))) (g : FnB → Bool) (hf : ∀ x ∈ l, F.f x = some (g x)) (hl : l.length ≤ 9223372036854775807) : zjb l F = some (l.any g) := by
 unfold zjb z5b
 obtain ⟨r, h1, h2⟩ := zqo l g F.f hf hl (body := zdb l F) (fun s => rfl)
 exact Ok.get (Ok.eq h1 (Ok.ret h2))
theorem in_eq (a b c : Int) : z5f a b c = some (decide (b ≤ a) && decide (a ≤ c)) := by
 refine Ok.get ?_
 unfold z5f
 exact Ok.cond (fun h => Ok.ret (by rw [h]; simp)) fun h => Ok.ret (by rw [h]; simp)
def u8B (n : Int) : Bool := decide (0 ≤ n) && decide (n ≤ 255)
theorem znl (l : List Int) (f : FnV Tryd.prog HG (α := Int) (β := Bool) (fun x => [.v (.int .i64 x)]) (fun y => .v (.bool y))) (hf : ∀ x, f.f x = some (u8B x)) : zkd l f = some (decide (l.length ≤ 255) && l.all u8B) := by
 refine Ok.get ?_
 unfold zkd
 refine Ok.cond (fun c => ?_) fun c => Ok.ret ?_
 ·simp only [decide_eq_true_eq] at c
  refine Ok.eq (z9p l _ (fun x => !u8B x) (fun x _ => by show zie x f = _; unfold zie; rw [hf, ob_eq]) (by omega)) (Ok.ret ?_)
  have : decide (l.length ≤ 255) = true := decide_eq_true (by omega)
  rw [this]
  simp [List.all_eq_not_any_not]
 ·simp only [decide_eq_false_iff_not] at c
  have : decide (l.length ≤ 255) = false := decide_eq_false (by omega)
  rw [this]; simp
def plnB (p : Ps) (r : Rs) : Bool := (decide (p.at_.length ≤ 255) && p.at_.all u8B) && ((decide (p.h0.length ≤ 255) && p.h0.all u8B) && ((decide (p.h1.length ≤ 255) && p.h1.all u8B) && (u8B p.rights && (u8B p.side && ((decide (1 ≤ r.out) && decide (r.out ≤ 3)) && (decide (0 ≤ r.n) && decide (r.n ≤ 2147483647)))))))
theorem z2j {a b : Bool} {x : Option Bool} (h : a = true → Ok x (· = b)) : Ok (bif a then x else some false) (· = (a && b)) := by
 cases a with
 | false => exact Ok.ret rfl
 | true => simpa using h rfl
theorem z9u (p : Ps) (r : Rs) : zwf p r = some (plnB p r) := by
 refine Ok.get ?_
 unfold zwf plnB
 have hin : ∀ a b, ∃ F : FnV Tryd.prog HG (α := Int) (β := Bool) (fun x => [.v (.int .i64 x)]) (fun y => .v (.bool y)), zcg a b = some F ∧ ∀ x, F.f x = some (decide (a ≤ x) && decide (x ≤ b)) := fun a b => ⟨_, rfl, fun x => in_eq x a b⟩
 obtain ⟨F, h1, h2⟩ := hin 0 255
 obtain ⟨F2, h3, h4⟩ := hin 1 3
 obtain ⟨F3, h5, h6⟩ := hin 0 2147483647
 rw [h1, ob_eq, znl _ F h2, ob_eq]
 refine z2j fun _ => ?_
 rw [znl _ F h2, ob_eq]
 refine z2j fun _ => ?_
 rw [znl _ F h2, ob_eq]
 refine z2j fun _ => ?_
 rw [h2, ob_eq]
 refine z2j fun _ => ?_
 rw [h2, ob_eq]
 refine z2j fun _ => ?_
 rw [h3, ob_eq, h4, ob_eq]
 refine z2j fun _ => ?_
 rw [h5, ob_eq, h6, ob_eq]
 exact Ok.ret rfl
end
section
open Go.RowKit
set_option maxRecDepth 100000
structure CkOk (root : List UInt8) (a : Ans) : Prop where
 root : root.length = 32
 pos : PsS a.pos
 proof : ∀ s ∈ a.proof, s.length = 32
 len : a.proof.length ≤ 900000
 c1 : -9223372036854775808 ≤ a.count
 c2 : a.count ≤ 4294967296
 i : -9223372036854775808 ≤ a.index ∧ a.index ≤ 9223372036854775807
def z0h (root : List UInt8) (ver : Int) (a : Ans) : Bool := (a.version == ver) && (plnB a.pos a.entry && Sha.check root a.count a.index (leafB a.pos a.entry) a.proof)
theorem zpq {root : List UInt8} {a : Ans} (h : CkOk root a) : z9g root a.count a.index (leafB a.pos a.entry) a.proof = some (Sha.check root a.count a.index (leafB a.pos a.entry) a.proof) :=
 if_pos ⟨h.root, by have := zrp h.pos a.entry; omega, h.proof, by have := h.len; omega, h.c2, h.c1, h.i⟩
theorem ztm {root : List UInt8} {a : Ans} (ver : Int) (h : CkOk root a) : z9d root ver a = some (z0h root ver a) := by
 refine Ok.get ?_
 unfold z9d
 have e3 : z6d root a = some (Sha.check root a.count a.index (leafB a.pos a.entry) a.proof) := by
  unfold z6d
  rw [zdk _ _ h.pos.B, ob_eq, zpq h, ob_eq]
 have e2 : z7d a = some (plnB a.pos a.entry) := by
  unfold z7d
  rw [z9u, ob_eq]
 have e1 : z8e a ver = some (a.version == ver) := rfl
 refine Ok.eq (zkr _ _ (fun F : FnB => !(F.f ()).getD false) (fun F hF => ?_) (by simp)) ?_
 ·show z4e F = _
  unfold z4e
  have : ∃ b, F.f () = some b := by
   simp only [List.mem_cons, List.not_mem_nil, or_false] at hF
   rcases hF with rfl | rfl | rfl
   ·exact ⟨_, e1⟩
   ·exact ⟨_, e2⟩
   ·exact ⟨_, e3⟩
  obtain ⟨b, hb⟩ := this
  rw [hb, ob_eq]; rfl
 ·refine Ok.ret ?_
  simp only [List.any_cons, List.any_nil, e1, e2, e3, Option.getD_some, z0h]
  cases (a.version == ver) <;> cases plnB a.pos a.entry <;> cases Sha.check root a.count a.index (leafB a.pos a.entry) a.proof <;> rfl
end
section
open Go.RowKit
set_option maxRecDepth 100000
def P0 : Ps := ⟨[1, 0], [2], [0], 1, 0⟩
def R0 : Rs := ⟨1, 258⟩
theorem leaf0 : leafB P0 R0 = [2, 1, 1, 1, 0, 2, 0, 1, 0, 1, 0, 0, 1, 2] := by decide
theorem hash0 : Sha.leaf [2, 1, 1, 1, 0, 2, 0, 1, 0, 1, 0, 0, 1, 2] ≠ List.replicate 32 0 := by decide +kernel
theorem zer : zzd = some true := by
 have hS : PsS P0 := ⟨by decide, by decide, by decide⟩
 have hs : ∀ p ∈ [P0], PsS p := by simpa using hS
 have hl : z1e [P0] [R0] = [leafB P0 R0] := rfl
 have hpr : Sha.proof [leafB P0 R0] 0 = [] := by unfold Sha.proof; rw [Sha.path_one 0 (by simp)]; rfl
 have a1 : zpc [P0] [R0] 7 0 = some (⟨7, 0, 1, P0, R0, []⟩, 0) := by
  rw [zol _ _ _ _ (by simp) hs]
  unfold zak
  rw [dif_pos ⟨rfl, by decide, by decide⟩]
  show some ((⟨7, 0, 1, P0, R0, Sha.proof [leafB P0 R0] 0⟩ : Ans), (0 : Int)) = _
  rw [hpr]
 have a2 : zpc [P0] [] 7 0 = some (ans0, 1) := by
  rw [zol _ _ _ _ (by simp) hs]
  unfold zak
  rw [dif_neg (by simp)]
 have a3 : zpc [P0] [R0] 7 1 = some (ans0, 1) := by
  rw [zol _ _ _ _ (by simp) hs]
  unfold zak
  rw [dif_neg (by simp)]
 have a4 : zbf [P0] [R0] = some (Sha.leaf (leafB P0 R0)) := by
  rw [zzv _ _ (by simp) hs, hl, Sha.root_one]
 have hck : ∀ root : List UInt8, root.length = 32 → CkOk root ⟨7, 0, 1, P0, R0, []⟩ := fun root h => ⟨h, hS, by simp, by simp, by decide, by decide, by decide⟩
 have hpl : plnB P0 R0 = true := by decide
 have hcl : ∀ root : List UInt8, Sha.check root 1 0 (leafB P0 R0) [] = decide (Sha.leaf (leafB P0 R0) = root) := fun root => by
  unfold Sha.check Sha.climb; simp
 simp only [leaf0] at hcl
 refine Ok.get ?_
 unfold zzd
 refine Ok.eq (zdk P0 R0 hS.B) ?_
 refine Ok.eq a1 (Ok.eq a2 (Ok.eq a3 (Ok.eq a4 (Ok.eq (zam (Sha.leaf_len _)) ?_))))
 simp only [ans0, leaf0, beq_self_eq_true, cond_true, List.length_nil, Int.natCast_zero, Int.cast_ofNat_Int]
 refine Ok.eq (zus P0 R0 hS.B) ?_
 rw [leaf0]
 refine Ok.eq (show zff _ = some (Sha.leaf _) from if_pos (by decide)) ?_
 refine Ok.eq (zam (Sha.leaf_len _)) (Ok.eq (zam (Sha.leaf_len _)) ?_)
 rw [beq_self_eq_true, cond_true]
 refine Ok.eq (ztm 7 (hck _ (Sha.leaf_len _))) ?_
 have e1 : z0h (Sha.leaf [2, 1, 1, 1, 0, 2, 0, 1, 0, 1, 0, 0, 1, 2]) 7 ⟨7, 0, 1, P0, R0, []⟩ = true := by
  unfold z0h; simp only [hpl, leaf0, hcl]; simp
 have e2 : z0h (Sha.leaf [2, 1, 1, 1, 0, 2, 0, 1, 0, 1, 0, 0, 1, 2]) 8 ⟨7, 0, 1, P0, R0, []⟩ = false := by
  unfold z0h; simp
 have e3 : z0h (List.replicate 32 0) 7 ⟨7, 0, 1, P0, R0, []⟩ = false := by
  unfold z0h; simp only [hpl, leaf0, hcl]
  rw [decide_eq_false hash0]; rfl
 rw [e1, cond_true]
 refine Ok.eq (ztm 8 (hck _ (Sha.leaf_len _))) ?_
 rw [e2]
 refine Ok.eq (ztm 7 (hck _ (by simp))) (Ok.ret ?_)
 rw [e3]; rfl
theorem zws (x : GRaw × GRaw) (y : PRaw × PRaw) (n : Int × Int × Int × Int) (h0 : 0 ≤ n.1 ∧ n.1 ≤ 4294967295) (h1 : 0 ≤ n.2.1 ∧ n.2.1 ≤ 4294967295) (h2 : 0 ≤ n.2.2.1 ∧ n.2.2.1 ≤ 4294967295) (h3 : 0 ≤ n.2.2.2 ∧ n.2.2.2 ≤ 4294967295) :
  zhd x y n = some true := by
 refine Ok.get ?_
 unfold zhd
 refine Ok.eq zer ?_
 refine Ok.bind (gm_ok x.1) fun g hg => Ok.bind (ps_ok g y.1 hg) fun p hp => Ok.bind (gm_ok x.2) fun g2 hg2 => Ok.bind (ps_ok g2 y.2 hg2) fun q hq => ?_
 have hp' := hp.ok hg
 have hq' := hq.ok hg2
 obtain ⟨n0, n1, n2, n3⟩ := n
 simp only at h0 h1 h2 h3 ⊢
 rw [zlb (by omega) (by omega), ob_eq, zt (by omega), ob_eq, zt (by omega), ob_eq, zpp (by omega), ob_eq, show ((1 : Int).toNat) = 1 from rfl, zt (by omega), ob_eq,
  zlb (by omega) (by omega), ob_eq, zt (by omega), ob_eq, zt (by omega), ob_eq, zpp (by omega), ob_eq, show ((1 : Int).toNat) = 1 from rfl, zt (by omega), ob_eq]
 obtain ⟨r, hr⟩ : ∃ r : Rs, r = ⟨1 + n0 % 3, n1 / 2 ^ 1⟩ := ⟨_, rfl⟩
 obtain ⟨s, hs⟩ : ∃ s : Rs, s = ⟨1 + n2 % 3, n3 / 2 ^ 1⟩ := ⟨_, rfl⟩
 have hrok : RsOk r := by subst hr; unfold RsOk; simp only; omega
 have hsok : RsOk s := by subst hs; unfold RsOk; simp only; omega
 have hrs : ((1 + n0 % 3 == 1 + n2 % 3) && ((n1 / 2 ^ 1 == n3 / 2 ^ 1) && true)) = decide (r = s) := by
  subst hr hs
  rw [Bool.eq_iff_iff]; simp [Rs.mk.injEq]
 rw [hrs, ← hr, ← hs]
 rw [zdk p r hp'.S.B, ob_eq, zdk q s hq'.S.B, ob_eq, cond_true, zpw p q hp'.S.B.fit, ob_eq, zjn p hp'.S.B.a hp'.S.B.b hp'.S.B.c]
 have hnl : (nums p).length ≤ 1000 := by simp [nums]; have := hp'.la; have := hp'.l0; have := hp'.l1; omega
 have hiff := z5t hp' hq' hrok hsok
 have hlen := zso p r
 refine Ok.cond (fun c => ?_) fun c => ?_
 ·have hpq : p = q := by simpa using c
  have : ((leafB p r == leafB q s) == decide (r = s)) = true := by
   rw [beq_iff_eq, Bool.eq_iff_iff, beq_iff_eq, hiff]; simp [hpq]
  rw [this, cond_true, ob_eq, zt (by omega), ob_eq]
  exact Ok.ret (beq_t (by omega))
 ·have hpq : p ≠ q := by simpa using c
  have : ((leafB p r == leafB q s) == false) = true := by
   rw [beq_iff_eq, Bool.eq_iff_iff, beq_iff_eq, hiff]; simp [hpq]
  rw [this, cond_true, ob_eq, zt (by omega), ob_eq]
  exact Ok.ret (beq_t (by omega))
end
end Go.Proofs.YtbaccmkhjmmlnaaDoor
