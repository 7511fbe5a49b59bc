/-
  Lemmas, part 1 of 8: walks through the program's functions, and plain Lean about what they compute.
-/
import Derived.WalkKit
import Derived.WalkSpells
import Derived.WalkLawsBesides
import Derived.Deep.Draws
import Derived.Test.YtaclinnjekdgoaaDoorRows
import Derived.BigQuiet
import Derived.Deep.QuietTactic
import Derived.Deep.RegionHeld3
import Derived.Deep.DeepCutAuto
import Derived.Deep.LoopGhost
import Derived.StillTailTactics
import Derived.Lib.Hide
import Derived.Handy
import Derived.Orders
import Derived.Laws.CopyOwn
import Derived.RangeFuncNested
import Derived.RangeFuncBound
import Derived.RangeFuncCalls
import Derived.RangeFuncLeaves
import Derived.RangeFuncFrom
import Derived.Shelf.Abstract
import Derived.Shelf.RegionOpen
import Derived.OwnWalkIn
import Derived.TacticsInMore
import Derived.LoopNIn
import Derived.LoopIn
set_option linter.unnecessarySimpa false
set_option linter.unusedSimpArgs false
set_option linter.unusedVariables false
set_option maxRecDepth 100000
namespace Go.Proofs.YtaclinnjekdgoaaDoor
open Go.RowKit
section
namespace Sha
def rotr (x : UInt32) (n : Nat) : UInt32 := UInt32.ofNat ((x.toNat / 2 ^ n) ||| (x.toNat * 2 ^ (32 - n) % 4294967296))
def rot3 (x : UInt32) (a b c : Nat) : UInt32 := rotr x a ^^^ rotr x b ^^^ rotr x c
def shr (x : UInt32) (n : Nat) : UInt32 := UInt32.ofNat (x.toNat / 2 ^ n)
def low (y : UInt32) : UInt32 := rotr y 7 ^^^ rotr y 18 ^^^ shr y 3
def high (z : UInt32) : UInt32 := rotr z 17 ^^^ rotr z 19 ^^^ shr z 10
def begin8 : List UInt32 := [0x6a09e667, 0xbb67ae85, 0x3c6ef372, 0xa54ff53a, 0x510e527f, 0x9b05688c, 0x1f83d9ab, 0x5be0cd19]
def keys64 : List UInt32 := [
 0x428a2f98, 0x71374491, 0xb5c0fbcf, 0xe9b5dba5, 0x3956c25b, 0x59f111f1, 0x923f82a4, 0xab1c5ed5,
 0xd807aa98, 0x12835b01, 0x243185be, 0x550c7dc3, 0x72be5d74, 0x80deb1fe, 0x9bdc06a7, 0xc19bf174,
 0xe49b69c1, 0xefbe4786, 0x0fc19dc6, 0x240ca1cc, 0x2de92c6f, 0x4a7484aa, 0x5cb0a9dc, 0x76f988da,
 0x983e5152, 0xa831c66d, 0xb00327c8, 0xbf597fc7, 0xc6e00bf3, 0xd5a79147, 0x06ca6351, 0x14292967,
 0x27b70a85, 0x2e1b2138, 0x4d2c6dfc, 0x53380d13, 0x650a7354, 0x766a0abb, 0x81c2c92e, 0x92722c85,
 0xa2bfe8a1, 0xa81a664b, 0xc24b8b70, 0xc76c51a3, 0xd192e819, 0xd6990624, 0xf40e3585, 0x106aa070,
 0x19a4c116, 0x1e376c08, 0x2748774c, 0x34b0bcb5, 0x391c0cb3, 0x4ed8aa4a, 0x5b9cca4f, 0x682e6ff3,
 0x748f82ee, 0x78a5636f, 0x84c87814, 0x8cc70208, 0x90befffa, 0xa4506ceb, 0xbef9a3f7, 0xc67178f2]
def Lt (b : List UInt8) (t : Nat) : UInt32 :=
 UInt32.ofNat ((((b.getD (4 * t) 0).toNat * 256 + (b.getD (4 * t + 1) 0).toNat) * 256 + (b.getD (4 * t + 2) 0).toNat) * 256 + (b.getD (4 * t + 3) 0).toNat)
def kx (b : List UInt8) : List UInt32 := (List.range 16).map (Lt b)
def next (w : List UInt32) (t : Nat) : UInt32 := w.getD (t - 16) 0 + w.getD (t - 7) 0 + low (w.getD (t - 15) 0) + high (w.getD (t - 2) 0)
def qA (w : List UInt32) : Nat -> List UInt32
 | 0 => w
 | n + 1 => let v := qA w n; v ++ [next v (16 + n)]
def spread (b : List UInt8) : List UInt32 := qA (kx b) 48
structure S8 where
 (a b c d e f g h : UInt32)
def S8.list (s : S8) : List UInt32 := [s.a, s.b, s.c, s.d, s.e, s.f, s.g, s.h]
def tx (s : S8) (k w : UInt32) : UInt32 := s.h + rot3 s.e 6 11 25 + (s.e &&& s.f ^^^ ~~~s.e &&& s.g) + k + w
def ty (s : S8) : UInt32 := rot3 s.a 2 13 22 + (s.a &&& s.b ^^^ s.a &&& s.c ^^^ s.b &&& s.c)
def round (s : S8) (k w : UInt32) : S8 := ⟨tx s k w + ty s, s.a, s.b, s.c, s.d + tx s k w, s.e, s.f, s.g⟩
def rounds (w : List UInt32) (s : S8) : Nat -> S8
 | 0 => s
 | n + 1 => let c := rounds w s n; round c (keys64.getD n 0) (w.getD n 0)
def plus (s c : S8) : S8 := ⟨c.a + s.a, c.b + s.b, c.c + s.c, c.d + s.d, c.e + s.e, c.f + s.f, c.g + s.g, c.h + s.h⟩
def after (s : S8) (b : List UInt8) : S8 := plus s (rounds (spread b) s 64)
def first : S8 := ⟨0x6a09e667, 0xbb67ae85, 0x3c6ef372, 0xa54ff53a, 0x510e527f, 0x9b05688c, 0x1f83d9ab, 0x5be0cd19⟩
def zeros (n : Nat) : Nat := (119 - n % 64) % 64
def lenBytes (n : Nat) : List UInt8 := (List.range 8).map fun i => UInt8.ofNat (8 * n / 2 ^ (56 - 8 * i))
def padded (b : List UInt8) : List UInt8 := b ++ [128] ++ List.replicate (zeros b.length) 0 ++ lenBytes b.length
def over (all : List UInt8) : Nat -> S8
 | 0 => first
 | n + 1 => after (over all n) ((all.drop (64 * n)).take 64)
def out (s : S8) : List UInt8 := (List.range 32).map fun i => UInt8.ofNat ((s.list.getD (i / 4) 0).toNat / 2 ^ (24 - 8 * (i % 4)))
def sum (b : List UInt8) : List UInt8 := out (over (padded b) ((padded b).length / 64))
def part (b : List UInt8) (j : Nat) : Nat -> Nat
 | 0 => 0
 | n + 1 => part b j n * 256 + (b.getD (4 * j + n) 0).toNat
def fill (b : List UInt8) (k : Nat) : List UInt32 := (List.range 64).map fun j => UInt32.ofNat (part b j (min 4 (k - 4 * j)))
theorem part_lt (b : List UInt8) (j n : Nat) : part b j n < 256 ^ n := by
 induction n with
 | zero => simp [part]
 | succ n ih => have := (b.getD (4 * j + n) 0).toNat_lt; simp only [part, Nat.pow_succ]; omega
theorem fill_length (b : List UInt8) (k : Nat) : (fill b k).length = 64 := by simp [fill]
theorem fill_zero (b : List UInt8) : fill b 0 = List.replicate 64 0 := by
 apply List.ext_getElem (by simp [fill]); intro i h1 h2; rw [List.getElem_replicate]; simp only [fill, List.getElem_map, List.getElem_range]; rw [show min 4 (0 - 4 * i) = 0 by omega]; rfl
theorem fill_get (b : List UInt8) (k j : Nat) (hj : j < 64) : (fill b k).getD j 0 = UInt32.ofNat (part b j (min 4 (k - 4 * j))) := by
 simp [fill, hj]
theorem fill_succ (b : List UInt8) (k : Nat) (hk : k < 64) : fill b (k + 1) = (fill b k).set (k / 4) (UInt32.ofNat (part b (k / 4) (k % 4) * 256 + (b.getD k 0).toNat)) := by
 apply List.ext_getElem (by simp [fill]); intro i h1 h2; simp only [fill, List.length_map, List.length_range] at h1; rw [List.getElem_set]; simp only [fill, List.getElem_map, List.getElem_range]; split
 ·rename_i h; subst h; rw [show min 4 (k + 1 - 4 * (k / 4)) = k % 4 + 1 by omega]; simp only [part]; rw [show 4 * (k / 4) + k % 4 = k by omega]
 ·rename_i h; rw [show min 4 (k + 1 - 4 * i) = min 4 (k - 4 * i) by omega]
theorem EQ (b : List UInt8) : fill b 64 = kx b ++ List.replicate 48 0 := by
 apply List.ext_getElem (by simp [fill, kx]); intro i h1 h2; simp only [fill, List.length_map, List.length_range] at h1; simp only [fill, List.getElem_map, List.getElem_range, List.getElem_append]; split
 ·rename_i h; simp only [kx, List.length_map, List.length_range] at h; rw [show min 4 (64 - 4 * i) = 4 by omega]; simp [kx, Lt, part]
 ·rename_i h; simp only [kx, List.length_map, List.length_range] at h; rw [show min 4 (64 - 4 * i) = 0 by omega, List.getElem_replicate]; rfl
theorem nS (b : List UInt8) : (kx b).length = 16 := by simp [kx]
theorem ph (w : List UInt32) (n : Nat) : (qA w n).length = w.length + n := by
 induction n with
 | zero => rfl
 | succ n ih => simp [qA, ih]; omega
def grown (b : List UInt8) (t : Nat) : List UInt32 := qA (kx b) (t - 16) ++ List.replicate (64 - t) 0
theorem grown_length (b : List UInt8) (t : Nat) (h : 16 <= t) (h2 : t <= 64) : (grown b t).length = 64 := by
 simp [grown, ph, nS]; omega
theorem grown_first (b : List UInt8) : fill b 64 = grown b 16 := EQ b
theorem grown_last (b : List UInt8) : grown b 64 = spread b := by simp [grown, spread]
theorem ou (b : List UInt8) (t i : Nat) (ht : 16 <= t) (hi : i < t) : (grown b t).getD i 0 = (qA (kx b) (t - 16)).getD i 0 := by
 have : i < (qA (kx b) (t - 16)).length := by simp [ph, nS]; omega
 simp only [grown, List.getD_eq_getElem?_getD]; rw [List.getElem?_append_left this]
theorem grown_succ (b : List UInt8) (t : Nat) (ht : 16 <= t) (ht2 : t < 64) :
  grown b (t + 1) = (grown b t).set t ((grown b t).getD (t - 16) 0 + (grown b t).getD (t - 7) 0 + low ((grown b t).getD (t - 15) 0) + high ((grown b t).getD (t - 2) 0)) := by
 rw [ou b t _ ht (by omega), ou b t _ ht (by omega), ou b t _ ht (by omega), ou b t _ ht (by omega)]; have hl : (qA (kx b) (t - 16)).length = t := by simp [ph, nS]; omega
 unfold grown; rw [show t + 1 - 16 = (t - 16) + 1 by omega]; simp only [qA]; rw [show 16 + (t - 16) = t by omega, List.append_assoc, List.set_append_right _ _ (by omega), hl, show t - t = 0 by omega]
 congr 1
 rw [show 64 - t = (64 - (t + 1)) + 1 by omega, List.replicate_succ]; simp [next]
theorem zeros_test (n j : Nat) (h : j < zeros n) : (n + 1 + j + 8) % 64 ≠ 0 := by unfold zeros at h; omega
theorem zeros_end (n : Nat) : (n + 1 + zeros n + 8) % 64 = 0 := by unfold zeros; omega
theorem padded_length (b : List UInt8) : (padded b).length = b.length + 9 + zeros b.length := by
 simp [padded, lenBytes]; omega
theorem padded_mod (b : List UInt8) : (padded b).length = 64 * ((padded b).length / 64) := by
 have := zeros_end b.length; rw [padded_length]; omega
def foldB (all : List UInt8) (l : List Nat) : S8 := l.foldl (fun s x => after s ((all.drop (64 * x)).take 64)) first
theorem foldB_range (all : List UInt8) (m : Nat) : foldB all (List.range m) = over all m := by
 induction m with
 | zero => rfl
 | succ m ih => unfold foldB at *; rw [List.range_succ, List.foldl_append, ih]; rfl
theorem foldB_snoc (all : List UInt8) (l : List Nat) (x : Nat) : foldB all (l ++ [x]) = after (foldB all l) ((all.drop (64 * x)).take 64) := by
 unfold foldB; rw [List.foldl_append]; rfl
theorem out_length (s : S8) : (out s).length = 32 := by simp [out]
theorem out_set (s : S8) (k : Nat) (h : k < 32) : ((out s).take k ++ List.replicate (32 - k) 0).set k (UInt8.ofNat ((s.list.getD (k / 4) 0).toNat / 2 ^ (24 - 8 * (k % 4)))) = (out s).take (k + 1) ++ List.replicate (32 - (k + 1)) 0 := by
 have hl : ((out s).take k).length = k := by rw [List.length_take, out_length]; omega
 rw [List.set_append_right _ _ (by omega), hl, show k - k = 0 by omega, show 32 - k = (32 - (k + 1)) + 1 by omega, List.replicate_succ, List.set_cons_zero]; rw [List.take_succ_eq_append_getElem (by rw [out_length]; exact h)]; simp [out]
theorem lenBytes_take (n i : Nat) (h : i < 8) : (lenBytes n).take (i + 1) = (lenBytes n).take i ++ [UInt8.ofNat (8 * n / 2 ^ (56 - 8 * i))] := by
 rw [List.take_succ_eq_append_getElem (by simp [lenBytes]; omega)]; simp [lenBytes]
end Sha
abbrev zBz := List UInt8
abbrev zOz := List Oper
abbrev zLz := List Value
end
section
theorem xd {k : IntKind} {a b : Int} (h : a = b) : Ending.returned (.int k a) = .returned (.int k b) := by rw [h]
theorem qY {p : Prop} (h : p) : Hid p := h
def Arr (w : World) (b : Nat) (cs : zLz) : Prop := ∃ T, w.heap[b]? = some (.cells cs.toArray T)
namespace Arr
theorem lt {w : World} {b : Nat} {cs : zLz} (h : Arr w b cs) : b < w.heap.size := by
 obtain ⟨T, h⟩ := h; exact lt_of_block h
theorem cell {w : World} {b : Nat} {cs : zLz} (h : Arr w b cs) {i : Nat} {v : Value} (hi : cs[i]? = some v) : w.cell? ⟨b, i, none⟩ = some v := by
 obtain ⟨T, h⟩ := h; rw [cell_of_row w b i _ _ _ h]; simpa using hi
theorem frozen {w : World} {b : Nat} {cs : zLz} (h : Arr w b cs) (i : Nat) : w.frozen? ⟨b, i, none⟩ = false := by
 obtain ⟨T, h⟩ := h; exact frozen_of_row w b i _ _ h
theorem set {w : World} {b : Nat} {cs : zLz} (h : Arr w b cs) (i : Nat) (v : Value) : Arr (w.setCell ⟨b, i, none⟩ v) b (cs.set i v) := by
 obtain ⟨T, h⟩ := h; exact ⟨T, by rw [heap_setCell_same w b i _ _ v h]; simp⟩
theorem other {w : World} {b : Nat} {cs : zLz} (h : Arr w b cs) {a : Addr} (ha : a.block ≠ b) (v : Value) : Arr (w.setCell a v) b cs := by
 obtain ⟨T, h⟩ := h; exact ⟨T, by rw [heap_setCell_other w a b v (Ne.symm ha)]; exact h⟩
theorem alloc {w : World} {b : Nat} {cs : zLz} (h : Arr w b cs) (o : Obj) : Arr (w.alloc o) b cs := by
 have := h.lt; obtain ⟨T, h⟩ := h; exact ⟨T, by rw [Below.heap_alloc w o b this]; exact h⟩
theorem new (w : World) (cs : zLz) (T : TypeId) : Arr (w.alloc (.cells cs.toArray T)) w.heap.size cs := ⟨T, heap_alloc_new w _⟩
theorem newAt {w : World} {n : Nat} (h : n = w.heap.size) (cs : zLz) (T : TypeId) : Arr (w.alloc (.cells cs.toArray T)) n cs := by subst h; exact ⟨T, heap_alloc_new w _⟩
theorem drew {w : World} {b : Nat} {cs : zLz} (h : Arr w b cs) : Arr w.drew b cs := h
theorem drewN {w : World} {b : Nat} {cs : zLz} (h : Arr w b cs) (n : Nat) : Arr (w.drewN n) b cs := h
theorem below {B : Nat} {w w' : World} {b : Nat} {cs : zLz} (h : Arr w b cs) (hB : Below B w w') (hb : b < B) : Arr w' b cs := by
 obtain ⟨T, h⟩ := h; exact ⟨T, by rw [hB.block b hb]; exact h⟩
theorem below' {w w' : World} {b : Nat} {cs : zLz} (h : Arr w b cs) (hB : Below w.heap.size w w') : Arr w' b cs := h.below hB h.lt
theorem grown {w w' : World} {row : Option Nat} {b : Nat} {cs : zLz} (h : Arr w b cs) (hg : w.grownBy w' row) (hr : some b ≠ row) : Arr w' b cs := by
 have hl := h.lt; obtain ⟨T, h⟩ := h; exact ⟨T, by rw [hg.block b hl hr]; exact h⟩
end Arr
def bg (l : List UInt32) : zLz := l.map fun x => .int .u32 x.toNat
def u8s (l : zBz) : zLz := l.map fun x => .int .u8 x.toNat
theorem ga {l : List UInt32} {i : Nat} (h : i < l.length) : (bg l)[i]? = some (.int .u32 (l.getD i 0).toNat) := by
 simp [bg, h]
theorem Cp {l : zBz} {i : Nat} (h : i < l.length) : (u8s l)[i]? = some (.int .u8 (l.getD i 0).toNat) := by
 simp [u8s, h]
theorem uu (l : List UInt32) (i : Nat) (x : UInt32) : (bg l).set i (.int .u32 x.toNat) = bg (l.set i x) := by
 simp [bg, List.map_set]
theorem Ki (l : zBz) (i : Nat) (x : UInt8) : (u8s l).set i (.int .u8 x.toNat) = u8s (l.set i x) := by
 simp [u8s, List.map_set]
theorem dJ (b o j : Nat) : (⟨b, o, none⟩ : Addr).add j = ⟨b, o + j, none⟩ := by unfold Addr.add; split <;> simp_all
section
variable {P : Program} {ops : Array Oper} {rest : zOz} {o : Oper} {a : Act} {w : World} {Q : Exit -> Act -> World -> Prop}
def ry (P : Program) (ty : TypeId) (n : Nat) : Prop := (∀ w, (isAgg ty).run P w = .ok true w) /\ (P.info? ty).map (·.size) = some n
theorem iL {ty n : Nat} (h : (P.info? ty).map (·.size) = some n) (w : World) : (sizeOf ty).run P w = .ok n w := by
 cases hq : P.info? ty with
 | none => simp [hq] at h
 | some i => simp [hq] at h; simp [sizeOf, typeInfo, hq, h]
theorem rm {K : Act -> World -> Prop} (ty : TypeId) (x : Operand) (ho : o.op = .load ty x) (g off : Nat) (hx : a.eval x = .pointer (some ⟨g, off, none⟩))
  (cs : zLz) (hT : ry P ty cs.length) (hc : ∀ j v, cs[j]? = some v -> w.cell? ⟨g, off + j, none⟩ = some v)
  (h : K (a.put o.dst (.agg cs.toArray)) w) : o.wp P a w K Q := by
 have hl : (loadCells ⟨g, off, none⟩ cs.length).run P w = .ok cs.toArray w :=
  run_loadCells_list (P := P) w ⟨g, off, none⟩ cs (fun j v hv => by rw [dJ]; exact hc j v hv)
 unfold Oper.wp; have : (execOp a.eval o).run P w = .ok (.value (.agg cs.toArray)) w := by
  simp only [execOp, ho, hx]; simp [Instr.loadAt, Instr.sureAddr, loadVar, Sem.run_bind, hT.1, iL hT.2, hl, Result.andThen]
 rw [this]; exact h
theorem gS (hgd : o.guard = none) (ty : TypeId) (x : Operand) (ho : o.op = .load ty x) (g off : Nat) (hx : a.eval x = .pointer (some ⟨g, off, none⟩))
  (cs : zLz) (hT : ry P ty cs.length) (hc : ∀ j v, cs[j]? = some v -> w.cell? ⟨g, off + j, none⟩ = some v)
  (h : wpList P ops Q rest (a.put o.dst (.agg cs.toArray)) w) : wpList P ops Q (o :: rest) a w :=
 wpList_plain hgd fun _ hK => rm ty x ho g off hx cs hT hc (hK _ _ h)
theorem Kk {K : Act -> World -> Prop} (x : Operand) (ho : o.op = .move x) (h : K (a.put o.dst (a.eval x)) w) : o.wp P a w K Q := by
 unfold Oper.wp; have : (execOp a.eval o).run P w = .ok (.value (a.eval x)) w := by simp [execOp, ho]
 rw [this]; exact h
theorem AR {K : Act -> World -> Prop} (ty : TypeId) (ho : o.op = .alloc ty) (z : Value) (n : Nat) (hT : (P.info? ty).map (fun i => (i.zero, i.size)) = some (some z, n))
  (h : K (a.put o.dst (.pointer (some ⟨w.heap.size, 0, none⟩))) (w.alloc (.cells z.cells ty))) : o.wp P a w K Q := by
 have hz : ∀ w, (zeroValue ty).run P w = .ok z w := by
  intro w; cases hq : P.info? ty with
  | none => simp [hq] at hT
  | some i => simp [hq] at hT; simp [zeroValue, typeInfo, hq, hT.1]
 unfold Oper.wp; have : (execOp a.eval o).run P w = .ok (.value (.pointer (some ⟨w.heap.size, 0, none⟩))) (w.alloc (.cells z.cells ty)) := by
  simp only [execOp, ho]; simp [Instr.alloc, newVar, newRow, newObj, Sem.run_bind, hz, Result.andThen]; rfl
 rw [this]; exact h
def lay (cur : zLz) (off : Nat) (cs : zLz) : zLz := cur.take off ++ cs ++ cur.drop (off + cs.length)
theorem jN (w : World) (g : Nat) (cs : Array Value) : w.grownBy (w.setRow g cs) (some g) :=
 ⟨rfl, rfl, rfl, by simp [World.setRow], fun k _ hne => by
  have : k ≠ g := fun e => hne (by rw [e])
  simp only [World.setRow, Array.getElem?_modify]; rw [if_neg (fun e => this e.symm)]⟩
theorem Arr.setRow {g : Nat} {cur : zLz} (h : Arr w g cur) (cs : zLz) : Arr (w.setRow g cs.toArray) g cs := by
 obtain ⟨T, h⟩ := h; refine ⟨T, ?_⟩; simp only [World.setRow, Array.getElem?_modify, if_pos, h]; rfl
theorem nq {K : Act -> World -> Prop} (f : FuncId) (hcall : ∀ args w, (callFunc f args).run P w = .ok (.enter f args) w) (xs : Array Operand) (ts : Array TypeId) (ho : o.op = .call ⟨.value (.func f), xs, ts⟩)
  (vs : zLz) (hv : xs.toList.map a.eval = vs) (h : Calls P f vs.toArray w fun e w' => ∃ v, e = .returned v /\ K (a.put o.dst v) w') : o.wp P a w K Q := by
 unfold Oper.wp; have hv' : xs.map a.eval = vs.toArray := by rw [<- hv, <- Array.toList_map]
 have : (execOp a.eval o).run P w = .ok (.enter f vs.toArray) w := by
  have e : execOp a.eval o = callFunc f (#[] ++ xs.map a.eval ++ #[]) := by simp only [execOp, ho]; rfl
  rw [e, hcall, hv']; simp
 rw [this, Oper.upon_enter]; refine h.mono ?_; rintro e w' ⟨v, rfl, hK⟩; exact hK
theorem mb {K : Act -> World -> Prop} (hd : o.dst = none) (ty : TypeId) (x y : Operand) (ho : o.op = .store ty x y) (g off : Nat) (hx : a.eval x = .pointer (some ⟨g, off, none⟩))
  (cs : zLz) (hy : a.eval y = .agg cs.toArray) (hT : (P.info? ty).map (·.size) = some cs.length) (h1 : ∀ v ∈ cs, v.oneCell' = true) (cur : zLz) (hA : Arr w g cur) (hfit : off + cs.length <= cur.length)
  (h : ∀ w', Arr w' g (lay cur off cs) -> w.grownBy w' (some g) -> K a w') : o.wp P a w K Q := by
 obtain ⟨T, hg⟩ := hA; have hs : (storeCells ⟨g, off, none⟩ cs).run P w = .ok () (w.setRow g (lay cur off cs).toArray) := by
  have := run_storeCells_at P g off T cs 0 cur.toArray w hg (by simpa using hfit) h1; simpa [lay] using this
 unfold Oper.wp; have : (execOp a.eval o).run P w = .ok .skip (w.setRow g (lay cur off cs).toArray) := by
  simp only [execOp, ho, hx, hy]; simp [Instr.storeAt, Instr.sureAddr, storeVar, Sem.run_bind, Value.cells, iL hT, hs, Result.andThen]
 rw [this, Oper.upon_skip, hd]; exact h _ (Arr.setRow ⟨T, hg⟩ _) (jN _ _ _)
theorem gE (hgd : o.guard = none) (hd : o.dst = none) (ty : TypeId) (x y : Operand) (ho : o.op = .store ty x y) (g off : Nat) (hx : a.eval x = .pointer (some ⟨g, off, none⟩))
  (cs : zLz) (hy : a.eval y = .agg cs.toArray) (hT : (P.info? ty).map (·.size) = some cs.length) (h1 : ∀ v ∈ cs, v.oneCell' = true) (cur : zLz) (hA : Arr w g cur) (hfit : off + cs.length <= cur.length)
  (h : ∀ w', Arr w' g (lay cur off cs) -> w.grownBy w' (some g) -> wpList P ops Q rest a w') : wpList P ops Q (o :: rest) a w :=
 wpList_plain hgd fun _ hK => mb hd ty x y ho g off hx cs hy hT h1 cur hA hfit fun w' h1 h2 => hK _ _ (h w' h1 h2)
theorem ir (cur cs : zLz) (h : cur.length = cs.length) : lay cur 0 cs = cs := by
 simp [lay, <- h]
theorem db (l : List UInt32) : (bg l).length = l.length := by simp [bg]
theorem nc (l : zBz) : (u8s l).length = l.length := by simp [u8s]
theorem kL (l : List UInt32) : ∀ v ∈ bg l, v.oneCell' = true := by
 intro v hv; simp only [bg, List.mem_map] at hv; obtain ⟨x, _, rfl⟩ := hv; rfl
theorem Cq (l : zBz) : ∀ v ∈ u8s l, v.oneCell' = true := by
 intro v hv; simp only [u8s, List.mem_map] at hv; obtain ⟨x, _, rfl⟩ := hv; rfl
theorem pt {fn : Func} {R : Ending -> World -> Prop} {p : Tmp} {ty : TypeId} (hr : fn.results = #[.cell p ty]) (hdef : a.defers = []) (g : Nat) (hp : a.tmps.getD p undef = .pointer (some ⟨g, 0, none⟩))
  (cs : zLz) (hA : Arr w g cs) (hT : ry P ty cs.length) (h : R (.returned (.agg cs.toArray)) w) : bodyPost P fn R .ret a w := by
 refine bodyPost_ret (v := .agg cs.toArray) ?_ hdef h; have hl : (loadCells ⟨g, 0, none⟩ cs.length).run P w = .ok cs.toArray w :=
  run_loadCells_list (P := P) w ⟨g, 0, none⟩ cs (fun j v hv => by rw [dJ, Nat.zero_add]; exact hA.cell hv)
 have hp' : a.tmps[p]?.getD undef = .pointer (some ⟨g, 0, none⟩) := by simpa using hp
 simp [results, hr, hp', asAddr, loadVar, Sem.run_bind, hT.1, iL hT.2, hl, Result.andThen]
end
end
section
theorem Ez (k : IntKind) (a b : Int) : bits BinOp.or k a b = bits BinOp.or k b a := by
 simp only [bits, BitVec.or_comm]
theorem sa (x : UInt32) : (x.toNat : Int) <= 4294967295 := by have := x.toNat_lt; omega
theorem KM (x : UInt32) (n : Nat) : bits BinOp.or IntKind.u32 (↑x.toNat / 2 ^ n) (↑x.toNat * 2 ^ (32 - n) % 4294967296) = ((Sha.rotr x n).toNat : Int) := by
 have hx := x.toNat_lt; have h1 : x.toNat / 2 ^ n < 4294967296 := Nat.lt_of_le_of_lt (Nat.div_le_self _ _) hx; have h2 : x.toNat * 2 ^ (32 - n) % 4294967296 < 4294967296 := Nat.mod_lt _ (by decide); have := u32_or_nat _ _ h1 h2; have e : (x.toNat / 2 ^ n ||| x.toNat * 2 ^ (32 - n) % 4294967296) < 4294967296 := Nat.or_lt_two_pow (n := 32) h1 h2; unfold Sha.rotr; rw [show (UInt32.ofNat (x.toNat / 2 ^ n ||| x.toNat * 2 ^ (32 - n) % 4294967296)).toNat = (x.toNat / 2 ^ n ||| x.toNat * 2 ^ (32 - n) % 4294967296) from Nat.mod_eq_of_lt e]; rw [<- this]; simp
set_option maxHeartbeats 400000 in
theorem Ij (n : Nat) (x : UInt32) (w : World) (h1 : n <= 31) :
  Calls Tryd.prog 85 #[.int .i64 n, .int .u32 x.toNat] w fun e w' => e = .returned (.int .u32 (Sha.rotr x n).toNat) /\ ∃ k, w' = w.drewN k := by
 have hx := sa x
 go_enter Tryd.func85, Tryd.ntmps85
 go_wp2
 go_quiet (fail)
 go_wp2
 go_ret
 exact ⟨xd (KM x n), _, rfl⟩
theorem Bu : ∀ m : Fin 32, 1 <= m.1 -> bits BinOp.and IntKind.u64 (IntKind.u64.wrap (-(m.1 : Int))) 31 = 32 - (m.1 : Int) := by decide +kernel
theorem Jr (m : Nat) (h1 : 1 <= m) (h2 : m <= 31) : bits BinOp.and IntKind.u64 (IntKind.u64.wrap (-(m : Int))) 31 = 32 - (m : Int) := Bu ⟨m, by omega⟩ h1
set_option maxHeartbeats 400000 in
theorem Cm (m : Nat) (x : UInt32) (w : World) (h1 : 1 <= m) (h2 : m <= 31) :
  Calls Tryd.prog 81 #[.int .u32 x.toNat, .int .i64 (-(m : Int))] w fun e w' => e = .returned (.int .u32 (Sha.rotr x m).toNat) /\ w = w' := by
 have hx := sa x; obtain ⟨s, hs⟩ : ∃ s : Nat, s = 32 - m := ⟨_, rfl⟩
 have hb : bits BinOp.and IntKind.u64 (IntKind.u64.wrap (-(m : Int))) 31 = (s : Int) := by rw [Jr m h1 h2]; omega
 have hs1 : s <= 31 := by omega
 have H := Lib.hid hs; clear hs
 go_enter Tryd.func81, Tryd.ntmps81
 go_wp2
 go_ret
 refine ⟨xd ?_, rfl⟩; rw [Ez, <- KM]; have := H.out; rw [show 32 - s = m by omega, show s = 32 - m by omega]
theorem vR (n : Int) (m : Nat) (x : UInt32) (w : World) (hn : n = -(m : Int)) (h1 : 1 <= m) (h2 : m <= 31) :
  Calls Tryd.prog 81 #[.int .u32 x.toNat, .int .i64 n] w fun e w' => e = .returned (.int .u32 (Sha.rotr x m).toNat) /\ w = w' := by
 subst hn; exact Cm m x w h1 h2
set_option maxHeartbeats 400000 in
theorem uh (m : Nat) (x : UInt32) (b : Nat) (w : World) (hc : w.cell? ⟨b, 0, none⟩ = some (.int .u32 x.toNat)) (h1 : 1 <= m) (h2 : m <= 31) :
  Calls Tryd.prog 82 #[.int .i64 m, .pointer (some ⟨b, 0, none⟩)] w fun e w' => e = .returned (.int .u32 (Sha.rotr x m).toNat) /\ w = w' := by
 have hx := sa x
 go_enter Tryd.func82, Tryd.ntmps82
 go_wp2_with (go_at_call 81; refine (Cm _ _ _ h1 h2).mono ?_; rintro e w' ⟨rfl, rfl⟩)
 go_ret
 exact ⟨rfl, rfl⟩
theorem re (x y : UInt32) : bits BinOp.xor IntKind.u32 x.toNat y.toNat = ((x ^^^ y).toNat : Int) := by
 rw [u32_xor_nat _ _ x.toNat_lt y.toNat_lt, UInt32.toNat_xor]
theorem CJ (x y : UInt32) : bits BinOp.and IntKind.u32 x.toNat y.toNat = ((x &&& y).toNat : Int) := by
 rw [u32_and_nat _ _ x.toNat_lt y.toNat_lt, UInt32.toNat_and]
theorem yQ (x y : UInt32) : ((x.toNat : Int) + y.toNat) % 4294967296 = ((x + y).toNat : Int) := by
 rw [UInt32.toNat_add]; simp
theorem IO (x y z u : UInt32) : ((x.toNat : Int) + y.toNat + z.toNat + u.toNat) % 4294967296 = ((x + y + z + u).toNat : Int) := by
 rw [UInt32.toNat_add, UInt32.toNat_add, UInt32.toNat_add]; simp
set_option maxHeartbeats 400000 in
theorem Jq (a b c : Nat) (x : UInt32) (w : World) (ha : 1 <= a /\ a <= 31) (hb : 1 <= b /\ b <= 31) (hc : 1 <= c /\ c <= 31) :
  Calls Tryd.prog 69 #[.int .u32 x.toNat, .int .i64 a, .int .i64 b, .int .i64 c] w fun e w' => e = .returned (.int .u32 (Sha.rot3 x a b c).toNat) /\ Below w.heap.size w w' := by
 have hx := sa x; have Ha := Lib.hid ha; clear ha; have Hb := Lib.hid hb; clear hb; have Hc := Lib.hid hc; clear hc
 go_enter Tryd.func69, Tryd.ntmps69
 go_wp2_with fail
 refine (uh a x _ _ (by simp) Ha.out.1 Ha.out.2).mono ?_; rintro e w' ⟨rfl, rfl⟩
 go_wp2_with fail
 refine (uh b x _ _ (by simp) Hb.out.1 Hb.out.2).mono ?_; rintro e w' ⟨rfl, rfl⟩
 go_wp2_with fail
 refine (uh c x _ _ (by simp) Hc.out.1 Hc.out.2).mono ?_; rintro e w' ⟨rfl, rfl⟩
 go_wp2_with fail
 go_ret
 refine ⟨xd ?_, ?_⟩
 ·rw [re, re]; rfl
 ·exact (Below.refl _ _).alloc (Nat.le_refl _) _
theorem Fk (a b c : Int) (m1 m2 m3 : Nat) (x : UInt32) (w : World) (ea : a = m1) (eb : b = m2) (ec : c = m3) (ha : 1 <= m1 /\ m1 <= 31) (hb : 1 <= m2 /\ m2 <= 31) (hc : 1 <= m3 /\ m3 <= 31) :
  Calls Tryd.prog 69 #[.int .u32 x.toNat, .int .i64 a, .int .i64 b, .int .i64 c] w fun e w' => e = .returned (.int .u32 (Sha.rot3 x m1 m2 m3).toNat) /\ Below w.heap.size w w' := by
 subst ea eb ec; exact Jq m1 m2 m3 x w ha hb hc
theorem DN (x : UInt32) (n : Nat) : (x.toNat : Int) / ((2 ^ n : Nat) : Int) = ((Sha.shr x n).toNat : Int) := by
 have : x.toNat / 2 ^ n < 4294967296 := Nat.lt_of_le_of_lt (Nat.div_le_self _ _) x.toNat_lt; rw [<- Int.natCast_ediv]; unfold Sha.shr; rw [show (UInt32.ofNat (x.toNat / 2 ^ n)).toNat = x.toNat / 2 ^ n from Nat.mod_eq_of_lt this]
end
section
theorem FZ (p c : Nat) (hp : p < 16777216) (hc : c < 256) : bits BinOp.or IntKind.u32 (↑p * 256 % 4294967296) ↑c = ((p * 256 + c : Nat) : Int) := by
 have h1 : p * 256 < 4294967296 := by omega
 have := u32_or_nat (p * 256) c h1 (by omega); have e : p * 256 ||| c = p * 256 + c := by
  rw [Nat.mul_comm]; exact (Nat.two_pow_add_eq_or_of_lt (i := 8) hc p).symm
 rw [e] at this; rw [<- this]; rw [show (p : Int) * 256 % 4294967296 = ((p * 256 : Nat) : Int) by omega]
theorem le8 (x : UInt8) : (x.toNat : Int) <= 255 := by have := x.toNat_lt; omega
theorem CG : ry Tryd.prog 112 64 := ⟨fun _ => by kernel_rfl, by kernel_rfl⟩
set_option maxRecDepth 100000 in
set_option maxHeartbeats 400000 in
theorem DQ (b o cap : Nat) (l : zBz) (w : World) (hb : b < w.heap.size) (hcell : ∀ i, i < 64 -> w.cell? ⟨b, o + i, none⟩ = some (.int .u8 (l.getD i 0).toNat)) :
  Calls Tryd.prog 68 #[.slice (some ⟨b, o, none⟩) 64 cap] w fun e w' => e = .returned (.agg (bg (Sha.spread l)).toArray) /\ Below w.heap.size w w' := by
 have HC := Lib.hid hcell; clear hcell
 go_enter Tryd.func68, Tryd.ntmps68
 go_wp2
 go_loopw [10] (fun i wr => ∃ k : Nat, k <= 64 /\ i = .int .i64 k /\ Arr wr w.heap.size (bg (List.replicate 64 0)) /\ Arr wr (w.heap.size + 1) (bg (Sha.fill l k)) /\ Below w.heap.size w wr) (fun i _ => 64 - (intOf i).toNat)
 case atStart =>
  refine ⟨0, by omega, rfl, ?_, ?_, ?_⟩
  ·exact (Arr.new w _ _).alloc _
  ·rw [Sha.fill_zero]; exact Arr.newAt (by simp) (bg (List.replicate 64 0)) _
  ·exact ((Below.refl _ _).alloc (Nat.le_refl _) _).alloc (by simp) _
 case round =>
  obtain ⟨k, hk, rfl, ha0, ha1, hbl⟩ := hrel; by_cases hlt : k < 64
  ·have hA := Lib.hid ha0; have hA1 := Lib.hid ha1; have hBl := Lib.hid hbl; have c1 := ha1.cell (ga (l := Sha.fill l k) (i := k / 4) (by rw [Sha.fill_length]; omega)); have f1 := ha1.frozen (k / 4); have c2 : wr.cell? ⟨b, o + k, none⟩ = some (.int .u8 (l.getD k 0).toNat) := (hbl.cell (p := ⟨b, o + k, none⟩) hb).trans (HC.out k hlt); obtain ⟨x, hx⟩ : ∃ x, x = (Sha.fill l k).getD (k / 4) 0 := ⟨_, rfl⟩
   obtain ⟨c, hc⟩ : ∃ c, c = l.getD k 0 := ⟨_, rfl⟩
   rw [<- hx] at c1; rw [<- hc] at c2; have HX := Lib.hid hx; clear hx; have HCC := Lib.hid hc; clear hc; have l1 := sa x; have l2 := le8 c; clear ha0 ha1 hbl
   go_wp2
   go_region
   all_goals go_wp2
   have hp := Sha.part_lt l (k / 4) (k % 4); have hp' : 256 ^ (k % 4) <= 16777216 := Nat.pow_le_pow_right (n := 256) (j := 3) (by decide) (by omega); have hxe : x.toNat = Sha.part l (k / 4) (k % 4) := by
    rw [HX.out, Sha.fill_get l k _ (by omega), show min 4 (k - 4 * (k / 4)) = k % 4 by omega]; exact Nat.mod_eq_of_lt (by omega)
   have hv : bits BinOp.or IntKind.u32 (↑x.toNat * 256 % 4294967296) ↑c.toNat = ((UInt32.ofNat (Sha.part l (k / 4) (k % 4) * 256 + (l.getD k 0).toNat)).toNat : Int) := by
    rw [FZ _ _ (by omega) c.toNat_lt, hxe, <- HCC.out]
    congr 1
    exact (Nat.mod_eq_of_lt (by have := c.toNat_lt; omega)).symm
   rw [hv]; refine ⟨⟨k + 1, by omega, by go_num, hA.out.other (by simp) _, ?_, (hBl.out.setCell (by simp) _).drew⟩, by simp [intOf]; omega⟩; rw [Sha.fill_succ l k hlt, <- uu]; exact hA1.out.set _ _
  ·have hk64 : k = 64 := by omega
   rw [hk64, Sha.grown_first] at ha1; clear hk64
   go_wp2
   go_loopw [5] (fun i wr => ∃ t : Nat, 16 <= t /\ t <= 64 /\ i = .int .i64 t /\ Arr wr w.heap.size (bg (List.replicate 64 0)) /\ Arr wr (w.heap.size + 1) (bg (Sha.grown l t)) /\ Below w.heap.size w wr) (fun i _ => 64 - (intOf i).toNat)
   case atStart => exact ⟨16, by omega, by omega, rfl, ha0, ha1, hbl⟩
   case round =>
    clear ha0 ha1 hbl hk hlt; obtain ⟨t, ht0, ht, rfl, ha0, ha1, hbl⟩ := hrel; by_cases hlt : t < 64
    ·have hA := Lib.hid ha0; have hA1 := Lib.hid ha1; have hBl := Lib.hid hbl; have hln := Sha.grown_length l t ht0 ht; have c1 := ha1.cell (ga (l := Sha.grown l t) (i := t - 15) (by omega)); have c2 := ha1.cell (ga (l := Sha.grown l t) (i := t - 2) (by omega)); have c3 := ha1.cell (ga (l := Sha.grown l t) (i := t - 16) (by omega)); have c4 := ha1.cell (ga (l := Sha.grown l t) (i := t - 7) (by omega)); obtain ⟨y, hy⟩ : ∃ x, x = (Sha.grown l t).getD (t - 15) 0 := ⟨_, rfl⟩
     obtain ⟨z, hz⟩ : ∃ x, x = (Sha.grown l t).getD (t - 2) 0 := ⟨_, rfl⟩
     obtain ⟨p, hp⟩ : ∃ x, x = (Sha.grown l t).getD (t - 16) 0 := ⟨_, rfl⟩
     obtain ⟨q, hq⟩ : ∃ x, x = (Sha.grown l t).getD (t - 7) 0 := ⟨_, rfl⟩
     rw [<- hy] at c1; rw [<- hz] at c2; rw [<- hp] at c3; rw [<- hq] at c4; have HY := Lib.hid hy; clear hy; have HZ := Lib.hid hz; clear hz; have HP := Lib.hid hp; clear hp; have HQ := Lib.hid hq; clear hq; have f1 := ha1.frozen t; have f2 := ha1.cell (ga (l := Sha.grown l t) (i := t) (by omega)); obtain ⟨old, hold⟩ : ∃ x, x = (Sha.grown l t).getD t 0 := ⟨_, rfl⟩
     rw [<- hold] at f2; clear hold; clear ha0 ha1 hbl hln
     go_wp2
     go_region
     all_goals go_wp2_with fail
     refine (vR _ 7 y _ rfl (by decide) (by decide)).mono ?_; rintro e w1 ⟨rfl, rfl⟩
     go_wp2_with fail
     refine (vR _ 18 y _ rfl (by decide) (by decide)).mono ?_; rintro e w1 ⟨rfl, rfl⟩; have ly := sa y; have lz := sa z
     go_wp2_with fail
     refine (vR _ 17 z _ rfl (by decide) (by decide)).mono ?_; rintro e w1 ⟨rfl, rfl⟩
     go_wp2_with fail
     refine (vR _ 19 z _ rfl (by decide) (by decide)).mono ?_; rintro e w1 ⟨rfl, rfl⟩
     go_wp2
     go_region
     all_goals go_wp2
     go_roundw
     case rel =>
      refine ⟨t + 1, by omega, by omega, by go_num, hA.out.other (by simp) _, ?_, ((hBl.out.setCell (by simp) _).drew).drew⟩; rw [Sha.grown_succ l t ht0 hlt, <- HY.out, <- HZ.out, <- HP.out, <- HQ.out, <- uu]; have e1 := DN y 3; have e2 := DN z 10; simp only [Nat.reducePow, Int.cast_ofNat_Int] at e1 e2; rw [e1, e2]; simp only [re, IO]; exact hA1.out.set _ _
     case measure => simp [intOf]; omega
    ·obtain rfl : t = 64 := by omega
     rw [Sha.grown_last] at ha1; have hs64 : (bg (Sha.spread l)).length = 64 := by rw [db, <- Sha.grown_last, Sha.grown_length l 64 (by omega) (by omega)]
     have hA := Lib.hid ha0; have hA1 := Lib.hid ha1; have hBl := Lib.hid hbl; have H64 := Lib.hid hs64; clear ha0 ha1 hbl hs64
     go_wp2_with (first
      | (refine gS rfl _ _ rfl _ _ rfl (bg (Sha.spread l)) (by rw [H64.out]; exact CG) (fun j v hv => by rw [Nat.zero_add]; exact hA1.out.cell hv) ?_)
      | (refine gE rfl rfl _ _ _ rfl _ _ rfl (bg (Sha.spread l)) rfl (by rw [H64.out]; exact CG.2) (kL _) _ hA.out (by simp [H64.out, db]) ?_; intro w2 hA2 hG2))
     refine pt rfl rfl _ rfl _ hA2 ?_ ⟨?_, ?_⟩
     ·rw [ir _ _ (by simp [H64.out, db]), H64.out]; exact CG
     ·rw [ir _ _ (by simp [H64.out, db])]
     ·exact hBl.out.grown hG2 hBl.out.size (by intro k hk; cases hk; exact Nat.le_refl _)
end
section
theorem wh {P : Program} {w : World} {ops : Array Oper} {rest : zOz} {o : Oper} {a : Act} {Q : Exit -> Act -> World -> Prop} (hgd : o.guard = none)
  (d s : Operand) (dT sT : TypeId) (ho : o.op = .call ⟨.builtin .copy, #[d, s], #[dT, sT]⟩) (elem : TypeId) (hu : P.underlying dT = some (.slice elem)) (hsz : (P.info? elem).map (·.size) = some 1)
  (g off dLen dCap g2 off2 sLen sCap : Nat) (hd : a.eval d = .slice (some ⟨g, off, none⟩) dLen dCap) (hs : a.eval s = .slice (some ⟨g2, off2, none⟩) sLen sCap)
  (cs : zLz) (hn : cs.length = sLen.min dLen) (hc : ∀ j v, cs[j]? = some v -> w.cell? ⟨g2, off2 + j, none⟩ = some v) (cur : zLz) (hA : Arr w g cur) (hfit : off + cs.length <= cur.length)
  (h1 : ∀ v ∈ cs, v.oneCell' = true) (h : ∀ w', Arr w' g (lay cur off cs) -> w.grownBy w' (some g) -> wpList P ops Q rest (a.put o.dst (goInt cs.length)) w') : wpList P ops Q (o :: rest) a w := by
 obtain ⟨T, hg⟩ := hA; refine wpList_copy_own hgd d s dT sT ho elem hu hsz g off dLen dCap ⟨g2, off2, none⟩ sLen sCap hd hs cur.toArray T hg cs hn (fun j v hv => by rw [dJ]; exact hc j v hv) (by simpa using hfit) h1 ?_; have := h _ (Arr.setRow ⟨T, hg⟩ (lay cur off cs)) (jN _ _ _); simpa [lay] using this
def gR (o : Oper) (a : Act) : Value := match o.dst with | some d => a.tmps.getD d undef | none => undef
def lC (a : Act) : List (Option Tmp × Value) -> Act
 | [] => a
 | (d, v) :: r => lC (a.put d v) r
theorem yK (l : List (Option Tmp × Value)) : ∀ a, (lC a l).defers = a.defers := by
 induction l with
 | nil => intro a; rfl
 | cons x r ih => intro a; obtain ⟨d, v⟩ := x; rw [lC, ih]; cases d <;> rfl
theorem Bz (T : Array Value) (l : List (Option Tmp × Value)) : ∀ a : Act, a.tmps.size = T.size -> (∀ d v, (some d, v) ∈ l -> v = T.getD d undef) ->
  (∀ s, (∀ v, (some s, v) ∉ l) -> a.tmps[s]? = T[s]?) -> (lC a l).tmps = T := by
 induction l with
 | nil => intro a hs _ h; exact Array.ext_getElem? (fun s => h s (by simp))
 | cons x r ih =>
  intro a hs hv h; obtain ⟨d, v⟩ := x; rw [lC]; cases d with
  | none => exact ih a hs (fun d v hm => hv d v (by simp [hm])) (fun s hn => h s (fun v' => by simp [hn]))
  | some d =>
   refine ih _ (by simp [Act.put, hs]) (fun d v hm => hv d v (by simp [hm])) (fun s hn => ?_); by_cases hsd : s = d
   ·subst hsd; have := hv s v (by simp); simp only [Act.put]; by_cases hlt : s < T.size
    ·rw [Array.getElem?_setIfInBounds_self_of_lt (by rw [hs]; exact hlt)]; rw [this]; simp [hlt]
    ·have h1 : T.size <= s := Nat.le_of_not_lt hlt; rw [Array.getElem?_eq_none (by simp [hs, h1]), Array.getElem?_eq_none h1]
   ·simp only [Act.put]; rw [Array.getElem?_setIfInBounds_ne (Ne.symm hsd)]; exact h s (fun v' => by simp [hn, hsd])
section
variable {P : Program} {ops : Array Oper} {a0 : Act} {w0 : World} {Q : Exit -> Act -> World -> Prop} {G : Nat -> (Nat -> Value) -> World -> Prop} {E : World -> World -> Prop}
def Gj (ops : Array Oper) (a0 a : Act) : Prop := ∀ s, (∀ (j : Nat) (o : Oper), ops[j]? = some o -> o.dst ≠ some s) -> a.tmps[s]? = a0.tmps[s]?
def rho (ops : Array Oper) (a : Act) (k : Nat) : Value := match ops[k]? with | some o => gR o a | none => undef
def upd (ρ : Nat -> Value) (i : Nat) (v : Value) : Nat -> Value := fun k => if k = i then v else ρ k
structure ParInv (ops : Array Oper) (a0 : Act) (w0 : World) (G : Nat -> (Nat -> Value) -> World -> Prop) (E : World -> World -> Prop) (listed : Array Bool) (a : Act) (w : World) : Prop where
 e : E w0 w
 defers : a.defers = a0.defers
 size : a.tmps.size = a0.tmps.size
 rest : ∀ s, (∀ (j : Nat) (o : Oper), ops[j]? = some o -> listed.getD j false = true -> o.dst ≠ some s) -> a.tmps[s]? = a0.tmps[s]?
 got : ∀ (j : Nat) (o : Oper), ops[j]? = some o -> listed.getD j false = true -> G j (rho ops a) w
 closed : ∀ (j : Nat) (o : Oper), ops[j]? = some o -> listed.getD j false = true -> ∀ e ∈ o.after, Region.binds .any e = true -> listed.getD e.on false = true
def KN (ops : zOz) (n : Nat) : Bool :=
 ((ops.filterMap (·.dst)).all fun d => decide (d < n)) && decide ((ops.filterMap (·.dst)).Nodup) &&
 ops.zipIdx.all fun (o, i) => o.after.all fun e => !Region.binds .any e || decide (e.on < i)
theorem xR : ∀ (l : zOz), (l.filterMap (·.dst)).Nodup -> ∀ (i j : Nat) (oi oj : Oper) (d : Tmp), l[i]? = some oi -> l[j]? = some oj -> oi.dst = some d -> oj.dst = some d -> i = j := by
 intro l
 induction l with
 | nil => intro _ i j oi oj d h; simp at h
 | cons o r ih =>
  intro hn i j oi oj d hi hj hdi hdj; have hmem : ∀ (k : Nat) (ok : Oper), r[k]? = some ok -> ok.dst = some d -> d ∈ r.filterMap (·.dst) := fun k ok hk hd =>
   List.mem_filterMap.2 ⟨ok, List.mem_iff_getElem?.2 ⟨k, hk⟩, hd⟩
  cases i with
  | zero =>
   cases j with
   | zero => rfl
   | succ j =>
    simp at hi hj; subst hi; rw [List.filterMap_cons_some hdi] at hn; exact absurd (hmem j oj hj hdj) (List.nodup_cons.1 hn).1
  | succ i =>
   cases j with
   | zero =>
    simp at hi hj; subst hj; rw [List.filterMap_cons_some hdj] at hn; exact absurd (hmem i oi hi hdi) (List.nodup_cons.1 hn).1
   | succ j =>
    simp at hi hj; have hn' : (r.filterMap (·.dst)).Nodup := by
     cases ho : o.dst with
     | none => rwa [List.filterMap_cons_none ho] at hn
     | some d => rw [List.filterMap_cons_some ho] at hn; exact (List.nodup_cons.1 hn).2
    rw [ih hn' i j oi oj d hi hj hdi hdj]
theorem uJ {listed : Array Bool} (hs : listed.size = ops.size) (hbk : ∀ (i : Nat) (o : Oper), ops[i]? = some o -> ∀ e ∈ o.after, Region.binds .any e = true -> e.on < i) (hr : Region.ready .any ops listed = []) :
  ∀ j, j < ops.size -> listed.getD j false = true := by
 intro j
 induction j using Nat.strongRecOn with
 | _ j ih =>
  intro hj; cases h : listed.getD j false with
  | true => rfl
  | false =>
   have hlt : j < listed.size := by omega
   have : j ∈ Region.ready .any ops listed := by
    refine mem_ready.2 ⟨by simp [hlt] at h ⊢; exact h, ops[j], by simp [hj], fun e he hb => ?_⟩; have := hbk j ops[j] (by simp [hj]) e he hb; exact ih e.on this (by omega)
   rw [hr] at this; cases this
theorem vd (l : List Bool) : ∀ (i : Nat), l[i]? = some false -> ((l.set i true).filter (fun b => !b)).length + 1 = (l.filter (fun b => !b)).length := by
 induction l with
 | nil => intro i h; simp at h
 | cons x r ihl =>
  intro i h; cases i with
  | zero => simp at h; subst h; simp
  | succ i =>
   simp at h; have := ihl i h; cases x <;> simp <;> omega
theorem Bx (ops : zOz) (a0 a : Act) (hs : a.tmps.size = a0.tmps.size) (hd : a.defers = a0.defers) (hrest : ∀ s, (∀ (j : Nat) (o : Oper), ops[j]? = some o -> o.dst ≠ some s) -> a.tmps[s]? = a0.tmps[s]?) :
  lC a0 ((ops.map (·.dst)).zip (ops.map fun o => gR o a)) = a := by
 have e : (ops.map (·.dst)).zip (ops.map fun o => gR o a) = ops.map fun o => (o.dst, gR o a) := by
  induction ops with
  | nil => rfl
  | cons o r ih =>
   simp only [List.map_cons, List.zip_cons_cons]
   congr 1
   clear ih hrest
   induction r with
   | nil => rfl
   | cons o r ih => simp [ih]
 rw [e]; have h1 := Bz a.tmps (ops.map fun o => (o.dst, gR o a)) a0 hs.symm (fun d v hv => by
  rw [List.mem_map] at hv; obtain ⟨o, _, he⟩ := hv; simp only [Prod.mk.injEq] at he; rw [<- he.2]; simp only [gR, he.1]) (fun s hn => by
  refine (hrest s (fun j o ho hds => hn (gR o a) ?_)).symm; rw [List.mem_map]; exact ⟨o, List.mem_iff_getElem?.2 ⟨j, ho⟩, by rw [hds]⟩)
 have h2 := yK (ops.map fun o => (o.dst, gR o a)) a0; generalize lC a0 (ops.map fun o => (o.dst, gR o a)) = b at h1 h2; cases a; cases b; simp only at h1 h2 hd; subst h1; rw [h2, <- hd]
theorem Bv (hEt : ∀ a b c, E a b -> E b c -> E a c) (hG : ∀ j ρ w w', G j ρ w -> E w w' -> G j ρ w')
  (hloc : ∀ (j : Nat) (o : Oper), ops[j]? = some o -> ∀ ρ ρ' w, ρ j = ρ' j -> (∀ e ∈ o.after, Region.binds .any e = true -> ρ e.on = ρ' e.on) -> G j ρ w -> G j ρ' w)
  (hd : ∀ (i j : Nat) (oi oj : Oper) (d : Tmp), ops[i]? = some oi -> ops[j]? = some oj -> oi.dst = some d -> oj.dst = some d -> i = j)
  (hsz : ∀ (i : Nat) (o : Oper) (d : Tmp), ops[i]? = some o -> o.dst = some d -> d < a0.tmps.size)
  (_hbk : ∀ (i : Nat) (o : Oper), ops[i]? = some o -> ∀ e ∈ o.after, Region.binds .any e = true -> e.on < i)
  {listed : Array Bool} {a : Act} {w : World} (inv : ParInv ops a0 w0 G E listed a w) {i : Nat} {o : Oper} (ho : ops[i]? = some o) (hlt : i < listed.size) (h0 : listed.getD i true = false)
  (hall : ∀ e ∈ o.after, Region.binds .any e = true -> listed.getD e.on false = true) {v : Value} {w' : World} (he : E w w') (hg : G i (upd (rho ops a) i (o.dst.elim undef fun _ => v)) w') :
  ParInv ops a0 w0 G E (listed.setIfInBounds i true) (a.put o.dst v) w' := by
 have hval : ∀ (j : Nat) (oj : Oper), ops[j]? = some oj -> j ≠ i -> gR oj (a.put o.dst v) = gR oj a := by
  intro j oj hj hji; unfold gR; cases hdj : oj.dst with
  | none => rfl
  | some d =>
   cases hdi : o.dst with
   | none => rfl
   | some d' =>
    have hne : d' ≠ d := fun e => hji (hd j i oj o d hj ho hdj (by rw [hdi, e]))
    simp [Act.put, Array.getElem?_setIfInBounds_ne hne]
 have hself : gR o (a.put o.dst v) = o.dst.elim undef fun _ => v := by
  unfold gR; cases hdi : o.dst with
  | none => rfl
  | some d =>
   have hds := hsz i o d ho hdi; have h1 : d < a.tmps.size := by rw [inv.size]; exact hds
   simp [Act.put, h1]
 have hrho : rho ops (a.put o.dst v) = upd (rho ops a) i (o.dst.elim undef fun _ => v) := by
  funext k
  unfold upd; by_cases hk : k = i
  ·subst hk; simp only [rho, ho, if_true]; exact hself
  ·rw [if_neg hk]; unfold rho; cases h : ops[k]? with
   | none => rfl
   | some ok => exact hval k ok h hk
 refine ⟨hEt _ _ _ inv.e he, ?_, ?_, ?_, ?_, ?_⟩
 ·rw [<- inv.defers]; cases o.dst <;> rfl
 ·rw [<- inv.size]; cases o.dst <;> simp [Act.put]
 ·intro s hs; have hsi := hs i o ho (by simp [hlt]); rw [<- inv.rest s (fun j oj hj hl => hs j oj hj (getD_set_true hl))]; cases hdi : o.dst with
  | none => rfl
  | some d =>
   have hne : d ≠ s := fun e => hsi (by rw [hdi, e])
   simp [Act.put, Array.getElem?_setIfInBounds_ne hne]
 ·intro j oj hj hl; rw [hrho]; by_cases hji : j = i
  ·subst hji; exact hg
  ·rw [getD_set_ne _ (Ne.symm hji)] at hl; have hi0 : listed.getD i false = false := by simp [hlt] at h0 ⊢; exact h0
   refine hloc j oj hj (rho ops a) _ _ ?_ (fun e he' hb => ?_) (hG _ _ _ _ (inv.got j oj hj hl) he)
   ·simp [upd, hji]
   ·have := inv.closed j oj hj hl e he' hb; have hne : e.on ≠ i := fun h => by rw [h, hi0] at this; cases this
    simp [upd, hne]
 ·intro j oj hj hl e he' hb; by_cases hji : j = i
  ·subst hji; obtain rfl : oj = o := Option.some.inj (hj.symm.trans ho); exact getD_set_true (hall e he' hb)
  ·rw [getD_set_ne _ (Ne.symm hji)] at hl; exact getD_set_true (inv.closed j oj hj hl e he' hb)
theorem yN {id : Nat} (hm : P.follows .mixedOrders = true) (hB : KN ops.toList a0.tmps.size = true)
  (hE0 : E w0 w0.drew) (hEr : ∀ a, E a a) (hEt : ∀ a b c, E a b -> E b c -> E a c) (hG : ∀ j ρ w w', G j ρ w -> E w w' -> G j ρ w')
  (hloc : ∀ (j : Nat) (o : Oper), ops[j]? = some o -> ∀ ρ ρ' w, ρ j = ρ' j -> (∀ e ∈ o.after, Region.binds .any e = true -> ρ e.on = ρ' e.on) -> G j ρ w -> G j ρ' w)
  (hstep : ∀ (i : Nat) (o : Oper), ops[i]? = some o -> ∀ a w, E w0 w -> Gj ops a0 a -> (∀ e ∈ o.after, Region.binds .any e = true -> G e.on (rho ops a) w) ->
   if Region.wanted o (yielded ops a.tmps) then o.wp P a w (fun a' w' => ∃ v, a' = a.put o.dst v /\ E w w' /\ G i (upd (rho ops a) i (o.dst.elim undef fun _ => v)) w') Q else G i (upd (rho ops a) i undef) w)
  (hend : ∀ vs : zLz, vs.length = ops.size -> ∀ w, E w0 w -> (∀ j, j < ops.size -> G j (fun k => vs.getD k undef) w) -> Q .normal (lC a0 ((ops.toList.map (·.dst)).zip vs)) w) :
  (Code.region id ops true).wp P Q a0 w0 := by
 simp only [KN, Bool.and_eq_true] at hB; obtain ⟨⟨hB1, hB2⟩, hB3⟩ := hB; have hsz : ∀ (i : Nat) (o : Oper) (d : Tmp), ops[i]? = some o -> o.dst = some d -> d < a0.tmps.size := by
  intro i o d hi hd; have := List.all_eq_true.1 hB1 d (List.mem_filterMap.2 ⟨o, List.mem_iff_getElem?.2 ⟨i, by simpa using hi⟩, hd⟩); simpa using this
 have hd : ∀ (i j : Nat) (oi oj : Oper) (d : Tmp), ops[i]? = some oi -> ops[j]? = some oj -> oi.dst = some d -> oj.dst = some d -> i = j :=
  fun i j oi oj d hi hj => xR ops.toList (of_decide_eq_true hB2) i j oi oj d (by simpa using hi) (by simpa using hj)
 have hbk : ∀ (i : Nat) (o : Oper), ops[i]? = some o -> ∀ e ∈ o.after, Region.binds .any e = true -> e.on < i := by
  intro i o hi e he hb; have hz : (o, i) ∈ ops.toList.zipIdx := by
   rw [List.mem_zipIdx_iff_getElem?]; simpa using hi
  have := List.all_eq_true.1 hB3 (o, i) hz; simp only [Array.all_eq_true_iff_forall_mem] at this; have := this e he; simpa [hb] using this
 refine wp_region_any hm ?_; have fin : ∀ (listed : Array Bool) (a : Act) (w : World), listed.size = ops.size -> ParInv ops a0 w0 G E listed a w -> Region.ready .any ops listed = [] -> Q .normal a w := by
  intro listed a w hls inv hr; have hall := uJ hls hbk hr; have hrho : (fun k => (ops.toList.map fun o => gR o a).getD k undef) = rho ops a := by
   funext k
   unfold rho; rw [List.getD_eq_getElem?_getD, List.getElem?_map]; cases h : ops[k]? <;> simp [h]
  have := hend (ops.toList.map fun o => gR o a) (by simp) w inv.e (fun j hj => by
   rw [hrho]; exact inv.got j ops[j] (by simp [hj]) (hall j hj))
  rwa [Bx ops.toList a0 a inv.size inv.defers (fun s hs => inv.rest s (fun j o ho _ => hs j o (by simpa using ho)))] at this
 have main : ∀ (fuel : Nat) (listed : Array Bool) (a : Act) (w : World), listed.size = ops.size -> (listed.toList.filter (fun b => !b)).length <= fuel -> ParInv ops a0 w0 G E listed a w -> wpAny P .any ops Q fuel listed a w := by
  intro fuel
  induction fuel with
  | zero =>
   intro listed a w hls hf inv; have hr : Region.ready .any ops listed = [] := by
    cases h : Region.ready .any ops listed with
    | nil => rfl
    | cons j r =>
     have hj : j ∈ Region.ready .any ops listed := by rw [h]; simp
     obtain ⟨h0, o, ho, _⟩ := mem_ready.1 hj; have hlt : j < listed.size := by rw [hls]; exact (Array.getElem?_eq_some_iff.1 ho).1
     have : false ∈ listed.toList.filter (fun b => !b) := by
      rw [List.mem_filter]; refine ⟨?_, rfl⟩; rw [List.mem_iff_getElem?]; refine ⟨j, ?_⟩; simp [hlt] at h0 ⊢; exact h0
     have h3 := List.length_pos_of_mem this; omega
   exact ⟨hr, fin listed a w hls inv hr⟩
  | succ fuel ih =>
   intro listed a w hls hf inv; refine ⟨fin listed a w hls inv, fun i hi => ?_⟩; obtain ⟨h0, o, ho, hall⟩ := mem_ready.1 hi; have hlt : i < listed.size := by rw [hls]; exact (Array.getElem?_eq_some_iff.1 ho).1
   have hst := hstep i o ho a w inv.e (fun s hs => inv.rest s (fun j oj hj _ => hs j oj hj)) (fun e he hb => by
    have h1 := hbk i o ho e he hb; have h2 := (Array.getElem?_eq_some_iff.1 ho).1; have h3 : e.on < ops.size := by omega
    exact inv.got e.on ops[e.on] (by simp [h3]) (hall e he hb))
   have hcount : ((listed.setIfInBounds i true).toList.filter (fun b => !b)).length <= fuel := by
    have h0' : listed.toList[i]? = some false := by
     simp [hlt] at h0 ⊢; exact h0
    have := vd listed.toList i h0'; rw [Array.toList_setIfInBounds]; omega
   have nextInv : ∀ v w', E w w' -> G i (upd (rho ops a) i (o.dst.elim undef fun _ => v)) w' -> ParInv ops a0 w0 G E (listed.setIfInBounds i true) (a.put o.dst v) w' :=
    fun v w' he hg => Bv hEt hG hloc hd hsz hbk inv ho hlt h0 hall he hg
   unfold wpOp; simp only [ho]; split
   ·rename_i hw; rw [if_pos hw] at hst; refine .inl (Oper.wp_mono (fun a' w' h => ?_) hst); obtain ⟨v, rfl, he, hg⟩ := h; exact ih _ _ _ (by simp [hls]) hcount (nextInv v w' he hg)
   ·rename_i hw; rw [if_neg hw] at hst; refine ih _ _ _ (by simp [hls]) hcount (nextInv undef w (hEr w) ?_); have e : (o.dst.elim undef fun _ => undef) = undef := by cases o.dst <;> rfl
    rw [e]; exact hst
 have hl0 : ∀ j, (Array.replicate ops.size false).getD j false = true -> False := fun j hl => by
  rcases Nat.lt_or_ge j ops.size with h | h
  ·simp [h] at hl
  ·simp [h] at hl
 exact main ops.size (Array.replicate ops.size false) a0 w0.drew (by simp) (by
  refine Nat.le_trans (List.length_filter_le _ _) ?_; simp) ⟨hE0, rfl, rfl, fun s _ => rfl, fun j o _ hl => (hl0 j hl).elim, fun j o _ hl => (hl0 j hl).elim⟩
theorem gN {o : Oper} {y : Nat -> Option Bool} {A B : Prop} (hg : o.guard = none) (h : A) : if Region.wanted o y = true then A else B := by
 simp only [Region.wanted, hg]; exact h
theorem Gj.eval {ops : Array Oper} {a0 a : Act} (h : Gj ops a0 a) {s : Tmp} (hs : (ops.toList.filterMap (·.dst)).contains s = false) : a.eval (.tmp s) = a0.eval (.tmp s) := by
 have := h s (fun j o ho hd => by
  have hm : s ∈ ops.toList.filterMap (·.dst) := List.mem_filterMap.2 ⟨o, List.mem_iff_getElem?.2 ⟨j, by simpa using ho⟩, hd⟩; have h2 : (ops.toList.filterMap (·.dst)).contains s = true := by simpa using hm
  rw [h2] at hs; cases hs)
 simp only [Act.eval, Array.getD_eq_getD_getElem?, this]
def wi (p : Nat -> Oper -> Prop) : Nat -> List Oper -> Prop
 | _, [] => True
 | i, o :: r => p i o /\ wi p (i + 1) r
theorem AX {p : Nat -> Oper -> Prop} : ∀ (l : zOz) (k : Nat), wi p k l -> ∀ (i : Nat) (o : Oper), l[i]? = some o -> p (k + i) o := by
 intro l
 induction l with
 | nil => intro k _ i o h; simp at h
 | cons x r ih =>
  intro k h i o ho; cases i with
  | zero => simp at ho; subst ho; exact h.1
  | succ i => simp at ho; have := ih (k + 1) h.2 i o ho; rwa [show k + 1 + i = k + (i + 1) by omega] at this
theorem rh {p : Nat -> Oper -> Prop} {l : zOz} (h : wi p 0 l) : ∀ (i : Nat) (o : Oper), l.toArray[i]? = some o -> p i o := by
 intro i o ho; have := AX l 0 h i o (by simpa using ho); rwa [Nat.zero_add] at this
end
end
section
theorem rE : ry Tryd.prog 84 8 := ⟨fun _ => by kernel_rfl, by kernel_rfl⟩
theorem mf {W W' : World} {p : Addr} {v : Value} (hb : Below W.heap.size W W') (h : W.cell? p = some v) : W'.cell? p = some v :=
 (hb.cell (block_lt_of_cell h)).trans h
def Len (w : World) (b n : Nat) : Prop := ∃ cs, Arr w b cs /\ cs.length = n
def oU (B : Nat) (X S : zLz) (W W' : World) : Prop := Below B W W' /\ (∀ b n, B <= b -> Len W b n -> Len W' b n) /\ (∀ b, B <= b -> Arr W b X -> Arr W' b X) /\ (∀ b, B <= b -> Arr W b S -> Arr W' b S)
theorem oU.of_below {B : Nat} {X S : zLz} {W W' : World} (h : Below W.heap.size W W') (hB : B <= W.heap.size) : oU B X S W W' :=
 ⟨h.mono hB, fun _ _ _ ⟨cs, ha, hl⟩ => ⟨cs, ha.below' h, hl⟩, fun _ _ ha => ha.below' h, fun _ _ ha => ha.below' h⟩
theorem rf {B g n : Nat} {X S : zLz} {W W' : World} (h : W.grownBy W' (some g)) (hg : B <= g) (hB : B <= W.heap.size) (hn : Len W g n) (hn' : Len W' g n) (hX : X.length = n -> Arr W' g X) (hS : S.length = n -> Arr W' g S) : oU B X S W W' := by
 obtain ⟨cs0, ha0, hl0⟩ := hn; have uniq : ∀ cs, Arr W g cs -> cs.length = n := by
  intro cs ⟨T, h1⟩; obtain ⟨T0, h0⟩ := ha0; rw [h1] at h0; simp only [Option.some.injEq, Obj.cells.injEq] at h0; have := congrArg Array.size h0.1; simp at this; omega
 refine ⟨(Below.refl B W).grown h hB (by intro k hk; cases hk; exact hg), fun b m hb ⟨cs, ha, hl⟩ => ?_, fun b hb ha => ?_, fun b hb ha => ?_⟩
 ·by_cases e : b = g
  ·subst e; rw [<- hl, uniq cs ha]; exact hn'
  ·exact ⟨cs, ha.grown h (by simpa using e), hl⟩
 ·by_cases e : b = g
  ·subst e; exact hX (uniq _ ha)
  ·exact ha.grown h (by simpa using e)
 ·by_cases e : b = g
  ·subst e; exact hS (uniq _ ha)
  ·exact ha.grown h (by simpa using e)
def Kl (B : Nat) (v : Value) (X S : zLz) (j : Nat) (ρ : Nat -> Value) (w : World) : Prop :=
 match j with
 | 0 => ρ 0 = v
 | 1 => ρ 1 = .agg X.toArray
 | 2 => ρ 2 = .agg S.toArray
 | 3 => ∃ b, ρ 3 = .pointer (some ⟨b, 0, none⟩) /\ B <= b /\ Len w b 64
 | 4 => ∃ b, ρ 4 = .pointer (some ⟨b, 0, none⟩) /\ B <= b /\ Len w b 8
 | 5 => ∃ b, ρ 3 = .pointer (some ⟨b, 0, none⟩) /\ B <= b /\ Arr w b X
 | 6 => ∃ b, ρ 4 = .pointer (some ⟨b, 0, none⟩) /\ B <= b /\ Arr w b S
 | _ => True
theorem sF (s : Sha.S8) : s.list.length = 8 := rfl
theorem kW (s : Sha.S8) : (bg s.list).length = 8 := rfl
theorem fG (l : zBz) : (bg (Sha.spread l)).length = 64 := by rw [db, <- Sha.grown_last, Sha.grown_length l 64 (by omega) (by omega)]
theorem Ip (x y : UInt32) : IntKind.u32.wrap ((x.toNat : Int) + y.toNat) = ((x + y).toNat : Int) := by rw [IntKind.wrap_u32']; exact yQ x y
theorem IF (x : UInt32) : bits BinOp.xor IntKind.u32 IntKind.u32.max x.toNat = ((~~~x).toNat : Int) := by
 have e : IntKind.u32.max = ((4294967295 : UInt32).toNat : Int) := by decide
 have h : (4294967295 : UInt32) ^^^ x = ~~~x := by
  apply UInt32.toBitVec_inj.1; rw [UInt32.toBitVec_xor, UInt32.toBitVec_not]; exact BitVec.allOnes_xor
 rw [e, re, h]
theorem Ml (c : Sha.S8) (y x : UInt32) : IntKind.u32.wrap (IntKind.u32.wrap (IntKind.u32.wrap (IntKind.u32.wrap (↑c.h.toNat + ↑(Sha.rot3 c.e 6 11 25).toNat) +
   bits BinOp.xor IntKind.u32 (bits BinOp.and IntKind.u32 ↑c.e.toNat ↑c.f.toNat) (bits BinOp.and IntKind.u32 (bits BinOp.xor IntKind.u32 IntKind.u32.max ↑c.e.toNat) ↑c.g.toNat)) + ↑y.toNat) + ↑x.toNat)
  = ((Sha.tx c y x).toNat : Int) := by
 simp only [Ip, IF, CJ, re]; rfl
theorem Mm (c : Sha.S8) : IntKind.u32.wrap (↑(Sha.rot3 c.a 2 13 22).toNat +
   bits BinOp.xor IntKind.u32 (bits BinOp.xor IntKind.u32 (bits BinOp.and IntKind.u32 ↑c.a.toNat ↑c.b.toNat) (bits BinOp.and IntKind.u32 ↑c.a.toNat ↑c.c.toNat)) (bits BinOp.and IntKind.u32 ↑c.b.toNat ↑c.c.toNat))
  = ((Sha.ty c).toNat : Int) := by
 simp only [Ip, CJ, re]; rfl
theorem Ed {w W W' : World} {p1 p2 p3 p4 p5 p6 p7 p8 p9 : Addr} {v1 v2 v3 v4 v5 v6 v7 v8 v9 : Value} (hb : Below W.heap.size W W')
  (h : W.cell? p1 = some v1 /\ W.cell? p2 = some v2 /\ W.cell? p3 = some v3 /\ W.cell? p4 = some v4 /\ W.cell? p5 = some v5 /\ W.cell? p6 = some v6 /\ W.cell? p7 = some v7 /\ W.cell? p8 = some v8 /\ W.cell? p9 = some v9 /\ Below w.heap.size w W) :
  W'.cell? p1 = some v1 /\ W'.cell? p2 = some v2 /\ W'.cell? p3 = some v3 /\ W'.cell? p4 = some v4 /\ W'.cell? p5 = some v5 /\ W'.cell? p6 = some v6 /\ W'.cell? p7 = some v7 /\ W'.cell? p8 = some v8 /\ W'.cell? p9 = some v9 /\ Below w.heap.size w W' :=
 ⟨mf hb h.1, mf hb h.2.1, mf hb h.2.2.1, mf hb h.2.2.2.1, mf hb h.2.2.2.2.1, mf hb h.2.2.2.2.2.1, mf hb h.2.2.2.2.2.2.1, mf hb h.2.2.2.2.2.2.2.1, mf hb h.2.2.2.2.2.2.2.2.1, h.2.2.2.2.2.2.2.2.2.trans (hb.mono h.2.2.2.2.2.2.2.2.2.size)⟩
set_option maxRecDepth 100000 in
set_option maxHeartbeats 1000000 in
theorem Er (b o cap : Nat) (s : Sha.S8) (l : zBz) (w : World) (hb : b < w.heap.size) (hcell : ∀ i, i < 64 -> w.cell? ⟨b, o + i, none⟩ = some (.int .u8 (l.getD i 0).toNat))
  (hkeys : ∀ i, i < 64 -> w.cell? ⟨1, i, none⟩ = some (.int .u32 (Sha.keys64.getD i 0).toNat)) :
  Calls Tryd.prog 43 #[.agg (bg s.list).toArray, .slice (some ⟨b, o, none⟩) 64 cap] w fun e w' => e = .returned (.agg (bg (Sha.after s l).list).toArray) /\ Below w.heap.size w w' := by
 have HC := Lib.hid hcell; clear hcell; have HK := Lib.hid hkeys; clear hkeys
 go_enter Tryd.func43, Tryd.ntmps43
 go_wp2
 obtain ⟨W, hW⟩ : ∃ W, W = (w.alloc (Obj.cells (bg s.list).toArray 84)).alloc (Obj.cells (bg (List.replicate 8 0)).toArray 84) := ⟨_, rfl⟩
 have hB0 : Below w.heap.size w W := by rw [hW]; exact ((Below.refl _ _).alloc (Nat.le_refl _) _).alloc (by simp) _
 have hs2 : Arr W w.heap.size (bg s.list) := by rw [hW]; exact (Arr.new w _ _).alloc _
 have hs4 : Arr W (w.heap.size + 1) (bg (List.replicate 8 0)) := by rw [hW]; exact Arr.newAt (by simp) _ _
 have hcW : ∀ i, i < 64 -> W.cell? ⟨b, o + i, none⟩ = some (.int .u8 (l.getD i 0).toNat) := fun i hi => (hB0.cell (p := ⟨b, o + i, none⟩) hb).trans (HC.out i hi)
 have hbW : b < W.heap.size := Nat.lt_of_lt_of_le hb hB0.size; change Code.wp _ _ _ _ ((w.alloc (Obj.cells (bg s.list).toArray 84)).alloc (Obj.cells (bg (List.replicate 8 0)).toArray 84)); rw [<- hW]; refine yN (G := Kl W.heap.size (.slice (some ⟨b, o, none⟩) 64 cap) (bg (Sha.spread l)) (bg s.list)) (E := oU W.heap.size (bg (Sha.spread l)) (bg s.list)) (by kernel_rfl) (by kernel_rfl)
  ⟨(Below.refl _ _).drew, fun _ _ _ h => h, fun _ _ h => h, fun _ _ h => h⟩ (fun _ => ⟨Below.refl _ _, fun _ _ _ h => h, fun _ _ h => h, fun _ _ h => h⟩)
  (fun _ _ _ h k => ⟨h.1.trans k.1, fun b n hb hl => k.2.1 b n hb (h.2.1 b n hb hl), fun b hb ha => k.2.2.1 b hb (h.2.2.1 b hb ha), fun b hb ha => k.2.2.2 b hb (h.2.2.2 b hb ha)⟩) ?hG ?hloc ?hstep ?hend
 case hG =>
  intro j ρ w1 w2 hg he
  match j with
  | 0 | 1 | 2 => exact hg
  | 3 | 4 => obtain ⟨b, h1, h2, h3⟩ := hg; exact ⟨b, h1, h2, he.2.1 b _ h2 h3⟩
  | 5 => obtain ⟨b, h1, h2, h3⟩ := hg; exact ⟨b, h1, h2, he.2.2.1 b h2 h3⟩
  | 6 => obtain ⟨b, h1, h2, h3⟩ := hg; exact ⟨b, h1, h2, he.2.2.2 b h2 h3⟩
  | n + 7 => trivial
 case hloc =>
  refine rh ⟨?_, ?_, ?_, ?_, ?_, ?_, ?_, trivial⟩ <;> intro ρ ρ' w h0 he hg
  ·exact h0.symm.trans hg
  ·exact h0.symm.trans hg
  ·exact h0.symm.trans hg
  ·obtain ⟨b, h1, h2, h3⟩ := hg; exact ⟨b, h0.symm.trans h1, h2, h3⟩
  ·obtain ⟨b, h1, h2, h3⟩ := hg; exact ⟨b, h0.symm.trans h1, h2, h3⟩
  ·obtain ⟨b, h1, h2, h3⟩ := hg; exact ⟨b, (he ⟨3, .data⟩ (by simp) rfl).symm.trans h1, h2, h3⟩
  ·obtain ⟨b, h1, h2, h3⟩ := hg; exact ⟨b, (he ⟨4, .data⟩ (by simp) rfl).symm.trans h1, h2, h3⟩
 case hstep =>
  refine rh ⟨?_, ?_, ?_, ?_, ?_, ?_, ?_, trivial⟩ <;> intro a w1 hE hR hd
  ·refine gN rfl ?_; exact Kk (.tmp 1) rfl ⟨_, rfl, ⟨Below.refl _ _, fun _ _ _ h => h, fun _ _ h => h, fun _ _ h => h⟩, hR.eval rfl⟩
  ·refine gN rfl ?_; have h0 := hd ⟨0, .data⟩ (by simp) rfl; refine nq 68 Tryd.call68 _ _ rfl [.slice (some ⟨b, o, none⟩) 64 cap] (by rw [<- show a.eval (.tmp 11) = .slice (some ⟨b, o, none⟩) 64 cap from h0]; rfl) ?_; refine (DQ b o cap l w1 (Nat.lt_of_lt_of_le hbW hE.1.size) (fun i hi => (hE.1.cell (p := ⟨b, o + i, none⟩) hbW).trans (hcW i hi))).mono ?_; rintro e w2 ⟨rfl, hb2⟩; exact ⟨_, rfl, _, rfl, oU.of_below hb2 hE.1.size, rfl⟩
  ·refine gN rfl ?_; refine rm _ _ rfl w.heap.size 0 (hR.eval rfl) (bg s.list) rE (fun j v hv => ?_) ⟨_, rfl, ⟨Below.refl _ _, fun _ _ _ h => h, fun _ _ h => h, fun _ _ h => h⟩, rfl⟩; rw [Nat.zero_add, hE.1.cell (p := ⟨w.heap.size, j, none⟩) hs2.lt]; exact hs2.cell hv
  ·refine gN rfl ?_; refine AR _ rfl (.agg (bg (List.replicate 64 0)).toArray) 64 (by kernel_rfl) ⟨_, rfl, oU.of_below ((Below.refl _ _).alloc (Nat.le_refl _) _) hE.1.size, _, rfl, hE.1.size, _, Arr.new w1 (bg (List.replicate 64 0)) _, ?_⟩; rw [db, List.length_replicate]
  ·refine gN rfl ?_; refine AR _ rfl (.agg (bg (List.replicate 8 0)).toArray) 8 (by kernel_rfl) ⟨_, rfl, oU.of_below ((Below.refl _ _).alloc (Nat.le_refl _) _) hE.1.size, _, rfl, hE.1.size, _, Arr.new w1 (bg (List.replicate 8 0)) _, ?_⟩; rw [db, List.length_replicate]
  ·refine gN rfl ?_; have h1 := hd ⟨1, .data⟩ (by simp) rfl; obtain ⟨b3, h3, hB3, hl3⟩ := hd ⟨3, .data⟩ (by simp) rfl; obtain ⟨cs3, ha3, hc3⟩ := hl3; refine mb rfl _ _ _ rfl b3 0 h3 (bg (Sha.spread l)) h1 (by rw [fG]; kernel_rfl) (kL _) cs3 ha3 (by rw [fG, hc3]; omega) fun w2 ha hg => ?_
   rw [ir _ _ (by rw [fG, hc3])] at ha; exact ⟨undef, rfl, rf hg hB3 hE.1.size ⟨cs3, ha3, hc3⟩ ⟨_, ha, fG l⟩ (fun _ => ha) (fun h => by rw [kW] at h; cases h), b3, h3, hB3, ha⟩
  ·refine gN rfl ?_; have h1 := hd ⟨2, .data⟩ (by simp) rfl; obtain ⟨b3, h3, hB3, hl3⟩ := hd ⟨4, .data⟩ (by simp) rfl; obtain ⟨cs3, ha3, hc3⟩ := hl3; refine mb rfl _ _ _ rfl b3 0 h3 (bg s.list) h1 (by rw [kW]; kernel_rfl) (kL _) cs3 ha3 (by rw [kW, hc3]; omega) fun w2 ha hg => ?_
   rw [ir _ _ (by rw [kW, hc3])] at ha; exact ⟨undef, rfl, rf hg hB3 hE.1.size ⟨cs3, ha3, hc3⟩ ⟨_, ha, kW s⟩ (fun h => by rw [fG] at h; cases h) (fun _ => ha), b3, h3, hB3, ha⟩
 case hend =>
  intro vs hvs w1 hE hall; obtain ⟨v0, v1, v2, v3, v4, v5, v6, rfl⟩ : ∃ v0 v1 v2 v3 v4 v5 v6, vs = [v0, v1, v2, v3, v4, v5, v6] := by
   match vs, hvs with
   | [v0, v1, v2, v3, v4, v5, v6], _ => exact ⟨v0, v1, v2, v3, v4, v5, v6, rfl⟩
  have e0 := hall 0 (by simp); have e1 := hall 1 (by simp); have e2 := hall 2 (by simp); obtain ⟨b5, e3, hB5, hA5⟩ := hall 5 (by simp); obtain ⟨b6, e4, hB6, hA6⟩ := hall 6 (by simp); have hne : b5 ≠ b6 := by
   rintro rfl; obtain ⟨T, h1⟩ := hA5; obtain ⟨T', h2⟩ := hA6; rw [h1] at h2; simp only [Option.some.injEq, Obj.cells.injEq] at h2; have := congrArg Array.size h2.1; simp [fG, kW] at this
  simp only [Kl, List.getD_cons_zero, List.getD_cons_succ] at e0 e1 e2 e3 e4; subst e0 e1 e2 e3 e4; have hs2' : Arr w1 w.heap.size (bg s.list) := hs2.below' hE.1; have hs4' : Arr w1 (w.heap.size + 1) (bg (List.replicate 8 0)) := hs4.below' hE.1; have hB1 : Below w.heap.size w w1 := hB0.trans (hE.1.mono hB0.size); have hb5 : w.heap.size + 2 <= b5 := by rw [hW] at hB5; simpa using hB5
  have hb6 : w.heap.size + 2 <= b6 := by rw [hW] at hB6; simpa using hB6
  clear hE hall hB5 hB6 hcW hbW hs2 hs4 hB0 hvs; clear hW W; simp only [lC, List.map_cons, List.map_nil, List.zip_cons_cons, List.zip_nil_right, Act.put, List.setIfInBounds_toArray, List.set_cons_zero, List.set_cons_succ]
  go_wp2
  have hk1 : 1 < w.heap.size := block_lt_of_cell (HK.out 0 (by omega))
  go_loopw [14] (fun i wr => ∃ k : Nat, k <= 64 /\ i = .int .i64 k /\ Arr wr b5 (bg (Sha.spread l)) /\ Arr wr b6 (bg (Sha.rounds (Sha.spread l) s k).list) /\ Arr wr w.heap.size (bg s.list) /\ Arr wr (w.heap.size + 1) (bg (List.replicate 8 0)) /\ Below w.heap.size w wr) (fun i _ => 64 - (intOf i).toNat)
  case atStart => exact ⟨0, by omega, rfl, hA5, hA6, hs2', hs4', hB1⟩
  case round =>
   clear hA5 hA6 hs2' hs4' hB1; obtain ⟨k, hk, rfl, h5, h6, h2, h4, hB⟩ := hrel; by_cases hlt : k < 64
   ·obtain ⟨c, hc⟩ : ∃ c, c = Sha.rounds (Sha.spread l) s k := ⟨_, rfl⟩
    rw [<- hc] at h6; obtain ⟨x, hx⟩ : ∃ x, x = (Sha.spread l).getD k 0 := ⟨_, rfl⟩
    obtain ⟨y, hy⟩ : ∃ x, x = Sha.keys64.getD k 0 := ⟨_, rfl⟩
    have c0 : wr.cell? ⟨b6, 0, none⟩ = some (.int .u32 c.a.toNat) := h6.cell rfl; have c1 : wr.cell? ⟨b6, 1, none⟩ = some (.int .u32 c.b.toNat) := h6.cell rfl; have c2 : wr.cell? ⟨b6, 2, none⟩ = some (.int .u32 c.c.toNat) := h6.cell rfl; have c3 : wr.cell? ⟨b6, 3, none⟩ = some (.int .u32 c.d.toNat) := h6.cell rfl; have c4 : wr.cell? ⟨b6, 4, none⟩ = some (.int .u32 c.e.toNat) := h6.cell rfl; have c5 : wr.cell? ⟨b6, 5, none⟩ = some (.int .u32 c.f.toNat) := h6.cell rfl; have c6 : wr.cell? ⟨b6, 6, none⟩ = some (.int .u32 c.g.toNat) := h6.cell rfl; have c7 : wr.cell? ⟨b6, 7, none⟩ = some (.int .u32 c.h.toNat) := h6.cell rfl; have cx := h5.cell (ga (l := Sha.spread l) (i := k) (by have := fG l; rw [db] at this; omega)); have cy : wr.cell? ⟨1, k, none⟩ = some (.int .u32 (Sha.keys64.getD k 0).toNat) := (hB.cell (p := ⟨1, k, none⟩) hk1).trans (HK.out k hlt); rw [<- hx] at cx; rw [<- hy] at cy; have HX := Lib.hid hx; clear hx; have HY := Lib.hid hy; clear hy; have HCC := Lib.hid hc; clear hc; have G5 := Lib.hid h5; clear h5; have G6 := Lib.hid h6; clear h6; have G2 := Lib.hid h2; clear h2; have G4 := Lib.hid h4; clear h4; have GB := Lib.hid hB; clear hB
    go_wp2
    go_region_held3 (fun W' => W'.cell? ⟨b6, 0, none⟩ = some (.int .u32 c.a.toNat) /\ W'.cell? ⟨b6, 1, none⟩ = some (.int .u32 c.b.toNat) /\ W'.cell? ⟨b6, 2, none⟩ = some (.int .u32 c.c.toNat) /\ W'.cell? ⟨b6, 4, none⟩ = some (.int .u32 c.e.toNat) /\ W'.cell? ⟨b6, 5, none⟩ = some (.int .u32 c.f.toNat) /\ W'.cell? ⟨b6, 6, none⟩ = some (.int .u32 c.g.toNat) /\ W'.cell? ⟨b6, 7, none⟩ = some (.int .u32 c.h.toNat) /\ W'.cell? ⟨b5, k, none⟩ = some (.int .u32 x.toNat) /\ W'.cell? ⟨1, k, none⟩ = some (.int .u32 y.toNat) /\ Below wr.heap.size wr W') (first | exact Ed (by assumption) (by assumption) | (exact ⟨c0, c1, c2, c4, c5, c6, c7, cx, cy, (Below.refl _ _).drew⟩))
     (first | (go_at_call 69; refine (Fk _ _ _ 6 11 25 c.e _ rfl rfl rfl (by decide) (by decide) (by decide)).mono ?_; rintro e w2 ⟨rfl, hb2⟩))
    rename_i S1; obtain ⟨d0, d1, d2, d4, d5, d6, d7, dx, dy, dB⟩ := S1
    go_wp2
    rw [Ml]
    go_region_held3 (fun W' => W'.cell? ⟨b6, 0, none⟩ = some (.int .u32 c.a.toNat) /\ W'.cell? ⟨b6, 1, none⟩ = some (.int .u32 c.b.toNat) /\ W'.cell? ⟨b6, 2, none⟩ = some (.int .u32 c.c.toNat) /\ W'.cell? ⟨b6, 4, none⟩ = some (.int .u32 c.e.toNat) /\ W'.cell? ⟨b6, 5, none⟩ = some (.int .u32 c.f.toNat) /\ W'.cell? ⟨b6, 6, none⟩ = some (.int .u32 c.g.toNat) /\ W'.cell? ⟨b6, 7, none⟩ = some (.int .u32 c.h.toNat) /\ W'.cell? ⟨b5, k, none⟩ = some (.int .u32 x.toNat) /\ W'.cell? ⟨1, k, none⟩ = some (.int .u32 y.toNat) /\ Below wr.heap.size wr W') (first | exact Ed (by assumption) (by assumption) | (exact ⟨d0, d1, d2, d4, d5, d6, d7, dx, dy, dB.drew⟩))
     (first | (go_at_call 69; refine (Fk _ _ _ 2 13 22 c.a _ rfl rfl rfl (by decide) (by decide) (by decide)).mono ?_; rintro e w3 ⟨rfl, hb3⟩))
    clear d0 d1 d2 d4 d5 d6 d7 dx dy dB; rename_i S2; obtain ⟨d0, d1, d2, d4, d5, d6, d7, dx, dy, dB⟩ := S2
    go_wp2
    rw [Mm]; have A3 := Lib.hid (G6.out.below' dB)
    go_still_tail 2, (by kernel_rfl)
    refine wh rfl _ _ _ _ rfl 83 (by kernel_rfl) (by kernel_rfl) b6 1 _ _ b6 0 _ _ rfl rfl (bg [c.a, c.b, c.c, c.d, c.e, c.f, c.g]) (by simp [bg]) (fun j v hv => ?_) _ A3.out (by simp [bg, Sha.S8.list]) (kL _) ?_
    ·have hj : j < 7 := by
      have := (List.getElem?_eq_some_iff.1 hv).1; simpa [bg] using this
     refine A3.out.cell ?_; rw [<- hv, Nat.zero_add]
     match j, hj with
     | 0, _ | 1, _ | 2, _ | 3, _ | 4, _ | 5, _ | 6, _ => rfl
    intro w4 hA4 hg4; have hA4' : Arr w4 b6 (bg [c.a, c.a, c.b, c.c, c.d, c.e, c.f, c.g]) := hA4; have e0 : w4.cell? ⟨b6, 0, none⟩ = some (.int .u32 c.a.toNat) := hA4'.cell rfl; have e4 : w4.cell? ⟨b6, 4, none⟩ = some (.int .u32 c.d.toNat) := hA4'.cell rfl; have f0 : w4.frozen? ⟨b6, 0, none⟩ = false := hA4'.frozen 0; have f4 : w4.frozen? ⟨b6, 4, none⟩ = false := hA4'.frozen 4; have A4 := Lib.hid hA4'; clear hA4 hA4'; have g4 : Hid (w3.drew.grownBy w4 (some b6)) := hg4; clear hg4; have dB' := Lib.hid dB; clear dB; clear c0 c1 c2 c3 c4 c5 c6 c7 cx cy d0 d1 d2 d4 d5 d6 d7 dx dy
    go_wp2
    go_roundw
    case rel =>
     have hS := dB'.out; have b5' : Arr w4 b5 (bg (Sha.spread l)) := ((G5.out.below' hS).drew).grown g4.out (by simpa using hne); have b2' : Arr w4 w.heap.size (bg s.list) := ((G2.out.below' hS).drew).grown g4.out (by simp; omega); have b4' : Arr w4 (w.heap.size + 1) (bg (List.replicate 8 0)) := ((G4.out.below' hS).drew).grown g4.out (by simp; omega); have bB' : Below w.heap.size w w4 := (GB.out.trans (hS.mono GB.out.size)).drew.grown g4.out (Nat.le_trans GB.out.size hS.size) (by intro q hq; cases hq; omega); have hr : Sha.rounds (Sha.spread l) s (k + 1) = Sha.round c y x := by rw [HX.out, HY.out, HCC.out]; rfl
     have v0 : ((Sha.tx c y x).toNat : Int) + (Sha.ty c).toNat = 0 \/ True := Or.inr trivial; rw [yQ, yQ]; refine ⟨k + 1, by omega, by go_num, (b5'.other (by simpa using Ne.symm hne) _).other (by simpa using Ne.symm hne) _, ?_, (b2'.other (by simp; omega) _).other (by simp; omega) _, (b4'.other (by simp; omega) _).other (by simp; omega) _, (bB'.setCell (by simp; omega) _).setCell (by simp; omega) _⟩; rw [hr]; exact (A4.out.set 0 _).set 4 _
    case measure => simp [intOf]; omega
   ·have hk64 : k = 64 := by omega
    rw [hk64] at h6; obtain ⟨c, hc⟩ : ∃ c, c = Sha.rounds (Sha.spread l) s 64 := ⟨_, rfl⟩
    rw [<- hc] at h6; have HCC := Lib.hid hc; clear hc hk64; clear h5
    go_wp2
    go_loopw [78] (fun i wr => ∃ j : Nat, j <= 8 /\ i = .int .i64 j /\ Arr wr b6 (bg ((Sha.plus s c).list.take j ++ c.list.drop j)) /\ Arr wr w.heap.size (bg s.list) /\ Arr wr (w.heap.size + 1) (bg (List.replicate 8 0)) /\ Below w.heap.size w wr) (fun i _ => 8 - (intOf i).toNat)
    case atStart => exact ⟨0, by omega, rfl, h6, h2, h4, hB⟩
    case round =>
     clear h6 h2 h4 hB hk hlt; obtain ⟨j, hj, rfl, h6, h2, h4, hB⟩ := hrel; by_cases hlt : j < 8
     ·obtain ⟨x, hx⟩ : ∃ x, x = ((Sha.plus s c).list.take j ++ c.list.drop j).getD j 0 := ⟨_, rfl⟩
      obtain ⟨y, hy⟩ : ∃ x, x = s.list.getD j 0 := ⟨_, rfl⟩
      have hll : ((Sha.plus s c).list.take j ++ c.list.drop j).length = 8 := by simp [Sha.S8.list]; omega
      have cx := h6.cell (ga (i := j) (by rw [hll]; exact hlt)); have cy := h2.cell (ga (l := s.list) (i := j) hlt); have fx := h6.frozen j; rw [<- hx] at cx; rw [<- hy] at cy; have HX := Lib.hid hx; clear hx; have HY := Lib.hid hy; clear hy; have G6 := Lib.hid h6; clear h6; have G2 := Lib.hid h2; clear h2; have G4 := Lib.hid h4; clear h4; have GB := Lib.hid hB; clear hB; clear hll
      go_wp2
      go_region
      all_goals go_wp2
      go_roundw
      case rel =>
       rw [yQ]; refine ⟨j + 1, by omega, by go_num, ?_, G2.out.other (by simp; omega) _, G4.out.other (by simp; omega) _, (GB.out.setCell (by simp; omega) _).drew⟩; have e : ((Sha.plus s c).list.take j ++ c.list.drop j).set j (x + y) = (Sha.plus s c).list.take (j + 1) ++ c.list.drop (j + 1) := by
        rw [HX.out, HY.out]
        match j, hlt with
        | 0, _ | 1, _ | 2, _ | 3, _ | 4, _ | 5, _ | 6, _ | 7, _ => rfl
       rw [<- e, <- uu]; exact G6.out.set _ _
      case measure => simp [intOf]; omega
     ·have hj8 : j = 8 := by omega
      have h6' : Arr wr b6 (bg (Sha.after s l).list) := by
       have e : (Sha.plus s c).list.take j ++ c.list.drop j = (Sha.after s l).list := by rw [hj8, HCC.out]; rfl
       rw [<- e]; exact h6
      have G6 := Lib.hid h6'; clear h6 h6' hj8; have G2 := Lib.hid h2; clear h2; have G4 := Lib.hid h4; clear h4; have GB := Lib.hid hB; clear hB
      go_wp2_with (first
       | (refine gS rfl _ _ rfl _ _ rfl (bg (Sha.after s l).list) rE (fun j v hv => by rw [Nat.zero_add]; exact G6.out.cell hv) ?_)
       | (refine gE rfl rfl _ _ _ rfl _ _ rfl (bg (Sha.after s l).list) rfl rE.2 (kL _) _ G4.out (by simp [db, sF]) ?_; intro w2 hA2 hG2))
      refine pt rfl rfl _ rfl _ hA2 ?_ ⟨?_, ?_⟩
      ·rw [ir _ _ (by simp [db, sF])]; exact rE
      ·rw [ir _ _ (by simp [db, sF])]
      ·exact GB.out.grown hG2 GB.out.size (by intro k hk; cases hk; omega)
end
section
open Go.RowKit Go.Shelf
attribute [local go_sem] Oper.semAt_some
theorem Gy (ao : Option Addr) (n cap : Nat) (w : World) (hn : n <= cap) (hc : cap <= 9223372036854775807) (hnil : ao = none -> cap = 0) :
  Calls Tryd.prog 41 #[.slice ao n cap] w fun e w' => e = .returned (.slice ao n n) /\ w = w' := by
 go_enter Tryd.func41, Tryd.ntmps41
 go_wp2
 go_ret
 exact ⟨rfl, rfl⟩
theorem EG (ao : Option Addr) (n cap : Nat) (w : World) :
  Calls Tryd.prog 42 #[.slice ao n cap, .int .i64 64] w fun e w' => e = .returned (.func (.func 67) #[] #[.pointer (some ⟨w.heap.size, 0, none⟩), .pointer (some ⟨w.heap.size + 1, 0, none⟩)]) /\
   w' = (w.alloc (.cells #[.slice ao n cap] 30)).alloc (.cells #[.int .i64 64] 3) := by
 go_enter Tryd.func42, Tryd.ntmps42
 go_wp2
 go_ret
 exact ⟨rfl, rfl⟩
def KpC (Bs : Nat) (W W' : World) : Prop := W'.heap[Bs]? = W.heap[Bs]? /\ W'.heap[Bs + 1]? = W.heap[Bs + 1]?
theorem KpC.trans {Bs : Nat} {A B C : World} (h : KpC Bs A B) (k : KpC Bs B C) : KpC Bs A C := ⟨k.1.trans h.1, k.2.trans h.2⟩
theorem KpC.putObj {Bs l : Nat} (W : World) (o' : Obj) (hl : Bs + 1 < l) : KpC Bs W (W.putObj l o') :=
 ⟨World.putObj_heap_other (by omega), World.putObj_heap_other (by omega)⟩
theorem KpC.cell0 {Bs : Nat} {W W' : World} (h : KpC Bs W W') : W'.cell? ⟨Bs, 0, none⟩ = W.cell? ⟨Bs, 0, none⟩ := World.cell?_of_block h.1
theorem KpC.cell1 {Bs : Nat} {W W' : World} (h : KpC Bs W W') : W'.cell? ⟨Bs + 1, 0, none⟩ = W.cell? ⟨Bs + 1, 0, none⟩ := World.cell?_of_block h.2
theorem KpC.of_below {Bs B : Nat} {W W' : World} (h : Below B W W') (hB : Bs + 1 < B) : KpC Bs W W' := ⟨h.block _ (by omega), h.block _ hB⟩
theorem GJ (m k : Nat) (h : k < m) : (List.finRange m).take (k + 1) = (List.finRange m).take k ++ [⟨k, h⟩] := by
 rw [List.take_succ_eq_append_getElem (by simpa using h)]; simp
set_option maxRecDepth 100000 in
set_option maxHeartbeats 1000000 in
theorem EF (n : Nat) (hn : 1 <= n) (l Bs g m cap : Nat) (hm : 64 * m <= cap) (hcap : cap <= 9223372036854775807) (J Jx : List (Fin m) -> World -> Prop) (hJd : ∀ pre W, J pre W -> J pre W.drew)
  (hY : ∀ pre x W, J pre W -> pre.length < m -> YieldAt Fence.wide (n - 1) Tryd.prog l #[.slice (some ⟨g, 64 * x.1, none⟩) 64 64] W fun e W' =>
   (e = .returned (.bool true) /\ J (pre ++ [x]) W' /\ KpC Bs W W') \/ (e = .returned (.bool false) /\ Jx (pre ++ [x]) W'))
  (W : World) (hb0 : W.cell? ⟨Bs, 0, none⟩ = some (.slice (some ⟨g, 0, none⟩) (64 * m) cap)) (hb1 : W.cell? ⟨Bs + 1, 0, none⟩ = some (.int .i64 64)) (h0 : J [] W) :
  CallsIn Fence.wide n Tryd.prog 67 #[.func (.yield l) #[] #[], .pointer (some ⟨Bs, 0, none⟩), .pointer (some ⟨Bs + 1, 0, none⟩)] W fun e W' => (∃ v, e = .returned v) /\
   ((∃ ys, ys = List.finRange m /\ J ys W') \/ (∃ pre, Jx pre W')) := by
 refine callsIn_of_wp Tryd.func67 rfl trivial ?_ rfl; simp only [Tryd.ntmps67, List.size_toArray, List.length_cons, List.length_nil, Nat.reduceAdd, Nat.reduceSub, Array.replicate_succ, Array.replicate_zero, List.push_toArray, List.append_toArray, List.nil_append, List.cons_append]
 gi_wp2
 gi_loopw [4] (fun i wr => ∃ k : Nat, k <= m /\ i = .int .i64 ((64 * k : Nat) : Int) /\ J ((List.finRange m).take k) wr /\ KpC Bs W wr) (fun i _ => 64 * m - (intOf i).toNat)
 case atStart => exact ⟨0, Nat.zero_le _, rfl, h0, rfl, rfl⟩
 case round =>
  obtain ⟨k, hk, rfl, hJs, hnx⟩ := hrel; have c0 : wr.cell? ⟨Bs, 0, none⟩ = some (.slice (some ⟨g, 0, none⟩) (64 * m) cap) := hnx.cell0.trans hb0; have c1 : wr.cell? ⟨Bs + 1, 0, none⟩ = some (.int .i64 64) := hnx.cell1.trans hb1; by_cases hlt : k < m
  ·obtain ⟨fn, tmps, assign, body, hy, hR⟩ := hY ((List.finRange m).take k) ⟨k, hlt⟩ wr.drew (hJd _ _ hJs) (by simp; omega)
   gi_wp2
   refine wpIn_wide.2 ?_
   go_region
   all_goals gi_wp2
   refine hR.mono ?_; rintro e W3 (⟨rfl, hJ3, hk3⟩ | ⟨rfl, hJx3⟩)
   ·have d0 : W3.cell? ⟨Bs, 0, none⟩ = some (.slice (some ⟨g, 0, none⟩) (64 * m) cap) := hk3.cell0.trans c0; have d1 : W3.cell? ⟨Bs + 1, 0, none⟩ = some (.int .i64 64) := hk3.cell1.trans c1
    gi_wp2
    go_roundw
    case rel => exact ⟨k + 1, by omega, by go_num, by rw [GJ m k hlt]; exact hJ3, hnx.trans hk3⟩
    case measure => simp [intOf]; omega
   ·gi_wp2
    refine bodyPost_ret (results_none rfl _ _ _) rfl ?_; exact ⟨⟨_, rfl⟩, .inr ⟨_, hJx3⟩⟩
  ·obtain rfl : k = m := by omega
   gi_wp2
   go_end0
   exact ⟨⟨_, rfl⟩, .inl ⟨_, rfl, by rw [List.take_of_length_le (by simp)] at hJs; exact hJs⟩⟩
theorem Bi (n : Nat) (hn : 1 <= n) (Bs g m cap : Nat) (hm : 64 * m <= cap) (hcap : cap <= 9223372036854775807) (w : World) (hBs : Bs + 1 < w.heap.size)
  (hb0 : w.cell? ⟨Bs, 0, none⟩ = some (.slice (some ⟨g, 0, none⟩) (64 * m) cap)) (hb1 : w.cell? ⟨Bs + 1, 0, none⟩ = some (.int .i64 64)) :
  SeqStopsK Fence.wide n Tryd.prog 67 #[.pointer (some ⟨Bs, 0, none⟩), .pointer (some ⟨Bs + 1, 0, none⟩)] (fun x : Fin m => #[Value.slice (some ⟨g, 64 * x.1, none⟩) 64 64]) (KpC Bs) (fun ys => ys = List.finRange m) (fun _ => True) m w :=
 fun l J Jx W hW hJ _ hY h0 => by
  refine (EF n hn l Bs g m cap hm hcap J Jx (fun pre W' h => hJ pre W' _ none h ⟨rfl, rfl, rfl, Nat.le_refl _, fun _ _ _ => rfl⟩ (fun r e => by cases e)) hY W
   ((hW.cell (p := ⟨Bs, 0, none⟩) (by simp; omega)).trans hb0) ((hW.cell (p := ⟨Bs + 1, 0, none⟩) (by simp; omega)).trans hb1) h0).mono ?_
  rintro e W' ⟨he, ⟨ys, rfl, hj⟩ | ⟨pre, hj⟩⟩
  ·exact ⟨he, .inl ⟨_, rfl, hj⟩⟩
  ·exact ⟨he, .inr ⟨_, trivial, hj⟩⟩
end
end Go.Proofs.YtaclinnjekdgoaaDoor
