/-
  Plain Lean: the hash function SHA-256 on lists of bytes and the tree of hashes, as functions on lists; no program in sight.
-/
namespace Go.Proofs.YtmindblfbijaaaaDoor
namespace Sha
/-- A word turned right by n bits (1 to 31). -/
def rotr (x : UInt32) (n : Nat) : UInt32 := UInt32.ofNat ((x.toNat / 2 ^ n) ||| (x.toNat * 2 ^ (32 - n) % 4294967296))
def rot3 (x : UInt32) (a b c : Nat) : UInt32 := rotr x a ^^^ rotr x b ^^^ rotr x c
def shr (x : UInt32) (n : Nat) : UInt32 := UInt32.ofNat (x.toNat / 2 ^ n)
def low (y : UInt32) : UInt32 := rotr y 7 ^^^ rotr y 18 ^^^ shr y 3
def high (z : UInt32) : UInt32 := rotr z 17 ^^^ rotr z 19 ^^^ shr z 10
def begin8 : List UInt32 := [0x6a09e667, 0xbb67ae85, 0x3c6ef372, 0xa54ff53a, 0x510e527f, 0x9b05688c, 0x1f83d9ab, 0x5be0cd19]
def keys64 : List UInt32 := [
  0x428a2f98, 0x71374491, 0xb5c0fbcf, 0xe9b5dba5, 0x3956c25b, 0x59f111f1, 0x923f82a4, 0xab1c5ed5,
  0xd807aa98, 0x12835b01, 0x243185be, 0x550c7dc3, 0x72be5d74, 0x80deb1fe, 0x9bdc06a7, 0xc19bf174,
  0xe49b69c1, 0xefbe4786, 0x0fc19dc6, 0x240ca1cc, 0x2de92c6f, 0x4a7484aa, 0x5cb0a9dc, 0x76f988da,
  0x983e5152, 0xa831c66d, 0xb00327c8, 0xbf597fc7, 0xc6e00bf3, 0xd5a79147, 0x06ca6351, 0x14292967,
  0x27b70a85, 0x2e1b2138, 0x4d2c6dfc, 0x53380d13, 0x650a7354, 0x766a0abb, 0x81c2c92e, 0x92722c85,
  0xa2bfe8a1, 0xa81a664b, 0xc24b8b70, 0xc76c51a3, 0xd192e819, 0xd6990624, 0xf40e3585, 0x106aa070,
  0x19a4c116, 0x1e376c08, 0x2748774c, 0x34b0bcb5, 0x391c0cb3, 0x4ed8aa4a, 0x5b9cca4f, 0x682e6ff3,
  0x748f82ee, 0x78a5636f, 0x84c87814, 0x8cc70208, 0x90befffa, 0xa4506ceb, 0xbef9a3f7, 0xc67178f2]
/-- The word number t of a block. -/
def word (b : List UInt8) (t : Nat) : UInt32 :=
  UInt32.ofNat ((((b.getD (4 * t) 0).toNat * 256 + (b.getD (4 * t + 1) 0).toNat) * 256 + (b.getD (4 * t + 2) 0).toNat) * 256 + (b.getD (4 * t + 3) 0).toNat)
def words (b : List UInt8) : List UInt32 := (List.range 16).map (word b)
def next (w : List UInt32) (t : Nat) : UInt32 := w.getD (t - 16) 0 + w.getD (t - 7) 0 + low (w.getD (t - 15) 0) + high (w.getD (t - 2) 0)
/-- The first 16 + n words. -/
def grow (w : List UInt32) : Nat → List UInt32
  | 0 => w
  | n + 1 => let v := grow w n; v ++ [next v (16 + n)]
def spread (b : List UInt8) : List UInt32 := grow (words b) 48
structure S8 where
  (a b c d e f g h : UInt32)
def S8.list (s : S8) : List UInt32 := [s.a, s.b, s.c, s.d, s.e, s.f, s.g, s.h]
def tx (s : S8) (k w : UInt32) : UInt32 := s.h + rot3 s.e 6 11 25 + (s.e &&& s.f ^^^ ~~~s.e &&& s.g) + k + w
def ty (s : S8) : UInt32 := rot3 s.a 2 13 22 + (s.a &&& s.b ^^^ s.a &&& s.c ^^^ s.b &&& s.c)
def round (s : S8) (k w : UInt32) : S8 := ⟨tx s k w + ty s, s.a, s.b, s.c, s.d + tx s k w, s.e, s.f, s.g⟩
def rounds (w : List UInt32) (s : S8) : Nat → S8
  | 0 => s
  | n + 1 => let c := rounds w s n; round c (keys64.getD n 0) (w.getD n 0)
def plus (s c : S8) : S8 := ⟨c.a + s.a, c.b + s.b, c.c + s.c, c.d + s.d, c.e + s.e, c.f + s.f, c.g + s.g, c.h + s.h⟩
def after (s : S8) (b : List UInt8) : S8 := plus s (rounds (spread b) s 64)
def first : S8 := ⟨0x6a09e667, 0xbb67ae85, 0x3c6ef372, 0xa54ff53a, 0x510e527f, 0x9b05688c, 0x1f83d9ab, 0x5be0cd19⟩
/-- How many bytes 0 follow the byte 128. -/
def zeros (n : Nat) : Nat := (119 - n % 64) % 64
def lenBytes (n : Nat) : List UInt8 := (List.range 8).map fun i => UInt8.ofNat (8 * n / 2 ^ (56 - 8 * i))
def padded (b : List UInt8) : List UInt8 := b ++ [128] ++ List.replicate (zeros b.length) 0 ++ lenBytes b.length
def over (all : List UInt8) : Nat → S8
  | 0 => first
  | n + 1 => after (over all n) ((all.drop (64 * n)).take 64)
def out (s : S8) : List UInt8 := (List.range 32).map fun i => UInt8.ofNat ((s.list.getD (i / 4) 0).toNat / 2 ^ (24 - 8 * (i % 4)))
/-- The hash of a list of bytes. -/
def sum (b : List UInt8) : List UInt8 := out (over (padded b) ((padded b).length / 64))
/-- The first n bytes of the word j, as a number; the words when k bytes have been taken. -/
def part (b : List UInt8) (j : Nat) : Nat → Nat
  | 0 => 0
  | n + 1 => part b j n * 256 + (b.getD (4 * j + n) 0).toNat
def fill (b : List UInt8) (k : Nat) : List UInt32 := (List.range 64).map fun j => UInt32.ofNat (part b j (min 4 (k - 4 * j)))
theorem part_lt (b : List UInt8) (j n : Nat) : part b j n < 256 ^ n := by
  induction n with
  | zero => simp [part]
  | succ n ih => have := (b.getD (4 * j + n) 0).toNat_lt; simp only [part, Nat.pow_succ]; omega
theorem fill_length (b : List UInt8) (k : Nat) : (fill b k).length = 64 := by simp [fill]
theorem fill_zero (b : List UInt8) : fill b 0 = List.replicate 64 0 := by
  apply List.ext_getElem (by simp [fill])
  intro i h1 h2
  rw [List.getElem_replicate]
  simp only [fill, List.getElem_map, List.getElem_range]
  rw [show min 4 (0 - 4 * i) = 0 by omega]
  rfl
theorem fill_get (b : List UInt8) (k j : Nat) (hj : j < 64) : (fill b k).getD j 0 = UInt32.ofNat (part b j (min 4 (k - 4 * j))) := by
  simp [fill, hj]
theorem fill_succ (b : List UInt8) (k : Nat) (hk : k < 64) : fill b (k + 1) = (fill b k).set (k / 4) (UInt32.ofNat (part b (k / 4) (k % 4) * 256 + (b.getD k 0).toNat)) := by
  apply List.ext_getElem (by simp [fill])
  intro i h1 h2
  simp only [fill, List.length_map, List.length_range] at h1
  rw [List.getElem_set]
  simp only [fill, List.getElem_map, List.getElem_range]
  split
  · rename_i h
    subst h
    rw [show min 4 (k + 1 - 4 * (k / 4)) = k % 4 + 1 by omega]
    simp only [part]
    rw [show 4 * (k / 4) + k % 4 = k by omega]
  · rename_i h
    rw [show min 4 (k + 1 - 4 * i) = min 4 (k - 4 * i) by omega]
theorem fill_full (b : List UInt8) : fill b 64 = words b ++ List.replicate 48 0 := by
  apply List.ext_getElem (by simp [fill, words])
  intro i h1 h2
  simp only [fill, List.length_map, List.length_range] at h1
  simp only [fill, List.getElem_map, List.getElem_range, List.getElem_append]
  split
  · rename_i h
    simp only [words, List.length_map, List.length_range] at h
    rw [show min 4 (64 - 4 * i) = 4 by omega]
    simp [words, word, part]
  · rename_i h
    simp only [words, List.length_map, List.length_range] at h
    rw [show min 4 (64 - 4 * i) = 0 by omega, List.getElem_replicate]
    rfl
theorem words_length (b : List UInt8) : (words b).length = 16 := by simp [words]
theorem grow_length (w : List UInt32) (n : Nat) : (grow w n).length = w.length + n := by
  induction n with
  | zero => rfl
  | succ n ih => simp [grow, ih]; omega
/-- The array when t words are there (t from 16 on). -/
def grown (b : List UInt8) (t : Nat) : List UInt32 := grow (words b) (t - 16) ++ List.replicate (64 - t) 0
theorem grown_length (b : List UInt8) (t : Nat) (h : 16 ≤ t) (h2 : t ≤ 64) : (grown b t).length = 64 := by
  simp [grown, grow_length, words_length]; omega
theorem grown_first (b : List UInt8) : fill b 64 = grown b 16 := fill_full b
theorem grown_last (b : List UInt8) : grown b 64 = spread b := by simp [grown, spread]
theorem grown_get (b : List UInt8) (t i : Nat) (ht : 16 ≤ t) (hi : i < t) : (grown b t).getD i 0 = (grow (words b) (t - 16)).getD i 0 := by
  have : i < (grow (words b) (t - 16)).length := by simp [grow_length, words_length]; omega
  simp only [grown, List.getD_eq_getElem?_getD]
  rw [List.getElem?_append_left this]
theorem grown_succ (b : List UInt8) (t : Nat) (ht : 16 ≤ t) (ht2 : t < 64) :
    grown b (t + 1) = (grown b t).set t ((grown b t).getD (t - 16) 0 + (grown b t).getD (t - 7) 0 + low ((grown b t).getD (t - 15) 0) + high ((grown b t).getD (t - 2) 0)) := by
  rw [grown_get b t _ ht (by omega), grown_get b t _ ht (by omega), grown_get b t _ ht (by omega), grown_get b t _ ht (by omega)]
  have hl : (grow (words b) (t - 16)).length = t := by simp [grow_length, words_length]; omega
  unfold grown
  rw [show t + 1 - 16 = (t - 16) + 1 by omega]
  simp only [grow]
  rw [show 16 + (t - 16) = t by omega, List.append_assoc, List.set_append_right _ _ (by omega), hl, show t - t = 0 by omega]
  congr 1
  rw [show 64 - t = (64 - (t + 1)) + 1 by omega, List.replicate_succ]
  simp [next]
theorem zeros_test (n j : Nat) (h : j < zeros n) : (n + 1 + j + 8) % 64 ≠ 0 := by unfold zeros at h; omega
theorem zeros_end (n : Nat) : (n + 1 + zeros n + 8) % 64 = 0 := by unfold zeros; omega
theorem padded_length (b : List UInt8) : (padded b).length = b.length + 9 + zeros b.length := by
  simp [padded, lenBytes]; omega
theorem padded_mod (b : List UInt8) : (padded b).length = 64 * ((padded b).length / 64) := by
  have := zeros_end b.length
  rw [padded_length]; omega
def foldB (all : List UInt8) (l : List Nat) : S8 := l.foldl (fun s x => after s ((all.drop (64 * x)).take 64)) first
theorem foldB_range (all : List UInt8) (m : Nat) : foldB all (List.range m) = over all m := by
  induction m with
  | zero => rfl
  | succ m ih => unfold foldB at *; rw [List.range_succ, List.foldl_append, ih]; rfl
theorem foldB_snoc (all : List UInt8) (l : List Nat) (x : Nat) : foldB all (l ++ [x]) = after (foldB all l) ((all.drop (64 * x)).take 64) := by
  unfold foldB; rw [List.foldl_append]; rfl
theorem out_length (s : S8) : (out s).length = 32 := by simp [out]
theorem out_set (s : S8) (k : Nat) (h : k < 32) : ((out s).take k ++ List.replicate (32 - k) 0).set k (UInt8.ofNat ((s.list.getD (k / 4) 0).toNat / 2 ^ (24 - 8 * (k % 4)))) = (out s).take (k + 1) ++ List.replicate (32 - (k + 1)) 0 := by
  have hl : ((out s).take k).length = k := by rw [List.length_take, out_length]; omega
  rw [List.set_append_right _ _ (by omega), hl, show k - k = 0 by omega, show 32 - k = (32 - (k + 1)) + 1 by omega, List.replicate_succ, List.set_cons_zero]
  rw [List.take_succ_eq_append_getElem (by rw [out_length]; exact h)]
  simp [out]
theorem lenBytes_take (n i : Nat) (h : i < 8) : (lenBytes n).take (i + 1) = (lenBytes n).take i ++ [UInt8.ofNat (8 * n / 2 ^ (56 - 8 * i))] := by
  rw [List.take_succ_eq_append_getElem (by simp [lenBytes]; omega)]
  simp [lenBytes]
end Sha
end Go.Proofs.YtmindblfbijaaaaDoor
